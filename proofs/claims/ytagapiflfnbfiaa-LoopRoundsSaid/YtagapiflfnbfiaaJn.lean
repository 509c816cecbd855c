/- Loops of dimensions: sums of chains, of the reference and of the program. No statement of the seat is proved here. -/
import Derived.Test.YtagapiflfnbfiaaJk
namespace Go.Proofs.Ytagapiflfnbfiaa
set_option linter.unusedVariables false
set_option linter.unusedSimpArgs false
open Go Go.RowKit
theorem takeL_succ {c : List Lk} {k : Nat} (h : k < c.length) : c.take (k + 1) = c.take k ++ [c.getD k lk0] := take_snocL h
def sgn (x : Lk) : Int := if x.bk = true then -1 else 1
theorem sgn_or (x : Lk) : sgn x = 1 ∨ sgn x = -1 := by
  unfold sgn; split <;> simp
def okL (l : List Dm) : Prop := ∀ i, i < l.length → -100000 ≤ (dat l i).lo ∧ (dat l i).lo ≤ (dat l i).hi ∧ (dat l i).hi ≤ 100000
theorem givenE_ok {l : List Dm} (h : givenE l = 0) : l.length ≤ 256 ∧ okL l := by
  unfold givenE at h
  split at h
  · exact absurd h (by decide)
  · refine ⟨by omega, fun i hi => ?_⟩
    exact valid0b (fstE0 _ _ h i (by omega) (by omega))
theorem chainE_ok {l : List Dm} {c : List Lk} (h : chainE l c = 0) : 0 < c.length ∧ c.length ≤ 256 ∧ ∀ i, i < c.length → stp l c i = 0 := by
  unfold chainE at h
  split at h
  · exact absurd h (by decide)
  · split at h
    · exact absurd h (by decide)
    · exact ⟨by omega, by omega, fun i hi => fstE0 _ _ h i (by omega) (by omega)⟩
theorem lpE_ok {l : List Dm} {c : List Lk} (h : lpE l c = 0) : (l.length ≤ 256 ∧ okL l) ∧ 0 < c.length ∧ c.length ≤ 256 ∧ (∀ i, i < c.length → stp l c i = 0) ∧ ∀ x ∈ c, inR l x := by
  unfold lpE at h
  split at h
  · exact absurd h (by assumption)
  · rename_i hg
    have h2 := chainE_ok h
    refine ⟨givenE_ok (Classical.not_not.1 hg), h2.1, h2.2.1, h2.2.2, fun x hx => ?_⟩
    obtain ⟨i, hi, rfl⟩ := List.mem_iff_getElem.1 hx
    have := stp_inR (h2.2.2 i hi)
    simpa [List.getD_eq_getElem?_getD, hi] using this
def addT (sh : List Int) (s : Int) (x : Lk) : Int := s + sgn x * sh.getD x.dm.toNat 0
def totE (sh : List Int) (c : List Lk) : Int := c.foldl (addT sh) 0
theorem totE_succ {sh : List Int} {c : List Lk} {k : Nat} (h : k < c.length) : totE sh (c.take (k + 1)) = totE sh (c.take k) + sgn (lat c k) * sh.getD (lat c k).dm.toNat 0 := by
  rw [takeL_succ h, totE, List.foldl_append]; rfl
def okS (sh : List Int) : Prop := ∀ i : Nat, -100000 ≤ sh.getD i 0 ∧ sh.getD i 0 ≤ 100000
theorem totE_le {sh : List Int} (hs : okS sh) {c : List Lk} : ∀ k : Nat, k ≤ c.length → -(100000 * (k : Int)) ≤ totE sh (c.take k) ∧ totE sh (c.take k) ≤ 100000 * (k : Int)
  | 0, _ => by simp [totE]
  | k + 1, h => by
    have ih := totE_le hs (c := c) k (by omega)
    have h1 := hs (lat c k).dm.toNat
    rw [totE_succ (by omega)]
    rcases sgn_or (lat c k) with e | e <;> rw [e] <;> omega
set_option maxRecDepth 100000 in
theorem e_rTotal : Ent Try.prog 38 := fun _ _ => rfl
set_option maxRecDepth 4000 in
set_option maxHeartbeats 2000000 in
theorem rTotal_c (B : Option Addr) (cB : Nat) (c : List Lk) (hc : c.length ≤ 9223372036854775807) (h256 : c.length ≤ 256) (C : Option Addr) (cC : Nat) (sh : List Int) (hsl : sh.length ≤ 9223372036854775807) (hsb : okS sh) (hr : ∀ j, j < c.length → 0 ≤ (lat c j).dm ∧ (lat c j).dm < sh.length) (w : World) (R2 : Rd w B 2 c.length (fun i => lkC (c.getD i lk0))) (R3 : Rd w C 1 sh.length (fun i => [.int .i64 (sh.getD i 0)])) : Calls Try.prog 38 #[.slice B c.length cB, .slice C sh.length cC] w (RetP (Val (.int .i64 (totE sh c)) w)) := by
  refine calls_of_cw (args := [.slice B c.length cB, .slice C sh.length cC]) Try.func38 rfl rfl ?_
  have S := Sat.start [] w
  have O2 := (R2).old
  have O3 := (R3).old
  (repeat' (first | apply cw_seq | apply cw_region | apply wl_nil | apply cw_block | (apply x_assign; exact rfl; exact rfl; (exact (by repeat' constructor)))))
  refine cw_loop [5, 6, 7, 8, 9, 10, 11, 12, 13, 14, 15, 16, 17, 18, 19, 20, 21, 22, 23, 24, 25, 26, 27, 28, 29, 30, 31, 32, 33, 34, 35, 36, 37] [5, 6] (fun us wr => ∃ k : Nat, k ≤ c.length ∧ us = [.int .i64 (totE sh (c.take k)), .int .i64 k] ∧ Sat w [] [] wr) (fun us _ => c.length - (intOf (us.getD 1 undef)).toNat) ?_ ?_
  · exact ⟨0, by omega, rfl, by assumption⟩
  clear S
  rintro g' us wr ⟨k, hk, rfl, Sr⟩
  by_cases hlt : k < c.length
  · have hx0 := hr k hlt
    have hx1 : 0 ≤ (c.getD k lk0).dm ∧ (c.getD k lk0).dm < sh.length := hx0
    have hle := totE_le hsb (c := c) k hk
    have hv := hsb (c.getD k lk0).dm.toNat
    (repeat' (first | apply cw_seq | apply cw_region | apply wl_nil | apply cw_block | apply cw_skip | (apply x_indexI (z := (c.getD k lk0).dm); exact rfl; exact rfl; exact rfl; exact rfl; exact rfl; (constructor); exact hx1.1; exact hx1.2; (exact (Old.rd O3).some_ (by omega))) | (apply x_loadR; exact rfl; exact rfl; exact rfl; exact Old.now O3 (by assumption); exact tlt hx1; exact rfl; exact rfl; (exact (by repeat' constructor))) | (apply x_move; exact rfl; exact rfl; (exact (by repeat' constructor))) | (apply x_assign; exact rfl; exact rfl; (exact (by repeat' constructor))) | (apply x_bin; exact rfl; exact rfl; exact rfl; (first | exact .z (.wrap (by omega)) | exact (by repeat' constructor))) | (apply x_builtin; exact rfl; exact rfl; exact (fun _ => rfl); (exact (by repeat' constructor))) | (apply x_fieldE; exact rfl; exact rfl; exact rfl; exact rfl; (constructor)) | (apply x_index; exact rfl; exact rfl; exact rfl; exact rfl; exact rfl; (constructor); (first | omega | exact size_pos (by assumption) | assumption); (first | exact rfl | assumption | exact Rd.some_ (by assumption) (by omega) | exact Rd.some_ (Old.rd (by assumption)) (by omega) | exact (Sat.rd (by assumption) (by exact (by repeat' constructor))).some_ (by omega))) | (apply x_loadR; exact rfl; exact rfl; exact rfl; (first | exact Old.now (by assumption) (by assumption) | exact Sat.rdpr (by assumption) (by exact (by repeat' constructor)) | exact Sat.rd (by assumption) (by exact (by repeat' constructor))); (first | omega | exact size_pos (by assumption) | assumption); exact rfl; exact rfl; (exact (by repeat' constructor))) | (apply x_dec; exact rfl; all_goals (intro _; try omega)) | (apply cw_cond; exact rfl; all_goals (intro _; try omega))))
    · have hs : sgn (lat c k) = -1 := if_pos (by assumption)
      refine ⟨rfl, (by repeat (first | exact Agree.updl rfl (Agree.mask _ _ _) | refine Agree.upd rfl ?_)), ⟨k + 1, hlt, ?_, by assumption⟩, ?_⟩
      · rw [totE_succ hlt, hs]
        have e : totE sh (c.take k) - sh.getD (c.getD k lk0).dm.toNat 0 = totE sh (c.take k) + -1 * sh.getD (c.getD k lk0).dm.toNat 0 := by omega
        rw [← e]; rfl
      · show c.length - (k + 1 : Int).toNat < c.length - (k : Int).toNat
        omega
    · have hs : sgn (lat c k) = 1 := if_neg (by first | assumption | exact Bool.eq_false_iff.mp (by assumption))
      refine ⟨rfl, (by repeat (first | exact Agree.updl rfl (Agree.mask _ _ _) | refine Agree.upd rfl ?_)), ⟨k + 1, hlt, ?_, by assumption⟩, ?_⟩
      · rw [totE_succ hlt, hs]
        have e : totE sh (c.take k) + sh.getD (c.getD k lk0).dm.toNat 0 = totE sh (c.take k) + 1 * sh.getD (c.getD k lk0).dm.toNat 0 := by omega
        rw [← e]; rfl
      · show c.length - (k + 1 : Int).toNat < c.length - (k : Int).toNat
        omega
  · (repeat' (first | apply cw_seq | apply cw_region | apply wl_nil | apply cw_exit | apply cw_ret | (apply x_move; exact rfl; exact rfl; (exact (by repeat' constructor))) | (apply x_assign; exact rfl; exact rfl; (exact (by repeat' constructor))) | (apply x_bin; exact rfl; exact rfl; exact rfl; (first | exact .z (.wrap (by omega)) | exact (by repeat' constructor))) | (apply x_builtin; exact rfl; exact rfl; exact (fun _ => rfl); (exact (by repeat' constructor))) | (apply x_dec; exact rfl; all_goals (intro _; try omega))))
    (first | refine q_retS (by assumption) rfl (by repeat (first | exact .nil | (apply RV.tmp; exact (by repeat' constructor)) | (apply RV.cell; exact rfl; exact (by repeat' constructor); exact rfl; exact rfl; exact (by repeat' constructor)))) ?_ | (simp only [thenQ, blockQ]; refine q_retS (by assumption) rfl (by repeat (first | exact .nil | (apply RV.tmp; exact (by repeat' constructor)) | (apply RV.cell; exact rfl; exact (by repeat' constructor); exact rfl; exact rfl; exact (by repeat' constructor)))) ?_))
    refine ⟨?_, Sat.keeps (by assumption)⟩
    rw [List.take_of_length_le (by omega)]
    rfl
noncomputable def sumL (l : List Dm) (c : List Lk) (sh : List Int) : Int × Int :=
  if ¬ lpE l c = 0 then (0, lpE l c) else if ¬ sh.length = l.length then (0, 8) else @ite _ (okS sh) (Classical.propDecidable _) (totE sh c, 0) (0, 2)
theorem sumL_no {l : List Dm} {c : List Lk} {sh : List Int} (h : ¬ lpE l c = 0) : sumL l c sh = (0, lpE l c) := if_pos h
theorem sumL_len {l : List Dm} {c : List Lk} {sh : List Int} (h : lpE l c = 0) (h2 : ¬ sh.length = l.length) : sumL l c sh = (0, 8) := by rw [sumL, if_neg (fun e => e h), if_pos h2]
theorem sumL_off {l : List Dm} {c : List Lk} {sh : List Int} (h : lpE l c = 0) (h2 : sh.length = l.length) (h3 : ¬ okS sh) : sumL l c sh = (0, 2) := by rw [sumL, if_neg (fun e => e h), if_neg (fun e => e h2), if_neg h3]
theorem sumL_yes {l : List Dm} {c : List Lk} {sh : List Int} (h : lpE l c = 0) (h2 : sh.length = l.length) (h3 : okS sh) : sumL l c sh = (totE sh c, 0) := by rw [sumL, if_neg (fun e => e h), if_neg (fun e => e h2), if_pos h3]
theorem okS_of {sh : List Int} (h : ∀ i, i < sh.length → -100000 ≤ sh.getD i 0 ∧ sh.getD i 0 ≤ 100000) : okS sh := by
  intro i
  by_cases hi : i < sh.length
  · exact h i hi
  · rw [List.getD_eq_getElem?_getD, List.getElem?_eq_none (by omega)]; simp
set_option maxRecDepth 100000 in
theorem e_Sum : Ent Try.prog 12 := fun _ _ => rfl
set_option maxRecDepth 8000 in
set_option maxHeartbeats 20000000 in
theorem Sum_c (A : Option Addr) (cA : Nat) (l : List Dm) (hl : l.length ≤ 9223372036854775807) (ho : ∀ i, i < l.length → (dat l i).ok) (B : Option Addr) (cB : Nat) (c : List Lk) (hc : c.length ≤ 9223372036854775807) (C : Option Addr) (cC : Nat) (sh : List Int) (hsl : sh.length ≤ 9223372036854775807) (w : World) (R : Rd w A 5 l.length (fun i => dmC (l.getD i dm0))) (R2 : Rd w B 2 c.length (fun i => lkC (c.getD i lk0))) (R3 : Rd w C 1 sh.length (fun i => [.int .i64 (sh.getD i 0)])) :
    Calls Try.prog 12 #[.slice A l.length cA, .slice B c.length cB, .slice C sh.length cC] w (RetP (Val (.tuple #[.int .i64 (sumL l c sh).1, .int .i64 (sumL l c sh).2]) w)) := by
  refine calls_of_cw (args := [.slice A l.length cA, .slice B c.length cB, .slice C sh.length cC]) Try.func12 rfl rfl ?_
  have S := Sat.start [] w
  have O := R.old
  have O2 := R2.old
  have O3 := R3.old
  by_cases he : lpE l c = 0
  · by_cases hn : sh.length = l.length
    · have hlp := lpE_ok he
      have h256 := hlp.2.2.1
      (repeat' (first | apply cw_seq | apply cw_region | apply wl_nil | apply cw_block | apply cw_skip | (apply x_callv; assumption; exact rfl; exact rfl; exact rfl; exact e_CheckL; (exact (by repeat' constructor)); with_reducible exact (CheckL_c A cA l hl ho B cB c hc _ (Old.now O (by assumption)) (Old.now O2 (by assumption))); intro _ _ _) | (apply x_move; exact rfl; exact rfl; (exact (by repeat' constructor))) | (apply x_assign; exact rfl; exact rfl; (exact (by repeat' constructor))) | (apply x_bin; exact rfl; exact rfl; exact rfl; (first | exact .z (.wrap (by omega)) | exact (by repeat' constructor))) | (apply x_builtin; exact rfl; exact rfl; exact (fun _ => rfl); (exact (by repeat' constructor))) | (apply cw_ne; exact rfl; all_goals (intro _; try omega))))
      all_goals first
        | (exfalso; omega)
        | skip
      rename_i S1 _ _
      refine cw_loop [6, 7, 10, 27, 28, 29, 30, 31, 32, 33, 34, 35, 36, 37] [27] (fun us wr => ∃ k : Nat, k ≤ sh.length ∧ us = [.int .i64 k] ∧ Sat w [] [] wr ∧ ∀ i, i < k → -100000 ≤ sh.getD i 0 ∧ sh.getD i 0 ≤ 100000) (fun us _ => sh.length - (intOf (us.getD 0 undef)).toNat) ?_ ?_
      · exact ⟨0, by omega, rfl, S1, fun i hi => by omega⟩
      clear S S1
      rintro g' us wr ⟨k, hk, rfl, Sr, hall⟩
      by_cases hlt : k < sh.length
      · (repeat' (first | apply cw_seq | apply cw_region | apply wl_nil | apply cw_block | apply cw_skip | apply cw_ret | (apply x_not; exact rfl; exact rfl) | (apply x_move; exact rfl; exact rfl; (exact (by repeat' constructor))) | (apply x_assign; exact rfl; exact rfl; (exact (by repeat' constructor))) | (apply x_bin; exact rfl; exact rfl; exact rfl; (first | exact .z (.wrap (by omega)) | exact (by repeat' constructor))) | (apply x_pick; exact rfl; exact rfl; exact rfl; (exact (by repeat' constructor))) | (apply x_index; exact rfl; exact rfl; exact rfl; exact rfl; exact rfl; (constructor); (first | omega | exact size_pos (by assumption) | assumption); (first | exact rfl | assumption | exact Rd.some_ (by assumption) (by omega) | exact Rd.some_ (Old.rd (by assumption)) (by omega) | exact (Sat.rd (by assumption) (by exact (by repeat' constructor))).some_ (by omega))) | (apply x_loadR; exact rfl; exact rfl; exact rfl; (first | exact Old.now (by assumption) (by assumption) | exact Sat.rdpr (by assumption) (by exact (by repeat' constructor)) | exact Sat.rd (by assumption) (by exact (by repeat' constructor))); (first | omega | exact size_pos (by assumption) | assumption); exact rfl; exact rfl; (exact (by repeat' constructor))) | (apply cw_true; exact rfl) | (apply x_dec; exact rfl; all_goals (intro _; try omega)) | (apply x_gdec; exact rfl; exact rfl; all_goals (intro _; try omega))))
        all_goals first
          | (rw [sumL_off he hn (fun h => by have h1 := h k; omega)]
             (first | refine q_retS (by assumption) rfl (by repeat (first | exact .nil | (apply RV.tmp; exact (by repeat' constructor)) | (apply RV.cell; exact rfl; exact (by repeat' constructor); exact rfl; exact rfl; exact (by repeat' constructor)))) ?_ | (simp only [thenQ, blockQ]; refine q_retS (by assumption) rfl (by repeat (first | exact .nil | (apply RV.tmp; exact (by repeat' constructor)) | (apply RV.cell; exact rfl; exact (by repeat' constructor); exact rfl; exact rfl; exact (by repeat' constructor)))) ?_))
             exact ⟨rfl, Sat.keeps (by assumption)⟩)
          | (refine ⟨rfl, (by repeat (first | exact Agree.updl rfl (Agree.mask _ _ _) | refine Agree.upd rfl ?_)), ⟨k + 1, hlt, rfl, by assumption, fun i hi => ?_⟩, ?_⟩
             · rcases Nat.lt_succ_iff_lt_or_eq.1 hi with hi | hi
               · exact hall i hi
               · rw [hi]; omega
             · show sh.length - (k + 1 : Int).toNat < sh.length - (k : Int).toNat
               omega)
      · have hsb : okS sh := okS_of fun i hi => hall i (by omega)
        rw [sumL_yes he hn hsb]
        (repeat' (first | apply cw_seq | apply cw_region | apply wl_nil | apply cw_block | apply cw_exit | (apply x_move; exact rfl; exact rfl; (exact (by repeat' constructor))) | (apply x_assign; exact rfl; exact rfl; (exact (by repeat' constructor))) | (apply x_bin; exact rfl; exact rfl; exact rfl; (first | exact .z (.wrap (by omega)) | exact (by repeat' constructor))) | (apply x_builtin; exact rfl; exact rfl; exact (fun _ => rfl); (exact (by repeat' constructor))) | (apply x_dec; exact rfl; all_goals (intro _; try omega))))
        refine cw_loop [11, 13, 40, 41, 42, 43, 44, 45, 46, 47, 48, 49, 50, 51, 52, 53, 54, 55, 56, 57, 58, 59, 60] [11, 40] (fun us wr => ∃ k : Nat, k ≤ c.length ∧ us = [.int .i64 (totE sh (c.take k)), .int .i64 k] ∧ Sat w [] [] wr) (fun us _ => c.length - (intOf (us.getD 1 undef)).toNat) ?_ ?_
        · exact ⟨0, by omega, rfl, Sr⟩
        clear Sr
        rintro g2 us2 wr2 ⟨k, hk, rfl, Sk⟩
        by_cases hlt : k < c.length
        · have hin : inR l (c.getD k lk0) := stp_inR (hlp.2.2.2.1 k hlt)
          have hx1 : 0 ≤ (c.getD k lk0).dm ∧ (c.getD k lk0).dm < sh.length := by rw [hn]; exact hin
          have hle := totE_le hsb (c := c) k hk
          have hv := hsb (c.getD k lk0).dm.toNat
          (repeat' (first | apply cw_seq | apply cw_region | apply wl_nil | apply cw_block | apply cw_skip | (apply x_indexI (z := (c.getD k lk0).dm); exact rfl; exact rfl; exact rfl; exact rfl; exact rfl; (constructor); exact hx1.1; exact hx1.2; (exact (Old.rd O3).some_ (by omega))) | (apply x_loadR; exact rfl; exact rfl; exact rfl; exact Old.now O3 (by assumption); exact tlt hx1; exact rfl; exact rfl; (exact (by repeat' constructor))) | (apply x_move; exact rfl; exact rfl; (exact (by repeat' constructor))) | (apply x_assign; exact rfl; exact rfl; (exact (by repeat' constructor))) | (apply x_fieldB; exact rfl; exact rfl; exact rfl; exact rfl; (constructor)) | (apply x_load; assumption; exact rfl; exact rfl; exact rfl; (exact (by repeat' constructor)); exact rfl; exact rfl; (exact (by repeat' constructor))) | (apply x_bin; exact rfl; exact rfl; exact rfl; (first | exact .z (.wrap (by omega)) | exact (by repeat' constructor))) | (apply x_alloc; assumption; exact rfl; exact rfl; exact rfl; (exact (by repeat' constructor)); intro _ _ _) | (apply x_store; assumption; exact rfl; exact rfl; (exact (by repeat' constructor)); (exact (by repeat' constructor)); exact rfl; exact rfl; exact rfl; (exact (by repeat' constructor)); intro _ _) | (apply x_index; exact rfl; exact rfl; exact rfl; exact rfl; exact rfl; (constructor); (first | omega | exact size_pos (by assumption) | assumption); (first | exact rfl | assumption | exact Rd.some_ (by assumption) (by omega) | exact Rd.some_ (Old.rd (by assumption)) (by omega) | exact (Sat.rd (by assumption) (by exact (by repeat' constructor))).some_ (by omega))) | (apply x_loadR; exact rfl; exact rfl; exact rfl; (first | exact Old.now (by assumption) (by assumption) | exact Sat.rdpr (by assumption) (by exact (by repeat' constructor)) | exact Sat.rd (by assumption) (by exact (by repeat' constructor))); (first | omega | exact size_pos (by assumption) | assumption); exact rfl; exact rfl; (exact (by repeat' constructor))) | (apply x_dec; exact rfl; all_goals (intro _; try omega)) | (apply cw_cond; exact rfl; all_goals (intro _; try omega))))
          · have hs : sgn (lat c k) = -1 := if_pos (by assumption)
            refine ⟨rfl, (by repeat (first | exact Agree.updl rfl (Agree.mask _ _ _) | refine Agree.upd rfl ?_)), ⟨k + 1, hlt, ?_, Sat.drop1 (by assumption)⟩, ?_⟩
            · rw [totE_succ hlt, hs]
              have e : totE sh (c.take k) - sh.getD (c.getD k lk0).dm.toNat 0 = totE sh (c.take k) + -1 * sh.getD (c.getD k lk0).dm.toNat 0 := by omega
              rw [← e]; rfl
            · show c.length - (k + 1 : Int).toNat < c.length - (k : Int).toNat
              omega
          · have hs : sgn (lat c k) = 1 := if_neg (by first | assumption | exact Bool.eq_false_iff.mp (by assumption))
            refine ⟨rfl, (by repeat (first | exact Agree.updl rfl (Agree.mask _ _ _) | refine Agree.upd rfl ?_)), ⟨k + 1, hlt, ?_, Sat.drop1 (by assumption)⟩, ?_⟩
            · rw [totE_succ hlt, hs]
              have e : totE sh (c.take k) + sh.getD (c.getD k lk0).dm.toNat 0 = totE sh (c.take k) + 1 * sh.getD (c.getD k lk0).dm.toNat 0 := by omega
              rw [← e]; rfl
            · show c.length - (k + 1 : Int).toNat < c.length - (k : Int).toNat
              omega
        · (repeat' (first | apply cw_seq | apply cw_region | apply wl_nil | apply cw_exit | apply cw_ret | (apply x_move; exact rfl; exact rfl; (exact (by repeat' constructor))) | (apply x_assign; exact rfl; exact rfl; (exact (by repeat' constructor))) | (apply x_bin; exact rfl; exact rfl; exact rfl; (first | exact .z (.wrap (by omega)) | exact (by repeat' constructor))) | (apply x_dec; exact rfl; all_goals (intro _; try omega))))
          (first | refine q_retS (by assumption) rfl (by repeat (first | exact .nil | (apply RV.tmp; exact (by repeat' constructor)) | (apply RV.cell; exact rfl; exact (by repeat' constructor); exact rfl; exact rfl; exact (by repeat' constructor)))) ?_ | (simp only [thenQ, blockQ]; refine q_retS (by assumption) rfl (by repeat (first | exact .nil | (apply RV.tmp; exact (by repeat' constructor)) | (apply RV.cell; exact rfl; exact (by repeat' constructor); exact rfl; exact rfl; exact (by repeat' constructor)))) ?_))
          refine ⟨?_, Sat.keeps (by assumption)⟩
          rw [List.take_of_length_le (by omega)]
          rfl
    · rw [sumL_len he hn]
      (repeat' (first | apply cw_seq | apply cw_region | apply wl_nil | apply cw_skip | apply cw_ret | (apply x_callv; assumption; exact rfl; exact rfl; exact rfl; exact e_CheckL; (exact (by repeat' constructor)); with_reducible exact (CheckL_c A cA l hl ho B cB c hc _ (Old.now O (by assumption)) (Old.now O2 (by assumption))); intro _ _ _) | (apply x_move; exact rfl; exact rfl; (exact (by repeat' constructor))) | (apply x_assign; exact rfl; exact rfl; (exact (by repeat' constructor))) | (apply x_bin; exact rfl; exact rfl; exact rfl; (first | exact .z (.wrap (by omega)) | exact (by repeat' constructor))) | (apply x_builtin; exact rfl; exact rfl; exact (fun _ => rfl); (exact (by repeat' constructor))) | (apply cw_ne; exact rfl; all_goals (intro _; try omega))))
      all_goals first
        | (exfalso; omega)
        | ((first | refine q_retS (by assumption) rfl (by repeat (first | exact .nil | (apply RV.tmp; exact (by repeat' constructor)) | (apply RV.cell; exact rfl; exact (by repeat' constructor); exact rfl; exact rfl; exact (by repeat' constructor)))) ?_ | (simp only [thenQ, blockQ]; refine q_retS (by assumption) rfl (by repeat (first | exact .nil | (apply RV.tmp; exact (by repeat' constructor)) | (apply RV.cell; exact rfl; exact (by repeat' constructor); exact rfl; exact rfl; exact (by repeat' constructor)))) ?_))
           exact ⟨rfl, Sat.keeps (by assumption)⟩)
  · rw [sumL_no he]
    (repeat' (first | apply cw_seq | apply cw_region | apply wl_nil | apply cw_ret | (apply x_callv; assumption; exact rfl; exact rfl; exact rfl; exact e_CheckL; (exact (by repeat' constructor)); with_reducible exact (CheckL_c A cA l hl ho B cB c hc _ (Old.now O (by assumption)) (Old.now O2 (by assumption))); intro _ _ _) | (apply x_move; exact rfl; exact rfl; (exact (by repeat' constructor))) | (apply x_assign; exact rfl; exact rfl; (exact (by repeat' constructor))) | (apply x_bin; exact rfl; exact rfl; exact rfl; (first | exact .z (.wrap (by omega)) | exact (by repeat' constructor))) | (apply cw_ne; exact rfl; all_goals (intro _; try omega))))
    all_goals first
      | (exfalso; omega)
      | ((first | refine q_retS (by assumption) rfl (by repeat (first | exact .nil | (apply RV.tmp; exact (by repeat' constructor)) | (apply RV.cell; exact rfl; exact (by repeat' constructor); exact rfl; exact rfl; exact (by repeat' constructor)))) ?_ | (simp only [thenQ, blockQ]; refine q_retS (by assumption) rfl (by repeat (first | exact .nil | (apply RV.tmp; exact (by repeat' constructor)) | (apply RV.cell; exact rfl; exact (by repeat' constructor); exact rfl; exact rfl; exact (by repeat' constructor)))) ?_))
         exact ⟨rfl, Sat.keeps (by assumption)⟩)
end Go.Proofs.Ytagapiflfnbfiaa
