/- Loops of dimensions: few dimensions, right ones, chains as those of the reference, ends. No statement of the seat is proved here. -/
import Derived.Test.YtagapiflfnbfiaaJq
import Derived.Test.YtagapiflfnbfiaaJo
import Derived.Test.YtagapiflfnbfiaaEngP
namespace Go.Proofs.Ytagapiflfnbfiaa
set_option linter.unusedVariables false
set_option linter.unusedSimpArgs false
open Go Go.RowKit
/-! ### few -/
def fewP (l : List Dm) : Prop := (∀ i, i < l.length → i < 20 → (dat l i).fr.size ≤ 100 ∧ (dat l i).to.size ≤ 100) ∧ (l.length ≤ 6 ∨ (256 < l.length ∧ l.length ≤ 512) ∨ (l.length ≤ 20 ∧ ¬ givenE l = 0))
noncomputable def fewB (l : List Dm) : Bool := @decide (fewP l) (Classical.propDecidable _)
theorem fewB_no {l : List Dm} (h : ¬ fewP l) : fewB l = false := by simp [fewB, h]
theorem fewB_yes {l : List Dm} (h : fewP l) : fewB l = true := by simp [fewB, h]
theorem fewB_iff {l : List Dm} : fewB l = true ↔ fewP l := by simp [fewB]
set_option maxRecDepth 100000 in
theorem e_rFew24 : Ent Try.prog 10 := fun _ _ => rfl
set_option maxRecDepth 4000 in
set_option maxHeartbeats 2000000 in
theorem rFew24_c (A : Option Addr) (cA : Nat) (l : List Dm) (hl : l.length ≤ 9223372036854775807) (ho : ∀ i, i < l.length → (dat l i).ok) (w : World) (R : Rd w A 5 l.length (fun i => dmC (l.getD i dm0))) : Calls Try.prog 10 #[.slice A l.length cA] w (RetP (Val (.bool (fewB l)) w)) := by
  refine calls_of_cw (args := [.slice A l.length cA]) Try.func10 rfl rfl ?_
  have S := Sat.start [] w
  have O := (R).old
  (repeat' (first | apply cw_seq | apply cw_region | apply wl_nil | apply cw_block | (apply x_assign; exact rfl; exact rfl; (exact (by repeat' constructor)))))
  refine cw_loop [2, 3, 4, 5, 6, 7, 8, 9, 10, 11, 12, 13, 14, 15, 16, 17, 18, 19, 20, 21, 22, 23, 24, 25, 26, 27, 28, 29] [3] (fun us wr => ∃ k : Nat, k ≤ l.length ∧ k ≤ 20 ∧ us = [.int .i64 k] ∧ (∀ i, i < k → (dat l i).fr.size ≤ 100 ∧ (dat l i).to.size ≤ 100) ∧ Sat w [] [] wr) (fun us _ => l.length - (intOf (us.getD 0 undef)).toNat) ?_ ?_
  · exact ⟨0, by omega, by omega, rfl, fun i hi => by omega, S⟩
  clear S
  rintro g' us wr ⟨k, hk, hk20, rfl, hall, Sr⟩
  by_cases hlt : k < l.length ∧ k < 20
  · obtain ⟨hlt, h20⟩ := hlt
    have hok := ho k hlt
    (repeat' (first | apply cw_seq | apply cw_region | apply wl_nil | apply cw_block | apply cw_skip | apply cw_ret | (apply x_not; exact rfl; exact rfl) | (apply x_move; exact rfl; exact rfl; (exact (by repeat' constructor))) | (apply x_assign; exact rfl; exact rfl; (exact (by repeat' constructor))) | (apply x_bin; exact rfl; exact rfl; exact rfl; (first | exact .z (.wrap (by omega)) | exact (by repeat' constructor))) | (apply x_pick; exact rfl; exact rfl; exact rfl; (exact (by repeat' constructor))) | (apply x_builtin; exact rfl; exact rfl; exact (fun _ => rfl); (exact (by repeat' constructor))) | (apply x_fieldE; exact rfl; exact rfl; exact rfl; exact rfl; (constructor)) | (apply x_index; exact rfl; exact rfl; exact rfl; exact rfl; exact rfl; (constructor); (first | omega | exact size_pos (by assumption) | assumption); (first | exact rfl | assumption | exact Rd.some_ (by assumption) (by omega) | exact Rd.some_ (Old.rd (by assumption)) (by omega) | exact (Sat.rd (by assumption) (by exact (by repeat' constructor))).some_ (by omega))) | (apply x_loadR; exact rfl; exact rfl; exact rfl; (first | exact Old.now (by assumption) (by assumption) | exact Sat.rdpr (by assumption) (by exact (by repeat' constructor)) | exact Sat.rd (by assumption) (by exact (by repeat' constructor))); (first | omega | exact size_pos (by assumption) | assumption); exact rfl; exact rfl; (exact (by repeat' constructor))) | (apply cw_true; exact rfl) | (apply x_dec; exact rfl; all_goals (intro _; try omega)) | (apply x_gdec; exact rfl; exact rfl; all_goals (intro _; try omega))))
    all_goals first
      | ((first | refine q_retS (by assumption) rfl (by repeat (first | exact .nil | (apply RV.tmp; exact (by repeat' constructor)) | (apply RV.cell; exact rfl; exact (by repeat' constructor); exact rfl; exact rfl; exact (by repeat' constructor)))) ?_ | (simp only [thenQ, blockQ]; refine q_retS (by assumption) rfl (by repeat (first | exact .nil | (apply RV.tmp; exact (by repeat' constructor)) | (apply RV.cell; exact rfl; exact (by repeat' constructor); exact rfl; exact rfl; exact (by repeat' constructor)))) ?_))
         refine ⟨?_, Sat.keeps (by assumption)⟩
         rw [fewB_no (by rintro ⟨h1, _⟩; have h2 : (l.getD k dm0).fr.size ≤ 100 ∧ (l.getD k dm0).to.size ≤ 100 := h1 k hlt h20; omega)]
         rfl)
      | (refine ⟨rfl, (by repeat (first | exact Agree.updl rfl (Agree.mask _ _ _) | refine Agree.upd rfl ?_)), ⟨k + 1, hlt, h20, rfl, fun i hi => ?_, by assumption⟩, ?_⟩
         · rcases Nat.lt_succ_iff_lt_or_eq.1 hi with hi | hi
           · exact hall i hi
           · rw [hi]; show (l.getD k dm0).fr.size ≤ 100 ∧ (l.getD k dm0).to.size ≤ 100; omega
         · show l.length - (k + 1 : Int).toNat < l.length - (k : Int).toNat
           omega)
  · have hend : ∀ i, i < l.length → i < 20 → (dat l i).fr.size ≤ 100 ∧ (dat l i).to.size ≤ 100 := fun i h1 h2 => hall i (by omega)
    by_cases hgv : givenE l = 0
    all_goals
      (repeat' (first | apply cw_seq | apply cw_region | apply wl_nil | apply cw_exit | apply cw_ret | (apply x_callv; assumption; exact rfl; exact rfl; exact rfl; exact e_rGiven; (exact (by repeat' constructor)); with_reducible exact (rGiven_c A cA l hl ho _ (Old.now O (by assumption))); intro _ _ _) | (apply x_not; exact rfl; exact rfl) | (apply x_move; exact rfl; exact rfl; (exact (by repeat' constructor))) | (apply x_assign; exact rfl; exact rfl; (exact (by repeat' constructor))) | (apply x_bin; exact rfl; exact rfl; exact rfl; (first | exact .z (.wrap (by omega)) | exact (by repeat' constructor))) | (apply x_pick; exact rfl; exact rfl; exact rfl; (exact (by repeat' constructor))) | (apply x_builtin; exact rfl; exact rfl; exact (fun _ => rfl); (exact (by repeat' constructor))) | (apply cw_false; exact rfl) | (apply x_dec; exact rfl; all_goals (intro _; try omega)) | (apply x_gdec; exact rfl; exact rfl; all_goals (intro _; try omega))))
      all_goals (first | refine q_retS (by assumption) rfl (by repeat (first | exact .nil | (apply RV.tmp; exact (by repeat' constructor)) | (apply RV.cell; exact rfl; exact (by repeat' constructor); exact rfl; exact rfl; exact (by repeat' constructor)))) ?_ | (simp only [thenQ, blockQ]; refine q_retS (by assumption) rfl (by repeat (first | exact .nil | (apply RV.tmp; exact (by repeat' constructor)) | (apply RV.cell; exact rfl; exact (by repeat' constructor); exact rfl; exact rfl; exact (by repeat' constructor)))) ?_))
      all_goals refine ⟨?_, Sat.keeps (by assumption)⟩
      all_goals show Value.bool _ = Value.bool (fewB l)
      all_goals first
        | (rw [fewB_yes ⟨hend, by omega⟩]; done)
        | (rw [fewB_yes ⟨hend, by omega⟩]; simp [hgv]; done)
        | (rw [fewB_no (by rintro ⟨_, h⟩; omega)]; done)
        | (rw [fewB_no (by rintro ⟨_, h⟩; omega)]; simp [hgv]; done)
/-! ### right -/
def rigP (l : List Dm) : Prop := l.length ≤ 6 ∧ fewP l ∧ givenE l = 0
noncomputable def rigB (l : List Dm) : Bool := @decide (rigP l) (Classical.propDecidable _)
theorem rigB_yes {l : List Dm} (h : rigP l) : rigB l = true := by simp [rigB, h]
theorem rigB_no {l : List Dm} (h : ¬ rigP l) : rigB l = false := by simp [rigB, h]
theorem rigB_iff {l : List Dm} : rigB l = true ↔ rigP l := by simp [rigB]
set_option maxRecDepth 100000 in
theorem e_right : Ent Try.prog 24 := fun _ _ => rfl
set_option maxRecDepth 4000 in
set_option maxHeartbeats 20000000 in
theorem right_c (A : Option Addr) (cA : Nat) (l : List Dm) (hl : l.length ≤ 9223372036854775807) (ho : ∀ i, i < l.length → (dat l i).ok) (w : World) (R : Rd w A 5 l.length (fun i => dmC (l.getD i dm0))) : Calls Try.prog 24 #[.slice A l.length cA] w (RetP (Val (.bool (rigB l)) w)) := by
  refine calls_of_cw (args := [.slice A l.length cA]) Try.func24 rfl rfl ?_
  have S := Sat.start [] w
  have O := (R).old
  (repeat' (first | apply cw_seq | apply cw_region | apply wl_nil | apply cw_ret | (apply x_callv; assumption; exact rfl; exact rfl; exact rfl; exact e_rFew24; (exact (by repeat' constructor)); with_reducible exact (rFew24_c A cA l hl ho _ (Old.now O (by assumption))); intro _ _ _) | (apply x_callv; assumption; exact rfl; exact rfl; exact rfl; exact e_rGiven; (exact (by repeat' constructor)); with_reducible exact (rGiven_c A cA l hl ho _ (Old.now O (by assumption))); intro _ _ _) | (apply x_not; exact rfl; exact rfl) | (apply x_move; exact rfl; exact rfl; (exact (by repeat' constructor))) | (apply x_assign; exact rfl; exact rfl; (exact (by repeat' constructor))) | (apply x_bin; exact rfl; exact rfl; exact rfl; (first | exact .z (.wrap (by omega)) | exact (by repeat' constructor))) | (apply x_pick; exact rfl; exact rfl; exact rfl; (exact (by repeat' constructor))) | (apply x_builtin; exact rfl; exact rfl; exact (fun _ => rfl); (exact (by repeat' constructor))) | (apply x_gdec; exact rfl; exact rfl; all_goals (intro _; try omega))))
  all_goals (first | refine q_retS (by assumption) rfl (by repeat (first | exact .nil | (apply RV.tmp; exact (by repeat' constructor)) | (apply RV.cell; exact rfl; exact (by repeat' constructor); exact rfl; exact rfl; exact (by repeat' constructor)))) ?_ | (simp only [thenQ, blockQ]; refine q_retS (by assumption) rfl (by repeat (first | exact .nil | (apply RV.tmp; exact (by repeat' constructor)) | (apply RV.cell; exact rfl; exact (by repeat' constructor); exact rfl; exact rfl; exact (by repeat' constructor)))) ?_))
  all_goals refine ⟨?_, Sat.keeps (by assumption)⟩
  · by_cases hs : givenE l = 0
    · rw [rigB_yes ⟨by omega, (by assumption), hs⟩]; simp [pack, hs]
    · rw [rigB_no (fun h => hs h.2.2)]; simp [pack, hs]
  · rw [rigB_no (fun h => absurd h.2.1 (by assumption))]; rfl
  · rw [rigB_no (fun h => by have := h.1; omega)]; rfl
/-! ### chains as those of the reference -/
set_option maxRecDepth 100000 in
theorem e_own : Ent Try.prog 14 := fun _ _ => rfl
set_option maxRecDepth 4000 in
set_option maxHeartbeats 2000000 in
theorem own_c (B : Option Addr) (cB : Nat) (c : List Lk) (hc : c.length ≤ 9223372036854775807) (hz : c.length * 16 ≤ reachBytes) (w : World) (R2 : Rd w B 2 c.length (fun i => lkC (c.getD i lk0))) : Calls Try.prog 14 #[.slice B c.length cB] w (RetP (RowR (fun v => v) 75 2 (c.map lkC) w)) := by
  refine calls_of_cw (args := [.slice B c.length cB]) Try.func14 rfl rfl ?_
  have S := Sat.start [] w
  have O2 := (R2).old
  (repeat' (first | apply cw_seq | apply cw_region | apply wl_nil | apply cw_block | (apply x_move; exact rfl; exact rfl; (exact (by repeat' constructor))) | (apply x_assign; exact rfl; exact rfl; (exact (by repeat' constructor))) | (apply x_builtin; exact rfl; exact rfl; exact (fun _ => rfl); (exact (by repeat' constructor)))))
  refine cw_loop [3, 5, 8, 9, 10, 11, 12, 13, 14, 15, 16] [3, 8] (fun us wr => ∃ (k : Nat) (A' : Option Addr) (c' : Nat), k ≤ c.length ∧ us = [.slice A' k c', .int .i64 k] ∧ Sat w [] [.rw 0 (.slice A' k c') 75 2 ((c.take k).map lkC)] wr) (fun us _ => c.length - (intOf (us.getD 1 undef)).toNat) ?_ ?_
  · exact ⟨0, none, 0, by omega, rfl, S.addNil _ _⟩
  clear S
  rintro g' us wr ⟨k, A', c', hk, rfl, Sr⟩
  by_cases hlt : k < c.length
  · have hkl : ((c.take k).map lkC).length = k := by simp; omega
    have hb : (((c.take k).map lkC).length + 1) * 16 ≤ reachBytes := Nat.le_trans (Nat.mul_le_mul_right 16 (by omega)) hz
    (repeat' (first | apply cw_seq | apply cw_region | apply wl_nil | apply cw_block | apply cw_skip | (apply x_append1B; assumption; exact rfl; exact rfl; exact rfl; exact rfl; exact rfl; (exact (by repeat' constructor)); (exact (by repeat' constructor)); exact rfl; exact rfl; exact rfl; exact hb; intro _ _ _ _) | (apply x_move; exact rfl; exact rfl; (exact (by repeat' constructor))) | (apply x_assign; exact rfl; exact rfl; (exact (by repeat' constructor))) | (apply x_load; assumption; exact rfl; exact rfl; exact rfl; (exact (by repeat' constructor)); exact rfl; exact rfl; (exact (by repeat' constructor))) | (apply x_bin; exact rfl; exact rfl; exact rfl; (first | exact .z (.wrap (by omega)) | exact (by repeat' constructor))) | (apply x_alloc; assumption; exact rfl; exact rfl; exact rfl; (exact (by repeat' constructor)); intro _ _ _) | (apply x_store; assumption; exact rfl; exact rfl; (exact (by repeat' constructor)); (exact (by repeat' constructor)); exact rfl; exact rfl; exact rfl; (exact (by repeat' constructor)); intro _ _) | (apply x_buildSlice; assumption; exact rfl; exact rfl; exact rfl; (exact (by repeat' constructor)); intro _ _ _) | (apply x_index; exact rfl; exact rfl; exact rfl; exact rfl; exact rfl; (constructor); (first | omega | exact size_pos (by assumption) | assumption); (first | exact rfl | assumption | exact Rd.some_ (by assumption) (by omega) | exact Rd.some_ (Old.rd (by assumption)) (by omega) | exact (Sat.rd (by assumption) (by exact (by repeat' constructor))).some_ (by omega))) | (apply x_loadR; exact rfl; exact rfl; exact rfl; (first | exact Old.now (by assumption) (by assumption) | exact Sat.rdpr (by assumption) (by exact (by repeat' constructor)) | exact Sat.rd (by assumption) (by exact (by repeat' constructor))); (first | omega | exact size_pos (by assumption) | assumption); exact rfl; exact rfl; (exact (by repeat' constructor))) | (apply x_dec; exact rfl; all_goals (intro _; try omega))))
    rename_i g1 cap1 w2 S2
    have hk2 : ((c.take k).map lkC).length + 1 = k + 1 := by omega
    rw [hk2] at S2
    refine ⟨rfl, (by repeat (first | exact Agree.updl rfl (Agree.mask _ _ _) | refine Agree.upd rfl ?_)), ⟨k + 1, some ⟨g1, 0, none⟩, cap1, hlt, (by rw [hkl]; rfl), ?_⟩, ?_⟩
    · rw [takeL_succ hlt, List.map_append]
      exact Sat.drop2 S2
    · show c.length - (k + 1 : Int).toNat < c.length - (k : Int).toNat
      omega
  · have e : k = c.length := by omega
    subst e
    (repeat' (first | apply cw_seq | apply cw_region | apply wl_nil | apply cw_exit | apply cw_ret | (apply x_move; exact rfl; exact rfl; (exact (by repeat' constructor))) | (apply x_assign; exact rfl; exact rfl; (exact (by repeat' constructor))) | (apply x_bin; exact rfl; exact rfl; exact rfl; (first | exact .z (.wrap (by omega)) | exact (by repeat' constructor))) | (apply x_dec; exact rfl; all_goals (intro _; try omega))))
    (first | refine q_retS (by assumption) rfl (by repeat (first | exact .nil | (apply RV.tmp; exact (by repeat' constructor)) | (apply RV.cell; exact rfl; exact (by repeat' constructor); exact rfl; exact rfl; exact (by repeat' constructor)))) ?_ | (simp only [thenQ, blockQ]; refine q_retS (by assumption) rfl (by repeat (first | exact .nil | (apply RV.tmp; exact (by repeat' constructor)) | (apply RV.cell; exact rfl; exact (by repeat' constructor); exact rfl; exact rfl; exact (by repeat' constructor)))) ?_))
    rw [List.take_length] at Sr
    exact rowR_n (V := fun v => v) (List.length_map _).symm Sr .head
/-! ### ends -/
noncomputable def endL (l : List Dm) (c : List Lk) : (ByteArray × ByteArray) × Int := if lpE l c = 0 then ((begE l (lat c 0), stoE l (lat c (c.length - 1))), 0) else ((⟨#[]⟩, ⟨#[]⟩), lpE l c)
theorem endL_yes {l : List Dm} {c : List Lk} (h : lpE l c = 0) : endL l c = ((begE l (lat c 0), stoE l (lat c (c.length - 1))), 0) := if_pos h
theorem endL_no {l : List Dm} {c : List Lk} (h : ¬ lpE l c = 0) : endL l c = ((⟨#[]⟩, ⟨#[]⟩), lpE l c) := if_neg h
set_option maxRecDepth 100000 in
theorem e_Ends : Ent Try.prog 30 := fun _ _ => rfl
set_option maxRecDepth 8000 in
set_option maxHeartbeats 20000000 in
theorem Ends_c (A : Option Addr) (cA : Nat) (l : List Dm) (hl : l.length ≤ 9223372036854775807) (ho : ∀ i, i < l.length → (dat l i).ok) (B : Option Addr) (cB : Nat) (c : List Lk) (hc : c.length ≤ 9223372036854775807) (w : World) (R : Rd w A 5 l.length (fun i => dmC (l.getD i dm0))) (R2 : Rd w B 2 c.length (fun i => lkC (c.getD i lk0))) :
    Calls Try.prog 30 #[.slice A l.length cA, .slice B c.length cB] w (RetP (Val (.tuple #[.string (endL l c).1.1, .string (endL l c).1.2, .int .i64 (endL l c).2]) w)) := by
  refine calls_of_cw (args := [.slice A l.length cA, .slice B c.length cB]) Try.func30 rfl rfl ?_
  have S := Sat.start [] w
  have O := R.old
  have O2 := R2.old
  by_cases he : lpE l c = 0
  · have hp := lpE_ok he
    have h0 : (0 : Nat) < c.length := hp.2.1
    have h1 : c.length - 1 < c.length := by omega
    have hi0 : inR l (c.getD 0 lk0) := stp_inR (hp.2.2.2.1 0 h0)
    have hi1 : inR l (c.getD (c.length - 1) lk0) := stp_inR (hp.2.2.2.1 (c.length - 1) h1)
    have hz1 : ((c.length : Int) - 1).toNat = c.length - 1 := by omega
    have hzl : ((c.length : Int) - 1).toNat < c.length := by omega
    rw [endL_yes he, ← hz1]
    rw [← hz1] at hi1
    (repeat' (first | apply cw_seq | apply cw_region | apply wl_nil | apply cw_skip | apply cw_ret | (apply x_indexI (z := (c.length : Int) - 1); exact rfl; exact rfl; exact rfl; exact rfl; exact rfl; (constructor); (exact (by omega)); (exact (by omega)); (exact (Old.rd O2).some_ (by omega))) | (apply x_loadR; exact rfl; exact rfl; exact rfl; exact Old.now O2 (by assumption); exact hzl; exact rfl; exact rfl; (exact (by repeat' constructor))) | (apply x_callv; assumption; exact rfl; exact rfl; exact rfl; exact e_CheckL; (exact (by repeat' constructor)); with_reducible exact (CheckL_c A cA l hl ho B cB c hc _ (Old.now O (by assumption)) (Old.now O2 (by assumption))); intro _ _ _) | (apply x_callv; assumption; exact rfl; exact rfl; exact rfl; exact e_ends; (exact (by repeat' constructor)); with_reducible exact (ends_c A cA l hl ho _ hi0 _ (Old.now O (by assumption))); intro _ _ _) | (apply x_callv; assumption; exact rfl; exact rfl; exact rfl; exact e_ends; (exact (by repeat' constructor)); with_reducible exact (ends_c A cA l hl ho _ hi1 _ (Old.now O (by assumption))); intro _ _ _) | (apply x_move; exact rfl; exact rfl; (exact (by repeat' constructor))) | (apply x_assign; exact rfl; exact rfl; (exact (by repeat' constructor))) | (apply x_bin; exact rfl; exact rfl; exact rfl; (first | exact .z (.wrap (by omega)) | exact (by repeat' constructor))) | (apply x_extract; exact rfl; exact rfl; exact rfl; (exact (by repeat' constructor))) | (apply x_builtin; exact rfl; exact rfl; exact (fun _ => rfl); (exact (by repeat' constructor))) | (apply x_index; exact rfl; exact rfl; exact rfl; exact rfl; exact rfl; (constructor); (first | omega | exact size_pos (by assumption) | assumption); (first | exact rfl | assumption | exact Rd.some_ (by assumption) (by omega) | exact Rd.some_ (Old.rd (by assumption)) (by omega) | exact (Sat.rd (by assumption) (by exact (by repeat' constructor))).some_ (by omega))) | (apply x_loadR; exact rfl; exact rfl; exact rfl; (first | exact Old.now (by assumption) (by assumption) | exact Sat.rdpr (by assumption) (by exact (by repeat' constructor)) | exact Sat.rd (by assumption) (by exact (by repeat' constructor))); (first | omega | exact size_pos (by assumption) | assumption); exact rfl; exact rfl; (exact (by repeat' constructor))) | (apply cw_ne; exact rfl; all_goals (intro _; try omega))))
    all_goals first
      | (exfalso; omega)
      | ((first | refine q_retS (by assumption) rfl (by repeat (first | exact .nil | (apply RV.tmp; exact (by repeat' constructor)) | (apply RV.cell; exact rfl; exact (by repeat' constructor); exact rfl; exact rfl; exact (by repeat' constructor)))) ?_ | (simp only [thenQ, blockQ]; refine q_retS (by assumption) rfl (by repeat (first | exact .nil | (apply RV.tmp; exact (by repeat' constructor)) | (apply RV.cell; exact rfl; exact (by repeat' constructor); exact rfl; exact rfl; exact (by repeat' constructor)))) ?_))
         exact ⟨rfl, Sat.keeps (by assumption)⟩)
      | skip
  · rw [endL_no he]
    (repeat' (first | apply cw_seq | apply cw_region | apply wl_nil | apply cw_ret | (apply x_callv; assumption; exact rfl; exact rfl; exact rfl; exact e_CheckL; (exact (by repeat' constructor)); with_reducible exact (CheckL_c A cA l hl ho B cB c hc _ (Old.now O (by assumption)) (Old.now O2 (by assumption))); intro _ _ _) | (apply x_move; exact rfl; exact rfl; (exact (by repeat' constructor))) | (apply x_assign; exact rfl; exact rfl; (exact (by repeat' constructor))) | (apply x_bin; exact rfl; exact rfl; exact rfl; (first | exact .z (.wrap (by omega)) | exact (by repeat' constructor))) | (apply cw_ne; exact rfl; all_goals (intro _; try omega))))
    all_goals first
      | (exfalso; omega)
      | ((first | refine q_retS (by assumption) rfl (by repeat (first | exact .nil | (apply RV.tmp; exact (by repeat' constructor)) | (apply RV.cell; exact rfl; exact (by repeat' constructor); exact rfl; exact rfl; exact (by repeat' constructor)))) ?_ | (simp only [thenQ, blockQ]; refine q_retS (by assumption) rfl (by repeat (first | exact .nil | (apply RV.tmp; exact (by repeat' constructor)) | (apply RV.cell; exact rfl; exact (by repeat' constructor); exact rfl; exact rfl; exact (by repeat' constructor)))) ?_))
         exact ⟨rfl, Sat.keeps (by assumption)⟩)
end Go.Proofs.Ytagapiflfnbfiaa
