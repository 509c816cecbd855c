/- Stacks of dimensions: the reference's totals. No statement of the seat is proved here. -/
import Derived.Test.YtkkgkghkmkigjaaLj
namespace Go.Proofs.Ytkkgkghkmkigjaa
set_option linter.unusedVariables false
set_option linter.unusedSimpArgs false
open Go Go.RowKit
def addT (sh : List Int) (s : Int) (x : Lk) : Int := s + sgn x * sh.getD x.dm.toNat 0
def totE (sh : List Int) (c : List Lk) : Int := c.foldl (addT sh) 0
theorem totE_succ {sh : List Int} {c : List Lk} {k : Nat} (h : k < c.length) : totE sh (c.take (k + 1)) = totE sh (c.take k) + sgn (lat c k) * sh.getD (lat c k).dm.toNat 0 := by
  rw [takeL_succ h, totE, List.foldl_append]; rfl
def okS (sh : List Int) : Prop := ∀ i : Nat, -100000 ≤ sh.getD i 0 ∧ sh.getD i 0 ≤ 100000
theorem totE_le {sh : List Int} (hs : okS sh) {c : List Lk} : ∀ k : Nat, k ≤ c.length → -(100000 * (k : Int)) ≤ totE sh (c.take k) ∧ totE sh (c.take k) ≤ 100000 * (k : Int)
  | 0, _ => by simp [totE]
  | k + 1, h => by
    have ih := totE_le hs (c := c) k (by omega)
    have h1 := hs (lat c k).dm.toNat
    rw [totE_succ (by omega)]
    rcases sgn_or (lat c k) with e | e <;> rw [e] <;> omega
set_option maxRecDepth 100000 in
theorem e_rTotal : Ent Try.prog 56 := fun _ _ => rfl
set_option maxRecDepth 4000 in
set_option maxHeartbeats 2000000 in
theorem rTotal_c (B : Option Addr) (cB : Nat) (c : List Lk) (hc : c.length ≤ 9223372036854775807) (h256 : c.length ≤ 256) (C : Option Addr) (cC : Nat) (sh : List Int) (hsl : sh.length ≤ 9223372036854775807) (hsb : okS sh) (hr : ∀ j, j < c.length → 0 ≤ (lat c j).dm ∧ (lat c j).dm < sh.length) (w : World) (R2 : Rd w B 2 c.length (fun i => lkC (c.getD i lk0))) (R3 : Rd w C 1 sh.length (fun i => [.int .i64 (sh.getD i 0)])) : Calls Try.prog 56 #[.slice B c.length cB, .slice C sh.length cC] w (RetP (Val (.int .i64 (totE sh c)) w)) := by
  refine calls_of_cw (args := [.slice B c.length cB, .slice C sh.length cC]) Try.func56 rfl rfl ?_
  have S := Sat.start [] w
  have O2 := (R2).old
  have O3 := (R3).old
  (repeat' (first | apply cw_seq | apply cw_region | apply wl_nil | apply cw_block | apply cw_skip | apply cw_exit | apply cw_ret | (apply x_move; exact rfl; exact rfl; (exact (by repeat' constructor))) | (apply x_assign; exact rfl; exact rfl; (exact (by repeat' constructor))) | (apply x_fieldB; exact rfl; exact rfl; exact rfl; exact rfl; (constructor)) | (apply x_load; assumption; exact rfl; exact rfl; exact rfl; (exact (by repeat' constructor)); exact rfl; exact rfl; (exact (by repeat' constructor))) | (apply x_bin; exact rfl; exact rfl; exact rfl; (first | exact .z (.wrap (by omega)) | exact (by repeat' constructor))) | (apply x_builtin; exact rfl; exact rfl; exact (fun _ => rfl); (exact (by repeat' constructor))) | (apply x_fieldE; exact rfl; exact rfl; exact rfl; exact rfl; (constructor)) | (apply x_loadB; assumption; exact rfl; exact rfl; exact rfl; assumption; exact rfl; exact rfl; (exact (by repeat' constructor))) | (apply x_index; exact rfl; exact rfl; exact rfl; exact rfl; exact rfl; (constructor); (first | omega | exact size_pos (by assumption) | assumption); (first | exact rfl | assumption | exact Rd.some_ (by assumption) (by omega) | exact Rd.some_ (Old.rd (by assumption)) (by omega) | exact (Sat.rd (by assumption) (by exact (by repeat' constructor))).some_ (by omega))) | (apply x_indexArrB; exact rfl; exact rfl; exact rfl; exact rfl; exact rfl; decide; decide; (constructor)) | (apply x_loadR; exact rfl; exact rfl; exact rfl; (first | exact Old.now (by assumption) (by assumption) | exact Sat.rdpr (by assumption) (by exact (by repeat' constructor)) | exact Sat.rd (by assumption) (by exact (by repeat' constructor))); (first | omega | exact size_pos (by assumption) | assumption); exact rfl; exact rfl; (exact (by repeat' constructor))) | (apply cw_true; exact rfl) | (apply cw_false; exact rfl) | (apply x_ndec; exact rfl; with_reducible exact rfl; all_goals (intro _; try omega)) | (apply x_dec; exact rfl; all_goals (intro _; try omega)) | (apply cw_ne; exact rfl; all_goals (intro _; try omega)) | (apply cw_eq; exact rfl; all_goals (intro _; try omega)) | (apply cw_not; exact rfl; all_goals (intro _; try omega)) | (apply cw_cond; exact rfl; all_goals (intro _; try omega))))
  refine cw_loop [5, 6, 7, 8, 9, 10, 11, 12, 13, 14, 15, 16, 17, 18, 19, 20, 21, 22, 23, 24, 25, 26, 27, 28, 29, 30, 31, 32, 33, 34, 35, 36, 37] [5, 6] (fun us wr => ∃ k : Nat, k ≤ c.length ∧ us = [.int .i64 (totE sh (c.take k)), .int .i64 k] ∧ Sat w [] [] wr) (fun us _ => c.length - (intOf (us.getD 1 undef)).toNat) ?_ ?_
  · exact ⟨0, by omega, rfl, by assumption⟩
  clear S
  rintro g' us wr ⟨k, hk, rfl, Sr⟩
  by_cases hlt : k < c.length
  · have hx0 := hr k hlt
    have hx1 : 0 ≤ (c.getD k lk0).dm ∧ (c.getD k lk0).dm < sh.length := hx0
    have hle := totE_le hsb (c := c) k hk
    have hv := hsb (c.getD k lk0).dm.toNat
    (repeat' (first | apply cw_seq | apply cw_region | apply wl_nil | apply cw_block | apply cw_skip | apply cw_exit | apply cw_ret | (apply x_indexI (z := (c.getD k lk0).dm); exact rfl; exact rfl; exact rfl; exact rfl; exact rfl; (constructor); exact hx1.1; exact hx1.2; (exact (Old.rd O3).some_ (by omega))) | (apply x_loadR; exact rfl; exact rfl; exact rfl; exact Old.now O3 (by assumption); exact tlt hx1; exact rfl; exact rfl; (exact (by repeat' constructor))) | (apply x_move; exact rfl; exact rfl; (exact (by repeat' constructor))) | (apply x_assign; exact rfl; exact rfl; (exact (by repeat' constructor))) | (apply x_fieldB; exact rfl; exact rfl; exact rfl; exact rfl; (constructor)) | (apply x_load; assumption; exact rfl; exact rfl; exact rfl; (exact (by repeat' constructor)); exact rfl; exact rfl; (exact (by repeat' constructor))) | (apply x_bin; exact rfl; exact rfl; exact rfl; (first | exact .z (.wrap (by omega)) | exact (by repeat' constructor))) | (apply x_builtin; exact rfl; exact rfl; exact (fun _ => rfl); (exact (by repeat' constructor))) | (apply x_fieldE; exact rfl; exact rfl; exact rfl; exact rfl; (constructor)) | (apply x_loadB; assumption; exact rfl; exact rfl; exact rfl; assumption; exact rfl; exact rfl; (exact (by repeat' constructor))) | (apply x_index; exact rfl; exact rfl; exact rfl; exact rfl; exact rfl; (constructor); (first | omega | exact size_pos (by assumption) | assumption); (first | exact rfl | assumption | exact Rd.some_ (by assumption) (by omega) | exact Rd.some_ (Old.rd (by assumption)) (by omega) | exact (Sat.rd (by assumption) (by exact (by repeat' constructor))).some_ (by omega))) | (apply x_indexArrB; exact rfl; exact rfl; exact rfl; exact rfl; exact rfl; decide; decide; (constructor)) | (apply x_loadR; exact rfl; exact rfl; exact rfl; (first | exact Old.now (by assumption) (by assumption) | exact Sat.rdpr (by assumption) (by exact (by repeat' constructor)) | exact Sat.rd (by assumption) (by exact (by repeat' constructor))); (first | omega | exact size_pos (by assumption) | assumption); exact rfl; exact rfl; (exact (by repeat' constructor))) | (apply cw_true; exact rfl) | (apply cw_false; exact rfl) | (apply x_ndec; exact rfl; with_reducible exact rfl; all_goals (intro _; try omega)) | (apply x_dec; exact rfl; all_goals (intro _; try omega)) | (apply cw_ne; exact rfl; all_goals (intro _; try omega)) | (apply cw_eq; exact rfl; all_goals (intro _; try omega)) | (apply cw_not; exact rfl; all_goals (intro _; try omega)) | (apply cw_cond; exact rfl; all_goals (intro _; try omega))))
    · have hs : sgn (lat c k) = -1 := if_pos (by assumption)
      refine ⟨rfl, (by repeat (first | exact Agree.updl rfl (Agree.mask _ _ _) | refine Agree.upd rfl ?_)), ⟨k + 1, hlt, ?_, by assumption⟩, ?_⟩
      · rw [totE_succ hlt, hs]
        have e : totE sh (c.take k) - sh.getD (c.getD k lk0).dm.toNat 0 = totE sh (c.take k) + -1 * sh.getD (c.getD k lk0).dm.toNat 0 := by omega
        rw [← e]; rfl
      · show c.length - (k + 1 : Int).toNat < c.length - (k : Int).toNat
        omega
    · have hs : sgn (lat c k) = 1 := if_neg (by first | assumption | exact Bool.eq_false_iff.mp (by assumption))
      refine ⟨rfl, (by repeat (first | exact Agree.updl rfl (Agree.mask _ _ _) | refine Agree.upd rfl ?_)), ⟨k + 1, hlt, ?_, by assumption⟩, ?_⟩
      · rw [totE_succ hlt, hs]
        have e : totE sh (c.take k) + sh.getD (c.getD k lk0).dm.toNat 0 = totE sh (c.take k) + 1 * sh.getD (c.getD k lk0).dm.toNat 0 := by omega
        rw [← e]; rfl
      · show c.length - (k + 1 : Int).toNat < c.length - (k : Int).toNat
        omega
  · (repeat' (first | apply cw_seq | apply cw_region | apply wl_nil | apply cw_block | apply cw_skip | apply cw_exit | apply cw_ret | (apply x_move; exact rfl; exact rfl; (exact (by repeat' constructor))) | (apply x_assign; exact rfl; exact rfl; (exact (by repeat' constructor))) | (apply x_fieldB; exact rfl; exact rfl; exact rfl; exact rfl; (constructor)) | (apply x_load; assumption; exact rfl; exact rfl; exact rfl; (exact (by repeat' constructor)); exact rfl; exact rfl; (exact (by repeat' constructor))) | (apply x_bin; exact rfl; exact rfl; exact rfl; (first | exact .z (.wrap (by omega)) | exact (by repeat' constructor))) | (apply x_builtin; exact rfl; exact rfl; exact (fun _ => rfl); (exact (by repeat' constructor))) | (apply x_fieldE; exact rfl; exact rfl; exact rfl; exact rfl; (constructor)) | (apply x_loadB; assumption; exact rfl; exact rfl; exact rfl; assumption; exact rfl; exact rfl; (exact (by repeat' constructor))) | (apply x_index; exact rfl; exact rfl; exact rfl; exact rfl; exact rfl; (constructor); (first | omega | exact size_pos (by assumption) | assumption); (first | exact rfl | assumption | exact Rd.some_ (by assumption) (by omega) | exact Rd.some_ (Old.rd (by assumption)) (by omega) | exact (Sat.rd (by assumption) (by exact (by repeat' constructor))).some_ (by omega))) | (apply x_indexArrB; exact rfl; exact rfl; exact rfl; exact rfl; exact rfl; decide; decide; (constructor)) | (apply x_loadR; exact rfl; exact rfl; exact rfl; (first | exact Old.now (by assumption) (by assumption) | exact Sat.rdpr (by assumption) (by exact (by repeat' constructor)) | exact Sat.rd (by assumption) (by exact (by repeat' constructor))); (first | omega | exact size_pos (by assumption) | assumption); exact rfl; exact rfl; (exact (by repeat' constructor))) | (apply cw_true; exact rfl) | (apply cw_false; exact rfl) | (apply x_ndec; exact rfl; with_reducible exact rfl; all_goals (intro _; try omega)) | (apply x_dec; exact rfl; all_goals (intro _; try omega)) | (apply cw_ne; exact rfl; all_goals (intro _; try omega)) | (apply cw_eq; exact rfl; all_goals (intro _; try omega)) | (apply cw_not; exact rfl; all_goals (intro _; try omega)) | (apply cw_cond; exact rfl; all_goals (intro _; try omega))))
    (first | refine q_retS (by assumption) rfl (by repeat (first | exact .nil | (apply RV.tmp; exact (by repeat' constructor)) | (apply RV.cell; exact rfl; exact (by repeat' constructor); exact rfl; exact rfl; exact (by repeat' constructor)))) ?_ | (simp only [thenQ, blockQ]; refine q_retS (by assumption) rfl (by repeat (first | exact .nil | (apply RV.tmp; exact (by repeat' constructor)) | (apply RV.cell; exact rfl; exact (by repeat' constructor); exact rfl; exact rfl; exact (by repeat' constructor)))) ?_))
    refine ⟨?_, Sat.keeps (by assumption)⟩
    rw [List.take_of_length_le (by omega)]
    rfl
end Go.Proofs.Ytkkgkghkmkigjaa
