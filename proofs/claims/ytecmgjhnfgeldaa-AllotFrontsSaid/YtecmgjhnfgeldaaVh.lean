/- Tasks of choices: the least width of a part. No statement of the seat is proved here. -/
import Derived.Test.YtecmgjhnfgeldaaVg
namespace Go.Proofs.Ytecmgjhnfgeldaa.Al
set_option linter.unusedVariables false
set_option linter.unusedSimpArgs false
open Go Go.RowKit
def minW (cs : List Ch) : Nat → Int
  | 0 => (cs.getD 0 ch0).w
  | k + 1 => if (cs.getD k ch0).w < minW cs k then (cs.getD k ch0).w else minW cs k
def nar (p : Pt) : Int := p.wt * minW p.cs p.cs.length
theorem minW_ok {p : Pt} (h : OkP p) : ∀ k, k ≤ p.cs.length → 0 ≤ minW p.cs k ∧ minW p.cs k ≤ 100000
  | 0, _ => (h.cw 0 h.n1).1
  | k + 1, hk => by
    have h1 := minW_ok h k (by omega)
    have h2 := (h.cw k (by omega)).1
    rw [minW]
    split <;> omega
theorem minW_le {cs : List Ch} : ∀ {k j : Nat}, j < k → minW cs k ≤ (cs.getD j ch0).w
  | k + 1, j, hj => by
    rw [minW]
    rcases Nat.lt_succ_iff_lt_or_eq.1 hj with hj | rfl
    · have := minW_le (cs := cs) hj
      split <;> omega
    · split <;> omega
theorem minW_mem {cs : List Ch} : ∀ {k : Nat}, 1 ≤ cs.length → k ≤ cs.length → ∃ j, j < cs.length ∧ minW cs k = (cs.getD j ch0).w
  | 0, h, _ => ⟨0, h, rfl⟩
  | k + 1, h, hk => by
    rw [minW]
    split
    · exact ⟨k, by omega, rfl⟩
    · exact minW_mem h (by omega)
theorem nar_ok {p : Pt} (h : OkP p) : 0 ≤ nar p ∧ nar p ≤ 1600000 := prod_le h.w1 h.w16 (minW_ok h _ (Nat.le_refl _)).1 (minW_ok h _ (Nat.le_refl _)).2
theorem nar_le {p : Pt} (h : OkP p) {j : Nat} (hj : j < p.cs.length) : nar p ≤ p.wt * (p.cs.getD j ch0).w := Int.mul_le_mul_of_nonneg_left (minW_le hj) (by have := h.w1; omega)
theorem nar_mem {p : Pt} (h : OkP p) : ∃ j, j < p.cs.length ∧ nar p = p.wt * (p.cs.getD j ch0).w := by
  obtain ⟨j, hj, e⟩ := minW_mem (k := p.cs.length) h.n1 (Nat.le_refl _)
  exact ⟨j, hj, by rw [nar, e]⟩
set_option maxRecDepth 100000 in
theorem e_least : Ent Try.prog 41 := fun _ _ => rfl
set_option maxRecDepth 8000 in
set_option maxHeartbeats 4000000 in
theorem least_c (p : Pt) (ho : OkP p) (w : World) (R : Rd w p.A 2 p.cs.length (fun j => chC (p.cs.getD j ch0))) : Calls Try.prog 41 #[.agg #[.int .i64 p.wt, .slice p.A p.cs.length p.cA]] w (RetP (Val (.int .i64 (nar p)) w)) := by
  refine calls_of_cw (args := [.agg #[.int .i64 p.wt, .slice p.A p.cs.length p.cA]]) Try.func41 rfl rfl ?_
  have S := Sat.start [] w
  have O := R.old
  have hn1 := ho.n1
  have hn := ho.n16
  (repeat' (first | apply cw_seq | apply cw_region | apply wl_nil | apply cw_block | (apply x_move; exact rfl; exact rfl; (exact (by repeat' constructor))) | (apply x_assign; exact rfl; exact rfl; (exact (by repeat' constructor))) | (apply x_fieldB; exact rfl; exact rfl; exact rfl; exact rfl; (constructor)) | (apply x_load; assumption; exact rfl; exact rfl; exact rfl; (exact (by repeat' constructor)); exact rfl; exact rfl; (exact (by repeat' constructor))) | (apply x_box; assumption; exact rfl; exact rfl; (exact (by repeat' constructor)); (exact (by repeat' constructor)); intro _ _ _) | (apply x_builtin; exact rfl; exact rfl; exact (fun _ => rfl); (exact (by repeat' constructor))) | (apply x_fieldE; exact rfl; exact rfl; exact rfl; exact rfl; (constructor)) | (apply x_index; exact rfl; exact rfl; exact rfl; exact rfl; exact rfl; (constructor); (first | omega | exact size_pos (by assumption) | assumption); (first | exact rfl | assumption | exact Rd.some_ (by assumption) (by omega) | exact Rd.some_ (Old.rd (by assumption)) (by omega) | exact (Sat.rd (by assumption) (by exact (by repeat' constructor))).some_ (by omega))) | (apply x_loadR; exact rfl; exact rfl; exact rfl; (first | exact Old.now (by assumption) (by assumption) | exact Sat.rdpr (by assumption) (by exact (by repeat' constructor)) | exact Sat.rd (by assumption) (by exact (by repeat' constructor))); (first | omega | exact size_pos (by assumption) | assumption); exact rfl; exact rfl; (exact (by repeat' constructor)))))
  rename_i b w1 S1
  refine cw_loop [3, 5, 14, 15, 16, 17, 18, 19, 20, 21, 22] [3, 14] (fun us wr => ∃ i : Nat, i ≤ p.cs.length ∧ us = [.int .i64 (minW p.cs i), .int .i64 i] ∧ Sat w [] [.cl b 63 [.int .i64 p.wt, .slice p.A p.cs.length p.cA]] wr) (fun us _ => p.cs.length - (intOf (us.getD 1 undef)).toNat) ?_ ?_
  · exact ⟨0, by omega, rfl, S1⟩
  clear S S1
  rintro g2 us wr2 ⟨i, hi, rfl, Si⟩
  by_cases hlt : i < p.cs.length
  · (repeat' (first | apply cw_seq | apply cw_region | apply wl_nil | apply cw_block | apply cw_skip | (apply x_move; exact rfl; exact rfl; (exact (by repeat' constructor))) | (apply x_assign; exact rfl; exact rfl; (exact (by repeat' constructor))) | (apply x_fieldB; exact rfl; exact rfl; exact rfl; exact rfl; (constructor)) | (apply x_load; assumption; exact rfl; exact rfl; exact rfl; (exact (by repeat' constructor)); exact rfl; exact rfl; (exact (by repeat' constructor))) | (apply x_bin; exact rfl; exact rfl; exact rfl; (first | exact .z (.wrap (by omega)) | exact (by repeat' constructor))) | (apply x_alloc; assumption; exact rfl; exact rfl; exact rfl; (exact (by repeat' constructor)); intro _ _ _) | (apply x_store; assumption; exact rfl; exact rfl; (exact (by repeat' constructor)); (exact (by repeat' constructor)); exact rfl; exact rfl; exact rfl; (exact (by repeat' constructor)); intro _ _) | (apply x_builtin; exact rfl; exact rfl; exact (fun _ => rfl); (exact (by repeat' constructor))) | (apply x_index; exact rfl; exact rfl; exact rfl; exact rfl; exact rfl; (constructor); (first | omega | exact size_pos (by assumption) | assumption); (first | exact rfl | assumption | exact Rd.some_ (by assumption) (by omega) | exact Rd.some_ (Old.rd (by assumption)) (by omega) | exact (Sat.rd (by assumption) (by exact (by repeat' constructor))).some_ (by omega))) | (apply x_loadR; exact rfl; exact rfl; exact rfl; (first | exact Old.now (by assumption) (by assumption) | exact Sat.rdpr (by assumption) (by exact (by repeat' constructor)) | exact Sat.rd (by assumption) (by exact (by repeat' constructor))); (first | omega | exact size_pos (by assumption) | assumption); exact rfl; exact rfl; (exact (by repeat' constructor))) | (apply x_dec; exact rfl; all_goals (intro _; try omega))))
    refine ⟨rfl, (by repeat (first | exact Agree.updl rfl (Agree.mask _ _ _) | refine Agree.upd rfl ?_)), ⟨i + 1, hlt, rfl, by first | exact Sat.drop1 (by assumption) | assumption⟩, ?_⟩
    show p.cs.length - (i + 1 : Int).toNat < p.cs.length - (i : Int).toNat
    omega
  · have e : i = p.cs.length := by omega
    subst e
    have hb := nar_ok ho
    unfold nar at hb
    (repeat' (first | apply cw_seq | apply cw_region | apply wl_nil | apply cw_exit | apply cw_ret | (apply x_move; exact rfl; exact rfl; (exact (by repeat' constructor))) | (apply x_assign; exact rfl; exact rfl; (exact (by repeat' constructor))) | (apply x_fieldB; exact rfl; exact rfl; exact rfl; exact rfl; (constructor)) | (apply x_load; assumption; exact rfl; exact rfl; exact rfl; (exact (by repeat' constructor)); exact rfl; exact rfl; (exact (by repeat' constructor))) | (apply x_bin; exact rfl; exact rfl; exact rfl; (first | exact .z (.wrap (by omega)) | exact (by repeat' constructor))) | (apply x_dec; exact rfl; all_goals (intro _; try omega))))
    (first | refine q_retS (by assumption) rfl (by repeat (first | exact .nil | (apply RV.tmp; exact (by repeat' constructor)) | (apply RV.cell; exact rfl; exact (by repeat' constructor); exact rfl; exact rfl; exact (by repeat' constructor)))) ?_ | (simp only [thenQ, blockQ]; refine q_retS (by assumption) rfl (by repeat (first | exact .nil | (apply RV.tmp; exact (by repeat' constructor)) | (apply RV.cell; exact rfl; exact (by repeat' constructor); exact rfl; exact rfl; exact (by repeat' constructor)))) ?_))
    exact ⟨rfl, Sat.keeps (by assumption)⟩
set_option maxRecDepth 100000 in
theorem e_rnarrowest : Ent Try.prog 43 := fun _ _ => rfl
set_option maxRecDepth 8000 in
set_option maxHeartbeats 4000000 in
theorem rnarrowest_c (p : Pt) (ho : OkP p) (w : World) (R : Rd w p.A 2 p.cs.length (fun j => chC (p.cs.getD j ch0))) : Calls Try.prog 43 #[.agg #[.int .i64 p.wt, .slice p.A p.cs.length p.cA]] w (RetP (Val (.int .i64 (nar p)) w)) := by
  refine calls_of_cw (args := [.agg #[.int .i64 p.wt, .slice p.A p.cs.length p.cA]]) Try.func43 rfl rfl ?_
  have S := Sat.start [] w
  have O := R.old
  have hn1 := ho.n1
  have hn := ho.n16
  (repeat' (first | apply cw_seq | apply cw_region | apply wl_nil | apply cw_block | (apply x_assign; exact rfl; exact rfl; (exact (by repeat' constructor))) | (apply x_fieldB; exact rfl; exact rfl; exact rfl; exact rfl; (constructor)) | (apply x_load; assumption; exact rfl; exact rfl; exact rfl; (exact (by repeat' constructor)); exact rfl; exact rfl; (exact (by repeat' constructor))) | (apply x_box; assumption; exact rfl; exact rfl; (exact (by repeat' constructor)); (exact (by repeat' constructor)); intro _ _ _) | (apply x_fieldE; exact rfl; exact rfl; exact rfl; exact rfl; (constructor)) | (apply x_index; exact rfl; exact rfl; exact rfl; exact rfl; exact rfl; (constructor); (first | omega | exact size_pos (by assumption) | assumption); (first | exact rfl | assumption | exact Rd.some_ (by assumption) (by omega) | exact Rd.some_ (Old.rd (by assumption)) (by omega) | exact (Sat.rd (by assumption) (by exact (by repeat' constructor))).some_ (by omega))) | (apply x_loadR; exact rfl; exact rfl; exact rfl; (first | exact Old.now (by assumption) (by assumption) | exact Sat.rdpr (by assumption) (by exact (by repeat' constructor)) | exact Sat.rd (by assumption) (by exact (by repeat' constructor))); (first | omega | exact size_pos (by assumption) | assumption); exact rfl; exact rfl; (exact (by repeat' constructor)))))
  rename_i b w1 S1
  refine cw_loop [3, 4, 10, 11, 12, 13, 14, 15, 16, 17, 18, 19, 20, 21, 22, 23, 24] [3, 4] (fun us wr => ∃ i : Nat, i ≤ p.cs.length ∧ us = [.int .i64 (minW p.cs i), .int .i64 i] ∧ Sat w [] [.cl b 68 [.int .i64 p.wt, .slice p.A p.cs.length p.cA]] wr) (fun us _ => p.cs.length - (intOf (us.getD 1 undef)).toNat) ?_ ?_
  · exact ⟨0, by omega, rfl, S1⟩
  clear S S1
  rintro g2 us wr2 ⟨i, hi, rfl, Si⟩
  by_cases hlt : i < p.cs.length
  · (repeat' (first | apply cw_seq | apply cw_region | apply wl_nil | apply cw_block | apply cw_skip | (apply x_move; exact rfl; exact rfl; (exact (by repeat' constructor))) | (apply x_assign; exact rfl; exact rfl; (exact (by repeat' constructor))) | (apply x_fieldB; exact rfl; exact rfl; exact rfl; exact rfl; (constructor)) | (apply x_load; assumption; exact rfl; exact rfl; exact rfl; (exact (by repeat' constructor)); exact rfl; exact rfl; (exact (by repeat' constructor))) | (apply x_bin; exact rfl; exact rfl; exact rfl; (first | exact .z (.wrap (by omega)) | exact (by repeat' constructor))) | (apply x_builtin; exact rfl; exact rfl; exact (fun _ => rfl); (exact (by repeat' constructor))) | (apply x_fieldE; exact rfl; exact rfl; exact rfl; exact rfl; (constructor)) | (apply x_index; exact rfl; exact rfl; exact rfl; exact rfl; exact rfl; (constructor); (first | omega | exact size_pos (by assumption) | assumption); (first | exact rfl | assumption | exact Rd.some_ (by assumption) (by omega) | exact Rd.some_ (Old.rd (by assumption)) (by omega) | exact (Sat.rd (by assumption) (by exact (by repeat' constructor))).some_ (by omega))) | (apply x_loadR; exact rfl; exact rfl; exact rfl; (first | exact Old.now (by assumption) (by assumption) | exact Sat.rdpr (by assumption) (by exact (by repeat' constructor)) | exact Sat.rd (by assumption) (by exact (by repeat' constructor))); (first | omega | exact size_pos (by assumption) | assumption); exact rfl; exact rfl; (exact (by repeat' constructor))) | (apply x_dec; exact rfl; all_goals (intro _; try omega))))
    refine ⟨rfl, (by repeat (first | exact Agree.updl rfl (Agree.mask _ _ _) | refine Agree.upd rfl ?_)), ⟨i + 1, hlt, rfl, by first | exact Sat.drop1 (by assumption) | assumption⟩, ?_⟩
    show p.cs.length - (i + 1 : Int).toNat < p.cs.length - (i : Int).toNat
    omega
  · have e : i = p.cs.length := by omega
    subst e
    have hb := nar_ok ho
    unfold nar at hb
    (repeat' (first | apply cw_seq | apply cw_region | apply wl_nil | apply cw_exit | apply cw_ret | (apply x_move; exact rfl; exact rfl; (exact (by repeat' constructor))) | (apply x_assign; exact rfl; exact rfl; (exact (by repeat' constructor))) | (apply x_fieldB; exact rfl; exact rfl; exact rfl; exact rfl; (constructor)) | (apply x_load; assumption; exact rfl; exact rfl; exact rfl; (exact (by repeat' constructor)); exact rfl; exact rfl; (exact (by repeat' constructor))) | (apply x_bin; exact rfl; exact rfl; exact rfl; (first | exact .z (.wrap (by omega)) | exact (by repeat' constructor))) | (apply x_builtin; exact rfl; exact rfl; exact (fun _ => rfl); (exact (by repeat' constructor))) | (apply x_dec; exact rfl; all_goals (intro _; try omega))))
    (first | refine q_retS (by assumption) rfl (by repeat (first | exact .nil | (apply RV.tmp; exact (by repeat' constructor)) | (apply RV.cell; exact rfl; exact (by repeat' constructor); exact rfl; exact rfl; exact (by repeat' constructor)))) ?_ | (simp only [thenQ, blockQ]; refine q_retS (by assumption) rfl (by repeat (first | exact .nil | (apply RV.tmp; exact (by repeat' constructor)) | (apply RV.cell; exact rfl; exact (by repeat' constructor); exact rfl; exact rfl; exact (by repeat' constructor)))) ?_))
    exact ⟨rfl, Sat.keeps (by assumption)⟩
end Go.Proofs.Ytecmgjhnfgeldaa.Al
