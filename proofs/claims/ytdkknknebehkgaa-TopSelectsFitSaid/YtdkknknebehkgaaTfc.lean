/- Tolerance grades: deviations and limits of classes. No statement of the seat is proved here. -/
import Derived.Test.YtdkknknebehkgaaTfb
namespace Go.Proofs.Ytdkknknebehkgaa
set_option linter.unusedVariables false
set_option linter.unusedSimpArgs false
open Go Go.RowKit
abbrev lf1 : Value := .func (.func 75) #[] #[]
abbrev lf2 : Value := .func (.func 76) #[] #[]
abbrev lf3 : Value := .func (.func 77) #[] #[]
def mostT (s : Int) : Int := mosts.getD (atN s) 0
theorem steps_at (s : Int) : arrPart Try.prog 137 [.int .i64 3000, .int .i64 6, .int .i64 6000, .int .i64 8, .int .i64 10000, .int .i64 9, .int .i64 18000, .int .i64 11, .int .i64 30000, .int .i64 13, .int .i64 50000, .int .i64 16, .int .i64 80000, .int .i64 19, .int .i64 100000, .int .i64 22] (atN s) = some (.agg #[.int .i64 (mostT s), .int .i64 (baseT s)]) :=
  nat8 (P := fun i => arrPart Try.prog 137 [.int .i64 3000, .int .i64 6, .int .i64 6000, .int .i64 8, .int .i64 10000, .int .i64 9, .int .i64 18000, .int .i64 11, .int .i64 30000, .int .i64 13, .int .i64 50000, .int .i64 16, .int .i64 80000, .int .i64 19, .int .i64 100000, .int .i64 22] i = some (.agg #[.int .i64 (mosts.getD i 0), .int .i64 (bases.getD i 0)])) ⟨by kernel_rfl, by kernel_rfl, by kernel_rfl, by kernel_rfl, by kernel_rfl, by kernel_rfl, by kernel_rfl, by kernel_rfl⟩ (atN s) (atN_lt s)
theorem facs_at {g : Int} (h : 5 ≤ g ∧ g ≤ 12) : arrPart Try.prog 142 [.int .i64 7, .int .i64 10, .int .i64 16, .int .i64 25, .int .i64 40, .int .i64 64, .int .i64 100, .int .i64 160] (g - 5).toNat = some (.int .i64 (facT g)) :=
  nat8 (P := fun i => arrPart Try.prog 142 [.int .i64 7, .int .i64 10, .int .i64 16, .int .i64 25, .int .i64 40, .int .i64 64, .int .i64 100, .int .i64 160] i = some (.int .i64 (facs.getD i 0))) ⟨by kernel_rfl, by kernel_rfl, by kernel_rfl, by kernel_rfl, by kernel_rfl, by kernel_rfl, by kernel_rfl, by kernel_rfl⟩ (g - 5).toNat (by omega)
theorem bf_b (s : Int) {g : Int} (h : 5 ≤ g ∧ g ≤ 12) : 0 ≤ baseT s * facT g ∧ baseT s * facT g ≤ 3520 := mul_b (baseT_b s) (by have := facT_b h; omega)
theorem bs_b (s : Int) {l : Int} (h : 0 ≤ l ∧ l < 10) : 0 ≤ baseT s * shiftT l ∧ baseT s * shiftT l ≤ 3520 := mul_b (baseT_b s) (by have := shiftT_b h; omega)
set_option maxRecDepth 100000 in
theorem e_gtol : Ent Try.prog 68 := fun _ _ => rfl
set_option maxRecDepth 4000 in
set_option maxHeartbeats 2000000 in
theorem gtol_c (s g : Int) (hs : s ≤ 100000) (hg : 5 ≤ g ∧ g ≤ 12) (w : World) : Calls Try.prog 68 #[.int .i64 s, .int .i64 g] w (RetP (Val (.int .i64 (wide s g)) w)) := by
  refine calls_of_cw (args := [.int .i64 s, .int .i64 g]) Try.func68 rfl rfl ?_
  have S := Sat.start [] w
  (repeat' (first | apply cw_seq | apply cw_region | apply wl_nil | apply cw_ret | (apply z1_callv; exact rfl; exact rfl; exact e_gsteps; (exact (by repeat' constructor)); exact (fun _ _ => gsteps_c _)) | (apply z1_callv; exact rfl; exact rfl; exact e_gfactors; (exact (by repeat' constructor)); exact (fun _ _ => gfactors_c _)) | (apply z1_callv; exact rfl; exact rfl; exact e_gindex; (exact (by repeat' constructor)); exact (fun _ _ => gindex_c s hs _)) | (apply y_indexAgg; exact rfl; exact rfl; exact rfl; exact steps_at s; exact .z .any) | (apply y_indexAgg (i := (g - 5).toNat); exact rfl; exact rfl; exact (congrArg (Value.int .i64) (show g - 5 = (((g - 5).toNat : Nat) : Int) by omega)); exact facs_at hg; exact .z .any) | (apply cw_draw (id := 1) [(1, 0), (6, 0), (7, 0), (0, 1), (2, 1), (3, 0), (4, 0), (5, 1), (8, 0), (9, 0), (10, 0), (11, 0), (12, 0)]; assumption; exact mixed; kernel_rfl) | (apply x_assign; exact rfl; exact rfl; (exact (by repeat' constructor))) | (apply y_field; exact rfl; exact rfl; exact rfl; exact (by repeat' constructor)) | (apply y_quo; exact rfl; exact rfl; exact rfl; (exact (by first | omega | (have hm := bf_b s hg; omega))); (exact (by first | omega | (have hm := bf_b s hg; omega))); (exact (by first | omega | (have hm := bf_b s hg; omega)))) | (apply y_move; exact rfl; (exact (by repeat' constructor))) | (apply y_assign; exact rfl; (exact (by repeat' constructor))) | (apply y_bin; exact rfl; exact (fun _ => rfl); (first | exact .z (.wrap (by first | omega | (have hm := bf_b s hg; omega))) | exact (by repeat' constructor))) | (apply y_nil; intro _ _)))
  all_goals (first | refine q_retS (by assumption) rfl (by repeat (first | exact .nil | (apply RV.tmp; exact (by repeat' constructor)) | (apply RV.cell; exact rfl; exact (by repeat' constructor); exact rfl; exact rfl; exact (by repeat' constructor)))) ?_ | (simp only [thenQ, blockQ]; refine q_retS (by assumption) rfl (by repeat (first | exact .nil | (apply RV.tmp; exact (by repeat' constructor)) | (apply RV.cell; exact rfl; exact (by repeat' constructor); exact rfl; exact rfl; exact (by repeat' constructor)))) ?_))
  all_goals exact ⟨rfl, Sat.keeps (by assumption)⟩
def lets : Value := .agg #[.int .i64 50, lf1, .int .i64 31, lf1, .int .i64 16, lf1, .int .i64 6, lf1, .int .i64 0, lf1, .int .i64 0, lf2, .int .i64 2, lf3, .int .i64 9, lf3, .int .i64 15, lf3, .int .i64 22, lf3]
set_option maxRecDepth 100000 in
theorem e_gletters : Ent Try.prog 67 := fun _ _ => rfl
set_option maxRecDepth 4000 in
set_option maxHeartbeats 2000000 in
theorem gletters_c  (w : World) : Calls Try.prog 67 #[] w (RetP (Val lets w)) := by
  refine calls_of_cw (args := []) Try.func67 rfl rfl ?_
  have S := Sat.start [] w
  (repeat' (first | apply cw_seq | apply cw_region | apply wl_nil | apply cw_ret | (apply x_move; exact rfl; exact rfl; (exact (by repeat' constructor))) | (apply x_assign; exact rfl; exact rfl; (exact (by repeat' constructor))) | (apply x_alloc; assumption; exact rfl; exact rfl; exact rfl; (exact (by repeat' constructor)); intro _ _ _) | (apply x_store; assumption; exact rfl; exact rfl; (exact (by repeat' constructor)); (exact (by repeat' constructor)); exact rfl; exact rfl; exact rfl; (exact (by repeat' constructor)); intro _ _) | (apply x_build; exact rfl; exact rfl; exact rfl; (exact (by repeat' constructor)))))
  all_goals (first | refine q_retS (by assumption) rfl (by repeat (first | exact .nil | (apply RV.tmp; exact (by repeat' constructor)) | (apply RV.cell; exact rfl; exact (by repeat' constructor); exact rfl; exact rfl; exact (by repeat' constructor)))) ?_ | (simp only [thenQ, blockQ]; refine q_retS (by assumption) rfl (by repeat (first | exact .nil | (apply RV.tmp; exact (by repeat' constructor)) | (apply RV.cell; exact rfl; exact (by repeat' constructor); exact rfl; exact rfl; exact (by repeat' constructor)))) ?_))
  all_goals exact ⟨rfl, Sat.keeps (by assumption)⟩
set_option maxRecDepth 100000 in
theorem e_below : Ent Try.prog 75 := fun _ _ => rfl
set_option maxRecDepth 4000 in
set_option maxHeartbeats 2000000 in
theorem below_c (t s : Int) (ht : 0 ≤ t ∧ t ≤ 352) (hs : 0 ≤ s ∧ s ≤ 352) (w : World) : Calls Try.prog 75 #[.int .i64 t, .int .i64 s] w (RetP (Val (.agg #[.int .i64 (0 - s - t), .int .i64 (0 - s)]) w)) := by
  refine calls_of_cw (args := [.int .i64 t, .int .i64 s]) Try.func75 rfl rfl ?_
  have S := Sat.start [] w
  (repeat' (first | apply cw_seq | apply cw_region | apply wl_nil | apply cw_ret | (apply x_move; exact rfl; exact rfl; (exact (by repeat' constructor))) | (apply x_bin; exact rfl; exact rfl; exact rfl; (first | exact .z (.wrap (by omega)) | exact (by repeat' constructor))) | (apply x_un; exact rfl; exact rfl; exact rfl; (first | exact .z (.wrap (by omega)) | exact (by repeat' constructor))) | (apply x_alloc; assumption; exact rfl; exact rfl; exact rfl; (exact (by repeat' constructor)); intro _ _ _) | (apply x_store; assumption; exact rfl; exact rfl; (exact (by repeat' constructor)); (exact (by repeat' constructor)); exact rfl; exact rfl; exact rfl; (exact (by repeat' constructor)); intro _ _) | (apply x_build; exact rfl; exact rfl; exact rfl; (exact (by repeat' constructor)))))
  all_goals (first | refine q_retS (by assumption) rfl (by repeat (first | exact .nil | (apply RV.tmp; exact (by repeat' constructor)) | (apply RV.cell; exact rfl; exact (by repeat' constructor); exact rfl; exact rfl; exact (by repeat' constructor)))) ?_ | (simp only [thenQ, blockQ]; refine q_retS (by assumption) rfl (by repeat (first | exact .nil | (apply RV.tmp; exact (by repeat' constructor)) | (apply RV.cell; exact rfl; exact (by repeat' constructor); exact rfl; exact rfl; exact (by repeat' constructor)))) ?_))
  all_goals refine ⟨?_, Sat.keeps (by assumption)⟩
  all_goals first | rfl | simp [pack]
set_option maxRecDepth 100000 in
theorem e_around : Ent Try.prog 76 := fun _ _ => rfl
set_option maxRecDepth 4000 in
set_option maxHeartbeats 2000000 in
theorem around_c (t s : Int) (ht : 0 ≤ t ∧ t ≤ 352) (w : World) : Calls Try.prog 76 #[.int .i64 t, .int .i64 s] w (RetP (Val (.agg #[.int .i64 (0 - t / 2), .int .i64 (t / 2)]) w)) := by
  refine calls_of_cw (args := [.int .i64 t, .int .i64 s]) Try.func76 rfl rfl ?_
  have S := Sat.start [] w
  (repeat' (first | apply cw_seq | apply cw_region | apply wl_nil | apply cw_ret | (apply x_quo; exact rfl; exact rfl; exact rfl; exact rfl; (exact (by omega)); (exact (by omega)); (exact (by omega))) | (apply x_move; exact rfl; exact rfl; (exact (by repeat' constructor))) | (apply x_un; exact rfl; exact rfl; exact rfl; (first | exact .z (.wrap (by omega)) | exact (by repeat' constructor))) | (apply x_alloc; assumption; exact rfl; exact rfl; exact rfl; (exact (by repeat' constructor)); intro _ _ _) | (apply x_store; assumption; exact rfl; exact rfl; (exact (by repeat' constructor)); (exact (by repeat' constructor)); exact rfl; exact rfl; exact rfl; (exact (by repeat' constructor)); intro _ _) | (apply x_build; exact rfl; exact rfl; exact rfl; (exact (by repeat' constructor)))))
  all_goals (first | refine q_retS (by assumption) rfl (by repeat (first | exact .nil | (apply RV.tmp; exact (by repeat' constructor)) | (apply RV.cell; exact rfl; exact (by repeat' constructor); exact rfl; exact rfl; exact (by repeat' constructor)))) ?_ | (simp only [thenQ, blockQ]; refine q_retS (by assumption) rfl (by repeat (first | exact .nil | (apply RV.tmp; exact (by repeat' constructor)) | (apply RV.cell; exact rfl; exact (by repeat' constructor); exact rfl; exact rfl; exact (by repeat' constructor)))) ?_))
  all_goals refine ⟨?_, Sat.keeps (by assumption)⟩
  all_goals first | rfl | simp [pack]
set_option maxRecDepth 100000 in
theorem e_above : Ent Try.prog 77 := fun _ _ => rfl
set_option maxRecDepth 4000 in
set_option maxHeartbeats 2000000 in
theorem above_c (t s : Int) (ht : 0 ≤ t ∧ t ≤ 352) (hs : 0 ≤ s ∧ s ≤ 352) (w : World) : Calls Try.prog 77 #[.int .i64 t, .int .i64 s] w (RetP (Val (.agg #[.int .i64 (s), .int .i64 (s + t)]) w)) := by
  refine calls_of_cw (args := [.int .i64 t, .int .i64 s]) Try.func77 rfl rfl ?_
  have S := Sat.start [] w
  (repeat' (first | apply cw_seq | apply cw_region | apply wl_nil | apply cw_ret | (apply x_move; exact rfl; exact rfl; (exact (by repeat' constructor))) | (apply x_bin; exact rfl; exact rfl; exact rfl; (first | exact .z (.wrap (by omega)) | exact (by repeat' constructor))) | (apply x_alloc; assumption; exact rfl; exact rfl; exact rfl; (exact (by repeat' constructor)); intro _ _ _) | (apply x_store; assumption; exact rfl; exact rfl; (exact (by repeat' constructor)); (exact (by repeat' constructor)); exact rfl; exact rfl; exact rfl; (exact (by repeat' constructor)); intro _ _) | (apply x_build; exact rfl; exact rfl; exact rfl; (exact (by repeat' constructor)))))
  all_goals (first | refine q_retS (by assumption) rfl (by repeat (first | exact .nil | (apply RV.tmp; exact (by repeat' constructor)) | (apply RV.cell; exact rfl; exact (by repeat' constructor); exact rfl; exact rfl; exact (by repeat' constructor)))) ?_ | (simp only [thenQ, blockQ]; refine q_retS (by assumption) rfl (by repeat (first | exact .nil | (apply RV.tmp; exact (by repeat' constructor)) | (apply RV.cell; exact rfl; exact (by repeat' constructor); exact rfl; exact rfl; exact (by repeat' constructor)))) ?_))
  all_goals refine ⟨?_, Sat.keeps (by assumption)⟩
  all_goals first | rfl | simp [pack]
end Go.Proofs.Ytdkknknebehkgaa
