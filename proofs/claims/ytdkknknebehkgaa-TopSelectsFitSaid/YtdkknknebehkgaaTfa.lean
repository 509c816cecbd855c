/- Tolerance grades: steps, tolerances: what the program's and the reference's functions return. No statement of the seat is proved here. -/
import Derived.Test.YtdkknknebehkgaaClq
namespace Go.Proofs.Ytdkknknebehkgaa
set_option linter.unusedVariables false
set_option linter.unusedSimpArgs false
open Go Go.RowKit
def bases : List Int := [6, 8, 9, 11, 13, 16, 19, 22]
def mosts : List Int := [3000, 6000, 10000, 18000, 30000, 50000, 80000, 100000]
def facs : List Int := [7, 10, 16, 25, 40, 64, 100, 160]
def shifts : List Int := [50, 31, 16, 6, 0, 0, 2, 9, 15, 22]
def atN (s : Int) : Nat := if s ≤ 3000 then 0 else if s ≤ 6000 then 1 else if s ≤ 10000 then 2 else if s ≤ 18000 then 3 else if s ≤ 30000 then 4 else if s ≤ 50000 then 5 else if s ≤ 80000 then 6 else 7
theorem atN_lt (s : Int) : atN s < 8 := by unfold atN; (repeat' split) <;> omega
def baseT (s : Int) : Int := bases.getD (atN s) 0
def facT (g : Int) : Int := facs.getD (g - 5).toNat 0
def shiftT (l : Int) : Int := shifts.getD l.toNat 0
theorem bases_b : ∀ i : Nat, i < 8 → 6 ≤ bases.getD i 0 ∧ bases.getD i 0 ≤ 22 := by decide
theorem facs_b : ∀ i : Nat, i < 8 → 7 ≤ facs.getD i 0 ∧ facs.getD i 0 ≤ 160 := by decide
theorem shifts_b : ∀ i : Nat, i < 10 → 0 ≤ shifts.getD i 0 ∧ shifts.getD i 0 ≤ 50 := by decide
theorem baseT_b (s : Int) : 6 ≤ baseT s ∧ baseT s ≤ 22 := bases_b _ (atN_lt s)
theorem facT_b {g : Int} (h : 5 ≤ g ∧ g ≤ 12) : 7 ≤ facT g ∧ facT g ≤ 160 := facs_b _ (by omega)
theorem shiftT_b {l : Int} (h : 0 ≤ l ∧ l < 10) : 0 ≤ shiftT l ∧ shiftT l ≤ 50 := shifts_b _ (by omega)
theorem mul_b {a b : Int} (ha : 6 ≤ a ∧ a ≤ 22) (hb : 0 ≤ b ∧ b ≤ 160) : 0 ≤ a * b ∧ a * b ≤ 3520 := by
  have h1 := Int.mul_nonneg (show (0 : Int) ≤ a by omega) hb.1
  have h2 := Int.mul_nonneg (show (0 : Int) ≤ 22 - a by omega) hb.1
  rw [Int.sub_mul] at h2
  exact ⟨h1, by omega⟩
def wide (s g : Int) : Int := (baseT s * facT g + 5) / 10
def shS (s l : Int) : Int := baseT s * shiftT l / 10
theorem wide_b {s g : Int} (h : 5 ≤ g ∧ g ≤ 12) : 0 ≤ wide s g ∧ wide s g ≤ 352 := by
  have := mul_b (baseT_b s) (show 0 ≤ facT g ∧ facT g ≤ 160 by have := facT_b h; omega)
  unfold wide; omega
theorem shS_b {s l : Int} (h : 0 ≤ l ∧ l < 10) : 0 ≤ shS s l ∧ shS s l ≤ 352 := by
  have := mul_b (baseT_b s) (show 0 ≤ shiftT l ∧ shiftT l ≤ 160 by have := shiftT_b h; omega)
  unfold shS; omega
def sizeE (s : Int) : Int := if s < 1 ∨ 100000 < s then 2 else 0
def gradeE (g : Int) : Int := if g < 5 ∨ 12 < g then 2 else 0
def clsE (l g : Int) : Int := if l < 0 ∨ 10 ≤ l then 1 else gradeE g
def stV (i : Int) : Value := .agg #[.int .i64 (mosts.getD i.toNat 0), .int .i64 (bases.getD i.toNat 0)]
theorem nat8 {P : Nat → Prop} (h : P 0 ∧ P 1 ∧ P 2 ∧ P 3 ∧ P 4 ∧ P 5 ∧ P 6 ∧ P 7) : ∀ i : Nat, i < 8 → P i := by
  intro i hi
  obtain ⟨h0, h1, h2, h3, h4, h5, h6, h7⟩ := h
  match i, hi with
  | 0, _ => exact h0
  | 1, _ => exact h1
  | 2, _ => exact h2
  | 3, _ => exact h3
  | 4, _ => exact h4
  | 5, _ => exact h5
  | 6, _ => exact h6
  | 7, _ => exact h7
set_option maxRecDepth 100000 in
theorem e_gsteps : Ent Try.prog 69 := fun _ _ => rfl
set_option maxRecDepth 4000 in
set_option maxHeartbeats 2000000 in
theorem gsteps_c  (w : World) : Calls Try.prog 69 #[] w (RetP (Val (.agg #[.int .i64 3000, .int .i64 6, .int .i64 6000, .int .i64 8, .int .i64 10000, .int .i64 9, .int .i64 18000, .int .i64 11, .int .i64 30000, .int .i64 13, .int .i64 50000, .int .i64 16, .int .i64 80000, .int .i64 19, .int .i64 100000, .int .i64 22]) w)) := by
  refine calls_of_cw (args := []) Try.func69 rfl rfl ?_
  have S := Sat.start [] w
  (repeat' (first | apply cw_seq | apply cw_region | apply wl_nil | apply cw_ret | (apply x_alloc; assumption; exact rfl; exact rfl; exact rfl; (exact (by repeat' constructor)); intro _ _ _) | (apply x_store; assumption; exact rfl; exact rfl; (exact (by repeat' constructor)); (exact (by repeat' constructor)); exact rfl; exact rfl; exact rfl; (exact (by repeat' constructor)); intro _ _) | (apply x_build; exact rfl; exact rfl; exact rfl; (exact (by repeat' constructor)))))
  all_goals (first | refine q_retS (by assumption) rfl (by repeat (first | exact .nil | (apply RV.tmp; exact (by repeat' constructor)) | (apply RV.cell; exact rfl; exact (by repeat' constructor); exact rfl; exact rfl; exact (by repeat' constructor)))) ?_ | (simp only [thenQ, blockQ]; refine q_retS (by assumption) rfl (by repeat (first | exact .nil | (apply RV.tmp; exact (by repeat' constructor)) | (apply RV.cell; exact rfl; exact (by repeat' constructor); exact rfl; exact rfl; exact (by repeat' constructor)))) ?_))
  all_goals exact ⟨rfl, Sat.keeps (by assumption)⟩
set_option maxRecDepth 100000 in
theorem e_gfactors : Ent Try.prog 78 := fun _ _ => rfl
set_option maxRecDepth 4000 in
set_option maxHeartbeats 2000000 in
theorem gfactors_c  (w : World) : Calls Try.prog 78 #[] w (RetP (Val (.agg #[.int .i64 7, .int .i64 10, .int .i64 16, .int .i64 25, .int .i64 40, .int .i64 64, .int .i64 100, .int .i64 160]) w)) := by
  refine calls_of_cw (args := []) Try.func78 rfl rfl ?_
  have S := Sat.start [] w
  (repeat' (first | apply cw_seq | apply cw_region | apply wl_nil | apply cw_ret | (apply x_alloc; assumption; exact rfl; exact rfl; exact rfl; (exact (by repeat' constructor)); intro _ _ _) | (apply x_store; assumption; exact rfl; exact rfl; (exact (by repeat' constructor)); (exact (by repeat' constructor)); exact rfl; exact rfl; exact rfl; (exact (by repeat' constructor)); intro _ _) | (apply x_build; exact rfl; exact rfl; exact rfl; (exact (by repeat' constructor)))))
  all_goals (first | refine q_retS (by assumption) rfl (by repeat (first | exact .nil | (apply RV.tmp; exact (by repeat' constructor)) | (apply RV.cell; exact rfl; exact (by repeat' constructor); exact rfl; exact rfl; exact (by repeat' constructor)))) ?_ | (simp only [thenQ, blockQ]; refine q_retS (by assumption) rfl (by repeat (first | exact .nil | (apply RV.tmp; exact (by repeat' constructor)) | (apply RV.cell; exact rfl; exact (by repeat' constructor); exact rfl; exact rfl; exact (by repeat' constructor)))) ?_))
  all_goals exact ⟨rfl, Sat.keeps (by assumption)⟩
set_option maxRecDepth 100000 in
theorem e_gsized : Ent Try.prog 58 := fun _ _ => rfl
set_option maxRecDepth 4000 in
set_option maxHeartbeats 2000000 in
theorem gsized_c (s : Int) (w : World) : Calls Try.prog 58 #[.int .i64 s] w (RetP (Val (.int .i64 (sizeE s)) w)) := by
  refine calls_of_cw (args := [.int .i64 s]) Try.func58 rfl rfl ?_
  have S := Sat.start [] w
  (repeat' (first | apply cw_seq | apply cw_region | apply wl_nil | apply cw_skip | apply cw_ret | (apply x_not; exact rfl; exact rfl) | (apply x_move; exact rfl; exact rfl; (exact (by repeat' constructor))) | (apply x_assign; exact rfl; exact rfl; (exact (by repeat' constructor))) | (apply x_bin; exact rfl; exact rfl; exact rfl; (first | exact .z (.wrap (by omega)) | exact (by repeat' constructor))) | (apply x_pick; exact rfl; exact rfl; exact rfl; (exact (by repeat' constructor))) | (apply cw_true; exact rfl) | (apply x_dec; exact rfl; all_goals (intro _; try omega)) | (apply x_gdec; exact rfl; exact rfl; all_goals (intro _; try omega))))
  all_goals (first | refine q_retS (by assumption) rfl (by repeat (first | exact .nil | (apply RV.tmp; exact (by repeat' constructor)) | (apply RV.cell; exact rfl; exact (by repeat' constructor); exact rfl; exact rfl; exact (by repeat' constructor)))) ?_ | (simp only [thenQ, blockQ]; refine q_retS (by assumption) rfl (by repeat (first | exact .nil | (apply RV.tmp; exact (by repeat' constructor)) | (apply RV.cell; exact rfl; exact (by repeat' constructor); exact rfl; exact rfl; exact (by repeat' constructor)))) ?_))
  all_goals refine ⟨?_, Sat.keeps (by assumption)⟩
  all_goals first | (rw [sizeE, if_pos (by omega)]; rfl) | (rw [sizeE, if_neg (by omega)]; rfl)
set_option maxRecDepth 100000 in
theorem e_ggraded : Ent Try.prog 46 := fun _ _ => rfl
set_option maxRecDepth 4000 in
set_option maxHeartbeats 2000000 in
theorem ggraded_c (s : Int) (w : World) : Calls Try.prog 46 #[.int .i64 s] w (RetP (Val (.int .i64 (gradeE s)) w)) := by
  refine calls_of_cw (args := [.int .i64 s]) Try.func46 rfl rfl ?_
  have S := Sat.start [] w
  (repeat' (first | apply cw_seq | apply cw_region | apply wl_nil | apply cw_skip | apply cw_ret | (apply x_not; exact rfl; exact rfl) | (apply x_move; exact rfl; exact rfl; (exact (by repeat' constructor))) | (apply x_assign; exact rfl; exact rfl; (exact (by repeat' constructor))) | (apply x_bin; exact rfl; exact rfl; exact rfl; (first | exact .z (.wrap (by omega)) | exact (by repeat' constructor))) | (apply x_pick; exact rfl; exact rfl; exact rfl; (exact (by repeat' constructor))) | (apply cw_true; exact rfl) | (apply x_dec; exact rfl; all_goals (intro _; try omega)) | (apply x_gdec; exact rfl; exact rfl; all_goals (intro _; try omega))))
  all_goals (first | refine q_retS (by assumption) rfl (by repeat (first | exact .nil | (apply RV.tmp; exact (by repeat' constructor)) | (apply RV.cell; exact rfl; exact (by repeat' constructor); exact rfl; exact rfl; exact (by repeat' constructor)))) ?_ | (simp only [thenQ, blockQ]; refine q_retS (by assumption) rfl (by repeat (first | exact .nil | (apply RV.tmp; exact (by repeat' constructor)) | (apply RV.cell; exact rfl; exact (by repeat' constructor); exact rfl; exact rfl; exact (by repeat' constructor)))) ?_))
  all_goals refine ⟨?_, Sat.keeps (by assumption)⟩
  all_goals first | (rw [gradeE, if_pos (by omega)]; rfl) | (rw [gradeE, if_neg (by omega)]; rfl)
set_option maxRecDepth 100000 in
theorem e_gCheck : Ent Try.prog 30 := fun _ _ => rfl
set_option maxRecDepth 4000 in
set_option maxHeartbeats 2000000 in
theorem gCheck_c (b : Bool) (l g : Int) (w : World) : Calls Try.prog 30 #[.agg #[.bool b, .int .i64 l, .int .i64 g]] w (RetP (Val (.int .i64 (clsE l g)) w)) := by
  refine calls_of_cw (args := [.agg #[.bool b, .int .i64 l, .int .i64 g]]) Try.func30 rfl rfl ?_
  have S := Sat.start [] w
  (repeat' (first | apply cw_seq | apply cw_region | apply wl_nil | apply cw_skip | apply cw_ret | (apply x_callv; assumption; exact rfl; exact rfl; exact rfl; exact e_ggraded; (exact (by repeat' constructor)); exact (ggraded_c g _); intro _ _ _) | (apply x_not; exact rfl; exact rfl) | (apply x_move; exact rfl; exact rfl; (exact (by repeat' constructor))) | (apply x_assign; exact rfl; exact rfl; (exact (by repeat' constructor))) | (apply x_fieldB; exact rfl; exact rfl; exact rfl; exact rfl; (constructor)) | (apply x_load; assumption; exact rfl; exact rfl; exact rfl; (exact (by repeat' constructor)); exact rfl; exact rfl; (exact (by repeat' constructor))) | (apply x_bin; exact rfl; exact rfl; exact rfl; (first | exact .z (.wrap (by omega)) | exact (by repeat' constructor))) | (apply x_pick; exact rfl; exact rfl; exact rfl; (exact (by repeat' constructor))) | (apply x_box; assumption; exact rfl; exact rfl; (exact (by repeat' constructor)); (exact (by repeat' constructor)); intro _ _ _) | (apply cw_true; exact rfl) | (apply x_dec; exact rfl; all_goals (intro _; try omega)) | (apply x_gdec; exact rfl; exact rfl; all_goals (intro _; try omega))))
  all_goals (first | refine q_retS (by assumption) rfl (by repeat (first | exact .nil | (apply RV.tmp; exact (by repeat' constructor)) | (apply RV.cell; exact rfl; exact (by repeat' constructor); exact rfl; exact rfl; exact (by repeat' constructor)))) ?_ | (simp only [thenQ, blockQ]; refine q_retS (by assumption) rfl (by repeat (first | exact .nil | (apply RV.tmp; exact (by repeat' constructor)) | (apply RV.cell; exact rfl; exact (by repeat' constructor); exact rfl; exact rfl; exact (by repeat' constructor)))) ?_))
  all_goals refine ⟨?_, Sat.keeps (by assumption)⟩
  all_goals first | (rw [clsE, if_pos (by omega)]; rfl) | (rw [clsE, if_neg (by omega)]; rfl)
set_option maxRecDepth 100000 in
theorem e_gindex1 : Ent Try.prog 80 := fun _ _ => rfl
set_option maxRecDepth 4000 in
set_option maxHeartbeats 2000000 in
theorem gindex1_c (m b s : Int) (bx : Nat) (w : World) (O1 : OldB w [] bx 3 [.int .i64 s]) : Calls Try.prog 80 #[.agg #[.int .i64 (m), .int .i64 (b)], .pointer (some ⟨bx, 0, none⟩)] w (RetP (Val (.bool (decide (s ≤ m))) w)) := by
  refine calls_of_cw (args := [.agg #[.int .i64 (m), .int .i64 (b)], .pointer (some ⟨bx, 0, none⟩)]) Try.func80 rfl rfl ?_
  have S := Sat.start [] w
  (repeat' (first | apply cw_seq | apply cw_region | apply wl_nil | apply cw_ret | (apply x_assign; exact rfl; exact rfl; (exact (by repeat' constructor))) | (apply x_fieldB; exact rfl; exact rfl; exact rfl; exact rfl; (constructor)) | (apply x_load; assumption; exact rfl; exact rfl; exact rfl; (exact (by repeat' constructor)); exact rfl; exact rfl; (exact (by repeat' constructor))) | (apply x_bin; exact rfl; exact rfl; exact rfl; (first | exact .z (.wrap (by omega)) | exact (by repeat' constructor))) | (apply x_box; assumption; exact rfl; exact rfl; (exact (by repeat' constructor)); (exact (by repeat' constructor)); intro _ _ _) | (apply x_loadB; assumption; exact rfl; exact rfl; exact rfl; assumption; exact rfl; exact rfl; (exact (by repeat' constructor)))))
  all_goals (first | refine q_retS (by assumption) rfl (by repeat (first | exact .nil | (apply RV.tmp; exact (by repeat' constructor)) | (apply RV.cell; exact rfl; exact (by repeat' constructor); exact rfl; exact rfl; exact (by repeat' constructor)))) ?_ | (simp only [thenQ, blockQ]; refine q_retS (by assumption) rfl (by repeat (first | exact .nil | (apply RV.tmp; exact (by repeat' constructor)) | (apply RV.cell; exact rfl; exact (by repeat' constructor); exact rfl; exact rfl; exact (by repeat' constructor)))) ?_))
  all_goals exact ⟨rfl, Sat.keeps (by assumption)⟩
end Go.Proofs.Ytdkknknebehkgaa
