/- Tolerance grades: limits of classes, of the program and of the reference. No statement of the seat is proved here. -/
import Derived.Test.YtdkknknebehkgaaTfd
namespace Go.Proofs.Ytdkknknebehkgaa
set_option linter.unusedVariables false
set_option linter.unusedSimpArgs false
open Go Go.RowKit
def devS (b : Bool) (s l g : Int) : (Int × Int) × Int := if ¬ sizeE s = 0 then ((0, 0), sizeE s) else if ¬ clsE l g = 0 then ((0, 0), clsE l g) else (awayV b s l g, 0)
def limS (b : Bool) (s l g : Int) : (Int × Int) × Int := if ¬ (devS b s l g).2 = 0 then ((0, 0), (devS b s l g).2) else if s + (devS b s l g).1.1 < 1 ∨ s + (devS b s l g).1.2 > 100000 then ((0, 0), 2) else ((s + (devS b s l g).1.1, s + (devS b s l g).1.2), 0)
theorem sz0 {s : Int} (h : sizeE s = 0) : 1 ≤ s ∧ s ≤ 100000 := by unfold sizeE at h; split at h <;> omega
theorem cls0 {l g : Int} (h : clsE l g = 0) : (0 ≤ l ∧ l < 10) ∧ (5 ≤ g ∧ g ≤ 12) := by
  unfold clsE gradeE at h
  (repeat' split at h) <;> omega
theorem devS_b {b : Bool} {s l g : Int} (h : (devS b s l g).2 = 0) : (1 ≤ s ∧ s ≤ 100000) ∧ -1000 ≤ (devS b s l g).1.1 ∧ (devS b s l g).1.1 ≤ (devS b s l g).1.2 ∧ (devS b s l g).1.2 ≤ 1000 := by
  unfold devS at h ⊢
  split at h
  · exact absurd h (by assumption)
  · rename_i h1
    split at h
    · exact absurd h (by assumption)
    · rename_i h2
      rw [if_neg h1, if_neg h2]
      have := cls0 (Classical.not_not.1 h2)
      exact ⟨sz0 (Classical.not_not.1 h1), away_b b this.1 this.2⟩
set_option maxRecDepth 100000 in
theorem e_gDev : Ent Try.prog 47 := fun _ _ => rfl
set_option maxRecDepth 4000 in
set_option maxHeartbeats 2000000 in
theorem gDev_c (b : Bool) (s l g : Int) (w : World) : Calls Try.prog 47 #[.int .i64 s, .agg #[.bool (b), .int .i64 (l), .int .i64 (g)]] w (RetP (Val (.tuple #[.agg #[.int .i64 (devS b s l g).1.1, .int .i64 (devS b s l g).1.2], .int .i64 (devS b s l g).2]) w)) := by
  refine calls_of_cw (args := [.int .i64 s, .agg #[.bool (b), .int .i64 (l), .int .i64 (g)]]) Try.func47 rfl rfl ?_
  have S := Sat.start [] w
  (repeat' (first | apply cw_seq | apply cw_region | apply wl_nil | apply cw_skip | apply cw_ret | (apply x_callv; assumption; exact rfl; exact rfl; exact rfl; exact e_gsized; (exact (by repeat' constructor)); exact (gsized_c s _); intro _ _ _) | (apply x_callv; assumption; exact rfl; exact rfl; exact rfl; exact e_gCheck; (exact (by repeat' constructor)); exact (gCheck_c b l g _); intro _ _ _) | (apply x_callv; assumption; exact rfl; exact rfl; exact rfl; exact e_gdev; (exact (by repeat' constructor)); exact (gdev_v (sz0 (by assumption)).2 (cls0 (by assumption)).1 (cls0 (by assumption)).2 _); intro _ _ _) | (apply x_move; exact rfl; exact rfl; (exact (by repeat' constructor))) | (apply x_assign; exact rfl; exact rfl; (exact (by repeat' constructor))) | (apply x_load; assumption; exact rfl; exact rfl; exact rfl; (exact (by repeat' constructor)); exact rfl; exact rfl; (exact (by repeat' constructor))) | (apply x_bin; exact rfl; exact rfl; exact rfl; (first | exact .z (.wrap (by omega)) | exact (by repeat' constructor))) | (apply x_box; assumption; exact rfl; exact rfl; (exact (by repeat' constructor)); (exact (by repeat' constructor)); intro _ _ _) | (apply x_alloc; assumption; exact rfl; exact rfl; exact rfl; (exact (by repeat' constructor)); intro _ _ _) | (apply x_store; assumption; exact rfl; exact rfl; (exact (by repeat' constructor)); (exact (by repeat' constructor)); exact rfl; exact rfl; exact rfl; (exact (by repeat' constructor)); intro _ _) | (apply x_build; exact rfl; exact rfl; exact rfl; (exact (by repeat' constructor))) | (apply cw_ne; exact rfl; all_goals (intro _; try omega))))
  all_goals (first | refine q_retS (by assumption) rfl (by repeat (first | exact .nil | (apply RV.tmp; exact (by repeat' constructor)) | (apply RV.cell; exact rfl; exact (by repeat' constructor); exact rfl; exact rfl; exact (by repeat' constructor)))) ?_ | (simp only [thenQ, blockQ]; refine q_retS (by assumption) rfl (by repeat (first | exact .nil | (apply RV.tmp; exact (by repeat' constructor)) | (apply RV.cell; exact rfl; exact (by repeat' constructor); exact rfl; exact rfl; exact (by repeat' constructor)))) ?_))
  all_goals refine ⟨?_, Sat.keeps (by assumption)⟩
  all_goals first | (rw [devS, if_pos (by assumption)]; rfl) | (rw [devS, if_neg (by simp_all), if_pos (by assumption)]; rfl) | (rw [devS, if_neg (by simp_all), if_neg (by simp_all)]; rfl)
set_option maxRecDepth 100000 in
theorem e_gLim : Ent Try.prog 31 := fun _ _ => rfl
set_option maxRecDepth 4000 in
set_option maxHeartbeats 2000000 in
theorem gLim_c (b : Bool) (s l g : Int) (w : World) : Calls Try.prog 31 #[.int .i64 s, .agg #[.bool (b), .int .i64 (l), .int .i64 (g)]] w (RetP (Val (.tuple #[.agg #[.int .i64 (limS b s l g).1.1, .int .i64 (limS b s l g).1.2], .int .i64 (limS b s l g).2]) w)) := by
  refine calls_of_cw (args := [.int .i64 s, .agg #[.bool (b), .int .i64 (l), .int .i64 (g)]]) Try.func31 rfl rfl ?_
  have S := Sat.start [] w
  (repeat' (first | apply cw_seq | apply cw_region | apply wl_nil | apply cw_skip | apply cw_ret | (apply x_callv; assumption; exact rfl; exact rfl; exact rfl; exact e_gDev; (exact (by repeat' constructor)); exact (gDev_c b s l g _); intro _ _ _) | (apply x_not; exact rfl; exact rfl) | (apply x_move; exact rfl; exact rfl; (exact (by repeat' constructor))) | (apply x_assign; exact rfl; exact rfl; (exact (by repeat' constructor))) | (apply x_fieldB; exact rfl; exact rfl; exact rfl; exact rfl; (constructor)) | (apply x_load; assumption; exact rfl; exact rfl; exact rfl; (exact (by repeat' constructor)); exact rfl; exact rfl; (exact (by repeat' constructor))) | (apply x_bin; exact rfl; exact rfl; exact rfl; (first | exact .z (.wrap (by first | omega | (have hb := devS_b (by assumption); omega))) | exact (by repeat' constructor))) | (apply x_pick; exact rfl; exact rfl; exact rfl; (exact (by repeat' constructor))) | (apply x_box; assumption; exact rfl; exact rfl; (exact (by repeat' constructor)); (exact (by repeat' constructor)); intro _ _ _) | (apply x_alloc; assumption; exact rfl; exact rfl; exact rfl; (exact (by repeat' constructor)); intro _ _ _) | (apply x_store; assumption; exact rfl; exact rfl; (exact (by repeat' constructor)); (exact (by repeat' constructor)); exact rfl; exact rfl; exact rfl; (exact (by repeat' constructor)); intro _ _) | (apply x_build; exact rfl; exact rfl; exact rfl; (exact (by repeat' constructor))) | (apply x_extract; exact rfl; exact rfl; exact rfl; (exact (by repeat' constructor))) | (apply cw_true; exact rfl) | (apply x_dec; exact rfl; all_goals (intro _; try omega)) | (apply cw_ne; exact rfl; all_goals (intro _; try omega)) | (apply x_gdec; exact rfl; exact rfl; all_goals (intro _; try omega))))
  all_goals (first | refine q_retS (by assumption) rfl (by repeat (first | exact .nil | (apply RV.tmp; exact (by repeat' constructor)) | (apply RV.cell; exact rfl; exact (by repeat' constructor); exact rfl; exact rfl; exact (by repeat' constructor)))) ?_ | (simp only [thenQ, blockQ]; refine q_retS (by assumption) rfl (by repeat (first | exact .nil | (apply RV.tmp; exact (by repeat' constructor)) | (apply RV.cell; exact rfl; exact (by repeat' constructor); exact rfl; exact rfl; exact (by repeat' constructor)))) ?_))
  all_goals refine ⟨?_, Sat.keeps (by assumption)⟩
  all_goals first | (rw [limS, if_pos (by assumption)]; rfl) | (rw [limS, if_neg (by simp_all), if_pos (by omega)]; rfl) | (rw [limS, if_neg (by simp_all), if_neg (by omega)]; rfl)
/-! ### the reference -/
set_option maxRecDepth 100000 in
theorem e_rSize : Ent Try.prog 11 := fun _ _ => rfl
set_option maxRecDepth 4000 in
set_option maxHeartbeats 2000000 in
theorem rSize_c (s : Int) (w : World) : Calls Try.prog 11 #[.int .i64 s] w (RetP (Val (.int .i64 (sizeE s)) w)) := by
  refine calls_of_cw (args := [.int .i64 s]) Try.func11 rfl rfl ?_
  have S := Sat.start [] w
  (repeat' (first | apply cw_seq | apply cw_region | apply wl_nil | apply cw_skip | apply cw_ret | (apply x_not; exact rfl; exact rfl) | (apply x_move; exact rfl; exact rfl; (exact (by repeat' constructor))) | (apply x_assign; exact rfl; exact rfl; (exact (by repeat' constructor))) | (apply x_bin; exact rfl; exact rfl; exact rfl; (first | exact .z (.wrap (by omega)) | exact (by repeat' constructor))) | (apply x_pick; exact rfl; exact rfl; exact rfl; (exact (by repeat' constructor))) | (apply cw_true; exact rfl) | (apply x_dec; exact rfl; all_goals (intro _; try omega)) | (apply x_gdec; exact rfl; exact rfl; all_goals (intro _; try omega))))
  all_goals (first | refine q_retS (by assumption) rfl (by repeat (first | exact .nil | (apply RV.tmp; exact (by repeat' constructor)) | (apply RV.cell; exact rfl; exact (by repeat' constructor); exact rfl; exact rfl; exact (by repeat' constructor)))) ?_ | (simp only [thenQ, blockQ]; refine q_retS (by assumption) rfl (by repeat (first | exact .nil | (apply RV.tmp; exact (by repeat' constructor)) | (apply RV.cell; exact rfl; exact (by repeat' constructor); exact rfl; exact rfl; exact (by repeat' constructor)))) ?_))
  all_goals refine ⟨?_, Sat.keeps (by assumption)⟩
  all_goals first | (rw [sizeE, if_pos (by omega)]; rfl) | (rw [sizeE, if_neg (by omega)]; rfl)
set_option maxRecDepth 100000 in
theorem e_rCls : Ent Try.prog 12 := fun _ _ => rfl
set_option maxRecDepth 4000 in
set_option maxHeartbeats 2000000 in
theorem rCls_c (b : Bool) (l g : Int) (w : World) : Calls Try.prog 12 #[.agg #[.bool (b), .int .i64 (l), .int .i64 (g)]] w (RetP (Val (.int .i64 (clsE l g)) w)) := by
  refine calls_of_cw (args := [.agg #[.bool (b), .int .i64 (l), .int .i64 (g)]]) Try.func12 rfl rfl ?_
  have S := Sat.start [] w
  (repeat' (first | apply cw_seq | apply cw_region | apply wl_nil | apply cw_skip | apply cw_ret | (apply x_not; exact rfl; exact rfl) | (apply x_move; exact rfl; exact rfl; (exact (by repeat' constructor))) | (apply x_assign; exact rfl; exact rfl; (exact (by repeat' constructor))) | (apply x_fieldB; exact rfl; exact rfl; exact rfl; exact rfl; (constructor)) | (apply x_load; assumption; exact rfl; exact rfl; exact rfl; (exact (by repeat' constructor)); exact rfl; exact rfl; (exact (by repeat' constructor))) | (apply x_bin; exact rfl; exact rfl; exact rfl; (first | exact .z (.wrap (by omega)) | exact (by repeat' constructor))) | (apply x_pick; exact rfl; exact rfl; exact rfl; (exact (by repeat' constructor))) | (apply x_box; assumption; exact rfl; exact rfl; (exact (by repeat' constructor)); (exact (by repeat' constructor)); intro _ _ _) | (apply cw_true; exact rfl) | (apply x_dec; exact rfl; all_goals (intro _; try omega)) | (apply x_gdec; exact rfl; exact rfl; all_goals (intro _; try omega))))
  all_goals (first | refine q_retS (by assumption) rfl (by repeat (first | exact .nil | (apply RV.tmp; exact (by repeat' constructor)) | (apply RV.cell; exact rfl; exact (by repeat' constructor); exact rfl; exact rfl; exact (by repeat' constructor)))) ?_ | (simp only [thenQ, blockQ]; refine q_retS (by assumption) rfl (by repeat (first | exact .nil | (apply RV.tmp; exact (by repeat' constructor)) | (apply RV.cell; exact rfl; exact (by repeat' constructor); exact rfl; exact rfl; exact (by repeat' constructor)))) ?_))
  all_goals refine ⟨?_, Sat.keeps (by assumption)⟩
  all_goals first | (rw [clsE, if_pos (by omega)]; rfl) | (rw [clsE, if_neg (by omega), gradeE, if_pos (by omega)]; rfl) | (rw [clsE, if_neg (by omega), gradeE, if_neg (by omega)]; rfl)
theorem at_sum (s : Int) : (atN s : Int) = (if s > 3000 then 1 else 0) + (if s > 6000 then 1 else 0) + (if s > 10000 then 1 else 0) + (if s > 18000 then 1 else 0) + (if s > 30000 then 1 else 0) + (if s > 50000 then 1 else 0) + (if s > 80000 then 1 else 0) := by
  unfold atN
  (repeat' split) <;> omega
set_option maxRecDepth 100000 in
theorem e_rAt : Ent Try.prog 57 := fun _ _ => rfl
set_option maxRecDepth 4000 in
set_option maxHeartbeats 2000000 in
theorem rAt_c (s : Int) (w : World) : Calls Try.prog 57 #[.int .i64 s] w (RetP (Val (.int .i64 (atN s : Nat)) w)) := by
  refine calls_of_cw (args := [.int .i64 s]) Try.func57 rfl rfl ?_
  have S := Sat.start [] w
  (repeat' (first | apply cw_seq | apply cw_region | apply wl_nil | apply cw_block | apply cw_skip | apply cw_exit | apply cw_ret | (refine cw_rounds 8 ?_) | (apply x_addK; exact rfl; exact rfl; exact rfl; exact rfl; constructor) | (apply x_indexK; exact rfl; exact rfl; exact rfl; exact rfl; exact rfl; (constructor); (constructor); (exact (by decide)); (exact (by decide)); exact rfl) | (apply x_move; exact rfl; exact rfl; (exact (by repeat' constructor))) | (apply x_assign; exact rfl; exact rfl; (exact (by repeat' constructor))) | (apply x_load; assumption; exact rfl; exact rfl; exact rfl; (exact (by repeat' constructor)); exact rfl; exact rfl; (exact (by repeat' constructor))) | (apply x_bin; exact rfl; exact rfl; exact rfl; (first | exact .z (.wrap (by omega)) | exact (by repeat' constructor))) | (apply x_builtin; exact rfl; exact rfl; exact (fun _ => rfl); (exact (by repeat' constructor))) | (apply x_buildSlice; assumption; exact rfl; exact rfl; exact rfl; (exact (by repeat' constructor)); intro _ _ _) | (apply cw_true; exact rfl) | (apply cw_false; exact rfl) | (apply x_dec; exact rfl; all_goals (intro _; try omega))))
  all_goals (first | refine q_retS (by assumption) rfl (by repeat (first | exact .nil | (apply RV.tmp; exact (by repeat' constructor)) | (apply RV.cell; exact rfl; exact (by repeat' constructor); exact rfl; exact rfl; exact (by repeat' constructor)))) ?_ | (simp only [thenQ, blockQ]; refine q_retS (by assumption) rfl (by repeat (first | exact .nil | (apply RV.tmp; exact (by repeat' constructor)) | (apply RV.cell; exact rfl; exact (by repeat' constructor); exact rfl; exact rfl; exact (by repeat' constructor)))) ?_))
  all_goals refine ⟨?_, Sat.keeps (by assumption)⟩
  all_goals (unfold atN; (repeat' split) <;> first | rfl | (exfalso; omega))
theorem int_len (v : Int) : ([.int .i64 v] : List Value).length = 1 := rfl
set_option maxRecDepth 100000 in
theorem e_rBase : Ent Try.prog 45 := fun _ _ => rfl
set_option maxRecDepth 4000 in
set_option maxHeartbeats 2000000 in
theorem rBase_c (s : Int) (w : World) : Calls Try.prog 45 #[.int .i64 s] w (RetP (Val (.int .i64 (baseT s)) w)) := by
  refine calls_of_cw (args := [.int .i64 s]) Try.func45 rfl rfl ?_
  have S := Sat.start [] w
  (repeat' (first | apply cw_seq | apply cw_region | apply wl_nil | apply cw_ret | (apply x_callv; assumption; exact rfl; exact rfl; exact rfl; exact e_rAt; (exact (by repeat' constructor)); exact (rAt_c s _); intro _ _ _) | (apply x_index; exact rfl; exact rfl; exact rfl; exact rfl; exact rfl; (constructor); (exact atN_lt s); exact rfl) | (apply x_loadR; exact rfl; exact rfl; exact rfl; exact Sat.rdflat (l := bases) (0 : Int) (en := fun v => [.int .i64 v]) int_len (by assumption) (by exact (by repeat' constructor)); (exact atN_lt s); exact rfl; exact rfl; (exact (by repeat' constructor))) | (apply x_move; exact rfl; exact rfl; (exact (by repeat' constructor))) | (apply x_assign; exact rfl; exact rfl; (exact (by repeat' constructor))) | (apply x_buildSlice; assumption; exact rfl; exact rfl; exact rfl; (exact (by repeat' constructor)); intro _ _ _)))
  all_goals (first | refine q_retS (by assumption) rfl (by repeat (first | exact .nil | (apply RV.tmp; exact (by repeat' constructor)) | (apply RV.cell; exact rfl; exact (by repeat' constructor); exact rfl; exact rfl; exact (by repeat' constructor)))) ?_ | (simp only [thenQ, blockQ]; refine q_retS (by assumption) rfl (by repeat (first | exact .nil | (apply RV.tmp; exact (by repeat' constructor)) | (apply RV.cell; exact rfl; exact (by repeat' constructor); exact rfl; exact rfl; exact (by repeat' constructor)))) ?_))
  all_goals exact ⟨rfl, Sat.keeps (by assumption)⟩
end Go.Proofs.Ytdkknknebehkgaa
