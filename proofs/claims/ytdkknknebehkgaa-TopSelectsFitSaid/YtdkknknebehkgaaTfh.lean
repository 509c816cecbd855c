/- Fits: clearances, the reference's check, runs. No statement of the seat is proved here. -/
import Derived.Test.YtdkknknebehkgaaTfg
namespace Go.Proofs.Ytdkknknebehkgaa
set_option linter.unusedVariables false
set_option linter.unusedSimpArgs false
open Go Go.RowKit
theorem limS_b (b : Bool) (s l g : Int) : 0 ≤ (limS b s l g).1.1 ∧ (limS b s l g).1.1 ≤ (limS b s l g).1.2 ∧ (limS b s l g).1.2 ≤ 100000 := by
  unfold limS
  split
  · simp
  · rename_i h
    have := devS_b (Classical.not_not.1 h)
    split
    · simp
    · simp only; omega
theorem ckB_b (f : Ft) : (0 ≤ (ckB f).1.1 ∧ (ckB f).1.1 ≤ (ckB f).1.2 ∧ (ckB f).1.2 ≤ 100000) ∧ (0 ≤ (ckB f).2.1 ∧ (ckB f).2.1 ≤ (ckB f).2.2 ∧ (ckB f).2.2 ≤ 100000) := by
  unfold ckB
  split
  · exact ⟨limS_b _ _ _ _, limS_b _ _ _ _⟩
  · simp
set_option maxRecDepth 100000 in
theorem e_fclr : Ent Try.prog 18 := fun _ _ => rfl
set_option maxRecDepth 4000 in
set_option maxHeartbeats 2000000 in
theorem fclr_c (a b c d : Int) (ha : 0 ≤ a ∧ a ≤ b ∧ b ≤ 100000) (hc : 0 ≤ c ∧ c ≤ d ∧ d ≤ 100000) (w : World) : Calls Try.prog 18 #[.agg #[.int .i64 a, .int .i64 b, .int .i64 c, .int .i64 d]] w (RetP (Val (.agg #[.int .i64 (a - d), .int .i64 (b - c)]) w)) := by
  refine calls_of_cw (args := [.agg #[.int .i64 a, .int .i64 b, .int .i64 c, .int .i64 d]]) Try.func18 rfl rfl ?_
  have S := Sat.start [] w
  (repeat' (first | apply cw_seq | apply cw_region | apply wl_nil | apply cw_ret | (apply x_fieldB; exact rfl; exact rfl; exact rfl; exact rfl; (constructor)) | (apply x_load; assumption; exact rfl; exact rfl; exact rfl; (exact (by repeat' constructor)); exact rfl; exact rfl; (exact (by repeat' constructor))) | (apply x_bin; exact rfl; exact rfl; exact rfl; (first | exact .z (.wrap (by omega)) | exact (by repeat' constructor))) | (apply x_box; assumption; exact rfl; exact rfl; (exact (by repeat' constructor)); (exact (by repeat' constructor)); intro _ _ _) | (apply x_alloc; assumption; exact rfl; exact rfl; exact rfl; (exact (by repeat' constructor)); intro _ _ _) | (apply x_store; assumption; exact rfl; exact rfl; (exact (by repeat' constructor)); (exact (by repeat' constructor)); exact rfl; exact rfl; exact rfl; (exact (by repeat' constructor)); intro _ _) | (apply x_build; exact rfl; exact rfl; exact rfl; (exact (by repeat' constructor)))))
  all_goals (first | refine q_retS (by assumption) rfl (by repeat (first | exact .nil | (apply RV.tmp; exact (by repeat' constructor)) | (apply RV.cell; exact rfl; exact (by repeat' constructor); exact rfl; exact rfl; exact (by repeat' constructor)))) ?_ | (simp only [thenQ, blockQ]; refine q_retS (by assumption) rfl (by repeat (first | exact .nil | (apply RV.tmp; exact (by repeat' constructor)) | (apply RV.cell; exact rfl; exact (by repeat' constructor); exact rfl; exact rfl; exact (by repeat' constructor)))) ?_))
  all_goals exact ⟨rfl, Sat.keeps (by assumption)⟩
def clrS (f : Ft) : Int × Int := ((ckB f).1.1 - (ckB f).2.2, (ckB f).1.2 - (ckB f).2.1)
set_option maxRecDepth 100000 in
theorem e_fClear : Ent Try.prog 8 := fun _ _ => rfl
set_option maxRecDepth 4000 in
set_option maxHeartbeats 2000000 in
theorem fClear_c (f : Ft) (w : World) : Calls Try.prog 8 #[.agg #[.int .i64 (f).s, .bool (f).b1, .int .i64 (f).l1, .int .i64 (f).g1, .bool (f).b2, .int .i64 (f).l2, .int .i64 (f).g2]] w (RetP (Val (.tuple #[.agg #[.int .i64 ((clrS f).1), .int .i64 ((clrS f).2)], .int .i64 (fitE f)]) w)) := by
  refine calls_of_cw (args := [.agg #[.int .i64 (f).s, .bool (f).b1, .int .i64 (f).l1, .int .i64 (f).g1, .bool (f).b2, .int .i64 (f).l2, .int .i64 (f).g2]]) Try.func8 rfl rfl ?_
  have S := Sat.start [] w
  (repeat' (first | apply cw_seq | apply cw_region | apply wl_nil | apply cw_ret | (apply x_callv; assumption; exact rfl; exact rfl; exact rfl; exact e_fcheck; (exact (by repeat' constructor)); with_reducible exact (fcheck_c f _); intro _ _ _) | (apply x_callv; assumption; exact rfl; exact rfl; exact rfl; exact e_fclr; (exact (by repeat' constructor)); exact (fclr_c _ _ _ _ (ckB_b f).1 (ckB_b f).2 _); intro _ _ _) | (apply x_move; exact rfl; exact rfl; (exact (by repeat' constructor))) | (apply x_assign; exact rfl; exact rfl; (exact (by repeat' constructor))) | (apply x_fieldB; exact rfl; exact rfl; exact rfl; exact rfl; (constructor)) | (apply x_load; assumption; exact rfl; exact rfl; exact rfl; (exact (by repeat' constructor)); exact rfl; exact rfl; (exact (by repeat' constructor))) | (apply x_box; assumption; exact rfl; exact rfl; (exact (by repeat' constructor)); (exact (by repeat' constructor)); intro _ _ _) | (apply x_alloc; assumption; exact rfl; exact rfl; exact rfl; (exact (by repeat' constructor)); intro _ _ _) | (apply x_store; assumption; exact rfl; exact rfl; (exact (by repeat' constructor)); (exact (by repeat' constructor)); exact rfl; exact rfl; exact rfl; (exact (by repeat' constructor)); intro _ _) | (apply x_extract; exact rfl; exact rfl; exact rfl; (exact (by repeat' constructor)))))
  all_goals (first | refine q_retS (by assumption) rfl (by repeat (first | exact .nil | (apply RV.tmp; exact (by repeat' constructor)) | (apply RV.cell; exact rfl; exact (by repeat' constructor); exact rfl; exact rfl; exact (by repeat' constructor)))) ?_ | (simp only [thenQ, blockQ]; refine q_retS (by assumption) rfl (by repeat (first | exact .nil | (apply RV.tmp; exact (by repeat' constructor)) | (apply RV.cell; exact rfl; exact (by repeat' constructor); exact rfl; exact rfl; exact (by repeat' constructor)))) ?_))
  all_goals exact ⟨rfl, Sat.keeps (by assumption)⟩
set_option maxRecDepth 100000 in
theorem e_r16 : Ent Try.prog 4 := fun _ _ => rfl
set_option maxRecDepth 4000 in
set_option maxHeartbeats 2000000 in
theorem r16_c (f : Ft) (w : World) : Calls Try.prog 4 #[.agg #[.int .i64 (f).s, .bool (f).b1, .int .i64 (f).l1, .int .i64 (f).g1, .bool (f).b2, .int .i64 (f).l2, .int .i64 (f).g2]] w (RetP (Val (.int .i64 (fitE f)) w)) := by
  refine calls_of_cw (args := [.agg #[.int .i64 (f).s, .bool (f).b1, .int .i64 (f).l1, .int .i64 (f).g1, .bool (f).b2, .int .i64 (f).l2, .int .i64 (f).g2]]) Try.func4 rfl rfl ?_
  have S := Sat.start [] w
  (repeat' (first | apply cw_seq | apply cw_region | apply wl_nil | apply cw_skip | apply cw_ret | (apply x_callv; assumption; exact rfl; exact rfl; exact rfl; exact e_rSize; (exact (by repeat' constructor)); with_reducible exact (rSize_c f.s _); intro _ _ _) | (apply x_callv; assumption; exact rfl; exact rfl; exact rfl; exact e_rCls; (exact (by repeat' constructor)); with_reducible exact (rCls_c f.b1 f.l1 f.g1 _); intro _ _ _) | (apply x_callv; assumption; exact rfl; exact rfl; exact rfl; exact e_rCls; (exact (by repeat' constructor)); with_reducible exact (rCls_c f.b2 f.l2 f.g2 _); intro _ _ _) | (apply x_callv; assumption; exact rfl; exact rfl; exact rfl; exact e_rLim; (exact (by repeat' constructor)); with_reducible exact (rLim_c f.b1 f.s f.l1 f.g1 _); intro _ _ _) | (apply x_callv; assumption; exact rfl; exact rfl; exact rfl; exact e_rLim; (exact (by repeat' constructor)); with_reducible exact (rLim_c f.b2 f.s f.l2 f.g2 _); intro _ _ _) | (apply x_not; exact rfl; exact rfl) | (apply x_move; exact rfl; exact rfl; (exact (by repeat' constructor))) | (apply x_assign; exact rfl; exact rfl; (exact (by repeat' constructor))) | (apply x_fieldB; exact rfl; exact rfl; exact rfl; exact rfl; (constructor)) | (apply x_load; assumption; exact rfl; exact rfl; exact rfl; (exact (by repeat' constructor)); exact rfl; exact rfl; (exact (by repeat' constructor))) | (apply x_bin; exact rfl; exact rfl; exact rfl; (first | exact .z (.wrap (by omega)) | exact (by repeat' constructor))) | (apply x_pick; exact rfl; exact rfl; exact rfl; (exact (by repeat' constructor))) | (apply x_un; exact rfl; exact rfl; exact rfl; (first | exact .z (.wrap (by omega)) | exact (by repeat' constructor))) | (apply x_box; assumption; exact rfl; exact rfl; (exact (by repeat' constructor)); (exact (by repeat' constructor)); intro _ _ _) | (apply x_alloc; assumption; exact rfl; exact rfl; exact rfl; (exact (by repeat' constructor)); intro _ _ _) | (apply x_store; assumption; exact rfl; exact rfl; (exact (by repeat' constructor)); (exact (by repeat' constructor)); exact rfl; exact rfl; exact rfl; (exact (by repeat' constructor)); intro _ _) | (apply x_extract; exact rfl; exact rfl; exact rfl; (exact (by repeat' constructor))) | (apply cw_true; exact rfl) | (apply cw_ne; exact rfl; all_goals (intro _; try omega)) | (apply cw_cond; exact rfl; all_goals (intro _; try omega)) | (apply x_gnot; exact rfl; exact rfl; all_goals (intro _; try omega))))
  all_goals (first | refine q_retS (by assumption) rfl (by repeat (first | exact .nil | (apply RV.tmp; exact (by repeat' constructor)) | (apply RV.cell; exact rfl; exact (by repeat' constructor); exact rfl; exact rfl; exact (by repeat' constructor)))) ?_ | (simp only [thenQ, blockQ]; refine q_retS (by assumption) rfl (by repeat (first | exact .nil | (apply RV.tmp; exact (by repeat' constructor)) | (apply RV.cell; exact rfl; exact (by repeat' constructor); exact rfl; exact rfl; exact (by repeat' constructor)))) ?_))
  all_goals refine ⟨?_, Sat.keeps (by assumption)⟩
  all_goals first
    | (rw [fitE1 (by with_reducible assumption)]; rfl)
    | (rw [fitE2 (by with_reducible assumption) (by with_reducible assumption)]; rfl)
    | (rw [fitE3 (by with_reducible assumption) (by with_reducible assumption) (by with_reducible assumption)]; rfl)
    | (rw [fitE4 (by with_reducible assumption) (by with_reducible assumption) (by with_reducible assumption) (by first | exact .inl (by with_reducible assumption) | exact .inr (by with_reducible assumption))]; rfl)
    | (rw [fitE5 (by with_reducible assumption) (by with_reducible assumption) (by with_reducible assumption) (by with_reducible assumption) (by with_reducible assumption) (by with_reducible assumption)]; rfl)
    | (rw [fitE6 (by with_reducible assumption) (by with_reducible assumption) (by with_reducible assumption) (by with_reducible assumption) (by with_reducible assumption) (by with_reducible assumption)]; rfl)
/-! ### runs -/
def rt (s l h g : Int) : Ft := ⟨s, true, 4, h, false, l, g⟩
theorem ex_c (w : World) : Calls Try.prog 8 #[.agg #[.int .i64 25000, .bool true, .int .i64 4, .int .i64 7, .bool false, .int .i64 3, .int .i64 6]] w (RetP (Val (.tuple #[.agg #[.int .i64 (7), .int .i64 (41)], .int .i64 0]) w)) :=
  val_of (fClear_c (rt 25000 3 7 6) w) (by rw [show clrS (rt 25000 3 7 6) = (7, 41) by decide, show fitE (rt 25000 3 7 6) = 0 by decide])
end Go.Proofs.Ytdkknknebehkgaa
