/- Fits: checks, limits, clearances, of the program and of the reference. No statement of the seat is proved here. -/
import Derived.Test.YtdkknknebehkgaaTff
namespace Go.Proofs.Ytdkknknebehkgaa
set_option linter.unusedVariables false
set_option linter.unusedSimpArgs false
open Go Go.RowKit
structure Ft where
  s : Int
  b1 : Bool
  l1 : Int
  g1 : Int
  b2 : Bool
  l2 : Int
  g2 : Int
def ft0 : Ft := ⟨0, false, 0, 0, false, 0, 0⟩
def fitE (f : Ft) : Int := if ¬ sizeE f.s = 0 then sizeE f.s else if ¬ clsE f.l1 f.g1 = 0 then clsE f.l1 f.g1 else if ¬ clsE f.l2 f.g2 = 0 then clsE f.l2 f.g2 else if f.b1 = false ∨ f.b2 = true then 3 else if ¬ (limS f.b1 f.s f.l1 f.g1).2 = 0 then (limS f.b1 f.s f.l1 f.g1).2 else (limS f.b2 f.s f.l2 f.g2).2
theorem fitE1 {f : Ft} (h : ¬ sizeE f.s = 0) : fitE f = sizeE f.s := if_pos h
theorem fitE2 {f : Ft} (h1 : sizeE f.s = 0) (h : ¬ clsE f.l1 f.g1 = 0) : fitE f = clsE f.l1 f.g1 := by rw [fitE, if_neg (fun e => e h1), if_pos h]
theorem fitE3 {f : Ft} (h1 : sizeE f.s = 0) (h2 : clsE f.l1 f.g1 = 0) (h : ¬ clsE f.l2 f.g2 = 0) : fitE f = clsE f.l2 f.g2 := by rw [fitE, if_neg (fun e => e h1), if_neg (fun e => e h2), if_pos h]
theorem fitE4 {f : Ft} (h1 : sizeE f.s = 0) (h2 : clsE f.l1 f.g1 = 0) (h3 : clsE f.l2 f.g2 = 0) (h : f.b1 = false ∨ f.b2 = true) : fitE f = 3 := by rw [fitE, if_neg (fun e => e h1), if_neg (fun e => e h2), if_neg (fun e => e h3), if_pos h]
theorem fitE5 {f : Ft} (h1 : sizeE f.s = 0) (h2 : clsE f.l1 f.g1 = 0) (h3 : clsE f.l2 f.g2 = 0) (h4 : f.b1 = true) (h5 : f.b2 = false) (h : ¬ (limS f.b1 f.s f.l1 f.g1).2 = 0) : fitE f = (limS f.b1 f.s f.l1 f.g1).2 := by rw [fitE, if_neg (fun e => e h1), if_neg (fun e => e h2), if_neg (fun e => e h3), if_neg (by simp [h4, h5]), if_pos h]
theorem fitE6 {f : Ft} (h1 : sizeE f.s = 0) (h2 : clsE f.l1 f.g1 = 0) (h3 : clsE f.l2 f.g2 = 0) (h4 : f.b1 = true) (h5 : f.b2 = false) (h : (limS f.b1 f.s f.l1 f.g1).2 = 0) : fitE f = (limS f.b2 f.s f.l2 f.g2).2 := by rw [fitE, if_neg (fun e => e h1), if_neg (fun e => e h2), if_neg (fun e => e h3), if_neg (by simp [h4, h5]), if_neg (fun e => e h)]
def bothV (f : Ft) : (Int × Int) × (Int × Int) := ((limS f.b1 f.s f.l1 f.g1).1, (limS f.b2 f.s f.l2 f.g2).1)
def ckF (f : Ft) : Ft := if fitE f = 0 then f else ft0
def ckB (f : Ft) : (Int × Int) × (Int × Int) := if fitE f = 0 then bothV f else ((0, 0), (0, 0))
theorem ck_ok {f : Ft} (h : fitE f = 0) : ckF f = f ∧ ckB f = bothV f := ⟨if_pos h, if_pos h⟩
theorem ck_no {f : Ft} (h : ¬ fitE f = 0) : ckF f = ft0 ∧ ckB f = ((0, 0), (0, 0)) := ⟨if_neg h, if_neg h⟩
set_option maxRecDepth 100000 in
theorem e_fsized : Ent Try.prog 29 := fun _ _ => rfl
set_option maxRecDepth 4000 in
set_option maxHeartbeats 2000000 in
theorem fsized_c (s : Int) (w : World) : Calls Try.prog 29 #[.int .i64 s] w (RetP (Val (.int .i64 (sizeE s)) w)) := by
  refine calls_of_cw (args := [.int .i64 s]) Try.func29 rfl rfl ?_
  have S := Sat.start [] w
  (repeat' (first | apply cw_seq | apply cw_region | apply wl_nil | apply cw_skip | apply cw_ret | (apply x_not; exact rfl; exact rfl) | (apply x_move; exact rfl; exact rfl; (exact (by repeat' constructor))) | (apply x_assign; exact rfl; exact rfl; (exact (by repeat' constructor))) | (apply x_bin; exact rfl; exact rfl; exact rfl; (first | exact .z (.wrap (by omega)) | exact (by repeat' constructor))) | (apply x_pick; exact rfl; exact rfl; exact rfl; (exact (by repeat' constructor))) | (apply cw_true; exact rfl) | (apply x_dec; exact rfl; all_goals (intro _; try omega)) | (apply x_gdec; exact rfl; exact rfl; all_goals (intro _; try omega))))
  all_goals (first | refine q_retS (by assumption) rfl (by repeat (first | exact .nil | (apply RV.tmp; exact (by repeat' constructor)) | (apply RV.cell; exact rfl; exact (by repeat' constructor); exact rfl; exact rfl; exact (by repeat' constructor)))) ?_ | (simp only [thenQ, blockQ]; refine q_retS (by assumption) rfl (by repeat (first | exact .nil | (apply RV.tmp; exact (by repeat' constructor)) | (apply RV.cell; exact rfl; exact (by repeat' constructor); exact rfl; exact rfl; exact (by repeat' constructor)))) ?_))
  all_goals refine ⟨?_, Sat.keeps (by assumption)⟩
  all_goals first | (rw [sizeE, if_pos (by omega)]; rfl) | (rw [sizeE, if_neg (by omega)]; rfl)
theorem ckv_no {f : Ft} (h : ¬ fitE f = 0) : Value.tuple #[.agg #[.int .i64 (ckF (f)).s, .bool (ckF (f)).b1, .int .i64 (ckF (f)).l1, .int .i64 (ckF (f)).g1, .bool (ckF (f)).b2, .int .i64 (ckF (f)).l2, .int .i64 (ckF (f)).g2, .int .i64 (ckB (f)).1.1, .int .i64 (ckB (f)).1.2, .int .i64 (ckB (f)).2.1, .int .i64 (ckB (f)).2.2], .int .i64 (fitE (f))] = Value.tuple #[.agg #[.int .i64 0, .bool false, .int .i64 0, .int .i64 0, .bool false, .int .i64 0, .int .i64 0, .int .i64 0, .int .i64 0, .int .i64 0, .int .i64 0], .int .i64 (fitE f)] := by rw [(ck_no h).1, (ck_no h).2]; rfl
theorem ckv_ok {f : Ft} (h : fitE f = 0) : Value.tuple #[.agg #[.int .i64 (ckF (f)).s, .bool (ckF (f)).b1, .int .i64 (ckF (f)).l1, .int .i64 (ckF (f)).g1, .bool (ckF (f)).b2, .int .i64 (ckF (f)).l2, .int .i64 (ckF (f)).g2, .int .i64 (ckB (f)).1.1, .int .i64 (ckB (f)).1.2, .int .i64 (ckB (f)).2.1, .int .i64 (ckB (f)).2.2], .int .i64 (fitE (f))] = Value.tuple #[.agg #[.int .i64 (f).s, .bool (f).b1, .int .i64 (f).l1, .int .i64 (f).g1, .bool (f).b2, .int .i64 (f).l2, .int .i64 (f).g2, .int .i64 (bothV f).1.1, .int .i64 (bothV f).1.2, .int .i64 (bothV f).2.1, .int .i64 (bothV f).2.2], .int .i64 0] := by rw [(ck_ok h).1, (ck_ok h).2, h]
set_option maxRecDepth 100000 in
theorem e_fcheck : Ent Try.prog 17 := fun _ _ => rfl
set_option maxRecDepth 4000 in
set_option maxHeartbeats 2000000 in
theorem fcheck_c (f : Ft) (w : World) : Calls Try.prog 17 #[.agg #[.int .i64 (f).s, .bool (f).b1, .int .i64 (f).l1, .int .i64 (f).g1, .bool (f).b2, .int .i64 (f).l2, .int .i64 (f).g2]] w (RetP (Val (Value.tuple #[.agg #[.int .i64 (ckF (f)).s, .bool (ckF (f)).b1, .int .i64 (ckF (f)).l1, .int .i64 (ckF (f)).g1, .bool (ckF (f)).b2, .int .i64 (ckF (f)).l2, .int .i64 (ckF (f)).g2, .int .i64 (ckB (f)).1.1, .int .i64 (ckB (f)).1.2, .int .i64 (ckB (f)).2.1, .int .i64 (ckB (f)).2.2], .int .i64 (fitE (f))]) w)) := by
  refine calls_of_cw (args := [.agg #[.int .i64 (f).s, .bool (f).b1, .int .i64 (f).l1, .int .i64 (f).g1, .bool (f).b2, .int .i64 (f).l2, .int .i64 (f).g2]]) Try.func17 rfl rfl ?_
  have S := Sat.start [] w
  (repeat' (first | apply cw_seq | apply cw_region | apply wl_nil | apply cw_block | apply cw_skip | apply cw_exit | apply cw_ret | (refine cw_rounds 3 ?_) | (apply x_addK; exact rfl; exact rfl; exact rfl; exact rfl; constructor) | (apply x_indexAggK; exact rfl; exact rfl; exact rfl; exact rfl; (constructor); (first | decide | omega); exact rfl; (exact (by repeat' constructor))) | (apply x_callv; assumption; exact rfl; exact rfl; exact rfl; exact e_fsized; (exact (by repeat' constructor)); with_reducible exact (fsized_c f.s _); intro _ _ _) | (apply x_callv; assumption; exact rfl; exact rfl; exact rfl; exact e_gCheck; (exact (by repeat' constructor)); with_reducible exact (gCheck_c _ _ _ _); intro _ _ _) | (apply x_callv; assumption; exact rfl; exact rfl; exact rfl; exact e_gLim; (exact (by repeat' constructor)); with_reducible exact (gLim_c f.b1 f.s f.l1 f.g1 _); intro _ _ _) | (apply x_callv; assumption; exact rfl; exact rfl; exact rfl; exact e_gLim; (exact (by repeat' constructor)); with_reducible exact (gLim_c f.b2 f.s f.l2 f.g2 _); intro _ _ _) | (apply x_not; exact rfl; exact rfl) | (apply x_move; exact rfl; exact rfl; (exact (by repeat' constructor))) | (apply x_assign; exact rfl; exact rfl; (exact (by repeat' constructor))) | (apply x_fieldB; exact rfl; exact rfl; exact rfl; exact rfl; (constructor)) | (apply x_load; assumption; exact rfl; exact rfl; exact rfl; (exact (by repeat' constructor)); exact rfl; exact rfl; (exact (by repeat' constructor))) | (apply x_bin; exact rfl; exact rfl; exact rfl; (first | exact .z (.wrap (by omega)) | exact (by repeat' constructor))) | (apply x_pick; exact rfl; exact rfl; exact rfl; (exact (by repeat' constructor))) | (apply x_un; exact rfl; exact rfl; exact rfl; (first | exact .z (.wrap (by omega)) | exact (by repeat' constructor))) | (apply x_box; assumption; exact rfl; exact rfl; (exact (by repeat' constructor)); (exact (by repeat' constructor)); intro _ _ _) | (apply x_alloc; assumption; exact rfl; exact rfl; exact rfl; (exact (by repeat' constructor)); intro _ _ _) | (apply x_store; assumption; exact rfl; exact rfl; (exact (by repeat' constructor)); (exact (by repeat' constructor)); exact rfl; exact rfl; exact rfl; (exact (by repeat' constructor)); intro _ _) | (apply x_build; exact rfl; exact rfl; exact rfl; (exact (by repeat' constructor))) | (apply x_extract; exact rfl; exact rfl; exact rfl; (exact (by repeat' constructor))) | (apply cw_true; exact rfl) | (apply cw_false; exact rfl) | (apply cw_ne; exact rfl; all_goals (intro _; try omega)) | (apply cw_cond; exact rfl; all_goals (intro _; try omega)) | (apply x_gnot; exact rfl; exact rfl; all_goals (intro _; try omega))))
  all_goals (first | refine q_retS (by assumption) rfl (by repeat (first | exact .nil | (apply RV.tmp; exact (by repeat' constructor)) | (apply RV.cell; exact rfl; exact (by repeat' constructor); exact rfl; exact rfl; exact (by repeat' constructor)))) ?_ | (simp only [thenQ, blockQ]; refine q_retS (by assumption) rfl (by repeat (first | exact .nil | (apply RV.tmp; exact (by repeat' constructor)) | (apply RV.cell; exact rfl; exact (by repeat' constructor); exact rfl; exact rfl; exact (by repeat' constructor)))) ?_))
  all_goals refine ⟨?_, Sat.keeps (by assumption)⟩
  all_goals first
    | (have e := fitE1 (by with_reducible assumption); refine Eq.trans ?_ (ckv_no (f := f) (by rw [e]; with_reducible assumption)).symm; rw [e]; rfl)
    | (have e := fitE2 (by with_reducible assumption) (by with_reducible assumption); refine Eq.trans ?_ (ckv_no (f := f) (by rw [e]; with_reducible assumption)).symm; rw [e]; rfl)
    | (have e := fitE3 (by with_reducible assumption) (by with_reducible assumption) (by with_reducible assumption); refine Eq.trans ?_ (ckv_no (f := f) (by rw [e]; with_reducible assumption)).symm; rw [e]; rfl)
    | (have e := fitE4 (by with_reducible assumption) (by with_reducible assumption) (by with_reducible assumption) (by first | exact .inl (by with_reducible assumption) | exact .inr (by with_reducible assumption)); refine Eq.trans ?_ (ckv_no (f := f) (by rw [e]; decide)).symm; rw [e]; rfl)
    | (have e := fitE5 (by with_reducible assumption) (by with_reducible assumption) (by with_reducible assumption) (by with_reducible assumption) (by with_reducible assumption) (by with_reducible assumption); refine Eq.trans ?_ (ckv_no (f := f) (by rw [e]; with_reducible assumption)).symm; rw [e]; rfl)
    | (have e := fitE6 (by with_reducible assumption) (by with_reducible assumption) (by with_reducible assumption) (by with_reducible assumption) (by with_reducible assumption) (by with_reducible assumption); first | (refine Eq.trans ?_ (ckv_no (f := f) (by rw [e]; with_reducible assumption)).symm; rw [e]; rfl) | (refine Eq.trans ?_ (ckv_ok (f := f) (by rw [e]; with_reducible assumption)).symm; rfl))
end Go.Proofs.Ytdkknknebehkgaa
