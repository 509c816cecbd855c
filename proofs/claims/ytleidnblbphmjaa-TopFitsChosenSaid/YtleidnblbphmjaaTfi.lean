/- Fits of the next grades: plain law, the walk of TopFitsGrades. No statement of the seat is proved here. -/
import Derived.Test.YtleidnblbphmjaaTfh
namespace Go.Proofs.Ytleidnblbphmjaa
set_option linter.unusedVariables false
set_option linter.unusedSimpArgs false
open Go Go.RowKit
theorem fit0 {f : Ft} (h : fitE f = 0) : sizeE f.s = 0 ∧ clsE f.l1 f.g1 = 0 ∧ clsE f.l2 f.g2 = 0 ∧ (limS f.b1 f.s f.l1 f.g1).2 = 0 ∧ (limS f.b2 f.s f.l2 f.g2).2 = 0 := by
  unfold fitE at h
  split at h
  · exact absurd h (by assumption)
  split at h
  · exact absurd h (by assumption)
  split at h
  · exact absurd h (by assumption)
  split at h
  · cases h
  split at h
  · exact absurd h (by assumption)
  rename_i h1 h2 h3 h4 h5
  exact ⟨Classical.not_not.1 h1, Classical.not_not.1 h2, Classical.not_not.1 h3, Classical.not_not.1 h5, h⟩
theorem lim_ok {b : Bool} {s l g : Int} (hs : sizeE s = 0) (hc : clsE l g = 0) (h : (limS b s l g).2 = 0) : (limS b s l g).1 = (s + (awayV b s l g).1, s + (awayV b s l g).2) := by
  have hd : devS b s l g = (awayV b s l g, 0) := by rw [devS, if_neg (fun e => e hs), if_neg (fun e => e hc)]
  unfold limS at h ⊢
  rw [hd] at h ⊢
  rw [if_neg (by simp)] at h ⊢
  split at h
  · cases h
  · rename_i h1
    rw [if_neg h1]
theorem shift4 (s : Int) : shS s 4 = 0 := by
  unfold shS
  rw [show shiftT 4 = 0 from rfl, Int.mul_zero]
  rfl
theorem clr_rt {s l h g : Int} (hf : fitE (rt s l h g) = 0) (hl : ¬ l > 4) : clrS (rt s l h g) = (shS s l, wide s h + shS s l + wide s g) := by
  obtain ⟨h1, h2, h3, h4, h5⟩ := fit0 hf
  unfold clrS
  rw [(ck_ok hf).2]
  unfold bothV
  rw [lim_ok h1 h2 h4, lim_ok h1 h3 h5]
  unfold rt
  simp only
  rw [away1 (b := true) (l := 4) (by omega), away1 (b := false) (l := l) (by omega), shift4]
  simp only [if_true, Bool.false_eq_true, if_false]
  refine Prod.ext ?_ ?_ <;> simp only <;> omega
theorem fac_up {g : Int} (h : 5 ≤ g ∧ g ≤ 11) : facT g + 3 ≤ facT (g + 1) := by
  obtain rfl | rfl | rfl | rfl | rfl | rfl | rfl : g = 5 ∨ g = 6 ∨ g = 7 ∨ g = 8 ∨ g = 9 ∨ g = 10 ∨ g = 11 := by omega
  all_goals decide
theorem wide_up (s : Int) {g : Int} (h : 5 ≤ g ∧ g ≤ 11) : wide s g < wide s (g + 1) := by
  have h1 := baseT_b s
  have h2 := Int.mul_nonneg (show (0 : Int) ≤ baseT s by omega) (show (0 : Int) ≤ facT (g + 1) - (facT g + 3) by have := fac_up h; omega)
  rw [Int.mul_sub, Int.mul_add] at h2
  unfold wide
  omega
theorem grades_law {s l h g : Int} (hx : fitE (rt s l h g) = 0) (hy : fitE (rt s l (IntKind.i64.wrap (h + 1)) (IntKind.i64.wrap (g + 1))) = 0) (hl : ¬ l > 4) :
    (clrS (rt s l (IntKind.i64.wrap (h + 1)) (IntKind.i64.wrap (g + 1)))).1 = (clrS (rt s l h g)).1 ∧ (clrS (rt s l h g)).2 < (clrS (rt s l (IntKind.i64.wrap (h + 1)) (IntKind.i64.wrap (g + 1)))).2 ∧
    0 ≤ (clrS (rt s l h g)).1 ∧ (clrS (rt s l h g)).1 ≤ (clrS (rt s l h g)).2 ∧ (clrS (rt s l (IntKind.i64.wrap (h + 1)) (IntKind.i64.wrap (g + 1)))).2 ≤ 100000 := by
  have c1 := cls0 (fit0 hx).2.1
  have c2 := cls0 (fit0 hx).2.2.1
  simp only [rt] at c1 c2
  have e1 : IntKind.i64.wrap (h + 1) = h + 1 := by rw [IntKind.wrap_i64]; omega
  have e2 : IntKind.i64.wrap (g + 1) = g + 1 := by rw [IntKind.wrap_i64]; omega
  rw [e1, e2] at hy ⊢
  have d1 := cls0 (fit0 hy).2.1
  have d2 := cls0 (fit0 hy).2.2.1
  simp only [rt] at d1 d2
  rw [clr_rt hx hl, clr_rt hy hl]
  have b1 := wide_b (s := s) c1.2
  have b2 := wide_b (s := s) c2.2
  have b3 := wide_b (s := s) d1.2
  have b4 := wide_b (s := s) d2.2
  have u1 := wide_up s (g := h) (by omega)
  have u2 := wide_up s (g := g) (by omega)
  have b5 := shS_b (s := s) c2.1
  refine ⟨rfl, ?_, ?_, ?_, ?_⟩ <;> simp only <;> omega
theorem chk_in {a b : Int} (h : -100000 ≤ a ∧ a ≤ b ∧ b ≤ 100000) : chk a b = 0 := by rw [chk, if_pos (by omega), if_neg (by omega)]
theorem ins_yes {a b c d : Int} (h1 : -100000 ≤ c ∧ d ≤ 100000) (h2 : c ≤ a ∧ a ≤ b ∧ b ≤ d) : insS a b c d = (true, 0) := by
  rw [insS, bothE, chk_in (by omega), chk_in (by omega), if_pos rfl, if_pos rfl, decide_eq_true (by omega)]
theorem clrA {s l h g : Int} (hx : fitE (rt s l h g) = 0) (w : World) : Calls Try.prog 7 #[.agg #[.int .i64 (rt s l h g).s, .bool (rt s l h g).b1, .int .i64 (rt s l h g).l1, .int .i64 (rt s l h g).g1, .bool (rt s l h g).b2, .int .i64 (rt s l h g).l2, .int .i64 (rt s l h g).g2]] w (RetP (Val (.tuple #[.agg #[.int .i64 ((clrS (rt s l h g)).1), .int .i64 ((clrS (rt s l h g)).2)], .int .i64 0]) w)) :=
  val_of (fClear_c (rt s l h g) w) (by rw [hx])
theorem insA {s l h g : Int} (hx : fitE (rt s l h g) = 0) (hy : fitE (rt s l (IntKind.i64.wrap (h + 1)) (IntKind.i64.wrap (g + 1))) = 0) (hl : ¬ l > 4) (w : World) :
    Calls Try.prog 9 #[.agg #[.int .i64 ((clrS (rt s l h g)).1), .int .i64 ((clrS (rt s l h g)).2)], .agg #[.int .i64 ((clrS (rt s l (IntKind.i64.wrap (h + 1)) (IntKind.i64.wrap (g + 1)))).1), .int .i64 ((clrS (rt s l (IntKind.i64.wrap (h + 1)) (IntKind.i64.wrap (g + 1)))).2)]] w (RetP (Val (.tuple #[.bool true, .int .i64 0]) w)) := by
  have L := grades_law hx hy hl
  exact val_of (Inside_c _ _ _ _ w) (by rw [ins_yes (by omega) (by omega)])
set_option maxRecDepth 100000 in
theorem e_lawGrades : Ent Try.prog 3 := fun _ _ => rfl
set_option maxRecDepth 4000 in
set_option maxHeartbeats 2000000 in
theorem lawGrades_c (s l h g : Int) (w : World) : Calls Try.prog 3 #[.agg #[.int .i64 s, .int .i64 l, .int .i64 h, .int .i64 g]] w (RetP (Val (.bool true) w)) := by
  refine calls_of_cw (args := [.agg #[.int .i64 s, .int .i64 l, .int .i64 h, .int .i64 g]]) Try.func3 rfl rfl ?_
  have S := Sat.start [] w
  (repeat' (first | apply cw_seq | apply cw_region | apply wl_nil | apply cw_block | apply cw_skip | apply cw_exit | apply cw_ret | (apply x_callv; assumption; exact rfl; exact rfl; exact rfl; exact e_runRight; (exact (by repeat' constructor)); with_reducible exact (runRight_c s l h g _); intro _ _ _) | (apply z1_callv; exact rfl; exact rfl; exact e_runRight; (exact (by repeat' constructor)); with_reducible exact (fun _ _ => runRight_c s l h g _)) | (apply z2_callv; exact rfl; exact rfl; exact e_runRight; (exact (by repeat' constructor)); with_reducible exact (fun _ _ => runRight_c s l h g _)) | (apply x_callv; assumption; exact rfl; exact rfl; exact rfl; exact e_runRight; (exact (by repeat' constructor)); with_reducible exact (runRight_c s l (IntKind.i64.wrap (h + 1)) (IntKind.i64.wrap (g + 1)) _); intro _ _ _) | (apply z1_callv; exact rfl; exact rfl; exact e_runRight; (exact (by repeat' constructor)); with_reducible exact (fun _ _ => runRight_c s l (IntKind.i64.wrap (h + 1)) (IntKind.i64.wrap (g + 1)) _)) | (apply z2_callv; exact rfl; exact rfl; exact e_runRight; (exact (by repeat' constructor)); with_reducible exact (fun _ _ => runRight_c s l (IntKind.i64.wrap (h + 1)) (IntKind.i64.wrap (g + 1)) _)) | (apply x_callv; assumption; exact rfl; exact rfl; exact rfl; exact e_rfit; (exact (by repeat' constructor)); with_reducible exact (rfit_c s l h g _); intro _ _ _) | (apply z1_callv; exact rfl; exact rfl; exact e_rfit; (exact (by repeat' constructor)); with_reducible exact (fun _ _ => rfit_c s l h g _)) | (apply z2_callv; exact rfl; exact rfl; exact e_rfit; (exact (by repeat' constructor)); with_reducible exact (fun _ _ => rfit_c s l h g _)) | (apply x_callv; assumption; exact rfl; exact rfl; exact rfl; exact e_rfit; (exact (by repeat' constructor)); with_reducible exact (rfit_c s l (IntKind.i64.wrap (h + 1)) (IntKind.i64.wrap (g + 1)) _); intro _ _ _) | (apply z1_callv; exact rfl; exact rfl; exact e_rfit; (exact (by repeat' constructor)); with_reducible exact (fun _ _ => rfit_c s l (IntKind.i64.wrap (h + 1)) (IntKind.i64.wrap (g + 1)) _)) | (apply z2_callv; exact rfl; exact rfl; exact e_rfit; (exact (by repeat' constructor)); with_reducible exact (fun _ _ => rfit_c s l (IntKind.i64.wrap (h + 1)) (IntKind.i64.wrap (g + 1)) _)) | (apply x_callv; assumption; exact rfl; exact rfl; exact rfl; exact e_runFits; (exact (by repeat' constructor)); with_reducible exact (runFits_c _); intro _ _ _) | (apply z1_callv; exact rfl; exact rfl; exact e_runFits; (exact (by repeat' constructor)); with_reducible exact (fun _ _ => runFits_c _)) | (apply z2_callv; exact rfl; exact rfl; exact e_runFits; (exact (by repeat' constructor)); with_reducible exact (fun _ _ => runFits_c _)) | (apply x_callv; assumption; exact rfl; exact rfl; exact rfl; exact e_fClear; (exact (by repeat' constructor)); with_reducible exact (clrA (s := s) (l := l) (h := h) (g := g) (by with_reducible assumption) _); intro _ _ _) | (apply z1_callv; exact rfl; exact rfl; exact e_fClear; (exact (by repeat' constructor)); with_reducible exact (fun _ _ => clrA (s := s) (l := l) (h := h) (g := g) (by with_reducible assumption) _)) | (apply z2_callv; exact rfl; exact rfl; exact e_fClear; (exact (by repeat' constructor)); with_reducible exact (fun _ _ => clrA (s := s) (l := l) (h := h) (g := g) (by with_reducible assumption) _)) | (apply x_callv; assumption; exact rfl; exact rfl; exact rfl; exact e_fClear; (exact (by repeat' constructor)); with_reducible exact (clrA (s := s) (l := l) (h := IntKind.i64.wrap (h + 1)) (g := IntKind.i64.wrap (g + 1)) (by with_reducible assumption) _); intro _ _ _) | (apply z1_callv; exact rfl; exact rfl; exact e_fClear; (exact (by repeat' constructor)); with_reducible exact (fun _ _ => clrA (s := s) (l := l) (h := IntKind.i64.wrap (h + 1)) (g := IntKind.i64.wrap (g + 1)) (by with_reducible assumption) _)) | (apply z2_callv; exact rfl; exact rfl; exact e_fClear; (exact (by repeat' constructor)); with_reducible exact (fun _ _ => clrA (s := s) (l := l) (h := IntKind.i64.wrap (h + 1)) (g := IntKind.i64.wrap (g + 1)) (by with_reducible assumption) _)) | (apply x_callv; assumption; exact rfl; exact rfl; exact rfl; exact e_Inside; (exact (by repeat' constructor)); with_reducible exact (insA (s := s) (l := l) (h := h) (g := g) (by with_reducible assumption) (by with_reducible assumption) (by with_reducible assumption) _); intro _ _ _) | (apply z1_callv; exact rfl; exact rfl; exact e_Inside; (exact (by repeat' constructor)); with_reducible exact (fun _ _ => insA (s := s) (l := l) (h := h) (g := g) (by with_reducible assumption) (by with_reducible assumption) (by with_reducible assumption) _)) | (apply z2_callv; exact rfl; exact rfl; exact e_Inside; (exact (by repeat' constructor)); with_reducible exact (fun _ _ => insA (s := s) (l := l) (h := h) (g := g) (by with_reducible assumption) (by with_reducible assumption) (by with_reducible assumption) _)) | (apply x_not; exact rfl; exact rfl) | (apply x_move; exact rfl; exact rfl; (exact (by repeat' constructor))) | (apply x_assign; exact rfl; exact rfl; (exact (by repeat' constructor))) | (apply x_fieldB; exact rfl; exact rfl; exact rfl; exact rfl; (constructor)) | (apply x_load; assumption; exact rfl; exact rfl; exact rfl; (exact (by repeat' constructor)); exact rfl; exact rfl; (exact (by repeat' constructor))) | (apply x_eqStr; exact rfl; exact rfl; exact rfl; exact rfl) | (apply x_eqAgg; exact rfl; exact rfl; exact rfl; exact rfl; (first | with_reducible exact flat_Limits | with_reducible exact flat_Dimension | with_reducible exact flat_Limits | with_reducible exact flat_Limits | with_reducible exact flat_spl | with_reducible exact flat_at | with_reducible exact flat_take | with_reducible exact flat_set | with_reducible exact flat_get | with_reducible exact flat_single | with_reducible exact flat_Spot | with_reducible exact flat_Datum | with_reducible exact flat_Dimension | with_reducible exact flat_Spot | with_reducible exact flat_step | with_reducible exact flat_Point); exact rfl; kernel_rfl; exact rfl) | (apply x_bin; exact rfl; exact rfl; exact rfl; (first | exact .z (.wrap (by first | omega | (have L := grades_law (s := s) (l := l) (h := h) (g := g) (by with_reducible assumption) (by with_reducible assumption) (by with_reducible assumption); omega))) | exact (by repeat' constructor))) | (apply x_pick; exact rfl; exact rfl; exact rfl; (exact (by repeat' constructor))) | (apply x_un; exact rfl; exact rfl; exact rfl; (first | exact .z (.wrap (by first | omega | (have L := grades_law (s := s) (l := l) (h := h) (g := g) (by with_reducible assumption) (by with_reducible assumption) (by with_reducible assumption); omega))) | exact (by repeat' constructor))) | (apply x_box; assumption; exact rfl; exact rfl; (exact (by repeat' constructor)); (exact (by repeat' constructor)); intro _ _ _) | (apply x_alloc; assumption; exact rfl; exact rfl; exact rfl; (exact (by repeat' constructor)); intro _ _ _) | (apply x_store; assumption; exact rfl; exact rfl; (exact (by repeat' constructor)); (exact (by repeat' constructor)); exact rfl; exact rfl; exact rfl; (exact (by repeat' constructor)); intro _ _) | (apply x_extract; exact rfl; exact rfl; exact rfl; (exact (by repeat' constructor))) | (apply x_fieldE; exact rfl; exact rfl; exact rfl; exact rfl; (constructor)) | (apply x_loadB; assumption; exact rfl; exact rfl; exact rfl; assumption; exact rfl; exact rfl; (exact (by repeat' constructor))) | (apply x_loadR; exact rfl; exact rfl; exact rfl; (first | exact Old.now (by assumption) (by assumption) | exact Sat.rdpr (by assumption) (by exact (by repeat' constructor)) | exact Sat.rd (by assumption) (by exact (by repeat' constructor))); (first | omega | exact size_pos (by assumption) | assumption); exact rfl; exact rfl; (exact (by repeat' constructor))) | (apply cw_true; exact rfl) | (apply cw_false; exact rfl) | (apply x_ndec; exact rfl; with_reducible exact rfl; all_goals (intro _; try omega)) | (apply x_dec; exact rfl; all_goals (intro _; try omega)) | (apply cw_ne; exact rfl; all_goals (intro _; try omega)) | (apply cw_eq; exact rfl; all_goals (intro _; try omega)) | (apply cw_not; exact rfl; all_goals (intro _; try omega)) | (apply cw_cond; exact rfl; all_goals (intro _; try omega)) | (apply x_gndec; exact rfl; exact rfl; with_reducible exact rfl; all_goals (intro _; try omega)) | (apply x_gdec; exact rfl; exact rfl; all_goals (intro _; try omega)) | (apply x_gne; exact rfl; exact rfl; all_goals (intro _; try omega)) | (apply x_geq; exact rfl; exact rfl; all_goals (intro _; try omega)) | (apply x_gnot; exact rfl; exact rfl; all_goals (intro _; try omega)) | (apply x_gsplit; exact rfl; exact rfl; all_goals (intro _; try omega))))
  all_goals (first | refine q_retS (by assumption) rfl (by repeat (first | exact .nil | (apply RV.tmp; exact (by repeat' constructor)) | (apply RV.cell; exact rfl; exact (by repeat' constructor); exact rfl; exact rfl; exact (by repeat' constructor)))) ?_ | (simp only [thenQ, blockQ]; refine q_retS (by assumption) rfl (by repeat (first | exact .nil | (apply RV.tmp; exact (by repeat' constructor)) | (apply RV.cell; exact rfl; exact (by repeat' constructor); exact rfl; exact rfl; exact (by repeat' constructor)))) ?_))
  all_goals first
    | exact ⟨rfl, Sat.keeps (by assumption)⟩
    | (exfalso; have L := grades_law (s := s) (l := l) (h := h) (g := g) (by with_reducible assumption) (by with_reducible assumption) (by with_reducible assumption); omega)
end Go.Proofs.Ytleidnblbphmjaa
