/- Records of calibrations: the valid record. No statement of the seat is proved here. -/
import Derived.Test.YtnndkdcciojpiaaKc
namespace Go.Proofs.Ytnndkdcciojpiaa
set_option linter.unusedVariables false
set_option linter.unusedSimpArgs false
open Go Go.RowKit
theorem nn {p : Prop} (h : ¬ ¬ p) : p := Classical.not_not.1 h
theorem is_sub0 : Is (.int .i64 (IntKind.i64.wrap (((0 : Nat) : Int) - 1))) (.int .i64 (-1)) := by
  have : IntKind.i64.wrap (((0 : Nat) : Int) - 1) = -1 := by rw [IntKind.wrap_i64]; omega
  rw [this]
  exact .z .any
section
variable {l : List Rc} (h : Right l) {name : ByteArray} {day : Int} {F1 F2 : Nat} (e1 : firstI (nbe l name) l.length = F1) (e2 : firstI (beh l name day) l.length = F2)
include h e1
theorem vend_len (hn : (F1 : Int) = l.length) : place l name day = (0, 6) := valid_none h (.inl (by rw [e1]; omega))
theorem vend_no (hn : ¬ (l.getD F1 rc0).nm = name) : place l name day = (0, 6) := valid_none h (.inr (by rw [e1]; exact hn))
include e2
theorem vend_out1 (hf : F1 < l.length) (hn : (l.getD F1 rc0).nm = name) (ho : F2 ≤ F1) : place l name day = (0, 14) := valid_out h (by rw [e1]; omega) (by rw [e1]; exact hn) (.inl (by rw [e1, e2]; exact ho))
theorem vend_out2 (hf : F1 < l.length) (hn : (l.getD F1 rc0).nm = name) (ho : (l.getD (F2 - 1) rc0).un < day) : place l name day = (0, 14) := valid_out h (by rw [e1]; omega) (by rw [e1]; exact hn) (.inr (by rw [e2]; exact ho))
theorem vend_in (hf : F1 < l.length) (hn : (l.getD F1 rc0).nm = name) (h1 : F1 < F2) (h2 : day ≤ (l.getD (F2 - 1) rc0).un) : place l name day = (F2 - 1, 0) := by
  have := valid_in h (by rw [e1]; omega) (by rw [e1]; exact hn) (by rw [e1, e2]; exact h1) (by rw [e2]; exact h2)
  rw [this, e2]
end
noncomputable def VaR (l : List Rc) (name : ByteArray) (day : Int) : Nat × Int := if ¬ ckE l = 0 then (0, ckE l) else if ¬ dayE day = 0 then (0, dayE day) else place l name day
set_option maxRecDepth 100000 in
theorem e_valid0 : Ent Try.prog 35 := fun _ _ => rfl
set_option maxRecDepth 4000 in
set_option maxHeartbeats 2000000 in
theorem valid0_c (A : Option Addr) (c : Nat) (l : List Rc) (hl : l.length ≤ 9223372036854775807) (ho : ∀ i, i < l.length → (rat l i).ok) (hr : Right l) (name : ByteArray) (day : Int) (F1 : Nat) (e1 : firstI (nbe l name) l.length = F1) (h1 : F1 ≤ l.length) (e2 : firstI (beh l name day) l.length = 0) (w : World) (R : Rd w A 6 l.length (fun i => rcC (l.getD i rc0))) : Calls Try.prog 35 #[.slice A l.length c, .string name, .int .i64 day] w (RetP (Val (.tuple #[.int .i64 ((place l name day).1 : Nat), .int .i64 (place l name day).2]) w)) := by
  refine calls_of_cw (args := [.slice A l.length c, .string name, .int .i64 day]) Try.func35 rfl rfl ?_
  have S := Sat.start [] w
  have O := (R).old
  (repeat' (first | apply cw_seq | apply cw_region | apply wl_nil | apply cw_skip | apply cw_ret | (apply y_gdec; exact rfl; exact rfl; all_goals (intro _; try omega)) | (apply y_fieldE; exact rfl; exact rfl; exact rfl; (constructor)) | (apply x_callv; assumption; exact rfl; exact rfl; exact rfl; exact e_Search; (exact (by repeat' constructor)); with_reducible exact (search1 A c l hl ho hr name R F1 e1 (by assumption) (by exact (by repeat' constructor)) (by exact (by repeat' constructor))); intro _ _ _) | (apply x_callv; assumption; exact rfl; exact rfl; exact rfl; exact e_Search; (exact (by repeat' constructor)); with_reducible exact (search2 A c l hl ho hr name day R _ e2 (by assumption) (by exact (by repeat' constructor)) (by exact (by repeat' constructor)) (by exact (by repeat' constructor))); intro _ _ _) | (apply x_bin; exact rfl; exact rfl; exact rfl; exact is_sub0) | (apply cw_draw (id := 2) [(0, 0), (1, 0), (2, 0), (3, 0), (4, 0), (5, 0), (6, 0), (7, 0), (8, 0), (9, 0), (10, 0), (11, 0), (12, 0)]; assumption; exact mixed; kernel_rfl) | (apply cw_draw (id := 5) [(0, 0), (1, 0), (2, 0), (3, 0), (4, 0), (5, 0), (6, 0), (7, 0), (8, 0), (9, 0), (10, 0), (11, 0)]; assumption; exact mixed; kernel_rfl) | (apply x_assign; exact rfl; exact rfl; (exact (by repeat' constructor))) | (apply x_load; assumption; exact rfl; exact rfl; exact rfl; (exact (by repeat' constructor)); exact rfl; exact rfl; (exact (by repeat' constructor))) | (apply x_box; assumption; exact rfl; exact rfl; (exact (by repeat' constructor)); (exact (by repeat' constructor)); intro _ _ _) | (apply x_builtin; exact rfl; exact rfl; exact (fun _ => rfl); (exact (by repeat' constructor))) | (apply x_makeFunc; exact rfl; exact rfl; (exact (by repeat' constructor))) | (apply y_neStr; exact rfl; exact rfl; exact rfl) | (apply y_not; exact rfl) | (apply y_move; exact rfl; (exact (by repeat' constructor))) | (apply y_load; exact rfl; exact rfl; (exact (by repeat' constructor)); exact rfl; exact rfl; (exact (by repeat' constructor))) | (apply y_bin; exact rfl; exact (fun _ => rfl); (first | exact .z (.wrap (by omega)) | exact (by repeat' constructor))) | (apply y_pick; exact rfl; exact rfl; (exact (by repeat' constructor))) | (apply y_builtin; exact rfl; exact (fun _ _ => rfl); (exact (by repeat' constructor))) | (apply y_index; exact rfl; exact rfl; exact rfl; exact rfl; (constructor); (first | omega | exact size_pos (by assumption) | assumption); (first | exact rfl | assumption | exact Rd.some_ (by assumption) (by omega) | exact Rd.some_ (Old.rd (by assumption)) (by omega) | exact (Sat.rd (by assumption) (by exact (by repeat' constructor))).some_ (by omega))) | (apply y_loadR; exact rfl; exact rfl; assumption; (first | omega | exact size_pos (by assumption) | assumption); exact rfl; exact rfl; (exact (by repeat' constructor))) | (apply y_nil; intro _ _) | (apply cw_true; exact rfl) | (apply x_dec; exact rfl; all_goals (intro _; try omega))))
  all_goals (first | refine q_retS (by assumption) rfl (by repeat (first | exact .nil | (apply RV.tmp; exact (by repeat' constructor)) | (apply RV.cell; exact rfl; exact (by repeat' constructor); exact rfl; exact rfl; exact (by repeat' constructor)))) ?_ | (simp only [thenQ, blockQ]; refine q_retS (by assumption) rfl (by repeat (first | exact .nil | (apply RV.tmp; exact (by repeat' constructor)) | (apply RV.cell; exact rfl; exact (by repeat' constructor); exact rfl; exact rfl; exact (by repeat' constructor)))) ?_))
  all_goals refine ⟨?_, Sat.keeps (by assumption)⟩
  all_goals first
    | (rw [vend_len hr e1 (by assumption)]; rfl)
    | (rw [vend_no hr e1 (by assumption)]; rfl)
    | (rw [vend_out1 hr e1 e2 (by omega) (nn (by assumption)) (by omega)]; rfl)
    | (rw [vend_out2 hr e1 e2 (by omega) (nn (by assumption)) (by assumption)]; rfl)
    | (rw [vend_in hr e1 e2 (by omega) (nn (by assumption)) (by omega) (Int.not_lt.1 (by assumption))]; rfl)
set_option maxRecDepth 100000 in
theorem e_validS : Ent Try.prog 35 := fun _ _ => rfl
set_option maxRecDepth 4000 in
set_option maxHeartbeats 2000000 in
theorem validS_c (A : Option Addr) (c : Nat) (l : List Rc) (hl : l.length ≤ 9223372036854775807) (ho : ∀ i, i < l.length → (rat l i).ok) (hr : Right l) (name : ByteArray) (day : Int) (F1 : Nat) (e1 : firstI (nbe l name) l.length = F1) (h1 : F1 ≤ l.length) (j : Nat) (e2 : firstI (beh l name day) l.length = j + 1) (hj : j + 1 ≤ l.length) (hL : l.length ≤ 256) (w : World) (R : Rd w A 6 l.length (fun i => rcC (l.getD i rc0))) : Calls Try.prog 35 #[.slice A l.length c, .string name, .int .i64 day] w (RetP (Val (.tuple #[.int .i64 ((place l name day).1 : Nat), .int .i64 (place l name day).2]) w)) := by
  refine calls_of_cw (args := [.slice A l.length c, .string name, .int .i64 day]) Try.func35 rfl rfl ?_
  have S := Sat.start [] w
  have O := (R).old
  (repeat' (first | apply cw_seq | apply cw_region | apply wl_nil | apply cw_skip | apply cw_ret | (apply y_gdec; exact rfl; exact rfl; all_goals (intro _; try omega)) | (apply y_fieldE; exact rfl; exact rfl; exact rfl; (constructor)) | (apply x_callv; assumption; exact rfl; exact rfl; exact rfl; exact e_Search; (exact (by repeat' constructor)); with_reducible exact (search1 A c l hl ho hr name R F1 e1 (by assumption) (by exact (by repeat' constructor)) (by exact (by repeat' constructor))); intro _ _ _) | (apply x_callv; assumption; exact rfl; exact rfl; exact rfl; exact e_Search; (exact (by repeat' constructor)); with_reducible exact (search2 A c l hl ho hr name day R _ e2 (by assumption) (by exact (by repeat' constructor)) (by exact (by repeat' constructor)) (by exact (by repeat' constructor))); intro _ _ _) | (apply x_bin; exact rfl; exact rfl; exact rfl; exact is_sub1 (by omega)) | (apply cw_draw (id := 2) [(0, 0), (1, 0), (2, 0), (3, 0), (4, 0), (5, 0), (6, 0), (7, 0), (8, 0), (9, 0), (10, 0), (11, 0), (12, 0)]; assumption; exact mixed; kernel_rfl) | (apply cw_draw (id := 5) [(0, 0), (1, 0), (2, 0), (3, 0), (4, 0), (5, 0), (6, 0), (7, 0), (8, 0), (9, 0), (10, 0), (11, 0)]; assumption; exact mixed; kernel_rfl) | (apply x_move; exact rfl; exact rfl; (exact (by repeat' constructor))) | (apply x_assign; exact rfl; exact rfl; (exact (by repeat' constructor))) | (apply x_load; assumption; exact rfl; exact rfl; exact rfl; (exact (by repeat' constructor)); exact rfl; exact rfl; (exact (by repeat' constructor))) | (apply x_box; assumption; exact rfl; exact rfl; (exact (by repeat' constructor)); (exact (by repeat' constructor)); intro _ _ _) | (apply x_builtin; exact rfl; exact rfl; exact (fun _ => rfl); (exact (by repeat' constructor))) | (apply x_makeFunc; exact rfl; exact rfl; (exact (by repeat' constructor))) | (apply y_neStr; exact rfl; exact rfl; exact rfl) | (apply y_not; exact rfl) | (apply y_move; exact rfl; (exact (by repeat' constructor))) | (apply y_load; exact rfl; exact rfl; (exact (by repeat' constructor)); exact rfl; exact rfl; (exact (by repeat' constructor))) | (apply y_bin; exact rfl; exact (fun _ => rfl); (first | exact .z (.wrap (by omega)) | exact (by repeat' constructor))) | (apply y_pick; exact rfl; exact rfl; (exact (by repeat' constructor))) | (apply y_builtin; exact rfl; exact (fun _ _ => rfl); (exact (by repeat' constructor))) | (apply y_index; exact rfl; exact rfl; exact rfl; exact rfl; (constructor); (first | omega | exact size_pos (by assumption) | assumption); (first | exact rfl | assumption | exact Rd.some_ (by assumption) (by omega) | exact Rd.some_ (Old.rd (by assumption)) (by omega) | exact (Sat.rd (by assumption) (by exact (by repeat' constructor))).some_ (by omega))) | (apply y_loadR; exact rfl; exact rfl; assumption; (first | omega | exact size_pos (by assumption) | assumption); exact rfl; exact rfl; (exact (by repeat' constructor))) | (apply y_nil; intro _ _) | (apply cw_true; exact rfl) | (apply x_dec; exact rfl; all_goals (intro _; try omega))))
  all_goals (first | refine q_retS (by assumption) rfl (by repeat (first | exact .nil | (apply RV.tmp; exact (by repeat' constructor)) | (apply RV.cell; exact rfl; exact (by repeat' constructor); exact rfl; exact rfl; exact (by repeat' constructor)))) ?_ | (simp only [thenQ, blockQ]; refine q_retS (by assumption) rfl (by repeat (first | exact .nil | (apply RV.tmp; exact (by repeat' constructor)) | (apply RV.cell; exact rfl; exact (by repeat' constructor); exact rfl; exact rfl; exact (by repeat' constructor)))) ?_))
  all_goals refine ⟨?_, Sat.keeps (by assumption)⟩
  all_goals first
    | (rw [vend_len hr e1 (by assumption)]; rfl)
    | (rw [vend_no hr e1 (by assumption)]; rfl)
    | (rw [vend_out1 hr e1 e2 (by omega) (nn (by assumption)) (by omega)]; rfl)
    | (rw [vend_out2 hr e1 e2 (by omega) (nn (by assumption)) (by assumption)]; rfl)
    | (rw [vend_in hr e1 e2 (by omega) (nn (by assumption)) (by omega) (Int.not_lt.1 (by assumption))]; rfl)
theorem valid_c (A : Option Addr) (c : Nat) (l : List Rc) (hl : l.length ≤ 9223372036854775807) (ho : ∀ i, i < l.length → (rat l i).ok) (hr : Right l) (name : ByteArray) (day : Int) (w : World) (R : Rd w A 6 l.length (fun i => rcC (l.getD i rc0))) : Calls Try.prog 35 #[.slice A l.length c, .string name, .int .i64 day] w (RetP (Val (.tuple #[.int .i64 ((place l name day).1 : Nat), .int .i64 (place l name day).2]) w)) := by
  have h1 := (firstI_spec (nbe l name) l.length).1
  have h2 := (firstI_spec (beh l name day) l.length).1
  rcases Nat.eq_zero_or_pos (firstI (beh l name day) l.length) with e2 | e2
  · exact valid0_c A c l hl ho hr name day _ rfl h1 e2 w R
  · exact validS_c A c l hl ho hr name day _ rfl h1 (firstI (beh l name day) l.length - 1) (by omega) (by omega) hr.1 w R
set_option maxRecDepth 100000 in
theorem e_Valid : Ent Try.prog 17 := fun _ _ => rfl
set_option maxRecDepth 4000 in
set_option maxHeartbeats 2000000 in
theorem Valid_c (A : Option Addr) (c : Nat) (l : List Rc) (hl : l.length ≤ 9223372036854775807) (ho : ∀ i, i < l.length → (rat l i).ok) (name : ByteArray) (day : Int) (w : World) (R : Rd w A 6 l.length (fun i => rcC (l.getD i rc0))) : Calls Try.prog 17 #[.slice A l.length c, .string name, .int .i64 day] w (RetP (Val (.tuple #[.int .i64 ((VaR l name day).1 : Nat), .int .i64 (VaR l name day).2]) w)) := by
  refine calls_of_cw (args := [.slice A l.length c, .string name, .int .i64 day]) Try.func17 rfl rfl ?_
  have S := Sat.start [] w
  have O := (R).old
  (repeat' (first | apply cw_seq | apply cw_region | apply wl_nil | apply cw_skip | apply cw_ret | (apply x_callv; assumption; exact rfl; exact rfl; exact rfl; exact e_kCheck; (exact (by repeat' constructor)); with_reducible exact (kCheck_c A c l hl ho _ (Old.now O (by assumption))); intro _ _ _) | (apply x_callv; assumption; exact rfl; exact rfl; exact rfl; exact e_kday; (exact (by repeat' constructor)); with_reducible exact (kday_c _ _); intro _ _ _) | (apply x_callv; assumption; exact rfl; exact rfl; exact rfl; exact e_valid0; (exact (by repeat' constructor)); with_reducible exact (valid_c A c l hl ho (ckE0 (by assumption)) name day _ (Old.now O (by assumption))); intro _ _ _) | (apply x_move; exact rfl; exact rfl; (exact (by repeat' constructor))) | (apply x_assign; exact rfl; exact rfl; (exact (by repeat' constructor))) | (apply x_bin; exact rfl; exact rfl; exact rfl; (first | exact .z (.wrap (by omega)) | exact (by repeat' constructor))) | (apply x_extract; exact rfl; exact rfl; exact rfl; (exact (by repeat' constructor))) | (apply cw_ne; exact rfl; all_goals (intro _; try omega))))
  all_goals (first | refine q_retS (by assumption) rfl (by repeat (first | exact .nil | (apply RV.tmp; exact (by repeat' constructor)) | (apply RV.cell; exact rfl; exact (by repeat' constructor); exact rfl; exact rfl; exact (by repeat' constructor)))) ?_ | (simp only [thenQ, blockQ]; refine q_retS (by assumption) rfl (by repeat (first | exact .nil | (apply RV.tmp; exact (by repeat' constructor)) | (apply RV.cell; exact rfl; exact (by repeat' constructor); exact rfl; exact rfl; exact (by repeat' constructor)))) ?_))
  all_goals refine ⟨?_, Sat.keeps (by assumption)⟩
  · rw [VaR, if_pos (by assumption)]; rfl
  · rw [VaR, if_neg (by simp [*]), if_pos (by assumption)]; rfl
  · rw [VaR, if_neg (by simp [*]), if_neg (by simp [*])]; rfl
end Go.Proofs.Ytnndkdcciojpiaa
