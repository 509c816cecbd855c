/- Copies of frames and of datums. No statement of the seat is proved here. -/
import Derived.Test.YtcchdbihepinmaaFj
import Derived.Test.YtcchdbihepinmaaEngT
namespace Go.Proofs.Ytcchdbihepinmaa
open Go Go.RowKit
theorem Sat.toRowV {w w' : World} {h : List HO} {v : Value} {E size : Nat} {xs : List (List Value)} (S : Sat w [] h w') (hh : Has h (.rw 0 v E size xs)) : w'.ownsRow w.heap.size E size v xs.length xs.flatten ∧ ∀ c ∈ xs, c.length = size := by
  obtain ⟨h1, h2, h3⟩ := S.ok _ hh.mem
  refine ⟨⟨h3.1, ?_⟩, h2⟩
  rcases h3.2 with h4 | ⟨g, cap, cur, h4, h5, h6⟩
  · exact .inl h4
  · refine .inr ⟨g, cap, cur, h4, ?_, h6⟩
    exact (h1 g (by rw [h4]; rfl)).resolve_right (by simp)
theorem rowR_nil {V : Value → Value} {E size : Nat} {xs : List (List Value)} {w w' : World} (hx : xs = []) (K : Keeps [] w w') : RowR V E size xs w (V (.slice none 0 0)) w' := by
  subst hx
  exact ⟨none, 0, rfl, K, World.ownsRow_nil w' _ E size, fun c hc => by cases hc⟩
theorem e_cloneDN : Ent Try.prog 73 := fun _ _ => rfl
set_option maxRecDepth 4000 in
set_option maxHeartbeats 2000000 in
theorem cloneDN_c (n c : Nat) (w : World) : Calls Try.prog 73 #[.slice none n c] w (RetP (Val (.slice none 0 0) w)) := by
  refine calls_of_cw (args := [.slice none n c]) Try.func73 rfl rfl ?_
  have S := Sat.start [] w
  (repeat' (first | apply cw_seq | apply cw_region | apply wl_nil | apply cw_block | apply cw_skip | apply cw_exit | apply cw_ret | (apply x_buildSlice0; assumption; exact rfl; exact rfl; exact rfl; intro _ _ _ _ _) | (apply x_append1; assumption; exact rfl; exact rfl; exact rfl; exact rfl; exact rfl; (exact (by repeat' constructor)); (exact (by repeat' constructor)); exact rfl; exact rfl; exact rfl; (first | assumption | omega | (simp; omega)); intro _ _ _ _) | (apply x_move; exact rfl; exact rfl; (exact (by repeat' constructor))) | (apply x_assign; exact rfl; exact rfl; (exact (by repeat' constructor))) | (apply x_eqStr; exact rfl; exact rfl; exact rfl; exact rfl) | (apply x_bin; exact rfl; exact rfl; exact rfl; (first | exact .z (.wrap (by omega)) | exact (by repeat' constructor))) | (apply x_builtin; exact rfl; exact rfl; exact (fun _ => rfl); (exact (by repeat' constructor))) | (apply x_buildSlice; assumption; exact rfl; exact rfl; exact rfl; (exact (by repeat' constructor)); intro _ _ _) | (apply cw_true; exact rfl) | (apply cw_false; exact rfl) | (apply x_ndec; exact rfl; with_reducible exact rfl; all_goals (intro _; try omega)) | (apply x_dec; exact rfl; all_goals (intro _; try omega)) | (apply cw_ne; exact rfl; all_goals (intro _; try omega)) | (apply cw_eq; exact rfl; all_goals (intro _; try omega)) | (apply cw_not; exact rfl; all_goals (intro _; try omega)) | (apply cw_cond; exact rfl; all_goals (intro _; try omega))))
  all_goals refine q_retS (by assumption) rfl (by repeat (first | exact .nil | (apply RV.tmp; exact (by repeat' constructor)) | (apply RV.cell; exact rfl; exact (by repeat' constructor); exact rfl; exact rfl; exact (by repeat' constructor)))) ?_
  all_goals exact ⟨rfl, Sat.keeps (by assumption)⟩
theorem e_cloneFN : Ent Try.prog 72 := fun _ _ => rfl
set_option maxRecDepth 4000 in
set_option maxHeartbeats 2000000 in
theorem cloneFN_c (n c : Nat) (w : World) : Calls Try.prog 72 #[.slice none n c] w (RetP (Val (.slice none 0 0) w)) := by
  refine calls_of_cw (args := [.slice none n c]) Try.func72 rfl rfl ?_
  have S := Sat.start [] w
  (repeat' (first | apply cw_seq | apply cw_region | apply wl_nil | apply cw_block | apply cw_skip | apply cw_exit | apply cw_ret | (apply x_buildSlice0; assumption; exact rfl; exact rfl; exact rfl; intro _ _ _ _ _) | (apply x_append1; assumption; exact rfl; exact rfl; exact rfl; exact rfl; exact rfl; (exact (by repeat' constructor)); (exact (by repeat' constructor)); exact rfl; exact rfl; exact rfl; (first | assumption | omega | (simp; omega)); intro _ _ _ _) | (apply x_move; exact rfl; exact rfl; (exact (by repeat' constructor))) | (apply x_assign; exact rfl; exact rfl; (exact (by repeat' constructor))) | (apply x_eqStr; exact rfl; exact rfl; exact rfl; exact rfl) | (apply x_bin; exact rfl; exact rfl; exact rfl; (first | exact .z (.wrap (by omega)) | exact (by repeat' constructor))) | (apply x_builtin; exact rfl; exact rfl; exact (fun _ => rfl); (exact (by repeat' constructor))) | (apply x_buildSlice; assumption; exact rfl; exact rfl; exact rfl; (exact (by repeat' constructor)); intro _ _ _) | (apply cw_true; exact rfl) | (apply cw_false; exact rfl) | (apply x_ndec; exact rfl; with_reducible exact rfl; all_goals (intro _; try omega)) | (apply x_dec; exact rfl; all_goals (intro _; try omega)) | (apply cw_ne; exact rfl; all_goals (intro _; try omega)) | (apply cw_eq; exact rfl; all_goals (intro _; try omega)) | (apply cw_not; exact rfl; all_goals (intro _; try omega)) | (apply cw_cond; exact rfl; all_goals (intro _; try omega))))
  all_goals refine q_retS (by assumption) rfl (by repeat (first | exact .nil | (apply RV.tmp; exact (by repeat' constructor)) | (apply RV.cell; exact rfl; exact (by repeat' constructor); exact rfl; exact rfl; exact (by repeat' constructor)))) ?_
  all_goals exact ⟨rfl, Sat.keeps (by assumption)⟩
theorem e_cloneDS : Ent Try.prog 73 := fun _ _ => rfl
set_option maxRecDepth 4000 in
set_option maxHeartbeats 2000000 in
theorem cloneDS_c (a : Addr) (c : Nat) (l : List Dt) (hl : l.length < 1000000000) (w : World) (R : Rd w (some a) 2 l.length (fun i => dtC (l.getD i dt0))) : Calls Try.prog 73 #[.slice (some a) l.length c] w (RetP (RowR (fun v => v) 63 2 (l.map dtC) w)) := by
  refine calls_of_cw (args := [.slice (some a) l.length c]) Try.func73 rfl rfl ?_
  have S := Sat.start [] w
  have O := (R).old
  (repeat' (first | apply cw_seq | apply cw_region | apply wl_nil | apply cw_block | apply cw_skip | apply cw_exit | apply cw_ret | (apply x_appendN (l := l) (en := dtC) (xs := []) (size := 2) dt0 (fun _ => rfl) (fun _ => rfl) (Old.now O (by assumption)) (by simpa using hl); assumption; exact rfl; exact rfl; exact rfl; exact rfl; (exact (by repeat' constructor)); exact rfl; exact rfl; intro _ _ _ _) | (apply x_buildSlice0; assumption; exact rfl; exact rfl; exact rfl; intro _ _ _ _ _) | (apply x_append1; assumption; exact rfl; exact rfl; exact rfl; exact rfl; exact rfl; (exact (by repeat' constructor)); (exact (by repeat' constructor)); exact rfl; exact rfl; exact rfl; (first | assumption | omega | (simp; omega)); intro _ _ _ _) | (apply x_move; exact rfl; exact rfl; (exact (by repeat' constructor))) | (apply x_assign; exact rfl; exact rfl; (exact (by repeat' constructor))) | (apply x_eqStr; exact rfl; exact rfl; exact rfl; exact rfl) | (apply x_bin; exact rfl; exact rfl; exact rfl; (first | exact .z (.wrap (by omega)) | exact (by repeat' constructor))) | (apply x_builtin; exact rfl; exact rfl; exact (fun _ => rfl); (exact (by repeat' constructor))) | (apply x_buildSlice; assumption; exact rfl; exact rfl; exact rfl; (exact (by repeat' constructor)); intro _ _ _) | (apply cw_true; exact rfl) | (apply cw_false; exact rfl) | (apply x_ndec; exact rfl; with_reducible exact rfl; all_goals (intro _; try omega)) | (apply x_dec; exact rfl; all_goals (intro _; try omega)) | (apply cw_ne; exact rfl; all_goals (intro _; try omega)) | (apply cw_eq; exact rfl; all_goals (intro _; try omega)) | (apply cw_not; exact rfl; all_goals (intro _; try omega)) | (apply cw_cond; exact rfl; all_goals (intro _; try omega))))
  all_goals refine q_retS (by assumption) rfl (by repeat (first | exact .nil | (apply RV.tmp; exact (by repeat' constructor)) | (apply RV.cell; exact rfl; exact (by repeat' constructor); exact rfl; exact rfl; exact (by repeat' constructor)))) ?_
  all_goals
    rename_i A' cap w1 S1
    have h1 := S1.toRowV .head
    refine ⟨A', cap, by simp [pack], S1.keeps, ?_, fun c hc => h1.2 c (by simpa using hc)⟩
    simpa using h1.1
theorem e_cloneFS : Ent Try.prog 72 := fun _ _ => rfl
set_option maxRecDepth 4000 in
set_option maxHeartbeats 2000000 in
theorem cloneFS_c (a : Addr) (c : Nat) (l : List Fr') (hl : l.length < 1000000000) (w : World) (R : Rd w (some a) 5 l.length (fun i => frC (l.getD i fr0))) : Calls Try.prog 72 #[.slice (some a) l.length c] w (RetP (RowR (fun v => v) 61 5 (l.map frC) w)) := by
  refine calls_of_cw (args := [.slice (some a) l.length c]) Try.func72 rfl rfl ?_
  have S := Sat.start [] w
  have O := (R).old
  (repeat' (first | apply cw_seq | apply cw_region | apply wl_nil | apply cw_block | apply cw_skip | apply cw_exit | apply cw_ret | (apply x_appendN (l := l) (en := frC) (xs := []) (size := 5) fr0 (fun _ => rfl) (fun _ => rfl) (Old.now O (by assumption)) (by simpa using hl); assumption; exact rfl; exact rfl; exact rfl; exact rfl; (exact (by repeat' constructor)); exact rfl; exact rfl; intro _ _ _ _) | (apply x_buildSlice0; assumption; exact rfl; exact rfl; exact rfl; intro _ _ _ _ _) | (apply x_append1; assumption; exact rfl; exact rfl; exact rfl; exact rfl; exact rfl; (exact (by repeat' constructor)); (exact (by repeat' constructor)); exact rfl; exact rfl; exact rfl; (first | assumption | omega | (simp; omega)); intro _ _ _ _) | (apply x_move; exact rfl; exact rfl; (exact (by repeat' constructor))) | (apply x_assign; exact rfl; exact rfl; (exact (by repeat' constructor))) | (apply x_eqStr; exact rfl; exact rfl; exact rfl; exact rfl) | (apply x_bin; exact rfl; exact rfl; exact rfl; (first | exact .z (.wrap (by omega)) | exact (by repeat' constructor))) | (apply x_builtin; exact rfl; exact rfl; exact (fun _ => rfl); (exact (by repeat' constructor))) | (apply x_buildSlice; assumption; exact rfl; exact rfl; exact rfl; (exact (by repeat' constructor)); intro _ _ _) | (apply cw_true; exact rfl) | (apply cw_false; exact rfl) | (apply x_ndec; exact rfl; with_reducible exact rfl; all_goals (intro _; try omega)) | (apply x_dec; exact rfl; all_goals (intro _; try omega)) | (apply cw_ne; exact rfl; all_goals (intro _; try omega)) | (apply cw_eq; exact rfl; all_goals (intro _; try omega)) | (apply cw_not; exact rfl; all_goals (intro _; try omega)) | (apply cw_cond; exact rfl; all_goals (intro _; try omega))))
  all_goals refine q_retS (by assumption) rfl (by repeat (first | exact .nil | (apply RV.tmp; exact (by repeat' constructor)) | (apply RV.cell; exact rfl; exact (by repeat' constructor); exact rfl; exact rfl; exact (by repeat' constructor)))) ?_
  all_goals
    rename_i A' cap w1 S1
    have h1 := S1.toRowV .head
    refine ⟨A', cap, by simp [pack], S1.keeps, ?_, fun c hc => h1.2 c (by simpa using hc)⟩
    simpa using h1.1
theorem rd_nil {w : World} {size n : Nat} {cell : Nat → List Value} (R : Rd w none size n cell) : n = 0 := by
  rcases Nat.eq_zero_or_pos n with h | h
  · exact h
  · have := R.some_ h
    cases this
theorem cloneD_c (A : Option Addr) (c : Nat) (l : List Dt) (hl : l.length < 1000000000) (w : World) (R : Rd w A 2 l.length (fun i => dtC (l.getD i dt0))) :
    Calls Try.prog 73 #[.slice A l.length c] w (RetP (RowR (fun v => v) 63 2 (l.map dtC) w)) := by
  cases A with
  | none =>
    have h0 := rd_nil R
    refine (cloneDN_c l.length c w).mono ?_
    rintro e w' ⟨v, rfl, rfl, hk⟩
    exact ⟨_, rfl, rowR_nil (V := fun v => v) (by simpa using List.eq_nil_of_length_eq_zero h0) hk⟩
  | some a => exact cloneDS_c a c l hl w R
theorem e_cloneF : Ent Try.prog 72 := fun _ _ => rfl
theorem e_cloneD : Ent Try.prog 73 := fun _ _ => rfl
theorem cloneF_c (A : Option Addr) (c : Nat) (l : List Fr') (hl : l.length < 1000000000) (w : World) (R : Rd w A 5 l.length (fun i => frC (l.getD i fr0))) :
    Calls Try.prog 72 #[.slice A l.length c] w (RetP (RowR (fun v => v) 61 5 (l.map frC) w)) := by
  cases A with
  | none =>
    have h0 := rd_nil R
    refine (cloneFN_c l.length c w).mono ?_
    rintro e w' ⟨v, rfl, rfl, hk⟩
    exact ⟨_, rfl, rowR_nil (V := fun v => v) (by simpa using List.eq_nil_of_length_eq_zero h0) hk⟩
  | some a => exact cloneFS_c a c l hl w R
end Go.Proofs.Ytcchdbihepinmaa
