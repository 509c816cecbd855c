/- Samples of points in space: what turns, mirrors and moves all spots. No statement of the seat is proved here. -/
import Derived.Test.YtnlddjbeekfjlaaPd
namespace Go.Proofs.Ytnlddjbeekfjlaa
open Go Go.RowKit
noncomputable def alE (l : List Sp) (k : Int) : Int := if ¬ spE l = 0 then spE l else if k < 0 ∨ 3 ≤ k then 1 else 0
set_option maxRecDepth 100000 in
theorem e_axes : Ent Try.prog 64 := fun _ _ => rfl
set_option maxRecDepth 4000 in
set_option maxHeartbeats 2000000 in
theorem axes_c (k : Int) (w : World) : Calls Try.prog 64 #[.int .i64 k] w (RetP (Val (.int .i64 (if k < 0 ∨ 3 ≤ k then 1 else 0)) w)) := by
  refine calls_of_cw (args := [.int .i64 k]) Try.func64 rfl rfl ?_
  have S := Sat.start [] w
  (repeat' (first | apply cw_seq | apply cw_region | apply wl_nil | apply cw_block | apply cw_skip | apply cw_exit | apply cw_ret | (apply x_not; exact rfl; exact rfl) | (apply x_move; exact rfl; exact rfl; (exact (by repeat' constructor))) | (apply x_assign; exact rfl; exact rfl; (exact (by repeat' constructor))) | (apply x_bin; exact rfl; exact rfl; exact rfl; (first | exact .z (.wrap (by omega)) | exact (by repeat' constructor))) | (apply x_pick; exact rfl; exact rfl; exact rfl; (exact (by repeat' constructor))) | (apply cw_true; exact rfl) | (apply cw_false; exact rfl) | (apply x_ndec; exact rfl; with_reducible exact rfl; all_goals (intro _; try omega)) | (apply x_dec; exact rfl; all_goals (intro _; try omega)) | (apply cw_ne; exact rfl; all_goals (intro _; try omega)) | (apply cw_eq; exact rfl; all_goals (intro _; try omega)) | (apply cw_not; exact rfl; all_goals (intro _; try omega)) | (apply cw_cond; exact rfl; all_goals (intro _; try omega)) | (apply x_gndec; exact rfl; exact rfl; with_reducible exact rfl; all_goals (intro _; try omega)) | (apply x_gdec; exact rfl; exact rfl; all_goals (intro _; try omega)) | (apply x_gne; exact rfl; exact rfl; all_goals (intro _; try omega)) | (apply x_geq; exact rfl; exact rfl; all_goals (intro _; try omega)) | (apply x_gnot; exact rfl; exact rfl; all_goals (intro _; try omega)) | (apply x_gsplit; exact rfl; exact rfl; all_goals (intro _; try omega))))
  all_goals refine q_retS (by assumption) rfl (by repeat (first | exact .nil | (apply RV.tmp; exact (by repeat' constructor)) | (apply RV.cell; exact rfl; exact (by repeat' constructor); exact rfl; exact rfl; exact (by repeat' constructor)))) ?_
  all_goals refine ⟨?_, Sat.keeps (by assumption)⟩
  all_goals first | (rw [if_pos (by omega)]; rfl) | (rw [if_neg (by omega)]; rfl)
set_option maxRecDepth 100000 in
theorem e_along : Ent Try.prog 47 := fun _ _ => rfl
set_option maxRecDepth 4000 in
set_option maxHeartbeats 2000000 in
theorem along_c (A : Option Addr) (c : Nat) (l : List Sp) (hl : l.length ≤ 9223372036854775807) (k : Int) (w : World) (R : Rd w A 3 l.length (fun i => spC (l.getD i sp0))) : Calls Try.prog 47 #[.slice A l.length c, .int .i64 k] w (RetP (Val (.int .i64 (alE l k)) w)) := by
  refine calls_of_cw (args := [.slice A l.length c, .int .i64 k]) Try.func47 rfl rfl ?_
  have S := Sat.start [] w
  have O := (R).old
  (repeat' (first | apply cw_seq | apply cw_region | apply wl_nil | apply cw_block | apply cw_skip | apply cw_exit | apply cw_ret | (apply x_callv; assumption; exact rfl; exact rfl; exact rfl; exact e_CheckSpots; (exact (by repeat' constructor)); exact (CheckSpots_c _ _ l hl _ (Old.now O (by assumption))); intro _ _ _) | (apply z1_callv; exact rfl; exact rfl; exact e_CheckSpots; (exact (by repeat' constructor)); exact (fun _ _ => CheckSpots_c _ _ l hl _ (Old.now O (by assumption)))) | (apply z2_callv; exact rfl; exact rfl; exact e_CheckSpots; (exact (by repeat' constructor)); exact (fun _ _ => CheckSpots_c _ _ l hl _ (Old.now O (by assumption)))) | (apply x_callv; assumption; exact rfl; exact rfl; exact rfl; exact e_axes; (exact (by repeat' constructor)); exact (axes_c _ _); intro _ _ _) | (apply z1_callv; exact rfl; exact rfl; exact e_axes; (exact (by repeat' constructor)); exact (fun _ _ => axes_c _ _)) | (apply z2_callv; exact rfl; exact rfl; exact e_axes; (exact (by repeat' constructor)); exact (fun _ _ => axes_c _ _)) | (apply x_move; exact rfl; exact rfl; (exact (by repeat' constructor))) | (apply x_assign; exact rfl; exact rfl; (exact (by repeat' constructor))) | (apply x_neStr; exact rfl; exact rfl; exact rfl; exact rfl) | (apply x_bin; exact rfl; exact rfl; exact rfl; (first | exact .z (.wrap (by omega)) | exact (by repeat' constructor))) | (apply cw_true; exact rfl) | (apply cw_false; exact rfl) | (apply x_ndec; exact rfl; with_reducible exact rfl; all_goals (intro _; try omega)) | (apply x_dec; exact rfl; all_goals (intro _; try omega)) | (apply cw_ne; exact rfl; all_goals (intro _; try omega)) | (apply cw_eq; exact rfl; all_goals (intro _; try omega)) | (apply cw_not; exact rfl; all_goals (intro _; try omega)) | (apply cw_cond; exact rfl; all_goals (intro _; try omega))))
  all_goals refine q_retS (by assumption) rfl (by repeat (first | exact .nil | (apply RV.tmp; exact (by repeat' constructor)) | (apply RV.cell; exact rfl; exact (by repeat' constructor); exact rfl; exact rfl; exact (by repeat' constructor)))) ?_
  all_goals refine ⟨?_, Sat.keeps (by assumption)⟩
  all_goals first | (rw [alE, if_pos (by assumption)]; rfl) | (rw [alE, if_neg (show ¬ ¬ spE l = 0 by simp_all)]; rfl)
theorem alE0 {l : List Sp} {k : Int} (h : alE l k = 0) : (l.length ≤ 64 ∧ allP l) ∧ 0 ≤ k ∧ k < 3 := by
  unfold alE at h
  split at h
  · contradiction
  · rename_i h1
    split at h
    · omega
    · exact ⟨spE0 (by simpa using h1), by omega⟩
/-! ### the coordinates' range -/
theorem rowR_n {V : Value → Value} {E size n : Nat} {xs : List (List Value)} {A : Option Addr} {c : Nat} {h : List HO} {w w' : World} (hn : n = xs.length) (S : Sat w [] h w') (hh : Has h (.rw 0 (.slice A n c) E size xs)) : RowR V E size xs w (V (.slice A n c)) w' := by
  subst hn
  exact rowR_xs S hh
theorem idxG_nil {α : Type} {φ : α → Prop} {k : Nat} : idxG φ [] k = -1 := rfl
set_option maxRecDepth 100000 in
theorem e_rg1 : Ent Try.prog 79 := fun _ _ => rfl
set_option maxRecDepth 4000 in
set_option maxHeartbeats 2000000 in
theorem rg1_c (n : Int) (w : World) : Calls Try.prog 79 #[.int .i64 n] w (RetP (Val (.bool (@decide (¬ rgI n) (Classical.propDecidable _))) w)) := by
  refine calls_of_cw (args := [.int .i64 n]) Try.func79 rfl rfl ?_
  have S := Sat.start [] w
  (repeat' (first | apply cw_seq | apply cw_region | apply wl_nil | apply cw_block | apply cw_skip | apply cw_exit | apply cw_ret | (apply x_not; exact rfl; exact rfl) | (apply x_move; exact rfl; exact rfl; (exact (by repeat' constructor))) | (apply x_assign; exact rfl; exact rfl; (exact (by repeat' constructor))) | (apply x_bin; exact rfl; exact rfl; exact rfl; (first | exact .z (.wrap (by omega)) | exact (by repeat' constructor))) | (apply x_pick; exact rfl; exact rfl; exact rfl; (exact (by repeat' constructor))) | (apply x_gndec; exact rfl; exact rfl; with_reducible exact rfl; all_goals (intro _; try omega)) | (apply x_gdec; exact rfl; exact rfl; all_goals (intro _; try omega)) | (apply x_gne; exact rfl; exact rfl; all_goals (intro _; try omega)) | (apply x_geq; exact rfl; exact rfl; all_goals (intro _; try omega)) | (apply x_gnot; exact rfl; exact rfl; all_goals (intro _; try omega)) | (apply x_gsplit; exact rfl; exact rfl; all_goals (intro _; try omega))))
  all_goals refine q_retS (by assumption) rfl (by repeat (first | exact .nil | (apply RV.tmp; exact (by repeat' constructor)) | (apply RV.cell; exact rfl; exact (by repeat' constructor); exact rfl; exact rfl; exact (by repeat' constructor)))) ?_
  all_goals refine ⟨?_, Sat.keeps (by assumption)⟩
  all_goals
    show Value.bool _ = Value.bool _
    refine congrArg Value.bool ?_
    rw [Bool.eq_iff_iff]
    simp [rgI]
    try omega
set_option maxRecDepth 100000 in
theorem e_indexI : Ent Try.prog 93 := fun _ _ => rfl
set_option maxRecDepth 4000 in
set_option maxHeartbeats 2000000 in
theorem indexI_c (A : Option Addr) (c : Nat) (l : List Int) (hl : l.length ≤ 9223372036854775807) (w : World) (R : Rd w A 1 l.length (fun i => [Value.int .i64 (l.getD i 0)])) : Calls Try.prog 93 #[.slice A l.length c, .func (.func 79) #[] #[]] w (RetP (Val (.int .i64 (idxG (fun n => ¬ rgI n) l 0)) w)) := by
  refine calls_of_cw (args := [.slice A l.length c, .func (.func 79) #[] #[]]) Try.func93 rfl rfl ?_
  have S := Sat.start [] w
  have O := (R).old
  (repeat' (first | apply cw_seq | apply cw_region | apply wl_nil | apply cw_block | apply cw_skip | apply cw_exit | apply cw_ret | (apply x_move; exact rfl; exact rfl; (exact (by repeat' constructor))) | (apply x_assign; exact rfl; exact rfl; (exact (by repeat' constructor))) | (apply x_load; assumption; exact rfl; exact rfl; exact rfl; (exact (by repeat' constructor)); exact rfl; exact rfl; (exact (by repeat' constructor))) | (apply x_bin; exact rfl; exact rfl; exact rfl; (first | exact .z (.wrap (by omega)) | exact (by repeat' constructor))) | (apply x_builtin; exact rfl; exact rfl; exact (fun _ => rfl); (exact (by repeat' constructor))) | (apply x_loadB; assumption; exact rfl; exact rfl; exact rfl; assumption; exact rfl; exact rfl; (exact (by repeat' constructor))) | (apply x_index; exact rfl; exact rfl; exact rfl; exact rfl; exact rfl; (constructor); (first | omega | exact size_pos (by assumption) | assumption); (first | exact rfl | assumption | exact Rd.some_ (by assumption) (by omega) | exact Rd.some_ (Old.rd (by assumption)) (by omega) | exact (Sat.rd (by assumption) (by exact (by repeat' constructor))).some_ (by omega))) | (apply x_indexArrB; exact rfl; exact rfl; exact rfl; exact rfl; exact rfl; decide; decide; (constructor)) | (apply x_loadR; exact rfl; exact rfl; exact rfl; (first | exact Old.now (by assumption) (by assumption) | exact Sat.rdpr (by assumption) (by exact (by repeat' constructor)) | exact Sat.rd (by assumption) (by exact (by repeat' constructor))); (first | omega | exact size_pos (by assumption) | assumption); exact rfl; exact rfl; (exact (by repeat' constructor))) | (apply cw_true; exact rfl) | (apply cw_false; exact rfl) | (apply x_ndec; exact rfl; with_reducible exact rfl; all_goals (intro _; try omega)) | (apply x_dec; exact rfl; all_goals (intro _; try omega)) | (apply cw_ne; exact rfl; all_goals (intro _; try omega)) | (apply cw_eq; exact rfl; all_goals (intro _; try omega)) | (apply cw_not; exact rfl; all_goals (intro _; try omega)) | (apply cw_cond; exact rfl; all_goals (intro _; try omega))))
  refine cw_loop [4, 5, 8, 9, 10, 11, 12, 13, 14, 15, 16, 17, 18] [8] (fun us wr => ∃ k : Nat, k ≤ l.length ∧ us = [.int .i64 k] ∧ Sat w [] [] wr ∧ idxG (fun n => ¬ rgI n) l 0 = idxG (fun n => ¬ rgI n) (l.drop k) k) (fun us _ => l.length - (intOf (us.getD 0 undef)).toNat) ?_ ?_
  · exact ⟨0, by omega, rfl, S, rfl⟩
  clear S
  rintro g' us wr ⟨k, hk, rfl, Sr, hfe⟩
  by_cases hlt : k < l.length
  · rw [drop_getD hlt 0] at hfe
    (repeat' (first | apply cw_seq | apply cw_region | apply wl_nil | apply cw_block | apply cw_skip | apply cw_exit | apply cw_ret | (apply x_callv; assumption; exact rfl; exact rfl; exact rfl; exact e_rg1; (exact (by repeat' constructor)); exact (rg1_c _ _); intro _ _ _) | (apply z1_callv; exact rfl; exact rfl; exact e_rg1; (exact (by repeat' constructor)); exact (fun _ _ => rg1_c _ _)) | (apply z2_callv; exact rfl; exact rfl; exact e_rg1; (exact (by repeat' constructor)); exact (fun _ _ => rg1_c _ _)) | (apply x_move; exact rfl; exact rfl; (exact (by repeat' constructor))) | (apply x_assign; exact rfl; exact rfl; (exact (by repeat' constructor))) | (apply x_load; assumption; exact rfl; exact rfl; exact rfl; (exact (by repeat' constructor)); exact rfl; exact rfl; (exact (by repeat' constructor))) | (apply x_bin; exact rfl; exact rfl; exact rfl; (first | exact .z (.wrap (by omega)) | exact (by repeat' constructor))) | (apply x_builtin; exact rfl; exact rfl; exact (fun _ => rfl); (exact (by repeat' constructor))) | (apply x_loadB; assumption; exact rfl; exact rfl; exact rfl; assumption; exact rfl; exact rfl; (exact (by repeat' constructor))) | (apply x_index; exact rfl; exact rfl; exact rfl; exact rfl; exact rfl; (constructor); (first | omega | exact size_pos (by assumption) | assumption); (first | exact rfl | assumption | exact Rd.some_ (by assumption) (by omega) | exact Rd.some_ (Old.rd (by assumption)) (by omega) | exact (Sat.rd (by assumption) (by exact (by repeat' constructor))).some_ (by omega))) | (apply x_indexArrB; exact rfl; exact rfl; exact rfl; exact rfl; exact rfl; decide; decide; (constructor)) | (apply x_loadR; exact rfl; exact rfl; exact rfl; (first | exact Old.now (by assumption) (by assumption) | exact Sat.rdpr (by assumption) (by exact (by repeat' constructor)) | exact Sat.rd (by assumption) (by exact (by repeat' constructor))); (first | omega | exact size_pos (by assumption) | assumption); exact rfl; exact rfl; (exact (by repeat' constructor))) | (apply cw_true; exact rfl) | (apply cw_false; exact rfl) | (apply x_ndec; exact rfl; with_reducible exact rfl; all_goals (intro _; try omega)) | (apply x_dec; exact rfl; all_goals (intro _; try omega)) | (apply cw_ne; exact rfl; all_goals (intro _; try omega)) | (apply cw_eq; exact rfl; all_goals (intro _; try omega)) | (apply cw_not; exact rfl; all_goals (intro _; try omega)) | (apply cw_cond; exact rfl; all_goals (intro _; try omega))))
    · refine q_retS (by assumption) rfl (by repeat (first | exact .nil | (apply RV.tmp; exact (by repeat' constructor)) | (apply RV.cell; exact rfl; exact (by repeat' constructor); exact rfl; exact rfl; exact (by repeat' constructor)))) ?_
      refine ⟨?_, Sat.keeps (by assumption)⟩
      rw [hfe, idxG_yes (by assumption)]
      rfl
    · refine ⟨rfl, (by repeat (first | exact Agree.updl rfl (Agree.mask _ _ _) | refine Agree.upd rfl ?_)), ⟨k + 1, hlt, rfl, by assumption, ?_⟩, ?_⟩
      · rw [hfe, idxG_no (by assumption)]
      · show l.length - (k + 1 : Int).toNat < l.length - (k : Int).toNat
        omega
  · (repeat' (first | apply cw_seq | apply cw_region | apply wl_nil | apply cw_block | apply cw_skip | apply cw_exit | apply cw_ret | (apply x_move; exact rfl; exact rfl; (exact (by repeat' constructor))) | (apply x_assign; exact rfl; exact rfl; (exact (by repeat' constructor))) | (apply x_load; assumption; exact rfl; exact rfl; exact rfl; (exact (by repeat' constructor)); exact rfl; exact rfl; (exact (by repeat' constructor))) | (apply x_bin; exact rfl; exact rfl; exact rfl; (first | exact .z (.wrap (by omega)) | exact (by repeat' constructor))) | (apply x_builtin; exact rfl; exact rfl; exact (fun _ => rfl); (exact (by repeat' constructor))) | (apply x_loadB; assumption; exact rfl; exact rfl; exact rfl; assumption; exact rfl; exact rfl; (exact (by repeat' constructor))) | (apply x_index; exact rfl; exact rfl; exact rfl; exact rfl; exact rfl; (constructor); (first | omega | exact size_pos (by assumption) | assumption); (first | exact rfl | assumption | exact Rd.some_ (by assumption) (by omega) | exact Rd.some_ (Old.rd (by assumption)) (by omega) | exact (Sat.rd (by assumption) (by exact (by repeat' constructor))).some_ (by omega))) | (apply x_indexArrB; exact rfl; exact rfl; exact rfl; exact rfl; exact rfl; decide; decide; (constructor)) | (apply x_loadR; exact rfl; exact rfl; exact rfl; (first | exact Old.now (by assumption) (by assumption) | exact Sat.rdpr (by assumption) (by exact (by repeat' constructor)) | exact Sat.rd (by assumption) (by exact (by repeat' constructor))); (first | omega | exact size_pos (by assumption) | assumption); exact rfl; exact rfl; (exact (by repeat' constructor))) | (apply cw_true; exact rfl) | (apply cw_false; exact rfl) | (apply x_ndec; exact rfl; with_reducible exact rfl; all_goals (intro _; try omega)) | (apply x_dec; exact rfl; all_goals (intro _; try omega)) | (apply cw_ne; exact rfl; all_goals (intro _; try omega)) | (apply cw_eq; exact rfl; all_goals (intro _; try omega)) | (apply cw_not; exact rfl; all_goals (intro _; try omega)) | (apply cw_cond; exact rfl; all_goals (intro _; try omega))))
    refine q_retS (by assumption) rfl (by repeat (first | exact .nil | (apply RV.tmp; exact (by repeat' constructor)) | (apply RV.cell; exact rfl; exact (by repeat' constructor); exact rfl; exact rfl; exact (by repeat' constructor)))) ?_
    refine ⟨?_, Sat.keeps (by assumption)⟩
    rw [hfe, List.drop_eq_nil_of_le (by omega)]
    rfl
set_option maxRecDepth 100000 in
theorem e_containsI : Ent Try.prog 78 := fun _ _ => rfl
set_option maxRecDepth 4000 in
set_option maxHeartbeats 2000000 in
theorem containsI_c (A : Option Addr) (c : Nat) (l : List Int) (hl : l.length ≤ 9223372036854775807) (w : World) (R : Rd w A 1 l.length (fun i => [Value.int .i64 (l.getD i 0)])) : Calls Try.prog 78 #[.slice A l.length c, .func (.func 79) #[] #[]] w (RetP (Val (.bool (@decide (∃ n ∈ l, ¬ rgI n) (Classical.propDecidable _))) w)) := by
  refine calls_of_cw (args := [.slice A l.length c, .func (.func 79) #[] #[]]) Try.func78 rfl rfl ?_
  have S := Sat.start [] w
  have O := (R).old
  (repeat' (first | apply cw_seq | apply cw_region | apply wl_nil | apply cw_block | apply cw_skip | apply cw_exit | apply cw_ret | (apply x_callv; assumption; exact rfl; exact rfl; exact rfl; exact e_indexI; (exact (by repeat' constructor)); exact (indexI_c _ _ l hl _ (Old.now O (by assumption))); intro _ _ _) | (apply z1_callv; exact rfl; exact rfl; exact e_indexI; (exact (by repeat' constructor)); exact (fun _ _ => indexI_c _ _ l hl _ (Old.now O (by assumption)))) | (apply z2_callv; exact rfl; exact rfl; exact e_indexI; (exact (by repeat' constructor)); exact (fun _ _ => indexI_c _ _ l hl _ (Old.now O (by assumption)))) | (apply x_move; exact rfl; exact rfl; (exact (by repeat' constructor))) | (apply x_assign; exact rfl; exact rfl; (exact (by repeat' constructor))) | (apply x_bin; exact rfl; exact rfl; exact rfl; (first | exact .z (.wrap (by omega)) | exact (by repeat' constructor)))))
  all_goals refine q_retS (by assumption) rfl (by repeat (first | exact .nil | (apply RV.tmp; exact (by repeat' constructor)) | (apply RV.cell; exact rfl; exact (by repeat' constructor); exact rfl; exact rfl; exact (by repeat' constructor)))) ?_
  all_goals refine ⟨?_, Sat.keeps (by assumption)⟩
  all_goals
    show Value.bool _ = Value.bool _
    refine congrArg Value.bool ?_
    rw [Bool.eq_iff_iff]
    simp [idxG_iff, pack]
theorem spC_map (p : Sp) : spC p = [p.1, p.2.1, p.2.2].map (Value.int .i64) := rfl
set_option maxRecDepth 100000 in
theorem e_ranged : Ent Try.prog 59 := fun _ _ => rfl
set_option maxRecDepth 4000 in
set_option maxHeartbeats 2000000 in
theorem ranged_c (p : Sp) (b : Nat) (w : World) (O1 : OldB w [] b 86 (spC p)) : Calls Try.prog 59 #[.pointer (some ⟨b, 0, none⟩)] w (RetP (Val (.bool (decide (rgS p))) w)) := by
  refine calls_of_cw (args := [.pointer (some ⟨b, 0, none⟩)]) Try.func59 rfl rfl ?_
  have S := Sat.start [] w
  (repeat' (first | apply cw_seq | apply cw_region | apply wl_nil | apply cw_block | apply cw_skip | apply cw_exit | apply cw_ret | (apply x_callv; assumption; exact rfl; exact rfl; exact rfl; exact e_containsI; (exact (by repeat' constructor)); exact (containsI_c (some ⟨b, 0, none⟩) 3 [p.1, p.2.1, p.2.2] (by simp) _ (OldB.rdl (en := Value.int .i64) (0 : Int) (OldB.mk (OldB.now O1 (by assumption)) (by simp)))); intro _ _ _) | (apply z1_callv; exact rfl; exact rfl; exact e_containsI; (exact (by repeat' constructor)); exact (fun _ _ => containsI_c (some ⟨b, 0, none⟩) 3 [p.1, p.2.1, p.2.2] (by simp) _ (OldB.rdl (en := Value.int .i64) (0 : Int) (OldB.mk (OldB.now O1 (by assumption)) (by simp))))) | (apply z2_callv; exact rfl; exact rfl; exact e_containsI; (exact (by repeat' constructor)); exact (fun _ _ => containsI_c (some ⟨b, 0, none⟩) 3 [p.1, p.2.1, p.2.2] (by simp) _ (OldB.rdl (en := Value.int .i64) (0 : Int) (OldB.mk (OldB.now O1 (by assumption)) (by simp))))) | (apply x_sliceHi; exact rfl; exact rfl; exact rfl; exact rfl; exact rfl; (exact (by omega)); (exact (by omega))) | (apply x_sliceLo; exact rfl; exact rfl; exact rfl; exact rfl; exact rfl; (constructor); (exact (by omega)); (exact (by omega))) | (apply x_nilP; exact rfl; exact rfl; exact rfl) | (apply x_sliceArr; exact rfl; exact rfl; exact rfl; exact rfl) | (apply x_move; exact rfl; exact rfl; (exact (by repeat' constructor))) | (apply x_assign; exact rfl; exact rfl; (exact (by repeat' constructor))) | (apply x_un; exact rfl; exact rfl; exact rfl; (first | exact .z (.wrap (by omega)) | exact (by repeat' constructor)))))
  all_goals refine q_retS (by assumption) rfl (by repeat (first | exact .nil | (apply RV.tmp; exact (by repeat' constructor)) | (apply RV.cell; exact rfl; exact (by repeat' constructor); exact rfl; exact rfl; exact (by repeat' constructor)))) ?_
  all_goals refine ⟨?_, Sat.keeps (by assumption)⟩
  all_goals
    show Value.bool _ = Value.bool _
    refine congrArg Value.bool ?_
    rw [Bool.eq_iff_iff, decide_eq_true_eq (p := rgS p)]
    simp [rgS]
/-! ### mirrored -/
theorem each_own {g : FuncId} {cap : List Value} {φ : Sp → Sp} {M : List Nat} {H : List HO} {l : List Sp} {w : World}
    (hc : ∀ p b W, p ∈ l → Sat W [b] [.cl b 86 (spC (p))] W → (∀ b2 T cs, HO.cl b2 T cs ∈ H → OldB W [b] b2 T cs) → Calls Try.prog g (.pointer (some ⟨b, 0, none⟩) :: cap).toArray W (RetP fun v w' => ∃ _ : Unit, v = .tuple #[] ∧ Sat W [b] [.cl b 86 (spC (φ p))] w')) : EachC g cap φ M (fun _ => H) l w := by
  intro pre p rest fr b W hl S
  have S1 : Sat w M ([.cl b 86 (spC (p))] ++ (fr ++ H)) W := S
  refine (hc p b W (by rw [hl]; simp) S1.part (fun b2 T cs hm => S.other rfl (List.mem_append_right _ hm))).mono ?_
  rintro e W' ⟨v, rfl, _, rfl, S2⟩
  exact ⟨_, rfl, rfl, S1.merge S2⟩
set_option maxRecDepth 100000 in
theorem e_Mirror1 : Ent Try.prog 53 := fun _ _ => rfl
set_option maxRecDepth 4000 in
theorem Mirror1_c (p : Sp) (k : Int) (hk : 0 ≤ k ∧ k < 3) (hp : rgS p) (b bx : Nat) (w : World) (S : Sat w [b] [.cl b 86 (spC (p))] w) (O : OldB w [b] bx 3 [.int .i64 k]) :
    Calls Try.prog 53 #[.pointer (some ⟨b, 0, none⟩), .pointer (some ⟨bx, 0, none⟩)] w (RetP fun v w' => ∃ _ : Unit, v = .tuple #[] ∧ Sat w [b] [.cl b 86 (spC (mirS k p))] w') := by
  refine calls_of_cw (args := [.pointer (some ⟨b, 0, none⟩), .pointer (some ⟨bx, 0, none⟩)]) Try.func53 rfl rfl ?_
  (repeat' (first | apply cw_seq | apply cw_region | apply wl_nil | apply cw_block | apply cw_skip | apply cw_exit | apply cw_ret | (apply x_callC (bd := []) (hc := [.cl b 86 (spC (p))]) (fr := []); assumption; exact rfl; exact rfl; exact rfl; exact e_mirror; (exact (by repeat' constructor)); exact List.Perm.refl _; exact (fun Sc => mirror_c p k hk hp b _ Sc); intro _ w2 S2; replace S2 : Sat w [b] [.cl b 86 (spC (mirS k p))] w2 := S2) | (apply x_move; exact rfl; exact rfl; (exact (by repeat' constructor))) | (apply x_load; assumption; exact rfl; exact rfl; exact rfl; (exact (by repeat' constructor)); exact rfl; exact rfl; (exact (by repeat' constructor))) | (apply x_loadB; assumption; exact rfl; exact rfl; exact rfl; assumption; exact rfl; exact rfl; (exact (by repeat' constructor))) | (apply x_loadR; exact rfl; exact rfl; exact rfl; (first | exact Old.now (by assumption) (by assumption) | exact Sat.rdpr (by assumption) (by exact (by repeat' constructor)) | exact Sat.rd (by assumption) (by exact (by repeat' constructor))); (first | omega | exact size_pos (by assumption) | assumption); exact rfl; exact rfl; (exact (by repeat' constructor)))))
  all_goals first | (apply q_ret0; exact rfl) | (apply q_end0; exact rfl)
  all_goals exact ⟨(), rfl, by assumption⟩
noncomputable def mapS (φ : Sp → Sp) (l : List Sp) (e : Int) : List Sp := if e = 0 then l.map φ else []
set_option maxRecDepth 100000 in
theorem e_Mirror : Ent Try.prog 19 := fun _ _ => rfl
set_option maxRecDepth 4000 in
set_option maxHeartbeats 2000000 in
theorem Mirror_c (A : Option Addr) (c : Nat) (l : List Sp) (hl : l.length ≤ 9223372036854775807) (k : Int) (w : World) (R : Rd w A 3 l.length (fun i => spC (l.getD i sp0))) : Calls Try.prog 19 #[.slice A l.length c, .int .i64 k] w (RetP (RowR (fun v => .tuple #[v, .int .i64 (alE l k)]) 30 3 ((mapS (mirS k) l (alE l k)).map spC) w)) := by
  refine calls_of_cw (args := [.slice A l.length c, .int .i64 k]) Try.func19 rfl rfl ?_
  have S := Sat.start [] w
  have O := (R).old
  (repeat' (first | apply cw_seq | apply cw_region | apply wl_nil | apply cw_block | apply cw_skip | apply cw_exit | apply cw_ret | (apply x_callv; assumption; exact rfl; exact rfl; exact rfl; exact e_along; (exact (by repeat' constructor)); exact (along_c _ _ l hl k _ (Old.now O (by assumption))); intro _ _ _) | (apply z1_callv; exact rfl; exact rfl; exact e_along; (exact (by repeat' constructor)); exact (fun _ _ => along_c _ _ l hl k _ (Old.now O (by assumption)))) | (apply z2_callv; exact rfl; exact rfl; exact e_along; (exact (by repeat' constructor)); exact (fun _ _ => along_c _ _ l hl k _ (Old.now O (by assumption)))) | (apply x_callC (bd := []) (hc := [.cl _ 3 [.int .i64 k]]) (fr := []); assumption; exact rfl; exact rfl; exact rfl; exact e_each; (exact (by repeat' constructor)); exact List.Perm.refl _; (have ha := alE0 (by assumption)); exact (fun Sc => each_c e_Mirror1 (mirS k) _ (fun _ => [.cl _ 3 [.int .i64 k]]) A c l hl (by omega) _ Sc (Old.rebase O (fun _ => by simp [spC]) (by assumption)) (each_own fun p b W hp Sp hO => Mirror1_c p k ha.2 (allP_mem.1 ha.1.2 p hp) b _ W Sp (hO _ _ _ (by simp)))); intro q w2 S2; replace S2 : Sat w [] [_, _] w2 := S2) | (apply x_move; exact rfl; exact rfl; (exact (by repeat' constructor))) | (apply x_assign; exact rfl; exact rfl; (exact (by repeat' constructor))) | (apply x_load; assumption; exact rfl; exact rfl; exact rfl; (exact (by repeat' constructor)); exact rfl; exact rfl; (exact (by repeat' constructor))) | (apply x_neStr; exact rfl; exact rfl; exact rfl; exact rfl) | (apply x_bin; exact rfl; exact rfl; exact rfl; (first | exact .z (.wrap (by omega)) | exact (by repeat' constructor))) | (apply x_box; assumption; exact rfl; exact rfl; (exact (by repeat' constructor)); (exact (by repeat' constructor)); intro _ _ _) | (apply x_makeFunc; exact rfl; exact rfl; (exact (by repeat' constructor))) | (apply x_makeFuncB; exact rfl; exact rfl; (exact (by repeat' constructor))) | (apply x_loadB; assumption; exact rfl; exact rfl; exact rfl; assumption; exact rfl; exact rfl; (exact (by repeat' constructor))) | (apply x_loadR; exact rfl; exact rfl; exact rfl; (first | exact Old.now (by assumption) (by assumption) | exact Sat.rdpr (by assumption) (by exact (by repeat' constructor)) | exact Sat.rd (by assumption) (by exact (by repeat' constructor))); (first | omega | exact size_pos (by assumption) | assumption); exact rfl; exact rfl; (exact (by repeat' constructor))) | (apply cw_true; exact rfl) | (apply cw_false; exact rfl) | (apply x_ndec; exact rfl; with_reducible exact rfl; all_goals (intro _; try omega)) | (apply x_dec; exact rfl; all_goals (intro _; try omega)) | (apply cw_ne; exact rfl; all_goals (intro _; try omega)) | (apply cw_eq; exact rfl; all_goals (intro _; try omega)) | (apply cw_not; exact rfl; all_goals (intro _; try omega)) | (apply cw_cond; exact rfl; all_goals (intro _; try omega))))
  all_goals first
    | (refine q_retS (by assumption) rfl (by repeat (first | exact .nil | (apply RV.tmp; exact (by repeat' constructor)) | (apply RV.cell; exact rfl; exact (by repeat' constructor); exact rfl; exact rfl; exact (by repeat' constructor)))) ?_
       exact rowR_nil (V := fun v => .tuple #[v, .int .i64 (alE l k)]) (by rw [mapS, if_neg (by assumption)]; rfl) (Sat.keeps (by assumption)))
    | (refine q_retS (by assumption) rfl (by repeat (first | exact .nil | (apply RV.tmp; exact (by repeat' constructor)) | (apply RV.cell; exact rfl; exact (by repeat' constructor); exact rfl; exact rfl; exact (by repeat' constructor)))) ?_
       have h0 : alE l k = 0 := by assumption
       rw [mapS, if_pos h0, h0]
       exact rowR_n (V := fun v => .tuple #[v, .int .i64 0]) (by simp) (by assumption) .head)
/-! ### turned -/
def nturn (k : Int) : Nat → Sp → Sp
  | 0, p => p
  | n + 1, p => turnS k (nturn k n p)
theorem nturn_rg {k : Int} {p : Sp} (h : rgS p) : ∀ n : Nat, rgS (nturn k n p)
  | 0 => h
  | n + 1 => turnS_rg (nturn_rg h n)
theorem tmod_b (q : Int) : -4 < Int.tmod q 4 ∧ Int.tmod q 4 < 4 := by
  rcases Int.le_total 0 q with h | h
  · rw [Int.tmod_eq_emod_of_nonneg h]; omega
  · have := Int.neg_tmod (-q) 4
    rw [Int.neg_neg] at this
    rw [this, Int.tmod_eq_emod_of_nonneg (by omega)]; omega
def qn (q : Int) : Int := Int.tmod (Int.tmod q 4 + 4) 4
theorem qn_e (q : Int) : qn q = (Int.tmod q 4 + 4) % 4 := by
  have := tmod_b q
  rw [qn, Int.tmod_eq_emod_of_nonneg (by omega)]
theorem qn_b (q : Int) : 0 ≤ qn q ∧ qn q < 4 := by rw [qn_e]; omega
set_option maxRecDepth 100000 in
theorem e_Turn1 : Ent Try.prog 49 := fun _ _ => rfl
set_option maxRecDepth 4000 in
theorem Turn1_c (p : Sp) (k n : Int) (hn : 0 ≤ n ∧ n < 4) (hp : rgS p) (b bn bx : Nat) (w : World) (S : Sat w [b] [.cl b 86 (spC (p))] w) (On : OldB w [b] bn 3 [.int .i64 n]) (Ox : OldB w [b] bx 3 [.int .i64 k]) :
    Calls Try.prog 49 #[.pointer (some ⟨b, 0, none⟩), .pointer (some ⟨bn, 0, none⟩), .pointer (some ⟨bx, 0, none⟩)] w (RetP fun v w' => ∃ _ : Unit, v = .tuple #[] ∧ Sat w [b] [.cl b 86 (spC (nturn k n.toNat p))] w') := by
  refine calls_of_cw (args := [.pointer (some ⟨b, 0, none⟩), .pointer (some ⟨bn, 0, none⟩), .pointer (some ⟨bx, 0, none⟩)]) Try.func49 rfl rfl ?_
  (repeat' (first | apply cw_seq | apply cw_region | apply wl_nil | apply cw_block | apply cw_skip | apply cw_exit | apply cw_ret | (apply x_move; exact rfl; exact rfl; (exact (by repeat' constructor))) | (apply x_assign; exact rfl; exact rfl; (exact (by repeat' constructor))) | (apply x_load; assumption; exact rfl; exact rfl; exact rfl; (exact (by repeat' constructor)); exact rfl; exact rfl; (exact (by repeat' constructor))) | (apply x_bin; exact rfl; exact rfl; exact rfl; (first | exact .z (.wrap (by omega)) | exact (by repeat' constructor))) | (apply x_makeFunc; exact rfl; exact rfl; (exact (by repeat' constructor))) | (apply x_makeFuncB; exact rfl; exact rfl; (exact (by repeat' constructor))) | (apply x_loadB; assumption; exact rfl; exact rfl; exact rfl; assumption; exact rfl; exact rfl; (exact (by repeat' constructor))) | (apply x_loadR; exact rfl; exact rfl; exact rfl; (first | exact Old.now (by assumption) (by assumption) | exact Sat.rdpr (by assumption) (by exact (by repeat' constructor)) | exact Sat.rd (by assumption) (by exact (by repeat' constructor))); (first | omega | exact size_pos (by assumption) | assumption); exact rfl; exact rfl; (exact (by repeat' constructor))) | (apply cw_true; exact rfl) | (apply cw_false; exact rfl) | (apply x_ndec; exact rfl; with_reducible exact rfl; all_goals (intro _; try omega)) | (apply x_dec; exact rfl; all_goals (intro _; try omega)) | (apply cw_ne; exact rfl; all_goals (intro _; try omega)) | (apply cw_eq; exact rfl; all_goals (intro _; try omega)) | (apply cw_not; exact rfl; all_goals (intro _; try omega)) | (apply cw_cond; exact rfl; all_goals (intro _; try omega))))
  refine cw_loop [8, 9, 10, 11, 12, 13] [8] (fun us wr => ∃ j : Nat, (j : Int) ≤ n ∧ us = [.int .i64 j] ∧ Sat w [b] [.cl b 86 (spC (nturn k j p))] wr) (fun us _ => n.toNat - (intOf (us.getD 0 undef)).toNat) ?_ ?_
  · exact ⟨0, by omega, rfl, S⟩
  clear S
  rintro g' us wr ⟨j, hj, rfl, Sr⟩
  by_cases hlt : (j : Int) < n
  · have hr := nturn_rg (k := k) hp j
    (repeat' (first | apply cw_seq | apply cw_region | apply wl_nil | apply cw_block | apply cw_skip | apply cw_exit | apply cw_ret | (apply x_callC (bd := [.pointer (some ⟨b, 0, none⟩)]) (hc := [.cl b 86 (spC (nturn k j p))]) (fr := []); assumption; exact rfl; exact rfl; exact rfl; exact e_turn; (exact (by repeat' constructor)); exact List.Perm.refl _; exact (fun Sc => turn_c (nturn k j p) k hr.1 hr.2.1 hr.2.2 b _ Sc); intro _ w2 S2; replace S2 : Sat w [b] [.cl b 86 (spC (nturn k (j + 1) p))] w2 := S2) | (apply x_move; exact rfl; exact rfl; (exact (by repeat' constructor))) | (apply x_assign; exact rfl; exact rfl; (exact (by repeat' constructor))) | (apply x_load; assumption; exact rfl; exact rfl; exact rfl; (exact (by repeat' constructor)); exact rfl; exact rfl; (exact (by repeat' constructor))) | (apply x_bin; exact rfl; exact rfl; exact rfl; (first | exact .z (.wrap (by omega)) | exact (by repeat' constructor))) | (apply x_makeFunc; exact rfl; exact rfl; (exact (by repeat' constructor))) | (apply x_makeFuncB; exact rfl; exact rfl; (exact (by repeat' constructor))) | (apply x_loadB; assumption; exact rfl; exact rfl; exact rfl; assumption; exact rfl; exact rfl; (exact (by repeat' constructor))) | (apply x_loadR; exact rfl; exact rfl; exact rfl; (first | exact Old.now (by assumption) (by assumption) | exact Sat.rdpr (by assumption) (by exact (by repeat' constructor)) | exact Sat.rd (by assumption) (by exact (by repeat' constructor))); (first | omega | exact size_pos (by assumption) | assumption); exact rfl; exact rfl; (exact (by repeat' constructor))) | (apply cw_true; exact rfl) | (apply cw_false; exact rfl) | (apply x_ndec; exact rfl; with_reducible exact rfl; all_goals (intro _; try omega)) | (apply x_dec; exact rfl; all_goals (intro _; try omega)) | (apply cw_ne; exact rfl; all_goals (intro _; try omega)) | (apply cw_eq; exact rfl; all_goals (intro _; try omega)) | (apply cw_not; exact rfl; all_goals (intro _; try omega)) | (apply cw_cond; exact rfl; all_goals (intro _; try omega))))
    refine ⟨rfl, (by repeat (first | exact Agree.updl rfl (Agree.mask _ _ _) | refine Agree.upd rfl ?_)), ⟨j + 1, by omega, rfl, by assumption⟩, ?_⟩
    show n.toNat - (j + 1 : Int).toNat < n.toNat - (j : Int).toNat
    omega
  · (repeat' (first | apply cw_seq | apply cw_region | apply wl_nil | apply cw_block | apply cw_skip | apply cw_exit | apply cw_ret | (apply x_move; exact rfl; exact rfl; (exact (by repeat' constructor))) | (apply x_assign; exact rfl; exact rfl; (exact (by repeat' constructor))) | (apply x_load; assumption; exact rfl; exact rfl; exact rfl; (exact (by repeat' constructor)); exact rfl; exact rfl; (exact (by repeat' constructor))) | (apply x_bin; exact rfl; exact rfl; exact rfl; (first | exact .z (.wrap (by omega)) | exact (by repeat' constructor))) | (apply x_makeFunc; exact rfl; exact rfl; (exact (by repeat' constructor))) | (apply x_makeFuncB; exact rfl; exact rfl; (exact (by repeat' constructor))) | (apply x_loadB; assumption; exact rfl; exact rfl; exact rfl; assumption; exact rfl; exact rfl; (exact (by repeat' constructor))) | (apply x_loadR; exact rfl; exact rfl; exact rfl; (first | exact Old.now (by assumption) (by assumption) | exact Sat.rdpr (by assumption) (by exact (by repeat' constructor)) | exact Sat.rd (by assumption) (by exact (by repeat' constructor))); (first | omega | exact size_pos (by assumption) | assumption); exact rfl; exact rfl; (exact (by repeat' constructor))) | (apply cw_true; exact rfl) | (apply cw_false; exact rfl) | (apply x_ndec; exact rfl; with_reducible exact rfl; all_goals (intro _; try omega)) | (apply x_dec; exact rfl; all_goals (intro _; try omega)) | (apply cw_ne; exact rfl; all_goals (intro _; try omega)) | (apply cw_eq; exact rfl; all_goals (intro _; try omega)) | (apply cw_not; exact rfl; all_goals (intro _; try omega)) | (apply cw_cond; exact rfl; all_goals (intro _; try omega))))
    first | (apply q_ret0; exact rfl) | (apply q_end0; exact rfl)
    have e : n.toNat = j := by omega
    rw [e]
    exact ⟨(), rfl, Sr⟩
set_option maxRecDepth 100000 in
theorem e_Turn : Ent Try.prog 17 := fun _ _ => rfl
set_option maxRecDepth 4000 in
set_option maxHeartbeats 2000000 in
theorem Turn_c (A : Option Addr) (c : Nat) (l : List Sp) (hl : l.length ≤ 9223372036854775807) (k q : Int) (hq : -4 < Int.tmod q 4 ∧ Int.tmod q 4 < 4) (w : World) (R : Rd w A 3 l.length (fun i => spC (l.getD i sp0))) : Calls Try.prog 17 #[.slice A l.length c, .int .i64 k, .int .i64 q] w (RetP (RowR (fun v => .tuple #[v, .int .i64 (alE l k)]) 30 3 ((mapS (nturn k (qn q).toNat) l (alE l k)).map spC) w)) := by
  refine calls_of_cw (args := [.slice A l.length c, .int .i64 k, .int .i64 q]) Try.func17 rfl rfl ?_
  have S := Sat.start [] w
  have O := (R).old
  (repeat' (first | apply cw_seq | apply cw_region | apply wl_nil | apply cw_block | apply cw_skip | apply cw_exit | apply cw_ret | (apply x_remT; exact rfl; exact rfl; exact rfl; exact rfl; decide) | (apply x_callv; assumption; exact rfl; exact rfl; exact rfl; exact e_along; (exact (by repeat' constructor)); exact (along_c _ _ l hl k _ (Old.now O (by assumption))); intro _ _ _) | (apply z1_callv; exact rfl; exact rfl; exact e_along; (exact (by repeat' constructor)); exact (fun _ _ => along_c _ _ l hl k _ (Old.now O (by assumption)))) | (apply z2_callv; exact rfl; exact rfl; exact e_along; (exact (by repeat' constructor)); exact (fun _ _ => along_c _ _ l hl k _ (Old.now O (by assumption)))) | (apply x_callC (bd := []) (hc := [.cl _ 3 [.int .i64 (qn q)], .cl _ 3 [.int .i64 k]]) (fr := []); assumption; exact rfl; exact rfl; exact rfl; exact e_each; (exact (by repeat' constructor)); exact List.Perm.refl _; (have ha := alE0 (by assumption)); exact (fun Sc => each_c e_Turn1 (nturn k (qn q).toNat) _ (fun _ => [.cl _ 3 [.int .i64 (qn q)], .cl _ 3 [.int .i64 k]]) A c l hl (by omega) _ Sc (Old.rebase O (fun _ => by simp [spC]) (by assumption)) (each_own fun p b W hp Sp hO => Turn1_c p k (qn q) (qn_b q) (allP_mem.1 ha.1.2 p hp) b _ _ W Sp (hO _ _ _ (by simp)) (hO _ _ _ (by simp)))); intro q w2 S2; replace S2 : Sat w [] [_, _, _] w2 := S2) | (apply x_rem; exact rfl; exact rfl; exact rfl; exact rfl; (exact (by omega)); (exact (by omega))) | (apply x_move; exact rfl; exact rfl; (exact (by repeat' constructor))) | (apply x_assign; exact rfl; exact rfl; (exact (by repeat' constructor))) | (apply x_load; assumption; exact rfl; exact rfl; exact rfl; (exact (by repeat' constructor)); exact rfl; exact rfl; (exact (by repeat' constructor))) | (apply x_neStr; exact rfl; exact rfl; exact rfl; exact rfl) | (apply x_bin; exact rfl; exact rfl; exact rfl; (first | exact .z (.wrap (by omega)) | exact (by repeat' constructor))) | (apply x_box; assumption; exact rfl; exact rfl; (exact (by repeat' constructor)); (exact (by repeat' constructor)); intro _ _ _) | (apply x_alloc; assumption; exact rfl; exact rfl; exact rfl; (exact (by repeat' constructor)); intro _ _ _) | (apply x_store; assumption; exact rfl; exact rfl; (exact (by repeat' constructor)); (exact (by repeat' constructor)); exact rfl; exact rfl; exact rfl; (exact (by repeat' constructor)); intro _ _) | (apply x_makeFunc; exact rfl; exact rfl; (exact (by repeat' constructor))) | (apply x_makeFuncB; exact rfl; exact rfl; (exact (by repeat' constructor))) | (apply x_loadB; assumption; exact rfl; exact rfl; exact rfl; assumption; exact rfl; exact rfl; (exact (by repeat' constructor))) | (apply x_loadR; exact rfl; exact rfl; exact rfl; (first | exact Old.now (by assumption) (by assumption) | exact Sat.rdpr (by assumption) (by exact (by repeat' constructor)) | exact Sat.rd (by assumption) (by exact (by repeat' constructor))); (first | omega | exact size_pos (by assumption) | assumption); exact rfl; exact rfl; (exact (by repeat' constructor))) | (apply cw_true; exact rfl) | (apply cw_false; exact rfl) | (apply x_ndec; exact rfl; with_reducible exact rfl; all_goals (intro _; try omega)) | (apply x_dec; exact rfl; all_goals (intro _; try omega)) | (apply cw_ne; exact rfl; all_goals (intro _; try omega)) | (apply cw_eq; exact rfl; all_goals (intro _; try omega)) | (apply cw_not; exact rfl; all_goals (intro _; try omega)) | (apply cw_cond; exact rfl; all_goals (intro _; try omega))))
  all_goals first
    | (refine q_retS (by assumption) rfl (by repeat (first | exact .nil | (apply RV.tmp; exact (by repeat' constructor)) | (apply RV.cell; exact rfl; exact (by repeat' constructor); exact rfl; exact rfl; exact (by repeat' constructor)))) ?_
       exact rowR_nil (V := fun v => .tuple #[v, .int .i64 (alE l k)]) (by rw [mapS, if_neg (by assumption)]; rfl) (Sat.keeps (by assumption)))
    | (refine q_retS (by assumption) rfl (by repeat (first | exact .nil | (apply RV.tmp; exact (by repeat' constructor)) | (apply RV.cell; exact rfl; exact (by repeat' constructor); exact rfl; exact rfl; exact (by repeat' constructor)))) ?_
       have h0 : alE l k = 0 := by assumption
       rw [mapS, if_pos h0, h0]
       exact rowR_n (V := fun v => .tuple #[v, .int .i64 0]) (by simp) (by assumption) .head)
end Go.Proofs.Ytnlddjbeekfjlaa
