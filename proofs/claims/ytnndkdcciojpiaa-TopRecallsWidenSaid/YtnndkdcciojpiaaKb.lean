/- Records of calibrations: days and checks, of the program and of the reference. No statement of the seat is proved here. -/
import Derived.Test.YtnndkdcciojpiaaKa
namespace Go.Proofs.Ytnndkdcciojpiaa
set_option linter.unusedVariables false
set_option linter.unusedSimpArgs false
open Go Go.RowKit
set_option maxRecDepth 100000 in
theorem e_kranged : Ent Try.prog 39 := fun _ _ => rfl
set_option maxRecDepth 4000 in
set_option maxHeartbeats 2000000 in
theorem kranged_c (n a b : Int) (w : World) : Calls Try.prog 39 #[.int .i64 n, .int .i64 a, .int .i64 b] w (RetP (Val (.bool (decide (a ≤ n ∧ n ≤ b))) w)) := by
  refine calls_of_cw (args := [.int .i64 n, .int .i64 a, .int .i64 b]) Try.func39 rfl rfl ?_
  have S := Sat.start [] w
  (repeat' (first | apply cw_seq | apply cw_region | apply wl_nil | apply cw_ret | (apply x_not; exact rfl; exact rfl) | (apply x_move; exact rfl; exact rfl; (exact (by repeat' constructor))) | (apply x_assign; exact rfl; exact rfl; (exact (by repeat' constructor))) | (apply x_bin; exact rfl; exact rfl; exact rfl; (first | exact .z (.wrap (by omega)) | exact (by repeat' constructor))) | (apply x_pick; exact rfl; exact rfl; exact rfl; (exact (by repeat' constructor))) | (apply x_gdec; exact rfl; exact rfl; all_goals (intro _; try omega))))
  all_goals (first | refine q_retS (by assumption) rfl (by repeat (first | exact .nil | (apply RV.tmp; exact (by repeat' constructor)) | (apply RV.cell; exact rfl; exact (by repeat' constructor); exact rfl; exact rfl; exact (by repeat' constructor)))) ?_ | (simp only [thenQ, blockQ]; refine q_retS (by assumption) rfl (by repeat (first | exact .nil | (apply RV.tmp; exact (by repeat' constructor)) | (apply RV.cell; exact rfl; exact (by repeat' constructor); exact rfl; exact rfl; exact (by repeat' constructor)))) ?_))
  all_goals refine ⟨?_, S.keeps⟩
  all_goals simp [pack]
  all_goals first | omega | (rw [Bool.eq_iff_iff]; simp; omega)
set_option maxRecDepth 100000 in
theorem e_kday : Ent Try.prog 34 := fun _ _ => rfl
set_option maxRecDepth 4000 in
set_option maxHeartbeats 2000000 in
theorem kday_c (n : Int) (w : World) : Calls Try.prog 34 #[.int .i64 n] w (RetP (Val (.int .i64 (dayE n)) w)) := by
  refine calls_of_cw (args := [.int .i64 n]) Try.func34 rfl rfl ?_
  have S := Sat.start [] w
  (repeat' (first | apply cw_seq | apply cw_region | apply wl_nil | apply cw_skip | apply cw_ret | (apply x_callv; assumption; exact rfl; exact rfl; exact rfl; exact e_kranged; (exact (by repeat' constructor)); exact (kranged_c _ _ _ _); intro _ _ _) | (apply x_move; exact rfl; exact rfl; (exact (by repeat' constructor))) | (apply x_assign; exact rfl; exact rfl; (exact (by repeat' constructor))) | (apply x_un; exact rfl; exact rfl; exact rfl; (first | exact .z (.wrap (by omega)) | exact (by repeat' constructor))) | (apply x_ndec; exact rfl; with_reducible exact rfl; all_goals (intro _; try omega))))
  all_goals (first | refine q_retS (by assumption) rfl (by repeat (first | exact .nil | (apply RV.tmp; exact (by repeat' constructor)) | (apply RV.cell; exact rfl; exact (by repeat' constructor); exact rfl; exact rfl; exact (by repeat' constructor)))) ?_ | (simp only [thenQ, blockQ]; refine q_retS (by assumption) rfl (by repeat (first | exact .nil | (apply RV.tmp; exact (by repeat' constructor)) | (apply RV.cell; exact rfl; exact (by repeat' constructor); exact rfl; exact rfl; exact (by repeat' constructor)))) ?_))
  all_goals refine ⟨?_, Sat.keeps (by assumption)⟩
  all_goals first | (rw [dayE, if_pos (by omega)]; rfl) | (rw [dayE, if_neg (by omega)]; rfl)
theorem Name_n {r : Rc} (hr : r.ok) (w : World) : Calls Try.prog 61 #[.string r.nm] w (RetP (Val (.int .i64 (nameE r.nm)) w)) := Name_c _ hr.1 w
theorem Name_b {r : Rc} (hr : r.ok) (w : World) : Calls Try.prog 61 #[.string r.bn] w (RetP (Val (.int .i64 (nameE r.bn)) w)) := Name_c _ hr.2 w
set_option maxRecDepth 100000 in
theorem e_kcheck : Ent Try.prog 53 := fun _ _ => rfl
set_option maxRecDepth 4000 in
set_option maxHeartbeats 2000000 in
theorem kcheck_c (r : Rc) (hr : r.ok) (w : World) : Calls Try.prog 53 #[.agg #[.string (r).nm, .string (r).bn, .int .i64 (r).off, .int .i64 (r).spr, .int .i64 (r).fr, .int .i64 (r).un]] w (RetP (Val (.int .i64 (recE r)) w)) := by
  refine calls_of_cw (args := [.agg #[.string (r).nm, .string (r).bn, .int .i64 (r).off, .int .i64 (r).spr, .int .i64 (r).fr, .int .i64 (r).un]]) Try.func53 rfl rfl ?_
  have S := Sat.start [] w
  (repeat' (first | apply cw_seq | apply cw_region | apply wl_nil | apply cw_block | apply cw_skip | apply cw_ret | (apply x_callv; assumption; exact rfl; exact rfl; exact rfl; exact e_Name; (exact (by repeat' constructor)); with_reducible exact (Name_n hr _); intro _ _ _) | (apply x_callv; assumption; exact rfl; exact rfl; exact rfl; exact e_Name; (exact (by repeat' constructor)); with_reducible exact (Name_b hr _); intro _ _ _) | (apply x_callv; assumption; exact rfl; exact rfl; exact rfl; exact e_kranged; (exact (by repeat' constructor)); exact (kranged_c _ _ _ _); intro _ _ _) | (apply x_callv; assumption; exact rfl; exact rfl; exact rfl; exact e_kday; (exact (by repeat' constructor)); exact (kday_c _ _); intro _ _ _) | (apply x_not; exact rfl; exact rfl) | (apply x_move; exact rfl; exact rfl; (exact (by repeat' constructor))) | (apply x_assign; exact rfl; exact rfl; (exact (by repeat' constructor))) | (apply x_fieldB; exact rfl; exact rfl; exact rfl; exact rfl; (constructor)) | (apply x_load; assumption; exact rfl; exact rfl; exact rfl; (exact (by repeat' constructor)); exact rfl; exact rfl; (exact (by repeat' constructor))) | (apply x_eqStr; exact rfl; exact rfl; exact rfl; exact rfl) | (apply x_neStr; exact rfl; exact rfl; exact rfl; exact rfl) | (apply x_bin; exact rfl; exact rfl; exact rfl; (first | exact .z (.wrap (by omega)) | exact (by repeat' constructor))) | (apply x_pick; exact rfl; exact rfl; exact rfl; (exact (by repeat' constructor))) | (apply x_un; exact rfl; exact rfl; exact rfl; (first | exact .z (.wrap (by omega)) | exact (by repeat' constructor))) | (apply x_box; assumption; exact rfl; exact rfl; (exact (by repeat' constructor)); (exact (by repeat' constructor)); intro _ _ _) | (apply cw_true; exact rfl) | (apply x_dec; exact rfl; all_goals (intro _; try omega)) | (apply cw_ne; exact rfl; all_goals (intro _; try omega)) | (apply x_gndec; exact rfl; exact rfl; with_reducible exact rfl; all_goals (intro _; try omega)) | (apply x_gne; exact rfl; exact rfl; all_goals (intro _; try omega))))
  all_goals (first | refine q_retS (by assumption) rfl (by repeat (first | exact .nil | (apply RV.tmp; exact (by repeat' constructor)) | (apply RV.cell; exact rfl; exact (by repeat' constructor); exact rfl; exact rfl; exact (by repeat' constructor)))) ?_ | (simp only [thenQ, blockQ]; refine q_retS (by assumption) rfl (by repeat (first | exact .nil | (apply RV.tmp; exact (by repeat' constructor)) | (apply RV.cell; exact rfl; exact (by repeat' constructor); exact rfl; exact rfl; exact (by repeat' constructor)))) ?_))
  all_goals refine ⟨?_, Sat.keeps (by assumption)⟩
  all_goals unfold recE
  all_goals first
    | (rw [if_pos (by assumption)]; rfl)
    | (rw [if_neg (by simp [*]), if_pos ⟨by assumption, by assumption⟩]; rfl)
    | (rw [if_neg (by simp [*]), if_neg (by simp [*]), if_pos (by assumption)]; rfl)
    | (rw [if_neg (by simp [*]), if_neg (by simp [*]), if_neg (by assumption), if_pos (by first | exact .inl (by assumption) | exact .inr (.inl (by assumption)) | exact .inr (.inr (.inl (by assumption))) | exact .inr (.inr (.inr (by assumption))))]; rfl)
    | (rw [if_neg (by simp [*]), if_neg (by simp [*]), if_neg (by assumption), if_neg (by simp only [not_or, Classical.not_not]; exact ⟨by assumption, by assumption, by assumption, by assumption⟩)]; first | (rw [if_pos (by assumption)]; rfl) | (rw [if_neg (by assumption)]; rfl))
theorem kcheck_at {l : List Rc} (ho : ∀ i, i < l.length → (rat l i).ok) {k : Nat} (hk : k < l.length) (w : World) : Calls Try.prog 53 #[.agg #[.string (l.getD k rc0).nm, .string (l.getD k rc0).bn, .int .i64 (l.getD k rc0).off, .int .i64 (l.getD k rc0).spr, .int .i64 (l.getD k rc0).fr, .int .i64 (l.getD k rc0).un]] w (RetP (Val (.int .i64 (recE (rat l k))) w)) := kcheck_c _ (ho k hk) w
theorem is_sub1 {j : Nat} (h : (j : Int) ≤ 1000000) : Is (.int .i64 (IntKind.i64.wrap (((j + 1 : Nat) : Int) - 1))) (.int .i64 (j : Int)) := by
  have : IntKind.i64.wrap (((j + 1 : Nat) : Int) - 1) = (j : Int) := by rw [IntKind.wrap_i64]; omega
  rw [this]
  exact .z .any
theorem chk_rec {l : List Rc} {k : Nat} (h : ¬ recE (rat l k) = 0) : ¬ chkAt l k = 0 := by rw [chkAt, if_pos h]; exact h
theorem chk_rec' {l : List Rc} {k : Nat} (h : ¬ recE (rat l k) = 0) : chkAt l k = recE (rat l k) := if_pos h
theorem chk_ok {l : List Rc} {k : Nat} (h : recE (rat l k) = 0) (hb : ¬ badAt l k) : chkAt l k = 0 := by rw [chkAt, if_neg (fun e => e h), if_neg hb]
theorem chk_bad {l : List Rc} {k : Nat} (h : recE (rat l k) = 0) (hb : badAt l k) : chkAt l k = 9 := by rw [chkAt, if_neg (fun e => e h), if_pos hb]
set_option maxRecDepth 100000 in
theorem e_kCheck : Ent Try.prog 33 := fun _ _ => rfl
set_option maxRecDepth 4000 in
set_option maxHeartbeats 2000000 in
theorem kCheck_c (A : Option Addr) (c : Nat) (l : List Rc) (hl : l.length ≤ 9223372036854775807) (ho : ∀ i, i < l.length → (rat l i).ok) (w : World) (R : Rd w A 6 l.length (fun i => rcC (l.getD i rc0))) : Calls Try.prog 33 #[.slice A l.length c] w (RetP (Val (.int .i64 (ckE l)) w)) := by
  refine calls_of_cw (args := [.slice A l.length c]) Try.func33 rfl rfl ?_
  have S := Sat.start [] w
  have O := (R).old
  (repeat' (first | apply cw_seq | apply cw_region | apply wl_nil | apply cw_block | apply cw_skip | apply cw_ret | (apply x_move; exact rfl; exact rfl; (exact (by repeat' constructor))) | (apply x_assign; exact rfl; exact rfl; (exact (by repeat' constructor))) | (apply x_bin; exact rfl; exact rfl; exact rfl; (first | exact .z (.wrap (by omega)) | exact (by repeat' constructor))) | (apply x_builtin; exact rfl; exact rfl; exact (fun _ => rfl); (exact (by repeat' constructor))) | (apply x_dec; exact rfl; all_goals (intro _; try omega))))
  · (first | refine q_retS (by assumption) rfl (by repeat (first | exact .nil | (apply RV.tmp; exact (by repeat' constructor)) | (apply RV.cell; exact rfl; exact (by repeat' constructor); exact rfl; exact rfl; exact (by repeat' constructor)))) ?_ | (simp only [thenQ, blockQ]; refine q_retS (by assumption) rfl (by repeat (first | exact .nil | (apply RV.tmp; exact (by repeat' constructor)) | (apply RV.cell; exact rfl; exact (by repeat' constructor); exact rfl; exact rfl; exact (by repeat' constructor)))) ?_))
    refine ⟨?_, Sat.keeps (by assumption)⟩
    rw [ckE, if_pos (by omega)]
    rfl
  rename_i h256
  refine cw_loop [2, 3, 4, 5, 6, 12, 13, 14, 15, 16, 17, 18, 19, 20, 21, 22, 23, 24, 25, 26, 27, 28, 29, 30, 31, 32, 33, 34, 35, 36, 37, 38, 39, 40, 41, 42, 43, 44, 45, 46, 47, 48] [12] (fun us wr => ∃ k : Nat, k ≤ l.length ∧ us = [.int .i64 k] ∧ Sat w [] [] wr ∧ ckE l = fstE (chkAt l) (l.length - k) k) (fun us _ => l.length - (intOf (us.getD 0 undef)).toNat) ?_ ?_
  · exact ⟨0, by omega, rfl, by assumption, by rw [ckE, if_neg (by omega)]; rfl⟩
  clear S
  rintro g' us wr ⟨k, hk, rfl, Sr, hfe⟩
  by_cases hlt : k < l.length
  · by_cases h0 : k = 0
    · subst h0
      (repeat' (first | apply cw_seq | apply cw_region | apply wl_nil | apply cw_block | apply cw_skip | apply cw_exit | apply cw_ret | (apply x_callv; assumption; exact rfl; exact rfl; exact rfl; exact e_kcheck; (exact (by repeat' constructor)); with_reducible exact (kcheck_at ho hlt _); intro _ _ _) | (apply x_move; exact rfl; exact rfl; (exact (by repeat' constructor))) | (apply x_assign; exact rfl; exact rfl; (exact (by repeat' constructor))) | (apply x_load; assumption; exact rfl; exact rfl; exact rfl; (exact (by repeat' constructor)); exact rfl; exact rfl; (exact (by repeat' constructor))) | (apply x_bin; exact rfl; exact rfl; exact rfl; (first | exact .z (.wrap (by omega)) | exact (by repeat' constructor))) | (apply x_alloc; assumption; exact rfl; exact rfl; exact rfl; (exact (by repeat' constructor)); intro _ _ _) | (apply x_store; assumption; exact rfl; exact rfl; (exact (by repeat' constructor)); (exact (by repeat' constructor)); exact rfl; exact rfl; exact rfl; (exact (by repeat' constructor)); intro _ _) | (apply x_index; exact rfl; exact rfl; exact rfl; exact rfl; exact rfl; (constructor); (first | omega | exact size_pos (by assumption) | assumption); (first | exact rfl | assumption | exact Rd.some_ (by assumption) (by omega) | exact Rd.some_ (Old.rd (by assumption)) (by omega) | exact (Sat.rd (by assumption) (by exact (by repeat' constructor))).some_ (by omega))) | (apply x_loadR; exact rfl; exact rfl; exact rfl; (first | exact Old.now (by assumption) (by assumption) | exact Sat.rdpr (by assumption) (by exact (by repeat' constructor)) | exact Sat.rd (by assumption) (by exact (by repeat' constructor))); (first | omega | exact size_pos (by assumption) | assumption); exact rfl; exact rfl; (exact (by repeat' constructor))) | (apply cw_true; exact rfl) | (apply x_dec; exact rfl; all_goals (intro _; try omega)) | (apply cw_ne; exact rfl; all_goals (intro _; try omega))))
      · (first | refine q_retS (by assumption) rfl (by repeat (first | exact .nil | (apply RV.tmp; exact (by repeat' constructor)) | (apply RV.cell; exact rfl; exact (by repeat' constructor); exact rfl; exact rfl; exact (by repeat' constructor)))) ?_ | (simp only [thenQ, blockQ]; refine q_retS (by assumption) rfl (by repeat (first | exact .nil | (apply RV.tmp; exact (by repeat' constructor)) | (apply RV.cell; exact rfl; exact (by repeat' constructor); exact rfl; exact rfl; exact (by repeat' constructor)))) ?_))
        refine ⟨?_, Sat.keeps (by assumption)⟩
        rw [hfe, fstE_no hlt (chk_rec (by assumption)), chk_rec' (by assumption)]
        rfl
      · refine ⟨rfl, (by repeat (first | exact Agree.updl rfl (Agree.mask _ _ _) | refine Agree.upd rfl ?_)), ⟨1, hlt, rfl, Sat.drop1 (by assumption), ?_⟩, ?_⟩
        · rw [hfe, fstE_yes hlt (chk_ok (by assumption) (fun h => absurd h.1 (Nat.lt_irrefl 0)))]
        · show l.length - (1 : Int).toNat < l.length - (0 : Int).toNat
          omega
    · obtain ⟨j, rfl⟩ : ∃ j, k = j + 1 := ⟨k - 1, by omega⟩
      have hp : j < l.length := by omega
      (repeat' (first | apply cw_seq | apply cw_region | apply wl_nil | apply cw_block | apply cw_skip | apply cw_ret | (apply x_callv; assumption; exact rfl; exact rfl; exact rfl; exact e_kcheck; (exact (by repeat' constructor)); with_reducible exact (kcheck_at ho hlt _); intro _ _ _) | (apply x_bin; exact rfl; exact rfl; exact rfl; exact is_sub1 (by omega)) | (apply x_not; exact rfl; exact rfl) | (apply x_move; exact rfl; exact rfl; (exact (by repeat' constructor))) | (apply x_assign; exact rfl; exact rfl; (exact (by repeat' constructor))) | (apply x_fieldB; exact rfl; exact rfl; exact rfl; exact rfl; (constructor)) | (apply x_load; assumption; exact rfl; exact rfl; exact rfl; (exact (by repeat' constructor)); exact rfl; exact rfl; (exact (by repeat' constructor))) | (apply x_eqStr; exact rfl; exact rfl; exact rfl; exact rfl) | (apply x_bin; exact rfl; exact rfl; exact rfl; (first | exact .z (.wrap (by omega)) | exact (by repeat' constructor))) | (apply x_pick; exact rfl; exact rfl; exact rfl; (exact (by repeat' constructor))) | (apply x_alloc; assumption; exact rfl; exact rfl; exact rfl; (exact (by repeat' constructor)); intro _ _ _) | (apply x_store; assumption; exact rfl; exact rfl; (exact (by repeat' constructor)); (exact (by repeat' constructor)); exact rfl; exact rfl; exact rfl; (exact (by repeat' constructor)); intro _ _) | (apply x_index; exact rfl; exact rfl; exact rfl; exact rfl; exact rfl; (constructor); (first | omega | exact size_pos (by assumption) | assumption); (first | exact rfl | assumption | exact Rd.some_ (by assumption) (by omega) | exact Rd.some_ (Old.rd (by assumption)) (by omega) | exact (Sat.rd (by assumption) (by exact (by repeat' constructor))).some_ (by omega))) | (apply x_loadR; exact rfl; exact rfl; exact rfl; (first | exact Old.now (by assumption) (by assumption) | exact Sat.rdpr (by assumption) (by exact (by repeat' constructor)) | exact Sat.rd (by assumption) (by exact (by repeat' constructor))); (first | omega | exact size_pos (by assumption) | assumption); exact rfl; exact rfl; (exact (by repeat' constructor))) | (apply cw_true; exact rfl) | (apply cw_false; exact rfl) | (apply x_dec; exact rfl; all_goals (intro _; try omega)) | (apply cw_ne; exact rfl; all_goals (intro _; try omega)) | (apply x_gdec; exact rfl; exact rfl; all_goals (intro _; try omega)) | (apply x_gsplit; exact rfl; exact rfl; all_goals (intro _; try omega))))
      · (first | refine q_retS (by assumption) rfl (by repeat (first | exact .nil | (apply RV.tmp; exact (by repeat' constructor)) | (apply RV.cell; exact rfl; exact (by repeat' constructor); exact rfl; exact rfl; exact (by repeat' constructor)))) ?_ | (simp only [thenQ, blockQ]; refine q_retS (by assumption) rfl (by repeat (first | exact .nil | (apply RV.tmp; exact (by repeat' constructor)) | (apply RV.cell; exact rfl; exact (by repeat' constructor); exact rfl; exact rfl; exact (by repeat' constructor)))) ?_))
        refine ⟨?_, Sat.keeps (by assumption)⟩
        rw [hfe, fstE_no hlt (chk_rec (by assumption)), chk_rec' (by assumption)]
        rfl
      any_goals
        (first | refine q_retS (by assumption) rfl (by repeat (first | exact .nil | (apply RV.tmp; exact (by repeat' constructor)) | (apply RV.cell; exact rfl; exact (by repeat' constructor); exact rfl; exact rfl; exact (by repeat' constructor)))) ?_ | (simp only [thenQ, blockQ]; refine q_retS (by assumption) rfl (by repeat (first | exact .nil | (apply RV.tmp; exact (by repeat' constructor)) | (apply RV.cell; exact rfl; exact (by repeat' constructor); exact rfl; exact rfl; exact (by repeat' constructor)))) ?_))
        refine ⟨?_, Sat.keeps (by assumption)⟩
        have hb : badAt l (j + 1) := ⟨by omega, by first | exact .inl (by assumption) | exact .inr ⟨by assumption, by assumption⟩⟩
        rw [hfe, fstE_no hlt (by rw [chk_bad (by assumption) hb]; decide), chk_bad (by assumption) hb]
        rfl
      all_goals
        refine ⟨rfl, (by repeat (first | exact Agree.updl rfl (Agree.mask _ _ _) | refine Agree.upd rfl ?_)), ⟨j + 1 + 1, hlt, rfl, Sat.drop2 (by assumption), ?_⟩, ?_⟩
        · rw [hfe, fstE_yes hlt (chk_ok (by assumption) (by
            rintro ⟨_, hb | ⟨hb, hc⟩⟩
            · rw [show (j + 1 - 1) = j from rfl] at hb; simp_all
            · first | exact absurd hb (by assumption) | exact absurd hc (by assumption)))]
        · show l.length - (j + 1 + 1 : Int).toNat < l.length - ((j + 1 : Nat) : Int).toNat
          omega
  · (repeat' (first | apply cw_seq | apply cw_region | apply wl_nil | apply cw_exit | apply cw_ret | (apply x_assign; exact rfl; exact rfl; (exact (by repeat' constructor))) | (apply x_bin; exact rfl; exact rfl; exact rfl; (first | exact .z (.wrap (by omega)) | exact (by repeat' constructor))) | (apply x_dec; exact rfl; all_goals (intro _; try omega))))
    (first | refine q_retS (by assumption) rfl (by repeat (first | exact .nil | (apply RV.tmp; exact (by repeat' constructor)) | (apply RV.cell; exact rfl; exact (by repeat' constructor); exact rfl; exact rfl; exact (by repeat' constructor)))) ?_ | (simp only [thenQ, blockQ]; refine q_retS (by assumption) rfl (by repeat (first | exact .nil | (apply RV.tmp; exact (by repeat' constructor)) | (apply RV.cell; exact rfl; exact (by repeat' constructor); exact rfl; exact rfl; exact (by repeat' constructor)))) ?_))
    refine ⟨?_, Sat.keeps (by assumption)⟩
    rw [hfe, fstE_end hlt]
    rfl
set_option maxRecDepth 100000 in
theorem e_rDay : Ent Try.prog 59 := fun _ _ => rfl
set_option maxRecDepth 4000 in
set_option maxHeartbeats 2000000 in
theorem rDay_c (n : Int) (w : World) : Calls Try.prog 59 #[.int .i64 n] w (RetP (Val (.int .i64 (dayE n)) w)) := by
  refine calls_of_cw (args := [.int .i64 n]) Try.func59 rfl rfl ?_
  have S := Sat.start [] w
  (repeat' (first | apply cw_seq | apply cw_region | apply wl_nil | apply cw_skip | apply cw_ret | (apply x_not; exact rfl; exact rfl) | (apply x_move; exact rfl; exact rfl; (exact (by repeat' constructor))) | (apply x_assign; exact rfl; exact rfl; (exact (by repeat' constructor))) | (apply x_bin; exact rfl; exact rfl; exact rfl; (first | exact .z (.wrap (by omega)) | exact (by repeat' constructor))) | (apply x_pick; exact rfl; exact rfl; exact rfl; (exact (by repeat' constructor))) | (apply cw_true; exact rfl) | (apply x_dec; exact rfl; all_goals (intro _; try omega)) | (apply x_gdec; exact rfl; exact rfl; all_goals (intro _; try omega))))
  all_goals (first | refine q_retS (by assumption) rfl (by repeat (first | exact .nil | (apply RV.tmp; exact (by repeat' constructor)) | (apply RV.cell; exact rfl; exact (by repeat' constructor); exact rfl; exact rfl; exact (by repeat' constructor)))) ?_ | (simp only [thenQ, blockQ]; refine q_retS (by assumption) rfl (by repeat (first | exact .nil | (apply RV.tmp; exact (by repeat' constructor)) | (apply RV.cell; exact rfl; exact (by repeat' constructor); exact rfl; exact rfl; exact (by repeat' constructor)))) ?_))
  all_goals refine ⟨?_, Sat.keeps (by assumption)⟩
  all_goals first | (rw [dayE, if_pos (by omega)]; rfl) | (rw [dayE, if_neg (by omega)]; rfl)
theorem rName_n {r : Rc} (hr : r.ok) (w : World) : Calls Try.prog 58 #[.string r.nm] w (RetP (Val (.int .i64 (nameE r.nm)) w)) := rName_c _ hr.1 w
theorem rName_b {r : Rc} (hr : r.ok) (w : World) : Calls Try.prog 58 #[.string r.bn] w (RetP (Val (.int .i64 (nameE r.bn)) w)) := rName_c _ hr.2 w
set_option maxRecDepth 100000 in
theorem e_rright : Ent Try.prog 41 := fun _ _ => rfl
set_option maxRecDepth 4000 in
set_option maxHeartbeats 2000000 in
theorem rright_c (r : Rc) (hr : r.ok) (w : World) : Calls Try.prog 41 #[.agg #[.string (r).nm, .string (r).bn, .int .i64 (r).off, .int .i64 (r).spr, .int .i64 (r).fr, .int .i64 (r).un]] w (RetP (Val (.int .i64 (recE r)) w)) := by
  refine calls_of_cw (args := [.agg #[.string (r).nm, .string (r).bn, .int .i64 (r).off, .int .i64 (r).spr, .int .i64 (r).fr, .int .i64 (r).un]]) Try.func41 rfl rfl ?_
  have S := Sat.start [] w
  (repeat' (first | apply cw_seq | apply cw_region | apply wl_nil | apply cw_skip | apply cw_ret | (apply x_callv; assumption; exact rfl; exact rfl; exact rfl; exact e_rName; (exact (by repeat' constructor)); with_reducible exact (rName_n hr _); intro _ _ _) | (apply x_callv; assumption; exact rfl; exact rfl; exact rfl; exact e_rName; (exact (by repeat' constructor)); with_reducible exact (rName_b hr _); intro _ _ _) | (apply x_callv; assumption; exact rfl; exact rfl; exact rfl; exact e_rIn; (exact (by repeat' constructor)); exact (rIn_c _ _); intro _ _ _) | (apply x_callv; assumption; exact rfl; exact rfl; exact rfl; exact e_rDay; (exact (by repeat' constructor)); exact (rDay_c _ _); intro _ _ _) | (apply x_not; exact rfl; exact rfl) | (apply x_move; exact rfl; exact rfl; (exact (by repeat' constructor))) | (apply x_assign; exact rfl; exact rfl; (exact (by repeat' constructor))) | (apply x_fieldB; exact rfl; exact rfl; exact rfl; exact rfl; (constructor)) | (apply x_load; assumption; exact rfl; exact rfl; exact rfl; (exact (by repeat' constructor)); exact rfl; exact rfl; (exact (by repeat' constructor))) | (apply x_eqStr; exact rfl; exact rfl; exact rfl; exact rfl) | (apply x_neStr; exact rfl; exact rfl; exact rfl; exact rfl) | (apply x_bin; exact rfl; exact rfl; exact rfl; (first | exact .z (.wrap (by omega)) | exact (by repeat' constructor))) | (apply x_pick; exact rfl; exact rfl; exact rfl; (exact (by repeat' constructor))) | (apply x_un; exact rfl; exact rfl; exact rfl; (first | exact .z (.wrap (by omega)) | exact (by repeat' constructor))) | (apply x_box; assumption; exact rfl; exact rfl; (exact (by repeat' constructor)); (exact (by repeat' constructor)); intro _ _ _) | (apply cw_true; exact rfl) | (apply x_dec; exact rfl; all_goals (intro _; try omega)) | (apply cw_ne; exact rfl; all_goals (intro _; try omega)) | (apply x_gndec; exact rfl; exact rfl; with_reducible exact rfl; all_goals (intro _; try omega)) | (apply x_gdec; exact rfl; exact rfl; all_goals (intro _; try omega)) | (apply x_gne; exact rfl; exact rfl; all_goals (intro _; try omega))))
  all_goals (first | refine q_retS (by assumption) rfl (by repeat (first | exact .nil | (apply RV.tmp; exact (by repeat' constructor)) | (apply RV.cell; exact rfl; exact (by repeat' constructor); exact rfl; exact rfl; exact (by repeat' constructor)))) ?_ | (simp only [thenQ, blockQ]; refine q_retS (by assumption) rfl (by repeat (first | exact .nil | (apply RV.tmp; exact (by repeat' constructor)) | (apply RV.cell; exact rfl; exact (by repeat' constructor); exact rfl; exact rfl; exact (by repeat' constructor)))) ?_))
  all_goals refine ⟨?_, Sat.keeps (by assumption)⟩
  all_goals unfold recE
  all_goals first
    | (rw [if_pos (by assumption)]; rfl)
    | (rw [if_neg (by simp [*]), if_pos ⟨by assumption, by assumption⟩]; rfl)
    | (rw [if_neg (by simp [*]), if_neg (by simp [*]), if_pos (by assumption)]; rfl)
    | (rw [if_neg (by simp [*]), if_neg (by simp [*]), if_neg (by assumption), if_pos (by first | exact .inl (by assumption) | exact .inr (.inl (by omega)) | exact .inr (.inr (.inl (by assumption))) | exact .inr (.inr (.inr (by assumption))))]; rfl)
    | (rw [if_neg (by simp [*]), if_neg (by simp [*]), if_neg (by assumption), if_neg (by simp only [not_or, Classical.not_not]; exact ⟨by assumption, by omega, by assumption, by assumption⟩)]; first | (rw [if_pos (by assumption)]; rfl) | (rw [if_neg (by assumption)]; rfl))
theorem rright_at {l : List Rc} (ho : ∀ i, i < l.length → (rat l i).ok) {k : Nat} (hk : k < l.length) (w : World) : Calls Try.prog 41 #[.agg #[.string (l.getD k rc0).nm, .string (l.getD k rc0).bn, .int .i64 (l.getD k rc0).off, .int .i64 (l.getD k rc0).spr, .int .i64 (l.getD k rc0).fr, .int .i64 (l.getD k rc0).un]] w (RetP (Val (.int .i64 (recE (rat l k))) w)) := rright_c _ (ho k hk) w
end Go.Proofs.Ytnndkdcciojpiaa
