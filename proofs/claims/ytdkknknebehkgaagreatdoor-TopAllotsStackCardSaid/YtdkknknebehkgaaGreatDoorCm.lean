/- Names and limits: what the program's and the reference's functions of chapter 17 return. No statement of the seat is proved here. -/
import Derived.Test.YtdkknknebehkgaaGreatDoorEngR
import Derived.Test.YtdkknknebehkgaaGreatDoorProg
namespace Go.Proofs.YtdkknknebehkgaaGreatDoor
set_option linter.unusedVariables false
set_option linter.unusedSimpArgs false
open Go Go.RowKit
theorem mixed : Tryz.prog.follows .mixedOrders = true := by kernel_rfl
theorem flat_Limits : flatT Tryz.prog 9 47 = some [0, 0] := by kernel_rfl
set_option maxRecDepth 100000 in
theorem e_ranged : Ent Tryz.prog 70 := fun _ _ => rfl
set_option maxRecDepth 8000 in
theorem ranged_c (x : Int) (w : World) : Calls Tryz.prog 70 #[.int .i64 x] w (RetP (Val (.bool (decide (-100000 ≤ x ∧ x ≤ 100000))) w)) := by
  refine calls_of_cw (args := [.int .i64 x]) Tryz.func70 rfl rfl ?_
  have S := Sat.start [] w
  (repeat' (first | apply cw_seq | apply cw_region | apply wl_nil | apply cw_ret | (apply x_not; exact rfl; exact rfl) | (apply x_move; exact rfl; exact rfl; (exact (by repeat' constructor))) | (apply x_assign; exact rfl; exact rfl; (exact (by repeat' constructor))) | (apply x_bin; exact rfl; exact rfl; exact rfl; (first | exact .z (.wrap (by omega)) | exact (by repeat' constructor))) | (apply x_pick; exact rfl; exact rfl; exact rfl; (exact (by repeat' constructor))) | (apply x_gdec; exact rfl; exact rfl; all_goals (intro _; try omega))))
  all_goals (first | refine q_retS (by assumption) rfl (by repeat (first | exact .nil | (apply RV.tmp; exact (by repeat' constructor)) | (apply RV.cell; exact rfl; exact (by repeat' constructor); exact rfl; exact rfl; exact (by repeat' constructor)))) ?_ | (simp only [thenQ, blockQ]; refine q_retS (by assumption) rfl (by repeat (first | exact .nil | (apply RV.tmp; exact (by repeat' constructor)) | (apply RV.cell; exact rfl; exact (by repeat' constructor); exact rfl; exact rfl; exact (by repeat' constructor)))) ?_))
  all_goals refine ⟨?_, S.keeps⟩
  all_goals simp [pack]
  all_goals first | omega | (rw [Bool.eq_iff_iff]; simp; omega)
def chk (a b : Int) : Int := if (-100000 ≤ a ∧ a ≤ 100000) ∧ (-100000 ≤ b ∧ b ≤ 100000) then (if b < a then 9 else 0) else 2
theorem chk0 {a b : Int} (h : chk a b = 0) : -100000 ≤ a ∧ a ≤ b ∧ b ≤ 100000 := by
  unfold chk at h
  split at h
  · split at h
    · omega
    · omega
  · omega
set_option maxRecDepth 100000 in
theorem e_Check : Ent Tryz.prog 53 := fun _ _ => rfl
set_option maxRecDepth 8000 in
theorem Check_c (a b : Int) (w : World) : Calls Tryz.prog 53 #[.agg #[.int .i64 a, .int .i64 b]] w (RetP (Val (.int .i64 (chk a b)) w)) := by
  refine calls_of_cw (args := [.agg #[.int .i64 a, .int .i64 b]]) Tryz.func53 rfl rfl ?_
  have S := Sat.start [] w
  (repeat' (first | apply cw_seq | apply cw_region | apply wl_nil | apply cw_block | apply cw_skip | apply cw_ret | (apply x_callv; assumption; exact rfl; exact rfl; exact rfl; exact e_ranged; (exact (by repeat' constructor)); exact (ranged_c _ _); intro _ _ _) | (apply x_not; exact rfl; exact rfl) | (apply x_move; exact rfl; exact rfl; (exact (by repeat' constructor))) | (apply x_assign; exact rfl; exact rfl; (exact (by repeat' constructor))) | (apply x_fieldB; exact rfl; exact rfl; exact rfl; exact rfl; (constructor)) | (apply x_load; assumption; exact rfl; exact rfl; exact rfl; (exact (by repeat' constructor)); exact rfl; exact rfl; (exact (by repeat' constructor))) | (apply x_bin; exact rfl; exact rfl; exact rfl; (first | exact .z (.wrap (by omega)) | exact (by repeat' constructor))) | (apply x_pick; exact rfl; exact rfl; exact rfl; (exact (by repeat' constructor))) | (apply x_un; exact rfl; exact rfl; exact rfl; (first | exact .z (.wrap (by omega)) | exact (by repeat' constructor))) | (apply x_box; assumption; exact rfl; exact rfl; (exact (by repeat' constructor)); (exact (by repeat' constructor)); intro _ _ _) | (apply cw_true; exact rfl) | (apply x_ndec; exact rfl; with_reducible exact rfl; all_goals (intro _; try omega)) | (apply x_dec; exact rfl; all_goals (intro _; try omega)) | (apply x_gndec; exact rfl; exact rfl; with_reducible exact rfl; all_goals (intro _; try omega))))
  all_goals (first | refine q_retS (by assumption) rfl (by repeat (first | exact .nil | (apply RV.tmp; exact (by repeat' constructor)) | (apply RV.cell; exact rfl; exact (by repeat' constructor); exact rfl; exact rfl; exact (by repeat' constructor)))) ?_ | (simp only [thenQ, blockQ]; refine q_retS (by assumption) rfl (by repeat (first | exact .nil | (apply RV.tmp; exact (by repeat' constructor)) | (apply RV.cell; exact rfl; exact (by repeat' constructor); exact rfl; exact rfl; exact (by repeat' constructor)))) ?_))
  all_goals refine ⟨?_, Sat.keeps (by assumption)⟩
  all_goals simp only [pack, chk]
  all_goals (repeat' split)
  all_goals first | rfl | (exfalso; omega)
def isL (n : Int) : Bool := decide (65 ≤ n ∧ n ≤ 90 ∨ 97 ≤ n ∧ n ≤ 122)
def isD (n : Int) : Bool := decide (48 ≤ n ∧ n ≤ 57)
set_option maxRecDepth 100000 in
theorem e_letter : Ent Tryz.prog 104 := fun _ _ => rfl
set_option maxRecDepth 8000 in
theorem letter_c (x : Int) (w : World) : Calls Tryz.prog 104 #[.int .u8 x] w (RetP (Val (.bool (isL x)) w)) := by
  refine calls_of_cw (args := [.int .u8 x]) Tryz.func104 rfl rfl ?_
  have S := Sat.start [] w
  (repeat' (first | apply cw_seq | apply cw_region | apply wl_nil | apply cw_ret | (apply x_not; exact rfl; exact rfl) | (apply x_move; exact rfl; exact rfl; (exact (by repeat' constructor))) | (apply x_assign; exact rfl; exact rfl; (exact (by repeat' constructor))) | (apply x_bin; exact rfl; exact rfl; exact rfl; (first | exact .z (.wrap (by omega)) | exact (by repeat' constructor))) | (apply x_pick; exact rfl; exact rfl; exact rfl; (exact (by repeat' constructor))) | (apply x_gdec; exact rfl; exact rfl; all_goals (intro _; try omega))))
  all_goals (first | refine q_retS (by assumption) rfl (by repeat (first | exact .nil | (apply RV.tmp; exact (by repeat' constructor)) | (apply RV.cell; exact rfl; exact (by repeat' constructor); exact rfl; exact rfl; exact (by repeat' constructor)))) ?_ | (simp only [thenQ, blockQ]; refine q_retS (by assumption) rfl (by repeat (first | exact .nil | (apply RV.tmp; exact (by repeat' constructor)) | (apply RV.cell; exact rfl; exact (by repeat' constructor); exact rfl; exact rfl; exact (by repeat' constructor)))) ?_))
  all_goals refine ⟨?_, S.keeps⟩
  all_goals simp [pack, isL]
  all_goals first | omega | (rw [Bool.eq_iff_iff]; simp; omega)
set_option maxRecDepth 100000 in
theorem e_digit : Ent Tryz.prog 105 := fun _ _ => rfl
set_option maxRecDepth 8000 in
theorem digit_c (x : Int) (w : World) : Calls Tryz.prog 105 #[.int .u8 x] w (RetP (Val (.bool (isD x)) w)) := by
  refine calls_of_cw (args := [.int .u8 x]) Tryz.func105 rfl rfl ?_
  have S := Sat.start [] w
  (repeat' (first | apply cw_seq | apply cw_region | apply wl_nil | apply cw_ret | (apply x_not; exact rfl; exact rfl) | (apply x_move; exact rfl; exact rfl; (exact (by repeat' constructor))) | (apply x_assign; exact rfl; exact rfl; (exact (by repeat' constructor))) | (apply x_bin; exact rfl; exact rfl; exact rfl; (first | exact .z (.wrap (by omega)) | exact (by repeat' constructor))) | (apply x_pick; exact rfl; exact rfl; exact rfl; (exact (by repeat' constructor))) | (apply x_gdec; exact rfl; exact rfl; all_goals (intro _; try omega))))
  all_goals (first | refine q_retS (by assumption) rfl (by repeat (first | exact .nil | (apply RV.tmp; exact (by repeat' constructor)) | (apply RV.cell; exact rfl; exact (by repeat' constructor); exact rfl; exact rfl; exact (by repeat' constructor)))) ?_ | (simp only [thenQ, blockQ]; refine q_retS (by assumption) rfl (by repeat (first | exact .nil | (apply RV.tmp; exact (by repeat' constructor)) | (apply RV.cell; exact rfl; exact (by repeat' constructor); exact rfl; exact rfl; exact (by repeat' constructor)))) ?_))
  all_goals refine ⟨?_, S.keeps⟩
  all_goals simp [pack, isD]
  all_goals first | omega | (rw [Bool.eq_iff_iff]; simp; omega)
def okB (n : Int) : Bool := isL n || isD n
def nameE (s : ByteArray) : Int := if 24 < s.size then 17 else if s.size = 0 ∨ isL (byt s 0) = false then 3 else if ∀ i, i < s.size → okB (byt s i) = true then 0 else 3
theorem nameE_loop (s : ByteArray) (h1 : ¬ (s.size : Int) > 24) (h2 : ¬ s = ⟨#[]⟩) (h3 : isL (byt s 0) = true) : nameE s = if ∀ i, i < s.size → okB (byt s i) = true then 0 else 3 := by
  have := size_pos h2
  unfold nameE
  rw [if_neg (by omega), if_neg (fun h => h.elim (fun h => by omega) (fun h => by rw [h3] at h; cases h))]
theorem nameE_bad (s : ByteArray) (h1 : ¬ (s.size : Int) > 24) (h2 : ¬ s = ⟨#[]⟩) (h3 : isL (byt s 0) = true) (k : Nat) (hk : k < s.size) (ha : isL (byt s k) = false) (hb : isD (byt s k) = false) : nameE s = 3 := by
  rw [nameE_loop s h1 h2 h3, if_neg]
  intro h
  have := h k hk
  simp [okB, ha, hb] at this
set_option maxRecDepth 100000 in
theorem e_Name : Ent Tryz.prog 101 := fun _ _ => rfl
set_option maxRecDepth 8000 in
theorem Name_c (s : ByteArray) (hs : s.size ≤ 9223372036854775807) (w : World) : Calls Tryz.prog 101 #[.string s] w (RetP (Val (.int .i64 (nameE s)) w)) := by
  refine calls_of_cw (args := [.string s]) Tryz.func101 rfl rfl ?_
  have S := Sat.start [] w
  (repeat' (first | apply cw_seq | apply cw_region | apply wl_nil | apply cw_block | apply cw_skip | apply cw_ret | (apply x_callv; assumption; exact rfl; exact rfl; exact rfl; exact e_letter; (exact (by repeat' constructor)); exact (letter_c _ _); intro _ _ _) | (apply x_not; exact rfl; exact rfl) | (apply x_move; exact rfl; exact rfl; (exact (by repeat' constructor))) | (apply x_assign; exact rfl; exact rfl; (exact (by repeat' constructor))) | (apply x_eqStr; exact rfl; exact rfl; exact rfl; exact rfl) | (apply x_bin; exact rfl; exact rfl; exact rfl; (first | exact .z (.wrap (by omega)) | exact (by repeat' constructor))) | (apply x_pick; exact rfl; exact rfl; exact rfl; (exact (by repeat' constructor))) | (apply x_un; exact rfl; exact rfl; exact rfl; (first | exact .z (.wrap (by omega)) | exact (by repeat' constructor))) | (apply x_bytes; assumption; exact rfl; exact rfl; exact rfl; exact rfl; exact rfl; exact rfl; intro _ _ _ _) | (apply x_builtin; exact rfl; exact rfl; exact (fun _ => rfl); (exact (by repeat' constructor))) | (apply x_indexStrI; exact rfl; exact rfl; exact rfl; exact rfl; exact rfl; (constructor); (first | decide | omega); (first | omega | exact size_pos (by assumption) | assumption)) | (apply cw_true; exact rfl) | (apply x_dec; exact rfl; all_goals (intro _; try omega)) | (apply cw_not; exact rfl; all_goals (intro _; try omega)) | (apply x_gdec; exact rfl; exact rfl; all_goals (intro _; try omega))))
  · (first | refine q_retS (by assumption) rfl (by repeat (first | exact .nil | (apply RV.tmp; exact (by repeat' constructor)) | (apply RV.cell; exact rfl; exact (by repeat' constructor); exact rfl; exact rfl; exact (by repeat' constructor)))) ?_ | (simp only [thenQ, blockQ]; refine q_retS (by assumption) rfl (by repeat (first | exact .nil | (apply RV.tmp; exact (by repeat' constructor)) | (apply RV.cell; exact rfl; exact (by repeat' constructor); exact rfl; exact rfl; exact (by repeat' constructor)))) ?_))
    refine ⟨?_, Sat.keeps (by assumption)⟩
    rename_i h1
    simp only [nameE, if_pos (show 24 < s.size by omega)]
    rfl
  · (first | refine q_retS (by assumption) rfl (by repeat (first | exact .nil | (apply RV.tmp; exact (by repeat' constructor)) | (apply RV.cell; exact rfl; exact (by repeat' constructor); exact rfl; exact rfl; exact (by repeat' constructor)))) ?_ | (simp only [thenQ, blockQ]; refine q_retS (by assumption) rfl (by repeat (first | exact .nil | (apply RV.tmp; exact (by repeat' constructor)) | (apply RV.cell; exact rfl; exact (by repeat' constructor); exact rfl; exact rfl; exact (by repeat' constructor)))) ?_))
    refine ⟨?_, Sat.keeps (by assumption)⟩
    rename_i h1 h2
    rw [nameE, if_neg (by omega), if_pos (.inl ((size0 s).1 h2))]
    rfl
  · (first | refine q_retS (by assumption) rfl (by repeat (first | exact .nil | (apply RV.tmp; exact (by repeat' constructor)) | (apply RV.cell; exact rfl; exact (by repeat' constructor); exact rfl; exact rfl; exact (by repeat' constructor)))) ?_ | (simp only [thenQ, blockQ]; refine q_retS (by assumption) rfl (by repeat (first | exact .nil | (apply RV.tmp; exact (by repeat' constructor)) | (apply RV.cell; exact rfl; exact (by repeat' constructor); exact rfl; exact rfl; exact (by repeat' constructor)))) ?_))
    refine ⟨?_, Sat.keeps (by assumption)⟩
    rename_i h1 h2 _ _ _ h3
    rw [nameE, if_neg (by omega), if_pos (.inr h3)]
    rfl
  rename_i h1 h2 _ _ _ h3 b _ w1 S1
  refine cw_loop [2, 4, 19, 20, 21, 22, 23, 24, 25, 26, 27, 28, 29, 30, 31] [19] (fun us wr => ∃ k : Nat, k ≤ s.size ∧ us = [.int .i64 k] ∧ Sat w [] [.pr b (bytesφ s 5)] wr ∧ ∀ i, i < k → okB (byt s i) = true) (fun us _ => s.size - (intOf (us.getD 0 undef)).toNat) ?_ ?_
  · exact ⟨0, by omega, rfl, S1, fun i hi => absurd hi (Nat.not_lt_zero i)⟩
  rintro g us wr ⟨k, hk, rfl, Sr, hfe⟩
  by_cases hlt : k < s.size
  · (repeat' (first | apply cw_seq | apply cw_region | apply wl_nil | apply cw_block | apply cw_skip | apply cw_ret | (apply x_callv; assumption; exact rfl; exact rfl; exact rfl; exact e_letter; (exact (by repeat' constructor)); exact (letter_c _ _); intro _ _ _) | (apply x_callv; assumption; exact rfl; exact rfl; exact rfl; exact e_digit; (exact (by repeat' constructor)); exact (digit_c _ _); intro _ _ _) | (apply x_not; exact rfl; exact rfl) | (apply x_move; exact rfl; exact rfl; (exact (by repeat' constructor))) | (apply x_assign; exact rfl; exact rfl; (exact (by repeat' constructor))) | (apply x_bin; exact rfl; exact rfl; exact rfl; (first | exact .z (.wrap (by omega)) | exact (by repeat' constructor))) | (apply x_pick; exact rfl; exact rfl; exact rfl; (exact (by repeat' constructor))) | (apply x_un; exact rfl; exact rfl; exact rfl; (first | exact .z (.wrap (by omega)) | exact (by repeat' constructor))) | (apply x_index; exact rfl; exact rfl; exact rfl; exact rfl; exact rfl; (constructor); (first | omega | exact size_pos (by assumption) | assumption); (first | exact rfl | assumption | exact Rd.some_ (by assumption) (by omega) | exact Rd.some_ (Old.rd (by assumption)) (by omega) | exact (Sat.rd (by assumption) (by exact (by repeat' constructor))).some_ (by omega))) | (apply x_loadR; exact rfl; exact rfl; exact rfl; (first | exact Old.now (by assumption) (by assumption) | exact Sat.rdpr (by assumption) (by exact (by repeat' constructor)) | exact Sat.rd (by assumption) (by exact (by repeat' constructor))); (first | omega | exact size_pos (by assumption) | assumption); exact rfl; exact rfl; (exact (by repeat' constructor))) | (apply cw_false; exact rfl) | (apply x_dec; exact rfl; all_goals (intro _; try omega)) | (apply cw_not; exact rfl; all_goals (intro _; try omega)) | (apply x_gnot; exact rfl; exact rfl; all_goals (intro _; try omega))))
    · (first | refine q_retS (by assumption) rfl (by repeat (first | exact .nil | (apply RV.tmp; exact (by repeat' constructor)) | (apply RV.cell; exact rfl; exact (by repeat' constructor); exact rfl; exact rfl; exact (by repeat' constructor)))) ?_ | (simp only [thenQ, blockQ]; refine q_retS (by assumption) rfl (by repeat (first | exact .nil | (apply RV.tmp; exact (by repeat' constructor)) | (apply RV.cell; exact rfl; exact (by repeat' constructor); exact rfl; exact rfl; exact (by repeat' constructor)))) ?_))
      refine ⟨?_, Sat.keeps (by assumption)⟩
      rw [nameE_bad s h1 h2 h3 k hlt (by assumption) (by assumption)]
      rfl
    all_goals refine ⟨rfl, (by repeat (first | exact Agree.updl rfl (Agree.mask _ _ _) | refine Agree.upd rfl ?_)), ⟨k + 1, hlt, rfl, by assumption, ?_⟩, ?_⟩
    any_goals (show s.size - (k + 1 : Int).toNat < s.size - (k : Int).toNat; omega)
    all_goals
      intro i hi
      rcases Nat.lt_succ_iff_lt_or_eq.1 hi with hi | hi
      · exact hfe i hi
      · subst hi
        simp [okB, *]
  · (repeat' (first | apply cw_seq | apply cw_region | apply wl_nil | apply cw_exit | apply cw_ret | (apply x_assign; exact rfl; exact rfl; (exact (by repeat' constructor))) | (apply x_bin; exact rfl; exact rfl; exact rfl; (first | exact .z (.wrap (by omega)) | exact (by repeat' constructor))) | (apply x_dec; exact rfl; all_goals (intro _; try omega))))
    (first | refine q_retS (by assumption) rfl (by repeat (first | exact .nil | (apply RV.tmp; exact (by repeat' constructor)) | (apply RV.cell; exact rfl; exact (by repeat' constructor); exact rfl; exact rfl; exact (by repeat' constructor)))) ?_ | (simp only [thenQ, blockQ]; refine q_retS (by assumption) rfl (by repeat (first | exact .nil | (apply RV.tmp; exact (by repeat' constructor)) | (apply RV.cell; exact rfl; exact (by repeat' constructor); exact rfl; exact rfl; exact (by repeat' constructor)))) ?_))
    refine ⟨?_, Sr.keeps⟩
    rw [nameE_loop s h1 h2 h3, if_pos (fun i hi => hfe i (by omega))]
    rfl
theorem val_of {P : Program} {g : FuncId} {ar : Array Value} {w : World} {V V' : Value} (h : Calls P g ar w (RetP (Val V w))) (e : V = V') : Calls P g ar w (RetP (Val V' w)) := e ▸ h
end Go.Proofs.YtdkknknebehkgaaGreatDoor
