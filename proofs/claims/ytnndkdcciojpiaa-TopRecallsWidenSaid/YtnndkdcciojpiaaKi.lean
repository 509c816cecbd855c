/- Records of calibrations: the value, the verdict, broken records. No statement of the seat is proved here. -/
import Derived.Test.YtnndkdcciojpiaaKh
namespace Go.Proofs.Ytnndkdcciojpiaa
set_option linter.unusedVariables false
set_option linter.unusedSimpArgs false
open Go Go.RowKit
noncomputable def valL (l : List Rc) (name : ByteArray) (day shown : Int) : (Int × Int) × Int :=
  if ¬ (errL l name day).2 = 0 then ((0, 0), (errL l name day).2) else if ¬ (-100000 ≤ shown ∧ shown ≤ 100000) then ((0, 0), 2) else ((shown - (errL l name day).1.2, shown - (errL l name day).1.1), 0)
noncomputable def judL (l : List Rc) (name : ByteArray) (day shown lo hi : Int) : Int × Int :=
  if ¬ (valL l name day shown).2 = 0 then (0, (valL l name day shown).2) else if ¬ chk lo hi = 0 then (0, chk lo hi) else
  if lo ≤ (valL l name day shown).1.1 ∧ (valL l name day shown).1.2 ≤ hi then (2, 0) else if (valL l name day shown).1.2 < lo ∨ hi < (valL l name day shown).1.1 then (0, 0) else (1, 0)
theorem valL_b {l : List Rc} {name : ByteArray} {day shown : Int} : (-52000000 ≤ (valL l name day shown).1.1 ∧ (valL l name day shown).1.1 ≤ 52000000) ∧ -52000000 ≤ (valL l name day shown).1.2 ∧ (valL l name day shown).1.2 ≤ 52000000 := by
  have h := errL_b (l := l) (name := name) (day := day)
  unfold valL
  split
  · simp
  · split
    · simp
    · rename_i h2
      simp only [Classical.not_not] at h2
      refine ⟨⟨?_, ?_⟩, ?_, ?_⟩ <;> (simp only []; omega)
set_option maxRecDepth 100000 in
theorem e_kValue : Ent Try.prog 16 := fun _ _ => rfl
set_option maxRecDepth 4000 in
set_option maxHeartbeats 2000000 in
theorem kValue_c (A : Option Addr) (c : Nat) (l : List Rc) (hl : l.length ≤ 9223372036854775807) (ho : ∀ i, i < l.length → (rat l i).ok) (name : ByteArray) (day shown : Int) (w : World) (R : Rd w A 6 l.length (fun i => rcC (l.getD i rc0))) : Calls Try.prog 16 #[.slice A l.length c, .agg #[.string name, .int .i64 day, .int .i64 shown]] w (RetP (Val (.tuple #[.agg #[.int .i64 (valL l name day shown).1.1, .int .i64 (valL l name day shown).1.2], .int .i64 (valL l name day shown).2]) w)) := by
  refine calls_of_cw (args := [.slice A l.length c, .agg #[.string name, .int .i64 day, .int .i64 shown]]) Try.func16 rfl rfl ?_
  have S := Sat.start [] w
  have O := (R).old
  (repeat' (first | apply cw_seq | apply cw_region | apply wl_nil | apply cw_skip | apply cw_ret | (apply x_callv; assumption; exact rfl; exact rfl; exact rfl; exact e_kError; (exact (by repeat' constructor)); with_reducible exact (kError_c A c l hl ho name day _ (Old.now O (by assumption))); intro _ _ _) | (apply x_callv; assumption; exact rfl; exact rfl; exact rfl; exact e_kranged; (exact (by repeat' constructor)); exact (kranged_c _ _ _ _); intro _ _ _) | (apply x_move; exact rfl; exact rfl; (exact (by repeat' constructor))) | (apply x_assign; exact rfl; exact rfl; (exact (by repeat' constructor))) | (apply x_fieldB; exact rfl; exact rfl; exact rfl; exact rfl; (constructor)) | (apply x_load; assumption; exact rfl; exact rfl; exact rfl; (exact (by repeat' constructor)); exact rfl; exact rfl; (exact (by repeat' constructor))) | (apply x_bin; exact rfl; exact rfl; exact rfl; (first | exact .z (.wrap (by first | omega | (have := errL_b (l := l) (name := name) (day := day); omega))) | exact (by repeat' constructor))) | (apply x_un; exact rfl; exact rfl; exact rfl; (first | exact .z (.wrap (by first | omega | (have := errL_b (l := l) (name := name) (day := day); omega))) | exact (by repeat' constructor))) | (apply x_box; assumption; exact rfl; exact rfl; (exact (by repeat' constructor)); (exact (by repeat' constructor)); intro _ _ _) | (apply x_alloc; assumption; exact rfl; exact rfl; exact rfl; (exact (by repeat' constructor)); intro _ _ _) | (apply x_store; assumption; exact rfl; exact rfl; (exact (by repeat' constructor)); (exact (by repeat' constructor)); exact rfl; exact rfl; exact rfl; (exact (by repeat' constructor)); intro _ _) | (apply x_build; exact rfl; exact rfl; exact rfl; (exact (by repeat' constructor))) | (apply x_extract; exact rfl; exact rfl; exact rfl; (exact (by repeat' constructor))) | (apply x_ndec; exact rfl; with_reducible exact rfl; all_goals (intro _; try omega)) | (apply cw_ne; exact rfl; all_goals (intro _; try omega))))
  all_goals (first | refine q_retS (by assumption) rfl (by repeat (first | exact .nil | (apply RV.tmp; exact (by repeat' constructor)) | (apply RV.cell; exact rfl; exact (by repeat' constructor); exact rfl; exact rfl; exact (by repeat' constructor)))) ?_ | (simp only [thenQ, blockQ]; refine q_retS (by assumption) rfl (by repeat (first | exact .nil | (apply RV.tmp; exact (by repeat' constructor)) | (apply RV.cell; exact rfl; exact (by repeat' constructor); exact rfl; exact rfl; exact (by repeat' constructor)))) ?_))
  all_goals refine ⟨?_, Sat.keeps (by assumption)⟩
  all_goals unfold valL
  all_goals first
    | (rw [if_pos (by assumption)]; rfl)
    | (rw [if_neg (by simp [*]), if_pos (by assumption)]; rfl)
    | (rw [if_neg (by simp [*]), if_neg (by simp [*])]; rfl)
set_option maxRecDepth 100000 in
theorem e_kJudge : Ent Try.prog 31 := fun _ _ => rfl
set_option maxRecDepth 4000 in
set_option maxHeartbeats 2000000 in
theorem kJudge_c (A : Option Addr) (c : Nat) (l : List Rc) (hl : l.length ≤ 9223372036854775807) (ho : ∀ i, i < l.length → (rat l i).ok) (name : ByteArray) (day shown lo hi : Int) (w : World) (R : Rd w A 6 l.length (fun i => rcC (l.getD i rc0))) : Calls Try.prog 31 #[.slice A l.length c, .agg #[.string name, .int .i64 day, .int .i64 shown], .agg #[.int .i64 lo, .int .i64 hi]] w (RetP (Val (.tuple #[.int .i64 (judL l name day shown lo hi).1, .int .i64 (judL l name day shown lo hi).2]) w)) := by
  refine calls_of_cw (args := [.slice A l.length c, .agg #[.string name, .int .i64 day, .int .i64 shown], .agg #[.int .i64 lo, .int .i64 hi]]) Try.func31 rfl rfl ?_
  have S := Sat.start [] w
  have O := (R).old
  (repeat' (first | apply cw_seq | apply cw_region | apply wl_nil | apply cw_block | apply cw_skip | apply cw_ret | (apply x_callv; assumption; exact rfl; exact rfl; exact rfl; exact e_kValue; (exact (by repeat' constructor)); with_reducible exact (kValue_c A c l hl ho name day shown _ (Old.now O (by assumption))); intro _ _ _) | (apply x_callv; assumption; exact rfl; exact rfl; exact rfl; exact e_Check; (exact (by repeat' constructor)); exact (Check_c _ _ _); intro _ _ _) | (apply x_not; exact rfl; exact rfl) | (apply x_move; exact rfl; exact rfl; (exact (by repeat' constructor))) | (apply x_assign; exact rfl; exact rfl; (exact (by repeat' constructor))) | (apply x_fieldB; exact rfl; exact rfl; exact rfl; exact rfl; (constructor)) | (apply x_load; assumption; exact rfl; exact rfl; exact rfl; (exact (by repeat' constructor)); exact rfl; exact rfl; (exact (by repeat' constructor))) | (apply x_bin; exact rfl; exact rfl; exact rfl; (first | exact .z (.wrap (by omega)) | exact (by repeat' constructor))) | (apply x_pick; exact rfl; exact rfl; exact rfl; (exact (by repeat' constructor))) | (apply x_box; assumption; exact rfl; exact rfl; (exact (by repeat' constructor)); (exact (by repeat' constructor)); intro _ _ _) | (apply x_alloc; assumption; exact rfl; exact rfl; exact rfl; (exact (by repeat' constructor)); intro _ _ _) | (apply x_store; assumption; exact rfl; exact rfl; (exact (by repeat' constructor)); (exact (by repeat' constructor)); exact rfl; exact rfl; exact rfl; (exact (by repeat' constructor)); intro _ _) | (apply x_extract; exact rfl; exact rfl; exact rfl; (exact (by repeat' constructor))) | (apply cw_true; exact rfl) | (apply cw_false; exact rfl) | (apply x_dec; exact rfl; all_goals (intro _; try omega)) | (apply cw_ne; exact rfl; all_goals (intro _; try omega)) | (apply x_gdec; exact rfl; exact rfl; all_goals (intro _; try omega))))
  all_goals (first | refine q_retS (by assumption) rfl (by repeat (first | exact .nil | (apply RV.tmp; exact (by repeat' constructor)) | (apply RV.cell; exact rfl; exact (by repeat' constructor); exact rfl; exact rfl; exact (by repeat' constructor)))) ?_ | (simp only [thenQ, blockQ]; refine q_retS (by assumption) rfl (by repeat (first | exact .nil | (apply RV.tmp; exact (by repeat' constructor)) | (apply RV.cell; exact rfl; exact (by repeat' constructor); exact rfl; exact rfl; exact (by repeat' constructor)))) ?_))
  all_goals refine ⟨?_, Sat.keeps (by assumption)⟩
  all_goals unfold judL
  all_goals first
    | (rw [if_pos (by assumption)]; rfl)
    | (rw [if_neg (by simp [*]), if_pos (by assumption)]; rfl)
    | (rw [if_neg (by simp [*]), if_neg (by simp [*]), if_pos (by omega)]; rfl)
    | (rw [if_neg (by simp [*]), if_neg (by simp [*]), if_neg (by omega), if_pos (by omega)]; rfl)
    | (rw [if_neg (by simp [*]), if_neg (by simp [*]), if_neg (by omega), if_neg (by omega)]; rfl)
/-! ### broken records -/
noncomputable def brk (l : List Rc) (i : Nat) : Bool := @decide (¬ (foll l (rat l i).nm (rat l i).fr).2 = 0) (Classical.propDecidable _)
noncomputable def brUp (l : List Rc) : Nat → List Nat
  | 0 => []
  | k + 1 => if brk l k then brUp l k ++ [k] else brUp l k
theorem brUp_len (l : List Rc) : ∀ k, (brUp l k).length ≤ k
  | 0 => by simp [brUp]
  | k + 1 => by
    have := brUp_len l k
    unfold brUp
    split
    · simp; omega
    · omega
theorem brUp_yes {l : List Rc} {k : Nat} (h : ¬ (foll l (rat l k).nm (rat l k).fr).2 = 0) : brUp l (k + 1) = brUp l k ++ [k] := by rw [brUp, if_pos]; simpa [brk] using h
theorem brUp_no {l : List Rc} {k : Nat} (h : (foll l (rat l k).nm (rat l k).fr).2 = 0) : brUp l (k + 1) = brUp l k := by rw [brUp, if_neg]; simpa [brk] using h
noncomputable def broL (l : List Rc) : List Nat × Int := if ¬ ckE l = 0 then ([], ckE l) else (brUp l l.length, 0)
theorem coll_at {l : List Rc} (A : Option Addr) (c : Nat) (hl : l.length ≤ 9223372036854775807) (ho : ∀ i, i < l.length → (rat l i).ok) (hr : Right l) (k : Nat) (w : World) (R : Rd w A 6 l.length (fun i => rcC (l.getD i rc0))) :
    Calls Try.prog 37 #[.slice A l.length c, .string (l.getD k rc0).nm, .int .i64 (l.getD k rc0).fr] w (RetP (RowR (fun v => .tuple #[v, .int .i64 (foll l (rat l k).nm (rat l k).fr).2]) 3 1 ((foll l (rat l k).nm (rat l k).fr).1.map natC) w)) := collected_c A c l hl ho hr _ _ w R
set_option maxRecDepth 100000 in
theorem e_kBroken : Ent Try.prog 15 := fun _ _ => rfl
set_option maxRecDepth 4000 in
set_option maxHeartbeats 2000000 in
theorem kBroken_c (A : Option Addr) (c : Nat) (l : List Rc) (hl : l.length ≤ 9223372036854775807) (ho : ∀ i, i < l.length → (rat l i).ok) (w : World) (R : Rd w A 6 l.length (fun i => rcC (l.getD i rc0))) : Calls Try.prog 15 #[.slice A l.length c] w (RetP (RowR (fun v => .tuple #[v, .int .i64 (broL l).2]) 3 1 ((broL l).1.map natC) w)) := by
  refine calls_of_cw (args := [.slice A l.length c]) Try.func15 rfl rfl ?_
  have S := Sat.start [] w
  have O := (R).old
  (repeat' (first | apply cw_seq | apply cw_region | apply wl_nil | apply cw_block | apply cw_skip | apply cw_ret | (apply x_callv; assumption; exact rfl; exact rfl; exact rfl; exact e_kCheck; (exact (by repeat' constructor)); with_reducible exact (kCheck_c A c l hl ho _ (Old.now O (by assumption))); intro _ _ _) | (apply x_move; exact rfl; exact rfl; (exact (by repeat' constructor))) | (apply x_assign; exact rfl; exact rfl; (exact (by repeat' constructor))) | (apply x_bin; exact rfl; exact rfl; exact rfl; (first | exact .z (.wrap (by omega)) | exact (by repeat' constructor))) | (apply x_builtin; exact rfl; exact rfl; exact (fun _ => rfl); (exact (by repeat' constructor))) | (apply cw_ne; exact rfl; all_goals (intro _; try omega))))
  · (first | refine q_retS (by assumption) rfl (by repeat (first | exact .nil | (apply RV.tmp; exact (by repeat' constructor)) | (apply RV.cell; exact rfl; exact (by repeat' constructor); exact rfl; exact rfl; exact (by repeat' constructor)))) ?_ | (simp only [thenQ, blockQ]; refine q_retS (by assumption) rfl (by repeat (first | exact .nil | (apply RV.tmp; exact (by repeat' constructor)) | (apply RV.cell; exact rfl; exact (by repeat' constructor); exact rfl; exact rfl; exact (by repeat' constructor)))) ?_))
    rw [broL, if_pos (by assumption)]
    exact rowR_nil (V := fun v => .tuple #[v, .int .i64 (ckE l)]) rfl (Sat.keeps (by assumption))
  rename_i w1 _ S1 h0
  have hr := ckE0 (show ckE l = 0 by simpa using h0)
  have hl2 := hr.1
  rw [broL, if_neg (by simp [*])]
  refine cw_loop [5, 6, 7, 8, 9, 17, 18, 19, 20, 21, 22, 23, 24, 25, 26, 27, 28, 29, 30, 31, 32, 33, 34, 35, 36, 37] [17, 5] (fun us wr => ∃ (k : Nat) (A' : Option Addr) (c' : Nat), k ≤ l.length ∧ us = [.int .i64 k, .slice A' ((brUp l k).map natC).length c'] ∧ Sat w [] (.rw 0 (.slice A' ((brUp l k).map natC).length c') 3 1 ((brUp l k).map natC) :: []) wr) (fun us _ => l.length - (intOf (us.getD 0 undef)).toNat) ?_ ?_
  · exact ⟨0, none, 0, by omega, rfl, S1.addNil _ _⟩
  clear S1 S
  rintro g' us wr ⟨k, A', c', hk, rfl, Sr⟩
  have hbl := brUp_len l k
  have hbm : ((brUp l k).map natC).length = (brUp l k).length := List.length_map _
  by_cases hlt : k < l.length
  · (repeat' (first | apply cw_seq | apply cw_region | apply wl_nil | apply cw_block | apply cw_skip | (apply x_callrow; assumption; exact rfl; exact rfl; exact rfl; exact e_collected; (exact (by repeat' constructor)); with_reducible exact (coll_at A c hl ho hr k _ (Old.now O (by assumption))); intro _ _ _ _) | (apply x_append1; assumption; exact rfl; exact rfl; exact rfl; exact rfl; exact rfl; (exact (by repeat' constructor)); (exact (by repeat' constructor)); exact rfl; exact rfl; exact rfl; (first | assumption | omega | (simp; omega)); intro _ _ _ _) | (apply x_move; exact rfl; exact rfl; (exact (by repeat' constructor))) | (apply x_assign; exact rfl; exact rfl; (exact (by repeat' constructor))) | (apply x_fieldB; exact rfl; exact rfl; exact rfl; exact rfl; (constructor)) | (apply x_load; assumption; exact rfl; exact rfl; exact rfl; (exact (by repeat' constructor)); exact rfl; exact rfl; (exact (by repeat' constructor))) | (apply x_bin; exact rfl; exact rfl; exact rfl; (first | exact .z (.wrap (by omega)) | exact (by repeat' constructor))) | (apply x_alloc; assumption; exact rfl; exact rfl; exact rfl; (exact (by repeat' constructor)); intro _ _ _) | (apply x_store; assumption; exact rfl; exact rfl; (exact (by repeat' constructor)); (exact (by repeat' constructor)); exact rfl; exact rfl; exact rfl; (exact (by repeat' constructor)); intro _ _) | (apply x_extract; exact rfl; exact rfl; exact rfl; (exact (by repeat' constructor))) | (apply x_buildSlice; assumption; exact rfl; exact rfl; exact rfl; (exact (by repeat' constructor)); intro _ _ _) | (apply x_index; exact rfl; exact rfl; exact rfl; exact rfl; exact rfl; (constructor); (first | omega | exact size_pos (by assumption) | assumption); (first | exact rfl | assumption | exact Rd.some_ (by assumption) (by omega) | exact Rd.some_ (Old.rd (by assumption)) (by omega) | exact (Sat.rd (by assumption) (by exact (by repeat' constructor))).some_ (by omega))) | (apply x_loadR; exact rfl; exact rfl; exact rfl; (first | exact Old.now (by assumption) (by assumption) | exact Sat.rdpr (by assumption) (by exact (by repeat' constructor)) | exact Sat.rd (by assumption) (by exact (by repeat' constructor))); (first | omega | exact size_pos (by assumption) | assumption); exact rfl; exact rfl; (exact (by repeat' constructor))) | (apply x_dec; exact rfl; all_goals (intro _; try omega)) | (apply cw_ne; exact rfl; all_goals (intro _; try omega))))
    · rename_i g1 cap1 w2 S2
      have e := brUp_yes (l := l) (k := k) (by assumption)
      refine ⟨rfl, (by repeat (first | exact Agree.updl rfl (Agree.mask _ _ _) | refine Agree.upd rfl ?_)), ⟨k + 1, some ⟨g1, 0, none⟩, cap1, hlt, ?_, ?_⟩, ?_⟩
      · rw [e, List.map_append, List.length_append]
        rfl
      · rw [e, List.map_append, List.length_append]
        exact Sat.drop1 (Sat.drop2 S2)
      · show l.length - (k + 1 : Int).toNat < l.length - (k : Int).toNat
        omega
    · have e := brUp_no (l := l) (k := k) (by omega)
      refine ⟨rfl, (by repeat (first | exact Agree.updl rfl (Agree.mask _ _ _) | refine Agree.upd rfl ?_)), ⟨k + 1, A', c', hlt, ?_, ?_⟩, ?_⟩
      · rw [e]
        rfl
      · rw [e]
        exact Sat.drop2 (by assumption)
      · show l.length - (k + 1 : Int).toNat < l.length - (k : Int).toNat
        omega
  · (repeat' (first | apply cw_seq | apply cw_region | apply wl_nil | apply cw_exit | apply cw_ret | (apply x_move; exact rfl; exact rfl; (exact (by repeat' constructor))) | (apply x_assign; exact rfl; exact rfl; (exact (by repeat' constructor))) | (apply x_bin; exact rfl; exact rfl; exact rfl; (first | exact .z (.wrap (by omega)) | exact (by repeat' constructor))) | (apply x_dec; exact rfl; all_goals (intro _; try omega))))
    (first | refine q_retS (by assumption) rfl (by repeat (first | exact .nil | (apply RV.tmp; exact (by repeat' constructor)) | (apply RV.cell; exact rfl; exact (by repeat' constructor); exact rfl; exact rfl; exact (by repeat' constructor)))) ?_ | (simp only [thenQ, blockQ]; refine q_retS (by assumption) rfl (by repeat (first | exact .nil | (apply RV.tmp; exact (by repeat' constructor)) | (apply RV.cell; exact rfl; exact (by repeat' constructor); exact rfl; exact rfl; exact (by repeat' constructor)))) ?_))
    have e : k = l.length := by omega
    subst e
    exact rowR_xs (V := fun v => .tuple #[v, .int .i64 0]) Sr .head
end Go.Proofs.Ytnndkdcciojpiaa
