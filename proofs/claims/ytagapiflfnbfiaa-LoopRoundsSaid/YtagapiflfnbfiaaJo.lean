/- Loops of dimensions: chains backwards, by the program. No statement of the seat is proved here. -/
import Derived.Test.YtagapiflfnbfiaaJn
namespace Go.Proofs.Ytagapiflfnbfiaa
set_option linter.unusedVariables false
set_option linter.unusedSimpArgs false
open Go Go.RowKit
theorem take_split {α : Type} (z : α) {c : List α} {k : Nat} (h : k < c.length) : c = c.take k ++ c.getD k z :: c.drop (k + 1) := by
  simp [List.getD_eq_getElem?_getD, h]
theorem take_succ' {α : Type} (z : α) {c : List α} {k : Nat} (h : k < c.length) : c.take (k + 1) = c.take k ++ [c.getD k z] := by
  simp [List.getD_eq_getElem?_getD, h]
def flp (x : Lk) : Lk := ⟨x.dm, !x.bk⟩
/-- a chain backwards, with indices -/
def bwL (c : List Lk) : List (Int × Lk) := (List.range c.length).map fun j => (((c.length - 1 - j : Nat) : Int), lat c (c.length - 1 - j))
def rvL (c : List Lk) : List Lk := (bwL c).map fun p => flp p.2
theorem bwL_len (c : List Lk) : (bwL c).length = c.length := by simp [bwL]
theorem rvL_len (c : List Lk) : (rvL c).length = c.length := by simp [rvL, bwL]
theorem bwL_at {c : List Lk} {j : Nat} (h : j < c.length) : (bwL c).getD j (0, lk0) = (((c.length - 1 - j : Nat) : Int), lat c (c.length - 1 - j)) := by
  rw [List.getD_eq_getElem?_getD, bwL, List.getElem?_map, List.getElem?_range h]; rfl
theorem rvL_at {c : List Lk} {j : Nat} (h : j < c.length) : lat (rvL c) j = flp (lat c (c.length - 1 - j)) := by
  show (rvL c).getD j lk0 = _
  rw [List.getD_eq_getElem?_getD, rvL, List.getElem?_map, bwL, List.getElem?_map, List.getElem?_range h]; rfl
set_option maxRecDepth 100000 in
theorem e_Backward : Ent Try.prog 55 := fun _ _ => rfl
set_option maxRecDepth 100000 in
theorem e_Backward1 : Ent Try.prog 66 := fun _ _ => rfl
set_option maxRecDepth 8000 in
theorem Backward_c (B : Option Addr) (n cB : Nat) (w : World) : Calls Try.prog 55 #[.slice B n cB] w (RetP (NewR (fun b => .func (.func 66) #[] #[.pointer (some ⟨b, 0, none⟩)]) 23 [.slice B n cB] w)) := by
  refine calls_of_cw (args := [.slice B n cB]) Try.func55 rfl rfl ?_
  have S := Sat.start [] w
  (repeat' (first | apply cw_seq | apply cw_region | apply wl_nil | apply cw_ret | (apply x_assign; exact rfl; exact rfl; (exact (by repeat' constructor))) | (apply x_box; assumption; exact rfl; exact rfl; (exact (by repeat' constructor)); (exact (by repeat' constructor)); intro _ _ _) | (apply x_makeFunc; exact rfl; exact rfl; (exact (by repeat' constructor)))))
  all_goals (first | refine q_retS (by assumption) rfl (by repeat (first | exact .nil | (apply RV.tmp; exact (by repeat' constructor)) | (apply RV.cell; exact rfl; exact (by repeat' constructor); exact rfl; exact rfl; exact (by repeat' constructor)))) ?_ | (simp only [thenQ, blockQ]; refine q_retS (by assumption) rfl (by repeat (first | exact .nil | (apply RV.tmp; exact (by repeat' constructor)) | (apply RV.cell; exact rfl; exact (by repeat' constructor); exact rfl; exact rfl; exact (by repeat' constructor)))) ?_))
  all_goals exact Sat.newR (by assumption) (by exact (by repeat' constructor))
set_option maxRecDepth 8000 in
set_option maxHeartbeats 4000000 in
theorem back_it {w0 : World} {M : List Nat} {b n cB : Nat} {B : Option Addr} {c : List Lk} (hn : n = c.length) (O : Old w0 M B 2 c.length (fun i => lkC (c.getD i lk0))) (hc : c.length ≤ 1000000) :
    Iter Try.prog 66 [.pointer (some ⟨b, 0, none⟩)] (fun p : Int × Lk => [.int .i64 p.1, .agg #[.int .i64 p.2.dm, .bool p.2.bk]]) (bwL c) w0 M [.cl b 23 [.slice B n cB]] := by
  subst hn
  intro l' J Jx hY h W h0 S
  refine calls_of_cw (args := [.func (.yield l') #[] #[], .pointer (some ⟨b, 0, none⟩)]) Try.func66 rfl rfl ?_
  replace S : Sat w0 M (_ :: h) W := S
  (repeat' (first | apply cw_seq | apply cw_region | apply wl_nil | apply cw_block | (apply x_assign; exact rfl; exact rfl; (exact (by repeat' constructor))) | (apply x_load; assumption; exact rfl; exact rfl; exact rfl; (exact (by repeat' constructor)); exact rfl; exact rfl; (exact (by repeat' constructor))) | (apply x_bin; exact rfl; exact rfl; exact rfl; (first | exact .z (.wrap (by omega)) | exact (by repeat' constructor))) | (apply x_builtin; exact rfl; exact rfl; exact (fun _ => rfl); (exact (by repeat' constructor)))))
  refine cw_loop [3, 7, 8, 9, 10, 11, 12, 13, 14, 15, 16, 17, 18] [3] (fun us wr => ∃ (j : Nat) (z : Int), j ≤ c.length ∧ z = (c.length : Int) - 1 - j ∧ us = [.int .i64 z] ∧ ∃ hh, Sat w0 M (.cl b 23 [.slice B c.length cB] :: hh) wr ∧ J ((bwL c).take j) hh) (fun us _ => (intOf (us.getD 0 undef) + 1).toNat) ?_ ?_
  · exact ⟨0, (c.length : Int) - 1, by omega, by omega, rfl, h, S, h0⟩
  rintro g us wr ⟨j, z, hj, hz, rfl, hh, Sr, hJ⟩
  clear S h0
  by_cases hlt : j < c.length
  · have hbl : j < (bwL c).length := by rw [bwL_len]; exact hlt
    have hsp := take_split ((0 : Int), lk0) hbl
    have hz0 : 0 ≤ z ∧ z < c.length := by omega
    have hzn : z.toNat = c.length - 1 - j := by omega
    have hat := bwL_at hlt
    rw [← hzn, show ((z.toNat : Nat) : Int) = z by omega] at hat
    have hYn : ∀ fr h W, J ((bwL c).take j) h → Sat w0 M (fr ++ h) W → YieldR Try.prog l' [.int .i64 z, .agg #[.int .i64 (c.getD z.toNat lk0).dm, .bool (c.getD z.toNat lk0).bk]] W (fun b W' => ∃ h', Sat w0 M (fr ++ h') W' ∧ ((b = true ∧ J ((bwL c).take j ++ [(bwL c).getD j (0, lk0)]) h') ∨ (b = false ∧ Jx ((bwL c).take j ++ [(bwL c).getD j (0, lk0)]) h'))) := by
      intro fr h W hj hs
      have := hY _ _ _ fr h W hsp hj hs
      rw [hat] at this ⊢
      exact this
    (repeat' (first | apply cw_seq | apply cw_region | apply wl_nil | apply cw_block | apply cw_skip | apply cw_ret | (apply x_indexI (z := z); exact rfl; exact rfl; exact rfl; exact rfl; exact rfl; (constructor); exact hz0.1; exact hz0.2; (exact (Old.rd O).some_ (by omega))) | (apply x_loadR; exact rfl; exact rfl; exact rfl; exact Old.now O (by assumption); exact tlt hz0; exact rfl; exact rfl; (exact (by repeat' constructor))) | (apply x_yield; exact rfl; exact rfl; exact rfl; (exact (by repeat' constructor)); exact hYn [_] _ _ hJ (by assumption); rintro _ w2 ⟨h2, S2, ⟨rfl, hJ2⟩ | ⟨rfl, hJ2⟩⟩ <;> replace S2 : Sat w0 M (_ :: h2) w2 := S2) | (apply x_move; exact rfl; exact rfl; (exact (by repeat' constructor))) | (apply x_assign; exact rfl; exact rfl; (exact (by repeat' constructor))) | (apply x_load; assumption; exact rfl; exact rfl; exact rfl; (exact (by repeat' constructor)); exact rfl; exact rfl; (exact (by repeat' constructor))) | (apply x_bin; exact rfl; exact rfl; exact rfl; (first | exact .z (.wrap (by omega)) | exact (by repeat' constructor))) | (apply x_un; exact rfl; exact rfl; exact rfl; (first | exact .z (.wrap (by omega)) | exact (by repeat' constructor))) | (apply cw_true; exact rfl) | (apply cw_false; exact rfl) | (apply x_dec; exact rfl; all_goals (intro _; try omega))))
    all_goals first
      | (refine ⟨rfl, (by repeat (first | exact Agree.updl rfl (Agree.mask _ _ _) | refine Agree.upd rfl ?_)), ⟨j + 1, z - 1, hlt, by omega, rfl, h2, S2, by rw [take_succ' ((0 : Int), lk0) hbl]; exact hJ2⟩, ?_⟩
         show (z - 1 + 1).toNat < (z + 1).toNat
         omega)
      | (first | (apply q_ret0; exact rfl) | (apply q_end0; exact rfl)
         exact ⟨_, S2.drop1, .inr ⟨_, (by rw [← take_succ' ((0 : Int), lk0) hbl]; exact List.take_prefix _ _), hJ2⟩⟩)
      | skip
    all_goals done
  · (repeat' (first | apply cw_seq | apply cw_region | apply wl_nil | apply cw_exit | (apply x_move; exact rfl; exact rfl; (exact (by repeat' constructor))) | (apply x_bin; exact rfl; exact rfl; exact rfl; (first | exact .z (.wrap (by omega)) | exact (by repeat' constructor))) | (apply x_dec; exact rfl; all_goals (intro _; try omega))))
    first | (apply q_ret0; exact rfl) | (apply q_end0; exact rfl)
    exact ⟨_, Sr.drop1, .inl (by rwa [List.take_of_length_le (by rw [bwL_len]; omega)] at hJ)⟩
noncomputable def revL (l : List Dm) (c : List Lk) : List Lk × Int := if lpE l c = 0 then (rvL c, 0) else ([], lpE l c)
theorem revL_yes {l : List Dm} {c : List Lk} (h : lpE l c = 0) : revL l c = (rvL c, 0) := if_pos h
theorem revL_no {l : List Dm} {c : List Lk} (h : ¬ lpE l c = 0) : revL l c = ([], lpE l c) := if_neg h
def rBox (b7 : Nat) (A' : Option Addr) (n' c' : Nat) (xs : List Lk) : List HO :=
  [.rw 0 (.slice A' n' c') 59 2 (xs.map lkC), .cl b7 23 [.slice A' n' c']]
set_option maxRecDepth 100000 in
theorem e_Reverse : Ent Try.prog 28 := fun _ _ => rfl
set_option maxRecDepth 8000 in
set_option maxHeartbeats 20000000 in
theorem Reverse_c (A : Option Addr) (cA : Nat) (l : List Dm) (hl : l.length ≤ 9223372036854775807) (ho : ∀ i, i < l.length → (dat l i).ok) (B : Option Addr) (cB : Nat) (c : List Lk) (hc : c.length ≤ 9223372036854775807) (w : World) (R : Rd w A 5 l.length (fun i => dmC (l.getD i dm0))) (R2 : Rd w B 2 c.length (fun i => lkC (c.getD i lk0))) :
    Calls Try.prog 28 #[.slice A l.length cA, .slice B c.length cB] w (RetP (RowR (fun v => .tuple #[v, .int .i64 (revL l c).2]) 59 2 ((revL l c).1.map lkC) w)) := by
  refine calls_of_cwM (args := [.slice A l.length cA, .slice B c.length cB]) Try.func28 rfl rfl ?_
  have S := Sat.start [] w
  have O := R.old
  have O2 := R2.old
  by_cases he : lpE l c = 0
  · rw [revL_yes he]
    have h256 := (lpE_ok he).2.2.1
    (repeat' (first | apply cw_seq | apply cw_region | apply wl_nil | apply cw_block | apply cw_skip | (apply x_callv; assumption; exact rfl; exact rfl; exact rfl; exact e_CheckL; (exact (by repeat' constructor)); with_reducible exact (CheckL_c A cA l hl ho B cB c hc _ (Old.now O (by assumption)) (Old.now O2 (by assumption))); intro _ _ _) | (apply x_calln; assumption; exact rfl; exact rfl; exact rfl; exact e_Backward; (exact (by repeat' constructor)); exact (Backward_c _ _ _ _); intro _ _ _) | (apply x_move; exact rfl; exact rfl; (exact (by repeat' constructor))) | (apply x_assign; exact rfl; exact rfl; (exact (by repeat' constructor))) | (apply x_bin; exact rfl; exact rfl; exact rfl; (first | exact .z (.wrap (by omega)) | exact (by repeat' constructor))) | (apply x_alloc; assumption; exact rfl; exact rfl; exact rfl; (exact (by repeat' constructor)); intro _ _ _) | (apply cw_ne; exact rfl; all_goals (intro _; try omega))))
    rename_i b7 _ _ bB w1 S1
    replace S1 : Sat w [] (.cl bB 23 _ :: _) w1 := S1
    refine cw_range (h := rBox b7 none 0 0 []) (Sat.perm' (S1.addNil 59 2) (List.Perm.swap _ _ _)) rfl e_Backward1 (fun _ => rfl) rfl (back_it rfl O2 (by omega))
      (fun pre h => ∃ A' c', h = rBox b7 A' pre.length c' (pre.map fun p => flp p.2)) (fun _ _ _ => False) ⟨none, 0, rfl⟩ ?_ ?_ ?_
    all_goals clear S1 S
    · rintro l' pre x rest fr _ W hx ⟨A', c', rfl⟩ S1
      replace S1 : Sat w [] (_ :: _ :: fr) W := S1
      have hlen : pre.length < c.length := by
        have h1 := congrArg List.length hx
        rw [bwL_len] at h1
        simp only [List.length_append, List.length_cons] at h1
        omega
      have hl9 : ((pre.map fun p => flp p.2).map lkC).length < 1000000000 := by simp only [List.length_map]; omega
      (repeat' (first | apply cw_region | apply wl_nil | (apply x_alloc; assumption; exact rfl; exact rfl; exact rfl; (exact (by repeat' constructor)); intro _ _ _) | (apply x_store; assumption; exact rfl; exact rfl; (exact (by repeat' constructor)); (exact (by repeat' constructor)); exact rfl; exact rfl; exact rfl; (exact (by repeat' constructor)); intro _ _)))
      rename_i b9 w3 _ w4 S4
      refine ⟨[_, _, _], S4, fun W2 fr' S2 => ?_⟩
      replace S2 : Sat w [] (_ :: _ :: _ :: fr') W2 := S2
      clear S1 S4
      (repeat' (first | apply cw_region | apply wl_nil | apply cw_block | (apply x_append1; assumption; exact rfl; exact rfl; exact rfl; exact rfl; exact rfl; (exact (by repeat' constructor)); (exact (by repeat' constructor)); exact rfl; exact rfl; exact rfl; (first | assumption | omega | (simp; omega)); intro _ _ _ _) | (apply x_fieldB; exact rfl; exact rfl; exact rfl; exact rfl; (constructor)) | (apply x_load; assumption; exact rfl; exact rfl; exact rfl; (exact (by repeat' constructor)); exact rfl; exact rfl; (exact (by repeat' constructor))) | (apply x_un; exact rfl; exact rfl; exact rfl; (first | exact .z (.wrap (by omega)) | exact (by repeat' constructor))) | (apply x_store; assumption; exact rfl; exact rfl; (exact (by repeat' constructor)); (exact (by repeat' constructor)); exact rfl; exact rfl; exact rfl; (exact (by repeat' constructor)); intro _ _) | (apply x_build; exact rfl; exact rfl; exact rfl; (exact (by repeat' constructor))) | (apply x_buildSlice; assumption; exact rfl; exact rfl; exact rfl; (exact (by repeat' constructor)); intro _ _ _)))
      rename_i g1 cap1 _ _ w2 S3
      have hk2 : ((pre.map fun p => flp p.2).map lkC).length + 1 = (pre ++ [x]).length := by simp
      rw [hk2] at S3
      refine ⟨_, ⟨some ⟨g1, 0, none⟩, cap1, rfl⟩, ?_⟩
      unfold rBox
      rw [List.map_append, List.map_append]
      exact Sat.drop2 S3
    · rintro D1 _ W ⟨A', c', rfl⟩ S1
      replace S1 : Sat w [] (_ :: _ :: _ :: []) W := S1
      (repeat' (first | apply cw_seq | apply cw_region | apply wl_nil | apply cw_ret | (apply x_assign; exact rfl; exact rfl; (exact (by repeat' constructor))) | (apply x_load; assumption; exact rfl; exact rfl; exact rfl; (exact (by repeat' constructor)); exact rfl; exact rfl; (exact (by repeat' constructor)))))
      refine q_retM1 (by assumption) (by exact (by repeat' constructor)) rfl (by repeat (first | exact .nil | (apply RV.tmp; exact (by repeat' constructor)) | (apply RV.cell; exact rfl; exact (by repeat' constructor); exact rfl; exact rfl; exact (by repeat' constructor)))) ?_
      intro w' S'
      exact rowR_n (V := fun v => .tuple #[v, .int .i64 0]) (by rw [List.length_map, rvL_len, bwL_len]) S' (.tail .head)
    · rintro D1 _ pre _ W hf _ S1
      exact hf.elim
  · rw [revL_no he]
    (repeat' (first | apply cw_seq | apply cw_region | apply wl_nil | apply cw_ret | (apply x_callv; assumption; exact rfl; exact rfl; exact rfl; exact e_CheckL; (exact (by repeat' constructor)); with_reducible exact (CheckL_c A cA l hl ho B cB c hc _ (Old.now O (by assumption)) (Old.now O2 (by assumption))); intro _ _ _) | (apply x_move; exact rfl; exact rfl; (exact (by repeat' constructor))) | (apply x_assign; exact rfl; exact rfl; (exact (by repeat' constructor))) | (apply x_bin; exact rfl; exact rfl; exact rfl; (first | exact .z (.wrap (by omega)) | exact (by repeat' constructor))) | (apply cw_ne; exact rfl; all_goals (intro _; try omega))))
    simp only [thenQ]
    refine q_retM0 (by assumption) rfl (by repeat (first | exact .nil | (apply RV.tmp; exact (by repeat' constructor)) | (apply RV.cell; exact rfl; exact (by repeat' constructor); exact rfl; exact rfl; exact (by repeat' constructor)))) ?_
    exact rowR_nil (V := fun v => .tuple #[v, .int .i64 (lpE l c)]) rfl (Sat.keeps (by assumption))
end Go.Proofs.Ytagapiflfnbfiaa
