/- The pairs of an iterator, collected and sorted: slices.AppendSeq, Collect, SortedFunc. No statement of the seat is proved here. -/
import Derived.Test.YtdkknknebehkgaaVo
namespace Go.Proofs.Ytdkknknebehkgaa.Al
set_option linter.unusedVariables false
set_option linter.unusedSimpArgs false
open Go Go.RowKit
def aBox (b7 : Nat) (A' : Option Addr) (n' c' : Nat) (ys : List Pr2) : List HO :=
  [.rw 0 (.slice A' n' c') 75 2 (ys.map prC), .cl b7 41 [.slice A' n' c']]
set_option maxRecDepth 100000 in
theorem e_AppendSeq : Ent Try.prog 71 := fun _ _ => rfl
set_option maxRecDepth 8000 in
set_option maxHeartbeats 4000000 in
theorem AppendSeq_c {w0 w : World} {M : List Nat} {h hi : List HO} {gf : FuncId} {lb : List Value} {xs : List Pr2} (hE : Ent Try.prog gf) (it : Iter Try.prog gf lb pairE xs w0 M hi) (hl : xs.length < 1000000000) (S : Sat w0 M (hi ++ h) w) : Calls Try.prog 71 #[.slice none 0 0, .func (.func gf) #[] lb.toArray] w (RetP fun v w' => ∃ (A : Option Addr) (c : Nat), v = .slice A xs.length c ∧ Sat w0 M (.rw 0 (.slice A xs.length c) 75 2 (xs.map prC) :: h) w') := by
  refine calls_of_cwM (args := [.slice none 0 0, .func (.func gf) #[] lb.toArray]) Try.func71 rfl rfl ?_
  (repeat' (first | apply cw_seq | apply cw_region | apply wl_nil | apply cw_block | (apply x_move; exact rfl; exact rfl; (exact (by repeat' constructor))) | (apply x_assign; exact rfl; exact rfl; (exact (by repeat' constructor))) | (apply x_box; assumption; exact rfl; exact rfl; (exact (by repeat' constructor)); (exact (by repeat' constructor)); intro _ _ _)))
  rename_i b7 w1 S1
  refine cw_range (hi := hi) (h := aBox b7 none 0 0 [] ++ h) (Sat.perm' (S1.addNil 75 2) ?_) rfl hE (fun _ => rfl) rfl it
      (fun pre h' => ∃ A' c', h' = aBox b7 A' pre.length c' pre ++ h) (fun _ _ _ => False) ⟨none, 0, rfl⟩ ?_ ?_ ?_
  · exact List.perm_append_comm_assoc [_, _] hi h
  all_goals clear S1 S
  · rintro l' pre x rest fr _ W hx ⟨A', c', rfl⟩ S1
    replace S1 : Sat w0 M (_ :: _ :: (h ++ fr)) W := S1
    have hlen : pre.length < xs.length := by
      have h1 := congrArg List.length hx
      simp only [List.length_append, List.length_cons] at h1
      omega
    have hl9 : (pre.map prC).length < 1000000000 := by simp only [List.length_map]; omega
    (repeat' (first | apply cw_region | apply wl_nil | (apply x_alloc; assumption; exact rfl; exact rfl; exact rfl; (exact (by repeat' constructor)); intro _ _ _) | (apply x_store; assumption; exact rfl; exact rfl; (exact (by repeat' constructor)); (exact (by repeat' constructor)); exact rfl; exact rfl; exact rfl; (exact (by repeat' constructor)); intro _ _)))
    rename_i b9 w3 _ w4 S4
    refine ⟨_ :: _ :: _ :: h, S4, fun W2 fr' S2 => ?_⟩
    replace S2 : Sat w0 M (_ :: _ :: _ :: (h ++ fr')) W2 := S2
    clear S1 S4
    (repeat' (first | apply cw_region | apply wl_nil | apply cw_block | (apply x_append1; assumption; exact rfl; exact rfl; exact rfl; exact rfl; exact rfl; (exact (by repeat' constructor)); (exact (by repeat' constructor)); exact rfl; exact rfl; exact rfl; (first | assumption | omega | (simp; omega)); intro _ _ _ _) | (apply x_load; assumption; exact rfl; exact rfl; exact rfl; (exact (by repeat' constructor)); exact rfl; exact rfl; (exact (by repeat' constructor))) | (apply x_store; assumption; exact rfl; exact rfl; (exact (by repeat' constructor)); (exact (by repeat' constructor)); exact rfl; exact rfl; exact rfl; (exact (by repeat' constructor)); intro _ _) | (apply x_buildSlice; assumption; exact rfl; exact rfl; exact rfl; (exact (by repeat' constructor)); intro _ _ _)))
    rename_i b8 _ _ g1 cap1 _ _ w2 S3
    have hk2 : (pre.map prC).length + 1 = (pre ++ [x]).length := by simp
    rw [hk2] at S3
    refine ⟨_, ⟨some ⟨g1, 0, none⟩, cap1, rfl⟩, ?_⟩
    unfold aBox
    rw [List.map_append]
    exact Sat.drop2 S3
  · rintro D1 _ W ⟨A', c', rfl⟩ S1
    replace S1 : Sat w0 M (_ :: _ :: _ :: h) W := S1
    (repeat' (first | apply cw_seq | apply cw_region | apply wl_nil | apply cw_ret | (apply x_assign; exact rfl; exact rfl; (exact (by repeat' constructor))) | (apply x_load; assumption; exact rfl; exact rfl; exact rfl; (exact (by repeat' constructor)); exact rfl; exact rfl; (exact (by repeat' constructor)))))
    refine q_retM1 (by assumption) (by exact (by repeat' constructor)) rfl (by repeat (first | exact .nil | (apply RV.tmp; exact (by repeat' constructor)) | (apply RV.cell; exact rfl; exact (by repeat' constructor); exact rfl; exact rfl; exact (by repeat' constructor)))) ?_
    intro w' S'
    exact ⟨A', c', rfl, Sat.drop S'.drop1 _ (List.Sublist.cons_cons _ (List.sublist_cons_self _ _))⟩
  · rintro D1 _ pre _ W hf _ S1
    exact hf.elim
set_option maxRecDepth 100000 in
theorem e_Collect : Ent Try.prog 63 := fun _ _ => rfl
set_option maxRecDepth 8000 in
theorem Collect_c {w0 w : World} {M : List Nat} {h hi : List HO} {gf : FuncId} {lb : List Value} {xs : List Pr2} (hE : Ent Try.prog gf) (it : Iter Try.prog gf lb pairE xs w0 M hi) (hl : xs.length < 1000000000) (S : Sat w0 M (hi ++ h) w) : Calls Try.prog 63 #[.func (.func gf) #[] lb.toArray] w (RetP fun v w' => ∃ (A : Option Addr) (c : Nat), v = .slice A xs.length c ∧ Sat w0 M (.rw 0 (.slice A xs.length c) 75 2 (xs.map prC) :: h) w') := by
  refine calls_of_cw (args := [.func (.func gf) #[] lb.toArray]) Try.func63 rfl rfl ?_
  (repeat' (first | apply cw_seq | apply cw_region | apply wl_nil | apply cw_ret | (apply x_call; exact rfl; exact rfl; exact rfl; exact e_AppendSeq; (exact (by repeat' constructor)); exact AppendSeq_c hE it hl S; rintro v w2 ⟨A, c, rfl, S2⟩) | (apply x_move; exact rfl; exact rfl; (exact (by repeat' constructor))) | (apply x_assign; exact rfl; exact rfl; (exact (by repeat' constructor)))))
  (first | refine q_retS (by assumption) rfl (by repeat (first | exact .nil | (apply RV.tmp; exact (by repeat' constructor)) | (apply RV.cell; exact rfl; exact (by repeat' constructor); exact rfl; exact rfl; exact (by repeat' constructor)))) ?_ | (simp only [thenQ, blockQ]; refine q_retS (by assumption) rfl (by repeat (first | exact .nil | (apply RV.tmp; exact (by repeat' constructor)) | (apply RV.cell; exact rfl; exact (by repeat' constructor); exact rfl; exact rfl; exact (by repeat' constructor)))) ?_))
  exact ⟨A, c, rfl, S2⟩
set_option maxRecDepth 100000 in
theorem e_SortedFunc : Ent Try.prog 53 := fun _ _ => rfl
set_option maxRecDepth 8000 in
theorem SortedFunc_c {w0 w : World} {M : List Nat} {h hi : List HO} {gf : FuncId} {lb : List Value} {xs : List Pr2} (hE : Ent Try.prog gf) (it : Iter Try.prog gf lb pairE xs w0 M hi) (hl : xs.length < 1000000000) (S : Sat w0 M (hi ++ h) w) : Calls Try.prog 53 #[.func (.func gf) #[] lb.toArray, .func (.func 55) #[] #[]] w (RetP fun v w' => ∃ (A : Option Addr) (c : Nat), v = .slice A xs.length c ∧ Sat w0 M (.rw 0 (.slice A xs.length c) 75 2 ((srtP xs).map prC) :: h) w') := by
  refine calls_of_cw (args := [.func (.func gf) #[] lb.toArray, .func (.func 55) #[] #[]]) Try.func53 rfl rfl ?_
  (repeat' (first | apply cw_seq | apply cw_region | apply wl_nil | apply cw_ret | (apply x_call; exact rfl; exact rfl; exact rfl; exact e_Collect; (exact (by repeat' constructor)); exact Collect_c hE it hl S; rintro v w2 ⟨A, c, rfl, S2⟩) | (apply x_callC (bd := []) (hc := [.rw 0 (.slice A xs.length c) 75 2 (xs.map prC)]) (fr := h); assumption; exact rfl; exact rfl; exact rfl; exact e_sortP; (exact (by repeat' constructor)); exact List.Perm.refl _; exact (fun Sc => sortRow_c A c xs hl _ Sc); intro _ w3 S3; replace S3 : Sat w0 M (_ :: h) w3 := S3) | (apply x_move; exact rfl; exact rfl; (exact (by repeat' constructor))) | (apply x_assign; exact rfl; exact rfl; (exact (by repeat' constructor)))))
  (first | refine q_retS (by assumption) rfl (by repeat (first | exact .nil | (apply RV.tmp; exact (by repeat' constructor)) | (apply RV.cell; exact rfl; exact (by repeat' constructor); exact rfl; exact rfl; exact (by repeat' constructor)))) ?_ | (simp only [thenQ, blockQ]; refine q_retS (by assumption) rfl (by repeat (first | exact .nil | (apply RV.tmp; exact (by repeat' constructor)) | (apply RV.cell; exact rfl; exact (by repeat' constructor); exact rfl; exact rfl; exact (by repeat' constructor)))) ?_))
  exact ⟨A, c, rfl, S3⟩
end Go.Proofs.Ytdkknknebehkgaa.Al
