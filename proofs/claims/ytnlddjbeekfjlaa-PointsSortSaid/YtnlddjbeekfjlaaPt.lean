/- Samples of points in space: sorted, compared. No statement of the seat is proved here. -/
import Derived.Test.YtnlddjbeekfjlaaPh
import Derived.Test.YtnlddjbeekfjlaaPs
import Derived.Test.YtnlddjbeekfjlaaEngI
import Derived.Shelf.SlSortCmp.NoneTotal
namespace Go.Proofs.Ytnlddjbeekfjlaa
set_option linter.unusedVariables false
set_option linter.unusedSimpArgs false
open Go Go.RowKit
theorem srtS_perm (l : List Sp) : (srtS l).Perm l := List.mergeSort_perm _ _
theorem srtS_len (l : List Sp) : (srtS l).length = l.length := (srtS_perm l).length_eq
theorem spC_len3 (a : Sp) : (spC a).length = 3 := rfl
set_option maxRecDepth 100000 in
theorem e_sort : Ent Try.prog 88 := fun _ _ => rfl
theorem sortRow_c (A : Option Addr) (c : Nat) (l : List Sp) (hl : l.length < 1000000000) (w : World) (S : Sat w (blks [.rw 0 (.slice A l.length c) 30 3 (l.map spC)]) [.rw 0 (.slice A l.length c) 30 3 (l.map spC)] w) :
    Calls Try.prog 88 #[.slice A l.length c, .func (.func 89) #[] #[]] w (RetP fun v w' => ∃ _ : Unit, v = .tuple #[] ∧ Sat w (blks [.rw 0 (.slice A l.length c) 30 3 (l.map spC)]) [.rw 0 (.slice A l.length c) 30 3 ((srtS l).map spC)] w') := by
  cases hA : A with
  | none =>
    subst hA
    have hz : l = [] := by
      obtain ⟨_, _, hrow⟩ := S.ok _ List.mem_cons_self
      rcases hrow.2 with ⟨hv, _⟩ | ⟨g', cap, cur, hv, _⟩
      · injection hv with h1 h2 h3; exact List.length_eq_zero_iff.1 h2
      · injection hv with h1 h2 h3; cases h1
    subst hz
    refine (Go.Proofs.AnyF.slices_SortFunc_none sortSpot none c _ w).mono ?_
    rintro e w' ⟨rfl, rfl⟩
    exact ⟨_, rfl, (), rfl, (by rw [show srtS [] = [] from List.mergeSort_nil]; exact S)⟩
  | some ad =>
    subst hA
    have hg : ∃ g, ad = ⟨g, 0, none⟩ := by
      obtain ⟨_, _, hrow⟩ := S.ok _ List.mem_cons_self
      rcases hrow.2 with ⟨hv, _⟩ | ⟨g', cap, cur, hv, _⟩
      · injection hv with h1 h2 h3; cases h1
      · injection hv with h1 h2 h3; injection h1 with h1; exact ⟨g', h1⟩
    obtain ⟨g, rfl⟩ := hg
    have hH := Sat.holdsK (d := l.toArray) (en := spC) spC_len3 (by decide) S .head
    refine (sort_c g c l.toArray w hH.1 hH.2 (by show l.length < _; omega)).mono ?_
    rintro e w' ⟨rfl, d', n, os, hp, hs, rfl⟩
    have hd := srtS_of l.toArray d' hp hs
    have S' := Sat.sorted (d := l.toArray) (d' := d') (en := spC) (F := fun o => [o]) spC_len3 (by decide) S .head hp.1 n os
    refine ⟨_, rfl, (), rfl, ?_⟩
    rw [hd] at S'
    exact S'
set_option maxRecDepth 100000 in
theorem e_sorted : Ent Try.prog 72 := fun _ _ => rfl
set_option maxRecDepth 4000 in
set_option maxHeartbeats 2000000 in
theorem sorted_c (A : Option Addr) (c : Nat) (l : List Sp) (hl : l.length ≤ 9223372036854775807) (hs : l.length < 1000000000) (w : World) (R : Rd w A 3 l.length (fun i => spC (l.getD i sp0))) : Calls Try.prog 72 #[.slice A l.length c] w (RetP (RowR (fun v => v) 30 3 ((srtS (keepG onceB [] l)).map spC) w)) := by
  refine calls_of_cw (args := [.slice A l.length c]) Try.func72 rfl rfl ?_
  have S := Sat.start [] w
  have O := (R).old
  (repeat' (first | apply cw_seq | apply cw_region | apply wl_nil | apply cw_block | apply cw_skip | apply cw_exit | apply cw_ret | (apply x_callrowE (m := (keepG onceB [] l).length); assumption; exact rfl; exact rfl; exact rfl; exact e_unique; (exact (by repeat' constructor)); (with_reducible exact unique_c A c l hl hs _ (Old.now O (by assumption))); (exact (List.length_map _)); intro A2 c2 _ _) | (apply x_callC (bd := []) (hc := [.rw 0 (.slice A2 (keepG onceB [] l).length c2) 30 3 ((keepG onceB [] l).map spC)]) (fr := []); assumption; exact rfl; exact rfl; exact rfl; exact e_sort; (exact (by repeat' constructor)); exact List.Perm.refl _; exact (fun Sc => sortRow_c A2 c2 (keepG onceB [] l) (by have := keepG_len (bad := onceB) l []; have e0 : ([] : List Sp).length = 0 := rfl; omega) _ Sc); intro _ w2 S2; replace S2 : Sat w [] [_] w2 := S2) | (apply x_move; exact rfl; exact rfl; (exact (by repeat' constructor))) | (apply x_assign; exact rfl; exact rfl; (exact (by repeat' constructor)))))
  all_goals (first | refine q_retS (by assumption) rfl (by repeat (first | exact .nil | (apply RV.tmp; exact (by repeat' constructor)) | (apply RV.cell; exact rfl; exact (by repeat' constructor); exact rfl; exact rfl; exact (by repeat' constructor)))) ?_ | (simp only [thenQ, blockQ]; refine q_retS (by assumption) rfl (by repeat (first | exact .nil | (apply RV.tmp; exact (by repeat' constructor)) | (apply RV.cell; exact rfl; exact (by repeat' constructor); exact rfl; exact rfl; exact (by repeat' constructor)))) ?_))
  all_goals exact rowR_n (V := fun v => v) ((List.length_map _).trans (srtS_len _)).symm (by assumption) .head
end Go.Proofs.Ytnlddjbeekfjlaa
