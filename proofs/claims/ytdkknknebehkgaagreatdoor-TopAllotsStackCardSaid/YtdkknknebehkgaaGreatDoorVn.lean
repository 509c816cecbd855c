/- slices.SortFunc at pairs: the library's contract at this program. No statement of the seat is proved here. -/
import Derived.Test.YtdkknknebehkgaaGreatDoorVm
import Derived.Test.YtdkknknebehkgaaGreatDoorVl
import Derived.Test.YtdkknknebehkgaaGreatDoorEngI
import Derived.Shelf.SlSortCmp.WholeK
import Derived.Shelf.SlSortCmp.NoneTotal
namespace Go.Proofs.YtdkknknebehkgaaGreatDoor.Al
set_option linter.unusedVariables false
set_option linter.unusedSimpArgs false
open Go Go.Shelf Go.RowKit Go.Lib Go.Sort
def ltP (x y : Int × Int) : Prop := x.1 < y.1 ∨ (x.1 = y.1 ∧ x.2 < y.2)
theorem cmpP_lt (x y : Int × Int) : ltOf cmpP x y = true ↔ ltP x y := by
  unfold ltOf cmpP or2 compareInt ltP
  rw [decide_eq_true_iff]
  split <;> rename_i h1
  · (repeat' split) <;> (repeat' split at h1) <;> simp at * <;> omega
  · (repeat' split) <;> (repeat' split at h1) <;> simp at * <;> omega
theorem swoP : SWO (ltOf cmpP) where
  irrefl x := by rw [Bool.eq_false_iff, Ne, cmpP_lt]; unfold ltP; omega
  trans x y z h1 h2 := by rw [cmpP_lt] at *; unfold ltP at *; omega
  ntrans x y z h1 h2 := by rw [Bool.eq_false_iff, Ne, cmpP_lt] at *; unfold ltP at *; omega
theorem ltP_eq (x y : Int × Int) (h : ltOf cmpP x y = false) (k : ltOf cmpP y x = false) : x = y := by
  rw [Bool.eq_false_iff, Ne, cmpP_lt] at h k
  unfold ltP at h k
  exact pr2_eta (by omega) (by omega)
/-- the sorted list of pairs -/
def srtP (l : List (Int × Int)) : List (Int × Int) := l.mergeSort (fun x y => !ltOf cmpP y x)
theorem srtP_of (d d' : Array (Int × Int)) (hp : PermIn 0 d.size d d') (hs : SortedIn (ltOf cmpP) 0 d.size d') : d'.toList = srtP d.toList :=
  sorted_unique_holds swoP ltP_eq d d' hp hs
theorem srtP_perm (l : List Pr2) : (srtP l).Perm l := List.mergeSort_perm _ _
theorem srtP_len (l : List Pr2) : (srtP l).length = l.length := (srtP_perm l).length_eq
theorem not_lt_le {x y : Pr2} : (!ltOf cmpP y x) = true ↔ lexLe x y := by
  rw [Bool.not_eq_true', Bool.eq_false_iff, Ne, cmpP_lt]
  unfold ltP lexLe
  omega
theorem srtP_lex (l : List Pr2) : (srtP l).Pairwise lexLe := by
  have h := List.pairwise_mergeSort (le := fun x y => !ltOf cmpP y x) (fun a b c h1 h2 => by
    rw [not_lt_le] at *
    unfold lexLe at *
    omega) (fun a b => by
    have : lexLe a b ∨ lexLe b a := by unfold lexLe; omega
    rcases this with h | h
    · rw [not_lt_le.2 h]; rfl
    · rw [not_lt_le.2 h, Bool.or_true]) l
  exact h.imp fun h => not_lt_le.1 h
theorem sort_c (g cap : Nat) (d : Array (Int × Int)) (w : World) (hH : HoldsK enP 2 w g 0 d) (hg : g < w.heap.size) (hs : d.size < 4611686018427387904) :
    Calls Tryz.prog 60 #[.slice (some ⟨g, 0, none⟩) d.size cap, .func (.func 46) #[] #[]] w fun e w' => e = .returned (.tuple #[]) ∧ ∃ d' n os, PermIn 0 d.size d d' ∧ SortedIn (ltOf cmpP) 0 d.size d' ∧ w' = sortWorldK enP 2 w g 0 n d' os := by
  have eg : ∀ args w, (callFunc 46 args).run Tryz.prog w = .ok (.enter 46 args) w := enters_of Tryz.func46 (by kernel_rfl) rfl
  exact AnyQ.slices_SortFunc sortPair 2 Tryz.isAgg87 Tryz.sizeOf87 enP (fun _ => rfl) (fun x v hv => by simp [enP] at hv; rcases hv with rfl | rfl <;> rfl) cmpP swoP 46 #[] g 0 cap d w eg (cmpLays_merged1 g 0 d.size w) hH hg hs
theorem prC_len2 (a : Pr2) : (prC a).length = 2 := rfl
set_option maxRecDepth 100000 in
theorem e_sortP : Ent Tryz.prog 60 := fun _ _ => rfl
theorem sortRow_c (A : Option Addr) (c : Nat) (l : List Pr2) (hl : l.length < 1000000000) (w : World) (S : Sat w (blks [.rw 0 (.slice A l.length c) 87 2 (l.map prC)]) [.rw 0 (.slice A l.length c) 87 2 (l.map prC)] w) :
    Calls Tryz.prog 60 #[.slice A l.length c, .func (.func 46) #[] #[]] w (RetP fun v w' => ∃ _ : Unit, v = .tuple #[] ∧ Sat w (blks [.rw 0 (.slice A l.length c) 87 2 (l.map prC)]) [.rw 0 (.slice A l.length c) 87 2 ((srtP l).map prC)] w') := by
  cases hA : A with
  | none =>
    subst hA
    have hz : l = [] := by
      obtain ⟨_, _, hrow⟩ := S.ok _ List.mem_cons_self
      rcases hrow.2 with ⟨hv, _⟩ | ⟨g', cap, cur, hv, _⟩
      · injection hv with h1 h2 h3; exact List.length_eq_zero_iff.1 h2
      · injection hv with h1 h2 h3; cases h1
    subst hz
    refine (Go.Proofs.AnyF.slices_SortFunc_none sortPair none c _ w).mono ?_
    rintro e w' ⟨rfl, rfl⟩
    exact ⟨_, rfl, (), rfl, (by rw [show srtP [] = [] from List.mergeSort_nil]; exact S)⟩
  | some ad =>
    subst hA
    have hg : ∃ g, ad = ⟨g, 0, none⟩ := by
      obtain ⟨_, _, hrow⟩ := S.ok _ List.mem_cons_self
      rcases hrow.2 with ⟨hv, _⟩ | ⟨g', cap, cur, hv, _⟩
      · injection hv with h1 h2 h3; cases h1
      · injection hv with h1 h2 h3; injection h1 with h1; exact ⟨g', h1⟩
    obtain ⟨g, rfl⟩ := hg
    have hH := Sat.holdsK (d := l.toArray) (en := prC) prC_len2 (by decide) S .head
    refine (sort_c g c l.toArray w hH.1 hH.2 (by show l.length < _; omega)).mono ?_
    rintro e w' ⟨rfl, d', n, os, hp, hs, rfl⟩
    have hd := srtP_of l.toArray d' hp hs
    have S' := Sat.sorted (d := l.toArray) (d' := d') (en := prC) (F := fun o => [o]) prC_len2 (by decide) S .head hp.1 n os
    refine ⟨_, rfl, (), rfl, ?_⟩
    rw [hd] at S'
    exact S'
end Go.Proofs.YtdkknknebehkgaaGreatDoor.Al
