/- slices.SortFunc at spots: the library's contract at this program. No statement of the seat is proved here. -/
import Derived.Test.YtnlddjbeekfjlaaPr
import Derived.Shelf.SlSortCmp.WholeK
namespace Go.Proofs.Ytnlddjbeekfjlaa
set_option linter.unusedVariables false
set_option linter.unusedSimpArgs false
open Go Go.Shelf Go.RowKit Go.Lib Go.Sort
def ltS (x y : Int × Int × Int) : Prop := x.1 < y.1 ∨ (x.1 = y.1 ∧ (x.2.1 < y.2.1 ∨ (x.2.1 = y.2.1 ∧ x.2.2 < y.2.2)))
theorem cmpS_lt (x y : Int × Int × Int) : ltOf cmpS x y = true ↔ ltS x y := by
  unfold ltOf cmpS or3 compareInt ltS
  rw [decide_eq_true_iff]
  split <;> rename_i h1
  · split <;> rename_i h2
    · (repeat' split) <;> (repeat' split at h1) <;> (repeat' split at h2) <;> simp at * <;> omega
    · (repeat' split) <;> (repeat' split at h1) <;> (repeat' split at h2) <;> simp at * <;> omega
  · (repeat' split) <;> (repeat' split at h1) <;> simp at * <;> omega
theorem swoS : SWO (ltOf cmpS) where
  irrefl x := by rw [Bool.eq_false_iff, Ne, cmpS_lt]; unfold ltS; omega
  trans x y z h1 h2 := by rw [cmpS_lt] at *; unfold ltS at *; omega
  ntrans x y z h1 h2 := by rw [Bool.eq_false_iff, Ne, cmpS_lt] at *; unfold ltS at *; omega
theorem ltS_eq (x y : Int × Int × Int) (h : ltOf cmpS x y = false) (k : ltOf cmpS y x = false) : x = y := by
  rw [Bool.eq_false_iff, Ne, cmpS_lt] at h k
  unfold ltS at h k
  obtain ⟨a, b, c⟩ := x
  obtain ⟨a', b', c'⟩ := y
  dsimp only at h k
  have h1 : a = a' := by omega
  have h2 : b = b' := by omega
  have h3 : c = c' := by omega
  rw [h1, h2, h3]
/-- the sorted list of spots -/
def srtS (l : List (Int × Int × Int)) : List (Int × Int × Int) := l.mergeSort (fun x y => !ltOf cmpS y x)
/-- there is one sorted permutation -/
theorem srtS_of (d d' : Array (Int × Int × Int)) (hp : PermIn 0 d.size d d') (hs : SortedIn (ltOf cmpS) 0 d.size d') : d'.toList = srtS d.toList :=
  sorted_unique_holds swoS ltS_eq d d' hp hs
/-- the insertion's result -/
theorem srtS_ins (d : Array (Int × Int × Int)) : (Sort.insertionSort (ltOf cmpS) d 0 d.size).toList = srtS d.toList :=
  srtS_of _ _ (insertionSort_holds swoS d 0 d.size (Nat.zero_le _) (Nat.le_refl _)).1 (insertionSort_holds swoS d 0 d.size (Nat.zero_le _) (Nat.le_refl _)).2
theorem sort_c (g cap : Nat) (d : Array (Int × Int × Int)) (w : World) (hH : HoldsK enS 3 w g 0 d) (hg : g < w.heap.size) (hs : d.size < 4611686018427387904) :
    Calls Try.prog 88 #[.slice (some ⟨g, 0, none⟩) d.size cap, .func (.func 89) #[] #[]] w fun e w' => e = .returned (.tuple #[]) ∧ ∃ d' n os, PermIn 0 d.size d d' ∧ SortedIn (ltOf cmpS) 0 d.size d' ∧ w' = sortWorldK enS 3 w g 0 n d' os := by
  have eg : ∀ args w, (callFunc 89 args).run Try.prog w = .ok (.enter 89 args) w := enters_of Try.func89 (by kernel_rfl) rfl
  exact AnyQ.slices_SortFunc sortSpot 3 Try.isAgg30 Try.sizeOf30 enS (fun _ => rfl) (fun x v hv => by simp [enS] at hv; rcases hv with rfl | rfl | rfl <;> rfl) cmpS swoS 89 #[] g 0 cap d w eg (cmpLays_sorted1 g 0 d.size w) hH hg hs
end Go.Proofs.Ytnlddjbeekfjlaa
