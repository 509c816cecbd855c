/- Loops of dimensions: the chapter's example, in plain words. No statement of the seat is proved here. -/
import Derived.Test.YtagapiflfnbfiaaJl
namespace Go.Proofs.Ytagapiflfnbfiaa
set_option linter.unusedVariables false
set_option linter.unusedSimpArgs false
open Go Go.RowKit
abbrev nA : ByteArray := ⟨#[65]⟩
abbrev nB : ByteArray := ⟨#[66]⟩
abbrev nC : ByteArray := ⟨#[67]⟩
abbrev sq : List Dm := [⟨nA, nB, 0, 0, 0⟩, ⟨nB, nC, 0, 0, 0⟩, ⟨nA, nC, 0, 0, 0⟩, ⟨nA, nC, 1, 0, 0⟩]
theorem givenE_of {l : List Dm} (h : l.length ≤ 256) (hv : ∀ i, i < l.length → validE (dat l i) = 0) : givenE l = 0 := by
  unfold givenE
  rw [if_neg (by omega)]
  exact fstE_of _ _ fun i _ hi => hv i (by omega)
theorem hA : nameE nA = 0 := by decide +kernel
theorem hB : nameE nB = 0 := by decide +kernel
theorem hC : nameE nC = 0 := by decide +kernel
theorem vsq : givenE sq = 0 := givenE_of (by decide) fun i hi => by
  have h3 : i = 0 ∨ i = 1 ∨ i = 2 ∨ i = 3 := by simp at hi; omega
  rcases h3 with rfl | rfl | rfl | rfl
  · show firstE [nameE nA, nameE nB, clsE ⟨nA, nB, 0, 0, 0⟩, chk 0 0] = 0
    rw [hA, hB]; decide
  · show firstE [nameE nB, nameE nC, clsE ⟨nB, nC, 0, 0, 0⟩, chk 0 0] = 0
    rw [hB, hC]; decide
  · show firstE [nameE nA, nameE nC, clsE ⟨nA, nC, 0, 0, 0⟩, chk 0 0] = 0
    rw [hA, hC]; decide
  · show firstE [nameE nA, nameE nC, clsE ⟨nA, nC, 1, 0, 0⟩, chk 0 0] = 0
    rw [hA, hC]; decide
theorem osq : ∀ i, i < sq.length → (dat sq i).ok := by
  intro i hi
  have h3 : i = 0 ∨ i = 1 ∨ i = 2 ∨ i = 3 := by simp at hi; omega
  rcases h3 with rfl | rfl | rfl | rfl
  all_goals exact ⟨show (⟨#[_]⟩ : ByteArray).size ≤ _ from Nat.le_of_ble_eq_true rfl, show (⟨#[_]⟩ : ByteArray).size ≤ _ from Nat.le_of_ble_eq_true rfl⟩
theorem ask1 : askE sq 0 nA nC = 0 := by
  unfold askE
  rw [if_neg (not_not_intro vsq), if_neg (by omega), if_neg (not_not_intro hA), if_neg (not_not_intro hC), if_neg (by decide)]
theorem ask2 : askE sq 0 nC nA = 0 := by
  unfold askE
  rw [if_neg (not_not_intro vsq), if_neg (by omega), if_neg (not_not_intro hC), if_neg (not_not_intro hA), if_neg (by decide)]
theorem net1 : netL sq 0 = [⟨0, false⟩, ⟨0, true⟩, ⟨1, false⟩, ⟨1, true⟩, ⟨2, false⟩, ⟨2, true⟩] := by kernel_rfl
theorem sh1 : shS sq (netL sq 0) nA nC = ([⟨2, false⟩], true) := by kernel_rfl
theorem find1 : findS sq 0 nA nC = ([⟨2, false⟩], 0) := by
  unfold findS
  rw [if_pos ask1, sh1]; rfl
theorem run1 : runG sq 0 nA nC = ([[⟨0, false⟩, ⟨1, false⟩], [⟨2, false⟩]], true) := by kernel_rfl
theorem run2 : (runG sq 0 nC nA).2 = true ∧ (runG sq 0 nC nA).1.length = 2 := ⟨by kernel_rfl, by kernel_rfl⟩
theorem all1 : allS sq 0 nA nC = ([[⟨0, false⟩, ⟨1, false⟩], [⟨2, false⟩]], 0) := by
  unfold allS
  rw [if_pos ask1, run1]; rfl
theorem all2 : (allS sq 0 nC nA).1.length = 2 ∧ (allS sq 0 nC nA).2 = 0 := by
  unfold allS
  rw [if_pos ask2, if_pos run2.1]
  exact ⟨run2.2, rfl⟩
theorem lop1 : lopS sq = ([[⟨2, false⟩, ⟨1, true⟩, ⟨0, true⟩]], 0) := by
  unfold lopS
  rw [if_pos vsq]
  kernel_rfl
end Go.Proofs.Ytagapiflfnbfiaa
