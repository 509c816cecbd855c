/- Stacks of dimensions: how a part for a sum is filled up. No statement of the seat is proved here. -/
import Derived.Test.YtkkgkghkmkigjaaLp
namespace Go.Proofs.Ytkkgkghkmkigjaa
set_option linter.unusedVariables false
set_option linter.unusedSimpArgs false
open Go Go.RowKit
theorem getD_set' (xs : List Int) (i j : Nat) (v : Int) : (xs.set i v).getD j 0 = if i = j ∧ j < xs.length then v else xs.getD j 0 := by
  simp only [List.getD_eq_getElem?_getD, List.getElem?_set]
  by_cases h : i = j
  · subst h
    by_cases h2 : i < xs.length
    · simp [h2]
    · simp [h2]
  · simp [h]
def mnI (a b : Int) : Int := if b < a then b else a
theorem mnI_le {a b : Int} (ha : 0 ≤ a) (hb : 0 ≤ b) : 0 ≤ mnI a b ∧ mnI a b ≤ a ∧ mnI a b ≤ b := by unfold mnI; split <;> omega
def rngD (l : List Dm) (x : Lk) : Int := (dOf l x).hi - (dOf l x).lo
theorem rngD_le {l : List Dm} (hv : okL l) {x : Lk} (hx : inR l x) : 0 ≤ rngD l x ∧ rngD l x ≤ 200000 := by
  have h := hv x.dm.toNat (by have := hx.1; have := hx.2; omega)
  have h1 : -100000 ≤ (dOf l x).lo ∧ (dOf l x).lo ≤ (dOf l x).hi ∧ (dOf l x).hi ≤ 100000 := h
  unfold rngD; omega
def fil (l : List Dm) (p : List Int × Int) (x : Lk) : List Int × Int := (p.1.set x.dm.toNat (p.1.getD x.dm.toNat 0 + sgn x * mnI p.2 (rngD l x)), p.2 - mnI p.2 (rngD l x))
noncomputable def filK (l : List Dm) (c : List Lk) (s : Int) (k : Nat) : List Int × Int := (c.take k).foldl (fil l) (extS l c false, s - (bndE l c).1)
theorem filK_zero (l : List Dm) (c : List Lk) (s : Int) : filK l c s 0 = (extS l c false, s - (bndE l c).1) := rfl
theorem filK_succ {l : List Dm} {c : List Lk} {s : Int} {k : Nat} (hk : k < c.length) : filK l c s (k + 1) = fil l (filK l c s k) (lat c k) := by
  unfold filK
  rw [takeL_succ hk, List.foldl_append]; rfl
theorem filK_len (l : List Dm) (c : List Lk) (s : Int) : ∀ k, k ≤ c.length → (filK l c s k).1.length = l.length
  | 0, _ => by rw [filK_zero]; exact extS_len l c false
  | k + 1, h => by
    rw [filK_succ (by omega)]
    show ((filK l c s k).1.set _ _).length = _
    rw [List.length_set, filK_len l c s k (by omega)]
structure FilB (k : Nat) (p : List Int × Int) : Prop where
  left : 0 ≤ p.2 ∧ p.2 ≤ 51200000
  val : ∀ i, -(100000 + 200000 * (k : Int)) ≤ p.1.getD i 0 ∧ p.1.getD i 0 ≤ 100000 + 200000 * (k : Int)
theorem filK_ok {l : List Dm} (hv : okL l) {c : List Lk} (hr : ∀ j, j < c.length → inR l (lat c j)) {s : Int} (h0 : 0 ≤ s - (bndE l c).1 ∧ s - (bndE l c).1 ≤ 51200000) : ∀ k, k ≤ c.length → FilB k (filK l c s k)
  | 0, _ => ⟨h0, fun i => by have := extS_ok hv c false i; show _ ≤ (extS l c false).getD i 0 ∧ (extS l c false).getD i 0 ≤ _; omega⟩
  | k + 1, h => by
    obtain ⟨h1, h2⟩ := filK_ok hv hr h0 k (by omega)
    have hd := rngD_le hv (hr k (by omega))
    have hm := mnI_le h1.1 hd.1
    rw [filK_succ (by omega)]
    refine ⟨⟨?_, ?_⟩, fun i => ?_⟩
    · show 0 ≤ (filK l c s k).2 - mnI (filK l c s k).2 (rngD l (lat c k)); omega
    · show (filK l c s k).2 - mnI (filK l c s k).2 (rngD l (lat c k)) ≤ _; omega
    · show _ ≤ ((filK l c s k).1.set (lat c k).dm.toNat ((filK l c s k).1.getD (lat c k).dm.toNat 0 + sgn (lat c k) * mnI (filK l c s k).2 (rngD l (lat c k)))).getD i 0 ∧ ((filK l c s k).1.set (lat c k).dm.toNat ((filK l c s k).1.getD (lat c k).dm.toNat 0 + sgn (lat c k) * mnI (filK l c s k).2 (rngD l (lat c k)))).getD i 0 ≤ _
      rw [getD_set']
      have hi := h2 i
      have hj := h2 (lat c k).dm.toNat
      split
      · rcases sgn_or (lat c k) with e | e <;> rw [e] <;> omega
      · omega
noncomputable def parE (l : List Dm) (c : List Lk) (s : Int) : List Int := (filK l c s c.length).1
/-- no part for the sum -/
noncomputable def offB (l : List Dm) (c : List Lk) (s : Int) : Prop := s < (bndE l c).1 ∨ (bndE l c).2 < s
def shaE (l : List Dm) (c : List Lk) : List Int := c.map (rngD l)
end Go.Proofs.Ytkkgkghkmkigjaa
