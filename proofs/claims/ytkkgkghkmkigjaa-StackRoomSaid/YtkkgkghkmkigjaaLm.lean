/- Stacks of dimensions: the program's bounds are the reference's. No statement of the seat is proved here. -/
import Derived.Test.YtkkgkghkmkigjaaLl
namespace Go.Proofs.Ytkkgkghkmkigjaa
set_option linter.unusedVariables false
set_option linter.unusedSimpArgs false
open Go Go.RowKit
theorem stp_new {l : List Dm} {c : List Lk} {i : Nat} (h : stp l c i = 0) : ∀ j, j < i → ¬ (lat c j).dm = (lat c i).dm := by
  intro j hj e
  unfold stp at h
  split at h
  · exact absurd h (by decide)
  · split at h
    · exact absurd h (by decide)
    · split at h
      · exact absurd h (by decide)
      · rename_i h3
        exact h3 (.inl ⟨j, hj, .inl e⟩)
theorem stp_inj {l : List Dm} {c : List Lk} (h : ∀ i, i < c.length → stp l c i = 0) {i j : Nat} (hi : i < c.length) (hj : j < c.length) (e : (lat c i).dm = (lat c j).dm) : i = j := by
  rcases Nat.lt_trichotomy i j with h1 | h1 | h1
  · exact absurd e (stp_new (h j hj) i h1)
  · exact h1
  · exact absurd e.symm (stp_new (h i hi) j h1)
noncomputable def extS (l : List Dm) (c : List Lk) (b : Bool) : List Int := (List.range l.length).map fun j => extV l c b j c.length
theorem extS_at {l : List Dm} {c : List Lk} (h : ∀ i, i < c.length → stp l c i = 0) (b : Bool) {k : Nat} (hk : k < c.length) :
    (extS l c b).getD (lat c k).dm.toNat 0 = if (lat c k).bk = b then (dOf l (lat c k)).lo else (dOf l (lat c k)).hi := by
  have hin := stp_inR (h k hk)
  have hn : (lat c k).dm.toNat < l.length := by have := hin.1; have := hin.2; omega
  have e0 : (((lat c k).dm.toNat : Nat) : Int) = (lat c k).dm := by have := hin.1; omega
  have e1 : (extS l c b).getD (lat c k).dm.toNat 0 = extV l c b (lat c k).dm.toNat c.length := by
    generalize (lat c k).dm.toNat = n at hn
    rw [List.getD_eq_getElem?_getD, extS, List.getElem?_map, List.getElem?_range hn]
    rfl
  rw [e1]
  by_cases hb : (lat c k).bk = b
  · rw [if_pos hb, extV, if_neg]
    rintro ⟨j, hj, h1, h2⟩
    rw [e0] at h1
    have := stp_inj h hj hk h1
    subst this
    exact h2 hb
  · rw [if_neg hb, extV, if_pos ⟨k, hk, e0.symm, hb⟩]
theorem bnd_tot {l : List Dm} {c : List Lk} (h : ∀ i, i < c.length → stp l c i = 0) : ∀ k, k ≤ c.length → bndE l (c.take k) = (totE (extS l c false) (c.take k), totE (extS l c true) (c.take k))
  | 0, _ => by simp [bndE, totE]
  | k + 1, hk => by
    rw [takeL_succ (by omega), bndE_snoc, bnd_tot h k (by omega), ← takeL_succ (by omega), totE_succ (by omega), totE_succ (by omega), extS_at h false (by omega), extS_at h true (by omega)]
    unfold addL sgn lowE
    cases hb : (c.getD k lk0).bk <;> simp [hb]
theorem bnd_tot_all {l : List Dm} {c : List Lk} (h : ∀ i, i < c.length → stp l c i = 0) : bndE l c = (totE (extS l c false) c, totE (extS l c true) c) := by
  have := bnd_tot h c.length (Nat.le_refl _)
  rwa [List.take_length] at this
end Go.Proofs.Ytkkgkghkmkigjaa
