/- Samples of points in space: what is thinned: the plain laws. No statement of the seat is proved here. -/
import Derived.Test.YtnlddjbeekfjlaaPl
namespace Go.Proofs.Ytnlddjbeekfjlaa
open Go Go.RowKit
theorem keepG_prefix {bad : List Sp → Sp → Prop} : ∀ (r out : List Sp), out <+: keepG bad out r
  | [], out => List.prefix_refl _
  | p :: r, out => by
    by_cases h : bad out p
    · rw [keepG_yes h]; exact keepG_prefix r out
    · rw [keepG_no h]; exact (List.prefix_append _ _).trans (keepG_prefix r (out ++ [p]))
def FarL (g : Int) (m : List Sp) : Prop := ∀ i k, k < i → i < m.length → ¬ dist2 (m.getD i sp0) (m.getD k sp0) < g * g
theorem getD_app1 {l : List Sp} {p : Sp} {i : Nat} (h : i < l.length) : (l ++ [p]).getD i sp0 = l.getD i sp0 := by
  simp [List.getD_eq_getElem?_getD, List.getElem?_append_left h]
theorem getD_app2 {l : List Sp} {p : Sp} : (l ++ [p]).getD l.length sp0 = p := by simp [List.getD_eq_getElem?_getD]
theorem keepG_far {g : Int} : ∀ (r out : List Sp), FarL g out → FarL g (keepG (nearB g) out r)
  | [], _, h => h
  | p :: r, out, h => by
    by_cases hb : nearB g out p
    · rw [keepG_yes hb]; exact keepG_far r out h
    · rw [keepG_no hb]
      refine keepG_far r _ (fun i k hk hi => ?_)
      rw [List.length_append, List.length_singleton] at hi
      by_cases he : i < out.length
      · rw [getD_app1 he, getD_app1 (by omega)]; exact h i k hk he
      · have e : i = out.length := by omega
        subst e
        rw [getD_app2, getD_app1 hk]
        exact fun hd => hb ⟨_, by rw [getD_lt hk]; exact List.getElem_mem hk, hd⟩
theorem prefix_take {α : Type} {a b : List α} (h : a <+: b) : b.take a.length = a := by
  obtain ⟨t, rfl⟩ := h
  simp
/-- where the statement's last loop stands -/
structure AtI (g : Int) (l m : List Sp) (i a : Nat) : Prop where
  le : a ≤ m.length
  eq : m = keepG (nearB g) (m.take a) (l.drop i)
theorem AtI.kept {g : Int} {l m : List Sp} {i a : Nat} (h : AtI g l m i a) (hi : i < l.length) (hb : ¬ nearB g (m.take a) (l.getD i sp0)) : a < m.length ∧ m.getD a sp0 = l.getD i sp0 ∧ AtI g l m (i + 1) (a + 1) := by
  have e := h.eq
  rw [drop_getD hi sp0, keepG_no hb] at e
  have hp : m.take a ++ [l.getD i sp0] <+: m := by
    have := keepG_prefix (bad := nearB g) (l.drop (i + 1)) (m.take a ++ [l.getD i sp0])
    rwa [← e] at this
  have hl : (m.take a ++ [l.getD i sp0]).length = a + 1 := by simp; have := h.le; omega
  have hlt : a < m.length := by have := hp.length_le; omega
  have ht := prefix_take hp
  rw [hl] at ht
  refine ⟨hlt, ?_, ⟨hlt, by rw [ht]; exact e⟩⟩
  have h1 : (m.take (a + 1)).getD a sp0 = m.getD a sp0 := by simp [List.getD_eq_getElem?_getD, List.getElem?_take]
  rw [← h1, ht]
  have h2 : (m.take a).length = a := by rw [List.length_take]; omega
  have h3 := getD_app2 (l := m.take a) (p := l.getD i sp0)
  rw [h2] at h3
  exact h3
theorem keepG_next {g : Int} : ∀ (r out : List Sp) (p : Sp), nearB g out p → out.length < (keepG (nearB g) out r).length → (keepG (nearB g) out r).getD out.length sp0 ≠ p
  | [], out, p, _, h => by simp [keepG] at h
  | q :: r, out, p, hp, h => by
    by_cases hb : nearB g out q
    · rw [keepG_yes hb] at h ⊢; exact keepG_next r out p hp h
    · rw [keepG_no hb] at h ⊢
      obtain ⟨t, ht⟩ := keepG_prefix (bad := nearB g) r (out ++ [q])
      rw [← ht]
      have : (out ++ [q] ++ t).getD out.length sp0 = q := by simp [List.getD_eq_getElem?_getD]
      rw [this]
      exact fun e => hb (e ▸ hp)
theorem AtI.left {g : Int} {l m : List Sp} {i a : Nat} (h : AtI g l m i a) (hi : i < l.length) (hb : nearB g (m.take a) (l.getD i sp0)) : (a < m.length → m.getD a sp0 ≠ l.getD i sp0) ∧ AtI g l m (i + 1) a ∧ ∃ t, t < a ∧ dist2 (l.getD i sp0) (m.getD t sp0) < g * g := by
  have e := h.eq
  rw [drop_getD hi sp0, keepG_yes hb] at e
  have hl : (m.take a).length = a := by rw [List.length_take]; have := h.le; omega
  refine ⟨fun hlt => ?_, ⟨h.le, e⟩, ?_⟩
  · have := keepG_next (l.drop (i + 1)) (m.take a) (l.getD i sp0) hb (by rw [← e, hl]; exact hlt)
    rwa [← e, hl] at this
  · obtain ⟨q, hq, hd⟩ := hb
    obtain ⟨t, ht, rfl⟩ := getD_in hq sp0
    rw [hl] at ht
    refine ⟨t, ht, ?_⟩
    have h1 : (m.take a).getD t sp0 = m.getD t sp0 := by simp [List.getD_eq_getElem?_getD, List.getElem?_take, ht]
    rwa [h1] at hd
theorem AtI.end_ {g : Int} {l m : List Sp} {a : Nat} (h : AtI g l m l.length a) : a = m.length := by
  have e := h.eq
  rw [List.drop_eq_nil_of_le (Nat.le_refl _)] at e
  have := congrArg List.length e
  have h1 := h.le
  simp [keepG] at this
  omega
theorem keep_first {g : Int} {l : List Sp} (h : 0 < l.length) : 0 < (keepG (nearB g) [] l).length ∧ (keepG (nearB g) [] l).getD 0 sp0 = l.getD 0 sp0 := by
  have h0 : AtI g l (keepG (nearB g) [] l) 0 0 := ⟨by omega, rfl⟩
  have := h0.kept h (by rintro ⟨q, hq, _⟩; simp at hq)
  exact ⟨this.1, this.2.1⟩
end Go.Proofs.Ytnlddjbeekfjlaa
