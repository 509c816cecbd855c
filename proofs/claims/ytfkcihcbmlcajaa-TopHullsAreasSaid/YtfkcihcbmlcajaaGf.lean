/- The way round as a list of vertices: the sum of its sides is the area; what a point in it adds. No program is in sight, and no statement of the seat is proved here. -/
import Derived.Test.YtfkcihcbmlcajaaGd
namespace Go.Proofs.Ytfkcihcbmlcajaa.Hu
set_option linter.unusedVariables false
set_option linter.unusedSimpArgs false
def p0 : P := ⟨0, 0⟩
abbrev gt (v : List P) (i : Nat) : P := v.getD i p0
/-- the first k sides, the last one back to the start -/
def asum (v : List P) : Nat → Int
  | 0 => 0
  | k + 1 => asum v k + cr (gt v k) (gt v ((k + 1) % v.length))
theorem V_take (w : List P) (k : Nat) (h : k + 1 < w.length) : V ((w.take (k + 2)).reverse) = V ((w.take (k + 1)).reverse) + cr (gt w k) (gt w (k + 1)) := by
  have e1 : w.take (k + 2) = w.take (k + 1) ++ [gt w (k + 1)] := by
    rw [List.take_succ_eq_append_getElem h]; simp [gt, List.getD_eq_getElem?_getD, h]
  have h' : k < w.length := by omega
  have e2 : w.take (k + 1) = w.take k ++ [gt w k] := by
    rw [List.take_succ_eq_append_getElem h']; simp [gt, List.getD_eq_getElem?_getD, h']
  rw [e1, e2]
  simp [V]
theorem asum_V (v : List P) (hn : v ≠ []) (k : Nat) (hk : k ≤ v.length) : asum v k = V (((v ++ [gt v 0]).take (k + 1)).reverse) := by
  induction k with
  | zero =>
    cases v with
    | nil => exact absurd rfl hn
    | cons a v => rfl
  | succ k ih =>
    have hl : 0 < v.length := List.length_pos_iff.2 hn
    rw [V_take _ k (by simp; omega), ← ih (by omega)]
    have e1 : gt (v ++ [gt v 0]) k = gt v k := by simp [gt, List.getD_eq_getElem?_getD, List.getElem?_append_left (show k < v.length by omega)]
    have e2 : gt (v ++ [gt v 0]) (k + 1) = gt v ((k + 1) % v.length) := by
      rcases Nat.lt_or_ge (k + 1) v.length with h | h
      · rw [Nat.mod_eq_of_lt h]; simp [gt, List.getD_eq_getElem?_getD, List.getElem?_append_left h]
      · have : k + 1 = v.length := by omega
        rw [this, Nat.mod_self]; simp [gt, List.getD_eq_getElem?_getD]
    rw [e1, e2]; rfl
noncomputable def verts (D : List P) : List P := if D.length < 3 then D.reverse else (chn D).reverse.dropLast ++ (chn D.reverse).reverse.dropLast
/-- the way round, closed, its end first -/
theorem way {D : List P} (hD : Dsc D) {x0 z0 : P} (hx0 : D.head? = some x0) (hz0 : D.getLast? = some z0) (hxz : lt z0 x0) : ∃ lo' h', chn D = x0 :: lo' ∧ chn D.reverse = h' ++ [x0] ∧ verts D ≠ [] ∧ (verts D ++ [gt (verts D) 0]).reverse = h' ++ x0 :: lo' ∧ (verts D).length + 2 = (chn D).length + (chn D.reverse).length := by
  obtain ⟨lo', hlo⟩ := List.head?_eq_some_iff.1 ((chn_head D).trans hx0)
  obtain ⟨h', hhi⟩ := List.getLast?_eq_some_iff.1 (((chn_last D.reverse).trans (List.getLast?_reverse)).trans hx0)
  refine ⟨lo', h', hlo, hhi, ?_⟩
  obtain ⟨hi', hhi'⟩ := List.head?_eq_some_iff.1 (((chn_head D.reverse).trans (List.head?_reverse)).trans hz0)
  have hlast := (chn_last D).trans hz0
  rw [hlo] at hlast
  have hv : verts D = lo'.reverse ++ hi'.reverse := by
    unfold verts
    split
    · rename_i hlt
      match D, hx0, hz0, hlt with
      | [a], hx0, hz0, _ =>
        simp at hx0 hz0; subst hx0; subst hz0; exact (lt_ir hxz).elim
      | [a, b], _, _, _ =>
        have e1 : chn [a, b] = [a, b] := rfl
        have e2 : chn ([a, b] : List P).reverse = [b, a] := rfl
        rw [e1] at hlo; rw [e2] at hhi'
        simp only [List.cons.injEq] at hlo hhi'
        rw [← hlo.2, ← hhi'.2]; rfl
    · rw [hlo, hhi']; simp
  cases hl : lo' with
  | nil =>
    exfalso
    rw [hl] at hlast; simp at hlast; subst hlast; exact lt_ir hxz
  | cons b l =>
    rw [← hl]
    have hl2 : lo'.getLast? = some z0 := by rw [hl] at hlast ⊢; rw [List.getLast?_cons_cons] at hlast; exact hlast
    obtain ⟨m, hm⟩ := List.getLast?_eq_some_iff.1 hl2
    have g0 : gt (verts D) 0 = z0 := by rw [hv, hm]; simp [gt]
    refine ⟨?_, ?_, ?_⟩
    · rw [hv, hm]; simp
    · rw [g0, hv]
      have : z0 :: hi' = h' ++ [x0] := hhi'.symm.trans hhi
      have e : h' ++ x0 :: lo' = (h' ++ [x0]) ++ lo' := by simp
      rw [e, ← this]; simp
    · rw [hv, hlo, hhi']; simp; omega
theorem asum_area {D : List P} (hD : Dsc D) (hn : D ≠ []) : asum (verts D) (verts D).length = area D ∧ verts D ≠ [] := by
  obtain ⟨x0, hx0⟩ : ∃ x, D.head? = some x := by cases D with | nil => exact absurd rfl hn | cons x _ => exact ⟨x, rfl⟩
  obtain ⟨z0, hz0⟩ : ∃ x, D.getLast? = some x := ⟨D.getLast hn, List.getLast?_eq_some_getLast hn⟩
  rcases head_max hD hx0 (List.mem_of_getLast? hz0) with h | h
  · obtain ⟨lo', h', h1, h2, h3, h4, _⟩ := way hD hx0 hz0 h
    refine ⟨?_, h3⟩
    rw [asum_V _ h3 _ (Nat.le_refl _), List.take_of_length_le (by simp), h4, V_app, ← h1, ← h2]
    unfold area; omega
  · subst h
    match D, hD, hx0, hz0 with
    | [a], _, _, _ => exact ⟨by simp [verts, asum, area, chn, pop, V, cr, gt]; grind, by simp [verts]⟩
    | a :: b :: r, hD, hx0, hz0 =>
      exfalso
      simp only [List.head?_cons, Option.some.injEq] at hx0; subst hx0
      rw [List.getLast?_cons_cons] at hz0
      exact lt_ir ((List.pairwise_cons.1 hD).1 _ (List.mem_of_getLast? hz0))
theorem pair_ix {v : List P} {r1 r2 : List P} {b a : P} (h : (v ++ [gt v 0]).reverse = r1 ++ b :: a :: r2) : ∃ i, i < v.length ∧ gt v i = a ∧ gt v ((i + 1) % v.length) = b := by
  have h1 : v ++ [gt v 0] = r2.reverse ++ a :: b :: r1.reverse := by rw [← List.reverse_reverse (v ++ [gt v 0]), h]; simp
  have hl := congrArg List.length h1
  simp at hl
  have hk : r2.length < v.length := by omega
  refine ⟨r2.length, hk, ?_, ?_⟩
  · have e1 : gt (v ++ [gt v 0]) r2.length = gt v r2.length := by simp [gt, List.getD_eq_getElem?_getD, List.getElem?_append_left hk]
    rw [← e1, h1]; simp [gt, List.getD_eq_getElem?_getD]
  · have e2 : gt (v ++ [gt v 0]) (r2.length + 1) = gt v ((r2.length + 1) % v.length) := by
      rcases Nat.lt_or_ge (r2.length + 1) v.length with h | h
      · rw [Nat.mod_eq_of_lt h]; simp [gt, List.getD_eq_getElem?_getD, List.getElem?_append_left h]
      · have : r2.length + 1 = v.length := by omega
        rw [this, Nat.mod_self]; simp [gt, List.getD_eq_getElem?_getD]
    rw [← e2, h1]; simp [gt, List.getD_eq_getElem?_getD]
/-- the triangles from any point -/
def tsum (p : P) (v : List P) : Nat → Int
  | 0 => 0
  | k + 1 => tsum p v k + lf p (gt v k) (gt v ((k + 1) % v.length))
theorem tsum_asum (p : P) (v : List P) (k : Nat) (h : k ≤ v.length) : tsum p v k = asum v k + cr p (gt v 0) - cr p (gt v (k % v.length)) := by
  induction k with
  | zero => simp [tsum, asum]
  | succ k ih =>
    have := ih (by omega)
    have e := lf_cr p (gt v k) (gt v ((k + 1) % v.length))
    rw [Nat.mod_eq_of_lt (show k < v.length by omega)] at this
    show tsum p v k + _ = asum v k + _ + _ - _
    omega
theorem tsum_all (p : P) (v : List P) : tsum p v v.length = asum v v.length := by
  rw [tsum_asum p v _ (Nat.le_refl _), Nat.mod_self]; omega
def IsD (l D : List P) : Prop := Dsc D ∧ ∀ u, u ∈ D ↔ u ∈ l
/-- where a point is: as the code tells it -/
def InAll (v : List P) (p : P) : Prop := ∀ i, i < v.length → 0 ≤ lf (gt v i) (gt v ((i + 1) % v.length)) p
def In (v : List P) (p : P) : Prop := if v.length ≤ 2 then lf (gt v 0) (gt v (v.length - 1)) p = 0 ∧ dt (sb (gt v 0) p) (sb (gt v (v.length - 1)) p) ≤ 0 else InAll v p
theorem more_ge {l D E : List P} {p : P} (hn : l ≠ []) (hD : IsD l D) (hE : IsD (l ++ [p]) E) : asum (verts D) (verts D).length ≤ asum (verts E) (verts E).length := by
  have d0 : D ≠ [] := by
    obtain ⟨a, r, rfl⟩ := List.exists_cons_of_ne_nil hn
    intro k; subst k; exact absurd ((hD.2 a).2 (by simp)) (by simp)
  have e0 : E ≠ [] := by intro k; subst k; exact absurd ((hE.2 p).2 (by simp)) (by simp)
  rw [(asum_area hD.1 d0).1, (asum_area hE.1 e0).1]
  exact area_mono hD.1 hE.1 d0 p fun u => by rw [hE.2, hD.2]; simp
theorem more_eq {l D E : List P} {p : P} (hn : l ≠ []) (hD : IsD l D) (hE : IsD (l ++ [p]) E) (h : In (verts D) p) : asum (verts D) (verts D).length = asum (verts E) (verts E).length := by
  refine Int.le_antisymm (more_ge hn hD hE) ?_
  have d0 : D ≠ [] := by
    obtain ⟨a, r, rfl⟩ := List.exists_cons_of_ne_nil hn
    intro k; subst k; exact absurd ((hD.2 a).2 (by simp)) (by simp)
  have e0 : E ≠ [] := by intro k; subst k; exact absurd ((hE.2 p).2 (by simp)) (by simp)
  have hm : ∀ u, u ∈ E ↔ u ∈ D ∨ u = p := fun u => by rw [hE.2, hD.2]; simp
  have hd := hD.1
  have he := hE.1
  rw [(asum_area hd d0).1, (asum_area he e0).1]
  obtain ⟨x0, hx0⟩ : ∃ x, D.head? = some x := by cases D with | nil => exact absurd rfl d0 | cons x _ => exact ⟨x, rfl⟩
  obtain ⟨z0, hz0⟩ : ∃ x, D.getLast? = some x := ⟨D.getLast d0, List.getLast?_eq_some_getLast d0⟩
  rcases head_max hd hx0 (List.mem_of_getLast? hz0) with hxz | hxz
  · obtain ⟨lo', h', h1, h2, h3, h4, h5⟩ := way hd hx0 hz0 hxz
    have inall : InAll (verts D) p → (∀ r1 r2 b a, chn D = r1 ++ b :: a :: r2 → 0 ≤ lf a b p) ∧ (∀ r1 r2 b a, chn D.reverse = r1 ++ b :: a :: r2 → 0 ≤ lf a b p) := by
      intro hi
      constructor
      · intro r1 r2 b a e
        have : (verts D ++ [gt (verts D) 0]).reverse = (h' ++ r1) ++ b :: a :: r2 := by rw [h4, ← h1, e]; simp
        obtain ⟨i, hi1, hi2, hi3⟩ := pair_ix this
        have := hi i hi1
        rwa [hi2, hi3] at this
      · intro r1 r2 b a e
        have : (verts D ++ [gt (verts D) 0]).reverse = r1 ++ b :: a :: (r2 ++ lo') := by
          have e2 : h' ++ x0 :: lo' = (h' ++ [x0]) ++ lo' := by simp
          rw [h4, e2, ← h2, e]; simp
        obtain ⟨i, hi1, hi2, hi3⟩ := pair_ix this
        have := hi i hi1
        rwa [hi2, hi3] at this
    unfold In at h
    split at h
    · rename_i hle
      have l1 : 2 ≤ (chn D).length := by
        cases hl : lo' with
        | nil =>
          exfalso
          have := (chn_last D).trans hz0
          rw [h1, hl] at this; simp at this; subst this; exact lt_ir hxz
        | cons => rw [h1, hl]; simp
      have l2 : 2 ≤ (chn D.reverse).length := by
        cases hl : h' with
        | nil =>
          exfalso
          have := ((chn_head D.reverse).trans (List.head?_reverse)).trans hz0
          rw [h2, hl] at this; simp at this; subst this; exact lt_ir hxz
        | cons => rw [h2, hl]; simp
      have l3 : (chn D).length = 2 := by omega
      have l4 : (chn D.reverse).length = 2 := by omega
      have hv2 : (verts D).length = 2 := by omega
      have c1 : chn D = [x0, z0] := by
        have := (chn_last D).trans hz0
        rw [h1] at this l3 ⊢
        obtain ⟨b, rfl⟩ := List.length_eq_one_iff.1 (show lo'.length = 1 by simp at l3; exact l3)
        simp at this; rw [this]
      have c2 : chn D.reverse = [z0, x0] := by
        have := ((chn_head D.reverse).trans (List.head?_reverse)).trans hz0
        rw [h2] at this l4 ⊢
        obtain ⟨b, rfl⟩ := List.length_eq_one_iff.1 (show h'.length = 1 by simp at l4; exact l4)
        simp at this; rw [this]; rfl
      have g : (verts D ++ [gt (verts D) 0]).reverse = [z0, x0, z0] := by
        rw [h4]
        have e2 : h' ++ x0 :: lo' = (h' ++ [x0]) ++ lo' := by simp
        have e3 : lo' = [z0] := by rw [h1] at c1; simpa using c1
        rw [e2, ← h2, c2, e3]; rfl
      have g' : verts D ++ [gt (verts D) 0] = [z0, x0, z0] := by rw [← List.reverse_reverse (verts D ++ _), g]; rfl
      have g0 : gt (verts D) 0 = z0 ∧ gt (verts D) 1 = x0 := by
        match hvv : verts D, hv2 with
        | [a, b], _ => rw [hvv] at g'; simp [gt] at g' ⊢; exact ⟨g'.1, g'.2.1⟩
      rw [hv2, g0.1, g0.2] at h
      obtain ⟨s1, s2⟩ := seg hxz h.1 h.2
      refine area_le hd he hm hx0 hz0 s1 s2 ?_ ?_
      · intro r1 r2 b a e
        rw [c1] at e
        match r1, e with
        | [], e => simp at e; obtain ⟨rfl, rfl, _⟩ := e; rw [h.1]; exact Int.le_refl _
        | [_], e => simp at e
        | _ :: _ :: _, e => simp at e
      · intro r1 r2 b a e
        rw [c2] at e
        match r1, e with
        | [], e => 
          simp at e; obtain ⟨rfl, rfl, _⟩ := e
          have : lf x0 z0 p = - lf z0 x0 p := by unfold lf cr sb; grind
          rw [this, h.1]; exact Int.le_refl _
        | [_], e => simp at e
        | _ :: _ :: _, e => simp at e
    · rename_i hgt
      obtain ⟨Hl, Hu⟩ := inall h
      obtain ⟨s1, s2⟩ := inside2 hd hx0 hz0 hxz Hl Hu (fun k => by omega)
      exact area_le hd he hm hx0 hz0 s1 s2 Hl Hu
  · subst hxz
    have hDs : D = [z0] := by
      match D, hd, hx0, hz0 with
      | [a], _, hx0, _ => simp at hx0; rw [hx0]
      | a :: b :: r, hD, hx0, hz0 =>
        exfalso
        simp only [List.head?_cons, Option.some.injEq] at hx0; subst hx0
        rw [List.getLast?_cons_cons] at hz0
        exact lt_ir ((List.pairwise_cons.1 hD).1 _ (List.mem_of_getLast? hz0))
    have hv : verts D = [z0] := by rw [hDs]; rfl
    rw [hv] at h
    have := dt_zero (show dt (sb z0 p) (sb z0 p) ≤ 0 from h.2)
    have hED : E = D := dsc_ext he hd fun u => by rw [hm]; constructor
                                                  · intro i; rcases i with i | i; exact i; subst i; rw [this, hDs]; simp
                                                  · exact .inl
    rw [hED]; exact Int.le_refl _
end Go.Proofs.Ytfkcihcbmlcajaa.Hu
