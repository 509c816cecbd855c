/- The area that a way round encloses: with one more point it is not less. No program is in sight, and no statement of the seat is proved here. -/
import Derived.Test.YtfkcihcbmlcajaaGb
namespace Go.Proofs.Ytfkcihcbmlcajaa.Hu
set_option linter.unusedVariables false
set_option linter.unusedSimpArgs false
def ng (p : P) : P := ⟨-p.x, -p.y⟩
theorem ng_ng (p : P) : ng (ng p) = p := by cases p; simp [ng]
theorem ng_inj {a b : P} (h : ng a = ng b) : a = b := by rw [← ng_ng a, h, ng_ng]
theorem ng_lt {a b : P} : lt (ng a) (ng b) ↔ lt b a := by unfold lt ng; dsimp only; omega
theorem ng_cr (a b : P) : cr (ng a) (ng b) = cr a b := by unfold cr ng; grind
theorem ng_lf (a b c : P) : lf (ng a) (ng b) (ng c) = lf a b c := by unfold lf cr sb ng; grind
theorem ng_V (l : List P) : V (l.map ng) = V l := by
  induction l with
  | nil => rfl
  | cons b l ih =>
    cases l with
    | nil => rfl
    | cons a r =>
      have e1 : V ((b :: a :: r).map ng) = V ((a :: r).map ng) + cr (ng a) (ng b) := rfl
      rw [e1, ih, ng_cr]; rfl
theorem ng_pop (x : P) (l : List P) : pop (ng x) (l.map ng) = (pop x l).map ng := by
  match l with
  | [] => rfl
  | [_] => rfl
  | b :: a :: r =>
    have ih := ng_pop x (a :: r)
    simp only [List.map_cons] at ih ⊢
    unfold pop
    rw [ng_lf]
    split
    · exact ih
    · rfl
theorem ng_chn (D : List P) : chn (D.map ng) = (chn D).map ng := by
  induction D with
  | nil => rfl
  | cons x D ih => simp only [List.map_cons, chn, ih, ng_pop]
theorem ng_dsc {D : List P} (h : Dsc D) : Dsc (D.reverse.map ng) := by
  refine List.pairwise_map.2 (List.pairwise_reverse.2 (h.imp fun hab => ?_))
  exact ng_lt.2 hab
theorem map_mem {D : List P} {u : P} : ng u ∈ D.map ng ↔ u ∈ D := by
  rw [List.mem_map]
  exact ⟨fun ⟨v, hv, e⟩ => ng_inj e ▸ hv, fun h => ⟨u, h, rfl⟩⟩
/-- what the way round encloses, twice -/
noncomputable def area (D : List P) : Int := V (chn D) + V (chn D.reverse)
theorem up_best {D : List P} (hD : Dsc D) {q : List P} (hqd : Dsc q.reverse) (hs : ∀ u ∈ q, u ∈ D) (hh : q.head? = D.reverse.head?) (hl : q.getLast? = D.reverse.getLast?) : V q ≤ V (chn D.reverse) := by
  have h := chn_best' (ng_dsc hD) (q := q.map ng) (by have := ng_dsc hqd; rwa [List.reverse_reverse] at this)
    (fun u hu => by
      obtain ⟨v, hv, rfl⟩ := List.mem_map.1 hu
      exact map_mem.2 (List.mem_reverse.2 (hs v hv)))
    (by rw [List.head?_map, List.head?_map, hh]) (by rw [List.getLast?_map, List.getLast?_map, hl])
  rwa [ng_chn, ng_V, ng_V] at h
theorem chn_asc {D : List P} (h : Dsc D) : Dsc (chn D.reverse).reverse := by
  have : (chn D.reverse).reverse.Sublist D := by
    have := (chn_sub D.reverse).reverse
    rwa [List.reverse_reverse] at this
  exact h.sublist this
theorem rev_cons_snoc (D : List P) (p : P) : (D ++ [p]).reverse = p :: D.reverse := by simp
/-- with one more point the area is not less -/
theorem area_mono {D E : List P} (hD : Dsc D) (hE : Dsc E) (hn : D ≠ []) (p : P) (hm : ∀ u, u ∈ E ↔ u ∈ D ∨ u = p) : area D ≤ area E := by
  have dsub : ∀ u ∈ D, u ∈ E := fun u hu => (hm u).2 (.inl hu)
  have hcd := chn_dsc hD
  have hca := chn_asc hD
  obtain ⟨x0, hx0⟩ : ∃ x, D.head? = some x := by cases D with | nil => exact absurd rfl hn | cons x _ => exact ⟨x, rfl⟩
  obtain ⟨z0, hz0⟩ : ∃ x, D.getLast? = some x := ⟨D.getLast hn, List.getLast?_eq_some_getLast hn⟩
  have s1 : ∀ u ∈ chn D, u ∈ D := fun u hu => (chn_sub D).subset hu
  have s2 : ∀ u ∈ chn D.reverse, u ∈ D := fun u hu => List.mem_reverse.1 ((chn_sub D.reverse).subset hu)
  have hh1 := chn_head D
  have hl1 := chn_last D
  have hh2 := chn_head D.reverse
  have hl2 := chn_last D.reverse
  rw [List.head?_reverse] at hh2
  rw [List.getLast?_reverse] at hl2
  unfold area
  by_cases hp : p ∈ D
  · have e : E = D := dsc_ext hE hD fun u => ⟨fun hu => by rcases (hm u).1 hu with k | k; exact k; exact k ▸ hp, dsub u⟩
    subst e; exact Int.le_refl _
  rcases lt_tri x0 p with h | h | h
  · -- a new end on the right
    have e : E = p :: D := dsc_ext hE (List.pairwise_cons.2 ⟨fun u hu => by
      rcases head_max hD hx0 hu with k | k
      · exact lt_tr k h
      · subst k; exact h, hD⟩) fun u => by rw [hm, List.mem_cons]; exact ⟨fun h => h.symm, fun h => h.symm⟩
    subst e
    have m1 := chn_best' hE (q := p :: chn D) (List.pairwise_cons.2 ⟨fun u hu => (List.pairwise_cons.1 hE).1 u (s1 u hu), hcd⟩)
      (fun u hu => by
        rcases List.mem_cons.1 hu with k | k
        · simp [k]
        · exact List.mem_cons_of_mem _ (s1 u k)) rfl (by rw [List.getLast?_cons, List.getLast?_cons, hl1])
    have m2 := up_best hE (q := chn D.reverse ++ [p]) (by
        rw [rev_cons_snoc]
        exact List.pairwise_cons.2 ⟨fun u hu => (List.pairwise_cons.1 hE).1 u (s2 u (List.mem_reverse.1 hu)), hca⟩)
      (fun u hu => by
        rcases List.mem_append.1 hu with k | k
        · exact List.mem_cons_of_mem _ (s2 u k)
        · simp at k; simp [k])
      (by rw [List.head?_append, hh2, List.head?_reverse, List.getLast?_cons, hz0]; try rfl)
      (by rw [List.getLast?_append, List.getLast?_reverse]; rfl)
    obtain ⟨r, hr⟩ := List.head?_eq_some_iff.1 (hh1.trans hx0)
    obtain ⟨r', hr'⟩ := List.getLast?_eq_some_iff.1 (hl2.trans hx0)
    have e1 : V (p :: chn D) = V (chn D) + cr x0 p := by rw [hr]; rfl
    have e2 : V (chn D.reverse ++ [p]) = V (chn D.reverse) + cr p x0 := by
      rw [hr', List.append_assoc]
      have := V_app r' x0 [p]
      have e3 : V (x0 :: [p]) = 0 + cr p x0 := rfl
      simp only [List.singleton_append] at this ⊢
      omega
    have := cr_sw x0 p
    omega
  · exact absurd (h ▸ List.mem_of_mem_head? hx0) hp
  rcases lt_tri p z0 with k | k | k
  · -- a new end on the left
    have e : E = D ++ [p] := dsc_ext hE (List.pairwise_append.2 ⟨hD, List.pairwise_singleton _ _, fun u hu v hv => by
      simp at hv; subst hv
      rcases last_min hD hz0 hu with j | j
      · exact lt_tr k j
      · subst j; exact k⟩) fun u => by rw [hm, List.mem_append, List.mem_singleton]
    subst e
    have hpu := fun u hu => (List.pairwise_append.1 hE).2.2 u hu p (by simp)
    have m1 := chn_best' hE (q := chn D ++ [p]) (List.pairwise_append.2 ⟨hcd, List.pairwise_singleton _ _, fun u hu v hv => by
        simp at hv; subst hv; exact hpu u (s1 u hu)⟩)
      (fun u hu => by
        rcases List.mem_append.1 hu with j | j
        · exact List.mem_append_left _ (s1 u j)
        · exact List.mem_append_right _ j)
      (by rw [List.head?_append, List.head?_append, hh1, hx0]) (by rw [List.getLast?_append, List.getLast?_append]; rfl)
    have m2 := up_best hE (q := p :: chn D.reverse) (by
        rw [List.reverse_cons]
        exact List.pairwise_append.2 ⟨hca, List.pairwise_singleton _ _, fun u hu v hv => by
          simp at hv; subst hv; exact hpu u (s2 u (List.mem_reverse.1 hu))⟩)
      (fun u hu => by
        rcases List.mem_cons.1 hu with j | j
        · simp [j]
        · exact List.mem_append_left _ (s2 u j))
      (by simp) (by rw [List.getLast?_cons, hl2, hx0, List.getLast?_reverse, List.head?_append, hx0]; rfl)
    obtain ⟨r, hr⟩ := List.getLast?_eq_some_iff.1 (hl1.trans hz0)
    obtain ⟨r', hr'⟩ := List.head?_eq_some_iff.1 (hh2.trans hz0)
    have e1 : V (p :: chn D.reverse) = V (chn D.reverse) + cr z0 p := by rw [hr']; rfl
    have e2 : V (chn D ++ [p]) = V (chn D) + cr p z0 := by
      rw [hr, List.append_assoc]
      have := V_app r z0 [p]
      have e3 : V (z0 :: [p]) = 0 + cr p z0 := rfl
      simp only [List.singleton_append] at this ⊢
      omega
    have := cr_sw z0 p
    omega
  · exact absurd (k ▸ List.mem_of_getLast? hz0) hp
  · -- between the ends
    have hxE : E.head? = some x0 := by
      obtain ⟨y, hy⟩ : ∃ y, E.head? = some y := by
        cases E with | nil => exact absurd (dsub x0 (List.mem_of_mem_head? hx0)) (by simp) | cons y _ => exact ⟨y, rfl⟩
      rcases head_max hE hy (dsub x0 (List.mem_of_mem_head? hx0)) with j | j
      · rcases (hm y).1 (List.mem_of_mem_head? hy) with i | i
        · rcases head_max hD hx0 i with g | g
          · exact (lt_ir (lt_tr j g)).elim
          · rw [hy, g]
        · subst i; exact (lt_ir (lt_tr j h)).elim
      · rw [hy, j]
    have hzE : E.getLast? = some z0 := by
      have hne : E ≠ [] := fun k => by subst k; exact absurd hxE (by simp)
      have hy : E.getLast? = some (E.getLast hne) := List.getLast?_eq_some_getLast hne
      generalize E.getLast hne = y at hy
      rcases last_min hE hy (dsub z0 (List.mem_of_getLast? hz0)) with j | j
      · rcases (hm y).1 (List.mem_of_getLast? hy) with i | i
        · rcases last_min hD hz0 i with g | g
          · exact (lt_ir (lt_tr j g)).elim
          · rw [hy, g]
        · subst i; exact (lt_ir (lt_tr j k)).elim
      · rw [hy, j]
    have m1 := chn_best' hE hcd (fun u hu => dsub u (s1 u hu)) (by rw [hh1, hx0, hxE]) (by rw [hl1, hz0, hzE])
    have m2 := up_best hE hca (fun u hu => dsub u (s2 u hu)) (by rw [hh2, hz0, List.head?_reverse, hzE]) (by rw [hl2, hx0, List.getLast?_reverse, hxE])
    omega
end Go.Proofs.Ytfkcihcbmlcajaa.Hu
