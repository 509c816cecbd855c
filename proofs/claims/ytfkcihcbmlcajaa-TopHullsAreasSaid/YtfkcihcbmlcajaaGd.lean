/- A point within or on the way round adds nothing to the area, and is not beyond its ends. No program is in sight, and no statement of the seat is proved here. -/
import Derived.Test.YtfkcihcbmlcajaaGc
namespace Go.Proofs.Ytfkcihcbmlcajaa.Hu
set_option linter.unusedVariables false
set_option linter.unusedSimpArgs false
theorem ends {D E : List P} (hD : Dsc D) (hE : Dsc E) {p x0 z0 : P} (hm : ∀ u, u ∈ E ↔ u ∈ D ∨ u = p) (hx0 : D.head? = some x0) (hz0 : D.getLast? = some z0) (h : lt p x0) (k : lt z0 p) : E.head? = some x0 ∧ E.getLast? = some z0 := by
  have dsub : ∀ u ∈ D, u ∈ E := fun u hu => (hm u).2 (.inl hu)
  constructor
  · obtain ⟨y, hy⟩ : ∃ y, E.head? = some y := by
      cases E with | nil => exact absurd (dsub x0 (List.mem_of_mem_head? hx0)) (by simp) | cons y _ => exact ⟨y, rfl⟩
    rcases head_max hE hy (dsub x0 (List.mem_of_mem_head? hx0)) with j | j
    · rcases (hm y).1 (List.mem_of_mem_head? hy) with i | i
      · rcases head_max hD hx0 i with g | g
        · exact (lt_ir (lt_tr j g)).elim
        · rw [hy, g]
      · subst i; exact (lt_ir (lt_tr j h)).elim
    · rw [hy, j]
  · have hne : E ≠ [] := fun k => by subst k; exact absurd (dsub x0 (List.mem_of_mem_head? hx0)) (by simp)
    have hy : E.getLast? = some (E.getLast hne) := List.getLast?_eq_some_getLast hne
    generalize E.getLast hne = y at hy
    rcases last_min hE hy (dsub z0 (List.mem_of_getLast? hz0)) with j | j
    · rcases (hm y).1 (List.mem_of_getLast? hy) with i | i
      · rcases last_min hD hz0 i with g | g
        · exact (lt_ir (lt_tr j g)).elim
        · rw [hy, g]
      · subst i; exact (lt_ir (lt_tr j k)).elim
    · rw [hy, j]
theorem between {p z0 : P} (l : List P) (x0 : P) (hd : Dsc (x0 :: l)) (hp : p ∉ x0 :: l) (hx : lt p x0) (hl : (x0 :: l).getLast? = some z0) (hz : lt z0 p) : ∃ r1 r2 b a, x0 :: l = r1 ++ b :: a :: r2 ∧ lt a p ∧ lt p b := by
  induction l generalizing x0 with
  | nil => simp at hl; subst hl; exact (lt_ir (lt_tr hx hz)).elim
  | cons y l ih =>
    rcases lt_tri y p with k | k | k
    · exact ⟨[], l, x0, y, rfl, k, hx⟩
    · subst k; exact absurd (List.mem_cons_of_mem _ (List.mem_cons_self ..)) hp
    · rw [List.getLast?_cons_cons] at hl
      obtain ⟨r1, r2, b, a, e, h1, h2⟩ := ih y (List.pairwise_cons.1 hd).2 (fun h => hp (List.mem_cons_of_mem _ h)) k hl
      exact ⟨x0 :: r1, r2, b, a, by rw [e]; rfl, h1, h2⟩
theorem low_le {D E : List P} (hD : Dsc D) (hE : Dsc E) {p x0 z0 : P} (hm : ∀ u, u ∈ E ↔ u ∈ D ∨ u = p) (hp : p ∉ D) (hx0 : D.head? = some x0) (hz0 : D.getLast? = some z0) (h : lt p x0) (k : lt z0 p) (Hl : ∀ r1 r2 b a, chn D = r1 ++ b :: a :: r2 → 0 ≤ lf a b p) : V (chn E) ≤ V (chn D) := by
  obtain ⟨hxE, hzE⟩ := ends hD hE hm hx0 hz0 h k
  have s1 : ∀ u ∈ chn D, u ∈ D := fun u hu => (chn_sub D).subset hu
  have hh := chn_head D
  have hl := chn_last D
  have hcd := chn_dsc hD
  cases hc : chn D with
  | nil => rw [hc, hx0] at hh; simp at hh
  | cons y l =>
    rw [hc] at hh hl hcd
    rw [hx0] at hh
    simp only [List.head?_cons, Option.some.injEq] at hh
    subst hh
    obtain ⟨r1, r2, b, a, e, h1, h2⟩ := between l y hcd (fun hq => hp (s1 p (by rw [hc]; exact hq))) h (hl.trans hz0) k
    have hle := Hl r1 r2 b a (hc.trans e)
    have ha : a ∈ D := s1 a (by rw [hc, e]; simp)
    have hb : b ∈ D := s1 b (by rw [hc, e]; simp)
    have hni := notin hE ((hm a).2 (.inl ha)) ((hm b).2 (.inl hb)) h1 h2 hle
    have := chn_best' hD (q := chn E) (chn_dsc hE) (fun u hu => by
      rcases (hm u).1 ((chn_sub E).subset hu) with i | i
      · exact i
      · subst i; exact absurd hu hni) (by rw [chn_head, hxE, hx0]) (by rw [chn_last, hzE, hz0])
    rwa [hc] at this
theorem map_ng {l r1 r2 : List P} {b a : P} (h : l.map ng = r1 ++ b :: a :: r2) : l = r1.map ng ++ ng b :: ng a :: r2.map ng := by
  have h2 : (l.map ng).map ng = l := by rw [List.map_map]; exact (List.map_congr_left fun u _ => ng_ng u).trans (List.map_id l)
  rw [← h2, h]; simp
theorem ng_Hu {D : List P} {p : P} (Hu : ∀ r1 r2 b a, chn D = r1 ++ b :: a :: r2 → 0 ≤ lf a b p) : ∀ r1 r2 b a, chn (D.map ng) = r1 ++ b :: a :: r2 → 0 ≤ lf a b (ng p) := by
  intro r1 r2 b a h
  rw [ng_chn] at h
  have := Hu _ _ _ _ (map_ng h)
  rw [← ng_lf, ng_ng, ng_ng] at this
  exact this
/-- a point within, or on the way round, adds nothing -/
theorem area_le {D E : List P} (hD : Dsc D) (hE : Dsc E) {p x0 z0 : P} (hm : ∀ u, u ∈ E ↔ u ∈ D ∨ u = p) (hx0 : D.head? = some x0) (hz0 : D.getLast? = some z0) (h : lt p x0 ∨ p = x0) (k : lt z0 p ∨ p = z0) (Hl : ∀ r1 r2 b a, chn D = r1 ++ b :: a :: r2 → 0 ≤ lf a b p) (Hu : ∀ r1 r2 b a, chn D.reverse = r1 ++ b :: a :: r2 → 0 ≤ lf a b p) : area E ≤ area D := by
  by_cases hp : p ∈ D
  · have e : E = D := dsc_ext hE hD fun u => ⟨fun hu => by rcases (hm u).1 hu with k | k; exact k; exact k ▸ hp, fun hu => (hm u).2 (.inl hu)⟩
    subst e; exact Int.le_refl _
  have h' : lt p x0 := by rcases h with h | h; exact h; subst h; exact absurd (List.mem_of_mem_head? hx0) hp
  have k' : lt z0 p := by rcases k with h | h; exact h; subst h; exact absurd (List.mem_of_getLast? hz0) hp
  have m1 := low_le hD hE hm hp hx0 hz0 h' k' Hl
  have m2 := low_le (ng_dsc hD) (ng_dsc hE) (p := ng p) (x0 := ng z0) (z0 := ng x0) (fun u => by
      rw [← ng_ng u, map_mem, map_mem, List.mem_reverse, List.mem_reverse, hm]
      exact ⟨fun i => i.elim .inl fun j => .inr (by rw [j]), fun i => i.elim .inl fun j => .inr (ng_inj j)⟩)
    (fun i => hp (List.mem_reverse.1 (map_mem.1 i))) (by rw [List.head?_map, List.head?_reverse, hz0]; rfl) (by rw [List.getLast?_map, List.getLast?_reverse, hx0]; rfl)
    (ng_lt.2 k') (ng_lt.2 h') (ng_Hu Hu)
  rw [ng_chn, ng_chn, ng_V, ng_V] at m2
  unfold area
  omega
theorem flat_len {l : List P} (h : Cv l) (hf : ∀ a ∈ l, ∀ b ∈ l, ∀ c ∈ l, lf a b c = 0) : l.length ≤ 2 := by
  match l, h with
  | [], _ => simp
  | [_], _ => simp
  | [_, _], _ => simp
  | c :: b :: a :: r, h =>
    have := hf a (by simp) b (by simp) c (by simp)
    have := h.1
    omega
/-- a point that is to the left of all sides is not before the first one -/
theorem inside {D : List P} (hD : Dsc D) {p x0 z0 : P} (hx0 : D.head? = some x0) (hz0 : D.getLast? = some z0) (hxz : lt z0 x0) (Hl : ∀ r1 r2 b a, chn D = r1 ++ b :: a :: r2 → 0 ≤ lf a b p) (Hu : ∀ r1 r2 b a, chn D.reverse = r1 ++ b :: a :: r2 → 0 ≤ lf a b p) (hp : lt p z0) : (chn D).length ≤ 2 ∧ (chn D.reverse).length ≤ 2 := by
  have s1 : ∀ u ∈ chn D, u ∈ D := fun u hu => (chn_sub D).subset hu
  have s2 : ∀ u ∈ chn D.reverse, u ∈ D := fun u hu => List.mem_reverse.1 ((chn_sub D.reverse).subset hu)
  obtain ⟨r, hr⟩ := List.getLast?_eq_some_iff.1 ((chn_last D).trans hz0)
  obtain ⟨r', hr'⟩ := List.head?_eq_some_iff.1 (((chn_head D.reverse).trans (List.head?_reverse)).trans hz0)
  rcases List.eq_nil_or_concat r with e | ⟨r1, v1, e⟩
  · exfalso
    subst e
    have := (chn_head D).trans hx0
    rw [hr] at this
    simp at this; subst this; exact lt_ir hxz
  rw [List.concat_eq_append] at e
  subst e
  cases r' with
  | nil =>
    exfalso
    have := ((chn_last D.reverse).trans (List.getLast?_reverse)).trans hx0
    rw [hr'] at this
    simp at this; subst this; exact lt_ir hxz
  | cons u r2 =>
    have hc : chn D = r1 ++ v1 :: z0 :: [] := by rw [hr]; simp
    have hd := chn_dsc hD
    rw [hc] at hd
    have hv := (List.pairwise_cons.1 (List.pairwise_append.1 hd).2.1).1 z0 (by simp)
    have hu : lt z0 u := by
      rcases last_min hD hz0 (s2 u (by rw [hr']; simp)) with i | i
      · exact i
      · exfalso
        have := chn_asc hD
        rw [hr', i] at this
        simp only [List.reverse_cons, List.append_assoc] at this
        have := (List.pairwise_append.1 this).2.1
        simp at this
        exact lt_ir this
    have g1 := Hl _ _ _ _ hc
    have g2 := Hu [] r2 z0 u hr'
    have e1 : lf z0 v1 p = cr (sb z0 p) (sb v1 z0) := by unfold lf cr sb; grind
    have e2 : lf u z0 p = cr (sb u z0) (sb z0 p) := by unfold lf cr sb; grind
    have pa := lt_po hv
    have pb := lt_po hu
    have g3 := ang0 pb (lt_po hp) pa (by omega) (show 0 ≤ cr (sb z0 p) (sb v1 z0) by omega)
    have flat : ∀ q ∈ D, cr (sb v1 z0) (sb q z0) = 0 ∧ (q = z0 ∨ po (sb q z0)) := by
      intro q hq
      rcases last_min hD hz0 hq with i | i
      · have pq := lt_po i
        have f1 := lefts hD hq hc
        have f2 : 0 ≤ lf u z0 q := by
          have := lefts (ng_dsc hD) (map_mem.2 (List.mem_reverse.2 hq)) (r1 := []) (r2 := r2.map ng) (b := ng z0) (a := ng u) (by rw [ng_chn, hr']; rfl)
          rwa [ng_lf] at this
        have e3 : lf z0 v1 q = cr (sb v1 z0) (sb q z0) := rfl
        have e4 : lf u z0 q = cr (sb q z0) (sb u z0) := by unfold lf cr sb; grind
        have f3 := ang0 pq pb pa (by omega) g3
        have := cr_sw (sb q z0) (sb v1 z0)
        exact ⟨by omega, .inr pq⟩
      · subst i; exact ⟨by unfold cr sb; grind, .inl rfl⟩
    have pair : ∀ q1 ∈ D, ∀ q2 ∈ D, cr (sb q1 z0) (sb q2 z0) = 0 := by
      intro q1 h1 q2 h2
      obtain ⟨f1, i1⟩ := flat q1 h1
      obtain ⟨f2, i2⟩ := flat q2 h2
      rcases i1 with i1 | i1
      · subst i1; unfold cr sb; grind
      rcases i2 with i2 | i2
      · subst i2; unfold cr sb; grind
      have w1 := cr_sw (sb q1 z0) (sb v1 z0)
      have w2 := cr_sw (sb q2 z0) (sb v1 z0)
      have a1 := ang0 i1 pa i2 (by omega) (by omega)
      have a2 := ang0 i2 pa i1 (by omega) (by omega)
      have := cr_sw (sb q1 z0) (sb q2 z0)
      omega
    have all : ∀ q1 ∈ D, ∀ q2 ∈ D, ∀ q3 ∈ D, lf q1 q2 q3 = 0 := by
      intro q1 h1 q2 h2 q3 h3
      have := pair q1 h1 q2 h2
      have := pair q2 h2 q3 h3
      have := pair q1 h1 q3 h3
      have : lf q1 q2 q3 = cr (sb q1 z0) (sb q2 z0) + cr (sb q2 z0) (sb q3 z0) - cr (sb q1 z0) (sb q3 z0) := by unfold lf cr sb; grind
      omega
    refine ⟨flat_len (chn_cv D) fun a ha b hb c hc => all a (s1 a ha) b (s1 b hb) c (s1 c hc), ?_⟩
    have := flat_len (chn_cv (D.reverse.map ng)) fun a ha b hb c hc => by
      rw [ng_chn] at ha hb hc
      obtain ⟨a', ha', rfl⟩ := List.mem_map.1 ha
      obtain ⟨b', hb', rfl⟩ := List.mem_map.1 hb
      obtain ⟨c', hc', rfl⟩ := List.mem_map.1 hc
      rw [ng_lf]
      exact all a' (s2 a' ha') b' (s2 b' hb') c' (s2 c' hc')
    rwa [ng_chn, List.length_map] at this
/-- a point that is to the left of all sides of a true polygon is between the ends -/
theorem inside2 {D : List P} (hD : Dsc D) {p x0 z0 : P} (hx0 : D.head? = some x0) (hz0 : D.getLast? = some z0) (hxz : lt z0 x0) (Hl : ∀ r1 r2 b a, chn D = r1 ++ b :: a :: r2 → 0 ≤ lf a b p) (Hu : ∀ r1 r2 b a, chn D.reverse = r1 ++ b :: a :: r2 → 0 ≤ lf a b p) (hn : ¬((chn D).length ≤ 2 ∧ (chn D.reverse).length ≤ 2)) : (lt p x0 ∨ p = x0) ∧ (lt z0 p ∨ p = z0) := by
  constructor
  · rcases lt_tri p x0 with h | h | h
    · exact .inl h
    · exact .inr h
    · exfalso
      have e : (D.reverse.map ng).reverse = D.map ng := by rw [List.map_reverse, List.reverse_reverse]
      have := inside (ng_dsc hD) (p := ng p) (x0 := ng z0) (z0 := ng x0) (by rw [List.head?_map, List.head?_reverse, hz0]; rfl) (by rw [List.getLast?_map, List.getLast?_reverse, hx0]; rfl) (ng_lt.2 hxz)
        (ng_Hu Hu) (by rw [e]; exact ng_Hu Hl) (ng_lt.2 h)
      rw [e, ng_chn, ng_chn, List.length_map, List.length_map] at this
      exact hn ⟨this.2, this.1⟩
  · rcases lt_tri p z0 with h | h | h
    · exact absurd (inside hD hx0 hz0 hxz Hl Hu h) hn
    · exact .inr h
    · exact .inl h
def dt (a b : P) : Int := a.x * b.x + a.y * b.y
theorem seg1 {a b p : P} (hab : lt a b) (h : lf a b p = 0) (hd : dt (sb a p) (sb b p) ≤ 0) (hp : lt p a) : False := by
  have pa := lt_po hp
  have pb := lt_po (lt_tr hp hab)
  have e : lf a b p = cr (sb a p) (sb b p) := by unfold lf cr sb; grind
  have e' : cr (sb a p) (sb b p) = 0 := by omega
  generalize sb a p = α at *
  generalize sb b p = β at *
  unfold dt at hd
  unfold cr at e'
  rcases pa with pa | ⟨pa, pa'⟩
  · rcases pb with pb | ⟨pb, pb'⟩
    · have m1 := Int.mul_pos pa pb
      have m2 : α.y * β.y < 0 := by omega
      -- α.x β.y = α.y β.x, times β.y
      have m3 : (α.x * β.y) * β.y = (α.y * β.x) * β.y := by rw [show α.x * β.y = α.y * β.x by omega]
      have m4 : (α.y * β.x) * β.y = (α.y * β.y) * β.x := by grind
      have m5 : (α.y * β.y) * β.x < 0 := Int.mul_neg_of_neg_of_pos m2 pb
      have m6 : (α.x * β.y) * β.y = α.x * (β.y * β.y) := by grind
      have m7 : 0 ≤ β.y * β.y := by rcases Int.le_total 0 β.y with i | i; exact Int.mul_nonneg i i; exact Int.mul_nonneg_of_nonpos_of_nonpos i i
      have m8 := Int.mul_nonneg (Int.le_of_lt pa) m7
      omega
    · have := Int.mul_pos pa pb'
      rw [pb] at e'; omega
  · rcases pb with pb | ⟨pb, pb'⟩
    · have := Int.mul_pos pa' pb
      rw [pa] at e'; omega
    · have := Int.mul_pos pa' pb'
      rw [pa] at hd; omega
theorem seg {a b p : P} (hab : lt a b) (h : lf a b p = 0) (hd : dt (sb a p) (sb b p) ≤ 0) : (lt p b ∨ p = b) ∧ (lt a p ∨ p = a) := by
  constructor
  · rcases lt_tri p b with i | i | i
    · exact .inl i
    · exact .inr i
    · exfalso
      refine seg1 (a := ng b) (b := ng a) (p := ng p) (ng_lt.2 hab) ?_ ?_ (ng_lt.2 i)
      · rw [ng_lf]; unfold lf cr sb at *; grind
      · unfold dt sb ng at *; grind
  · rcases lt_tri p a with i | i | i
    · exact (seg1 hab h hd i).elim
    · exact .inr i
    · exact .inl i
theorem dt_zero {a p : P} (h : dt (sb a p) (sb a p) ≤ 0) : p = a := by
  unfold dt sb at h
  dsimp only at h
  have n : ∀ i : Int, 0 ≤ i * i := fun i => by rcases Int.le_total 0 i with k | k; exact Int.mul_nonneg k k; exact Int.mul_nonneg_of_nonpos_of_nonpos k k
  have h1 := n (a.x - p.x)
  have h2 := n (a.y - p.y)
  have e1 : (a.x - p.x) * (a.x - p.x) = 0 := by omega
  have e2 : (a.y - p.y) * (a.y - p.y) = 0 := by omega
  cases a; cases p
  simp only [P.mk.injEq] at *
  rcases Int.mul_eq_zero.1 e1 with i | i <;> rcases Int.mul_eq_zero.1 e2 with j | j <;> omega
end Go.Proofs.Ytfkcihcbmlcajaa.Hu
