/- All points are to the left of a chain's sides; a point above a stretch is no vertex. No program is in sight, and no statement of the seat is proved here. -/
import Derived.Test.YtfkcihcbmlcajaaGa
namespace Go.Proofs.Ytfkcihcbmlcajaa.Hu
set_option linter.unusedVariables false
set_option linter.unusedSimpArgs false
theorem V_app (r : List P) (b : P) (s : List P) : V (r ++ b :: s) = V (r ++ [b]) + V (b :: s) := by
  induction r with
  | nil => cases s <;> simp [V]
  | cons e r ih =>
    cases r with
    | nil =>
      have e1 : V ([e] ++ b :: s) = V (b :: s) + cr b e := rfl
      have e2 : V ([e] ++ [b]) = V [b] + cr b e := rfl
      have e3 : V [b] = 0 := rfl
      omega
    | cons f r =>
      have e1 : V (e :: f :: r ++ b :: s) = V (f :: r ++ b :: s) + cr f e := rfl
      have e2 : V (e :: f :: r ++ [b]) = V (f :: r ++ [b]) + cr f e := rfl
      omega
theorem chn_best' {D : List P} (hD : Dsc D) {q : List P} (hqd : Dsc q) (hs : ∀ u ∈ q, u ∈ D) (hh : q.head? = D.head?) (hl : q.getLast? = D.getLast?) : V q ≤ V (chn D) := by
  match D, q with
  | [], [] => exact Int.le_refl _
  | [], _ :: _ => exact absurd hh (by simp)
  | _ :: _, [] => exact absurd hh (by simp)
  | x0 :: D, e :: q =>
    simp only [List.head?_cons, Option.some.injEq] at hh
    subst hh
    refine chn_best e D hD q hqd (fun u hu => ?_) hl
    rcases List.mem_cons.1 (hs u (List.mem_cons_of_mem _ hu)) with k | k
    · subst k; exact (lt_ir ((List.pairwise_cons.1 hqd).1 _ hu)).elim
    · exact k
theorem chn_head (D : List P) : (chn D).head? = D.head? := by cases D <;> rfl
theorem head_max {x : P} {D : List P} (hD : Dsc D) (h : D.head? = some x) {q : P} (hq : q ∈ D) : lt q x ∨ q = x := by
  cases D with
  | nil => simp at h
  | cons y D =>
    simp only [List.head?_cons, Option.some.injEq] at h; subst h
    rcases List.mem_cons.1 hq with k | k
    · exact .inr k
    · exact .inl ((List.pairwise_cons.1 hD).1 _ k)
theorem last_min {x : P} {D : List P} (hD : Dsc D) (h : D.getLast? = some x) {q : P} (hq : q ∈ D) : lt x q ∨ q = x := by
  obtain ⟨E, rfl⟩ := List.getLast?_eq_some_iff.1 h
  rcases List.mem_append.1 hq with k | k
  · exact .inl ((List.pairwise_append.1 hD).2.2 q k x (by simp))
  · exact .inr (by simpa using k)
theorem cv_mid {r1 r2 : List P} {c b a : P} (h : Cv (r1 ++ c :: b :: a :: r2)) : 0 < lf a b c := by
  have : Cv (c :: b :: a :: r2) := cv_suf h (List.suffix_append _ _)
  exact this.1
theorem local1 {D : List P} (hD : Dsc D) {r1 r2 : List P} {b a : P} (hc : chn D = r1 ++ b :: a :: r2) {q : P} (hq : q ∈ D) (h1 : lt a q) (h2 : lt q b) : 0 ≤ lf a b q := by
  have hd := chn_dsc hD
  rw [hc] at hd
  have hp := List.pairwise_append.1 hd
  have hb := List.pairwise_cons.1 hp.2.1
  have ha := List.pairwise_cons.1 hb.2
  have hsub : ∀ u ∈ r1 ++ b :: a :: r2, u ∈ D := fun u hu => (chn_sub D).subset (by rw [hc]; exact hu)
  have hdq : Dsc (r1 ++ b :: q :: a :: r2) := by
    refine List.pairwise_append.2 ⟨hp.1, List.pairwise_cons.2 ⟨?_, List.pairwise_cons.2 ⟨?_, hb.2⟩⟩, ?_⟩
    · intro u hu
      rcases List.mem_cons.1 hu with k | k
      · subst k; exact h2
      · exact hb.1 u k
    · intro u hu
      rcases List.mem_cons.1 hu with k | k
      · subst k; exact h1
      · exact lt_tr (ha.1 u k) h1
    · intro u hu v hv
      rcases List.mem_cons.1 hv with k | k
      · subst k; exact hp.2.2 u hu _ (by simp)
      · rcases List.mem_cons.1 k with k2 | k2
        · subst k2; exact lt_tr h2 (hp.2.2 u hu b (by simp))
        · exact hp.2.2 u hu v (List.mem_cons_of_mem _ k2)
  have hm := chn_best' hD hdq (fun u hu => by
    rcases List.mem_append.1 hu with k | k
    · exact hsub u (List.mem_append_left _ k)
    · rcases List.mem_cons.1 k with k | k
      · exact hsub u (List.mem_append_right _ (by simp [k]))
      · rcases List.mem_cons.1 k with k | k
        · subst k; exact hq
        · exact hsub u (List.mem_append_right _ (List.mem_cons_of_mem _ k)))
    (by rw [← chn_head D, hc]; cases r1 <;> rfl)
    (by rw [← chn_last D, hc, List.getLast?_append, List.getLast?_append, List.getLast?_cons_cons, List.getLast?_cons_cons, List.getLast?_cons_cons])
  rw [hc, V_app, V_app r1 b (a :: r2)] at hm
  have e1 : V (b :: q :: a :: r2) = V (a :: r2) + cr a q + cr q b := rfl
  have e2 : V (b :: a :: r2) = V (a :: r2) + cr a b := rfl
  have e3 := lf_cr a q b
  have e4 : lf a q b = - lf a b q := by unfold lf cr sb; grind
  omega
theorem lf_same (a b : P) : lf a b b = 0 ∧ lf a b a = 0 := by constructor <;> (unfold lf cr sb; grind)
theorem down {D : List P} (hD : Dsc D) {q : P} (hq : q ∈ D) (r2 r1 : List P) (b a : P) (hc : chn D = r1 ++ b :: a :: r2) (h : lt q b ∨ q = b) : 0 ≤ lf a b q := by
  induction r2 generalizing r1 b a with
  | nil =>
    rcases lt_tri q a with k | k | k
    · exfalso
      have hl : D.getLast? = some a := by rw [← chn_last D, hc]; simp
      rcases last_min hD hl hq with k2 | k2
      · exact lt_ir (lt_tr k k2)
      · subst k2; exact lt_ir k
    · subst k; rw [(lf_same q b).2]; exact Int.le_refl _
    · rcases h with h | h
      · exact local1 hD hc hq k h
      · subst h; rw [(lf_same a q).1]; exact Int.le_refl _
  | cons a' r2 ih =>
    rcases lt_tri q a with k | k | k
    · have h1 := ih (r1 ++ [b]) a a' (by rw [hc]; simp) (.inl k)
      have hcv := chn_cv D
      rw [hc] at hcv
      have h2 := cv_mid hcv
      have hd := chn_dsc hD
      rw [hc] at hd
      have hb := List.pairwise_cons.1 (List.pairwise_append.1 hd).2.1
      have ha := List.pairwise_cons.1 hb.2
      have e1 : lf a' a q = cr (sb a q) (sb a a') := by unfold lf cr sb; grind
      have e2 : lf a' a b = cr (sb a a') (sb b a) := by unfold lf cr sb; grind
      have e3 : lf a b q = cr (sb a q) (sb b a) := by unfold lf cr sb; grind
      have := ang2 (lt_po k) (lt_po (ha.1 a' (by simp))) (lt_po (hb.1 a (by simp))) (by omega) (show 0 < cr (sb a a') (sb b a) by omega)
      omega
    · subst k; rw [(lf_same q b).2]; exact Int.le_refl _
    · rcases h with h | h
      · exact local1 hD hc hq k h
      · subst h; rw [(lf_same a q).1]; exact Int.le_refl _
theorem up {D : List P} (hD : Dsc D) {q : P} (hq : q ∈ D) (n : Nat) (r1 r2 : List P) (hn : r1.length = n) (b a : P) (hc : chn D = r1 ++ b :: a :: r2) (h : lt a q ∨ q = a) : 0 ≤ lf a b q := by
  induction n generalizing r1 r2 b a with
  | zero =>
    have : r1 = [] := List.eq_nil_of_length_eq_zero hn
    subst this
    have hh : D.head? = some b := by rw [← chn_head D, hc]; rfl
    exact down hD hq r2 [] b a hc (head_max hD hh hq)
  | succ n ih =>
    rcases lt_tri q b with k | k | k
    · exact down hD hq r2 r1 b a hc (.inl k)
    · exact down hD hq r2 r1 b a hc (.inr k)
    · rcases List.eq_nil_or_concat r1 with e | ⟨r1', b', e⟩
      · subst e; simp at hn
      · rw [List.concat_eq_append] at e
        subst e
        have hc' : chn D = r1' ++ b' :: b :: (a :: r2) := by rw [hc]; simp
        have h1 := ih r1' (a :: r2) (by simp at hn; exact hn) b' b hc' (.inl k)
        have hcv := chn_cv D
        rw [hc'] at hcv
        have h2 := cv_mid hcv
        have hd := chn_dsc hD
        rw [hc'] at hd
        have hb' := List.pairwise_cons.1 (List.pairwise_append.1 hd).2.1
        have hb := List.pairwise_cons.1 hb'.2
        have e1 : lf a b b' = cr (sb b a) (sb b' b) := by unfold lf cr sb; grind
        have e2 : lf b b' q = cr (sb b' b) (sb q b) := by unfold lf cr sb; grind
        have e3 : lf a b q = cr (sb b a) (sb q b) := by unfold lf cr sb; grind
        have := ang1 (lt_po (hb.1 a (by simp))) (lt_po (hb'.1 b (by simp))) (lt_po k) (by omega) (show 0 ≤ cr (sb b' b) (sb q b) by omega)
        omega
/-- all points are to the left of each side of the chain -/
theorem lefts {D : List P} (hD : Dsc D) {q : P} (hq : q ∈ D) {r1 r2 : List P} {b a : P} (hc : chn D = r1 ++ b :: a :: r2) : 0 ≤ lf a b q := by
  rcases lt_tri q a with k | k | k
  · have hd := chn_dsc hD
    rw [hc] at hd
    have hb := List.pairwise_cons.1 (List.pairwise_append.1 hd).2.1
    exact down hD hq r2 r1 b a hc (.inl (lt_tr k (hb.1 a (by simp))))
  · exact up hD hq _ r1 r2 rfl b a hc (.inr k)
  · exact up hD hq _ r1 r2 rfl b a hc (.inl k)
/-- a point above a stretch is no vertex -/
theorem notin {D : List P} (hD : Dsc D) {p a0 b0 : P} (ha : a0 ∈ D) (hb : b0 ∈ D) (h1 : lt a0 p) (h2 : lt p b0) (h : 0 ≤ lf a0 b0 p) : p ∉ chn D := by
  intro hp
  obtain ⟨r1, r2, hc⟩ := List.append_of_mem hp
  rcases List.eq_nil_or_concat r1 with e | ⟨r1', w, e⟩
  · subst e
    have hh : D.head? = some p := by rw [← chn_head D, hc]; rfl
    rcases head_max hD hh hb with k | k
    · exact lt_ir (lt_tr k h2)
    · subst k; exact lt_ir h2
  rw [List.concat_eq_append] at e
  subst e
  cases r2 with
  | nil =>
    have hl : D.getLast? = some p := by rw [← chn_last D, hc]; simp
    rcases last_min hD hl ha with k | k
    · exact lt_ir (lt_tr k h1)
    · subst k; exact lt_ir h1
  | cons u r2 =>
    have hc1 : chn D = r1' ++ w :: p :: (u :: r2) := by rw [hc]; simp
    have hc2 : chn D = (r1' ++ [w]) ++ p :: u :: r2 := hc
    have g1 := lefts hD ha hc2
    have g2 := lefts hD hb hc1
    have hcv := chn_cv D
    rw [hc1] at hcv
    have g3 := cv_mid hcv
    have hd := chn_dsc hD
    rw [hc1] at hd
    have hw := List.pairwise_cons.1 (List.pairwise_append.1 hd).2.1
    have hpu := List.pairwise_cons.1 hw.2
    have e1 : lf u p a0 = cr (sb p a0) (sb p u) := by unfold lf cr sb; grind
    have e2 : lf u p w = cr (sb p u) (sb w p) := by unfold lf cr sb; grind
    have e3 : lf p w b0 = cr (sb w p) (sb b0 p) := by unfold lf cr sb; grind
    have e4 : lf a0 b0 p = - cr (sb p a0) (sb b0 p) := by unfold lf cr sb; grind
    have pα := lt_po (hpu.1 u (by simp))
    have pβ := lt_po (hw.1 p (by simp))
    have s1 := ang2 (lt_po h1) pα pβ (by omega) (show 0 < cr (sb p u) (sb w p) by omega)
    have s2 := ang1 (lt_po h1) pβ (lt_po h2) s1 (show 0 ≤ cr (sb w p) (sb b0 p) by omega)
    omega
theorem dsc_ext {A B : List P} (hA : Dsc A) (hB : Dsc B) (h : ∀ u, u ∈ A ↔ u ∈ B) : A = B := by
  induction A generalizing B with
  | nil => cases B with
    | nil => rfl
    | cons b B => exact absurd ((h b).2 (by simp)) (by simp)
  | cons a A ih =>
    cases B with
    | nil => exact absurd ((h a).1 (by simp)) (by simp)
    | cons b B =>
      have pa := List.pairwise_cons.1 hA
      have pb := List.pairwise_cons.1 hB
      have e : a = b := by
        rcases List.mem_cons.1 ((h a).1 (by simp)) with k | k
        · exact k
        · rcases List.mem_cons.1 ((h b).2 (by simp)) with k2 | k2
          · exact k2.symm
          · exact (lt_ir (lt_tr (pb.1 a k) (pa.1 b k2))).elim
      subst e
      rw [ih pa.2 pb.2 (fun u => ⟨fun hu => by
        rcases List.mem_cons.1 ((h u).1 (List.mem_cons_of_mem _ hu)) with k | k
        · subst k; exact (lt_ir (pa.1 _ hu)).elim
        · exact k, fun hu => by
        rcases List.mem_cons.1 ((h u).2 (List.mem_cons_of_mem _ hu)) with k | k
        · subst k; exact (lt_ir (pb.1 _ hu)).elim
        · exact k⟩)]
end Go.Proofs.Ytfkcihcbmlcajaa.Hu
