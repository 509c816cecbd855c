/- Loops of dimensions: chains backwards are chains, with the opposite sum. No statement of the seat is proved here. -/
import Derived.Test.YtagapiflfnbfiaaJo
import Derived.Test.YtagapiflfnbfiaaJp
namespace Go.Proofs.Ytagapiflfnbfiaa
set_option linter.unusedVariables false
set_option linter.unusedSimpArgs false
open Go Go.RowKit
theorem in_dat {l : List Dm} {x : Lk} (h : inR l x) : x.dm.toNat < l.length := by have := h.1; have := h.2; omega
theorem stp_new {l : List Dm} {c : List Lk} {i : Nat} (h : stp l c i = 0) : ∀ j, j < i → ¬ (lat c j).dm = (lat c i).dm := by
  intro j hj e
  unfold stp at h
  split at h
  · exact absurd h (by decide)
  · split at h
    · exact absurd h (by decide)
    · split at h
      · exact absurd h (by decide)
      · rename_i h3
        exact h3 (.inl ⟨j, hj, .inl e⟩)
theorem stp_inj {l : List Dm} {c : List Lk} (h : ∀ i, i < c.length → stp l c i = 0) {i j : Nat} (hi : i < c.length) (hj : j < c.length) (e : (lat c i).dm = (lat c j).dm) : i = j := by
  rcases Nat.lt_trichotomy i j with h1 | h1 | h1
  · exact absurd e (stp_new (h j hj) i h1)
  · exact h1
  · exact absurd e.symm (stp_new (h i hi) j h1)
theorem givenE_all {l : List Dm} (h : givenE l = 0) : l.length ≤ 256 ∧ ∀ i, i < l.length → validE (dat l i) = 0 := by
  refine ⟨(givenE_ok h).1, fun i hi => ?_⟩
  unfold givenE at h
  split at h
  · exact absurd h (by decide)
  · exact fstE0 _ _ h i (by omega) (by omega)
theorem lpE_parts {l : List Dm} {c : List Lk} (h : lpE l c = 0) : givenE l = 0 ∧ chainE l c = 0 := by
  unfold lpE at h
  split at h
  · exact absurd h (by assumption)
  · exact ⟨Classical.not_not.1 (by assumption), h⟩
/-- the i-th point of a chain -/
def ptS (l : List Dm) (c : List Lk) : Nat → ByteArray
  | 0 => begE l (lat c 0)
  | i + 1 => stoE l (lat c i)
structure RC (l : List Dm) (c : List Lk) : Prop where
  inr : ∀ i, i < c.length → inR l (lat c i)
  ax : ∀ i j, i < c.length → j < c.length → (dOf l (lat c i)).ax = (dOf l (lat c j)).ax
  link : ∀ i, i < c.length → begE l (lat c i) = ptS l c i
  dist : ∀ i j, i < c.length → j < c.length → (lat c i).dm = (lat c j).dm → i = j
  pts : ∀ a b, a < b → b ≤ c.length → ¬ (a = 0 ∧ b = c.length) → ¬ ptS l c a = ptS l c b
theorem stp_zero {l : List Dm} {c : List Lk} {i : Nat} (h : stp l c i = 0) : inR l (lat c i) ∧ ¬ (0 < i ∧ (¬ (dOf l (lat c i)).ax = (dOf l (lat c 0)).ax ∨ ¬ begE l (lat c i) = stoE l (lat c (i - 1)))) ∧
    ¬ ((∃ j, j < i ∧ ((lat c j).dm = (lat c i).dm ∨ 0 < j ∧ begE l (lat c j) = stoE l (lat c i))) ∨ (0 < i ∧ begE l (lat c 0) = stoE l (lat c (i - 1)))) := by
  by_cases h1 : inR l (lat c i)
  · refine ⟨h1, ?_, ?_⟩
    · intro h2; rw [stp_8 h1 h2] at h; exact absurd h (by decide)
    · intro h3
      by_cases h2 : 0 < i ∧ (¬ (dOf l (lat c i)).ax = (dOf l (lat c 0)).ax ∨ ¬ begE l (lat c i) = stoE l (lat c (i - 1)))
      · rw [stp_8 h1 h2] at h; exact absurd h (by decide)
      · rw [stp_7 h1 h2 h3] at h; exact absurd h (by decide)
  · rw [stp_2 h1] at h; exact absurd h (by decide)
theorem beg_ne {l : List Dm} (hv : ∀ i, i < l.length → validE (dat l i) = 0) {x : Lk} (hx : inR l x) : ¬ begE l x = stoE l x := by
  have h := (valid0 (hv x.dm.toNat (in_dat hx))).2.2.1
  unfold begE stoE
  by_cases hb : x.bk = true
  · rw [if_pos hb, if_pos hb]; exact fun e => h e.symm
  · rw [if_neg hb, if_neg hb]; exact h
theorem rc_of {l : List Dm} {c : List Lk} (hv : ∀ i, i < l.length → validE (dat l i) = 0) (h : ∀ i, i < c.length → stp l c i = 0) : RC l c := by
  have hlink : ∀ i, i < c.length → begE l (lat c i) = ptS l c i := by
    intro i hi
    cases i with
    | zero => rfl
    | succ i =>
      have := (stp_zero (h (i + 1) hi)).2.1
      by_cases e : begE l (lat c (i + 1)) = stoE l (lat c i)
      · exact e
      · exact absurd ⟨Nat.succ_pos i, .inr e⟩ this
  have hax0 : ∀ i, i < c.length → (dOf l (lat c i)).ax = (dOf l (lat c 0)).ax := by
    intro i hi
    by_cases h0 : i = 0
    · rw [h0]
    · have := (stp_zero (h i hi)).2.1
      by_cases e : (dOf l (lat c i)).ax = (dOf l (lat c 0)).ax
      · exact e
      · exact absurd ⟨by omega, .inl e⟩ this
  refine ⟨fun i hi => (stp_zero (h i hi)).1, fun i j hi hj => (hax0 i hi).trans (hax0 j hj).symm, hlink, fun i j hi hj e => stp_inj h hi hj e, fun a b hab hb hn e => ?_⟩
  obtain ⟨k, rfl⟩ : ∃ k, b = k + 1 := ⟨b - 1, by omega⟩
  have hk := stp_zero (h k (by omega))
  by_cases ha : a = 0
  · subst ha
    have hk1 : k + 1 < c.length := by omega
    have := (stp_zero (h (k + 1) hk1)).2.2
    exact this (.inr ⟨Nat.succ_pos k, e⟩)
  · by_cases hak : a = k
    · subst hak
      rw [← hlink a (by omega)] at e
      exact beg_ne hv hk.1 e
    · rw [← hlink a (by omega)] at e
      exact hk.2.2 (.inl ⟨a, by omega, .inr ⟨by omega, e⟩⟩)
theorem stp_of {l : List Dm} {c : List Lk} (h : RC l c) : ∀ i, i < c.length → stp l c i = 0 := by
  intro i hi
  refine stp_0 (h.inr i hi) ?_ ?_
  · rintro ⟨h0, e | e⟩
    · exact e (h.ax i 0 hi (by omega))
    · obtain ⟨k, rfl⟩ : ∃ k, i = k + 1 := ⟨i - 1, by omega⟩
      exact e (h.link (k + 1) hi)
  · rintro (⟨j, hj, e | ⟨h0, e⟩⟩ | ⟨h0, e⟩)
    · have := h.dist j i (by omega) hi e
      omega
    · rw [h.link j (by omega)] at e
      exact h.pts j (i + 1) (by omega) (by omega) (by omega) e
    · obtain ⟨k, rfl⟩ : ∃ k, i = k + 1 := ⟨i - 1, by omega⟩
      exact h.pts 0 (k + 1) (by omega) (by omega) (by omega) e
theorem lpE_rc {l : List Dm} {c : List Lk} (h : lpE l c = 0) : RC l c := rc_of (givenE_all (lpE_parts h).1).2 (lpE_ok h).2.2.2.1
/-! ### backwards -/
theorem beg_flp {l : List Dm} (x : Lk) : begE l (flp x) = stoE l x := by unfold begE stoE flp; cases x.bk <;> rfl
theorem sto_flp {l : List Dm} (x : Lk) : stoE l (flp x) = begE l x := by unfold begE stoE flp; cases x.bk <;> rfl
theorem pt_rev {l : List Dm} {c : List Lk} (h : RC l c) (h0 : 0 < c.length) : ∀ i, i ≤ c.length → ptS l (rvL c) i = ptS l c (c.length - i)
  | 0, _ => by
    show begE l (lat (rvL c) 0) = _
    rw [rvL_at h0, beg_flp]
    obtain ⟨n, hn⟩ : ∃ n, c.length = n + 1 := ⟨c.length - 1, by omega⟩
    rw [hn]
    rfl
  | i + 1, hi => by
    show stoE l (lat (rvL c) i) = _
    rw [rvL_at (by omega), sto_flp, h.link _ (by omega), show c.length - 1 - i = c.length - (i + 1) by omega]
theorem rc_rev {l : List Dm} {c : List Lk} (h : RC l c) (h0 : 0 < c.length) : RC l (rvL c) := by
  have hl := rvL_len c
  refine ⟨fun i hi => ?_, fun i j hi hj => ?_, fun i hi => ?_, fun i j hi hj e => ?_, fun a b hab hb hn => ?_⟩
  · rw [rvL_at (by omega)]; exact h.inr (c.length - 1 - i) (by omega)
  · rw [rvL_at (by omega), rvL_at (by omega)]; exact h.ax _ _ (by omega) (by omega)
  · rw [rvL_at (by omega), beg_flp, pt_rev h h0 i (by omega)]
    show stoE l (lat c (c.length - 1 - i)) = _
    rw [show c.length - i = (c.length - 1 - i) + 1 by omega]; rfl
  · rw [rvL_at (by omega), rvL_at (by omega)] at e
    have := h.dist (c.length - 1 - i) (c.length - 1 - j) (by omega) (by omega) e
    omega
  · rw [pt_rev h h0 a (by omega), pt_rev h h0 b (by omega)]
    exact fun e => h.pts (c.length - b) (c.length - a) (by omega) (by omega) (by omega) e.symm
theorem lpE_rev {l : List Dm} {c : List Lk} (h : lpE l c = 0) : lpE l (rvL c) = 0 := by
  have hp := lpE_ok h
  exact lpE_of (lpE_parts h).1 (chE_of (by rw [rvL_len]; exact hp.2.1) (by rw [rvL_len]; exact hp.2.2.1) (stp_of (rc_rev (lpE_rc h) hp.2.1)))
theorem rvL_eq (c : List Lk) : rvL c = (c.map flp).reverse := by
  refine List.ext_getElem (by rw [rvL_len, List.length_reverse, List.length_map]) fun i h1 h2 => ?_
  rw [rvL_len] at h1
  have := rvL_at (c := c) h1
  have e1 : lat (rvL c) i = (rvL c)[i]'(by rw [rvL_len]; exact h1) := by
    show (rvL c).getD i lk0 = _
    simp [List.getD_eq_getElem?_getD, rvL_len, h1]
  have e2 : lat c (c.length - 1 - i) = c[c.length - 1 - i]'(by omega) := by simp [List.getD_eq_getElem?_getD, show c.length - 1 - i < c.length by omega]
  rw [← e1, this, e2, List.getElem_reverse, List.getElem_map]
  congr 1
  simp
theorem flp_flp (x : Lk) : flp (flp x) = x := by cases x; simp [flp]
theorem rvL_rvL (c : List Lk) : rvL (rvL c) = c := by
  rw [rvL_eq, rvL_eq, List.map_reverse, List.reverse_reverse, List.map_map]
  refine (List.map_congr_left fun x _ => flp_flp x).trans (List.map_id' c)
theorem fold_add (sh : List Int) : ∀ (c : List Lk) (s : Int), c.foldl (addT sh) s = s + totE sh c
  | [], s => by simp [totE]
  | x :: c, s => by
    have h1 := fold_add sh c (addT sh s x)
    have h2 := fold_add sh c (addT sh 0 x)
    have h3 : totE sh (x :: c) = c.foldl (addT sh) (addT sh 0 x) := rfl
    rw [List.foldl_cons, h1, h3, h2]
    simp only [addT]; omega
theorem totE_app (sh : List Int) (a b : List Lk) : totE sh (a ++ b) = totE sh a + totE sh b := by rw [totE, List.foldl_append, fold_add]; rfl
theorem totE_one (sh : List Int) (x : Lk) : totE sh [x] = sgn x * sh.getD x.dm.toNat 0 := by simp [totE, addT]
theorem sgn_flp (x : Lk) : sgn (flp x) = - sgn x := by unfold sgn flp; cases x.bk <;> rfl
theorem totE_rev (sh : List Int) : ∀ c : List Lk, totE sh (c.map flp).reverse = - totE sh c
  | [] => by simp [totE]
  | x :: c => by
    rw [List.map_cons, List.reverse_cons, totE_app, totE_rev sh c, totE_one, show x :: c = [x] ++ c from rfl, totE_app, totE_one, sgn_flp]
    show - totE sh c + -sgn x * sh.getD x.dm.toNat 0 = _
    rw [Int.neg_mul]; omega
theorem totE_rvL (sh : List Int) (c : List Lk) : totE sh (rvL c) = - totE sh c := by rw [rvL_eq, totE_rev]
theorem sumL_rev {l : List Dm} {c : List Lk} {sh : List Int} (h : lpE l c = 0) : sumL l (rvL c) sh = (- (sumL l c sh).1, (sumL l c sh).2) := by
  have hr := lpE_rev h
  by_cases hn : sh.length = l.length
  · by_cases ho : okS sh
    · rw [sumL_yes hr hn ho, sumL_yes h hn ho, totE_rvL]
    · rw [sumL_off hr hn ho, sumL_off h hn ho]; rfl
  · rw [sumL_len hr hn, sumL_len h hn]; rfl
theorem sumL_le {l : List Dm} {c : List Lk} {sh : List Int} (h : lpE l c = 0) : -25600000 ≤ (sumL l c sh).1 ∧ (sumL l c sh).1 ≤ 25600000 := by
  by_cases hn : sh.length = l.length
  · by_cases ho : okS sh
    · rw [sumL_yes h hn ho]
      have h1 := totE_le ho c.length (Nat.le_refl _)
      rw [List.take_length] at h1
      have h2 := (lpE_ok h).2.2.1
      dsimp only
      omega
    · rw [sumL_off h hn ho]; dsimp only; omega
  · rw [sumL_len h hn]; dsimp only; omega
end Go.Proofs.Ytagapiflfnbfiaa
