/- Loops of dimensions: chains backwards and pieces of chains are chains; their bounds. No statement of the seat is proved here. -/
import Derived.Test.YtkkgkghkmkigjaaM9
import Derived.Test.YtkkgkghkmkigjaaM4
namespace Go.Proofs.Ytkkgkghkmkigjaa
set_option linter.unusedVariables false
set_option linter.unusedSimpArgs false
open Go Go.RowKit
/-- the i-th point of a chain -/
def ptS (l : List Dm) (c : List Lk) : Nat → ByteArray
  | 0 => begE l (lat c 0)
  | i + 1 => stoE l (lat c i)
structure RC (l : List Dm) (c : List Lk) : Prop where
  inr : ∀ i, i < c.length → inR l (lat c i)
  ax : ∀ i j, i < c.length → j < c.length → (dOf l (lat c i)).ax = (dOf l (lat c j)).ax
  link : ∀ i, i < c.length → begE l (lat c i) = ptS l c i
  dist : ∀ i j, i < c.length → j < c.length → (lat c i).dm = (lat c j).dm → i = j
  pts : ∀ a b, a < b → b ≤ c.length → ¬ (a = 0 ∧ b = c.length) → ¬ ptS l c a = ptS l c b
theorem stp_zero {l : List Dm} {c : List Lk} {i : Nat} (h : stp l c i = 0) : inR l (lat c i) ∧ ¬ (0 < i ∧ (¬ (dOf l (lat c i)).ax = (dOf l (lat c 0)).ax ∨ ¬ begE l (lat c i) = stoE l (lat c (i - 1)))) ∧
    ¬ ((∃ j, j < i ∧ ((lat c j).dm = (lat c i).dm ∨ 0 < j ∧ begE l (lat c j) = stoE l (lat c i))) ∨ (0 < i ∧ begE l (lat c 0) = stoE l (lat c (i - 1)))) := by
  by_cases h1 : inR l (lat c i)
  · refine ⟨h1, ?_, ?_⟩
    · intro h2; rw [stp_8 h1 h2] at h; exact absurd h (by decide)
    · intro h3
      by_cases h2 : 0 < i ∧ (¬ (dOf l (lat c i)).ax = (dOf l (lat c 0)).ax ∨ ¬ begE l (lat c i) = stoE l (lat c (i - 1)))
      · rw [stp_8 h1 h2] at h; exact absurd h (by decide)
      · rw [stp_7 h1 h2 h3] at h; exact absurd h (by decide)
  · rw [stp_2 h1] at h; exact absurd h (by decide)
theorem beg_ne {l : List Dm} (hv : ∀ i, i < l.length → validE (dat l i) = 0) {x : Lk} (hx : inR l x) : ¬ begE l x = stoE l x := by
  have h := (valid0 (hv x.dm.toNat (in_dat hx))).2.2.1
  unfold begE stoE
  by_cases hb : x.bk = true
  · rw [if_pos hb, if_pos hb]; exact fun e => h e.symm
  · rw [if_neg hb, if_neg hb]; exact h
theorem rc_of {l : List Dm} {c : List Lk} (hv : ∀ i, i < l.length → validE (dat l i) = 0) (h : ∀ i, i < c.length → stp l c i = 0) : RC l c := by
  have hlink : ∀ i, i < c.length → begE l (lat c i) = ptS l c i := by
    intro i hi
    cases i with
    | zero => rfl
    | succ i =>
      have := (stp_zero (h (i + 1) hi)).2.1
      by_cases e : begE l (lat c (i + 1)) = stoE l (lat c i)
      · exact e
      · exact absurd ⟨Nat.succ_pos i, .inr e⟩ this
  have hax0 : ∀ i, i < c.length → (dOf l (lat c i)).ax = (dOf l (lat c 0)).ax := by
    intro i hi
    by_cases h0 : i = 0
    · rw [h0]
    · have := (stp_zero (h i hi)).2.1
      by_cases e : (dOf l (lat c i)).ax = (dOf l (lat c 0)).ax
      · exact e
      · exact absurd ⟨by omega, .inl e⟩ this
  refine ⟨fun i hi => (stp_zero (h i hi)).1, fun i j hi hj => (hax0 i hi).trans (hax0 j hj).symm, hlink, fun i j hi hj e => stp_inj h hi hj e, fun a b hab hb hn e => ?_⟩
  obtain ⟨k, rfl⟩ : ∃ k, b = k + 1 := ⟨b - 1, by omega⟩
  have hk := stp_zero (h k (by omega))
  by_cases ha : a = 0
  · subst ha
    have hk1 : k + 1 < c.length := by omega
    have := (stp_zero (h (k + 1) hk1)).2.2
    exact this (.inr ⟨Nat.succ_pos k, e⟩)
  · by_cases hak : a = k
    · subst hak
      rw [← hlink a (by omega)] at e
      exact beg_ne hv hk.1 e
    · rw [← hlink a (by omega)] at e
      exact hk.2.2 (.inl ⟨a, by omega, .inr ⟨by omega, e⟩⟩)
theorem stp_of {l : List Dm} {c : List Lk} (h : RC l c) : ∀ i, i < c.length → stp l c i = 0 := by
  intro i hi
  refine stp_0 (h.inr i hi) ?_ ?_
  · rintro ⟨h0, e | e⟩
    · exact e (h.ax i 0 hi (by omega))
    · obtain ⟨k, rfl⟩ : ∃ k, i = k + 1 := ⟨i - 1, by omega⟩
      exact e (h.link (k + 1) hi)
  · rintro (⟨j, hj, e | ⟨h0, e⟩⟩ | ⟨h0, e⟩)
    · have := h.dist j i (by omega) hi e
      omega
    · rw [h.link j (by omega)] at e
      exact h.pts j (i + 1) (by omega) (by omega) (by omega) e
    · obtain ⟨k, rfl⟩ : ∃ k, i = k + 1 := ⟨i - 1, by omega⟩
      exact h.pts 0 (k + 1) (by omega) (by omega) (by omega) e
theorem chainE_of {l : List Dm} {c : List Lk} (h0 : 0 < c.length) (h1 : c.length ≤ 256) (h : RC l c) : chainE l c = 0 := by
  unfold chainE
  rw [if_neg (by omega), if_neg (by omega)]
  exact fstE_of _ _ fun i _ hi => stp_of h i (by omega)
theorem lpE_rc {l : List Dm} {c : List Lk} (h : lpE l c = 0) : RC l c := rc_of (givenE_all (lpE_parts h).1).2 (lpE_ok h).2.2.2.1
/-! ### backwards -/
theorem beg_flp {l : List Dm} (x : Lk) : begE l (flp x) = stoE l x := by unfold begE stoE flp; cases x.bk <;> rfl
theorem sto_flp {l : List Dm} (x : Lk) : stoE l (flp x) = begE l x := by unfold begE stoE flp; cases x.bk <;> rfl
theorem pt_rev {l : List Dm} {c : List Lk} (h : RC l c) (h0 : 0 < c.length) : ∀ i, i ≤ c.length → ptS l (rvL c) i = ptS l c (c.length - i)
  | 0, _ => by
    show begE l (lat (rvL c) 0) = _
    rw [rvL_at h0, beg_flp]
    obtain ⟨n, hn⟩ : ∃ n, c.length = n + 1 := ⟨c.length - 1, by omega⟩
    rw [hn]
    rfl
  | i + 1, hi => by
    show stoE l (lat (rvL c) i) = _
    rw [rvL_at (by omega), sto_flp, h.link _ (by omega), show c.length - 1 - i = c.length - (i + 1) by omega]
theorem rc_rev {l : List Dm} {c : List Lk} (h : RC l c) (h0 : 0 < c.length) : RC l (rvL c) := by
  have hl := rvL_len c
  refine ⟨fun i hi => ?_, fun i j hi hj => ?_, fun i hi => ?_, fun i j hi hj e => ?_, fun a b hab hb hn => ?_⟩
  · rw [rvL_at (by omega)]; exact h.inr (c.length - 1 - i) (by omega)
  · rw [rvL_at (by omega), rvL_at (by omega)]; exact h.ax _ _ (by omega) (by omega)
  · rw [rvL_at (by omega), beg_flp, pt_rev h h0 i (by omega)]
    show stoE l (lat c (c.length - 1 - i)) = _
    rw [show c.length - i = (c.length - 1 - i) + 1 by omega]; rfl
  · rw [rvL_at (by omega), rvL_at (by omega)] at e
    have := h.dist (c.length - 1 - i) (c.length - 1 - j) (by omega) (by omega) e
    omega
  · rw [pt_rev h h0 a (by omega), pt_rev h h0 b (by omega)]
    exact fun e => h.pts (c.length - b) (c.length - a) (by omega) (by omega) (by omega) e.symm
theorem lpE_rev {l : List Dm} {c : List Lk} (h : lpE l c = 0) : lpE l (rvL c) = 0 := by
  have hp := lpE_ok h
  exact lpE_of (lpE_parts h).1 (chainE_of (by rw [rvL_len]; exact hp.2.1) (by rw [rvL_len]; exact hp.2.2.1) (rc_rev (lpE_rc h) hp.2.1))
/-! ### pieces -/
theorem lat_take {c : List Lk} {k i : Nat} (h : i < k) : lat (c.take k) i = lat c i := by
  show (c.take k).getD i lk0 = c.getD i lk0
  simp [List.getD_eq_getElem?_getD, List.getElem?_take, h]
theorem lat_drop {c : List Lk} {k i : Nat} : lat (c.drop k) i = lat c (k + i) := by
  show (c.drop k).getD i lk0 = c.getD (k + i) lk0
  simp [List.getD_eq_getElem?_getD, List.getElem?_drop]
theorem rc_take {l : List Dm} {c : List Lk} (h : RC l c) {k : Nat} (h0 : 0 < k) (hk : k ≤ c.length) : RC l (c.take k) := by
  have hl : (c.take k).length = k := by rw [List.length_take]; omega
  have hpt : ∀ i, i ≤ k → ptS l (c.take k) i = ptS l c i := by
    intro i hi
    cases i with
    | zero => show begE l (lat (c.take k) 0) = begE l (lat c 0); rw [lat_take h0]
    | succ i => show stoE l (lat (c.take k) i) = stoE l (lat c i); rw [lat_take (by omega)]
  refine ⟨fun i hi => ?_, fun i j hi hj => ?_, fun i hi => ?_, fun i j hi hj e => ?_, fun a b hab hb hn => ?_⟩
  · rw [lat_take (by omega)]; exact h.inr i (by omega)
  · rw [lat_take (by omega), lat_take (by omega)]; exact h.ax _ _ (by omega) (by omega)
  · rw [lat_take (by omega), hpt i (by omega)]; exact h.link i (by omega)
  · rw [lat_take (by omega), lat_take (by omega)] at e; exact h.dist i j (by omega) (by omega) e
  · rw [hpt a (by omega), hpt b (by omega)]; exact h.pts a b hab (by omega) (by omega)
theorem rc_drop {l : List Dm} {c : List Lk} (h : RC l c) {k : Nat} (h0 : 0 < k) (hk : k < c.length) : RC l (c.drop k) := by
  have hl : (c.drop k).length = c.length - k := List.length_drop
  have hpt : ∀ i, i ≤ c.length - k → ptS l (c.drop k) i = ptS l c (k + i) := by
    intro i hi
    cases i with
    | zero =>
      show begE l (lat (c.drop k) 0) = _
      rw [lat_drop, Nat.add_zero]; exact h.link k hk
    | succ i => show stoE l (lat (c.drop k) i) = stoE l (lat c (k + i)); rw [lat_drop]
  refine ⟨fun i hi => ?_, fun i j hi hj => ?_, fun i hi => ?_, fun i j hi hj e => ?_, fun a b hab hb hn => ?_⟩
  · rw [lat_drop]; exact h.inr (k + i) (by omega)
  · rw [lat_drop, lat_drop]; exact h.ax _ _ (by omega) (by omega)
  · rw [lat_drop, hpt i (by omega)]; exact h.link (k + i) (by omega)
  · rw [lat_drop, lat_drop] at e
    have := h.dist (k + i) (k + j) (by omega) (by omega) e
    omega
  · rw [hpt a (by omega), hpt b (by omega)]; exact h.pts (k + a) (k + b) (by omega) (by omega) (by omega)
theorem lpE_take {l : List Dm} {c : List Lk} (h : lpE l c = 0) {k : Nat} (h0 : 0 < k) (hk : k ≤ c.length) : lpE l (c.take k) = 0 := by
  have hp := lpE_ok h
  exact lpE_of (lpE_parts h).1 (chainE_of (by rw [List.length_take]; omega) (by rw [List.length_take]; omega) (rc_take (lpE_rc h) h0 hk))
theorem lpE_drop {l : List Dm} {c : List Lk} (h : lpE l c = 0) {k : Nat} (h0 : 0 < k) (hk : k < c.length) : lpE l (c.drop k) = 0 := by
  have hp := lpE_ok h
  exact lpE_of (lpE_parts h).1 (chainE_of (by rw [List.length_drop]; omega) (by rw [List.length_drop]; omega) (rc_drop (lpE_rc h) h0 hk))
theorem stkE_of {l : List Dm} {c : List Lk} {lo hi : Int} (h : lpE l c = 0) (h2 : chk lo hi = 0) : stkE l c lo hi = 0 := by
  unfold stkE; rw [if_neg (fun e => e h)]; exact h2
/-! ### bounds -/
theorem conL_flp {l : List Dm} (x : Lk) : conL l (flp x) = (0 - (conL l x).2, 0 - (conL l x).1) := by
  by_cases h : x.bk = true
  · rw [conL_b h, conL_f (x := flp x) (by unfold flp; simp [h])]
    show ((dOf l x).lo, (dOf l x).hi) = _
    simp only [Prod.mk.injEq]; omega
  · rw [conL_f h, conL_b (x := flp x) (by unfold flp; simp [h])]
    show (0 - (dOf l x).hi, 0 - (dOf l x).lo) = _
    rfl
theorem rvL_eq (c : List Lk) : rvL c = (c.map flp).reverse := by
  refine List.ext_getElem (by rw [rvL_len, List.length_reverse, List.length_map]) fun i h1 h2 => ?_
  rw [rvL_len] at h1
  have := rvL_at (c := c) h1
  have e1 : lat (rvL c) i = (rvL c)[i]'(by rw [rvL_len]; exact h1) := by
    show (rvL c).getD i lk0 = _
    simp [List.getD_eq_getElem?_getD, rvL_len, h1]
  have e2 : lat c (c.length - 1 - i) = c[c.length - 1 - i]'(by omega) := by simp [List.getD_eq_getElem?_getD, show c.length - 1 - i < c.length by omega]
  rw [← e1, this, e2, List.getElem_reverse, List.getElem_map]
  congr 1
  simp
theorem bnd_rev (l : List Dm) : ∀ c : List Lk, bndE l (c.map flp).reverse = (0 - (bndE l c).2, 0 - (bndE l c).1)
  | [] => by simp [bndE]
  | x :: c => by
    rw [List.map_cons, List.reverse_cons, bnd_app, bnd_rev l c, bnd_cons, bnd_cons, conL_flp]
    simp only [bndE, List.foldl_nil, Prod.mk.injEq]
    constructor <;> omega
theorem bnd_rvL (l : List Dm) (c : List Lk) : bndE l (rvL c) = (0 - (bndE l c).2, 0 - (bndE l c).1) := by rw [rvL_eq, bnd_rev]
theorem bnd_cut (l : List Dm) (c : List Lk) (k : Nat) : bndE l c = ((bndE l (c.take k)).1 + (bndE l (c.drop k)).1, (bndE l (c.take k)).2 + (bndE l (c.drop k)).2) := by
  rw [← bnd_app, List.take_append_drop]
end Go.Proofs.Ytkkgkghkmkigjaa
