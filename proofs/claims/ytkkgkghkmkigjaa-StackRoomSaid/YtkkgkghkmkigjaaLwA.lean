/- Stacks of dimensions: other limits for one dimension; bounds, piece by piece. No statement of the seat is proved here. -/
import Derived.Test.YtkkgkghkmkigjaaLt
import Derived.Test.YtkkgkghkmkigjaaEngK
namespace Go.Proofs.Ytkkgkghkmkigjaa
set_option linter.unusedVariables false
set_option linter.unusedSimpArgs false
open Go Go.RowKit
/-! ### other limits for one dimension -/
def wlim (d : Dm) (a b : Int) : Dm := ⟨d.fr, d.to, d.ax, a, b⟩
def limE (l : List Dm) (i : Nat) (a b : Int) : List Dm := l.set i (wlim (dat l i) a b)
theorem limE_len (l : List Dm) (i : Nat) (a b : Int) : (limE l i a b).length = l.length := by simp [limE]
theorem limE_at {l : List Dm} {i : Nat} {a b : Int} (j : Nat) : dat (limE l i a b) j = if i = j ∧ j < l.length then wlim (dat l j) a b else dat l j := by
  unfold dat limE
  simp only [List.getD_eq_getElem?_getD, List.getElem?_set]
  by_cases h : i = j
  · subst h
    by_cases h2 : i < l.length
    · simp [h2]
    · simp [h2]
  · simp [h]
theorem limE_fr {l : List Dm} {i : Nat} {a b : Int} (j : Nat) : (dat (limE l i a b) j).fr = (dat l j).fr := by rw [limE_at]; split <;> rfl
theorem limE_to {l : List Dm} {i : Nat} {a b : Int} (j : Nat) : (dat (limE l i a b) j).to = (dat l j).to := by rw [limE_at]; split <;> rfl
theorem limE_ax {l : List Dm} {i : Nat} {a b : Int} (j : Nat) : (dat (limE l i a b) j).ax = (dat l j).ax := by rw [limE_at]; split <;> rfl
theorem limE_ok {l : List Dm} {i : Nat} {a b : Int} (ho : ∀ i, i < l.length → (dat l i).ok) : ∀ j, j < (limE l i a b).length → (dat (limE l i a b) j).ok := by
  intro j hj
  rw [limE_len] at hj
  have := ho j hj
  unfold Dm.ok at *
  rw [limE_fr, limE_to]
  exact this
theorem limE_map (l : List Dm) (i : Nat) (a b : Int) (hi : i < l.length) : (l.map dmC).set i (spl ((l.map dmC).getD i []) 3 [.int .i64 a, .int .i64 b]) = (limE l i a b).map dmC := by
  have e : (l.map dmC).getD i [] = dmC (dat l i) := by simp [List.getD_eq_getElem?_getD, hi]
  rw [e, limE, List.map_set]
  rfl
theorem begE_lim {l : List Dm} {i : Nat} {a b : Int} (x : Lk) : begE (limE l i a b) x = begE l x := by
  unfold begE
  rw [show (dOf (limE l i a b) x).to = (dOf l x).to from limE_to _, show (dOf (limE l i a b) x).fr = (dOf l x).fr from limE_fr _]
theorem stoE_lim {l : List Dm} {i : Nat} {a b : Int} (x : Lk) : stoE (limE l i a b) x = stoE l x := by
  unfold stoE
  rw [show (dOf (limE l i a b) x).to = (dOf l x).to from limE_to _, show (dOf (limE l i a b) x).fr = (dOf l x).fr from limE_fr _]
theorem inR_lim {l : List Dm} {i : Nat} {a b : Int} (x : Lk) : inR (limE l i a b) x ↔ inR l x := by unfold inR; rw [limE_len]
theorem stp_lim {l : List Dm} {i : Nat} {a b : Int} (c : List Lk) (k : Nat) : stp (limE l i a b) c k = stp l c k := by
  have e : ∀ x, (dOf (limE l i a b) x).ax = (dOf l x).ax := fun x => limE_ax _
  by_cases h1 : inR l (lat c k)
  · have h1' := (inR_lim (i := i) (a := a) (b := b) _).2 h1
    by_cases h2 : 0 < k ∧ (¬ (dOf l (lat c k)).ax = (dOf l (lat c 0)).ax ∨ ¬ begE l (lat c k) = stoE l (lat c (k - 1)))
    · rw [stp_8 h1 h2, stp_8 h1' (by simpa only [begE_lim, stoE_lim, e] using h2)]
    · by_cases h3 : (∃ j, j < k ∧ ((lat c j).dm = (lat c k).dm ∨ 0 < j ∧ begE l (lat c j) = stoE l (lat c k))) ∨ (0 < k ∧ begE l (lat c 0) = stoE l (lat c (k - 1)))
      · rw [stp_7 h1 h2 h3, stp_7 h1' (by simpa only [begE_lim, stoE_lim, e] using h2) (by simpa only [begE_lim, stoE_lim, e] using h3)]
      · rw [stp_0 h1 h2 h3, stp_0 h1' (by simpa only [begE_lim, stoE_lim, e] using h2) (by simpa only [begE_lim, stoE_lim, e] using h3)]
  · rw [stp_2 h1, stp_2 (fun h => h1 ((inR_lim _).1 h))]
theorem chainE_lim {l : List Dm} {i : Nat} {a b : Int} (c : List Lk) : chainE (limE l i a b) c = chainE l c := by
  unfold chainE
  rw [show stp (limE l i a b) c = stp l c from funext fun k => stp_lim c k]
theorem valid_of {d : Dm} {a b : Int} (h : validE d = 0) (h2 : chk a b = 0) : validE (wlim d a b) = 0 := by
  have h1 := valid0 h
  have hc : clsE d = 0 := by
    unfold clsE
    rw [if_neg h1.2.2.1, if_neg (by omega)]
  show firstE [nameE d.fr, nameE d.to, clsE d, chk a b] = 0
  rw [h1.1, h1.2.1, hc, h2]
  rfl
theorem givenE_of {l : List Dm} (h1 : l.length ≤ 256) (h2 : ∀ i, i < l.length → validE (dat l i) = 0) : givenE l = 0 := by
  unfold givenE
  rw [if_neg (by omega)]
  exact fstE_of _ _ fun i _ hi => h2 i (by omega)
theorem givenE_all {l : List Dm} (h : givenE l = 0) : l.length ≤ 256 ∧ ∀ i, i < l.length → validE (dat l i) = 0 := by
  refine ⟨(givenE_ok h).1, fun i hi => ?_⟩
  unfold givenE at h
  split at h
  · exact absurd h (by decide)
  · exact fstE0 _ _ h i (by omega) (by omega)
theorem givenE_lim {l : List Dm} {i : Nat} {a b : Int} (h : givenE l = 0) (h2 : chk a b = 0) : givenE (limE l i a b) = 0 := by
  obtain ⟨h3, h4⟩ := givenE_all h
  refine givenE_of (by rw [limE_len]; exact h3) fun j hj => ?_
  rw [limE_len] at hj
  rw [limE_at]
  split
  · exact valid_of (h4 j hj) h2
  · exact h4 j hj
theorem lpE_parts {l : List Dm} {c : List Lk} (h : lpE l c = 0) : givenE l = 0 ∧ chainE l c = 0 := by
  unfold lpE at h
  split at h
  · exact absurd h (by assumption)
  · exact ⟨Classical.not_not.1 (by assumption), h⟩
theorem lpE_of {l : List Dm} {c : List Lk} (h1 : givenE l = 0) (h2 : chainE l c = 0) : lpE l c = 0 := by
  unfold lpE
  rw [if_neg (fun e => e h1)]
  exact h2
theorem lpE_lim {l : List Dm} {c : List Lk} {i : Nat} {a b : Int} (h : lpE l c = 0) (h2 : chk a b = 0) : lpE (limE l i a b) c = 0 := by
  obtain ⟨h3, h4⟩ := lpE_parts h
  exact lpE_of (givenE_lim h3 h2) (by rw [chainE_lim]; exact h4)
/-! ### bounds, piece by piece -/
def conL (l : List Dm) (x : Lk) : Int × Int := (sgn x * lowE (dOf l x).lo (dOf l x).hi (sgn x), sgn x * lowE (dOf l x).lo (dOf l x).hi (-(sgn x)))
theorem conL_b {l : List Dm} {x : Lk} (h : x.bk = true) : conL l x = (0 - (dOf l x).hi, 0 - (dOf l x).lo) := by
  unfold conL sgn lowE; simp only [h, if_true]; simp <;> omega
theorem conL_f {l : List Dm} {x : Lk} (h : ¬ x.bk = true) : conL l x = ((dOf l x).lo, (dOf l x).hi) := by
  unfold conL sgn lowE; simp only [if_neg h]; simp
theorem bnd_fold (l : List Dm) : ∀ (c : List Lk) (p : Int × Int), c.foldl (addL l) p = (p.1 + (bndE l c).1, p.2 + (bndE l c).2)
  | [], p => by simp [bndE]
  | x :: c, p => by
    have h1 := bnd_fold l c (addL l p x)
    have h2 := bnd_fold l c (addL l (0, 0) x)
    simp only [List.foldl_cons, bndE]
    rw [h1, h2]
    unfold addL
    simp only [Prod.mk.injEq]
    constructor <;> omega
theorem bnd_app (l : List Dm) (a b : List Lk) : bndE l (a ++ b) = ((bndE l a).1 + (bndE l b).1, (bndE l a).2 + (bndE l b).2) := by
  show (a ++ b).foldl (addL l) (0, 0) = _
  rw [List.foldl_append, bnd_fold]; rfl
theorem bnd_cons (l : List Dm) (x : Lk) (c : List Lk) : bndE l (x :: c) = ((conL l x).1 + (bndE l c).1, (conL l x).2 + (bndE l c).2) := by
  show c.foldl (addL l) (addL l (0, 0) x) = _
  rw [bnd_fold]
  unfold addL conL
  simp only [Prod.mk.injEq]
  constructor <;> omega
theorem bnd_congr {l l' : List Dm} : ∀ (c : List Lk), (∀ x ∈ c, conL l x = conL l' x) → bndE l c = bndE l' c
  | [], _ => rfl
  | x :: c, h => by rw [bnd_cons, bnd_cons, h x List.mem_cons_self, bnd_congr c fun y hy => h y (List.mem_cons_of_mem _ hy)]
theorem lat_split {c : List Lk} {k : Nat} (hk : k < c.length) : c = c.take k ++ lat c k :: c.drop (k + 1) := takeL_split hk
theorem conL_lim {l : List Dm} {i : Nat} {a b : Int} {x : Lk} (h : ¬ i = x.dm.toNat) : conL (limE l i a b) x = conL l x := by
  have e : dOf (limE l i a b) x = dOf l x := by
    show dat (limE l i a b) x.dm.toNat = dat l x.dm.toNat
    rw [limE_at, if_neg (fun e => h e.1)]
  unfold conL; rw [e]
theorem bnd_lim {l : List Dm} {c : List Lk} (h : ∀ i, i < c.length → stp l c i = 0) {k : Nat} (hk : k < c.length) (a b : Int) :
    bndE (limE l (lat c k).dm.toNat a b) c = ((bndE l c).1 - (conL l (lat c k)).1 + (conL (limE l (lat c k).dm.toNat a b) (lat c k)).1, (bndE l c).2 - (conL l (lat c k)).2 + (conL (limE l (lat c k).dm.toNat a b) (lat c k)).2) := by
  have hne : ∀ j, j < c.length → ¬ j = k → ¬ (lat c k).dm.toNat = (lat c j).dm.toNat := by
    intro j hj hjk e
    have h1 := stp_inR (h k hk)
    have h2 := stp_inR (h j hj)
    exact hjk (stp_inj h hj hk (by have := h1.1; have := h2.1; omega))
  have hp : bndE (limE l (lat c k).dm.toNat a b) (c.take k) = bndE l (c.take k) := bnd_congr _ fun x hx => by
    obtain ⟨j, hj, rfl⟩ := List.mem_iff_getElem.1 hx
    rw [List.length_take] at hj
    rw [List.getElem_take]
    refine conL_lim ?_
    have := hne j (by omega) (by omega)
    simpa [List.getD_eq_getElem?_getD, show j < c.length by omega] using this
  have hq : bndE (limE l (lat c k).dm.toNat a b) (c.drop (k + 1)) = bndE l (c.drop (k + 1)) := bnd_congr _ fun x hx => by
    obtain ⟨j, hj, rfl⟩ := List.mem_iff_getElem.1 hx
    rw [List.length_drop] at hj
    rw [List.getElem_drop]
    refine conL_lim ?_
    have := hne (k + 1 + j) (by omega) (by omega)
    simpa [List.getD_eq_getElem?_getD, show k + 1 + j < c.length by omega] using this
  have e1 : bndE l c = bndE l (c.take k ++ lat c k :: c.drop (k + 1)) := by rw [← lat_split hk]
  have e2 : bndE (limE l (lat c k).dm.toNat a b) c = bndE (limE l (lat c k).dm.toNat a b) (c.take k ++ lat c k :: c.drop (k + 1)) := by rw [← lat_split hk]
  rw [e2, e1, bnd_app, bnd_app, bnd_cons, bnd_cons, hp, hq]
  simp only [Prod.mk.injEq]
  constructor <;> omega
end Go.Proofs.Ytkkgkghkmkigjaa
