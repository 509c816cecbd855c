/- Stacks of dimensions: sums of parts lie within the bounds, and each sum there is one of a part. No statement of the seat is proved here. -/
import Derived.Test.YtkkgkghkmkigjaaM3
import Derived.Test.YtkkgkghkmkigjaaM2
namespace Go.Proofs.Ytkkgkghkmkigjaa
set_option linter.unusedVariables false
set_option linter.unusedSimpArgs false
open Go Go.RowKit
theorem tot_fold (sh : List Int) : ∀ (c : List Lk) (s : Int), c.foldl (addT sh) s = s + totE sh c
  | [], s => by simp [totE]
  | x :: c, s => by
    have h1 := tot_fold sh c (addT sh s x)
    have h2 := tot_fold sh c (addT sh 0 x)
    simp only [List.foldl_cons, totE]
    rw [h1, h2]
    unfold addT
    omega
theorem tot_cons (sh : List Int) (x : Lk) (c : List Lk) : totE sh (x :: c) = sgn x * sh.getD x.dm.toNat 0 + totE sh c := by
  show c.foldl (addT sh) (addT sh 0 x) = _
  rw [tot_fold]; unfold addT; omega
theorem tot_app (sh : List Int) (a b : List Lk) : totE sh (a ++ b) = totE sh a + totE sh b := by
  show (a ++ b).foldl (addT sh) 0 = _
  rw [List.foldl_append, tot_fold]; rfl
theorem tot_congr {sh sh' : List Int} : ∀ (c : List Lk), (∀ x ∈ c, sh.getD x.dm.toNat 0 = sh'.getD x.dm.toNat 0) → totE sh c = totE sh' c
  | [], _ => rfl
  | x :: c, h => by rw [tot_cons, tot_cons, h x List.mem_cons_self, tot_congr c fun y hy => h y (List.mem_cons_of_mem _ hy)]
theorem conL_rng {l : List Dm} (x : Lk) : (conL l x).2 - (conL l x).1 = rngD l x := by
  by_cases h : x.bk = true
  · rw [conL_b h]; unfold rngD; dsimp only; omega
  · rw [conL_f h]; unfold rngD; dsimp only
theorem conL_wit {l : List Dm} {x : Lk} {v : Int} (h1 : (dOf l x).lo ≤ v) (h2 : v ≤ (dOf l x).hi) : (conL l x).1 ≤ sgn x * v ∧ sgn x * v ≤ (conL l x).2 := by
  by_cases h : x.bk = true
  · rw [conL_b h, show sgn x = -1 from if_pos h]; dsimp only; omega
  · rw [conL_f h, show sgn x = 1 from if_neg h]; dsimp only; omega
theorem in_dat {l : List Dm} {x : Lk} (h : inR l x) : x.dm.toNat < l.length := by have := h.1; have := h.2; omega
theorem bnd_wit {l : List Dm} {sh : List Int} (hw : witP l sh) : ∀ (c : List Lk), (∀ x ∈ c, inR l x) → (bndE l c).1 ≤ totE sh c ∧ totE sh c ≤ (bndE l c).2
  | [], _ => by simp [bndE, totE]
  | x :: c, h => by
    have ih := bnd_wit hw c fun y hy => h y (List.mem_cons_of_mem _ hy)
    have hx := hw.2 x.dm.toNat (in_dat (h x List.mem_cons_self))
    have hc := conL_wit (x := x) (l := l) hx.1 hx.2
    rw [bnd_cons, tot_cons]
    dsimp only
    omega
theorem ext_wit {l : List Dm} (hv : okL l) (c : List Lk) (b : Bool) : witP l (extS l c b) := by
  refine ⟨extS_len l c b, fun i hi => ?_⟩
  have h := hv i hi
  have e : (extS l c b).getD i 0 = extV l c b i c.length := by
    rw [List.getD_eq_getElem?_getD, extS, List.getElem?_map, List.getElem?_range hi]; rfl
  rw [e, extV]
  split <;> omega
theorem wit_ok {l : List Dm} (hv : okL l) {sh : List Int} (h : witP l sh) : okS sh := okS_of fun i hi => by
  have h1 := h.2 i (by have := h.1; omega)
  have h2 := hv i (by have := h.1; omega)
  omega
theorem bnd_rng {l : List Dm} {c : List Lk} (h : lpE l c = 0) : (bndE l c).1 ≤ (bndE l c).2 := by
  have := bnd_wit (ext_wit (lpE_ok h).1.2 c false) c (lpE_ok h).2.2.2.2
  omega
theorem sum_ext {l : List Dm} {c : List Lk} (h : lpE l c = 0) (b : Bool) : sumL l c (extS l c b) = (if b = true then (bndE l c).2 else (bndE l c).1, 0) := by
  rw [sumL_yes h (extS_len l c b) (extS_ok (lpE_ok h).1.2 c b), bnd_tot_all (lpE_ok h).2.2.2.1]
  cases b <;> rfl
def sumR (l : List Dm) : List Lk → Int
  | [] => 0
  | x :: c => rngD l x + sumR l c
theorem sumR_bnd (l : List Dm) : ∀ c : List Lk, sumR l c = (bndE l c).2 - (bndE l c).1
  | [] => by simp [sumR, bndE]
  | x :: c => by
    have := conL_rng (l := l) x
    rw [sumR, sumR_bnd l c, bnd_cons]
    dsimp only
    omega
theorem sumR_pos {l : List Dm} (hv : okL l) : ∀ c : List Lk, (∀ x ∈ c, inR l x) → 0 ≤ sumR l c
  | [], _ => by simp [sumR]
  | x :: c, h => by
    have h1 := sumR_pos hv c fun y hy => h y (List.mem_cons_of_mem _ hy)
    have h2 := rngD_le hv (h x List.mem_cons_self)
    rw [sumR]; omega
theorem fil_other (l : List Dm) {i : Nat} : ∀ (d : List Lk) (p : List Int × Int), (∀ x ∈ d, ¬ x.dm.toNat = i) → (d.foldl (fil l) p).1.getD i 0 = p.1.getD i 0
  | [], _, _ => rfl
  | x :: d, p, h => by
    rw [List.foldl_cons, fil_other l d _ fun y hy => h y (List.mem_cons_of_mem _ hy)]
    show (p.1.set x.dm.toNat _).getD i 0 = _
    rw [getD_set', if_neg (fun e => h x List.mem_cons_self e.1)]
theorem fil_all {l : List Dm} (hv : okL l) : ∀ (d : List Lk) (p : List Int × Int), d.Pairwise (fun x y => ¬ x.dm.toNat = y.dm.toNat) → (∀ x ∈ d, inR l x) → witP l p.1 → 0 ≤ p.2 → p.2 ≤ sumR l d → (∀ x ∈ d, p.1.getD x.dm.toNat 0 = if x.bk = false then (dOf l x).lo else (dOf l x).hi) →
    (d.foldl (fil l) p).2 = 0 ∧ witP l (d.foldl (fil l) p).1 ∧ totE (d.foldl (fil l) p).1 d = totE p.1 d + p.2
  | [], p, _, _, hw, h0, h1, _ => by
    simp only [sumR] at h1
    refine ⟨show p.2 = 0 by omega, hw, ?_⟩
    show totE p.1 [] = totE p.1 [] + p.2
    omega
  | x :: d, p, hd, hr, hw, h0, h1, hb => by
    obtain ⟨hd1, hd2⟩ := List.pairwise_cons.1 hd
    have hx := hr x List.mem_cons_self
    have hrg := rngD_le hv hx
    have hmn := mnI_le h0 hrg.1
    have hbx := hb x List.mem_cons_self
    have hmd : mnI p.2 (rngD l x) = p.2 ∨ mnI p.2 (rngD l x) = rngD l x := by unfold mnI; split <;> simp
    have hil := in_dat hx
    have hset : (fil l p x).1.getD x.dm.toNat 0 = p.1.getD x.dm.toNat 0 + sgn x * mnI p.2 (rngD l x) := by
      show (p.1.set x.dm.toNat _).getD x.dm.toNat 0 = _
      rw [getD_set', if_pos ⟨rfl, by rw [hw.1]; exact hil⟩]
    have hoth : ∀ i, ¬ x.dm.toNat = i → (fil l p x).1.getD i 0 = p.1.getD i 0 := by
      intro i hi
      show (p.1.set x.dm.toNat _).getD i 0 = _
      rw [getD_set', if_neg (fun e => hi e.1)]
    have hw' : witP l (fil l p x).1 := by
      refine ⟨by show (p.1.set _ _).length = _; rw [List.length_set, hw.1], fun i hi => ?_⟩
      by_cases e : x.dm.toNat = i
      · subst e
        rw [hset, hbx]
        show (dOf l x).lo ≤ _ ∧ _ ≤ (dOf l x).hi
        have hre : rngD l x = (dOf l x).hi - (dOf l x).lo := rfl
        by_cases hk : x.bk = true
        · rw [if_neg (by simp [hk]), show sgn x = -1 from if_pos hk]; omega
        · rw [if_pos (by simpa using hk), show sgn x = 1 from if_neg hk]; omega
      · rw [hoth i e]; exact hw.2 i hi
    have hsr := sumR_pos hv d fun y hy => hr y (List.mem_cons_of_mem _ hy)
    simp only [sumR] at h1
    obtain ⟨i1, i2, i3⟩ := fil_all hv d (fil l p x) hd2 (fun y hy => hr y (List.mem_cons_of_mem _ hy)) hw' (show 0 ≤ p.2 - mnI p.2 (rngD l x) by omega) (show p.2 - mnI p.2 (rngD l x) ≤ sumR l d by omega) (fun y hy => by
      rw [hoth _ (hd1 y hy)]; exact hb y (List.mem_cons_of_mem _ hy))
    refine ⟨i1, i2, ?_⟩
    rw [tot_cons, List.foldl_cons, i3, fil_other l d _ (fun y hy e => hd1 y hy e.symm), hset, tot_cons, tot_congr d (fun y hy => hoth _ (hd1 y hy))]
    show sgn x * (p.1.getD x.dm.toNat 0 + sgn x * mnI p.2 (rngD l x)) + (totE p.1 d + (p.2 - mnI p.2 (rngD l x))) = _
    rcases sgn_or x with e | e <;> rw [e] <;> omega
theorem chain_pair {l : List Dm} {c : List Lk} (h : ∀ i, i < c.length → stp l c i = 0) : c.Pairwise (fun x y => ¬ x.dm.toNat = y.dm.toNat) := by
  rw [List.pairwise_iff_getElem]
  intro i j hi hj hij e
  have h1 := stp_inR (h i hi)
  have h2 := stp_inR (h j hj)
  have e1 : lat c i = c[i] := by simp [List.getD_eq_getElem?_getD, hi]
  have e2 : lat c j = c[j] := by simp [List.getD_eq_getElem?_getD, hj]
  have := stp_inj h hi hj (by rw [e1] at h1 ⊢; rw [e2] at h2 ⊢; have := h1.1; have := h2.1; omega)
  omega
theorem par_ok {l : List Dm} {c : List Lk} {s : Int} (h : lpE l c = 0) (h1 : (bndE l c).1 ≤ s) (h2 : s ≤ (bndE l c).2) : witP l (parE l c s) ∧ sumL l c (parE l c s) = (s, 0) := by
  have hp := lpE_ok h
  have hb := bnd_tot_all hp.2.2.2.1
  have key := fil_all hp.1.2 c (extS l c false, s - (bndE l c).1) (chain_pair hp.2.2.2.1) hp.2.2.2.2 (ext_wit hp.1.2 c false) (show 0 ≤ s - (bndE l c).1 by omega) (show s - (bndE l c).1 ≤ sumR l c by rw [sumR_bnd]; omega) (fun x hx => by
    obtain ⟨i, hi, rfl⟩ := List.mem_iff_getElem.1 hx
    have e1 : lat c i = c[i] := by simp [List.getD_eq_getElem?_getD, hi]
    have := extS_at hp.2.2.2.1 false hi
    rw [e1] at this
    exact this)
  have e : parE l c s = (c.foldl (fil l) (extS l c false, s - (bndE l c).1)).1 := by unfold parE filK; rw [List.take_length]
  rw [e]
  refine ⟨key.2.1, ?_⟩
  rw [sumL_yes h key.2.1.1 (wit_ok hp.1.2 key.2.1), key.2.2]
  show (totE (extS l c false) c + (s - (bndE l c).1), (0 : Int)) = _
  have : totE (extS l c false) c = (bndE l c).1 := by rw [hb]
  rw [this]
  simp only [Prod.mk.injEq, and_true]
  omega
theorem sum_wit {l : List Dm} {c : List Lk} {sh : List Int} (h : lpE l c = 0) (hw : witP l sh) : sumL l c sh = (totE sh c, 0) ∧ (bndE l c).1 ≤ totE sh c ∧ totE sh c ≤ (bndE l c).2 :=
  ⟨sumL_yes h hw.1 (wit_ok (lpE_ok h).1.2 hw), bnd_wit hw c (lpE_ok h).2.2.2.2⟩
end Go.Proofs.Ytkkgkghkmkigjaa
