/- All chains and the shortest one of the program, in plain words. No statement of the seat is proved here. -/
import Derived.Test.YtagapiflfnbfiaaJz
import Derived.Test.YtagapiflfnbfiaaJr
namespace Go.Proofs.Ytagapiflfnbfiaa
set_option linter.unusedVariables false
set_option linter.unusedSimpArgs false
open Go Go.RowKit
theorem nlk_flp {l : List Dm} {ax : Int} {use : Nat → Bool} {k : Nat} : ∀ x ∈ nlk l ax use k, flp x ∈ nlk l ax use k := fun x hx => by
  obtain ⟨i, h1, h2, h3⟩ := (nlk_mem _).1 hx
  exact (nlk_mem _).2 ⟨i, h1, h2, h3⟩
theorem nlk_nodup (l : List Dm) (ax : Int) (use : Nat → Bool) : ∀ k : Nat, (nlk l ax use k).Nodup
  | 0 => List.nodup_nil
  | k + 1 => by
    rw [nlk, List.nodup_append]
    refine ⟨nlk_nodup l ax use k, ?_, fun x hx y hy e => ?_⟩
    · unfold two
      split
      · simp
      · exact List.nodup_nil
    · subst e
      obtain ⟨i, h1, h2, _⟩ := (nlk_mem _).1 hx
      unfold two at hy
      split at hy
      · simp at hy
        rcases hy with rfl | rfl <;> (simp at h2; omega)
      · cases hy
/-- all chains from one feature to another one -/
def pthA (l : List Dm) (ax : Int) (fr to : ByteArray) : List (List Lk) := pthS l (atS l (netL l ax)) to ((netL l ax).length + 1) fr [fr]
theorem pthA_iff {l : List Dm} {ax : Int} {fr to : ByteArray} {c : List Lk} : c ∈ pthA l ax fr to ↔ gp l (netL l ax) fr c to :=
  ⟨fun h => sp_gp.1 (pth_sp h), fun h => sp_pth (Nat.lt_succ_of_le (gp_len h)) (sp_gp.2 h)⟩
theorem pthA_nodup (l : List Dm) (ax : Int) (fr to : ByteArray) : (pthA l ax fr to).Nodup :=
  pth_nodup (fun a => (nlk_nodup l ax allU l.length).filter _) _ _ _
theorem pthA_flip {l : List Dm} {ax : Int} {fr to : ByteArray} : ((pthA l ax fr to).map rvL).Perm (pthA l ax to fr) := by
  refine (List.perm_ext_iff_of_nodup ?_ (pthA_nodup _ _ _ _)).2 fun c => ?_
  · exact List.pairwise_map.2 ((pthA_nodup l ax fr to).imp fun {c d} h e => h (by rw [← rvL_rvL c, e, rvL_rvL]))
  · rw [pthA_iff]
    constructor
    · intro h
      obtain ⟨d, hd, rfl⟩ := List.mem_map.1 h
      exact gp_rev nlk_flp (pthA_iff.1 hd)
    · intro h
      exact List.mem_map.2 ⟨rvL c, pthA_iff.2 (gp_rev nlk_flp h), rvL_rvL c⟩
theorem pthA_len {l : List Dm} {ax : Int} {fr to : ByteArray} : (pthA l ax fr to).length = (pthA l ax to fr).length := by
  rw [← pthA_flip.length_eq, List.length_map]
theorem allS_eq {l : List Dm} {ax : Int} {fr to : ByteArray} (h : askE l ax fr to = 0) : allS l ax fr to = if (pthA l ax fr to).length ≤ 16384 then (pthA l ax fr to, 0) else ([], 12) := by
  have h1 := growS_lists l (atS l (netL l ax)) to ((netL l ax).length + 1) fr [] [fr] [] (by simp)
  unfold allS runG
  rw [if_pos h]
  by_cases hr : (pthA l ax fr to).length ≤ 16384
  · have h2 := h1.1 (by rw [List.length_nil, Nat.zero_add]; exact hr)
    rw [h2, if_pos hr, if_pos rfl]
    simp [pthA]
  · have h2 := h1.2 (by rw [List.length_nil, Nat.zero_add]; exact Nat.lt_of_not_le hr)
    rw [if_neg (by rw [h2]; simp), if_neg hr]
theorem askE_flip {l : List Dm} {ax : Int} {fr to : ByteArray} : askE l ax fr to = 0 ↔ askE l ax to fr = 0 := by
  unfold askE
  by_cases h1 : givenE l = 0
  · by_cases h2 : ax < 0 ∨ 3 ≤ ax
    · simp [h1, h2]
    · by_cases h3 : nameE fr = 0
      · by_cases h4 : nameE to = 0
        · simp only [h1, h2, h3, h4, not_true_eq_false, if_false]
          by_cases h5 : fr = to
          · subst h5; simp
          · rw [if_neg h5, if_neg (fun e => h5 e.symm)]
        · simp [h1, h2, h3, h4]
      · by_cases h4 : nameE to = 0
        · simp [h1, h2, h3, h4]
        · simp [h1, h2, h3, h4]
  · simp [h1]
/-! ### such a chain is one for the checks -/
theorem gp_pt {l : List Dm} {L : List Lk} : ∀ {c : List Lk} {a b : ByteArray} {i : Nat}, lnk l L a c b → i < c.length → begE l (lat c i) = (a :: c.map (stoE l)).getD i a
  | [], _, _, i, _, hi => by simp at hi
  | y :: c, a, b, 0, ⟨_, h2, _⟩, _ => h2
  | y :: c, a, b, i + 1, ⟨_, _, h3⟩, hi => by
    have h := gp_pt (i := i) h3 (by simpa using hi)
    show begE l (lat c i) = (stoE l y :: c.map (stoE l)).getD i a
    rw [h]
    have hl : i < (stoE l y :: c.map (stoE l)).length := by simp at hi ⊢; omega
    simp [List.getD_eq_getElem?_getD, List.getElem?_eq_getElem hl]
theorem gp_pts {l : List Dm} {L : List Lk} {c : List Lk} {a b : ByteArray} (h : lnk l L a c b) (h0 : 0 < c.length) : ∀ i, i ≤ c.length → ptS l c i = (a :: c.map (stoE l)).getD i a
  | 0, _ => gp_pt h h0
  | i + 1, hi => by
    show stoE l (lat c i) = (c.map (stoE l)).getD i a
    have hi' : i < c.length := hi
    simp [List.getD_eq_getElem?_getD, hi']
theorem nodup_getD {α : Type} {z : α} {xs : List α} (h : xs.Nodup) {i j : Nat} (hi : i < xs.length) (hj : j < xs.length) (e : xs.getD i z = xs.getD j z) : i = j := by
  simp only [List.getD_eq_getElem?_getD, List.getElem?_eq_getElem hi, List.getElem?_eq_getElem hj, Option.getD_some] at e
  have hp := List.pairwise_iff_getElem.1 h
  rcases Nat.lt_trichotomy i j with h1 | h1 | h1
  · exact absurd e (hp i j hi hj h1)
  · exact h1
  · exact absurd e.symm (hp j i hj hi h1)
theorem gp_pne {l : List Dm} {L : List Lk} {c : List Lk} {a b : ByteArray} (h : gp l L a c b) (h0 : 0 < c.length) {i j : Nat} (hi : i ≤ c.length) (hj : j ≤ c.length) (e : ptS l c i = ptS l c j) : i = j := by
  rw [gp_pts h.1 h0 i hi, gp_pts h.1 h0 j hj] at e
  exact nodup_getD h.2 (by simp; omega) (by simp; omega) e
theorem gp_rc {l : List Dm} {ax : Int} {use : Nat → Bool} {c : List Lk} {a b : ByteArray} (h : gp l (nlk l ax use l.length) a c b) (h0 : 0 < c.length) : RC l c := by
  have hm : ∀ i, i < c.length → ∃ k : Nat, k < l.length ∧ (lat c i).dm = k ∧ (dat l k).ax = ax ∧ use k = true := fun i hi => (nlk_mem _).1 (lnk_mem h.1 _ (getD_mem lk0 hi))
  have hlink : ∀ i, i < c.length → begE l (lat c i) = ptS l c i := fun i hi => by rw [gp_pts h.1 h0 i (by omega), gp_pt h.1 hi]
  refine ⟨fun i hi => ?_, fun i j hi hj => ?_, hlink, fun i j hi hj e => ?_, fun i j hij hj _ e => ?_⟩
  · obtain ⟨k, h1, h2, _⟩ := hm i hi
    unfold inR; omega
  · obtain ⟨k, _, h2, h3, _⟩ := hm i hi
    obtain ⟨k', _, h2', h3', _⟩ := hm j hj
    show (dat l (lat c i).dm.toNat).ax = (dat l (lat c j).dm.toNat).ax
    rw [h2, h2']
    simp only [Int.toNat_natCast]
    rw [h3, h3']
  · have b1 := hlink i hi
    have b2 := hlink j hj
    have s1 : stoE l (lat c i) = ptS l c (i + 1) := rfl
    have s2 : stoE l (lat c j) = ptS l c (j + 1) := rfl
    have hd : dOf l (lat c i) = dOf l (lat c j) := by unfold dOf; rw [e]
    unfold begE at b1 b2
    unfold stoE at s1 s2
    rw [hd] at b1 s1
    by_cases k1 : (lat c i).bk = true
    · by_cases k2 : (lat c j).bk = true
      · rw [if_pos k1] at b1; rw [if_pos k2] at b2
        exact gp_pne h h0 (by omega) (by omega) (b1.symm.trans b2)
      · rw [if_pos k1] at b1 s1; rw [if_neg k2] at b2 s2
        have e1 := gp_pne h h0 (i := i) (j := j + 1) (by omega) (by omega) (b1.symm.trans s2)
        have e2 := gp_pne h h0 (i := i + 1) (j := j) (by omega) (by omega) (s1.symm.trans b2)
        omega
    · by_cases k2 : (lat c j).bk = true
      · rw [if_neg k1] at b1 s1; rw [if_pos k2] at b2 s2
        have e1 := gp_pne h h0 (i := i) (j := j + 1) (by omega) (by omega) (b1.symm.trans s2)
        have e2 := gp_pne h h0 (i := i + 1) (j := j) (by omega) (by omega) (s1.symm.trans b2)
        omega
      · rw [if_neg k1] at b1; rw [if_neg k2] at b2
        exact gp_pne h h0 (by omega) (by omega) (b1.symm.trans b2)
  · have := gp_pne h h0 (by omega) hj e
    omega
theorem rc_len {l : List Dm} {c : List Lk} (h : RC l c) : c.length ≤ l.length := by
  have h1 : (c.map fun x => x.dm.toNat).Nodup := by
    refine List.pairwise_iff_getElem.2 fun i j hi hj hij e => ?_
    simp only [List.length_map] at hi hj
    simp only [List.getElem_map] at e
    have hl : ∀ k (hk : k < c.length), lat c k = c[k] := fun k hk => getDL hk
    have r1 := h.inr i hi
    have r2 := h.inr j hj
    have := h.dist i j hi hj (by
      have e2 : (lat c i).dm.toNat = (lat c j).dm.toNat := by rw [hl i hi, hl j hj]; exact e
      have := r1.1; have := r2.1
      omega)
    omega
  have h2 := h1.length_le_of_subset (l₂ := List.range l.length) fun k hk => by
    obtain ⟨x, hx, rfl⟩ := List.mem_map.1 hk
    obtain ⟨i, hi, rfl⟩ := List.mem_iff_getElem.1 hx
    have r1 := h.inr i hi
    rw [show lat c i = c[i] from getDL hi] at r1
    exact List.mem_range.2 (in_dat r1)
  simpa using h2
theorem gp_lpE {l : List Dm} {ax : Int} {use : Nat → Bool} {c : List Lk} {a b : ByteArray} (hg : givenE l = 0) (h : gp l (nlk l ax use l.length) a c b) (h0 : 0 < c.length) : lpE l c = 0 := by
  have hr := gp_rc h h0
  have := rc_len hr
  have := (givenE_all hg).1
  exact lpE_of hg (chE_of h0 (by omega) (stp_of hr))
theorem gp_ends {l : List Dm} {L : List Lk} {c : List Lk} {a b : ByteArray} (h : lnk l L a c b) (h0 : 0 < c.length) : begE l (lat c 0) = a ∧ stoE l (lat c (c.length - 1)) = b := by
  refine ⟨gp_pt h h0, ?_⟩
  have key : ∀ {c : List Lk} {a b : ByteArray}, lnk l L a c b → 0 < c.length → stoE l (lat c (c.length - 1)) = b := by
    intro c
    induction c with
    | nil => intro a b _ h0; simp at h0
    | cons y c ih =>
      intro a b h h0
      obtain ⟨_, _, h3⟩ := h
      by_cases hc : c = []
      · subst hc; exact h3
      · have hc' : 0 < c.length := List.length_pos_iff.2 hc
        have := ih h3 hc'
        show stoE l ((y :: c).getD (c.length + 1 - 1) lk0) = b
        rw [← this]
        obtain ⟨n, hn⟩ : ∃ n, c.length = n + 1 := ⟨c.length - 1, by omega⟩
        rw [hn]; rfl
  exact key h h0
theorem gp_pos {l : List Dm} {L : List Lk} {c : List Lk} {a b : ByteArray} (h : lnk l L a c b) (hn : ¬ a = b) : 0 < c.length := by
  cases c with
  | nil => exact absurd h hn
  | cons y c => simp
end Go.Proofs.Ytagapiflfnbfiaa
