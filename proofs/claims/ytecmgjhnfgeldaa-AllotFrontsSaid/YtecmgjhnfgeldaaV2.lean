/- Bounds along a solution, fronts and what width is worth, in plain words. No statement of the seat is proved here. -/
import Derived.Test.YtecmgjhnfgeldaaV1
import Derived.Test.YtecmgjhnfgeldaaVi
import Derived.Test.YtecmgjhnfgeldaaVu
namespace Go.Proofs.Ytecmgjhnfgeldaa.Al
set_option linter.unusedVariables false
set_option linter.unusedSimpArgs false
theorem wS_congr {ps : List Pt} {l l' : List Int} : ∀ k, (∀ j, j < k → l.getD j 0 = l'.getD j 0) → wS ps l k = wS ps l' k ∧ cS ps l k = cS ps l' k
  | 0, _ => ⟨rfl, rfl⟩
  | k + 1, h => by
    obtain ⟨h1, h2⟩ := wS_congr (ps := ps) k fun j hj => h j (by omega)
    have h3 : chO ps l k = chO ps l' k := by unfold chO; rw [h k (by omega)]
    rw [wS, wS, cS, cS, h1, h2, h3]
    exact ⟨rfl, rfl⟩
theorem take_get {l : List Int} {i j : Nat} (h : j < i) : (l.take i).getD j 0 = l.getD j 0 := by
  simp [List.getD_eq_getElem?_getD, List.getElem?_take, h]
theorem app_get {l : List Int} {z : Int} {j : Nat} (h : j < l.length) : (l ++ [z]).getD j 0 = l.getD j 0 := by
  simp [List.getD_eq_getElem?_getD, List.getElem?_append, h]
theorem app_last {l : List Int} {z : Int} : (l ++ [z]).getD l.length 0 = z := by
  simp [List.getD_eq_getElem?_getD]
theorem okL_congr {ps : List Pt} {l l' : List Int} {k : Nat} (h : ∀ j, j < k → l.getD j 0 = l'.getD j 0) (ho : okL ps l k) : okL ps l' k := fun i hi => by
  rw [← h i hi]; exact ho i hi
theorem rS_front (ps : List Pt) (q : Nat) : ∀ k, rS ps q (k + 1) = nar (ps.getD q pt0) + rS ps (q + 1) k
  | 0 => by show 0 + nar (ps.getD (q + 0) pt0) = nar (ps.getD q pt0) + 0; rw [Nat.add_zero]; omega
  | k + 1 => by
    rw [rS, rS_front ps q k, rS, Int.add_assoc, show q + (k + 1) = q + 1 + k by omega]
theorem bS_front (m T : Int) (ps : List Pt) (q : Nat) : ∀ k, bS m T ps q (k + 1) = bst m T (ps.getD q pt0) + bS m T ps (q + 1) k
  | 0 => by show 0 + bst m T (ps.getD (q + 0) pt0) = bst m T (ps.getD q pt0) + 0; rw [Nat.add_zero]; omega
  | k + 1 => by
    rw [bS, bS_front m T ps q k, bS, Int.add_assoc, show q + (k + 1) = q + 1 + k by omega]
theorem bst_mono {m T T' : Int} {p : Pt} (h : OkP p) (h1 : T ≤ T') (h2 : T' ≤ m) : bst m T p ≤ bst m T' p := by
  obtain ⟨j, hj, hf, hc⟩ := bstF_get (m := m) (t := T' - nar p) h (Nat.le_refl _) (bst_pos h h2)
  have := (bstF_fit (m := m) (t := T - nar p) h (Nat.le_refl _) hj (by omega)).2
  unfold bst
  omega
theorem bS_mono {m T T' : Int} {ps : List Pt} (ho : OkT m ps) (h1 : T ≤ T') (h2 : T' ≤ m) (q : Nat) : ∀ k, q + k ≤ ps.length → 0 ≤ bS m T ps q k ∧ bS m T ps q k ≤ bS m T' ps q k
  | 0, _ => ⟨Int.le_refl _, Int.le_refl _⟩
  | k + 1, hk => by
    have ih := bS_mono ho h1 h2 q k (by omega)
    have hp := ho.pt (q + k) (by omega)
    have h3 := bst_mono hp h1 h2
    have h4 := bst_pos (T := T) hp (Int.le_trans h1 h2)
    rw [bS, bS]
    change 0 ≤ bst m T (ps.getD (q + k) pt0) at h4
    omega
/-- the bound of the first i choices -/
def tI (ps : List Pt) (l : List Int) (i : Nat) : Int := wS ps l i + rS ps i (ps.length - i)
def bI (m : Int) (ps : List Pt) (l : List Int) (i : Nat) : Int := cS ps l i + bS m (tI ps l i) ps i (ps.length - i)
theorem tI_step {m : Int} {ps : List Pt} (ho : OkT m ps) {l : List Int} {i : Nat} (hi : i < ps.length) (hin : 0 ≤ l.getD i 0 ∧ l.getD i 0 < (ps.getD i pt0).cs.length) :
    tI ps l (i + 1) = tI ps l i - nar (ps.getD i pt0) + (ps.getD i pt0).wt * (chO ps l i).w ∧ tI ps l i ≤ tI ps l (i + 1) := by
  have h1 : tI ps l (i + 1) = tI ps l i - nar (ps.getD i pt0) + (ps.getD i pt0).wt * (chO ps l i).w := by
    unfold tI
    rw [wS, show ps.length - i = (ps.length - (i + 1)) + 1 by omega, rS_front]
    omega
  have h2 := nar_le (ho.pt i hi) (j := (l.getD i 0).toNat) (by omega)
  change nar (ps.getD i pt0) ≤ (ps.getD i pt0).wt * (chO ps l i).w at h2
  exact ⟨h1, by omega⟩
theorem tI_le {m : Int} {ps : List Pt} (ho : OkT m ps) {l : List Int} (hok : okL ps l ps.length) (hw : wS ps l ps.length ≤ m) : ∀ k i, i + k = ps.length → tI ps l i ≤ m
  | 0, i, e => by
    have e : i = ps.length := by omega
    subst e
    unfold tI
    rw [Nat.sub_self]
    show wS ps l ps.length + 0 ≤ m
    omega
  | k + 1, i, e => by
    have h1 := tI_le ho hok hw k (i + 1) (by omega)
    have h2 := (tI_step ho (l := l) (i := i) (by omega) (hok i (by omega))).2
    omega
theorem bI_step {m : Int} {ps : List Pt} (ho : OkT m ps) {l : List Int} (hok : okL ps l ps.length) (hw : wS ps l ps.length ≤ m) {i : Nat} (hi : i < ps.length) : bI m ps l i ≤ bI m ps l (i + 1) := by
  have hin := hok i hi
  obtain ⟨h1, h2⟩ := tI_step ho hi hin
  have h3 := tI_le ho hok hw (ps.length - (i + 1)) (i + 1) (by omega)
  have hp := ho.pt i hi
  have h4 := (bstF_fit (m := m) (t := tI ps l i - nar (ps.getD i pt0)) hp (Nat.le_refl _) (j := (l.getD i 0).toNat) (by omega) (by change _ + (ps.getD i pt0).wt * (chO ps l i).w ≤ m; omega)).2
  have h5 := (bS_mono ho h2 h3 (i + 1) (ps.length - (i + 1)) (by omega)).2
  unfold bI
  rw [cS, show ps.length - i = (ps.length - (i + 1)) + 1 by omega, bS_front]
  change bst m (tI ps l i) (ps.getD i pt0) ≤ (chO ps l i).c at h4
  omega
theorem bI_mono {m : Int} {ps : List Pt} (ho : OkT m ps) {l : List Int} (hok : okL ps l ps.length) (hw : wS ps l ps.length ≤ m) : ∀ k i, i + k ≤ ps.length → bI m ps l i ≤ bI m ps l (i + k)
  | 0, i, _ => Int.le_refl _
  | k + 1, i, h => Int.le_trans (bI_mono ho hok hw k i (by omega)) (bI_step ho hok hw (by omega))
theorem bI_end {m : Int} {ps : List Pt} {l : List Int} : bI m ps l ps.length = cS ps l ps.length := by
  unfold bI
  rw [Nat.sub_self]
  exact Int.add_zero _
theorem bI_pos {m : Int} {ps : List Pt} (ho : OkT m ps) {l : List Int} (hok : okL ps l ps.length) (hw : wS ps l ps.length ≤ m) : 0 ≤ bI m ps l 0 := by
  have h1 := tI_le ho hok hw ps.length 0 (by omega)
  have h2 := (bS_mono ho (Int.le_refl _) h1 0 (ps.length - 0) (by omega)).1
  unfold bI
  rw [cS]
  omega
/-- Bound along a solution -/
theorem bnd_sol {m n : Int} {ps : List Pt} {l : List Int} (hck : chkE m ps = 0) (hs : Sol m ps l n) {i : Nat} (hi : i ≤ l.length) : bndV m ps (l.take i) = (bI m ps l i, 0) := by
  have ho := chkE_ok hck
  have hli : (l.take i).length = i := by rw [List.length_take]; omega
  have hc := wS_congr (ps := ps) (l := l.take i) (l' := l) i fun j hj => take_get hj
  have hok : okL ps (l.take i) (l.take i).length := by
    rw [hli]
    exact okL_congr (fun j hj => (take_get hj).symm) fun j hj => hs.ok j (by omega)
  have hlen := hs.len
  have ht : totW ps (l.take i) = tI ps l i := by unfold totW tI; rw [hli, hc.1]
  have hle := tI_le ho (l := l) (by rw [← hs.len]; exact hs.ok) (by rw [← hs.len]; exact hs.wd) (ps.length - i) i (by omega)
  rw [bndV_0 hck (bgE_0 (by omega) hok) (by rw [ht]; omega), ht, hli, hc.2]
  rfl
theorem nar_pick {m : Int} {ps : List Pt} (ho : OkT m ps) : ∀ k, k ≤ ps.length → ∃ x : List Int, x.length = k ∧ okL ps x k ∧ wS ps x k = rS ps 0 k
  | 0, _ => ⟨[], rfl, fun i hi => by omega, rfl⟩
  | k + 1, hk => by
    obtain ⟨x, h1, h2, h3⟩ := nar_pick ho k (by omega)
    obtain ⟨j, hj, hn⟩ := nar_mem (ho.pt k (by omega))
    have hlast : (x ++ [(j : Int)]).getD k 0 = j := by rw [← h1]; exact app_last
    refine ⟨x ++ [(j : Int)], by simp [h1], ?_, ?_⟩
    · refine okL_succ (okL_congr (fun i hi => (app_get (by omega)).symm) h2) ?_
      rw [hlast]
      omega
    · rw [wS, rS, (wS_congr (ps := ps) (l := x ++ [(j : Int)]) (l' := x) k fun i hi => app_get (by omega)).1, h3, Nat.zero_add, hn]
      unfold chO
      rw [hlast, Int.toNat_natCast]
theorem bnd_none {m : Int} {ps : List Pt} (hck : chkE m ps = 0) (h1 : chpS (frF ps) m = none) : bndV m ps [] = (0, 6) := by
  have ho := chkE_ok hck
  obtain ⟨x, h2, h3, h4⟩ := nar_pick ho ps.length (Nat.le_refl _)
  have h5 := slv_none h1 h2 (by rw [h2]; exact h3)
  rw [h2, h4] at h5
  refine bndV_6 hck (bgE_0 (by simp) fun i hi => absurd hi (Nat.not_lt_zero _)) ?_
  show m < 0 + rS ps 0 (ps.length - 0)
  rw [Nat.sub_zero]
  omega
/-! ### the front -/
def lstF (F : List Pr2) (m : Int) : Nat → Int
  | 0 => -1
  | i + 1 => if (F.getD i (0, 0)).1 ≤ m then (F.getD i (0, 0)).2 else lstF F m i
theorem lstF_cnt {F : List Pr2} (hA : Asc F) (m : Int) : ∀ i, i ≤ F.length → lstF F m i = if min i (cntW F m) = 0 then -1 else (F.getD (min i (cntW F m) - 1) (0, 0)).2
  | 0, _ => by rw [Nat.zero_min, if_pos rfl]; rfl
  | i + 1, hi => by
    have hc := asc_cnt (w := m) hA i (by omega)
    rw [lstF]
    by_cases h : (F.getD i (0, 0)).1 ≤ m
    · rw [if_pos h]
      have := hc.1 h
      rw [show min (i + 1) (cntW F m) = i + 1 by omega, if_neg (by omega), Nat.add_sub_cancel]
    · rw [if_neg h, lstF_cnt hA m i (by omega)]
      have : ¬ i < cntW F m := fun h2 => h (hc.2 h2)
      rw [show min (i + 1) (cntW F m) = min i (cntW F m) by omega]
theorem lstF_none {F : List Pr2} {m : Int} (hA : Asc F) (h : chpS F m = none) : lstF F m F.length = -1 := by
  rw [lstF_cnt hA m _ (Nat.le_refl _)]
  unfold chpS at h
  split at h
  · rename_i h0; rw [h0, Nat.min_zero, if_pos rfl]
  · cases h
theorem lstF_some {F : List Pr2} {m c : Int} (hA : Asc F) (h : chpS F m = some c) : lstF F m F.length = c := by
  rw [lstF_cnt hA m _ (Nat.le_refl _)]
  unfold chpS at h
  split at h
  · cases h
  · rename_i h0
    have := cnt_le F m
    rw [show min F.length (cntW F m) = cntW F m by omega, if_neg h0]
    injection h
theorem frF_pos (ps : List Pt) (ho : ∀ p ∈ ps, OkP p) : 0 < (frF ps).length := by
  have hne : ∀ qs : List Pt, (∀ p ∈ qs, OkP p) → ∃ s, s ∈ sumsP (qs.map Pt.pl) := by
    intro qs
    induction qs with
    | nil => exact fun _ => ⟨(0, 0), List.mem_cons_self ..⟩
    | cons p qs ih =>
      intro h
      obtain ⟨s, hs⟩ := ih fun q hq => h q (List.mem_cons_of_mem _ hq)
      have h1 := (h p (List.mem_cons_self ..)).n1
      exact ⟨_, sumsP_mem.2 ⟨p.cs[0], List.getElem_mem _, s, hs, rfl⟩⟩
  obtain ⟨s, hs⟩ := hne ps ho
  obtain ⟨f, hf, _⟩ := (frF_front ps).dom s hs
  exact List.length_pos_of_mem hf
theorem asc_at {F : List Pr2} (hA : Asc F) {i : Nat} (h : i + 1 < F.length) : (F.getD i (0, 0)).1 < (F.getD (i + 1) (0, 0)).1 ∧ (F.getD (i + 1) (0, 0)).2 < (F.getD i (0, 0)).2 := by
  have h2 := List.pairwise_iff_getElem.1 hA i (i + 1) (by omega) h (by omega)
  rw [List.getD_eq_getElem?_getD, List.getElem?_eq_getElem (show i < F.length by omega), List.getD_eq_getElem?_getD, List.getElem?_eq_getElem h]
  exact h2
/-! ### what width is worth -/
theorem chp_mono {ps : List Pt} {w w' a : Int} (h : chpS (frF ps) w = some a) (hle : w ≤ w') : ∃ b, chpS (frF ps) w' = some b ∧ b ≤ a := by
  have hF := frF_front ps
  obtain ⟨⟨s, hs, hw, rfl⟩, _⟩ := (chp_some hF).1 h
  cases h2 : chpS (frF ps) w' with
  | none => exact absurd (by omega) ((chp_none hF).1 h2 s hs)
  | some b => exact ⟨b, rfl, ((chp_some hF).1 h2).2 s hs (by omega)⟩
theorem chkE_more {m k : Int} {ps : List Pt} (h : chkE m ps = 0) (h1 : 0 ≤ k) (h2 : m + k ≤ 1048576) : chkE (m + k) ps = 0 := by
  have ho := chkE_ok h
  have h3 := ho.m0
  unfold chkE at h ⊢
  rw [if_neg (by omega)] at h ⊢
  exact h
structure Adds (m : Int) (ps : List Pt) (a b : Int) (x y : Int) : Prop where
  x1 : wthV m ps a = (x, 0)
  y1 : wthV (m + a) ps b = (y, 0)
  z1 : wthV m ps (a + b) = (x + y, 0)
  x0 : 0 ≤ x ∧ x ≤ 100000000
  y0 : 0 ≤ y ∧ y ≤ 100000000
theorem wth_adds {m a b : Int} {ps : List Pt} (hck : chkE m ps = 0) (hm : m ≤ 524288) (ha : 0 ≤ a ∧ a ≤ 255) (hb : 0 ≤ b ∧ b ≤ 255) : wthV m ps a = (0, 6) ∨ ∃ x y, Adds m ps a b x y := by
  have ho := chkE_ok hck
  cases h : chpS (frF ps) m with
  | none => exact .inl (wthV_6 hck (by omega) h)
  | some c =>
    obtain ⟨d, hd, h1⟩ := chp_mono h (w' := m + a) (by omega)
    obtain ⟨e, he, h2⟩ := chp_mono hd (w' := m + a + b) (by omega)
    have b1 := chp_le ho h
    have b2 := chp_le ho hd
    have b3 := chp_le ho he
    refine .inr ⟨c - d, d - e, wthV_s hck (by omega) h hd, wthV_s (chkE_more hck ha.1 (by omega)) (by omega) hd he, ?_, by omega, by omega⟩
    rw [wthV_s hck (by omega) h (by rw [← Int.add_assoc]; exact he)]
    exact congrArg (fun z : Int => (z, (0 : Int))) (by omega)
end Go.Proofs.Ytecmgjhnfgeldaa.Al
