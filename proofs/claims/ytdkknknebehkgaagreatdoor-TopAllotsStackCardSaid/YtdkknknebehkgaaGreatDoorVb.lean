/- Fronts of pairs, least costs and first picks, in plain words. No statement of the seat is proved here. -/
/- First picks in plain words. No statement of the seat is proved here. -/
import Derived.Test.YtdkknknebehkgaaGreatDoorEngA
namespace Go.Proofs.YtdkknknebehkgaaGreatDoor
set_option linter.unusedVariables false
set_option linter.unusedSimpArgs false
structure Ch where
  w : Int
  c : Int
def ch0 : Ch := ⟨0, 0⟩
abbrev PP := Int × List Ch
abbrev Pr2 := Int × Int
theorem pr2_eta {a b : Pr2} (h1 : a.1 = b.1) (h2 : a.2 = b.2) : a = b := by cases a; cases b; dsimp only at h1 h2; rw [h1, h2]
/-! ### fronts -/
structure IsFront (F S : List Pr2) : Prop where
  sub : ∀ f ∈ F, f ∈ S
  dom : ∀ s ∈ S, ∃ f ∈ F, f.1 ≤ s.1 ∧ f.2 ≤ s.2
  asc : F.Pairwise fun a b => a.1 < b.1 ∧ b.2 < a.2
theorem asc_eq {F : List Pr2} (h : F.Pairwise fun a b => a.1 < b.1 ∧ b.2 < a.2) {x y : Pr2} (hx : x ∈ F) (hy : y ∈ F) (h1 : x.1 ≤ y.1) (h2 : x.2 ≤ y.2) : x = y := by
  obtain ⟨i, hi, rfl⟩ := List.mem_iff_getElem.1 hx
  obtain ⟨j, hj, rfl⟩ := List.mem_iff_getElem.1 hy
  have hp := List.pairwise_iff_getElem.1 h
  rcases Nat.lt_trichotomy i j with hij | hij | hij
  · have := hp i j hi hj hij; omega
  · subst hij; rfl
  · have := hp j i hj hi hij; omega
theorem sort_uniq {α : Type} {R : α → α → Prop} (hR : ∀ a b, R a b → R b a → False) : ∀ {xs ys : List α}, xs.Perm ys → xs.Pairwise R → ys.Pairwise R → xs = ys
  | [], ys, h, _, _ => (List.nil_perm.1 h).symm
  | x :: xs, [], h, _, _ => by have := h.length_eq; simp at this
  | x :: xs, y :: ys, h, h1, h2 => by
    rw [List.pairwise_cons] at h1 h2
    have e : x = y := by
      rcases List.mem_cons.1 (h.subset (List.mem_cons_self ..)) with e | hx
      · exact e
      · rcases List.mem_cons.1 (h.symm.subset (List.mem_cons_self ..)) with e | hy
        · exact e.symm
        · exact (hR _ _ (h1.1 _ hy) (h2.1 _ hx)).elim
    subst e
    rw [sort_uniq hR (List.Perm.cons_inv h) h1.2 h2.2]
theorem front_uniq {F G S T : List Pr2} (h : IsFront F S) (k : IsFront G T) (hST : ∀ x, x ∈ S ↔ x ∈ T) : F = G := by
  have key : ∀ {F G S T : List Pr2}, IsFront F S → IsFront G T → (∀ x, x ∈ S ↔ x ∈ T) → ∀ f ∈ F, f ∈ G := fun {F G S T} h k e f hf => by
    obtain ⟨g, hg, g1, g2⟩ := k.dom f ((e f).1 (h.sub f hf))
    obtain ⟨f', hf', f1, f2⟩ := h.dom g ((e g).2 (k.sub g hg))
    have e1 := asc_eq h.asc hf' hf (by omega) (by omega)
    subst e1
    have e2 : f' = g := pr2_eta (by omega) (by omega)
    rw [e2]; exact hg
  have nd : ∀ {F S : List Pr2}, IsFront F S → F.Nodup := fun h => h.asc.imp fun {a b} hab e => by rw [e] at hab; omega
  refine sort_uniq (R := fun a b : Pr2 => a.1 < b.1 ∧ b.2 < a.2) (fun a b h1 h2 => by omega) ?_ h.asc k.asc
  exact (List.perm_ext_iff_of_nodup (nd h) (nd k)).2 fun x => ⟨key h k hST x, key k h (fun x => (hST x).symm) x⟩
/-- all sums of picks, the first part in front -/
def sumsP : List PP → List Pr2
  | [] => [(0, 0)]
  | p :: ps => p.2.flatMap fun c => (sumsP ps).map fun s => (p.1 * c.w + s.1, c.c + s.2)
/-- the sums of a front and a part, as the program makes them -/
def pairS (F : List Pr2) (p : PP) : List Pr2 := F.flatMap fun x => p.2.map fun c => (x.1 + p.1 * c.w, x.2 + c.c)
theorem pairS_mem {F : List Pr2} {p : PP} {y : Pr2} : y ∈ pairS F p ↔ ∃ x ∈ F, ∃ c ∈ p.2, y = (x.1 + p.1 * c.w, x.2 + c.c) := by
  unfold pairS
  rw [List.mem_flatMap]
  constructor
  · rintro ⟨x, hx, hy⟩
    obtain ⟨c, hc, rfl⟩ := List.mem_map.1 hy
    exact ⟨x, hx, c, hc, rfl⟩
  · rintro ⟨x, hx, c, hc, rfl⟩
    exact ⟨x, hx, List.mem_map.2 ⟨c, hc, rfl⟩⟩
theorem sumsP_mem {p : PP} {ps : List PP} {y : Pr2} : y ∈ sumsP (p :: ps) ↔ ∃ c ∈ p.2, ∃ s ∈ sumsP ps, y = (p.1 * c.w + s.1, c.c + s.2) := by
  rw [sumsP, List.mem_flatMap]
  constructor
  · rintro ⟨c, hc, hy⟩
    obtain ⟨s, hs, rfl⟩ := List.mem_map.1 hy
    exact ⟨c, hc, s, hs, rfl⟩
  · rintro ⟨c, hc, s, hs, rfl⟩
    exact ⟨c, hc, List.mem_map.2 ⟨s, hs, rfl⟩⟩
def lexLe (a b : Pr2) : Prop := a.1 < b.1 ∨ (a.1 = b.1 ∧ a.2 ≤ b.2)
/-- those that are cheaper than all before -/
def keepC : Option Int → List Pr2 → List Pr2
  | _, [] => []
  | none, x :: xs => x :: keepC (some x.2) xs
  | some m, x :: xs => if x.2 < m then x :: keepC (some x.2) xs else keepC (some m) xs
theorem keepC_sub : ∀ {xs : List Pr2} {m : Option Int} {f : Pr2}, f ∈ keepC m xs → f ∈ xs
  | [], m, f, h => by cases m <;> cases h
  | x :: xs, none, f, h => by
    rcases List.mem_cons.1 h with rfl | h
    · exact List.mem_cons_self ..
    · exact List.mem_cons_of_mem _ (keepC_sub h)
  | x :: xs, some m, f, h => by
    rw [keepC] at h
    split at h
    · rcases List.mem_cons.1 h with rfl | h
      · exact List.mem_cons_self ..
      · exact List.mem_cons_of_mem _ (keepC_sub h)
    · exact List.mem_cons_of_mem _ (keepC_sub h)
theorem keepC_lt : ∀ {xs : List Pr2} {m : Int} {f : Pr2}, f ∈ keepC (some m) xs → f.2 < m
  | [], m, f, h => by cases h
  | x :: xs, m, f, h => by
    rw [keepC] at h
    split at h
    · rename_i hx
      rcases List.mem_cons.1 h with rfl | h
      · exact hx
      · have := keepC_lt h; omega
    · exact keepC_lt h
theorem keepC_dom : ∀ {xs : List Pr2} {m : Int}, xs.Pairwise lexLe → ∀ s ∈ xs, s.2 < m → ∃ f ∈ keepC (some m) xs, f.1 ≤ s.1 ∧ f.2 ≤ s.2
  | [], m, _, s, hs, _ => by cases hs
  | x :: xs, m, hp, s, hs, hm => by
    rw [List.pairwise_cons] at hp
    rw [keepC]
    split
    · rename_i hx
      rcases List.mem_cons.1 hs with rfl | hs
      · exact ⟨s, List.mem_cons_self .., by omega, by omega⟩
      · by_cases hlt : s.2 < x.2
        · obtain ⟨f, hf, h1, h2⟩ := keepC_dom (m := x.2) hp.2 s hs hlt
          exact ⟨f, List.mem_cons_of_mem _ hf, h1, h2⟩
        · have := hp.1 s hs
          unfold lexLe at this
          exact ⟨x, List.mem_cons_self .., by omega, by omega⟩
    · rename_i hx
      rcases List.mem_cons.1 hs with rfl | hs
      · exact absurd hm hx
      · exact keepC_dom hp.2 s hs hm
theorem keepC_asc : ∀ {xs : List Pr2} {m : Option Int}, xs.Pairwise lexLe → (keepC m xs).Pairwise fun a b => a.1 < b.1 ∧ b.2 < a.2
  | [], m, _ => by cases m <;> exact List.Pairwise.nil
  | x :: xs, m, hp => by
    rw [List.pairwise_cons] at hp
    have hc : (x :: keepC (some x.2) xs).Pairwise fun a b => a.1 < b.1 ∧ b.2 < a.2 := by
      rw [List.pairwise_cons]
      refine ⟨fun b hb => ?_, keepC_asc hp.2⟩
      have h1 := keepC_lt hb
      have h2 := hp.1 b (keepC_sub hb)
      unfold lexLe at h2
      omega
    cases m with
    | none => exact hc
    | some m =>
      rw [keepC]
      split
      · exact hc
      · exact keepC_asc hp.2
theorem keepC_front {xs : List Pr2} (h : xs.Pairwise lexLe) : IsFront (keepC none xs) xs where
  sub f hf := keepC_sub hf
  asc := keepC_asc h
  dom s hs := by
    cases xs with
    | nil => cases hs
    | cons x xs =>
      rw [List.pairwise_cons] at h
      rcases List.mem_cons.1 hs with rfl | hs
      · exact ⟨s, List.mem_cons_self .., by omega, by omega⟩
      · by_cases hlt : s.2 < x.2
        · obtain ⟨f, hf, h1, h2⟩ := keepC_dom (m := x.2) h.2 s hs hlt
          exact ⟨f, List.mem_cons_of_mem _ hf, h1, h2⟩
        · have := h.1 s hs
          unfold lexLe at this
          exact ⟨x, List.mem_cons_self .., by omega, by omega⟩
theorem front_perm {F S T : List Pr2} (h : IsFront F S) (e : ∀ x, x ∈ S ↔ x ∈ T) : IsFront F T :=
  ⟨fun f hf => (e f).1 (h.sub f hf), fun s hs => h.dom s ((e s).2 hs), h.asc⟩
/-- the front of sums of a front is the front of all sums -/
theorem front_step {F G : List Pr2} {p : PP} {ps : List PP} (hF : IsFront F (sumsP ps)) (hG : IsFront G (pairS F p)) : IsFront G (sumsP (p :: ps)) where
  asc := hG.asc
  sub g hg := by
    obtain ⟨x, hx, c, hc, e⟩ := pairS_mem.1 (hG.sub g hg)
    exact sumsP_mem.2 ⟨c, hc, x, hF.sub x hx, by rw [e, Int.add_comm x.1, Int.add_comm x.2]⟩
  dom s hs := by
    obtain ⟨c, hc, t, ht, rfl⟩ := sumsP_mem.1 hs
    obtain ⟨f, hf, f1, f2⟩ := hF.dom t ht
    obtain ⟨g, hg, g1, g2⟩ := hG.dom (f.1 + p.1 * c.w, f.2 + c.c) (pairS_mem.2 ⟨f, hf, c, hc, rfl⟩)
    dsimp only at g1 g2
    exact ⟨g, hg, by dsimp only; omega, by dsimp only; omega⟩
/-! ### the least cost for a width -/
/-- how many of a front are within a width -/
def cntW (F : List Pr2) (w : Int) : Nat := (F.filter fun x => decide (x.1 ≤ w)).length
def chpS (F : List Pr2) (w : Int) : Option Int := if cntW F w = 0 then none else some (F.getD (cntW F w - 1) (0, 0)).2
theorem cnt_le (F : List Pr2) (w : Int) : cntW F w ≤ F.length := List.length_filter_le _ _
theorem asc_cnt : ∀ {F : List Pr2} {w : Int}, (F.Pairwise fun a b => a.1 < b.1 ∧ b.2 < a.2) → ∀ i, i < F.length → ((F.getD i (0, 0)).1 ≤ w ↔ i < cntW F w)
  | [], w, _, i, hi => by simp at hi
  | x :: F, w, h, i, hi => by
    rw [List.pairwise_cons] at h
    have ih := asc_cnt (F := F) (w := w) h.2
    unfold cntW at *
    by_cases hx : x.1 ≤ w
    · rw [List.filter_cons, if_pos (by simpa using hx), List.length_cons]
      cases i with
      | zero => exact ⟨fun _ => Nat.succ_pos _, fun _ => hx⟩
      | succ i =>
        have := ih i (by simpa using hi)
        show (F.getD i (0, 0)).1 ≤ w ↔ _
        rw [this]; omega
    · have hno : (F.filter fun x => decide (x.1 ≤ w)).length = 0 := by
        rw [List.length_eq_zero_iff, List.filter_eq_nil_iff]
        intro y hy
        have := (h.1 y hy).1
        simp; omega
      rw [List.filter_cons, if_neg (by simpa using hx), hno]
      refine ⟨fun h2 => ?_, fun h2 => by omega⟩
      cases i with
      | zero => exact absurd h2 hx
      | succ i =>
        have := (ih i (by simpa using hi)).1 h2
        rw [hno] at this
        omega
theorem getD_memP {F : List Pr2} {i : Nat} (h : i < F.length) : F.getD i (0, 0) ∈ F := by
  rw [List.getD_eq_getElem?_getD, List.getElem?_eq_getElem h]; exact List.getElem_mem h
theorem mem_getDP {F : List Pr2} {x : Pr2} (h : x ∈ F) : ∃ i, i < F.length ∧ F.getD i (0, 0) = x := by
  obtain ⟨i, hi, rfl⟩ := List.mem_iff_getElem.1 h
  exact ⟨i, hi, by simp [List.getD_eq_getElem?_getD, hi]⟩
/-- m is the least cost of the sums within a width -/
def LeastC (S : List Pr2) (w m : Int) : Prop := (∃ s ∈ S, s.1 ≤ w ∧ s.2 = m) ∧ ∀ s ∈ S, s.1 ≤ w → m ≤ s.2
theorem least_uniq {S : List Pr2} {w m m' : Int} (h : LeastC S w m) (k : LeastC S w m') : m = m' := by
  obtain ⟨⟨s, h1, h2, rfl⟩, h3⟩ := h
  obtain ⟨⟨t, k1, k2, rfl⟩, k3⟩ := k
  have := h3 t k1 k2
  have := k3 s h1 h2
  omega
theorem chp_some {F S : List Pr2} {w m : Int} (h : IsFront F S) : chpS F w = some m ↔ LeastC S w m := by
  have key : ∀ n : Nat, cntW F w = n + 1 → LeastC S w (F.getD n (0, 0)).2 := fun n hn => by
    have hlt : n < F.length := by have := cnt_le F w; omega
    have hm := getD_memP hlt
    refine ⟨⟨_, h.sub _ hm, (asc_cnt (w := w) h.asc n hlt).2 (by omega), rfl⟩, fun s hs hw => ?_⟩
    obtain ⟨f, hf, f1, f2⟩ := h.dom s hs
    obtain ⟨i, hi, rfl⟩ := mem_getDP hf
    have hic := (asc_cnt (w := w) h.asc i hi).1 (by omega)
    by_cases e : i = n
    · subst e; exact f2
    · have hp := List.pairwise_iff_getElem.1 h.asc i n hi hlt (by omega)
      have e1 : F.getD i (0, 0) = F[i] := by simp [List.getD_eq_getElem?_getD, hi]
      have e2 : F.getD n (0, 0) = F[n] := by simp [List.getD_eq_getElem?_getD, hlt]
      rw [e2]
      rw [e1] at f2
      omega
  unfold chpS
  by_cases h0 : cntW F w = 0
  · rw [if_pos h0]
    refine ⟨fun h1 => (by cases h1), fun hq => ?_⟩
    obtain ⟨⟨s, hs, hw, _⟩, _⟩ := hq
    obtain ⟨f, hf, f1, _⟩ := h.dom s hs
    obtain ⟨i, hi, rfl⟩ := mem_getDP hf
    have := (asc_cnt (w := w) h.asc i hi).1 (by omega)
    omega
  · rw [if_neg h0]
    obtain ⟨n, hn⟩ : ∃ n, cntW F w = n + 1 := ⟨cntW F w - 1, by omega⟩
    rw [hn, Nat.add_sub_cancel]
    have := key n hn
    refine ⟨fun h1 => by injection h1 with h1; rw [← h1]; exact this, fun h1 => by rw [least_uniq this h1]⟩
theorem chp_none {F S : List Pr2} {w : Int} (h : IsFront F S) : chpS F w = none ↔ ∀ s ∈ S, ¬ s.1 ≤ w := by
  constructor
  · intro h1 s hs hw
    obtain ⟨f, hf, f1, _⟩ := h.dom s hs
    obtain ⟨i, hi, rfl⟩ := mem_getDP hf
    have := (asc_cnt (w := w) h.asc i hi).1 (by omega)
    unfold chpS at h1
    rw [if_neg (by omega)] at h1
    cases h1
  · intro h1
    unfold chpS
    by_cases h0 : cntW F w = 0
    · rw [if_pos h0]
    · have hlt : 0 < F.length := by have := cnt_le F w; omega
      exact absurd ((asc_cnt (w := w) h.asc 0 hlt).2 (by omega)) (h1 _ (h.sub _ (getD_memP hlt)))
end Go.Proofs.YtdkknknebehkgaaGreatDoor

namespace Go.Proofs.YtdkknknebehkgaaGreatDoor
set_option linter.unusedVariables false
set_option linter.unusedSimpArgs false
/-- the fronts of the parts from each one on -/
def frontsI (ps : List PP) (F : List Pr2) : Prop := IsFront F (sumsP ps)
theorem front_nil : IsFront [((0 : Int), (0 : Int))] (sumsP []) where
  sub f hf := hf
  dom s hs := ⟨s, hs, by omega, by omega⟩
  asc := by simp
/-- all picks, in order -/
def picksP : List PP → List (List Nat)
  | [] => [[]]
  | p :: ps => (List.range p.2.length).flatMap fun k => (picksP ps).map (k :: ·)
/-- the width and the cost of a begun pick -/
def wgtP : List PP → List Nat → Pr2
  | p :: ps, k :: l => (p.1 * (p.2.getD k ch0).w + (wgtP ps l).1, (p.2.getD k ch0).c + (wgtP ps l).2)
  | _, _ => (0, 0)
theorem wgtP_cons (p : PP) (ps : List PP) (k : Nat) (l : List Nat) : wgtP (p :: ps) (k :: l) = (p.1 * (p.2.getD k ch0).w + (wgtP ps l).1, (p.2.getD k ch0).c + (wgtP ps l).2) := rfl
theorem picks_len : ∀ {ps : List PP} {l : List Nat}, l ∈ picksP ps → l.length = ps.length
  | [], l, h => by simp [picksP] at h; subst h; rfl
  | p :: ps, l, h => by
    rw [picksP, List.mem_flatMap] at h
    obtain ⟨k, _, h⟩ := h
    obtain ⟨l', hl, rfl⟩ := List.mem_map.1 h
    simp [picks_len hl]
theorem picks_mem : ∀ {ps : List PP} {l : List Nat}, l ∈ picksP ps ↔ l.length = ps.length ∧ ∀ i, i < l.length → l.getD i 0 < (ps.getD i (0, [])).2.length
  | [], l => by
    simp only [picksP, List.mem_singleton]
    constructor
    · rintro rfl; exact ⟨rfl, fun i hi => by simp at hi⟩
    · rintro ⟨h, _⟩; exact List.length_eq_zero_iff.1 h
  | p :: ps, l => by
    rw [picksP, List.mem_flatMap]
    constructor
    · rintro ⟨k, hk, h⟩
      obtain ⟨l', hl, rfl⟩ := List.mem_map.1 h
      obtain ⟨h1, h2⟩ := picks_mem.1 hl
      rw [List.mem_range] at hk
      refine ⟨by simp [h1], fun i hi => ?_⟩
      cases i with
      | zero => exact hk
      | succ i => exact h2 i (by simpa using hi)
    · rintro ⟨h1, h2⟩
      cases l with
      | nil => simp at h1
      | cons k l =>
        refine ⟨k, List.mem_range.2 (h2 0 (by simp)), List.mem_map.2 ⟨l, picks_mem.2 ⟨by simpa using h1, fun i hi => h2 (i + 1) (by simpa using hi)⟩, rfl⟩⟩
theorem sums_picks : ∀ {ps : List PP} {y : Pr2}, y ∈ sumsP ps ↔ ∃ l ∈ picksP ps, wgtP ps l = y
  | [], y => by simp [sumsP, picksP, wgtP, eq_comm]
  | p :: ps, y => by
    rw [sumsP_mem]
    constructor
    · rintro ⟨c, hc, s, hs, rfl⟩
      obtain ⟨l, hl, rfl⟩ := sums_picks.1 hs
      obtain ⟨k, hk, rfl⟩ := List.mem_iff_getElem.1 hc
      refine ⟨k :: l, ?_, ?_⟩
      · rw [picksP, List.mem_flatMap]
        exact ⟨k, List.mem_range.2 hk, List.mem_map_of_mem hl⟩
      · simp [wgtP, List.getD_eq_getElem?_getD, hk]
    · rintro ⟨l, hl, rfl⟩
      rw [picksP, List.mem_flatMap] at hl
      obtain ⟨k, hk, h⟩ := hl
      obtain ⟨l', hl, rfl⟩ := List.mem_map.1 h
      rw [List.mem_range] at hk
      refine ⟨p.2.getD k ch0, ?_, wgtP ps l', sums_picks.2 ⟨l', hl, rfl⟩, rfl⟩
      rw [List.getD_eq_getElem?_getD, List.getElem?_eq_getElem hk]
      exact List.getElem_mem hk
/-- the first pick within a width and at a cost -/
def firstP (ps : List PP) (w c : Int) : Option (List Nat) := (picksP ps).find? fun l => decide ((wgtP ps l).1 ≤ w ∧ (wgtP ps l).2 = c)
/-- the least cost, off the sums -/
noncomputable def leastP (ps : List PP) (w : Int) : Option Int := @dite _ (∃ m, LeastC (sumsP ps) w m) (Classical.propDecidable _) (fun h => some (Classical.choose h)) (fun _ => none)
theorem least_some {ps : List PP} {w m : Int} : leastP ps w = some m ↔ LeastC (sumsP ps) w m := by
  unfold leastP
  by_cases h : ∃ m, LeastC (sumsP ps) w m
  · rw [dif_pos h]
    have h2 := Classical.choose_spec h
    exact ⟨fun e => by injection e with e; rw [← e]; exact h2, fun k => by rw [least_uniq h2 k]⟩
  · rw [dif_neg h]
    exact ⟨fun e => (by cases e), fun k => absurd ⟨m, k⟩ h⟩
theorem chp_least {ps : List PP} {F : List Pr2} {w : Int} (h : IsFront F (sumsP ps)) : chpS F w = leastP ps w := by
  cases hc : chpS F w with
  | some m => exact (least_some.2 ((chp_some h).1 hc)).symm
  | none =>
    cases hl : leastP ps w with
    | none => rfl
    | some m =>
      obtain ⟨⟨s, hs, hw, _⟩, _⟩ := least_some.1 hl
      exact absurd hw ((chp_none h).1 hc s hs)
theorem least_none {ps : List PP} {w : Int} : leastP ps w = none ↔ ∀ s ∈ sumsP ps, ¬ s.1 ≤ w := by
  constructor
  · intro h s hs hw
    have key : ∀ (n : Nat) (s : Pr2), s ∈ sumsP ps → s.1 ≤ w → (∀ t ∈ sumsP ps, t.1 ≤ w → s.2 - t.2 ≤ n) → ∃ m, LeastC (sumsP ps) w m := by
      intro n
      induction n with
      | zero => exact fun s hs hw hb => ⟨s.2, ⟨s, hs, hw, rfl⟩, fun t ht htw => by have := hb t ht htw; omega⟩
      | succ n ih =>
        intro s hs hw hb
        by_cases h2 : ∃ t ∈ sumsP ps, t.1 ≤ w ∧ t.2 < s.2
        · obtain ⟨t, ht, htw, hlt⟩ := h2
          exact ih t ht htw fun u hu huw => by have := hb u hu huw; omega
        · exact ⟨s.2, ⟨s, hs, hw, rfl⟩, fun t ht htw => by
            have h3 : ¬ t.2 < s.2 := fun e => h2 ⟨t, ht, htw, e⟩
            omega⟩
    have hbnd : ∃ n : Nat, ∀ t ∈ sumsP ps, s.2 - t.2 ≤ n := by
      generalize sumsP ps = S
      induction S with
      | nil => exact ⟨0, fun t ht => by cases ht⟩
      | cons a S ih =>
        obtain ⟨n, hn⟩ := ih
        refine ⟨n + (s.2 - a.2).toNat, fun t ht => ?_⟩
        rcases List.mem_cons.1 ht with rfl | ht
        · omega
        · have := hn t ht; omega
    obtain ⟨n, hn⟩ := hbnd
    obtain ⟨m, hm⟩ := key n s hs hw (fun t ht _ => hn t ht)
    rw [least_some.2 hm] at h
    cases h
  · intro h
    cases hl : leastP ps w with
    | none => rfl
    | some m =>
      obtain ⟨⟨s, hs, hw, _⟩, _⟩ := least_some.1 hl
      exact absurd hw (h s hs)
/-- the program's search: the first choices that keep the width and the cost -/
noncomputable def srchP : List PP → Int → Int → List Nat
  | [], _, _ => []
  | p :: ps, w, c => match (List.range p.2.length).find? fun k => @decide (leastP ps (w - p.1 * (p.2.getD k ch0).w) = some (c - (p.2.getD k ch0).c)) (Classical.propDecidable _) with
    | some k => k :: srchP ps (w - p.1 * (p.2.getD k ch0).w) (c - (p.2.getD k ch0).c)
    | none => []
theorem find_flat {α β : Type} {f : α → List β} {p : β → Bool} : ∀ {xs : List α}, (xs.flatMap f).find? p = xs.findSome? fun x => (f x).find? p
  | [] => rfl
  | x :: xs => by
    rw [List.flatMap_cons, List.find?_append, List.findSome?_cons, find_flat]
    cases (f x).find? p <;> rfl
/-- the search finds the first pick -/
theorem srch_first : ∀ {ps : List PP} {w c : Int}, leastP ps w = some c → firstP ps w c = some (srchP ps w c)
  | [], w, c, h => by
    obtain ⟨⟨s, hs, hw, hc⟩, _⟩ := least_some.1 h
    simp [sumsP] at hs
    subst hs
    dsimp only at hw hc
    subst hc
    simp [firstP, picksP, wgtP, srchP, hw]
  | p :: ps, w, c, h => by
    obtain ⟨⟨s, hs, hw, hc⟩, hmin⟩ := least_some.1 h
    -- an inner search succeeds exactly if the least cost fits
    have hin : ∀ k, k < p.2.length → (((picksP ps).map (k :: ·)).find? fun l => decide ((wgtP (p :: ps) l).1 ≤ w ∧ (wgtP (p :: ps) l).2 = c)) = ((picksP ps).find? fun l => decide ((wgtP ps l).1 ≤ w - p.1 * (p.2.getD k ch0).w ∧ (wgtP ps l).2 = c - (p.2.getD k ch0).c)).map (k :: ·) := fun k hk => by
      rw [List.find?_map]
      congr 1
      refine congrArg (fun g => List.find? g (picksP ps)) (funext fun l => ?_)
      show decide ((wgtP (p :: ps) (k :: l)).1 ≤ w ∧ (wgtP (p :: ps) (k :: l)).2 = c) = _
      rw [wgtP_cons]
      refine decide_eq_decide.2 ⟨fun h => ⟨by have := h.1; dsimp only at this; omega, by have := h.2; dsimp only at this; omega⟩, fun h => ⟨by have := h.1; dsimp only; omega, by have := h.2; dsimp only; omega⟩⟩
    have hfit : ∀ k, k < p.2.length → (((picksP ps).find? fun l => decide ((wgtP ps l).1 ≤ w - p.1 * (p.2.getD k ch0).w ∧ (wgtP ps l).2 = c - (p.2.getD k ch0).c)).isSome = true ↔ leastP ps (w - p.1 * (p.2.getD k ch0).w) = some (c - (p.2.getD k ch0).c)) := fun k hk => by
      rw [List.find?_isSome]
      constructor
      · rintro ⟨l, hl, he⟩
        rw [decide_eq_true_iff] at he
        refine least_some.2 ⟨⟨_, sums_picks.2 ⟨l, hl, rfl⟩, he.1, he.2⟩, fun t ht htw => ?_⟩
        have h3 := hmin (p.1 * (p.2.getD k ch0).w + t.1, (p.2.getD k ch0).c + t.2) (sumsP_mem.2 ⟨p.2.getD k ch0, by rw [List.getD_eq_getElem?_getD, List.getElem?_eq_getElem hk]; exact List.getElem_mem hk, t, ht, rfl⟩) (by dsimp only; omega)
        dsimp only at h3
        omega
      · intro he
        obtain ⟨⟨t, ht, htw, htc⟩, _⟩ := least_some.1 he
        obtain ⟨l, hl, rfl⟩ := sums_picks.1 ht
        exact ⟨l, hl, by rw [decide_eq_true_iff]; exact ⟨htw, htc⟩⟩
    unfold firstP
    rw [picksP, find_flat]
    obtain ⟨cc, hcc, t, ht, rfl⟩ := sumsP_mem.1 hs
    obtain ⟨k0, hk0, rfl⟩ := List.mem_iff_getElem.1 hcc
    have hex : leastP ps (w - p.1 * (p.2.getD k0 ch0).w) = some (c - (p.2.getD k0 ch0).c) := by
      rw [← hfit k0 hk0, List.find?_isSome]
      obtain ⟨l, hl, rfl⟩ := sums_picks.1 ht
      refine ⟨l, hl, ?_⟩
      rw [decide_eq_true_iff]
      have e : p.2.getD k0 ch0 = p.2[k0] := by simp [List.getD_eq_getElem?_getD, hk0]
      rw [e]
      dsimp only at hw hc
      exact ⟨by omega, by omega⟩
    rw [srchP]
    -- the first k that fits
    have key : ∀ ks : List Nat, (∀ k ∈ ks, k < p.2.length) → (ks.findSome? fun k => (((picksP ps).map (k :: ·)).find? fun l => decide ((wgtP (p :: ps) l).1 ≤ w ∧ (wgtP (p :: ps) l).2 = c))) =
        match ks.find? fun k => @decide (leastP ps (w - p.1 * (p.2.getD k ch0).w) = some (c - (p.2.getD k ch0).c)) (Classical.propDecidable _) with
        | some k => some (k :: srchP ps (w - p.1 * (p.2.getD k ch0).w) (c - (p.2.getD k ch0).c))
        | none => none := by
      intro ks
      induction ks with
      | nil => intro _; rfl
      | cons k ks ih =>
        intro hks
        have hk := hks k (by simp)
        rw [List.findSome?_cons, hin k hk]
        by_cases hle : leastP ps (w - p.1 * (p.2.getD k ch0).w) = some (c - (p.2.getD k ch0).c)
        · have hs := srch_first hle
          unfold firstP at hs
          rw [hs, List.find?_cons_of_pos (by exact @decide_eq_true _ (Classical.propDecidable _) hle)]
          rfl
        · have hno : ((picksP ps).find? fun l => decide ((wgtP ps l).1 ≤ w - p.1 * (p.2.getD k ch0).w ∧ (wgtP ps l).2 = c - (p.2.getD k ch0).c)) = none := by
            rw [← Option.not_isSome_iff_eq_none, hfit k hk]
            exact hle
          rw [hno, List.find?_cons_of_neg (by rw [@decide_eq_true_iff _ (Classical.propDecidable _)]; exact hle)]
          exact ih fun j hj => hks j (List.mem_cons_of_mem _ hj)
    rw [key _ (fun k hk => List.mem_range.1 hk)]
    cases hf : (List.range p.2.length).find? fun k => @decide (leastP ps (w - p.1 * (p.2.getD k ch0).w) = some (c - (p.2.getD k ch0).c)) (Classical.propDecidable _) with
    | some k => rfl
    | none =>
      rw [List.find?_eq_none] at hf
      exact absurd (@decide_eq_true _ (Classical.propDecidable _) hex) (hf k0 (List.mem_range.2 hk0))
end Go.Proofs.YtdkknknebehkgaaGreatDoor
