/- Fronts of pairs, least costs and first picks, in plain words. No statement of the seat is proved here. -/
import Derived.Test.YtdkknknebehkgaaEngA
namespace Go.Proofs.Ytdkknknebehkgaa
set_option linter.unusedVariables false
set_option linter.unusedSimpArgs false
structure Ch where
  w : Int
  c : Int
def ch0 : Ch := ⟨0, 0⟩
abbrev PP := Int × List Ch
abbrev Pr2 := Int × Int
theorem pr2_eta {a b : Pr2} (h1 : a.1 = b.1) (h2 : a.2 = b.2) : a = b := by cases a; cases b; dsimp only at h1 h2; rw [h1, h2]
/-! ### fronts -/
structure IsFront (F S : List Pr2) : Prop where
  sub : ∀ f ∈ F, f ∈ S
  dom : ∀ s ∈ S, ∃ f ∈ F, f.1 ≤ s.1 ∧ f.2 ≤ s.2
  asc : F.Pairwise fun a b => a.1 < b.1 ∧ b.2 < a.2
theorem asc_eq {F : List Pr2} (h : F.Pairwise fun a b => a.1 < b.1 ∧ b.2 < a.2) {x y : Pr2} (hx : x ∈ F) (hy : y ∈ F) (h1 : x.1 ≤ y.1) (h2 : x.2 ≤ y.2) : x = y := by
  obtain ⟨i, hi, rfl⟩ := List.mem_iff_getElem.1 hx
  obtain ⟨j, hj, rfl⟩ := List.mem_iff_getElem.1 hy
  have hp := List.pairwise_iff_getElem.1 h
  rcases Nat.lt_trichotomy i j with hij | hij | hij
  · have := hp i j hi hj hij; omega
  · subst hij; rfl
  · have := hp j i hj hi hij; omega
theorem sort_uniq {α : Type} {R : α → α → Prop} (hR : ∀ a b, R a b → R b a → False) : ∀ {xs ys : List α}, xs.Perm ys → xs.Pairwise R → ys.Pairwise R → xs = ys
  | [], ys, h, _, _ => (List.nil_perm.1 h).symm
  | x :: xs, [], h, _, _ => by have := h.length_eq; simp at this
  | x :: xs, y :: ys, h, h1, h2 => by
    rw [List.pairwise_cons] at h1 h2
    have e : x = y := by
      rcases List.mem_cons.1 (h.subset (List.mem_cons_self ..)) with e | hx
      · exact e
      · rcases List.mem_cons.1 (h.symm.subset (List.mem_cons_self ..)) with e | hy
        · exact e.symm
        · exact (hR _ _ (h1.1 _ hy) (h2.1 _ hx)).elim
    subst e
    rw [sort_uniq hR (List.Perm.cons_inv h) h1.2 h2.2]
theorem front_uniq {F G S T : List Pr2} (h : IsFront F S) (k : IsFront G T) (hST : ∀ x, x ∈ S ↔ x ∈ T) : F = G := by
  have key : ∀ {F G S T : List Pr2}, IsFront F S → IsFront G T → (∀ x, x ∈ S ↔ x ∈ T) → ∀ f ∈ F, f ∈ G := fun {F G S T} h k e f hf => by
    obtain ⟨g, hg, g1, g2⟩ := k.dom f ((e f).1 (h.sub f hf))
    obtain ⟨f', hf', f1, f2⟩ := h.dom g ((e g).2 (k.sub g hg))
    have e1 := asc_eq h.asc hf' hf (by omega) (by omega)
    subst e1
    have e2 : f' = g := pr2_eta (by omega) (by omega)
    rw [e2]; exact hg
  have nd : ∀ {F S : List Pr2}, IsFront F S → F.Nodup := fun h => h.asc.imp fun {a b} hab e => by rw [e] at hab; omega
  refine sort_uniq (R := fun a b : Pr2 => a.1 < b.1 ∧ b.2 < a.2) (fun a b h1 h2 => by omega) ?_ h.asc k.asc
  exact (List.perm_ext_iff_of_nodup (nd h) (nd k)).2 fun x => ⟨key h k hST x, key k h (fun x => (hST x).symm) x⟩
/-- all sums of picks, the first part in front -/
def sumsP : List PP → List Pr2
  | [] => [(0, 0)]
  | p :: ps => p.2.flatMap fun c => (sumsP ps).map fun s => (p.1 * c.w + s.1, c.c + s.2)
/-- the sums of a front and a part, as the program makes them -/
def pairS (F : List Pr2) (p : PP) : List Pr2 := F.flatMap fun x => p.2.map fun c => (x.1 + p.1 * c.w, x.2 + c.c)
theorem pairS_mem {F : List Pr2} {p : PP} {y : Pr2} : y ∈ pairS F p ↔ ∃ x ∈ F, ∃ c ∈ p.2, y = (x.1 + p.1 * c.w, x.2 + c.c) := by
  unfold pairS
  rw [List.mem_flatMap]
  constructor
  · rintro ⟨x, hx, hy⟩
    obtain ⟨c, hc, rfl⟩ := List.mem_map.1 hy
    exact ⟨x, hx, c, hc, rfl⟩
  · rintro ⟨x, hx, c, hc, rfl⟩
    exact ⟨x, hx, List.mem_map.2 ⟨c, hc, rfl⟩⟩
theorem sumsP_mem {p : PP} {ps : List PP} {y : Pr2} : y ∈ sumsP (p :: ps) ↔ ∃ c ∈ p.2, ∃ s ∈ sumsP ps, y = (p.1 * c.w + s.1, c.c + s.2) := by
  rw [sumsP, List.mem_flatMap]
  constructor
  · rintro ⟨c, hc, hy⟩
    obtain ⟨s, hs, rfl⟩ := List.mem_map.1 hy
    exact ⟨c, hc, s, hs, rfl⟩
  · rintro ⟨c, hc, s, hs, rfl⟩
    exact ⟨c, hc, List.mem_map.2 ⟨s, hs, rfl⟩⟩
def lexLe (a b : Pr2) : Prop := a.1 < b.1 ∨ (a.1 = b.1 ∧ a.2 ≤ b.2)
/-- those that are cheaper than all before -/
def keepC : Option Int → List Pr2 → List Pr2
  | _, [] => []
  | none, x :: xs => x :: keepC (some x.2) xs
  | some m, x :: xs => if x.2 < m then x :: keepC (some x.2) xs else keepC (some m) xs
theorem keepC_sub : ∀ {xs : List Pr2} {m : Option Int} {f : Pr2}, f ∈ keepC m xs → f ∈ xs
  | [], m, f, h => by cases m <;> cases h
  | x :: xs, none, f, h => by
    rcases List.mem_cons.1 h with rfl | h
    · exact List.mem_cons_self ..
    · exact List.mem_cons_of_mem _ (keepC_sub h)
  | x :: xs, some m, f, h => by
    rw [keepC] at h
    split at h
    · rcases List.mem_cons.1 h with rfl | h
      · exact List.mem_cons_self ..
      · exact List.mem_cons_of_mem _ (keepC_sub h)
    · exact List.mem_cons_of_mem _ (keepC_sub h)
theorem keepC_lt : ∀ {xs : List Pr2} {m : Int} {f : Pr2}, f ∈ keepC (some m) xs → f.2 < m
  | [], m, f, h => by cases h
  | x :: xs, m, f, h => by
    rw [keepC] at h
    split at h
    · rename_i hx
      rcases List.mem_cons.1 h with rfl | h
      · exact hx
      · have := keepC_lt h; omega
    · exact keepC_lt h
theorem keepC_dom : ∀ {xs : List Pr2} {m : Int}, xs.Pairwise lexLe → ∀ s ∈ xs, s.2 < m → ∃ f ∈ keepC (some m) xs, f.1 ≤ s.1 ∧ f.2 ≤ s.2
  | [], m, _, s, hs, _ => by cases hs
  | x :: xs, m, hp, s, hs, hm => by
    rw [List.pairwise_cons] at hp
    rw [keepC]
    split
    · rename_i hx
      rcases List.mem_cons.1 hs with rfl | hs
      · exact ⟨s, List.mem_cons_self .., by omega, by omega⟩
      · by_cases hlt : s.2 < x.2
        · obtain ⟨f, hf, h1, h2⟩ := keepC_dom (m := x.2) hp.2 s hs hlt
          exact ⟨f, List.mem_cons_of_mem _ hf, h1, h2⟩
        · have := hp.1 s hs
          unfold lexLe at this
          exact ⟨x, List.mem_cons_self .., by omega, by omega⟩
    · rename_i hx
      rcases List.mem_cons.1 hs with rfl | hs
      · exact absurd hm hx
      · exact keepC_dom hp.2 s hs hm
theorem keepC_asc : ∀ {xs : List Pr2} {m : Option Int}, xs.Pairwise lexLe → (keepC m xs).Pairwise fun a b => a.1 < b.1 ∧ b.2 < a.2
  | [], m, _ => by cases m <;> exact List.Pairwise.nil
  | x :: xs, m, hp => by
    rw [List.pairwise_cons] at hp
    have hc : (x :: keepC (some x.2) xs).Pairwise fun a b => a.1 < b.1 ∧ b.2 < a.2 := by
      rw [List.pairwise_cons]
      refine ⟨fun b hb => ?_, keepC_asc hp.2⟩
      have h1 := keepC_lt hb
      have h2 := hp.1 b (keepC_sub hb)
      unfold lexLe at h2
      omega
    cases m with
    | none => exact hc
    | some m =>
      rw [keepC]
      split
      · exact hc
      · exact keepC_asc hp.2
theorem keepC_front {xs : List Pr2} (h : xs.Pairwise lexLe) : IsFront (keepC none xs) xs where
  sub f hf := keepC_sub hf
  asc := keepC_asc h
  dom s hs := by
    cases xs with
    | nil => cases hs
    | cons x xs =>
      rw [List.pairwise_cons] at h
      rcases List.mem_cons.1 hs with rfl | hs
      · exact ⟨s, List.mem_cons_self .., by omega, by omega⟩
      · by_cases hlt : s.2 < x.2
        · obtain ⟨f, hf, h1, h2⟩ := keepC_dom (m := x.2) h.2 s hs hlt
          exact ⟨f, List.mem_cons_of_mem _ hf, h1, h2⟩
        · have := h.1 s hs
          unfold lexLe at this
          exact ⟨x, List.mem_cons_self .., by omega, by omega⟩
theorem front_perm {F S T : List Pr2} (h : IsFront F S) (e : ∀ x, x ∈ S ↔ x ∈ T) : IsFront F T :=
  ⟨fun f hf => (e f).1 (h.sub f hf), fun s hs => h.dom s ((e s).2 hs), h.asc⟩
/-- the front of sums of a front is the front of all sums -/
theorem front_step {F G : List Pr2} {p : PP} {ps : List PP} (hF : IsFront F (sumsP ps)) (hG : IsFront G (pairS F p)) : IsFront G (sumsP (p :: ps)) where
  asc := hG.asc
  sub g hg := by
    obtain ⟨x, hx, c, hc, e⟩ := pairS_mem.1 (hG.sub g hg)
    exact sumsP_mem.2 ⟨c, hc, x, hF.sub x hx, by rw [e, Int.add_comm x.1, Int.add_comm x.2]⟩
  dom s hs := by
    obtain ⟨c, hc, t, ht, rfl⟩ := sumsP_mem.1 hs
    obtain ⟨f, hf, f1, f2⟩ := hF.dom t ht
    obtain ⟨g, hg, g1, g2⟩ := hG.dom (f.1 + p.1 * c.w, f.2 + c.c) (pairS_mem.2 ⟨f, hf, c, hc, rfl⟩)
    dsimp only at g1 g2
    exact ⟨g, hg, by dsimp only; omega, by dsimp only; omega⟩
/-! ### the least cost for a width -/
/-- how many of a front are within a width -/
def cntW (F : List Pr2) (w : Int) : Nat := (F.filter fun x => decide (x.1 ≤ w)).length
def chpS (F : List Pr2) (w : Int) : Option Int := if cntW F w = 0 then none else some (F.getD (cntW F w - 1) (0, 0)).2
theorem cnt_le (F : List Pr2) (w : Int) : cntW F w ≤ F.length := List.length_filter_le _ _
theorem asc_cnt : ∀ {F : List Pr2} {w : Int}, (F.Pairwise fun a b => a.1 < b.1 ∧ b.2 < a.2) → ∀ i, i < F.length → ((F.getD i (0, 0)).1 ≤ w ↔ i < cntW F w)
  | [], w, _, i, hi => by simp at hi
  | x :: F, w, h, i, hi => by
    rw [List.pairwise_cons] at h
    have ih := asc_cnt (F := F) (w := w) h.2
    unfold cntW at *
    by_cases hx : x.1 ≤ w
    · rw [List.filter_cons, if_pos (by simpa using hx), List.length_cons]
      cases i with
      | zero => exact ⟨fun _ => Nat.succ_pos _, fun _ => hx⟩
      | succ i =>
        have := ih i (by simpa using hi)
        show (F.getD i (0, 0)).1 ≤ w ↔ _
        rw [this]; omega
    · have hno : (F.filter fun x => decide (x.1 ≤ w)).length = 0 := by
        rw [List.length_eq_zero_iff, List.filter_eq_nil_iff]
        intro y hy
        have := (h.1 y hy).1
        simp; omega
      rw [List.filter_cons, if_neg (by simpa using hx), hno]
      refine ⟨fun h2 => ?_, fun h2 => by omega⟩
      cases i with
      | zero => exact absurd h2 hx
      | succ i =>
        have := (ih i (by simpa using hi)).1 h2
        rw [hno] at this
        omega
theorem getD_memP {F : List Pr2} {i : Nat} (h : i < F.length) : F.getD i (0, 0) ∈ F := by
  rw [List.getD_eq_getElem?_getD, List.getElem?_eq_getElem h]; exact List.getElem_mem h
theorem mem_getDP {F : List Pr2} {x : Pr2} (h : x ∈ F) : ∃ i, i < F.length ∧ F.getD i (0, 0) = x := by
  obtain ⟨i, hi, rfl⟩ := List.mem_iff_getElem.1 h
  exact ⟨i, hi, by simp [List.getD_eq_getElem?_getD, hi]⟩
/-- m is the least cost of the sums within a width -/
def LeastC (S : List Pr2) (w m : Int) : Prop := (∃ s ∈ S, s.1 ≤ w ∧ s.2 = m) ∧ ∀ s ∈ S, s.1 ≤ w → m ≤ s.2
theorem least_uniq {S : List Pr2} {w m m' : Int} (h : LeastC S w m) (k : LeastC S w m') : m = m' := by
  obtain ⟨⟨s, h1, h2, rfl⟩, h3⟩ := h
  obtain ⟨⟨t, k1, k2, rfl⟩, k3⟩ := k
  have := h3 t k1 k2
  have := k3 s h1 h2
  omega
theorem chp_some {F S : List Pr2} {w m : Int} (h : IsFront F S) : chpS F w = some m ↔ LeastC S w m := by
  have key : ∀ n : Nat, cntW F w = n + 1 → LeastC S w (F.getD n (0, 0)).2 := fun n hn => by
    have hlt : n < F.length := by have := cnt_le F w; omega
    have hm := getD_memP hlt
    refine ⟨⟨_, h.sub _ hm, (asc_cnt (w := w) h.asc n hlt).2 (by omega), rfl⟩, fun s hs hw => ?_⟩
    obtain ⟨f, hf, f1, f2⟩ := h.dom s hs
    obtain ⟨i, hi, rfl⟩ := mem_getDP hf
    have hic := (asc_cnt (w := w) h.asc i hi).1 (by omega)
    by_cases e : i = n
    · subst e; exact f2
    · have hp := List.pairwise_iff_getElem.1 h.asc i n hi hlt (by omega)
      have e1 : F.getD i (0, 0) = F[i] := by simp [List.getD_eq_getElem?_getD, hi]
      have e2 : F.getD n (0, 0) = F[n] := by simp [List.getD_eq_getElem?_getD, hlt]
      rw [e2]
      rw [e1] at f2
      omega
  unfold chpS
  by_cases h0 : cntW F w = 0
  · rw [if_pos h0]
    refine ⟨fun h1 => (by cases h1), fun hq => ?_⟩
    obtain ⟨⟨s, hs, hw, _⟩, _⟩ := hq
    obtain ⟨f, hf, f1, _⟩ := h.dom s hs
    obtain ⟨i, hi, rfl⟩ := mem_getDP hf
    have := (asc_cnt (w := w) h.asc i hi).1 (by omega)
    omega
  · rw [if_neg h0]
    obtain ⟨n, hn⟩ : ∃ n, cntW F w = n + 1 := ⟨cntW F w - 1, by omega⟩
    rw [hn, Nat.add_sub_cancel]
    have := key n hn
    refine ⟨fun h1 => by injection h1 with h1; rw [← h1]; exact this, fun h1 => by rw [least_uniq this h1]⟩
theorem chp_none {F S : List Pr2} {w : Int} (h : IsFront F S) : chpS F w = none ↔ ∀ s ∈ S, ¬ s.1 ≤ w := by
  constructor
  · intro h1 s hs hw
    obtain ⟨f, hf, f1, _⟩ := h.dom s hs
    obtain ⟨i, hi, rfl⟩ := mem_getDP hf
    have := (asc_cnt (w := w) h.asc i hi).1 (by omega)
    unfold chpS at h1
    rw [if_neg (by omega)] at h1
    cases h1
  · intro h1
    unfold chpS
    by_cases h0 : cntW F w = 0
    · rw [if_pos h0]
    · have hlt : 0 < F.length := by have := cnt_le F w; omega
      exact absurd ((asc_cnt (w := w) h.asc 0 hlt).2 (by omega)) (h1 _ (h.sub _ (getD_memP hlt)))
end Go.Proofs.Ytdkknknebehkgaa
