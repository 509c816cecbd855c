/- The fronts of the parts from each one on, in plain words. No statement of the seat is proved here. -/
import Derived.Test.YtdkknknebehkgaaVr
namespace Go.Proofs.Ytdkknknebehkgaa.Al
set_option linter.unusedVariables false
set_option linter.unusedSimpArgs false
/-- the front of the parts, as the program makes it -/
def frF : List Pt → List Pr2
  | [] => [(0, 0)]
  | p :: ps => mrg (frF ps) p.wt p.cs
theorem mrg_front (F : List Pr2) (p : Pt) : IsFront (mrg F p.wt p.cs) (pairS F p.pl) :=
  front_perm (keepC_front (srtP_lex _)) fun x => (srtP_perm _).mem_iff
theorem frF_front : ∀ ps : List Pt, IsFront (frF ps) (sumsP (ps.map Pt.pl))
  | [] => front_nil
  | p :: ps => front_step (frF_front ps) (mrg_front (frF ps) p)
def prodN : List Pt → Nat
  | [] => 1
  | p :: ps => p.cs.length * prodN ps
theorem keepC_len : ∀ (xs : List Pr2) (m : Option Int), (keepC m xs).length ≤ xs.length
  | [], m => by cases m <;> exact Nat.le_refl 0
  | x :: xs, m => by
    rw [keepC_cons]
    split
    · have := keepC_len xs (some x.2); simp; omega
    · have := keepC_len xs m; simp; omega
theorem mrg_len (F : List Pr2) (wt : Int) (cs : List Ch) : (mrg F wt cs).length ≤ F.length * cs.length := by
  have h := keepC_len (srtP (prAll F wt cs)) none
  rw [srtP_len, prAll_len] at h
  exact h
theorem frF_len : ∀ ps : List Pt, (frF ps).length ≤ prodN ps
  | [] => Nat.le_refl 1
  | p :: ps => by
    have h1 := mrg_len (frF ps) p.wt p.cs
    have h2 := Nat.mul_le_mul_right p.cs.length (frF_len ps)
    rw [Nat.mul_comm (prodN ps)] at h2
    exact Nat.le_trans h1 h2
theorem sums_le : ∀ (ps : List Pt), (∀ p ∈ ps, OkP p) → ∀ x ∈ sumsP (ps.map Pt.pl), (0 ≤ x.1 ∧ x.1 ≤ 1600000 * ps.length) ∧ 0 ≤ x.2 ∧ x.2 ≤ 1048576 * ps.length
  | [], _, x, hx => by
    simp [sumsP] at hx
    subst hx
    simp
  | p :: ps, ho, x, hx => by
    obtain ⟨c, hc, s, hs, rfl⟩ := sumsP_mem.1 (show x ∈ sumsP (p.pl :: ps.map Pt.pl) from hx)
    have ih := sums_le ps (fun q hq => ho q (List.mem_cons_of_mem _ hq)) s hs
    have hop := ho p List.mem_cons_self
    obtain ⟨j, hj, rfl⟩ := List.mem_iff_getElem.1 hc
    have hcw := hop.cw j hj
    have e : p.cs.getD j ch0 = p.cs[j] := by simp [List.getD_eq_getElem?_getD, show j < p.cs.length from hj]
    rw [e] at hcw
    have hpr := prod_le hop.w1 hop.w16 hcw.1.1 hcw.1.2
    simp only [List.length_cons] at *
    show (0 ≤ p.wt * p.cs[j].w + s.1 ∧ p.wt * p.cs[j].w + s.1 ≤ _) ∧ 0 ≤ p.cs[j].c + s.2 ∧ p.cs[j].c + s.2 ≤ _
    omega
theorem frF_le {m : Int} {ps : List Pt} (ho : OkT m ps) (k : Nat) (i : Nat) (hi : i < (frF (ps.drop k)).length) : (0 ≤ ((frF (ps.drop k)).getD i (0, 0)).1 ∧ ((frF (ps.drop k)).getD i (0, 0)).1 ≤ 1000000000) ∧ 0 ≤ ((frF (ps.drop k)).getD i (0, 0)).2 ∧ ((frF (ps.drop k)).getD i (0, 0)).2 ≤ 1000000000 := by
  have hm := (frF_front (ps.drop k)).sub _ (getD_memP hi)
  have hop : ∀ p ∈ ps.drop k, OkP p := fun p hp => by
    obtain ⟨j, hj, rfl⟩ := List.mem_iff_getElem.1 (List.mem_of_mem_drop hp)
    have := ho.pt j hj
    simpa [List.getD_eq_getElem?_getD, hj] using this
  have h := sums_le _ hop _ hm
  have hl : (ps.drop k).length ≤ 16 := by have := ho.n16; rw [List.length_drop]; omega
  omega
theorem drop_cons {ps : List Pt} {k : Nat} (h : k < ps.length) : ps.drop k = ps.getD k pt0 :: ps.drop (k + 1) := by
  rw [List.drop_eq_getElem_cons h]
  simp [List.getD_eq_getElem?_getD, h]
theorem frF_drop {ps : List Pt} {k : Nat} (h : k < ps.length) : frF (ps.drop k) = mrg (frF (ps.drop (k + 1))) (ps.getD k pt0).wt (ps.getD k pt0).cs := by rw [drop_cons h]; rfl
theorem prodN_pos : ∀ {ps : List Pt}, (∀ p ∈ ps, OkP p) → 1 ≤ prodN ps
  | [], _ => Nat.le_refl 1
  | p :: ps, h => Nat.mul_le_mul (h p List.mem_cons_self).n1 (prodN_pos fun q hq => h q (List.mem_cons_of_mem _ hq))
theorem prodN_drop : ∀ {ps : List Pt} {k : Nat}, (∀ p ∈ ps, OkP p) → prodN (ps.drop k) ≤ prodN ps
  | ps, 0, _ => Nat.le_refl _
  | [], k + 1, _ => Nat.le_refl _
  | p :: ps, k + 1, h => by
    have h1 := prodN_drop (ps := ps) (k := k) fun q hq => h q (List.mem_cons_of_mem _ hq)
    have h2 : 1 * prodN ps ≤ p.cs.length * prodN ps := Nat.mul_le_mul_right _ (h p List.mem_cons_self).n1
    rw [Nat.one_mul] at h2
    exact Nat.le_trans h1 h2
theorem OkT.all {m : Int} {ps : List Pt} (ho : OkT m ps) : ∀ p ∈ ps, OkP p := fun p hp => by
  obtain ⟨j, hj, rfl⟩ := List.mem_iff_getElem.1 hp
  have := ho.pt j hj
  simpa [List.getD_eq_getElem?_getD, hj] using this
theorem frF_few {m : Int} {ps : List Pt} (ho : OkT m ps) (hN : prodN ps ≤ 20000) (k : Nat) : (frF (ps.drop k)).length ≤ 20000 :=
  Nat.le_trans (frF_len _) (Nat.le_trans (prodN_drop ho.all) hN)
theorem pr_few {m : Int} {ps : List Pt} (ho : OkT m ps) (hN : prodN ps ≤ 20000) {k : Nat} (hk : k < ps.length) : (prAll (frF (ps.drop (k + 1))) (ps.getD k pt0).wt (ps.getD k pt0).cs).length ≤ 1000000 := by
  rw [prAll_len]
  have h1 := Nat.mul_le_mul (frF_few ho hN (k + 1)) (ho.pt k hk).n16
  omega
end Go.Proofs.Ytdkknknebehkgaa.Al
