/- The front of a task, what more width is worth: by the program. No statement of the seat is proved here. -/
import Derived.Test.YtdkknknebehkgaaVt
namespace Go.Proofs.Ytdkknknebehkgaa.Al
set_option linter.unusedVariables false
set_option linter.unusedSimpArgs false
open Go Go.RowKit
/-- what fronts gives -/
structure FQ (ps : List Pt) where
  g : Nat
  r : PR
  sf : List PR
  len : sf.length = ps.length
  hr : r.xs = frF ps
  hs : ∀ k, k < ps.length → (sf.getD k pr0).xs = frF (ps.drop (k + 1))
def fqV {ps : List Pt} (q : FQ ps) : Value := .slice (some ⟨q.g, 0, none⟩) (ps.length + 1) (ps.length + 1)
def fqH {ps : List Pt} (q : FQ ps) : List HO := .rw 0 (.slice (some ⟨q.g, 0, none⟩) (ps.length + 1) (ps.length + 1)) 41 1 ((q.r :: q.sf).map prV) :: .rw 0 (.slice q.r.A q.r.xs.length q.r.c) 75 2 (q.r.xs.map prC) :: q.sf.map prH
theorem is_rowL {l : List PR} {i : Nat} {r : PR} (h : l.getD i pr0 = r) : Is (.slice (l.getD i pr0).A (l.getD i pr0).xs.length (l.getD i pr0).c) (.slice r.A r.xs.length r.c) := by
  rw [h]
  exact .z .slice
theorem fronts_x (m : Int) (B : Option Addr) (cB : Nat) (ps : List Pt) (ho : OkT m ps) (hN : prodN ps ≤ 20000)
    (w : World) (R : Rd w B 2 ps.length (fun i => ptC (ps.getD i pt0))) (R2 : ∀ i, i < ps.length → Rd w (pat ps i).A 2 (pat ps i).cs.length (fun j => chC ((pat ps i).cs.getD j ch0))) :
    Calls Try.prog 25 #[.slice B ps.length cB] w (RetP fun v w' => ∃ q : FQ ps, v = fqV q ∧ Sat w [] (fqH q) w') := by
  refine (fronts_c m B cB ps ho hN w R R2).mono ?_
  rintro e w' ⟨v, rfl, g, c, sf, hl, hs, rfl, S⟩
  match sf, hl with
  | r :: sf, hl =>
  refine ⟨_, rfl, ⟨g, r, sf, by simpa using hl, hs 0 (by omega), fun k hk => hs (k + 1) (by omega)⟩, rfl, S⟩
noncomputable def frtL (m : Int) (ps : List Pt) : List Pr2 × Int := if ¬ chkE m ps = 0 then ([], chkE m ps) else if 16384 < (frF ps).length then ([], 12) else (frF ps, 0)
theorem frtL_e {m : Int} {ps : List Pt} (h : ¬ chkE m ps = 0) : frtL m ps = ([], chkE m ps) := if_pos h
theorem frtL_12 {m : Int} {ps : List Pt} (h : chkE m ps = 0) (h2 : 16384 < (frF ps).length) : frtL m ps = ([], 12) := (if_neg (not_not_intro h)).trans (if_pos h2)
theorem frtL_0 {m : Int} {ps : List Pt} (h : chkE m ps = 0) (h2 : ¬ 16384 < (frF ps).length) : frtL m ps = (frF ps, 0) := (if_neg (not_not_intro h)).trans (if_neg h2)
def wthV (m : Int) (ps : List Pt) (k : Int) : Int × Int := if ¬ chkE m ps = 0 then (0, chkE m ps) else if k < 0 ∨ 1048576 - m < k then (0, 2) else match chpS (frF ps) m with
  | none => (0, 6)
  | some a => match chpS (frF ps) (m + k) with
    | none => (a - 0, 0)
    | some b => (a - b, 0)
theorem wthV_e {m : Int} {ps : List Pt} {k : Int} (h : ¬ chkE m ps = 0) : wthV m ps k = (0, chkE m ps) := if_pos h
theorem wthV_2 {m : Int} {ps : List Pt} {k : Int} (h : chkE m ps = 0) (h2 : k < 0 ∨ 1048576 - m < k) : wthV m ps k = (0, 2) := (if_neg (not_not_intro h)).trans (if_pos h2)
theorem wthV_6 {m : Int} {ps : List Pt} {k : Int} (h : chkE m ps = 0) (h2 : ¬ (k < 0 ∨ 1048576 - m < k)) (h3 : chpS (frF ps) m = none) : wthV m ps k = (0, 6) := by
  rw [wthV, if_neg (not_not_intro h), if_neg h2, h3]
theorem wthV_n {m : Int} {ps : List Pt} {k a : Int} (h : chkE m ps = 0) (h2 : ¬ (k < 0 ∨ 1048576 - m < k)) (h3 : chpS (frF ps) m = some a) (h4 : chpS (frF ps) (m + k) = none) : wthV m ps k = (a - 0, 0) := by
  rw [wthV, if_neg (not_not_intro h), if_neg h2]
  simp only [h3, h4]
theorem wthV_s {m : Int} {ps : List Pt} {k a b : Int} (h : chkE m ps = 0) (h2 : ¬ (k < 0 ∨ 1048576 - m < k)) (h3 : chpS (frF ps) m = some a) (h4 : chpS (frF ps) (m + k) = some b) : wthV m ps k = (a - b, 0) := by
  rw [wthV, if_neg (not_not_intro h), if_neg h2]
  simp only [h3, h4]
theorem chp_le {m t a : Int} {ps : List Pt} (ho : OkT m ps) (h : chpS (frF ps) t = some a) : 0 ≤ a ∧ a ≤ 100000000 := by
  obtain ⟨⟨s, hs, _, rfl⟩, _⟩ := (chp_some (frF_front ps)).1 h
  have := sums_le ps ho.all s hs
  have := ho.n16
  omega
theorem cheapest_s (A : Option Addr) (cA : Nat) (F : List Pr2) (hF : F.length ≤ 1000000) (hA : Asc F) (m : Int) {a : Int} (h : chpS F m = some a) (w : World) (R : Rd w A 2 F.length (fun i => prC (F.getD i (0, 0)))) : Calls Try.prog 26 #[.slice A F.length cA, .int .i64 m] w (RetP (Val (.tuple #[.int .i64 a, .bool true]) w)) := by
  have := cheapest_c A cA F hF hA m w R
  rw [chpV, h] at this
  exact this
theorem cheapest_n (A : Option Addr) (cA : Nat) (F : List Pr2) (hF : F.length ≤ 1000000) (hA : Asc F) (m : Int) (h : chpS F m = none) (w : World) (R : Rd w A 2 F.length (fun i => prC (F.getD i (0, 0)))) : Calls Try.prog 26 #[.slice A F.length cA, .int .i64 m] w (RetP (Val (.tuple #[.int .i64 0, .bool false]) w)) := by
  have := cheapest_c A cA F hF hA m w R
  rw [chpV, h] at this
  exact this
end Go.Proofs.Ytdkknknebehkgaa.Al
