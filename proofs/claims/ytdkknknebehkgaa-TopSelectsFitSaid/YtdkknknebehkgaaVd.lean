/- Tasks of choices: the reference's checks. No statement of the seat is proved here. -/
import Derived.Test.YtdkknknebehkgaaVc
namespace Go.Proofs.Ytdkknknebehkgaa.Al
set_option linter.unusedVariables false
set_option linter.unusedSimpArgs false
open Go Go.RowKit
theorem partE_2 {p : Pt} (h : p.wt < 1 ∨ 16 < p.wt) : partE p = 2 := if_pos h
theorem partE_s {p : Pt} (h : ¬ (p.wt < 1 ∨ 16 < p.wt)) (h2 : ¬ sideE p.cs.length = 0) : partE p = sideE p.cs.length := (if_neg h).trans (if_pos h2)
theorem partE_f {p : Pt} (h : ¬ (p.wt < 1 ∨ 16 < p.wt)) (h2 : sideE p.cs.length = 0) : partE p = fstE (fun j => choE (cat p.cs j)) p.cs.length 0 := (if_neg h).trans (if_neg (not_not_intro h2))
theorem sideE_13 {n : Int} (h : n = 0) : sideE n = 13 := if_pos h
theorem sideE_5 {n : Int} (h : 16 < n) : sideE n = 5 := by rw [sideE, if_neg (by omega), if_pos h]
theorem sideE_0 {n : Int} (h : ¬ n = 0) (h2 : ¬ 16 < n) : sideE n = 0 := by rw [sideE, if_neg h, if_neg h2]
theorem chkE_2 {m : Int} {ps : List Pt} (h : m < 0 ∨ 1048576 < m) : chkE m ps = 2 := if_pos h
theorem chkE_s {m : Int} {ps : List Pt} (h : ¬ (m < 0 ∨ 1048576 < m)) (h2 : ¬ sideE ps.length = 0) : chkE m ps = sideE ps.length := (if_neg h).trans (if_pos h2)
theorem chkE_f {m : Int} {ps : List Pt} (h : ¬ (m < 0 ∨ 1048576 < m)) (h2 : sideE ps.length = 0) : chkE m ps = fstE (fun i => partE (pat ps i)) ps.length 0 := (if_neg h).trans (if_neg (not_not_intro h2))
end Go.Proofs.Ytdkknknebehkgaa.Al
