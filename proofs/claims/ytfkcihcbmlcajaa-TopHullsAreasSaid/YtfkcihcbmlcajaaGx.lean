/- TopHullsAreas: the law's contract; its first argument. No statement of the seat is proved here. -/
import Derived.Test.YtfkcihcbmlcajaaGw
import Derived.Test.YtfkcihcbmlcajaaEngL
namespace Go.Proofs.Ytfkcihcbmlcajaa.Hu
set_option linter.unusedVariables false
set_option linter.unusedSimpArgs false
open Go Go.RowKit
theorem law_c (A : Option Addr) (c : Nat) (l : List P) (hl : l.length ≤ 9223372036854775807) (p : P) (w : World) (R : Rd w A 2 l.length (fun i => ptC (l.getD i p0))) :
    Calls Try.prog 3 #[.slice A l.length c, .agg #[.int .i64 (p).x, .int .i64 (p).y]] w (RetP (Val (.bool true) w)) := by
  by_cases h : plP l ∧ plP [p] ∧ l.length ≤ 7
  · exact law_yes hl p h.1 h.2.1 h.2.2 w R
  · exact law_no hl p h w R
/-! ### a slice of points as an argument -/
theorem openPs {w : World} {v : Value} (h : LeavesS w [.slice 2 [.int .i64, .int .i64]] [v]) :
    ∃ (A : Option Addr) (cap : Nat) (l : List P), v = .slice A l.length cap ∧ l.length ≤ cap ∧ cap ≤ maxLen ∧ Rd w A 2 l.length (fun i => ptC (l.getD i p0)) ∧ ∀ p ∈ l, True := by
  simp only [LeavesS, LeafS] at h
  obtain ⟨_, _, e, ⟨A, cap, css, rfl, h1, h2, R, hc⟩, rfl⟩ := h
  injection e with e _
  subst e
  obtain ⟨l, rfl, hl⟩ := ex_map (f := ptC) (p := fun _ => True) css (fun c hcm => by
    obtain ⟨_, _, rfl, ⟨x, rfl, _⟩, _, _, rfl, ⟨y, rfl, _⟩, rfl⟩ := hc c hcm
    exact ⟨⟨x, y⟩, rfl, trivial⟩)
  rw [List.length_map] at h1
  exact ⟨A, cap, l, by rw [List.length_map], h1, h2, R.map p0, hl⟩
end Go.Proofs.Ytfkcihcbmlcajaa.Hu
