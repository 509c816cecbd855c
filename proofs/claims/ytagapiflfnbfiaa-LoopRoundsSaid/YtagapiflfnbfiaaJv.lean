/- Loops of dimensions: dimensions, chains and values as arguments. No statement of the seat is proved here. -/
import Derived.Test.YtagapiflfnbfiaaJr
namespace Go.Proofs.Ytagapiflfnbfiaa
set_option linter.unusedVariables false
set_option linter.unusedSimpArgs false
open Go Go.RowKit
theorem openDms {w : World} {v : Value} (h : LeavesZ w [.slice 56 5 [.string, .string, .int .i64, .int .i64, .int .i64]] [v]) :
    ∃ (A : Option Addr) (cap : Nat) (l : List Dm), v = .slice A l.length cap ∧ l.length ≤ cap ∧ cap ≤ maxLen ∧ Rd w A 5 l.length (fun i => dmC (l.getD i dm0)) ∧ (∀ p ∈ l, p.ok) ∧ l.length * 56 ≤ reachBytes := by
  simp only [LeavesZ, LeafZ] at h
  obtain ⟨_, _, e, ⟨A, cap, css, rfl, h1, h2, R, hc, hz⟩, rfl⟩ := h
  injection e with e _
  subst e
  obtain ⟨l, rfl, hl⟩ := ex_map (f := dmC) (p := Dm.ok) css (fun c hcm => by
    obtain ⟨_, _, rfl, ⟨a, rfl, ha⟩, _, _, rfl, ⟨b, rfl, hb⟩, _, _, rfl, ⟨x, rfl, _⟩, _, _, rfl, ⟨y, rfl, _⟩, _, _, rfl, ⟨z, rfl, _⟩, rfl⟩ := hc c hcm
    exact ⟨⟨a, b, x, y, z⟩, rfl, by have : maxLen = 9223372036854775807 := rfl; exact ⟨show a.size ≤ 9223372036854775807 by omega, show b.size ≤ 9223372036854775807 by omega⟩⟩)
  rw [List.length_map] at h1 hz
  exact ⟨A, cap, l, by rw [List.length_map], h1, h2, R.map dm0, hl, hz⟩
theorem openLks {w : World} {v : Value} (h : LeavesZ w [.slice 16 2 [.int .i64, .bool]] [v]) :
    ∃ (A : Option Addr) (cap : Nat) (l : List Lk), v = .slice A l.length cap ∧ l.length ≤ cap ∧ cap ≤ maxLen ∧ Rd w A 2 l.length (fun i => lkC (l.getD i lk0)) ∧ (∀ p ∈ l, True) ∧ l.length * 16 ≤ reachBytes := by
  simp only [LeavesZ, LeafZ] at h
  obtain ⟨_, _, e, ⟨A, cap, css, rfl, h1, h2, R, hc, hz⟩, rfl⟩ := h
  injection e with e _
  subst e
  obtain ⟨l, rfl, hl⟩ := ex_map (f := lkC) (p := fun _ => True) css (fun c hcm => by
    obtain ⟨_, _, rfl, ⟨a, rfl, _⟩, _, _, rfl, ⟨b, rfl⟩, rfl⟩ := hc c hcm
    exact ⟨⟨a, b⟩, rfl, trivial⟩)
  rw [List.length_map] at h1 hz
  exact ⟨A, cap, l, by rw [List.length_map], h1, h2, R.map lk0, hl, hz⟩
theorem openZs {w : World} {v : Value} (h : LeavesZ w [.slice 8 1 [.int .i64]] [v]) :
    ∃ (A : Option Addr) (cap : Nat) (l : List Int), v = .slice A l.length cap ∧ l.length ≤ cap ∧ cap ≤ maxLen ∧ Rd w A 1 l.length (fun i => [.int .i64 (l.getD i 0)]) ∧ (∀ p ∈ l, True) ∧ l.length * 8 ≤ reachBytes := by
  simp only [LeavesZ, LeafZ] at h
  obtain ⟨_, _, e, ⟨A, cap, css, rfl, h1, h2, R, hc, hz⟩, rfl⟩ := h
  injection e with e _
  subst e
  obtain ⟨l, rfl, hl⟩ := ex_map (f := fun z : Int => [Value.int .i64 z]) (p := fun _ => True) css (fun c hcm => by
    obtain ⟨_, _, rfl, ⟨a, rfl, _⟩, rfl⟩ := hc c hcm
    exact ⟨a, rfl, trivial⟩)
  rw [List.length_map] at h1 hz
  exact ⟨A, cap, l, by rw [List.length_map], h1, h2, R.map (f := fun z : Int => [Value.int .i64 z]) 0, hl, hz⟩
theorem okds {l : List Dm} (h : ∀ p ∈ l, p.ok) : ∀ i, i < l.length → (dat l i).ok := fun i hi => h _ (getD_mem dm0 hi)
end Go.Proofs.Ytagapiflfnbfiaa
