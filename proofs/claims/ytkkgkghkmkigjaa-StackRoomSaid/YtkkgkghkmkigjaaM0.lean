/- Stacks of dimensions: a task as an argument. No statement of the seat is proved here. -/
import Derived.Test.YtkkgkghkmkigjaaLx
namespace Go.Proofs.Ytkkgkghkmkigjaa
set_option linter.unusedVariables false
set_option linter.unusedSimpArgs false
open Go Go.RowKit
/-- a task with its addresses -/
structure Tk where
  A : Option Addr
  cA : Nat
  l : List Dm
  B : Option Addr
  cB : Nat
  c : List Lk
  lo : Int
  hi : Int
def tkV (t : Tk) : Value := .agg #[.slice t.A t.l.length t.cA, .slice t.B t.c.length t.cB, .int .i64 t.lo, .int .i64 t.hi]
structure Tk.ok (t : Tk) (w : World) : Prop where
  hl : t.l.length ≤ 9223372036854775807
  ho : ∀ i, i < t.l.length → (dat t.l i).ok
  hc : t.c.length ≤ 9223372036854775807
  hz : t.c.length * 16 ≤ reachBytes
  R : Rd w t.A 5 t.l.length (fun i => dmC (t.l.getD i dm0))
  R2 : Rd w t.B 2 t.c.length (fun i => lkC (t.c.getD i lk0))
  zl : t.l.length * 56 ≤ reachBytes
  cl : t.c.length ≤ t.cB
theorem openTk {w : World} {v : Value} (h : ∃ l : List Value, v = .agg l.toArray ∧ LeavesZ w [.slice 56 5 [.string, .string, .int .i64, .int .i64, .int .i64], .slice 16 2 [.int .i64, .bool], .int .i64, .int .i64] l) : ∃ t : Tk, v = tkV t ∧ t.ok w := by
  obtain ⟨_, rfl, h⟩ := h
  simp only [LeavesZ, LeafZ] at h
  obtain ⟨_, _, rfl, ⟨A, cA, css, rfl, h1, h2, R, hc, hz⟩, _, _, rfl, ⟨B, cB, dss, rfl, h3, h4, R2, hd, hy⟩, _, _, rfl, ⟨lo, rfl, _⟩, _, _, rfl, ⟨hi, rfl, _⟩, rfl⟩ := h
  obtain ⟨l, rfl, hl⟩ := ex_map (f := dmC) (p := Dm.ok) css (fun c hcm => by
    obtain ⟨_, _, rfl, ⟨a, rfl, ha⟩, _, _, rfl, ⟨b, rfl, hb⟩, _, _, rfl, ⟨x, rfl, _⟩, _, _, rfl, ⟨y, rfl, _⟩, _, _, rfl, ⟨z, rfl, _⟩, rfl⟩ := hc c hcm
    exact ⟨⟨a, b, x, y, z⟩, rfl, by have : maxLen = 9223372036854775807 := rfl; exact ⟨show a.size ≤ 9223372036854775807 by omega, show b.size ≤ 9223372036854775807 by omega⟩⟩)
  obtain ⟨c, rfl, _⟩ := ex_map (f := lkC) (p := fun _ => True) dss (fun c hcm => by
    obtain ⟨_, _, rfl, ⟨a, rfl, _⟩, _, _, rfl, ⟨b, rfl⟩, rfl⟩ := hd c hcm
    exact ⟨⟨a, b⟩, rfl, trivial⟩)
  rw [List.length_map] at h1 hz h3 hy
  have hm : maxLen = 9223372036854775807 := rfl
  refine ⟨⟨A, cA, l, B, cB, c, lo, hi⟩, ?_, ?_⟩
  · unfold tkV; rw [List.length_map, List.length_map]
  · exact ⟨show l.length ≤ _ by omega, fun i hi => hl _ (getD_mem dm0 hi), show c.length ≤ _ by omega, hy, R.map dm0, R2.map lk0, hz, h3⟩
end Go.Proofs.Ytkkgkghkmkigjaa
