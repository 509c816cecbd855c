/- Stacks of dimensions: what right tasks give, as contracts. No statement of the seat is proved here. -/
import Derived.Test.YtkkgkghkmkigjaaM4
import Derived.Test.YtkkgkghkmkigjaaM0
namespace Go.Proofs.Ytkkgkghkmkigjaa
set_option linter.unusedVariables false
set_option linter.unusedSimpArgs false
open Go Go.RowKit
/-! ### what right tasks give -/
theorem right_yes (A : Option Addr) (cA : Nat) (l : List Dm) (hl : l.length ≤ 9223372036854775807) (ho : ∀ i, i < l.length → (dat l i).ok) (B : Option Addr) (cB : Nat) (c : List Lk) (hc : c.length ≤ 9223372036854775807) (hz : c.length * 16 ≤ reachBytes) (lo hi : Int) (h : rigP l c lo hi) (w : World) (R : Rd w A 5 l.length (fun i => dmC (l.getD i dm0))) (R2 : Rd w B 2 c.length (fun i => lkC (c.getD i lk0))) : Calls Try.prog 19 #[.agg #[.slice A l.length cA, .slice B c.length cB, .int .i64 lo, .int .i64 hi]] w (RetP (Val (.bool true) w)) := by
  have := right_c A cA l hl ho B cB c hc hz lo hi w R R2
  rwa [rigB_yes h] at this
theorem right_no (A : Option Addr) (cA : Nat) (l : List Dm) (hl : l.length ≤ 9223372036854775807) (ho : ∀ i, i < l.length → (dat l i).ok) (B : Option Addr) (cB : Nat) (c : List Lk) (hc : c.length ≤ 9223372036854775807) (hz : c.length * 16 ≤ reachBytes) (lo hi : Int) (h : ¬ rigP l c lo hi) (w : World) (R : Rd w A 5 l.length (fun i => dmC (l.getD i dm0))) (R2 : Rd w B 2 c.length (fun i => lkC (c.getD i lk0))) : Calls Try.prog 19 #[.agg #[.slice A l.length cA, .slice B c.length cB, .int .i64 lo, .int .i64 hi]] w (RetP (Val (.bool false) w)) := by
  have := right_c A cA l hl ho B cB c hc hz lo hi w R R2
  rwa [rigB_no h] at this
theorem attain_y (A : Option Addr) (cA : Nat) (l : List Dm) (hl : l.length ≤ 9223372036854775807) (ho : ∀ i, i < l.length → (dat l i).ok) (B : Option Addr) (cB : Nat) (c : List Lk) (hc : c.length ≤ 9223372036854775807) (lo hi : Int) (b : Bool) (h : stkE l c lo hi = 0) (w : World) (R : Rd w A 5 l.length (fun i => dmC (l.getD i dm0))) (R2 : Rd w B 2 c.length (fun i => lkC (c.getD i lk0))) : Calls Try.prog 25 #[.agg #[.slice A l.length cA, .slice B c.length cB, .int .i64 lo, .int .i64 hi], .bool b] w (RetP (RowR (fun v => .tuple #[v, .int .i64 0]) 3 1 ((extS l c b).map intC) w)) := by
  have := Attain_c A cA l hl ho B cB c hc lo hi b w R R2
  rwa [attL_yes b h] at this
theorem part_y (A : Option Addr) (cA : Nat) (l : List Dm) (hl : l.length ≤ 9223372036854775807) (ho : ∀ i, i < l.length → (dat l i).ok) (B : Option Addr) (cB : Nat) (c : List Lk) (hc : c.length ≤ 9223372036854775807) (lo hi s : Int) (h : stkE l c lo hi = 0) (h1 : ¬ (s < (bndE l c).1 ∨ (bndE l c).2 < s)) (w : World) (R : Rd w A 5 l.length (fun i => dmC (l.getD i dm0))) (R2 : Rd w B 2 c.length (fun i => lkC (c.getD i lk0))) : Calls Try.prog 14 #[.agg #[.slice A l.length cA, .slice B c.length cB, .int .i64 lo, .int .i64 hi], .int .i64 s] w (RetP (RowR (fun v => .tuple #[v, .int .i64 0]) 3 1 ((parE l c s).map intC) w)) := by
  have := PartS_c A cA l hl ho B cB c hc lo hi s w R R2
  rwa [parL_yes h h1] at this
theorem within_y (A : Option Addr) (cA : Nat) (l : List Dm) (hl : l.length ≤ 9223372036854775807) (ho : ∀ i, i < l.length → (dat l i).ok) (B : Option Addr) (m cB : Nat) (lo hi : Int) (C : Option Addr) (cC : Nat) (sh : List Int) (hsl : sh.length ≤ 9223372036854775807) (hw : witP l sh) (w : World) (R : Rd w A 5 l.length (fun i => dmC (l.getD i dm0))) (R3 : Rd w C 1 sh.length (fun i => intC (sh.getD i 0))) :
    Calls Try.prog 34 #[.agg #[.slice A l.length cA, .slice B m cB, .int .i64 lo, .int .i64 hi], .slice C sh.length cC] w (RetP (Val (.bool true) w)) := by
  have := within_c A cA l hl ho B m cB lo hi C cC sh hsl w R R3
  rwa [witB_yes hw] at this
theorem sum_y (A : Option Addr) (cA : Nat) (l : List Dm) (hl : l.length ≤ 9223372036854775807) (ho : ∀ i, i < l.length → (dat l i).ok) (B : Option Addr) (cB : Nat) (c : List Lk) (hc : c.length ≤ 9223372036854775807) (C : Option Addr) (cC : Nat) (sh : List Int) (hsl : sh.length ≤ 9223372036854775807) (v : Int) (h : sumL l c sh = (v, 0)) (w : World) (R : Rd w A 5 l.length (fun i => dmC (l.getD i dm0))) (R2 : Rd w B 2 c.length (fun i => lkC (c.getD i lk0))) (R3 : Rd w C 1 sh.length (fun i => intC (sh.getD i 0))) :
    Calls Try.prog 35 #[.slice A l.length cA, .slice B c.length cB, .slice C sh.length cC] w (RetP (Val (.tuple #[.int .i64 v, .int .i64 0]) w)) := by
  have := Sum_c A cA l hl ho B cB c hc C cC sh hsl w R R2 R3
  rwa [h] at this
theorem sum_m (A : Option Addr) (cA : Nat) (l : List Dm) (hl : l.length ≤ 9223372036854775807) (ho : ∀ i, i < l.length → (dat l i).ok) (B : Option Addr) (cB : Nat) (c : List Lk) (hc : c.length ≤ 9223372036854775807) {C : Option Addr} {cC m : Nat} {sh : List Int} (hm : m = sh.length) (hsl : sh.length ≤ 9223372036854775807) (v : Int) (h : sumL l c sh = (v, 0)) (w : World) (R : Rd w A 5 l.length (fun i => dmC (l.getD i dm0))) (R2 : Rd w B 2 c.length (fun i => lkC (c.getD i lk0))) (R3 : Rd w C 1 sh.length (fun i => intC (sh.getD i 0))) :
    Calls Try.prog 35 #[.slice A l.length cA, .slice B c.length cB, .slice C m cC] w (RetP (Val (.tuple #[.int .i64 v, .int .i64 0]) w)) := by
  subst hm
  exact sum_y A cA l hl ho B cB c hc C cC sh hsl v h w R R2 R3
theorem right_v (A : Option Addr) (cA : Nat) (l : List Dm) (hl : l.length ≤ 9223372036854775807) (ho : ∀ i, i < l.length → (dat l i).ok) (B : Option Addr) (cB : Nat) (c : List Lk) (hc : c.length ≤ 9223372036854775807) (hz : c.length * 16 ≤ reachBytes) (lo hi : Int) (b : Bool) (h : rigB l c lo hi = b) (w : World) (R : Rd w A 5 l.length (fun i => dmC (l.getD i dm0))) (R2 : Rd w B 2 c.length (fun i => lkC (c.getD i lk0))) : Calls Try.prog 19 #[.agg #[.slice A l.length cA, .slice B c.length cB, .int .i64 lo, .int .i64 hi]] w (RetP (Val (.bool b) w)) := by
  have := right_c A cA l hl ho B cB c hc hz lo hi w R R2
  rwa [h] at this
theorem spare_y (A : Option Addr) (cA : Nat) (l : List Dm) (hl : l.length ≤ 9223372036854775807) (ho : ∀ i, i < l.length → (dat l i).ok) (B : Option Addr) (cB : Nat) (c : List Lk) (hc : c.length ≤ 9223372036854775807) (lo hi : Int) (h : stkE l c lo hi = 0) (w : World) (R : Rd w A 5 l.length (fun i => dmC (l.getD i dm0))) (R2 : Rd w B 2 c.length (fun i => lkC (c.getD i lk0))) : Calls Try.prog 22 #[.agg #[.slice A l.length cA, .slice B c.length cB, .int .i64 lo, .int .i64 hi]] w (RetP (Val (.tuple #[.int .i64 ((bndE l c).1 - lo), .int .i64 (hi - (bndE l c).2), .int .i64 0]) w)) := by
  have := Spare_c A cA l hl ho B cB c hc lo hi w R R2
  rwa [spaL_yes h] at this
theorem keeps_y (A : Option Addr) (cA : Nat) (l : List Dm) (hl : l.length ≤ 9223372036854775807) (ho : ∀ i, i < l.length → (dat l i).ok) (B : Option Addr) (cB : Nat) (c : List Lk) (hc : c.length ≤ 9223372036854775807) (lo hi : Int) {b : Bool} {xs : List Int} (h : keeL l c lo hi = ((b, 0), xs)) (w : World) (R : Rd w A 5 l.length (fun i => dmC (l.getD i dm0))) (R2 : Rd w B 2 c.length (fun i => lkC (c.getD i lk0))) : Calls Try.prog 23 #[.agg #[.slice A l.length cA, .slice B c.length cB, .int .i64 lo, .int .i64 hi]] w (RetP (RowR (fun v => .tuple #[.bool b, v, .int .i64 0]) 3 1 (xs.map intC) w)) := by
  have := KeepsS_c A cA l hl ho B cB c hc lo hi w R R2
  rwa [h] at this
end Go.Proofs.Ytkkgkghkmkigjaa
