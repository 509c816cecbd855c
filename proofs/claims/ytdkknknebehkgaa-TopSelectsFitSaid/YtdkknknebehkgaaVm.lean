/- The library's sort, laid at pairs in plain words (by a tool of the kit), and the comparison of two pairs. No statement of the seat is proved here. -/
import Derived.WalkKit
import Derived.LoopN
import Derived.Handy
import Derived.StillTailTactics
import Derived.Shelf.Small.Bits
import Derived.Shelf.Small.Wraps
import Derived.Shelf.SlLaysF0
import Derived.Shelf.SlGeneric
import Derived.Shelf.SlSortCmp.InsertionK
import Derived.Ground.SlsfProg
import Derived.Ground.SlgnProg
import Derived.Ground.NamesProg
import Derived.Ground.Names2Prog
import Derived.Test.YtdkknknebehkgaaProg
import Derived.Test.YtdkknknebehkgaaVmLs
namespace Go.Proofs.Ytdkknknebehkgaa.Al
set_option linter.unusedVariables false
set_option linter.unusedSimpArgs false
open Go Go.Shelf Go.RowKit Go.Lib Go.Sort
/-- comparing two ints -/
theorem cmp_Compare_int (x y : Int) (w : World) :
    Calls Try.prog 66 #[.int .i64 x, .int .i64 y] w fun e w' => e = .returned (.int .i64 (Lib.compareInt x y)) ∧ w' = w := Any.cmp_Compare_int lays122 x y w
def enP (p : Int × Int) : List Value := [.int .i64 p.1, .int .i64 p.2]
def or2 (a b : Int) : Int := if a = 0 then b else a
def cmpP (x y : Int × Int) : Int := or2 (compareInt x.1 y.1) (compareInt x.2 y.2)
set_option maxHeartbeats 1000000 in
theorem compare2_c (x1 x2 y1 y2 : Int) (g h : Nat) (w : World) (hx1 : w.cell? ⟨g, 0, none⟩ = some (.int .i64 x1)) (hx2 : w.cell? ⟨g, 1, none⟩ = some (.int .i64 x2)) (hy1 : w.cell? ⟨h, 0, none⟩ = some (.int .i64 y1)) (hy2 : w.cell? ⟨h, 1, none⟩ = some (.int .i64 y2)) :
    Calls Try.prog 56 #[.slice (some ⟨g, 0, none⟩) 2 2, .slice (some ⟨h, 0, none⟩) 2 2] w fun e w' => e = .returned (.int .i64 (or2 (compareInt x1 y1) (compareInt x2 y2))) ∧ w' = w := by
  have h1 := fun w => cmp_Compare_int x1 y1 w
  have h2 := fun w => cmp_Compare_int x2 y2 w
  generalize compareInt x1 y1 = r1 at *
  generalize compareInt x2 y2 = r2 at *
  go_enter Try.func56, Try.ntmps56
  go_wp2
  refine wp_loop_rounds 3 ?_
  rw [rounds_succ]
  go_wp2_with (go_at_call 66; refine (h1 _).mono ?_; rintro e w' ⟨rfl, rfl⟩)
  · go_ret
    refine ⟨?_, rfl⟩
    simp_all [or2]
  rw [rounds_succ]
  go_wp2_with (go_at_call 66; refine (h2 _).mono ?_; rintro e w' ⟨rfl, rfl⟩)
  · go_ret
    refine ⟨?_, rfl⟩
    simp_all [or2]
  rw [rounds_succ]
  go_wp2
  go_ret
  refine ⟨?_, rfl⟩
  simp_all [or2]
theorem cellN {w : World} {n : Nat} (cs : Array Value) (t : Nat) (i : Nat) (v : Value) (h : w.heap.size = n) (hv : cs[i]? = some v) : ((w.alloc (.cells cs t)).drew).cell? ⟨n, i, none⟩ = some v := by
  subst h
  exact (World.cell?_alloc_new (w := w) cs t i).trans hv
theorem cellA (W : World) (cs cs' : Array Value) (t t' : Nat) (i : Nat) (v : Value) (hv : cs[i]? = some v) : (((W.alloc (.cells cs t)).alloc (.cells cs' t')).drew).cell? ⟨W.heap.size, i, none⟩ = some v :=
  ((World.cell?_alloc_lt (W.alloc (.cells cs t)) (.cells cs' t') ⟨W.heap.size, i, none⟩ (by simp)).trans (World.cell?_alloc_new (w := W) cs t i)).trans hv
theorem grow2 (W : World) (o1 o2 : Obj) : ∃ os', ((W.alloc o1).alloc o2).drew = grow (W.drewN 1) os' := by
  refine ⟨#[o1] ++ #[o2], ?_⟩
  show ((W.drewN 1).alloc o1).alloc o2 = _
  rw [alloc_eq_grow, alloc_eq_grow, grow_grow]
theorem still_tail {P : Program} {id : Nat} {Q : Exit → Act → World → Prop} {a : Act} {w : World} {l : List Oper} (n : Nat) (hm : P.follows .mixedOrders = true) (hB : Region.lexTailB .any l.toArray n = true) (wd : World) (hwd : wd = w.drew)
    (h : wpStill P l.toArray wd (fun a' => wpList P l.toArray Q (l.drop n) a' wd) (l.take n) a) : (Code.region id l.toArray true).wp P Q a w :=
  wp_region_still_tail n hm hB (by subst hwd; exact h)
set_option maxRecDepth 100000 in
set_option maxHeartbeats 1000000 in
theorem merged1_c0 (x1 x2 y1 y2 : Int) (W : World) : Calls Try.prog 55 #[.agg #[.int .i64 x1, .int .i64 x2], .agg #[.int .i64 y1, .int .i64 y2]] W fun e w' => e = .returned (.int .i64 (or2 (compareInt x1 y1) (compareInt x2 y2))) ∧ ∃ q os', w' = grow (W.drewN q) os' := by
  go_enter Try.func55, Try.ntmps55
  go_wp2_with fail
  refine still_tail 2 (by kernel_rfl) (by kernel_rfl) _ rfl ?_
  generalize hwd : World.drew _ = wd
  have hx1 : wd.cell? ⟨W.heap.size, 0, none⟩ = some (.int .i64 x1) := by rw [← hwd]; exact cellA _ _ _ _ _ 0 _ rfl
  have hx2 : wd.cell? ⟨W.heap.size, 1, none⟩ = some (.int .i64 x2) := by rw [← hwd]; exact cellA _ _ _ _ _ 1 _ rfl
  have hy1 : wd.cell? ⟨W.heap.size + 1, 0, none⟩ = some (.int .i64 y1) := by rw [← hwd]; exact cellN _ _ 0 _ (by simp) rfl
  have hy2 : wd.cell? ⟨W.heap.size + 1, 1, none⟩ = some (.int .i64 y2) := by rw [← hwd]; exact cellN _ _ 1 _ (by simp) rfl
  simp only [List.take_succ_cons, List.take_zero, List.drop_succ_cons, List.drop_zero]
  iterate 2 still_step
  refine wpStill_nil ?_
  go_wp2_with (go_at_call 56; refine (compare2_c x1 x2 y1 y2 _ _ _ hx1 hx2 hy1 hy2).mono ?_; rintro e w' ⟨rfl, rfl⟩)
  go_ret
  subst hwd
  exact ⟨rfl, 1, grow2 W _ _⟩
theorem merged1_c (x y : Int × Int) (W : World) : Calls Try.prog 55 #[.agg (enP x).toArray, .agg (enP y).toArray] W fun e w' => e = .returned (.int .i64 (cmpP x y)) ∧ ∃ q os', w' = grow (W.drewN q) os' :=
  merged1_c0 _ _ _ _ W
theorem cmpLays_merged1 (blk off size : Nat) (w : World) : CmpLays Try.prog 55 #[] enP 2 cmpP blk off size w :=
  fun _ _ _ _ x y => merged1_c x y _
end Go.Proofs.Ytdkknknebehkgaa.Al
