/- The library's sort, laid at pairs (by a tool of the kit). No statement of the seat is proved here. -/
/- The library's sort, laid at pairs in plain words (by a tool of the kit), and the comparison of two pairs. No statement of the seat is proved here. -/
import Derived.WalkKit
import Derived.LoopN
import Derived.Handy
import Derived.StillTailTactics
import Derived.Shelf.Small.Bits
import Derived.Shelf.Small.Wraps
import Derived.Shelf.SlLaysF0
import Derived.Shelf.SlGeneric
import Derived.Shelf.SlSortCmp.InsertionK
import Derived.Ground.SlsfProg
import Derived.Ground.SlgnProg
import Derived.Ground.NamesProg
import Derived.Ground.Names2Prog
import Derived.Test.YtdkknknebehkgaaGreatDoorProg
namespace Go.Proofs.YtdkknknebehkgaaGreatDoor.Al
set_option linter.unusedVariables false
set_option linter.unusedSimpArgs false
open Go Go.Shelf Go.RowKit Go.Lib Go.Sort
def sortPair_ren : Go.Shelf.Ren := ⟨fun | 6 => 60 | 15 => 76 | 14 => 75 | 28 => 90 | 29 => 64 | 20 => 82 | 21 => 83 | 22 => 84 | 23 => 85 | 24 => 86 | 25 => 87 | 26 => 88 | 27 => 89 | 46 => 95 | 47 => 96 | 48 => 97 | 49 => 98 | 50 => 99 | 57 => 103 | n => n, fun | 22 => 61 | 24 => 87 | 25 => 112 | 3 => 3 | 39 => 113 | 0 => 0 | 53 => 134 | 55 => 115 | 4 => 4 | 46 => 153 | 45 => 152 | 50 => 68 | 5 => 5 | 9 => 9 | 66 => 164 | 70 => 168 | 76 => 172 | 77 => 173 | n => n, fun | n => n⟩
theorem sortPair : Go.Proofs.SlLaysF0.n6 Tryz.prog sortPair_ren := {
  mixed := by kernel_rfl
  f6 := ⟨Tryz.f60.name, by decide, Tryz.func60.trans (congrArg some (by kernel_rfl))⟩
  f14 := ⟨Tryz.f75.name, by decide, Tryz.func75.trans (congrArg some (by kernel_rfl))⟩
  f15 := Tryz.func76.trans (congrArg some (by kernel_rfl))
  f20 := ⟨Tryz.f82.name, by decide, Tryz.func82.trans (congrArg some (by kernel_rfl))⟩
  f21 := ⟨Tryz.f83.name, by decide, Tryz.func83.trans (congrArg some (by kernel_rfl))⟩
  f22 := ⟨Tryz.f84.name, by decide, Tryz.func84.trans (congrArg some (by kernel_rfl))⟩
  f23 := ⟨Tryz.f85.name, by decide, Tryz.func85.trans (congrArg some (by kernel_rfl))⟩
  f24 := ⟨Tryz.f86.name, by decide, Tryz.func86.trans (congrArg some (by kernel_rfl))⟩
  f25 := ⟨Tryz.f87.name, by decide, Tryz.func87.trans (congrArg some (by kernel_rfl))⟩
  f26 := ⟨Tryz.f88.name, by decide, Tryz.func88.trans (congrArg some (by kernel_rfl))⟩
  f27 := ⟨Tryz.f89.name, by decide, Tryz.func89.trans (congrArg some (by kernel_rfl))⟩
  f28 := Tryz.func90.trans (congrArg some (by kernel_rfl))
  f29 := Tryz.func64.trans (congrArg some (by kernel_rfl))
  f46 := ⟨Tryz.f95.name, by decide, Tryz.func95.trans (congrArg some (by kernel_rfl))⟩
  f47 := Tryz.func96.trans (congrArg some (by kernel_rfl))
  f48 := Tryz.func97.trans (congrArg some (by kernel_rfl))
  f49 := ⟨Tryz.f98.name, by decide, Tryz.func98.trans (congrArg some (by kernel_rfl))⟩
  f50 := ⟨Tryz.f99.name, by decide, Tryz.func99.trans (congrArg some (by kernel_rfl))⟩
  f57 := ⟨Tryz.f103.name, by decide, Tryz.func103.trans (congrArg some (by kernel_rfl))⟩
  t0 := Tryz.underlying0
  a0 := Tryz.isAgg0
  z0 := Tryz.sizeOf0
  v0 := Tryz.zeroValue0
  t3 := Tryz.underlying3
  a3 := Tryz.isAgg3
  z3 := Tryz.sizeOf3
  v3 := Tryz.zeroValue3
  t4 := Tryz.underlying4
  a4 := Tryz.isAgg4
  z4 := Tryz.sizeOf4
  v4 := Tryz.zeroValue4
  t5 := Tryz.underlying5
  a5 := Tryz.isAgg5
  z5 := Tryz.sizeOf5
  v5 := Tryz.zeroValue5
  t9 := Tryz.underlying9
  a9 := Tryz.isAgg9
  z9 := Tryz.sizeOf9
  v9 := Tryz.zeroValue9
  t22 := Tryz.underlying61
  a22 := Tryz.isAgg61
  z22 := Tryz.sizeOf61
  v22 := Tryz.zeroValue61
  t25 := Tryz.underlying112
  a25 := Tryz.isAgg112
  z25 := Tryz.sizeOf112
  v25 := Tryz.zeroValue112
  t39 := Tryz.underlying113
  a39 := Tryz.isAgg113
  z39 := Tryz.sizeOf113
  v39 := Tryz.zeroValue113
  t45 := Tryz.underlying152
  a45 := Tryz.isAgg152
  z45 := Tryz.sizeOf152
  v45 := Tryz.zeroValue152
  t46 := Tryz.underlying153
  a46 := Tryz.isAgg153
  z46 := Tryz.sizeOf153
  v46 := Tryz.zeroValue153
  t50 := Tryz.underlying68
  a50 := Tryz.isAgg68
  z50 := Tryz.sizeOf68
  v50 := Tryz.zeroValue68
  t53 := Tryz.underlying134
  a53 := Tryz.isAgg134
  z53 := Tryz.sizeOf134
  v53 := Tryz.zeroValue134
  t55 := Tryz.underlying115
  a55 := Tryz.isAgg115
  z55 := Tryz.sizeOf115
  v55 := Tryz.zeroValue115
  t66 := Tryz.underlying164
  a66 := Tryz.isAgg164
  z66 := Tryz.sizeOf164
  v66 := Tryz.zeroValue164
  t70 := Tryz.underlying168
  a70 := Tryz.isAgg168
  z70 := Tryz.sizeOf168
  v70 := Tryz.zeroValue168
  t76 := Tryz.underlying172
  a76 := Tryz.isAgg172
  z76 := Tryz.sizeOf172
  v76 := Tryz.zeroValue172
  t77 := Tryz.underlying173
  a77 := Tryz.isAgg173
  z77 := Tryz.sizeOf173
  v77 := Tryz.zeroValue173 }
def lays122_ren : Go.Shelf.Ren := ⟨fun | 122 => 62 | 215 => 77 | n => n, fun | 3 => 3 | 4 => 4 | n => n, fun | n => n⟩
theorem lays122 : Go.Proofs.Lays.n122 Tryz.prog lays122_ren := {
  mixed := by kernel_rfl
  f122 := Tryz.func62.trans (congrArg some (by kernel_rfl))
  f215 := Tryz.func77.trans (congrArg some (by kernel_rfl))
  t3 := Tryz.underlying3
  a3 := Tryz.isAgg3
  z3 := Tryz.sizeOf3
  v3 := Tryz.zeroValue3
  t4 := Tryz.underlying4
  a4 := Tryz.isAgg4
  z4 := Tryz.sizeOf4
  v4 := Tryz.zeroValue4 }
end Go.Proofs.YtdkknknebehkgaaGreatDoor.Al

namespace Go.Proofs.YtdkknknebehkgaaGreatDoor.Al
set_option linter.unusedVariables false
set_option linter.unusedSimpArgs false
open Go Go.Shelf Go.RowKit Go.Lib Go.Sort
/-- comparing two ints -/
theorem cmp_Compare_int (x y : Int) (w : World) :
    Calls Tryz.prog 62 #[.int .i64 x, .int .i64 y] w fun e w' => e = .returned (.int .i64 (Lib.compareInt x y)) ∧ w' = w := Any.cmp_Compare_int lays122 x y w
def enP (p : Int × Int) : List Value := [.int .i64 p.1, .int .i64 p.2]
def or2 (a b : Int) : Int := if a = 0 then b else a
def cmpP (x y : Int × Int) : Int := or2 (compareInt x.1 y.1) (compareInt x.2 y.2)
set_option maxHeartbeats 1000000 in
theorem compare2_c (x1 x2 y1 y2 : Int) (g h : Nat) (w : World) (hx1 : w.cell? ⟨g, 0, none⟩ = some (.int .i64 x1)) (hx2 : w.cell? ⟨g, 1, none⟩ = some (.int .i64 x2)) (hy1 : w.cell? ⟨h, 0, none⟩ = some (.int .i64 y1)) (hy2 : w.cell? ⟨h, 1, none⟩ = some (.int .i64 y2)) :
    Calls Tryz.prog 47 #[.slice (some ⟨g, 0, none⟩) 2 2, .slice (some ⟨h, 0, none⟩) 2 2] w fun e w' => e = .returned (.int .i64 (or2 (compareInt x1 y1) (compareInt x2 y2))) ∧ w' = w := by
  have h1 := fun w => cmp_Compare_int x1 y1 w
  have h2 := fun w => cmp_Compare_int x2 y2 w
  generalize compareInt x1 y1 = r1 at *
  generalize compareInt x2 y2 = r2 at *
  go_enter Tryz.func47, Tryz.ntmps47
  go_wp2
  refine wp_loop_rounds 3 ?_
  rw [rounds_succ]
  go_wp2_with (go_at_call 62; refine (h1 _).mono ?_; rintro e w' ⟨rfl, rfl⟩)
  · go_ret
    refine ⟨?_, rfl⟩
    simp_all [or2]
  rw [rounds_succ]
  go_wp2_with (go_at_call 62; refine (h2 _).mono ?_; rintro e w' ⟨rfl, rfl⟩)
  · go_ret
    refine ⟨?_, rfl⟩
    simp_all [or2]
  rw [rounds_succ]
  go_wp2
  go_ret
  refine ⟨?_, rfl⟩
  simp_all [or2]
theorem cellN {w : World} {n : Nat} (cs : Array Value) (t : Nat) (i : Nat) (v : Value) (h : w.heap.size = n) (hv : cs[i]? = some v) : ((w.alloc (.cells cs t)).drew).cell? ⟨n, i, none⟩ = some v := by
  subst h
  exact (World.cell?_alloc_new (w := w) cs t i).trans hv
theorem cellA (W : World) (cs cs' : Array Value) (t t' : Nat) (i : Nat) (v : Value) (hv : cs[i]? = some v) : (((W.alloc (.cells cs t)).alloc (.cells cs' t')).drew).cell? ⟨W.heap.size, i, none⟩ = some v :=
  ((World.cell?_alloc_lt (W.alloc (.cells cs t)) (.cells cs' t') ⟨W.heap.size, i, none⟩ (by simp)).trans (World.cell?_alloc_new (w := W) cs t i)).trans hv
theorem grow2 (W : World) (o1 o2 : Obj) : ∃ os', ((W.alloc o1).alloc o2).drew = grow (W.drewN 1) os' := by
  refine ⟨#[o1] ++ #[o2], ?_⟩
  show ((W.drewN 1).alloc o1).alloc o2 = _
  rw [alloc_eq_grow, alloc_eq_grow, grow_grow]
theorem still_tail {P : Program} {id : Nat} {Q : Exit → Act → World → Prop} {a : Act} {w : World} {l : List Oper} (n : Nat) (hm : P.follows .mixedOrders = true) (hB : Region.lexTailB .any l.toArray n = true) (wd : World) (hwd : wd = w.drew)
    (h : wpStill P l.toArray wd (fun a' => wpList P l.toArray Q (l.drop n) a' wd) (l.take n) a) : (Code.region id l.toArray true).wp P Q a w :=
  wp_region_still_tail n hm hB (by subst hwd; exact h)
set_option maxRecDepth 100000 in
set_option maxHeartbeats 1000000 in
theorem merged1_c0 (x1 x2 y1 y2 : Int) (W : World) : Calls Tryz.prog 46 #[.agg #[.int .i64 x1, .int .i64 x2], .agg #[.int .i64 y1, .int .i64 y2]] W fun e w' => e = .returned (.int .i64 (or2 (compareInt x1 y1) (compareInt x2 y2))) ∧ ∃ q os', w' = grow (W.drewN q) os' := by
  go_enter Tryz.func46, Tryz.ntmps46
  go_wp2_with fail
  refine still_tail 2 (by kernel_rfl) (by kernel_rfl) _ rfl ?_
  generalize hwd : World.drew _ = wd
  have hx1 : wd.cell? ⟨W.heap.size, 0, none⟩ = some (.int .i64 x1) := by rw [← hwd]; exact cellA _ _ _ _ _ 0 _ rfl
  have hx2 : wd.cell? ⟨W.heap.size, 1, none⟩ = some (.int .i64 x2) := by rw [← hwd]; exact cellA _ _ _ _ _ 1 _ rfl
  have hy1 : wd.cell? ⟨W.heap.size + 1, 0, none⟩ = some (.int .i64 y1) := by rw [← hwd]; exact cellN _ _ 0 _ (by simp) rfl
  have hy2 : wd.cell? ⟨W.heap.size + 1, 1, none⟩ = some (.int .i64 y2) := by rw [← hwd]; exact cellN _ _ 1 _ (by simp) rfl
  simp only [List.take_succ_cons, List.take_zero, List.drop_succ_cons, List.drop_zero]
  iterate 2 still_step
  refine wpStill_nil ?_
  go_wp2_with (go_at_call 47; refine (compare2_c x1 x2 y1 y2 _ _ _ hx1 hx2 hy1 hy2).mono ?_; rintro e w' ⟨rfl, rfl⟩)
  go_ret
  subst hwd
  exact ⟨rfl, 1, grow2 W _ _⟩
theorem merged1_c (x y : Int × Int) (W : World) : Calls Tryz.prog 46 #[.agg (enP x).toArray, .agg (enP y).toArray] W fun e w' => e = .returned (.int .i64 (cmpP x y)) ∧ ∃ q os', w' = grow (W.drewN q) os' :=
  merged1_c0 _ _ _ _ W
theorem cmpLays_merged1 (blk off size : Nat) (w : World) : CmpLays Tryz.prog 46 #[] enP 2 cmpP blk off size w :=
  fun _ _ _ _ x y => merged1_c x y _
end Go.Proofs.YtdkknknebehkgaaGreatDoor.Al
