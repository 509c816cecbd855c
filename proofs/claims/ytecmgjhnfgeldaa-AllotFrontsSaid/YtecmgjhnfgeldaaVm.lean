/- The library's sort, laid at pairs in plain words (by a tool of the kit), and the comparison of two pairs. No statement of the seat is proved here. -/
import Derived.WalkKit
import Derived.LoopN
import Derived.Handy
import Derived.StillTailTactics
import Derived.Shelf.Small.Bits
import Derived.Shelf.Small.Wraps
import Derived.Shelf.SlLaysF0
import Derived.Shelf.SlGeneric
import Derived.Shelf.SlSortCmp.InsertionK
import Derived.Ground.SlsfProg
import Derived.Ground.SlgnProg
import Derived.Ground.NamesProg
import Derived.Ground.Names2Prog
import Derived.Test.YtecmgjhnfgeldaaProg
namespace Go.Proofs.Ytecmgjhnfgeldaa.Al
set_option linter.unusedVariables false
set_option linter.unusedSimpArgs false
open Go Go.Shelf Go.RowKit Go.Lib Go.Sort
def sortPair_ren : Go.Shelf.Ren := ⟨fun | 6 => 57 | 15 => 61 | 14 => 60 | 28 => 70 | 29 => 71 | 20 => 62 | 21 => 63 | 22 => 64 | 23 => 65 | 24 => 66 | 25 => 67 | 26 => 68 | 27 => 69 | 46 => 72 | 47 => 73 | 48 => 74 | 49 => 75 | 50 => 76 | 57 => 77 | n => n, fun | 22 => 39 | 24 => 51 | 25 => 99 | 3 => 3 | 39 => 100 | 0 => 0 | 53 => 115 | 55 => 117 | 4 => 4 | 46 => 109 | 45 => 108 | 50 => 75 | 5 => 5 | 9 => 9 | 66 => 118 | 70 => 122 | 76 => 124 | 77 => 47 | n => n, fun | n => n⟩
theorem sortPair : Go.Proofs.SlLaysF0.n6 Try.prog sortPair_ren := {
  mixed := by kernel_rfl
  f6 := ⟨Try.f57.name, by decide, Try.func57.trans (congrArg some (by kernel_rfl))⟩
  f14 := ⟨Try.f60.name, by decide, Try.func60.trans (congrArg some (by kernel_rfl))⟩
  f15 := Try.func61.trans (congrArg some (by kernel_rfl))
  f20 := ⟨Try.f62.name, by decide, Try.func62.trans (congrArg some (by kernel_rfl))⟩
  f21 := ⟨Try.f63.name, by decide, Try.func63.trans (congrArg some (by kernel_rfl))⟩
  f22 := ⟨Try.f64.name, by decide, Try.func64.trans (congrArg some (by kernel_rfl))⟩
  f23 := ⟨Try.f65.name, by decide, Try.func65.trans (congrArg some (by kernel_rfl))⟩
  f24 := ⟨Try.f66.name, by decide, Try.func66.trans (congrArg some (by kernel_rfl))⟩
  f25 := ⟨Try.f67.name, by decide, Try.func67.trans (congrArg some (by kernel_rfl))⟩
  f26 := ⟨Try.f68.name, by decide, Try.func68.trans (congrArg some (by kernel_rfl))⟩
  f27 := ⟨Try.f69.name, by decide, Try.func69.trans (congrArg some (by kernel_rfl))⟩
  f28 := Try.func70.trans (congrArg some (by kernel_rfl))
  f29 := Try.func71.trans (congrArg some (by kernel_rfl))
  f46 := ⟨Try.f72.name, by decide, Try.func72.trans (congrArg some (by kernel_rfl))⟩
  f47 := Try.func73.trans (congrArg some (by kernel_rfl))
  f48 := Try.func74.trans (congrArg some (by kernel_rfl))
  f49 := ⟨Try.f75.name, by decide, Try.func75.trans (congrArg some (by kernel_rfl))⟩
  f50 := ⟨Try.f76.name, by decide, Try.func76.trans (congrArg some (by kernel_rfl))⟩
  f57 := ⟨Try.f77.name, by decide, Try.func77.trans (congrArg some (by kernel_rfl))⟩
  t0 := Try.underlying0
  a0 := Try.isAgg0
  z0 := Try.sizeOf0
  v0 := Try.zeroValue0
  t3 := Try.underlying3
  a3 := Try.isAgg3
  z3 := Try.sizeOf3
  v3 := Try.zeroValue3
  t4 := Try.underlying4
  a4 := Try.isAgg4
  z4 := Try.sizeOf4
  v4 := Try.zeroValue4
  t5 := Try.underlying5
  a5 := Try.isAgg5
  z5 := Try.sizeOf5
  v5 := Try.zeroValue5
  t9 := Try.underlying9
  a9 := Try.isAgg9
  z9 := Try.sizeOf9
  v9 := Try.zeroValue9
  t22 := Try.underlying39
  a22 := Try.isAgg39
  z22 := Try.sizeOf39
  v22 := Try.zeroValue39
  t25 := Try.underlying99
  a25 := Try.isAgg99
  z25 := Try.sizeOf99
  v25 := Try.zeroValue99
  t39 := Try.underlying100
  a39 := Try.isAgg100
  z39 := Try.sizeOf100
  v39 := Try.zeroValue100
  t45 := Try.underlying108
  a45 := Try.isAgg108
  z45 := Try.sizeOf108
  v45 := Try.zeroValue108
  t46 := Try.underlying109
  a46 := Try.isAgg109
  z46 := Try.sizeOf109
  v46 := Try.zeroValue109
  t50 := Try.underlying75
  a50 := Try.isAgg75
  z50 := Try.sizeOf75
  v50 := Try.zeroValue75
  t53 := Try.underlying115
  a53 := Try.isAgg115
  z53 := Try.sizeOf115
  v53 := Try.zeroValue115
  t55 := Try.underlying117
  a55 := Try.isAgg117
  z55 := Try.sizeOf117
  v55 := Try.zeroValue117
  t66 := Try.underlying118
  a66 := Try.isAgg118
  z66 := Try.sizeOf118
  v66 := Try.zeroValue118
  t70 := Try.underlying122
  a70 := Try.isAgg122
  z70 := Try.sizeOf122
  v70 := Try.zeroValue122
  t76 := Try.underlying124
  a76 := Try.isAgg124
  z76 := Try.sizeOf124
  v76 := Try.zeroValue124
  t77 := Try.underlying47
  a77 := Try.isAgg47
  z77 := Try.sizeOf47
  v77 := Try.zeroValue47 }
def lays122_ren : Go.Shelf.Ren := ⟨fun | 122 => 46 | 215 => 51 | n => n, fun | 3 => 3 | 4 => 4 | n => n, fun | n => n⟩
theorem lays122 : Go.Proofs.Lays.n122 Try.prog lays122_ren := {
  mixed := by kernel_rfl
  f122 := Try.func46.trans (congrArg some (by kernel_rfl))
  f215 := Try.func51.trans (congrArg some (by kernel_rfl))
  t3 := Try.underlying3
  a3 := Try.isAgg3
  z3 := Try.sizeOf3
  v3 := Try.zeroValue3
  t4 := Try.underlying4
  a4 := Try.isAgg4
  z4 := Try.sizeOf4
  v4 := Try.zeroValue4 }
/-- comparing two ints -/
theorem cmp_Compare_int (x y : Int) (w : World) :
    Calls Try.prog 46 #[.int .i64 x, .int .i64 y] w fun e w' => e = .returned (.int .i64 (Lib.compareInt x y)) ∧ w' = w := Any.cmp_Compare_int lays122 x y w
def enP (p : Int × Int) : List Value := [.int .i64 p.1, .int .i64 p.2]
def or2 (a b : Int) : Int := if a = 0 then b else a
def cmpP (x y : Int × Int) : Int := or2 (compareInt x.1 y.1) (compareInt x.2 y.2)
set_option maxHeartbeats 1000000 in
theorem compare2_c (x1 x2 y1 y2 : Int) (g h : Nat) (w : World) (hx1 : w.cell? ⟨g, 0, none⟩ = some (.int .i64 x1)) (hx2 : w.cell? ⟨g, 1, none⟩ = some (.int .i64 x2)) (hy1 : w.cell? ⟨h, 0, none⟩ = some (.int .i64 y1)) (hy2 : w.cell? ⟨h, 1, none⟩ = some (.int .i64 y2)) :
    Calls Try.prog 30 #[.slice (some ⟨g, 0, none⟩) 2 2, .slice (some ⟨h, 0, none⟩) 2 2] w fun e w' => e = .returned (.int .i64 (or2 (compareInt x1 y1) (compareInt x2 y2))) ∧ w' = w := by
  have h1 := fun w => cmp_Compare_int x1 y1 w
  have h2 := fun w => cmp_Compare_int x2 y2 w
  generalize compareInt x1 y1 = r1 at *
  generalize compareInt x2 y2 = r2 at *
  go_enter Try.func30, Try.ntmps30
  go_wp2
  refine wp_loop_rounds 3 ?_
  rw [rounds_succ]
  go_wp2_with (go_at_call 46; refine (h1 _).mono ?_; rintro e w' ⟨rfl, rfl⟩)
  · go_ret
    refine ⟨?_, rfl⟩
    simp_all [or2]
  rw [rounds_succ]
  go_wp2_with (go_at_call 46; refine (h2 _).mono ?_; rintro e w' ⟨rfl, rfl⟩)
  · go_ret
    refine ⟨?_, rfl⟩
    simp_all [or2]
  rw [rounds_succ]
  go_wp2
  go_ret
  refine ⟨?_, rfl⟩
  simp_all [or2]
theorem cellN {w : World} {n : Nat} (cs : Array Value) (t : Nat) (i : Nat) (v : Value) (h : w.heap.size = n) (hv : cs[i]? = some v) : ((w.alloc (.cells cs t)).drew).cell? ⟨n, i, none⟩ = some v := by
  subst h
  exact (World.cell?_alloc_new (w := w) cs t i).trans hv
theorem cellA (W : World) (cs cs' : Array Value) (t t' : Nat) (i : Nat) (v : Value) (hv : cs[i]? = some v) : (((W.alloc (.cells cs t)).alloc (.cells cs' t')).drew).cell? ⟨W.heap.size, i, none⟩ = some v :=
  ((World.cell?_alloc_lt (W.alloc (.cells cs t)) (.cells cs' t') ⟨W.heap.size, i, none⟩ (by simp)).trans (World.cell?_alloc_new (w := W) cs t i)).trans hv
theorem grow2 (W : World) (o1 o2 : Obj) : ∃ os', ((W.alloc o1).alloc o2).drew = grow (W.drewN 1) os' := by
  refine ⟨#[o1] ++ #[o2], ?_⟩
  show ((W.drewN 1).alloc o1).alloc o2 = _
  rw [alloc_eq_grow, alloc_eq_grow, grow_grow]
theorem still_tail {P : Program} {id : Nat} {Q : Exit → Act → World → Prop} {a : Act} {w : World} {l : List Oper} (n : Nat) (hm : P.follows .mixedOrders = true) (hB : Region.lexTailB .any l.toArray n = true) (wd : World) (hwd : wd = w.drew)
    (h : wpStill P l.toArray wd (fun a' => wpList P l.toArray Q (l.drop n) a' wd) (l.take n) a) : (Code.region id l.toArray true).wp P Q a w :=
  wp_region_still_tail n hm hB (by subst hwd; exact h)
set_option maxRecDepth 100000 in
set_option maxHeartbeats 1000000 in
theorem merged1_c0 (x1 x2 y1 y2 : Int) (W : World) : Calls Try.prog 55 #[.agg #[.int .i64 x1, .int .i64 x2], .agg #[.int .i64 y1, .int .i64 y2]] W fun e w' => e = .returned (.int .i64 (or2 (compareInt x1 y1) (compareInt x2 y2))) ∧ ∃ q os', w' = grow (W.drewN q) os' := by
  go_enter Try.func55, Try.ntmps55
  go_wp2_with fail
  refine still_tail 2 (by kernel_rfl) (by kernel_rfl) _ rfl ?_
  generalize hwd : World.drew _ = wd
  have hx1 : wd.cell? ⟨W.heap.size, 0, none⟩ = some (.int .i64 x1) := by rw [← hwd]; exact cellA _ _ _ _ _ 0 _ rfl
  have hx2 : wd.cell? ⟨W.heap.size, 1, none⟩ = some (.int .i64 x2) := by rw [← hwd]; exact cellA _ _ _ _ _ 1 _ rfl
  have hy1 : wd.cell? ⟨W.heap.size + 1, 0, none⟩ = some (.int .i64 y1) := by rw [← hwd]; exact cellN _ _ 0 _ (by simp) rfl
  have hy2 : wd.cell? ⟨W.heap.size + 1, 1, none⟩ = some (.int .i64 y2) := by rw [← hwd]; exact cellN _ _ 1 _ (by simp) rfl
  simp only [List.take_succ_cons, List.take_zero, List.drop_succ_cons, List.drop_zero]
  iterate 2 still_step
  refine wpStill_nil ?_
  go_wp2_with (go_at_call 30; refine (compare2_c x1 x2 y1 y2 _ _ _ hx1 hx2 hy1 hy2).mono ?_; rintro e w' ⟨rfl, rfl⟩)
  go_ret
  subst hwd
  exact ⟨rfl, 1, grow2 W _ _⟩
theorem merged1_c (x y : Int × Int) (W : World) : Calls Try.prog 55 #[.agg (enP x).toArray, .agg (enP y).toArray] W fun e w' => e = .returned (.int .i64 (cmpP x y)) ∧ ∃ q os', w' = grow (W.drewN q) os' :=
  merged1_c0 _ _ _ _ W
theorem cmpLays_merged1 (blk off size : Nat) (w : World) : CmpLays Try.prog 55 #[] enP 2 cmpP blk off size w :=
  fun _ _ _ _ x y => merged1_c x y _
end Go.Proofs.Ytecmgjhnfgeldaa.Al
