/- The library's sort, laid at spots in plain words (by a tool of the kit), and the comparison of two spots. No statement of the seat is proved here. -/
import Derived.WalkKit
import Derived.LoopN
import Derived.Handy
import Derived.StillTailTactics
import Derived.Shelf.Small.Bits
import Derived.Shelf.Small.Wraps
import Derived.Shelf.SlLaysF0
import Derived.Shelf.SlGeneric
import Derived.Shelf.SlSortCmp.InsertionK
import Derived.Ground.SlsfProg
import Derived.Ground.SlgnProg
import Derived.Ground.NamesProg
import Derived.Ground.Names2Prog
import Derived.Test.YtnlddjbeekfjlaaProg
namespace Go.Proofs.Ytnlddjbeekfjlaa
set_option linter.unusedVariables false
set_option linter.unusedSimpArgs false
open Go Go.Shelf Go.RowKit Go.Lib Go.Sort
def lays122_ren : Go.Shelf.Ren := ⟨fun | 122 => 91 | 215 => 99 | n => n, fun | 3 => 3 | 4 => 4 | n => n, fun | n => n⟩
theorem lays122 : Go.Proofs.Lays.n122 Try.prog lays122_ren := {
  mixed := by kernel_rfl
  f122 := Try.func91.trans (congrArg some (by kernel_rfl))
  f215 := Try.func99.trans (congrArg some (by kernel_rfl))
  t3 := Try.underlying3
  a3 := Try.isAgg3
  z3 := Try.sizeOf3
  v3 := Try.zeroValue3
  t4 := Try.underlying4
  a4 := Try.isAgg4
  z4 := Try.sizeOf4
  v4 := Try.zeroValue4 }
/-- comparing two ints -/
theorem cmp_Compare_int (x y : Int) (w : World) :
    Calls Try.prog 91 #[.int .i64 x, .int .i64 y] w fun e w' => e = .returned (.int .i64 (Lib.compareInt x y)) ∧ w' = w := Any.cmp_Compare_int lays122 x y w
def sortSpot_ren : Go.Shelf.Ren := ⟨fun | 6 => 88 | 15 => 98 | 14 => 97 | 28 => 111 | 29 => 112 | 20 => 103 | 21 => 104 | 22 => 105 | 23 => 106 | 24 => 107 | 25 => 108 | 26 => 109 | 27 => 110 | 46 => 113 | 47 => 114 | 48 => 115 | 49 => 116 | 50 => 117 | 57 => 118 | n => n, fun | 22 => 22 | 24 => 30 | 25 => 112 | 3 => 3 | 39 => 118 | 0 => 0 | 53 => 129 | 55 => 131 | 4 => 4 | 46 => 122 | 45 => 121 | 50 => 126 | 5 => 5 | 9 => 9 | 66 => 132 | 70 => 136 | 76 => 138 | 77 => 139 | n => n, fun | n => n⟩
theorem sortSpot : Go.Proofs.SlLaysF0.n6 Try.prog sortSpot_ren := {
  mixed := by kernel_rfl
  f6 := ⟨Try.f88.name, by decide, Try.func88.trans (congrArg some (by kernel_rfl))⟩
  f14 := ⟨Try.f97.name, by decide, Try.func97.trans (congrArg some (by kernel_rfl))⟩
  f15 := Try.func98.trans (congrArg some (by kernel_rfl))
  f20 := ⟨Try.f103.name, by decide, Try.func103.trans (congrArg some (by kernel_rfl))⟩
  f21 := ⟨Try.f104.name, by decide, Try.func104.trans (congrArg some (by kernel_rfl))⟩
  f22 := ⟨Try.f105.name, by decide, Try.func105.trans (congrArg some (by kernel_rfl))⟩
  f23 := ⟨Try.f106.name, by decide, Try.func106.trans (congrArg some (by kernel_rfl))⟩
  f24 := ⟨Try.f107.name, by decide, Try.func107.trans (congrArg some (by kernel_rfl))⟩
  f25 := ⟨Try.f108.name, by decide, Try.func108.trans (congrArg some (by kernel_rfl))⟩
  f26 := ⟨Try.f109.name, by decide, Try.func109.trans (congrArg some (by kernel_rfl))⟩
  f27 := ⟨Try.f110.name, by decide, Try.func110.trans (congrArg some (by kernel_rfl))⟩
  f28 := Try.func111.trans (congrArg some (by kernel_rfl))
  f29 := Try.func112.trans (congrArg some (by kernel_rfl))
  f46 := ⟨Try.f113.name, by decide, Try.func113.trans (congrArg some (by kernel_rfl))⟩
  f47 := Try.func114.trans (congrArg some (by kernel_rfl))
  f48 := Try.func115.trans (congrArg some (by kernel_rfl))
  f49 := ⟨Try.f116.name, by decide, Try.func116.trans (congrArg some (by kernel_rfl))⟩
  f50 := ⟨Try.f117.name, by decide, Try.func117.trans (congrArg some (by kernel_rfl))⟩
  f57 := ⟨Try.f118.name, by decide, Try.func118.trans (congrArg some (by kernel_rfl))⟩
  t0 := Try.underlying0
  a0 := Try.isAgg0
  z0 := Try.sizeOf0
  v0 := Try.zeroValue0
  t3 := Try.underlying3
  a3 := Try.isAgg3
  z3 := Try.sizeOf3
  v3 := Try.zeroValue3
  t4 := Try.underlying4
  a4 := Try.isAgg4
  z4 := Try.sizeOf4
  v4 := Try.zeroValue4
  t5 := Try.underlying5
  a5 := Try.isAgg5
  z5 := Try.sizeOf5
  v5 := Try.zeroValue5
  t9 := Try.underlying9
  a9 := Try.isAgg9
  z9 := Try.sizeOf9
  v9 := Try.zeroValue9
  t22 := Try.underlying22
  a22 := Try.isAgg22
  z22 := Try.sizeOf22
  v22 := Try.zeroValue22
  t25 := Try.underlying112
  a25 := Try.isAgg112
  z25 := Try.sizeOf112
  v25 := Try.zeroValue112
  t39 := Try.underlying118
  a39 := Try.isAgg118
  z39 := Try.sizeOf118
  v39 := Try.zeroValue118
  t45 := Try.underlying121
  a45 := Try.isAgg121
  z45 := Try.sizeOf121
  v45 := Try.zeroValue121
  t46 := Try.underlying122
  a46 := Try.isAgg122
  z46 := Try.sizeOf122
  v46 := Try.zeroValue122
  t50 := Try.underlying126
  a50 := Try.isAgg126
  z50 := Try.sizeOf126
  v50 := Try.zeroValue126
  t53 := Try.underlying129
  a53 := Try.isAgg129
  z53 := Try.sizeOf129
  v53 := Try.zeroValue129
  t55 := Try.underlying131
  a55 := Try.isAgg131
  z55 := Try.sizeOf131
  v55 := Try.zeroValue131
  t66 := Try.underlying132
  a66 := Try.isAgg132
  z66 := Try.sizeOf132
  v66 := Try.zeroValue132
  t70 := Try.underlying136
  a70 := Try.isAgg136
  z70 := Try.sizeOf136
  v70 := Try.zeroValue136
  t76 := Try.underlying138
  a76 := Try.isAgg138
  z76 := Try.sizeOf138
  v76 := Try.zeroValue138
  t77 := Try.underlying139
  a77 := Try.isAgg139
  z77 := Try.sizeOf139
  v77 := Try.zeroValue139 }

def enS (p : Int × Int × Int) : List Value := [.int .i64 p.1, .int .i64 p.2.1, .int .i64 p.2.2]
def or3 (a b c : Int) : Int := if a = 0 then if b = 0 then c else b else a
theorem or_c (a b c : Int) (g : Nat) (w : World) (h0 : w.cell? ⟨g, 0, none⟩ = some (.int .i64 a)) (h1 : w.cell? ⟨g, 1, none⟩ = some (.int .i64 b)) (h2 : w.cell? ⟨g, 2, none⟩ = some (.int .i64 c)) :
    Calls Try.prog 90 #[.slice (some ⟨g, 0, none⟩) 3 3] w fun e w' => e = .returned (.int .i64 (or3 a b c)) ∧ w' = w := by
  go_enter Try.func90, Try.ntmps90
  go_wp2
  refine wp_loop_rounds 4 ?_
  repeat any_goals (rw [rounds_succ]; go_wp2)
  all_goals (go_ret; refine ⟨?_, rfl⟩; simp_all [or3])
def cmpS (x y : Int × Int × Int) : Int := or3 (compareInt x.1 y.1) (compareInt x.2.1 y.2.1) (compareInt x.2.2 y.2.2)
theorem cellN {w : World} {n : Nat} (cs : Array Value) (t : Nat) (i : Nat) (v : Value) (h : w.heap.size = n) (hv : cs[i]? = some v) : ((w.alloc (.cells cs t)).drew).cell? ⟨n, i, none⟩ = some v := by
  subst h
  exact (World.cell?_alloc_new (w := w) cs t i).trans hv
theorem cellM {w : World} {n : Nat} (cs : Array Value) (t : Nat) (i : Nat) (v : Value) (h : w.heap.size = n) (hv : cs[i]? = some v) : (w.alloc (.cells cs t)).cell? ⟨n, i, none⟩ = some v := by
  subst h
  exact (World.cell?_alloc_new (w := w) cs t i).trans hv
theorem cellA (W : World) (cs cs' : Array Value) (t t' : Nat) (i : Nat) (v : Value) (hv : cs[i]? = some v) : (((W.alloc (.cells cs t)).alloc (.cells cs' t')).drew).cell? ⟨W.heap.size, i, none⟩ = some v :=
  ((World.cell?_alloc_lt (W.alloc (.cells cs t)) (.cells cs' t') ⟨W.heap.size, i, none⟩ (by simp)).trans (World.cell?_alloc_new (w := W) cs t i)).trans hv
theorem grow3 (W : World) (o1 o2 o3 : Obj) : ∃ os', (((W.alloc o1).alloc o2).drew).alloc o3 = grow (W.drewN 1) os' := by
  refine ⟨#[o1] ++ (#[o2] ++ #[o3]), ?_⟩
  show (((W.drewN 1).alloc o1).alloc o2).alloc o3 = _
  rw [alloc_eq_grow, alloc_eq_grow, alloc_eq_grow, grow_grow, grow_grow]
theorem still_tail {P : Program} {id : Nat} {Q : Exit → Act → World → Prop} {a : Act} {w : World} {l : List Oper} (n : Nat) (hm : P.follows .mixedOrders = true) (hB : Region.lexTailB .any l.toArray n = true) (wd : World) (hwd : wd = w.drew)
    (h : wpStill P l.toArray wd (fun a' => wpList P l.toArray Q (l.drop n) a' wd) (l.take n) a) : (Code.region id l.toArray true).wp P Q a w :=
  wp_region_still_tail n hm hB (by subst hwd; exact h)
set_option maxRecDepth 100000 in
set_option maxHeartbeats 1000000 in
theorem sorted1_c0 (x1 x2 x3 y1 y2 y3 : Int) (W : World) : Calls Try.prog 89 #[.agg #[.int .i64 x1, .int .i64 x2, .int .i64 x3], .agg #[.int .i64 y1, .int .i64 y2, .int .i64 y3]] W fun e w' => e = .returned (.int .i64 (or3 (compareInt x1 y1) (compareInt x2 y2) (compareInt x3 y3))) ∧ ∃ q os', w' = grow (W.drewN q) os' := by
  have h1 := fun w => cmp_Compare_int x1 y1 w
  have h2 := fun w => cmp_Compare_int x2 y2 w
  have h3 := fun w => cmp_Compare_int x3 y3 w
  generalize compareInt x1 y1 = r1 at *
  generalize compareInt x2 y2 = r2 at *
  generalize compareInt x3 y3 = r3 at *
  go_enter Try.func89, Try.ntmps89
  go_wp2_with fail
  refine still_tail 15 (by kernel_rfl) (by kernel_rfl) _ rfl ?_
  generalize hwd : World.drew _ = wd
  have hx1 : wd.cell? ⟨W.heap.size, 0, none⟩ = some (.int .i64 x1) := by rw [← hwd]; exact cellA _ _ _ _ _ 0 _ rfl
  have hx2 : wd.cell? ⟨W.heap.size, 1, none⟩ = some (.int .i64 x2) := by rw [← hwd]; exact cellA _ _ _ _ _ 1 _ rfl
  have hx3 : wd.cell? ⟨W.heap.size, 2, none⟩ = some (.int .i64 x3) := by rw [← hwd]; exact cellA _ _ _ _ _ 2 _ rfl
  have hy1 : wd.cell? ⟨W.heap.size + 1, 0, none⟩ = some (.int .i64 y1) := by rw [← hwd]; exact cellN _ _ 0 _ (by simp) rfl
  have hy2 : wd.cell? ⟨W.heap.size + 1, 1, none⟩ = some (.int .i64 y2) := by rw [← hwd]; exact cellN _ _ 1 _ (by simp) rfl
  have hy3 : wd.cell? ⟨W.heap.size + 1, 2, none⟩ = some (.int .i64 y3) := by rw [← hwd]; exact cellN _ _ 2 _ (by simp) rfl
  simp only [List.take_succ_cons, List.take_zero, List.drop_succ_cons, List.drop_zero]
  iterate 4 still_step
  still_call (h1 _)
  iterate 4 still_step
  still_call (h2 _)
  iterate 4 still_step
  still_call (h3 _)
  refine wpStill_nil ?_
  go_wp2_with (go_at_call 90; refine (or_c r1 r2 r3 _ _ ?_ ?_ ?_).mono ?_; (exact cellM _ _ 0 _ (by simp) rfl); (exact cellM _ _ 1 _ (by simp) rfl); (exact cellM _ _ 2 _ (by simp) rfl); rintro e w' ⟨rfl, rfl⟩)
  go_ret
  subst hwd
  exact ⟨rfl, 1, grow3 W _ _ _⟩
theorem sorted1_c (x y : Int × Int × Int) (W : World) : Calls Try.prog 89 #[.agg (enS x).toArray, .agg (enS y).toArray] W fun e w' => e = .returned (.int .i64 (cmpS x y)) ∧ ∃ q os', w' = grow (W.drewN q) os' :=
  sorted1_c0 _ _ _ _ _ _ W
theorem cmpLays_sorted1 (blk off size : Nat) (w : World) : CmpLays Try.prog 89 #[] enS 3 cmpS blk off size w :=
  fun _ _ _ _ x y => sorted1_c x y _
end Go.Proofs.Ytnlddjbeekfjlaa
