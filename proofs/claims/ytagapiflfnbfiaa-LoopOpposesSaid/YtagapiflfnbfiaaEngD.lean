/- The operations' lemmas once more, the operation written out in the conclusion, so that 'apply' tells them apart. No statement of the seat is proved here. -/
import Derived.Test.YtagapiflfnbfiaaEngC
namespace Go.Proofs.Ytagapiflfnbfiaa
set_option linter.unusedVariables false
set_option linter.unusedSimpArgs false
open Go Go.RowKit
section
variable {P : Program} {ro : Option Nat} {n : Nat} {Q : Post} {D : List Deferred} {f : Fm} {w w0 : World} {M : List Nat} {h : List HO}
variable {ops : Array Oper} {rest : List Oper} {d ty : Nat} {ps : String} {af : Array Edge} {gd : Option (Nat × Bool)}
variable {l : List (Nat × Operand)} {al cl : List Operand} {x y : Operand} {T e len size i : Nat}

theorem want_none {o : Oper} (h : o.guard = none) : want ops f o = true := by unfold want Region.wanted; rw [h]
/-- passed over -/
theorem x_not {op : Op} {j : Nat} {wn : Bool} (hg : want ops f ⟨some d, op, ty, ps, af, some (j, wn)⟩ = false) (hdn : Nat.blt d n = true) (k : WL P ro n ops Q rest D (upd f d undef) w) : WL P ro n ops Q (⟨some d, op, ty, ps, af, some (j, wn)⟩ :: rest) D f w :=
  wl_not hg rfl hdn k
theorem x_move {v : Value} (hg : want ops f ⟨some d, .move x, ty, ps, af, gd⟩ = true) (hdn : Nat.blt d n = true) (hi : Is (fev f x) v) (k : WL P ro n ops Q rest D (upd f d v) w) : WL P ro n ops Q (⟨some d, .move x, ty, ps, af, gd⟩ :: rest) D f w :=
  wl_val hg rfl hdn rfl hi k
theorem x_assign {v : Value} (hg : want ops f ⟨some d, .assign x, ty, ps, af, gd⟩ = true) (hdn : Nat.blt d n = true) (hi : Is (fev f x) v) (k : WL P ro n ops Q rest D (upd f d v) w) : WL P ro n ops Q (⟨some d, .assign x, ty, ps, af, gd⟩ :: rest) D f w :=
  wl_val hg rfl hdn rfl hi k
theorem x_pick {c : Operand} {b : Bool} {v : Value} (hg : want ops f ⟨some d, .pick c x y, ty, ps, af, gd⟩ = true) (hdn : Nat.blt d n = true) (hc : fev f c = .bool b) (hi : Is (bif b then fev f x else fev f y) v) (k : WL P ro n ops Q rest D (upd f d v) w) : WL P ro n ops Q (⟨some d, .pick c x y, ty, ps, af, gd⟩ :: rest) D f w :=
  wl_val (v0 := bif b then fev f x else fev f y) hg rfl hdn (by simp only [execOp, hc, asBool, Sem.run_bind, Sem.run_pure, Result.andThen_ok]; cases b <;> rfl) hi k
theorem x_bin {op : BinOp} {xt yt : Nat} {v0 v : Value} (hg : want ops f ⟨some d, .binOp op xt x y yt, ty, ps, af, gd⟩ = true) (hdn : Nat.blt d n = true)
    (hr : (execOp (fev f) ⟨some d, .binOp op xt x y yt, ty, ps, af, gd⟩).run P w = .ok (.value v0) w) (hi : Is v0 v) (k : WL P ro n ops Q rest D (upd f d v) w) : WL P ro n ops Q (⟨some d, .binOp op xt x y yt, ty, ps, af, gd⟩ :: rest) D f w :=
  wl_val hg rfl hdn hr hi k
theorem x_un {op : UnOp} {xt : Nat} {v0 v : Value} (hg : want ops f ⟨some d, .unOp op xt x, ty, ps, af, gd⟩ = true) (hdn : Nat.blt d n = true)
    (hr : (execOp (fev f) ⟨some d, .unOp op xt x, ty, ps, af, gd⟩).run P w = .ok (.value v0) w) (hi : Is v0 v) (k : WL P ro n ops Q rest D (upd f d v) w) : WL P ro n ops Q (⟨some d, .unOp op xt x, ty, ps, af, gd⟩ :: rest) D f w :=
  wl_val hg rfl hdn hr hi k
theorem x_conv {s t : Nat} {v0 v : Value} (hg : want ops f ⟨some d, .convert s t x, ty, ps, af, gd⟩ = true) (hdn : Nat.blt d n = true)
    (hr : (execOp (fev f) ⟨some d, .convert s t x, ty, ps, af, gd⟩).run P w = .ok (.value v0) w) (hi : Is v0 v) (k : WL P ro n ops Q rest D (upd f d v) w) : WL P ro n ops Q (⟨some d, .convert s t x, ty, ps, af, gd⟩ :: rest) D f w :=
  wl_val hg rfl hdn hr hi k
theorem x_extract {v0 v : Value} (hg : want ops f ⟨some d, .extract x i, ty, ps, af, gd⟩ = true) (hdn : Nat.blt d n = true)
    (hr : (execOp (fev f) ⟨some d, .extract x i, ty, ps, af, gd⟩).run P w = .ok (.value v0) w) (hi : Is v0 v) (k : WL P ro n ops Q rest D (upd f d v) w) : WL P ro n ops Q (⟨some d, .extract x i, ty, ps, af, gd⟩ :: rest) D f w :=
  wl_val hg rfl hdn hr hi k
theorem x_box {v : Value} {cs : List Value} (S : Sat w0 M h w) (hg : want ops f ⟨some d, .box T x, ty, ps, af, gd⟩ = true) (hdn : Nat.blt d n = true) (hi : Is (fev f x) v) (hn : NL (cl1 v) cs)
    (k : ∀ b w', Sat w0 M (.cl b T cs :: h) w' → WL P ro n ops Q rest D (upd f d (.pointer (some ⟨b, 0, none⟩))) w') : WL P ro n ops Q (⟨some d, .box T x, ty, ps, af, gd⟩ :: rest) D f w :=
  wl_box S hg rfl rfl hdn hi hn k
theorem x_alloc {z : Value} {cs : List Value} (S : Sat w0 M h w) (hg : want ops f ⟨some d, .alloc T, ty, ps, af, gd⟩ = true) (hdn : Nat.blt d n = true) (hz : (P.info? T).bind (·.zero) = some z) (hn : NL (cl1 z) cs)
    (k : ∀ b w', Sat w0 M (.cl b T cs :: h) w' → WL P ro n ops Q rest D (upd f d (.pointer (some ⟨b, 0, none⟩))) w') : WL P ro n ops Q (⟨some d, .alloc T, ty, ps, af, gd⟩ :: rest) D f w :=
  wl_alloc S hg rfl rfl hdn hz hn k
theorem x_load {T' b off : Nat} {kk : Option Nat} {cs : List Value} {v0 v : Value} (S : Sat w0 M h w) (hg : want ops f ⟨some d, .load T x, ty, ps, af, gd⟩ = true) (hdn : Nat.blt d n = true)
    (hx : fev f x = .pointer (some ⟨b, off, none⟩)) (hh : Has h (.cl b T' cs)) (hk : ldk P T = some kk) (hv : ldv kk cs off = some v0) (hi : Is v0 v)
    (k : WL P ro n ops Q rest D (upd f d v) w) : WL P ro n ops Q (⟨some d, .load T x, ty, ps, af, gd⟩ :: rest) D f w :=
  wl_load S hg rfl rfl hdn hx hh hk hv hi k
theorem x_loadB {T' b off : Nat} {kk : Option Nat} {cs : List Value} {v0 v : Value} (S : Sat w0 M h w) (hg : want ops f ⟨some d, .load T x, ty, ps, af, gd⟩ = true) (hdn : Nat.blt d n = true)
    (hx : fev f x = .pointer (some ⟨b, off, none⟩)) (O : OldB w0 M b T' cs) (hk : ldk P T = some kk) (hv : ldv kk cs off = some v0) (hi : Is v0 v)
    (k : WL P ro n ops Q rest D (upd f d v) w) : WL P ro n ops Q (⟨some d, .load T x, ty, ps, af, gd⟩ :: rest) D f w :=
  wl_load_at hg rfl rfl hdn hx (O.cells S) hk hv hi k
theorem x_loadR {A : Option Addr} {j off m : Nat} {cell : Nat → List Value} {kk : Option Nat} {v0 v : Value} (hg : want ops f ⟨some d, .load T x, ty, ps, af, gd⟩ = true) (hdn : Nat.blt d n = true)
    (hx : fev f x = .pointer (some (ea A size j off))) (R : Rd w A size m cell) (him : j < m) (hk : ldk P T = some kk) (hv : ldv kk (cell j) off = some v0) (hi : Is v0 v)
    (k : WL P ro n ops Q rest D (upd f d v) w) : WL P ro n ops Q (⟨some d, .load T x, ty, ps, af, gd⟩ :: rest) D f w :=
  wl_load_rd hg rfl rfl hdn hx R him hk hv hi k
theorem x_store {T' b off : Nat} {v : Value} {cs cs' : List Value} {h' : List HO} (S : Sat w0 M h w) (hg : want ops f ⟨none, .store T x y, ty, ps, af, gd⟩ = true)
    (hx : fev f x = .pointer (some ⟨b, off, none⟩)) (hy : Is (fev f y) v) (r : Rep h (.cl b T' cs) (.cl b T' cs') h') (hs : (P.info? T).map (·.size) = some (cl1 v).length) (h1 : ones (cl1 v) = true)
    (hfit : Nat.ble (off + (cl1 v).length) cs.length = true) (hcs : NL (spl cs off (cl1 v)) cs')
    (k : ∀ w', Sat w0 M h' w' → WL P ro n ops Q rest D f w') : WL P ro n ops Q (⟨none, .store T x y, ty, ps, af, gd⟩ :: rest) D f w :=
  wl_store S hg rfl rfl hx hy r hs h1 hfit hcs k
theorem x_fieldB {b off k0 r : Nat} (hg : want ops f ⟨some d, .fieldAddr T x i, ty, ps, af, gd⟩ = true) (hdn : Nat.blt d n = true)
    (hx : fev f x = .pointer (some ⟨b, off, none⟩)) (hf : fieldOff P T i = some k0) (hn : IsN (off + k0) r) (k : WL P ro n ops Q rest D (upd f d (.pointer (some ⟨b, r, none⟩))) w) : WL P ro n ops Q (⟨some d, .fieldAddr T x i, ty, ps, af, gd⟩ :: rest) D f w :=
  wl_fieldB hg rfl rfl hdn hx hf hn k
theorem x_fieldE {A : Option Addr} {j off k0 r : Nat} (hg : want ops f ⟨some d, .fieldAddr T x i, ty, ps, af, gd⟩ = true) (hdn : Nat.blt d n = true)
    (hx : fev f x = .pointer (some (ea A size j off))) (hf : fieldOff P T i = some k0) (hn : IsN (off + k0) r) (k : WL P ro n ops Q rest D (upd f d (.pointer (some (ea A size j r)))) w) : WL P ro n ops Q (⟨some d, .fieldAddr T x i, ty, ps, af, gd⟩ :: rest) D f w :=
  wl_fieldE hg rfl rfl hdn hx hf hn k
theorem x_index {A : Option Addr} {m c j : Nat} {kd : IntKind} (hg : want ops f ⟨some d, .indexAddr T x y, ty, ps, af, gd⟩ = true) (hdn : Nat.blt d n = true)
    (hx : fev f x = .slice A m c) (hy : fev f y = .int kd (j : Int)) (hs : elemSize P T = some e) (hz : IsN e size) (hi : j < m) (hA : A.isSome = true)
    (k : WL P ro n ops Q rest D (upd f d (.pointer (some (ea A size j 0)))) w) : WL P ro n ops Q (⟨some d, .indexAddr T x y, ty, ps, af, gd⟩ :: rest) D f w :=
  wl_val (v0 := .pointer (some (ea A size j 0))) hg rfl hdn (r_index rfl hx hy (hz.eq ▸ hs) hi hA) (.z .any) k
theorem x_indexI {A : Option Addr} {m c : Nat} {z : Int} {kd : IntKind} (hg : want ops f ⟨some d, .indexAddr T x y, ty, ps, af, gd⟩ = true) (hdn : Nat.blt d n = true)
    (hx : fev f x = .slice A m c) (hy : fev f y = .int kd z) (hs : elemSize P T = some e) (hz : IsN e size) (h0 : 0 ≤ z) (hi : z < m) (hA : A.isSome = true)
    (k : WL P ro n ops Q rest D (upd f d (.pointer (some (ea A size z.toNat 0)))) w) : WL P ro n ops Q (⟨some d, .indexAddr T x y, ty, ps, af, gd⟩ :: rest) D f w :=
  wl_val (v0 := .pointer (some (ea A size z.toNat 0))) hg rfl hdn (r_indexI rfl hx hy (hz.eq ▸ hs) h0 hi hA) (.z .any) k
theorem x_indexArr {a : Addr} {m : Nat} {z : Int} {kd : IntKind} {v : Value} (hg : want ops f ⟨some d, .indexAddr T x y, ty, ps, af, gd⟩ = true) (hdn : Nat.blt d n = true)
    (hx : fev f x = .pointer (some a)) (hy : fev f y = .int kd z) (hs : arrSize P T = some (m, size)) (h0 : 0 ≤ z) (h1 : z < m) (hi : Is0 (.pointer (some (a.add (z.toNat * size)))) v)
    (k : WL P ro n ops Q rest D (upd f d v) w) : WL P ro n ops Q (⟨some d, .indexAddr T x y, ty, ps, af, gd⟩ :: rest) D f w :=
  wl_val hg rfl hdn (r_indexArr rfl hx hy hs h0 h1) (.z hi) k
theorem x_build {cs cs' : List Value} (hg : want ops f ⟨some d, .build T l.toArray, ty, ps, af, gd⟩ = true) (hdn : Nat.blt d n = true)
    (hb : bld P T (pvs f l) = some cs) (hn : NL cs cs') (k : WL P ro n ops Q rest D (upd f d (.agg cs'.toArray)) w) : WL P ro n ops Q (⟨some d, .build T l.toArray, ty, ps, af, gd⟩ :: rest) D f w :=
  wl_build hg rfl rfl hdn hb hn k
theorem x_makeFunc {fn : Fn} {l' : List Value} (hg : want ops f ⟨some d, .makeFunc fn #[] cl.toArray, ty, ps, af, gd⟩ = true) (hdn : Nat.blt d n = true)
    (hn : NL (evs f cl) l') (k : WL P ro n ops Q rest D (upd f d (.func fn #[] l'.toArray)) w) : WL P ro n ops Q (⟨some d, .makeFunc fn #[] cl.toArray, ty, ps, af, gd⟩ :: rest) D f w :=
  wl_makeFunc hg rfl rfl hdn hn k
theorem x_buildSlice {cs cs' : List Value} (S : Sat w0 M h w) (hg : want ops f ⟨some d, .buildSlice T len l.toArray, ty, ps, af, gd⟩ = true) (hdn : Nat.blt d n = true)
    (hb : bsl P T len (pvs f l) = some (e, size, cs)) (hn : NL cs cs')
    (k : ∀ b w', Sat w0 M (.cl b e cs' :: h) w' → WL P ro n ops Q rest D (upd f d (.slice (some ⟨b, 0, none⟩) len len)) w') : WL P ro n ops Q (⟨some d, .buildSlice T len l.toArray, ty, ps, af, gd⟩ :: rest) D f w :=
  wl_buildSlice S hg rfl rfl hdn hb hn k
theorem x_callv {g : FuncId} {cap as : List Value} {ts : Array TypeId} {V : Value} (S : Sat w0 M h w) (hg : want ops f ⟨some d, .call ⟨.value x, al.toArray, ts⟩, ty, ps, af, gd⟩ = true) (hdn : Nat.blt d n = true)
    (hx : fev f x = .func (.func g) #[] cap.toArray) (hE : Ent P g) (ha : NA (evs f al ++ cap) as) (hc : Calls P g as.toArray w (RetP (Val V w)))
    (k : ∀ w', Keeps [] w w' → Sat w0 M h w' → WL P ro n ops Q rest D (upd f d V) w') : WL P ro n ops Q (⟨some d, .call ⟨.value x, al.toArray, ts⟩, ty, ps, af, gd⟩ :: rest) D f w :=
  wl_callv S hg rfl rfl hdn hx ha hE hc k
theorem x_call {g : FuncId} {cap as : List Value} {ts : Array TypeId} {R : Value → World → Prop} (hg : want ops f ⟨some d, .call ⟨.value x, al.toArray, ts⟩, ty, ps, af, gd⟩ = true) (hdn : Nat.blt d n = true)
    (hx : fev f x = .func (.func g) #[] cap.toArray) (hE : Ent P g) (ha : NA (evs f al ++ cap) as) (hc : Calls P g as.toArray w (RetP R))
    (k : ∀ v w', R v w' → WL P ro n ops Q rest D (upd f d v) w') : WL P ro n ops Q (⟨some d, .call ⟨.value x, al.toArray, ts⟩, ty, ps, af, gd⟩ :: rest) D f w :=
  wl_call hg rfl rfl hdn hx hE ha hc k
theorem x_builtin {b : Builtin} {ts : Array TypeId} {v0 v : Value} (hg : want ops f ⟨some d, .call ⟨.builtin b, al.toArray, ts⟩, ty, ps, af, gd⟩ = true) (hdn : Nat.blt d n = true)
    (hr : ∀ c, (builtin b ts ty c (evs f al).toArray).run P w = .ok (.value v0) w) (hi : Is v0 v) (k : WL P ro n ops Q rest D (upd f d v) w) : WL P ro n ops Q (⟨some d, .call ⟨.builtin b, al.toArray, ts⟩, ty, ps, af, gd⟩ :: rest) D f w :=
  wl_builtin hg rfl rfl hdn hr hi k
/-- a guard that is not decided -/
theorem x_gsplit {op : Op} {dd : Option Nat} {j t : Nat} {wn b : Bool} (hj : (ops[j]?).bind (·.dst) = some t) (hf : f t = .bool b)
    (h1 : b = true → WL P ro n ops Q (⟨dd, op, ty, ps, af, some (j, wn)⟩ :: rest) D (upd f t (.bool true)) w) (h2 : b = false → WL P ro n ops Q (⟨dd, op, ty, ps, af, some (j, wn)⟩ :: rest) D (upd f t (.bool false)) w) :
    WL P ro n ops Q (⟨dd, op, ty, ps, af, some (j, wn)⟩ :: rest) D f w := wl_gsplit rfl hj hf h1 h2
theorem x_gnot {op : Op} {dd : Option Nat} {j t : Nat} {wn b : Bool} (hj : (ops[j]?).bind (·.dst) = some t) (hf : f t = .bool (!b))
    (h1 : b = false → WL P ro n ops Q (⟨dd, op, ty, ps, af, some (j, wn)⟩ :: rest) D (upd f t (.bool true)) w) (h2 : b = true → WL P ro n ops Q (⟨dd, op, ty, ps, af, some (j, wn)⟩ :: rest) D (upd f t (.bool false)) w) :
    WL P ro n ops Q (⟨dd, op, ty, ps, af, some (j, wn)⟩ :: rest) D f w := wl_gnot rfl hj hf h1 h2
theorem x_gdec {op : Op} {dd : Option Nat} {j t : Nat} {wn : Bool} {p : Prop} {inst : Decidable p} (hj : (ops[j]?).bind (·.dst) = some t) (hf : f t = .bool (decide p))
    (h1 : p → WL P ro n ops Q (⟨dd, op, ty, ps, af, some (j, wn)⟩ :: rest) D (upd f t (.bool true)) w) (h2 : ¬ p → WL P ro n ops Q (⟨dd, op, ty, ps, af, some (j, wn)⟩ :: rest) D (upd f t (.bool false)) w) :
    WL P ro n ops Q (⟨dd, op, ty, ps, af, some (j, wn)⟩ :: rest) D f w := wl_gdec rfl hj hf h1 h2
theorem x_geq {op : Op} {dd : Option Nat} {j t : Nat} {wn : Bool} {p q : Int} (hj : (ops[j]?).bind (·.dst) = some t) (hf : f t = .bool (p == q))
    (h1 : p = q → WL P ro n ops Q (⟨dd, op, ty, ps, af, some (j, wn)⟩ :: rest) D (upd f t (.bool true)) w) (h2 : ¬ p = q → WL P ro n ops Q (⟨dd, op, ty, ps, af, some (j, wn)⟩ :: rest) D (upd f t (.bool false)) w) :
    WL P ro n ops Q (⟨dd, op, ty, ps, af, some (j, wn)⟩ :: rest) D f w := wl_geq rfl hj hf h1 h2
theorem x_gne {op : Op} {dd : Option Nat} {j t : Nat} {wn : Bool} {p q : Int} (hj : (ops[j]?).bind (·.dst) = some t) (hf : f t = .bool (p != q))
    (h1 : ¬ p = q → WL P ro n ops Q (⟨dd, op, ty, ps, af, some (j, wn)⟩ :: rest) D (upd f t (.bool true)) w) (h2 : p = q → WL P ro n ops Q (⟨dd, op, ty, ps, af, some (j, wn)⟩ :: rest) D (upd f t (.bool false)) w) :
    WL P ro n ops Q (⟨dd, op, ty, ps, af, some (j, wn)⟩ :: rest) D f w := wl_gne rfl hj hf h1 h2
theorem x_dec {c : Operand} {a b : Code} {p : Prop} {inst : Decidable p} (hc : fev f c = .bool (decide p)) (ht : p → CW P ro n a Q D f w) (hf : ¬ p → CW P ro n b Q D f w) :
    CW P ro n (.cond c a b) Q D f w := cw_dec hc ht hf
theorem x_ndec {c : Operand} {a b : Code} {e : Bool} {p : Prop} {inst : Decidable p} (hc : fev f c = .bool e) (he : e = !decide p) (ht : ¬ p → CW P ro n a Q D f w) (hf : p → CW P ro n b Q D f w) :
    CW P ro n (.cond c a b) Q D f w := cw_not (hc.trans (by rw [he])) (fun h => ht (of_decide_eq_false h)) (fun h => hf (of_decide_eq_true h))
theorem x_gndec {op : Op} {dd : Option Nat} {j t : Nat} {wn e : Bool} {p : Prop} {inst : Decidable p} (hj : (ops[j]?).bind (·.dst) = some t) (hf : f t = .bool e) (he : e = !decide p)
    (h1 : ¬ p → WL P ro n ops Q (⟨dd, op, ty, ps, af, some (j, wn)⟩ :: rest) D (upd f t (.bool true)) w) (h2 : p → WL P ro n ops Q (⟨dd, op, ty, ps, af, some (j, wn)⟩ :: rest) D (upd f t (.bool false)) w) :
    WL P ro n ops Q (⟨dd, op, ty, ps, af, some (j, wn)⟩ :: rest) D f w := x_gnot hj (hf.trans (by rw [he])) (fun h => h1 (of_decide_eq_false h)) (fun h => h2 (of_decide_eq_true h))
end
end Go.Proofs.Ytagapiflfnbfiaa
