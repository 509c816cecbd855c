/- The operations of a region that draws its order, a lemma each: y: a read, taken first · z: the only one that may come up. No statement of the seat is proved here. -/
import Derived.Test.YtagapiflfnbfiaaEngE
namespace Go.Proofs.Ytagapiflfnbfiaa
set_option linter.unusedVariables false
set_option linter.unusedSimpArgs false
open Go Go.RowKit
section
variable {P : Program} {ro : Option Nat} {n : Nat} {Q : Post} {D : List Deferred} {f : Fm} {w w0 : World} {M : List Nat} {h h1 : List HO}
variable {ops : Array Oper} {rest : List (Nat × Oper)} {d ty kd : Nat} {ps : String} {af : Array Edge} {gd : Option (Nat × Bool)}
variable {l : List (Nat × Operand)} {al cl : List Operand} {x y : Operand} {T e len size i : Nat}

theorem y_val {o : Oper} {v0 v : Value} (hg : want ops f o = true) (hd : o.dst = some d) (hr : ∀ w, Sat w0 M h w → (execOp (fev f) o).run P w = .ok (.value v0) w) (hi : Is v0 v)
    (k : PV P ro ops Q w0 M h rest D (upd f d v)) : PV P ro ops Q w0 M h ((0, o) :: rest) D f :=
  ⟨v0, .inl ⟨hg, hr⟩, by rw [hd, hi.eq]; exact k⟩
theorem y_not {op : Op} {j : Nat} {wn : Bool} (hg : want ops f ⟨some d, op, ty, ps, af, some (j, wn)⟩ = false) (k : PV P ro ops Q w0 M h rest D (upd f d undef)) :
    PV P ro ops Q w0 M h ((0, ⟨some d, op, ty, ps, af, some (j, wn)⟩) :: rest) D f := ⟨undef, .inr ⟨hg, rfl⟩, k⟩
theorem y_move {v : Value} (hg : want ops f ⟨some d, .move x, ty, ps, af, gd⟩ = true) (hi : Is (fev f x) v) (k : PV P ro ops Q w0 M h rest D (upd f d v)) :
    PV P ro ops Q w0 M h ((0, ⟨some d, .move x, ty, ps, af, gd⟩) :: rest) D f := y_val hg rfl (fun _ _ => rfl) hi k
theorem y_assign {v : Value} (hg : want ops f ⟨some d, .assign x, ty, ps, af, gd⟩ = true) (hi : Is (fev f x) v) (k : PV P ro ops Q w0 M h rest D (upd f d v)) :
    PV P ro ops Q w0 M h ((0, ⟨some d, .assign x, ty, ps, af, gd⟩) :: rest) D f := y_val hg rfl (fun _ _ => rfl) hi k
theorem y_pick {c : Operand} {b : Bool} {v : Value} (hg : want ops f ⟨some d, .pick c x y, ty, ps, af, gd⟩ = true) (hc : fev f c = .bool b) (hi : Is (bif b then fev f x else fev f y) v) (k : PV P ro ops Q w0 M h rest D (upd f d v)) :
    PV P ro ops Q w0 M h ((0, ⟨some d, .pick c x y, ty, ps, af, gd⟩) :: rest) D f :=
  y_val (v0 := bif b then fev f x else fev f y) hg rfl (fun _ _ => by simp only [execOp, hc, asBool, Sem.run_bind, Sem.run_pure, Result.andThen_ok]; cases b <;> rfl) hi k
theorem y_bin {op : BinOp} {xt yt : Nat} {v0 v : Value} (hg : want ops f ⟨some d, .binOp op xt x y yt, ty, ps, af, gd⟩ = true)
    (hr : ∀ w, (execOp (fev f) ⟨some d, .binOp op xt x y yt, ty, ps, af, gd⟩).run P w = .ok (.value v0) w) (hi : Is v0 v) (k : PV P ro ops Q w0 M h rest D (upd f d v)) : PV P ro ops Q w0 M h ((0, ⟨some d, .binOp op xt x y yt, ty, ps, af, gd⟩) :: rest) D f :=
  y_val hg rfl (fun w _ => hr w) hi k
theorem y_un {op : UnOp} {xt : Nat} {v0 v : Value} (hg : want ops f ⟨some d, .unOp op xt x, ty, ps, af, gd⟩ = true)
    (hr : ∀ w, (execOp (fev f) ⟨some d, .unOp op xt x, ty, ps, af, gd⟩).run P w = .ok (.value v0) w) (hi : Is v0 v) (k : PV P ro ops Q w0 M h rest D (upd f d v)) : PV P ro ops Q w0 M h ((0, ⟨some d, .unOp op xt x, ty, ps, af, gd⟩) :: rest) D f :=
  y_val hg rfl (fun w _ => hr w) hi k
theorem y_conv {s t : Nat} {v0 v : Value} (hg : want ops f ⟨some d, .convert s t x, ty, ps, af, gd⟩ = true)
    (hr : ∀ w, (execOp (fev f) ⟨some d, .convert s t x, ty, ps, af, gd⟩).run P w = .ok (.value v0) w) (hi : Is v0 v) (k : PV P ro ops Q w0 M h rest D (upd f d v)) : PV P ro ops Q w0 M h ((0, ⟨some d, .convert s t x, ty, ps, af, gd⟩) :: rest) D f :=
  y_val hg rfl (fun w _ => hr w) hi k
theorem y_extract {v0 v : Value} (hg : want ops f ⟨some d, .extract x i, ty, ps, af, gd⟩ = true)
    (hr : ∀ w, (execOp (fev f) ⟨some d, .extract x i, ty, ps, af, gd⟩).run P w = .ok (.value v0) w) (hi : Is v0 v) (k : PV P ro ops Q w0 M h rest D (upd f d v)) : PV P ro ops Q w0 M h ((0, ⟨some d, .extract x i, ty, ps, af, gd⟩) :: rest) D f :=
  y_val hg rfl (fun w _ => hr w) hi k
theorem y_load {T' b off : Nat} {kk : Option Nat} {cs : List Value} {v0 v : Value} (hg : want ops f ⟨some d, .load T x, ty, ps, af, gd⟩ = true)
    (hx : fev f x = .pointer (some ⟨b, off, none⟩)) (hh : Has h (.cl b T' cs)) (hk : ldk P T = some kk) (hv : ldv kk cs off = some v0) (hi : Is v0 v)
    (k : PV P ro ops Q w0 M h rest D (upd f d v)) : PV P ro ops Q w0 M h ((0, ⟨some d, .load T x, ty, ps, af, gd⟩) :: rest) D f :=
  y_val hg rfl (fun _ S => r_load_at rfl hx (S.cells hh) hk hv) hi k
theorem y_loadB {T' b off : Nat} {kk : Option Nat} {cs : List Value} {v0 v : Value} (hg : want ops f ⟨some d, .load T x, ty, ps, af, gd⟩ = true)
    (hx : fev f x = .pointer (some ⟨b, off, none⟩)) (O : OldB w0 M b T' cs) (hk : ldk P T = some kk) (hv : ldv kk cs off = some v0) (hi : Is v0 v)
    (k : PV P ro ops Q w0 M h rest D (upd f d v)) : PV P ro ops Q w0 M h ((0, ⟨some d, .load T x, ty, ps, af, gd⟩) :: rest) D f :=
  y_val hg rfl (fun _ S => r_load_at rfl hx (O.cells S) hk hv) hi k
theorem y_loadR {A : Option Addr} {j off m : Nat} {cell : Nat → List Value} {kk : Option Nat} {v0 v : Value} (hg : want ops f ⟨some d, .load T x, ty, ps, af, gd⟩ = true)
    (hx : fev f x = .pointer (some (ea A size j off))) (R : Old w0 M A size m cell) (him : j < m) (hk : ldk P T = some kk) (hv : ldv kk (cell j) off = some v0) (hi : Is v0 v)
    (k : PV P ro ops Q w0 M h rest D (upd f d v)) : PV P ro ops Q w0 M h ((0, ⟨some d, .load T x, ty, ps, af, gd⟩) :: rest) D f :=
  y_val hg rfl (fun _ S => r_load_at rfl hx ((R.now S).cells him) hk hv) hi k
theorem y_fieldB {b off k0 r : Nat} (hg : want ops f ⟨some d, .fieldAddr T x i, ty, ps, af, gd⟩ = true)
    (hx : fev f x = .pointer (some ⟨b, off, none⟩)) (hf : fieldOff P T i = some k0) (hn : IsN (off + k0) r) (k : PV P ro ops Q w0 M h rest D (upd f d (.pointer (some ⟨b, r, none⟩)))) :
    PV P ro ops Q w0 M h ((0, ⟨some d, .fieldAddr T x i, ty, ps, af, gd⟩) :: rest) D f :=
  y_val (v0 := .pointer (some ((⟨b, off, none⟩ : Addr).add k0))) hg rfl (fun _ _ => r_field rfl hx hf) (.z (by rw [← hn.eq]; exact .ptrb)) k
theorem y_fieldE {A : Option Addr} {j off k0 r : Nat} (hg : want ops f ⟨some d, .fieldAddr T x i, ty, ps, af, gd⟩ = true)
    (hx : fev f x = .pointer (some (ea A size j off))) (hf : fieldOff P T i = some k0) (hn : IsN (off + k0) r) (k : PV P ro ops Q w0 M h rest D (upd f d (.pointer (some (ea A size j r))))) :
    PV P ro ops Q w0 M h ((0, ⟨some d, .fieldAddr T x i, ty, ps, af, gd⟩) :: rest) D f :=
  y_val (v0 := .pointer (some ((ea A size j off).add k0))) hg rfl (fun _ _ => r_field rfl hx hf) (.z (by rw [← hn.eq]; exact .ptre)) k
theorem y_index {A : Option Addr} {m c j : Nat} {kd : IntKind} (hg : want ops f ⟨some d, .indexAddr T x y, ty, ps, af, gd⟩ = true)
    (hx : fev f x = .slice A m c) (hy : fev f y = .int kd (j : Int)) (hs : elemSize P T = some e) (hz : IsN e size) (hi : j < m) (hA : A.isSome = true)
    (k : PV P ro ops Q w0 M h rest D (upd f d (.pointer (some (ea A size j 0))))) : PV P ro ops Q w0 M h ((0, ⟨some d, .indexAddr T x y, ty, ps, af, gd⟩) :: rest) D f :=
  y_val (v0 := .pointer (some (ea A size j 0))) hg rfl (fun _ _ => r_index rfl hx hy (hz.eq ▸ hs) hi hA) (.z .any) k
theorem y_indexI {A : Option Addr} {m c : Nat} {z : Int} {kd : IntKind} (hg : want ops f ⟨some d, .indexAddr T x y, ty, ps, af, gd⟩ = true)
    (hx : fev f x = .slice A m c) (hy : fev f y = .int kd z) (hs : elemSize P T = some e) (hz : IsN e size) (h0 : 0 ≤ z) (hi : z < m) (hA : A.isSome = true)
    (k : PV P ro ops Q w0 M h rest D (upd f d (.pointer (some (ea A size z.toNat 0))))) : PV P ro ops Q w0 M h ((0, ⟨some d, .indexAddr T x y, ty, ps, af, gd⟩) :: rest) D f :=
  y_val (v0 := .pointer (some (ea A size z.toNat 0))) hg rfl (fun _ _ => r_indexI rfl hx hy (hz.eq ▸ hs) h0 hi hA) (.z .any) k
theorem y_indexArr {a : Addr} {m : Nat} {z : Int} {kd : IntKind} {v : Value} (hg : want ops f ⟨some d, .indexAddr T x y, ty, ps, af, gd⟩ = true)
    (hx : fev f x = .pointer (some a)) (hy : fev f y = .int kd z) (hs : arrSize P T = some (m, size)) (h0 : 0 ≤ z) (h1 : z < m) (hi : Is0 (.pointer (some (a.add (z.toNat * size)))) v)
    (k : PV P ro ops Q w0 M h rest D (upd f d v)) : PV P ro ops Q w0 M h ((0, ⟨some d, .indexAddr T x y, ty, ps, af, gd⟩) :: rest) D f :=
  y_val hg rfl (fun _ _ => r_indexArr rfl hx hy hs h0 h1) (.z hi) k
theorem y_build {cs cs' : List Value} (hg : want ops f ⟨some d, .build T l.toArray, ty, ps, af, gd⟩ = true)
    (hb : bld P T (pvs f l) = some cs) (hn : NL cs cs') (k : PV P ro ops Q w0 M h rest D (upd f d (.agg cs'.toArray))) : PV P ro ops Q w0 M h ((0, ⟨some d, .build T l.toArray, ty, ps, af, gd⟩) :: rest) D f :=
  y_val (v0 := .agg cs.toArray) hg rfl (fun _ _ => r_build rfl hb) (.agg hn) k
theorem y_makeFunc {fn : Fn} {l' : List Value} (hg : want ops f ⟨some d, .makeFunc fn #[] cl.toArray, ty, ps, af, gd⟩ = true)
    (hn : NL (evs f cl) l') (k : PV P ro ops Q w0 M h rest D (upd f d (.func fn #[] l'.toArray))) : PV P ro ops Q w0 M h ((0, ⟨some d, .makeFunc fn #[] cl.toArray, ty, ps, af, gd⟩) :: rest) D f :=
  y_val (v0 := .func fn #[] l'.toArray) hg rfl (fun _ _ => r_makeFunc rfl hn) (.z .any) k
theorem y_builtin {b : Builtin} {ts : Array TypeId} {v0 v : Value} (hg : want ops f ⟨some d, .call ⟨.builtin b, al.toArray, ts⟩, ty, ps, af, gd⟩ = true)
    (hr : ∀ w c, (builtin b ts ty c (evs f al).toArray).run P w = .ok (.value v0) w) (hi : Is v0 v) (k : PV P ro ops Q w0 M h rest D (upd f d v)) : PV P ro ops Q w0 M h ((0, ⟨some d, .call ⟨.builtin b, al.toArray, ts⟩, ty, ps, af, gd⟩) :: rest) D f :=
  y_val hg rfl (fun w _ => r_builtin rfl (hr w)) hi k
theorem y_gsplit {op : Op} {dd : Option Nat} {j t : Nat} {wn b : Bool} (hj : (ops[j]?).bind (·.dst) = some t) (hf : f t = .bool b)
    (h1 : b = true → PV P ro ops Q w0 M h ((kd, ⟨dd, op, ty, ps, af, some (j, wn)⟩) :: rest) D (upd f t (.bool true))) (h2 : b = false → PV P ro ops Q w0 M h ((kd, ⟨dd, op, ty, ps, af, some (j, wn)⟩) :: rest) D (upd f t (.bool false))) :
    PV P ro ops Q w0 M h ((kd, ⟨dd, op, ty, ps, af, some (j, wn)⟩) :: rest) D f := by
  cases b with
  | true => have := h1 rfl; rwa [upd_self hf] at this
  | false => have := h2 rfl; rwa [upd_self hf] at this
theorem y_gnot {op : Op} {dd : Option Nat} {j t : Nat} {wn b : Bool} (hj : (ops[j]?).bind (·.dst) = some t) (hf : f t = .bool (!b))
    (h1 : b = false → PV P ro ops Q w0 M h ((kd, ⟨dd, op, ty, ps, af, some (j, wn)⟩) :: rest) D (upd f t (.bool true))) (h2 : b = true → PV P ro ops Q w0 M h ((kd, ⟨dd, op, ty, ps, af, some (j, wn)⟩) :: rest) D (upd f t (.bool false))) :
    PV P ro ops Q w0 M h ((kd, ⟨dd, op, ty, ps, af, some (j, wn)⟩) :: rest) D f := y_gsplit hj hf (fun e => h1 (by simpa using e)) (fun e => h2 (by simpa using e))
theorem y_gndec {op : Op} {dd : Option Nat} {j t : Nat} {wn e : Bool} {p : Prop} {inst : Decidable p} (hj : (ops[j]?).bind (·.dst) = some t) (hf : f t = .bool e) (he : e = !decide p)
    (h1 : ¬ p → PV P ro ops Q w0 M h ((kd, ⟨dd, op, ty, ps, af, some (j, wn)⟩) :: rest) D (upd f t (.bool true))) (h2 : p → PV P ro ops Q w0 M h ((kd, ⟨dd, op, ty, ps, af, some (j, wn)⟩) :: rest) D (upd f t (.bool false))) :
    PV P ro ops Q w0 M h ((kd, ⟨dd, op, ty, ps, af, some (j, wn)⟩) :: rest) D f := y_gnot hj (hf.trans (by rw [he])) (fun e => h1 (of_decide_eq_false e)) (fun e => h2 (of_decide_eq_true e))
theorem y_gdec {op : Op} {dd : Option Nat} {j t : Nat} {wn : Bool} {p : Prop} {inst : Decidable p} (hj : (ops[j]?).bind (·.dst) = some t) (hf : f t = .bool (decide p))
    (h1 : p → PV P ro ops Q w0 M h ((kd, ⟨dd, op, ty, ps, af, some (j, wn)⟩) :: rest) D (upd f t (.bool true))) (h2 : ¬ p → PV P ro ops Q w0 M h ((kd, ⟨dd, op, ty, ps, af, some (j, wn)⟩) :: rest) D (upd f t (.bool false))) :
    PV P ro ops Q w0 M h ((kd, ⟨dd, op, ty, ps, af, some (j, wn)⟩) :: rest) D f := y_gsplit hj hf (fun e => h1 (of_decide_eq_true e)) (fun e => h2 (of_decide_eq_false e))
theorem y_geq {op : Op} {dd : Option Nat} {j t : Nat} {wn : Bool} {p q : Int} (hj : (ops[j]?).bind (·.dst) = some t) (hf : f t = .bool (p == q))
    (h1 : p = q → PV P ro ops Q w0 M h ((kd, ⟨dd, op, ty, ps, af, some (j, wn)⟩) :: rest) D (upd f t (.bool true))) (h2 : ¬ p = q → PV P ro ops Q w0 M h ((kd, ⟨dd, op, ty, ps, af, some (j, wn)⟩) :: rest) D (upd f t (.bool false))) :
    PV P ro ops Q w0 M h ((kd, ⟨dd, op, ty, ps, af, some (j, wn)⟩) :: rest) D f := y_gsplit hj hf (fun e => h1 (eq_of_beq e)) (fun e => h2 (fun e' => by subst e'; simp at e))
theorem y_gne {op : Op} {dd : Option Nat} {j t : Nat} {wn : Bool} {p q : Int} (hj : (ops[j]?).bind (·.dst) = some t) (hf : f t = .bool (p != q))
    (h1 : ¬ p = q → PV P ro ops Q w0 M h ((kd, ⟨dd, op, ty, ps, af, some (j, wn)⟩) :: rest) D (upd f t (.bool true))) (h2 : p = q → PV P ro ops Q w0 M h ((kd, ⟨dd, op, ty, ps, af, some (j, wn)⟩) :: rest) D (upd f t (.bool false))) :
    PV P ro ops Q w0 M h ((kd, ⟨dd, op, ty, ps, af, some (j, wn)⟩) :: rest) D f := y_gsplit hj hf (fun e => h1 (fun e' => by subst e'; simp at e)) (fun e => h2 (by simpa using e))
theorem y_nil (k : ∀ w, Sat w0 M h w → Q .normal D f w) : PV P ro ops Q w0 M h [] D f := k

/-! ### z -/
theorem beh_run {o : Oper} {v : Value} {w' : World} {K : Value → World → Prop} (hg : want ops f o = true) (hr : (execOp (fev f) o).run P w = .ok (.value v) w') (k : K v w') : Beh P ro ops o f w K := by
  unfold Beh; rw [if_pos hg, hr]; exact k
theorem beh_skip {o : Oper} {w' : World} {K : Value → World → Prop} (hg : want ops f o = true) (hr : (execOp (fev f) o).run P w = .ok .skip w') (k : K undef w') : Beh P ro ops o f w K := by
  unfold Beh; rw [if_pos hg, hr]; exact k
theorem beh_not {o : Oper} {K : Value → World → Prop} (hg : want ops f o = false) (k : K undef w) : Beh P ro ops o f w K := by
  unfold Beh; rw [if_neg (by rw [hg]; simp)]; exact k
theorem beh_call {o : Oper} {g : FuncId} {args : Array Value} {R : Value → World → Prop} {K : Value → World → Prop} (hg : want ops f o = true) (hr : (execOp (fev f) o).run P w = .ok (.enter g args) w) (hc : Calls P g args w (RetP R)) (k : ∀ v w', R v w' → K v w') : Beh P ro ops o f w K := by
  unfold Beh
  rw [if_pos hg, hr]
  have h1 : CallsIn Fence.wide 0 P g args w (RetP R) := callsIn_wide.2 hc
  have h2 : CallsIn (FW ro) 0 P g args w (RetP R) := h1
  refine CallsIn.mono h2 ?_
  rintro e w' ⟨v, rfl, hR⟩
  exact k v w' hR
/-- the only one that may come up: what is known stays known -/
theorem PV.step1 {o : Oper} (hb : ∀ w, Sat w0 M h w → Beh P ro ops o f w fun v w' => ∃ h', Sat w0 M h' w' ∧ St h h' w w' ∧ (∃ p, List.Perm h' (p ++ h)) ∧ PV P ro ops Q w0 M h' rest D (updo f o.dst v)) : PV P ro ops Q w0 M h ((1, o) :: rest) D f := hb
theorem PV.step2 {o : Oper} (hb : ∀ w, Sat w0 M h w → Beh P ro ops o f w fun v w' => ∃ h', Sat w0 M h' w' ∧ St h h' w w' ∧ PV P ro ops Q w0 M h' rest D (updo f o.dst v)) : PV P ro ops Q w0 M h ((2, o) :: rest) D f := hb
theorem z1_callv {g : FuncId} {cap as : List Value} {ts : Array TypeId} {V : Value} (hg : want ops f ⟨some d, .call ⟨.value x, al.toArray, ts⟩, ty, ps, af, gd⟩ = true)
    (hx : fev f x = .func (.func g) #[] cap.toArray) (hE : Ent P g) (ha : NA (evs f al ++ cap) as) (hc : ∀ w, Sat w0 M h w → Calls P g as.toArray w (RetP (Val V w)))
    (k : PV P ro ops Q w0 M h rest D (upd f d V)) : PV P ro ops Q w0 M h ((1, ⟨some d, .call ⟨.value x, al.toArray, ts⟩, ty, ps, af, gd⟩) :: rest) D f :=
  PV.step1 fun w S => beh_call hg (run_callv rfl hx hE) (by rw [ha.eq]; exact hc w S) (by rintro v w' ⟨rfl, hk⟩; exact ⟨h, S.call hk, St.keeps h hk, ⟨[], List.Perm.refl _⟩, k⟩)
theorem z2_callv {g : FuncId} {cap as : List Value} {ts : Array TypeId} {V : Value} (hg : want ops f ⟨some d, .call ⟨.value x, al.toArray, ts⟩, ty, ps, af, gd⟩ = true)
    (hx : fev f x = .func (.func g) #[] cap.toArray) (hE : Ent P g) (ha : NA (evs f al ++ cap) as) (hc : ∀ w, Sat w0 M h w → Calls P g as.toArray w (RetP (Val V w)))
    (k : PV P ro ops Q w0 M h rest D (upd f d V)) : PV P ro ops Q w0 M h ((2, ⟨some d, .call ⟨.value x, al.toArray, ts⟩, ty, ps, af, gd⟩) :: rest) D f :=
  PV.step2 fun w S => beh_call hg (run_callv rfl hx hE) (by rw [ha.eq]; exact hc w S) (by rintro v w' ⟨rfl, hk⟩; exact ⟨h, S.call hk, St.keeps h hk, k⟩)
/-- new facts in front -/
theorem z1_call {g : FuncId} {cap as : List Value} {ts : Array TypeId} {R : World → Value → World → Prop} (hg : want ops f ⟨some d, .call ⟨.value x, al.toArray, ts⟩, ty, ps, af, gd⟩ = true)
    (hx : fev f x = .func (.func g) #[] cap.toArray) (hE : Ent P g) (ha : NA (evs f al ++ cap) as) (hc : ∀ w, Sat w0 M h w → Calls P g as.toArray w (RetP (R w)))
    (k : ∀ w v w', Sat w0 M h w → R w v w' → ∃ p, Sat w0 M (p ++ h) w' ∧ St h (p ++ h) w w' ∧ PV P ro ops Q w0 M (p ++ h) rest D (upd f d v)) : PV P ro ops Q w0 M h ((1, ⟨some d, .call ⟨.value x, al.toArray, ts⟩, ty, ps, af, gd⟩) :: rest) D f :=
  PV.step1 fun w S => beh_call hg (run_callv rfl hx hE) (by rw [ha.eq]; exact hc w S) (fun v w' hR => by obtain ⟨p, a, b, c⟩ := k w v w' S hR; exact ⟨_, a, b, ⟨p, List.Perm.refl _⟩, c⟩)
theorem z2_call {g : FuncId} {cap as : List Value} {ts : Array TypeId} {R : World → Value → World → Prop} (hg : want ops f ⟨some d, .call ⟨.value x, al.toArray, ts⟩, ty, ps, af, gd⟩ = true)
    (hx : fev f x = .func (.func g) #[] cap.toArray) (hE : Ent P g) (ha : NA (evs f al ++ cap) as) (hc : ∀ w, Sat w0 M h w → Calls P g as.toArray w (RetP (R w)))
    (k : ∀ w v w', Sat w0 M h w → R w v w' → ∃ h', Sat w0 M h' w' ∧ St h h' w w' ∧ PV P ro ops Q w0 M h' rest D (upd f d v)) : PV P ro ops Q w0 M h ((2, ⟨some d, .call ⟨.value x, al.toArray, ts⟩, ty, ps, af, gd⟩) :: rest) D f :=
  PV.step2 fun w S => beh_call hg (run_callv rfl hx hE) (by rw [ha.eq]; exact hc w S) (fun v w' hR => k w v w' S hR)
/-- a pure operation as the only one -/
theorem z_val {o : Oper} {v0 v : Value} (hg : want ops f o = true) (hd : o.dst = some d) (hr : ∀ w, Sat w0 M h w → (execOp (fev f) o).run P w = .ok (.value v0) w) (hi : Is v0 v)
    (k : PV P ro ops Q w0 M h rest D (upd f d v)) : PV P ro ops Q w0 M h ((1, o) :: rest) D f ∧ PV P ro ops Q w0 M h ((2, o) :: rest) D f :=
  have k' : PV P ro ops Q w0 M h rest D (updo f o.dst v0) := by rw [hd, hi.eq]; exact k
  ⟨PV.step1 fun w S => beh_run hg (hr w S) ⟨h, S, St.keeps h (Keeps.refl _ _), ⟨[], List.Perm.refl _⟩, k'⟩, PV.step2 fun w S => beh_run hg (hr w S) ⟨h, S, St.keeps h (Keeps.refl _ _), k'⟩⟩
theorem z1_not {op : Op} {j : Nat} {wn : Bool} (hg : want ops f ⟨some d, op, ty, ps, af, some (j, wn)⟩ = false) (k : PV P ro ops Q w0 M h rest D (upd f d undef)) :
    PV P ro ops Q w0 M h ((1, ⟨some d, op, ty, ps, af, some (j, wn)⟩) :: rest) D f := PV.step1 fun w S => beh_not hg ⟨h, S, St.keeps h (Keeps.refl _ _), ⟨[], List.Perm.refl _⟩, k⟩
theorem z2_not {op : Op} {j : Nat} {wn : Bool} (hg : want ops f ⟨some d, op, ty, ps, af, some (j, wn)⟩ = false) (k : PV P ro ops Q w0 M h rest D (upd f d undef)) :
    PV P ro ops Q w0 M h ((2, ⟨some d, op, ty, ps, af, some (j, wn)⟩) :: rest) D f := PV.step2 fun w S => beh_not hg ⟨h, S, St.keeps h (Keeps.refl _ _), k⟩
theorem r_box {o : Oper} {v : Value} {cs : List Value} (hop : o.op = .box T x) (hi : Is (fev f x) v) (hn : NL (cl1 v) cs) : (execOp (fev f) o).run P w = .ok (.value (.pointer (some ⟨w.heap.size, 0, none⟩))) (w.alloc (.cells cs.toArray T)) := by
  unfold execOp
  rw [hop]
  simp only [Instr.box, Sem.run_bind, run_newVar, Result.andThen_ok, Sem.run_pure, hi.eq, ← cl1_eq, hn.eq]
theorem r_alloc {o : Oper} {z : Value} {cs : List Value} (hop : o.op = .alloc T) (hz : (P.info? T).bind (·.zero) = some z) (hn : NL (cl1 z) cs) : (execOp (fev f) o).run P w = .ok (.value (.pointer (some ⟨w.heap.size, 0, none⟩))) (w.alloc (.cells cs.toArray T)) := by
  obtain ⟨i, hi1, hi2⟩ := Option.bind_eq_some_iff.1 hz
  unfold execOp
  rw [hop]
  simp [Instr.alloc, zeroValue, typeInfo, hi1, hi2, newVar, newRow, ← cl1_eq, hn.eq]
theorem r_buildSlice {o : Oper} {cs cs' : List Value} (hop : o.op = .buildSlice T len l.toArray) (hb : bsl P T len (pvs f l) = some (e, size, cs)) (hn : NL cs cs') :
    (execOp (fev f) o).run P w = .ok (.value (.slice (some ⟨w.heap.size, 0, none⟩) len len)) (w.alloc (.cells cs'.toArray e)) := by
  unfold execOp
  rw [hop]
  simp only [pvs_eq, Sem.run_bind, run_buildSlice hb, Result.andThen_ok, Sem.run_pure, hn.eq]
theorem r_store {o : Oper} {T' b off : Nat} {v : Value} {cs cs' : List Value} (hb : w.heap[b]? = some (.cells cs.toArray T' (0, 0))) (hop : o.op = .store T x y)
    (hx : fev f x = .pointer (some ⟨b, off, none⟩)) (hy : Is (fev f y) v) (hs : (P.info? T).map (·.size) = some (cl1 v).length) (h1 : ones (cl1 v) = true)
    (hfit : Nat.ble (off + (cl1 v).length) cs.length = true) (hcs : NL (spl cs off (cl1 v)) cs') : (execOp (fev f) o).run P w = .ok .skip (w.setRow b cs'.toArray) := by
  have hfit' := Nat.le_of_ble_eq_true hfit
  obtain ⟨i, hi1, hi2⟩ := Option.map_eq_some_iff.1 hs
  have hrun := run_storeCells_at P b off T' (cl1 v) 0 cs.toArray w hb (by simpa using hfit') (ones_mem h1)
  unfold execOp
  rw [hop]
  simp only [Instr.storeAt, hx, Instr.sureAddr, Sem.run_bind, Sem.run_pure, Result.andThen_ok, hy.eq, storeVar, sizeOf, typeInfo, run_program, hi1, hi2]
  rw [← cl1_eq]
  simp only [List.size_toArray, ne_eq, not_true_eq_false, if_false, Sem.run_pure, Result.andThen_ok]
  rw [hrun]
  simp only [Result.andThen_ok, Nat.add_zero]
  rw [← hcs.eq, spl_eq _ _ _ hfit']
theorem St.new (h : List HO) (w : World) (T : TypeId) (cs : List Value) : St h (.cl w.heap.size T cs :: h) w (w.alloc (.cells cs.toArray T)) :=
  ⟨rfl, rfl, rfl, by simp, fun k hk _ => Below.heap_alloc w _ k hk, fun o ho k hok => by
    rcases List.mem_cons.1 ho with rfl | ho
    · injection hok with hok; exact .inr (by omega)
    · exact .inl ⟨o, ho, hok⟩⟩
theorem z_new {o : Oper} {cs : List Value} {V : Nat → Value} (hg : want ops f o = true) (hd : o.dst = some d) (hr : ∀ w, (execOp (fev f) o).run P w = .ok (.value (V w.heap.size)) (w.alloc (.cells cs.toArray T)))
    (k : ∀ b, PV P ro ops Q w0 M (.cl b T cs :: h) rest D (upd f d (V b))) : PV P ro ops Q w0 M h ((1, o) :: rest) D f ∧ PV P ro ops Q w0 M h ((2, o) :: rest) D f :=
  ⟨PV.step1 fun w S => beh_run hg (hr w) ⟨_, S.alloc T cs, St.new h w T cs, ⟨[_], List.Perm.refl _⟩, by rw [hd]; exact k _⟩, PV.step2 fun w S => beh_run hg (hr w) ⟨_, S.alloc T cs, St.new h w T cs, by rw [hd]; exact k _⟩⟩
theorem z1_box {v : Value} {cs : List Value} (hg : want ops f ⟨some d, .box T x, ty, ps, af, gd⟩ = true) (hi : Is (fev f x) v) (hn : NL (cl1 v) cs)
    (k : ∀ b, PV P ro ops Q w0 M (.cl b T cs :: h) rest D (upd f d (.pointer (some ⟨b, 0, none⟩)))) : PV P ro ops Q w0 M h ((1, ⟨some d, .box T x, ty, ps, af, gd⟩) :: rest) D f :=
  (z_new (V := fun b => .pointer (some ⟨b, 0, none⟩)) hg rfl (fun _ => r_box rfl hi hn) k).1
theorem z2_box {v : Value} {cs : List Value} (hg : want ops f ⟨some d, .box T x, ty, ps, af, gd⟩ = true) (hi : Is (fev f x) v) (hn : NL (cl1 v) cs)
    (k : ∀ b, PV P ro ops Q w0 M (.cl b T cs :: h) rest D (upd f d (.pointer (some ⟨b, 0, none⟩)))) : PV P ro ops Q w0 M h ((2, ⟨some d, .box T x, ty, ps, af, gd⟩) :: rest) D f :=
  (z_new (V := fun b => .pointer (some ⟨b, 0, none⟩)) hg rfl (fun _ => r_box rfl hi hn) k).2
theorem z1_alloc {z : Value} {cs : List Value} (hg : want ops f ⟨some d, .alloc T, ty, ps, af, gd⟩ = true) (hz : (P.info? T).bind (·.zero) = some z) (hn : NL (cl1 z) cs)
    (k : ∀ b, PV P ro ops Q w0 M (.cl b T cs :: h) rest D (upd f d (.pointer (some ⟨b, 0, none⟩)))) : PV P ro ops Q w0 M h ((1, ⟨some d, .alloc T, ty, ps, af, gd⟩) :: rest) D f :=
  (z_new (V := fun b => .pointer (some ⟨b, 0, none⟩)) hg rfl (fun _ => r_alloc rfl hz hn) k).1
theorem z2_alloc {z : Value} {cs : List Value} (hg : want ops f ⟨some d, .alloc T, ty, ps, af, gd⟩ = true) (hz : (P.info? T).bind (·.zero) = some z) (hn : NL (cl1 z) cs)
    (k : ∀ b, PV P ro ops Q w0 M (.cl b T cs :: h) rest D (upd f d (.pointer (some ⟨b, 0, none⟩)))) : PV P ro ops Q w0 M h ((2, ⟨some d, .alloc T, ty, ps, af, gd⟩) :: rest) D f :=
  (z_new (V := fun b => .pointer (some ⟨b, 0, none⟩)) hg rfl (fun _ => r_alloc rfl hz hn) k).2
theorem z3_alloc {z : Value} {cs : List Value} (hz : (P.info? T).bind (·.zero) = some z) (hn : NL (cl1 z) cs)
    (k : ∀ b, PV P ro ops Q w0 M (.cl b T cs :: h) rest D (upd f d (.pointer (some ⟨b, 0, none⟩)))) : PV P ro ops Q w0 M h ((4, ⟨some d, .alloc T, ty, ps, af, none⟩) :: rest) D f :=
  ⟨T, cs, by simp only [mkOf, hz, Option.map_some, hn.eq], k⟩
theorem z1_buildSlice {cs cs' : List Value} (hg : want ops f ⟨some d, .buildSlice T len l.toArray, ty, ps, af, gd⟩ = true) (hb : bsl P T len (pvs f l) = some (e, size, cs)) (hn : NL cs cs')
    (k : ∀ b, PV P ro ops Q w0 M (.cl b e cs' :: h) rest D (upd f d (.slice (some ⟨b, 0, none⟩) len len))) : PV P ro ops Q w0 M h ((1, ⟨some d, .buildSlice T len l.toArray, ty, ps, af, gd⟩) :: rest) D f :=
  (z_new (V := fun b => .slice (some ⟨b, 0, none⟩) len len) hg rfl (fun _ => r_buildSlice rfl hb hn) k).1
theorem z2_buildSlice {cs cs' : List Value} (hg : want ops f ⟨some d, .buildSlice T len l.toArray, ty, ps, af, gd⟩ = true) (hb : bsl P T len (pvs f l) = some (e, size, cs)) (hn : NL cs cs')
    (k : ∀ b, PV P ro ops Q w0 M (.cl b e cs' :: h) rest D (upd f d (.slice (some ⟨b, 0, none⟩) len len))) : PV P ro ops Q w0 M h ((2, ⟨some d, .buildSlice T len l.toArray, ty, ps, af, gd⟩) :: rest) D f :=
  (z_new (V := fun b => .slice (some ⟨b, 0, none⟩) len len) hg rfl (fun _ => r_buildSlice rfl hb hn) k).2
theorem Rep.back {h h' : List HO} {o o' : HO} (r : Rep h o o' h') : Rep h' o' o h := by
  induction r with
  | head => exact .head
  | tail _ ih => exact .tail ih
theorem z2_store {T' b off : Nat} {v : Value} {cs cs' : List Value} {h' : List HO} (hg : want ops f ⟨none, .store T x y, ty, ps, af, gd⟩ = true)
    (hx : fev f x = .pointer (some ⟨b, off, none⟩)) (hy : Is (fev f y) v) (r : Rep h (.cl b T' cs) (.cl b T' cs') h') (hs : (P.info? T).map (·.size) = some (cl1 v).length) (ho : ones (cl1 v) = true)
    (hfit : Nat.ble (off + (cl1 v).length) cs.length = true) (hcs : NL (spl cs off (cl1 v)) cs')
    (k : PV P ro ops Q w0 M h' rest D f) : PV P ro ops Q w0 M h ((2, ⟨none, .store T x y, ty, ps, af, gd⟩) :: rest) D f :=
  PV.step2 fun w S => beh_skip hg (r_store (S.ok _ r.mem).1 rfl hx hy hs ho hfit hcs) ⟨h', S.setRow r,
    ⟨rfl, rfl, rfl, by simp, fun k _ hn => setRow_other w b k _ (fun e => hn _ r.mem (by rw [e]; rfl)), fun o ho k hok => by
      rcases r.mem' o ho with rfl | hm
      · exact .inl ⟨_, r.mem, hok⟩
      · exact .inl ⟨o, hm, hok⟩⟩, k⟩
end
end Go.Proofs.Ytagapiflfnbfiaa
