/- Slices of one block: cut, joined in place, cleared. No statement of the seat is proved here. -/
import Derived.Test.YtagapiflfnbfiaaEngV
namespace Go.Proofs.Ytagapiflfnbfiaa
set_option linter.unusedVariables false
set_option linter.unusedSimpArgs false
open Go Go.RowKit
/-- small numbers -/
inductive IsI : Int → Int → Prop
  | i0 : IsI 0 0
  | i1 : IsI 1 1
  | i2 : IsI 2 2
  | i3 : IsI 3 3
  | i4 : IsI 4 4
  | i5 : IsI 5 5
  | i6 : IsI 6 6
  | i7 : IsI 7 7
  | i8 : IsI 8 8
  | i9 : IsI 9 9
  | i10 : IsI 10 10
  | i11 : IsI 11 11
  | i12 : IsI 12 12
  | i13 : IsI 13 13
  | i14 : IsI 14 14
  | i15 : IsI 15 15
  | i16 : IsI 16 16
theorem IsI.eq {a b : Int} (h : IsI a b) : a = b := by cases h <;> rfl
section
variable {P : Program} {ro : Option Nat} {n : Nat} {Q : Post} {D : List Deferred} {f : Fm} {w w0 w' : World} {M : List Nat} {h : List HO}
variable {ops : Array Oper} {rest : List Oper} {prest : List (Nat × Oper)} {d ty xt yt : Nat} {ps : String} {af : Array Edge} {gd : Option (Nat × Bool)} {x y z : Operand} {al : List Operand}
theorem elem_parts {T size : Nat} (hs : elemSize P T = some size) : ∃ e i, P.underlying T = some (.slice e) ∧ P.info? e = some i ∧ i.size = size := by
  unfold elemSize at hs
  split at hs <;> try (cases hs; done)
  rename_i el hu
  obtain ⟨i, hi, hsz⟩ := Option.map_eq_some_iff.1 hs
  exact ⟨el, i, hu, hi, hsz⟩
theorem run_appendIn {T Tb b o1 o2 m1 m2 c1 c2 : Nat} {cs : List Value} (hs : elemSize P T = some 1) (hx : fev f x = .slice (some ⟨b, o1, none⟩) m1 c1) (hy : fev f y = .slice (some ⟨b, o2, none⟩) m2 c2)
    (hb : w.heap[b]? = some (.cells cs.toArray Tb (0, 0))) (h1 : m1 + m2 ≤ c1) (h2 : o2 + m2 ≤ cs.length) (h3 : o1 + m1 + m2 ≤ cs.length) (ho : ones cs = true) :
    (execOp (fev f) ⟨some d, .call ⟨.builtin .append, #[x, y], #[T, T]⟩, ty, ps, af, gd⟩).run P w = .ok (.value (.slice (some ⟨b, o1, none⟩) (m1 + m2) c1)) (w.setRow b (spl cs (o1 + m1) ((cs.drop o2).take m2)).toArray) := by
  obtain ⟨e, i, hu, hi, h0⟩ := elem_parts hs
  have hl : ((cs.drop o2).take m2).length = m2 := by simp; omega
  have hf := run_firstCells_some (P := P) w 1 m2 ⟨b, o2, none⟩ m2 c2 ((cs.drop o2).take m2) (by rw [hl]; omega) (fun j v hj => by
    rw [add_at, cell_of_row w b _ _ _ _ hb]
    have hlt : j < m2 := by have := (List.getElem?_eq_some_iff.1 hj).1; omega
    rw [List.getElem?_take_of_lt hlt, List.getElem?_drop] at hj
    simpa using hj)
  have hst := run_storeCells_at P b (o1 + m1) Tb ((cs.drop o2).take m2) 0 cs.toArray w hb (by rw [hl]; simp; omega) (fun v hv => ones_mem ho v (List.mem_of_mem_drop (List.mem_of_mem_take hv)))
  have hadd : (⟨b, o1, none⟩ : Addr).add (m1 * 1) = ⟨b, o1 + m1, none⟩ := by rw [add_at, Nat.mul_one]
  rw [spl_eq cs (o1 + m1) _ (by rw [hl]; omega)]
  simp [execOp, resolve, invoke, builtin, hx, hy, Builtin.append_, run_underlying hu, Sem.run_bind, Sem.run_pure, Result.andThen, sizeOf, typeInfo, hi, h0, Builtin.lenOf, h1, go_sem]
  simp [Builtin.firstCells, go_sem] at hf
  rw [hf]
  simp at hst
  simp [hst]
theorem y_sliceHi {T : TypeId} {A : Option Addr} {m c size : Nat} {kd : IntKind} {e : Int} (hg : want ops f ⟨some d, .slice T x none (some y) none, ty, ps, af, gd⟩ = true) (hx : fev f x = .slice A m c) (hy : fev f y = .int kd e) (hs : elemSize P T = some size) (h0 : 0 ≤ e) (h1 : e ≤ c)
    (k : PV P ro ops Q w0 M h prest D (upd f d (.slice A e.toNat c))) : PV P ro ops Q w0 M h ((0, ⟨some d, .slice T x none (some y) none, ty, ps, af, gd⟩) :: prest) D f :=
  y_val hg rfl (fun _ _ => run_sliceHi hx hy hs h0 h1) (.z .slice) k
theorem y_sliceLo {T : TypeId} {A : Option Addr} {m c size : Nat} {kd : IntKind} {e : Int} (hg : want ops f ⟨some d, .slice T x (some y) none none, ty, ps, af, gd⟩ = true) (hx : fev f x = .slice A m c) (hy : fev f y = .int kd e) (hs : elemSize P T = some size) (h0 : 0 ≤ e) (h1 : e ≤ m)
    (k : PV P ro ops Q w0 M h prest D (upd f d (.slice (sub A e.toNat size c) (m - e.toNat) (c - e.toNat)))) : PV P ro ops Q w0 M h ((0, ⟨some d, .slice T x (some y) none none, ty, ps, af, gd⟩) :: prest) D f :=
  y_val hg rfl (fun _ _ => run_sliceLo hx hy hs h0 h1) (.z .slice) k
theorem Sat.set {b Tb : Nat} {cs cs' : List Value} {F : HO → List HO} (S : Sat w0 M h w) (hr : RepF h (.cl b Tb cs) F) : Sat w0 M (F (.cl b Tb cs')) (w.setRow b cs'.toArray) := S.setRow (hr.rep _)
theorem x_appendIn {T Tb b o1 o2 m1 m2 c1 c2 r : Nat} {cs cs' : List Value} {F : HO → List HO} (S : Sat w0 M h w) (hg : want ops f ⟨some d, .call ⟨.builtin .append, #[x, y], #[T, T]⟩, ty, ps, af, gd⟩ = true) (hdn : Nat.blt d n = true) (hs : elemSize P T = some 1)
    (hx : fev f x = .slice (some ⟨b, o1, none⟩) m1 c1) (hy : fev f y = .slice (some ⟨b, o2, none⟩) m2 c2) (hr : RepF h (.cl b Tb cs) F) (h1 : m1 + m2 ≤ c1) (h2 : o2 + m2 ≤ cs.length) (h3 : o1 + m1 + m2 ≤ cs.length) (ho : ones cs = true)
    (hn : NL (spl cs (o1 + m1) ((cs.drop o2).take m2)) cs') (hz : IsN (m1 + m2) r)
    (k : ∀ w', Sat w0 M (F (.cl b Tb cs')) w' → WL P ro n ops Q rest D (upd f d (.slice (some ⟨b, o1, none⟩) r c1)) w') : WL P ro n ops Q (⟨some d, .call ⟨.builtin .append, #[x, y], #[T, T]⟩, ty, ps, af, gd⟩ :: rest) D f w := by
  have hm := (hr.rep (.cl b Tb cs)).mem
  have hrun := run_appendIn (P := P) (f := f) (d := d) (ty := ty) (ps := ps) (af := af) (gd := gd) hs hx hy (S.ok _ hm).1 h1 h2 h3 ho
  rw [hn.eq, hz.eq] at hrun
  exact wl_run hg hdn hrun (k _ (S.set hr))
theorem z2_appendIn {T Tb b o1 o2 m1 m2 c1 c2 r : Nat} {cs cs' : List Value} {F : HO → List HO} (hg : want ops f ⟨some d, .call ⟨.builtin .append, #[x, y], #[T, T]⟩, ty, ps, af, gd⟩ = true) (hs : elemSize P T = some 1)
    (hx : fev f x = .slice (some ⟨b, o1, none⟩) m1 c1) (hy : fev f y = .slice (some ⟨b, o2, none⟩) m2 c2) (hr : RepF h (.cl b Tb cs) F) (h1 : m1 + m2 ≤ c1) (h2 : o2 + m2 ≤ cs.length) (h3 : o1 + m1 + m2 ≤ cs.length) (ho : ones cs = true)
    (hn : NL (spl cs (o1 + m1) ((cs.drop o2).take m2)) cs') (hz : IsN (m1 + m2) r)
    (k : PV P ro ops Q w0 M (F (.cl b Tb cs')) prest D (upd f d (.slice (some ⟨b, o1, none⟩) r c1))) : PV P ro ops Q w0 M h ((2, ⟨some d, .call ⟨.builtin .append, #[x, y], #[T, T]⟩, ty, ps, af, gd⟩) :: prest) D f :=
  PV.step2 fun w S => by
    have hm := (hr.rep (.cl b Tb cs)).mem
    have hrun := run_appendIn (P := P) (f := f) (d := d) (ty := ty) (ps := ps) (af := af) (gd := gd) hs hx hy (S.ok _ hm).1 h1 h2 h3 ho
    rw [hn.eq, hz.eq] at hrun
    refine beh_run hg hrun ⟨_, S.set hr, ?_, k⟩
    refine ⟨rfl, rfl, rfl, by simp, fun k _ hn => setRow_other w b k _ (fun e => hn _ hm (by rw [e]; rfl)), fun o ho' k hok => ?_⟩
    rcases (hr.rep (.cl b Tb cs')).mem' o ho' with rfl | hm'
    · exact .inl ⟨_, hm, hok⟩
    · exact .inl ⟨o, hm', hok⟩
theorem run_sliceLH {T : TypeId} {A : Option Addr} {m c size : Nat} {kd kd' : IntKind} {e u : Int} (hx : fev f x = .slice A m c) (hy : fev f y = .int kd e) (hz : fev f z = .int kd' u) (hs : elemSize P T = some size) (h0 : 0 ≤ e) (h1 : e ≤ u) (h2 : u ≤ c) :
    (execOp (fev f) ⟨some d, .slice T x (some y) (some z) none, ty, ps, af, gd⟩).run P w = .ok (.value (.slice (sub A e.toNat size c) (u.toNat - e.toNat) (c - e.toNat))) w := by
  obtain ⟨el, i, hu, hi, hsz⟩ := elem_parts hs
  subst hsz
  simp [execOp, Instr.sliceAt, Instr.slice, Instr.sliceBounds, Instr.sliceBound, run_underlying hu, hx, hy, hz, Sem.run_bind, Sem.run_pure, Result.andThen, asIntOf, h0, h2, show 0 ≤ u by omega, show e ≤ max u 0 by omega, sizeOf, typeInfo, hi, go_sem, sub]
theorem x_sliceLH {T : TypeId} {A : Option Addr} {m c size sz : Nat} {kd kd' : IntKind} {e u : Int} (hg : want ops f ⟨some d, .slice T x (some y) (some z) none, ty, ps, af, gd⟩ = true) (hdn : Nat.blt d n = true) (hx : fev f x = .slice A m c) (hy : fev f y = .int kd e) (hz : fev f z = .int kd' u) (hs : elemSize P T = some size) (hq : IsN size sz) (h0 : 0 ≤ e) (h1 : e ≤ u) (h2 : u ≤ c)
    (k : WL P ro n ops Q rest D (upd f d (.slice (sub A e.toNat sz c) (u.toNat - e.toNat) (c - e.toNat))) w) : WL P ro n ops Q (⟨some d, .slice T x (some y) (some z) none, ty, ps, af, gd⟩ :: rest) D f w := by
  have hq := hq.eq
  subst hq
  exact wl_val hg rfl hdn (run_sliceLH hx hy hz hs h0 h1 h2) (.z .slice) k
/-- clear of a part of a block of integers -/
theorem x_clearIn {T Tb b o m c : Nat} {v : Value} {cs cs' : List Value} {F : HO → List HO} (S : Sat w0 M h w) (hg : want ops f ⟨none, .call ⟨.builtin .clear, #[x], #[T]⟩, ty, ps, af, gd⟩ = true)
    (hx : fev f x = .slice (some ⟨b, o, none⟩) m c) (hr : RepF h (.cl b Tb cs) F) (hz : ((P.underlying T).bind fun u => match u with | .slice e => (P.info? e).bind (·.zero) | _ => none) = some v) (hv : cl1 v = [v]) (h1 : one v = true) (h2 : o + m ≤ cs.length) (h3 : 0 < m)
    (hn : NL (spl cs o (List.replicate m v)) cs') (k : ∀ w', Sat w0 M (F (.cl b Tb cs')) w' → WL P ro n ops Q rest D f w') : WL P ro n ops Q (⟨none, .call ⟨.builtin .clear, #[x], #[T]⟩, ty, ps, af, gd⟩ :: rest) D f w := by
  have hm := (hr.rep (.cl b Tb cs)).mem
  have hb := (S.ok _ hm).1
  obtain ⟨u, hu, hz⟩ := Option.bind_eq_some_iff.1 hz
  split at hz <;> try (cases hz; done)
  rename_i e
  obtain ⟨i, hi, hz⟩ := Option.bind_eq_some_iff.1 hz
  have hst := run_storeCells_at P b o Tb (List.replicate m v) 0 cs.toArray w hb (by simp; omega) (fun u hu => by rw [List.eq_of_mem_replicate hu, ← one_eq]; exact h1)
  have hcells : v.cells = #[v] := by rw [← cl1_eq, hv]
  have hzc : (Builtin.zeroCells v.cells m).toList = List.replicate m v := by
    rw [hcells]
    unfold Builtin.zeroCells
    apply List.ext_getElem?
    intro j
    by_cases hj : j < m
    · simp [hj, Nat.mod_one]
    · simp [hj]
  have hrun : (execOp (fev f) ⟨none, .call ⟨.builtin .clear, #[x], #[T]⟩, ty, ps, af, gd⟩).run P w = .ok (.value (.tuple #[])) (w.setRow b (spl cs o (List.replicate m v)).toArray) := by
    rw [spl_eq cs o _ (by simp; omega)]
    simp at hst
    obtain ⟨m', rfl⟩ : ∃ m', m = m' + 1 := ⟨m - 1, by omega⟩
    simp [execOp, resolve, invoke, builtin, hx, Builtin.clear_, run_underlying hu, Sem.run_bind, Sem.run_pure, Result.andThen, zeroValue, typeInfo, hi, hz, go_sem, hzc]
    have hzc' := hzc
    simp only [Value.cells] at hzc'
    rw [hzc', hst]
  rw [hn.eq] at hrun
  exact wl_run hg rfl hrun (k _ (S.set hr))
/-- append(x, one element) where the order is drawn -/
theorem append1_run {T e : TypeId} {size bytes k c b : Nat} {A : Option Addr} {xs : List (List Value)} {cs : List Value} {F : HO → List HO} (S : Sat w0 M h w) (hk : apk P T = some (e, size, bytes)) (hx : fev f x = .slice A k c) (hy : fev f y = .slice (some ⟨b, 0, none⟩) 1 1)
    (hr : RepF h (.rw 0 (.slice A k c) e size xs) F) (hh : Has h (.cl b e cs)) (hl : Nat.beq cs.length size = true) (ho : ones cs = true) (hby : Nat.ble bytes 100000 = true) (hsm : xs.length < 1000000000) :
    ∃ g cap w', (execOp (fev f) ⟨some d, .call ⟨.builtin .append, #[x, y], #[T, T]⟩, ty, ps, af, gd⟩).run P w = .ok (.value (.slice (some ⟨g, 0, none⟩) (xs.length + 1) cap)) w' ∧
      Sat w0 M (F (.rw 0 (.slice (some ⟨g, 0, none⟩) (xs.length + 1) cap) e size (xs ++ [cs]))) w' ∧ St h (F (.rw 0 (.slice (some ⟨g, 0, none⟩) (xs.length + 1) cap) e size (xs ++ [cs]))) w w' := by
  have hm := (hr.rep (.rw 0 (.slice A k c) e size xs)).mem
  obtain ⟨h1, h2, h3⟩ := S.ok _ hm
  have hcl := S.cl hh
  have hby' := Nat.le_of_ble_eq_true hby
  have hl' := Nat.eq_of_beq_eq_true hl
  have hbound : (xs.length + 1) * bytes ≤ 140737488355328 := Nat.le_trans (Nat.mul_le_mul (show xs.length + 1 ≤ 1000000000 by omega) hby') (by decide)
  obtain ⟨v', w', hrun, hown, hgr, hob⟩ := run_append (P := P) (f := f) (d := d) (ty := ty) (ps := ps) (af := af) (gd := gd) (m := 1) (c := 1) (ad := ⟨b, 0, none⟩) (news := cs) hk hx hy h3 (by omega)
    (fun j u hu => by rw [add_at, cell_of_row w b _ _ _ _ hcl]; simpa using hu) (ones_mem ho) (by unfold maxLen; omega) hbound (Nat.zero_le _)
  obtain ⟨g, cap, rfl⟩ := ownsRow_succ hown
  have hmine : ∀ b', (Value.slice (some ⟨g, 0, none⟩) (xs.length + 1) cap).ownBlock = some b' → (Value.slice A k c).ownBlock = some b' ∨ b' = w.heap.size := by
    intro b' hb2
    rcases hob with e1 | e1
    · left; exact e1.symm.trans hb2
    · right
      have := e1.symm.trans hb2
      injection this with e2
      exact e2.symm
  refine ⟨g, cap, w', hrun, S.rep (hr.rep _) hgr ⟨fun b' hb' => ?_, ?_, ?_⟩ ?_, hgr.os, hgr.tape, hgr.output, hgr.size, fun q hq hn => hgr.block q hq (fun e => hn _ hm e.symm), fun o ho' q hoq => ?_⟩
  · rcases hmine b' hb' with e1 | e1
    · exact h1 b' e1
    · exact .inl (by have := S.le; omega)
  · intro c' hc'
    rcases List.mem_append.1 hc' with hc' | hc'
    · exact h2 c' hc'
    · rcases List.mem_cons.1 hc' with rfl | hc'
      · exact hl'
      · cases hc'
  · simpa using hown
  · intro b' hb'
    exact (hmine b' hb').imp id (fun e => by omega)
  · rcases (hr.rep (.rw 0 (.slice (some ⟨g, 0, none⟩) (xs.length + 1) cap) e size (xs ++ [cs]))).mem' o ho' with rfl | hm'
    · rcases hmine q hoq with e1 | e1
      · exact .inl ⟨_, hm, e1⟩
      · exact .inr (by omega)
    · exact .inl ⟨o, hm', hoq⟩
theorem z2_append1 {T e : TypeId} {size bytes k c b : Nat} {A : Option Addr} {xs : List (List Value)} {cs : List Value} {F : HO → List HO}
    (hg : want ops f ⟨some d, .call ⟨.builtin .append, #[x, y], #[T, T]⟩, ty, ps, af, gd⟩ = true) (hk : apk P T = some (e, size, bytes)) (hx : fev f x = .slice A k c) (hy : fev f y = .slice (some ⟨b, 0, none⟩) 1 1)
    (hr : RepF h (.rw 0 (.slice A k c) e size xs) F) (hh : Has h (.cl b e cs)) (hl : Nat.beq cs.length size = true) (ho : ones cs = true) (hby : Nat.ble bytes 100000 = true) (hsm : xs.length < 1000000000)
    (kk : ∀ g cap, PV P ro ops Q w0 M (F (.rw 0 (.slice (some ⟨g, 0, none⟩) (xs.length + 1) cap) e size (xs ++ [cs]))) prest D (upd f d (.slice (some ⟨g, 0, none⟩) (xs.length + 1) cap))) :
    PV P ro ops Q w0 M h ((2, ⟨some d, .call ⟨.builtin .append, #[x, y], #[T, T]⟩, ty, ps, af, gd⟩) :: prest) D f :=
  PV.step2 fun w S => by
    obtain ⟨g, cap, w', hrun, S', st⟩ := append1_run (P := P) (f := f) (d := d) (ty := ty) (ps := ps) (af := af) (gd := gd) S hk hx hy hr hh hl ho hby hsm
    exact beh_run hg hrun ⟨_, S', st, kk g cap⟩
theorem y_indexK {T e size j : Nat} {z : Int} {A : Option Addr} {m c : Nat} {kd : IntKind} (hg : want ops f ⟨some d, .indexAddr T x y, ty, ps, af, gd⟩ = true)
    (hx : fev f x = .slice A m c) (hy : fev f y = .int kd z) (hs : elemSize P T = some e) (hz : IsN e size) (hj : IsN z.toNat j) (h0 : 0 ≤ z) (hi : j < m) (hA : A.isSome = true)
    (k : PV P ro ops Q w0 M h prest D (upd f d (.pointer (some (ea A size j 0))))) : PV P ro ops Q w0 M h ((0, ⟨some d, .indexAddr T x y, ty, ps, af, gd⟩) :: prest) D f := by
  have e : z = (j : Int) := by rw [← hj.eq]; omega
  exact y_index hg hx (hy.trans (by rw [e])) hs hz hi hA k
theorem run_add {a b : Int} (hx : fev f x = .int .i64 a) (hy : fev f y = .int .i64 b) : (execOp (fev f) ⟨some d, .binOp .add xt x y yt, ty, ps, af, gd⟩).run P w = .ok (.value (.int .i64 (IntKind.i64.wrap (a + b)))) w := by
  unfold execOp
  simp [hx, hy, eqGuard, binOp, go_sem]
theorem x_addK {a b m : Int} (hg : want ops f ⟨some d, .binOp .add xt x y yt, ty, ps, af, gd⟩ = true) (hdn : Nat.blt d n = true) (hx : fev f x = .int .i64 a) (hy : fev f y = .int .i64 b) (hm : IsI (IntKind.i64.wrap (a + b)) m)
    (k : WL P ro n ops Q rest D (upd f d (.int .i64 m)) w) : WL P ro n ops Q (⟨some d, .binOp .add xt x y yt, ty, ps, af, gd⟩ :: rest) D f w :=
  x_bin hg hdn (run_add hx hy) (by rw [hm.eq]; exact .z .int) k
theorem x_callrowN {g : FuncId} {cap as : List Value} {ts : Array TypeId} {V : Value → Value} {E size m : Nat} {xs : List (List Value)} (S : Sat w0 M h w) (hg : want ops f ⟨some d, .call ⟨.value x, al.toArray, ts⟩, ty, ps, af, gd⟩ = true) (hdn : Nat.blt d n = true)
    (hx : fev f x = .func (.func g) #[] cap.toArray) (hE : Ent P g) (ha : NA (evs f al ++ cap) as) (hc : Calls P g as.toArray w (RetP (RowR V E size xs w))) (hm : IsN xs.length m)
    (k : ∀ A c w', Sat w0 M (.rw 0 (.slice A m c) E size xs :: h) w' → WL P ro n ops Q rest D (upd f d (V (.slice A m c))) w') : WL P ro n ops Q (⟨some d, .call ⟨.value x, al.toArray, ts⟩, ty, ps, af, gd⟩ :: rest) D f w := by
  have hm := hm.eq
  subst hm
  exact x_callrow S hg hdn hx hE ha hc k
theorem x_callrowE {g : FuncId} {cap as : List Value} {ts : Array TypeId} {V : Value → Value} {E size m : Nat} {xs : List (List Value)} (S : Sat w0 M h w) (hg : want ops f ⟨some d, .call ⟨.value x, al.toArray, ts⟩, ty, ps, af, gd⟩ = true) (hdn : Nat.blt d n = true)
    (hx : fev f x = .func (.func g) #[] cap.toArray) (hE : Ent P g) (ha : NA (evs f al ++ cap) as) (hc : Calls P g as.toArray w (RetP (RowR V E size xs w))) (hm : xs.length = m)
    (k : ∀ A c w', Sat w0 M (.rw 0 (.slice A m c) E size xs :: h) w' → WL P ro n ops Q rest D (upd f d (V (.slice A m c))) w') : WL P ro n ops Q (⟨some d, .call ⟨.value x, al.toArray, ts⟩, ty, ps, af, gd⟩ :: rest) D f w := by
  subst hm
  exact x_callrow S hg hdn hx hE ha hc k
theorem Sat.rdmapN {α : Type} {en : α → List Value} (z : α) {base E size c m : Nat} {A : Option Addr} {l : List α} (S : Sat w0 M h w) (hh : Has h (.rw base (.slice A m c) E size (l.map en))) (hn : m = l.length) : Rd w A size l.length (fun i => en (l.getD i z)) := by
  subst hn
  exact (S.rd hh).congr (fun i hi => by simp [List.getD_eq_getElem?_getD, hi])
theorem y_loadRowM {α : Type} {en : α → List Value} (z : α) {T base m c j off : Nat} {A : Option Addr} {E size : Nat} {l : List α} {kk : Option Nat} {v0 v : Value} (hg : want ops f ⟨some d, .load T x, ty, ps, af, gd⟩ = true)
    (hx : fev f x = .pointer (some (ea A size j off))) (hh : Has h (.rw base (.slice A m c) E size (l.map en))) (hn : m = l.length) (hj : j < l.length) (hk : ldk P T = some kk) (hv : ldv kk (en (l.getD j z)) off = some v0) (hi : Is v0 v)
    (k : PV P ro ops Q w0 M h prest D (upd f d v)) : PV P ro ops Q w0 M h ((0, ⟨some d, .load T x, ty, ps, af, gd⟩) :: prest) D f :=
  y_val hg rfl (fun w S => r_load_at rfl hx ((S.rdmapN z hh hn).cells hj) hk hv) hi k
/-- a loop that leaves what is known of the memory as it is -/
theorem cw_loopS {c : Code} (Ss ks : List Nat) (S : Sat w0 M h w) (I : List Value → Prop) (μ : List Value → Nat) (h0 : I (ks.map f))
    (round : ∀ g vs w', I vs → Sat w0 M h w' → CW P ro n c (thenQ (fun D' f' w2 => D' = D ∧ Agree Ss f' f ∧ I (ks.map f') ∧ Sat w0 M h w2 ∧ μ (ks.map f') < μ vs) Q) D (updl (mask Ss g f) ks vs) w') : CW P ro n (.loop c) Q D f w :=
  cw_loop Ss ks (fun vs w => I vs ∧ Sat w0 M h w) (fun vs _ => μ vs) ⟨h0, S⟩ (fun g vs w' hi => by
    refine cw_mono (round g vs w' hi.1 hi.2) ?_
    rintro e D' f' w2 hq
    cases e with
    | normal => obtain ⟨h1, h2, h3, h4, h5⟩ := hq; exact ⟨h1, h2, ⟨h3, h4⟩, h5⟩
    | ret => exact hq
    | exit id => exact hq
    | goto l => exact hq
    | panic c => exact hq
    | outgrown => exact hq)
theorem RepF.again {o : HO} {F : HO → List HO} (r : RepF h o F) (o' : HO) : RepF (F o') o' F := by
  induction r with
  | head => exact .head
  | tail _ ih => exact .tail ih
theorem flat_single : ∀ cs : List Value, (cs.map fun v => [v]).flatten = cs
  | [] => rfl
  | v :: l => by simp [flat_single l]
/-- a full block of cells as a row of the call's own -/
theorem Sat.asRow {b E : Nat} {cs : List Value} {F : HO → List HO} (S : Sat w0 M h w) (hr : RepF h (.cl b E cs) F) (hl : cs.length ≤ 1000000) : Sat w0 M (F (.rw 0 (.slice (some ⟨b, 0, none⟩) cs.length cs.length) E 1 (cs.map fun v => [v]))) w := by
  obtain ⟨h1, h2⟩ := S.ok _ (hr.rep (.cl b E cs)).mem
  refine S.rep (hr.rep _) ⟨rfl, rfl, rfl, Nat.le_refl _, fun _ _ _ => rfl⟩ ⟨fun b' hb' => ?_, ?_, ?_⟩ (fun b' hb' => .inl (by injection hb' with e; rw [← e]; rfl))
  · injection hb' with e; rw [← e]; exact h2
  · intro c hc
    obtain ⟨v, _, rfl⟩ := List.mem_map.1 hc
    rfl
  · have hf := flat_single cs
    rw [hf, List.length_map]
    exact ⟨by omega, .inr ⟨b, cs.length, cs.toArray, rfl, Nat.zero_le _, h1, Nat.le_refl _, by unfold maxLen; omega, by simp, by simp⟩⟩
theorem x_append1C {T e : TypeId} {bytes b b1 k c r : Nat} {cs c1 : List Value} {F : HO → List HO} (S : Sat w0 M h w)
    (hg : want ops f ⟨some d, .call ⟨.builtin .append, #[x, y], #[T, T]⟩, ty, ps, af, gd⟩ = true) (hdn : Nat.blt d n = true) (hk : apk P T = some (e, 1, bytes)) (hx : fev f x = .slice (some ⟨b1, 0, none⟩) k c) (hy : fev f y = .slice (some ⟨b, 0, none⟩) 1 1)
    (hr : RepF h (.cl b1 e cs) F) (hkc : cs.length = k ∧ cs.length = c) (hh : ∀ o, Has (F o) (.cl b e c1)) (hl : Nat.beq c1.length 1 = true) (ho : ones c1 = true) (hby : Nat.ble bytes 100000 = true) (hsm : cs.length < 1000000) (hz : IsN (cs.length + 1) r)
    (kk : ∀ g cap w', Sat w0 M (F (.rw 0 (.slice (some ⟨g, 0, none⟩) r cap) e 1 ((cs.map fun v => [v]) ++ [c1]))) w' → WL P ro n ops Q rest D (upd f d (.slice (some ⟨g, 0, none⟩) r cap)) w') :
    WL P ro n ops Q (⟨some d, .call ⟨.builtin .append, #[x, y], #[T, T]⟩, ty, ps, af, gd⟩ :: rest) D f w := by
  obtain ⟨e1, e2⟩ := hkc
  subst e1
  subst e2
  have hz := hz.eq
  subst hz
  have S1 := S.asRow hr (by omega)
  have := x_append1 (xs := cs.map fun v => [v]) S1 hg hdn hk hx hy (hr.again _) (hh _) hl ho hby (by rw [List.length_map]; omega) (ro := ro) (n := n) (Q := Q) (rest := rest) (D := D) (by
    rw [List.length_map]
    exact kk)
  exact this
end
end Go.Proofs.Ytagapiflfnbfiaa
