/- EngW: several texts in one. No statement of the seat is proved here. -/
import Derived.Test.YtfkcihcbmlcajaaEngT
import Derived.Laws.AppendOwn
import Derived.Laws.BitsLemmas
import Derived.Laws.Cover3
import Derived.Laws.OwnMore
/- Slices of one block: cut, joined in place, cleared. No statement of the seat is proved here. -/
namespace Go.Proofs.Ytfkcihcbmlcajaa
set_option linter.unusedVariables false
set_option linter.unusedSimpArgs false
open Go Go.RowKit
/-- small numbers -/
inductive IsI : Int → Int → Prop
  | i0 : IsI 0 0
  | i1 : IsI 1 1
  | i2 : IsI 2 2
  | i3 : IsI 3 3
  | i4 : IsI 4 4
  | i5 : IsI 5 5
  | i6 : IsI 6 6
  | i7 : IsI 7 7
  | i8 : IsI 8 8
  | i9 : IsI 9 9
  | i10 : IsI 10 10
  | i11 : IsI 11 11
  | i12 : IsI 12 12
  | i13 : IsI 13 13
  | i14 : IsI 14 14
  | i15 : IsI 15 15
  | i16 : IsI 16 16
theorem IsI.eq {a b : Int} (h : IsI a b) : a = b := by cases h <;> rfl
section
variable {P : Program} {ro : Option Nat} {n : Nat} {Q : Post} {D : List Deferred} {f : Fm} {w w0 w' : World} {M : List Nat} {h : List HO}
variable {ops : Array Oper} {rest : List Oper} {prest : List (Nat × Oper)} {d ty xt yt : Nat} {ps : String} {af : Array Edge} {gd : Option (Nat × Bool)} {x y z : Operand} {al : List Operand}
theorem elem_parts {T size : Nat} (hs : elemSize P T = some size) : ∃ e i, P.underlying T = some (.slice e) ∧ P.info? e = some i ∧ i.size = size := by
  unfold elemSize at hs
  split at hs <;> try (cases hs; done)
  rename_i el hu
  obtain ⟨i, hi, hsz⟩ := Option.map_eq_some_iff.1 hs
  exact ⟨el, i, hu, hi, hsz⟩
theorem run_appendIn {T Tb b o1 o2 m1 m2 c1 c2 : Nat} {cs : List Value} (hs : elemSize P T = some 1) (hx : fev f x = .slice (some ⟨b, o1, none⟩) m1 c1) (hy : fev f y = .slice (some ⟨b, o2, none⟩) m2 c2)
    (hb : w.heap[b]? = some (.cells cs.toArray Tb (0, 0))) (h1 : m1 + m2 ≤ c1) (h2 : o2 + m2 ≤ cs.length) (h3 : o1 + m1 + m2 ≤ cs.length) (ho : ones cs = true) :
    (execOp (fev f) ⟨some d, .call ⟨.builtin .append, #[x, y], #[T, T]⟩, ty, ps, af, gd⟩).run P w = .ok (.value (.slice (some ⟨b, o1, none⟩) (m1 + m2) c1)) (w.setRow b (spl cs (o1 + m1) ((cs.drop o2).take m2)).toArray) := by
  obtain ⟨e, i, hu, hi, h0⟩ := elem_parts hs
  have hl : ((cs.drop o2).take m2).length = m2 := by simp; omega
  have hf := run_firstCells_some (P := P) w 1 m2 ⟨b, o2, none⟩ m2 c2 ((cs.drop o2).take m2) (by rw [hl]; omega) (fun j v hj => by
    rw [add_at, cell_of_row w b _ _ _ _ hb]
    have hlt : j < m2 := by have := (List.getElem?_eq_some_iff.1 hj).1; omega
    rw [List.getElem?_take_of_lt hlt, List.getElem?_drop] at hj
    simpa using hj)
  have hst := run_storeCells_at P b (o1 + m1) Tb ((cs.drop o2).take m2) 0 cs.toArray w hb (by rw [hl]; simp; omega) (fun v hv => ones_mem ho v (List.mem_of_mem_drop (List.mem_of_mem_take hv)))
  have hadd : (⟨b, o1, none⟩ : Addr).add (m1 * 1) = ⟨b, o1 + m1, none⟩ := by rw [add_at, Nat.mul_one]
  rw [spl_eq cs (o1 + m1) _ (by rw [hl]; omega)]
  simp [execOp, resolve, invoke, builtin, hx, hy, Builtin.append_, run_underlying hu, Sem.run_bind, Sem.run_pure, Result.andThen, sizeOf, typeInfo, hi, h0, Builtin.lenOf, h1, go_sem]
  simp [Builtin.firstCells, go_sem] at hf
  rw [hf]
  simp at hst
  simp [hst]
theorem y_sliceHi {T : TypeId} {A : Option Addr} {m c size : Nat} {kd : IntKind} {e : Int} (hg : want ops f ⟨some d, .slice T x none (some y) none, ty, ps, af, gd⟩ = true) (hx : fev f x = .slice A m c) (hy : fev f y = .int kd e) (hs : elemSize P T = some size) (h0 : 0 ≤ e) (h1 : e ≤ c)
    (k : PV P ro ops Q w0 M h prest D (upd f d (.slice A e.toNat c))) : PV P ro ops Q w0 M h ((0, ⟨some d, .slice T x none (some y) none, ty, ps, af, gd⟩) :: prest) D f :=
  y_val hg rfl (fun _ _ => run_sliceHi hx hy hs h0 h1) (.z .slice) k
theorem y_sliceLo {T : TypeId} {A : Option Addr} {m c size : Nat} {kd : IntKind} {e : Int} (hg : want ops f ⟨some d, .slice T x (some y) none none, ty, ps, af, gd⟩ = true) (hx : fev f x = .slice A m c) (hy : fev f y = .int kd e) (hs : elemSize P T = some size) (h0 : 0 ≤ e) (h1 : e ≤ m)
    (k : PV P ro ops Q w0 M h prest D (upd f d (.slice (sub A e.toNat size c) (m - e.toNat) (c - e.toNat)))) : PV P ro ops Q w0 M h ((0, ⟨some d, .slice T x (some y) none none, ty, ps, af, gd⟩) :: prest) D f :=
  y_val hg rfl (fun _ _ => run_sliceLo hx hy hs h0 h1) (.z .slice) k
theorem Sat.set {b Tb : Nat} {cs cs' : List Value} {F : HO → List HO} (S : Sat w0 M h w) (hr : RepF h (.cl b Tb cs) F) : Sat w0 M (F (.cl b Tb cs')) (w.setRow b cs'.toArray) := S.setRow (hr.rep _)
theorem x_appendIn {T Tb b o1 o2 m1 m2 c1 c2 r : Nat} {cs cs' : List Value} {F : HO → List HO} (S : Sat w0 M h w) (hg : want ops f ⟨some d, .call ⟨.builtin .append, #[x, y], #[T, T]⟩, ty, ps, af, gd⟩ = true) (hdn : Nat.blt d n = true) (hs : elemSize P T = some 1)
    (hx : fev f x = .slice (some ⟨b, o1, none⟩) m1 c1) (hy : fev f y = .slice (some ⟨b, o2, none⟩) m2 c2) (hr : RepF h (.cl b Tb cs) F) (h1 : m1 + m2 ≤ c1) (h2 : o2 + m2 ≤ cs.length) (h3 : o1 + m1 + m2 ≤ cs.length) (ho : ones cs = true)
    (hn : NL (spl cs (o1 + m1) ((cs.drop o2).take m2)) cs') (hz : IsN (m1 + m2) r)
    (k : ∀ w', Sat w0 M (F (.cl b Tb cs')) w' → WL P ro n ops Q rest D (upd f d (.slice (some ⟨b, o1, none⟩) r c1)) w') : WL P ro n ops Q (⟨some d, .call ⟨.builtin .append, #[x, y], #[T, T]⟩, ty, ps, af, gd⟩ :: rest) D f w := by
  have hm := (hr.rep (.cl b Tb cs)).mem
  have hrun := run_appendIn (P := P) (f := f) (d := d) (ty := ty) (ps := ps) (af := af) (gd := gd) hs hx hy (S.ok _ hm).1 h1 h2 h3 ho
  rw [hn.eq, hz.eq] at hrun
  exact wl_run hg hdn hrun (k _ (S.set hr))
theorem z2_appendIn {T Tb b o1 o2 m1 m2 c1 c2 r : Nat} {cs cs' : List Value} {F : HO → List HO} (hg : want ops f ⟨some d, .call ⟨.builtin .append, #[x, y], #[T, T]⟩, ty, ps, af, gd⟩ = true) (hs : elemSize P T = some 1)
    (hx : fev f x = .slice (some ⟨b, o1, none⟩) m1 c1) (hy : fev f y = .slice (some ⟨b, o2, none⟩) m2 c2) (hr : RepF h (.cl b Tb cs) F) (h1 : m1 + m2 ≤ c1) (h2 : o2 + m2 ≤ cs.length) (h3 : o1 + m1 + m2 ≤ cs.length) (ho : ones cs = true)
    (hn : NL (spl cs (o1 + m1) ((cs.drop o2).take m2)) cs') (hz : IsN (m1 + m2) r)
    (k : PV P ro ops Q w0 M (F (.cl b Tb cs')) prest D (upd f d (.slice (some ⟨b, o1, none⟩) r c1))) : PV P ro ops Q w0 M h ((2, ⟨some d, .call ⟨.builtin .append, #[x, y], #[T, T]⟩, ty, ps, af, gd⟩) :: prest) D f :=
  PV.step2 fun w S => by
    have hm := (hr.rep (.cl b Tb cs)).mem
    have hrun := run_appendIn (P := P) (f := f) (d := d) (ty := ty) (ps := ps) (af := af) (gd := gd) hs hx hy (S.ok _ hm).1 h1 h2 h3 ho
    rw [hn.eq, hz.eq] at hrun
    refine beh_run hg hrun ⟨_, S.set hr, ?_, k⟩
    refine ⟨rfl, rfl, rfl, by simp, fun k _ hn => setRow_other w b k _ (fun e => hn _ hm (by rw [e]; rfl)), fun o ho' k hok => ?_⟩
    rcases (hr.rep (.cl b Tb cs')).mem' o ho' with rfl | hm'
    · exact .inl ⟨_, hm, hok⟩
    · exact .inl ⟨o, hm', hok⟩
theorem run_sliceLH {T : TypeId} {A : Option Addr} {m c size : Nat} {kd kd' : IntKind} {e u : Int} (hx : fev f x = .slice A m c) (hy : fev f y = .int kd e) (hz : fev f z = .int kd' u) (hs : elemSize P T = some size) (h0 : 0 ≤ e) (h1 : e ≤ u) (h2 : u ≤ c) :
    (execOp (fev f) ⟨some d, .slice T x (some y) (some z) none, ty, ps, af, gd⟩).run P w = .ok (.value (.slice (sub A e.toNat size c) (u.toNat - e.toNat) (c - e.toNat))) w := by
  obtain ⟨el, i, hu, hi, hsz⟩ := elem_parts hs
  subst hsz
  simp [execOp, Instr.sliceAt, Instr.slice, Instr.sliceBounds, Instr.sliceBound, run_underlying hu, hx, hy, hz, Sem.run_bind, Sem.run_pure, Result.andThen, asIntOf, h0, h2, show 0 ≤ u by omega, show e ≤ max u 0 by omega, sizeOf, typeInfo, hi, go_sem, sub]
theorem x_sliceLH {T : TypeId} {A : Option Addr} {m c size sz : Nat} {kd kd' : IntKind} {e u : Int} (hg : want ops f ⟨some d, .slice T x (some y) (some z) none, ty, ps, af, gd⟩ = true) (hdn : Nat.blt d n = true) (hx : fev f x = .slice A m c) (hy : fev f y = .int kd e) (hz : fev f z = .int kd' u) (hs : elemSize P T = some size) (hq : IsN size sz) (h0 : 0 ≤ e) (h1 : e ≤ u) (h2 : u ≤ c)
    (k : WL P ro n ops Q rest D (upd f d (.slice (sub A e.toNat sz c) (u.toNat - e.toNat) (c - e.toNat))) w) : WL P ro n ops Q (⟨some d, .slice T x (some y) (some z) none, ty, ps, af, gd⟩ :: rest) D f w := by
  have hq := hq.eq
  subst hq
  exact wl_val hg rfl hdn (run_sliceLH hx hy hz hs h0 h1 h2) (.z .slice) k
/-- clear of a part of a block of integers -/
theorem x_clearIn {T Tb b o m c : Nat} {v : Value} {cs cs' : List Value} {F : HO → List HO} (S : Sat w0 M h w) (hg : want ops f ⟨none, .call ⟨.builtin .clear, #[x], #[T]⟩, ty, ps, af, gd⟩ = true)
    (hx : fev f x = .slice (some ⟨b, o, none⟩) m c) (hr : RepF h (.cl b Tb cs) F) (hz : ((P.underlying T).bind fun u => match u with | .slice e => (P.info? e).bind (·.zero) | _ => none) = some v) (hv : cl1 v = [v]) (h1 : one v = true) (h2 : o + m ≤ cs.length) (h3 : 0 < m)
    (hn : NL (spl cs o (List.replicate m v)) cs') (k : ∀ w', Sat w0 M (F (.cl b Tb cs')) w' → WL P ro n ops Q rest D f w') : WL P ro n ops Q (⟨none, .call ⟨.builtin .clear, #[x], #[T]⟩, ty, ps, af, gd⟩ :: rest) D f w := by
  have hm := (hr.rep (.cl b Tb cs)).mem
  have hb := (S.ok _ hm).1
  obtain ⟨u, hu, hz⟩ := Option.bind_eq_some_iff.1 hz
  split at hz <;> try (cases hz; done)
  rename_i e
  obtain ⟨i, hi, hz⟩ := Option.bind_eq_some_iff.1 hz
  have hst := run_storeCells_at P b o Tb (List.replicate m v) 0 cs.toArray w hb (by simp; omega) (fun u hu => by rw [List.eq_of_mem_replicate hu, ← one_eq]; exact h1)
  have hcells : v.cells = #[v] := by rw [← cl1_eq, hv]
  have hzc : (Builtin.zeroCells v.cells m).toList = List.replicate m v := by
    rw [hcells]
    unfold Builtin.zeroCells
    apply List.ext_getElem?
    intro j
    by_cases hj : j < m
    · simp [hj, Nat.mod_one]
    · simp [hj]
  have hrun : (execOp (fev f) ⟨none, .call ⟨.builtin .clear, #[x], #[T]⟩, ty, ps, af, gd⟩).run P w = .ok (.value (.tuple #[])) (w.setRow b (spl cs o (List.replicate m v)).toArray) := by
    rw [spl_eq cs o _ (by simp; omega)]
    simp at hst
    obtain ⟨m', rfl⟩ : ∃ m', m = m' + 1 := ⟨m - 1, by omega⟩
    simp [execOp, resolve, invoke, builtin, hx, Builtin.clear_, run_underlying hu, Sem.run_bind, Sem.run_pure, Result.andThen, zeroValue, typeInfo, hi, hz, go_sem, hzc]
    have hzc' := hzc
    simp only [Value.cells] at hzc'
    rw [hzc', hst]
  rw [hn.eq] at hrun
  exact wl_run hg rfl hrun (k _ (S.set hr))
/-- append(x, one element) where the order is drawn -/
theorem append1_run {T e : TypeId} {size bytes k c b : Nat} {A : Option Addr} {xs : List (List Value)} {cs : List Value} {F : HO → List HO} (S : Sat w0 M h w) (hk : apk P T = some (e, size, bytes)) (hx : fev f x = .slice A k c) (hy : fev f y = .slice (some ⟨b, 0, none⟩) 1 1)
    (hr : RepF h (.rw 0 (.slice A k c) e size xs) F) (hh : Has h (.cl b e cs)) (hl : Nat.beq cs.length size = true) (ho : ones cs = true) (hby : Nat.ble bytes 100000 = true) (hsm : xs.length < 1000000000) :
    ∃ g cap w', (execOp (fev f) ⟨some d, .call ⟨.builtin .append, #[x, y], #[T, T]⟩, ty, ps, af, gd⟩).run P w = .ok (.value (.slice (some ⟨g, 0, none⟩) (xs.length + 1) cap)) w' ∧
      Sat w0 M (F (.rw 0 (.slice (some ⟨g, 0, none⟩) (xs.length + 1) cap) e size (xs ++ [cs]))) w' ∧ St h (F (.rw 0 (.slice (some ⟨g, 0, none⟩) (xs.length + 1) cap) e size (xs ++ [cs]))) w w' := by
  have hm := (hr.rep (.rw 0 (.slice A k c) e size xs)).mem
  obtain ⟨h1, h2, h3⟩ := S.ok _ hm
  have hcl := S.cl hh
  have hby' := Nat.le_of_ble_eq_true hby
  have hl' := Nat.eq_of_beq_eq_true hl
  have hbound : (xs.length + 1) * bytes ≤ 140737488355328 := Nat.le_trans (Nat.mul_le_mul (show xs.length + 1 ≤ 1000000000 by omega) hby') (by decide)
  obtain ⟨v', w', hrun, hown, hgr, hob⟩ := run_append (P := P) (f := f) (d := d) (ty := ty) (ps := ps) (af := af) (gd := gd) (m := 1) (c := 1) (ad := ⟨b, 0, none⟩) (news := cs) hk hx hy h3 (by omega)
    (fun j u hu => by rw [add_at, cell_of_row w b _ _ _ _ hcl]; simpa using hu) (ones_mem ho) (by unfold maxLen; omega) hbound (Nat.zero_le _)
  obtain ⟨g, cap, rfl⟩ := ownsRow_succ hown
  have hmine : ∀ b', (Value.slice (some ⟨g, 0, none⟩) (xs.length + 1) cap).ownBlock = some b' → (Value.slice A k c).ownBlock = some b' ∨ b' = w.heap.size := by
    intro b' hb2
    rcases hob with e1 | e1
    · left; exact e1.symm.trans hb2
    · right
      have := e1.symm.trans hb2
      injection this with e2
      exact e2.symm
  refine ⟨g, cap, w', hrun, S.rep (hr.rep _) hgr ⟨fun b' hb' => ?_, ?_, ?_⟩ ?_, hgr.os, hgr.tape, hgr.output, hgr.size, fun q hq hn => hgr.block q hq (fun e => hn _ hm e.symm), fun o ho' q hoq => ?_⟩
  · rcases hmine b' hb' with e1 | e1
    · exact h1 b' e1
    · exact .inl (by have := S.le; omega)
  · intro c' hc'
    rcases List.mem_append.1 hc' with hc' | hc'
    · exact h2 c' hc'
    · rcases List.mem_cons.1 hc' with rfl | hc'
      · exact hl'
      · cases hc'
  · simpa using hown
  · intro b' hb'
    exact (hmine b' hb').imp id (fun e => by omega)
  · rcases (hr.rep (.rw 0 (.slice (some ⟨g, 0, none⟩) (xs.length + 1) cap) e size (xs ++ [cs]))).mem' o ho' with rfl | hm'
    · rcases hmine q hoq with e1 | e1
      · exact .inl ⟨_, hm, e1⟩
      · exact .inr (by omega)
    · exact .inl ⟨o, hm', hoq⟩
theorem z2_append1 {T e : TypeId} {size bytes k c b : Nat} {A : Option Addr} {xs : List (List Value)} {cs : List Value} {F : HO → List HO}
    (hg : want ops f ⟨some d, .call ⟨.builtin .append, #[x, y], #[T, T]⟩, ty, ps, af, gd⟩ = true) (hk : apk P T = some (e, size, bytes)) (hx : fev f x = .slice A k c) (hy : fev f y = .slice (some ⟨b, 0, none⟩) 1 1)
    (hr : RepF h (.rw 0 (.slice A k c) e size xs) F) (hh : Has h (.cl b e cs)) (hl : Nat.beq cs.length size = true) (ho : ones cs = true) (hby : Nat.ble bytes 100000 = true) (hsm : xs.length < 1000000000)
    (kk : ∀ g cap, PV P ro ops Q w0 M (F (.rw 0 (.slice (some ⟨g, 0, none⟩) (xs.length + 1) cap) e size (xs ++ [cs]))) prest D (upd f d (.slice (some ⟨g, 0, none⟩) (xs.length + 1) cap))) :
    PV P ro ops Q w0 M h ((2, ⟨some d, .call ⟨.builtin .append, #[x, y], #[T, T]⟩, ty, ps, af, gd⟩) :: prest) D f :=
  PV.step2 fun w S => by
    obtain ⟨g, cap, w', hrun, S', st⟩ := append1_run (P := P) (f := f) (d := d) (ty := ty) (ps := ps) (af := af) (gd := gd) S hk hx hy hr hh hl ho hby hsm
    exact beh_run hg hrun ⟨_, S', st, kk g cap⟩
theorem y_indexK {T e size j : Nat} {z : Int} {A : Option Addr} {m c : Nat} {kd : IntKind} (hg : want ops f ⟨some d, .indexAddr T x y, ty, ps, af, gd⟩ = true)
    (hx : fev f x = .slice A m c) (hy : fev f y = .int kd z) (hs : elemSize P T = some e) (hz : IsN e size) (hj : IsN z.toNat j) (h0 : 0 ≤ z) (hi : j < m) (hA : A.isSome = true)
    (k : PV P ro ops Q w0 M h prest D (upd f d (.pointer (some (ea A size j 0))))) : PV P ro ops Q w0 M h ((0, ⟨some d, .indexAddr T x y, ty, ps, af, gd⟩) :: prest) D f := by
  have e : z = (j : Int) := by rw [← hj.eq]; omega
  exact y_index hg hx (hy.trans (by rw [e])) hs hz hi hA k
theorem run_add {a b : Int} (hx : fev f x = .int .i64 a) (hy : fev f y = .int .i64 b) : (execOp (fev f) ⟨some d, .binOp .add xt x y yt, ty, ps, af, gd⟩).run P w = .ok (.value (.int .i64 (IntKind.i64.wrap (a + b)))) w := by
  unfold execOp
  simp [hx, hy, eqGuard, binOp, go_sem]
theorem x_addK {a b m : Int} (hg : want ops f ⟨some d, .binOp .add xt x y yt, ty, ps, af, gd⟩ = true) (hdn : Nat.blt d n = true) (hx : fev f x = .int .i64 a) (hy : fev f y = .int .i64 b) (hm : IsI (IntKind.i64.wrap (a + b)) m)
    (k : WL P ro n ops Q rest D (upd f d (.int .i64 m)) w) : WL P ro n ops Q (⟨some d, .binOp .add xt x y yt, ty, ps, af, gd⟩ :: rest) D f w :=
  x_bin hg hdn (run_add hx hy) (by rw [hm.eq]; exact .z .int) k
theorem x_callrowN {g : FuncId} {cap as : List Value} {ts : Array TypeId} {V : Value → Value} {E size m : Nat} {xs : List (List Value)} (S : Sat w0 M h w) (hg : want ops f ⟨some d, .call ⟨.value x, al.toArray, ts⟩, ty, ps, af, gd⟩ = true) (hdn : Nat.blt d n = true)
    (hx : fev f x = .func (.func g) #[] cap.toArray) (hE : Ent P g) (ha : NA (evs f al ++ cap) as) (hc : Calls P g as.toArray w (RetP (RowR V E size xs w))) (hm : IsN xs.length m)
    (k : ∀ A c w', Sat w0 M (.rw 0 (.slice A m c) E size xs :: h) w' → WL P ro n ops Q rest D (upd f d (V (.slice A m c))) w') : WL P ro n ops Q (⟨some d, .call ⟨.value x, al.toArray, ts⟩, ty, ps, af, gd⟩ :: rest) D f w := by
  have hm := hm.eq
  subst hm
  exact x_callrow S hg hdn hx hE ha hc k
theorem x_callrowE {g : FuncId} {cap as : List Value} {ts : Array TypeId} {V : Value → Value} {E size m : Nat} {xs : List (List Value)} (S : Sat w0 M h w) (hg : want ops f ⟨some d, .call ⟨.value x, al.toArray, ts⟩, ty, ps, af, gd⟩ = true) (hdn : Nat.blt d n = true)
    (hx : fev f x = .func (.func g) #[] cap.toArray) (hE : Ent P g) (ha : NA (evs f al ++ cap) as) (hc : Calls P g as.toArray w (RetP (RowR V E size xs w))) (hm : xs.length = m)
    (k : ∀ A c w', Sat w0 M (.rw 0 (.slice A m c) E size xs :: h) w' → WL P ro n ops Q rest D (upd f d (V (.slice A m c))) w') : WL P ro n ops Q (⟨some d, .call ⟨.value x, al.toArray, ts⟩, ty, ps, af, gd⟩ :: rest) D f w := by
  subst hm
  exact x_callrow S hg hdn hx hE ha hc k
theorem Sat.rdmapN {α : Type} {en : α → List Value} (z : α) {base E size c m : Nat} {A : Option Addr} {l : List α} (S : Sat w0 M h w) (hh : Has h (.rw base (.slice A m c) E size (l.map en))) (hn : m = l.length) : Rd w A size l.length (fun i => en (l.getD i z)) := by
  subst hn
  exact (S.rd hh).congr (fun i hi => by simp [List.getD_eq_getElem?_getD, hi])
theorem y_loadRowM {α : Type} {en : α → List Value} (z : α) {T base m c j off : Nat} {A : Option Addr} {E size : Nat} {l : List α} {kk : Option Nat} {v0 v : Value} (hg : want ops f ⟨some d, .load T x, ty, ps, af, gd⟩ = true)
    (hx : fev f x = .pointer (some (ea A size j off))) (hh : Has h (.rw base (.slice A m c) E size (l.map en))) (hn : m = l.length) (hj : j < l.length) (hk : ldk P T = some kk) (hv : ldv kk (en (l.getD j z)) off = some v0) (hi : Is v0 v)
    (k : PV P ro ops Q w0 M h prest D (upd f d v)) : PV P ro ops Q w0 M h ((0, ⟨some d, .load T x, ty, ps, af, gd⟩) :: prest) D f :=
  y_val hg rfl (fun w S => r_load_at rfl hx ((S.rdmapN z hh hn).cells hj) hk hv) hi k
/-- a loop that leaves what is known of the memory as it is -/
theorem cw_loopS {c : Code} (Ss ks : List Nat) (S : Sat w0 M h w) (I : List Value → Prop) (μ : List Value → Nat) (h0 : I (ks.map f))
    (round : ∀ g vs w', I vs → Sat w0 M h w' → CW P ro n c (thenQ (fun D' f' w2 => D' = D ∧ Agree Ss f' f ∧ I (ks.map f') ∧ Sat w0 M h w2 ∧ μ (ks.map f') < μ vs) Q) D (updl (mask Ss g f) ks vs) w') : CW P ro n (.loop c) Q D f w :=
  cw_loop Ss ks (fun vs w => I vs ∧ Sat w0 M h w) (fun vs _ => μ vs) ⟨h0, S⟩ (fun g vs w' hi => by
    refine cw_mono (round g vs w' hi.1 hi.2) ?_
    rintro e D' f' w2 hq
    cases e with
    | normal => obtain ⟨h1, h2, h3, h4, h5⟩ := hq; exact ⟨h1, h2, ⟨h3, h4⟩, h5⟩
    | ret => exact hq
    | exit id => exact hq
    | goto l => exact hq
    | panic c => exact hq
    | outgrown => exact hq)
theorem RepF.again {o : HO} {F : HO → List HO} (r : RepF h o F) (o' : HO) : RepF (F o') o' F := by
  induction r with
  | head => exact .head
  | tail _ ih => exact .tail ih
theorem flat_single : ∀ cs : List Value, (cs.map fun v => [v]).flatten = cs
  | [] => rfl
  | v :: l => by simp [flat_single l]
/-- a full block of cells as a row of the call's own -/
theorem Sat.asRow {b E : Nat} {cs : List Value} {F : HO → List HO} (S : Sat w0 M h w) (hr : RepF h (.cl b E cs) F) (hl : cs.length ≤ 1000000) : Sat w0 M (F (.rw 0 (.slice (some ⟨b, 0, none⟩) cs.length cs.length) E 1 (cs.map fun v => [v]))) w := by
  obtain ⟨h1, h2⟩ := S.ok _ (hr.rep (.cl b E cs)).mem
  refine S.rep (hr.rep _) ⟨rfl, rfl, rfl, Nat.le_refl _, fun _ _ _ => rfl⟩ ⟨fun b' hb' => ?_, ?_, ?_⟩ (fun b' hb' => .inl (by injection hb' with e; rw [← e]; rfl))
  · injection hb' with e; rw [← e]; exact h2
  · intro c hc
    obtain ⟨v, _, rfl⟩ := List.mem_map.1 hc
    rfl
  · have hf := flat_single cs
    rw [hf, List.length_map]
    exact ⟨by omega, .inr ⟨b, cs.length, cs.toArray, rfl, Nat.zero_le _, h1, Nat.le_refl _, by unfold maxLen; omega, by simp, by simp⟩⟩
theorem x_append1C {T e : TypeId} {bytes b b1 k c r : Nat} {cs c1 : List Value} {F : HO → List HO} (S : Sat w0 M h w)
    (hg : want ops f ⟨some d, .call ⟨.builtin .append, #[x, y], #[T, T]⟩, ty, ps, af, gd⟩ = true) (hdn : Nat.blt d n = true) (hk : apk P T = some (e, 1, bytes)) (hx : fev f x = .slice (some ⟨b1, 0, none⟩) k c) (hy : fev f y = .slice (some ⟨b, 0, none⟩) 1 1)
    (hr : RepF h (.cl b1 e cs) F) (hkc : cs.length = k ∧ cs.length = c) (hh : ∀ o, Has (F o) (.cl b e c1)) (hl : Nat.beq c1.length 1 = true) (ho : ones c1 = true) (hby : Nat.ble bytes 100000 = true) (hsm : cs.length < 1000000) (hz : IsN (cs.length + 1) r)
    (kk : ∀ g cap w', Sat w0 M (F (.rw 0 (.slice (some ⟨g, 0, none⟩) r cap) e 1 ((cs.map fun v => [v]) ++ [c1]))) w' → WL P ro n ops Q rest D (upd f d (.slice (some ⟨g, 0, none⟩) r cap)) w') :
    WL P ro n ops Q (⟨some d, .call ⟨.builtin .append, #[x, y], #[T, T]⟩, ty, ps, af, gd⟩ :: rest) D f w := by
  obtain ⟨e1, e2⟩ := hkc
  subst e1
  subst e2
  have hz := hz.eq
  subst hz
  have S1 := S.asRow hr (by omega)
  have := x_append1 (xs := cs.map fun v => [v]) S1 hg hdn hk hx hy (hr.again _) (hh _) hl ho hby (by rw [List.length_map]; omega) (ro := ro) (n := n) (Q := Q) (rest := rest) (D := D) (by
    rw [List.length_map]
    exact kk)
  exact this
end
end Go.Proofs.Ytfkcihcbmlcajaa
/- Slices that grow out of one block into a new one; copies between blocks; arrays out of slices. No statement of the seat is proved here. -/
namespace Go.Proofs.Ytfkcihcbmlcajaa
set_option linter.unusedVariables false
set_option linter.unusedSimpArgs false
open Go Go.RowKit
section
variable {P : Program} {ro : Option Nat} {n : Nat} {Q : Post} {D : List Deferred} {f : Fm} {w w0 w' : World} {M : List Nat} {h : List HO}
variable {ops : Array Oper} {rest : List Oper} {prest : List (Nat × Oper)} {d ty xt yt : Nat} {ps : String} {af : Array Edge} {gd : Option (Nat × Bool)} {x y z : Operand} {al : List Operand}
/-- a type whose elements are one cell: its zero cell -/
def one0 (P : Program) (T : TypeId) : Option (TypeId × Value) :=
  match P.underlying T with
  | some (.slice e) =>
    match P.info? e with
    | some i =>
      match i.zero with
      | some zv => bif Nat.beq i.size 1 && Nat.ble i.bytes 1000 && one zv then some (e, zv) else none
      | none => none
    | none => none
  | _ => none
theorem one0_parts {T e : TypeId} {zv : Value} (hk : one0 P T = some (e, zv)) : P.underlying T = some (.slice e) ∧ ∃ i, P.info? e = some i ∧ i.zero = some zv ∧ i.size = 1 ∧ i.bytes ≤ 1000 ∧ one zv = true := by
  unfold one0 at hk
  split at hk <;> try (cases hk; done)
  rename_i e' hu
  split at hk <;> try (cases hk; done)
  rename_i i hi
  split at hk <;> try (cases hk; done)
  rename_i z hz
  cases hb : Nat.beq i.size 1 && Nat.ble i.bytes 1000 && one z with
  | false => rw [hb] at hk; simp at hk
  | true =>
    rw [hb] at hk
    simp only [cond_true, Option.some.injEq, Prod.mk.injEq] at hk
    obtain ⟨rfl, rfl⟩ := hk
    simp only [Bool.and_eq_true] at hb
    exact ⟨hu, i, hi, hz, Nat.eq_of_beq_eq_true hb.1.1, Nat.le_of_ble_eq_true hb.1.2, hb.2⟩
theorem one_cells {v : Value} (h : one v = true) : v.cells = #[v] := by cases v <;> first | rfl | (simp [one] at h)
theorem cl_reads {b : Nat} {T : TypeId} {cs : List Value} (hb : w.heap[b]? = some (.cells cs.toArray T (0, 0))) (o k : Nat) : ∀ j u, ((cs.drop o).take k)[j]? = some u → w.cell? ((⟨b, o, none⟩ : Addr).add j) = some u := by
  intro j u hj
  rw [add_at, cell_of_row w b _ _ _ _ hb]
  have hlt : j < k := by have := (List.getElem?_eq_some_iff.1 hj).1; simp at this; omega
  rw [List.getElem?_take_of_lt hlt, List.getElem?_drop] at hj
  simpa using hj
theorem nextcap_small {need c : Nat} (h1 : need ≤ 100) (h2 : c ≤ 100) : Builtin.nextslicecap need c ≤ 200 := by
  unfold Builtin.nextslicecap
  split
  · omega
  · split
    · omega
    · omega
theorem run_appendZ {T Tn e : TypeId} {zv : Value} {b k c m : Nat} {Tb : TypeId} {cs : List Value} {kn kd : IntKind} (hk : one0 P T = some (e, zv)) (hn : P.underlying Tn = some (.int kn))
    (hx : fev f x = .slice (some ⟨b, 0, none⟩) k c) (hy : fev f y = .int kd (m : Int)) (hb : w.heap[b]? = some (.cells cs.toArray Tb (0, 0))) (hkc : k ≤ cs.length) (h0 : 0 < m) (hgt : c < k + m) (hsm : k + m ≤ 100) (hc : c ≤ 100) :
    (execOp (fev f) ⟨some d, .call ⟨.builtin .append, #[x, y], #[T, Tn]⟩, ty, ps, af, gd⟩).run P w =
      .ok (.value (.slice (some ⟨w.heap.size, 0, none⟩) (k + m) (grownCap w (k + m) c e))) (w.drew.alloc (.cells ((cs.take k ++ List.replicate m zv) ++ (Builtin.zeroCells #[zv] (grownCap w (k + m) c e - (k + m))).toList).toArray e)) := by
  obtain ⟨hu, i, hi, hz, h1, hby, ho⟩ := one0_parts hk
  have hzc := one_cells ho
  have hw : IntKind.i64.wrap (m : Int) = m := by rw [IntKind.wrap_i64]; omega
  have hneg : ¬ ((m : Int) < 0) := by omega
  have hm0 : m ≠ 0 := by omega
  have hncap := nextcap_small hsm hc
  have h48 : ¬ (281474976710656 < Builtin.nextslicecap (k + m) c * i.bytes) := by
    have := Nat.mul_le_mul hncap hby
    omega
  have h48i : ¬ (281474976710656 < (m : Int) * (i.bytes : Int)) := by
    rw [← Int.natCast_mul]
    have := Nat.mul_le_mul (show m ≤ 100 by omega) hby
    omega
  have h63 : ¬ (9223372036854775807 < (k : Int) + (m : Int)) := by omega
  have hnle : ¬ (k + m ≤ c) := by omega
  have hf := run_firstCells_some (P := P) w.drew 1 k ⟨b, 0, none⟩ k c (cs.take k) (by simp; omega) (fun j u hj => by
    have := cl_reads (w := w) hb 0 k j u (by simpa using hj)
    exact this)
  have hzm : Builtin.zeroCells #[zv] m = (List.replicate m zv).toArray := by
    apply Array.ext'
    unfold Builtin.zeroCells
    apply List.ext_getElem?
    intro j
    by_cases hj : j < m
    · simp [hj, Nat.mod_one]
    · simp [hj]
  simp [Builtin.firstCells, go_sem] at hf
  simp [execOp, resolve, invoke, builtin, hx, hy, Builtin.append_, run_underlying hu, run_underlying hn, sizeOf, typeInfo, zeroValue, hi, hz, h1, hzc, asInt, asIntOf, hw, hneg, hm0, h63, h48, h48i, hnle, Question.forced, newRow, grownCap, Sem.run_bind, Sem.run_pure, Result.andThen, go_sem]
  simp only [Value.cells] at hzc
  rw [hf]
  simp [hzc, hzm]
  refine congrArg World.drew (congrArg (fun a => w.alloc (Obj.cells a e)) ?_)
  apply Array.ext'
  simp
theorem Sat.newCl {w1 : World} {e : TypeId} {cs : List Value} (S : Sat w0 M h w) (he : w1 = w.drew.alloc (.cells cs.toArray e)) : Sat w0 M (.cl w.heap.size e cs :: h) w1 := by
  subst he
  exact S.drew.alloc e cs
theorem x_appendZ {T Tn e : TypeId} {zv : Value} {b k c m r : Nat} {Tb : TypeId} {cs vs : List Value} {kn kd : IntKind} (S : Sat w0 M h w) (hg : want ops f ⟨some d, .call ⟨.builtin .append, #[x, y], #[T, Tn]⟩, ty, ps, af, gd⟩ = true) (hdn : Nat.blt d n = true) (hk : one0 P T = some (e, zv)) (hn : P.underlying Tn = some (.int kn))
    (hx : fev f x = .slice (some ⟨b, 0, none⟩) k c) {z : Int} (hy : fev f y = .int kd z) (hz : IsN z.toNat m) (hz0 : 0 ≤ z) (hh : Has h (.cl b Tb cs)) (hkc : k ≤ cs.length) (h0 : 0 < m) (hgt : c < k + m) (hsm : k + m ≤ 100) (hc : c ≤ 100) (hv : NL (cs.take k ++ List.replicate m zv) vs) (hr : IsN (k + m) r)
    (kk : ∀ g cap tail w', r ≤ cap → Sat w0 M (.cl g e (vs ++ tail) :: h) w' → WL P ro n ops Q rest D (upd f d (.slice (some ⟨g, 0, none⟩) r cap)) w') : WL P ro n ops Q (⟨some d, .call ⟨.builtin .append, #[x, y], #[T, Tn]⟩, ty, ps, af, gd⟩ :: rest) D f w := by
  have hze : z = (m : Int) := by rw [← hz.eq]; omega
  have hrun := run_appendZ (P := P) (f := f) (d := d) (ty := ty) (ps := ps) (af := af) (gd := gd) hk hn hx (hy.trans (by rw [hze])) (S.cl hh) hkc h0 hgt hsm hc
  have hr := hr.eq
  rw [hv.eq, hr] at hrun
  refine wl_run hg hdn hrun (kk _ _ _ _ (by rw [← hr]; exact grownCap_ge w (k + m) c e) (S.newCl rfl))
theorem run_appendG {T e : TypeId} {zv : Value} {b k c b2 m c2 : Nat} {Tb Tb2 : TypeId} {cs cs2 : List Value} (hk : one0 P T = some (e, zv))
    (hx : fev f x = .slice (some ⟨b, 0, none⟩) k c) (hy : fev f y = .slice (some ⟨b2, 0, none⟩) m c2) (hb : w.heap[b]? = some (.cells cs.toArray Tb (0, 0))) (hb2 : w.heap[b2]? = some (.cells cs2.toArray Tb2 (0, 0))) (hkc : k ≤ cs.length) (hmc : m ≤ cs2.length) (hgt : c < k + m) (hsm : k + m ≤ 100) (hc : c ≤ 100) :
    (execOp (fev f) ⟨some d, .call ⟨.builtin .append, #[x, y], #[T, T]⟩, ty, ps, af, gd⟩).run P w =
      .ok (.value (.slice (some ⟨w.heap.size, 0, none⟩) (k + m) (grownCap w (k + m) c e))) (w.drew.alloc (.cells ((cs.take k ++ cs2.take m) ++ (Builtin.zeroCells #[zv] (grownCap w (k + m) c e - (k + m))).toList).toArray e)) := by
  obtain ⟨hu, i, hi, hz, h1, hby, ho⟩ := one0_parts hk
  have hzc := one_cells ho
  have hncap := nextcap_small hsm hc
  have := run_append_grow (P := P) (w := w) T ty e i zv hu hi hz ⟨b, 0, none⟩ k c (cs.take k) (by rw [h1]; simp; omega) (fun j u hj => cl_reads (w := w) hb 0 k j u (by simpa using hj))
    ⟨b2, 0, none⟩ m c2 (cs2.take m) (by rw [h1]; simp; omega) (fun j u hj => cl_reads (w := w) hb2 0 m j u (by simpa using hj)) hgt (by omega) (by have := Nat.mul_le_mul hncap hby; omega)
  rw [hzc] at this
  simp [execOp, resolve, invoke, builtin, hx, hy, this, Sem.run_bind, Sem.run_pure, Result.andThen]
  refine congrArg (fun a => w.drew.alloc (Obj.cells a e)) ?_
  apply Array.ext'
  simp
theorem x_appendG {T e : TypeId} {zv : Value} {b k c b2 m c2 r : Nat} {Tb Tb2 : TypeId} {cs cs2 vs : List Value} (S : Sat w0 M h w) (hg : want ops f ⟨some d, .call ⟨.builtin .append, #[x, y], #[T, T]⟩, ty, ps, af, gd⟩ = true) (hdn : Nat.blt d n = true) (hk : one0 P T = some (e, zv))
    (hx : fev f x = .slice (some ⟨b, 0, none⟩) k c) (hy : fev f y = .slice (some ⟨b2, 0, none⟩) m c2) (hh : Has h (.cl b Tb cs)) (hh2 : Has h (.cl b2 Tb2 cs2)) (hkc : k ≤ cs.length) (hmc : m ≤ cs2.length) (hgt : c < k + m) (hsm : k + m ≤ 100) (hc : c ≤ 100) (hv : NL (cs.take k ++ cs2.take m) vs) (hr : IsN (k + m) r)
    (kk : ∀ g cap tail w', r ≤ cap → Sat w0 M (.cl g e (vs ++ tail) :: h) w' → WL P ro n ops Q rest D (upd f d (.slice (some ⟨g, 0, none⟩) r cap)) w') : WL P ro n ops Q (⟨some d, .call ⟨.builtin .append, #[x, y], #[T, T]⟩, ty, ps, af, gd⟩ :: rest) D f w := by
  have hrun := run_appendG (P := P) (f := f) (d := d) (ty := ty) (ps := ps) (af := af) (gd := gd) hk hx hy (S.cl hh) (S.cl hh2) hkc hmc hgt hsm hc
  have hr := hr.eq
  rw [hv.eq, hr] at hrun
  exact wl_run hg hdn hrun (kk _ _ _ _ (by rw [← hr]; exact grownCap_ge w (k + m) c e) (S.newCl rfl))
theorem run_copyIn {T Tg Tb g o1 o2 b dl dc sl sc k : Nat} {cs cs2 : List Value} (hs : elemSize P T = some 1) (hx : fev f x = .slice (some ⟨g, o1, none⟩) dl dc) (hy : fev f y = .slice (some ⟨b, o2, none⟩) sl sc)
    (hg : w.heap[g]? = some (.cells cs.toArray Tg (0, 0))) (hb : w.heap[b]? = some (.cells cs2.toArray Tb (0, 0))) (hk : k = Nat.min sl dl) (h2 : o2 + k ≤ cs2.length) (h3 : o1 + k ≤ cs.length) (ho : ones ((cs2.drop o2).take k) = true) :
    (execOp (fev f) ⟨some d, .call ⟨.builtin .copy, #[x, y], #[T, T]⟩, ty, ps, af, gd⟩).run P w = .ok (.value (goInt k)) (w.setRow g (spl cs o1 ((cs2.drop o2).take k)).toArray) := by
  obtain ⟨e, i, hu, hi, h0⟩ := elem_parts hs
  have hl : ((cs2.drop o2).take k).length = k := by simp; omega
  have := run_copy_row (P := P) w T T ty e g o1 dl dc ⟨b, o2, none⟩ sl sc cs.toArray Tg ((cs2.drop o2).take k) hu (by rw [hi]; simp [h0]) hg (by rw [hl]; exact hk) (cl_reads hb o2 k) (by rw [hl]; simpa using h3) (ones_mem ho)
  rw [hl] at this
  rw [spl_eq cs o1 _ (by rw [hl]; omega), hl]
  simp only [execOp, resolve, List.map_toArray, List.map_cons, List.map_nil, hx, hy, Sem.run_bind, Sem.run_pure, Result.andThen_ok, invoke, builtin, this]
theorem x_copyIn {T Tg Tb g o1 o2 b dl dc sl sc k : Nat} {cs cs2 cs' : List Value} {F : HO → List HO} (S : Sat w0 M h w) (hg : want ops f ⟨some d, .call ⟨.builtin .copy, #[x, y], #[T, T]⟩, ty, ps, af, gd⟩ = true) (hdn : Nat.blt d n = true) (hs : elemSize P T = some 1) (hx : fev f x = .slice (some ⟨g, o1, none⟩) dl dc) (hy : fev f y = .slice (some ⟨b, o2, none⟩) sl sc)
    (hr : RepF h (.cl g Tg cs) F) (hh : Has h (.cl b Tb cs2)) (hk : IsN (Nat.min sl dl) k) (h2 : o2 + k ≤ cs2.length) (h3 : o1 + k ≤ cs.length) (ho : ones ((cs2.drop o2).take k) = true) (hn : NL (spl cs o1 ((cs2.drop o2).take k)) cs')
    (kk : ∀ w', Sat w0 M (F (.cl g Tg cs')) w' → WL P ro n ops Q rest D (upd f d (goInt k)) w') : WL P ro n ops Q (⟨some d, .call ⟨.builtin .copy, #[x, y], #[T, T]⟩, ty, ps, af, gd⟩ :: rest) D f w := by
  have hrun := run_copyIn (P := P) (f := f) (d := d) (ty := ty) (ps := ps) (af := af) (gd := gd) hs hx hy (S.ok _ (hr.rep (.cl g Tg cs)).mem).1 (S.cl hh) hk.eq.symm h2 h3 ho
  rw [hn.eq] at hrun
  exact wl_run hg hdn hrun (kk _ (S.set hr))
theorem z2_copyIn {T Tg Tb g o1 o2 b dl dc sl sc k : Nat} {cs cs2 cs' : List Value} {F : HO → List HO} (hg : want ops f ⟨some d, .call ⟨.builtin .copy, #[x, y], #[T, T]⟩, ty, ps, af, gd⟩ = true) (hs : elemSize P T = some 1) (hx : fev f x = .slice (some ⟨g, o1, none⟩) dl dc) (hy : fev f y = .slice (some ⟨b, o2, none⟩) sl sc)
    (hr : RepF h (.cl g Tg cs) F) (hh : Has h (.cl b Tb cs2)) (hk : IsN (Nat.min sl dl) k) (h2 : o2 + k ≤ cs2.length) (h3 : o1 + k ≤ cs.length) (ho : ones ((cs2.drop o2).take k) = true) (hn : NL (spl cs o1 ((cs2.drop o2).take k)) cs')
    (kk : PV P ro ops Q w0 M (F (.cl g Tg cs')) prest D (upd f d (goInt k))) : PV P ro ops Q w0 M h ((2, ⟨some d, .call ⟨.builtin .copy, #[x, y], #[T, T]⟩, ty, ps, af, gd⟩) :: prest) D f :=
  PV.step2 fun w S => by
    have hm := (hr.rep (.cl g Tg cs)).mem
    have hrun := run_copyIn (P := P) (f := f) (d := d) (ty := ty) (ps := ps) (af := af) (gd := gd) hs hx hy (S.ok _ hm).1 (S.cl hh) hk.eq.symm h2 h3 ho
    rw [hn.eq] at hrun
    refine beh_run hg hrun ⟨_, S.set hr, ?_, kk⟩
    refine ⟨rfl, rfl, rfl, by simp, fun k _ hn => setRow_other w g k _ (fun e => hn _ hm (by rw [e]; rfl)), fun o ho' k hok => ?_⟩
    rcases (hr.rep (.cl g Tg cs')).mem' o ho' with rfl | hm'
    · exact .inl ⟨_, hm, hok⟩
    · exact .inl ⟨o, hm', hok⟩
theorem sub_lt {g k c : Nat} (h : k < c) : sub (some ⟨g, 0, none⟩) k 1 c = some ⟨g, k, none⟩ := by
  unfold sub
  have h2 : ¬ c = k := by omega
  have h3 : ¬ c - k = 0 := by omega
  simp [h2, add_at]
theorem x_sliceLoR {T : TypeId} {g m c r : Nat} {kd : IntKind} {e : Int} (hg : want ops f ⟨some d, .slice T x (some y) none none, ty, ps, af, gd⟩ = true) (hdn : Nat.blt d n = true) (hx : fev f x = .slice (some ⟨g, 0, none⟩) m c) (hy : fev f y = .int kd e) (hs : elemSize P T = some 1) (hr : IsN e.toNat r) (h0 : 0 ≤ e) (h1 : e ≤ m) (h2 : r < c)
    (k : WL P ro n ops Q rest D (upd f d (.slice (some ⟨g, r, none⟩) (m - r) (c - r))) w) : WL P ro n ops Q (⟨some d, .slice T x (some y) none none, ty, ps, af, gd⟩ :: rest) D f w := by
  have hr := hr.eq
  have hrun := run_sliceLo (P := P) (w := w) (d := d) (ty := ty) (ps := ps) (af := af) (gd := gd) hx hy hs h0 h1
  rw [hr, sub_lt h2] at hrun
  exact wl_val hg rfl hdn hrun (.z .slice) k
theorem y_sliceLoR {T : TypeId} {g m c r : Nat} {kd : IntKind} {e : Int} (hg : want ops f ⟨some d, .slice T x (some y) none none, ty, ps, af, gd⟩ = true) (hx : fev f x = .slice (some ⟨g, 0, none⟩) m c) (hy : fev f y = .int kd e) (hs : elemSize P T = some 1) (hr : IsN e.toNat r) (h0 : 0 ≤ e) (h1 : e ≤ m) (h2 : r < c)
    (k : PV P ro ops Q w0 M h prest D (upd f d (.slice (some ⟨g, r, none⟩) (m - r) (c - r)))) : PV P ro ops Q w0 M h ((0, ⟨some d, .slice T x (some y) none none, ty, ps, af, gd⟩) :: prest) D f := by
  have hr := hr.eq
  refine y_val hg rfl (fun w _ => ?_) (.z .slice) k
  have hrun := run_sliceLo (P := P) (w := w) (d := d) (ty := ty) (ps := ps) (af := af) (gd := gd) hx hy hs h0 h1
  rwa [hr, sub_lt h2] at hrun
theorem x_arrPtr {T m size len cap : Nat} {a : Addr} (hg : want ops f ⟨some d, .sliceToArrayPointer T x, ty, ps, af, gd⟩ = true) (hdn : Nat.blt d n = true) (hx : fev f x = .slice (some a) len cap) (hs : arrSize P T = some (m, size)) (hm : m ≤ len)
    (k : WL P ro n ops Q rest D (upd f d (.pointer (some a))) w) : WL P ro n ops Q (⟨some d, .sliceToArrayPointer T x, ty, ps, af, gd⟩ :: rest) D f w := by
  refine wl_val hg rfl hdn (v0 := .pointer (some a)) ?_ (.z .ptr) k
  unfold arrSize at hs
  split at hs <;> try (cases hs; done)
  rename_i m' e hu
  obtain ⟨i, hi, hsz⟩ := Option.map_eq_some_iff.1 hs
  injection hsz with h1 h2
  subst h1
  simp [execOp, hx, run_arrayAt (P := P) (w := w) T e m' (some a) len cap hu hm, Sem.run_bind, Sem.run_pure, Result.andThen]
/-! ### fields of values -/
def fieldPart (P : Program) (T : TypeId) (cs : List Value) (i : Nat) : Option Value :=
  match P.underlying T with
  | some (.struct fs) =>
    match fs[i]? with
    | some fl =>
      match P.underlying fl.type, P.info? fl.type with
      | some dd, some inf => bif Nat.ble (fl.offset + inf.size) cs.length && (isAggD dd || Nat.blt 0 inf.size) then some (vof P fl.type ((cs.drop fl.offset).take inf.size)) else none
      | _, _ => none
    | none => none
  | _ => none
theorem r_fieldV {o : Oper} {T : TypeId} {cs : List Value} {i : Nat} {v : Value} (hop : o.op = .field T x i) (hx : fev f x = .agg cs.toArray) (hv : fieldPart P T cs i = some v) :
    (execOp (fev f) o).run P w = .ok (.value v) w := by
  unfold fieldPart at hv
  split at hv <;> try (cases hv; done)
  rename_i fs hu
  split at hv <;> try (cases hv; done)
  rename_i fl hfl
  split at hv <;> try (cases hv; done)
  rename_i dd inf hdd hinf
  cases hb : (Nat.ble (fl.offset + inf.size) cs.length && (isAggD dd || Nat.blt 0 inf.size)) with
  | false => rw [hb] at hv; simp at hv
  | true =>
    rw [hb] at hv
    simp only [cond_true, Option.some.injEq] at hv
    simp only [Bool.and_eq_true, Bool.or_eq_true] at hb
    have h2 := Nat.le_of_ble_eq_true hb.1
    have h3 : isAggD dd = true ∨ 0 < inf.size := by
      rcases hb.2 with h | h
      · exact .inl h
      · exact .inr (by simpa [Nat.blt_eq] using h)
    have hp := run_part (w := w) hdd (by rw [hinf]; rfl) h3 h2
    unfold execOp
    rw [hop]
    simp only [hx, Instr.field, asAgg, Sem.run_bind, Sem.run_pure, Result.andThen_ok, run_underlying hu, hfl, hp, hv]
theorem x_field {T : TypeId} {cs : List Value} {i : Nat} {v0 v : Value} (hg : want ops f ⟨some d, .field T x i, ty, ps, af, gd⟩ = true) (hdn : Nat.blt d n = true) (hx : fev f x = .agg cs.toArray) (hv : fieldPart P T cs i = some v0) (hi : Is v0 v)
    (k : WL P ro n ops Q rest D (upd f d v) w) : WL P ro n ops Q (⟨some d, .field T x i, ty, ps, af, gd⟩ :: rest) D f w := wl_val hg rfl hdn (r_fieldV rfl hx hv) hi k
theorem y_field {T : TypeId} {cs : List Value} {i : Nat} {v0 v : Value} (hg : want ops f ⟨some d, .field T x i, ty, ps, af, gd⟩ = true) (hx : fev f x = .agg cs.toArray) (hv : fieldPart P T cs i = some v0) (hi : Is v0 v)
    (k : PV P ro ops Q w0 M h prest D (upd f d v)) : PV P ro ops Q w0 M h ((0, ⟨some d, .field T x i, ty, ps, af, gd⟩) :: prest) D f := y_val hg rfl (fun _ _ => r_fieldV rfl hx hv) hi k
end
end Go.Proofs.Ytfkcihcbmlcajaa
/- Lists in blocks, the first element of a kind. No statement of the seat is proved here. -/
namespace Go.Proofs.Ytfkcihcbmlcajaa
set_option linter.unusedVariables false
set_option linter.unusedSimpArgs false
open Go Go.RowKit
theorem val_of {P : Program} {g : FuncId} {ar : Array Value} {w : World} {V V' : Value} (h : Calls P g ar w (RetP (Val V w))) (e : V = V') : Calls P g ar w (RetP (Val V' w)) := e ▸ h
/-- a call of a function without a body, that the model answers at once -/
theorem x_extern {P : Program} {ro : Option Nat} {n : Nat} {Q : Post} {D : List Deferred} {f : Fm} {w : World} {ops : Array Oper} {rest : List Oper} {d ty : Nat} {ps : String} {af : Array Edge} {gd : Option (Nat × Bool)} {x : Operand} {al : List Operand} {g : FuncId} {as : List Value} {ts : Array TypeId} {v : Value}
    (hg : want ops f ⟨some d, .call ⟨.value x, al.toArray, ts⟩, ty, ps, af, gd⟩ = true) (hdn : Nat.blt d n = true) (hx : fev f x = .func (.func g) #[] #[]) (ha : NA (evs f al) as) (hE : (callFunc g as.toArray).run P w = .ok (.value v) w)
    (k : WL P ro n ops Q rest D (upd f d v) w) : WL P ro n ops Q (⟨some d, .call ⟨.value x, al.toArray, ts⟩, ty, ps, af, gd⟩ :: rest) D f w := by
  refine wl_val hg rfl hdn (v0 := v) ?_ (.z .any) k
  unfold execOp
  simp only [resolve, hx, Deferred.ofValue, evs_eq, Sem.run_bind, Sem.run_pure, Result.andThen_ok, invoke, ha.eq]
  simpa using hE
theorem y_indexAgg {P : Program} {ro : Option Nat} {ops : Array Oper} {Q : Post} {w0 : World} {M : List Nat} {h : List HO} {prest : List (Nat × Oper)} {D : List Deferred} {f : Fm} {d ty : Nat} {ps : String} {af : Array Edge} {gd : Option (Nat × Bool)} {x y : Operand} {T : TypeId} {cs : List Value} {i : Nat} {kd : IntKind} {v0 v : Value} (hg : want ops f ⟨some d, .index T x y, ty, ps, af, gd⟩ = true)
    (hx : fev f x = .agg cs.toArray) (hy : fev f y = .int kd (i : Int)) (hv : arrPart P T cs i = some v0) (hi : Is v0 v)
    (k : PV P ro ops Q w0 M h prest D (upd f d v)) : PV P ro ops Q w0 M h ((0, ⟨some d, .index T x y, ty, ps, af, gd⟩) :: prest) D f :=
  y_val hg rfl (fun _ _ => r_indexAgg rfl hx hy hv) hi k
theorem y_loadS {P : Program} {ro : Option Nat} {ops : Array Oper} {Q : Post} {w0 : World} {M : List Nat} {h : List HO} {prest : List (Nat × Oper)} {D : List Deferred} {f : Fm} {d ty : Nat} {ps : String} {af : Array Edge} {gd : Option (Nat × Bool)} {x : Operand} {T size m j off : Nat} {A : Option Addr} {cell : Nat → List Value} {kk : Option Nat} {v0 v : Value} (hg : want ops f ⟨some d, .load T x, ty, ps, af, gd⟩ = true)
    (hx : fev f x = .pointer (some (ea A size j off))) (hr : ∀ w, Sat w0 M h w → Rd w A size m cell) (hj : j < m) (hk : ldk P T = some kk) (hv : ldv kk (cell j) off = some v0) (hi : Is v0 v)
    (k : PV P ro ops Q w0 M h prest D (upd f d v)) : PV P ro ops Q w0 M h ((0, ⟨some d, .load T x, ty, ps, af, gd⟩) :: prest) D f :=
  y_val hg rfl (fun w S => r_load_at rfl hx ((hr w S).cells hj) hk hv) hi k
theorem getD_lt {α : Type} {l : List α} {i : Nat} (h : i < l.length) (z : α) : l.getD i z = l[i] := by simp [List.getD_eq_getElem?_getD, h]
theorem getD_in {α : Type} {l : List α} {p : α} (h : p ∈ l) (z : α) : ∃ i, i < l.length ∧ l.getD i z = p := by
  obtain ⟨i, hi, e⟩ := List.getElem_of_mem h
  exact ⟨i, hi, by rw [getD_lt hi]; exact e⟩
/-- a block that holds the elements of a list -/
theorem Sat.rdflat {α : Type} {w0 w : World} {M : List Nat} {h : List HO} {b size : Nat} {T : TypeId} {l : List α} {en : α → List Value} (z : α) (hs : ∀ a, (en a).length = size) (S : Sat w0 M h w) (hh : Has h (.cl b T (l.flatMap en))) :
    Rd w (some ⟨b, 0, none⟩) size l.length (fun i => en (l.getD i z)) := by
  refine ⟨fun _ => rfl, fun i j u hi hu => ?_⟩
  have hc := S.cl hh
  show w.cell? ((⟨b, 0, none⟩ : Addr).add (i * size + j)) = some u
  rw [add_at, cell_of_row w b _ _ _ _ hc, Nat.zero_add]
  have key : ∀ (l : List α) (i : Nat), i < l.length → (en (l.getD i z))[j]? = some u → (l.flatMap en)[i * size + j]? = some u := by
    intro l
    induction l with
    | nil => intro i hi; simp at hi
    | cons a l ih =>
      intro i hi hu
      rw [List.flatMap_cons]
      cases i with
      | zero =>
        have hj : j < (en a).length := (List.getElem?_eq_some_iff.1 hu).1
        rw [Nat.zero_mul, Nat.zero_add, List.getElem?_append_left hj]
        exact hu
      | succ i =>
        rw [Nat.succ_mul, List.getElem?_append_right (by rw [hs]; omega), hs, show i * size + size + j - size = i * size + j by omega]
        exact ih i (by simpa using hi) hu
  simpa using key l i hi hu
/-! ### the first element of a kind -/
noncomputable def idxG {α : Type} (φ : α → Prop) : List α → Nat → Int
  | [], _ => -1
  | p :: r, k => if h : Classical.propDecidable (φ p) |>.decide then (k : Int) else idxG φ r (k + 1)
theorem idxG_yes {α : Type} {φ : α → Prop} {p : α} {r : List α} {k : Nat} (h : φ p) : idxG φ (p :: r) k = k := by simp [idxG, h]
theorem idxG_no {α : Type} {φ : α → Prop} {p : α} {r : List α} {k : Nat} (h : ¬ φ p) : idxG φ (p :: r) k = idxG φ r (k + 1) := by simp [idxG, h]
theorem idxG_iff {α : Type} {φ : α → Prop} : ∀ (l : List α) (k : Nat), 0 ≤ idxG φ l k ↔ ∃ p ∈ l, φ p
  | [], k => by simp [idxG]
  | p :: r, k => by
    by_cases h : φ p
    · rw [idxG_yes h]; exact ⟨fun _ => ⟨p, by simp, h⟩, fun _ => by omega⟩
    · rw [idxG_no h, idxG_iff r (k + 1)]; simp [h]
theorem drop_getD {α : Type} {l : List α} {k : Nat} (h : k < l.length) (z : α) : l.drop k = l.getD k z :: l.drop (k + 1) := by
  rw [List.drop_eq_getElem_cons h, getD_lt h]
theorem Sat.rdmap {α : Type} {en : α → List Value} (z : α) {w0 w : World} {M : List Nat} {h : List HO} {base E size c : Nat} {A : Option Addr} {l : List α} (S : Sat w0 M h w) (hh : Has h (.rw base (.slice A l.length c) E size (l.map en))) : Rd w A size l.length (fun i => en (l.getD i z)) :=
  (S.rd hh).congr (fun i hi => by simp [List.getD_eq_getElem?_getD, hi])
theorem Sat.oldb {w0 w w' : World} {M : List Nat} {h : List HO} {b : Nat} {T : TypeId} {cs : List Value} (S : Sat w0 M h w) (hh : Has h (.cl b T cs)) (hk : Keeps [] w w') : OldB w' [] b T cs := by
  have h1 := S.cl hh
  exact ⟨(hk.block b (Array.getElem?_eq_some_iff.1 h1).1 (by simp)).trans h1, by simp⟩
end Go.Proofs.Ytfkcihcbmlcajaa
/- Loops whose measure the invariant bears; make of rows; rows as results; boxes in another order. No statement of the seat is proved here. -/
namespace Go.Proofs.Ytfkcihcbmlcajaa
set_option linter.unusedVariables false
set_option linter.unusedSimpArgs false
open Go Go.RowKit
/-! ### a loop with a measure that the invariant bears -/
theorem least_ex {p : Nat → Prop} : ∀ n : Nat, p n → ∃ m, p m ∧ ∀ k, k < m → ¬ p k := by
  intro n
  induction n using Nat.strongRecOn with
  | _ n ih =>
    intro hn
    by_cases h : ∃ k, k < n ∧ p k
    · obtain ⟨k, hk, hp⟩ := h; exact ih k hk hp
    · exact ⟨n, hn, fun k hk hp => h ⟨k, hk, hp⟩⟩
open Classical in
noncomputable def least (p : Nat → Prop) : Nat := if h : ∃ n, p n then Classical.choose (least_ex _ (Classical.choose_spec h)) else 0
theorem least_at {p : Nat → Prop} (h : ∃ n, p n) : p (least p) := by
  unfold least; rw [dif_pos h]; exact (Classical.choose_spec (least_ex _ (Classical.choose_spec h))).1
theorem least_le {p : Nat → Prop} {n : Nat} (h : p n) : least p ≤ n := by
  unfold least; rw [dif_pos ⟨n, h⟩]
  exact Nat.not_lt.1 fun hlt => (Classical.choose_spec (least_ex _ (Classical.choose_spec (⟨n, h⟩ : ∃ n, p n)))).2 n hlt h
section
variable {P : Program} {ro : Option Nat} {n : Nat} {Q : Post} {D : List Deferred} {f : Fm} {w w0 : World} {M : List Nat} {h : List HO}
theorem cw_loopE {c : Code} (Ss ks : List Nat) (J : Nat → List Value → World → Prop) (m0 : Nat) (h0 : J m0 (ks.map f) w)
    (round : ∀ g m vs w, J m vs w → CW P ro n c (thenQ (fun D' f' w' => D' = D ∧ Agree Ss f' f ∧ ∃ m', m' < m ∧ J m' (ks.map f') w') Q) D (updl (mask Ss g f) ks vs) w) :
    CW P ro n (.loop c) Q D f w := by
  refine cw_loop Ss ks (fun vs w => ∃ m, J m vs w) (fun vs w => least fun m => J m vs w) ⟨m0, h0⟩ ?_
  intro g vs w hi
  refine cw_mono (round g _ vs w (least_at hi)) ?_
  rintro e D' f' w2 hq
  cases e with
  | normal => obtain ⟨h1, h2, m', h3, h4⟩ := hq; exact ⟨h1, h2, ⟨m', h4⟩, Nat.lt_of_le_of_lt (least_le h4) h3⟩
  | ret => exact hq
  | exit id => exact hq
  | goto l => exact hq
  | panic c => exact hq
  | outgrown => exact hq
variable {ops : Array Oper} {rest : List Oper} {d ty : Nat} {ps : String} {af : Array Edge} {gd : Option (Nat × Bool)} {x y : Operand}
theorem made_flat (v : Value) (n : Nat) : (madeCells #[v] (n * 1)).toList = (List.replicate n [v]).flatten := by
  rw [List.flatten_replicate_singleton, List.eq_replicate_iff]
  unfold madeCells
  refine ⟨by simp, fun b hb => ?_⟩
  simp [Nat.mod_one] at hb
  exact hb.2.symm
theorem x_makeSlice1 {T e bytes m : Nat} {v : Value} (S : Sat w0 M h w) (hg : want ops f ⟨some d, .makeSlice T x y, ty, ps, af, gd⟩ = true) (hdn : Nat.blt d n = true) (hk : apk P T = some (e, 1, bytes))
    (hz : (P.info? e).bind (·.zero) = some v) (hv : v.cells = #[v]) (hx : fev f x = .int .i64 (m : Int)) (hy : fev f y = .int .i64 (m : Int)) (hb : Nat.ble bytes 100000 = true) (hm : m ≤ 1000000)
    (k : ∀ g w', Sat w0 M (.rw 0 (.slice (some ⟨g, 0, none⟩) m m) e 1 (List.replicate m [v]) :: h) w' → WL P ro n ops Q rest D (upd f d (.slice (some ⟨g, 0, none⟩) m m)) w') : WL P ro n ops Q (⟨some d, .makeSlice T x y, ty, ps, af, gd⟩ :: rest) D f w := by
  obtain ⟨hu, i, zv, hi, hzz, h1, h2, h3, h4⟩ := apk_parts hk
  have hzv : zv = v := by rw [hi] at hz; simpa [hzz] using hz
  subst hzv
  have hby := Nat.le_of_ble_eq_true hb
  have hbm : i.bytes * m ≤ 281474976710656 := by
    rw [h2]; exact Nat.le_trans (Nat.mul_le_mul hby hm) (by decide)
  obtain ⟨w', hrun, hown, hgr⟩ := run_makeSlice_full (P := P) (w := w) 0 T e i zv 1 hu hi hzz h1 .i64 .i64 m (by omega) hbm (by simp [maxLen]; omega) (Nat.zero_le _)
  refine wl_run (v := .slice (some ⟨w.heap.size, 0, none⟩) m m) (w' := w') hg hdn ?_ (k w.heap.size _ ?_)
  · unfold execOp
    simp only [hx, hy, Sem.run_bind, hrun, Result.andThen_ok, Sem.run_pure]
  · refine S.add hgr ⟨fun b hb => ?_, (fun c hc => ?_), ?_⟩ (fun b hb => ?_)
    · have e1 : w.heap.size = b := by injection hb
      exact .inl (by have := S.le; omega)
    · rw [List.eq_of_mem_replicate hc]; rfl
    · rw [List.length_replicate, ← made_flat]
      rw [← hv]
      exact hown
    · have e1 : w.heap.size = b := by injection hb
      omega
end
/-! ### rows as results -/
theorem rowR_nil {V : Value → Value} {E size : Nat} {xs : List (List Value)} {w w' : World} (hx : xs = []) (K : Keeps [] w w') : RowR V E size xs w (V (.slice none 0 0)) w' := by
  subst hx
  exact ⟨none, 0, rfl, K, World.ownsRow_nil w' _ E size, fun c hc => by cases hc⟩
theorem rowR_xs {V : Value → Value} {E size : Nat} {xs : List (List Value)} {A : Option Addr} {c : Nat} {h : List HO} {w w' : World} (S : Sat w [] h w') (hh : Has h (.rw 0 (.slice A xs.length c) E size xs)) : RowR V E size xs w (V (.slice A xs.length c)) w' :=
  ⟨A, c, rfl, S.keeps, (S.toRow hh).1, (S.toRow hh).2⟩
theorem rowR_n {V : Value → Value} {E size n : Nat} {xs : List (List Value)} {A : Option Addr} {c : Nat} {h : List HO} {w w' : World} (hn : n = xs.length) (S : Sat w [] h w') (hh : Has h (.rw 0 (.slice A n c) E size xs)) : RowR V E size xs w (V (.slice A n c)) w' := by
  subst hn
  exact rowR_xs S hh
theorem Sat.rev3 {w0 w : World} {M : List Nat} {a b c : HO} {r : List HO} (S : Sat w0 M (a :: b :: c :: r) w) : Sat w0 M (c :: b :: a :: r) w :=
  S.perm' ((List.reverse_perm [c, b, a]).append_right r)
end Go.Proofs.Ytfkcihcbmlcajaa
