/- Slices that grow out of one block into a new one; copies between blocks; arrays out of slices. No statement of the seat is proved here. -/
import Derived.Test.YtagapiflfnbfiaaEngW
import Derived.Laws.AppendOwn
import Derived.Laws.BitsLemmas
import Derived.Laws.Cover3
namespace Go.Proofs.Ytagapiflfnbfiaa
set_option linter.unusedVariables false
set_option linter.unusedSimpArgs false
open Go Go.RowKit
section
variable {P : Program} {ro : Option Nat} {n : Nat} {Q : Post} {D : List Deferred} {f : Fm} {w w0 w' : World} {M : List Nat} {h : List HO}
variable {ops : Array Oper} {rest : List Oper} {prest : List (Nat × Oper)} {d ty xt yt : Nat} {ps : String} {af : Array Edge} {gd : Option (Nat × Bool)} {x y z : Operand} {al : List Operand}
/-- a type whose elements are one cell: its zero cell -/
def one0 (P : Program) (T : TypeId) : Option (TypeId × Value) :=
  match P.underlying T with
  | some (.slice e) =>
    match P.info? e with
    | some i =>
      match i.zero with
      | some zv => bif Nat.beq i.size 1 && Nat.ble i.bytes 1000 && one zv then some (e, zv) else none
      | none => none
    | none => none
  | _ => none
theorem one0_parts {T e : TypeId} {zv : Value} (hk : one0 P T = some (e, zv)) : P.underlying T = some (.slice e) ∧ ∃ i, P.info? e = some i ∧ i.zero = some zv ∧ i.size = 1 ∧ i.bytes ≤ 1000 ∧ one zv = true := by
  unfold one0 at hk
  split at hk <;> try (cases hk; done)
  rename_i e' hu
  split at hk <;> try (cases hk; done)
  rename_i i hi
  split at hk <;> try (cases hk; done)
  rename_i z hz
  cases hb : Nat.beq i.size 1 && Nat.ble i.bytes 1000 && one z with
  | false => rw [hb] at hk; simp at hk
  | true =>
    rw [hb] at hk
    simp only [cond_true, Option.some.injEq, Prod.mk.injEq] at hk
    obtain ⟨rfl, rfl⟩ := hk
    simp only [Bool.and_eq_true] at hb
    exact ⟨hu, i, hi, hz, Nat.eq_of_beq_eq_true hb.1.1, Nat.le_of_ble_eq_true hb.1.2, hb.2⟩
theorem one_cells {v : Value} (h : one v = true) : v.cells = #[v] := by cases v <;> first | rfl | (simp [one] at h)
theorem cl_reads {b : Nat} {T : TypeId} {cs : List Value} (hb : w.heap[b]? = some (.cells cs.toArray T (0, 0))) (o k : Nat) : ∀ j u, ((cs.drop o).take k)[j]? = some u → w.cell? ((⟨b, o, none⟩ : Addr).add j) = some u := by
  intro j u hj
  rw [add_at, cell_of_row w b _ _ _ _ hb]
  have hlt : j < k := by have := (List.getElem?_eq_some_iff.1 hj).1; simp at this; omega
  rw [List.getElem?_take_of_lt hlt, List.getElem?_drop] at hj
  simpa using hj
theorem nextcap_small {need c : Nat} (h1 : need ≤ 100) (h2 : c ≤ 100) : Builtin.nextslicecap need c ≤ 200 := by
  unfold Builtin.nextslicecap
  split
  · omega
  · split
    · omega
    · omega
theorem run_appendZ {T Tn e : TypeId} {zv : Value} {b k c m : Nat} {Tb : TypeId} {cs : List Value} {kn kd : IntKind} (hk : one0 P T = some (e, zv)) (hn : P.underlying Tn = some (.int kn))
    (hx : fev f x = .slice (some ⟨b, 0, none⟩) k c) (hy : fev f y = .int kd (m : Int)) (hb : w.heap[b]? = some (.cells cs.toArray Tb (0, 0))) (hkc : k ≤ cs.length) (h0 : 0 < m) (hgt : c < k + m) (hsm : k + m ≤ 100) (hc : c ≤ 100) :
    (execOp (fev f) ⟨some d, .call ⟨.builtin .append, #[x, y], #[T, Tn]⟩, ty, ps, af, gd⟩).run P w =
      .ok (.value (.slice (some ⟨w.heap.size, 0, none⟩) (k + m) (grownCap w (k + m) c e))) (w.drew.alloc (.cells ((cs.take k ++ List.replicate m zv) ++ (Builtin.zeroCells #[zv] (grownCap w (k + m) c e - (k + m))).toList).toArray e)) := by
  obtain ⟨hu, i, hi, hz, h1, hby, ho⟩ := one0_parts hk
  have hzc := one_cells ho
  have hw : IntKind.i64.wrap (m : Int) = m := by rw [IntKind.wrap_i64]; omega
  have hneg : ¬ ((m : Int) < 0) := by omega
  have hm0 : m ≠ 0 := by omega
  have hncap := nextcap_small hsm hc
  have h48 : ¬ (281474976710656 < Builtin.nextslicecap (k + m) c * i.bytes) := by
    have := Nat.mul_le_mul hncap hby
    omega
  have h48i : ¬ (281474976710656 < (m : Int) * (i.bytes : Int)) := by
    rw [← Int.natCast_mul]
    have := Nat.mul_le_mul (show m ≤ 100 by omega) hby
    omega
  have h63 : ¬ (9223372036854775807 < (k : Int) + (m : Int)) := by omega
  have hnle : ¬ (k + m ≤ c) := by omega
  have hf := run_firstCells_some (P := P) w.drew 1 k ⟨b, 0, none⟩ k c (cs.take k) (by simp; omega) (fun j u hj => by
    have := cl_reads (w := w) hb 0 k j u (by simpa using hj)
    exact this)
  have hzm : Builtin.zeroCells #[zv] m = (List.replicate m zv).toArray := by
    apply Array.ext'
    unfold Builtin.zeroCells
    apply List.ext_getElem?
    intro j
    by_cases hj : j < m
    · simp [hj, Nat.mod_one]
    · simp [hj]
  simp [Builtin.firstCells, go_sem] at hf
  simp [execOp, resolve, invoke, builtin, hx, hy, Builtin.append_, run_underlying hu, run_underlying hn, sizeOf, typeInfo, zeroValue, hi, hz, h1, hzc, asInt, asIntOf, hw, hneg, hm0, h63, h48, h48i, hnle, Question.forced, newRow, grownCap, Sem.run_bind, Sem.run_pure, Result.andThen, go_sem]
  simp only [Value.cells] at hzc
  rw [hf]
  simp [hzc, hzm]
  refine congrArg World.drew (congrArg (fun a => w.alloc (Obj.cells a e)) ?_)
  apply Array.ext'
  simp
theorem Sat.newCl {w1 : World} {e : TypeId} {cs : List Value} (S : Sat w0 M h w) (he : w1 = w.drew.alloc (.cells cs.toArray e)) : Sat w0 M (.cl w.heap.size e cs :: h) w1 := by
  subst he
  exact S.drew.alloc e cs
theorem x_appendZ {T Tn e : TypeId} {zv : Value} {b k c m r : Nat} {Tb : TypeId} {cs vs : List Value} {kn kd : IntKind} (S : Sat w0 M h w) (hg : want ops f ⟨some d, .call ⟨.builtin .append, #[x, y], #[T, Tn]⟩, ty, ps, af, gd⟩ = true) (hdn : Nat.blt d n = true) (hk : one0 P T = some (e, zv)) (hn : P.underlying Tn = some (.int kn))
    (hx : fev f x = .slice (some ⟨b, 0, none⟩) k c) {z : Int} (hy : fev f y = .int kd z) (hz : IsN z.toNat m) (hz0 : 0 ≤ z) (hh : Has h (.cl b Tb cs)) (hkc : k ≤ cs.length) (h0 : 0 < m) (hgt : c < k + m) (hsm : k + m ≤ 100) (hc : c ≤ 100) (hv : NL (cs.take k ++ List.replicate m zv) vs) (hr : IsN (k + m) r)
    (kk : ∀ g cap tail w', r ≤ cap → Sat w0 M (.cl g e (vs ++ tail) :: h) w' → WL P ro n ops Q rest D (upd f d (.slice (some ⟨g, 0, none⟩) r cap)) w') : WL P ro n ops Q (⟨some d, .call ⟨.builtin .append, #[x, y], #[T, Tn]⟩, ty, ps, af, gd⟩ :: rest) D f w := by
  have hze : z = (m : Int) := by rw [← hz.eq]; omega
  have hrun := run_appendZ (P := P) (f := f) (d := d) (ty := ty) (ps := ps) (af := af) (gd := gd) hk hn hx (hy.trans (by rw [hze])) (S.cl hh) hkc h0 hgt hsm hc
  have hr := hr.eq
  rw [hv.eq, hr] at hrun
  refine wl_run hg hdn hrun (kk _ _ _ _ (by rw [← hr]; exact grownCap_ge w (k + m) c e) (S.newCl rfl))
theorem run_appendG {T e : TypeId} {zv : Value} {b k c b2 m c2 : Nat} {Tb Tb2 : TypeId} {cs cs2 : List Value} (hk : one0 P T = some (e, zv))
    (hx : fev f x = .slice (some ⟨b, 0, none⟩) k c) (hy : fev f y = .slice (some ⟨b2, 0, none⟩) m c2) (hb : w.heap[b]? = some (.cells cs.toArray Tb (0, 0))) (hb2 : w.heap[b2]? = some (.cells cs2.toArray Tb2 (0, 0))) (hkc : k ≤ cs.length) (hmc : m ≤ cs2.length) (hgt : c < k + m) (hsm : k + m ≤ 100) (hc : c ≤ 100) :
    (execOp (fev f) ⟨some d, .call ⟨.builtin .append, #[x, y], #[T, T]⟩, ty, ps, af, gd⟩).run P w =
      .ok (.value (.slice (some ⟨w.heap.size, 0, none⟩) (k + m) (grownCap w (k + m) c e))) (w.drew.alloc (.cells ((cs.take k ++ cs2.take m) ++ (Builtin.zeroCells #[zv] (grownCap w (k + m) c e - (k + m))).toList).toArray e)) := by
  obtain ⟨hu, i, hi, hz, h1, hby, ho⟩ := one0_parts hk
  have hzc := one_cells ho
  have hncap := nextcap_small hsm hc
  have := run_append_grow (P := P) (w := w) T ty e i zv hu hi hz ⟨b, 0, none⟩ k c (cs.take k) (by rw [h1]; simp; omega) (fun j u hj => cl_reads (w := w) hb 0 k j u (by simpa using hj))
    ⟨b2, 0, none⟩ m c2 (cs2.take m) (by rw [h1]; simp; omega) (fun j u hj => cl_reads (w := w) hb2 0 m j u (by simpa using hj)) hgt (by omega) (by have := Nat.mul_le_mul hncap hby; omega)
  rw [hzc] at this
  simp [execOp, resolve, invoke, builtin, hx, hy, this, Sem.run_bind, Sem.run_pure, Result.andThen]
  refine congrArg (fun a => w.drew.alloc (Obj.cells a e)) ?_
  apply Array.ext'
  simp
theorem x_appendG {T e : TypeId} {zv : Value} {b k c b2 m c2 r : Nat} {Tb Tb2 : TypeId} {cs cs2 vs : List Value} (S : Sat w0 M h w) (hg : want ops f ⟨some d, .call ⟨.builtin .append, #[x, y], #[T, T]⟩, ty, ps, af, gd⟩ = true) (hdn : Nat.blt d n = true) (hk : one0 P T = some (e, zv))
    (hx : fev f x = .slice (some ⟨b, 0, none⟩) k c) (hy : fev f y = .slice (some ⟨b2, 0, none⟩) m c2) (hh : Has h (.cl b Tb cs)) (hh2 : Has h (.cl b2 Tb2 cs2)) (hkc : k ≤ cs.length) (hmc : m ≤ cs2.length) (hgt : c < k + m) (hsm : k + m ≤ 100) (hc : c ≤ 100) (hv : NL (cs.take k ++ cs2.take m) vs) (hr : IsN (k + m) r)
    (kk : ∀ g cap tail w', r ≤ cap → Sat w0 M (.cl g e (vs ++ tail) :: h) w' → WL P ro n ops Q rest D (upd f d (.slice (some ⟨g, 0, none⟩) r cap)) w') : WL P ro n ops Q (⟨some d, .call ⟨.builtin .append, #[x, y], #[T, T]⟩, ty, ps, af, gd⟩ :: rest) D f w := by
  have hrun := run_appendG (P := P) (f := f) (d := d) (ty := ty) (ps := ps) (af := af) (gd := gd) hk hx hy (S.cl hh) (S.cl hh2) hkc hmc hgt hsm hc
  have hr := hr.eq
  rw [hv.eq, hr] at hrun
  exact wl_run hg hdn hrun (kk _ _ _ _ (by rw [← hr]; exact grownCap_ge w (k + m) c e) (S.newCl rfl))
theorem run_copyIn {T Tg Tb g o1 o2 b dl dc sl sc k : Nat} {cs cs2 : List Value} (hs : elemSize P T = some 1) (hx : fev f x = .slice (some ⟨g, o1, none⟩) dl dc) (hy : fev f y = .slice (some ⟨b, o2, none⟩) sl sc)
    (hg : w.heap[g]? = some (.cells cs.toArray Tg (0, 0))) (hb : w.heap[b]? = some (.cells cs2.toArray Tb (0, 0))) (hk : k = Nat.min sl dl) (h2 : o2 + k ≤ cs2.length) (h3 : o1 + k ≤ cs.length) (ho : ones ((cs2.drop o2).take k) = true) :
    (execOp (fev f) ⟨some d, .call ⟨.builtin .copy, #[x, y], #[T, T]⟩, ty, ps, af, gd⟩).run P w = .ok (.value (goInt k)) (w.setRow g (spl cs o1 ((cs2.drop o2).take k)).toArray) := by
  obtain ⟨e, i, hu, hi, h0⟩ := elem_parts hs
  have hl : ((cs2.drop o2).take k).length = k := by simp; omega
  have := run_copy_row (P := P) w T T ty e g o1 dl dc ⟨b, o2, none⟩ sl sc cs.toArray Tg ((cs2.drop o2).take k) hu (by rw [hi]; simp [h0]) hg (by rw [hl]; exact hk) (cl_reads hb o2 k) (by rw [hl]; simpa using h3) (ones_mem ho)
  rw [hl] at this
  rw [spl_eq cs o1 _ (by rw [hl]; omega), hl]
  simp only [execOp, resolve, List.map_toArray, List.map_cons, List.map_nil, hx, hy, Sem.run_bind, Sem.run_pure, Result.andThen_ok, invoke, builtin, this]
theorem x_copyIn {T Tg Tb g o1 o2 b dl dc sl sc k : Nat} {cs cs2 cs' : List Value} {F : HO → List HO} (S : Sat w0 M h w) (hg : want ops f ⟨some d, .call ⟨.builtin .copy, #[x, y], #[T, T]⟩, ty, ps, af, gd⟩ = true) (hdn : Nat.blt d n = true) (hs : elemSize P T = some 1) (hx : fev f x = .slice (some ⟨g, o1, none⟩) dl dc) (hy : fev f y = .slice (some ⟨b, o2, none⟩) sl sc)
    (hr : RepF h (.cl g Tg cs) F) (hh : Has h (.cl b Tb cs2)) (hk : IsN (Nat.min sl dl) k) (h2 : o2 + k ≤ cs2.length) (h3 : o1 + k ≤ cs.length) (ho : ones ((cs2.drop o2).take k) = true) (hn : NL (spl cs o1 ((cs2.drop o2).take k)) cs')
    (kk : ∀ w', Sat w0 M (F (.cl g Tg cs')) w' → WL P ro n ops Q rest D (upd f d (goInt k)) w') : WL P ro n ops Q (⟨some d, .call ⟨.builtin .copy, #[x, y], #[T, T]⟩, ty, ps, af, gd⟩ :: rest) D f w := by
  have hrun := run_copyIn (P := P) (f := f) (d := d) (ty := ty) (ps := ps) (af := af) (gd := gd) hs hx hy (S.ok _ (hr.rep (.cl g Tg cs)).mem).1 (S.cl hh) hk.eq.symm h2 h3 ho
  rw [hn.eq] at hrun
  exact wl_run hg hdn hrun (kk _ (S.set hr))
theorem z2_copyIn {T Tg Tb g o1 o2 b dl dc sl sc k : Nat} {cs cs2 cs' : List Value} {F : HO → List HO} (hg : want ops f ⟨some d, .call ⟨.builtin .copy, #[x, y], #[T, T]⟩, ty, ps, af, gd⟩ = true) (hs : elemSize P T = some 1) (hx : fev f x = .slice (some ⟨g, o1, none⟩) dl dc) (hy : fev f y = .slice (some ⟨b, o2, none⟩) sl sc)
    (hr : RepF h (.cl g Tg cs) F) (hh : Has h (.cl b Tb cs2)) (hk : IsN (Nat.min sl dl) k) (h2 : o2 + k ≤ cs2.length) (h3 : o1 + k ≤ cs.length) (ho : ones ((cs2.drop o2).take k) = true) (hn : NL (spl cs o1 ((cs2.drop o2).take k)) cs')
    (kk : PV P ro ops Q w0 M (F (.cl g Tg cs')) prest D (upd f d (goInt k))) : PV P ro ops Q w0 M h ((2, ⟨some d, .call ⟨.builtin .copy, #[x, y], #[T, T]⟩, ty, ps, af, gd⟩) :: prest) D f :=
  PV.step2 fun w S => by
    have hm := (hr.rep (.cl g Tg cs)).mem
    have hrun := run_copyIn (P := P) (f := f) (d := d) (ty := ty) (ps := ps) (af := af) (gd := gd) hs hx hy (S.ok _ hm).1 (S.cl hh) hk.eq.symm h2 h3 ho
    rw [hn.eq] at hrun
    refine beh_run hg hrun ⟨_, S.set hr, ?_, kk⟩
    refine ⟨rfl, rfl, rfl, by simp, fun k _ hn => setRow_other w g k _ (fun e => hn _ hm (by rw [e]; rfl)), fun o ho' k hok => ?_⟩
    rcases (hr.rep (.cl g Tg cs')).mem' o ho' with rfl | hm'
    · exact .inl ⟨_, hm, hok⟩
    · exact .inl ⟨o, hm', hok⟩
theorem sub_lt {g k c : Nat} (h : k < c) : sub (some ⟨g, 0, none⟩) k 1 c = some ⟨g, k, none⟩ := by
  unfold sub
  have h2 : ¬ c = k := by omega
  have h3 : ¬ c - k = 0 := by omega
  simp [h2, add_at]
theorem x_sliceLoR {T : TypeId} {g m c r : Nat} {kd : IntKind} {e : Int} (hg : want ops f ⟨some d, .slice T x (some y) none none, ty, ps, af, gd⟩ = true) (hdn : Nat.blt d n = true) (hx : fev f x = .slice (some ⟨g, 0, none⟩) m c) (hy : fev f y = .int kd e) (hs : elemSize P T = some 1) (hr : IsN e.toNat r) (h0 : 0 ≤ e) (h1 : e ≤ m) (h2 : r < c)
    (k : WL P ro n ops Q rest D (upd f d (.slice (some ⟨g, r, none⟩) (m - r) (c - r))) w) : WL P ro n ops Q (⟨some d, .slice T x (some y) none none, ty, ps, af, gd⟩ :: rest) D f w := by
  have hr := hr.eq
  have hrun := run_sliceLo (P := P) (w := w) (d := d) (ty := ty) (ps := ps) (af := af) (gd := gd) hx hy hs h0 h1
  rw [hr, sub_lt h2] at hrun
  exact wl_val hg rfl hdn hrun (.z .slice) k
theorem y_sliceLoR {T : TypeId} {g m c r : Nat} {kd : IntKind} {e : Int} (hg : want ops f ⟨some d, .slice T x (some y) none none, ty, ps, af, gd⟩ = true) (hx : fev f x = .slice (some ⟨g, 0, none⟩) m c) (hy : fev f y = .int kd e) (hs : elemSize P T = some 1) (hr : IsN e.toNat r) (h0 : 0 ≤ e) (h1 : e ≤ m) (h2 : r < c)
    (k : PV P ro ops Q w0 M h prest D (upd f d (.slice (some ⟨g, r, none⟩) (m - r) (c - r)))) : PV P ro ops Q w0 M h ((0, ⟨some d, .slice T x (some y) none none, ty, ps, af, gd⟩) :: prest) D f := by
  have hr := hr.eq
  refine y_val hg rfl (fun w _ => ?_) (.z .slice) k
  have hrun := run_sliceLo (P := P) (w := w) (d := d) (ty := ty) (ps := ps) (af := af) (gd := gd) hx hy hs h0 h1
  rwa [hr, sub_lt h2] at hrun
theorem x_arrPtr {T m size len cap : Nat} {a : Addr} (hg : want ops f ⟨some d, .sliceToArrayPointer T x, ty, ps, af, gd⟩ = true) (hdn : Nat.blt d n = true) (hx : fev f x = .slice (some a) len cap) (hs : arrSize P T = some (m, size)) (hm : m ≤ len)
    (k : WL P ro n ops Q rest D (upd f d (.pointer (some a))) w) : WL P ro n ops Q (⟨some d, .sliceToArrayPointer T x, ty, ps, af, gd⟩ :: rest) D f w := by
  refine wl_val hg rfl hdn (v0 := .pointer (some a)) ?_ (.z .ptr) k
  unfold arrSize at hs
  split at hs <;> try (cases hs; done)
  rename_i m' e hu
  obtain ⟨i, hi, hsz⟩ := Option.map_eq_some_iff.1 hs
  injection hsz with h1 h2
  subst h1
  simp [execOp, hx, run_arrayAt (P := P) (w := w) T e m' (some a) len cap hu hm, Sem.run_bind, Sem.run_pure, Result.andThen]
/-! ### fields of values -/
def fieldPart (P : Program) (T : TypeId) (cs : List Value) (i : Nat) : Option Value :=
  match P.underlying T with
  | some (.struct fs) =>
    match fs[i]? with
    | some fl =>
      match P.underlying fl.type, P.info? fl.type with
      | some dd, some inf => bif Nat.ble (fl.offset + inf.size) cs.length && (isAggD dd || Nat.blt 0 inf.size) then some (vof P fl.type ((cs.drop fl.offset).take inf.size)) else none
      | _, _ => none
    | none => none
  | _ => none
theorem r_fieldV {o : Oper} {T : TypeId} {cs : List Value} {i : Nat} {v : Value} (hop : o.op = .field T x i) (hx : fev f x = .agg cs.toArray) (hv : fieldPart P T cs i = some v) :
    (execOp (fev f) o).run P w = .ok (.value v) w := by
  unfold fieldPart at hv
  split at hv <;> try (cases hv; done)
  rename_i fs hu
  split at hv <;> try (cases hv; done)
  rename_i fl hfl
  split at hv <;> try (cases hv; done)
  rename_i dd inf hdd hinf
  cases hb : (Nat.ble (fl.offset + inf.size) cs.length && (isAggD dd || Nat.blt 0 inf.size)) with
  | false => rw [hb] at hv; simp at hv
  | true =>
    rw [hb] at hv
    simp only [cond_true, Option.some.injEq] at hv
    simp only [Bool.and_eq_true, Bool.or_eq_true] at hb
    have h2 := Nat.le_of_ble_eq_true hb.1
    have h3 : isAggD dd = true ∨ 0 < inf.size := by
      rcases hb.2 with h | h
      · exact .inl h
      · exact .inr (by simpa [Nat.blt_eq] using h)
    have hp := run_part (w := w) hdd (by rw [hinf]; rfl) h3 h2
    unfold execOp
    rw [hop]
    simp only [hx, Instr.field, asAgg, Sem.run_bind, Sem.run_pure, Result.andThen_ok, run_underlying hu, hfl, hp, hv]
theorem x_field {T : TypeId} {cs : List Value} {i : Nat} {v0 v : Value} (hg : want ops f ⟨some d, .field T x i, ty, ps, af, gd⟩ = true) (hdn : Nat.blt d n = true) (hx : fev f x = .agg cs.toArray) (hv : fieldPart P T cs i = some v0) (hi : Is v0 v)
    (k : WL P ro n ops Q rest D (upd f d v) w) : WL P ro n ops Q (⟨some d, .field T x i, ty, ps, af, gd⟩ :: rest) D f w := wl_val hg rfl hdn (r_fieldV rfl hx hv) hi k
theorem y_field {T : TypeId} {cs : List Value} {i : Nat} {v0 v : Value} (hg : want ops f ⟨some d, .field T x i, ty, ps, af, gd⟩ = true) (hx : fev f x = .agg cs.toArray) (hv : fieldPart P T cs i = some v0) (hi : Is v0 v)
    (k : PV P ro ops Q w0 M h prest D (upd f d v)) : PV P ro ops Q w0 M h ((0, ⟨some d, .field T x i, ty, ps, af, gd⟩) :: prest) D f := y_val hg rfl (fun _ _ => r_fieldV rfl hx hv) hi k
end
end Go.Proofs.Ytagapiflfnbfiaa
