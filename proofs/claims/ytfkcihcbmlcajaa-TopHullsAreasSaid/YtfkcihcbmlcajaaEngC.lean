/- EngC: several texts in one. No statement of the seat is proved here. -/
import Derived.Test.YtfkcihcbmlcajaaEngB
/- The operations, a lemma each. No statement of the seat is proved here. -/
namespace Go.Proofs.Ytfkcihcbmlcajaa
set_option linter.unusedVariables false
set_option linter.unusedSimpArgs false
open Go Go.RowKit

/-! ### how a type lies in memory -/
def isAggD : TypeDesc → Bool
  | .struct _ => true
  | .array _ _ => true
  | _ => false
/-- none: one cell; some k: an aggregate of k cells -/
def ldk (P : Program) (T : TypeId) : Option (Option Nat) :=
  match P.underlying T, P.info? T with
  | some d, some i => some (bif isAggD d then some i.size else none)
  | _, _ => none
def ldv : Option Nat → List Value → Nat → Option Value
  | none, cs, off => cs[off]?
  | some k, cs, off => bif Nat.ble (off + k) cs.length then some (.agg ((cs.drop off).take k).toArray) else none

section
variable {P : Program} {ro : Option Nat} {n : Nat} {Q : Post} {D : List Deferred} {f : Fm} {w w0 : World} {M : List Nat} {h : List HO}
variable {ops : Array Oper} {rest : List Oper} {o : Oper} {d : Nat}

theorem wl_val {v0 v : Value} (hg : want ops f o = true) (hd : o.dst = some d) (hdn : Nat.blt d n = true) (hr : (execOp (fev f) o).run P w = .ok (.value v0) w) (hi : Is v0 v)
    (k : WL P ro n ops Q rest D (upd f d v) w) : WL P ro n ops Q (o :: rest) D f w := by
  refine wl_run hg (by rw [hd]; exact hdn) hr ?_
  rw [hd, hi.eq]
  exact k
theorem wl_not (hg : want ops f o = false) (hd : o.dst = some d) (hdn : Nat.blt d n = true) (k : WL P ro n ops Q rest D (upd f d undef) w) : WL P ro n ops Q (o :: rest) D f w := by
  refine wl_pass hg (by rw [hd]; exact hdn) ?_
  rw [hd]
  exact k

theorem run_newVar (T : TypeId) (v : Value) : (newVar T v).run P w = .ok ⟨w.heap.size, 0, none⟩ (w.alloc (.cells v.cells T)) := rfl

theorem wl_box {T : TypeId} {x : Operand} {v : Value} {cs : List Value} (S : Sat w0 M h w) (hg : want ops f o = true) (hop : o.op = .box T x) (hd : o.dst = some d) (hdn : Nat.blt d n = true)
    (hi : Is (fev f x) v) (hn : NL (cl1 v) cs)
    (k : ∀ b w', Sat w0 M (.cl b T cs :: h) w' → WL P ro n ops Q rest D (upd f d (.pointer (some ⟨b, 0, none⟩))) w') : WL P ro n ops Q (o :: rest) D f w := by
  refine wl_run (v := .pointer (some ⟨w.heap.size, 0, none⟩)) (w' := w.alloc (.cells cs.toArray T)) hg (by rw [hd]; exact hdn) ?_ ?_
  · unfold execOp
    rw [hop]
    simp only [Instr.box, Sem.run_bind, run_newVar, Result.andThen_ok, Sem.run_pure, hi.eq, ← cl1_eq, hn.eq]
  · rw [hd]
    exact k _ _ (S.alloc T cs)

theorem wl_alloc {T : TypeId} {z : Value} {cs : List Value} (S : Sat w0 M h w) (hg : want ops f o = true) (hop : o.op = .alloc T) (hd : o.dst = some d) (hdn : Nat.blt d n = true)
    (hz : (P.info? T).bind (·.zero) = some z) (hn : NL (cl1 z) cs)
    (k : ∀ b w', Sat w0 M (.cl b T cs :: h) w' → WL P ro n ops Q rest D (upd f d (.pointer (some ⟨b, 0, none⟩))) w') : WL P ro n ops Q (o :: rest) D f w := by
  refine wl_run (v := .pointer (some ⟨w.heap.size, 0, none⟩)) (w' := w.alloc (.cells cs.toArray T)) hg (by rw [hd]; exact hdn) ?_ ?_
  · obtain ⟨i, hi1, hi2⟩ := Option.bind_eq_some_iff.1 hz
    unfold execOp
    rw [hop]
    simp [Instr.alloc, zeroValue, typeInfo, hi1, hi2, newVar, newRow, ← cl1_eq, hn.eq]
  · rw [hd]
    exact k _ _ (S.alloc T cs)

theorem run_isAgg {T : TypeId} {dd : TypeDesc} (ht : P.underlying T = some dd) : (isAgg T).run P w = .ok (isAggD dd) w := by
  simp only [isAgg, Sem.run_bind, run_underlying ht, Result.andThen_ok]
  cases dd <;> rfl

/-- a load, off cells that are known -/
theorem run_load_cells {T : TypeId} {a : Addr} {kk : Option Nat} {cs : List Value} {off : Nat} {v : Value} (hk : ldk P T = some kk) (hv : ldv kk cs off = some v)
    (hc : ∀ j u, cs[off + j]? = some u → w.cell? (a.add j) = some u) : (loadVar T a).run P w = .ok v w := by
  unfold ldk at hk
  split at hk
  · rename_i dd i hd hi
    unfold loadVar
    simp only [Sem.run_bind, run_isAgg hd, Result.andThen_ok]
    cases hag : isAggD dd with
    | false =>
      rw [hag] at hk
      simp only [cond_false, Option.some.injEq] at hk
      subst hk
      simp only [ldv] at hv
      have h0 := hc 0 v (by simpa using hv)
      have ha : a.add 0 = a := by simp [Addr.add]
      rw [ha] at h0
      simp [h0]
    | true =>
      rw [hag] at hk
      simp only [cond_true, Option.some.injEq] at hk
      subst hk
      simp only [ldv] at hv
      cases hb : Nat.ble (off + i.size) cs.length with
      | false => rw [hb] at hv; simp at hv
      | true =>
        rw [hb] at hv
        simp only [cond_true, Option.some.injEq] at hv
        subst hv
        have hle : off + i.size ≤ cs.length := Nat.le_of_ble_eq_true hb
        have hl := run_loadCells_list (P := P) (w := w) a ((cs.drop off).take i.size) (by
          intro j u hu
          rw [List.getElem?_take] at hu
          split at hu
          · exact hc j u (by rw [List.getElem?_drop] at hu; exact hu)
          · cases hu)
        have hlen : ((cs.drop off).take i.size).length = i.size := by simp; omega
        rw [hlen] at hl
        simp [sizeOf, typeInfo, hi, hl]
  · cases hk

theorem r_load_at {T : TypeId} {x : Operand} {a : Addr} {kk : Option Nat} {cs : List Value} {off : Nat} {v0 : Value} (hop : o.op = .load T x)
    (hx : fev f x = .pointer (some a)) (hc : ∀ j u, cs[off + j]? = some u → w.cell? (a.add j) = some u) (hk : ldk P T = some kk) (hv : ldv kk cs off = some v0) : (execOp (fev f) o).run P w = .ok (.value v0) w := by
  unfold execOp
  rw [hop]
  simp only [Instr.loadAt, hx, Instr.sureAddr, Sem.run_bind, Sem.run_pure, Result.andThen_ok, run_load_cells hk hv hc]
theorem wl_load_at {T : TypeId} {x : Operand} {a : Addr} {kk : Option Nat} {cs : List Value} {off : Nat} {v0 v : Value} (hg : want ops f o = true) (hop : o.op = .load T x) (hd : o.dst = some d) (hdn : Nat.blt d n = true)
    (hx : fev f x = .pointer (some a)) (hc : ∀ j u, cs[off + j]? = some u → w.cell? (a.add j) = some u) (hk : ldk P T = some kk) (hv : ldv kk cs off = some v0) (hi : Is v0 v)
    (k : WL P ro n ops Q rest D (upd f d v) w) : WL P ro n ops Q (o :: rest) D f w :=
  wl_val hg hd hdn (r_load_at hop hx hc hk hv) hi k
theorem Sat.cells (S : Sat w0 M h w) {b off : Nat} {T' : TypeId} {cs : List Value} (hh : Has h (.cl b T' cs)) : ∀ j u, cs[off + j]? = some u → w.cell? ((⟨b, off, none⟩ : Addr).add j) = some u := by
  intro j u hu
  rw [add_at, cell_of_row w b (off + j) _ _ _ (S.cl hh)]
  simpa using hu
theorem Rd.cells {A : Option Addr} {size i off m : Nat} {cell : Nat → List Value} (R : Rd w A size m cell) (him : i < m) : ∀ j u, (cell i)[off + j]? = some u → w.cell? ((ea A size i off).add j) = some u := by
  intro j u hu
  rw [add_ea]
  exact R.at_ i _ u him hu

theorem wl_load {T T' : TypeId} {x : Operand} {b off : Nat} {kk : Option Nat} {cs : List Value} {v0 v : Value} (S : Sat w0 M h w) (hg : want ops f o = true) (hop : o.op = .load T x) (hd : o.dst = some d) (hdn : Nat.blt d n = true)
    (hx : fev f x = .pointer (some ⟨b, off, none⟩)) (hh : Has h (.cl b T' cs)) (hk : ldk P T = some kk) (hv : ldv kk cs off = some v0) (hi : Is v0 v)
    (k : WL P ro n ops Q rest D (upd f d v) w) : WL P ro n ops Q (o :: rest) D f w := by
  exact wl_load_at hg hop hd hdn hx (S.cells hh) hk hv hi k
/-- a block that was there, out of M -/
structure OldB (w0 : World) (M : List Nat) (b : Nat) (T : TypeId) (cs : List Value) : Prop where
  at_ : w0.heap[b]? = some (.cells cs.toArray T (0, 0))
  out : b ∉ M
theorem OldB.now {b : Nat} {T : TypeId} {cs : List Value} (O : OldB w0 M b T cs) (S : Sat w0 M h w) : w.heap[b]? = some (.cells cs.toArray T (0, 0)) :=
  (S.keeps.block b (Array.getElem?_eq_some_iff.1 O.at_).1 O.out).trans O.at_
theorem OldB.cells {b off : Nat} {T : TypeId} {cs : List Value} (O : OldB w0 M b T cs) (S : Sat w0 M h w) : ∀ j u, cs[off + j]? = some u → w.cell? ((⟨b, off, none⟩ : Addr).add j) = some u := by
  intro j u hu
  rw [add_at, cell_of_row w b (off + j) _ _ _ (O.now S)]
  simpa using hu
theorem wl_load_rd {T : TypeId} {x : Operand} {A : Option Addr} {size i off m : Nat} {cell : Nat → List Value} {kk : Option Nat} {v0 v : Value} (hg : want ops f o = true) (hop : o.op = .load T x) (hd : o.dst = some d) (hdn : Nat.blt d n = true)
    (hx : fev f x = .pointer (some (ea A size i off))) (R : Rd w A size m cell) (him : i < m) (hk : ldk P T = some kk) (hv : ldv kk (cell i) off = some v0) (hi : Is v0 v)
    (k : WL P ro n ops Q rest D (upd f d v) w) : WL P ro n ops Q (o :: rest) D f w := by
  exact wl_load_at hg hop hd hdn hx (R.cells him) hk hv hi k

theorem wl_store {T T' : TypeId} {x y : Operand} {b off : Nat} {v : Value} {cs cs' : List Value} {h' : List HO} (S : Sat w0 M h w) (hg : want ops f o = true) (hop : o.op = .store T x y) (hd : o.dst = none)
    (hx : fev f x = .pointer (some ⟨b, off, none⟩)) (hy : Is (fev f y) v) (r : Rep h (.cl b T' cs) (.cl b T' cs') h') (hs : (P.info? T).map (·.size) = some (cl1 v).length) (h1 : ones (cl1 v) = true)
    (hfit : Nat.ble (off + (cl1 v).length) cs.length = true) (hcs : NL (spl cs off (cl1 v)) cs')
    (k : ∀ w', Sat w0 M h' w' → WL P ro n ops Q rest D f w') : WL P ro n ops Q (o :: rest) D f w := by
  have hfit' := Nat.le_of_ble_eq_true hfit
  have hb : w.heap[b]? = some (.cells cs.toArray T' (0, 0)) := (S.ok _ r.mem).1
  refine wl_runSkip (w' := w.setRow b cs'.toArray) hg hd ?_ (k _ (S.setRow r))
  obtain ⟨i, hi1, hi2⟩ := Option.map_eq_some_iff.1 hs
  have hrun := run_storeCells_at P b off T' (cl1 v) 0 cs.toArray w hb (by simpa using hfit') (ones_mem h1)
  unfold execOp
  rw [hop]
  simp only [Instr.storeAt, hx, Instr.sureAddr, Sem.run_bind, Sem.run_pure, Result.andThen_ok, hy.eq, storeVar, sizeOf, typeInfo, run_program, hi1, hi2]
  rw [← cl1_eq]
  simp only [List.size_toArray, ne_eq, not_true_eq_false, if_false, Sem.run_pure, Result.andThen_ok]
  rw [hrun]
  simp only [Result.andThen_ok, Nat.add_zero]
  rw [← hcs.eq, spl_eq _ _ _ hfit']

/-! ### the guard's test -/
theorem wl_gsplit {j t : Nat} {wnt b : Bool} (hgd : o.guard = some (j, wnt)) (hj : (ops[j]?).bind (·.dst) = some t) (hf : f t = .bool b)
    (h1 : b = true → WL P ro n ops Q (o :: rest) D (upd f t (.bool true)) w) (h2 : b = false → WL P ro n ops Q (o :: rest) D (upd f t (.bool false)) w) : WL P ro n ops Q (o :: rest) D f w :=
  wl_split t hf h1 h2
theorem wl_gnot {j t : Nat} {wnt b : Bool} (hgd : o.guard = some (j, wnt)) (hj : (ops[j]?).bind (·.dst) = some t) (hf : f t = .bool (!b))
    (h1 : b = false → WL P ro n ops Q (o :: rest) D (upd f t (.bool true)) w) (h2 : b = true → WL P ro n ops Q (o :: rest) D (upd f t (.bool false)) w) : WL P ro n ops Q (o :: rest) D f w :=
  wl_split t hf (fun e => h1 (by simpa using e)) (fun e => h2 (by simpa using e))
theorem wl_gdec {j t : Nat} {wnt : Bool} {p : Prop} [Decidable p] (hgd : o.guard = some (j, wnt)) (hj : (ops[j]?).bind (·.dst) = some t) (hf : f t = .bool (decide p))
    (h1 : p → WL P ro n ops Q (o :: rest) D (upd f t (.bool true)) w) (h2 : ¬ p → WL P ro n ops Q (o :: rest) D (upd f t (.bool false)) w) : WL P ro n ops Q (o :: rest) D f w :=
  wl_split t hf (fun e => h1 (of_decide_eq_true e)) (fun e => h2 (of_decide_eq_false e))
theorem wl_geq {j t : Nat} {wnt : Bool} {p q : Int} (hgd : o.guard = some (j, wnt)) (hj : (ops[j]?).bind (·.dst) = some t) (hf : f t = .bool (p == q))
    (h1 : p = q → WL P ro n ops Q (o :: rest) D (upd f t (.bool true)) w) (h2 : ¬ p = q → WL P ro n ops Q (o :: rest) D (upd f t (.bool false)) w) : WL P ro n ops Q (o :: rest) D f w :=
  wl_split t hf (fun e => h1 (eq_of_beq e)) (fun e => h2 (fun e' => by subst e'; simp at e))
theorem wl_gne {j t : Nat} {wnt : Bool} {p q : Int} (hgd : o.guard = some (j, wnt)) (hj : (ops[j]?).bind (·.dst) = some t) (hf : f t = .bool (p != q))
    (h1 : ¬ p = q → WL P ro n ops Q (o :: rest) D (upd f t (.bool true)) w) (h2 : p = q → WL P ro n ops Q (o :: rest) D (upd f t (.bool false)) w) : WL P ro n ops Q (o :: rest) D f w :=
  wl_split t hf (fun e => h1 (fun e' => by subst e'; simp at e)) (fun e => h2 (by simpa using e))

/-! ### addresses -/
/-- the offset of field i -/
def fieldOff (P : Program) (T : TypeId) (i : Nat) : Option Nat :=
  match P.underlying T with
  | some (.struct fs) =>
    match fs[i]? with
    | some fd =>
      match P.info? fd.type with
      | some j => bif Nat.beq j.size 0 then none else some fd.offset
      | none => none
    | none => none
  | _ => none
theorem r_field {T : TypeId} {x : Operand} {i off : Nat} {a : Addr} (hop : o.op = .fieldAddr T x i) (hx : fev f x = .pointer (some a)) (hf : fieldOff P T i = some off) :
    (execOp (fev f) o).run P w = .ok (.value (.pointer (some (a.add off)))) w := by
  unfold fieldOff at hf
  split at hf <;> try (cases hf; done)
  rename_i fs hu
  split at hf <;> try (cases hf; done)
  rename_i fd hfd
  split at hf <;> try (cases hf; done)
  rename_i j hj
  cases hb : Nat.beq j.size 0 with
  | true => rw [hb] at hf; simp at hf
  | false =>
    rw [hb] at hf
    simp only [cond_false, Option.some.injEq] at hf
    subst hf
    have hne : ¬ j.size = 0 := fun e => by rw [e] at hb; simp at hb
    unfold execOp
    rw [hop]
    simp [Instr.fieldAt, run_underlying hu, hfd, hx, Instr.sureAddr, fieldPlace, sizeOf, typeInfo, hj, hne]
theorem wl_field {T : TypeId} {x : Operand} {i off : Nat} {a : Addr} {v : Value} (hg : want ops f o = true) (hop : o.op = .fieldAddr T x i) (hd : o.dst = some d) (hdn : Nat.blt d n = true)
    (hx : fev f x = .pointer (some a)) (hf : fieldOff P T i = some off) (hi : Is0 (.pointer (some (a.add off))) v) (k : WL P ro n ops Q rest D (upd f d v) w) : WL P ro n ops Q (o :: rest) D f w :=
  wl_val hg hd hdn (v0 := .pointer (some (a.add off))) (r_field hop hx hf) (.z hi) k
theorem wl_fieldB {T : TypeId} {x : Operand} {i b off k0 r : Nat} (hg : want ops f o = true) (hop : o.op = .fieldAddr T x i) (hd : o.dst = some d) (hdn : Nat.blt d n = true)
    (hx : fev f x = .pointer (some ⟨b, off, none⟩)) (hf : fieldOff P T i = some k0) (hn : IsN (off + k0) r) (k : WL P ro n ops Q rest D (upd f d (.pointer (some ⟨b, r, none⟩))) w) : WL P ro n ops Q (o :: rest) D f w :=
  wl_field hg hop hd hdn hx hf (by rw [← hn.eq]; exact .ptrb) k
theorem wl_fieldE {T : TypeId} {x : Operand} {A : Option Addr} {size j i off k0 r : Nat} (hg : want ops f o = true) (hop : o.op = .fieldAddr T x i) (hd : o.dst = some d) (hdn : Nat.blt d n = true)
    (hx : fev f x = .pointer (some (ea A size j off))) (hf : fieldOff P T i = some k0) (hn : IsN (off + k0) r) (k : WL P ro n ops Q rest D (upd f d (.pointer (some (ea A size j r)))) w) : WL P ro n ops Q (o :: rest) D f w :=
  wl_field hg hop hd hdn hx hf (by rw [← hn.eq]; exact .ptre) k

/-- the size of a slice's (an array's) elements -/
def elemSize (P : Program) (T : TypeId) : Option Nat :=
  match P.underlying T with
  | some (.slice e) => (P.info? e).map (·.size)
  | _ => none
def arrSize (P : Program) (T : TypeId) : Option (Nat × Nat) :=
  match P.underlying T with
  | some (.array m e) => (P.info? e).map fun i => (m, i.size)
  | _ => none
theorem run_indexAt {T : TypeId} {A : Option Addr} {m c size : Nat} {kd : IntKind} {e : Int} (hs : elemSize P T = some size) (hA : A.isSome = true) (h0 : 0 ≤ e) (h1 : e < m) :
    (Instr.indexAt T (.slice A m c) (.int kd e)).run P w = .ok (.pointer (some (ea A size e.toNat 0))) w := by
  obtain ⟨a, rfl⟩ := Option.isSome_iff_exists.1 hA
  unfold elemSize at hs
  split at hs
  · rename_i el hu
    obtain ⟨i, hi1, hi2⟩ := Option.map_eq_some_iff.1 hs
    simp [Instr.indexAt, asIntOf, run_underlying hu, sizeOf, typeInfo, hi1, h0, h1, hi2, ea]
  · cases hs
theorem r_index {T : TypeId} {x y : Operand} {A : Option Addr} {size m c i : Nat} {kd : IntKind} (hop : o.op = .indexAddr T x y)
    (hx : fev f x = .slice A m c) (hy : fev f y = .int kd (i : Int)) (hs : elemSize P T = some size) (hi : i < m) (hA : A.isSome = true) : (execOp (fev f) o).run P w = .ok (.value (.pointer (some (ea A size i 0)))) w := by
  unfold execOp
  rw [hop]
  have h := run_indexAt (P := P) (w := w) (A := A) (c := c) (kd := kd) hs hA (Int.natCast_nonneg i) (by omega : (i : Int) < m)
  simp only [Int.toNat_natCast] at h
  simp only [hx, hy, Sem.run_bind, h, Result.andThen_ok, Sem.run_pure]
theorem r_indexI {T : TypeId} {x y : Operand} {A : Option Addr} {size m c : Nat} {e : Int} {kd : IntKind} (hop : o.op = .indexAddr T x y)
    (hx : fev f x = .slice A m c) (hy : fev f y = .int kd e) (hs : elemSize P T = some size) (h0 : 0 ≤ e) (hi : e < m) (hA : A.isSome = true) : (execOp (fev f) o).run P w = .ok (.value (.pointer (some (ea A size e.toNat 0)))) w := by
  unfold execOp
  rw [hop]
  simp only [hx, hy, Sem.run_bind, run_indexAt hs hA h0 hi, Result.andThen_ok, Sem.run_pure]
/-- an index into an array at an address -/
theorem r_indexArr {T : TypeId} {x y : Operand} {a : Addr} {size m : Nat} {e : Int} {kd : IntKind} (hop : o.op = .indexAddr T x y)
    (hx : fev f x = .pointer (some a)) (hy : fev f y = .int kd e) (hs : arrSize P T = some (m, size)) (h0 : 0 ≤ e) (h1 : e < m) : (execOp (fev f) o).run P w = .ok (.value (.pointer (some (a.add (e.toNat * size))))) w := by
  unfold arrSize at hs
  split at hs
  · rename_i m' el hu
    obtain ⟨i, hi1, hi2⟩ := Option.map_eq_some_iff.1 hs
    injection hi2 with h2 h3
    subst h2
    subst h3
    unfold execOp
    rw [hop]
    simp [Instr.indexAt, asIntOf, run_underlying hu, sizeOf, typeInfo, hi1, hx, hy, Instr.sureAddr, h0, h1]
  · cases hs

/-! ### values that are put together -/
def pvs (f : Fm) : List (Nat × Operand) → List (Nat × Value)
  | [] => []
  | (i, x) :: r => (i, fev f x) :: pvs f r
theorem pvs_eq (f : Fm) (l : List (Nat × Operand)) : (l.toArray.map fun (i, x) => (i, fev f x)) = (pvs f l).toArray := by
  rw [List.map_toArray]
  congr 1
  induction l with
  | nil => rfl
  | cons a l ih => obtain ⟨i, x⟩ := a; simp [pvs, ih]
theorem evs_eq (f : Fm) (l : List Operand) : l.toArray.map (fev f) = (evs f l).toArray := by
  rw [List.map_toArray]
  congr 1
  induction l with
  | nil => rfl
  | cons a l ih => simp [evs, ih]
/-- parts laid into cells -/
def fl (pl : Nat → Option (Nat × Nat)) : List Value → List (Nat × Value) → Option (List Value)
  | cs, [] => some cs
  | cs, (i, v) :: r =>
    match pl i with
    | none => none
    | some (off, size) => bif Nat.beq (cl1 v).length size && Nat.ble (off + (cl1 v).length) cs.length then fl pl (spl cs off (cl1 v)) r else none
theorem foldl_set (off : Nat) : ∀ (ns : List Value) (k : Nat) (cs : Array Value), off + k + ns.length ≤ cs.size →
    (ns.zipIdx k).foldl (fun cs (p : Value × Nat) => cs.setIfInBounds (off + p.2) p.1) cs = (spl cs.toList (off + k) ns).toArray
  | [], k, cs, h => by
    rw [spl_eq _ _ _ (by simpa using h)]
    simp
  | v :: ns, k, cs, h => by
    simp only [List.zipIdx_cons, List.foldl_cons]
    simp only [List.length_cons] at h
    rw [foldl_set off ns (k + 1) _ (by simp; omega)]
    congr 1
    rw [spl_eq _ _ _ (by simp; omega), spl_eq _ _ _ (by simp; omega)]
    simp only [Array.toList_setIfInBounds]
    have e1 : off + (k + 1) = off + k + 1 := by omega
    have hlt : off + k < cs.toList.length := by simp; omega
    have h3 : (List.take (off + k) cs.toList).length = off + k := by rw [List.length_take]; omega
    rw [e1, List.take_set, List.drop_set, List.take_succ_eq_append_getElem hlt, List.set_append_right _ _ (by rw [h3]; exact Nat.le_refl _), h3, Nat.sub_self, if_pos (by omega)]
    simp only [List.set_cons_zero, List.append_assoc, List.cons_append, List.nil_append, List.length_cons]
    congr 4
    omega
theorem fl_fill (pl : Nat → Option (Nat × Nat)) : ∀ (parts : List (Nat × Value)) (cs cs' : List Value), fl pl cs parts = some cs' → Instr.fill pl cs.toArray parts = some cs'.toArray
  | [], cs, cs', h => by simp only [fl, Option.some.injEq] at h; subst h; rfl
  | (i, v) :: r, cs, cs', h => by
    simp only [fl] at h
    split at h
    · cases h
    · rename_i off size hpl
      cases hb : Nat.beq (cl1 v).length size && Nat.ble (off + (cl1 v).length) cs.length with
      | false => rw [hb] at h; simp at h
      | true =>
        rw [hb] at h
        simp only [cond_true] at h
        simp only [Bool.and_eq_true] at hb
        have h1 := Nat.eq_of_beq_eq_true hb.1
        have h2 := Nat.le_of_ble_eq_true hb.2
        have ih := fl_fill pl r _ _ h
        simp only [Instr.fill, hpl]
        rw [← cl1_eq]
        have hc : ((cl1 v).toArray.size ≠ size || off + (cl1 v).toArray.size > cs.toArray.size) = false := by simp [h1]; omega
        rw [hc]
        simp only [Bool.false_eq_true, if_false]
        have hf := foldl_set off (cl1 v) 0 cs.toArray (by simp; omega)
        simp only [Nat.add_zero] at hf
        have hz : (cl1 v).toArray.zipIdx.foldl (fun cs (p : Value × Nat) => cs.setIfInBounds (off + p.2) p.1) cs.toArray = (spl cs off (cl1 v)).toArray := by
          rw [← hf, ← Array.foldl_toList]
          simp
        rw [hz]
        exact ih
def plc (P : Program) : List Field → Option (List (Nat × Nat))
  | [] => some []
  | fd :: r =>
    match P.info? fd.type, plc P r with
    | some i, some l => some ((fd.offset, i.size) :: l)
    | _, _ => none
theorem plc_eq (P : Program) : ∀ fs : List Field, fs.mapM (fun f => (P.info? f.type).map fun i => (f.offset, i.size)) = plc P fs
  | [] => rfl
  | fd :: r => by
    simp only [List.mapM_cons, plc, plc_eq P r]
    cases P.info? fd.type <;> cases plc P r <;> rfl
/-- a composite value's cells -/
def bld (P : Program) (T : TypeId) (parts : List (Nat × Value)) : Option (List Value) :=
  match P.info? T, P.underlying T with
  | some it, some (.struct fs) =>
    match it.zero, plc P fs.toList with
    | some z, some pl => fl (pl[·]?) (cl1 z) parts
    | _, _ => none
  | some it, some (.array _ e) =>
    match it.zero, P.info? e with
    | some z, some ie => fl (fun i => some (i * ie.size, ie.size)) (cl1 z) parts
    | _, _ => none
  | _, _ => none
theorem bld_built {T : TypeId} {parts : List (Nat × Value)} {cs : List Value} (h : bld P T parts = some cs) : P.built T parts = some cs.toArray := by
  unfold bld at h
  split at h
  · rename_i it fs hi hu
    split at h
    · rename_i z pl hz hpl
      have h2 := fl_fill _ _ _ _ h
      rw [cl1_eq] at h2
      simp only [Program.built, hi, hu, hz, plc_eq, hpl]
      simpa using h2
    · cases h
  · rename_i it m e hi hu
    split at h
    · rename_i z ie hz hie
      have h2 := fl_fill _ _ _ _ h
      rw [cl1_eq] at h2
      simp only [Program.built, hi, hu, hz, hie]
      exact h2
    · cases h
  · cases h
theorem r_build {T : TypeId} {pl : List (Nat × Operand)} {cs : List Value} (hop : o.op = .build T pl.toArray) (hb : bld P T (pvs f pl) = some cs) : (execOp (fev f) o).run P w = .ok (.value (.agg cs.toArray)) w := by
  unfold execOp
  rw [hop]
  simp only [pvs_eq, Sem.run_bind, run_build w T _ _ (bld_built hb), Result.andThen_ok, Sem.run_pure]
theorem wl_build {T : TypeId} {pl : List (Nat × Operand)} {cs cs' : List Value} (hg : want ops f o = true) (hop : o.op = .build T pl.toArray) (hd : o.dst = some d) (hdn : Nat.blt d n = true)
    (hb : bld P T (pvs f pl) = some cs) (hn : NL cs cs') (k : WL P ro n ops Q rest D (upd f d (.agg cs'.toArray)) w) : WL P ro n ops Q (o :: rest) D f w := by
  exact wl_val hg hd hdn (v0 := .agg cs.toArray) (r_build hop hb) (.agg hn) k
theorem r_makeFunc {fn : Fn} {l' : List Value} {cl : List Operand} (hop : o.op = .makeFunc fn #[] cl.toArray) (hn : NL (evs f cl) l') : (execOp (fev f) o).run P w = .ok (.value (.func fn #[] l'.toArray)) w := by
  unfold execOp
  rw [hop]
  simp only [evs_eq, hn.eq, Instr.makeFunc, Sem.run_bind, Sem.run_pure, Result.andThen_ok]
  rfl
theorem wl_makeFunc {fn : Fn} {l' : List Value} {cl : List Operand} (hg : want ops f o = true) (hop : o.op = .makeFunc fn #[] cl.toArray) (hd : o.dst = some d) (hdn : Nat.blt d n = true)
    (hn : NL (evs f cl) l') (k : WL P ro n ops Q rest D (upd f d (.func fn #[] l'.toArray)) w) : WL P ro n ops Q (o :: rest) D f w := by
  exact wl_val hg hd hdn (v0 := .func fn #[] l'.toArray) (r_makeFunc hop hn) (.z .any) k
def rep (z : List Value) : Nat → List Value
  | 0 => []
  | m + 1 => z ++ rep z m
/-- a slice literal's cells, element by element -/
def bsl (P : Program) (T : TypeId) (len : Nat) (parts : List (Nat × Value)) : Option (TypeId × Nat × List Value) :=
  match P.underlying T with
  | some (.slice e) =>
    match P.info? e with
    | some ie =>
      match ie.zero with
      | some z => bif Nat.ble (len * ie.size) 16777216 && Nat.beq (cl1 z).length ie.size && Nat.blt 0 (len * ie.size) then (fl (fun i => some (i * ie.size, ie.size)) (rep (cl1 z) len) parts).map fun cs => (e, ie.size, cs) else none
      | none => none
    | none => none
  | _ => none
theorem rep_length (z : List Value) : ∀ m, (rep z m).length = m * z.length
  | 0 => by simp [rep]
  | m + 1 => by simp [rep, rep_length z m, Nat.succ_mul]; omega
theorem rep_get (z : List Value) : ∀ (m i : Nat), i < m * z.length → (rep z m)[i]? = z[i % z.length]?
  | 0, i, h => by simp at h
  | m + 1, i, h => by
    simp only [rep]
    by_cases hi : i < z.length
    · rw [List.getElem?_append_left hi, Nat.mod_eq_of_lt hi]
    · rw [List.getElem?_append_right (by omega)]
      rw [Nat.succ_mul] at h
      rw [rep_get z m _ (by omega), Nat.mod_eq_sub_mod (by omega : z.length ≤ i)]
theorem run_buildSlice {T e : TypeId} {len size : Nat} {parts : List (Nat × Value)} {cs : List Value} (h : bsl P T len parts = some (e, size, cs)) :
    (Instr.buildSlice T len parts.toArray).run P w = .ok (.slice (some ⟨w.heap.size, 0, none⟩) len len) (w.alloc (.cells cs.toArray e)) := by
  unfold bsl at h
  split at h <;> try (cases h; done)
  rename_i e' hu
  split at h <;> try (cases h; done)
  rename_i ie hie
  split at h <;> try (cases h; done)
  rename_i z hz
  cases hb : Nat.ble (len * ie.size) 16777216 && Nat.beq (cl1 z).length ie.size && Nat.blt 0 (len * ie.size) with
  | false => rw [hb] at h; simp at h
  | true =>
    rw [hb] at h
    simp only [cond_true] at h
    simp only [Bool.and_eq_true] at hb
    have h1 := Nat.le_of_ble_eq_true hb.1.1
    have h2 := Nat.eq_of_beq_eq_true hb.1.2
    have h3 : 0 < len * ie.size := by
      have h4 : 0 + 1 ≤ len * ie.size := by simpa [Nat.blt] using hb.2
      omega
    obtain ⟨cs1, hcs, he⟩ := Option.map_eq_some_iff.1 h
    injection he with he1 he2
    injection he2 with he2 he3
    subst he1
    subst he2
    subst he3
    have hf := fl_fill _ _ _ _ hcs
    have hz' : z.cells = (cl1 z).toArray := (cl1_eq z).symm
    have hcell : ((Array.range (len * ie.size)).map fun x => z.cells[x % z.cells.size]!) = (rep (cl1 z) len).toArray := by
      rw [hz']
      apply Array.ext
      · simp [rep_length, h2]
      · intro i hi1 hi2
        simp only [Array.size_map, Array.size_range] at hi1
        have hlt : i % (cl1 z).length < (cl1 z).length := Nat.mod_lt _ (by rcases Nat.eq_zero_or_pos (cl1 z).length with h0 | h0; (rw [← h2, h0] at h3; simp at h3); exact h0)
        have hg := rep_get (cl1 z) len i (by rw [h2]; exact hi1)
        simp only [List.size_toArray] at hi2
        rw [List.getElem?_eq_getElem hi2, List.getElem?_eq_getElem hlt] at hg
        injection hg with hg
        simp only [Array.getElem_map, Array.getElem_range, List.getElem_toArray, hg, List.size_toArray]
        rw [getElem!_pos _ _ (by simpa using hlt)]
        simp
    have hne : ¬ (len * ie.size = 0) := by omega
    have hng : ¬ (len * ie.size > 16777216) := by omega
    simp [Instr.buildSlice, run_underlying hu, sizeOf, typeInfo, hie, hng, hne, zeroValue, hz, hcell, hf, newRow]
theorem wl_buildSlice {T e : TypeId} {len size : Nat} {pl : List (Nat × Operand)} {cs cs' : List Value} (S : Sat w0 M h w) (hg : want ops f o = true) (hop : o.op = .buildSlice T len pl.toArray) (hd : o.dst = some d) (hdn : Nat.blt d n = true)
    (hb : bsl P T len (pvs f pl) = some (e, size, cs)) (hn : NL cs cs')
    (k : ∀ b w', Sat w0 M (.cl b e cs' :: h) w' → WL P ro n ops Q rest D (upd f d (.slice (some ⟨b, 0, none⟩) len len)) w') : WL P ro n ops Q (o :: rest) D f w := by
  refine wl_run (v := .slice (some ⟨w.heap.size, 0, none⟩) len len) (w' := w.alloc (.cells cs'.toArray e)) hg (by rw [hd]; exact hdn) ?_ ?_
  · unfold execOp
    rw [hop]
    simp only [pvs_eq, Sem.run_bind, run_buildSlice hb, Result.andThen_ok, Sem.run_pure, hn.eq]
  · rw [hd]
    exact k _ _ (S.alloc e cs')
/-- a slice over a block of the call's own, read -/
theorem Sat.rdcl (S : Sat w0 M h w) {b : Nat} {T : TypeId} {cs : List Value} (hh : Has h (.cl b T cs)) (size m : Nat) : Rd w (some ⟨b, 0, none⟩) size m (fun i => (cs.drop (i * size)).take size) := by
  refine ⟨fun _ => rfl, fun i j u _ hu => ?_⟩
  have hb := S.cl hh
  unfold ea
  simp only [Option.getD_some]
  rw [add_at, cell_of_row w b _ _ _ _ hb]
  rw [List.getElem?_take] at hu
  split at hu
  · rw [List.getElem?_drop] at hu
    simpa using hu
  · cases hu

/-! ### calls -/
/-- the function g is entered -/
def Ent (P : Program) (g : FuncId) : Prop := ∀ as w, (callFunc g as).run P w = .ok (.enter g as) w
theorem run_callv {x : Operand} {g : FuncId} {cap : List Value} {al : List Operand} {ts : Array TypeId} (hop : o.op = .call { callee := .value x, args := al.toArray, argTypes := ts })
    (hx : fev f x = .func (.func g) #[] cap.toArray) (hE : Ent P g) : (execOp (fev f) o).run P w = .ok (.enter g (evs f al ++ cap).toArray) w := by
  unfold execOp
  rw [hop]
  simp only [resolve, hx, Deferred.ofValue, evs_eq, Sem.run_bind, Sem.run_pure, Result.andThen_ok, invoke]
  rw [show (#[] ++ (evs f al).toArray ++ cap.toArray) = (evs f al ++ cap).toArray from by simp]
  exact hE _ _
theorem wl_call {x : Operand} {g : FuncId} {cap : List Value} {al : List Operand} {ts : Array TypeId} {as : List Value} {R : Value → World → Prop} (hg : want ops f o = true)
    (hop : o.op = .call { callee := .value x, args := al.toArray, argTypes := ts }) (hd : o.dst = some d) (hdn : Nat.blt d n = true)
    (hx : fev f x = .func (.func g) #[] cap.toArray) (hE : Ent P g) (ha : NA (evs f al ++ cap) as) (hc : Calls P g as.toArray w (RetP R))
    (k : ∀ v w', R v w' → WL P ro n ops Q rest D (upd f d v) w') : WL P ro n ops Q (o :: rest) D f w := by
  refine wl_enter hg (by rw [hd]; exact hdn) (run_callv hop hx hE) (by rw [ha.eq]; exact hc) ?_
  rintro e w' ⟨v, rfl, hR⟩
  refine ⟨v, rfl, ?_⟩
  rw [hd]
  exact k _ _ hR
/-- the value V, old memory as it was -/
def Val (V : Value) (w : World) : Value → World → Prop := fun v w' => v = V ∧ Keeps [] w w'
theorem wl_callv {x : Operand} {g : FuncId} {cap : List Value} {al : List Operand} {ts : Array TypeId} {as : List Value} {V : Value} (S : Sat w0 M h w) (hg : want ops f o = true)
    (hop : o.op = .call { callee := .value x, args := al.toArray, argTypes := ts }) (hd : o.dst = some d) (hdn : Nat.blt d n = true)
    (hx : fev f x = .func (.func g) #[] cap.toArray) (ha : NA (evs f al ++ cap) as) (hE : Ent P g) (hc : Calls P g as.toArray w (RetP (Val V w)))
    (k : ∀ w', Keeps [] w w' → Sat w0 M h w' → WL P ro n ops Q rest D (upd f d V) w') : WL P ro n ops Q (o :: rest) D f w :=
  wl_call hg hop hd hdn hx hE ha hc (by rintro v w' ⟨rfl, hk⟩; exact k _ hk (S.call hk))
theorem r_builtin {b : Builtin} {al : List Operand} {ts : Array TypeId} {v0 : Value} (hop : o.op = .call { callee := .builtin b, args := al.toArray, argTypes := ts })
    (hr : ∀ c, (builtin b ts o.type c (evs f al).toArray).run P w = .ok (.value v0) w) : (execOp (fev f) o).run P w = .ok (.value v0) w := by
  unfold execOp
  rw [hop]
  simp only [resolve, evs_eq, Sem.run_bind, Sem.run_pure, Result.andThen_ok, invoke]
  exact hr _
theorem wl_builtin {b : Builtin} {al : List Operand} {ts : Array TypeId} {v0 v : Value} (hg : want ops f o = true)
    (hop : o.op = .call { callee := .builtin b, args := al.toArray, argTypes := ts }) (hd : o.dst = some d) (hdn : Nat.blt d n = true)
    (hr : ∀ c, (builtin b ts o.type c (evs f al).toArray).run P w = .ok (.value v0) w) (hi : Is v0 v) (k : WL P ro n ops Q rest D (upd f d v) w) : WL P ro n ops Q (o :: rest) D f w := by
  exact wl_val hg hd hdn (r_builtin hop hr) hi k

/-! ### results -/
inductive RV (P : Program) (f : Fm) (h : List HO) : List ResultVar → List Value → Prop
  | nil : RV P f h [] []
  | tmp {t : Nat} {v : Value} {r : List ResultVar} {vs : List Value} : Is (f t) v → RV P f h r vs → RV P f h (.tmp t :: r) (v :: vs)
  | cell {a b off : Nat} {T T' : TypeId} {cs : List Value} {kk : Option Nat} {v0 v : Value} {r : List ResultVar} {vs : List Value} : f a = .pointer (some ⟨b, off, none⟩) → Has h (.cl b T' cs) →
      ldk P T = some kk → ldv kk cs off = some v0 → Is v0 v → RV P f h r vs → RV P f h (.cell a T :: r) (v :: vs)
def pack : List Value → Value
  | [v] => v
  | vs => .tuple vs.toArray
theorem RV.run {rs : List ResultVar} {vs : List Value} (hr : RV P f h rs vs) (S : Sat w0 M h w) :
    (rs.mapM (resF f)).run P w = .ok vs w := by
  induction hr with
  | nil => rfl
  | tmp hi _ ih => simp only [List.mapM_cons, resF, Sem.run_bind, Sem.run_pure, Result.andThen_ok, ih, hi.eq]
  | cell ha hh hk hv hi _ ih =>
    rename_i a b off T T' cs kk v0 v r vs _
    have hb := S.cl hh
    have hl := run_load_cells (P := P) (w := w) (a := ⟨b, off, none⟩) hk hv (fun j u hu => by rw [add_at, cell_of_row w b _ _ _ _ hb]; simpa using hu)
    have ha' : (asAddr (f a)).run P w = .ok ⟨b, off, none⟩ w := by rw [ha]; rfl
    have hc : (resF f (.cell a T)).run P w = .ok v0 w := by simp only [resF, Sem.run_bind, ha', Result.andThen_ok, hl]
    simp only [List.mapM_cons, Sem.run_bind, Sem.run_pure, Result.andThen_ok, hc, ih, hi.eq]
theorem run_results {fn : Func} {rs : List ResultVar} {vs : List Value} (hf : fn.results = rs.toArray) (hr : RV P f h rs vs) (S : Sat w0 M h w) : (resultsF fn f).run P w = .ok (pack vs) w := by
  unfold resultsF
  rw [hf, Array.mapM_eq_mapM_toList]
  have := hr.run S
  simp only [Sem.run_bind, Sem.run_map, this, Result.andThen_ok, Sem.run_pure]
  match vs with
  | [] => rfl
  | [v] => rfl
  | _ :: _ :: _ => rfl
theorem q_retS {fn : Func} {R : Value → World → Prop} {rs : List ResultVar} {vs : List Value} (S : Sat w0 M h w) (hf : fn.results = rs.toArray) (hr : RV P f h rs vs) (hR : R (pack vs) w) : retQ P fn R .ret [] f w :=
  q_ret _ (run_results hf hr S) hR
theorem q_endS {fn : Func} {R : Value → World → Prop} {rs : List ResultVar} {vs : List Value} (S : Sat w0 M h w) (hf : fn.results = rs.toArray) (hr : RV P f h rs vs) (hR : R (pack vs) w) : retQ P fn R .normal [] f w :=
  q_end _ (run_results hf hr S) hR
end
end Go.Proofs.Ytfkcihcbmlcajaa
/- The operations' lemmas once more, the operation written out in the conclusion, so that 'apply' tells them apart. No statement of the seat is proved here. -/
namespace Go.Proofs.Ytfkcihcbmlcajaa
set_option linter.unusedVariables false
set_option linter.unusedSimpArgs false
open Go Go.RowKit
section
variable {P : Program} {ro : Option Nat} {n : Nat} {Q : Post} {D : List Deferred} {f : Fm} {w w0 : World} {M : List Nat} {h : List HO}
variable {ops : Array Oper} {rest : List Oper} {d ty : Nat} {ps : String} {af : Array Edge} {gd : Option (Nat × Bool)}
variable {l : List (Nat × Operand)} {al cl : List Operand} {x y : Operand} {T e len size i : Nat}

theorem want_none {o : Oper} (h : o.guard = none) : want ops f o = true := by unfold want Region.wanted; rw [h]
/-- passed over -/
theorem x_not {op : Op} {j : Nat} {wn : Bool} (hg : want ops f ⟨some d, op, ty, ps, af, some (j, wn)⟩ = false) (hdn : Nat.blt d n = true) (k : WL P ro n ops Q rest D (upd f d undef) w) : WL P ro n ops Q (⟨some d, op, ty, ps, af, some (j, wn)⟩ :: rest) D f w :=
  wl_not hg rfl hdn k
theorem x_move {v : Value} (hg : want ops f ⟨some d, .move x, ty, ps, af, gd⟩ = true) (hdn : Nat.blt d n = true) (hi : Is (fev f x) v) (k : WL P ro n ops Q rest D (upd f d v) w) : WL P ro n ops Q (⟨some d, .move x, ty, ps, af, gd⟩ :: rest) D f w :=
  wl_val hg rfl hdn rfl hi k
theorem x_assign {v : Value} (hg : want ops f ⟨some d, .assign x, ty, ps, af, gd⟩ = true) (hdn : Nat.blt d n = true) (hi : Is (fev f x) v) (k : WL P ro n ops Q rest D (upd f d v) w) : WL P ro n ops Q (⟨some d, .assign x, ty, ps, af, gd⟩ :: rest) D f w :=
  wl_val hg rfl hdn rfl hi k
theorem x_pick {c : Operand} {b : Bool} {v : Value} (hg : want ops f ⟨some d, .pick c x y, ty, ps, af, gd⟩ = true) (hdn : Nat.blt d n = true) (hc : fev f c = .bool b) (hi : Is (bif b then fev f x else fev f y) v) (k : WL P ro n ops Q rest D (upd f d v) w) : WL P ro n ops Q (⟨some d, .pick c x y, ty, ps, af, gd⟩ :: rest) D f w :=
  wl_val (v0 := bif b then fev f x else fev f y) hg rfl hdn (by simp only [execOp, hc, asBool, Sem.run_bind, Sem.run_pure, Result.andThen_ok]; cases b <;> rfl) hi k
theorem x_bin {op : BinOp} {xt yt : Nat} {v0 v : Value} (hg : want ops f ⟨some d, .binOp op xt x y yt, ty, ps, af, gd⟩ = true) (hdn : Nat.blt d n = true)
    (hr : (execOp (fev f) ⟨some d, .binOp op xt x y yt, ty, ps, af, gd⟩).run P w = .ok (.value v0) w) (hi : Is v0 v) (k : WL P ro n ops Q rest D (upd f d v) w) : WL P ro n ops Q (⟨some d, .binOp op xt x y yt, ty, ps, af, gd⟩ :: rest) D f w :=
  wl_val hg rfl hdn hr hi k
theorem x_un {op : UnOp} {xt : Nat} {v0 v : Value} (hg : want ops f ⟨some d, .unOp op xt x, ty, ps, af, gd⟩ = true) (hdn : Nat.blt d n = true)
    (hr : (execOp (fev f) ⟨some d, .unOp op xt x, ty, ps, af, gd⟩).run P w = .ok (.value v0) w) (hi : Is v0 v) (k : WL P ro n ops Q rest D (upd f d v) w) : WL P ro n ops Q (⟨some d, .unOp op xt x, ty, ps, af, gd⟩ :: rest) D f w :=
  wl_val hg rfl hdn hr hi k
theorem x_conv {s t : Nat} {v0 v : Value} (hg : want ops f ⟨some d, .convert s t x, ty, ps, af, gd⟩ = true) (hdn : Nat.blt d n = true)
    (hr : (execOp (fev f) ⟨some d, .convert s t x, ty, ps, af, gd⟩).run P w = .ok (.value v0) w) (hi : Is v0 v) (k : WL P ro n ops Q rest D (upd f d v) w) : WL P ro n ops Q (⟨some d, .convert s t x, ty, ps, af, gd⟩ :: rest) D f w :=
  wl_val hg rfl hdn hr hi k
theorem x_extract {v0 v : Value} (hg : want ops f ⟨some d, .extract x i, ty, ps, af, gd⟩ = true) (hdn : Nat.blt d n = true)
    (hr : (execOp (fev f) ⟨some d, .extract x i, ty, ps, af, gd⟩).run P w = .ok (.value v0) w) (hi : Is v0 v) (k : WL P ro n ops Q rest D (upd f d v) w) : WL P ro n ops Q (⟨some d, .extract x i, ty, ps, af, gd⟩ :: rest) D f w :=
  wl_val hg rfl hdn hr hi k
theorem x_box {v : Value} {cs : List Value} (S : Sat w0 M h w) (hg : want ops f ⟨some d, .box T x, ty, ps, af, gd⟩ = true) (hdn : Nat.blt d n = true) (hi : Is (fev f x) v) (hn : NL (cl1 v) cs)
    (k : ∀ b w', Sat w0 M (.cl b T cs :: h) w' → WL P ro n ops Q rest D (upd f d (.pointer (some ⟨b, 0, none⟩))) w') : WL P ro n ops Q (⟨some d, .box T x, ty, ps, af, gd⟩ :: rest) D f w :=
  wl_box S hg rfl rfl hdn hi hn k
theorem x_alloc {z : Value} {cs : List Value} (S : Sat w0 M h w) (hg : want ops f ⟨some d, .alloc T, ty, ps, af, gd⟩ = true) (hdn : Nat.blt d n = true) (hz : (P.info? T).bind (·.zero) = some z) (hn : NL (cl1 z) cs)
    (k : ∀ b w', Sat w0 M (.cl b T cs :: h) w' → WL P ro n ops Q rest D (upd f d (.pointer (some ⟨b, 0, none⟩))) w') : WL P ro n ops Q (⟨some d, .alloc T, ty, ps, af, gd⟩ :: rest) D f w :=
  wl_alloc S hg rfl rfl hdn hz hn k
theorem x_load {T' b off : Nat} {kk : Option Nat} {cs : List Value} {v0 v : Value} (S : Sat w0 M h w) (hg : want ops f ⟨some d, .load T x, ty, ps, af, gd⟩ = true) (hdn : Nat.blt d n = true)
    (hx : fev f x = .pointer (some ⟨b, off, none⟩)) (hh : Has h (.cl b T' cs)) (hk : ldk P T = some kk) (hv : ldv kk cs off = some v0) (hi : Is v0 v)
    (k : WL P ro n ops Q rest D (upd f d v) w) : WL P ro n ops Q (⟨some d, .load T x, ty, ps, af, gd⟩ :: rest) D f w :=
  wl_load S hg rfl rfl hdn hx hh hk hv hi k
theorem x_loadB {T' b off : Nat} {kk : Option Nat} {cs : List Value} {v0 v : Value} (S : Sat w0 M h w) (hg : want ops f ⟨some d, .load T x, ty, ps, af, gd⟩ = true) (hdn : Nat.blt d n = true)
    (hx : fev f x = .pointer (some ⟨b, off, none⟩)) (O : OldB w0 M b T' cs) (hk : ldk P T = some kk) (hv : ldv kk cs off = some v0) (hi : Is v0 v)
    (k : WL P ro n ops Q rest D (upd f d v) w) : WL P ro n ops Q (⟨some d, .load T x, ty, ps, af, gd⟩ :: rest) D f w :=
  wl_load_at hg rfl rfl hdn hx (O.cells S) hk hv hi k
theorem x_loadR {A : Option Addr} {j off m : Nat} {cell : Nat → List Value} {kk : Option Nat} {v0 v : Value} (hg : want ops f ⟨some d, .load T x, ty, ps, af, gd⟩ = true) (hdn : Nat.blt d n = true)
    (hx : fev f x = .pointer (some (ea A size j off))) (R : Rd w A size m cell) (him : j < m) (hk : ldk P T = some kk) (hv : ldv kk (cell j) off = some v0) (hi : Is v0 v)
    (k : WL P ro n ops Q rest D (upd f d v) w) : WL P ro n ops Q (⟨some d, .load T x, ty, ps, af, gd⟩ :: rest) D f w :=
  wl_load_rd hg rfl rfl hdn hx R him hk hv hi k
theorem x_store {T' b off : Nat} {v : Value} {cs cs' : List Value} {h' : List HO} (S : Sat w0 M h w) (hg : want ops f ⟨none, .store T x y, ty, ps, af, gd⟩ = true)
    (hx : fev f x = .pointer (some ⟨b, off, none⟩)) (hy : Is (fev f y) v) (r : Rep h (.cl b T' cs) (.cl b T' cs') h') (hs : (P.info? T).map (·.size) = some (cl1 v).length) (h1 : ones (cl1 v) = true)
    (hfit : Nat.ble (off + (cl1 v).length) cs.length = true) (hcs : NL (spl cs off (cl1 v)) cs')
    (k : ∀ w', Sat w0 M h' w' → WL P ro n ops Q rest D f w') : WL P ro n ops Q (⟨none, .store T x y, ty, ps, af, gd⟩ :: rest) D f w :=
  wl_store S hg rfl rfl hx hy r hs h1 hfit hcs k
theorem x_fieldB {b off k0 r : Nat} (hg : want ops f ⟨some d, .fieldAddr T x i, ty, ps, af, gd⟩ = true) (hdn : Nat.blt d n = true)
    (hx : fev f x = .pointer (some ⟨b, off, none⟩)) (hf : fieldOff P T i = some k0) (hn : IsN (off + k0) r) (k : WL P ro n ops Q rest D (upd f d (.pointer (some ⟨b, r, none⟩))) w) : WL P ro n ops Q (⟨some d, .fieldAddr T x i, ty, ps, af, gd⟩ :: rest) D f w :=
  wl_fieldB hg rfl rfl hdn hx hf hn k
theorem x_fieldE {A : Option Addr} {j off k0 r : Nat} (hg : want ops f ⟨some d, .fieldAddr T x i, ty, ps, af, gd⟩ = true) (hdn : Nat.blt d n = true)
    (hx : fev f x = .pointer (some (ea A size j off))) (hf : fieldOff P T i = some k0) (hn : IsN (off + k0) r) (k : WL P ro n ops Q rest D (upd f d (.pointer (some (ea A size j r)))) w) : WL P ro n ops Q (⟨some d, .fieldAddr T x i, ty, ps, af, gd⟩ :: rest) D f w :=
  wl_fieldE hg rfl rfl hdn hx hf hn k
theorem x_index {A : Option Addr} {m c j : Nat} {kd : IntKind} (hg : want ops f ⟨some d, .indexAddr T x y, ty, ps, af, gd⟩ = true) (hdn : Nat.blt d n = true)
    (hx : fev f x = .slice A m c) (hy : fev f y = .int kd (j : Int)) (hs : elemSize P T = some e) (hz : IsN e size) (hi : j < m) (hA : A.isSome = true)
    (k : WL P ro n ops Q rest D (upd f d (.pointer (some (ea A size j 0)))) w) : WL P ro n ops Q (⟨some d, .indexAddr T x y, ty, ps, af, gd⟩ :: rest) D f w :=
  wl_val (v0 := .pointer (some (ea A size j 0))) hg rfl hdn (r_index rfl hx hy (hz.eq ▸ hs) hi hA) (.z .any) k
theorem x_indexI {A : Option Addr} {m c : Nat} {z : Int} {kd : IntKind} (hg : want ops f ⟨some d, .indexAddr T x y, ty, ps, af, gd⟩ = true) (hdn : Nat.blt d n = true)
    (hx : fev f x = .slice A m c) (hy : fev f y = .int kd z) (hs : elemSize P T = some e) (hz : IsN e size) (h0 : 0 ≤ z) (hi : z < m) (hA : A.isSome = true)
    (k : WL P ro n ops Q rest D (upd f d (.pointer (some (ea A size z.toNat 0)))) w) : WL P ro n ops Q (⟨some d, .indexAddr T x y, ty, ps, af, gd⟩ :: rest) D f w :=
  wl_val (v0 := .pointer (some (ea A size z.toNat 0))) hg rfl hdn (r_indexI rfl hx hy (hz.eq ▸ hs) h0 hi hA) (.z .any) k
theorem x_indexArr {a : Addr} {m : Nat} {z : Int} {kd : IntKind} {v : Value} (hg : want ops f ⟨some d, .indexAddr T x y, ty, ps, af, gd⟩ = true) (hdn : Nat.blt d n = true)
    (hx : fev f x = .pointer (some a)) (hy : fev f y = .int kd z) (hs : arrSize P T = some (m, size)) (h0 : 0 ≤ z) (h1 : z < m) (hi : Is0 (.pointer (some (a.add (z.toNat * size)))) v)
    (k : WL P ro n ops Q rest D (upd f d v) w) : WL P ro n ops Q (⟨some d, .indexAddr T x y, ty, ps, af, gd⟩ :: rest) D f w :=
  wl_val hg rfl hdn (r_indexArr rfl hx hy hs h0 h1) (.z hi) k
theorem x_build {cs cs' : List Value} (hg : want ops f ⟨some d, .build T l.toArray, ty, ps, af, gd⟩ = true) (hdn : Nat.blt d n = true)
    (hb : bld P T (pvs f l) = some cs) (hn : NL cs cs') (k : WL P ro n ops Q rest D (upd f d (.agg cs'.toArray)) w) : WL P ro n ops Q (⟨some d, .build T l.toArray, ty, ps, af, gd⟩ :: rest) D f w :=
  wl_build hg rfl rfl hdn hb hn k
theorem x_makeFunc {fn : Fn} {l' : List Value} (hg : want ops f ⟨some d, .makeFunc fn #[] cl.toArray, ty, ps, af, gd⟩ = true) (hdn : Nat.blt d n = true)
    (hn : NL (evs f cl) l') (k : WL P ro n ops Q rest D (upd f d (.func fn #[] l'.toArray)) w) : WL P ro n ops Q (⟨some d, .makeFunc fn #[] cl.toArray, ty, ps, af, gd⟩ :: rest) D f w :=
  wl_makeFunc hg rfl rfl hdn hn k
theorem x_buildSlice {cs cs' : List Value} (S : Sat w0 M h w) (hg : want ops f ⟨some d, .buildSlice T len l.toArray, ty, ps, af, gd⟩ = true) (hdn : Nat.blt d n = true)
    (hb : bsl P T len (pvs f l) = some (e, size, cs)) (hn : NL cs cs')
    (k : ∀ b w', Sat w0 M (.cl b e cs' :: h) w' → WL P ro n ops Q rest D (upd f d (.slice (some ⟨b, 0, none⟩) len len)) w') : WL P ro n ops Q (⟨some d, .buildSlice T len l.toArray, ty, ps, af, gd⟩ :: rest) D f w :=
  wl_buildSlice S hg rfl rfl hdn hb hn k
theorem x_callv {g : FuncId} {cap as : List Value} {ts : Array TypeId} {V : Value} (S : Sat w0 M h w) (hg : want ops f ⟨some d, .call ⟨.value x, al.toArray, ts⟩, ty, ps, af, gd⟩ = true) (hdn : Nat.blt d n = true)
    (hx : fev f x = .func (.func g) #[] cap.toArray) (hE : Ent P g) (ha : NA (evs f al ++ cap) as) (hc : Calls P g as.toArray w (RetP (Val V w)))
    (k : ∀ w', Keeps [] w w' → Sat w0 M h w' → WL P ro n ops Q rest D (upd f d V) w') : WL P ro n ops Q (⟨some d, .call ⟨.value x, al.toArray, ts⟩, ty, ps, af, gd⟩ :: rest) D f w :=
  wl_callv S hg rfl rfl hdn hx ha hE hc k
theorem x_call {g : FuncId} {cap as : List Value} {ts : Array TypeId} {R : Value → World → Prop} (hg : want ops f ⟨some d, .call ⟨.value x, al.toArray, ts⟩, ty, ps, af, gd⟩ = true) (hdn : Nat.blt d n = true)
    (hx : fev f x = .func (.func g) #[] cap.toArray) (hE : Ent P g) (ha : NA (evs f al ++ cap) as) (hc : Calls P g as.toArray w (RetP R))
    (k : ∀ v w', R v w' → WL P ro n ops Q rest D (upd f d v) w') : WL P ro n ops Q (⟨some d, .call ⟨.value x, al.toArray, ts⟩, ty, ps, af, gd⟩ :: rest) D f w :=
  wl_call hg rfl rfl hdn hx hE ha hc k
theorem x_builtin {b : Builtin} {ts : Array TypeId} {v0 v : Value} (hg : want ops f ⟨some d, .call ⟨.builtin b, al.toArray, ts⟩, ty, ps, af, gd⟩ = true) (hdn : Nat.blt d n = true)
    (hr : ∀ c, (builtin b ts ty c (evs f al).toArray).run P w = .ok (.value v0) w) (hi : Is v0 v) (k : WL P ro n ops Q rest D (upd f d v) w) : WL P ro n ops Q (⟨some d, .call ⟨.builtin b, al.toArray, ts⟩, ty, ps, af, gd⟩ :: rest) D f w :=
  wl_builtin hg rfl rfl hdn hr hi k
/-- a guard that is not decided -/
theorem x_gsplit {op : Op} {dd : Option Nat} {j t : Nat} {wn b : Bool} (hj : (ops[j]?).bind (·.dst) = some t) (hf : f t = .bool b)
    (h1 : b = true → WL P ro n ops Q (⟨dd, op, ty, ps, af, some (j, wn)⟩ :: rest) D (upd f t (.bool true)) w) (h2 : b = false → WL P ro n ops Q (⟨dd, op, ty, ps, af, some (j, wn)⟩ :: rest) D (upd f t (.bool false)) w) :
    WL P ro n ops Q (⟨dd, op, ty, ps, af, some (j, wn)⟩ :: rest) D f w := wl_gsplit rfl hj hf h1 h2
theorem x_gnot {op : Op} {dd : Option Nat} {j t : Nat} {wn b : Bool} (hj : (ops[j]?).bind (·.dst) = some t) (hf : f t = .bool (!b))
    (h1 : b = false → WL P ro n ops Q (⟨dd, op, ty, ps, af, some (j, wn)⟩ :: rest) D (upd f t (.bool true)) w) (h2 : b = true → WL P ro n ops Q (⟨dd, op, ty, ps, af, some (j, wn)⟩ :: rest) D (upd f t (.bool false)) w) :
    WL P ro n ops Q (⟨dd, op, ty, ps, af, some (j, wn)⟩ :: rest) D f w := wl_gnot rfl hj hf h1 h2
theorem x_gdec {op : Op} {dd : Option Nat} {j t : Nat} {wn : Bool} {p : Prop} {inst : Decidable p} (hj : (ops[j]?).bind (·.dst) = some t) (hf : f t = .bool (decide p))
    (h1 : p → WL P ro n ops Q (⟨dd, op, ty, ps, af, some (j, wn)⟩ :: rest) D (upd f t (.bool true)) w) (h2 : ¬ p → WL P ro n ops Q (⟨dd, op, ty, ps, af, some (j, wn)⟩ :: rest) D (upd f t (.bool false)) w) :
    WL P ro n ops Q (⟨dd, op, ty, ps, af, some (j, wn)⟩ :: rest) D f w := wl_gdec rfl hj hf h1 h2
theorem x_geq {op : Op} {dd : Option Nat} {j t : Nat} {wn : Bool} {p q : Int} (hj : (ops[j]?).bind (·.dst) = some t) (hf : f t = .bool (p == q))
    (h1 : p = q → WL P ro n ops Q (⟨dd, op, ty, ps, af, some (j, wn)⟩ :: rest) D (upd f t (.bool true)) w) (h2 : ¬ p = q → WL P ro n ops Q (⟨dd, op, ty, ps, af, some (j, wn)⟩ :: rest) D (upd f t (.bool false)) w) :
    WL P ro n ops Q (⟨dd, op, ty, ps, af, some (j, wn)⟩ :: rest) D f w := wl_geq rfl hj hf h1 h2
theorem x_gne {op : Op} {dd : Option Nat} {j t : Nat} {wn : Bool} {p q : Int} (hj : (ops[j]?).bind (·.dst) = some t) (hf : f t = .bool (p != q))
    (h1 : ¬ p = q → WL P ro n ops Q (⟨dd, op, ty, ps, af, some (j, wn)⟩ :: rest) D (upd f t (.bool true)) w) (h2 : p = q → WL P ro n ops Q (⟨dd, op, ty, ps, af, some (j, wn)⟩ :: rest) D (upd f t (.bool false)) w) :
    WL P ro n ops Q (⟨dd, op, ty, ps, af, some (j, wn)⟩ :: rest) D f w := wl_gne rfl hj hf h1 h2
theorem x_dec {c : Operand} {a b : Code} {p : Prop} {inst : Decidable p} (hc : fev f c = .bool (decide p)) (ht : p → CW P ro n a Q D f w) (hf : ¬ p → CW P ro n b Q D f w) :
    CW P ro n (.cond c a b) Q D f w := cw_dec hc ht hf
theorem x_ndec {c : Operand} {a b : Code} {e : Bool} {p : Prop} {inst : Decidable p} (hc : fev f c = .bool e) (he : e = !decide p) (ht : ¬ p → CW P ro n a Q D f w) (hf : p → CW P ro n b Q D f w) :
    CW P ro n (.cond c a b) Q D f w := cw_not (hc.trans (by rw [he])) (fun h => ht (of_decide_eq_false h)) (fun h => hf (of_decide_eq_true h))
theorem x_gndec {op : Op} {dd : Option Nat} {j t : Nat} {wn e : Bool} {p : Prop} {inst : Decidable p} (hj : (ops[j]?).bind (·.dst) = some t) (hf : f t = .bool e) (he : e = !decide p)
    (h1 : ¬ p → WL P ro n ops Q (⟨dd, op, ty, ps, af, some (j, wn)⟩ :: rest) D (upd f t (.bool true)) w) (h2 : p → WL P ro n ops Q (⟨dd, op, ty, ps, af, some (j, wn)⟩ :: rest) D (upd f t (.bool false)) w) :
    WL P ro n ops Q (⟨dd, op, ty, ps, af, some (j, wn)⟩ :: rest) D f w := x_gnot hj (hf.trans (by rw [he])) (fun h => h1 (of_decide_eq_false h)) (fun h => h2 (of_decide_eq_true h))
end
end Go.Proofs.Ytfkcihcbmlcajaa
