/- EngG: several texts in one. No statement of the seat is proved here. -/
import Derived.Test.YtfkcihcbmlcajaaEngE
import Derived.Laws.IdiomStrings
import Derived.Laws.StructEq
import Derived.Test.YtfkcihcbmlcajaaEngL
/- Calls that give a new block; loops' ends; closures. No statement of the seat is proved here. -/
namespace Go.Proofs.Ytfkcihcbmlcajaa
set_option linter.unusedVariables false
set_option linter.unusedSimpArgs false
open Go Go.RowKit
section
variable {P : Program} {ro : Option Nat} {n : Nat} {Q : Post} {D : List Deferred} {f : Fm} {w w0 w' : World} {M : List Nat} {h : List HO}
variable {ops : Array Oper} {rest : List Oper} {prest : List (Nat × Oper)} {d ty : Nat} {ps : String} {af : Array Edge} {gd : Option (Nat × Bool)} {al : List Operand} {x : Operand}

theorem NA.rfl_ : ∀ l : List Value, NA l l
  | [] => .nil
  | _ :: l => .cons (.z .any) (NA.rfl_ l)
theorem Sat.drop1 {o : HO} (S : Sat w0 M (o :: h) w) : Sat w0 M h w := S.drop _ (List.sublist_cons_self _ _)
theorem Sat.drop2 {o o' : HO} (S : Sat w0 M (o :: o' :: h) w) : Sat w0 M h w := S.drop1.drop1
/-- a value that hangs on one new block -/
def NewR (V : Nat → Value) (T : TypeId) (cs : List Value) (w : World) : Value → World → Prop := fun v w' => ∃ b, v = V b ∧ Keeps [] w w' ∧ w.heap.size ≤ b ∧ w'.heap[b]? = some (.cells cs.toArray T (0, 0))
theorem Sat.new (S : Sat w0 M h w) (hk : Keeps [] w w') {b : Nat} {T : TypeId} {cs : List Value} (hb : w.heap.size ≤ b) (hc : w'.heap[b]? = some (.cells cs.toArray T (0, 0))) : Sat w0 M (.cl b T cs :: h) w' :=
  S.add hk.grown ⟨hc, .inl (Nat.le_trans S.le hb)⟩ (fun k e => by injection e with e; omega)
theorem St.new' (h : List HO) (hk : Keeps [] w w') {b : Nat} {T : TypeId} {cs : List Value} (hb : w.heap.size ≤ b) : St h (.cl b T cs :: h) w w' :=
  ⟨hk.os, hk.tape, hk.output, hk.size, fun k hlt _ => hk.block k hlt (by simp), fun o ho k hok => by
    rcases List.mem_cons.1 ho with rfl | ho
    · injection hok with hok; exact .inr (by omega)
    · exact .inl ⟨o, ho, hok⟩⟩
theorem x_calln {g : FuncId} {cap as : List Value} {ts : Array TypeId} {V : Nat → Value} {T : TypeId} {cs : List Value} (S : Sat w0 M h w) (hg : want ops f ⟨some d, .call ⟨.value x, al.toArray, ts⟩, ty, ps, af, gd⟩ = true) (hdn : Nat.blt d n = true)
    (hx : fev f x = .func (.func g) #[] cap.toArray) (hE : Ent P g) (ha : NA (evs f al ++ cap) as) (hc : Calls P g as.toArray w (RetP (NewR V T cs w)))
    (k : ∀ b w', Sat w0 M (.cl b T cs :: h) w' → WL P ro n ops Q rest D (upd f d (V b)) w') : WL P ro n ops Q (⟨some d, .call ⟨.value x, al.toArray, ts⟩, ty, ps, af, gd⟩ :: rest) D f w :=
  x_call hg hdn hx hE ha hc (by rintro v w' ⟨b, rfl, hk, hb, hcb⟩; exact k b w' (S.new hk hb hcb))
theorem z1_calln {g : FuncId} {cap as : List Value} {ts : Array TypeId} {V : Nat → Value} {T : TypeId} {cs : List Value} (hg : want ops f ⟨some d, .call ⟨.value x, al.toArray, ts⟩, ty, ps, af, gd⟩ = true)
    (hx : fev f x = .func (.func g) #[] cap.toArray) (hE : Ent P g) (ha : NA (evs f al ++ cap) as) (hc : ∀ w, Sat w0 M h w → Calls P g as.toArray w (RetP (NewR V T cs w)))
    (k : ∀ b, PV P ro ops Q w0 M (.cl b T cs :: h) prest D (upd f d (V b))) : PV P ro ops Q w0 M h ((1, ⟨some d, .call ⟨.value x, al.toArray, ts⟩, ty, ps, af, gd⟩) :: prest) D f :=
  z1_call (R := NewR V T cs) hg hx hE ha hc (by rintro w v w' S ⟨b, rfl, hk, hb, hcb⟩; exact ⟨[_], S.new hk hb hcb, St.new' h hk hb, k b⟩)
theorem z2_calln {g : FuncId} {cap as : List Value} {ts : Array TypeId} {V : Nat → Value} {T : TypeId} {cs : List Value} (hg : want ops f ⟨some d, .call ⟨.value x, al.toArray, ts⟩, ty, ps, af, gd⟩ = true)
    (hx : fev f x = .func (.func g) #[] cap.toArray) (hE : Ent P g) (ha : NA (evs f al ++ cap) as) (hc : ∀ w, Sat w0 M h w → Calls P g as.toArray w (RetP (NewR V T cs w)))
    (k : ∀ b, PV P ro ops Q w0 M (.cl b T cs :: h) prest D (upd f d (V b))) : PV P ro ops Q w0 M h ((2, ⟨some d, .call ⟨.value x, al.toArray, ts⟩, ty, ps, af, gd⟩) :: prest) D f :=
  z2_call (R := NewR V T cs) hg hx hE ha hc (by rintro w v w' S ⟨b, rfl, hk, hb, hcb⟩; exact ⟨_, S.new hk hb hcb, St.new' h hk hb, k b⟩)
theorem Sat.newR (S : Sat w [] h w') {V : Nat → Value} {b : Nat} {T : TypeId} {cs : List Value} (hh : Has h (.cl b T cs)) : NewR V T cs w (V b) w' :=
  ⟨b, rfl, S.keeps, ((S.ok _ hh.mem).2).resolve_right (by simp), S.cl hh⟩
/-- a closure that gives the number e, whatever has been laid since -/
def Yields (P : Program) (W : World) (v : Value) (e : Int) : Prop :=
  ∃ K cp, v = .func (.func K) #[] (List.toArray cp) ∧ Ent P K ∧ ∀ w, Keeps [] W w → Calls P K (List.toArray cp) w (RetP (Val (.int .i64 e) w))
def YL (P : Program) (W : World) : List Value → List Int → Prop
  | [], [] => True
  | v :: vs, e :: es => Yields P W v e ∧ YL P W vs es
  | _, _ => False
theorem YL.get {W : World} : ∀ {vs : List Value} {es : List Int} (_ : YL P W vs es) (k : Nat), k < vs.length → ∃ v e, vs[k]? = some v ∧ es[k]? = some e ∧ Yields P W v e
  | [], _, _, k, hk => by simp at hk
  | v :: vs, [], h, _, _ => h.elim
  | v :: vs, e :: es, h, 0, _ => ⟨v, e, rfl, rfl, h.1⟩
  | v :: vs, e :: es, h, k + 1, hk => by
    obtain ⟨v', e', a, b, c⟩ := YL.get h.2 k (by simpa using hk)
    exact ⟨v', e', by simpa using a, by simpa using b, c⟩
theorem YL.len {W : World} : ∀ {vs : List Value} {es : List Int}, YL P W vs es → es.length = vs.length
  | [], [], _ => rfl
  | [], _ :: _, h => h.elim
  | _ :: _, [], h => h.elim
  | _ :: _, _ :: _, h => by simp [YL.len h.2]
end
end Go.Proofs.Ytfkcihcbmlcajaa
/- Strings and arrays. No statement of the seat is proved here. -/
namespace Go.Proofs.Ytfkcihcbmlcajaa
set_option linter.unusedVariables false
set_option linter.unusedSimpArgs false
open Go Go.RowKit
/-- byte i of a string -/
def byt (s : ByteArray) (i : Nat) : Int := ((s.data.toList.getD i 0).toNat : Int)
theorem byt_eq (s : ByteArray) (i : Nat) (h : i < s.size) : byt s i = ((s[i]'h).toNat : Int) := by
  obtain ⟨⟨l⟩⟩ := s
  have h' : i < l.length := h
  unfold byt
  simp only [List.getD_eq_getElem?_getD, List.getElem?_eq_getElem h', Option.getD_some]
  rfl
theorem byt_nonneg (s : ByteArray) (i : Nat) : 0 ≤ byt s i := Int.natCast_nonneg _
theorem size0 (s : ByteArray) : s = ⟨#[]⟩ ↔ s.size = 0 := by
  obtain ⟨⟨l⟩⟩ := s
  constructor
  · intro h; rw [h]; rfl
  · intro h
    have : l = [] := List.eq_nil_of_length_eq_zero h
    rw [this]
theorem size_pos {s : ByteArray} (h : ¬ s = ⟨#[]⟩) : 0 < s.size := Nat.pos_of_ne_zero fun e => h ((size0 s).2 e)
section
variable {P : Program} {ro : Option Nat} {n : Nat} {Q : Post} {D : List Deferred} {f : Fm} {w w0 : World} {M : List Nat} {h : List HO}
variable {ops : Array Oper} {rest : List Oper} {prest : List (Nat × Oper)} {o : Oper} {d ty : Nat} {ps : String} {af : Array Edge} {gd : Option (Nat × Bool)} {x y : Operand}

theorem r_indexStr {T : TypeId} {s : ByteArray} {i : Nat} {kd : IntKind} (hop : o.op = .index T x y) (hx : fev f x = .string s) (hy : fev f y = .int kd (i : Int)) (hu : P.underlying T = some .string) (hi : i < s.size) :
    (execOp (fev f) o).run P w = .ok (.value (.int .u8 (byt s i))) w := by
  unfold execOp
  rw [hop]
  have h := run_index_string (P := P) w T s kd i hu
  rw [dif_pos (by omega)] at h
  simp only [Int.toNat_natCast] at h
  simp only [hx, hy, Sem.run_bind, h, Result.andThen_ok, Sem.run_pure, byt_eq s i hi]
theorem x_indexStr {T : TypeId} {s : ByteArray} {i : Nat} {kd : IntKind} (hg : want ops f ⟨some d, .index T x y, ty, ps, af, gd⟩ = true) (hdn : Nat.blt d n = true)
    (hx : fev f x = .string s) (hy : fev f y = .int kd (i : Int)) (hu : P.underlying T = some .string) (hi : i < s.size)
    (k : WL P ro n ops Q rest D (upd f d (.int .u8 (byt s i))) w) : WL P ro n ops Q (⟨some d, .index T x y, ty, ps, af, gd⟩ :: rest) D f w :=
  wl_val hg rfl hdn (r_indexStr rfl hx hy hu hi) (.z .int) k
theorem x_indexStrI {T : TypeId} {s : ByteArray} {i : Nat} {z : Int} {kd : IntKind} (hg : want ops f ⟨some d, .index T x y, ty, ps, af, gd⟩ = true) (hdn : Nat.blt d n = true)
    (hx : fev f x = .string s) (hy : fev f y = .int kd z) (hu : P.underlying T = some .string) (hz : IsN z.toNat i) (h0 : 0 ≤ z) (hi : i < s.size)
    (k : WL P ro n ops Q rest D (upd f d (.int .u8 (byt s i))) w) : WL P ro n ops Q (⟨some d, .index T x y, ty, ps, af, gd⟩ :: rest) D f w := by
  have e : z = (i : Int) := by rw [← hz.eq]; omega
  exact x_indexStr hg hdn hx (hy.trans (by rw [e])) hu hi k
/-- the bytes of a string, laid by a conversion -/
def bytesφ (s : ByteArray) (e : TypeId) : Option Obj → Prop := fun ob => ∃ c fr, ob = some (.cells (bytesRow s c) e fr)
theorem x_bytes {src dst e : TypeId} {s : ByteArray} (S : Sat w0 M h w) (hg : want ops f ⟨some d, .convert src dst x, ty, ps, af, gd⟩ = true) (hdn : Nat.blt d n = true)
    (hx : fev f x = .string s) (hs : P.underlying src = some .string) (hd : P.underlying dst = some (.slice e)) (he : P.underlying e = some (.int .u8))
    (k : ∀ b c w', Sat w0 M (.pr b (bytesφ s e) :: h) w' → WL P ro n ops Q rest D (upd f d (.slice (some ⟨b, 0, none⟩) s.size c)) w') : WL P ro n ops Q (⟨some d, .convert src dst x, ty, ps, af, gd⟩ :: rest) D f w := by
  refine wl_run (v := .slice (some ⟨w.heap.size, 0, none⟩) s.size (grownCap w s.size 0 e)) (w' := w.drew.alloc (.cells (bytesRow s (grownCap w s.size 0 e)) e ((bytesRow s (grownCap w s.size 0 e)).size, (bytesRow s (grownCap w s.size 0 e)).size + 1))) hg hdn ?_ ?_
  · unfold execOp
    simp only [hx, Sem.run_bind, run_bytes_of_string w src dst e s hs hd he, Result.andThen_ok, Sem.run_pure]
  · refine k _ _ _ (S.drew.add (World.grownBy_alloc w.drew _ none) ⟨?_, ⟨_, _, heap_alloc_new w.drew _⟩, .inl S.drew.le⟩ (fun b hb => by injection hb with hb; exact Nat.le_of_eq hb))
    show w.heap.size < (w.heap.push _).size
    simp
theorem Sat.rdpr (S : Sat w0 M h w) {b e : Nat} {s : ByteArray} (hh : Has h (.pr b (bytesφ s e))) : Rd w (some ⟨b, 0, none⟩) 1 s.size (fun i => [.int .u8 (byt s i)]) := by
  obtain ⟨_, ⟨c, fr, hc⟩, _⟩ := S.ok _ hh.mem
  refine ⟨fun _ => rfl, fun i j u hi hu => ?_⟩
  have hj : j = 0 := by
    have := (List.getElem?_eq_some_iff.1 hu).1
    simp at this
    exact this
  subst hj
  have hi' : i < s.data.size := hi
  unfold ea
  simp only [Option.getD_some, Nat.mul_one, Nat.add_zero, add_at, Nat.zero_add]
  unfold World.cell?
  simp only [hc, bytesRow_at s c i hi']
  simp only [List.getElem?_cons_zero, Option.some.injEq] at hu
  rw [← hu, byt_eq s i hi]
  simp
  rfl

theorem r_eqStr {T T' : TypeId} {a b : ByteArray} (hop : o.op = .binOp .eql T x y T') (hx : fev f x = .string a) (hy : fev f y = .string b) : (execOp (fev f) o).run P w = .ok (.value (.bool (@decide (a = b) (Classical.propDecidable _)))) w := by
  have h : (execOp (fev f) o).run P w = .ok (.value (.bool (a.toList == b.toList))) w := by
    unfold execOp
    rw [hop]
    simp only [hx, hy]
    rfl
  rw [h, str_beq]
  congr 3
  simp
theorem r_neStr {T T' : TypeId} {a b : ByteArray} (hop : o.op = .binOp .neq T x y T') (hx : fev f x = .string a) (hy : fev f y = .string b) : (execOp (fev f) o).run P w = .ok (.value (.bool (@decide (¬ a = b) (Classical.propDecidable _)))) w := by
  have h : (execOp (fev f) o).run P w = .ok (.value (.bool (!(a.toList == b.toList)))) w := by
    unfold execOp
    rw [hop]
    simp only [hx, hy]
    rfl
  rw [h, str_beq]
  simp
theorem x_eqStr {T T' : TypeId} {a b : ByteArray} (hg : want ops f ⟨some d, .binOp .eql T x y T', ty, ps, af, gd⟩ = true) (hdn : Nat.blt d n = true) (hx : fev f x = .string a) (hy : fev f y = .string b)
    (k : WL P ro n ops Q rest D (upd f d (.bool (@decide (a = b) (Classical.propDecidable _)))) w) : WL P ro n ops Q (⟨some d, .binOp .eql T x y T', ty, ps, af, gd⟩ :: rest) D f w :=
  wl_val hg rfl hdn (r_eqStr rfl hx hy) (.z .bool) k
theorem x_neStr {T T' : TypeId} {a b : ByteArray} (hg : want ops f ⟨some d, .binOp .neq T x y T', ty, ps, af, gd⟩ = true) (hdn : Nat.blt d n = true) (hx : fev f x = .string a) (hy : fev f y = .string b)
    (k : WL P ro n ops Q rest D (upd f d (.bool (@decide (¬ a = b) (Classical.propDecidable _)))) w) : WL P ro n ops Q (⟨some d, .binOp .neq T x y T', ty, ps, af, gd⟩ :: rest) D f w :=
  wl_val hg rfl hdn (r_neStr rfl hx hy) (.z .bool) k

theorem Rd.congr {A : Option Addr} {size m : Nat} {cell cell' : Nat → List Value} (R : Rd w A size m cell) (h : ∀ i, i < m → cell' i = cell i) : Rd w A size m cell' :=
  ⟨R.some_, fun i j u hi hu => R.at_ i j u hi (by rw [← h i hi]; exact hu)⟩
theorem Sat.rdcl1 (S : Sat w0 M h w) {b : Nat} {T : TypeId} {cs : List Value} (hh : Has h (.cl b T cs)) : Rd w (some ⟨b, 0, none⟩) 1 cs.length (fun i => [cs.getD i undef]) :=
  (S.rdcl hh 1 cs.length).congr fun i hi => by
    show [cs.getD i undef] = List.take 1 (List.drop (i * 1) cs)
    rw [Nat.mul_one, List.drop_eq_getElem_cons hi, List.getD_eq_getElem?_getD, List.getElem?_eq_getElem hi]
    rfl

/-! ### parts of values; equality of flat values -/
/-- the value of type T that cells make -/
def vof (P : Program) (T : TypeId) (cs : List Value) : Value :=
  match P.underlying T with
  | some dd => bif isAggD dd then .agg cs.toArray else cs.getD 0 undef
  | none => undef
theorem run_part {T : TypeId} {cs : List Value} {off sz : Nat} {dd : TypeDesc} (hu : P.underlying T = some dd) (hs : (P.info? T).map (·.size) = some sz) (hsz : isAggD dd = true ∨ 0 < sz) (hl : off + sz ≤ cs.length) :
    (part T cs.toArray off).run P w = .ok (vof P T ((cs.drop off).take sz)) w := by
  obtain ⟨i, hi1, hi2⟩ := Option.map_eq_some_iff.1 hs
  unfold part vof
  simp only [hu, Sem.run_bind, run_isAgg hu, Result.andThen_ok]
  cases hag : isAggD dd with
  | true =>
    simp [sizeOf, typeInfo, hi1, hi2, List.extract_eq_take_drop]
  | false =>
    have h0 : 0 < sz := by rcases hsz with h | h; rw [hag] at h; cases h; exact h
    have hlt : off < cs.length := by omega
    simp [hlt, h0]
def arrPart (P : Program) (T : TypeId) (cs : List Value) (i : Nat) : Option Value :=
  match P.underlying T with
  | some (.array m e) =>
    match P.underlying e, P.info? e with
    | some dd, some inf => bif Nat.blt i m && (Nat.ble (i * inf.size + inf.size) cs.length && (isAggD dd || Nat.blt 0 inf.size)) then some (vof P e ((cs.drop (i * inf.size)).take inf.size)) else none
    | _, _ => none
  | _ => none
theorem r_indexAgg {T : TypeId} {cs : List Value} {i : Nat} {kd : IntKind} {v : Value} (hop : o.op = .index T x y) (hx : fev f x = .agg cs.toArray) (hy : fev f y = .int kd (i : Int)) (hv : arrPart P T cs i = some v) :
    (execOp (fev f) o).run P w = .ok (.value v) w := by
  unfold arrPart at hv
  split at hv <;> try (cases hv; done)
  rename_i m e hu
  split at hv <;> try (cases hv; done)
  rename_i dd inf hdd hinf
  cases hb : (Nat.blt i m && (Nat.ble (i * inf.size + inf.size) cs.length && (isAggD dd || Nat.blt 0 inf.size))) with
  | false => rw [hb] at hv; simp at hv
  | true =>
    rw [hb] at hv
    simp only [cond_true, Option.some.injEq] at hv
    simp only [Bool.and_eq_true, Bool.or_eq_true] at hb
    have h1 : i < m := by have := hb.1; simpa [Nat.blt_eq] using this
    have h2 := Nat.le_of_ble_eq_true hb.2.1
    have h3 : isAggD dd = true ∨ 0 < inf.size := by
      rcases hb.2.2 with h | h
      · exact .inl h
      · exact .inr (by simpa [Nat.blt_eq] using h)
    have hp := run_part (w := w) hdd (by rw [hinf]; rfl) h3 h2
    unfold execOp
    rw [hop]
    have hlt : (0 : Int) ≤ (i : Int) ∧ (i : Int) < (m : Int) := ⟨Int.natCast_nonneg i, by omega⟩
    simp only [hx, hy, Instr.index, asIntOf, Sem.run_bind, Sem.run_pure, Result.andThen_ok, run_underlying hu, if_pos hlt, sizeOf, typeInfo, run_program, hinf, Int.toNat_natCast, hp, hv]
theorem x_indexAgg {T : TypeId} {cs : List Value} {i : Nat} {kd : IntKind} {v0 v : Value} (hg : want ops f ⟨some d, .index T x y, ty, ps, af, gd⟩ = true) (hdn : Nat.blt d n = true)
    (hx : fev f x = .agg cs.toArray) (hy : fev f y = .int kd (i : Int)) (hv : arrPart P T cs i = some v0) (hi : Is v0 v)
    (k : WL P ro n ops Q rest D (upd f d v) w) : WL P ro n ops Q (⟨some d, .index T x y, ty, ps, af, gd⟩ :: rest) D f w :=
  wl_val hg rfl hdn (r_indexAgg rfl hx hy hv) hi k

theorem x_indexAggK {T : TypeId} {cs : List Value} {i : Nat} {z : Int} {kd : IntKind} {v0 v : Value} (hg : want ops f ⟨some d, .index T x y, ty, ps, af, gd⟩ = true) (hdn : Nat.blt d n = true)
    (hx : fev f x = .agg cs.toArray) (hy : fev f y = .int kd z) (hz : IsN z.toNat i) (h0 : 0 ≤ z) (hv : arrPart P T cs i = some v0) (hi : Is v0 v)
    (k : WL P ro n ops Q rest D (upd f d v) w) : WL P ro n ops Q (⟨some d, .index T x y, ty, ps, af, gd⟩ :: rest) D f w := by
  have e : z = (i : Int) := by rw [← hz.eq]; omega
  exact x_indexAgg hg hdn hx (hy.trans (by rw [e])) hv hi k
theorem x_indexK {T e size j : Nat} {z : Int} {A : Option Addr} {m c : Nat} {kd : IntKind} (hg : want ops f ⟨some d, .indexAddr T x y, ty, ps, af, gd⟩ = true) (hdn : Nat.blt d n = true)
    (hx : fev f x = .slice A m c) (hy : fev f y = .int kd z) (hs : elemSize P T = some e) (hz : IsN e size) (hj : IsN z.toNat j) (h0 : 0 ≤ z) (hi : j < m) (hA : A.isSome = true)
    (k : WL P ro n ops Q rest D (upd f d (.pointer (some (ea A size j 0)))) w) : WL P ro n ops Q (⟨some d, .indexAddr T x y, ty, ps, af, gd⟩ :: rest) D f w := by
  have e : z = (j : Int) := by rw [← hj.eq]; omega
  exact x_index hg hdn hx (hy.trans (by rw [e])) hs hz hi hA k

/-- equality, cell by cell: 0 a number, 1 a bool, 2 a string -/
def eqc : List Nat → List Value → List Value → Option Bool
  | [], [], [] => some true
  | 0 :: ks, .int k a :: xs, .int k' b :: ys => if k = k' then (eqc ks xs ys).map fun r => decide (a = b) && r else none
  | 2 :: ks, .string a :: xs, .string b :: ys => (eqc ks xs ys).map fun r => decide (a = b) && r
  | 1 :: ks, .bool a :: xs, .bool b :: ys => (eqc ks xs ys).map fun r => decide (a = b) && r
  | _, _, _ => none
theorem eqc_len : ∀ (k : List Nat) (a b : List Value) (r : Bool), eqc k a b = some r → a.length = k.length ∧ b.length = k.length := by
  intro k a b r h
  fun_induction eqc k a b generalizing r
  · simp
  · rename_i ih; obtain ⟨s, hs, rfl⟩ := Option.map_eq_some_iff.1 h; have := ih s hs; simp [this.1, this.2]
  · cases h
  · rename_i ih; obtain ⟨s, hs, rfl⟩ := Option.map_eq_some_iff.1 h; have := ih s hs; simp [this.1, this.2]
  · rename_i ih; obtain ⟨s, hs, rfl⟩ := Option.map_eq_some_iff.1 h; have := ih s hs; simp [this.1, this.2]
  · cases h
theorem eqc_append : ∀ (k l : List Nat) (a b : List Value) (r : Bool), eqc (k ++ l) a b = some r →
    ∃ r1 r2, eqc k (a.take k.length) (b.take k.length) = some r1 ∧ eqc l (a.drop k.length) (b.drop k.length) = some r2 ∧ r = (r1 && r2)
  | [], l, a, b, r, h => ⟨true, r, rfl, by simpa using h, rfl⟩
  | kd :: k, l, a, b, r, h => by
    have hl := eqc_len _ _ _ _ h
    match a, b, hl with
    | u :: a, v :: b, _ =>
      simp only [List.cons_append] at h
      match kd, u, v, h with
      | 0, .int k1 p, .int k2 q, h =>
        simp only [eqc] at h
        split at h
        · rename_i hk
          obtain ⟨s, hs, rfl⟩ := Option.map_eq_some_iff.1 h
          obtain ⟨r1, r2, h1, h2, rfl⟩ := eqc_append k l a b s hs
          exact ⟨decide (p = q) && r1, r2, by simp [eqc, h1, hk], by simpa using h2, by rw [Bool.and_assoc]⟩
        · cases h
      | 1, .bool p, .bool q, h =>
        obtain ⟨s, hs, rfl⟩ := Option.map_eq_some_iff.1 h
        obtain ⟨r1, r2, h1, h2, rfl⟩ := eqc_append k l a b s hs
        exact ⟨decide (p = q) && r1, r2, by simp [eqc, h1], by simpa using h2, by rw [Bool.and_assoc]⟩
      | 2, .string p, .string q, h =>
        obtain ⟨s, hs, rfl⟩ := Option.map_eq_some_iff.1 h
        obtain ⟨r1, r2, h1, h2, rfl⟩ := eqc_append k l a b s hs
        exact ⟨decide (p = q) && r1, r2, by simp [eqc, h1], by simpa using h2, by rw [Bool.and_assoc]⟩
/-- a flat type: the kinds of its cells -/
def flatFs (P : Program) (g : TypeId → Option (List Nat)) : List Field → Nat → Option (List Nat)
  | [], _ => some []
  | fd :: fs, off =>
    if fd.name ≠ "_" ∧ fd.offset = off then
      match g fd.type with
      | some k => (flatFs P g fs (off + k.length)).map (k ++ ·)
      | none => none
    else none
def flatT (P : Program) : Nat → TypeId → Option (List Nat)
  | 0, _ => none
  | d + 1, t =>
    match P.underlying t, (P.info? t).map (·.size) with
    | some (.int _), some 1 => some [0]
    | some .bool, some 1 => some [1]
    | some .string, some 1 => some [2]
    | some (.struct fs), some k => if P.stoodInHeld t = false ∧ (flatFs P (flatT P d) fs.toList 0).map List.length = some k then flatFs P (flatT P d) fs.toList 0 else none
    | _, _ => none
theorem flatT_info : ∀ {d : Nat} {T : Nat} {k : List Nat}, flatT P d T = some k → ∃ dd, P.underlying T = some dd ∧ (P.info? T).map (·.size) = some k.length ∧ (isAggD dd = true ∨ 0 < k.length)
  | 0, _, _, h => by simp [flatT] at h
  | d + 1, T, k, h => by
    simp only [flatT] at h
    split at h <;> try (cases h; done)
    · rename_i h1 h2; injection h with h; subst h; exact ⟨_, h1, h2, .inr (by simp)⟩
    · rename_i h1 h2; injection h with h; subst h; exact ⟨_, h1, h2, .inr (by simp)⟩
    · rename_i h1 h2; injection h with h; subst h; exact ⟨_, h1, h2, .inr (by simp)⟩
    · rename_i h1 h2
      split at h
      · rename_i hc
        have := hc.2
        rw [h] at this
        simp only [Option.map_some, Option.some.injEq] at this
        exact ⟨_, h1, by rw [h2, this], .inl rfl⟩
      · cases h
theorem run_equalIn_flat : ∀ (d d' : Nat) (T : Nat) (k : List Nat) (xs ys : List Value) (b : Bool) (w : World), d ≤ d' → flatT P d T = some k → eqc k xs ys = some b →
    (Op.equalIn d' T (vof P T xs) (vof P T ys)).run P w = .ok b w := by
  intro d
  induction d with
  | zero => intro d' T k xs ys b w _ h; simp [flatT] at h
  | succ d ih =>
    intro d' T k xs ys b w hd h he
    obtain ⟨d', rfl⟩ : ∃ e, d' = e + 1 := ⟨d' - 1, by omega⟩
    simp only [flatT] at h
    have hl := eqc_len _ _ _ _ he
    split at h <;> try (cases h; done)
    · rename_i kd h1 h2
      injection h with h; subst h
      match xs, ys, hl with
      | [u], [v], _ =>
        cases u <;> cases v <;> simp [eqc] at he
        obtain ⟨hk, rfl⟩ := he
        simp only [vof, h1, isAggD, cond_false, List.getD_cons_zero]
        subst hk
        rw [run_equalIn_int w d' T _ kd _ _ h1]
        congr 1
    · rename_i h1 h2
      injection h with h; subst h
      match xs, ys, hl with
      | [u], [v], _ =>
        cases u <;> cases v <;> simp [eqc] at he
        subst he
        simp only [vof, h1, isAggD, cond_false, List.getD_cons_zero]
        rw [run_equalIn_bool' w d' T _ _ h1]
        congr 1
    · rename_i h1 h2
      injection h with h; subst h
      match xs, ys, hl with
      | [u], [v], _ =>
        cases u <;> cases v <;> simp [eqc] at he
        subst he
        simp only [vof, h1, isAggD, cond_false, List.getD_cons_zero]
        rw [run_equalIn_string w d' T _ _ h1, str_beq]
    · rename_i fs k0 h1 h2
      split at h
      · rename_i hc
        obtain ⟨hst, -⟩ := hc
        have hfo : P.fieldsOf T = fs := by unfold Program.fieldsOf; rw [h1]
        simp only [vof, h1, isAggD, cond_true]
        rw [run_equalIn_agg w d' T _ _ (by rw [hfo, h1]) hst, hfo]
        generalize fs.toList = l at h
        have key : ∀ (l : List Field) (off : Nat) (kk : List Nat) (b : Bool), off ≤ xs.length → off ≤ ys.length → flatFs P (flatT P d) l off = some kk → eqc kk (xs.drop off) (ys.drop off) = some b → (Op.eqFields d' xs.toArray ys.toArray l).run P w = .ok b w := by
          intro l
          induction l with
          | nil =>
            intro off kk b hx hy hf he
            simp only [flatFs, Option.some.injEq] at hf
            subst hf
            have hl := eqc_len _ _ _ _ he
            have e1 : xs.drop off = [] := List.eq_nil_of_length_eq_zero hl.1
            have e2 : ys.drop off = [] := List.eq_nil_of_length_eq_zero hl.2
            rw [e1, e2] at he
            simp only [eqc, Option.some.injEq] at he
            subst he
            simp [Op.eqFields]
          | cons fd l ih2 =>
            intro off kk b hx hy hf he
            simp only [flatFs] at hf
            split at hf
            · rename_i hn
              split at hf
              · rename_i k1 hk1
                obtain ⟨k2, hk2, rfl⟩ := Option.map_eq_some_iff.1 hf
                obtain ⟨dd, hu, hs, hz⟩ := flatT_info hk1
                have hl := eqc_len _ _ _ _ he
                simp only [List.length_drop, List.length_append] at hl
                obtain ⟨r1, r2, hr1, hr2, rfl⟩ := eqc_append _ _ _ _ _ he
                have hp1 := run_part (P := P) (w := w) (cs := xs) (off := off) hu hs hz (by omega)
                have hp2 := run_part (P := P) (w := w) (cs := ys) (off := off) hu hs hz (by omega)
                have hq := ih d' fd.type k1 _ _ r1 w (by omega) hk1 hr1
                simp only [Op.eqFields, hn.1, ne_eq, not_false_eq_true, if_true, hn.2, Sem.run_bind, hp1, hp2, hq, Result.andThen_ok, Sem.run_ite]
                cases r1 with
                | false => simp
                | true => simpa using ih2 (off + k1.length) k2 r2 (by omega) (by omega) hk2 (by simpa [List.drop_drop] using hr2)
              · cases hf
            · cases hf
        exact key l 0 k b (Nat.zero_le _) (Nat.zero_le _) h (by simpa using he)
      · cases h
theorem r_eqAgg {T : Nat} {k : List Nat} {T' : TypeId} {xs ys : List Value} {b : Bool} (hop : o.op = .binOp .eql T x y T') (hx : fev f x = .agg xs.toArray) (hy : fev f y = .agg ys.toArray) (hT : flatT P 9 T = some k) (hag : (P.underlying T).map isAggD = some true)
    (he : eqc k xs ys = some b) (hm : P.eqGuardType P.depth T = false) : (execOp (fev f) o).run P w = .ok (.value (.bool b)) w := by
  obtain ⟨dd, hu, hd⟩ := Option.map_eq_some_iff.1 hag
  have h := run_equalIn_flat (P := P) 9 10000 T k xs ys b w (by omega) hT he
  simp only [vof, hu, hd, cond_true] at h
  unfold execOp
  rw [hop]
  simp only [hx, hy, Sem.run_bind, run_eqGuard_agg w .eql T x y _ _ hm, Result.andThen_ok, run_eql_struct, h, Sem.run_pure]
theorem r_neAgg {T : Nat} {k : List Nat} {T' : TypeId} {xs ys : List Value} {b : Bool} (hop : o.op = .binOp .neq T x y T') (hx : fev f x = .agg xs.toArray) (hy : fev f y = .agg ys.toArray) (hT : flatT P 9 T = some k) (hag : (P.underlying T).map isAggD = some true)
    (he : eqc k xs ys = some b) (hm : P.eqGuardType P.depth T = false) : (execOp (fev f) o).run P w = .ok (.value (.bool (!b))) w := by
  obtain ⟨dd, hu, hd⟩ := Option.map_eq_some_iff.1 hag
  have h := run_equalIn_flat (P := P) 9 10000 T k xs ys b w (by omega) hT he
  simp only [vof, hu, hd, cond_true] at h
  unfold execOp
  rw [hop]
  simp only [hx, hy, Sem.run_bind, run_eqGuard_agg w .neq T x y _ _ hm, Result.andThen_ok, run_neq_struct, h, Sem.run_pure]
theorem x_eqAgg {T : Nat} {k : List Nat} {T' : TypeId} {xs ys : List Value} {b : Bool} (hg : want ops f ⟨some d, .binOp .eql T x y T', ty, ps, af, gd⟩ = true) (hdn : Nat.blt d n = true) (hx : fev f x = .agg xs.toArray) (hy : fev f y = .agg ys.toArray)
    (hT : flatT P 9 T = some k) (hag : (P.underlying T).map isAggD = some true) (hm : P.eqGuardType P.depth T = false) (he : eqc k xs ys = some b)
    (kk : WL P ro n ops Q rest D (upd f d (.bool b)) w) : WL P ro n ops Q (⟨some d, .binOp .eql T x y T', ty, ps, af, gd⟩ :: rest) D f w :=
  wl_val hg rfl hdn (r_eqAgg rfl hx hy hT hag he hm) (.z .bool) kk
theorem x_neAgg {T : Nat} {k : List Nat} {T' : TypeId} {xs ys : List Value} {b : Bool} (hg : want ops f ⟨some d, .binOp .neq T x y T', ty, ps, af, gd⟩ = true) (hdn : Nat.blt d n = true) (hx : fev f x = .agg xs.toArray) (hy : fev f y = .agg ys.toArray)
    (hT : flatT P 9 T = some k) (hag : (P.underlying T).map isAggD = some true) (hm : P.eqGuardType P.depth T = false) (he : eqc k xs ys = some b)
    (kk : WL P ro n ops Q rest D (upd f d (.bool (!b))) w) : WL P ro n ops Q (⟨some d, .binOp .neq T x y T', ty, ps, af, gd⟩ :: rest) D f w :=
  wl_val hg rfl hdn (r_neAgg rfl hx hy hT hag he hm) (.z .bool) kk
theorem y_eqAgg {T : Nat} {k : List Nat} {T' : TypeId} {xs ys : List Value} {b : Bool} (hg : want ops f ⟨some d, .binOp .eql T x y T', ty, ps, af, gd⟩ = true) (hx : fev f x = .agg xs.toArray) (hy : fev f y = .agg ys.toArray)
    (hT : flatT P 9 T = some k) (hag : (P.underlying T).map isAggD = some true) (hm : P.eqGuardType P.depth T = false) (he : eqc k xs ys = some b)
    (kk : PV P ro ops Q w0 M h prest D (upd f d (.bool b))) : PV P ro ops Q w0 M h ((0, ⟨some d, .binOp .eql T x y T', ty, ps, af, gd⟩) :: prest) D f :=
  y_val hg rfl (fun w _ => r_eqAgg rfl hx hy hT hag he hm) (.z .bool) kk
theorem y_neAgg {T : Nat} {k : List Nat} {T' : TypeId} {xs ys : List Value} {b : Bool} (hg : want ops f ⟨some d, .binOp .neq T x y T', ty, ps, af, gd⟩ = true) (hx : fev f x = .agg xs.toArray) (hy : fev f y = .agg ys.toArray)
    (hT : flatT P 9 T = some k) (hag : (P.underlying T).map isAggD = some true) (hm : P.eqGuardType P.depth T = false) (he : eqc k xs ys = some b)
    (kk : PV P ro ops Q w0 M h prest D (upd f d (.bool (!b)))) : PV P ro ops Q w0 M h ((0, ⟨some d, .binOp .neq T x y T', ty, ps, af, gd⟩) :: prest) D f :=
  y_val hg rfl (fun w _ => r_neAgg rfl hx hy hT hag he hm) (.z .bool) kk
theorem y_eqStr {T T' : TypeId} {a b : ByteArray} (hg : want ops f ⟨some d, .binOp .eql T x y T', ty, ps, af, gd⟩ = true) (hx : fev f x = .string a) (hy : fev f y = .string b)
    (k : PV P ro ops Q w0 M h prest D (upd f d (.bool (@decide (a = b) (Classical.propDecidable _))))) : PV P ro ops Q w0 M h ((0, ⟨some d, .binOp .eql T x y T', ty, ps, af, gd⟩) :: prest) D f :=
  y_val hg rfl (fun _ _ => r_eqStr rfl hx hy) (.z .bool) k
theorem y_neStr {T T' : TypeId} {a b : ByteArray} (hg : want ops f ⟨some d, .binOp .neq T x y T', ty, ps, af, gd⟩ = true) (hx : fev f x = .string a) (hy : fev f y = .string b)
    (k : PV P ro ops Q w0 M h prest D (upd f d (.bool (@decide (¬ a = b) (Classical.propDecidable _))))) : PV P ro ops Q w0 M h ((0, ⟨some d, .binOp .neq T x y T', ty, ps, af, gd⟩) :: prest) D f :=
  y_val hg rfl (fun _ _ => r_neStr rfl hx hy) (.z .bool) k
theorem x_indexArrB {T size m b off r : Nat} {z : Int} {kd : IntKind} (hg : want ops f ⟨some d, .indexAddr T x y, ty, ps, af, gd⟩ = true) (hdn : Nat.blt d n = true)
    (hx : fev f x = .pointer (some ⟨b, off, none⟩)) (hy : fev f y = .int kd z) (hs : arrSize P T = some (m, size)) (h0 : 0 ≤ z) (h1 : z < m) (hn : IsN (off + z.toNat * size) r)
    (k : WL P ro n ops Q rest D (upd f d (.pointer (some ⟨b, r, none⟩))) w) : WL P ro n ops Q (⟨some d, .indexAddr T x y, ty, ps, af, gd⟩ :: rest) D f w :=
  x_indexArr hg hdn hx hy hs h0 h1 (by rw [← hn.eq]; exact .ptrb) k
theorem y_indexArrB {T size m b off r : Nat} {z : Int} {kd : IntKind} (hg : want ops f ⟨some d, .indexAddr T x y, ty, ps, af, gd⟩ = true)
    (hx : fev f x = .pointer (some ⟨b, off, none⟩)) (hy : fev f y = .int kd z) (hs : arrSize P T = some (m, size)) (h0 : 0 ≤ z) (h1 : z < m) (hn : IsN (off + z.toNat * size) r)
    (k : PV P ro ops Q w0 M h prest D (upd f d (.pointer (some ⟨b, r, none⟩)))) : PV P ro ops Q w0 M h ((0, ⟨some d, .indexAddr T x y, ty, ps, af, gd⟩) :: prest) D f :=
  y_indexArr hg hx hy hs h0 h1 (by rw [← hn.eq]; exact .ptrb) k
end
end Go.Proofs.Ytfkcihcbmlcajaa
/- Arguments with slices in them, opened: their leaves and what their slices read as. No statement of the seat is proved here. -/
namespace Go.Proofs.Ytfkcihcbmlcajaa
set_option linter.unusedVariables false
set_option linter.unusedSimpArgs false
open Go Go.RowKit Go.WideShapes Go.ChangeShapes
inductive Sh where
  | int (k : IntKind)
  | bool
  | string
  | slice (size : Nat) (ks : List Sh)
mutual
def LeafS (w : World) : Sh → Value → Prop
  | .int k, v => ∃ m : Int, v = .int k m ∧ (Lit.int k m).wf = true
  | .bool, v => ∃ b : Bool, v = .bool b
  | .string, v => ∃ s : ByteArray, v = .string s ∧ s.size ≤ maxLen
  | .slice size ks, v => ∃ (A : Option Addr) (cap : Nat) (css : List (List Value)), v = .slice A css.length cap ∧ css.length ≤ cap ∧ cap ≤ maxLen ∧ Rd w A size css.length (fun i => css.getD i []) ∧ ∀ c ∈ css, LeavesS w ks c
def LeavesS (w : World) : List Sh → List Value → Prop
  | [], cs => cs = []
  | d :: ds, cs => ∃ v r, cs = v :: r ∧ LeafS w d v ∧ LeavesS w ds r
end
theorem LeavesS.append {w : World} : ∀ {a b : List Sh} {x y : List Value}, LeavesS w a x → LeavesS w b y → LeavesS w (a ++ b) (x ++ y)
  | [], _, x, _, h, h' => by
    have h : x = [] := by simpa [LeavesS] using h
    subst h; exact h'
  | _ :: _, _, _, _, h, h' => by
    simp only [LeavesS] at h
    obtain ⟨v, r, e, hl, hr⟩ := h
    subst e
    simp only [List.cons_append, LeavesS]
    exact ⟨v, _, rfl, hl, LeavesS.append hr h'⟩
def shpFs (P : Program) (g : TypeId → Option (List Sh)) : List Field → Nat → Option (List Sh)
  | [], _ => some []
  | fd :: fs, off =>
    match g fd.type with
    | some k => bif Nat.beq fd.offset off && Nat.beq (P.cellsOf fd.type) k.length then (shpFs P g fs (off + k.length)).map (k ++ ·) else none
    | none => none
def shp (P : Program) : Nat → TypeId → Option (List Sh)
  | 0, _ => none
  | n + 1, t =>
    match P.underlying t with
    | some .bool => some [.bool]
    | some (.int k) => some [.int k]
    | some .string => some [.string]
    | some (.slice e) => (shp P n e).bind fun k => bif Nat.beq (P.cellsOf e) k.length then some [.slice k.length k] else none
    | some (.struct fs) => (shpFs P (shp P n) fs.toList 0).bind fun k => bif Nat.beq (P.cellsOf t) k.length then some k else none
    | some (.array m e) => (shp P n e).bind fun k => bif Nat.beq (P.cellsOf e) k.length && Nat.beq (P.cellsOf t) (m * k.length) then some (List.replicate m k).flatten else none
    | _ => none
section
variable {H : Type} {enc : TypeId × Value → H} {P : Program} {w : World} {held : Bool}
theorem leavesS_fs {g : TypeId → Option (List Sh)} {rd : TypeId → List Value → Option (DataW H × List MemPlace)} (hg : ∀ t k, g t = some k → ∀ cs x, rd t cs = some x → cs.length = k.length → LeavesS w k cs) (cs : List Value) :
    ∀ (fs : List Field) (off : Nat) (k : List Sh) (xs : List (DataW H × List MemPlace)), shpFs P g fs off = some k → fs.mapM (fun f => rd f.type ((cs.drop f.offset).take (P.cellsOf f.type))) = some xs → off + k.length = cs.length → LeavesS w k (cs.drop off)
  | [], off, k, xs, hk, _, hl => by
    simp only [shpFs, Option.some.injEq] at hk
    subst hk
    simp only [LeavesS]
    exact List.drop_of_length_le (by simp at hl; omega)
  | fd :: fs, off, k, xs, hk, hx, hl => by
    simp only [shpFs] at hk
    split at hk
    · rename_i k1 hk1
      cases hb : (Nat.beq fd.offset off && Nat.beq (P.cellsOf fd.type) k1.length) with
      | false => rw [hb] at hk; simp at hk
      | true =>
        rw [hb] at hk
        simp only [cond_true] at hk
        obtain ⟨k2, hk2, rfl⟩ := Option.map_eq_some_iff.1 hk
        simp only [Bool.and_eq_true] at hb
        have h1 := Nat.eq_of_beq_eq_true hb.1
        have h2 := Nat.eq_of_beq_eq_true hb.2
        rw [List.mapM_cons] at hx
        obtain ⟨y, hy, hx⟩ := Option.bind_eq_some_iff.1 hx
        obtain ⟨zs, hz, _⟩ := Option.bind_eq_some_iff.1 hx
        rw [h1, h2] at hy
        simp only [List.length_append] at hl
        have e : cs.drop off = (cs.drop off).take k1.length ++ cs.drop (off + k1.length) := by rw [← List.drop_drop, List.take_append_drop]
        rw [e]
        exact (hg _ _ hk1 _ _ hy (by simp; omega)).append (leavesS_fs hg cs fs _ k2 zs hk2 hz (by omega))
    · cases hk
theorem leavesS_arr {k : List Sh} {rd : List Value → Option (DataW H × List MemPlace)} (hg : ∀ cs x, rd cs = some x → cs.length = k.length → LeavesS w k cs) (cs : List Value) :
    ∀ (m i : Nat), (∀ j, j < m → ∃ x, rd ((cs.drop ((i + j) * k.length)).take k.length) = some x) → (i + m) * k.length = cs.length → LeavesS w (List.replicate m k).flatten (cs.drop (i * k.length))
  | 0, i, _, hl => by
    simp only [List.replicate_zero, List.flatten_nil, LeavesS]
    exact List.drop_of_length_le (by simp at hl; omega)
  | m + 1, i, h, hl => by
    have hlen : i * k.length + k.length + m * k.length = cs.length := by rw [← hl, Nat.add_mul, Nat.succ_mul]; omega
    obtain ⟨x, hx⟩ := h 0 (by omega)
    rw [Nat.add_zero] at hx
    have e : cs.drop (i * k.length) = (cs.drop (i * k.length)).take k.length ++ cs.drop ((i + 1) * k.length) := by rw [Nat.succ_mul, ← List.drop_drop, List.take_append_drop]
    rw [e, List.replicate_succ, List.flatten_cons]
    exact (hg _ _ hx (by simp; omega)).append (leavesS_arr hg cs m (i + 1) (fun j hj => by have := h (j + 1) (by omega); rwa [show i + (j + 1) = i + 1 + j by omega] at this) (by rw [← hl]; congr 1; omega))
theorem mapM_len {α β : Type} {f : α → Option β} : ∀ (l : List α) (ys : List β), l.mapM f = some ys → ∀ j (h : j < l.length), ∃ y, f l[j] = some y
  | [], _, _, j, h => by simp at h
  | a :: l, ys, hm, j, h => by
    rw [List.mapM_cons] at hm
    obtain ⟨y, hy, hm⟩ := Option.bind_eq_some_iff.1 hm
    obtain ⟨zs, hz, _⟩ := Option.bind_eq_some_iff.1 hm
    cases j with
    | zero => exact ⟨y, hy⟩
    | succ j => exact mapM_len l zs hz j (by simpa using h)
theorem mapM_length {α β : Type} {f : α → Option β} : ∀ (l : List α) (ys : List β), l.mapM f = some ys → ys.length = l.length
  | [], ys, h => by simp at h; subst h; rfl
  | a :: l, ys, hm => by
    rw [List.mapM_cons] at hm
    obtain ⟨y, hy, hm⟩ := Option.bind_eq_some_iff.1 hm
    obtain ⟨zs, hz, hm⟩ := Option.bind_eq_some_iff.1 hm
    have hm : y :: zs = ys := by simpa using hm
    subst hm
    simp [mapM_length l zs hz]
theorem mapM_at' {α β : Type} {f : α → Option β} : ∀ (l : List α) (ys : List β), l.mapM f = some ys → ∀ j (h : j < ys.length) (h' : j < l.length), f l[j] = some ys[j]
  | [], ys, hm, j, h, h' => by simp at h'
  | a :: l, ys, hm, j, h, h' => by
    rw [List.mapM_cons] at hm
    obtain ⟨y, hy, hm⟩ := Option.bind_eq_some_iff.1 hm
    obtain ⟨zs, hz, hm⟩ := Option.bind_eq_some_iff.1 hm
    have hm : y :: zs = ys := by simpa using hm
    subst hm
    cases j with
    | zero => exact hy
    | succ j => exact mapM_at' l zs hz j (by simpa using h) (by simpa using h')
theorem cells_get {b0 : Nat} {a : Addr} {n : Nat} {cs : List Value} (h : w.cells? b0 a n = some cs) : cs.length = n ∧ ∀ j u, cs[j]? = some u → w.cell? (a.add j) = some u := by
  unfold World.cells? at h
  split at h
  · refine ⟨?_, fun j u hu => ?_⟩
    · simpa using mapM_length _ _ h
    · obtain ⟨hj, rfl⟩ := List.getElem?_eq_some_iff.1 hu
      have hl := mapM_length _ _ h
      have := mapM_at' _ _ h j hj (by rw [← hl]; exact hj)
      simpa using this
  · cases h
theorem trod_leavesS {sp : Nat → Bool} {b0 : Nat} : ∀ (n : Nat) (t : TypeId) (k : List Sh), shp P n t = some k → ∀ (fuel : Nat) (cs : List Value) (x : DataW H × List MemPlace), DataW.trod enc P w b0 sp held fuel t cs = some x → LeavesS w k cs
  | 0, _, _, h, _, _, _, _ => by cases h
  | n + 1, t, k, h, 0, cs, x, hx => by simp [DataW.trod] at hx
  | n + 1, t, k, h, fuel + 1, cs, x, hx => by
    simp only [shp] at h
    split at h <;> try (cases h; done)
    · rename_i hu
      injection h with h; subst h
      unfold DataW.trod at hx
      rw [hu] at hx
      rcases cs with _ | ⟨v, _ | ⟨v2, r⟩⟩
      · cases hx
      · cases v <;> try (cases hx; done)
        simp [LeavesS, LeafS]
      · cases v <;> cases hx
    · rename_i kd hu
      injection h with h; subst h
      obtain ⟨m, rfl, _, hw⟩ := DataW.trod_int hu hx
      simp only [LeavesS, LeafS]
      exact ⟨_, _, rfl, ⟨m, rfl, hw⟩, rfl⟩
    · rename_i hu
      injection h with h; subst h
      obtain ⟨s, rfl, _, hw⟩ := DataW.trod_string hu hx
      simp only [LeavesS, LeafS]
      exact ⟨_, _, rfl, ⟨s, rfl, hw⟩, rfl⟩
    · rename_i e hu
      obtain ⟨k', hk, h⟩ := Option.bind_eq_some_iff.1 h
      cases hb : Nat.beq (P.cellsOf e) k'.length with
      | false => rw [hb] at h; simp at h
      | true =>
        rw [hb] at h
        simp only [cond_true, Option.some.injEq] at h
        subst h
        have hce := Nat.eq_of_beq_eq_true hb
        unfold DataW.trod at hx
        rw [hu] at hx
        rcases cs with _ | ⟨v, _ | ⟨v2, r⟩⟩
        · cases hx
        · cases v <;> try (cases hx; done)
          rename_i a len cap
          cases a with
          | none =>
            rcases len with _ | len
            · rcases cap with _ | cap
              · simp only [LeavesS, LeafS]
                exact ⟨_, _, rfl, ⟨none, 0, [], rfl, Nat.le_refl _, Nat.zero_le _, Rd.nil _ _ _ _, fun c hc => by cases hc⟩, rfl⟩
              · cases hx
            · cases hx
          | some a =>
            simp only at hx
            split at hx
            · rename_i hc
              obtain ⟨els, he, _⟩ := Option.bind_eq_some_iff.1 hx
              have hel : ∀ i, i < len → ∃ cs, w.cells? b0 (a.add (i * k'.length)) k'.length = some cs ∧ LeavesS w k' cs := fun i hi => by
                obtain ⟨y, hy⟩ := mapM_len _ _ he i (by simpa using hi)
                obtain ⟨cs, h1, h2⟩ := Option.bind_eq_some_iff.1 hy
                simp only [List.getElem_range, hce] at h1
                exact ⟨cs, h1, trod_leavesS n e k' hk fuel cs y h2⟩
              let css := (List.range len).map fun i => (w.cells? b0 (a.add (i * k'.length)) k'.length).getD []
              have hlen : css.length = len := by simp [css]
              simp only [LeavesS, LeafS]
              refine ⟨_, _, rfl, ⟨some a, cap, css, by rw [hlen], by omega, hc.2.2, ⟨fun _ => rfl, fun i j u hi hu' => ?_⟩, fun c hcm => ?_⟩, rfl⟩
              · rw [hlen] at hi
                obtain ⟨cs, h1, _⟩ := hel i hi
                have hg : css.getD i [] = cs := by
                  simp [css, List.getD_eq_getElem?_getD, hi, h1]
                simp only [hg] at hu'
                have := (cells_get h1).2 j u hu'
                rw [add_add'] at this
                exact this
              · obtain ⟨i, hi, rfl⟩ := List.mem_map.1 hcm
                obtain ⟨cs, h1, h2⟩ := hel i (List.mem_range.1 hi)
                rw [h1]
                exact h2
            · cases hx
        · cases v <;> first | (cases hx; done) | (rename_i a len cap; rcases a with _ | a <;> rcases len with _ | len <;> rcases cap with _ | cap <;> cases hx)
    · rename_i fs hu
      obtain ⟨k', hk, h⟩ := Option.bind_eq_some_iff.1 h
      cases hb : Nat.beq (P.cellsOf t) k'.length with
      | false => rw [hb] at h; simp at h
      | true =>
        rw [hb] at h
        simp only [cond_true, Option.some.injEq] at h
        subst h
        have hc := Nat.eq_of_beq_eq_true hb
        unfold DataW.trod at hx
        rw [hu] at hx
        simp only at hx
        split at hx
        · rename_i hl
          obtain ⟨xs, he, _⟩ := Option.map_eq_some_iff.1 hx
          have := leavesS_fs (P := P) (w := w) (rd := fun t cs => DataW.trod enc P w b0 sp held fuel t cs) (fun t k hk cs x hx _ => trod_leavesS n t k hk fuel cs x hx) cs fs.toList 0 k' xs hk he (by omega)
          simpa using this
        · cases hx
    · rename_i m e hu
      obtain ⟨k', hk, h⟩ := Option.bind_eq_some_iff.1 h
      cases hb : (Nat.beq (P.cellsOf e) k'.length && Nat.beq (P.cellsOf t) (m * k'.length)) with
      | false => rw [hb] at h; simp at h
      | true =>
        rw [hb] at h
        simp only [cond_true, Option.some.injEq] at h
        subst h
        simp only [Bool.and_eq_true] at hb
        have h1 := Nat.eq_of_beq_eq_true hb.1
        have h2 := Nat.eq_of_beq_eq_true hb.2
        unfold DataW.trod at hx
        rw [hu] at hx
        simp only at hx
        split at hx
        · rename_i hl
          obtain ⟨xs, he, _⟩ := Option.map_eq_some_iff.1 hx
          have := leavesS_arr (w := w) (rd := fun cs => DataW.trod enc P w b0 sp held fuel e cs) (fun cs x hx _ => trod_leavesS n e k' hk fuel cs x hx) cs m 0 (fun j hj => by
            obtain ⟨x, hx⟩ := mapM_len _ _ he j (by simpa using hj)
            rw [h1] at hx
            exact ⟨x, by simpa using hx⟩) (by rw [Nat.zero_add, hl, h2])
          simpa using this
        · cases hx
def isSl : TypeDesc → Bool
  | .slice _ => true
  | _ => false
theorem open_agg {r : Reach} {b1 b0 : Nat} {sp : Nat → Bool} {n : Nat} {t : TypeId} {k : List Sh} {v : Value} {d : DataW H} {p : List MemPlace} (hk : shp P n t = some k) (hag : (P.underlying t).map isAgg' = some true) (hv : Value.okWide P w r b1 t v) (h : DataW.Trod enc P w b0 sp held t v d p) :
    ∃ l : List Value, v = .agg l.toArray ∧ LeavesS w k l := by
  obtain ⟨dd, hu, hd⟩ := Option.map_eq_some_iff.1 hag
  obtain ⟨fuel, hf⟩ := h
  have key : ∃ cs : Array Value, v = .agg cs := by
    cases dd <;> first | (cases hd; done) | (simp only [Value.okWide, hu] at hv; obtain ⟨cs, h1, _⟩ := hv; exact ⟨cs, h1⟩)
  obtain ⟨cs, rfl⟩ := key
  refine ⟨cs.toList, by simp, ?_⟩
  exact trod_leavesS n t k hk fuel _ _ hf
theorem open_slice {b0 : Nat} {sp : Nat → Bool} {n : Nat} {t : TypeId} {k : List Sh} {r : Reach} {b1 : Nat} {v : Value} {d : DataW H} {p : List MemPlace} (hk : shp P n t = some k) (hsl' : (P.underlying t).map isSl = some true) (hv : Value.okWide P w r b1 t v) (h : DataW.Trod enc P w b0 sp held t v d p) :
    LeavesS w k [v] := by
  obtain ⟨fuel, hf⟩ := h
  obtain ⟨e, hsl⟩ : ∃ e, P.underlying t = some (.slice e) := by
    obtain ⟨dd, hu, hd⟩ := Option.map_eq_some_iff.1 hsl'
    cases dd <;> first | (cases hd; done) | exact ⟨_, hu⟩
  have key : v.cells.toList = [v] := by
    unfold Value.okWide at hv
    rw [hsl] at hv
    simp only [Cell.okWide, hsl, Cell.ok] at hv
    cases v <;> first | rfl | exact hv.elim
  rw [key] at hf
  exact trod_leavesS n t k hk fuel _ _ hf
end
/-- lists of records -/
theorem ex_map {α β : Type} {f : α → β} {p : α → Prop} : ∀ (l : List β), (∀ c ∈ l, ∃ a, c = f a ∧ p a) → ∃ m : List α, l = m.map f ∧ ∀ a ∈ m, p a
  | [], _ => ⟨[], rfl, fun a ha => by cases ha⟩
  | c :: l, h => by
    obtain ⟨a, rfl, ha⟩ := h c List.mem_cons_self
    obtain ⟨m, rfl, hm⟩ := ex_map l (fun c hc => h c (List.mem_cons_of_mem _ hc))
    exact ⟨a :: m, rfl, fun x hx => by rcases List.mem_cons.1 hx with rfl | hx; exact ha; exact hm x hx⟩
theorem Rd.map {α : Type} {w : World} {A : Option Addr} {size : Nat} {f : α → List Value} {l : List α} (z : α) (h : Rd w A size (l.map f).length (fun i => (l.map f).getD i [])) : Rd w A size l.length (fun i => f (l.getD i z)) := by
  rw [List.length_map] at h
  refine ⟨h.some_, fun i j u hi hu => h.at_ i j u hi ?_⟩
  simpa [List.getD_eq_getElem?_getD, hi] using hu
theorem flat_at {α : Type} {f : α → List Value} {size : Nat} (z : α) (hs : ∀ a, (f a).length = size) : ∀ (l : List α) (i : Nat), i < l.length → ((l.flatMap f).drop (i * size)).take size = f (l.getD i z)
  | [], i, h => by simp at h
  | a :: l, 0, _ => by
    simp only [List.flatMap_cons, Nat.zero_mul, List.drop_zero, List.getD_cons_zero]
    rw [List.take_append_of_le_length (by rw [hs]; omega), List.take_of_length_le (by rw [hs]; omega)]
  | a :: l, i + 1, h => by
    simp only [List.flatMap_cons, List.getD_cons_succ]
    rw [← flat_at z hs l i (by simpa using h), List.drop_append, hs, List.drop_of_length_le (by rw [hs, Nat.succ_mul]; omega)]
    rw [List.nil_append]
    congr 2
    rw [Nat.succ_mul]; omega
theorem Sat.rdcs {α : Type} {f : α → List Value} {size : Nat} {w0 w : World} {M : List Nat} {h : List HO} {b : Nat} {T : TypeId} {l : List α} (z : α) (hs : ∀ a, (f a).length = size) (S : Sat w0 M h w) (hh : Has h (.cl b T (l.flatMap f))) :
    Rd w (some ⟨b, 0, none⟩) size l.length (fun i => f (l.getD i z)) :=
  (S.rdcl hh size l.length).congr fun i hi => (flat_at z hs l i hi).symm
theorem getD_mem {α : Type} {l : List α} {k : Nat} (z : α) (h : k < l.length) : l.getD k z ∈ l := by
  simp [List.getD_eq_getElem?_getD, h]
theorem mem_getD {α : Type} {l : List α} {a : α} (z : α) (h : a ∈ l) : ∃ k, k < l.length ∧ l.getD k z = a := by
  obtain ⟨k, hk, rfl⟩ := List.mem_iff_getElem.1 h
  exact ⟨k, hk, by simp [List.getD_eq_getElem?_getD, hk]⟩
end Go.Proofs.Ytfkcihcbmlcajaa
/- More operations: remainders, quotients. No statement of the seat is proved here. -/
namespace Go.Proofs.Ytfkcihcbmlcajaa
set_option linter.unusedVariables false
set_option linter.unusedSimpArgs false
open Go Go.RowKit
section
variable {P : Program} {ro : Option Nat} {n : Nat} {Q : Post} {D : List Deferred} {f : Fm} {w w0 w' : World} {M : List Nat} {h : List HO}
variable {ops : Array Oper} {rest : List Oper} {prest : List (Nat × Oper)} {d ty xt yt : Nat} {ps : String} {af : Array Edge} {gd : Option (Nat × Bool)} {x y : Operand}
theorem run_rem {kd : IntKind} {a b : Int} (hx : fev f x = .int kd a) (hy : fev f y = .int kd b) (ha : 0 ≤ a) (hb : 0 < b) :
    (execOp (fev f) ⟨some d, .binOp .rem xt x y yt, ty, ps, af, gd⟩).run P w = .ok (.value (.int kd (a % b))) w := by
  have e : ¬ b = 0 := by omega
  unfold execOp
  simp [hx, hy, eqGuard, binOp, Op.intDiv, e, go_sem, Int.tmod_eq_emod_of_nonneg ha]
theorem run_quo {kd : IntKind} {a b : Int} (hx : fev f x = .int kd a) (hy : fev f y = .int kd b) (ha : 0 ≤ a) (hb : 0 < b) :
    (execOp (fev f) ⟨some d, .binOp .quo xt x y yt, ty, ps, af, gd⟩).run P w = .ok (.value (.int kd (kd.wrap (a / b)))) w := by
  have e : ¬ b = 0 := by omega
  unfold execOp
  simp [hx, hy, eqGuard, binOp, Op.intDiv, e, go_sem, Int.tdiv_eq_ediv_of_nonneg ha]
theorem quo_in {a b : Int} (ha : 0 ≤ a) (hm : a ≤ 9223372036854775807) (hb : 0 < b) : IntKind.i64.wrap (a / b) = a / b := by
  refine IntWalk.i64_in _ ⟨?_, ?_⟩
  · have := Int.ediv_nonneg ha (Int.le_of_lt hb); omega
  · have := Int.ediv_le_self b ha; omega
theorem x_rem {kd : IntKind} {a b : Int} (hg : want ops f ⟨some d, .binOp .rem xt x y yt, ty, ps, af, gd⟩ = true) (hdn : Nat.blt d n = true) (hx : fev f x = .int kd a) (hy : fev f y = .int kd b) (ha : 0 ≤ a) (hb : 0 < b)
    (k : WL P ro n ops Q rest D (upd f d (.int kd (a % b))) w) : WL P ro n ops Q (⟨some d, .binOp .rem xt x y yt, ty, ps, af, gd⟩ :: rest) D f w :=
  x_bin hg hdn (run_rem hx hy ha hb) (.z .int) k
theorem y_rem {kd : IntKind} {a b : Int} (hg : want ops f ⟨some d, .binOp .rem xt x y yt, ty, ps, af, gd⟩ = true) (hx : fev f x = .int kd a) (hy : fev f y = .int kd b) (ha : 0 ≤ a) (hb : 0 < b)
    (k : PV P ro ops Q w0 M h prest D (upd f d (.int kd (a % b)))) : PV P ro ops Q w0 M h ((0, ⟨some d, .binOp .rem xt x y yt, ty, ps, af, gd⟩) :: prest) D f :=
  y_bin hg (fun _ => run_rem hx hy ha hb) (.z .int) k
theorem x_quo {a b : Int} (hg : want ops f ⟨some d, .binOp .quo xt x y yt, ty, ps, af, gd⟩ = true) (hdn : Nat.blt d n = true) (hx : fev f x = .int .i64 a) (hy : fev f y = .int .i64 b) (ha : 0 ≤ a) (hm : a ≤ 9223372036854775807) (hb : 0 < b)
    (k : WL P ro n ops Q rest D (upd f d (.int .i64 (a / b))) w) : WL P ro n ops Q (⟨some d, .binOp .quo xt x y yt, ty, ps, af, gd⟩ :: rest) D f w :=
  x_bin hg hdn (run_quo hx hy ha hb) (by rw [quo_in ha hm hb]; exact .z .int) k
theorem y_quo {a b : Int} (hg : want ops f ⟨some d, .binOp .quo xt x y yt, ty, ps, af, gd⟩ = true) (hx : fev f x = .int .i64 a) (hy : fev f y = .int .i64 b) (ha : 0 ≤ a) (hm : a ≤ 9223372036854775807) (hb : 0 < b)
    (k : PV P ro ops Q w0 M h prest D (upd f d (.int .i64 (a / b)))) : PV P ro ops Q w0 M h ((0, ⟨some d, .binOp .quo xt x y yt, ty, ps, af, gd⟩) :: prest) D f :=
  y_bin hg (fun _ => run_quo hx hy ha hb) (by rw [quo_in ha hm hb]; exact .z .int) k
end
/-- the wide kinds' bounds -/
theorem wf_u8 {m : Int} (h : (Lit.int .u8 m).wf = true) : 0 ≤ m ∧ m ≤ 255 := by
  simp only [Lit.wf, Bool.and_eq_true, decide_eq_true_eq] at h
  exact ⟨h.1, h.2⟩
theorem wf_u16 {m : Int} (h : (Lit.int .u16 m).wf = true) : 0 ≤ m ∧ m ≤ 65535 := by
  simp only [Lit.wf, Bool.and_eq_true, decide_eq_true_eq] at h
  exact ⟨h.1, h.2⟩
theorem wf_i64 {m : Int} (h : (Lit.int .i64 m).wf = true) : -9223372036854775808 ≤ m ∧ m ≤ 9223372036854775807 := by
  simp only [Lit.wf, Bool.and_eq_true, decide_eq_true_eq] at h
  exact ⟨h.1, h.2⟩
end Go.Proofs.Ytfkcihcbmlcajaa
