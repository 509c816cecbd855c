/- Strings and arrays. No statement of the seat is proved here. -/
import Derived.Test.YtagapiflfnbfiaaEngG
import Derived.Laws.IdiomStrings
import Derived.Laws.StructEq
namespace Go.Proofs.Ytagapiflfnbfiaa
set_option linter.unusedVariables false
set_option linter.unusedSimpArgs false
open Go Go.RowKit
/-- byte i of a string -/
def byt (s : ByteArray) (i : Nat) : Int := ((s.data.toList.getD i 0).toNat : Int)
theorem byt_eq (s : ByteArray) (i : Nat) (h : i < s.size) : byt s i = ((s[i]'h).toNat : Int) := by
  obtain ⟨⟨l⟩⟩ := s
  have h' : i < l.length := h
  unfold byt
  simp only [List.getD_eq_getElem?_getD, List.getElem?_eq_getElem h', Option.getD_some]
  rfl
theorem byt_nonneg (s : ByteArray) (i : Nat) : 0 ≤ byt s i := Int.natCast_nonneg _
theorem size0 (s : ByteArray) : s = ⟨#[]⟩ ↔ s.size = 0 := by
  obtain ⟨⟨l⟩⟩ := s
  constructor
  · intro h; rw [h]; rfl
  · intro h
    have : l = [] := List.eq_nil_of_length_eq_zero h
    rw [this]
theorem size_pos {s : ByteArray} (h : ¬ s = ⟨#[]⟩) : 0 < s.size := Nat.pos_of_ne_zero fun e => h ((size0 s).2 e)
section
variable {P : Program} {ro : Option Nat} {n : Nat} {Q : Post} {D : List Deferred} {f : Fm} {w w0 : World} {M : List Nat} {h : List HO}
variable {ops : Array Oper} {rest : List Oper} {prest : List (Nat × Oper)} {o : Oper} {d ty : Nat} {ps : String} {af : Array Edge} {gd : Option (Nat × Bool)} {x y : Operand}

theorem r_indexStr {T : TypeId} {s : ByteArray} {i : Nat} {kd : IntKind} (hop : o.op = .index T x y) (hx : fev f x = .string s) (hy : fev f y = .int kd (i : Int)) (hu : P.underlying T = some .string) (hi : i < s.size) :
    (execOp (fev f) o).run P w = .ok (.value (.int .u8 (byt s i))) w := by
  unfold execOp
  rw [hop]
  have h := run_index_string (P := P) w T s kd i hu
  rw [dif_pos (by omega)] at h
  simp only [Int.toNat_natCast] at h
  simp only [hx, hy, Sem.run_bind, h, Result.andThen_ok, Sem.run_pure, byt_eq s i hi]
theorem x_indexStr {T : TypeId} {s : ByteArray} {i : Nat} {kd : IntKind} (hg : want ops f ⟨some d, .index T x y, ty, ps, af, gd⟩ = true) (hdn : Nat.blt d n = true)
    (hx : fev f x = .string s) (hy : fev f y = .int kd (i : Int)) (hu : P.underlying T = some .string) (hi : i < s.size)
    (k : WL P ro n ops Q rest D (upd f d (.int .u8 (byt s i))) w) : WL P ro n ops Q (⟨some d, .index T x y, ty, ps, af, gd⟩ :: rest) D f w :=
  wl_val hg rfl hdn (r_indexStr rfl hx hy hu hi) (.z .int) k
theorem x_indexStrI {T : TypeId} {s : ByteArray} {i : Nat} {z : Int} {kd : IntKind} (hg : want ops f ⟨some d, .index T x y, ty, ps, af, gd⟩ = true) (hdn : Nat.blt d n = true)
    (hx : fev f x = .string s) (hy : fev f y = .int kd z) (hu : P.underlying T = some .string) (hz : IsN z.toNat i) (h0 : 0 ≤ z) (hi : i < s.size)
    (k : WL P ro n ops Q rest D (upd f d (.int .u8 (byt s i))) w) : WL P ro n ops Q (⟨some d, .index T x y, ty, ps, af, gd⟩ :: rest) D f w := by
  have e : z = (i : Int) := by rw [← hz.eq]; omega
  exact x_indexStr hg hdn hx (hy.trans (by rw [e])) hu hi k
/-- the bytes of a string, laid by a conversion -/
def bytesφ (s : ByteArray) (e : TypeId) : Option Obj → Prop := fun ob => ∃ c fr, ob = some (.cells (bytesRow s c) e fr)
theorem x_bytes {src dst e : TypeId} {s : ByteArray} (S : Sat w0 M h w) (hg : want ops f ⟨some d, .convert src dst x, ty, ps, af, gd⟩ = true) (hdn : Nat.blt d n = true)
    (hx : fev f x = .string s) (hs : P.underlying src = some .string) (hd : P.underlying dst = some (.slice e)) (he : P.underlying e = some (.int .u8))
    (k : ∀ b c w', Sat w0 M (.pr b (bytesφ s e) :: h) w' → WL P ro n ops Q rest D (upd f d (.slice (some ⟨b, 0, none⟩) s.size c)) w') : WL P ro n ops Q (⟨some d, .convert src dst x, ty, ps, af, gd⟩ :: rest) D f w := by
  refine wl_run (v := .slice (some ⟨w.heap.size, 0, none⟩) s.size (grownCap w s.size 0 e)) (w' := w.drew.alloc (.cells (bytesRow s (grownCap w s.size 0 e)) e ((bytesRow s (grownCap w s.size 0 e)).size, (bytesRow s (grownCap w s.size 0 e)).size + 1))) hg hdn ?_ ?_
  · unfold execOp
    simp only [hx, Sem.run_bind, run_bytes_of_string w src dst e s hs hd he, Result.andThen_ok, Sem.run_pure]
  · refine k _ _ _ (S.drew.add (World.grownBy_alloc w.drew _ none) ⟨?_, ⟨_, _, heap_alloc_new w.drew _⟩, .inl S.drew.le⟩ (fun b hb => by injection hb with hb; exact Nat.le_of_eq hb))
    show w.heap.size < (w.heap.push _).size
    simp
theorem Sat.rdpr (S : Sat w0 M h w) {b e : Nat} {s : ByteArray} (hh : Has h (.pr b (bytesφ s e))) : Rd w (some ⟨b, 0, none⟩) 1 s.size (fun i => [.int .u8 (byt s i)]) := by
  obtain ⟨_, ⟨c, fr, hc⟩, _⟩ := S.ok _ hh.mem
  refine ⟨fun _ => rfl, fun i j u hi hu => ?_⟩
  have hj : j = 0 := by
    have := (List.getElem?_eq_some_iff.1 hu).1
    simp at this
    exact this
  subst hj
  have hi' : i < s.data.size := hi
  unfold ea
  simp only [Option.getD_some, Nat.mul_one, Nat.add_zero, add_at, Nat.zero_add]
  unfold World.cell?
  simp only [hc, bytesRow_at s c i hi']
  simp only [List.getElem?_cons_zero, Option.some.injEq] at hu
  rw [← hu, byt_eq s i hi]
  simp
  rfl

theorem r_eqStr {T T' : TypeId} {a b : ByteArray} (hop : o.op = .binOp .eql T x y T') (hx : fev f x = .string a) (hy : fev f y = .string b) : (execOp (fev f) o).run P w = .ok (.value (.bool (@decide (a = b) (Classical.propDecidable _)))) w := by
  have h : (execOp (fev f) o).run P w = .ok (.value (.bool (a.toList == b.toList))) w := by
    unfold execOp
    rw [hop]
    simp only [hx, hy]
    rfl
  rw [h, str_beq]
  congr 3
  simp
theorem r_neStr {T T' : TypeId} {a b : ByteArray} (hop : o.op = .binOp .neq T x y T') (hx : fev f x = .string a) (hy : fev f y = .string b) : (execOp (fev f) o).run P w = .ok (.value (.bool (@decide (¬ a = b) (Classical.propDecidable _)))) w := by
  have h : (execOp (fev f) o).run P w = .ok (.value (.bool (!(a.toList == b.toList)))) w := by
    unfold execOp
    rw [hop]
    simp only [hx, hy]
    rfl
  rw [h, str_beq]
  simp
theorem x_eqStr {T T' : TypeId} {a b : ByteArray} (hg : want ops f ⟨some d, .binOp .eql T x y T', ty, ps, af, gd⟩ = true) (hdn : Nat.blt d n = true) (hx : fev f x = .string a) (hy : fev f y = .string b)
    (k : WL P ro n ops Q rest D (upd f d (.bool (@decide (a = b) (Classical.propDecidable _)))) w) : WL P ro n ops Q (⟨some d, .binOp .eql T x y T', ty, ps, af, gd⟩ :: rest) D f w :=
  wl_val hg rfl hdn (r_eqStr rfl hx hy) (.z .bool) k
theorem x_neStr {T T' : TypeId} {a b : ByteArray} (hg : want ops f ⟨some d, .binOp .neq T x y T', ty, ps, af, gd⟩ = true) (hdn : Nat.blt d n = true) (hx : fev f x = .string a) (hy : fev f y = .string b)
    (k : WL P ro n ops Q rest D (upd f d (.bool (@decide (¬ a = b) (Classical.propDecidable _)))) w) : WL P ro n ops Q (⟨some d, .binOp .neq T x y T', ty, ps, af, gd⟩ :: rest) D f w :=
  wl_val hg rfl hdn (r_neStr rfl hx hy) (.z .bool) k

theorem Rd.congr {A : Option Addr} {size m : Nat} {cell cell' : Nat → List Value} (R : Rd w A size m cell) (h : ∀ i, i < m → cell' i = cell i) : Rd w A size m cell' :=
  ⟨R.some_, fun i j u hi hu => R.at_ i j u hi (by rw [← h i hi]; exact hu)⟩
theorem Sat.rdcl1 (S : Sat w0 M h w) {b : Nat} {T : TypeId} {cs : List Value} (hh : Has h (.cl b T cs)) : Rd w (some ⟨b, 0, none⟩) 1 cs.length (fun i => [cs.getD i undef]) :=
  (S.rdcl hh 1 cs.length).congr fun i hi => by
    show [cs.getD i undef] = List.take 1 (List.drop (i * 1) cs)
    rw [Nat.mul_one, List.drop_eq_getElem_cons hi, List.getD_eq_getElem?_getD, List.getElem?_eq_getElem hi]
    rfl

/-! ### parts of values; equality of flat values -/
/-- the value of type T that cells make -/
def vof (P : Program) (T : TypeId) (cs : List Value) : Value :=
  match P.underlying T with
  | some dd => bif isAggD dd then .agg cs.toArray else cs.getD 0 undef
  | none => undef
theorem run_part {T : TypeId} {cs : List Value} {off sz : Nat} {dd : TypeDesc} (hu : P.underlying T = some dd) (hs : (P.info? T).map (·.size) = some sz) (hsz : isAggD dd = true ∨ 0 < sz) (hl : off + sz ≤ cs.length) :
    (part T cs.toArray off).run P w = .ok (vof P T ((cs.drop off).take sz)) w := by
  obtain ⟨i, hi1, hi2⟩ := Option.map_eq_some_iff.1 hs
  unfold part vof
  simp only [hu, Sem.run_bind, run_isAgg hu, Result.andThen_ok]
  cases hag : isAggD dd with
  | true =>
    simp [sizeOf, typeInfo, hi1, hi2, List.extract_eq_take_drop]
  | false =>
    have h0 : 0 < sz := by rcases hsz with h | h; rw [hag] at h; cases h; exact h
    have hlt : off < cs.length := by omega
    simp [hlt, h0]
def arrPart (P : Program) (T : TypeId) (cs : List Value) (i : Nat) : Option Value :=
  match P.underlying T with
  | some (.array m e) =>
    match P.underlying e, P.info? e with
    | some dd, some inf => bif Nat.blt i m && (Nat.ble (i * inf.size + inf.size) cs.length && (isAggD dd || Nat.blt 0 inf.size)) then some (vof P e ((cs.drop (i * inf.size)).take inf.size)) else none
    | _, _ => none
  | _ => none
theorem r_indexAgg {T : TypeId} {cs : List Value} {i : Nat} {kd : IntKind} {v : Value} (hop : o.op = .index T x y) (hx : fev f x = .agg cs.toArray) (hy : fev f y = .int kd (i : Int)) (hv : arrPart P T cs i = some v) :
    (execOp (fev f) o).run P w = .ok (.value v) w := by
  unfold arrPart at hv
  split at hv <;> try (cases hv; done)
  rename_i m e hu
  split at hv <;> try (cases hv; done)
  rename_i dd inf hdd hinf
  cases hb : (Nat.blt i m && (Nat.ble (i * inf.size + inf.size) cs.length && (isAggD dd || Nat.blt 0 inf.size))) with
  | false => rw [hb] at hv; simp at hv
  | true =>
    rw [hb] at hv
    simp only [cond_true, Option.some.injEq] at hv
    simp only [Bool.and_eq_true, Bool.or_eq_true] at hb
    have h1 : i < m := by have := hb.1; simpa [Nat.blt_eq] using this
    have h2 := Nat.le_of_ble_eq_true hb.2.1
    have h3 : isAggD dd = true ∨ 0 < inf.size := by
      rcases hb.2.2 with h | h
      · exact .inl h
      · exact .inr (by simpa [Nat.blt_eq] using h)
    have hp := run_part (w := w) hdd (by rw [hinf]; rfl) h3 h2
    unfold execOp
    rw [hop]
    have hlt : (0 : Int) ≤ (i : Int) ∧ (i : Int) < (m : Int) := ⟨Int.natCast_nonneg i, by omega⟩
    simp only [hx, hy, Instr.index, asIntOf, Sem.run_bind, Sem.run_pure, Result.andThen_ok, run_underlying hu, if_pos hlt, sizeOf, typeInfo, run_program, hinf, Int.toNat_natCast, hp, hv]
theorem x_indexAgg {T : TypeId} {cs : List Value} {i : Nat} {kd : IntKind} {v0 v : Value} (hg : want ops f ⟨some d, .index T x y, ty, ps, af, gd⟩ = true) (hdn : Nat.blt d n = true)
    (hx : fev f x = .agg cs.toArray) (hy : fev f y = .int kd (i : Int)) (hv : arrPart P T cs i = some v0) (hi : Is v0 v)
    (k : WL P ro n ops Q rest D (upd f d v) w) : WL P ro n ops Q (⟨some d, .index T x y, ty, ps, af, gd⟩ :: rest) D f w :=
  wl_val hg rfl hdn (r_indexAgg rfl hx hy hv) hi k

theorem x_indexAggK {T : TypeId} {cs : List Value} {i : Nat} {z : Int} {kd : IntKind} {v0 v : Value} (hg : want ops f ⟨some d, .index T x y, ty, ps, af, gd⟩ = true) (hdn : Nat.blt d n = true)
    (hx : fev f x = .agg cs.toArray) (hy : fev f y = .int kd z) (hz : IsN z.toNat i) (h0 : 0 ≤ z) (hv : arrPart P T cs i = some v0) (hi : Is v0 v)
    (k : WL P ro n ops Q rest D (upd f d v) w) : WL P ro n ops Q (⟨some d, .index T x y, ty, ps, af, gd⟩ :: rest) D f w := by
  have e : z = (i : Int) := by rw [← hz.eq]; omega
  exact x_indexAgg hg hdn hx (hy.trans (by rw [e])) hv hi k
theorem x_indexK {T e size j : Nat} {z : Int} {A : Option Addr} {m c : Nat} {kd : IntKind} (hg : want ops f ⟨some d, .indexAddr T x y, ty, ps, af, gd⟩ = true) (hdn : Nat.blt d n = true)
    (hx : fev f x = .slice A m c) (hy : fev f y = .int kd z) (hs : elemSize P T = some e) (hz : IsN e size) (hj : IsN z.toNat j) (h0 : 0 ≤ z) (hi : j < m) (hA : A.isSome = true)
    (k : WL P ro n ops Q rest D (upd f d (.pointer (some (ea A size j 0)))) w) : WL P ro n ops Q (⟨some d, .indexAddr T x y, ty, ps, af, gd⟩ :: rest) D f w := by
  have e : z = (j : Int) := by rw [← hj.eq]; omega
  exact x_index hg hdn hx (hy.trans (by rw [e])) hs hz hi hA k

/-- equality, cell by cell: 0 a number, 1 a bool, 2 a string -/
def eqc : List Nat → List Value → List Value → Option Bool
  | [], [], [] => some true
  | 0 :: ks, .int k a :: xs, .int k' b :: ys => if k = k' then (eqc ks xs ys).map fun r => decide (a = b) && r else none
  | 2 :: ks, .string a :: xs, .string b :: ys => (eqc ks xs ys).map fun r => decide (a = b) && r
  | 1 :: ks, .bool a :: xs, .bool b :: ys => (eqc ks xs ys).map fun r => decide (a = b) && r
  | _, _, _ => none
theorem eqc_len : ∀ (k : List Nat) (a b : List Value) (r : Bool), eqc k a b = some r → a.length = k.length ∧ b.length = k.length := by
  intro k a b r h
  fun_induction eqc k a b generalizing r
  · simp
  · rename_i ih; obtain ⟨s, hs, rfl⟩ := Option.map_eq_some_iff.1 h; have := ih s hs; simp [this.1, this.2]
  · cases h
  · rename_i ih; obtain ⟨s, hs, rfl⟩ := Option.map_eq_some_iff.1 h; have := ih s hs; simp [this.1, this.2]
  · rename_i ih; obtain ⟨s, hs, rfl⟩ := Option.map_eq_some_iff.1 h; have := ih s hs; simp [this.1, this.2]
  · cases h
theorem eqc_append : ∀ (k l : List Nat) (a b : List Value) (r : Bool), eqc (k ++ l) a b = some r →
    ∃ r1 r2, eqc k (a.take k.length) (b.take k.length) = some r1 ∧ eqc l (a.drop k.length) (b.drop k.length) = some r2 ∧ r = (r1 && r2)
  | [], l, a, b, r, h => ⟨true, r, rfl, by simpa using h, rfl⟩
  | kd :: k, l, a, b, r, h => by
    have hl := eqc_len _ _ _ _ h
    match a, b, hl with
    | u :: a, v :: b, _ =>
      simp only [List.cons_append] at h
      match kd, u, v, h with
      | 0, .int k1 p, .int k2 q, h =>
        simp only [eqc] at h
        split at h
        · rename_i hk
          obtain ⟨s, hs, rfl⟩ := Option.map_eq_some_iff.1 h
          obtain ⟨r1, r2, h1, h2, rfl⟩ := eqc_append k l a b s hs
          exact ⟨decide (p = q) && r1, r2, by simp [eqc, h1, hk], by simpa using h2, by rw [Bool.and_assoc]⟩
        · cases h
      | 1, .bool p, .bool q, h =>
        obtain ⟨s, hs, rfl⟩ := Option.map_eq_some_iff.1 h
        obtain ⟨r1, r2, h1, h2, rfl⟩ := eqc_append k l a b s hs
        exact ⟨decide (p = q) && r1, r2, by simp [eqc, h1], by simpa using h2, by rw [Bool.and_assoc]⟩
      | 2, .string p, .string q, h =>
        obtain ⟨s, hs, rfl⟩ := Option.map_eq_some_iff.1 h
        obtain ⟨r1, r2, h1, h2, rfl⟩ := eqc_append k l a b s hs
        exact ⟨decide (p = q) && r1, r2, by simp [eqc, h1], by simpa using h2, by rw [Bool.and_assoc]⟩
/-- a flat type: the kinds of its cells -/
def flatFs (P : Program) (g : TypeId → Option (List Nat)) : List Field → Nat → Option (List Nat)
  | [], _ => some []
  | fd :: fs, off =>
    if fd.name ≠ "_" ∧ fd.offset = off then
      match g fd.type with
      | some k => (flatFs P g fs (off + k.length)).map (k ++ ·)
      | none => none
    else none
def flatT (P : Program) : Nat → TypeId → Option (List Nat)
  | 0, _ => none
  | d + 1, t =>
    match P.underlying t, (P.info? t).map (·.size) with
    | some (.int _), some 1 => some [0]
    | some .bool, some 1 => some [1]
    | some .string, some 1 => some [2]
    | some (.struct fs), some k => if P.stoodInHeld t = false ∧ (flatFs P (flatT P d) fs.toList 0).map List.length = some k then flatFs P (flatT P d) fs.toList 0 else none
    | _, _ => none
theorem flatT_info : ∀ {d : Nat} {T : Nat} {k : List Nat}, flatT P d T = some k → ∃ dd, P.underlying T = some dd ∧ (P.info? T).map (·.size) = some k.length ∧ (isAggD dd = true ∨ 0 < k.length)
  | 0, _, _, h => by simp [flatT] at h
  | d + 1, T, k, h => by
    simp only [flatT] at h
    split at h <;> try (cases h; done)
    · rename_i h1 h2; injection h with h; subst h; exact ⟨_, h1, h2, .inr (by simp)⟩
    · rename_i h1 h2; injection h with h; subst h; exact ⟨_, h1, h2, .inr (by simp)⟩
    · rename_i h1 h2; injection h with h; subst h; exact ⟨_, h1, h2, .inr (by simp)⟩
    · rename_i h1 h2
      split at h
      · rename_i hc
        have := hc.2
        rw [h] at this
        simp only [Option.map_some, Option.some.injEq] at this
        exact ⟨_, h1, by rw [h2, this], .inl rfl⟩
      · cases h
theorem run_equalIn_flat : ∀ (d d' : Nat) (T : Nat) (k : List Nat) (xs ys : List Value) (b : Bool) (w : World), d ≤ d' → flatT P d T = some k → eqc k xs ys = some b →
    (Op.equalIn d' T (vof P T xs) (vof P T ys)).run P w = .ok b w := by
  intro d
  induction d with
  | zero => intro d' T k xs ys b w _ h; simp [flatT] at h
  | succ d ih =>
    intro d' T k xs ys b w hd h he
    obtain ⟨d', rfl⟩ : ∃ e, d' = e + 1 := ⟨d' - 1, by omega⟩
    simp only [flatT] at h
    have hl := eqc_len _ _ _ _ he
    split at h <;> try (cases h; done)
    · rename_i kd h1 h2
      injection h with h; subst h
      match xs, ys, hl with
      | [u], [v], _ =>
        cases u <;> cases v <;> simp [eqc] at he
        obtain ⟨hk, rfl⟩ := he
        simp only [vof, h1, isAggD, cond_false, List.getD_cons_zero]
        subst hk
        rw [run_equalIn_int w d' T _ kd _ _ h1]
        congr 1
    · rename_i h1 h2
      injection h with h; subst h
      match xs, ys, hl with
      | [u], [v], _ =>
        cases u <;> cases v <;> simp [eqc] at he
        subst he
        simp only [vof, h1, isAggD, cond_false, List.getD_cons_zero]
        rw [run_equalIn_bool' w d' T _ _ h1]
        congr 1
    · rename_i h1 h2
      injection h with h; subst h
      match xs, ys, hl with
      | [u], [v], _ =>
        cases u <;> cases v <;> simp [eqc] at he
        subst he
        simp only [vof, h1, isAggD, cond_false, List.getD_cons_zero]
        rw [run_equalIn_string w d' T _ _ h1, str_beq]
    · rename_i fs k0 h1 h2
      split at h
      · rename_i hc
        obtain ⟨hst, -⟩ := hc
        have hfo : P.fieldsOf T = fs := by unfold Program.fieldsOf; rw [h1]
        simp only [vof, h1, isAggD, cond_true]
        rw [run_equalIn_agg w d' T _ _ (by rw [hfo, h1]) hst, hfo]
        generalize fs.toList = l at h
        have key : ∀ (l : List Field) (off : Nat) (kk : List Nat) (b : Bool), off ≤ xs.length → off ≤ ys.length → flatFs P (flatT P d) l off = some kk → eqc kk (xs.drop off) (ys.drop off) = some b → (Op.eqFields d' xs.toArray ys.toArray l).run P w = .ok b w := by
          intro l
          induction l with
          | nil =>
            intro off kk b hx hy hf he
            simp only [flatFs, Option.some.injEq] at hf
            subst hf
            have hl := eqc_len _ _ _ _ he
            have e1 : xs.drop off = [] := List.eq_nil_of_length_eq_zero hl.1
            have e2 : ys.drop off = [] := List.eq_nil_of_length_eq_zero hl.2
            rw [e1, e2] at he
            simp only [eqc, Option.some.injEq] at he
            subst he
            simp [Op.eqFields]
          | cons fd l ih2 =>
            intro off kk b hx hy hf he
            simp only [flatFs] at hf
            split at hf
            · rename_i hn
              split at hf
              · rename_i k1 hk1
                obtain ⟨k2, hk2, rfl⟩ := Option.map_eq_some_iff.1 hf
                obtain ⟨dd, hu, hs, hz⟩ := flatT_info hk1
                have hl := eqc_len _ _ _ _ he
                simp only [List.length_drop, List.length_append] at hl
                obtain ⟨r1, r2, hr1, hr2, rfl⟩ := eqc_append _ _ _ _ _ he
                have hp1 := run_part (P := P) (w := w) (cs := xs) (off := off) hu hs hz (by omega)
                have hp2 := run_part (P := P) (w := w) (cs := ys) (off := off) hu hs hz (by omega)
                have hq := ih d' fd.type k1 _ _ r1 w (by omega) hk1 hr1
                simp only [Op.eqFields, hn.1, ne_eq, not_false_eq_true, if_true, hn.2, Sem.run_bind, hp1, hp2, hq, Result.andThen_ok, Sem.run_ite]
                cases r1 with
                | false => simp
                | true => simpa using ih2 (off + k1.length) k2 r2 (by omega) (by omega) hk2 (by simpa [List.drop_drop] using hr2)
              · cases hf
            · cases hf
        exact key l 0 k b (Nat.zero_le _) (Nat.zero_le _) h (by simpa using he)
      · cases h
theorem r_eqAgg {T : Nat} {k : List Nat} {T' : TypeId} {xs ys : List Value} {b : Bool} (hop : o.op = .binOp .eql T x y T') (hx : fev f x = .agg xs.toArray) (hy : fev f y = .agg ys.toArray) (hT : flatT P 9 T = some k) (hag : (P.underlying T).map isAggD = some true)
    (he : eqc k xs ys = some b) (hm : P.eqGuardType P.depth T = false) : (execOp (fev f) o).run P w = .ok (.value (.bool b)) w := by
  obtain ⟨dd, hu, hd⟩ := Option.map_eq_some_iff.1 hag
  have h := run_equalIn_flat (P := P) 9 10000 T k xs ys b w (by omega) hT he
  simp only [vof, hu, hd, cond_true] at h
  unfold execOp
  rw [hop]
  simp only [hx, hy, Sem.run_bind, run_eqGuard_agg w .eql T x y _ _ hm, Result.andThen_ok, run_eql_struct, h, Sem.run_pure]
theorem r_neAgg {T : Nat} {k : List Nat} {T' : TypeId} {xs ys : List Value} {b : Bool} (hop : o.op = .binOp .neq T x y T') (hx : fev f x = .agg xs.toArray) (hy : fev f y = .agg ys.toArray) (hT : flatT P 9 T = some k) (hag : (P.underlying T).map isAggD = some true)
    (he : eqc k xs ys = some b) (hm : P.eqGuardType P.depth T = false) : (execOp (fev f) o).run P w = .ok (.value (.bool (!b))) w := by
  obtain ⟨dd, hu, hd⟩ := Option.map_eq_some_iff.1 hag
  have h := run_equalIn_flat (P := P) 9 10000 T k xs ys b w (by omega) hT he
  simp only [vof, hu, hd, cond_true] at h
  unfold execOp
  rw [hop]
  simp only [hx, hy, Sem.run_bind, run_eqGuard_agg w .neq T x y _ _ hm, Result.andThen_ok, run_neq_struct, h, Sem.run_pure]
theorem x_eqAgg {T : Nat} {k : List Nat} {T' : TypeId} {xs ys : List Value} {b : Bool} (hg : want ops f ⟨some d, .binOp .eql T x y T', ty, ps, af, gd⟩ = true) (hdn : Nat.blt d n = true) (hx : fev f x = .agg xs.toArray) (hy : fev f y = .agg ys.toArray)
    (hT : flatT P 9 T = some k) (hag : (P.underlying T).map isAggD = some true) (hm : P.eqGuardType P.depth T = false) (he : eqc k xs ys = some b)
    (kk : WL P ro n ops Q rest D (upd f d (.bool b)) w) : WL P ro n ops Q (⟨some d, .binOp .eql T x y T', ty, ps, af, gd⟩ :: rest) D f w :=
  wl_val hg rfl hdn (r_eqAgg rfl hx hy hT hag he hm) (.z .bool) kk
theorem x_neAgg {T : Nat} {k : List Nat} {T' : TypeId} {xs ys : List Value} {b : Bool} (hg : want ops f ⟨some d, .binOp .neq T x y T', ty, ps, af, gd⟩ = true) (hdn : Nat.blt d n = true) (hx : fev f x = .agg xs.toArray) (hy : fev f y = .agg ys.toArray)
    (hT : flatT P 9 T = some k) (hag : (P.underlying T).map isAggD = some true) (hm : P.eqGuardType P.depth T = false) (he : eqc k xs ys = some b)
    (kk : WL P ro n ops Q rest D (upd f d (.bool (!b))) w) : WL P ro n ops Q (⟨some d, .binOp .neq T x y T', ty, ps, af, gd⟩ :: rest) D f w :=
  wl_val hg rfl hdn (r_neAgg rfl hx hy hT hag he hm) (.z .bool) kk
theorem y_eqAgg {T : Nat} {k : List Nat} {T' : TypeId} {xs ys : List Value} {b : Bool} (hg : want ops f ⟨some d, .binOp .eql T x y T', ty, ps, af, gd⟩ = true) (hx : fev f x = .agg xs.toArray) (hy : fev f y = .agg ys.toArray)
    (hT : flatT P 9 T = some k) (hag : (P.underlying T).map isAggD = some true) (hm : P.eqGuardType P.depth T = false) (he : eqc k xs ys = some b)
    (kk : PV P ro ops Q w0 M h prest D (upd f d (.bool b))) : PV P ro ops Q w0 M h ((0, ⟨some d, .binOp .eql T x y T', ty, ps, af, gd⟩) :: prest) D f :=
  y_val hg rfl (fun w _ => r_eqAgg rfl hx hy hT hag he hm) (.z .bool) kk
theorem y_neAgg {T : Nat} {k : List Nat} {T' : TypeId} {xs ys : List Value} {b : Bool} (hg : want ops f ⟨some d, .binOp .neq T x y T', ty, ps, af, gd⟩ = true) (hx : fev f x = .agg xs.toArray) (hy : fev f y = .agg ys.toArray)
    (hT : flatT P 9 T = some k) (hag : (P.underlying T).map isAggD = some true) (hm : P.eqGuardType P.depth T = false) (he : eqc k xs ys = some b)
    (kk : PV P ro ops Q w0 M h prest D (upd f d (.bool (!b)))) : PV P ro ops Q w0 M h ((0, ⟨some d, .binOp .neq T x y T', ty, ps, af, gd⟩) :: prest) D f :=
  y_val hg rfl (fun w _ => r_neAgg rfl hx hy hT hag he hm) (.z .bool) kk
theorem y_eqStr {T T' : TypeId} {a b : ByteArray} (hg : want ops f ⟨some d, .binOp .eql T x y T', ty, ps, af, gd⟩ = true) (hx : fev f x = .string a) (hy : fev f y = .string b)
    (k : PV P ro ops Q w0 M h prest D (upd f d (.bool (@decide (a = b) (Classical.propDecidable _))))) : PV P ro ops Q w0 M h ((0, ⟨some d, .binOp .eql T x y T', ty, ps, af, gd⟩) :: prest) D f :=
  y_val hg rfl (fun _ _ => r_eqStr rfl hx hy) (.z .bool) k
theorem y_neStr {T T' : TypeId} {a b : ByteArray} (hg : want ops f ⟨some d, .binOp .neq T x y T', ty, ps, af, gd⟩ = true) (hx : fev f x = .string a) (hy : fev f y = .string b)
    (k : PV P ro ops Q w0 M h prest D (upd f d (.bool (@decide (¬ a = b) (Classical.propDecidable _))))) : PV P ro ops Q w0 M h ((0, ⟨some d, .binOp .neq T x y T', ty, ps, af, gd⟩) :: prest) D f :=
  y_val hg rfl (fun _ _ => r_neStr rfl hx hy) (.z .bool) k
theorem x_indexArrB {T size m b off r : Nat} {z : Int} {kd : IntKind} (hg : want ops f ⟨some d, .indexAddr T x y, ty, ps, af, gd⟩ = true) (hdn : Nat.blt d n = true)
    (hx : fev f x = .pointer (some ⟨b, off, none⟩)) (hy : fev f y = .int kd z) (hs : arrSize P T = some (m, size)) (h0 : 0 ≤ z) (h1 : z < m) (hn : IsN (off + z.toNat * size) r)
    (k : WL P ro n ops Q rest D (upd f d (.pointer (some ⟨b, r, none⟩))) w) : WL P ro n ops Q (⟨some d, .indexAddr T x y, ty, ps, af, gd⟩ :: rest) D f w :=
  x_indexArr hg hdn hx hy hs h0 h1 (by rw [← hn.eq]; exact .ptrb) k
theorem y_indexArrB {T size m b off r : Nat} {z : Int} {kd : IntKind} (hg : want ops f ⟨some d, .indexAddr T x y, ty, ps, af, gd⟩ = true)
    (hx : fev f x = .pointer (some ⟨b, off, none⟩)) (hy : fev f y = .int kd z) (hs : arrSize P T = some (m, size)) (h0 : 0 ≤ z) (h1 : z < m) (hn : IsN (off + z.toNat * size) r)
    (k : PV P ro ops Q w0 M h prest D (upd f d (.pointer (some ⟨b, r, none⟩)))) : PV P ro ops Q w0 M h ((0, ⟨some d, .indexAddr T x y, ty, ps, af, gd⟩) :: prest) D f :=
  y_indexArr hg hx hy hs h0 h1 (by rw [← hn.eq]; exact .ptrb) k
end
end Go.Proofs.Ytagapiflfnbfiaa
