/- Calls that give a new block; loops' ends; closures. No statement of the seat is proved here. -/
import Derived.Test.YtagapiflfnbfiaaEngF
namespace Go.Proofs.Ytagapiflfnbfiaa
set_option linter.unusedVariables false
set_option linter.unusedSimpArgs false
open Go Go.RowKit
section
variable {P : Program} {ro : Option Nat} {n : Nat} {Q : Post} {D : List Deferred} {f : Fm} {w w0 w' : World} {M : List Nat} {h : List HO}
variable {ops : Array Oper} {rest : List Oper} {prest : List (Nat × Oper)} {d ty : Nat} {ps : String} {af : Array Edge} {gd : Option (Nat × Bool)} {al : List Operand} {x : Operand}

theorem NA.rfl_ : ∀ l : List Value, NA l l
  | [] => .nil
  | _ :: l => .cons (.z .any) (NA.rfl_ l)
theorem Sat.drop1 {o : HO} (S : Sat w0 M (o :: h) w) : Sat w0 M h w := S.drop _ (List.sublist_cons_self _ _)
theorem Sat.drop2 {o o' : HO} (S : Sat w0 M (o :: o' :: h) w) : Sat w0 M h w := S.drop1.drop1
/-- a value that hangs on one new block -/
def NewR (V : Nat → Value) (T : TypeId) (cs : List Value) (w : World) : Value → World → Prop := fun v w' => ∃ b, v = V b ∧ Keeps [] w w' ∧ w.heap.size ≤ b ∧ w'.heap[b]? = some (.cells cs.toArray T (0, 0))
theorem Sat.new (S : Sat w0 M h w) (hk : Keeps [] w w') {b : Nat} {T : TypeId} {cs : List Value} (hb : w.heap.size ≤ b) (hc : w'.heap[b]? = some (.cells cs.toArray T (0, 0))) : Sat w0 M (.cl b T cs :: h) w' :=
  S.add hk.grown ⟨hc, .inl (Nat.le_trans S.le hb)⟩ (fun k e => by injection e with e; omega)
theorem St.new' (h : List HO) (hk : Keeps [] w w') {b : Nat} {T : TypeId} {cs : List Value} (hb : w.heap.size ≤ b) : St h (.cl b T cs :: h) w w' :=
  ⟨hk.os, hk.tape, hk.output, hk.size, fun k hlt _ => hk.block k hlt (by simp), fun o ho k hok => by
    rcases List.mem_cons.1 ho with rfl | ho
    · injection hok with hok; exact .inr (by omega)
    · exact .inl ⟨o, ho, hok⟩⟩
theorem x_calln {g : FuncId} {cap as : List Value} {ts : Array TypeId} {V : Nat → Value} {T : TypeId} {cs : List Value} (S : Sat w0 M h w) (hg : want ops f ⟨some d, .call ⟨.value x, al.toArray, ts⟩, ty, ps, af, gd⟩ = true) (hdn : Nat.blt d n = true)
    (hx : fev f x = .func (.func g) #[] cap.toArray) (hE : Ent P g) (ha : NA (evs f al ++ cap) as) (hc : Calls P g as.toArray w (RetP (NewR V T cs w)))
    (k : ∀ b w', Sat w0 M (.cl b T cs :: h) w' → WL P ro n ops Q rest D (upd f d (V b)) w') : WL P ro n ops Q (⟨some d, .call ⟨.value x, al.toArray, ts⟩, ty, ps, af, gd⟩ :: rest) D f w :=
  x_call hg hdn hx hE ha hc (by rintro v w' ⟨b, rfl, hk, hb, hcb⟩; exact k b w' (S.new hk hb hcb))
theorem z1_calln {g : FuncId} {cap as : List Value} {ts : Array TypeId} {V : Nat → Value} {T : TypeId} {cs : List Value} (hg : want ops f ⟨some d, .call ⟨.value x, al.toArray, ts⟩, ty, ps, af, gd⟩ = true)
    (hx : fev f x = .func (.func g) #[] cap.toArray) (hE : Ent P g) (ha : NA (evs f al ++ cap) as) (hc : ∀ w, Sat w0 M h w → Calls P g as.toArray w (RetP (NewR V T cs w)))
    (k : ∀ b, PV P ro ops Q w0 M (.cl b T cs :: h) prest D (upd f d (V b))) : PV P ro ops Q w0 M h ((1, ⟨some d, .call ⟨.value x, al.toArray, ts⟩, ty, ps, af, gd⟩) :: prest) D f :=
  z1_call (R := NewR V T cs) hg hx hE ha hc (by rintro w v w' S ⟨b, rfl, hk, hb, hcb⟩; exact ⟨[_], S.new hk hb hcb, St.new' h hk hb, k b⟩)
theorem z2_calln {g : FuncId} {cap as : List Value} {ts : Array TypeId} {V : Nat → Value} {T : TypeId} {cs : List Value} (hg : want ops f ⟨some d, .call ⟨.value x, al.toArray, ts⟩, ty, ps, af, gd⟩ = true)
    (hx : fev f x = .func (.func g) #[] cap.toArray) (hE : Ent P g) (ha : NA (evs f al ++ cap) as) (hc : ∀ w, Sat w0 M h w → Calls P g as.toArray w (RetP (NewR V T cs w)))
    (k : ∀ b, PV P ro ops Q w0 M (.cl b T cs :: h) prest D (upd f d (V b))) : PV P ro ops Q w0 M h ((2, ⟨some d, .call ⟨.value x, al.toArray, ts⟩, ty, ps, af, gd⟩) :: prest) D f :=
  z2_call (R := NewR V T cs) hg hx hE ha hc (by rintro w v w' S ⟨b, rfl, hk, hb, hcb⟩; exact ⟨_, S.new hk hb hcb, St.new' h hk hb, k b⟩)
theorem Sat.newR (S : Sat w [] h w') {V : Nat → Value} {b : Nat} {T : TypeId} {cs : List Value} (hh : Has h (.cl b T cs)) : NewR V T cs w (V b) w' :=
  ⟨b, rfl, S.keeps, ((S.ok _ hh.mem).2).resolve_right (by simp), S.cl hh⟩
/-- a closure that gives the number e, whatever has been laid since -/
def Yields (P : Program) (W : World) (v : Value) (e : Int) : Prop :=
  ∃ K cp, v = .func (.func K) #[] (List.toArray cp) ∧ Ent P K ∧ ∀ w, Keeps [] W w → Calls P K (List.toArray cp) w (RetP (Val (.int .i64 e) w))
def YL (P : Program) (W : World) : List Value → List Int → Prop
  | [], [] => True
  | v :: vs, e :: es => Yields P W v e ∧ YL P W vs es
  | _, _ => False
theorem YL.get {W : World} : ∀ {vs : List Value} {es : List Int} (_ : YL P W vs es) (k : Nat), k < vs.length → ∃ v e, vs[k]? = some v ∧ es[k]? = some e ∧ Yields P W v e
  | [], _, _, k, hk => by simp at hk
  | v :: vs, [], h, _, _ => h.elim
  | v :: vs, e :: es, h, 0, _ => ⟨v, e, rfl, rfl, h.1⟩
  | v :: vs, e :: es, h, k + 1, hk => by
    obtain ⟨v', e', a, b, c⟩ := YL.get h.2 k (by simpa using hk)
    exact ⟨v', e', by simpa using a, by simpa using b, c⟩
theorem YL.len {W : World} : ∀ {vs : List Value} {es : List Int}, YL P W vs es → es.length = vs.length
  | [], [], _ => rfl
  | [], _ :: _, h => h.elim
  | _ :: _, [], h => h.elim
  | _ :: _, _ :: _, h => by simp [YL.len h.2]
end
end Go.Proofs.Ytagapiflfnbfiaa
