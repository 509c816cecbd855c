/- Calls that give rows of rows; arrays of two ints, compared; equal lists. No statement of the seat is proved here. -/
import Derived.Test.YtecmgjhnfgeldaaVv
import Derived.ChangeKeysEq
namespace Go.Proofs.Ytecmgjhnfgeldaa.Al
set_option linter.unusedVariables false
set_option linter.unusedSimpArgs false
open Go Go.RowKit
section
variable {P : Program} {ro : Option Nat} {n : Nat} {Q : Post} {D : List Deferred} {f : Fm} {w w0 w' : World} {M : List Nat} {h : List HO}
variable {ops : Array Oper} {rest : List Oper} {prest : List (Nat × Oper)} {d ty xt yt : Nat} {ps : String} {af : Array Edge} {gd : Option (Nat × Bool)} {x y : Operand} {al : List Operand}
theorem Sat.moreA {hs : List HO} (S : Sat w0 M h w) (S' : Sat w [] hs w') : Sat w0 M (hs ++ h) w' ∧ St h (hs ++ h) w w' := by
  have S1 : Sat w0 M ([] ++ h) w := S
  refine ⟨S1.merge (hc := []) (hc' := hs) (fr := h) S', ⟨S'.keeps.os, S'.keeps.tape, S'.keeps.output, S'.keeps.size, fun k hlt _ => S'.keeps.block k hlt (by simp), fun o ho k hok => ?_⟩⟩
  rcases List.mem_append.1 ho with ho | ho
  · rcases (S'.ok o ho).mine hok with h1 | h1
    · exact .inr h1
    · simp at h1
  · exact .inl ⟨o, ho, hok⟩
theorem z1_callH {α : Type} {g : FuncId} {cap args : List Value} {ts : Array TypeId} {hs : α → List HO} {V : α → Value} (hg : want ops f ⟨some d, .call ⟨.value x, al.toArray, ts⟩, ty, ps, af, gd⟩ = true)
    (hx : fev f x = .func (.func g) #[] cap.toArray) (hE : Ent P g) (ha : NA (evs f al ++ cap) args) (hc : ∀ w, Sat w0 M h w → Calls P g args.toArray w (RetP fun v w' => ∃ a, v = V a ∧ Sat w [] (hs a) w'))
    (k : ∀ a, PV P ro ops Q w0 M (hs a ++ h) prest D (upd f d (V a))) : PV P ro ops Q w0 M h ((1, ⟨some d, .call ⟨.value x, al.toArray, ts⟩, ty, ps, af, gd⟩) :: prest) D f :=
  z1_call (R := fun w v w' => ∃ a, v = V a ∧ Sat w [] (hs a) w') hg hx hE ha hc (by rintro w v w' S ⟨a, rfl, S'⟩; exact ⟨hs a, (Sat.moreA S S').1, (Sat.moreA S S').2, k a⟩)
theorem z2_callH {α : Type} {g : FuncId} {cap args : List Value} {ts : Array TypeId} {hs : α → List HO} {V : α → Value} (hg : want ops f ⟨some d, .call ⟨.value x, al.toArray, ts⟩, ty, ps, af, gd⟩ = true)
    (hx : fev f x = .func (.func g) #[] cap.toArray) (hE : Ent P g) (ha : NA (evs f al ++ cap) args) (hc : ∀ w, Sat w0 M h w → Calls P g args.toArray w (RetP fun v w' => ∃ a, v = V a ∧ Sat w [] (hs a) w'))
    (k : ∀ a, PV P ro ops Q w0 M (hs a ++ h) prest D (upd f d (V a))) : PV P ro ops Q w0 M h ((2, ⟨some d, .call ⟨.value x, al.toArray, ts⟩, ty, ps, af, gd⟩) :: prest) D f :=
  z2_call (R := fun w v w' => ∃ a, v = V a ∧ Sat w [] (hs a) w') hg hx hE ha hc (by rintro w v w' S ⟨a, rfl, S'⟩; exact ⟨_, (Sat.moreA S S').1, (Sat.moreA S S').2, k a⟩)
theorem x_callH {α : Type} {g : FuncId} {cap args : List Value} {ts : Array TypeId} {hs : α → List HO} {V : α → Value} (S : Sat w0 M h w) (hg : want ops f ⟨some d, .call ⟨.value x, al.toArray, ts⟩, ty, ps, af, gd⟩ = true) (hdn : Nat.blt d n = true)
    (hx : fev f x = .func (.func g) #[] cap.toArray) (hE : Ent P g) (ha : NA (evs f al ++ cap) args) (hc : Calls P g args.toArray w (RetP fun v w' => ∃ a, v = V a ∧ Sat w [] (hs a) w'))
    (k : ∀ a w', Sat w0 M (hs a ++ h) w' → WL P ro n ops Q rest D (upd f d (V a)) w') : WL P ro n ops Q (⟨some d, .call ⟨.value x, al.toArray, ts⟩, ty, ps, af, gd⟩ :: rest) D f w :=
  x_call hg hdn hx hE ha hc (by rintro v w' ⟨a, rfl, S'⟩; exact k a w' (Sat.moreA S S').1)
theorem Sat.moreB {hs : List HO} (S : Sat w0 M h w) (S' : Sat w [] hs w') : Sat w0 M (h ++ hs) w' ∧ St h (h ++ hs) w w' := by
  refine ⟨(Sat.moreA S S').1.perm' List.perm_append_comm, ⟨S'.keeps.os, S'.keeps.tape, S'.keeps.output, S'.keeps.size, fun k hlt _ => S'.keeps.block k hlt (by simp), fun o ho k hok => ?_⟩⟩
  rcases List.mem_append.1 ho with ho | ho
  · exact .inl ⟨o, ho, hok⟩
  · rcases (S'.ok o ho).mine hok with h1 | h1
    · exact .inr h1
    · simp at h1
/-- calls that give blocks of their own, put behind -/
theorem z1_callT {α : Type} {g : FuncId} {cap args : List Value} {ts : Array TypeId} {hs : α → List HO} {V : α → Value} (hg : want ops f ⟨some d, .call ⟨.value x, al.toArray, ts⟩, ty, ps, af, gd⟩ = true)
    (hx : fev f x = .func (.func g) #[] cap.toArray) (hE : Ent P g) (ha : NA (evs f al ++ cap) args) (hc : ∀ w, Sat w0 M h w → Calls P g args.toArray w (RetP fun v w' => ∃ a, v = V a ∧ Sat w [] (hs a) w'))
    (k : ∀ a, PV P ro ops Q w0 M (h ++ hs a) prest D (upd f d (V a))) : PV P ro ops Q w0 M h ((1, ⟨some d, .call ⟨.value x, al.toArray, ts⟩, ty, ps, af, gd⟩) :: prest) D f :=
  PV.step1 fun w S => beh_call hg (run_callv rfl hx hE) (by rw [ha.eq]; exact hc w S) (by rintro v w' ⟨a, rfl, S'⟩; exact ⟨h ++ hs a, (Sat.moreB S S').1, (Sat.moreB S S').2, ⟨hs a, List.perm_append_comm⟩, k a⟩)
theorem z2_callT {α : Type} {g : FuncId} {cap args : List Value} {ts : Array TypeId} {hs : α → List HO} {V : α → Value} (hg : want ops f ⟨some d, .call ⟨.value x, al.toArray, ts⟩, ty, ps, af, gd⟩ = true)
    (hx : fev f x = .func (.func g) #[] cap.toArray) (hE : Ent P g) (ha : NA (evs f al ++ cap) args) (hc : ∀ w, Sat w0 M h w → Calls P g args.toArray w (RetP fun v w' => ∃ a, v = V a ∧ Sat w [] (hs a) w'))
    (k : ∀ a, PV P ro ops Q w0 M (h ++ hs a) prest D (upd f d (V a))) : PV P ro ops Q w0 M h ((2, ⟨some d, .call ⟨.value x, al.toArray, ts⟩, ty, ps, af, gd⟩) :: prest) D f :=
  z2_call (R := fun w v w' => ∃ a, v = V a ∧ Sat w [] (hs a) w') hg hx hE ha hc (by rintro w v w' S ⟨a, rfl, S'⟩; exact ⟨_, (Sat.moreB S S').1, (Sat.moreB S S').2, k a⟩)
theorem x_callT {α : Type} {g : FuncId} {cap args : List Value} {ts : Array TypeId} {hs : α → List HO} {V : α → Value} (S : Sat w0 M h w) (hg : want ops f ⟨some d, .call ⟨.value x, al.toArray, ts⟩, ty, ps, af, gd⟩ = true) (hdn : Nat.blt d n = true)
    (hx : fev f x = .func (.func g) #[] cap.toArray) (hE : Ent P g) (ha : NA (evs f al ++ cap) args) (hc : Calls P g args.toArray w (RetP fun v w' => ∃ a, v = V a ∧ Sat w [] (hs a) w'))
    (k : ∀ a w', Sat w0 M (h ++ hs a) w' → WL P ro n ops Q rest D (upd f d (V a)) w') : WL P ro n ops Q (⟨some d, .call ⟨.value x, al.toArray, ts⟩, ty, ps, af, gd⟩ :: rest) D f w :=
  x_call hg hdn hx hE ha hc (by rintro v w' ⟨a, rfl, S'⟩; exact k a w' (Sat.moreB S S').1)
/-! ### arrays of two ints -/
def arr2 (P : Program) (T : TypeId) : Bool :=
  match P.underlying T with
  | some (.array 2 e) => (match P.underlying e, (P.info? e).map (·.size) with | some (.int _), some 1 => Nat.beq (P.cellsOf e) 1 | _, _ => false)
  | _ => false
theorem run_equalIn_arr2 {T : TypeId} {xs ys : List Value} {b : Bool} {d : Nat} (w : World) (hT : arr2 P T = true) (he : eqc [0, 0] xs ys = some b) : (Op.equalIn (d + 2) T (.agg xs.toArray) (.agg ys.toArray)).run P w = .ok b w := by
  unfold arr2 at hT
  split at hT
  · rename_i e hu
    split at hT
    · rename_i kd hk hs
      have hc := Nat.eq_of_beq_eq_true hT
      obtain ⟨i, hi, hi2⟩ := Option.map_eq_some_iff.1 hs
      have hl := eqc_len _ _ _ _ he
      rw [run_equalIn_array w (d + 1) _ _ hu hi, hc]
      match xs, ys, hl with
      | [x1, x2], [y1, y2], _ =>
        have hcs : ∃ k1 a1 b1 k2 a2 b2, (x1 = .int k1 a1 ∧ y1 = .int k1 b1) ∧ (x2 = .int k2 a2 ∧ y2 = .int k2 b2) ∧ b = (decide (a1 = b1) && (decide (a2 = b2) && true)) := by
          match x1, y1, he with
          | .int k1 a1, .int k1' b1, he =>
            simp only [eqc] at he
            split at he
            · rename_i hk1
              obtain ⟨r, hr, rfl⟩ := Option.map_eq_some_iff.1 he
              match x2, y2, hr with
              | .int k2 a2, .int k2' b2, hr =>
                simp only [eqc] at hr
                split at hr
                · rename_i hk2
                  obtain ⟨r2, hr2, rfl⟩ := Option.map_eq_some_iff.1 hr
                  injection hr2 with hr2
                  subst hk1; subst hk2; subst hr2
                  exact ⟨k1, a1, b1, k2, a2, b2, ⟨rfl, rfl⟩, ⟨rfl, rfl⟩, rfl⟩
                · cases hr
            · cases he
        obtain ⟨k1, a1, b1, k2, a2, b2, ⟨rfl, rfl⟩, ⟨rfl, rfl⟩, rfl⟩ := hcs
        have p1 := fun (cs : List Value) (off : Nat) (h : off + 1 ≤ cs.length) => run_part (P := P) (w := w) (cs := cs) (off := off) hk hs (.inr (by omega)) h
        have q1 := fun kx a b => run_equalIn_int w d e kx kd a b hk
        have v1 : ∀ u : Value, vof P e [u] = u := fun u => by simp [vof, hk, isAggD]
        have z1 := p1 [.int k1 a1, .int k2 a2] 0 (by simp)
        have z2 := p1 [.int k1 b1, .int k2 b2] 0 (by simp)
        have z3 := p1 [.int k1 a1, .int k2 a2] 1 (by simp)
        have z4 := p1 [.int k1 b1, .int k2 b2] 1 (by simp)
        simp only [List.drop_zero, List.drop_succ_cons, List.take_succ_cons, List.take_zero, v1] at z1 z2 z3 z4
        show (Op.eqItems (d + 1) e 1 _ _ [0, 1]).run P w = _
        simp only [Op.eqItems, Sem.run_bind, Nat.mul_one, z1, z2, z3, z4, Result.andThen_ok, q1, Sem.run_ite, Sem.run_pure]
        by_cases e1 : a1 = b1 <;> by_cases e2 : a2 = b2 <;> simp [e1, e2]
    · cases hT
  · cases hT
variable {o : Oper}
theorem r_eqArr2 {T : Nat} {T' : TypeId} {xs ys : List Value} {b : Bool} (hop : o.op = .binOp .eql T x y T') (hx : fev f x = .agg xs.toArray) (hy : fev f y = .agg ys.toArray) (hT : arr2 P T = true)
    (he : eqc [0, 0] xs ys = some b) (hm : P.eqGuardType P.depth T = false) : (execOp (fev f) o).run P w = .ok (.value (.bool b)) w := by
  have h := run_equalIn_arr2 (d := 9998) w hT he
  unfold execOp
  rw [hop]
  simp only [hx, hy, Sem.run_bind, run_eqGuard_agg w .eql T x y _ _ hm, Result.andThen_ok, run_eql_struct, h, Sem.run_pure]
theorem r_neArr2 {T : Nat} {T' : TypeId} {xs ys : List Value} {b : Bool} (hop : o.op = .binOp .neq T x y T') (hx : fev f x = .agg xs.toArray) (hy : fev f y = .agg ys.toArray) (hT : arr2 P T = true)
    (he : eqc [0, 0] xs ys = some b) (hm : P.eqGuardType P.depth T = false) : (execOp (fev f) o).run P w = .ok (.value (.bool (!b))) w := by
  have h := run_equalIn_arr2 (d := 9998) w hT he
  unfold execOp
  rw [hop]
  simp only [hx, hy, Sem.run_bind, run_eqGuard_agg w .neq T x y _ _ hm, Result.andThen_ok, run_neq_struct, h, Sem.run_pure]
theorem x_neArr2 {T : Nat} {T' : TypeId} {xs ys : List Value} {b : Bool} (hg : want ops f ⟨some d, .binOp .neq T x y T', ty, ps, af, gd⟩ = true) (hdn : Nat.blt d n = true) (hx : fev f x = .agg xs.toArray) (hy : fev f y = .agg ys.toArray)
    (hT : arr2 P T = true) (hm : P.eqGuardType P.depth T = false) (he : eqc [0, 0] xs ys = some b)
    (kk : WL P ro n ops Q rest D (upd f d (.bool (!b))) w) : WL P ro n ops Q (⟨some d, .binOp .neq T x y T', ty, ps, af, gd⟩ :: rest) D f w :=
  wl_val hg rfl hdn (r_neArr2 rfl hx hy hT he hm) (.z .bool) kk
theorem y_neArr2 {T : Nat} {T' : TypeId} {xs ys : List Value} {b : Bool} (hg : want ops f ⟨some d, .binOp .neq T x y T', ty, ps, af, gd⟩ = true) (hx : fev f x = .agg xs.toArray) (hy : fev f y = .agg ys.toArray)
    (hT : arr2 P T = true) (hm : P.eqGuardType P.depth T = false) (he : eqc [0, 0] xs ys = some b)
    (kk : PV P ro ops Q w0 M h prest D (upd f d (.bool (!b)))) : PV P ro ops Q w0 M h ((0, ⟨some d, .binOp .neq T x y T', ty, ps, af, gd⟩) :: prest) D f :=
  y_val hg rfl (fun w _ => r_neArr2 rfl hx hy hT he hm) (.z .bool) kk
end
theorem arr2_P : arr2 Try.prog 51 = true := by kernel_rfl
end Go.Proofs.Ytecmgjhnfgeldaa.Al
