/- Calls that give blocks of their own. No statement of the seat is proved here. -/
import Derived.Test.YtfkcihcbmlcajaaEngW
namespace Go.Proofs.Ytfkcihcbmlcajaa.Rl
set_option linter.unusedVariables false
set_option linter.unusedSimpArgs false
open Go Go.RowKit
section
variable {P : Program} {ro : Option Nat} {n : Nat} {Q : Post} {D : List Deferred} {f : Fm} {w w0 w' : World} {M : List Nat} {h : List HO}
variable {ops : Array Oper} {rest : List Oper} {prest : List (Nat × Oper)} {d ty xt yt : Nat} {ps : String} {af : Array Edge} {gd : Option (Nat × Bool)} {x y : Operand} {al : List Operand}
theorem Sat.moreA {hs : List HO} (S : Sat w0 M h w) (S' : Sat w [] hs w') : Sat w0 M (hs ++ h) w' ∧ St h (hs ++ h) w w' := by
  have S1 : Sat w0 M ([] ++ h) w := S
  refine ⟨S1.merge (hc := []) (hc' := hs) (fr := h) S', ⟨S'.keeps.os, S'.keeps.tape, S'.keeps.output, S'.keeps.size, fun k hlt _ => S'.keeps.block k hlt (by simp), fun o ho k hok => ?_⟩⟩
  rcases List.mem_append.1 ho with ho | ho
  · rcases (S'.ok o ho).mine hok with h1 | h1
    · exact .inr h1
    · simp at h1
  · exact .inl ⟨o, ho, hok⟩
theorem z1_callH {α : Type} {g : FuncId} {cap args : List Value} {ts : Array TypeId} {hs : α → List HO} {V : α → Value} (hg : want ops f ⟨some d, .call ⟨.value x, al.toArray, ts⟩, ty, ps, af, gd⟩ = true)
    (hx : fev f x = .func (.func g) #[] cap.toArray) (hE : Ent P g) (ha : NA (evs f al ++ cap) args) (hc : ∀ w, Sat w0 M h w → Calls P g args.toArray w (RetP fun v w' => ∃ a, v = V a ∧ Sat w [] (hs a) w'))
    (k : ∀ a, PV P ro ops Q w0 M (hs a ++ h) prest D (upd f d (V a))) : PV P ro ops Q w0 M h ((1, ⟨some d, .call ⟨.value x, al.toArray, ts⟩, ty, ps, af, gd⟩) :: prest) D f :=
  z1_call (R := fun w v w' => ∃ a, v = V a ∧ Sat w [] (hs a) w') hg hx hE ha hc (by rintro w v w' S ⟨a, rfl, S'⟩; exact ⟨hs a, (Sat.moreA S S').1, (Sat.moreA S S').2, k a⟩)
theorem z2_callH {α : Type} {g : FuncId} {cap args : List Value} {ts : Array TypeId} {hs : α → List HO} {V : α → Value} (hg : want ops f ⟨some d, .call ⟨.value x, al.toArray, ts⟩, ty, ps, af, gd⟩ = true)
    (hx : fev f x = .func (.func g) #[] cap.toArray) (hE : Ent P g) (ha : NA (evs f al ++ cap) args) (hc : ∀ w, Sat w0 M h w → Calls P g args.toArray w (RetP fun v w' => ∃ a, v = V a ∧ Sat w [] (hs a) w'))
    (k : ∀ a, PV P ro ops Q w0 M (hs a ++ h) prest D (upd f d (V a))) : PV P ro ops Q w0 M h ((2, ⟨some d, .call ⟨.value x, al.toArray, ts⟩, ty, ps, af, gd⟩) :: prest) D f :=
  z2_call (R := fun w v w' => ∃ a, v = V a ∧ Sat w [] (hs a) w') hg hx hE ha hc (by rintro w v w' S ⟨a, rfl, S'⟩; exact ⟨_, (Sat.moreA S S').1, (Sat.moreA S S').2, k a⟩)
theorem x_callH {α : Type} {g : FuncId} {cap args : List Value} {ts : Array TypeId} {hs : α → List HO} {V : α → Value} (S : Sat w0 M h w) (hg : want ops f ⟨some d, .call ⟨.value x, al.toArray, ts⟩, ty, ps, af, gd⟩ = true) (hdn : Nat.blt d n = true)
    (hx : fev f x = .func (.func g) #[] cap.toArray) (hE : Ent P g) (ha : NA (evs f al ++ cap) args) (hc : Calls P g args.toArray w (RetP fun v w' => ∃ a, v = V a ∧ Sat w [] (hs a) w'))
    (k : ∀ a w', Sat w0 M (hs a ++ h) w' → WL P ro n ops Q rest D (upd f d (V a)) w') : WL P ro n ops Q (⟨some d, .call ⟨.value x, al.toArray, ts⟩, ty, ps, af, gd⟩ :: rest) D f w :=
  x_call hg hdn hx hE ha hc (by rintro v w' ⟨a, rfl, S'⟩; exact k a w' (Sat.moreA S S').1)
theorem Sat.moreB {hs : List HO} (S : Sat w0 M h w) (S' : Sat w [] hs w') : Sat w0 M (h ++ hs) w' ∧ St h (h ++ hs) w w' := by
  refine ⟨(Sat.moreA S S').1.perm' List.perm_append_comm, ⟨S'.keeps.os, S'.keeps.tape, S'.keeps.output, S'.keeps.size, fun k hlt _ => S'.keeps.block k hlt (by simp), fun o ho k hok => ?_⟩⟩
  rcases List.mem_append.1 ho with ho | ho
  · exact .inl ⟨o, ho, hok⟩
  · rcases (S'.ok o ho).mine hok with h1 | h1
    · exact .inr h1
    · simp at h1
/-- calls that give blocks of their own, put behind -/
theorem z1_callT {α : Type} {g : FuncId} {cap args : List Value} {ts : Array TypeId} {hs : α → List HO} {V : α → Value} (hg : want ops f ⟨some d, .call ⟨.value x, al.toArray, ts⟩, ty, ps, af, gd⟩ = true)
    (hx : fev f x = .func (.func g) #[] cap.toArray) (hE : Ent P g) (ha : NA (evs f al ++ cap) args) (hc : ∀ w, Sat w0 M h w → Calls P g args.toArray w (RetP fun v w' => ∃ a, v = V a ∧ Sat w [] (hs a) w'))
    (k : ∀ a, PV P ro ops Q w0 M (h ++ hs a) prest D (upd f d (V a))) : PV P ro ops Q w0 M h ((1, ⟨some d, .call ⟨.value x, al.toArray, ts⟩, ty, ps, af, gd⟩) :: prest) D f :=
  PV.step1 fun w S => beh_call hg (run_callv rfl hx hE) (by rw [ha.eq]; exact hc w S) (by rintro v w' ⟨a, rfl, S'⟩; exact ⟨h ++ hs a, (Sat.moreB S S').1, (Sat.moreB S S').2, ⟨hs a, List.perm_append_comm⟩, k a⟩)
theorem z2_callT {α : Type} {g : FuncId} {cap args : List Value} {ts : Array TypeId} {hs : α → List HO} {V : α → Value} (hg : want ops f ⟨some d, .call ⟨.value x, al.toArray, ts⟩, ty, ps, af, gd⟩ = true)
    (hx : fev f x = .func (.func g) #[] cap.toArray) (hE : Ent P g) (ha : NA (evs f al ++ cap) args) (hc : ∀ w, Sat w0 M h w → Calls P g args.toArray w (RetP fun v w' => ∃ a, v = V a ∧ Sat w [] (hs a) w'))
    (k : ∀ a, PV P ro ops Q w0 M (h ++ hs a) prest D (upd f d (V a))) : PV P ro ops Q w0 M h ((2, ⟨some d, .call ⟨.value x, al.toArray, ts⟩, ty, ps, af, gd⟩) :: prest) D f :=
  z2_call (R := fun w v w' => ∃ a, v = V a ∧ Sat w [] (hs a) w') hg hx hE ha hc (by rintro w v w' S ⟨a, rfl, S'⟩; exact ⟨_, (Sat.moreB S S').1, (Sat.moreB S S').2, k a⟩)
theorem x_callT {α : Type} {g : FuncId} {cap args : List Value} {ts : Array TypeId} {hs : α → List HO} {V : α → Value} (S : Sat w0 M h w) (hg : want ops f ⟨some d, .call ⟨.value x, al.toArray, ts⟩, ty, ps, af, gd⟩ = true) (hdn : Nat.blt d n = true)
    (hx : fev f x = .func (.func g) #[] cap.toArray) (hE : Ent P g) (ha : NA (evs f al ++ cap) args) (hc : Calls P g args.toArray w (RetP fun v w' => ∃ a, v = V a ∧ Sat w [] (hs a) w'))
    (k : ∀ a w', Sat w0 M (h ++ hs a) w' → WL P ro n ops Q rest D (upd f d (V a)) w') : WL P ro n ops Q (⟨some d, .call ⟨.value x, al.toArray, ts⟩, ty, ps, af, gd⟩ :: rest) D f w :=
  x_call hg hdn hx hE ha hc (by rintro v w' ⟨a, rfl, S'⟩; exact k a w' (Sat.moreB S S').1)
end
end Go.Proofs.Ytfkcihcbmlcajaa.Rl
