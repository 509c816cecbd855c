/- Loops of a few rounds, walked round by round; calls that give memory which is read later. No statement of the seat is proved here. -/
import Derived.Test.YtagapiflfnbfiaaEngT
import Derived.LoopNIn
namespace Go.Proofs.Ytagapiflfnbfiaa
set_option linter.unusedVariables false
set_option linter.unusedSimpArgs false
open Go Go.RowKit
section
variable {P : Program} {ro : Option Nat} {n : Nat} {Q : Post} {D : List Deferred} {f : Fm} {w w0 w' : World} {M : List Nat} {h : List HO}
variable {ops : Array Oper} {rest : List Oper} {prest : List (Nat × Oper)} {d ty xt yt : Nat} {ps : String} {af : Array Edge} {gd : Option (Nat × Bool)} {x y : Operand} {al : List Operand}
def rds (P : Program) (ro : Option Nat) (n : Nat) (c : Code) (Q : Post) : Nat → List Deferred → Fm → World → Prop
  | 0, _, _, _ => False
  | m + 1, D, f, w => CW P ro n c (thenQ (rds P ro n c Q m) Q) D f w
theorem cw_rds {c : Code} {m : Nat} (h : CW P ro n c (thenQ (rds P ro n c Q m) Q) D f w) : rds P ro n c Q (m + 1) D f w := h
theorem rds_in {c : Code} : ∀ (m : Nat) (D : List Deferred) (f : Fm) (w : World) (a : Act), Fr n D a f → rds P ro n c Q m D f w → Code.roundsIn (FW ro) 0 P c (lift n Q) m a w
  | 0, _, _, _, _, _, h => h.elim
  | m + 1, D, f, w, a, ha, h => by
    rw [roundsIn_succ]
    refine wpIn_mono (h a ha) fun e a' w' hq => ?_
    obtain ⟨D', f', hf', hQ⟩ := hq
    cases e with
    | normal => exact rds_in m D' f' w' a' hf' hQ
    | exit id => exact ⟨D', f', hf', hQ⟩
    | goto l => exact ⟨D', f', hf', hQ⟩
    | ret => exact ⟨D', f', hf', hQ⟩
    | panic c => exact ⟨D', f', hf', hQ⟩
    | outgrown => exact ⟨D', f', hf', hQ⟩
/-- a loop of at most m rounds, walked round by round -/
theorem cw_rounds {c : Code} (m : Nat) (h : rds P ro n c Q m D f w) : CW P ro n (.loop c) Q D f w := fun a ha => wpIn_loop_rounds m (rds_in m D f w a ha h)
/-- a call whose result lies in memory: the world taken anew, what is known of other memory carried along -/
theorem x_callF {g : FuncId} {cap as : List Value} {ts : Array TypeId} {R : Value → World → Prop} {Φ : World → Prop} (S : Sat w0 M h w) (F : ∀ hz wz, Sat w0 M hz wz → Φ wz)
    (hg : want ops f ⟨some d, .call ⟨.value x, al.toArray, ts⟩, ty, ps, af, gd⟩ = true) (hdn : Nat.blt d n = true)
    (hx : fev f x = .func (.func g) #[] cap.toArray) (hE : Ent P g) (ha : NA (evs f al ++ cap) as) (hc : Calls P g as.toArray w (RetP R)) (hR : ∀ v w', R v w' → Keeps [] w w')
    (k : ∀ v w', R v w' → (∀ b ∈ blks h, b < w.heap.size) → Sat w' (blks h) h w' → (∀ hz wz, Sat w' (blks h) hz wz → Φ wz) → WL P ro n ops Q rest D (upd f d v) w') : WL P ro n ops Q (⟨some d, .call ⟨.value x, al.toArray, ts⟩, ty, ps, af, gd⟩ :: rest) D f w :=
  x_call hg hdn hx hE ha hc (fun v w' hr => by
    have S' := S.call (hR v w' hr)
    refine k v w' hr (fun b hb => (S.blks_mine hb).2) S'.rebase fun hz wz s => F hz wz ?_
    refine ⟨Keeps.join S' s, fun o ho => ?_, s.apart⟩
    have hm : ∀ b, Mine w' (blks h) b → Mine w0 M b := fun b hb => by
      rcases hb with hb | hb
      · exact .inl (Nat.le_trans S'.le hb)
      · exact (S'.blks_mine hb).1
    have hk := s.ok o ho
    cases o with
    | cl b T cs => exact ⟨hk.1, hm b hk.2⟩
    | rw base v E size xs => exact ⟨fun b hb => hm b (hk.1 b hb), hk.2⟩
    | pr b φ => exact ⟨hk.1, hk.2.1, hm b hk.2.2⟩)
end
end Go.Proofs.Ytagapiflfnbfiaa
