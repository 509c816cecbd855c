/- Whole slices appended where the order is drawn. No statement of the seat is proved here. -/
import Derived.Test.YtecmgjhnfgeldaaEngK
namespace Go.Proofs.Ytecmgjhnfgeldaa
set_option linter.unusedVariables false
set_option linter.unusedSimpArgs false
open Go Go.RowKit
section
variable {P : Program} {ro : Option Nat} {n : Nat} {Q : Post} {D : List Deferred} {f : Fm} {w w0 w' : World} {M : List Nat} {h : List HO}
variable {ops : Array Oper} {rest : List Oper} {prest : List (Nat × Oper)} {d ty : Nat} {ps : String} {af : Array Edge} {gd : Option (Nat × Bool)} {x y z : Operand}
theorem appendN_run {α : Type} {T e size bytes k c c' : Nat} {A : Option Addr} {ad : Addr} {l : List α} {en : α → List Value} {xs : List (List Value)} {F : HO → List HO} (z : α) (hs : ∀ a, (en a).length = size) (hone : ∀ a, ones (en a) = true) (R : Rd w (some ad) size l.length (fun i => en (l.getD i z))) (hsm : xs.length + l.length < 1000000000) (S : Sat w0 M h w)
    (hk : apk P T = some (e, size, bytes)) (hx : fev f x = .slice A k c) (hr : RepF h (.rw 0 (.slice A k c) e size xs) F) (hy : fev f y = .slice (some ad) l.length c') (hby : Nat.ble bytes 100000 = true) :
    ∃ A' cap w', (execOp (fev f) ⟨some d, .call ⟨.builtin .append, #[x, y], #[T, T]⟩, ty, ps, af, gd⟩).run P w = .ok (.value (.slice A' (xs.length + l.length) cap)) w' ∧
      Sat w0 M (F (.rw 0 (.slice A' (xs.length + l.length) cap) e size (xs ++ l.map en))) w' ∧ St h (F (.rw 0 (.slice A' (xs.length + l.length) cap) e size (xs ++ l.map en))) w w' := by
  have hm := (hr.rep (.rw 0 (.slice A k c) e size xs)).mem
  obtain ⟨h1, h2, h3⟩ := S.ok _ hm
  have hby' := Nat.le_of_ble_eq_true hby
  have hflen : ∀ l : List α, (l.flatMap en).length = l.length * size := by
    intro l
    induction l with
    | nil => simp
    | cons a l ih => rw [List.flatMap_cons, List.length_append, ih, hs, List.length_cons, Nat.succ_mul]; omega
  have hbound : (xs.length + l.length) * bytes ≤ 140737488355328 := Nat.le_trans (Nat.mul_le_mul (show xs.length + l.length ≤ 1000000000 by omega) hby') (by decide)
  obtain ⟨v', w', hrun, hown, hgr, hob⟩ := run_append (P := P) (f := f) (d := d) (ty := ty) (ps := ps) (af := af) (gd := gd) (m := l.length) (c := c') (ad := ad) (news := l.flatMap en) hk hx hy h3 (hflen l)
    (fun j u hju => by
      obtain ⟨i, o, hi, rfl, ho⟩ := flat_get z hs l j u hju
      exact R.at_ i o u hi ho)
    (fun u hu => by
      obtain ⟨b, hb, hub⟩ := List.mem_flatMap.1 hu
      exact ones_mem (hone b) u hub) (by unfold maxLen; omega) hbound (Nat.zero_le _)
  have hform : ∃ A' cap, v' = .slice A' (xs.length + l.length) cap := by
    rcases hown.2 with ⟨e1, e2⟩ | ⟨g, cap, _, e1, _⟩
    · exact ⟨none, 0, by rw [e1, e2]⟩
    · exact ⟨some ⟨g, 0, none⟩, cap, e1⟩
  obtain ⟨A', cap, rfl⟩ := hform
  have hmine : ∀ b', (Value.slice A' (xs.length + l.length) cap).ownBlock = some b' → (Value.slice A k c).ownBlock = some b' ∨ b' = w.heap.size := by
    intro b' hb2
    rcases hob with e1 | e1
    · left; exact e1.symm.trans hb2
    · right
      have := e1.symm.trans hb2
      injection this with e2
      exact e2.symm
  refine ⟨A', cap, w', hrun, S.rep (hr.rep _) hgr ⟨fun b' hb' => ?_, ?_, ?_⟩ ?_, hgr.os, hgr.tape, hgr.output, hgr.size, fun q hq hn => hgr.block q hq (fun e => hn _ hm e.symm), fun o ho' q hoq => ?_⟩
  · rcases hmine b' hb' with e1 | e1
    · exact h1 b' e1
    · exact .inl (by have := S.le; omega)
  · intro c1 hc1
    rcases List.mem_append.1 hc1 with hc1 | hc1
    · exact h2 c1 hc1
    · obtain ⟨a, _, rfl⟩ := List.mem_map.1 hc1
      exact hs a
  · simp only [List.length_append, List.length_map, List.flatten_append]
    rw [← List.flatMap_def]
    exact hown
  · intro b' hb'
    exact (hmine b' hb').imp id (fun e => by omega)
  · rcases (hr.rep (.rw 0 (.slice A' (xs.length + l.length) cap) e size (xs ++ l.map en))).mem' o ho' with rfl | hm'
    · rcases hmine q hoq with e1 | e1
      · exact .inl ⟨_, hm, e1⟩
      · exact .inr (by omega)
    · exact .inl ⟨o, hm', hoq⟩
theorem z2_appendN {α : Type} {T e size bytes k c c' : Nat} {A : Option Addr} {ad : Addr} {l : List α} {en : α → List Value} {xs : List (List Value)} {F : HO → List HO} (z : α) (hs : ∀ a, (en a).length = size) (hone : ∀ a, ones (en a) = true) (R : ∀ w, Sat w0 M h w → Rd w (some ad) size l.length (fun i => en (l.getD i z))) (hsm : xs.length + l.length < 1000000000)
    (hg : want ops f ⟨some d, .call ⟨.builtin .append, #[x, y], #[T, T]⟩, ty, ps, af, gd⟩ = true) (hk : apk P T = some (e, size, bytes)) (hx : fev f x = .slice A k c) (hr : RepF h (.rw 0 (.slice A k c) e size xs) F) (hy : fev f y = .slice (some ad) l.length c') (hby : Nat.ble bytes 100000 = true)
    (kk : ∀ A' cap, PV P ro ops Q w0 M (F (.rw 0 (.slice A' (xs.length + l.length) cap) e size (xs ++ l.map en))) prest D (upd f d (.slice A' (xs.length + l.length) cap))) :
    PV P ro ops Q w0 M h ((2, ⟨some d, .call ⟨.builtin .append, #[x, y], #[T, T]⟩, ty, ps, af, gd⟩) :: prest) D f :=
  PV.step2 fun w S => by
    obtain ⟨A', cap, w', hrun, S', st⟩ := appendN_run (P := P) (f := f) (d := d) (ty := ty) (ps := ps) (af := af) (gd := gd) z hs hone (R w S) hsm S hk hx hr hy hby
    exact beh_run hg hrun ⟨_, S', st, kk A' cap⟩
theorem append0_run {T e size bytes k c c2 : Nat} {A A2 : Option Addr} (hk : apk P T = some (e, size, bytes)) (hx : fev f x = .slice A k c) (hy : fev f y = .slice A2 0 c2) (hkc : k ≤ c) :
    (execOp (fev f) ⟨some d, .call ⟨.builtin .append, #[x, y], #[T, T]⟩, ty, ps, af, gd⟩).run P w = .ok (.value (.slice A k c)) w := by
  obtain ⟨hu, i, zv, hi, hz, hsize, hbyt, hzs, hsz⟩ := apk_parts hk
  cases A <;> cases A2 <;> simp [execOp, resolve, invoke, builtin, hx, hy, Builtin.append_, run_underlying hu, sizeOf, typeInfo, hi, Builtin.lenOf, hkc, Result.andThen, Sem.run_bind, Sem.run_pure, Builtin.firstCells, storeCells, loadCells, loadCellsFrom]
theorem z1_append0 {T e size bytes k c c2 : Nat} {A A2 : Option Addr} (hg : want ops f ⟨some d, .call ⟨.builtin .append, #[x, y], #[T, T]⟩, ty, ps, af, gd⟩ = true) (hk : apk P T = some (e, size, bytes)) (hx : fev f x = .slice A k c) (hy : fev f y = .slice A2 0 c2) (hkc : k ≤ c)
    (kk : PV P ro ops Q w0 M h prest D (upd f d (.slice A k c))) : PV P ro ops Q w0 M h ((1, ⟨some d, .call ⟨.builtin .append, #[x, y], #[T, T]⟩, ty, ps, af, gd⟩) :: prest) D f :=
  PV.step1 fun w S => beh_run hg (append0_run hk hx hy hkc) ⟨h, S, St.keeps h (Keeps.refl _ _), ⟨[], List.Perm.refl _⟩, kk⟩
theorem z2_append0 {T e size bytes k c c2 : Nat} {A A2 : Option Addr} (hg : want ops f ⟨some d, .call ⟨.builtin .append, #[x, y], #[T, T]⟩, ty, ps, af, gd⟩ = true) (hk : apk P T = some (e, size, bytes)) (hx : fev f x = .slice A k c) (hy : fev f y = .slice A2 0 c2) (hkc : k ≤ c)
    (kk : PV P ro ops Q w0 M h prest D (upd f d (.slice A k c))) : PV P ro ops Q w0 M h ((2, ⟨some d, .call ⟨.builtin .append, #[x, y], #[T, T]⟩, ty, ps, af, gd⟩) :: prest) D f :=
  PV.step2 fun w S => beh_run hg (append0_run hk hx hy hkc) ⟨h, S, St.keeps h (Keeps.refl _ _), kk⟩
theorem Sat.rdCl {b : Nat} {T : TypeId} {cs : List Value} (S : Sat w0 M h w) (hh : Has h (.cl b T cs)) (size : Nat) : Rd w (some ⟨b, 0, none⟩) size 1 (fun _ => cs) :=
  ⟨fun _ => rfl, fun i j u hi hu => by
    have h0 : i = 0 := by omega
    subst h0
    have := S.cells (off := 0) hh j u (by rw [Nat.zero_add]; exact hu)
    unfold ea
    rw [Nat.zero_mul, Nat.zero_add]
    exact this⟩
/-- one element appended to an empty slice that is not nil -/
theorem z2_appendOne {T e size bytes b b2 : Nat} {cs : List Value} (hg : want ops f ⟨some d, .call ⟨.builtin .append, #[x, y], #[T, T]⟩, ty, ps, af, gd⟩ = true) (hk : apk P T = some (e, size, bytes)) (hx : fev f x = .slice (some ⟨b, 0, none⟩) 0 0) (hy : fev f y = .slice (some ⟨b2, 0, none⟩) 1 1)
    (hh : Has h (.cl b2 e cs)) (hl : cs.length = size) (hby : Nat.ble bytes 100000 = true)
    (kk : ∀ g cap, PV P ro ops Q w0 M (.rw 0 (.slice (some ⟨g, 0, none⟩) 1 cap) e size [cs] :: h) prest D (upd f d (.slice (some ⟨g, 0, none⟩) 1 cap))) :
    PV P ro ops Q w0 M h ((2, ⟨some d, .call ⟨.builtin .append, #[x, y], #[T, T]⟩, ty, ps, af, gd⟩) :: prest) D f :=
  z2_appendAll (l := [()]) (en := fun _ => cs) () (fun _ => hl) (fun _ Sx => Sx.rdCl hh size) (by decide) (by decide) hg hk hx hy (.inr ⟨_, rfl⟩) hby (fun g cap _ => kk g cap)
theorem y_neStrC {T T' : TypeId} {a b : ByteArray} {c : Bool} (hc : @decide (¬ a = b) (Classical.propDecidable _) = c) (hg : want ops f ⟨some d, .binOp .neq T x y T', ty, ps, af, gd⟩ = true) (hx : fev f x = .string a) (hy : fev f y = .string b)
    (k : PV P ro ops Q w0 M h prest D (upd f d (.bool c))) : PV P ro ops Q w0 M h ((0, ⟨some d, .binOp .neq T x y T', ty, ps, af, gd⟩) :: prest) D f := by
  subst hc
  exact y_neStr hg hx hy k
theorem y_eqStrC {T T' : TypeId} {a b : ByteArray} {c : Bool} (hc : @decide (a = b) (Classical.propDecidable _) = c) (hg : want ops f ⟨some d, .binOp .eql T x y T', ty, ps, af, gd⟩ = true) (hx : fev f x = .string a) (hy : fev f y = .string b)
    (k : PV P ro ops Q w0 M h prest D (upd f d (.bool c))) : PV P ro ops Q w0 M h ((0, ⟨some d, .binOp .eql T x y T', ty, ps, af, gd⟩) :: prest) D f := by
  subst hc
  exact y_eqStr hg hx hy k
end
end Go.Proofs.Ytecmgjhnfgeldaa
