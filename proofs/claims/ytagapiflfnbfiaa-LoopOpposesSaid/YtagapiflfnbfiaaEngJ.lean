/- Maps of the call's own with bools as elements: made, looked up, written. No statement of the seat is proved here. -/
import Derived.Test.YtagapiflfnbfiaaEngV
import Derived.Maps.OwnSet
import Derived.Maps.Views
namespace Go.Proofs.Ytagapiflfnbfiaa
set_option linter.unusedVariables false
set_option linter.unusedSimpArgs false
open Go Go.RowKit
open Go.Maps (Keyed)
open Go.WideElems (Fit rg)
/-- a block that is a map of at most n entries, which holds m -/
def MapB (P : Program) (k e : TypeId) (n : Nat) (m : Lit → Bool) : Option Obj → Prop := fun o =>
  ∃ es clock, o = some (.map es clock) ∧ Fit P k (plainElem (H := Unit) P e) es clock ∧ es.size ≤ n ∧ ∀ kl, WideAt.IsKeyLit kl → (DataW.map ((es.toList.map (rg P k (plainElem (H := Unit) P e))).foldr DataW.insert [])).atKey kl (.lit (.bool false)) = .lit (.bool (m kl))
noncomputable def putB (m : Lit → Bool) (kl : Lit) (v : Bool) : Lit → Bool := fun z => @ite _ (z = kl) (Classical.propDecidable _) v (m z)
theorem putB_same (m : Lit → Bool) (kl : Lit) (v : Bool) : putB m kl v kl = v := by simp [putB]
theorem putB_other {m : Lit → Bool} {kl z : Lit} {v : Bool} (h : ¬ z = kl) : putB m kl v z = m z := by simp [putB, h]
theorem plainElem_bool_inv {P : Program} {e : TypeId} (he : P.underlying e = some .bool) {v : Value} {z : DataW Unit × List MemPlace} (h : plainElem P e v = some z) : ∃ b, v = .bool b ∧ z = (.lit (.bool b), []) := by
  unfold plainElem at h
  rw [he] at h
  cases v <;> simp at h
  exact ⟨_, rfl, h.symm⟩
/-- what is asked of a map's type: its key's, its element's -/
def mapT (P : Program) (t : TypeId) : Option (TypeId × TypeId) :=
  match P.underlying t with
  | some (.map k e) => match P.underlying e with
    | some .bool => match (P.info? e).bind (·.zero) with
      | some (.bool false) => some (k, e)
      | _ => none
    | _ => none
  | _ => none
theorem mapT_parts {P : Program} {t k e : TypeId} (h : mapT P t = some (k, e)) : P.underlying t = some (.map k e) ∧ P.underlying e = some .bool ∧ ∃ i, P.info? e = some i ∧ i.zero = some (.bool false) := by
  unfold mapT at h
  split at h <;> try (cases h; done)
  rename_i k' e' hu
  split at h <;> try (cases h; done)
  rename_i he
  split at h <;> try (cases h; done)
  rename_i hz
  injection h with h
  injection h with h1 h2
  subst h1; subst h2
  obtain ⟨i, hi, hz⟩ := Option.bind_eq_some_iff.1 hz
  exact ⟨hu, he, i, hi, hz⟩
section
variable {P : Program} {ro : Option Nat} {n : Nat} {Q : Post} {D : List Deferred} {f : Fm} {w w0 : World} {M : List Nat} {h : List HO}
variable {ops : Array Oper} {rest : List Oper} {d ty : Nat} {ps : String} {af : Array Edge} {gd : Option (Nat × Bool)} {x y z : Operand}
theorem x_makeMap {T k e : TypeId} (S : Sat w0 M h w) (hg : want ops f ⟨some d, .makeMap T none, ty, ps, af, gd⟩ = true) (hdn : Nat.blt d n = true) (hk : mapT P T = some (k, e))
    (kk : ∀ b w', Sat w0 M (.pr b (MapB P k e 0 (fun _ => false)) :: h) w' → WL P ro n ops Q rest D (upd f d (.map (some b))) w') : WL P ro n ops Q (⟨some d, .makeMap T none, ty, ps, af, gd⟩ :: rest) D f w := by
  refine wl_run (v := .map (some w.heap.size)) (w' := w.alloc (.map #[] 0)) hg hdn ?_ (kk _ _ ?_)
  · unfold execOp
    simp only [Option.map_none, Sem.run_bind, run_makeMap, Result.andThen_ok, Sem.run_pure]
  · refine S.add (World.grownBy_alloc w _ none) ⟨by simp, ?_, .inl S.le⟩ (fun b hb => by injection hb with hb; omega)
    obtain ⟨es, clock, hb, F, hs, hD⟩ := World.ownsMap_made w P k (plainElem (H := Unit) P e)
    refine ⟨es, clock, hb, F, hs, fun kl _ => ?_⟩
    rw [← hD]
    rfl
theorem x_lookupB {T k e : TypeId} {b c : Nat} {m : Lit → Bool} {key : Value} {kl : Lit} (S : Sat w0 M h w) (hg : want ops f ⟨some d, .lookup T x y false, ty, ps, af, gd⟩ = true) (hdn : Nat.blt d n = true) (hk : mapT P T = some (k, e)) (K : Keyed P k)
    (hx : fev f x = .map (some b)) (hy : fev f y = key) (hh : Has h (.pr b (MapB P k e c m))) (hkey : keyOf P k key = some kl) (hkl : WideAt.IsKeyLit kl) {vb : Bool} (hm : m kl = vb)
    (kk : WL P ro n ops Q rest D (upd f d (.bool vb)) w) : WL P ro n ops Q (⟨some d, .lookup T x y false, ty, ps, af, gd⟩ :: rest) D f w := by
  obtain ⟨hu, he, i, hi, hz⟩ := mapT_parts hk
  obtain ⟨_, ⟨es, clock, hb, F, hs, hat⟩, _⟩ := S.ok _ hh.mem
  have hown : w.ownsMap P k (plainElem (H := Unit) P e) b c (.map ((es.toList.map (rg P k (plainElem (H := Unit) P e))).foldr DataW.insert [])) := ⟨es, clock, hb, F, hs, rfl⟩
  obtain ⟨v, ps', hrun, hv⟩ := hown.lookup K hu (z := .bool false) (by simp [zeroValue, typeInfo, hi, hz, go_sem]) (plainElem_bool he false) hkey
  obtain ⟨b', rfl, hb'⟩ := plainElem_bool_inv he hv
  rw [hat kl hkl] at hb'
  have hb2 : b' = m kl := by
    injection hb' with h1 _
    injection h1 with h1
    injection h1 with h1
    exact h1.symm
  subst hb2
  subst hm
  refine wl_run (v := .bool (m kl)) (w' := w) hg hdn ?_ kk
  unfold execOp
  simp only [hx, hy, Sem.run_bind, hrun, Result.andThen_ok, Sem.run_pure]
theorem x_mapUpdateB {T k e : TypeId} {b c : Nat} {m : Lit → Bool} {key : Value} {kl : Lit} {vb : Bool} {F : HO → List HO} (S : Sat w0 M h w) (hg : want ops f ⟨none, .mapUpdate T x y z, ty, ps, af, gd⟩ = true) (hk : mapT P T = some (k, e)) (K : Keyed P k)
    (hx : fev f x = .map (some b)) (hy : fev f y = key) (hz : fev f z = .bool vb) (hr : RepF h (.pr b (MapB P k e c m)) F) (hc : c < maxLen) (hkey : keyOf P k key = some kl) (hkl : WideAt.IsKeyLit kl)
    (kk : ∀ w', Sat w0 M (F (.pr b (MapB P k e (c + 1) (putB m kl vb)))) w' → WL P ro n ops Q rest D f w') : WL P ro n ops Q (⟨none, .mapUpdate T x y z, ty, ps, af, gd⟩ :: rest) D f w := by
  obtain ⟨hu, he, _⟩ := mapT_parts hk
  obtain ⟨hlt, ⟨es, clock, hb, Ft, hs, hat⟩, hmine⟩ := S.ok _ (hr.rep (.pr b (MapB P k e c m))).mem
  have hown : w.ownsMap P k (plainElem (H := Unit) P e) b c (.map ((es.toList.map (rg P k (plainElem (H := Unit) P e))).foldr DataW.insert [])) := ⟨es, clock, hb, Ft, hs, rfl⟩
  obtain ⟨w', hrun, hown', hgr⟩ := hown.update K hu hc hkey (plainElem_bool he vb)
  obtain ⟨es', clock', hb', Ft', hs', hD⟩ := hown'
  refine wl_runSkip hg rfl ?_ (kk w' (S.rep (hr.rep _) hgr ⟨Nat.lt_of_lt_of_le hlt hgr.size, ⟨es', clock', hb', Ft', hs', fun kl' hkl' => ?_⟩, hmine⟩ (fun b' hb' => .inl hb')))
  · unfold execOp
    simp only [hx, hy, hz, Sem.run_bind, hrun, Result.andThen_ok, Sem.run_pure]
  · rw [← hD]
    by_cases hkk : kl' = kl
    · subst hkk
      rw [putB_same, Maps.atKey_put_same ⟨_, rfl⟩ hkl']
    · rw [putB_other hkk, Maps.atKey_put_other hkk, hat kl' hkl']
end
end Go.Proofs.Ytagapiflfnbfiaa
