/- EngQ: several texts in one. No statement of the seat is proved here. -/
import Derived.Test.YtfkcihcbmlcajaaEngT
import Derived.Maps.OwnSet
import Derived.Maps.Views
import Derived.Test.YtfkcihcbmlcajaaEngW
/- Maps of the call's own with bools as elements: made, looked up, written. No statement of the seat is proved here. -/
namespace Go.Proofs.Ytfkcihcbmlcajaa
set_option linter.unusedVariables false
set_option linter.unusedSimpArgs false
open Go Go.RowKit
open Go.Maps (Keyed)
open Go.WideElems (Fit rg)
/-- a block that is a map of at most n entries, which holds m -/
def MapB (P : Program) (k e : TypeId) (n : Nat) (m : Lit → Bool) : Option Obj → Prop := fun o =>
  ∃ es clock, o = some (.map es clock) ∧ Fit P k (plainElem (H := Unit) P e) es clock ∧ es.size ≤ n ∧ ∀ kl, WideAt.IsKeyLit kl → (DataW.map ((es.toList.map (rg P k (plainElem (H := Unit) P e))).foldr DataW.insert [])).atKey kl (.lit (.bool false)) = .lit (.bool (m kl))
noncomputable def putB (m : Lit → Bool) (kl : Lit) (v : Bool) : Lit → Bool := fun z => @ite _ (z = kl) (Classical.propDecidable _) v (m z)
theorem putB_same (m : Lit → Bool) (kl : Lit) (v : Bool) : putB m kl v kl = v := by simp [putB]
theorem putB_other {m : Lit → Bool} {kl z : Lit} {v : Bool} (h : ¬ z = kl) : putB m kl v z = m z := by simp [putB, h]
theorem plainElem_bool_inv {P : Program} {e : TypeId} (he : P.underlying e = some .bool) {v : Value} {z : DataW Unit × List MemPlace} (h : plainElem P e v = some z) : ∃ b, v = .bool b ∧ z = (.lit (.bool b), []) := by
  unfold plainElem at h
  rw [he] at h
  cases v <;> simp at h
  exact ⟨_, rfl, h.symm⟩
/-- what is asked of a map's type: its key's, its element's -/
def mapT (P : Program) (t : TypeId) : Option (TypeId × TypeId) :=
  match P.underlying t with
  | some (.map k e) => match P.underlying e with
    | some .bool => match (P.info? e).bind (·.zero) with
      | some (.bool false) => some (k, e)
      | _ => none
    | _ => none
  | _ => none
theorem mapT_parts {P : Program} {t k e : TypeId} (h : mapT P t = some (k, e)) : P.underlying t = some (.map k e) ∧ P.underlying e = some .bool ∧ ∃ i, P.info? e = some i ∧ i.zero = some (.bool false) := by
  unfold mapT at h
  split at h <;> try (cases h; done)
  rename_i k' e' hu
  split at h <;> try (cases h; done)
  rename_i he
  split at h <;> try (cases h; done)
  rename_i hz
  injection h with h
  injection h with h1 h2
  subst h1; subst h2
  obtain ⟨i, hi, hz⟩ := Option.bind_eq_some_iff.1 hz
  exact ⟨hu, he, i, hi, hz⟩
section
variable {P : Program} {ro : Option Nat} {n : Nat} {Q : Post} {D : List Deferred} {f : Fm} {w w0 : World} {M : List Nat} {h : List HO}
variable {ops : Array Oper} {rest : List Oper} {d ty : Nat} {ps : String} {af : Array Edge} {gd : Option (Nat × Bool)} {x y z : Operand}
theorem x_makeMap {T k e : TypeId} (S : Sat w0 M h w) (hg : want ops f ⟨some d, .makeMap T none, ty, ps, af, gd⟩ = true) (hdn : Nat.blt d n = true) (hk : mapT P T = some (k, e))
    (kk : ∀ b w', Sat w0 M (.pr b (MapB P k e 0 (fun _ => false)) :: h) w' → WL P ro n ops Q rest D (upd f d (.map (some b))) w') : WL P ro n ops Q (⟨some d, .makeMap T none, ty, ps, af, gd⟩ :: rest) D f w := by
  refine wl_run (v := .map (some w.heap.size)) (w' := w.alloc (.map #[] 0)) hg hdn ?_ (kk _ _ ?_)
  · unfold execOp
    simp only [Option.map_none, Sem.run_bind, run_makeMap, Result.andThen_ok, Sem.run_pure]
  · refine S.add (World.grownBy_alloc w _ none) ⟨by simp, ?_, .inl S.le⟩ (fun b hb => by injection hb with hb; omega)
    obtain ⟨es, clock, hb, F, hs, hD⟩ := World.ownsMap_made w P k (plainElem (H := Unit) P e)
    refine ⟨es, clock, hb, F, hs, fun kl _ => ?_⟩
    rw [← hD]
    rfl
theorem x_lookupB {T k e : TypeId} {b c : Nat} {m : Lit → Bool} {key : Value} {kl : Lit} (S : Sat w0 M h w) (hg : want ops f ⟨some d, .lookup T x y false, ty, ps, af, gd⟩ = true) (hdn : Nat.blt d n = true) (hk : mapT P T = some (k, e)) (K : Keyed P k)
    (hx : fev f x = .map (some b)) (hy : fev f y = key) (hh : Has h (.pr b (MapB P k e c m))) (hkey : keyOf P k key = some kl) (hkl : WideAt.IsKeyLit kl) {vb : Bool} (hm : m kl = vb)
    (kk : WL P ro n ops Q rest D (upd f d (.bool vb)) w) : WL P ro n ops Q (⟨some d, .lookup T x y false, ty, ps, af, gd⟩ :: rest) D f w := by
  obtain ⟨hu, he, i, hi, hz⟩ := mapT_parts hk
  obtain ⟨_, ⟨es, clock, hb, F, hs, hat⟩, _⟩ := S.ok _ hh.mem
  have hown : w.ownsMap P k (plainElem (H := Unit) P e) b c (.map ((es.toList.map (rg P k (plainElem (H := Unit) P e))).foldr DataW.insert [])) := ⟨es, clock, hb, F, hs, rfl⟩
  obtain ⟨v, ps', hrun, hv⟩ := hown.lookup K hu (z := .bool false) (by simp [zeroValue, typeInfo, hi, hz, go_sem]) (plainElem_bool he false) hkey
  obtain ⟨b', rfl, hb'⟩ := plainElem_bool_inv he hv
  rw [hat kl hkl] at hb'
  have hb2 : b' = m kl := by
    injection hb' with h1 _
    injection h1 with h1
    injection h1 with h1
    exact h1.symm
  subst hb2
  subst hm
  refine wl_run (v := .bool (m kl)) (w' := w) hg hdn ?_ kk
  unfold execOp
  simp only [hx, hy, Sem.run_bind, hrun, Result.andThen_ok, Sem.run_pure]
theorem x_mapUpdateB {T k e : TypeId} {b c : Nat} {m : Lit → Bool} {key : Value} {kl : Lit} {vb : Bool} {F : HO → List HO} (S : Sat w0 M h w) (hg : want ops f ⟨none, .mapUpdate T x y z, ty, ps, af, gd⟩ = true) (hk : mapT P T = some (k, e)) (K : Keyed P k)
    (hx : fev f x = .map (some b)) (hy : fev f y = key) (hz : fev f z = .bool vb) (hr : RepF h (.pr b (MapB P k e c m)) F) (hc : c < maxLen) (hkey : keyOf P k key = some kl) (hkl : WideAt.IsKeyLit kl)
    (kk : ∀ w', Sat w0 M (F (.pr b (MapB P k e (c + 1) (putB m kl vb)))) w' → WL P ro n ops Q rest D f w') : WL P ro n ops Q (⟨none, .mapUpdate T x y z, ty, ps, af, gd⟩ :: rest) D f w := by
  obtain ⟨hu, he, _⟩ := mapT_parts hk
  obtain ⟨hlt, ⟨es, clock, hb, Ft, hs, hat⟩, hmine⟩ := S.ok _ (hr.rep (.pr b (MapB P k e c m))).mem
  have hown : w.ownsMap P k (plainElem (H := Unit) P e) b c (.map ((es.toList.map (rg P k (plainElem (H := Unit) P e))).foldr DataW.insert [])) := ⟨es, clock, hb, Ft, hs, rfl⟩
  obtain ⟨w', hrun, hown', hgr⟩ := hown.update K hu hc hkey (plainElem_bool he vb)
  obtain ⟨es', clock', hb', Ft', hs', hD⟩ := hown'
  refine wl_runSkip hg rfl ?_ (kk w' (S.rep (hr.rep _) hgr ⟨Nat.lt_of_lt_of_le hlt hgr.size, ⟨es', clock', hb', Ft', hs', fun kl' hkl' => ?_⟩, hmine⟩ (fun b' hb' => .inl hb')))
  · unfold execOp
    simp only [hx, hy, hz, Sem.run_bind, hrun, Result.andThen_ok, Sem.run_pure]
  · rw [← hD]
    by_cases hkk : kl' = kl
    · subst hkk
      rw [putB_same, Maps.atKey_put_same ⟨_, rfl⟩ hkl']
    · rw [putB_other hkk, Maps.atKey_put_other hkk, hat kl' hkl']
end
end Go.Proofs.Ytfkcihcbmlcajaa
/- Maps with any values as elements: made, looked up, written; maps that were there. No statement of the seat is proved here. -/
namespace Go.Proofs.Ytfkcihcbmlcajaa
set_option linter.unusedVariables false
set_option linter.unusedSimpArgs false
open Go Go.RowKit
open Go.Maps (Keyed)
open Go.WideElems (Fit rg)
def rawE (v : Value) : Option (DataW Value × List MemPlace) := some (.held v, [])
/-- a block that is a map of at most n entries, which holds m -/
def MapV (P : Program) (k : TypeId) (n : Nat) (m : Lit → Option Value) : Option Obj → Prop := fun o =>
  ∃ es clock, o = some (.map es clock) ∧ Fit P k rawE es clock ∧ es.size ≤ n ∧ ∀ kl, WideAt.IsKeyLit kl → ∀ z, (DataW.map ((es.toList.map (rg P k rawE)).foldr DataW.insert [])).atKey kl z = ((m kl).map DataW.held).getD z
noncomputable def putV (m : Lit → Option Value) (kl : Lit) (v : Value) : Lit → Option Value := fun z => @ite _ (z = kl) (Classical.propDecidable _) (some v) (m z)
theorem putV_same (m : Lit → Option Value) (kl : Lit) (v : Value) : putV m kl v kl = some v := by simp [putV]
theorem putV_other {m : Lit → Option Value} {kl z : Lit} {v : Value} (h : ¬ z = kl) : putV m kl v z = m z := by simp [putV, h]
/-- what is asked of a map's type: its key's, its element's zero -/
def mapZ (P : Program) (t : TypeId) : Option (TypeId × Value) :=
  match P.underlying t with
  | some (.map k e) => match (P.info? e).bind (·.zero) with
    | some z => some (k, z)
    | none => none
  | _ => none
theorem mapZ_parts {P : Program} {t k : TypeId} {z : Value} (h : mapZ P t = some (k, z)) : ∃ e, P.underlying t = some (.map k e) ∧ ∃ i, P.info? e = some i ∧ i.zero = some z := by
  unfold mapZ at h
  split at h <;> try (cases h; done)
  rename_i k' e' hu
  split at h <;> try (cases h; done)
  rename_i z' hz
  injection h with h
  injection h with h1 h2
  subst h1; subst h2
  obtain ⟨i, hi, hz⟩ := Option.bind_eq_some_iff.1 hz
  exact ⟨e', hu, i, hi, hz⟩
/-- a block that was there, and is not ours -/
structure OldP (w : World) (M : List Nat) (b : Nat) (φ : Option Obj → Prop) : Prop where
  lt : b < w.heap.size
  at_ : φ (w.heap[b]?)
  out : b ∉ M
theorem OldP.keeps {w w' : World} {M : List Nat} {b : Nat} {φ : Option Obj → Prop} (O : OldP w M b φ) (K : Keeps M w w') : OldP w' M b φ :=
  ⟨Nat.lt_of_lt_of_le O.lt K.size, by rw [K.block b O.lt O.out]; exact O.at_, O.out⟩
theorem OldP.now {w0 w : World} {M : List Nat} {h : List HO} {b : Nat} {φ : Option Obj → Prop} (O : OldP w0 M b φ) (S : Sat w0 M h w) : φ (w.heap[b]?) := (O.keeps S.keeps).at_
theorem Sat.prAt {w0 w : World} {M : List Nat} {h : List HO} {b : Nat} {φ : Option Obj → Prop} (S : Sat w0 M h w) (hh : Has h (.pr b φ)) : φ (w.heap[b]?) := (S.ok _ hh.mem).2.1
theorem Sat.oldPr {w0 w : World} {M : List Nat} {hc fr : List HO} {b : Nat} {φ : Option Obj → Prop} (S : Sat w0 M (hc ++ fr) w) (hm : HO.pr b φ ∈ fr) : OldP w (blks hc) b φ := by
  obtain ⟨_, _, hap⟩ := List.pairwise_append.1 S.apart
  have h1 := S.ok _ (List.mem_append_right _ hm)
  refine ⟨h1.1, h1.2.1, fun hb => ?_⟩
  obtain ⟨o2, h2, h3⟩ := blks_mem hb
  exact hap o2 h2 _ hm b h3 rfl
theorem Sat.oldPr0 {w0 w : World} {M : List Nat} {h : List HO} {b : Nat} {φ : Option Obj → Prop} (S : Sat w0 M h w) (hh : Has h (.pr b φ)) : OldP w [] b φ :=
  have h1 := S.ok _ hh.mem
  ⟨h1.1, h1.2.1, by simp⟩
section
variable {P : Program} {ro : Option Nat} {n : Nat} {Q : Post} {D : List Deferred} {f : Fm} {w w0 : World} {M : List Nat} {h : List HO}
variable {ops : Array Oper} {rest : List Oper} {d ty : Nat} {ps : String} {af : Array Edge} {gd : Option (Nat × Bool)} {x y z : Operand}
theorem MapV.at_ {k : TypeId} {b c : Nat} {m : Lit → Option Value} (H : MapV P k c m (w.heap[b]?)) : ∃ D : DataW Value, w.ownsMap P k rawE b c D ∧ ∀ kl, WideAt.IsKeyLit kl → ∀ z, D.atKey kl z = ((m kl).map DataW.held).getD z := by
  obtain ⟨es, clock, hb, F, hs, hat⟩ := H
  exact ⟨_, ⟨es, clock, hb, F, hs, rfl⟩, hat⟩
theorem MapV.mono {k : TypeId} {c c' : Nat} {m : Lit → Option Value} {o : Option Obj} (H : MapV P k c m o) (h : c ≤ c') : MapV P k c' m o := by
  obtain ⟨es, clock, hb, F, hs, hat⟩ := H
  exact ⟨es, clock, hb, F, Nat.le_trans hs h, hat⟩
theorem x_makeMapV {T k : TypeId} {zv : Value} (S : Sat w0 M h w) (hg : want ops f ⟨some d, .makeMap T none, ty, ps, af, gd⟩ = true) (hdn : Nat.blt d n = true) (_hk : mapZ P T = some (k, zv))
    (kk : ∀ b w', Sat w0 M (.pr b (MapV P k 0 (fun _ => none)) :: h) w' → WL P ro n ops Q rest D (upd f d (.map (some b))) w') : WL P ro n ops Q (⟨some d, .makeMap T none, ty, ps, af, gd⟩ :: rest) D f w := by
  refine wl_run (v := .map (some w.heap.size)) (w' := w.alloc (.map #[] 0)) hg hdn ?_ (kk _ _ ?_)
  · unfold execOp
    simp only [Option.map_none, Sem.run_bind, run_makeMap, Result.andThen_ok, Sem.run_pure]
  · refine S.add (World.grownBy_alloc w _ none) ⟨by simp, ?_, .inl S.le⟩ (fun b hb => by injection hb with hb; omega)
    obtain ⟨es, clock, hb, F, hs, hD⟩ := World.ownsMap_made w P k rawE
    refine ⟨es, clock, hb, F, hs, fun kl _ z => ?_⟩
    rw [← hD]
    rfl
theorem run_lookV {T k : TypeId} {zv : Value} {b c : Nat} {m : Lit → Option Value} {key : Value} {kl : Lit} (hk : mapZ P T = some (k, zv)) (K : Keyed P k) (H : MapV P k c m (w.heap[b]?)) (hkey : keyOf P k key = some kl) (hkl : WideAt.IsKeyLit kl) :
    (Instr.lookup T (.map (some b)) key false).run P w = .ok ((m kl).getD zv) w ∧ (Instr.lookup T (.map (some b)) key true).run P w = .ok (.tuple #[(m kl).getD zv, .bool (m kl).isSome]) w := by
  obtain ⟨e, hu, i, hi, hz⟩ := mapZ_parts hk
  obtain ⟨D', hown, hat⟩ := H.at_
  have hzv : (zeroValue e).run P w = .ok zv w := by simp [zeroValue, typeInfo, hi, hz, go_sem]
  have key1 : ∀ v ps, rawE v = some (D'.atKey kl (.held zv), ps) → v = (m kl).getD zv := fun v ps hv => by
    rw [hat kl hkl] at hv
    unfold rawE at hv
    injection hv with hv
    injection hv with hv _
    cases hm : m kl with
    | none => rw [hm] at hv; injection hv
    | some u => rw [hm] at hv; injection hv
  have hhas : Maps.has D' kl = (m kl).isSome := by
    cases hm : m kl with
    | none => exact Maps.has_false_of_atKey (fun z => by rw [hat kl hkl, hm]; rfl)
    | some u => exact Maps.has_true_of_atKey (y := .held u) (fun z => by rw [hat kl hkl, hm]; rfl)
  constructor
  · obtain ⟨v, ps', hrun, hv⟩ := hown.lookup K hu hzv (zd := .held zv) (zp := []) rfl hkey
    rw [hrun, key1 v ps' hv]
  · obtain ⟨v, ps', hrun, hv⟩ := hown.look_ok K hu hzv (zd := .held zv) (zp := []) rfl hkey
    rw [hrun, key1 v ps' hv, hhas]
theorem r_lookV {T k : TypeId} {zv v : Value} {b c : Nat} {m : Lit → Option Value} {key : Value} {kl : Lit} (H : MapV P k c m (w.heap[b]?)) (hk : mapZ P T = some (k, zv)) (K : Keyed P k)
    (hx : fev f x = .map (some b)) (hy : fev f y = key) (hkey : keyOf P k key = some kl) (hkl : WideAt.IsKeyLit kl) (hv : (m kl).getD zv = v) : (execOp (fev f) ⟨some d, .lookup T x y false, ty, ps, af, gd⟩).run P w = .ok (.value v) w := by
  subst hv
  unfold execOp
  simp only [hx, hy, Sem.run_bind, (run_lookV hk K H hkey hkl).1, Result.andThen_ok, Sem.run_pure]
theorem r_lookVok {T k : TypeId} {zv v : Value} {ok : Bool} {b c : Nat} {m : Lit → Option Value} {key : Value} {kl : Lit} (H : MapV P k c m (w.heap[b]?)) (hk : mapZ P T = some (k, zv)) (K : Keyed P k)
    (hx : fev f x = .map (some b)) (hy : fev f y = key) (hkey : keyOf P k key = some kl) (hkl : WideAt.IsKeyLit kl) (hv : (m kl).getD zv = v) (ho : (m kl).isSome = ok) : (execOp (fev f) ⟨some d, .lookup T x y true, ty, ps, af, gd⟩).run P w = .ok (.value (.tuple #[v, .bool ok])) w := by
  subst hv
  subst ho
  unfold execOp
  simp only [hx, hy, Sem.run_bind, (run_lookV hk K H hkey hkl).2, Result.andThen_ok, Sem.run_pure]
theorem x_lookV {T k : TypeId} {zv v : Value} {b c : Nat} {m : Lit → Option Value} {key : Value} {kl : Lit} (hg : want ops f ⟨some d, .lookup T x y false, ty, ps, af, gd⟩ = true) (hdn : Nat.blt d n = true) (hk : mapZ P T = some (k, zv)) (K : Keyed P k)
    (hx : fev f x = .map (some b)) (hy : fev f y = key) (H : MapV P k c m (w.heap[b]?)) (hkey : keyOf P k key = some kl) (hkl : WideAt.IsKeyLit kl) (hv : (m kl).getD zv = v)
    (kk : WL P ro n ops Q rest D (upd f d v) w) : WL P ro n ops Q (⟨some d, .lookup T x y false, ty, ps, af, gd⟩ :: rest) D f w :=
  wl_run (v := v) (w' := w) hg hdn (r_lookV H hk K hx hy hkey hkl hv) kk
theorem x_lookVok {T k : TypeId} {zv v : Value} {ok : Bool} {b c : Nat} {m : Lit → Option Value} {key : Value} {kl : Lit} (hg : want ops f ⟨some d, .lookup T x y true, ty, ps, af, gd⟩ = true) (hdn : Nat.blt d n = true) (hk : mapZ P T = some (k, zv)) (K : Keyed P k)
    (hx : fev f x = .map (some b)) (hy : fev f y = key) (H : MapV P k c m (w.heap[b]?)) (hkey : keyOf P k key = some kl) (hkl : WideAt.IsKeyLit kl) (hv : (m kl).getD zv = v) (ho : (m kl).isSome = ok)
    (kk : WL P ro n ops Q rest D (upd f d (.tuple #[v, .bool ok])) w) : WL P ro n ops Q (⟨some d, .lookup T x y true, ty, ps, af, gd⟩ :: rest) D f w :=
  wl_run (v := .tuple #[v, .bool ok]) (w' := w) hg hdn (r_lookVok H hk K hx hy hkey hkl hv ho) kk
theorem putV_run {T k : TypeId} {zv v : Value} {b c : Nat} {m : Lit → Option Value} {key : Value} {kl : Lit} {F : HO → List HO} (S : Sat w0 M h w) (hk : mapZ P T = some (k, zv)) (K : Keyed P k)
    (hx : fev f x = .map (some b)) (hy : fev f y = key) (hz : fev f z = v) (hr : RepF h (.pr b (MapV P k c m)) F) (hc : c < maxLen) (hkey : keyOf P k key = some kl) :
    ∃ w', (execOp (fev f) ⟨none, .mapUpdate T x y z, ty, ps, af, gd⟩).run P w = .ok .skip w' ∧ Sat w0 M (F (.pr b (MapV P k (c + 1) (putV m kl v)))) w' ∧ w.grownBy w' (some b) := by
  obtain ⟨e, hu, _⟩ := mapZ_parts hk
  obtain ⟨hlt, H, hmine⟩ := S.ok _ (hr.rep (.pr b (MapV P k c m))).mem
  obtain ⟨D', hown, hat⟩ := H.at_
  obtain ⟨w', hrun, hown', hgr⟩ := hown.update K hu hc hkey (val := v) (d := .held v) (ps := []) rfl
  have hisM := hown.isMap
  obtain ⟨es', clock', hb', Ft', hs', hD⟩ := hown'
  refine ⟨w', ?_, S.rep (hr.rep _) hgr ⟨Nat.lt_of_lt_of_le hlt hgr.size, ⟨es', clock', hb', Ft', hs', fun kl' hkl' zz => ?_⟩, hmine⟩ (fun b' hb' => .inl hb'), hgr⟩
  · unfold execOp
    simp only [hx, hy, hz, Sem.run_bind, hrun, Result.andThen_ok, Sem.run_pure]
  · rw [← hD]
    by_cases hkk : kl' = kl
    · subst hkk
      rw [putV_same, Maps.atKey_put_same hisM hkl']
      rfl
    · rw [putV_other hkk, Maps.atKey_put_other hkk, hat kl' hkl']
theorem x_putV {T k : TypeId} {zv v : Value} {b c : Nat} {m : Lit → Option Value} {key : Value} {kl : Lit} {F : HO → List HO} (S : Sat w0 M h w) (hg : want ops f ⟨none, .mapUpdate T x y z, ty, ps, af, gd⟩ = true) (hk : mapZ P T = some (k, zv)) (K : Keyed P k)
    (hx : fev f x = .map (some b)) (hy : fev f y = key) (hz : Is (fev f z) v) (hr : RepF h (.pr b (MapV P k c m)) F) (hc : c < maxLen) (hkey : keyOf P k key = some kl)
    (kk : ∀ w', Sat w0 M (F (.pr b (MapV P k (c + 1) (putV m kl v)))) w' → WL P ro n ops Q rest D f w') : WL P ro n ops Q (⟨none, .mapUpdate T x y z, ty, ps, af, gd⟩ :: rest) D f w := by
  obtain ⟨w', hrun, S', _⟩ := putV_run (P := P) (f := f) (ty := ty) (ps := ps) (af := af) (gd := gd) S hk K hx hy hz.eq hr hc hkey
  exact wl_runSkip hg rfl hrun (kk w' S')
end
end Go.Proofs.Ytfkcihcbmlcajaa
/- A queue: a slice of single cells, cut in front and appended to. No statement of the seat is proved here. -/
namespace Go.Proofs.Ytfkcihcbmlcajaa
set_option linter.unusedVariables false
set_option linter.unusedSimpArgs false
open Go Go.RowKit
/-- a block of which the cells from k on hold xs, and c cells from k on may be used -/
def QB (e k c : Nat) (xs : List Value) : Option Obj → Prop := fun o =>
  ∃ cur : Array Value, o = some (.cells cur e (0, 0)) ∧ k + c ≤ cur.size ∧ xs.length ≤ c ∧ ∀ j v, xs[j]? = some v → cur[k + j]? = some v
section
variable {P : Program} {ro : Option Nat} {n : Nat} {Q : Post} {D : List Deferred} {f : Fm} {w w0 : World} {M : List Nat} {h : List HO}
variable {ops : Array Oper} {rest : List Oper} {d ty : Nat} {ps : String} {af : Array Edge} {gd : Option (Nat × Bool)} {x y z : Operand}
theorem run_append_room_off (t ty e : TypeId) (i : TypeInfo) (ht : P.underlying t = some (.slice e)) (hi : P.info? e = some i)
    (g off sLen sCap : Nat) (cur : Array Value) (hg : w.heap[g]? = some (.cells cur e (0, 0)))
    (a : Addr) (m c : Nat) (news : List Value) (hl : news.length = m * i.size) (hnews : ∀ j u, news[j]? = some u → w.cell? (a.add j) = some u) (h1 : ∀ u ∈ news, u.oneCell' = true)
    (hroom : sLen + m ≤ sCap) (hfit : off + sLen * i.size + news.length ≤ cur.size) :
    (Builtin.append_ #[t, t] ty #[.slice (some ⟨g, off, none⟩) sLen sCap, .slice (some a) m c]).run P w =
      .ok (.slice (some ⟨g, off, none⟩) (sLen + m) sCap) (w.setRow g (cur.toList.take (off + sLen * i.size) ++ news ++ cur.toList.drop (off + sLen * i.size + news.length)).toArray) := by
  have hf := run_firstCells_some (P := P) w i.size m a m c news hl hnews
  have hst := run_storeCells_at P g (off + sLen * i.size) e news 0 cur w hg (by simpa using hfit) h1
  simp only [Nat.add_zero] at hst
  simp [Builtin.append_, run_underlying ht, sizeOf, typeInfo, hi, Builtin.lenOf, hroom, hf, Addr.add_lit, hst]
theorem Sat.toQ {b e : Nat} {cs : List Value} {F : HO → List HO} (S : Sat w0 M h w) (hr : RepF h (.cl b e cs) F) : Sat w0 M (F (.pr b (QB e 0 cs.length cs))) w := by
  obtain ⟨h1, h2⟩ := S.ok _ (hr.rep (.cl b e cs)).mem
  refine S.rep (hr.rep _) ⟨rfl, rfl, rfl, Nat.le_refl _, fun _ _ _ => rfl⟩ ⟨(Array.getElem?_eq_some_iff.1 h1).1, ⟨cs.toArray, h1, by simp, Nat.le_refl _, fun j v hj => ?_⟩, h2⟩ (fun b' hb' => .inl hb')
  rw [Nat.zero_add]; simpa using hj
theorem QB.cut {e k c : Nat} {v : Value} {xs : List Value} {o : Option Obj} (H : QB e k c (v :: xs) o) : QB e (k + 1) (c - 1) xs o := by
  obtain ⟨cur, h1, h2, h3, h4⟩ := H
  simp only [List.length_cons] at h3
  refine ⟨cur, h1, by omega, by omega, fun j u hj => ?_⟩
  have := h4 (j + 1) u (by simpa using hj)
  rw [show k + 1 + j = k + (j + 1) by omega]
  exact this
theorem QB.cut0 {e k c : Nat} {v : Value} {o : Option Obj} (H : QB e k c [v] o) : QB e k (c - 1) [] o := by
  obtain ⟨cur, h1, h2, h3, h4⟩ := H
  exact ⟨cur, h1, by omega, Nat.zero_le _, fun j u hj => by simp at hj⟩
theorem x_loadQ {T g e k c : Nat} {v : Value} {xs : List Value} (S : Sat w0 M h w) (hg : want ops f ⟨some d, .load T x, ty, ps, af, gd⟩ = true) (hdn : Nat.blt d n = true)
    (hx : fev f x = .pointer (some (ea (some ⟨g, k, none⟩) 1 0 0))) (hh : Has h (.pr g (QB e k c (v :: xs)))) (hk : ldk P T = some none)
    (kk : WL P ro n ops Q rest D (upd f d v) w) : WL P ro n ops Q (⟨some d, .load T x, ty, ps, af, gd⟩ :: rest) D f w := by
  obtain ⟨cur, h1, h2, h3, h4⟩ := S.prAt hh
  have hcell : ∀ j u, [v][0 + j]? = some u → w.cell? ((ea (some ⟨g, k, none⟩) 1 0 0).add j) = some u := fun j u hj => by
    have e0 : ea (some ⟨g, k, none⟩) 1 0 0 = ⟨g, k, none⟩ := rfl
    have hj0 : j = 0 := by
      have := (List.getElem?_eq_some_iff.1 hj).1
      simp at this; omega
    subst hj0
    rw [e0, add_at, cell_of_row w g _ _ _ _ h1]
    simp at hj
    subst hj
    exact h4 0 v rfl
  exact wl_run (v := v) (w' := w) hg hdn (r_load_at (v0 := v) rfl hx hcell hk rfl) kk
theorem x_sliceQ {T g e k c : Nat} {v : Value} {xs : List Value} {kd : IntKind} {F : HO → List HO} (S : Sat w0 M h w) (hg : want ops f ⟨some d, .slice T x (some y) none none, ty, ps, af, gd⟩ = true) (hdn : Nat.blt d n = true)
    (hx : fev f x = .slice (some ⟨g, k, none⟩) (xs.length + 1) c) (hy : fev f y = .int kd 1) (hr : RepF h (.pr g (QB e k c (v :: xs))) F) (hs : elemSize P T = some 1)
    (kk : ∀ k' c', Sat w0 M (F (.pr g (QB e k' c' xs))) w → WL P ro n ops Q rest D (upd f d (.slice (some ⟨g, k', none⟩) xs.length c')) w) : WL P ro n ops Q (⟨some d, .slice T x (some y) none none, ty, ps, af, gd⟩ :: rest) D f w := by
  have hrun := run_sliceLo (P := P) (w := w) (d := d) (ty := ty) (ps := ps) (af := af) (gd := gd) hx hy hs (by omega) (by omega)
  have hok := S.ok _ (hr.rep (.pr g (QB e k c (v :: xs)))).mem
  have turn : ∀ k' c', QB e k' c' xs (w.heap[g]?) → Sat w0 M (F (.pr g (QB e k' c' xs))) w := fun k' c' hq =>
    S.rep (hr.rep _) ⟨rfl, rfl, rfl, Nat.le_refl _, fun _ _ _ => rfl⟩ ⟨hok.1, hq, hok.2.2⟩ (fun b' hb' => .inl hb')
  have e1 : (1 : Int).toNat = 1 := rfl
  rw [e1, Nat.add_sub_cancel] at hrun
  by_cases hc : c = 1
  · subst hc
    have hx0 : xs = [] := by
      obtain ⟨_, _, _, h3, _⟩ := hok.2.1
      simp only [List.length_cons] at h3
      exact List.length_eq_zero_iff.1 (by omega)
    subst hx0
    exact wl_run hg hdn hrun (kk k 0 (turn k 0 hok.2.1.cut0))
  · have e2 : sub (some ⟨g, k, none⟩) 1 1 c = some ⟨g, k + 1, none⟩ := by
      unfold sub
      rw [if_neg hc]
      simp [add_at]
    rw [e2] at hrun
    exact wl_run hg hdn hrun (kk (k + 1) (c - 1) (turn _ _ hok.2.1.cut))
theorem x_appendQ {T e bytes g k c b : Nat} {v : Value} {xs : List Value} {F : HO → List HO} (S : Sat w0 M h w)
    (hg : want ops f ⟨some d, .call ⟨.builtin .append, #[x, y], #[T, T]⟩, ty, ps, af, gd⟩ = true) (hdn : Nat.blt d n = true) (hk : apk P T = some (e, 1, bytes)) (hx : fev f x = .slice (some ⟨g, k, none⟩) xs.length c) (hy : fev f y = .slice (some ⟨b, 0, none⟩) 1 1)
    (hr : RepF h (.pr g (QB e k c xs)) F) (hh : Has h (.cl b e [v])) (h1 : one v = true) (hby : Nat.ble bytes 100000 = true) (hsm : xs.length < 1000000000)
    (kk : ∀ g' k' c' w', Sat w0 M (F (.pr g' (QB e k' c' (xs ++ [v])))) w' → WL P ro n ops Q rest D (upd f d (.slice (some ⟨g', k', none⟩) (xs.length + 1) c')) w') :
    WL P ro n ops Q (⟨some d, .call ⟨.builtin .append, #[x, y], #[T, T]⟩, ty, ps, af, gd⟩ :: rest) D f w := by
  obtain ⟨hlt, ⟨cur, hcur, hfit, hlen, hat⟩, hmine⟩ := S.ok _ (hr.rep (.pr g (QB e k c xs))).mem
  have hcl := S.cl hh
  have hone : v.oneCell' = true := by rw [← one_eq]; exact h1
  obtain ⟨hu, i, zv, hi, hz, hsize, hbyt, hzs, hsz⟩ := apk_parts hk
  have hnews : ∀ j u, [v][j]? = some u → w.cell? ((⟨b, 0, none⟩ : Addr).add j) = some u := fun j u hj => by
    rw [add_at, cell_of_row w b _ _ _ _ hcl]; simpa using hj
  by_cases hroom : xs.length + 1 ≤ c
  · have hrun := run_append_room_off (P := P) (w := w) T ty e i hu hi g k xs.length c cur hcur ⟨b, 0, none⟩ 1 1 [v] (by rw [hsize]; rfl) hnews (by intro u hu2; simp at hu2; subst hu2; exact hone) hroom (by rw [hsize, Nat.mul_one]; show k + xs.length + 1 ≤ cur.size; omega)
    rw [hsize, Nat.mul_one] at hrun
    have hexec : (execOp (fev f) ⟨some d, .call ⟨.builtin .append, #[x, y], #[T, T]⟩, ty, ps, af, gd⟩).run P w = .ok (.value (.slice (some ⟨g, k, none⟩) (xs.length + 1) c)) (w.setRow g (cur.toList.take (k + xs.length) ++ [v] ++ cur.toList.drop (k + xs.length + [v].length)).toArray) := by
      simp [execOp, resolve, invoke, builtin, hx, hy, hrun, Result.andThen, Sem.run_bind, Sem.run_pure]
    refine wl_run hg hdn hexec (kk g k c _ ?_)
    refine S.rep (hr.rep _) ⟨rfl, rfl, rfl, by simp, fun q _ hq => setRow_other w g q _ (fun e => hq (by rw [e]; rfl))⟩ ⟨by simpa using hlt, ⟨_, setRow_heap w g _ _ e _ hcur, ?_, by simpa using hroom, fun j u hj => ?_⟩, hmine⟩ (fun b' hb' => .inl hb')
    · simp; omega
    · have hkl : k + xs.length ≤ cur.toList.length := by simp; omega
      rw [List.getElem?_toArray]
      by_cases hjl : j < xs.length
      · rw [List.getElem?_append_left hjl] at hj
        rw [List.append_assoc, List.getElem?_append_left (by rw [List.length_take]; omega), List.getElem?_take_of_lt (by omega), Array.getElem?_toList]
        exact hat j u hj
      · have hj2 : j = xs.length := by
          have := (List.getElem?_eq_some_iff.1 hj).1
          simp at this; omega
        subst hj2
        rw [List.getElem?_append_right (Nat.le_refl _), Nat.sub_self] at hj
        rw [List.append_assoc, List.getElem?_append_right (by rw [List.length_take]; omega), List.length_take, Nat.min_eq_left hkl, Nat.sub_self]
        simpa using hj
  · have hbound : (xs.length + 1) * bytes ≤ 140737488355328 := Nat.le_trans (Nat.mul_le_mul (show xs.length + 1 ≤ 1000000000 by omega) (Nat.le_of_ble_eq_true hby)) (by decide)
    obtain ⟨v', w', hrun, hown, hgr⟩ := run_append_arg_grows (P := P) (w := w) T ty e i zv 1 bytes hu hi hz hsize hbyt hzs hsz ⟨g, k, none⟩ xs.length c xs (by simp) (fun j u hj => by rw [add_at, cell_of_row w g _ _ _ _ hcur]; exact hat j u hj) ⟨b, 0, none⟩ 1 1 [v] rfl hnews (by omega) (by unfold maxLen; omega) hbound
    obtain ⟨g', cap, rfl⟩ := ownsRow_succ hown
    have hexec : (execOp (fev f) ⟨some d, .call ⟨.builtin .append, #[x, y], #[T, T]⟩, ty, ps, af, gd⟩).run P w = .ok (.value (.slice (some ⟨g', 0, none⟩) (xs.length + 1) cap)) w' := by
      simp [execOp, resolve, invoke, builtin, hx, hy, hrun, Result.andThen, Sem.run_bind, Sem.run_pure]
    refine wl_run hg hdn hexec (kk g' 0 cap w' ?_)
    rcases hown.2 with ⟨h5, _⟩ | ⟨g2, cap2, cur2, h5, h6, h7, h8, h9, h10, h11⟩
    · simp at h5
    · simp only [Value.slice.injEq, Option.some.injEq, Addr.mk.injEq, and_true, true_and] at h5
      obtain ⟨rfl, rfl⟩ := h5
      refine S.rep (hr.rep _) ⟨hgr.os, hgr.tape, hgr.output, hgr.size, fun q hq _ => hgr.block q hq (by simp)⟩ ⟨(Array.getElem?_eq_some_iff.1 h7).1, ⟨cur2, h7, by omega, by simpa using h8, fun j u hj => ?_⟩, .inl (by have := S.le; omega)⟩ (fun b' hb' => .inr (by injection hb' with e1; omega))
      rw [Nat.mul_one] at h11
      rw [Nat.zero_add, ← Array.getElem?_toList]
      rw [← h11] at hj
      have hjl : j < xs.length + 1 := by
        have := (List.getElem?_eq_some_iff.1 hj).1
        rw [List.length_take] at this
        omega
      rwa [List.getElem?_take_of_lt hjl] at hj
theorem x_insV {T k : TypeId} {zv v : Value} {b c : Nat} {m : Lit → Option Value} {key : Value} {kl : Lit} {F : HO → List HO} (S : Sat w0 M h w) (hg : want ops f ⟨none, .insert T x y z, ty, ps, af, gd⟩ = true) (hk : mapZ P T = some (k, zv)) (K : Go.Maps.Keyed P k)
    (hx : fev f x = .map (some b)) (hy : fev f y = key) (hz : Is (fev f z) v) (hr : RepF h (.pr b (MapV P k c m)) F) (hc : c < maxLen) (hkey : keyOf P k key = some kl)
    (kk : ∀ w', Sat w0 M (F (.pr b (MapV P k (c + 1) (putV m kl v)))) w' → WL P ro n ops Q rest D f w') : WL P ro n ops Q (⟨none, .insert T x y z, ty, ps, af, gd⟩ :: rest) D f w := by
  obtain ⟨w', hrun, S', _⟩ := putV_run (P := P) (f := f) (ty := ty) (ps := ps) (af := af) (gd := gd) S hk K hx hy hz.eq hr hc hkey
  refine wl_runSkip hg rfl ?_ (kk w' S')
  rw [← hrun]
  rfl
end
end Go.Proofs.Ytfkcihcbmlcajaa
/- Appends of which is known whether they grow; calls that change what is known, the order drawn; what was there, seen by a call; maps of few keys. No statement of the seat is proved here. -/
namespace Go.Proofs.Ytfkcihcbmlcajaa
set_option linter.unusedVariables false
set_option linter.unusedSimpArgs false
open Go Go.RowKit
open Go.Maps (Keyed)
open Go.WideElems (Fit rg)
section
variable {P : Program} {ro : Option Nat} {n : Nat} {Q : Post} {D : List Deferred} {f : Fm} {w w0 w' : World} {M : List Nat} {h : List HO}
variable {ops : Array Oper} {rest : List Oper} {prest : List (Nat × Oper)} {d ty : Nat} {ps : String} {af : Array Edge} {gd : Option (Nat × Bool)} {x y z : Operand} {al : List Operand}
theorem appendRoom_run {T e : TypeId} {size bytes k c b g : Nat} {xs : List (List Value)} {cs : List Value} {F : HO → List HO} (S : Sat w0 M h w) (hk : apk P T = some (e, size, bytes)) (hx : fev f x = .slice (some ⟨g, 0, none⟩) k c) (hy : fev f y = .slice (some ⟨b, 0, none⟩) 1 1)
    (hr : RepF h (.rw 0 (.slice (some ⟨g, 0, none⟩) k c) e size xs) F) (hh : Has h (.cl b e cs)) (hl : Nat.beq cs.length size = true) (ho : ones cs = true) (hby : Nat.ble bytes 100000 = true) (hsm : xs.length < 1000000000) (hroom : k < c) :
    ∃ w', (execOp (fev f) ⟨some d, .call ⟨.builtin .append, #[x, y], #[T, T]⟩, ty, ps, af, gd⟩).run P w = .ok (.value (.slice (some ⟨g, 0, none⟩) (xs.length + 1) c)) w' ∧
      Sat w0 M (F (.rw 0 (.slice (some ⟨g, 0, none⟩) (xs.length + 1) c) e size (xs ++ [cs]))) w' ∧ St h (F (.rw 0 (.slice (some ⟨g, 0, none⟩) (xs.length + 1) c) e size (xs ++ [cs]))) w w' := by
  obtain ⟨g', cap, w', hrun, S', st⟩ := append1_run (P := P) (f := f) (d := d) (ty := ty) (ps := ps) (af := af) (gd := gd) S hk hx hy hr hh hl ho hby hsm
  obtain ⟨h1, h2, h3⟩ := S.ok _ (hr.rep (.rw 0 (.slice (some ⟨g, 0, none⟩) k c) e size xs)).mem
  have hcl := S.cl hh
  have hl' := Nat.eq_of_beq_eq_true hl
  rcases h3.2 with ⟨hv, _⟩ | ⟨g2, cap2, cur, hv, hb2, hg2, hn2, hm2, hs2, ht2⟩
  · cases hv
  · simp only [Value.slice.injEq, Option.some.injEq, Addr.mk.injEq, and_true] at hv
    obtain ⟨rfl, hkx, rfl⟩ := hv
    obtain ⟨hu, i, zv, hi, hz, hsize, hbyt, hzs, hsz⟩ := apk_parts hk
    have hfit : k * i.size + cs.length ≤ cur.size := by
      rw [hsize, hl', hs2, ← Nat.succ_mul]
      exact Nat.mul_le_mul_right _ hroom
    have hrun2 := run_append_room (P := P) (w := w) T ty e i hu hi g k c cur hg2 ⟨b, 0, none⟩ 1 1 cs (by rw [hsize, hl', Nat.one_mul]) (fun j u hu => by rw [add_at, cell_of_row w b _ _ _ _ hcl]; simpa using hu) (ones_mem ho) hroom hfit
    have hexec : (execOp (fev f) ⟨some d, .call ⟨.builtin .append, #[x, y], #[T, T]⟩, ty, ps, af, gd⟩).run P w = .ok (.value (.slice (some ⟨g, 0, none⟩) (k + 1) c)) (w.setRow g (cur.toList.take (k * i.size) ++ cs ++ cur.toList.drop (k * i.size + cs.length)).toArray) := by
      simp [execOp, resolve, invoke, builtin, hx, hy, hrun2, Result.andThen, Sem.run_bind, Sem.run_pure]
    rw [hexec] at hrun
    injection hrun with e1 e2
    injection e1 with e1
    injection e1 with e3 e4 e5
    injection e3 with e3
    injection e3 with e3
    subst e3; subst e5
    exact ⟨w', by rw [hexec, e2, e4], S', st⟩
theorem appendNew_run {T e : TypeId} {size bytes k c b : Nat} {A : Option Addr} {xs : List (List Value)} {cs : List Value} (S : Sat w0 M h w) (hk : apk P T = some (e, size, bytes)) (hx : fev f x = .slice A k c) (hy : fev f y = .slice (some ⟨b, 0, none⟩) 1 1)
    (hr : Has h (.rw 0 (.slice A k c) e size xs)) (hh : Has h (.cl b e cs)) (hl : Nat.beq cs.length size = true) (ho : ones cs = true) (hby : Nat.ble bytes 100000 = true) (hsm : xs.length < 1000000000) (hroom : ¬ k < c) :
    ∃ g cap w', (execOp (fev f) ⟨some d, .call ⟨.builtin .append, #[x, y], #[T, T]⟩, ty, ps, af, gd⟩).run P w = .ok (.value (.slice (some ⟨g, 0, none⟩) (xs.length + 1) cap)) w' ∧
      Sat w0 M (.rw 0 (.slice (some ⟨g, 0, none⟩) (xs.length + 1) cap) e size (xs ++ [cs]) :: h) w' ∧ St h (.rw 0 (.slice (some ⟨g, 0, none⟩) (xs.length + 1) cap) e size (xs ++ [cs]) :: h) w w' := by
  obtain ⟨h1, h2, h3⟩ := S.ok _ hr.mem
  have hcl := S.cl hh
  have hl' := Nat.eq_of_beq_eq_true hl
  have hby' := Nat.le_of_ble_eq_true hby
  have hbound : (xs.length + 1) * bytes ≤ 140737488355328 := Nat.le_trans (Nat.mul_le_mul (show xs.length + 1 ≤ 1000000000 by omega) hby') (by decide)
  have hnews : ∀ j u, cs[j]? = some u → w.cell? ((⟨b, 0, none⟩ : Addr).add j) = some u := fun j u hu => by rw [add_at, cell_of_row w b _ _ _ _ hcl]; simpa using hu
  have hlen : ∀ r ∈ xs ++ [cs], r.length = size := fun r hr' => by
    rcases List.mem_append.1 hr' with h4 | h4
    · exact h2 r h4
    · rcases List.mem_cons.1 h4 with rfl | h4
      · exact hl'
      · cases h4
  have hlx : (xs ++ [cs]).length = xs.length + 1 := by simp
  have hfl : (xs ++ [cs]).flatten = xs.flatten ++ cs := by simp
  obtain ⟨v', w', hrun, hown, hgr⟩ : ∃ v' w', (execOp (fev f) ⟨some d, .call ⟨.builtin .append, #[x, y], #[T, T]⟩, ty, ps, af, gd⟩).run P w = .ok (.value v') w' ∧ w'.ownsRow w.heap.size e size v' (xs.length + 1) (xs.flatten ++ cs) ∧ w.grownBy w' none := by
    rcases h3.2 with ⟨hv, hn0⟩ | ⟨g2, cap2, cur, hv, hb2, hg2, hn2, hm2, hs2, ht2⟩
    · injection hv with a1 a2 a3
      subst a1; subst a3
      have hx0 : xs = [] := List.length_eq_zero_iff.1 hn0
      subst hx0
      obtain ⟨v', w', hrun, hown, hgr, _⟩ := run_append (P := P) (f := f) (d := d) (ty := ty) (ps := ps) (af := af) (gd := gd) (m := 1) (c := 1) (ad := ⟨b, 0, none⟩) (news := cs) (base := w.heap.size) (v := .slice none 0 0) (k := 0) (xs := []) hk (by rw [hx, a2]) hy (World.ownsRow_nil w _ e size) (by omega) hnews (ones_mem ho) (by unfold maxLen; omega) (by simpa using hbound) (Nat.le_refl _)
      exact ⟨v', w', hrun, by simpa using hown, hgr⟩
    · injection hv with a1 a2 a3
      subst a1; subst a3
      obtain ⟨hu, i, zv, hi, hz, hsize, hbyt, hzs, hsz⟩ := apk_parts hk
      obtain ⟨v', w', hrun, hown, hgr⟩ := run_append_arg_grows (P := P) (w := w) T ty e i zv size bytes hu hi hz hsize hbyt hzs hsz ⟨g2, 0, none⟩ xs.length c xs.flatten h3.1 (fun j u hj => h3.cells (g := g2) rfl j u hj) ⟨b, 0, none⟩ 1 1 cs (by omega) hnews (by omega) (by unfold maxLen; omega) hbound
      refine ⟨v', w', ?_, hown, hgr⟩
      simp [execOp, resolve, invoke, builtin, hx, hy, a2, hrun, Result.andThen, Sem.run_bind, Sem.run_pure]
  obtain ⟨g, cap, rfl⟩ := ownsRow_succ hown
  have hK : Keeps [] w w' := ⟨hgr.os, hgr.tape, hgr.output, hgr.size, fun q hq _ => hgr.block q hq (by simp)⟩
  rw [← hfl] at hown
  rw [← hlx] at hown
  have hS := S.row hK hown hlen
  have hT := St.row h hK hown
  rw [hlx] at hS hT
  exact ⟨g, cap, w', hrun, hS, hT⟩
theorem z2_appendRoom {T e : TypeId} {size bytes k c b g : Nat} {xs : List (List Value)} {cs : List Value} {F : HO → List HO} (hroom : k < c)
    (hg : want ops f ⟨some d, .call ⟨.builtin .append, #[x, y], #[T, T]⟩, ty, ps, af, gd⟩ = true) (hk : apk P T = some (e, size, bytes)) (hx : fev f x = .slice (some ⟨g, 0, none⟩) k c) (hy : fev f y = .slice (some ⟨b, 0, none⟩) 1 1)
    (hr : RepF h (.rw 0 (.slice (some ⟨g, 0, none⟩) k c) e size xs) F) (hh : Has h (.cl b e cs)) (hl : Nat.beq cs.length size = true) (ho : ones cs = true) (hby : Nat.ble bytes 100000 = true) (hsm : xs.length < 1000000000)
    (kk : PV P ro ops Q w0 M (F (.rw 0 (.slice (some ⟨g, 0, none⟩) (xs.length + 1) c) e size (xs ++ [cs]))) prest D (upd f d (.slice (some ⟨g, 0, none⟩) (xs.length + 1) c))) :
    PV P ro ops Q w0 M h ((2, ⟨some d, .call ⟨.builtin .append, #[x, y], #[T, T]⟩, ty, ps, af, gd⟩) :: prest) D f :=
  PV.step2 fun w S => by
    obtain ⟨w', hrun, S', st⟩ := appendRoom_run (P := P) (f := f) (d := d) (ty := ty) (ps := ps) (af := af) (gd := gd) S hk hx hy hr hh hl ho hby hsm hroom
    exact beh_run hg hrun ⟨_, S', st, kk⟩
theorem z2_appendNew {T e : TypeId} {size bytes k c b : Nat} {A : Option Addr} {xs : List (List Value)} {cs : List Value} (hroom : ¬ k < c)
    (hg : want ops f ⟨some d, .call ⟨.builtin .append, #[x, y], #[T, T]⟩, ty, ps, af, gd⟩ = true) (hk : apk P T = some (e, size, bytes)) (hx : fev f x = .slice A k c) (hy : fev f y = .slice (some ⟨b, 0, none⟩) 1 1)
    (hr : Has h (.rw 0 (.slice A k c) e size xs)) (hh : Has h (.cl b e cs)) (hl : Nat.beq cs.length size = true) (ho : ones cs = true) (hby : Nat.ble bytes 100000 = true) (hsm : xs.length < 1000000000)
    (kk : ∀ g cap, PV P ro ops Q w0 M (.rw 0 (.slice (some ⟨g, 0, none⟩) (xs.length + 1) cap) e size (xs ++ [cs]) :: h) prest D (upd f d (.slice (some ⟨g, 0, none⟩) (xs.length + 1) cap))) :
    PV P ro ops Q w0 M h ((2, ⟨some d, .call ⟨.builtin .append, #[x, y], #[T, T]⟩, ty, ps, af, gd⟩) :: prest) D f :=
  PV.step2 fun w S => by
    obtain ⟨g, cap, w', hrun, S', st⟩ := appendNew_run (P := P) (f := f) (d := d) (ty := ty) (ps := ps) (af := af) (gd := gd) S hk hx hy hr hh hl ho hby hsm hroom
    exact beh_run hg hrun ⟨_, S', st, kk g cap⟩
/-- a call that changes what is known, the order drawn -/
theorem z2_callC {α : Type} {g : FuncId} {cap args : List Value} {ts : Array TypeId} {hc fr : List HO} {hc' : α → List HO} {V : α → Value} (hg : want ops f ⟨some d, .call ⟨.value x, al.toArray, ts⟩, ty, ps, af, gd⟩ = true)
    (hx : fev f x = .func (.func g) #[] cap.toArray) (hE : Ent P g) (ha : NA (evs f al ++ cap) args) (hp : h.Perm (hc ++ fr))
    (hC : ∀ w, Sat w0 M (hc ++ fr) w → Sat w (blks hc) hc w → Calls P g args.toArray w (RetP fun v w' => ∃ a, v = V a ∧ Sat w (blks hc) (hc' a) w'))
    (k : ∀ a, PV P ro ops Q w0 M (hc' a ++ fr) prest D (upd f d (V a))) : PV P ro ops Q w0 M h ((2, ⟨some d, .call ⟨.value x, al.toArray, ts⟩, ty, ps, af, gd⟩) :: prest) D f :=
  z2_call (R := fun w v w' => ∃ a, v = V a ∧ Sat w (blks hc) (hc' a) w') hg hx hE ha (fun w S => hC w (S.perm' hp) (S.perm' hp).part) (by
    rintro w v w' S ⟨a, rfl, S'⟩
    have S1 := S.perm' hp
    refine ⟨hc' a ++ fr, S1.merge S', ⟨S'.keeps.os, S'.keeps.tape, S'.keeps.output, S'.keeps.size, fun q hq hn => S'.keeps.block q hq (fun hb => ?_), fun o ho q hok => ?_⟩, k a⟩
    · obtain ⟨o2, h2, h3⟩ := blks_mem hb
      exact hn o2 (hp.symm.subset (List.mem_append_left _ h2)) h3
    · rcases List.mem_append.1 ho with ho | ho
      · rcases (S'.ok o ho).mine hok with h1 | h1
        · exact .inr h1
        · obtain ⟨o2, h2, h3⟩ := blks_mem h1
          exact .inl ⟨o2, hp.symm.subset (List.mem_append_left _ h2), h3⟩
      · exact .inl ⟨o, hp.symm.subset (List.mem_append_right _ ho), hok⟩)
/-! ### what was there, seen by a call that changes hc -/
theorem Sat.notBlk {hc fr : List HO} (S : Sat w0 M (hc ++ fr) w) {b : Nat} (hlt : b < w0.heap.size) (hb : b ∉ M) : b ∉ blks hc := fun hin => by
  have h1 : Sat w0 M hc w := S.drop hc (List.sublist_append_left _ _)
  rcases (h1.blks_mine hin).1 with h2 | h2
  · omega
  · exact hb h2
theorem OldB.next {hc fr : List HO} {b : Nat} {T : TypeId} {cs : List Value} (O : OldB w0 M b T cs) (S : Sat w0 M (hc ++ fr) w) : OldB w (blks hc) b T cs :=
  ⟨O.now S, S.notBlk (Array.getElem?_eq_some_iff.1 O.at_).1 O.out⟩
theorem OldP.next {hc fr : List HO} {b : Nat} {φ : Option Obj → Prop} (O : OldP w0 M b φ) (S : Sat w0 M (hc ++ fr) w) : OldP w (blks hc) b φ :=
  ⟨(O.keeps S.keeps).lt, O.now S, S.notBlk O.lt O.out⟩
theorem Rd.ltBlk {A : Option Addr} {size m : Nat} {cell : Nat → List Value} (R : Rd w A size m cell) (hne : ∀ i, i < m → cell i ≠ []) (hm : 0 < m) : ∀ a, A = some a → a.block < w.heap.size := fun a ha => by
  subst ha
  obtain ⟨u, hu⟩ : ∃ u, (cell 0)[0]? = some u := by
    cases hc : cell 0 with
    | nil => exact absurd hc (hne 0 hm)
    | cons u t => exact ⟨u, rfl⟩
  have h1 := R.at_ 0 0 u hm hu
  have h2 := World.block_lt_of_cell? w _ h1
  unfold ea at h2
  rwa [block_add] at h2
theorem Old.next {hc fr : List HO} {A : Option Addr} {size m : Nat} {cell : Nat → List Value} (O : Old w0 M A size m cell) (hne : ∀ i, i < m → cell i ≠ []) (S : Sat w0 M (hc ++ fr) w) : Old w (blks hc) A size m cell :=
  ⟨O.now S, fun hm a ha => S.notBlk (O.rd.ltBlk hne hm a ha) (O.out hm a ha)⟩
end
/-! ### maps of few keys -/
theorem MapV.shrink {P : Program} {k : TypeId} {n : Nat} {m : Lit → Option Value} {o : Option Obj} (K : Keyed P k) (H : MapV P k n m o) {Ks : List Lit} (hK : ∀ kl, (m kl).isSome = true → kl ∈ Ks) : MapV P k Ks.length m o := by
  obtain ⟨es, clock, hb, F, hs, hat⟩ := H
  refine ⟨es, clock, hb, F, ?_, hat⟩
  have hnd : ((es.toList.map (rg P k rawE)).map (·.1)).Nodup := by
    rw [List.nodup_iff_pairwise_ne, List.pairwise_map]
    exact Maps.fit_apart K F
  have hsub : ∀ kl ∈ (es.toList.map (rg P k rawE)).map (·.1), kl ∈ Ks := fun kl hkl => by
    obtain ⟨p, hp, rfl⟩ := List.mem_map.1 hkl
    obtain ⟨v, hv⟩ := Maps.fit_keys F p hp
    have hkl := K.key hv
    refine hK _ ?_
    cases hm : m p.1 with
    | some u => rfl
    | none =>
      exfalso
      have h1 : Maps.has (DataW.map ((es.toList.map (rg P k rawE)).foldr DataW.insert [])) p.1 = false := Maps.has_false_of_atKey (fun z => by rw [hat _ hkl, hm]; rfl)
      rw [Maps.has_eq, List.any_eq_false] at h1
      exact h1 p ((WideShapes.sorted_perm _).symm.subset hp) (WideAt.sameKey_self hkl)
  have := hnd.length_le_of_subset hsub
  simpa using this
end Go.Proofs.Ytfkcihcbmlcajaa
