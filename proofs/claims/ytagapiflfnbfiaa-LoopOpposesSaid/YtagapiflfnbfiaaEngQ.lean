/- Maps with any values as elements: made, looked up, written; maps that were there. No statement of the seat is proved here. -/
import Derived.Test.YtagapiflfnbfiaaEngJ
namespace Go.Proofs.Ytagapiflfnbfiaa
set_option linter.unusedVariables false
set_option linter.unusedSimpArgs false
open Go Go.RowKit
open Go.Maps (Keyed)
open Go.WideElems (Fit rg)
def rawE (v : Value) : Option (DataW Value × List MemPlace) := some (.held v, [])
/-- a block that is a map of at most n entries, which holds m -/
def MapV (P : Program) (k : TypeId) (n : Nat) (m : Lit → Option Value) : Option Obj → Prop := fun o =>
  ∃ es clock, o = some (.map es clock) ∧ Fit P k rawE es clock ∧ es.size ≤ n ∧ ∀ kl, WideAt.IsKeyLit kl → ∀ z, (DataW.map ((es.toList.map (rg P k rawE)).foldr DataW.insert [])).atKey kl z = ((m kl).map DataW.held).getD z
noncomputable def putV (m : Lit → Option Value) (kl : Lit) (v : Value) : Lit → Option Value := fun z => @ite _ (z = kl) (Classical.propDecidable _) (some v) (m z)
theorem putV_same (m : Lit → Option Value) (kl : Lit) (v : Value) : putV m kl v kl = some v := by simp [putV]
theorem putV_other {m : Lit → Option Value} {kl z : Lit} {v : Value} (h : ¬ z = kl) : putV m kl v z = m z := by simp [putV, h]
/-- what is asked of a map's type: its key's, its element's zero -/
def mapZ (P : Program) (t : TypeId) : Option (TypeId × Value) :=
  match P.underlying t with
  | some (.map k e) => match (P.info? e).bind (·.zero) with
    | some z => some (k, z)
    | none => none
  | _ => none
theorem mapZ_parts {P : Program} {t k : TypeId} {z : Value} (h : mapZ P t = some (k, z)) : ∃ e, P.underlying t = some (.map k e) ∧ ∃ i, P.info? e = some i ∧ i.zero = some z := by
  unfold mapZ at h
  split at h <;> try (cases h; done)
  rename_i k' e' hu
  split at h <;> try (cases h; done)
  rename_i z' hz
  injection h with h
  injection h with h1 h2
  subst h1; subst h2
  obtain ⟨i, hi, hz⟩ := Option.bind_eq_some_iff.1 hz
  exact ⟨e', hu, i, hi, hz⟩
/-- a block that was there, and is not ours -/
structure OldP (w : World) (M : List Nat) (b : Nat) (φ : Option Obj → Prop) : Prop where
  lt : b < w.heap.size
  at_ : φ (w.heap[b]?)
  out : b ∉ M
theorem OldP.keeps {w w' : World} {M : List Nat} {b : Nat} {φ : Option Obj → Prop} (O : OldP w M b φ) (K : Keeps M w w') : OldP w' M b φ :=
  ⟨Nat.lt_of_lt_of_le O.lt K.size, by rw [K.block b O.lt O.out]; exact O.at_, O.out⟩
theorem OldP.now {w0 w : World} {M : List Nat} {h : List HO} {b : Nat} {φ : Option Obj → Prop} (O : OldP w0 M b φ) (S : Sat w0 M h w) : φ (w.heap[b]?) := (O.keeps S.keeps).at_
theorem Sat.prAt {w0 w : World} {M : List Nat} {h : List HO} {b : Nat} {φ : Option Obj → Prop} (S : Sat w0 M h w) (hh : Has h (.pr b φ)) : φ (w.heap[b]?) := (S.ok _ hh.mem).2.1
theorem Sat.oldPr {w0 w : World} {M : List Nat} {hc fr : List HO} {b : Nat} {φ : Option Obj → Prop} (S : Sat w0 M (hc ++ fr) w) (hm : HO.pr b φ ∈ fr) : OldP w (blks hc) b φ := by
  obtain ⟨_, _, hap⟩ := List.pairwise_append.1 S.apart
  have h1 := S.ok _ (List.mem_append_right _ hm)
  refine ⟨h1.1, h1.2.1, fun hb => ?_⟩
  obtain ⟨o2, h2, h3⟩ := blks_mem hb
  exact hap o2 h2 _ hm b h3 rfl
theorem Sat.oldPr0 {w0 w : World} {M : List Nat} {h : List HO} {b : Nat} {φ : Option Obj → Prop} (S : Sat w0 M h w) (hh : Has h (.pr b φ)) : OldP w [] b φ :=
  have h1 := S.ok _ hh.mem
  ⟨h1.1, h1.2.1, by simp⟩
section
variable {P : Program} {ro : Option Nat} {n : Nat} {Q : Post} {D : List Deferred} {f : Fm} {w w0 : World} {M : List Nat} {h : List HO}
variable {ops : Array Oper} {rest : List Oper} {d ty : Nat} {ps : String} {af : Array Edge} {gd : Option (Nat × Bool)} {x y z : Operand}
theorem MapV.at_ {k : TypeId} {b c : Nat} {m : Lit → Option Value} (H : MapV P k c m (w.heap[b]?)) : ∃ D : DataW Value, w.ownsMap P k rawE b c D ∧ ∀ kl, WideAt.IsKeyLit kl → ∀ z, D.atKey kl z = ((m kl).map DataW.held).getD z := by
  obtain ⟨es, clock, hb, F, hs, hat⟩ := H
  exact ⟨_, ⟨es, clock, hb, F, hs, rfl⟩, hat⟩
theorem MapV.mono {k : TypeId} {c c' : Nat} {m : Lit → Option Value} {o : Option Obj} (H : MapV P k c m o) (h : c ≤ c') : MapV P k c' m o := by
  obtain ⟨es, clock, hb, F, hs, hat⟩ := H
  exact ⟨es, clock, hb, F, Nat.le_trans hs h, hat⟩
theorem x_makeMapV {T k : TypeId} {zv : Value} (S : Sat w0 M h w) (hg : want ops f ⟨some d, .makeMap T none, ty, ps, af, gd⟩ = true) (hdn : Nat.blt d n = true) (_hk : mapZ P T = some (k, zv))
    (kk : ∀ b w', Sat w0 M (.pr b (MapV P k 0 (fun _ => none)) :: h) w' → WL P ro n ops Q rest D (upd f d (.map (some b))) w') : WL P ro n ops Q (⟨some d, .makeMap T none, ty, ps, af, gd⟩ :: rest) D f w := by
  refine wl_run (v := .map (some w.heap.size)) (w' := w.alloc (.map #[] 0)) hg hdn ?_ (kk _ _ ?_)
  · unfold execOp
    simp only [Option.map_none, Sem.run_bind, run_makeMap, Result.andThen_ok, Sem.run_pure]
  · refine S.add (World.grownBy_alloc w _ none) ⟨by simp, ?_, .inl S.le⟩ (fun b hb => by injection hb with hb; omega)
    obtain ⟨es, clock, hb, F, hs, hD⟩ := World.ownsMap_made w P k rawE
    refine ⟨es, clock, hb, F, hs, fun kl _ z => ?_⟩
    rw [← hD]
    rfl
theorem run_lookV {T k : TypeId} {zv : Value} {b c : Nat} {m : Lit → Option Value} {key : Value} {kl : Lit} (hk : mapZ P T = some (k, zv)) (K : Keyed P k) (H : MapV P k c m (w.heap[b]?)) (hkey : keyOf P k key = some kl) (hkl : WideAt.IsKeyLit kl) :
    (Instr.lookup T (.map (some b)) key false).run P w = .ok ((m kl).getD zv) w ∧ (Instr.lookup T (.map (some b)) key true).run P w = .ok (.tuple #[(m kl).getD zv, .bool (m kl).isSome]) w := by
  obtain ⟨e, hu, i, hi, hz⟩ := mapZ_parts hk
  obtain ⟨D', hown, hat⟩ := H.at_
  have hzv : (zeroValue e).run P w = .ok zv w := by simp [zeroValue, typeInfo, hi, hz, go_sem]
  have key1 : ∀ v ps, rawE v = some (D'.atKey kl (.held zv), ps) → v = (m kl).getD zv := fun v ps hv => by
    rw [hat kl hkl] at hv
    unfold rawE at hv
    injection hv with hv
    injection hv with hv _
    cases hm : m kl with
    | none => rw [hm] at hv; injection hv
    | some u => rw [hm] at hv; injection hv
  have hhas : Maps.has D' kl = (m kl).isSome := by
    cases hm : m kl with
    | none => exact Maps.has_false_of_atKey (fun z => by rw [hat kl hkl, hm]; rfl)
    | some u => exact Maps.has_true_of_atKey (y := .held u) (fun z => by rw [hat kl hkl, hm]; rfl)
  constructor
  · obtain ⟨v, ps', hrun, hv⟩ := hown.lookup K hu hzv (zd := .held zv) (zp := []) rfl hkey
    rw [hrun, key1 v ps' hv]
  · obtain ⟨v, ps', hrun, hv⟩ := hown.look_ok K hu hzv (zd := .held zv) (zp := []) rfl hkey
    rw [hrun, key1 v ps' hv, hhas]
theorem r_lookV {T k : TypeId} {zv v : Value} {b c : Nat} {m : Lit → Option Value} {key : Value} {kl : Lit} (H : MapV P k c m (w.heap[b]?)) (hk : mapZ P T = some (k, zv)) (K : Keyed P k)
    (hx : fev f x = .map (some b)) (hy : fev f y = key) (hkey : keyOf P k key = some kl) (hkl : WideAt.IsKeyLit kl) (hv : (m kl).getD zv = v) : (execOp (fev f) ⟨some d, .lookup T x y false, ty, ps, af, gd⟩).run P w = .ok (.value v) w := by
  subst hv
  unfold execOp
  simp only [hx, hy, Sem.run_bind, (run_lookV hk K H hkey hkl).1, Result.andThen_ok, Sem.run_pure]
theorem r_lookVok {T k : TypeId} {zv v : Value} {ok : Bool} {b c : Nat} {m : Lit → Option Value} {key : Value} {kl : Lit} (H : MapV P k c m (w.heap[b]?)) (hk : mapZ P T = some (k, zv)) (K : Keyed P k)
    (hx : fev f x = .map (some b)) (hy : fev f y = key) (hkey : keyOf P k key = some kl) (hkl : WideAt.IsKeyLit kl) (hv : (m kl).getD zv = v) (ho : (m kl).isSome = ok) : (execOp (fev f) ⟨some d, .lookup T x y true, ty, ps, af, gd⟩).run P w = .ok (.value (.tuple #[v, .bool ok])) w := by
  subst hv
  subst ho
  unfold execOp
  simp only [hx, hy, Sem.run_bind, (run_lookV hk K H hkey hkl).2, Result.andThen_ok, Sem.run_pure]
theorem x_lookV {T k : TypeId} {zv v : Value} {b c : Nat} {m : Lit → Option Value} {key : Value} {kl : Lit} (hg : want ops f ⟨some d, .lookup T x y false, ty, ps, af, gd⟩ = true) (hdn : Nat.blt d n = true) (hk : mapZ P T = some (k, zv)) (K : Keyed P k)
    (hx : fev f x = .map (some b)) (hy : fev f y = key) (H : MapV P k c m (w.heap[b]?)) (hkey : keyOf P k key = some kl) (hkl : WideAt.IsKeyLit kl) (hv : (m kl).getD zv = v)
    (kk : WL P ro n ops Q rest D (upd f d v) w) : WL P ro n ops Q (⟨some d, .lookup T x y false, ty, ps, af, gd⟩ :: rest) D f w :=
  wl_run (v := v) (w' := w) hg hdn (r_lookV H hk K hx hy hkey hkl hv) kk
theorem x_lookVok {T k : TypeId} {zv v : Value} {ok : Bool} {b c : Nat} {m : Lit → Option Value} {key : Value} {kl : Lit} (hg : want ops f ⟨some d, .lookup T x y true, ty, ps, af, gd⟩ = true) (hdn : Nat.blt d n = true) (hk : mapZ P T = some (k, zv)) (K : Keyed P k)
    (hx : fev f x = .map (some b)) (hy : fev f y = key) (H : MapV P k c m (w.heap[b]?)) (hkey : keyOf P k key = some kl) (hkl : WideAt.IsKeyLit kl) (hv : (m kl).getD zv = v) (ho : (m kl).isSome = ok)
    (kk : WL P ro n ops Q rest D (upd f d (.tuple #[v, .bool ok])) w) : WL P ro n ops Q (⟨some d, .lookup T x y true, ty, ps, af, gd⟩ :: rest) D f w :=
  wl_run (v := .tuple #[v, .bool ok]) (w' := w) hg hdn (r_lookVok H hk K hx hy hkey hkl hv ho) kk
theorem putV_run {T k : TypeId} {zv v : Value} {b c : Nat} {m : Lit → Option Value} {key : Value} {kl : Lit} {F : HO → List HO} (S : Sat w0 M h w) (hk : mapZ P T = some (k, zv)) (K : Keyed P k)
    (hx : fev f x = .map (some b)) (hy : fev f y = key) (hz : fev f z = v) (hr : RepF h (.pr b (MapV P k c m)) F) (hc : c < maxLen) (hkey : keyOf P k key = some kl) :
    ∃ w', (execOp (fev f) ⟨none, .mapUpdate T x y z, ty, ps, af, gd⟩).run P w = .ok .skip w' ∧ Sat w0 M (F (.pr b (MapV P k (c + 1) (putV m kl v)))) w' ∧ w.grownBy w' (some b) := by
  obtain ⟨e, hu, _⟩ := mapZ_parts hk
  obtain ⟨hlt, H, hmine⟩ := S.ok _ (hr.rep (.pr b (MapV P k c m))).mem
  obtain ⟨D', hown, hat⟩ := H.at_
  obtain ⟨w', hrun, hown', hgr⟩ := hown.update K hu hc hkey (val := v) (d := .held v) (ps := []) rfl
  have hisM := hown.isMap
  obtain ⟨es', clock', hb', Ft', hs', hD⟩ := hown'
  refine ⟨w', ?_, S.rep (hr.rep _) hgr ⟨Nat.lt_of_lt_of_le hlt hgr.size, ⟨es', clock', hb', Ft', hs', fun kl' hkl' zz => ?_⟩, hmine⟩ (fun b' hb' => .inl hb'), hgr⟩
  · unfold execOp
    simp only [hx, hy, hz, Sem.run_bind, hrun, Result.andThen_ok, Sem.run_pure]
  · rw [← hD]
    by_cases hkk : kl' = kl
    · subst hkk
      rw [putV_same, Maps.atKey_put_same hisM hkl']
      rfl
    · rw [putV_other hkk, Maps.atKey_put_other hkk, hat kl' hkl']
theorem x_putV {T k : TypeId} {zv v : Value} {b c : Nat} {m : Lit → Option Value} {key : Value} {kl : Lit} {F : HO → List HO} (S : Sat w0 M h w) (hg : want ops f ⟨none, .mapUpdate T x y z, ty, ps, af, gd⟩ = true) (hk : mapZ P T = some (k, zv)) (K : Keyed P k)
    (hx : fev f x = .map (some b)) (hy : fev f y = key) (hz : Is (fev f z) v) (hr : RepF h (.pr b (MapV P k c m)) F) (hc : c < maxLen) (hkey : keyOf P k key = some kl)
    (kk : ∀ w', Sat w0 M (F (.pr b (MapV P k (c + 1) (putV m kl v)))) w' → WL P ro n ops Q rest D f w') : WL P ro n ops Q (⟨none, .mapUpdate T x y z, ty, ps, af, gd⟩ :: rest) D f w := by
  obtain ⟨w', hrun, S', _⟩ := putV_run (P := P) (f := f) (ty := ty) (ps := ps) (af := af) (gd := gd) S hk K hx hy hz.eq hr hc hkey
  exact wl_runSkip hg rfl hrun (kk w' S')
end
end Go.Proofs.Ytagapiflfnbfiaa
