/- Lists in blocks, the first element of a kind. No statement of the seat is proved here. -/
import Derived.Test.YtagapiflfnbfiaaEngX
namespace Go.Proofs.Ytagapiflfnbfiaa
set_option linter.unusedVariables false
set_option linter.unusedSimpArgs false
open Go Go.RowKit
theorem val_of {P : Program} {g : FuncId} {ar : Array Value} {w : World} {V V' : Value} (h : Calls P g ar w (RetP (Val V w))) (e : V = V') : Calls P g ar w (RetP (Val V' w)) := e ▸ h
/-- a call of a function without a body, that the model answers at once -/
theorem x_extern {P : Program} {ro : Option Nat} {n : Nat} {Q : Post} {D : List Deferred} {f : Fm} {w : World} {ops : Array Oper} {rest : List Oper} {d ty : Nat} {ps : String} {af : Array Edge} {gd : Option (Nat × Bool)} {x : Operand} {al : List Operand} {g : FuncId} {as : List Value} {ts : Array TypeId} {v : Value}
    (hg : want ops f ⟨some d, .call ⟨.value x, al.toArray, ts⟩, ty, ps, af, gd⟩ = true) (hdn : Nat.blt d n = true) (hx : fev f x = .func (.func g) #[] #[]) (ha : NA (evs f al) as) (hE : (callFunc g as.toArray).run P w = .ok (.value v) w)
    (k : WL P ro n ops Q rest D (upd f d v) w) : WL P ro n ops Q (⟨some d, .call ⟨.value x, al.toArray, ts⟩, ty, ps, af, gd⟩ :: rest) D f w := by
  refine wl_val hg rfl hdn (v0 := v) ?_ (.z .any) k
  unfold execOp
  simp only [resolve, hx, Deferred.ofValue, evs_eq, Sem.run_bind, Sem.run_pure, Result.andThen_ok, invoke, ha.eq]
  simpa using hE
theorem y_indexAgg {P : Program} {ro : Option Nat} {ops : Array Oper} {Q : Post} {w0 : World} {M : List Nat} {h : List HO} {prest : List (Nat × Oper)} {D : List Deferred} {f : Fm} {d ty : Nat} {ps : String} {af : Array Edge} {gd : Option (Nat × Bool)} {x y : Operand} {T : TypeId} {cs : List Value} {i : Nat} {kd : IntKind} {v0 v : Value} (hg : want ops f ⟨some d, .index T x y, ty, ps, af, gd⟩ = true)
    (hx : fev f x = .agg cs.toArray) (hy : fev f y = .int kd (i : Int)) (hv : arrPart P T cs i = some v0) (hi : Is v0 v)
    (k : PV P ro ops Q w0 M h prest D (upd f d v)) : PV P ro ops Q w0 M h ((0, ⟨some d, .index T x y, ty, ps, af, gd⟩) :: prest) D f :=
  y_val hg rfl (fun _ _ => r_indexAgg rfl hx hy hv) hi k
theorem y_loadS {P : Program} {ro : Option Nat} {ops : Array Oper} {Q : Post} {w0 : World} {M : List Nat} {h : List HO} {prest : List (Nat × Oper)} {D : List Deferred} {f : Fm} {d ty : Nat} {ps : String} {af : Array Edge} {gd : Option (Nat × Bool)} {x : Operand} {T size m j off : Nat} {A : Option Addr} {cell : Nat → List Value} {kk : Option Nat} {v0 v : Value} (hg : want ops f ⟨some d, .load T x, ty, ps, af, gd⟩ = true)
    (hx : fev f x = .pointer (some (ea A size j off))) (hr : ∀ w, Sat w0 M h w → Rd w A size m cell) (hj : j < m) (hk : ldk P T = some kk) (hv : ldv kk (cell j) off = some v0) (hi : Is v0 v)
    (k : PV P ro ops Q w0 M h prest D (upd f d v)) : PV P ro ops Q w0 M h ((0, ⟨some d, .load T x, ty, ps, af, gd⟩) :: prest) D f :=
  y_val hg rfl (fun w S => r_load_at rfl hx ((hr w S).cells hj) hk hv) hi k
theorem getD_lt {α : Type} {l : List α} {i : Nat} (h : i < l.length) (z : α) : l.getD i z = l[i] := by simp [List.getD_eq_getElem?_getD, h]
theorem getD_in {α : Type} {l : List α} {p : α} (h : p ∈ l) (z : α) : ∃ i, i < l.length ∧ l.getD i z = p := by
  obtain ⟨i, hi, e⟩ := List.getElem_of_mem h
  exact ⟨i, hi, by rw [getD_lt hi]; exact e⟩
/-- a block that holds the elements of a list -/
theorem Sat.rdflat {α : Type} {w0 w : World} {M : List Nat} {h : List HO} {b size : Nat} {T : TypeId} {l : List α} {en : α → List Value} (z : α) (hs : ∀ a, (en a).length = size) (S : Sat w0 M h w) (hh : Has h (.cl b T (l.flatMap en))) :
    Rd w (some ⟨b, 0, none⟩) size l.length (fun i => en (l.getD i z)) := by
  refine ⟨fun _ => rfl, fun i j u hi hu => ?_⟩
  have hc := S.cl hh
  show w.cell? ((⟨b, 0, none⟩ : Addr).add (i * size + j)) = some u
  rw [add_at, cell_of_row w b _ _ _ _ hc, Nat.zero_add]
  have key : ∀ (l : List α) (i : Nat), i < l.length → (en (l.getD i z))[j]? = some u → (l.flatMap en)[i * size + j]? = some u := by
    intro l
    induction l with
    | nil => intro i hi; simp at hi
    | cons a l ih =>
      intro i hi hu
      rw [List.flatMap_cons]
      cases i with
      | zero =>
        have hj : j < (en a).length := (List.getElem?_eq_some_iff.1 hu).1
        rw [Nat.zero_mul, Nat.zero_add, List.getElem?_append_left hj]
        exact hu
      | succ i =>
        rw [Nat.succ_mul, List.getElem?_append_right (by rw [hs]; omega), hs, show i * size + size + j - size = i * size + j by omega]
        exact ih i (by simpa using hi) hu
  simpa using key l i hi hu
/-! ### the first element of a kind -/
noncomputable def idxG {α : Type} (φ : α → Prop) : List α → Nat → Int
  | [], _ => -1
  | p :: r, k => if h : Classical.propDecidable (φ p) |>.decide then (k : Int) else idxG φ r (k + 1)
theorem idxG_yes {α : Type} {φ : α → Prop} {p : α} {r : List α} {k : Nat} (h : φ p) : idxG φ (p :: r) k = k := by simp [idxG, h]
theorem idxG_no {α : Type} {φ : α → Prop} {p : α} {r : List α} {k : Nat} (h : ¬ φ p) : idxG φ (p :: r) k = idxG φ r (k + 1) := by simp [idxG, h]
theorem idxG_iff {α : Type} {φ : α → Prop} : ∀ (l : List α) (k : Nat), 0 ≤ idxG φ l k ↔ ∃ p ∈ l, φ p
  | [], k => by simp [idxG]
  | p :: r, k => by
    by_cases h : φ p
    · rw [idxG_yes h]; exact ⟨fun _ => ⟨p, by simp, h⟩, fun _ => by omega⟩
    · rw [idxG_no h, idxG_iff r (k + 1)]; simp [h]
theorem drop_getD {α : Type} {l : List α} {k : Nat} (h : k < l.length) (z : α) : l.drop k = l.getD k z :: l.drop (k + 1) := by
  rw [List.drop_eq_getElem_cons h, getD_lt h]
theorem Sat.rdmap {α : Type} {en : α → List Value} (z : α) {w0 w : World} {M : List Nat} {h : List HO} {base E size c : Nat} {A : Option Addr} {l : List α} (S : Sat w0 M h w) (hh : Has h (.rw base (.slice A l.length c) E size (l.map en))) : Rd w A size l.length (fun i => en (l.getD i z)) :=
  (S.rd hh).congr (fun i hi => by simp [List.getD_eq_getElem?_getD, hi])
theorem Sat.oldb {w0 w w' : World} {M : List Nat} {h : List HO} {b : Nat} {T : TypeId} {cs : List Value} (S : Sat w0 M h w) (hh : Has h (.cl b T cs)) (hk : Keeps [] w w') : OldB w' [] b T cs := by
  have h1 := S.cl hh
  exact ⟨(hk.block b (Array.getElem?_eq_some_iff.1 h1).1 (by simp)).trans h1, by simp⟩
end Go.Proofs.Ytagapiflfnbfiaa
