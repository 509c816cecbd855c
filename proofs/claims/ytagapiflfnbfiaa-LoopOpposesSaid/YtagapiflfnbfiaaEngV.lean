/- Calls that change what the caller knows; functions bound to a receiver; arrays sliced, cut and cleared in place. No statement of the seat is proved here. -/
import Derived.Test.YtagapiflfnbfiaaEngU
import Derived.Laws.CopyRow
import Derived.Laws.Append
import Derived.Laws.Cells
namespace Go.Proofs.Ytagapiflfnbfiaa
set_option linter.unusedVariables false
set_option linter.unusedSimpArgs false
open Go Go.RowKit
theorem Agree.maskIn {S S2 : List Nat} {g x f : Fm} (hs : S2.all (S.elem ·) = true) (h : Agree S x f) : Agree S (Go.Proofs.Ytagapiflfnbfiaa.mask S2 g x) f := fun i hi => by
  have h2 : S2.elem i = false := by
    cases h3 : S2.elem i with
    | false => rfl
    | true =>
      have h4 := List.all_eq_true.1 hs i (by simpa using h3)
      rw [hi] at h4
      cases h4
  unfold Go.Proofs.Ytagapiflfnbfiaa.mask
  rw [h2]
  exact h i hi
section
variable {P : Program} {ro : Option Nat} {n : Nat} {Q : Post} {D : List Deferred} {f : Fm} {w w0 w' : World} {M : List Nat} {h : List HO}
variable {ops : Array Oper} {rest : List Oper} {prest : List (Nat × Oper)} {d ty xt yt : Nat} {ps : String} {af : Array Edge} {gd : Option (Nat × Bool)} {x y : Operand} {al : List Operand}
theorem HO.ok.kept' {B : List Nat} {o : HO} (hk : o.ok w0 M w) (K : Keeps B w w') (hn : ∀ b, o.own = some b → b ∉ B) : o.ok w0 M w' := by
  have key : ∀ b, o.own = some b → w'.heap[b]? = w.heap[b]? := fun b hb => K.block b (hk.lt hb) (hn b hb)
  cases o with
  | cl b T cs => exact ⟨(key b rfl).trans hk.1, hk.2⟩
  | pr b φ => exact ⟨Nat.lt_of_lt_of_le hk.1 K.size, by rw [key b rfl]; exact hk.2.1, hk.2.2⟩
  | rw base v E size xs =>
    refine ⟨hk.1, hk.2.1, hk.2.2.1, ?_⟩
    rcases hk.2.2.2 with h1 | ⟨g, cap, cur, h1, h2, h3, h4⟩
    · exact .inl h1
    · exact .inr ⟨g, cap, cur, h1, h2, (key g (by subst h1; rfl)).trans h3, h4⟩
theorem Sat.merge {hc hc' fr : List HO} (S : Sat w0 M (hc ++ fr) w) (S' : Sat w (blks hc) hc' w') : Sat w0 M (hc' ++ fr) w' := by
  have Sc : Sat w0 M hc w := S.drop hc (List.sublist_append_left _ _)
  obtain ⟨_, _, hap⟩ := List.pairwise_append.1 S.apart
  have hfr := (List.pairwise_append.1 S.apart).2.1
  have hm : ∀ b, Mine w (blks hc) b → Mine w0 M b := fun b hb => by
    rcases hb with hb | hb
    · exact .inl (Nat.le_trans S.le hb)
    · exact (Sc.blks_mine hb).1
  have hx : ∀ o ∈ fr, ∀ b, o.own = some b → b ∉ blks hc := fun o ho b hb hin => by
    obtain ⟨o2, h2, h3⟩ := blks_mem hin
    exact hap o2 h2 o ho b h3 hb
  refine ⟨Keeps.join Sc S', fun o ho => ?_, List.pairwise_append.2 ⟨S'.apart, hfr, fun a ha b hb g hg hgb => ?_⟩⟩
  · rcases List.mem_append.1 ho with ho | ho
    · have hk := S'.ok o ho
      cases o with
      | cl b T cs => exact ⟨hk.1, hm b hk.2⟩
      | rw base v E size xs => exact ⟨fun b hb => hm b (hk.1 b hb), hk.2⟩
      | pr b φ => exact ⟨hk.1, hk.2.1, hm b hk.2.2⟩
    · exact (S.ok o (List.mem_append_right _ ho)).kept' S'.keeps (hx o ho)
  · rcases (S'.ok a ha).mine hg with h1 | h1
    · have := (S.ok b (List.mem_append_right _ hb)).lt hgb
      omega
    · exact hx b hb g hgb h1
theorem Sat.part {hc fr : List HO} (S : Sat w0 M (hc ++ fr) w) : Sat w (blks hc) hc w := (S.drop hc (List.sublist_append_left _ _)).rebase
/-! ### functions with bound arguments -/
theorem r_makeFuncB {fn : Fn} {l' : List Value} {bl : List Operand} {o : Oper} (hop : o.op = .makeFunc fn bl.toArray #[]) (hn : NL (evs f bl) l') : (execOp (fev f) o).run P w = .ok (.value (.func fn l'.toArray #[])) w := by
  unfold execOp
  rw [hop]
  simp only [evs_eq, hn.eq, Instr.makeFunc, Sem.run_bind, Sem.run_pure, Result.andThen_ok]
  rfl
theorem x_makeFuncB {fn : Fn} {l' : List Value} {bl : List Operand} (hg : want ops f ⟨some d, .makeFunc fn bl.toArray #[], ty, ps, af, gd⟩ = true) (hdn : Nat.blt d n = true)
    (hn : NL (evs f bl) l') (k : WL P ro n ops Q rest D (upd f d (.func fn l'.toArray #[])) w) : WL P ro n ops Q (⟨some d, .makeFunc fn bl.toArray #[], ty, ps, af, gd⟩ :: rest) D f w :=
  wl_val hg rfl hdn (r_makeFuncB rfl hn) (.z .any) k
theorem run_callB {g : FuncId} {bd cap : List Value} {ts : Array TypeId} {o : Oper} (hop : o.op = .call { callee := .value x, args := al.toArray, argTypes := ts })
    (hx : fev f x = .func (.func g) bd.toArray cap.toArray) (hE : Ent P g) : (execOp (fev f) o).run P w = .ok (.enter g (bd ++ evs f al ++ cap).toArray) w := by
  unfold execOp
  rw [hop]
  simp only [resolve, hx, Deferred.ofValue, evs_eq, Sem.run_bind, Sem.run_pure, Result.andThen_ok, invoke]
  rw [show (bd.toArray ++ (evs f al).toArray ++ cap.toArray) = (bd ++ evs f al ++ cap).toArray from by simp]
  exact hE _ _
theorem x_callB {g : FuncId} {bd cap as : List Value} {ts : Array TypeId} {R : Value → World → Prop} (hg : want ops f ⟨some d, .call ⟨.value x, al.toArray, ts⟩, ty, ps, af, gd⟩ = true) (hdn : Nat.blt d n = true)
    (hx : fev f x = .func (.func g) bd.toArray cap.toArray) (hE : Ent P g) (ha : NA (bd ++ evs f al ++ cap) as) (hc : Calls P g as.toArray w (RetP R))
    (k : ∀ v w', R v w' → WL P ro n ops Q rest D (upd f d v) w') : WL P ro n ops Q (⟨some d, .call ⟨.value x, al.toArray, ts⟩, ty, ps, af, gd⟩ :: rest) D f w := by
  refine wl_enter hg hdn (run_callB rfl hx hE) (by rw [ha.eq]; exact hc) ?_
  rintro e w' ⟨v, rfl, hR⟩
  exact ⟨v, rfl, k v w' hR⟩
/-- a call of a bound function that leaves the memory alone -/
theorem x_callvB {g : FuncId} {bd cap as : List Value} {ts : Array TypeId} {V : Value} (S : Sat w0 M h w) (hg : want ops f ⟨some d, .call ⟨.value x, al.toArray, ts⟩, ty, ps, af, gd⟩ = true) (hdn : Nat.blt d n = true)
    (hx : fev f x = .func (.func g) bd.toArray cap.toArray) (hE : Ent P g) (ha : NA (bd ++ evs f al ++ cap) as) (hc : Calls P g as.toArray w (RetP (Val V w)))
    (k : ∀ w', Keeps [] w w' → Sat w0 M h w' → WL P ro n ops Q rest D (upd f d V) w') : WL P ro n ops Q (⟨some d, .call ⟨.value x, al.toArray, ts⟩, ty, ps, af, gd⟩ :: rest) D f w :=
  x_callB hg hdn hx hE ha hc (by rintro v w' ⟨rfl, hk⟩; exact k w' hk (S.call hk))
/-- a call that changes what is known -/
theorem x_callC {α : Type} {g : FuncId} {bd cap as : List Value} {ts : Array TypeId} {hc fr : List HO} {hc' : α → List HO} {V : α → Value} (S : Sat w0 M h w)
    (hg : want ops f ⟨some d, .call ⟨.value x, al.toArray, ts⟩, ty, ps, af, gd⟩ = true) (hdn : Nat.blt d n = true)
    (hx : fev f x = .func (.func g) bd.toArray cap.toArray) (hE : Ent P g) (ha : NA (bd ++ evs f al ++ cap) as) (hp : h.Perm (hc ++ fr))
    (hC : Sat w (blks hc) hc w → Calls P g as.toArray w (RetP fun v w' => ∃ a, v = V a ∧ Sat w (blks hc) (hc' a) w'))
    (k : ∀ a w', Sat w0 M (hc' a ++ fr) w' → WL P ro n ops Q rest D (upd f d (V a)) w') : WL P ro n ops Q (⟨some d, .call ⟨.value x, al.toArray, ts⟩, ty, ps, af, gd⟩ :: rest) D f w := by
  have S1 := S.perm' hp
  exact x_callB hg hdn hx hE ha (hC S1.part) (by rintro v w' ⟨a, rfl, S2⟩; exact k a w' (S1.merge S2))
/-! ### pointers that are looked at -/
theorem r_nilP {a : Addr} {o : Oper} (hop : o.op = .nilCheck x) (hx : fev f x = .pointer (some a)) : (execOp (fev f) o).run P w = .ok (.value (.pointer (some a))) w := by
  unfold execOp
  rw [hop]
  simp only [hx, Sem.run_pure]
theorem x_nilP {a : Addr} (hg : want ops f ⟨some d, .nilCheck x, ty, ps, af, gd⟩ = true) (hdn : Nat.blt d n = true) (hx : fev f x = .pointer (some a))
    (k : WL P ro n ops Q rest D (upd f d (.pointer (some a))) w) : WL P ro n ops Q (⟨some d, .nilCheck x, ty, ps, af, gd⟩ :: rest) D f w :=
  wl_val hg rfl hdn (r_nilP rfl hx) (.z .ptr) k
theorem y_nilP {a : Addr} (hg : want ops f ⟨some d, .nilCheck x, ty, ps, af, gd⟩ = true) (hx : fev f x = .pointer (some a))
    (k : PV P ro ops Q w0 M h prest D (upd f d (.pointer (some a)))) : PV P ro ops Q w0 M h ((0, ⟨some d, .nilCheck x, ty, ps, af, gd⟩) :: prest) D f :=
  y_val hg rfl (fun _ _ => r_nilP rfl hx) (.z .ptr) k
theorem run_remT {kd : IntKind} {a b : Int} (hx : fev f x = .int kd a) (hy : fev f y = .int kd b) (hb : 0 < b) : (execOp (fev f) ⟨some d, .binOp .rem xt x y yt, ty, ps, af, gd⟩).run P w = .ok (.value (.int kd (Int.tmod a b))) w := by
  have e : ¬ b = 0 := by omega
  unfold execOp
  simp [hx, hy, eqGuard, binOp, Op.intDiv, e, go_sem]
theorem x_remT {kd : IntKind} {a b : Int} (hg : want ops f ⟨some d, .binOp .rem xt x y yt, ty, ps, af, gd⟩ = true) (hdn : Nat.blt d n = true) (hx : fev f x = .int kd a) (hy : fev f y = .int kd b) (hb : 0 < b)
    (k : WL P ro n ops Q rest D (upd f d (.int kd (Int.tmod a b))) w) : WL P ro n ops Q (⟨some d, .binOp .rem xt x y yt, ty, ps, af, gd⟩ :: rest) D f w :=
  x_bin hg hdn (run_remT hx hy hb) (.z .int) k
/-! ### what was there, seen by a call that changes some of it -/
theorem OldB.rdl {α : Type} {en : α → Value} {b : Nat} {T : TypeId} {l : List α} (z : α) (O : OldB w [] b T (l.map en)) : Rd w (some ⟨b, 0, none⟩) 1 l.length (fun i => [en (l.getD i z)]) := by
  refine ⟨fun _ => rfl, fun i j u hi hu => ?_⟩
  show w.cell? ((⟨b, 0, none⟩ : Addr).add (i * 1 + j)) = some u
  have hj : j = 0 := by
    have := (List.getElem?_eq_some_iff.1 hu).1
    simpa using this
  subst hj
  rw [add_at, cell_of_row w b _ _ _ _ O.at_]
  simp [hi] at hu ⊢
  exact hu
theorem Sat.other {o : HO} {r : List HO} {b b2 : Nat} {T : TypeId} {cs : List Value} (S : Sat w0 M (o :: r) w) (ho : o.own = some b) (hm : HO.cl b2 T cs ∈ r) : OldB w [b] b2 T cs := by
  refine ⟨(S.ok _ (List.mem_cons_of_mem _ hm)).1, ?_⟩
  have h1 := (List.pairwise_cons.1 S.apart).1 _ hm b ho
  intro hb
  simp at hb
  exact h1 (by rw [hb]; rfl)
/-! ### arrays, sliced -/
theorem x_sliceArr {T m size b off : Nat} (hg : want ops f ⟨some d, .slice T x none none none, ty, ps, af, gd⟩ = true) (hdn : Nat.blt d n = true) (hx : fev f x = .pointer (some ⟨b, off, none⟩)) (hs : arrSize P T = some (m, size))
    (k : WL P ro n ops Q rest D (upd f d (.slice (some ⟨b, off, none⟩) m m)) w) : WL P ro n ops Q (⟨some d, .slice T x none none none, ty, ps, af, gd⟩ :: rest) D f w := by
  refine wl_val hg rfl hdn (v0 := .slice (some ⟨b, off, none⟩) m m) ?_ (.z .slice) k
  unfold arrSize at hs
  split at hs <;> try (cases hs; done)
  rename_i m' e hu
  obtain ⟨i, hi, hsz⟩ := Option.map_eq_some_iff.1 hs
  injection hsz with h1 h2
  subst h1
  simp [execOp, Instr.sliceAt, Instr.sureAddr, Instr.sliceBounds, run_underlying hu, hx, Sem.run_bind, Sem.run_pure, Result.andThen, sizeOf, typeInfo, hi]
  intro _
  exact add_at b off 0
theorem run_slice3 {T : TypeId} {A : Option Addr} {m c size : Nat} {kd kd' kd'' : IntKind} {l u t : Int} {x y z v : Operand} (hx : fev f x = .slice A m c) (hy : fev f y = .int kd l) (hz : fev f z = .int kd' u) (hv : fev f v = .int kd'' t) (hs : elemSize P T = some size)
    (h0 : 0 ≤ l) (h1 : l ≤ u) (h2 : u ≤ t) (h3 : t ≤ c) : ∃ r, (execOp (fev f) ⟨some d, .slice T x (some y) (some z) (some v), ty, ps, af, gd⟩).run P w = .ok (.value r) w := by
  unfold elemSize at hs
  split at hs <;> try (cases hs; done)
  rename_i el hu
  obtain ⟨i, hi, hsz⟩ := Option.map_eq_some_iff.1 hs
  refine ⟨.slice (if t.toNat = l.toNat then A else A.map (·.add (l.toNat * i.size))) (u.toNat - l.toNat) (t.toNat - l.toNat), ?_⟩
  simp [execOp, Instr.sliceAt, Instr.slice, Instr.sliceBounds, Instr.sliceBound, run_underlying hu, hx, hy, hz, hv, Sem.run_bind, Sem.run_pure, Result.andThen, asIntOf, sizeOf, typeInfo, hi, go_sem, show 0 ≤ t by omega, h3, show 0 ≤ u by omega, show u ≤ max t 0 by omega, h0, show l ≤ max u 0 by omega]
theorem x_slice3 {T : TypeId} {A : Option Addr} {m c size : Nat} {kd kd' kd'' : IntKind} {l u t : Int} {x y z v : Operand} (hg : want ops f ⟨some d, .slice T x (some y) (some z) (some v), ty, ps, af, gd⟩ = true) (hdn : Nat.blt d n = true)
    (hx : fev f x = .slice A m c) (hy : fev f y = .int kd l) (hz : fev f z = .int kd' u) (hv : fev f v = .int kd'' t) (hs : elemSize P T = some size) (h0 : 0 ≤ l) (h1 : l ≤ u) (h2 : u ≤ t) (h3 : t ≤ c)
    (k : ∀ r, WL P ro n ops Q rest D (upd f d r) w) : WL P ro n ops Q (⟨some d, .slice T x (some y) (some z) (some v), ty, ps, af, gd⟩ :: rest) D f w := by
  obtain ⟨r, hr⟩ := run_slice3 (P := P) (w := w) (d := d) (ty := ty) (ps := ps) (af := af) (gd := gd) hx hy hz hv hs h0 h1 h2 h3
  exact wl_val hg rfl hdn hr (.z .any) (k r)
end
end Go.Proofs.Ytagapiflfnbfiaa
