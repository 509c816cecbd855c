/- Entries of a map struck: the kit's contract, laid at this program, and what is called by it. No statement of the seat is proved here. -/
import Derived.Shelf.SlMaps.DeleteFunc
import Derived.Test.YtnndkdcciojpiaaWk
namespace Go.Proofs.Ytnndkdcciojpiaa.Rl
set_option linter.unusedVariables false
set_option linter.unusedSimpArgs false
open Go Go.Proofs Go.RowKit Go.Maps Go.Shelf
def delA_ren : Go.Shelf.Ren := ⟨fun | 5 => 67 | n => n, fun | 23 => 73 | 26 => 9 | 24 => 4 | 27 => 119 | 0 => 0 | 4 => 4 | n => n, fun | n => n⟩
theorem delA : Go.Proofs.SlLaysDf.n5 Try.prog delA_ren := {
  mixed := by kernel_rfl
  f5 := ⟨Try.f67.name, by decide, Try.func67.trans (congrArg some (by kernel_rfl))⟩
  t0 := Try.underlying0
  a0 := Try.isAgg0
  z0 := Try.sizeOf0
  v0 := Try.zeroValue0
  t4 := Try.underlying4
  a4 := Try.isAgg4
  z4 := Try.sizeOf4
  v4 := Try.zeroValue4
  t23 := Try.underlying73
  a23 := Try.isAgg73
  z23 := Try.sizeOf73
  v23 := Try.zeroValue73
  a24 := Try.isAgg4
  z24 := Try.sizeOf4
  a26 := Try.isAgg9
  z26 := Try.sizeOf9
  t27 := Try.underlying119
  a27 := Try.isAgg119
  z27 := Try.sizeOf119
  v27 := Try.zeroValue119 }

noncomputable def strike (m nv : Lit → Option Value) : Lit → Option Value := fun z => if (nv z).isSome then none else m z
theorem atKey_strike {D : DataW Value} {pd : Lit → Bool} {kl : Lit} {z : DataW Value} (h : Maps.IsMap D) : (Lib.deleteFuncD (fun k _ => pd k) D).atKey kl z = if pd kl then z else D.atKey kl z := by
  obtain ⟨es, rfl⟩ := h
  unfold Lib.deleteFuncD DataW.atKey
  dsimp only
  cases hp : pd kl with
  | true =>
    have : (es.filter fun p => !pd p.1).find? (fun p => p.1.sameKey kl) = none := by
      rw [List.find?_eq_none]
      intro p hp2 hs
      have h1 := (List.mem_filter.1 hp2).2
      rw [WideAt.sameKey_eq hs, hp] at h1
      cases h1
    rw [this, if_pos rfl]
  | false =>
    rw [find_filter_keep (fun p hs => by rw [WideAt.sameKey_eq hs, hp]; rfl), if_neg (by decide)]
set_option maxRecDepth 8000 in
theorem kept1_c {T : TypeId} {b6 b7 c2 : Nat} {nv : Lit → Option Value} (hnv : ∀ z v, nv z = some v → v = .bool true) (n7 : b7 ≠ b6) (W : World) (h6 : W.heap[b6]? = some (.cells #[.map (some b7)] 73 (0, 0))) (H7 : MapV Try.prog 9 c2 nv (W.heap[b7]?)) (l7 : b7 < W.heap.size)
    (s : ByteArray) (hs : s.size ≤ 9223372036854775807) (val : Value) : Calls Try.prog 68 #[.string s, val, .pointer (some ⟨b6, 0, none⟩)] W (RetP fun v w' => v = .bool (nv (keyL s)).isSome ∧ W.grownBy w' none) := by
  refine calls_of_cw (args := [.string s, val, .pointer (some ⟨b6, 0, none⟩)]) Try.func68 rfl rfl ?_
  have S : Sat W [b6] [.cl b6 73 [.map (some b7)]] W := ⟨Keeps.refl _ _, fun o ho => by
    rcases List.mem_singleton.1 ho with rfl
    exact ⟨h6, .inr (by simp)⟩, List.pairwise_singleton _ _⟩
  have O7 : OldP W [b6] b7 (MapV Try.prog 9 c2 nv) := ⟨l7, H7, by simpa using n7⟩
  have hv : (nv (keyL s)).getD (.bool false) = .bool (nv (keyL s)).isSome := by
    cases h : nv (keyL s) with
    | none => rfl
    | some v => rw [hnv _ _ h]; rfl
  (repeat' (first | apply cw_seq | apply cw_region | apply wl_nil | apply cw_ret | (apply x_lookV; exact rfl; exact rfl; exact rfl; exact kS; exact rfl; exact rfl; exact OldP.now O7 (by assumption); exact keyS hs; exact trivial; exact hv) | (apply x_move; exact rfl; exact rfl; (exact (by repeat' constructor))) | (apply x_assign; exact rfl; exact rfl; (exact (by repeat' constructor))) | (apply x_load; assumption; exact rfl; exact rfl; exact rfl; (exact (by repeat' constructor)); exact rfl; exact rfl; (exact (by repeat' constructor)))))
  (first | refine q_retS (by assumption) rfl (by repeat (first | exact .nil | (apply RV.tmp; exact (by repeat' constructor)) | (apply RV.cell; exact rfl; exact (by repeat' constructor); exact rfl; exact rfl; exact (by repeat' constructor)))) ?_ | (simp only [thenQ, blockQ]; refine q_retS (by assumption) rfl (by repeat (first | exact .nil | (apply RV.tmp; exact (by repeat' constructor)) | (apply RV.cell; exact rfl; exact (by repeat' constructor); exact rfl; exact rfl; exact (by repeat' constructor)))) ?_))
  exact ⟨rfl, rfl, rfl, rfl, Nat.le_refl _, fun _ _ _ => rfl⟩
theorem DeleteFunc_c {bM b6 b7 c1 c2 : Nat} {m nv : Lit → Option Value} (hnv : ∀ z v, nv z = some v → v = .bool true) (n6 : b6 ≠ bM) (n7 : b7 ≠ bM) (n76 : b7 ≠ b6) (w : World) (H : MapV Try.prog 9 c1 m (w.heap[bM]?)) (h6 : w.heap[b6]? = some (.cells #[.map (some b7)] 73 (0, 0))) (H7 : MapV Try.prog 9 c2 nv (w.heap[b7]?)) (l6 : b6 < w.heap.size) (l7 : b7 < w.heap.size) :
    Calls Try.prog 67 #[.map (some bM), .func (.func 68) #[] #[.pointer (some ⟨b6, 0, none⟩)]] w (RetP fun v w' => v = .tuple #[] ∧ w.grownBy w' (some bM) ∧ MapV Try.prog 9 c1 (strike m nv) (w'.heap[bM]?)) := by
  obtain ⟨D, hown, hat⟩ := H.at_
  have hisM := hown.isMap
  refine (AnyDf.maps_DeleteFunc delA kS rawE (fun kl _ => (nv kl).isSome) 68 #[.pointer (some ⟨b6, 0, none⟩)] bM c1 D w (enters_of Try.func68 (by kernel_rfl) rfl) hown ?_).mono ?_
  · intro W key val kl yd yp hg hkey _
    obtain ⟨x, rfl, rfl, hx⟩ := Maps.keyOf_str (by kernel_rfl) hkey
    have h6' : W.heap[b6]? = some (.cells #[.map (some b7)] 73 (0, 0)) := (hg.block b6 l6 (by simpa using n6)).trans h6
    have H7' : MapV Try.prog 9 c2 nv (W.heap[b7]?) := by rw [hg.block b7 l7 (by simpa using n7)]; exact H7
    refine (kept1_c (T := 0) hnv n76 W h6' H7' (Nat.lt_of_lt_of_le l7 hg.size) ⟨x.toArray⟩ (by show x.toArray.size ≤ _; simpa [maxLen] using hx) val).mono ?_
    rintro e w' ⟨v, rfl, rfl, hg2⟩
    exact ⟨by simp [keyL], hg2⟩
  · rintro e w' ⟨rfl, hown', hg⟩
    obtain ⟨es, clock, hb, F, hs, hD⟩ := hown'
    refine ⟨_, rfl, rfl, hg, es, clock, hb, F, hs, fun kl hkl z => ?_⟩
    replace hD : Lib.deleteFuncD (fun kl _ => (nv kl).isSome) D = DataW.map (List.foldr DataW.insert [] (List.map (WideElems.rg Try.prog 9 rawE) es.toList)) := hD
    rw [← hD, atKey_strike hisM, hat kl hkl z]
    unfold strike
    cases (nv kl).isSome <;> rfl
section
variable {P : Program} {ro : Option Nat} {n : Nat} {Q : Post} {D : List Deferred} {f : Fm} {w w0 w' : World} {M : List Nat} {h : List HO}
variable {ops : Array Oper} {rest : List Oper} {d ty : Nat} {ps : String} {af : Array Edge} {gd : Option (Nat × Bool)} {x y : Operand} {al : List Operand}
/-- a call that writes into one block of the caller's -/
theorem x_callGrow {g : FuncId} {cap args : List Value} {ts : Array TypeId} {b : Nat} {φ ψ : Option Obj → Prop} {V : Value} {F : HO → List HO} (S : Sat w0 M h w) (hg : want ops f ⟨some d, .call ⟨.value x, al.toArray, ts⟩, ty, ps, af, gd⟩ = true) (hdn : Nat.blt d n = true)
    (hx : fev f x = .func (.func g) #[] cap.toArray) (hE : Ent P g) (ha : NA (evs f al ++ cap) args) (hc : Calls P g args.toArray w (RetP fun v w' => v = V ∧ w.grownBy w' (some b) ∧ ψ (w'.heap[b]?))) (hr : RepF h (.pr b φ) F)
    (k : ∀ w', Sat w0 M (F (.pr b ψ)) w' → WL P ro n ops Q rest D (upd f d V) w') : WL P ro n ops Q (⟨some d, .call ⟨.value x, al.toArray, ts⟩, ty, ps, af, gd⟩ :: rest) D f w :=
  x_call hg hdn hx hE ha hc (by
    rintro v w' ⟨rfl, hgr, hψ⟩
    have h1 := S.ok _ (hr.rep (.pr b φ)).mem
    exact k w' (S.rep (hr.rep _) hgr ⟨Nat.lt_of_lt_of_le h1.1 hgr.size, hψ, h1.2.2⟩ (fun b' hb' => .inl hb')))
end
end Go.Proofs.Ytnndkdcciojpiaa.Rl
