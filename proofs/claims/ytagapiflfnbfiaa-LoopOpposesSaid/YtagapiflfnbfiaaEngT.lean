/- Rows: made empty, appended to, returned by calls, stored into where the order is drawn. No statement of the seat is proved here. -/
import Derived.Test.YtagapiflfnbfiaaEngS
namespace Go.Proofs.Ytagapiflfnbfiaa
set_option linter.unusedVariables false
set_option linter.unusedSimpArgs false
open Go Go.RowKit
section
variable {P : Program} {ro : Option Nat} {n : Nat} {Q : Post} {D : List Deferred} {f : Fm} {w w0 w' : World} {M : List Nat} {h : List HO}
variable {ops : Array Oper} {rest : List Oper} {prest : List (Nat × Oper)} {d ty xt yt : Nat} {ps : String} {af : Array Edge} {gd : Option (Nat × Bool)} {x y : Operand} {al : List Operand}
/-- a literal without elements -/
theorem x_buildSlice0 {T e size bytes : Nat} (S : Sat w0 M h w) (hg : want ops f ⟨some d, .buildSlice T 0 #[], ty, ps, af, gd⟩ = true) (hdn : Nat.blt d n = true) (hk : apk P T = some (e, size, bytes))
    (k : ∀ g w', Sat w0 M (.rw 0 (.slice (some ⟨g, 0, none⟩) 0 0) e size [] :: h) w' → w.heap.size ≤ g → Keeps [] w w' → WL P ro n ops Q rest D (upd f d (.slice (some ⟨g, 0, none⟩) 0 0)) w') : WL P ro n ops Q (⟨some d, .buildSlice T 0 #[], ty, ps, af, gd⟩ :: rest) D f w := by
  obtain ⟨hu, i, zv, hi, hz, h1, h2, h3, h4⟩ := apk_parts hk
  have hgr : w.grownBy (w.alloc (.cells #[] e)) none := World.grownBy_alloc w _ none
  refine wl_run (v := .slice (some ⟨w.heap.size, 0, none⟩) 0 0) (w' := w.alloc (.cells #[] e)) hg hdn ?_ (k w.heap.size _ ?_ (Nat.le_refl _) ⟨rfl, rfl, rfl, hgr.size, fun k hk _ => hgr.block k hk (by simp)⟩)
  · simp [execOp, Instr.buildSlice, run_underlying hu, sizeOf, typeInfo, hi, Instr.fill, newRow, Sem.run_bind, Sem.run_pure, Result.andThen]
    rw [show Array.range 0 = (#[] : Array Nat) from by apply Array.ext <;> simp]
    simp
  · refine S.add hgr ⟨fun b hb => ?_, (fun c hc => by cases hc), ⟨by simp, .inr ⟨w.heap.size, 0, #[], rfl, Nat.zero_le _, heap_alloc_new w _, Nat.le_refl _, Nat.zero_le _, by simp, by simp⟩⟩⟩ (fun b hb => ?_)
    · have e1 : w.heap.size = b := by injection hb
      exact .inl (by have := S.le; omega)
    · have e1 : w.heap.size = b := by injection hb
      omega
/-- append(x, y...) onto a row of the call's own -/
theorem x_appendN {α : Type} {T e size bytes k c c' : Nat} {A : Option Addr} {ad : Addr} {l : List α} {en : α → List Value} {xs : List (List Value)} {F : HO → List HO} (z : α) (hs : ∀ a, (en a).length = size) (hone : ∀ a, ones (en a) = true) (R : Rd w (some ad) size l.length (fun i => en (l.getD i z))) (hsm : xs.length + l.length < 1000000000) (S : Sat w0 M h w)
    (hg : want ops f ⟨some d, .call ⟨.builtin .append, #[x, y], #[T, T]⟩, ty, ps, af, gd⟩ = true) (hdn : Nat.blt d n = true) (hk : apk P T = some (e, size, bytes)) (hx : fev f x = .slice A k c) (hr : RepF h (.rw 0 (.slice A k c) e size xs) F) (hy : fev f y = .slice (some ad) l.length c') (hby : Nat.ble bytes 100000 = true)
    (kk : ∀ A' cap w', Sat w0 M (F (.rw 0 (.slice A' (xs.length + l.length) cap) e size (xs ++ l.map en))) w' → WL P ro n ops Q rest D (upd f d (.slice A' (xs.length + l.length) cap)) w') :
    WL P ro n ops Q (⟨some d, .call ⟨.builtin .append, #[x, y], #[T, T]⟩, ty, ps, af, gd⟩ :: rest) D f w := by
  obtain ⟨h1, h2, h3⟩ := S.ok _ (hr.rep (.rw 0 (.slice A k c) e size xs)).mem
  have hby' := Nat.le_of_ble_eq_true hby
  have hflen : ∀ l : List α, (l.flatMap en).length = l.length * size := by
    intro l
    induction l with
    | nil => simp
    | cons a l ih => rw [List.flatMap_cons, List.length_append, ih, hs, List.length_cons, Nat.succ_mul]; omega
  have hbound : (xs.length + l.length) * bytes ≤ 140737488355328 := Nat.le_trans (Nat.mul_le_mul (show xs.length + l.length ≤ 1000000000 by omega) hby') (by decide)
  obtain ⟨v', w', hrun, hown, hgr, hob⟩ := run_append (P := P) (f := f) (d := d) (ty := ty) (ps := ps) (af := af) (gd := gd) (m := l.length) (c := c') (ad := ad) (news := l.flatMap en) hk hx hy h3 (hflen l)
    (fun j u hju => by
      obtain ⟨i, o, hi, rfl, ho⟩ := flat_get z hs l j u hju
      exact R.at_ i o u hi ho)
    (fun u hu => by
      obtain ⟨b, hb, hub⟩ := List.mem_flatMap.1 hu
      exact ones_mem (hone b) u hub) (by unfold maxLen; omega) hbound (Nat.zero_le _)
  have hform : ∃ A' cap, v' = .slice A' (xs.length + l.length) cap := by
    rcases hown.2 with ⟨e1, e2⟩ | ⟨g, cap, _, e1, _⟩
    · exact ⟨none, 0, by rw [e1, e2]⟩
    · exact ⟨some ⟨g, 0, none⟩, cap, e1⟩
  obtain ⟨A', cap, rfl⟩ := hform
  refine wl_run (v := .slice A' (xs.length + l.length) cap) hg hdn hrun ?_
  have hmine : ∀ b', (Value.slice A' (xs.length + l.length) cap).ownBlock = some b' → (Value.slice A k c).ownBlock = some b' ∨ b' = w.heap.size := by
    intro b' hb2
    rcases hob with e1 | e1
    · left; exact e1.symm.trans hb2
    · right
      have := e1.symm.trans hb2
      injection this with e2
      exact e2.symm
  refine kk A' cap w' (S.rep (hr.rep _) hgr ⟨fun b' hb' => ?_, ?_, ?_⟩ ?_)
  · rcases hmine b' hb' with e1 | e1
    · exact h1 b' e1
    · exact .inl (by have := S.le; omega)
  · intro c1 hc1
    rcases List.mem_append.1 hc1 with hc1 | hc1
    · exact h2 c1 hc1
    · obtain ⟨a, _, rfl⟩ := List.mem_map.1 hc1
      exact hs a
  · simp only [List.length_append, List.length_map, List.flatten_append]
    rw [← List.flatMap_def]
    exact hown
  · intro b' hb'
    exact (hmine b' hb').imp id (fun e => by omega)
/-! ### calls that give a row -/
theorem St.row {xs : List (List Value)} {E size : Nat} {A : Option Addr} {c : Nat} (h : List HO) (K : Keeps [] w w') (ho : w'.ownsRow w.heap.size E size (.slice A xs.length c) xs.length xs.flatten) : St h (.rw 0 (.slice A xs.length c) E size xs :: h) w w' :=
  ⟨K.os, K.tape, K.output, K.size, fun k hlt _ => K.block k hlt (by simp), fun o ho' k hok => by
    rcases List.mem_cons.1 ho' with rfl | hm
    · exact .inr (ho.lt k hok).1
    · exact .inl ⟨o, hm, hok⟩⟩
theorem x_callrow {g : FuncId} {cap as : List Value} {ts : Array TypeId} {V : Value → Value} {E size : Nat} {xs : List (List Value)} (S : Sat w0 M h w) (hg : want ops f ⟨some d, .call ⟨.value x, al.toArray, ts⟩, ty, ps, af, gd⟩ = true) (hdn : Nat.blt d n = true)
    (hx : fev f x = .func (.func g) #[] cap.toArray) (hE : Ent P g) (ha : NA (evs f al ++ cap) as) (hc : Calls P g as.toArray w (RetP (RowR V E size xs w)))
    (k : ∀ A c w', Sat w0 M (.rw 0 (.slice A xs.length c) E size xs :: h) w' → WL P ro n ops Q rest D (upd f d (V (.slice A xs.length c))) w') : WL P ro n ops Q (⟨some d, .call ⟨.value x, al.toArray, ts⟩, ty, ps, af, gd⟩ :: rest) D f w :=
  x_call hg hdn hx hE ha hc (by rintro v w' ⟨A, c, rfl, hk, ho, hl⟩; exact k A c w' (S.row hk ho hl))
theorem z1_callrow {g : FuncId} {cap as : List Value} {ts : Array TypeId} {V : Value → Value} {E size : Nat} {xs : List (List Value)} (hg : want ops f ⟨some d, .call ⟨.value x, al.toArray, ts⟩, ty, ps, af, gd⟩ = true)
    (hx : fev f x = .func (.func g) #[] cap.toArray) (hE : Ent P g) (ha : NA (evs f al ++ cap) as) (hc : ∀ w, Sat w0 M h w → Calls P g as.toArray w (RetP (RowR V E size xs w)))
    (k : ∀ A c, PV P ro ops Q w0 M (.rw 0 (.slice A xs.length c) E size xs :: h) prest D (upd f d (V (.slice A xs.length c)))) : PV P ro ops Q w0 M h ((1, ⟨some d, .call ⟨.value x, al.toArray, ts⟩, ty, ps, af, gd⟩) :: prest) D f :=
  z1_call (R := RowR V E size xs) hg hx hE ha hc (by rintro w v w' S ⟨A, c, rfl, hk, ho, hl⟩; exact ⟨[_], S.row hk ho hl, St.row h hk ho, k A c⟩)
theorem z2_callrow {g : FuncId} {cap as : List Value} {ts : Array TypeId} {V : Value → Value} {E size : Nat} {xs : List (List Value)} (hg : want ops f ⟨some d, .call ⟨.value x, al.toArray, ts⟩, ty, ps, af, gd⟩ = true)
    (hx : fev f x = .func (.func g) #[] cap.toArray) (hE : Ent P g) (ha : NA (evs f al ++ cap) as) (hc : ∀ w, Sat w0 M h w → Calls P g as.toArray w (RetP (RowR V E size xs w)))
    (k : ∀ A c, PV P ro ops Q w0 M (.rw 0 (.slice A xs.length c) E size xs :: h) prest D (upd f d (V (.slice A xs.length c)))) : PV P ro ops Q w0 M h ((2, ⟨some d, .call ⟨.value x, al.toArray, ts⟩, ty, ps, af, gd⟩) :: prest) D f :=
  z2_call (R := RowR V E size xs) hg hx hE ha hc (by rintro w v w' S ⟨A, c, rfl, hk, ho, hl⟩; exact ⟨_, S.row hk ho hl, St.row h hk ho, k A c⟩)
/-! ### stores into rows, the order drawn -/
theorem storeRow_run {T E size i off m c : Nat} {A : Option Addr} {v : Value} {xs : List (List Value)} {F : HO → List HO} (S : Sat w0 M h w)
    (hx : fev f x = .pointer (some (ea A size i off))) (hy : Is (fev f y) v) (h1 : one v = true) (hs : (P.info? T).map (·.size) = some 1) (hr : RepF h (.rw 0 (.slice A m c) E size xs) F) (hi : i < xs.length) (ho : off < size) :
    ∃ w', (execOp (fev f) ⟨none, .store T x y, ty, ps, af, gd⟩).run P w = .ok .skip w' ∧ Sat w0 M (F (.rw 0 (.slice A m c) E size (xs.set i ((xs.getD i []).set off v)))) w' ∧ St h (F (.rw 0 (.slice A m c) E size (xs.set i ((xs.getD i []).set off v)))) w w' := by
  obtain ⟨hm, hl, hrow⟩ := S.ok _ (hr.rep (.rw 0 (.slice A m c) E size xs)).mem
  rcases hrow.2 with ⟨_, h0⟩ | ⟨g, cap, cur, hv, hb, hgc, hnc, hcm, hcs, htake⟩
  · omega
  · simp only [Value.slice.injEq] at hv
    obtain ⟨rfl, rfl, rfl⟩ := hv
    have hp : ea (some ⟨g, 0, none⟩) size i off = ⟨g, i * size + off, none⟩ := by
      unfold ea; simp only [Option.getD_some]; rw [add_at, Nat.zero_add]
    have hlt : i * size + off < xs.length * size := by
      have h2 : (i + 1) * size ≤ xs.length * size := Nat.mul_le_mul_right _ hi
      rw [Nat.succ_mul] at h2
      omega
    have hle : xs.length * size ≤ c * size := Nat.mul_le_mul_right _ hnc
    have hone : cl1 v = [v] := by cases v <;> first | rfl | (simp [one] at h1)
    obtain ⟨iT, hi1, hi2⟩ := Option.map_eq_some_iff.1 hs
    have hrun := run_storeCells_at P g (i * size + off) E [v] 0 cur w hgc (by simp; omega) (by intro u hu; simp only [List.mem_singleton] at hu; subst hu; rw [← one_eq]; exact h1)
    have hrow2 : (cur.toList.take (i * size + off + 0) ++ [v] ++ cur.toList.drop (i * size + off + 0 + [v].length)) = cur.toList.set (i * size + off) v := by
      rw [List.set_eq_take_append_cons_drop, if_pos (by simp; omega)]
      simp
    refine ⟨w.setRow g (cur.toList.set (i * size + off) v).toArray, ?_, ?_, ?_⟩
    · unfold execOp
      simp only [Instr.storeAt, hx, hp, Instr.sureAddr, Sem.run_bind, Sem.run_pure, Result.andThen_ok, hy.eq, storeVar, sizeOf, typeInfo, run_program, hi1, hi2]
      rw [← cl1_eq, hone]
      simp only [List.size_toArray, List.length_cons, List.length_nil, Nat.zero_add, ne_eq, not_true_eq_false, if_false, Sem.run_pure, Result.andThen_ok]
      rw [hrun]
      simp only [Result.andThen_ok]
      rw [← hrow2]
    · refine S.rep (hr.rep _) ⟨rfl, rfl, rfl, by simp, fun k _ hk => setRow_other w g k _ (fun e => hk (by rw [e]; rfl))⟩ ⟨hm, ?_, ?_, ?_⟩ (fun b' hb' => .inl hb')
      · intro r hr'
        rcases List.mem_or_eq_of_mem_set hr' with h2 | h2
        · exact hl r h2
        · subst h2
          rw [List.length_set]
          exact hl _ (getD_mem [] hi)
      · rw [flat_set xs i off v hl hi ho]
        simpa using hrow.1
      · refine .inr ⟨g, c, (cur.toList.set (i * size + off) v).toArray, by simp, Nat.zero_le _, setRow_heap w g _ _ E _ hgc, by simpa using hnc, hcm, by simpa using hcs, ?_⟩
        rw [flat_set xs i off v hl hi ho, ← htake]
        simp [List.take_set]
    · refine ⟨rfl, rfl, rfl, by simp, fun k _ hn => setRow_other w g k _ (fun e => hn _ (hr.rep (.rw 0 (.slice (some ⟨g, 0, none⟩) xs.length c) E size xs)).mem (by rw [e]; rfl)), fun o ho' k hok => ?_⟩
      rcases (hr.rep (.rw 0 (.slice (some ⟨g, 0, none⟩) xs.length c) E size (xs.set i ((xs.getD i []).set off v)))).mem' o ho' with rfl | hm'
      · exact .inl ⟨_, (hr.rep (.rw 0 (.slice (some ⟨g, 0, none⟩) xs.length c) E size xs)).mem, hok⟩
      · exact .inl ⟨o, hm', hok⟩
theorem z2_storeRow {T E size i off m c : Nat} {A : Option Addr} {v : Value} {xs : List (List Value)} {F : HO → List HO} (hg : want ops f ⟨none, .store T x y, ty, ps, af, gd⟩ = true)
    (hx : fev f x = .pointer (some (ea A size i off))) (hy : Is (fev f y) v) (h1 : one v = true) (hs : (P.info? T).map (·.size) = some 1) (hr : RepF h (.rw 0 (.slice A m c) E size xs) F) (hi : i < xs.length) (ho : off < size)
    (k : PV P ro ops Q w0 M (F (.rw 0 (.slice A m c) E size (xs.set i ((xs.getD i []).set off v)))) prest D f) : PV P ro ops Q w0 M h ((2, ⟨none, .store T x y, ty, ps, af, gd⟩) :: prest) D f :=
  PV.step2 fun w S => by
    obtain ⟨w', hrun, S', st⟩ := storeRow_run (P := P) (f := f) (ty := ty) (ps := ps) (af := af) (gd := gd) S hx hy h1 hs hr hi ho
    exact beh_skip hg hrun ⟨_, S', st, k⟩
/-- a row of the call's own, read where the order is drawn -/
theorem y_loadRow {T base m c j off : Nat} {A : Option Addr} {E size : Nat} {xs : List (List Value)} {kk : Option Nat} {v0 v : Value} (hg : want ops f ⟨some d, .load T x, ty, ps, af, gd⟩ = true)
    (hx : fev f x = .pointer (some (ea A size j off))) (hh : Has h (.rw base (.slice A m c) E size xs)) (hj : j < m) (hk : ldk P T = some kk) (hv : ldv kk (xs.getD j []) off = some v0) (hi : Is v0 v)
    (k : PV P ro ops Q w0 M h prest D (upd f d v)) : PV P ro ops Q w0 M h ((0, ⟨some d, .load T x, ty, ps, af, gd⟩) :: prest) D f :=
  y_val hg rfl (fun w S => r_load_at rfl hx ((S.rd hh).cells hj) hk hv) hi k
end
end Go.Proofs.Ytagapiflfnbfiaa
