/- EngT: several texts in one. No statement of the seat is proved here. -/
import Derived.Test.YtfkcihcbmlcajaaEngR
import Derived.LoopNIn
import Derived.Laws.CopyRow
import Derived.Laws.Append
import Derived.Laws.Cells
/- Rows: made empty, appended to, returned by calls, stored into where the order is drawn. No statement of the seat is proved here. -/
namespace Go.Proofs.Ytfkcihcbmlcajaa
set_option linter.unusedVariables false
set_option linter.unusedSimpArgs false
open Go Go.RowKit
section
variable {P : Program} {ro : Option Nat} {n : Nat} {Q : Post} {D : List Deferred} {f : Fm} {w w0 w' : World} {M : List Nat} {h : List HO}
variable {ops : Array Oper} {rest : List Oper} {prest : List (Nat × Oper)} {d ty xt yt : Nat} {ps : String} {af : Array Edge} {gd : Option (Nat × Bool)} {x y : Operand} {al : List Operand}
/-- a literal without elements -/
theorem x_buildSlice0 {T e size bytes : Nat} (S : Sat w0 M h w) (hg : want ops f ⟨some d, .buildSlice T 0 #[], ty, ps, af, gd⟩ = true) (hdn : Nat.blt d n = true) (hk : apk P T = some (e, size, bytes))
    (k : ∀ g w', Sat w0 M (.rw 0 (.slice (some ⟨g, 0, none⟩) 0 0) e size [] :: h) w' → w.heap.size ≤ g → Keeps [] w w' → WL P ro n ops Q rest D (upd f d (.slice (some ⟨g, 0, none⟩) 0 0)) w') : WL P ro n ops Q (⟨some d, .buildSlice T 0 #[], ty, ps, af, gd⟩ :: rest) D f w := by
  obtain ⟨hu, i, zv, hi, hz, h1, h2, h3, h4⟩ := apk_parts hk
  have hgr : w.grownBy (w.alloc (.cells #[] e)) none := World.grownBy_alloc w _ none
  refine wl_run (v := .slice (some ⟨w.heap.size, 0, none⟩) 0 0) (w' := w.alloc (.cells #[] e)) hg hdn ?_ (k w.heap.size _ ?_ (Nat.le_refl _) ⟨rfl, rfl, rfl, hgr.size, fun k hk _ => hgr.block k hk (by simp)⟩)
  · simp [execOp, Instr.buildSlice, run_underlying hu, sizeOf, typeInfo, hi, Instr.fill, newRow, Sem.run_bind, Sem.run_pure, Result.andThen]
    rw [show Array.range 0 = (#[] : Array Nat) from by apply Array.ext <;> simp]
    simp
  · refine S.add hgr ⟨fun b hb => ?_, (fun c hc => by cases hc), ⟨by simp, .inr ⟨w.heap.size, 0, #[], rfl, Nat.zero_le _, heap_alloc_new w _, Nat.le_refl _, Nat.zero_le _, by simp, by simp⟩⟩⟩ (fun b hb => ?_)
    · have e1 : w.heap.size = b := by injection hb
      exact .inl (by have := S.le; omega)
    · have e1 : w.heap.size = b := by injection hb
      omega
/-- append(x, y...) onto a row of the call's own -/
theorem x_appendN {α : Type} {T e size bytes k c c' : Nat} {A : Option Addr} {ad : Addr} {l : List α} {en : α → List Value} {xs : List (List Value)} {F : HO → List HO} (z : α) (hs : ∀ a, (en a).length = size) (hone : ∀ a, ones (en a) = true) (R : Rd w (some ad) size l.length (fun i => en (l.getD i z))) (hsm : xs.length + l.length < 1000000000) (S : Sat w0 M h w)
    (hg : want ops f ⟨some d, .call ⟨.builtin .append, #[x, y], #[T, T]⟩, ty, ps, af, gd⟩ = true) (hdn : Nat.blt d n = true) (hk : apk P T = some (e, size, bytes)) (hx : fev f x = .slice A k c) (hr : RepF h (.rw 0 (.slice A k c) e size xs) F) (hy : fev f y = .slice (some ad) l.length c') (hby : Nat.ble bytes 100000 = true)
    (kk : ∀ A' cap w', Sat w0 M (F (.rw 0 (.slice A' (xs.length + l.length) cap) e size (xs ++ l.map en))) w' → WL P ro n ops Q rest D (upd f d (.slice A' (xs.length + l.length) cap)) w') :
    WL P ro n ops Q (⟨some d, .call ⟨.builtin .append, #[x, y], #[T, T]⟩, ty, ps, af, gd⟩ :: rest) D f w := by
  obtain ⟨h1, h2, h3⟩ := S.ok _ (hr.rep (.rw 0 (.slice A k c) e size xs)).mem
  have hby' := Nat.le_of_ble_eq_true hby
  have hflen : ∀ l : List α, (l.flatMap en).length = l.length * size := by
    intro l
    induction l with
    | nil => simp
    | cons a l ih => rw [List.flatMap_cons, List.length_append, ih, hs, List.length_cons, Nat.succ_mul]; omega
  have hbound : (xs.length + l.length) * bytes ≤ 140737488355328 := Nat.le_trans (Nat.mul_le_mul (show xs.length + l.length ≤ 1000000000 by omega) hby') (by decide)
  obtain ⟨v', w', hrun, hown, hgr, hob⟩ := run_append (P := P) (f := f) (d := d) (ty := ty) (ps := ps) (af := af) (gd := gd) (m := l.length) (c := c') (ad := ad) (news := l.flatMap en) hk hx hy h3 (hflen l)
    (fun j u hju => by
      obtain ⟨i, o, hi, rfl, ho⟩ := flat_get z hs l j u hju
      exact R.at_ i o u hi ho)
    (fun u hu => by
      obtain ⟨b, hb, hub⟩ := List.mem_flatMap.1 hu
      exact ones_mem (hone b) u hub) (by unfold maxLen; omega) hbound (Nat.zero_le _)
  have hform : ∃ A' cap, v' = .slice A' (xs.length + l.length) cap := by
    rcases hown.2 with ⟨e1, e2⟩ | ⟨g, cap, _, e1, _⟩
    · exact ⟨none, 0, by rw [e1, e2]⟩
    · exact ⟨some ⟨g, 0, none⟩, cap, e1⟩
  obtain ⟨A', cap, rfl⟩ := hform
  refine wl_run (v := .slice A' (xs.length + l.length) cap) hg hdn hrun ?_
  have hmine : ∀ b', (Value.slice A' (xs.length + l.length) cap).ownBlock = some b' → (Value.slice A k c).ownBlock = some b' ∨ b' = w.heap.size := by
    intro b' hb2
    rcases hob with e1 | e1
    · left; exact e1.symm.trans hb2
    · right
      have := e1.symm.trans hb2
      injection this with e2
      exact e2.symm
  refine kk A' cap w' (S.rep (hr.rep _) hgr ⟨fun b' hb' => ?_, ?_, ?_⟩ ?_)
  · rcases hmine b' hb' with e1 | e1
    · exact h1 b' e1
    · exact .inl (by have := S.le; omega)
  · intro c1 hc1
    rcases List.mem_append.1 hc1 with hc1 | hc1
    · exact h2 c1 hc1
    · obtain ⟨a, _, rfl⟩ := List.mem_map.1 hc1
      exact hs a
  · simp only [List.length_append, List.length_map, List.flatten_append]
    rw [← List.flatMap_def]
    exact hown
  · intro b' hb'
    exact (hmine b' hb').imp id (fun e => by omega)
/-! ### calls that give a row -/
theorem St.row {xs : List (List Value)} {E size : Nat} {A : Option Addr} {c : Nat} (h : List HO) (K : Keeps [] w w') (ho : w'.ownsRow w.heap.size E size (.slice A xs.length c) xs.length xs.flatten) : St h (.rw 0 (.slice A xs.length c) E size xs :: h) w w' :=
  ⟨K.os, K.tape, K.output, K.size, fun k hlt _ => K.block k hlt (by simp), fun o ho' k hok => by
    rcases List.mem_cons.1 ho' with rfl | hm
    · exact .inr (ho.lt k hok).1
    · exact .inl ⟨o, hm, hok⟩⟩
theorem x_callrow {g : FuncId} {cap as : List Value} {ts : Array TypeId} {V : Value → Value} {E size : Nat} {xs : List (List Value)} (S : Sat w0 M h w) (hg : want ops f ⟨some d, .call ⟨.value x, al.toArray, ts⟩, ty, ps, af, gd⟩ = true) (hdn : Nat.blt d n = true)
    (hx : fev f x = .func (.func g) #[] cap.toArray) (hE : Ent P g) (ha : NA (evs f al ++ cap) as) (hc : Calls P g as.toArray w (RetP (RowR V E size xs w)))
    (k : ∀ A c w', Sat w0 M (.rw 0 (.slice A xs.length c) E size xs :: h) w' → WL P ro n ops Q rest D (upd f d (V (.slice A xs.length c))) w') : WL P ro n ops Q (⟨some d, .call ⟨.value x, al.toArray, ts⟩, ty, ps, af, gd⟩ :: rest) D f w :=
  x_call hg hdn hx hE ha hc (by rintro v w' ⟨A, c, rfl, hk, ho, hl⟩; exact k A c w' (S.row hk ho hl))
theorem z1_callrow {g : FuncId} {cap as : List Value} {ts : Array TypeId} {V : Value → Value} {E size : Nat} {xs : List (List Value)} (hg : want ops f ⟨some d, .call ⟨.value x, al.toArray, ts⟩, ty, ps, af, gd⟩ = true)
    (hx : fev f x = .func (.func g) #[] cap.toArray) (hE : Ent P g) (ha : NA (evs f al ++ cap) as) (hc : ∀ w, Sat w0 M h w → Calls P g as.toArray w (RetP (RowR V E size xs w)))
    (k : ∀ A c, PV P ro ops Q w0 M (.rw 0 (.slice A xs.length c) E size xs :: h) prest D (upd f d (V (.slice A xs.length c)))) : PV P ro ops Q w0 M h ((1, ⟨some d, .call ⟨.value x, al.toArray, ts⟩, ty, ps, af, gd⟩) :: prest) D f :=
  z1_call (R := RowR V E size xs) hg hx hE ha hc (by rintro w v w' S ⟨A, c, rfl, hk, ho, hl⟩; exact ⟨[_], S.row hk ho hl, St.row h hk ho, k A c⟩)
theorem z2_callrow {g : FuncId} {cap as : List Value} {ts : Array TypeId} {V : Value → Value} {E size : Nat} {xs : List (List Value)} (hg : want ops f ⟨some d, .call ⟨.value x, al.toArray, ts⟩, ty, ps, af, gd⟩ = true)
    (hx : fev f x = .func (.func g) #[] cap.toArray) (hE : Ent P g) (ha : NA (evs f al ++ cap) as) (hc : ∀ w, Sat w0 M h w → Calls P g as.toArray w (RetP (RowR V E size xs w)))
    (k : ∀ A c, PV P ro ops Q w0 M (.rw 0 (.slice A xs.length c) E size xs :: h) prest D (upd f d (V (.slice A xs.length c)))) : PV P ro ops Q w0 M h ((2, ⟨some d, .call ⟨.value x, al.toArray, ts⟩, ty, ps, af, gd⟩) :: prest) D f :=
  z2_call (R := RowR V E size xs) hg hx hE ha hc (by rintro w v w' S ⟨A, c, rfl, hk, ho, hl⟩; exact ⟨_, S.row hk ho hl, St.row h hk ho, k A c⟩)
/-! ### stores into rows, the order drawn -/
theorem storeRow_run {T E size i off m c : Nat} {A : Option Addr} {v : Value} {xs : List (List Value)} {F : HO → List HO} (S : Sat w0 M h w)
    (hx : fev f x = .pointer (some (ea A size i off))) (hy : Is (fev f y) v) (h1 : one v = true) (hs : (P.info? T).map (·.size) = some 1) (hr : RepF h (.rw 0 (.slice A m c) E size xs) F) (hi : i < xs.length) (ho : off < size) :
    ∃ w', (execOp (fev f) ⟨none, .store T x y, ty, ps, af, gd⟩).run P w = .ok .skip w' ∧ Sat w0 M (F (.rw 0 (.slice A m c) E size (xs.set i ((xs.getD i []).set off v)))) w' ∧ St h (F (.rw 0 (.slice A m c) E size (xs.set i ((xs.getD i []).set off v)))) w w' := by
  obtain ⟨hm, hl, hrow⟩ := S.ok _ (hr.rep (.rw 0 (.slice A m c) E size xs)).mem
  rcases hrow.2 with ⟨_, h0⟩ | ⟨g, cap, cur, hv, hb, hgc, hnc, hcm, hcs, htake⟩
  · omega
  · simp only [Value.slice.injEq] at hv
    obtain ⟨rfl, rfl, rfl⟩ := hv
    have hp : ea (some ⟨g, 0, none⟩) size i off = ⟨g, i * size + off, none⟩ := by
      unfold ea; simp only [Option.getD_some]; rw [add_at, Nat.zero_add]
    have hlt : i * size + off < xs.length * size := by
      have h2 : (i + 1) * size ≤ xs.length * size := Nat.mul_le_mul_right _ hi
      rw [Nat.succ_mul] at h2
      omega
    have hle : xs.length * size ≤ c * size := Nat.mul_le_mul_right _ hnc
    have hone : cl1 v = [v] := by cases v <;> first | rfl | (simp [one] at h1)
    obtain ⟨iT, hi1, hi2⟩ := Option.map_eq_some_iff.1 hs
    have hrun := run_storeCells_at P g (i * size + off) E [v] 0 cur w hgc (by simp; omega) (by intro u hu; simp only [List.mem_singleton] at hu; subst hu; rw [← one_eq]; exact h1)
    have hrow2 : (cur.toList.take (i * size + off + 0) ++ [v] ++ cur.toList.drop (i * size + off + 0 + [v].length)) = cur.toList.set (i * size + off) v := by
      rw [List.set_eq_take_append_cons_drop, if_pos (by simp; omega)]
      simp
    refine ⟨w.setRow g (cur.toList.set (i * size + off) v).toArray, ?_, ?_, ?_⟩
    · unfold execOp
      simp only [Instr.storeAt, hx, hp, Instr.sureAddr, Sem.run_bind, Sem.run_pure, Result.andThen_ok, hy.eq, storeVar, sizeOf, typeInfo, run_program, hi1, hi2]
      rw [← cl1_eq, hone]
      simp only [List.size_toArray, List.length_cons, List.length_nil, Nat.zero_add, ne_eq, not_true_eq_false, if_false, Sem.run_pure, Result.andThen_ok]
      rw [hrun]
      simp only [Result.andThen_ok]
      rw [← hrow2]
    · refine S.rep (hr.rep _) ⟨rfl, rfl, rfl, by simp, fun k _ hk => setRow_other w g k _ (fun e => hk (by rw [e]; rfl))⟩ ⟨hm, ?_, ?_, ?_⟩ (fun b' hb' => .inl hb')
      · intro r hr'
        rcases List.mem_or_eq_of_mem_set hr' with h2 | h2
        · exact hl r h2
        · subst h2
          rw [List.length_set]
          exact hl _ (getD_mem [] hi)
      · rw [flat_set xs i off v hl hi ho]
        simpa using hrow.1
      · refine .inr ⟨g, c, (cur.toList.set (i * size + off) v).toArray, by simp, Nat.zero_le _, setRow_heap w g _ _ E _ hgc, by simpa using hnc, hcm, by simpa using hcs, ?_⟩
        rw [flat_set xs i off v hl hi ho, ← htake]
        simp [List.take_set]
    · refine ⟨rfl, rfl, rfl, by simp, fun k _ hn => setRow_other w g k _ (fun e => hn _ (hr.rep (.rw 0 (.slice (some ⟨g, 0, none⟩) xs.length c) E size xs)).mem (by rw [e]; rfl)), fun o ho' k hok => ?_⟩
      rcases (hr.rep (.rw 0 (.slice (some ⟨g, 0, none⟩) xs.length c) E size (xs.set i ((xs.getD i []).set off v)))).mem' o ho' with rfl | hm'
      · exact .inl ⟨_, (hr.rep (.rw 0 (.slice (some ⟨g, 0, none⟩) xs.length c) E size xs)).mem, hok⟩
      · exact .inl ⟨o, hm', hok⟩
theorem z2_storeRow {T E size i off m c : Nat} {A : Option Addr} {v : Value} {xs : List (List Value)} {F : HO → List HO} (hg : want ops f ⟨none, .store T x y, ty, ps, af, gd⟩ = true)
    (hx : fev f x = .pointer (some (ea A size i off))) (hy : Is (fev f y) v) (h1 : one v = true) (hs : (P.info? T).map (·.size) = some 1) (hr : RepF h (.rw 0 (.slice A m c) E size xs) F) (hi : i < xs.length) (ho : off < size)
    (k : PV P ro ops Q w0 M (F (.rw 0 (.slice A m c) E size (xs.set i ((xs.getD i []).set off v)))) prest D f) : PV P ro ops Q w0 M h ((2, ⟨none, .store T x y, ty, ps, af, gd⟩) :: prest) D f :=
  PV.step2 fun w S => by
    obtain ⟨w', hrun, S', st⟩ := storeRow_run (P := P) (f := f) (ty := ty) (ps := ps) (af := af) (gd := gd) S hx hy h1 hs hr hi ho
    exact beh_skip hg hrun ⟨_, S', st, k⟩
/-- a row of the call's own, read where the order is drawn -/
theorem y_loadRow {T base m c j off : Nat} {A : Option Addr} {E size : Nat} {xs : List (List Value)} {kk : Option Nat} {v0 v : Value} (hg : want ops f ⟨some d, .load T x, ty, ps, af, gd⟩ = true)
    (hx : fev f x = .pointer (some (ea A size j off))) (hh : Has h (.rw base (.slice A m c) E size xs)) (hj : j < m) (hk : ldk P T = some kk) (hv : ldv kk (xs.getD j []) off = some v0) (hi : Is v0 v)
    (k : PV P ro ops Q w0 M h prest D (upd f d v)) : PV P ro ops Q w0 M h ((0, ⟨some d, .load T x, ty, ps, af, gd⟩) :: prest) D f :=
  y_val hg rfl (fun w S => r_load_at rfl hx ((S.rd hh).cells hj) hk hv) hi k
end
end Go.Proofs.Ytfkcihcbmlcajaa
/- Loops of a few rounds, walked round by round; calls that give memory which is read later. No statement of the seat is proved here. -/
namespace Go.Proofs.Ytfkcihcbmlcajaa
set_option linter.unusedVariables false
set_option linter.unusedSimpArgs false
open Go Go.RowKit
section
variable {P : Program} {ro : Option Nat} {n : Nat} {Q : Post} {D : List Deferred} {f : Fm} {w w0 w' : World} {M : List Nat} {h : List HO}
variable {ops : Array Oper} {rest : List Oper} {prest : List (Nat × Oper)} {d ty xt yt : Nat} {ps : String} {af : Array Edge} {gd : Option (Nat × Bool)} {x y : Operand} {al : List Operand}
def rds (P : Program) (ro : Option Nat) (n : Nat) (c : Code) (Q : Post) : Nat → List Deferred → Fm → World → Prop
  | 0, _, _, _ => False
  | m + 1, D, f, w => CW P ro n c (thenQ (rds P ro n c Q m) Q) D f w
theorem cw_rds {c : Code} {m : Nat} (h : CW P ro n c (thenQ (rds P ro n c Q m) Q) D f w) : rds P ro n c Q (m + 1) D f w := h
theorem rds_in {c : Code} : ∀ (m : Nat) (D : List Deferred) (f : Fm) (w : World) (a : Act), Fr n D a f → rds P ro n c Q m D f w → Code.roundsIn (FW ro) 0 P c (lift n Q) m a w
  | 0, _, _, _, _, _, h => h.elim
  | m + 1, D, f, w, a, ha, h => by
    rw [roundsIn_succ]
    refine wpIn_mono (h a ha) fun e a' w' hq => ?_
    obtain ⟨D', f', hf', hQ⟩ := hq
    cases e with
    | normal => exact rds_in m D' f' w' a' hf' hQ
    | exit id => exact ⟨D', f', hf', hQ⟩
    | goto l => exact ⟨D', f', hf', hQ⟩
    | ret => exact ⟨D', f', hf', hQ⟩
    | panic c => exact ⟨D', f', hf', hQ⟩
    | outgrown => exact ⟨D', f', hf', hQ⟩
/-- a loop of at most m rounds, walked round by round -/
theorem cw_rounds {c : Code} (m : Nat) (h : rds P ro n c Q m D f w) : CW P ro n (.loop c) Q D f w := fun a ha => wpIn_loop_rounds m (rds_in m D f w a ha h)
/-- a call whose result lies in memory: the world taken anew, what is known of other memory carried along -/
theorem x_callF {g : FuncId} {cap as : List Value} {ts : Array TypeId} {R : Value → World → Prop} {Φ : World → Prop} (S : Sat w0 M h w) (F : ∀ hz wz, Sat w0 M hz wz → Φ wz)
    (hg : want ops f ⟨some d, .call ⟨.value x, al.toArray, ts⟩, ty, ps, af, gd⟩ = true) (hdn : Nat.blt d n = true)
    (hx : fev f x = .func (.func g) #[] cap.toArray) (hE : Ent P g) (ha : NA (evs f al ++ cap) as) (hc : Calls P g as.toArray w (RetP R)) (hR : ∀ v w', R v w' → Keeps [] w w')
    (k : ∀ v w', R v w' → (∀ b ∈ blks h, b < w.heap.size) → Sat w' (blks h) h w' → (∀ hz wz, Sat w' (blks h) hz wz → Φ wz) → WL P ro n ops Q rest D (upd f d v) w') : WL P ro n ops Q (⟨some d, .call ⟨.value x, al.toArray, ts⟩, ty, ps, af, gd⟩ :: rest) D f w :=
  x_call hg hdn hx hE ha hc (fun v w' hr => by
    have S' := S.call (hR v w' hr)
    refine k v w' hr (fun b hb => (S.blks_mine hb).2) S'.rebase fun hz wz s => F hz wz ?_
    refine ⟨Keeps.join S' s, fun o ho => ?_, s.apart⟩
    have hm : ∀ b, Mine w' (blks h) b → Mine w0 M b := fun b hb => by
      rcases hb with hb | hb
      · exact .inl (Nat.le_trans S'.le hb)
      · exact (S'.blks_mine hb).1
    have hk := s.ok o ho
    cases o with
    | cl b T cs => exact ⟨hk.1, hm b hk.2⟩
    | rw base v E size xs => exact ⟨fun b hb => hm b (hk.1 b hb), hk.2⟩
    | pr b φ => exact ⟨hk.1, hk.2.1, hm b hk.2.2⟩)
end
end Go.Proofs.Ytfkcihcbmlcajaa
/- Calls that change what the caller knows; functions bound to a receiver; arrays sliced, cut and cleared in place. No statement of the seat is proved here. -/
namespace Go.Proofs.Ytfkcihcbmlcajaa
set_option linter.unusedVariables false
set_option linter.unusedSimpArgs false
open Go Go.RowKit
theorem Agree.maskIn {S S2 : List Nat} {g x f : Fm} (hs : S2.all (S.elem ·) = true) (h : Agree S x f) : Agree S (Go.Proofs.Ytfkcihcbmlcajaa.mask S2 g x) f := fun i hi => by
  have h2 : S2.elem i = false := by
    cases h3 : S2.elem i with
    | false => rfl
    | true =>
      have h4 := List.all_eq_true.1 hs i (by simpa using h3)
      rw [hi] at h4
      cases h4
  unfold Go.Proofs.Ytfkcihcbmlcajaa.mask
  rw [h2]
  exact h i hi
section
variable {P : Program} {ro : Option Nat} {n : Nat} {Q : Post} {D : List Deferred} {f : Fm} {w w0 w' : World} {M : List Nat} {h : List HO}
variable {ops : Array Oper} {rest : List Oper} {prest : List (Nat × Oper)} {d ty xt yt : Nat} {ps : String} {af : Array Edge} {gd : Option (Nat × Bool)} {x y : Operand} {al : List Operand}
theorem HO.ok.kept' {B : List Nat} {o : HO} (hk : o.ok w0 M w) (K : Keeps B w w') (hn : ∀ b, o.own = some b → b ∉ B) : o.ok w0 M w' := by
  have key : ∀ b, o.own = some b → w'.heap[b]? = w.heap[b]? := fun b hb => K.block b (hk.lt hb) (hn b hb)
  cases o with
  | cl b T cs => exact ⟨(key b rfl).trans hk.1, hk.2⟩
  | pr b φ => exact ⟨Nat.lt_of_lt_of_le hk.1 K.size, by rw [key b rfl]; exact hk.2.1, hk.2.2⟩
  | rw base v E size xs =>
    refine ⟨hk.1, hk.2.1, hk.2.2.1, ?_⟩
    rcases hk.2.2.2 with h1 | ⟨g, cap, cur, h1, h2, h3, h4⟩
    · exact .inl h1
    · exact .inr ⟨g, cap, cur, h1, h2, (key g (by subst h1; rfl)).trans h3, h4⟩
theorem Sat.merge {hc hc' fr : List HO} (S : Sat w0 M (hc ++ fr) w) (S' : Sat w (blks hc) hc' w') : Sat w0 M (hc' ++ fr) w' := by
  have Sc : Sat w0 M hc w := S.drop hc (List.sublist_append_left _ _)
  obtain ⟨_, _, hap⟩ := List.pairwise_append.1 S.apart
  have hfr := (List.pairwise_append.1 S.apart).2.1
  have hm : ∀ b, Mine w (blks hc) b → Mine w0 M b := fun b hb => by
    rcases hb with hb | hb
    · exact .inl (Nat.le_trans S.le hb)
    · exact (Sc.blks_mine hb).1
  have hx : ∀ o ∈ fr, ∀ b, o.own = some b → b ∉ blks hc := fun o ho b hb hin => by
    obtain ⟨o2, h2, h3⟩ := blks_mem hin
    exact hap o2 h2 o ho b h3 hb
  refine ⟨Keeps.join Sc S', fun o ho => ?_, List.pairwise_append.2 ⟨S'.apart, hfr, fun a ha b hb g hg hgb => ?_⟩⟩
  · rcases List.mem_append.1 ho with ho | ho
    · have hk := S'.ok o ho
      cases o with
      | cl b T cs => exact ⟨hk.1, hm b hk.2⟩
      | rw base v E size xs => exact ⟨fun b hb => hm b (hk.1 b hb), hk.2⟩
      | pr b φ => exact ⟨hk.1, hk.2.1, hm b hk.2.2⟩
    · exact (S.ok o (List.mem_append_right _ ho)).kept' S'.keeps (hx o ho)
  · rcases (S'.ok a ha).mine hg with h1 | h1
    · have := (S.ok b (List.mem_append_right _ hb)).lt hgb
      omega
    · exact hx b hb g hgb h1
theorem Sat.part {hc fr : List HO} (S : Sat w0 M (hc ++ fr) w) : Sat w (blks hc) hc w := (S.drop hc (List.sublist_append_left _ _)).rebase
/-! ### functions with bound arguments -/
theorem r_makeFuncB {fn : Fn} {l' : List Value} {bl : List Operand} {o : Oper} (hop : o.op = .makeFunc fn bl.toArray #[]) (hn : NL (evs f bl) l') : (execOp (fev f) o).run P w = .ok (.value (.func fn l'.toArray #[])) w := by
  unfold execOp
  rw [hop]
  simp only [evs_eq, hn.eq, Instr.makeFunc, Sem.run_bind, Sem.run_pure, Result.andThen_ok]
  rfl
theorem x_makeFuncB {fn : Fn} {l' : List Value} {bl : List Operand} (hg : want ops f ⟨some d, .makeFunc fn bl.toArray #[], ty, ps, af, gd⟩ = true) (hdn : Nat.blt d n = true)
    (hn : NL (evs f bl) l') (k : WL P ro n ops Q rest D (upd f d (.func fn l'.toArray #[])) w) : WL P ro n ops Q (⟨some d, .makeFunc fn bl.toArray #[], ty, ps, af, gd⟩ :: rest) D f w :=
  wl_val hg rfl hdn (r_makeFuncB rfl hn) (.z .any) k
theorem run_callB {g : FuncId} {bd cap : List Value} {ts : Array TypeId} {o : Oper} (hop : o.op = .call { callee := .value x, args := al.toArray, argTypes := ts })
    (hx : fev f x = .func (.func g) bd.toArray cap.toArray) (hE : Ent P g) : (execOp (fev f) o).run P w = .ok (.enter g (bd ++ evs f al ++ cap).toArray) w := by
  unfold execOp
  rw [hop]
  simp only [resolve, hx, Deferred.ofValue, evs_eq, Sem.run_bind, Sem.run_pure, Result.andThen_ok, invoke]
  rw [show (bd.toArray ++ (evs f al).toArray ++ cap.toArray) = (bd ++ evs f al ++ cap).toArray from by simp]
  exact hE _ _
theorem x_callB {g : FuncId} {bd cap as : List Value} {ts : Array TypeId} {R : Value → World → Prop} (hg : want ops f ⟨some d, .call ⟨.value x, al.toArray, ts⟩, ty, ps, af, gd⟩ = true) (hdn : Nat.blt d n = true)
    (hx : fev f x = .func (.func g) bd.toArray cap.toArray) (hE : Ent P g) (ha : NA (bd ++ evs f al ++ cap) as) (hc : Calls P g as.toArray w (RetP R))
    (k : ∀ v w', R v w' → WL P ro n ops Q rest D (upd f d v) w') : WL P ro n ops Q (⟨some d, .call ⟨.value x, al.toArray, ts⟩, ty, ps, af, gd⟩ :: rest) D f w := by
  refine wl_enter hg hdn (run_callB rfl hx hE) (by rw [ha.eq]; exact hc) ?_
  rintro e w' ⟨v, rfl, hR⟩
  exact ⟨v, rfl, k v w' hR⟩
/-- a call of a bound function that leaves the memory alone -/
theorem x_callvB {g : FuncId} {bd cap as : List Value} {ts : Array TypeId} {V : Value} (S : Sat w0 M h w) (hg : want ops f ⟨some d, .call ⟨.value x, al.toArray, ts⟩, ty, ps, af, gd⟩ = true) (hdn : Nat.blt d n = true)
    (hx : fev f x = .func (.func g) bd.toArray cap.toArray) (hE : Ent P g) (ha : NA (bd ++ evs f al ++ cap) as) (hc : Calls P g as.toArray w (RetP (Val V w)))
    (k : ∀ w', Keeps [] w w' → Sat w0 M h w' → WL P ro n ops Q rest D (upd f d V) w') : WL P ro n ops Q (⟨some d, .call ⟨.value x, al.toArray, ts⟩, ty, ps, af, gd⟩ :: rest) D f w :=
  x_callB hg hdn hx hE ha hc (by rintro v w' ⟨rfl, hk⟩; exact k w' hk (S.call hk))
/-- a call that changes what is known -/
theorem x_callC {α : Type} {g : FuncId} {bd cap as : List Value} {ts : Array TypeId} {hc fr : List HO} {hc' : α → List HO} {V : α → Value} (S : Sat w0 M h w)
    (hg : want ops f ⟨some d, .call ⟨.value x, al.toArray, ts⟩, ty, ps, af, gd⟩ = true) (hdn : Nat.blt d n = true)
    (hx : fev f x = .func (.func g) bd.toArray cap.toArray) (hE : Ent P g) (ha : NA (bd ++ evs f al ++ cap) as) (hp : h.Perm (hc ++ fr))
    (hC : Sat w (blks hc) hc w → Calls P g as.toArray w (RetP fun v w' => ∃ a, v = V a ∧ Sat w (blks hc) (hc' a) w'))
    (k : ∀ a w', Sat w0 M (hc' a ++ fr) w' → WL P ro n ops Q rest D (upd f d (V a)) w') : WL P ro n ops Q (⟨some d, .call ⟨.value x, al.toArray, ts⟩, ty, ps, af, gd⟩ :: rest) D f w := by
  have S1 := S.perm' hp
  exact x_callB hg hdn hx hE ha (hC S1.part) (by rintro v w' ⟨a, rfl, S2⟩; exact k a w' (S1.merge S2))
/-! ### pointers that are looked at -/
theorem r_nilP {a : Addr} {o : Oper} (hop : o.op = .nilCheck x) (hx : fev f x = .pointer (some a)) : (execOp (fev f) o).run P w = .ok (.value (.pointer (some a))) w := by
  unfold execOp
  rw [hop]
  simp only [hx, Sem.run_pure]
theorem x_nilP {a : Addr} (hg : want ops f ⟨some d, .nilCheck x, ty, ps, af, gd⟩ = true) (hdn : Nat.blt d n = true) (hx : fev f x = .pointer (some a))
    (k : WL P ro n ops Q rest D (upd f d (.pointer (some a))) w) : WL P ro n ops Q (⟨some d, .nilCheck x, ty, ps, af, gd⟩ :: rest) D f w :=
  wl_val hg rfl hdn (r_nilP rfl hx) (.z .ptr) k
theorem y_nilP {a : Addr} (hg : want ops f ⟨some d, .nilCheck x, ty, ps, af, gd⟩ = true) (hx : fev f x = .pointer (some a))
    (k : PV P ro ops Q w0 M h prest D (upd f d (.pointer (some a)))) : PV P ro ops Q w0 M h ((0, ⟨some d, .nilCheck x, ty, ps, af, gd⟩) :: prest) D f :=
  y_val hg rfl (fun _ _ => r_nilP rfl hx) (.z .ptr) k
theorem run_remT {kd : IntKind} {a b : Int} (hx : fev f x = .int kd a) (hy : fev f y = .int kd b) (hb : 0 < b) : (execOp (fev f) ⟨some d, .binOp .rem xt x y yt, ty, ps, af, gd⟩).run P w = .ok (.value (.int kd (Int.tmod a b))) w := by
  have e : ¬ b = 0 := by omega
  unfold execOp
  simp [hx, hy, eqGuard, binOp, Op.intDiv, e, go_sem]
theorem x_remT {kd : IntKind} {a b : Int} (hg : want ops f ⟨some d, .binOp .rem xt x y yt, ty, ps, af, gd⟩ = true) (hdn : Nat.blt d n = true) (hx : fev f x = .int kd a) (hy : fev f y = .int kd b) (hb : 0 < b)
    (k : WL P ro n ops Q rest D (upd f d (.int kd (Int.tmod a b))) w) : WL P ro n ops Q (⟨some d, .binOp .rem xt x y yt, ty, ps, af, gd⟩ :: rest) D f w :=
  x_bin hg hdn (run_remT hx hy hb) (.z .int) k
/-! ### what was there, seen by a call that changes some of it -/
theorem OldB.rdl {α : Type} {en : α → Value} {b : Nat} {T : TypeId} {l : List α} (z : α) (O : OldB w [] b T (l.map en)) : Rd w (some ⟨b, 0, none⟩) 1 l.length (fun i => [en (l.getD i z)]) := by
  refine ⟨fun _ => rfl, fun i j u hi hu => ?_⟩
  show w.cell? ((⟨b, 0, none⟩ : Addr).add (i * 1 + j)) = some u
  have hj : j = 0 := by
    have := (List.getElem?_eq_some_iff.1 hu).1
    simpa using this
  subst hj
  rw [add_at, cell_of_row w b _ _ _ _ O.at_]
  simp [hi] at hu ⊢
  exact hu
theorem Sat.other {o : HO} {r : List HO} {b b2 : Nat} {T : TypeId} {cs : List Value} (S : Sat w0 M (o :: r) w) (ho : o.own = some b) (hm : HO.cl b2 T cs ∈ r) : OldB w [b] b2 T cs := by
  refine ⟨(S.ok _ (List.mem_cons_of_mem _ hm)).1, ?_⟩
  have h1 := (List.pairwise_cons.1 S.apart).1 _ hm b ho
  intro hb
  simp at hb
  exact h1 (by rw [hb]; rfl)
/-! ### arrays, sliced -/
theorem x_sliceArr {T m size b off : Nat} (hg : want ops f ⟨some d, .slice T x none none none, ty, ps, af, gd⟩ = true) (hdn : Nat.blt d n = true) (hx : fev f x = .pointer (some ⟨b, off, none⟩)) (hs : arrSize P T = some (m, size))
    (k : WL P ro n ops Q rest D (upd f d (.slice (some ⟨b, off, none⟩) m m)) w) : WL P ro n ops Q (⟨some d, .slice T x none none none, ty, ps, af, gd⟩ :: rest) D f w := by
  refine wl_val hg rfl hdn (v0 := .slice (some ⟨b, off, none⟩) m m) ?_ (.z .slice) k
  unfold arrSize at hs
  split at hs <;> try (cases hs; done)
  rename_i m' e hu
  obtain ⟨i, hi, hsz⟩ := Option.map_eq_some_iff.1 hs
  injection hsz with h1 h2
  subst h1
  simp [execOp, Instr.sliceAt, Instr.sureAddr, Instr.sliceBounds, run_underlying hu, hx, Sem.run_bind, Sem.run_pure, Result.andThen, sizeOf, typeInfo, hi]
  intro _
  exact add_at b off 0
theorem run_slice3 {T : TypeId} {A : Option Addr} {m c size : Nat} {kd kd' kd'' : IntKind} {l u t : Int} {x y z v : Operand} (hx : fev f x = .slice A m c) (hy : fev f y = .int kd l) (hz : fev f z = .int kd' u) (hv : fev f v = .int kd'' t) (hs : elemSize P T = some size)
    (h0 : 0 ≤ l) (h1 : l ≤ u) (h2 : u ≤ t) (h3 : t ≤ c) : ∃ r, (execOp (fev f) ⟨some d, .slice T x (some y) (some z) (some v), ty, ps, af, gd⟩).run P w = .ok (.value r) w := by
  unfold elemSize at hs
  split at hs <;> try (cases hs; done)
  rename_i el hu
  obtain ⟨i, hi, hsz⟩ := Option.map_eq_some_iff.1 hs
  refine ⟨.slice (if t.toNat = l.toNat then A else A.map (·.add (l.toNat * i.size))) (u.toNat - l.toNat) (t.toNat - l.toNat), ?_⟩
  simp [execOp, Instr.sliceAt, Instr.slice, Instr.sliceBounds, Instr.sliceBound, run_underlying hu, hx, hy, hz, hv, Sem.run_bind, Sem.run_pure, Result.andThen, asIntOf, sizeOf, typeInfo, hi, go_sem, show 0 ≤ t by omega, h3, show 0 ≤ u by omega, show u ≤ max t 0 by omega, h0, show l ≤ max u 0 by omega]
theorem x_slice3 {T : TypeId} {A : Option Addr} {m c size : Nat} {kd kd' kd'' : IntKind} {l u t : Int} {x y z v : Operand} (hg : want ops f ⟨some d, .slice T x (some y) (some z) (some v), ty, ps, af, gd⟩ = true) (hdn : Nat.blt d n = true)
    (hx : fev f x = .slice A m c) (hy : fev f y = .int kd l) (hz : fev f z = .int kd' u) (hv : fev f v = .int kd'' t) (hs : elemSize P T = some size) (h0 : 0 ≤ l) (h1 : l ≤ u) (h2 : u ≤ t) (h3 : t ≤ c)
    (k : ∀ r, WL P ro n ops Q rest D (upd f d r) w) : WL P ro n ops Q (⟨some d, .slice T x (some y) (some z) (some v), ty, ps, af, gd⟩ :: rest) D f w := by
  obtain ⟨r, hr⟩ := run_slice3 (P := P) (w := w) (d := d) (ty := ty) (ps := ps) (af := af) (gd := gd) hx hy hz hv hs h0 h1 h2 h3
  exact wl_val hg rfl hdn hr (.z .any) (k r)
end
end Go.Proofs.Ytfkcihcbmlcajaa
