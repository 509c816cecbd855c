/- Whole structs stored into rows; a whole slice appended, the order drawn. No statement of the seat is proved here. -/
import Derived.Test.YtfkcihcbmlcajaaEngW
namespace Go.Proofs.Ytfkcihcbmlcajaa
set_option linter.unusedVariables false
set_option linter.unusedSimpArgs false
open Go Go.RowKit
section
variable {P : Program} {ro : Option Nat} {n : Nat} {Q : Post} {D : List Deferred} {f : Fm} {w w0 w' : World} {M : List Nat} {h : List HO}
variable {ops : Array Oper} {rest : List Oper} {prest : List (Nat × Oper)} {d ty xt yt : Nat} {ps : String} {af : Array Edge} {gd : Option (Nat × Bool)} {x y z : Operand} {al : List Operand}
theorem spl_app_l : ∀ (a b : List Value) (off : Nat) (ns : List Value), off + ns.length ≤ a.length → spl (a ++ b) off ns = spl a off ns ++ b
  | a, b, 0, [], _ => by simp [spl]
  | [], b, 0, v :: ns, h => by simp at h
  | c :: a, b, 0, v :: ns, h => by
    simp only [List.cons_append, spl, List.cons.injEq, true_and]
    exact spl_app_l a b 0 ns (by simp at h ⊢; omega)
  | [], b, off + 1, ns, h => by simp at h
  | c :: a, b, off + 1, ns, h => by
    simp only [List.cons_append, spl, List.cons.injEq, true_and]
    exact spl_app_l a b off ns (by simp at h ⊢; omega)
theorem spl_app_r : ∀ (a b : List Value) (off : Nat) (ns : List Value), 0 < ns.length → spl (a ++ b) (a.length + off) ns = a ++ spl b off ns
  | [], b, off, ns, _ => by simp
  | c :: a, b, off, ns, h => by
    have e : (c :: a).length + off = (a.length + off) + 1 := by simp; omega
    rw [e]
    simp only [List.cons_append, spl, List.cons.injEq, true_and]
    exact spl_app_r a b off ns h
theorem flat_spl {size : Nat} : ∀ (xs : List (List Value)) (i off : Nat) (ns : List Value), (∀ c ∈ xs, c.length = size) → i < xs.length → off + ns.length ≤ size → 0 < ns.length → (xs.set i (spl (xs.getD i []) off ns)).flatten = spl xs.flatten (i * size + off) ns
  | [], i, off, ns, _, hi, _, _ => by simp at hi
  | x :: xs, 0, off, ns, hl, _, ho, _ => by
    have h0 : x.length = size := hl x List.mem_cons_self
    simp only [List.set_cons_zero, List.getD_cons_zero, List.flatten_cons, Nat.zero_mul, Nat.zero_add]
    rw [spl_app_l _ _ _ _ (by omega)]
  | x :: xs, i + 1, off, ns, hl, hi, ho, hp => by
    have h0 : x.length = size := hl x List.mem_cons_self
    simp only [List.set_cons_succ, List.getD_cons_succ, List.flatten_cons]
    rw [flat_spl xs i off ns (fun c hc => hl c (List.mem_cons_of_mem _ hc)) (by simpa using hi) ho hp]
    have e : (i + 1) * size + off = x.length + (i * size + off) := by rw [h0, Nat.succ_mul]; omega
    rw [e, spl_app_r _ _ _ _ hp]
theorem storeRowN_run {T E size i off m c : Nat} {A : Option Addr} {v : Value} {xs : List (List Value)} {F : HO → List HO} (S : Sat w0 M h w)
    (hx : fev f x = .pointer (some (ea A size i off))) (hy : Is (fev f y) v) (h1 : ones (cl1 v) = true) (hs : (P.info? T).map (·.size) = some (cl1 v).length) (hp : 0 < (cl1 v).length) (hr : RepF h (.rw 0 (.slice A m c) E size xs) F) (hi : i < xs.length) (ho : off + (cl1 v).length ≤ size) :
    ∃ w', (execOp (fev f) ⟨none, .store T x y, ty, ps, af, gd⟩).run P w = .ok .skip w' ∧ Sat w0 M (F (.rw 0 (.slice A m c) E size (xs.set i (spl (xs.getD i []) off (cl1 v))))) w' ∧ St h (F (.rw 0 (.slice A m c) E size (xs.set i (spl (xs.getD i []) off (cl1 v))))) w w' := by
  obtain ⟨hm, hl, hrow⟩ := S.ok _ (hr.rep (.rw 0 (.slice A m c) E size xs)).mem
  rcases hrow.2 with ⟨_, h0⟩ | ⟨g, cap, cur, hv, hb, hgc, hnc, hcm, hcs, htake⟩
  · omega
  · simp only [Value.slice.injEq] at hv
    obtain ⟨rfl, rfl, rfl⟩ := hv
    have hpp : ea (some ⟨g, 0, none⟩) size i off = ⟨g, i * size + off, none⟩ := by
      unfold ea; simp only [Option.getD_some]; rw [add_at, Nat.zero_add]
    have hlt : i * size + off + (cl1 v).length ≤ xs.length * size := by
      have h2 : (i + 1) * size ≤ xs.length * size := Nat.mul_le_mul_right _ hi
      rw [Nat.succ_mul] at h2
      omega
    have hle : xs.length * size ≤ c * size := Nat.mul_le_mul_right _ hnc
    obtain ⟨iT, hi1, hi2⟩ := Option.map_eq_some_iff.1 hs
    have hrun := run_storeCells_at P g (i * size + off) E (cl1 v) 0 cur w hgc (by simp; omega) (ones_mem h1)
    have hfit : i * size + off + (cl1 v).length ≤ cur.toList.length := by simp; omega
    have hrow2 : (cur.toList.take (i * size + off + 0) ++ (cl1 v) ++ cur.toList.drop (i * size + off + 0 + (cl1 v).length)) = spl cur.toList (i * size + off) (cl1 v) := by
      rw [spl_eq _ _ _ hfit, Nat.add_zero]
    refine ⟨w.setRow g (spl cur.toList (i * size + off) (cl1 v)).toArray, ?_, ?_, ?_⟩
    · unfold execOp
      simp only [Instr.storeAt, hx, hpp, Instr.sureAddr, Sem.run_bind, Sem.run_pure, Result.andThen_ok, hy.eq, storeVar, sizeOf, typeInfo, run_program, hi1, hi2]
      rw [← cl1_eq]
      simp only [List.size_toArray, ne_eq, not_true_eq_false, if_false, Sem.run_pure, Result.andThen_ok]
      rw [hrun]
      simp only [Result.andThen_ok]
      rw [← hrow2]
    · refine S.rep (hr.rep _) ⟨rfl, rfl, rfl, by simp, fun k _ hk => setRow_other w g k _ (fun e => hk (by rw [e]; rfl))⟩ ⟨hm, ?_, ?_, ?_⟩ (fun b' hb' => .inl hb')
      · intro r hr'
        rcases List.mem_or_eq_of_mem_set hr' with h2 | h2
        · exact hl r h2
        · subst h2
          rw [spl_length]
          exact hl _ (getD_mem [] hi)
      · rw [flat_spl xs i off _ hl hi ho hp, spl_length, List.length_set]
        exact hrow.1
      · refine .inr ⟨g, c, (spl cur.toList (i * size + off) (cl1 v)).toArray, by simp, Nat.zero_le _, setRow_heap w g _ _ E _ hgc, by simpa using hnc, hcm, by simpa [spl_length] using hcs, ?_⟩
        rw [flat_spl xs i off _ hl hi ho hp, List.length_set, ← htake]
        have hlc : cur.toList.length = c * size := by simpa using hcs
        have e1 : cur.toList = cur.toList.take (xs.length * size) ++ cur.toList.drop (xs.length * size) := (List.take_append_drop _ _).symm
        have hlt2 : (cur.toList.take (xs.length * size)).length = xs.length * size := by rw [List.length_take]; omega
        simp only []
        conv => lhs; rw [e1]
        rw [spl_app_l _ _ _ _ (by rw [hlt2]; exact hlt)]
        rw [List.take_append_of_le_length (by rw [spl_length, hlt2]; exact Nat.le_refl _), List.take_of_length_le (by rw [spl_length, hlt2]; exact Nat.le_refl _)]
    · refine ⟨rfl, rfl, rfl, by simp, fun k _ hn => setRow_other w g k _ (fun e => hn _ (hr.rep (.rw 0 (.slice (some ⟨g, 0, none⟩) xs.length c) E size xs)).mem (by rw [e]; rfl)), fun o ho' k hok => ?_⟩
      rcases (hr.rep (.rw 0 (.slice (some ⟨g, 0, none⟩) xs.length c) E size (xs.set i (spl (xs.getD i []) off (cl1 v))))).mem' o ho' with rfl | hm'
      · exact .inl ⟨_, (hr.rep (.rw 0 (.slice (some ⟨g, 0, none⟩) xs.length c) E size xs)).mem, hok⟩
      · exact .inl ⟨o, hm', hok⟩
theorem z2_storeRowN {T E size i off m c : Nat} {A : Option Addr} {v : Value} {xs : List (List Value)} {F : HO → List HO} (hg : want ops f ⟨none, .store T x y, ty, ps, af, gd⟩ = true)
    (hx : fev f x = .pointer (some (ea A size i off))) (hy : Is (fev f y) v) (h1 : ones (cl1 v) = true) (hs : (P.info? T).map (·.size) = some (cl1 v).length) (hp : 0 < (cl1 v).length) (hr : RepF h (.rw 0 (.slice A m c) E size xs) F) (hi : i < xs.length) (ho : off + (cl1 v).length ≤ size)
    (k : PV P ro ops Q w0 M (F (.rw 0 (.slice A m c) E size (xs.set i (spl (xs.getD i []) off (cl1 v))))) prest D f) : PV P ro ops Q w0 M h ((2, ⟨none, .store T x y, ty, ps, af, gd⟩) :: prest) D f :=
  PV.step2 fun w S => by
    obtain ⟨w', hrun, S', st⟩ := storeRowN_run (P := P) (f := f) (ty := ty) (ps := ps) (af := af) (gd := gd) S hx hy h1 hs hp hr hi ho
    exact beh_skip hg hrun ⟨_, S', st, k⟩
theorem x_storeRowN {T E size i off m c : Nat} {A : Option Addr} {v : Value} {xs : List (List Value)} {F : HO → List HO} (S : Sat w0 M h w) (hg : want ops f ⟨none, .store T x y, ty, ps, af, gd⟩ = true)
    (hx : fev f x = .pointer (some (ea A size i off))) (hy : Is (fev f y) v) (h1 : ones (cl1 v) = true) (hs : (P.info? T).map (·.size) = some (cl1 v).length) (hp : 0 < (cl1 v).length) (hr : RepF h (.rw 0 (.slice A m c) E size xs) F) (hi : i < xs.length) (ho : off + (cl1 v).length ≤ size)
    (k : ∀ w', Sat w0 M (F (.rw 0 (.slice A m c) E size (xs.set i (spl (xs.getD i []) off (cl1 v))))) w' → WL P ro n ops Q rest D f w') :
    WL P ro n ops Q (⟨none, .store T x y, ty, ps, af, gd⟩ :: rest) D f w := by
  obtain ⟨w', hrun, S', _⟩ := storeRowN_run (P := P) (f := f) (ty := ty) (ps := ps) (af := af) (gd := gd) S hx hy h1 hs hp hr hi ho
  exact wl_runSkip hg rfl hrun (k w' S')
theorem z1_callrowE {g : FuncId} {cap as : List Value} {ts : Array TypeId} {V : Value → Value} {E size m : Nat} {xs : List (List Value)} (hg : want ops f ⟨some d, .call ⟨.value x, al.toArray, ts⟩, ty, ps, af, gd⟩ = true)
    (hx : fev f x = .func (.func g) #[] cap.toArray) (hE : Ent P g) (ha : NA (evs f al ++ cap) as) (hc : ∀ w, Sat w0 M h w → Calls P g as.toArray w (RetP (RowR V E size xs w))) (hm : xs.length = m)
    (k : ∀ A c, PV P ro ops Q w0 M (.rw 0 (.slice A m c) E size xs :: h) prest D (upd f d (V (.slice A m c)))) : PV P ro ops Q w0 M h ((1, ⟨some d, .call ⟨.value x, al.toArray, ts⟩, ty, ps, af, gd⟩) :: prest) D f := by
  subst hm
  exact z1_callrow hg hx hE ha hc k
theorem z2_callrowE {g : FuncId} {cap as : List Value} {ts : Array TypeId} {V : Value → Value} {E size m : Nat} {xs : List (List Value)} (hg : want ops f ⟨some d, .call ⟨.value x, al.toArray, ts⟩, ty, ps, af, gd⟩ = true)
    (hx : fev f x = .func (.func g) #[] cap.toArray) (hE : Ent P g) (ha : NA (evs f al ++ cap) as) (hc : ∀ w, Sat w0 M h w → Calls P g as.toArray w (RetP (RowR V E size xs w))) (hm : xs.length = m)
    (k : ∀ A c, PV P ro ops Q w0 M (.rw 0 (.slice A m c) E size xs :: h) prest D (upd f d (V (.slice A m c)))) : PV P ro ops Q w0 M h ((2, ⟨some d, .call ⟨.value x, al.toArray, ts⟩, ty, ps, af, gd⟩) :: prest) D f := by
  subst hm
  exact z2_callrow hg hx hE ha hc k
theorem Sat.rowCap {A : Option Addr} {b m c E size : Nat} {xs : List (List Value)} (S : Sat w0 M h w) (hh : Has h (.rw b (.slice A m c) E size xs)) : m ≤ c := by
  rcases (S.ok _ hh.mem).2.2.2 with ⟨hv, h0⟩ | ⟨g, cap, cur, hv, _, _, h7, _⟩
  · injection hv with h1 h2 h3; omega
  · injection hv with h1 h2 h3; omega
theorem r_buildSlice0 {T e size bytes : Nat} (hk : apk P T = some (e, size, bytes)) : (execOp (fev f) ⟨some d, .buildSlice T 0 #[], ty, ps, af, gd⟩).run P w = .ok (.value (.slice (some ⟨w.heap.size, 0, none⟩) 0 0)) (w.alloc (.cells ([] : List Value).toArray e)) := by
  obtain ⟨hu, i, zv, hi, hz, h1, h2, h3, h4⟩ := apk_parts hk
  simp [execOp, Instr.buildSlice, run_underlying hu, sizeOf, typeInfo, hi, Instr.fill, newRow, Sem.run_bind, Sem.run_pure, Result.andThen]
  rw [show Array.range 0 = (#[] : Array Nat) from by apply Array.ext <;> simp]
  simp
theorem z1_buildSlice0 {T e size bytes : Nat} (hg : want ops f ⟨some d, .buildSlice T 0 #[], ty, ps, af, gd⟩ = true) (hk : apk P T = some (e, size, bytes))
    (k : ∀ b, PV P ro ops Q w0 M (.cl b e [] :: h) prest D (upd f d (.slice (some ⟨b, 0, none⟩) 0 0))) : PV P ro ops Q w0 M h ((1, ⟨some d, .buildSlice T 0 #[], ty, ps, af, gd⟩) :: prest) D f :=
  (z_new (V := fun b => .slice (some ⟨b, 0, none⟩) 0 0) hg rfl (fun _ => r_buildSlice0 hk) k).1
theorem z2_buildSlice0 {T e size bytes : Nat} (hg : want ops f ⟨some d, .buildSlice T 0 #[], ty, ps, af, gd⟩ = true) (hk : apk P T = some (e, size, bytes))
    (k : ∀ b, PV P ro ops Q w0 M (.cl b e [] :: h) prest D (upd f d (.slice (some ⟨b, 0, none⟩) 0 0))) : PV P ro ops Q w0 M h ((2, ⟨some d, .buildSlice T 0 #[], ty, ps, af, gd⟩) :: prest) D f :=
  (z_new (V := fun b => .slice (some ⟨b, 0, none⟩) 0 0) hg rfl (fun _ => r_buildSlice0 hk) k).2
theorem appendAll_run {α : Type} {T e size bytes c : Nat} {A B : Option Addr} {l : List α} {en : α → List Value} (z : α) (hs : ∀ a, (en a).length = size) (R : Rd w B size l.length (fun i => en (l.getD i z))) (hsm : l.length < 1000000000) (hpos : 0 < l.length) (S : Sat w0 M h w)
    (hk : apk P T = some (e, size, bytes)) (hx : fev f x = .slice A 0 0) (hy : fev f y = .slice B l.length c) (hA : A = B ∨ ∃ b, A = some ⟨b, 0, none⟩) (hby : Nat.ble bytes 100000 = true) :
    ∃ g cap w', (execOp (fev f) ⟨some d, .call ⟨.builtin .append, #[x, y], #[T, T]⟩, ty, ps, af, gd⟩).run P w = .ok (.value (.slice (some ⟨g, 0, none⟩) l.length cap)) w' ∧
      Sat w0 M (.rw 0 (.slice (some ⟨g, 0, none⟩) l.length cap) e size (l.map en) :: h) w' ∧ St h (.rw 0 (.slice (some ⟨g, 0, none⟩) l.length cap) e size (l.map en) :: h) w w' ∧ l.length ≤ cap := by
  obtain ⟨hu, i, zv, hi, hz, h1, h2, h3, h4⟩ := apk_parts hk
  obtain ⟨a, rfl⟩ := Option.isSome_iff_exists.1 (R.some_ hpos)
  obtain ⟨a', rfl⟩ : ∃ a', A = some a' := by rcases hA with h | ⟨b, h⟩; exact ⟨_, h⟩; exact ⟨_, h⟩
  have hby' := Nat.le_of_ble_eq_true hby
  have hbound : (0 + l.length) * bytes ≤ 140737488355328 := Nat.le_trans (Nat.mul_le_mul (show 0 + l.length ≤ 1000000000 by omega) hby') (by decide)
  have hflen : ∀ l : List α, (l.flatMap en).length = l.length * size := by
    intro l
    induction l with
    | nil => simp
    | cons a l ih => rw [List.flatMap_cons, List.length_append, ih, hs, List.length_cons, Nat.succ_mul]; omega
  obtain ⟨v', w', hrun, hown, hgr⟩ := run_append_arg_grows (P := P) (w := w) T ty e i zv size bytes hu hi hz h1 h2 h3 h4 a' 0 0 [] (by simp) (by simp) a l.length c (l.flatMap en) (hflen l)
    (fun j u hju => by
      obtain ⟨i, o, hi, rfl, ho⟩ := flat_get z hs l j u hju
      have := R.at_ i o u hi ho
      exact this) (by omega) (by unfold maxLen; omega) hbound
  rw [Nat.zero_add, List.nil_append] at hown
  obtain ⟨m, hm⟩ : ∃ m, l.length = m + 1 := ⟨l.length - 1, by omega⟩
  have hown2 := hown
  rw [hm] at hown2
  obtain ⟨g, cap, rfl⟩ := ownsRow_succ hown2
  rw [← hm] at hown
  have hcap : l.length ≤ cap ∧ w.heap.size ≤ g := by
    rcases hown.2 with ⟨h5, _⟩ | ⟨g', cap', cur, h5, h6, _, h7, _⟩
    · simp at h5
    · simp only [Value.slice.injEq, Option.some.injEq, Addr.mk.injEq, and_true, true_and] at h5
      obtain ⟨rfl, rfl⟩ := h5
      exact ⟨h7, h6⟩
  have hexec : (execOp (fev f) ⟨some d, .call ⟨.builtin .append, #[x, y], #[T, T]⟩, ty, ps, af, gd⟩).run P w = .ok (.value (.slice (some ⟨g, 0, none⟩) l.length cap)) w' := by
    rw [← hm] at hrun
    simp [execOp, resolve, invoke, builtin, hx, hy, hrun, Result.andThen, Sem.run_bind, Sem.run_pure]
  have hK : Keeps [] w w' := ⟨hgr.os, hgr.tape, hgr.output, hgr.size, fun k hk _ => hgr.block k hk (by simp)⟩
  have ho : w'.ownsRow w.heap.size e size (.slice (some ⟨g, 0, none⟩) (l.map en).length cap) (l.map en).length (l.map en).flatten := by
    rw [List.length_map, ← List.flatMap_def]; exact hown
  have hlen : ∀ c ∈ l.map en, c.length = size := fun c' hc' => by
    obtain ⟨b, _, rfl⟩ := List.mem_map.1 hc'
    exact hs b
  have hS := S.row hK ho hlen
  have hT := St.row h hK ho
  rw [List.length_map] at hS hT
  exact ⟨g, cap, w', hexec, hS, hT, hcap.1⟩
theorem z1_appendAll {α : Type} {T e size bytes c : Nat} {A B : Option Addr} {l : List α} {en : α → List Value} (z : α) (hs : ∀ a, (en a).length = size) (R : ∀ w, Sat w0 M h w → Rd w B size l.length (fun i => en (l.getD i z))) (hsm : l.length < 1000000000) (hpos : 0 < l.length)
    (hg : want ops f ⟨some d, .call ⟨.builtin .append, #[x, y], #[T, T]⟩, ty, ps, af, gd⟩ = true) (hk : apk P T = some (e, size, bytes)) (hx : fev f x = .slice A 0 0) (hy : fev f y = .slice B l.length c) (hA : A = B ∨ ∃ b, A = some ⟨b, 0, none⟩) (hby : Nat.ble bytes 100000 = true)
    (kk : ∀ g cap, l.length ≤ cap → PV P ro ops Q w0 M (.rw 0 (.slice (some ⟨g, 0, none⟩) l.length cap) e size (l.map en) :: h) prest D (upd f d (.slice (some ⟨g, 0, none⟩) l.length cap))) :
    PV P ro ops Q w0 M h ((1, ⟨some d, .call ⟨.builtin .append, #[x, y], #[T, T]⟩, ty, ps, af, gd⟩) :: prest) D f :=
  PV.step1 fun w S => by
    obtain ⟨g, cap, w', hrun, S', st, hc⟩ := appendAll_run (P := P) (f := f) (d := d) (ty := ty) (ps := ps) (af := af) (gd := gd) z hs (R w S) hsm hpos S hk hx hy hA hby
    exact beh_run hg hrun ⟨_, S', st, ⟨[_], List.Perm.refl _⟩, kk g cap hc⟩
theorem z2_appendAll {α : Type} {T e size bytes c : Nat} {A B : Option Addr} {l : List α} {en : α → List Value} (z : α) (hs : ∀ a, (en a).length = size) (R : ∀ w, Sat w0 M h w → Rd w B size l.length (fun i => en (l.getD i z))) (hsm : l.length < 1000000000) (hpos : 0 < l.length)
    (hg : want ops f ⟨some d, .call ⟨.builtin .append, #[x, y], #[T, T]⟩, ty, ps, af, gd⟩ = true) (hk : apk P T = some (e, size, bytes)) (hx : fev f x = .slice A 0 0) (hy : fev f y = .slice B l.length c) (hA : A = B ∨ ∃ b, A = some ⟨b, 0, none⟩) (hby : Nat.ble bytes 100000 = true)
    (kk : ∀ g cap, l.length ≤ cap → PV P ro ops Q w0 M (.rw 0 (.slice (some ⟨g, 0, none⟩) l.length cap) e size (l.map en) :: h) prest D (upd f d (.slice (some ⟨g, 0, none⟩) l.length cap))) :
    PV P ro ops Q w0 M h ((2, ⟨some d, .call ⟨.builtin .append, #[x, y], #[T, T]⟩, ty, ps, af, gd⟩) :: prest) D f :=
  PV.step2 fun w S => by
    obtain ⟨g, cap, w', hrun, S', st, hc⟩ := appendAll_run (P := P) (f := f) (d := d) (ty := ty) (ps := ps) (af := af) (gd := gd) z hs (R w S) hsm hpos S hk hx hy hA hby
    exact beh_run hg hrun ⟨_, S', st, kk g cap hc⟩
theorem x_appendAllB {α : Type} {T e size bytes c : Nat} {A B : Option Addr} {l : List α} {en : α → List Value} (z : α) (hs : ∀ a, (en a).length = size) (R : Rd w B size l.length (fun i => en (l.getD i z))) (hsm : l.length < 1000000000) (hpos : 0 < l.length) (S : Sat w0 M h w)
    (hg : want ops f ⟨some d, .call ⟨.builtin .append, #[x, y], #[T, T]⟩, ty, ps, af, gd⟩ = true) (hdn : Nat.blt d n = true) (hk : apk P T = some (e, size, bytes)) (hx : fev f x = .slice A 0 0) (hy : fev f y = .slice B l.length c) (hA : A = B ∨ ∃ b, A = some ⟨b, 0, none⟩) (hby : Nat.ble bytes 100000 = true)
    (kk : ∀ g cap w', l.length ≤ cap → Sat w0 M (.rw 0 (.slice (some ⟨g, 0, none⟩) l.length cap) e size (l.map en) :: h) w' → WL P ro n ops Q rest D (upd f d (.slice (some ⟨g, 0, none⟩) l.length cap)) w') :
    WL P ro n ops Q (⟨some d, .call ⟨.builtin .append, #[x, y], #[T, T]⟩, ty, ps, af, gd⟩ :: rest) D f w := by
  obtain ⟨g, cap, w', hrun, S', _, hc⟩ := appendAll_run (P := P) (f := f) (d := d) (ty := ty) (ps := ps) (af := af) (gd := gd) z hs R hsm hpos S hk hx hy hA hby
  exact wl_run hg hdn hrun (kk g cap w' hc S')
end
end Go.Proofs.Ytfkcihcbmlcajaa
