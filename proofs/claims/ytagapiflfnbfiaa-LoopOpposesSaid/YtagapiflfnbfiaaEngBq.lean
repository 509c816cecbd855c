/- Appends of which is known whether they grow; calls that change what is known, the order drawn; what was there, seen by a call; maps of few keys. No statement of the seat is proved here. -/
import Derived.Test.YtagapiflfnbfiaaEngAq
namespace Go.Proofs.Ytagapiflfnbfiaa
set_option linter.unusedVariables false
set_option linter.unusedSimpArgs false
open Go Go.RowKit
open Go.Maps (Keyed)
open Go.WideElems (Fit rg)
section
variable {P : Program} {ro : Option Nat} {n : Nat} {Q : Post} {D : List Deferred} {f : Fm} {w w0 w' : World} {M : List Nat} {h : List HO}
variable {ops : Array Oper} {rest : List Oper} {prest : List (Nat × Oper)} {d ty : Nat} {ps : String} {af : Array Edge} {gd : Option (Nat × Bool)} {x y z : Operand} {al : List Operand}
theorem appendRoom_run {T e : TypeId} {size bytes k c b g : Nat} {xs : List (List Value)} {cs : List Value} {F : HO → List HO} (S : Sat w0 M h w) (hk : apk P T = some (e, size, bytes)) (hx : fev f x = .slice (some ⟨g, 0, none⟩) k c) (hy : fev f y = .slice (some ⟨b, 0, none⟩) 1 1)
    (hr : RepF h (.rw 0 (.slice (some ⟨g, 0, none⟩) k c) e size xs) F) (hh : Has h (.cl b e cs)) (hl : Nat.beq cs.length size = true) (ho : ones cs = true) (hby : Nat.ble bytes 100000 = true) (hsm : xs.length < 1000000000) (hroom : k < c) :
    ∃ w', (execOp (fev f) ⟨some d, .call ⟨.builtin .append, #[x, y], #[T, T]⟩, ty, ps, af, gd⟩).run P w = .ok (.value (.slice (some ⟨g, 0, none⟩) (xs.length + 1) c)) w' ∧
      Sat w0 M (F (.rw 0 (.slice (some ⟨g, 0, none⟩) (xs.length + 1) c) e size (xs ++ [cs]))) w' ∧ St h (F (.rw 0 (.slice (some ⟨g, 0, none⟩) (xs.length + 1) c) e size (xs ++ [cs]))) w w' := by
  obtain ⟨g', cap, w', hrun, S', st⟩ := append1_run (P := P) (f := f) (d := d) (ty := ty) (ps := ps) (af := af) (gd := gd) S hk hx hy hr hh hl ho hby hsm
  obtain ⟨h1, h2, h3⟩ := S.ok _ (hr.rep (.rw 0 (.slice (some ⟨g, 0, none⟩) k c) e size xs)).mem
  have hcl := S.cl hh
  have hl' := Nat.eq_of_beq_eq_true hl
  rcases h3.2 with ⟨hv, _⟩ | ⟨g2, cap2, cur, hv, hb2, hg2, hn2, hm2, hs2, ht2⟩
  · cases hv
  · simp only [Value.slice.injEq, Option.some.injEq, Addr.mk.injEq, and_true] at hv
    obtain ⟨rfl, hkx, rfl⟩ := hv
    obtain ⟨hu, i, zv, hi, hz, hsize, hbyt, hzs, hsz⟩ := apk_parts hk
    have hfit : k * i.size + cs.length ≤ cur.size := by
      rw [hsize, hl', hs2, ← Nat.succ_mul]
      exact Nat.mul_le_mul_right _ hroom
    have hrun2 := run_append_room (P := P) (w := w) T ty e i hu hi g k c cur hg2 ⟨b, 0, none⟩ 1 1 cs (by rw [hsize, hl', Nat.one_mul]) (fun j u hu => by rw [add_at, cell_of_row w b _ _ _ _ hcl]; simpa using hu) (ones_mem ho) hroom hfit
    have hexec : (execOp (fev f) ⟨some d, .call ⟨.builtin .append, #[x, y], #[T, T]⟩, ty, ps, af, gd⟩).run P w = .ok (.value (.slice (some ⟨g, 0, none⟩) (k + 1) c)) (w.setRow g (cur.toList.take (k * i.size) ++ cs ++ cur.toList.drop (k * i.size + cs.length)).toArray) := by
      simp [execOp, resolve, invoke, builtin, hx, hy, hrun2, Result.andThen, Sem.run_bind, Sem.run_pure]
    rw [hexec] at hrun
    injection hrun with e1 e2
    injection e1 with e1
    injection e1 with e3 e4 e5
    injection e3 with e3
    injection e3 with e3
    subst e3; subst e5
    exact ⟨w', by rw [hexec, e2, e4], S', st⟩
theorem appendNew_run {T e : TypeId} {size bytes k c b : Nat} {A : Option Addr} {xs : List (List Value)} {cs : List Value} (S : Sat w0 M h w) (hk : apk P T = some (e, size, bytes)) (hx : fev f x = .slice A k c) (hy : fev f y = .slice (some ⟨b, 0, none⟩) 1 1)
    (hr : Has h (.rw 0 (.slice A k c) e size xs)) (hh : Has h (.cl b e cs)) (hl : Nat.beq cs.length size = true) (ho : ones cs = true) (hby : Nat.ble bytes 100000 = true) (hsm : xs.length < 1000000000) (hroom : ¬ k < c) :
    ∃ g cap w', (execOp (fev f) ⟨some d, .call ⟨.builtin .append, #[x, y], #[T, T]⟩, ty, ps, af, gd⟩).run P w = .ok (.value (.slice (some ⟨g, 0, none⟩) (xs.length + 1) cap)) w' ∧
      Sat w0 M (.rw 0 (.slice (some ⟨g, 0, none⟩) (xs.length + 1) cap) e size (xs ++ [cs]) :: h) w' ∧ St h (.rw 0 (.slice (some ⟨g, 0, none⟩) (xs.length + 1) cap) e size (xs ++ [cs]) :: h) w w' := by
  obtain ⟨h1, h2, h3⟩ := S.ok _ hr.mem
  have hcl := S.cl hh
  have hl' := Nat.eq_of_beq_eq_true hl
  have hby' := Nat.le_of_ble_eq_true hby
  have hbound : (xs.length + 1) * bytes ≤ 140737488355328 := Nat.le_trans (Nat.mul_le_mul (show xs.length + 1 ≤ 1000000000 by omega) hby') (by decide)
  have hnews : ∀ j u, cs[j]? = some u → w.cell? ((⟨b, 0, none⟩ : Addr).add j) = some u := fun j u hu => by rw [add_at, cell_of_row w b _ _ _ _ hcl]; simpa using hu
  have hlen : ∀ r ∈ xs ++ [cs], r.length = size := fun r hr' => by
    rcases List.mem_append.1 hr' with h4 | h4
    · exact h2 r h4
    · rcases List.mem_cons.1 h4 with rfl | h4
      · exact hl'
      · cases h4
  have hlx : (xs ++ [cs]).length = xs.length + 1 := by simp
  have hfl : (xs ++ [cs]).flatten = xs.flatten ++ cs := by simp
  obtain ⟨v', w', hrun, hown, hgr⟩ : ∃ v' w', (execOp (fev f) ⟨some d, .call ⟨.builtin .append, #[x, y], #[T, T]⟩, ty, ps, af, gd⟩).run P w = .ok (.value v') w' ∧ w'.ownsRow w.heap.size e size v' (xs.length + 1) (xs.flatten ++ cs) ∧ w.grownBy w' none := by
    rcases h3.2 with ⟨hv, hn0⟩ | ⟨g2, cap2, cur, hv, hb2, hg2, hn2, hm2, hs2, ht2⟩
    · injection hv with a1 a2 a3
      subst a1; subst a3
      have hx0 : xs = [] := List.length_eq_zero_iff.1 hn0
      subst hx0
      obtain ⟨v', w', hrun, hown, hgr, _⟩ := run_append (P := P) (f := f) (d := d) (ty := ty) (ps := ps) (af := af) (gd := gd) (m := 1) (c := 1) (ad := ⟨b, 0, none⟩) (news := cs) (base := w.heap.size) (v := .slice none 0 0) (k := 0) (xs := []) hk (by rw [hx, a2]) hy (World.ownsRow_nil w _ e size) (by omega) hnews (ones_mem ho) (by unfold maxLen; omega) (by simpa using hbound) (Nat.le_refl _)
      exact ⟨v', w', hrun, by simpa using hown, hgr⟩
    · injection hv with a1 a2 a3
      subst a1; subst a3
      obtain ⟨hu, i, zv, hi, hz, hsize, hbyt, hzs, hsz⟩ := apk_parts hk
      obtain ⟨v', w', hrun, hown, hgr⟩ := run_append_arg_grows (P := P) (w := w) T ty e i zv size bytes hu hi hz hsize hbyt hzs hsz ⟨g2, 0, none⟩ xs.length c xs.flatten h3.1 (fun j u hj => h3.cells (g := g2) rfl j u hj) ⟨b, 0, none⟩ 1 1 cs (by omega) hnews (by omega) (by unfold maxLen; omega) hbound
      refine ⟨v', w', ?_, hown, hgr⟩
      simp [execOp, resolve, invoke, builtin, hx, hy, a2, hrun, Result.andThen, Sem.run_bind, Sem.run_pure]
  obtain ⟨g, cap, rfl⟩ := ownsRow_succ hown
  have hK : Keeps [] w w' := ⟨hgr.os, hgr.tape, hgr.output, hgr.size, fun q hq _ => hgr.block q hq (by simp)⟩
  rw [← hfl] at hown
  rw [← hlx] at hown
  have hS := S.row hK hown hlen
  have hT := St.row h hK hown
  rw [hlx] at hS hT
  exact ⟨g, cap, w', hrun, hS, hT⟩
theorem z2_appendRoom {T e : TypeId} {size bytes k c b g : Nat} {xs : List (List Value)} {cs : List Value} {F : HO → List HO} (hroom : k < c)
    (hg : want ops f ⟨some d, .call ⟨.builtin .append, #[x, y], #[T, T]⟩, ty, ps, af, gd⟩ = true) (hk : apk P T = some (e, size, bytes)) (hx : fev f x = .slice (some ⟨g, 0, none⟩) k c) (hy : fev f y = .slice (some ⟨b, 0, none⟩) 1 1)
    (hr : RepF h (.rw 0 (.slice (some ⟨g, 0, none⟩) k c) e size xs) F) (hh : Has h (.cl b e cs)) (hl : Nat.beq cs.length size = true) (ho : ones cs = true) (hby : Nat.ble bytes 100000 = true) (hsm : xs.length < 1000000000)
    (kk : PV P ro ops Q w0 M (F (.rw 0 (.slice (some ⟨g, 0, none⟩) (xs.length + 1) c) e size (xs ++ [cs]))) prest D (upd f d (.slice (some ⟨g, 0, none⟩) (xs.length + 1) c))) :
    PV P ro ops Q w0 M h ((2, ⟨some d, .call ⟨.builtin .append, #[x, y], #[T, T]⟩, ty, ps, af, gd⟩) :: prest) D f :=
  PV.step2 fun w S => by
    obtain ⟨w', hrun, S', st⟩ := appendRoom_run (P := P) (f := f) (d := d) (ty := ty) (ps := ps) (af := af) (gd := gd) S hk hx hy hr hh hl ho hby hsm hroom
    exact beh_run hg hrun ⟨_, S', st, kk⟩
theorem z2_appendNew {T e : TypeId} {size bytes k c b : Nat} {A : Option Addr} {xs : List (List Value)} {cs : List Value} (hroom : ¬ k < c)
    (hg : want ops f ⟨some d, .call ⟨.builtin .append, #[x, y], #[T, T]⟩, ty, ps, af, gd⟩ = true) (hk : apk P T = some (e, size, bytes)) (hx : fev f x = .slice A k c) (hy : fev f y = .slice (some ⟨b, 0, none⟩) 1 1)
    (hr : Has h (.rw 0 (.slice A k c) e size xs)) (hh : Has h (.cl b e cs)) (hl : Nat.beq cs.length size = true) (ho : ones cs = true) (hby : Nat.ble bytes 100000 = true) (hsm : xs.length < 1000000000)
    (kk : ∀ g cap, PV P ro ops Q w0 M (.rw 0 (.slice (some ⟨g, 0, none⟩) (xs.length + 1) cap) e size (xs ++ [cs]) :: h) prest D (upd f d (.slice (some ⟨g, 0, none⟩) (xs.length + 1) cap))) :
    PV P ro ops Q w0 M h ((2, ⟨some d, .call ⟨.builtin .append, #[x, y], #[T, T]⟩, ty, ps, af, gd⟩) :: prest) D f :=
  PV.step2 fun w S => by
    obtain ⟨g, cap, w', hrun, S', st⟩ := appendNew_run (P := P) (f := f) (d := d) (ty := ty) (ps := ps) (af := af) (gd := gd) S hk hx hy hr hh hl ho hby hsm hroom
    exact beh_run hg hrun ⟨_, S', st, kk g cap⟩
/-- a call that changes what is known, the order drawn -/
theorem z2_callC {α : Type} {g : FuncId} {cap args : List Value} {ts : Array TypeId} {hc fr : List HO} {hc' : α → List HO} {V : α → Value} (hg : want ops f ⟨some d, .call ⟨.value x, al.toArray, ts⟩, ty, ps, af, gd⟩ = true)
    (hx : fev f x = .func (.func g) #[] cap.toArray) (hE : Ent P g) (ha : NA (evs f al ++ cap) args) (hp : h.Perm (hc ++ fr))
    (hC : ∀ w, Sat w0 M (hc ++ fr) w → Sat w (blks hc) hc w → Calls P g args.toArray w (RetP fun v w' => ∃ a, v = V a ∧ Sat w (blks hc) (hc' a) w'))
    (k : ∀ a, PV P ro ops Q w0 M (hc' a ++ fr) prest D (upd f d (V a))) : PV P ro ops Q w0 M h ((2, ⟨some d, .call ⟨.value x, al.toArray, ts⟩, ty, ps, af, gd⟩) :: prest) D f :=
  z2_call (R := fun w v w' => ∃ a, v = V a ∧ Sat w (blks hc) (hc' a) w') hg hx hE ha (fun w S => hC w (S.perm' hp) (S.perm' hp).part) (by
    rintro w v w' S ⟨a, rfl, S'⟩
    have S1 := S.perm' hp
    refine ⟨hc' a ++ fr, S1.merge S', ⟨S'.keeps.os, S'.keeps.tape, S'.keeps.output, S'.keeps.size, fun q hq hn => S'.keeps.block q hq (fun hb => ?_), fun o ho q hok => ?_⟩, k a⟩
    · obtain ⟨o2, h2, h3⟩ := blks_mem hb
      exact hn o2 (hp.symm.subset (List.mem_append_left _ h2)) h3
    · rcases List.mem_append.1 ho with ho | ho
      · rcases (S'.ok o ho).mine hok with h1 | h1
        · exact .inr h1
        · obtain ⟨o2, h2, h3⟩ := blks_mem h1
          exact .inl ⟨o2, hp.symm.subset (List.mem_append_left _ h2), h3⟩
      · exact .inl ⟨o, hp.symm.subset (List.mem_append_right _ ho), hok⟩)
/-! ### what was there, seen by a call that changes hc -/
theorem Sat.notBlk {hc fr : List HO} (S : Sat w0 M (hc ++ fr) w) {b : Nat} (hlt : b < w0.heap.size) (hb : b ∉ M) : b ∉ blks hc := fun hin => by
  have h1 : Sat w0 M hc w := S.drop hc (List.sublist_append_left _ _)
  rcases (h1.blks_mine hin).1 with h2 | h2
  · omega
  · exact hb h2
theorem OldB.next {hc fr : List HO} {b : Nat} {T : TypeId} {cs : List Value} (O : OldB w0 M b T cs) (S : Sat w0 M (hc ++ fr) w) : OldB w (blks hc) b T cs :=
  ⟨O.now S, S.notBlk (Array.getElem?_eq_some_iff.1 O.at_).1 O.out⟩
theorem OldP.next {hc fr : List HO} {b : Nat} {φ : Option Obj → Prop} (O : OldP w0 M b φ) (S : Sat w0 M (hc ++ fr) w) : OldP w (blks hc) b φ :=
  ⟨(O.keeps S.keeps).lt, O.now S, S.notBlk O.lt O.out⟩
theorem Rd.ltBlk {A : Option Addr} {size m : Nat} {cell : Nat → List Value} (R : Rd w A size m cell) (hne : ∀ i, i < m → cell i ≠ []) (hm : 0 < m) : ∀ a, A = some a → a.block < w.heap.size := fun a ha => by
  subst ha
  obtain ⟨u, hu⟩ : ∃ u, (cell 0)[0]? = some u := by
    cases hc : cell 0 with
    | nil => exact absurd hc (hne 0 hm)
    | cons u t => exact ⟨u, rfl⟩
  have h1 := R.at_ 0 0 u hm hu
  have h2 := World.block_lt_of_cell? w _ h1
  unfold ea at h2
  rwa [block_add] at h2
theorem Old.next {hc fr : List HO} {A : Option Addr} {size m : Nat} {cell : Nat → List Value} (O : Old w0 M A size m cell) (hne : ∀ i, i < m → cell i ≠ []) (S : Sat w0 M (hc ++ fr) w) : Old w (blks hc) A size m cell :=
  ⟨O.now S, fun hm a ha => S.notBlk (O.rd.ltBlk hne hm a ha) (O.out hm a ha)⟩
end
/-! ### maps of few keys -/
theorem MapV.shrink {P : Program} {k : TypeId} {n : Nat} {m : Lit → Option Value} {o : Option Obj} (K : Keyed P k) (H : MapV P k n m o) {Ks : List Lit} (hK : ∀ kl, (m kl).isSome = true → kl ∈ Ks) : MapV P k Ks.length m o := by
  obtain ⟨es, clock, hb, F, hs, hat⟩ := H
  refine ⟨es, clock, hb, F, ?_, hat⟩
  have hnd : ((es.toList.map (rg P k rawE)).map (·.1)).Nodup := by
    rw [List.nodup_iff_pairwise_ne, List.pairwise_map]
    exact Maps.fit_apart K F
  have hsub : ∀ kl ∈ (es.toList.map (rg P k rawE)).map (·.1), kl ∈ Ks := fun kl hkl => by
    obtain ⟨p, hp, rfl⟩ := List.mem_map.1 hkl
    obtain ⟨v, hv⟩ := Maps.fit_keys F p hp
    have hkl := K.key hv
    refine hK _ ?_
    cases hm : m p.1 with
    | some u => rfl
    | none =>
      exfalso
      have h1 : Maps.has (DataW.map ((es.toList.map (rg P k rawE)).foldr DataW.insert [])) p.1 = false := Maps.has_false_of_atKey (fun z => by rw [hat _ hkl, hm]; rfl)
      rw [Maps.has_eq, List.any_eq_false] at h1
      exact h1 p ((WideShapes.sorted_perm _).symm.subset hp) (WideAt.sameKey_self hkl)
  have := hnd.length_le_of_subset hsub
  simpa using this
end Go.Proofs.Ytagapiflfnbfiaa
