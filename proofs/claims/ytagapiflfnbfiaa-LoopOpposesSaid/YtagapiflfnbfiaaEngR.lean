/- Ranges over functions: an iterator's contract, a call of yield, the loop over it. No statement of the seat is proved here. -/
import Derived.Test.YtagapiflfnbfiaaEngO
import Derived.RangeFuncNested
import Derived.RangeFuncBound
namespace Go.Proofs.Ytagapiflfnbfiaa
set_option linter.unusedVariables false
set_option linter.unusedSimpArgs false
open Go Go.RowKit
theorem Apart.symm' {a b : HO} (h : Apart a b) : Apart b a := fun g hb ha => h g ha hb
section
variable {P : Program} {ro : Option Nat} {n : Nat} {Q : Post} {D : List Deferred} {f : Fm} {w w0 w' : World} {M : List Nat} {h : List HO}
variable {ops : Array Oper} {rest : List Oper} {d ty : Nat} {ps : String} {af : Array Edge} {gd : Option (Nat × Bool)} {al : List Operand} {x : Operand}
theorem Sat.perm' {h' : List HO} (S : Sat w0 M h w) (hp : h.Perm h') : Sat w0 M h' w :=
  ⟨S.keeps, fun o ho => S.ok o (hp.symm.subset ho), (hp.pairwise_iff (fun {_ _} hab => Apart.symm' hab)).1 S.apart⟩
theorem Sat.putPr {h' : List HO} {b : Nat} {φ φ' : Option Obj → Prop} {o' : Obj} (S : Sat w0 M h w) (r : Rep h (.pr b φ) (.pr b φ') h') (ho : φ' (some o')) : Sat w0 M h' (w.putObj b o') := by
  have hok := S.ok _ r.mem
  refine S.rep r (grownBy_putObj' w b o') ⟨?_, ?_, hok.2.2⟩ (fun b' hb => .inl hb)
  · rw [World.putObj_size]; exact hok.1
  · rw [World.putObj_heap_same hok.1]; exact ho
/-- a block that holds just this -/
abbrev Just (o : Obj) : Option Obj → Prop := (· = some o)
/-- a call of yield, in the world W -/
def YieldR (P : Program) (l : Nat) (args : List Value) (W : World) (R : Bool → World → Prop) : Prop :=
  ∃ fn tmps assign body, (Instr.yield l args.toArray).run P W = .ok (.round l fn tmps assign body) W ∧ RoundIn Fence.wide 0 P l fn tmps assign body W (fun e W' => ∃ b, e = .returned (.bool b) ∧ R b W')
/-- the iterator gf, with lb captured, hands over xs; 'hi' is what it needs of the caller's memory -/
def Iter {α : Type} (P : Program) (gf : FuncId) (lb : List Value) (encs : α → List Value) (xs : List α) (w0 : World) (M : List Nat) (hi : List HO) : Prop :=
  ∀ (l : Nat) (J Jx : List α → List HO → Prop),
    (∀ pre x rest fr h W, xs = pre ++ x :: rest → J pre h → Sat w0 M (fr ++ h) W → YieldR P l (encs x) W (fun b W' => ∃ h', Sat w0 M (fr ++ h') W' ∧ ((b = true ∧ J (pre ++ [x]) h') ∨ (b = false ∧ Jx (pre ++ [x]) h')))) →
    ∀ h W, J [] h → Sat w0 M (hi ++ h) W →
    Calls P gf (([.func (.yield l) #[] #[]] : List Value) ++ lb).toArray W (RetP fun _ W' => ∃ h', Sat w0 M h' W' ∧ (J xs h' ∨ ∃ pre, pre <+: xs ∧ Jx pre h'))
theorem run_yieldv {o : Oper} {l : Nat} {ts : Array TypeId} {fn : FuncId} {tmps : Array Value} {assign body : Code} (hop : o.op = .call { callee := .value x, args := al.toArray, argTypes := ts })
    (hx : fev f x = .func (.yield l) #[] #[]) (hy : (Instr.yield l (evs f al).toArray).run P w = .ok (.round l fn tmps assign body) w) : (execOp (fev f) o).run P w = .ok (.round l fn tmps assign body) w := by
  unfold execOp
  rw [hop]
  simp only [resolve, hx, Deferred.ofValue, evs_eq, Sem.run_bind, Sem.run_pure, Result.andThen_ok, invoke]
  simpa using hy
theorem x_yield {l : Nat} {as : List Value} {ts : Array TypeId} {R : Bool → World → Prop} (hg : want ops f ⟨some d, .call ⟨.value x, al.toArray, ts⟩, ty, ps, af, gd⟩ = true) (hdn : Nat.blt d n = true)
    (hx : fev f x = .func (.yield l) #[] #[]) (ha : NA (evs f al) as) (hy : YieldR P l as w R)
    (k : ∀ b w', R b w' → WL P ro n ops Q rest D (upd f d (.bool b)) w') : WL P ro n ops Q (⟨some d, .call ⟨.value x, al.toArray, ts⟩, ty, ps, af, gd⟩ :: rest) D f w := fun a hfa => by
  obtain ⟨fn, tmps, assign, body, hrun, hR⟩ := hy
  have hw : Region.wanted ⟨some d, .call ⟨.value x, al.toArray, ts⟩, ty, ps, af, gd⟩ (yielded ops a.tmps) = true := by rw [hfa.yielded]; exact hg
  rw [← ha.eq] at hrun
  simp only [wpListIn, hw, if_true, Oper.wpIn]
  refine ⟨fun _ _ => trivial, ?_⟩
  rw [hfa.eval, semAt_exec (run_yieldv rfl hx hrun) (by intro d; simp)]
  refine ⟨fun h => by simp [FW] at h, ?_⟩
  have hR2 : RoundIn (FW ro) (0 - 1) P l fn tmps assign body w _ := hR
  refine hR2.mono ?_
  rintro e w' ⟨b, rfl, hb⟩
  exact k b w' hb _ (hfa.put _ hdn)
theorem q_ret0 {fn : Func} {R : Value → World → Prop} (hf : fn.results = #[]) (hR : R (.tuple #[]) w) : retQ P fn R .ret [] f w := q_ret _ (run_results (rs := []) (vs := []) (h := []) (M := []) hf .nil (Sat.start [] w)) hR
theorem q_end0 {fn : Func} {R : Value → World → Prop} (hf : fn.results = #[]) (hR : R (.tuple #[]) w) : retQ P fn R .normal [] f w := q_end _ (run_results (rs := []) (vs := []) (h := []) (M := []) hf .nil (Sat.start [] w)) hR
/-- frames with the loop's variables set -/
def updp (f : Fm) : List Nat → List Value → Fm
  | p :: ps, v :: vs => updp (upd f p v) ps vs
  | _, _ => f
theorem Fr.zip {D' : List Deferred} : ∀ (ps : List Nat) (vs : List Value) (t : Array Value) (f : Fm), Fr n D' { tmps := t, defers := D' } f → ps.all (Nat.blt · n) = true →
    Fr n D' { tmps := (ps.zip vs).foldl (fun t (p, v) => t.setIfInBounds p v) t, defers := D' } (updp f ps vs)
  | [], _, _, _, h, _ => by simpa [updp] using h
  | p :: ps, [], _, _, h, _ => by simpa [updp] using h
  | p :: ps, v :: vs, t, f, h, hp => by
    simp only [List.all_cons, Bool.and_eq_true] at hp
    simp only [List.zip_cons_cons, List.foldl_cons, updp]
    exact Fr.zip ps vs _ _ (h.put v hp.1) hp.2
/-- how a round's body may be left -/
def roundQ {α : Type} (w0 : World) (M : List Nat) (fr : List HO) (I : List α → List HO → Prop) (Ix : Code → List α → List HO → Prop) (xs : List α) : Post
  | .normal, _, _, W => ∃ h', I xs h' ∧ Sat w0 M (h' ++ fr) W
  | .ret, _, _, W => ∃ h', Ix .ret xs h' ∧ Sat w0 M (h' ++ fr) W
  | .exit id, _, _, W => ∃ h', Ix (.exit id) xs h' ∧ Sat w0 M (h' ++ fr) W
  | .goto t, _, _, W => ∃ h', Ix (.goto t) xs h' ∧ Sat w0 M (h' ++ fr) W
  | _, _, _, _ => False
theorem round_of {α : Type} {l : Nat} {r : Loop} {fn : FuncId} {f : Fm} {psl : List Nat} {assign body : Code} {vs : List Value} {W : World} {x : α} {pre : List α} {I : List α → List HO → Prop} {Ix : Code → List α → List HO → Prop}
    {h1 fr : List HO} {J Jx : List α → List HO → Prop}
    (hJ : ∀ xs h', I xs h' → J xs (.pr l (Just (.loop { r with state := .ready, pending := none })) :: h')) (hJx : ∀ c xs h', Ix c xs h' → Jx xs (.pr l (Just (.loop { r with state := .done, pending := some c })) :: h'))
    (hrd : r.state = .ready) (hfn : r.fn = fn) (hps : r.params = psl.toArray) (has : r.assign = assign) (hbd : r.body = body) (hpn : psl.all (Nat.blt · n) = true) (hvs : vs.length = psl.length)
    (hf : Fr n D { tmps := r.tmps, defers := D } f)
    (hround : ∀ (fr : List HO) W, Sat w0 M (h1 ++ fr) W → CW P (some l) n assign (thenQ (fun D' f' W' => ∃ h2, Sat w0 M (h2 ++ fr) W' ∧ ∀ W2 fr', Sat w0 M (h2 ++ fr') W2 → CW P (some l) n body (roundQ w0 M fr' I Ix (pre ++ [x])) D' f' W2) (fun _ _ _ _ => False)) [] (updp f psl vs) W)
    (S : Sat w0 M (fr ++ (.pr l (Just (.loop r)) :: h1)) W) :
    YieldR P l vs W (fun b W' => ∃ h', Sat w0 M (fr ++ h') W' ∧ ((b = true ∧ J (pre ++ [x]) h') ∨ (b = false ∧ Jx (pre ++ [x]) h'))) := by
  subst hfn; subst has; subst hbd
  have hmem : (HO.pr l (Just (.loop r))) ∈ fr ++ (.pr l (Just (.loop r)) :: h1) := by simp
  have hl : W.heap[l]? = some (.loop r) := (S.ok _ hmem).2.1
  have hy := run_yield (P := P) (args := vs.toArray) hl (by rw [hps]; simpa using hvs)
  refine ⟨r.fn, _, r.assign, r.body, hy, ?_⟩
  have hp1 : (fr ++ (HO.pr l (Just (.loop r)) :: h1)).Perm (h1 ++ (.pr l (Just (.loop r)) :: fr)) := by
    refine (List.perm_append_comm).trans ?_
    exact (List.Perm.symm List.perm_middle)
  refine roundIn_of_wpIn (F := Fence.wide) (n := 0) trivial ?_
  have S1 := S.perm' hp1
  have hA := hround _ _ S1
  have hFr : Fr n [] { tmps := (r.params.zip vs.toArray).foldl (fun t (p, v) => t.setIfInBounds p v) r.tmps, defers := [] } (updp f psl vs) := by
    have := Fr.zip (D' := []) psl vs r.tmps f ⟨rfl, hf.size, hf.tmp⟩ hpn
    rw [hps]
    simpa using this
  refine wpIn_mono (hA _ hFr) ?_
  rintro e a1 W1 ⟨D1, f1, hf1, hQ⟩
  cases e with
  | normal =>
    obtain ⟨h2, S2, hb⟩ := hQ
    have hok2 : HO.ok w0 M W1 (.pr l (Just (.loop r))) := S2.ok _ (by simp)
    refine ⟨_, run_beginRound hok2.2.1 hrd, ?_⟩
    have S3 : Sat w0 M (h2 ++ (.pr l (Just (.loop { r with state := .busy })) :: fr)) (W1.putObj l (.loop { r with state := .busy })) := by
      have S2' := S2.perm' (List.perm_middle (l₁ := h2) (a := HO.pr l (Just (.loop r))) (l₂ := fr))
      exact (Sat.putPr (φ' := Just (.loop { r with state := .busy })) S2' .head rfl).perm' (List.Perm.symm List.perm_middle)
    refine wpIn_mono (hb _ _ S3 _ hf1) ?_
    have fin : ∀ (jump : Option Code) (h3 : List HO) (W3 : World), Sat w0 M (h3 ++ (.pr l (Just (.loop { r with state := .busy })) :: fr)) W3 →
        ∃ W4, (Instr.endRound l jump).run P W3 = .ok (.bool jump.isNone) W4 ∧ Sat w0 M (fr ++ (.pr l (Just (.loop { r with state := if jump.isNone then .ready else .done, pending := jump })) :: h3)) W4 := by
      intro jump h3 W3 S4
      have hok4 : HO.ok w0 M W3 (.pr l (Just (.loop { r with state := .busy }))) := S4.ok _ (by simp)
      refine ⟨_, run_endRound (P := P) jump hok4.2.1, ?_⟩
      have S4' := S4.perm' (List.perm_middle (l₁ := h3) (a := HO.pr l (Just (.loop { r with state := .busy }))) (l₂ := fr))
      refine (Sat.putPr (φ' := Just (.loop { r with state := if jump.isNone then .ready else .done, pending := jump })) S4' .head rfl).perm' ?_
      refine (List.Perm.cons _ List.perm_append_comm).trans ?_
      exact (List.Perm.symm List.perm_middle)
    rintro e2 a3 W3 ⟨D3, f3, _, hQ3⟩
    cases e2 with
    | normal =>
      obtain ⟨h3, hi3, S4⟩ := hQ3
      obtain ⟨W4, hr4, S5⟩ := fin none h3 W3 S4
      exact ⟨_, W4, hr4, true, rfl, _, S5, .inl ⟨rfl, hJ _ _ hi3⟩⟩
    | ret =>
      obtain ⟨h3, hi3, S4⟩ := hQ3
      obtain ⟨W4, hr4, S5⟩ := fin (some .ret) h3 W3 S4
      exact ⟨_, W4, hr4, false, rfl, _, S5, .inr ⟨rfl, hJx _ _ _ hi3⟩⟩
    | exit id =>
      obtain ⟨h3, hi3, S4⟩ := hQ3
      obtain ⟨W4, hr4, S5⟩ := fin (some (.exit id)) h3 W3 S4
      exact ⟨_, W4, hr4, false, rfl, _, S5, .inr ⟨rfl, hJx _ _ _ hi3⟩⟩
    | goto t =>
      obtain ⟨h3, hi3, S4⟩ := hQ3
      obtain ⟨W4, hr4, S5⟩ := fin (some (.goto t)) h3 W3 S4
      exact ⟨_, W4, hr4, false, rfl, _, S5, .inr ⟨rfl, hJx _ _ _ hi3⟩⟩
    | panic ch => exact hQ3.elim
    | outgrown => exact hQ3.elim
  | ret => exact hQ.elim
  | exit id => exact hQ.elim
  | goto l => exact hQ.elim
  | panic c => exact hQ.elim
  | outgrown => exact hQ.elim
def mark (D1 : Nat) : Deferred := { target := .collected D1, args := #[] }
theorem cw_range {α : Type} {g : Operand} {psl : List Nat} {assign body : Code} {encs : α → List Value} {gf : FuncId} {lb : List Value} {xs : List α} {hi h : List HO}
    (S : Sat w0 M (hi ++ h) w) (hg : fev f g = .func (.func gf) #[] lb.toArray) (hE : Ent P gf) (hps : ∀ x, (encs x).length = psl.length) (hpn : psl.all (Nat.blt · n) = true) (it : Iter P gf lb encs xs w0 M hi)
    (I : List α → List HO → Prop) (Ix : Code → List α → List HO → Prop) (h0 : I [] h)
    (hround : ∀ l pre x rest fr h1 W, xs = pre ++ x :: rest → I pre h1 → Sat w0 M (h1 ++ fr) W →
      CW P (some l) n assign (thenQ (fun D' f' W' => ∃ h2, Sat w0 M (h2 ++ fr) W' ∧ ∀ W2 fr', Sat w0 M (h2 ++ fr') W2 → CW P (some l) n body (roundQ w0 M fr' I Ix (pre ++ [x])) D' f' W2) (fun _ _ _ _ => False)) [] (updp f psl (encs x)) W)
    (hdone : ∀ D1 h' W, I xs h' → Sat w0 M (.pr D1 (Just (.deferred (some []))) :: h') W → Q .normal (mark D1 :: D) f W)
    (hstop : ∀ D1 c pre h' W, Ix c pre h' → pre <+: xs → Sat w0 M (.pr D1 (Just (.deferred (some []))) :: h') W → CW P none n c Q (mark D1 :: D) f W) :
    CW P none n (.rangeFunc g psl.toArray assign body) Q D f w := fun a ha => by
  refine wpIn_rangeFunc ?_
  intro fn hfn
  obtain ⟨rec, hrec⟩ : ∃ rec : LoopState → Option Code → Loop, rec = fun st pe => { state := st, pending := pe, fn, tmps := a.tmps, params := psl.toArray, assign, body, defers := w.heap.size } := ⟨_, rfl⟩
  have Sd : Sat w0 M (.pr w.heap.size (Just (.deferred (some []))) :: (hi ++ h)) (w.alloc (.deferred (some []))) :=
    S.add (World.grownBy_alloc w _ none) ⟨by simp, heap_alloc_new w _, .inl S.le⟩ (fun b hb => by injection hb with hb; omega)
  have Sl : Sat w0 M (.pr (w.heap.size + 1) (Just (.loop (rec .ready none))) :: .pr w.heap.size (Just (.deferred (some []))) :: (hi ++ h)) ((w.alloc (.deferred (some []))).alloc (.loop (rec .ready none))) :=
    Sd.add (World.grownBy_alloc _ _ none) ⟨by simp, by have := heap_alloc_new (w.alloc (.deferred (some []))) (.loop (rec .ready none)); rwa [World.size_alloc] at this, .inl (by have := S.le; omega)⟩ (fun b hb => by injection hb with hb; simp; omega)
  obtain ⟨W1, hW1⟩ : ∃ W1, (w.alloc (.deferred (some []))).alloc (.loop (rec .ready none)) = W1 := ⟨_, rfl⟩
  rw [hW1] at Sl
  refine ⟨w.heap.size + 1, [{ target := .collected w.heap.size, args := #[] }], W1, { target := .fn (.func gf) lb.toArray, args := #[.func (.yield (w.heap.size + 1)) #[] #[]] }, W1, gf,
    (([.func (.yield (w.heap.size + 1)) #[] #[]] : List Value) ++ lb).toArray, W1, ?_, ?_, ?_, ?_, fun h => by simp [FW] at h, ?_⟩
  · rw [← hW1, hrec]; exact run_enterLoop_outer _ _ _ _ _
  · have hev : a.eval g = .func (.func gf) #[] lb.toArray := by rw [ha.eval]; exact hg
    simp only [resolve, hev]
    simp [go_sem]
  · intro f' _; trivial
  · have := hE ((([.func (.yield (w.heap.size + 1)) #[] #[]] : List Value) ++ lb).toArray) W1
    simp only [invoke]
    simpa using this
  · have Sp : Sat w0 M (hi ++ (.pr (w.heap.size + 1) (Just (.loop (rec .ready none))) :: .pr w.heap.size (Just (.deferred (some []))) :: h)) W1 := by
      refine Sl.perm' ?_
      exact ((List.Perm.cons _ (List.Perm.symm List.perm_middle)).trans (List.Perm.symm List.perm_middle))
    have hcall := it (w.heap.size + 1)
      (fun pre hJ => ∃ h1, hJ = .pr (w.heap.size + 1) (Just (.loop (rec .ready none))) :: h1 ∧ ∃ h2, h1 = .pr w.heap.size (Just (.deferred (some []))) :: h2 ∧ I pre h2)
      (fun pre hJ => ∃ c h1, hJ = .pr (w.heap.size + 1) (Just (.loop (rec .done (some c)))) :: h1 ∧ ∃ h2, h1 = .pr w.heap.size (Just (.deferred (some []))) :: h2 ∧ Ix c pre h2) (by
        rintro pre x rest fr _ W hx ⟨_, rfl, h1, rfl, hI1⟩ SW
        refine round_of (J := fun pre hJ => ∃ h1, hJ = .pr (w.heap.size + 1) (Just (.loop (rec .ready none))) :: h1 ∧ ∃ h2, h1 = .pr w.heap.size (Just (.deferred (some []))) :: h2 ∧ I pre h2)
          (Jx := fun pre hJ => ∃ c h1, hJ = .pr (w.heap.size + 1) (Just (.loop (rec .done (some c)))) :: h1 ∧ ∃ h2, h1 = .pr w.heap.size (Just (.deferred (some []))) :: h2 ∧ Ix c pre h2)
          (pre := pre) (x := x) (r := rec .ready none) (f := f) (D := D) (psl := psl) (assign := assign) (body := body) (n := n) (I := fun xs hh => ∃ h2, hh = .pr w.heap.size (Just (.deferred (some []))) :: h2 ∧ I xs h2)
          (Ix := fun c xs hh => ∃ h2, hh = .pr w.heap.size (Just (.deferred (some []))) :: h2 ∧ Ix c xs h2) (h1 := .pr w.heap.size (Just (.deferred (some []))) :: h1) ?_ ?_ (by rw [hrec]) (by rw [hrec]) (by rw [hrec]) (by rw [hrec]) (by rw [hrec]) hpn (hps x) ?_ ?_ SW
        · rintro xs h' hh
          exact ⟨h', by rw [hrec], hh⟩
        · rintro c xs h' hh
          exact ⟨c, h', by rw [hrec], hh⟩
        · rw [hrec]; exact ⟨rfl, ha.size, ha.tmp⟩
        · intro fr2 W2 S2
          have S2' : Sat w0 M (h1 ++ (.pr w.heap.size (Just (.deferred (some []))) :: fr2)) W2 := S2.perm' (List.Perm.symm List.perm_middle)
          refine cw_mono (hround _ pre x rest _ h1 W2 hx hI1 S2') ?_
          rintro e D' f' W' hQ
          cases e with
          | normal =>
            obtain ⟨h2, S3, hb⟩ := hQ
            refine ⟨.pr w.heap.size (Just (.deferred (some []))) :: h2, S3.perm' List.perm_middle, fun W4 fr4 S4 => ?_⟩
            refine cw_mono (hb W4 (.pr w.heap.size (Just (.deferred (some []))) :: fr4) (S4.perm' (List.Perm.symm List.perm_middle))) ?_
            rintro e D' f' W' hQ
            cases e with
            | normal => obtain ⟨h', hi', S'⟩ := hQ; exact ⟨_, ⟨h', rfl, hi'⟩, S'.perm' List.perm_middle⟩
            | ret => obtain ⟨h', hi', S'⟩ := hQ; exact ⟨_, ⟨h', rfl, hi'⟩, S'.perm' List.perm_middle⟩
            | exit id => obtain ⟨h', hi', S'⟩ := hQ; exact ⟨_, ⟨h', rfl, hi'⟩, S'.perm' List.perm_middle⟩
            | goto l => obtain ⟨h', hi', S'⟩ := hQ; exact ⟨_, ⟨h', rfl, hi'⟩, S'.perm' List.perm_middle⟩
            | panic c => exact hQ.elim
            | outgrown => exact hQ.elim
          | ret => exact hQ.elim
          | exit id => exact hQ.elim
          | goto l => exact hQ.elim
          | panic c => exact hQ.elim
          | outgrown => exact hQ.elim) _ W1 ⟨_, rfl, _, rfl, h0⟩ Sp
    have hc2 : CallsIn Fence.wide (0 - 1) P gf _ W1 _ := callsIn_wide.2 hcall
    refine CallsIn.mono (F := FW none) hc2 ?_
    rintro e W2 ⟨v, rfl, h', S2, hJ⟩
    rcases hJ with ⟨_, rfl, h2, rfl, hI2⟩ | ⟨pre, hpre, c, _, rfl, h2, rfl, hI2⟩
    · have hok : HO.ok w0 M W2 (.pr (w.heap.size + 1) (Just (.loop (rec .ready none)))) := S2.ok _ (by simp)
      have hend : (Instr.endLoop (w.heap.size + 1)).run P W2 = .ok (rec .ready none).pending (W2.putObj (w.heap.size + 1) (.loop { rec .ready none with state := .exhausted })) := run_endLoop (P := P) hok.2.1 (by rw [hrec]; simp)
      have hpe : (rec .ready none).pending = none := by rw [hrec]
      refine ⟨none, _, hend.trans (by rw [hpe]), ?_⟩
      have S3 := Sat.putPr S2 (φ' := fun _ => True) (o' := .loop { rec .ready none with state := .exhausted }) .head trivial
      have S4 := S3.drop1
      refine ⟨_, _, ⟨?_, ha.size, ha.tmp⟩, hdone w.heap.size h2 _ hI2 S4⟩
      show [_] ++ a.defers = _
      rw [ha.defers]
      rfl
    · have hok : HO.ok w0 M W2 (.pr (w.heap.size + 1) (Just (.loop (rec .done (some c))))) := S2.ok _ (by simp)
      have hend : (Instr.endLoop (w.heap.size + 1)).run P W2 = .ok (rec .done (some c)).pending (W2.putObj (w.heap.size + 1) (.loop { rec .done (some c) with state := .exhausted })) := run_endLoop (P := P) hok.2.1 (by rw [hrec]; simp)
      have hpe : (rec .done (some c)).pending = some c := by rw [hrec]
      refine ⟨some c, _, hend.trans (by rw [hpe]), ?_⟩
      have S3 := Sat.putPr S2 (φ' := fun _ => True) (o' := .loop { rec .done (some c) with state := .exhausted }) .head trivial
      have S4 := S3.drop1
      refine hstop w.heap.size c pre h2 _ hI2 hpre S4 { tmps := a.tmps, defers := [{ target := .collected w.heap.size, args := #[] }] ++ a.defers } ⟨?_, ha.size, ha.tmp⟩
      show [_] ++ a.defers = _
      rw [ha.defers]
      rfl
/-! ### functions that leave with marks -/
def retM (P : Program) (fn : Func) (R : Value → World → Prop) (f : Fm) : List Deferred → World → Prop
  | [], w => ∃ v, (resultsF fn f).run P w = .ok v w ∧ R v w
  | d :: D, w => ∃ D1, d = mark D1 ∧ w.heap[D1]? = some (.deferred (some [])) ∧ retM P fn R f D (w.putObj D1 (.deferred none))
def retQM (P : Program) (fn : Func) (R : Value → World → Prop) : Post
  | .normal, D, f, w | .ret, D, f, w => retM P fn R f D w
  | _, _, _, _ => False
theorem leaves_of {fn : Func} {R : Value → World → Prop} {tmps : Array Value} (hr : results fn tmps = resultsF fn f) : ∀ (D : List Deferred) (w : World), retM P fn R f D w → LeavesInM Fence.wide 0 P fn tmps (RetP R) D .returning w
  | [], w, ⟨v, h1, h2⟩ => ⟨v, by rw [hr]; exact h1, v, rfl, h2⟩
  | d :: D, w, ⟨D1, e, hd, h⟩ => by
    subst e
    exact ⟨by simp, .inl ⟨D1, _, rfl, run_takeDeferred hd, leaves_of hr D _ h⟩⟩
theorem calls_of_cwM {g : FuncId} {fn : Func} {c : Code} {args : List Value} {R : Value → World → Prop} (hf : P.funcs[g]? = some fn) (hb : fn.body = some c) (hl : Nat.ble args.length fn.ntmps = true)
    (h : CW P none fn.ntmps c (retQM P fn R) [] (ini args) w) : Calls P g args.toArray w (RetP R) := by
  have hl' : args.length ≤ fn.ntmps := Nat.le_of_ble_eq_true hl
  refine callsIn_wide.1 (callsIn_of_wp_marks (n := 0) hf hb trivial (wpIn_mono (h _ ⟨rfl, ?_, ?_⟩) ?_))
  · simp; omega
  · intro i
    have := ini_tmp args fn.ntmps i
    simpa using this
  · rintro e a' w' ⟨D', f', hf', hQ⟩
    cases e with
    | normal =>
      show LeavesInM _ _ _ _ _ _ a'.defers _ _
      rw [hf'.defers]
      exact leaves_of (hf'.results fn) D' w' hQ
    | ret =>
      show LeavesInM _ _ _ _ _ _ a'.defers _ _
      rw [hf'.defers]
      exact leaves_of (hf'.results fn) D' w' hQ
    | exit id => exact hQ.elim
    | goto l => exact hQ.elim
    | panic c => exact hQ.elim
    | outgrown => exact hQ.elim
theorem q_retM0 {fn : Func} {R : Value → World → Prop} {rs : List ResultVar} {vs : List Value} (S : Sat w0 M h w) (hf : fn.results = rs.toArray) (hr : RV P f h rs vs) (hR : R (pack vs) w) : retQM P fn R .ret [] f w :=
  ⟨_, run_results hf hr S, hR⟩
end
end Go.Proofs.Ytagapiflfnbfiaa
