/- EngR: several texts in one. No statement of the seat is proved here. -/
import Derived.Test.YtfkcihcbmlcajaaEngG
import Derived.RangeFuncNested
import Derived.RangeFuncBound
import Derived.RangeFuncBox
import Derived.Maps.AppendAt
import Derived.ArgAppend
/- Ranges over functions: an iterator's contract, a call of yield, the loop over it. No statement of the seat is proved here. -/
namespace Go.Proofs.Ytfkcihcbmlcajaa
set_option linter.unusedVariables false
set_option linter.unusedSimpArgs false
open Go Go.RowKit
theorem Apart.symm' {a b : HO} (h : Apart a b) : Apart b a := fun g hb ha => h g ha hb
section
variable {P : Program} {ro : Option Nat} {n : Nat} {Q : Post} {D : List Deferred} {f : Fm} {w w0 w' : World} {M : List Nat} {h : List HO}
variable {ops : Array Oper} {rest : List Oper} {d ty : Nat} {ps : String} {af : Array Edge} {gd : Option (Nat × Bool)} {al : List Operand} {x : Operand}
theorem Sat.perm' {h' : List HO} (S : Sat w0 M h w) (hp : h.Perm h') : Sat w0 M h' w :=
  ⟨S.keeps, fun o ho => S.ok o (hp.symm.subset ho), (hp.pairwise_iff (fun {_ _} hab => Apart.symm' hab)).1 S.apart⟩
theorem Sat.putPr {h' : List HO} {b : Nat} {φ φ' : Option Obj → Prop} {o' : Obj} (S : Sat w0 M h w) (r : Rep h (.pr b φ) (.pr b φ') h') (ho : φ' (some o')) : Sat w0 M h' (w.putObj b o') := by
  have hok := S.ok _ r.mem
  refine S.rep r (grownBy_putObj' w b o') ⟨?_, ?_, hok.2.2⟩ (fun b' hb => .inl hb)
  · rw [World.putObj_size]; exact hok.1
  · rw [World.putObj_heap_same hok.1]; exact ho
/-- a block that holds just this -/
abbrev Just (o : Obj) : Option Obj → Prop := (· = some o)
/-- a call of yield, in the world W -/
def YieldR (P : Program) (l : Nat) (args : List Value) (W : World) (R : Bool → World → Prop) : Prop :=
  ∃ fn tmps assign body, (Instr.yield l args.toArray).run P W = .ok (.round l fn tmps assign body) W ∧ RoundIn Fence.wide 0 P l fn tmps assign body W (fun e W' => ∃ b, e = .returned (.bool b) ∧ R b W')
/-- the iterator gf, with lb captured, hands over xs; 'hi' is what it needs of the caller's memory -/
def Iter {α : Type} (P : Program) (gf : FuncId) (lb : List Value) (encs : α → List Value) (xs : List α) (w0 : World) (M : List Nat) (hi : List HO) : Prop :=
  ∀ (l : Nat) (J Jx : List α → List HO → Prop),
    (∀ pre x rest fr h W, xs = pre ++ x :: rest → J pre h → Sat w0 M (fr ++ h) W → YieldR P l (encs x) W (fun b W' => ∃ h', Sat w0 M (fr ++ h') W' ∧ ((b = true ∧ J (pre ++ [x]) h') ∨ (b = false ∧ Jx (pre ++ [x]) h')))) →
    ∀ h W, J [] h → Sat w0 M (hi ++ h) W →
    Calls P gf (([.func (.yield l) #[] #[]] : List Value) ++ lb).toArray W (RetP fun _ W' => ∃ h', Sat w0 M h' W' ∧ (J xs h' ∨ ∃ pre, pre <+: xs ∧ Jx pre h'))
theorem run_yieldv {o : Oper} {l : Nat} {ts : Array TypeId} {fn : FuncId} {tmps : Array Value} {assign body : Code} (hop : o.op = .call { callee := .value x, args := al.toArray, argTypes := ts })
    (hx : fev f x = .func (.yield l) #[] #[]) (hy : (Instr.yield l (evs f al).toArray).run P w = .ok (.round l fn tmps assign body) w) : (execOp (fev f) o).run P w = .ok (.round l fn tmps assign body) w := by
  unfold execOp
  rw [hop]
  simp only [resolve, hx, Deferred.ofValue, evs_eq, Sem.run_bind, Sem.run_pure, Result.andThen_ok, invoke]
  simpa using hy
theorem x_yield {l : Nat} {as : List Value} {ts : Array TypeId} {R : Bool → World → Prop} (hg : want ops f ⟨some d, .call ⟨.value x, al.toArray, ts⟩, ty, ps, af, gd⟩ = true) (hdn : Nat.blt d n = true)
    (hx : fev f x = .func (.yield l) #[] #[]) (ha : NA (evs f al) as) (hy : YieldR P l as w R)
    (k : ∀ b w', R b w' → WL P ro n ops Q rest D (upd f d (.bool b)) w') : WL P ro n ops Q (⟨some d, .call ⟨.value x, al.toArray, ts⟩, ty, ps, af, gd⟩ :: rest) D f w := fun a hfa => by
  obtain ⟨fn, tmps, assign, body, hrun, hR⟩ := hy
  have hw : Region.wanted ⟨some d, .call ⟨.value x, al.toArray, ts⟩, ty, ps, af, gd⟩ (yielded ops a.tmps) = true := by rw [hfa.yielded]; exact hg
  rw [← ha.eq] at hrun
  simp only [wpListIn, hw, if_true, Oper.wpIn]
  refine ⟨fun _ _ => trivial, ?_⟩
  rw [hfa.eval, semAt_exec (run_yieldv rfl hx hrun) (by intro d; simp)]
  refine ⟨fun h => by simp [FW] at h, ?_⟩
  have hR2 : RoundIn (FW ro) (0 - 1) P l fn tmps assign body w _ := hR
  refine hR2.mono ?_
  rintro e w' ⟨b, rfl, hb⟩
  exact k b w' hb _ (hfa.put _ hdn)
theorem q_ret0 {fn : Func} {R : Value → World → Prop} (hf : fn.results = #[]) (hR : R (.tuple #[]) w) : retQ P fn R .ret [] f w := q_ret _ (run_results (rs := []) (vs := []) (h := []) (M := []) hf .nil (Sat.start [] w)) hR
theorem q_end0 {fn : Func} {R : Value → World → Prop} (hf : fn.results = #[]) (hR : R (.tuple #[]) w) : retQ P fn R .normal [] f w := q_end _ (run_results (rs := []) (vs := []) (h := []) (M := []) hf .nil (Sat.start [] w)) hR
/-- frames with the loop's variables set -/
def updp (f : Fm) : List Nat → List Value → Fm
  | p :: ps, v :: vs => updp (upd f p v) ps vs
  | _, _ => f
theorem Fr.zip {D' : List Deferred} : ∀ (ps : List Nat) (vs : List Value) (t : Array Value) (f : Fm), Fr n D' { tmps := t, defers := D' } f → ps.all (Nat.blt · n) = true →
    Fr n D' { tmps := (ps.zip vs).foldl (fun t (p, v) => t.setIfInBounds p v) t, defers := D' } (updp f ps vs)
  | [], _, _, _, h, _ => by simpa [updp] using h
  | p :: ps, [], _, _, h, _ => by simpa [updp] using h
  | p :: ps, v :: vs, t, f, h, hp => by
    simp only [List.all_cons, Bool.and_eq_true] at hp
    simp only [List.zip_cons_cons, List.foldl_cons, updp]
    exact Fr.zip ps vs _ _ (h.put v hp.1) hp.2
/-- how a round's body may be left -/
def roundQ {α : Type} (w0 : World) (M : List Nat) (fr : List HO) (I : List α → List HO → Prop) (Ix : Code → List α → List HO → Prop) (xs : List α) : Post
  | .normal, _, _, W => ∃ h', I xs h' ∧ Sat w0 M (h' ++ fr) W
  | .ret, _, _, W => ∃ h', Ix .ret xs h' ∧ Sat w0 M (h' ++ fr) W
  | .exit id, _, _, W => ∃ h', Ix (.exit id) xs h' ∧ Sat w0 M (h' ++ fr) W
  | .goto t, _, _, W => ∃ h', Ix (.goto t) xs h' ∧ Sat w0 M (h' ++ fr) W
  | _, _, _, _ => False
theorem round_of {α : Type} {l : Nat} {r : Loop} {fn : FuncId} {f : Fm} {psl : List Nat} {assign body : Code} {vs : List Value} {W : World} {x : α} {pre : List α} {I : List α → List HO → Prop} {Ix : Code → List α → List HO → Prop}
    {h1 fr : List HO} {J Jx : List α → List HO → Prop}
    (hJ : ∀ xs h', I xs h' → J xs (.pr l (Just (.loop { r with state := .ready, pending := none })) :: h')) (hJx : ∀ c xs h', Ix c xs h' → Jx xs (.pr l (Just (.loop { r with state := .done, pending := some c })) :: h'))
    (hrd : r.state = .ready) (hfn : r.fn = fn) (hps : r.params = psl.toArray) (has : r.assign = assign) (hbd : r.body = body) (hpn : psl.all (Nat.blt · n) = true) (hvs : vs.length = psl.length)
    (hf : Fr n D { tmps := r.tmps, defers := D } f)
    (hround : ∀ (fr : List HO) W, Sat w0 M (h1 ++ fr) W → CW P (some l) n assign (thenQ (fun D' f' W' => ∃ h2, Sat w0 M (h2 ++ fr) W' ∧ ∀ W2 fr', Sat w0 M (h2 ++ fr') W2 → CW P (some l) n body (roundQ w0 M fr' I Ix (pre ++ [x])) D' f' W2) (fun _ _ _ _ => False)) [] (updp f psl vs) W)
    (S : Sat w0 M (fr ++ (.pr l (Just (.loop r)) :: h1)) W) :
    YieldR P l vs W (fun b W' => ∃ h', Sat w0 M (fr ++ h') W' ∧ ((b = true ∧ J (pre ++ [x]) h') ∨ (b = false ∧ Jx (pre ++ [x]) h'))) := by
  subst hfn; subst has; subst hbd
  have hmem : (HO.pr l (Just (.loop r))) ∈ fr ++ (.pr l (Just (.loop r)) :: h1) := by simp
  have hl : W.heap[l]? = some (.loop r) := (S.ok _ hmem).2.1
  have hy := run_yield (P := P) (args := vs.toArray) hl (by rw [hps]; simpa using hvs)
  refine ⟨r.fn, _, r.assign, r.body, hy, ?_⟩
  have hp1 : (fr ++ (HO.pr l (Just (.loop r)) :: h1)).Perm (h1 ++ (.pr l (Just (.loop r)) :: fr)) := by
    refine (List.perm_append_comm).trans ?_
    exact (List.Perm.symm List.perm_middle)
  refine roundIn_of_wpIn (F := Fence.wide) (n := 0) trivial ?_
  have S1 := S.perm' hp1
  have hA := hround _ _ S1
  have hFr : Fr n [] { tmps := (r.params.zip vs.toArray).foldl (fun t (p, v) => t.setIfInBounds p v) r.tmps, defers := [] } (updp f psl vs) := by
    have := Fr.zip (D' := []) psl vs r.tmps f ⟨rfl, hf.size, hf.tmp⟩ hpn
    rw [hps]
    simpa using this
  refine wpIn_mono (hA _ hFr) ?_
  rintro e a1 W1 ⟨D1, f1, hf1, hQ⟩
  cases e with
  | normal =>
    obtain ⟨h2, S2, hb⟩ := hQ
    have hok2 : HO.ok w0 M W1 (.pr l (Just (.loop r))) := S2.ok _ (by simp)
    refine ⟨_, run_beginRound hok2.2.1 hrd, ?_⟩
    have S3 : Sat w0 M (h2 ++ (.pr l (Just (.loop { r with state := .busy })) :: fr)) (W1.putObj l (.loop { r with state := .busy })) := by
      have S2' := S2.perm' (List.perm_middle (l₁ := h2) (a := HO.pr l (Just (.loop r))) (l₂ := fr))
      exact (Sat.putPr (φ' := Just (.loop { r with state := .busy })) S2' .head rfl).perm' (List.Perm.symm List.perm_middle)
    refine wpIn_mono (hb _ _ S3 _ hf1) ?_
    have fin : ∀ (jump : Option Code) (h3 : List HO) (W3 : World), Sat w0 M (h3 ++ (.pr l (Just (.loop { r with state := .busy })) :: fr)) W3 →
        ∃ W4, (Instr.endRound l jump).run P W3 = .ok (.bool jump.isNone) W4 ∧ Sat w0 M (fr ++ (.pr l (Just (.loop { r with state := if jump.isNone then .ready else .done, pending := jump })) :: h3)) W4 := by
      intro jump h3 W3 S4
      have hok4 : HO.ok w0 M W3 (.pr l (Just (.loop { r with state := .busy }))) := S4.ok _ (by simp)
      refine ⟨_, run_endRound (P := P) jump hok4.2.1, ?_⟩
      have S4' := S4.perm' (List.perm_middle (l₁ := h3) (a := HO.pr l (Just (.loop { r with state := .busy }))) (l₂ := fr))
      refine (Sat.putPr (φ' := Just (.loop { r with state := if jump.isNone then .ready else .done, pending := jump })) S4' .head rfl).perm' ?_
      refine (List.Perm.cons _ List.perm_append_comm).trans ?_
      exact (List.Perm.symm List.perm_middle)
    rintro e2 a3 W3 ⟨D3, f3, _, hQ3⟩
    cases e2 with
    | normal =>
      obtain ⟨h3, hi3, S4⟩ := hQ3
      obtain ⟨W4, hr4, S5⟩ := fin none h3 W3 S4
      exact ⟨_, W4, hr4, true, rfl, _, S5, .inl ⟨rfl, hJ _ _ hi3⟩⟩
    | ret =>
      obtain ⟨h3, hi3, S4⟩ := hQ3
      obtain ⟨W4, hr4, S5⟩ := fin (some .ret) h3 W3 S4
      exact ⟨_, W4, hr4, false, rfl, _, S5, .inr ⟨rfl, hJx _ _ _ hi3⟩⟩
    | exit id =>
      obtain ⟨h3, hi3, S4⟩ := hQ3
      obtain ⟨W4, hr4, S5⟩ := fin (some (.exit id)) h3 W3 S4
      exact ⟨_, W4, hr4, false, rfl, _, S5, .inr ⟨rfl, hJx _ _ _ hi3⟩⟩
    | goto t =>
      obtain ⟨h3, hi3, S4⟩ := hQ3
      obtain ⟨W4, hr4, S5⟩ := fin (some (.goto t)) h3 W3 S4
      exact ⟨_, W4, hr4, false, rfl, _, S5, .inr ⟨rfl, hJx _ _ _ hi3⟩⟩
    | panic ch => exact hQ3.elim
    | outgrown => exact hQ3.elim
  | ret => exact hQ.elim
  | exit id => exact hQ.elim
  | goto l => exact hQ.elim
  | panic c => exact hQ.elim
  | outgrown => exact hQ.elim
def mark (D1 : Nat) : Deferred := { target := .collected D1, args := #[] }
theorem cw_range {α : Type} {g : Operand} {psl : List Nat} {assign body : Code} {encs : α → List Value} {gf : FuncId} {lb : List Value} {xs : List α} {hi h : List HO}
    (S : Sat w0 M (hi ++ h) w) (hg : fev f g = .func (.func gf) #[] lb.toArray) (hE : Ent P gf) (hps : ∀ x, (encs x).length = psl.length) (hpn : psl.all (Nat.blt · n) = true) (it : Iter P gf lb encs xs w0 M hi)
    (I : List α → List HO → Prop) (Ix : Code → List α → List HO → Prop) (h0 : I [] h)
    (hround : ∀ l pre x rest fr h1 W, xs = pre ++ x :: rest → I pre h1 → Sat w0 M (h1 ++ fr) W →
      CW P (some l) n assign (thenQ (fun D' f' W' => ∃ h2, Sat w0 M (h2 ++ fr) W' ∧ ∀ W2 fr', Sat w0 M (h2 ++ fr') W2 → CW P (some l) n body (roundQ w0 M fr' I Ix (pre ++ [x])) D' f' W2) (fun _ _ _ _ => False)) [] (updp f psl (encs x)) W)
    (hdone : ∀ D1 h' W, I xs h' → Sat w0 M (.pr D1 (Just (.deferred (some []))) :: h') W → Q .normal (mark D1 :: D) f W)
    (hstop : ∀ D1 c pre h' W, Ix c pre h' → pre <+: xs → Sat w0 M (.pr D1 (Just (.deferred (some []))) :: h') W → CW P none n c Q (mark D1 :: D) f W) :
    CW P none n (.rangeFunc g psl.toArray assign body) Q D f w := fun a ha => by
  refine wpIn_rangeFunc ?_
  intro fn hfn
  obtain ⟨rec, hrec⟩ : ∃ rec : LoopState → Option Code → Loop, rec = fun st pe => { state := st, pending := pe, fn, tmps := a.tmps, params := psl.toArray, assign, body, defers := w.heap.size } := ⟨_, rfl⟩
  have Sd : Sat w0 M (.pr w.heap.size (Just (.deferred (some []))) :: (hi ++ h)) (w.alloc (.deferred (some []))) :=
    S.add (World.grownBy_alloc w _ none) ⟨by simp, heap_alloc_new w _, .inl S.le⟩ (fun b hb => by injection hb with hb; omega)
  have Sl : Sat w0 M (.pr (w.heap.size + 1) (Just (.loop (rec .ready none))) :: .pr w.heap.size (Just (.deferred (some []))) :: (hi ++ h)) ((w.alloc (.deferred (some []))).alloc (.loop (rec .ready none))) :=
    Sd.add (World.grownBy_alloc _ _ none) ⟨by simp, by have := heap_alloc_new (w.alloc (.deferred (some []))) (.loop (rec .ready none)); rwa [World.size_alloc] at this, .inl (by have := S.le; omega)⟩ (fun b hb => by injection hb with hb; simp; omega)
  obtain ⟨W1, hW1⟩ : ∃ W1, (w.alloc (.deferred (some []))).alloc (.loop (rec .ready none)) = W1 := ⟨_, rfl⟩
  rw [hW1] at Sl
  refine ⟨w.heap.size + 1, [{ target := .collected w.heap.size, args := #[] }], W1, { target := .fn (.func gf) lb.toArray, args := #[.func (.yield (w.heap.size + 1)) #[] #[]] }, W1, gf,
    (([.func (.yield (w.heap.size + 1)) #[] #[]] : List Value) ++ lb).toArray, W1, ?_, ?_, ?_, ?_, fun h => by simp [FW] at h, ?_⟩
  · rw [← hW1, hrec]; exact run_enterLoop_outer _ _ _ _ _
  · have hev : a.eval g = .func (.func gf) #[] lb.toArray := by rw [ha.eval]; exact hg
    simp only [resolve, hev]
    simp [go_sem]
  · intro f' _; trivial
  · have := hE ((([.func (.yield (w.heap.size + 1)) #[] #[]] : List Value) ++ lb).toArray) W1
    simp only [invoke]
    simpa using this
  · have Sp : Sat w0 M (hi ++ (.pr (w.heap.size + 1) (Just (.loop (rec .ready none))) :: .pr w.heap.size (Just (.deferred (some []))) :: h)) W1 := by
      refine Sl.perm' ?_
      exact ((List.Perm.cons _ (List.Perm.symm List.perm_middle)).trans (List.Perm.symm List.perm_middle))
    have hcall := it (w.heap.size + 1)
      (fun pre hJ => ∃ h1, hJ = .pr (w.heap.size + 1) (Just (.loop (rec .ready none))) :: h1 ∧ ∃ h2, h1 = .pr w.heap.size (Just (.deferred (some []))) :: h2 ∧ I pre h2)
      (fun pre hJ => ∃ c h1, hJ = .pr (w.heap.size + 1) (Just (.loop (rec .done (some c)))) :: h1 ∧ ∃ h2, h1 = .pr w.heap.size (Just (.deferred (some []))) :: h2 ∧ Ix c pre h2) (by
        rintro pre x rest fr _ W hx ⟨_, rfl, h1, rfl, hI1⟩ SW
        refine round_of (J := fun pre hJ => ∃ h1, hJ = .pr (w.heap.size + 1) (Just (.loop (rec .ready none))) :: h1 ∧ ∃ h2, h1 = .pr w.heap.size (Just (.deferred (some []))) :: h2 ∧ I pre h2)
          (Jx := fun pre hJ => ∃ c h1, hJ = .pr (w.heap.size + 1) (Just (.loop (rec .done (some c)))) :: h1 ∧ ∃ h2, h1 = .pr w.heap.size (Just (.deferred (some []))) :: h2 ∧ Ix c pre h2)
          (pre := pre) (x := x) (r := rec .ready none) (f := f) (D := D) (psl := psl) (assign := assign) (body := body) (n := n) (I := fun xs hh => ∃ h2, hh = .pr w.heap.size (Just (.deferred (some []))) :: h2 ∧ I xs h2)
          (Ix := fun c xs hh => ∃ h2, hh = .pr w.heap.size (Just (.deferred (some []))) :: h2 ∧ Ix c xs h2) (h1 := .pr w.heap.size (Just (.deferred (some []))) :: h1) ?_ ?_ (by rw [hrec]) (by rw [hrec]) (by rw [hrec]) (by rw [hrec]) (by rw [hrec]) hpn (hps x) ?_ ?_ SW
        · rintro xs h' hh
          exact ⟨h', by rw [hrec], hh⟩
        · rintro c xs h' hh
          exact ⟨c, h', by rw [hrec], hh⟩
        · rw [hrec]; exact ⟨rfl, ha.size, ha.tmp⟩
        · intro fr2 W2 S2
          have S2' : Sat w0 M (h1 ++ (.pr w.heap.size (Just (.deferred (some []))) :: fr2)) W2 := S2.perm' (List.Perm.symm List.perm_middle)
          refine cw_mono (hround _ pre x rest _ h1 W2 hx hI1 S2') ?_
          rintro e D' f' W' hQ
          cases e with
          | normal =>
            obtain ⟨h2, S3, hb⟩ := hQ
            refine ⟨.pr w.heap.size (Just (.deferred (some []))) :: h2, S3.perm' List.perm_middle, fun W4 fr4 S4 => ?_⟩
            refine cw_mono (hb W4 (.pr w.heap.size (Just (.deferred (some []))) :: fr4) (S4.perm' (List.Perm.symm List.perm_middle))) ?_
            rintro e D' f' W' hQ
            cases e with
            | normal => obtain ⟨h', hi', S'⟩ := hQ; exact ⟨_, ⟨h', rfl, hi'⟩, S'.perm' List.perm_middle⟩
            | ret => obtain ⟨h', hi', S'⟩ := hQ; exact ⟨_, ⟨h', rfl, hi'⟩, S'.perm' List.perm_middle⟩
            | exit id => obtain ⟨h', hi', S'⟩ := hQ; exact ⟨_, ⟨h', rfl, hi'⟩, S'.perm' List.perm_middle⟩
            | goto l => obtain ⟨h', hi', S'⟩ := hQ; exact ⟨_, ⟨h', rfl, hi'⟩, S'.perm' List.perm_middle⟩
            | panic c => exact hQ.elim
            | outgrown => exact hQ.elim
          | ret => exact hQ.elim
          | exit id => exact hQ.elim
          | goto l => exact hQ.elim
          | panic c => exact hQ.elim
          | outgrown => exact hQ.elim) _ W1 ⟨_, rfl, _, rfl, h0⟩ Sp
    have hc2 : CallsIn Fence.wide (0 - 1) P gf _ W1 _ := callsIn_wide.2 hcall
    refine CallsIn.mono (F := FW none) hc2 ?_
    rintro e W2 ⟨v, rfl, h', S2, hJ⟩
    rcases hJ with ⟨_, rfl, h2, rfl, hI2⟩ | ⟨pre, hpre, c, _, rfl, h2, rfl, hI2⟩
    · have hok : HO.ok w0 M W2 (.pr (w.heap.size + 1) (Just (.loop (rec .ready none)))) := S2.ok _ (by simp)
      have hend : (Instr.endLoop (w.heap.size + 1)).run P W2 = .ok (rec .ready none).pending (W2.putObj (w.heap.size + 1) (.loop { rec .ready none with state := .exhausted })) := run_endLoop (P := P) hok.2.1 (by rw [hrec]; simp)
      have hpe : (rec .ready none).pending = none := by rw [hrec]
      refine ⟨none, _, hend.trans (by rw [hpe]), ?_⟩
      have S3 := Sat.putPr S2 (φ' := fun _ => True) (o' := .loop { rec .ready none with state := .exhausted }) .head trivial
      have S4 := S3.drop1
      refine ⟨_, _, ⟨?_, ha.size, ha.tmp⟩, hdone w.heap.size h2 _ hI2 S4⟩
      show [_] ++ a.defers = _
      rw [ha.defers]
      rfl
    · have hok : HO.ok w0 M W2 (.pr (w.heap.size + 1) (Just (.loop (rec .done (some c))))) := S2.ok _ (by simp)
      have hend : (Instr.endLoop (w.heap.size + 1)).run P W2 = .ok (rec .done (some c)).pending (W2.putObj (w.heap.size + 1) (.loop { rec .done (some c) with state := .exhausted })) := run_endLoop (P := P) hok.2.1 (by rw [hrec]; simp)
      have hpe : (rec .done (some c)).pending = some c := by rw [hrec]
      refine ⟨some c, _, hend.trans (by rw [hpe]), ?_⟩
      have S3 := Sat.putPr S2 (φ' := fun _ => True) (o' := .loop { rec .done (some c) with state := .exhausted }) .head trivial
      have S4 := S3.drop1
      refine hstop w.heap.size c pre h2 _ hI2 hpre S4 { tmps := a.tmps, defers := [{ target := .collected w.heap.size, args := #[] }] ++ a.defers } ⟨?_, ha.size, ha.tmp⟩
      show [_] ++ a.defers = _
      rw [ha.defers]
      rfl
/-! ### functions that leave with marks -/
def retM (P : Program) (fn : Func) (R : Value → World → Prop) (f : Fm) : List Deferred → World → Prop
  | [], w => ∃ v, (resultsF fn f).run P w = .ok v w ∧ R v w
  | d :: D, w => ∃ D1, d = mark D1 ∧ w.heap[D1]? = some (.deferred (some [])) ∧ retM P fn R f D (w.putObj D1 (.deferred none))
def retQM (P : Program) (fn : Func) (R : Value → World → Prop) : Post
  | .normal, D, f, w | .ret, D, f, w => retM P fn R f D w
  | _, _, _, _ => False
theorem leaves_of {fn : Func} {R : Value → World → Prop} {tmps : Array Value} (hr : results fn tmps = resultsF fn f) : ∀ (D : List Deferred) (w : World), retM P fn R f D w → LeavesInM Fence.wide 0 P fn tmps (RetP R) D .returning w
  | [], w, ⟨v, h1, h2⟩ => ⟨v, by rw [hr]; exact h1, v, rfl, h2⟩
  | d :: D, w, ⟨D1, e, hd, h⟩ => by
    subst e
    exact ⟨by simp, .inl ⟨D1, _, rfl, run_takeDeferred hd, leaves_of hr D _ h⟩⟩
theorem calls_of_cwM {g : FuncId} {fn : Func} {c : Code} {args : List Value} {R : Value → World → Prop} (hf : P.funcs[g]? = some fn) (hb : fn.body = some c) (hl : Nat.ble args.length fn.ntmps = true)
    (h : CW P none fn.ntmps c (retQM P fn R) [] (ini args) w) : Calls P g args.toArray w (RetP R) := by
  have hl' : args.length ≤ fn.ntmps := Nat.le_of_ble_eq_true hl
  refine callsIn_wide.1 (callsIn_of_wp_marks (n := 0) hf hb trivial (wpIn_mono (h _ ⟨rfl, ?_, ?_⟩) ?_))
  · simp; omega
  · intro i
    have := ini_tmp args fn.ntmps i
    simpa using this
  · rintro e a' w' ⟨D', f', hf', hQ⟩
    cases e with
    | normal =>
      show LeavesInM _ _ _ _ _ _ a'.defers _ _
      rw [hf'.defers]
      exact leaves_of (hf'.results fn) D' w' hQ
    | ret =>
      show LeavesInM _ _ _ _ _ _ a'.defers _ _
      rw [hf'.defers]
      exact leaves_of (hf'.results fn) D' w' hQ
    | exit id => exact hQ.elim
    | goto l => exact hQ.elim
    | panic c => exact hQ.elim
    | outgrown => exact hQ.elim
theorem q_retM0 {fn : Func} {R : Value → World → Prop} {rs : List ResultVar} {vs : List Value} (S : Sat w0 M h w) (hf : fn.results = rs.toArray) (hr : RV P f h rs vs) (hR : R (pack vs) w) : retQM P fn R .ret [] f w :=
  ⟨_, run_results hf hr S, hR⟩
end
end Go.Proofs.Ytfkcihcbmlcajaa
/- Slices: parts of them, and appending to those of the call's own. No statement of the seat is proved here. -/
namespace Go.Proofs.Ytfkcihcbmlcajaa
set_option linter.unusedVariables false
set_option linter.unusedSimpArgs false
open Go Go.RowKit
inductive RepF : List HO → HO → (HO → List HO) → Prop
  | head {o : HO} {t : List HO} : RepF (o :: t) o (fun o' => o' :: t)
  | tail {o x : HO} {t : List HO} {F : HO → List HO} : RepF t o F → RepF (x :: t) o (fun o' => x :: F o')
theorem RepF.rep {h : List HO} {o : HO} {F : HO → List HO} (r : RepF h o F) (o' : HO) : Rep h o o' (F o') := by
  induction r with
  | head => exact .head
  | tail _ ih => exact .tail ih
def apk (P : Program) (T : TypeId) : Option (TypeId × Nat × Nat) :=
  match P.underlying T with
  | some (.slice e) =>
    match P.info? e with
    | some i =>
      match i.zero with
      | some z => bif Nat.beq (cl1 z).length i.size && Nat.blt 0 i.size then some (e, i.size, i.bytes) else none
      | none => none
    | none => none
  | _ => none
/-- the address behind k elements -/
def sub (A : Option Addr) (k size c : Nat) : Option Addr := if c = k then A else A.map (·.add (k * size))
theorem Rd.take {w : World} {A : Option Addr} {size n m : Nat} {cell : Nat → List Value} (R : Rd w A size n cell) (h : m ≤ n) : Rd w A size m cell :=
  ⟨fun hm => R.some_ (by omega), fun i j u hi hu => R.at_ i j u (by omega) hu⟩
theorem Rd.drop {w : World} {A : Option Addr} {size n k c : Nat} {cell : Nat → List Value} (R : Rd w A size n cell) (h : k ≤ n) (hc : n ≤ c) : Rd w (sub A k size c) size (n - k) (fun i => cell (k + i)) := by
  unfold sub
  split
  · rename_i e
    have : n - k = 0 := by omega
    rw [this]
    exact Rd.nil _ _ _ _
  · refine ⟨fun hm => ?_, fun i j u hi hu => ?_⟩
    · have := R.some_ (by omega)
      obtain ⟨a, rfl⟩ := Option.isSome_iff_exists.1 this
      rfl
    · have hs := R.some_ (by omega)
      obtain ⟨a, rfl⟩ := Option.isSome_iff_exists.1 hs
      have := R.at_ (k + i) j u (by omega) hu
      unfold ea at this ⊢
      simp only [Option.map_some, Option.getD_some] at this ⊢
      rw [add_add', show k * size + (i * size + j) = (k + i) * size + j by rw [Nat.add_mul]; omega]
      exact this
section
variable {P : Program} {ro : Option Nat} {n : Nat} {Q : Post} {D : List Deferred} {f : Fm} {w w0 w' : World} {M : List Nat} {h : List HO}
variable {ops : Array Oper} {rest : List Oper} {prest : List (Nat × Oper)} {d ty xt yt : Nat} {ps : String} {af : Array Edge} {gd : Option (Nat × Bool)} {x y : Operand}
theorem Sat.addNil (S : Sat w0 M h w) (E : TypeId) (size : Nat) : Sat w0 M (.rw 0 (.slice none 0 0) E size [] :: h) w :=
  S.add ⟨rfl, rfl, rfl, Nat.le_refl _, fun _ _ _ => rfl⟩ ⟨fun b hb => (by cases hb), fun c hc => (by cases hc), World.ownsRow_nil w _ E size⟩ (fun b hb => by cases hb)
theorem q_retM1 {fn : Func} {R : Value → World → Prop} {rs : List ResultVar} {vs : List Value} {D1 : Nat} {F : HO → List HO} (S : Sat w0 M h w) (hh : RepF h (.pr D1 (Just (.deferred (some [])))) F) (hf : fn.results = rs.toArray) (hr : RV P f (F (.pr D1 (fun _ => True))) rs vs)
    (hR : ∀ w', Sat w0 M (F (.pr D1 (fun _ => True))) w' → R (pack vs) w') : retQM P fn R .ret [mark D1] f w := by
  have hok : HO.ok w0 M w (.pr D1 (Just (.deferred (some [])))) := S.ok _ (hh.rep (.pr D1 (fun _ => True))).mem
  have S2 := Sat.putPr S (φ' := fun _ => True) (o' := .deferred none) (hh.rep _) trivial
  exact ⟨D1, rfl, hok.2.1, _, run_results hf hr S2, hR _ S2⟩
theorem run_append {T e : TypeId} {size bytes base m : Nat} {v : Value} {xs news : List Value} {k : Nat} {ad : Addr} {c : Nat} (hk : apk P T = some (e, size, bytes)) (hx : fev f x = v) (hy : fev f y = .slice (some ad) m c)
    (hown : w.ownsRow base e size v k xs) (hl : news.length = m * size) (hnews : ∀ j u, news[j]? = some u → w.cell? (ad.add j) = some u) (h1 : ∀ u ∈ news, u.oneCell' = true)
    (h63 : k + m ≤ maxLen) (hbytes : (k + m) * bytes ≤ 140737488355328) (hbase : base ≤ w.heap.size) :
    ∃ v' w', (execOp (fev f) ⟨some d, .call ⟨.builtin .append, #[x, y], #[T, T]⟩, ty, ps, af, gd⟩).run P w = .ok (.value v') w' ∧ w'.ownsRow base e size v' (k + m) (xs ++ news) ∧ w.grownBy w' v.ownBlock ∧
      (v'.ownBlock = v.ownBlock ∨ v'.ownBlock = some w.heap.size) := by
  unfold apk at hk
  split at hk <;> try (cases hk; done)
  rename_i e' hu
  split at hk <;> try (cases hk; done)
  rename_i i hi
  split at hk <;> try (cases hk; done)
  rename_i z hz
  cases hb : Nat.beq (cl1 z).length i.size && Nat.blt 0 i.size with
  | false => rw [hb] at hk; simp at hk
  | true =>
    rw [hb] at hk
    simp only [cond_true, Option.some.injEq, Prod.mk.injEq] at hk
    obtain ⟨rfl, rfl, rfl⟩ := hk
    simp only [Bool.and_eq_true] at hb
    have hz1 := Nat.eq_of_beq_eq_true hb.1
    have hz2 : 0 < i.size := by
      have h4 : 0 + 1 ≤ i.size := by simpa [Nat.blt] using hb.2
      omega
    obtain ⟨v', w', hr, h2, h3, _, h5⟩ := run_append_own_at (P := P) (w := w) base T ty e' i z i.size i.bytes hu hi hz rfl rfl (by rw [← cl1_eq]; simpa using hz1) hz2 v k xs hown ad m c news hl hnews h1 h63 hbytes hbase
    refine ⟨v', w', ?_, h2, h3, h5⟩
    simp [execOp, resolve, invoke, builtin, hx, hy, hr, Result.andThen, Sem.run_bind, Sem.run_pure]
/-- append(x, one element), where x is the call's own -/
theorem x_append1 {T e : TypeId} {size bytes k c b : Nat} {A : Option Addr} {xs : List (List Value)} {cs : List Value} {F : HO → List HO} (S : Sat w0 M h w)
    (hg : want ops f ⟨some d, .call ⟨.builtin .append, #[x, y], #[T, T]⟩, ty, ps, af, gd⟩ = true) (hdn : Nat.blt d n = true) (hk : apk P T = some (e, size, bytes)) (hx : fev f x = .slice A k c) (hy : fev f y = .slice (some ⟨b, 0, none⟩) 1 1)
    (hr : RepF h (.rw 0 (.slice A k c) e size xs) F) (hh : Has h (.cl b e cs)) (hl : Nat.beq cs.length size = true) (ho : ones cs = true) (hby : Nat.ble bytes 100000 = true) (hsm : xs.length < 1000000000)
    (kk : ∀ g cap w', Sat w0 M (F (.rw 0 (.slice (some ⟨g, 0, none⟩) (xs.length + 1) cap) e size (xs ++ [cs]))) w' → WL P ro n ops Q rest D (upd f d (.slice (some ⟨g, 0, none⟩) (xs.length + 1) cap)) w') :
    WL P ro n ops Q (⟨some d, .call ⟨.builtin .append, #[x, y], #[T, T]⟩, ty, ps, af, gd⟩ :: rest) D f w := by
  have hm := (hr.rep (.rw 0 (.slice A k c) e size xs)).mem
  obtain ⟨h1, h2, h3⟩ := S.ok _ hm
  have hcl := S.cl hh
  have hby' := Nat.le_of_ble_eq_true hby
  have hl' := Nat.eq_of_beq_eq_true hl
  have hbound : (xs.length + 1) * bytes ≤ 140737488355328 := Nat.le_trans (Nat.mul_le_mul (show xs.length + 1 ≤ 1000000000 by omega) hby') (by decide)
  obtain ⟨v', w', hrun, hown, hgr, hob⟩ := run_append (P := P) (f := f) (d := d) (ty := ty) (ps := ps) (af := af) (gd := gd) (m := 1) (c := 1) (ad := ⟨b, 0, none⟩) (news := cs) hk hx hy h3 (by omega)
    (fun j u hu => by rw [add_at, cell_of_row w b _ _ _ _ hcl]; simpa using hu) (ones_mem ho) (by unfold maxLen; omega) hbound (Nat.zero_le _)
  obtain ⟨g, cap, rfl⟩ := ownsRow_succ hown
  refine wl_run (v := .slice (some ⟨g, 0, none⟩) (xs.length + 1) cap) hg hdn hrun ?_
  have hmine : ∀ b', (Value.slice (some ⟨g, 0, none⟩) (xs.length + 1) cap).ownBlock = some b' → (Value.slice A k c).ownBlock = some b' ∨ b' = w.heap.size := by
    intro b' hb2
    rcases hob with e1 | e1
    · left; exact e1.symm.trans hb2
    · right
      have := e1.symm.trans hb2
      injection this with e2
      exact e2.symm
  refine kk g cap w' (S.rep (hr.rep _) hgr ⟨fun b' hb' => ?_, ?_, ?_⟩ ?_)
  · rcases hmine b' hb' with e1 | e1
    · exact h1 b' e1
    · exact .inl (by have := S.le; omega)
  · intro c' hc'
    rcases List.mem_append.1 hc' with hc' | hc'
    · exact h2 c' hc'
    · rcases List.mem_cons.1 hc' with rfl | hc'
      · exact hl'
      · cases hc'
  · simpa using hown
  · intro b' hb'
    exact (hmine b' hb').imp id (fun e => by omega)
theorem add_zero' (a : Addr) : a.add 0 = a := by unfold Addr.add; rw [if_pos rfl]
/-! ### the world taken anew as the old one -/
def blks : List HO → List Nat
  | [] => []
  | o :: r => (match o.own with | some b => [b] | none => []) ++ blks r
theorem blks_mem {h : List HO} {b : Nat} (hb : b ∈ blks h) : ∃ o ∈ h, o.own = some b := by
  induction h with
  | nil => cases hb
  | cons o r ih =>
    simp only [blks, List.mem_append] at hb
    rcases hb with hb | hb
    · cases ho : o.own with
      | none => rw [ho] at hb; cases hb
      | some b' =>
        rw [ho] at hb
        simp only [List.mem_singleton] at hb
        subst hb
        exact ⟨o, List.mem_cons_self, ho⟩
    · obtain ⟨o', h1, h2⟩ := ih hb
      exact ⟨o', List.mem_cons_of_mem _ h1, h2⟩
theorem mem_blks {h : List HO} {o : HO} {b : Nat} (ho : o ∈ h) (hb : o.own = some b) : b ∈ blks h := by
  induction h with
  | nil => cases ho
  | cons x r ih =>
    simp only [blks, List.mem_append]
    rcases List.mem_cons.1 ho with rfl | ho
    · left; rw [hb]; simp
    · exact .inr (ih ho)
theorem Sat.blks_mine (S : Sat w0 M h w) {b : Nat} (hb : b ∈ blks h) : Mine w0 M b ∧ b < w.heap.size := by
  obtain ⟨o, ho, he⟩ := blks_mem hb
  exact ⟨(S.ok o ho).mine he, (S.ok o ho).lt he⟩
theorem Sat.rebase (S : Sat w0 M h w) : Sat w (blks h) h w :=
  ⟨Keeps.refl _ _, fun o ho => by
    have hk := S.ok o ho
    cases o with
    | cl b T cs => exact ⟨hk.1, .inr (mem_blks ho rfl)⟩
    | rw base v E size xs => exact ⟨fun b hb => .inr (mem_blks ho hb), hk.2⟩
    | pr b φ => exact ⟨hk.1, hk.2.1, .inr (mem_blks ho rfl)⟩, S.apart⟩
theorem Old.rebase {A : Option Addr} {size m : Nat} {cell : Nat → List Value} (O : Old w0 M A size m cell) (hc : 0 < m → cell 0 ≠ []) (S : Sat w0 M h w) : Old w (blks h) A size m cell := by
  refine ⟨O.now S, fun hm a ha hb => ?_⟩
  rcases (S.blks_mine hb).1 with h1 | h1
  · have hu : ∃ u, (cell 0)[0]? = some u := by
      cases hx : cell 0 with
      | nil => exact absurd hx (hc hm)
      | cons u r => exact ⟨u, rfl⟩
    obtain ⟨u, hu⟩ := hu
    have := World.block_lt_of_cell? _ _ (O.rd.at_ 0 0 u hm hu)
    unfold ea at this
    rw [block_add, ha] at this
    simp only [Option.getD_some] at this
    omega
  · exact O.out hm a ha h1
/-- memory that a call has laid -/
theorem Old.fresh {A : Option Addr} {size m : Nat} {cell : Nat → List Value} (S : Sat w0 M h w) (K : Keeps [] w w') (R : Rd w' A size m cell) (hf : 0 < m → ∀ a, A = some a → w.heap.size ≤ a.block) : Old w' (blks h) A size m cell :=
  ⟨R, fun hm a ha hb => by
    have := (S.blks_mine hb).2
    have := hf hm a ha
    omega⟩
theorem Keeps.join {h' : List HO} (S : Sat w0 M h w) (S' : Sat w (blks h) h' w') : Keeps M w0 w' :=
  ⟨S'.keeps.os.trans S.keeps.os, S'.keeps.tape.trans S.keeps.tape, S'.keeps.output.trans S.keeps.output, Nat.le_trans S.keeps.size S'.keeps.size, fun k hk hn =>
    (S'.keeps.block k (Nat.lt_of_lt_of_le hk S.keeps.size) (fun hb => by
      rcases (S.blks_mine hb).1 with h1 | h1
      · omega
      · exact hn h1)).trans (S.keeps.block k hk hn)⟩
/-- a slice of the call's own as a result -/
def RowR (V : Value → Value) (E size : Nat) (xs : List (List Value)) (w : World) : Value → World → Prop :=
  fun v w' => ∃ A c, v = V (.slice A xs.length c) ∧ Keeps [] w w' ∧ w'.ownsRow w.heap.size E size (.slice A xs.length c) xs.length xs.flatten ∧ ∀ c ∈ xs, c.length = size
theorem ownsRow_base {base base' E size k : Nat} {v : Value} {xs : List Value} (hb : base' ≤ base) (ho : w.ownsRow base E size v k xs) : w.ownsRow base' E size v k xs := by
  refine ⟨ho.1, ?_⟩
  rcases ho.2 with h1 | ⟨g, cap, cur, h1, h2, h3⟩
  · exact .inl h1
  · exact .inr ⟨g, cap, cur, h1, by omega, h3⟩
theorem Sat.row (S : Sat w0 M h w) {A : Option Addr} {c E size : Nat} {xs : List (List Value)} (K : Keeps [] w w') (ho : w'.ownsRow w.heap.size E size (.slice A xs.length c) xs.length xs.flatten) (hl : ∀ c ∈ xs, c.length = size) :
    Sat w0 M (.rw 0 (.slice A xs.length c) E size xs :: h) w' :=
  S.add K.grown ⟨fun b hb => .inl (Nat.le_trans S.le (ho.lt b hb).1), hl, ownsRow_base (Nat.zero_le _) ho⟩ (fun b hb => (ho.lt b hb).1)
theorem Sat.toRow (S : Sat w [] h w') {A : Option Addr} {c E size : Nat} {xs : List (List Value)} (hh : Has h (.rw 0 (.slice A xs.length c) E size xs)) : w'.ownsRow w.heap.size E size (.slice A xs.length c) xs.length xs.flatten ∧ ∀ c ∈ xs, c.length = size := by
  obtain ⟨h1, h2, h3⟩ := S.ok _ hh.mem
  refine ⟨⟨h3.1, ?_⟩, h2⟩
  rcases h3.2 with h4 | ⟨g, cap, cur, h4, h5, h6⟩
  · exact .inl h4
  · refine .inr ⟨g, cap, cur, h4, ?_, h6⟩
    exact (h1 g (by rw [h4]; rfl)).resolve_right (by simp)
/-! ### stores into rows; copies -/
theorem flat_set {size : Nat} : ∀ (xs : List (List Value)) (i off : Nat) (v : Value), (∀ c ∈ xs, c.length = size) → i < xs.length → off < size → (xs.set i ((xs.getD i []).set off v)).flatten = xs.flatten.set (i * size + off) v
  | [], i, off, v, _, hi, _ => by simp at hi
  | x :: xs, 0, off, v, hl, _, ho => by
    have h0 : x.length = size := hl x List.mem_cons_self
    simp only [List.set_cons_zero, List.getD_cons_zero, List.flatten_cons, Nat.zero_mul, Nat.zero_add]
    rw [List.set_append_left _ _ (by omega)]
  | x :: xs, i + 1, off, v, hl, hi, ho => by
    have h0 : x.length = size := hl x List.mem_cons_self
    simp only [List.set_cons_succ, List.getD_cons_succ, List.flatten_cons]
    rw [flat_set xs i off v (fun c hc => hl c (List.mem_cons_of_mem _ hc)) (by simpa using hi) ho, List.set_append_right _ _ (by rw [h0, Nat.succ_mul]; omega)]
    congr 2
    rw [h0, Nat.succ_mul]; omega
theorem x_storeRow {T E size i off m c : Nat} {A : Option Addr} {v : Value} {xs : List (List Value)} {F : HO → List HO} (S : Sat w0 M h w) (hg : want ops f ⟨none, .store T x y, ty, ps, af, gd⟩ = true)
    (hx : fev f x = .pointer (some (ea A size i off))) (hy : Is (fev f y) v) (h1 : one v = true) (hs : (P.info? T).map (·.size) = some 1) (hr : RepF h (.rw 0 (.slice A m c) E size xs) F) (hi : i < xs.length) (ho : off < size)
    (k : ∀ w', Sat w0 M (F (.rw 0 (.slice A m c) E size (xs.set i ((xs.getD i []).set off v)))) w' → WL P ro n ops Q rest D f w') :
    WL P ro n ops Q (⟨none, .store T x y, ty, ps, af, gd⟩ :: rest) D f w := by
  obtain ⟨hm, hl, hrow⟩ := S.ok _ (hr.rep (.rw 0 (.slice A m c) E size xs)).mem
  rcases hrow.2 with ⟨_, h0⟩ | ⟨g, cap, cur, hv, hb, hgc, hnc, hcm, hcs, htake⟩
  · omega
  · simp only [Value.slice.injEq] at hv
    obtain ⟨rfl, rfl, rfl⟩ := hv
    have hp : ea (some ⟨g, 0, none⟩) size i off = ⟨g, i * size + off, none⟩ := by
      unfold ea; simp only [Option.getD_some]; rw [add_at, Nat.zero_add]
    have hlt : i * size + off < xs.length * size := by
      have h2 : (i + 1) * size ≤ xs.length * size := Nat.mul_le_mul_right _ hi
      rw [Nat.succ_mul] at h2
      omega
    have hle : xs.length * size ≤ c * size := Nat.mul_le_mul_right _ hnc
    have hone : cl1 v = [v] := by cases v <;> first | rfl | (simp [one] at h1)
    obtain ⟨iT, hi1, hi2⟩ := Option.map_eq_some_iff.1 hs
    have hrun := run_storeCells_at P g (i * size + off) E [v] 0 cur w hgc (by simp; omega) (by intro u hu; simp only [List.mem_singleton] at hu; subst hu; rw [← one_eq]; exact h1)
    have hrow2 : (cur.toList.take (i * size + off + 0) ++ [v] ++ cur.toList.drop (i * size + off + 0 + [v].length)) = cur.toList.set (i * size + off) v := by
      rw [List.set_eq_take_append_cons_drop, if_pos (by simp; omega)]
      simp
    refine wl_runSkip (w' := w.setRow g (cur.toList.set (i * size + off) v).toArray) hg rfl ?_ (k _ ?_)
    · unfold execOp
      simp only [Instr.storeAt, hx, hp, Instr.sureAddr, Sem.run_bind, Sem.run_pure, Result.andThen_ok, hy.eq, storeVar, sizeOf, typeInfo, run_program, hi1, hi2]
      rw [← cl1_eq, hone]
      simp only [List.size_toArray, List.length_cons, List.length_nil, Nat.zero_add, ne_eq, not_true_eq_false, if_false, Sem.run_pure, Result.andThen_ok]
      rw [hrun]
      simp only [Result.andThen_ok]
      rw [← hrow2]
    · refine S.rep (hr.rep _) ⟨rfl, rfl, rfl, by simp, fun k _ hk => setRow_other w g k _ (fun e => hk (by rw [e]; rfl))⟩ ⟨hm, ?_, ?_, ?_⟩ (fun b' hb' => .inl hb')
      · intro r hr'
        rcases List.mem_or_eq_of_mem_set hr' with h2 | h2
        · exact hl r h2
        · subst h2
          rw [List.length_set]
          exact hl _ (getD_mem [] hi)
      · rw [flat_set xs i off v hl hi ho]
        simpa using hrow.1
      · refine .inr ⟨g, c, (cur.toList.set (i * size + off) v).toArray, by simp, Nat.zero_le _, setRow_heap w g _ _ E _ hgc, by simpa using hnc, hcm, by simpa using hcs, ?_⟩
        rw [flat_set xs i off v hl hi ho, ← htake]
        simp [List.take_set]
theorem flat_get {α : Type} {f : α → List Value} {size : Nat} (z : α) (hs : ∀ a, (f a).length = size) : ∀ (l : List α) (j : Nat) (u : Value), (l.flatMap f)[j]? = some u → ∃ i o, i < l.length ∧ j = i * size + o ∧ (f (l.getD i z))[o]? = some u
  | [], j, u, h => by simp at h
  | a :: l, j, u, h => by
    rw [List.flatMap_cons] at h
    by_cases hj : j < (f a).length
    · rw [List.getElem?_append_left hj] at h
      exact ⟨0, j, by simp, by simp, h⟩
    · rw [List.getElem?_append_right (by omega)] at h
      obtain ⟨i, o, h1, h2, h3⟩ := flat_get z hs l _ u h
      refine ⟨i + 1, o, by simpa using h1, ?_, by simpa using h3⟩
      rw [hs] at h2 hj
      rw [Nat.succ_mul]; omega
theorem x_slice0 {T : TypeId} {A : Option Addr} {m c size : Nat} {kd kd' : IntKind} {y' : Operand} (hg : want ops f ⟨some d, .slice T x none (some y) (some y'), ty, ps, af, gd⟩ = true) (hdn : Nat.blt d n = true) (hx : fev f x = .slice A m c) (hy : fev f y = .int kd 0) (hy' : fev f y' = .int kd' 0) (hs : elemSize P T = some size)
    (k : WL P ro n ops Q rest D (upd f d (.slice A 0 0)) w) : WL P ro n ops Q (⟨some d, .slice T x none (some y) (some y'), ty, ps, af, gd⟩ :: rest) D f w := by
  refine wl_val hg rfl hdn (v0 := .slice A 0 0) ?_ (.z .slice) k
  unfold elemSize at hs
  split at hs <;> try (cases hs; done)
  rename_i el hu
  obtain ⟨i, hi, hsz⟩ := Option.map_eq_some_iff.1 hs
  simp [execOp, Instr.sliceAt, Instr.slice, Instr.sliceBounds, Instr.sliceBound, run_underlying hu, hx, hy, hy', Sem.run_bind, Sem.run_pure, Result.andThen, asIntOf, sizeOf, typeInfo, hi, go_sem]
theorem apk_parts {T e size bytes : Nat} (hk : apk P T = some (e, size, bytes)) : P.underlying T = some (.slice e) ∧ ∃ i z, P.info? e = some i ∧ i.zero = some z ∧ i.size = size ∧ i.bytes = bytes ∧ z.cells.size = size ∧ 0 < size := by
  unfold apk at hk
  split at hk <;> try (cases hk; done)
  rename_i e' hu
  split at hk <;> try (cases hk; done)
  rename_i i hi
  split at hk <;> try (cases hk; done)
  rename_i z hz
  cases hb : Nat.beq (cl1 z).length i.size && Nat.blt 0 i.size with
  | false => rw [hb] at hk; simp at hk
  | true =>
    rw [hb] at hk
    simp only [cond_true, Option.some.injEq, Prod.mk.injEq] at hk
    obtain ⟨rfl, rfl, rfl⟩ := hk
    simp only [Bool.and_eq_true] at hb
    have hz1 := Nat.eq_of_beq_eq_true hb.1
    have h4 : 0 + 1 ≤ i.size := by simpa [Nat.blt] using hb.2
    exact ⟨hu, i, z, hi, hz, rfl, rfl, by rw [← cl1_eq]; simpa using hz1, by omega⟩
theorem PV.up {o : Oper} (H : PV P ro ops Q w0 M h ((0, o) :: prest) D f) : PV P ro ops Q w0 M h ((1, o) :: prest) D f := fun w S => by
  obtain ⟨v, hq, H'⟩ := H
  exact hq.beh S ⟨h, S, St.keeps h (Keeps.refl _ _), ⟨[], List.Perm.refl _⟩, H'⟩
/-- a read that hangs on old memory alone -/
theorem PV.up3 {o : Oper} (H : PV P ro ops (fun _ D f _ => PV P ro ops Q w0 M h prest D f) w0 M [] [(0, o)] D f) : PV P ro ops Q w0 M h ((3, o) :: prest) D f := by
  obtain ⟨v, hq, H'⟩ := H
  exact ⟨v, hq, H' w0 (Sat.start M w0)⟩
/-- append(x[:0:0], y...), y not empty: a copy -/
theorem x_appendAll {α : Type} {T e size bytes c : Nat} {A : Option Addr} {l : List α} {en : α → List Value} (z : α) (hs : ∀ a, (en a).length = size) (R : Rd w A size l.length (fun i => en (l.getD i z))) (hsm : l.length < 1000000000) (hpos : 0 < l.length) (S : Sat w0 M h w)
    (hg : want ops f ⟨some d, .call ⟨.builtin .append, #[x, y], #[T, T]⟩, ty, ps, af, gd⟩ = true) (hdn : Nat.blt d n = true) (hk : apk P T = some (e, size, bytes)) (hx : fev f x = .slice A 0 0) (hy : fev f y = .slice A l.length c) (hby : Nat.ble bytes 100000 = true)
    (kk : ∀ g cap w', Sat w0 M (.rw 0 (.slice (some ⟨g, 0, none⟩) l.length cap) e size (l.map en) :: h) w' → l.length ≤ cap → w.heap.size ≤ g → Keeps [] w w' → WL P ro n ops Q rest D (upd f d (.slice (some ⟨g, 0, none⟩) l.length cap)) w') :
    WL P ro n ops Q (⟨some d, .call ⟨.builtin .append, #[x, y], #[T, T]⟩, ty, ps, af, gd⟩ :: rest) D f w := by
  obtain ⟨hu, i, zv, hi, hz, h1, h2, h3, h4⟩ := apk_parts hk
  obtain ⟨a, rfl⟩ := Option.isSome_iff_exists.1 (R.some_ hpos)
  have hby' := Nat.le_of_ble_eq_true hby
  have hbound : (0 + l.length) * bytes ≤ 140737488355328 := Nat.le_trans (Nat.mul_le_mul (show 0 + l.length ≤ 1000000000 by omega) hby') (by decide)
  have hflen : ∀ l : List α, (l.flatMap en).length = l.length * size := by
    intro l
    induction l with
    | nil => simp
    | cons a l ih => rw [List.flatMap_cons, List.length_append, ih, hs, List.length_cons, Nat.succ_mul]; omega
  obtain ⟨v', w', hrun, hown, hgr⟩ := run_append_arg_grows (P := P) (w := w) T ty e i zv size bytes hu hi hz h1 h2 h3 h4 a 0 0 [] (by simp) (by simp) a l.length c (l.flatMap en) (hflen l)
    (fun j u hju => by
      obtain ⟨i, o, hi, rfl, ho⟩ := flat_get z hs l j u hju
      have := R.at_ i o u hi ho
      exact this) (by omega) (by unfold maxLen; omega) hbound
  rw [Nat.zero_add, List.nil_append] at hown
  obtain ⟨m, hm⟩ : ∃ m, l.length = m + 1 := ⟨l.length - 1, by omega⟩
  have hown2 := hown
  rw [hm] at hown2
  obtain ⟨g, cap, rfl⟩ := ownsRow_succ hown2
  rw [← hm] at hown
  have hcap : l.length ≤ cap ∧ w.heap.size ≤ g := by
    rcases hown.2 with ⟨h5, _⟩ | ⟨g', cap', cur, h5, h6, _, h7, _⟩
    · simp at h5
    · simp only [Value.slice.injEq, Option.some.injEq, Addr.mk.injEq, and_true, true_and] at h5
      obtain ⟨rfl, rfl⟩ := h5
      exact ⟨h7, h6⟩
  have hexec : (execOp (fev f) ⟨some d, .call ⟨.builtin .append, #[x, y], #[T, T]⟩, ty, ps, af, gd⟩).run P w = .ok (.value (.slice (some ⟨g, 0, none⟩) l.length cap)) w' := by
    rw [← hm] at hrun
    simp [execOp, resolve, invoke, builtin, hx, hy, hrun, Result.andThen, Sem.run_bind, Sem.run_pure]
  refine wl_run (v := .slice (some ⟨g, 0, none⟩) l.length cap) hg hdn hexec (kk g cap w' ?_ hcap.1 hcap.2 ⟨hgr.os, hgr.tape, hgr.output, hgr.size, fun k hk _ => hgr.block k hk (by simp)⟩)
  refine S.add hgr ⟨fun b hb => ?_, fun c' hc' => ?_, ?_⟩ (fun b hb => ?_)
  · have e1 : g = b := by injection hb
    subst e1
    exact .inl (Nat.le_trans S.le hcap.2)
  · obtain ⟨b, _, rfl⟩ := List.mem_map.1 hc'
    exact hs b
  · rw [List.length_map, ← List.flatMap_def]
    exact ownsRow_base (Nat.zero_le _) hown
  · have e1 : g = b := by injection hb
    subst e1
    exact hcap.2
theorem x_append0 {T e size bytes c : Nat} {A : Option Addr} (hg : want ops f ⟨some d, .call ⟨.builtin .append, #[x, y], #[T, T]⟩, ty, ps, af, gd⟩ = true) (hdn : Nat.blt d n = true) (hk : apk P T = some (e, size, bytes)) (hx : fev f x = .slice A 0 0) (hy : fev f y = .slice A 0 c)
    (kk : WL P ro n ops Q rest D (upd f d (.slice A 0 0)) w) : WL P ro n ops Q (⟨some d, .call ⟨.builtin .append, #[x, y], #[T, T]⟩, ty, ps, af, gd⟩ :: rest) D f w := by
  obtain ⟨hu, i, zv, hi, hz, h1, h2, h3, h4⟩ := apk_parts hk
  refine wl_val hg rfl hdn (v0 := .slice A 0 0) ?_ (.z .slice) kk
  have hrun : (Builtin.append_ #[T, T] ty #[.slice A 0 0, .slice A 0 c]).run P w = .ok (.slice A 0 0) w := by
    cases A <;> simp [Builtin.append_, run_underlying hu, sizeOf, typeInfo, hi, Builtin.lenOf, Builtin.firstCells, storeCells, add_zero', go_sem]
  simp [execOp, resolve, invoke, builtin, hx, hy, hrun, Result.andThen, Sem.run_bind, Sem.run_pure]
/-- an array's element at an index that is not known -/
theorem x_indexAggS {T : TypeId} {cs : List Value} {z : Int} {m : Nat} {kd : IntKind} {tb : Int → Value} (hg : want ops f ⟨some d, .index T x y, ty, ps, af, gd⟩ = true) (hdn : Nat.blt d n = true)
    (hx : fev f x = .agg cs.toArray) (hy : fev f y = .int kd z) (ht : ∀ i : Nat, i < m → arrPart P T cs i = some (tb i)) (h0 : 0 ≤ z) (h1 : z < m)
    (k : WL P ro n ops Q rest D (upd f d (tb z)) w) : WL P ro n ops Q (⟨some d, .index T x y, ty, ps, af, gd⟩ :: rest) D f w := by
  obtain ⟨i, rfl⟩ : ∃ i : Nat, z = i := ⟨z.toNat, by omega⟩
  exact wl_val hg rfl hdn (r_indexAgg rfl hx hy (ht i (by omega))) (.z .any) k
theorem y_indexAggS {T : TypeId} {cs : List Value} {z : Int} {m : Nat} {kd : IntKind} {tb : Int → Value} (hg : want ops f ⟨some d, .index T x y, ty, ps, af, gd⟩ = true)
    (hx : fev f x = .agg cs.toArray) (hy : fev f y = .int kd z) (ht : ∀ i : Nat, i < m → arrPart P T cs i = some (tb i)) (h0 : 0 ≤ z) (h1 : z < m)
    (k : PV P ro ops Q w0 M h prest D (upd f d (tb z))) : PV P ro ops Q w0 M h ((0, ⟨some d, .index T x y, ty, ps, af, gd⟩) :: prest) D f := by
  obtain ⟨i, rfl⟩ : ∃ i : Nat, z = i := ⟨z.toNat, by omega⟩
  exact y_val hg rfl (fun w _ => r_indexAgg rfl hx hy (ht i (by omega))) (.z .any) k
theorem run_sliceHi {T : TypeId} {A : Option Addr} {m c size : Nat} {kd : IntKind} {e : Int} (hx : fev f x = .slice A m c) (hy : fev f y = .int kd e) (hs : elemSize P T = some size) (h0 : 0 ≤ e) (h1 : e ≤ c) :
    (execOp (fev f) ⟨some d, .slice T x none (some y) none, ty, ps, af, gd⟩).run P w = .ok (.value (.slice A e.toNat c)) w := by
  unfold elemSize at hs
  split at hs <;> try (cases hs; done)
  rename_i el hu
  obtain ⟨i, hi, hsz⟩ := Option.map_eq_some_iff.1 hs
  simp [execOp, Instr.sliceAt, Instr.slice, Instr.sliceBounds, Instr.sliceBound, run_underlying hu, hx, hy, Sem.run_bind, Sem.run_pure, Result.andThen, asIntOf, h0, h1, sizeOf, typeInfo, hi, go_sem]
  try (cases A <;> simp [add_zero'])
theorem run_sliceLo {T : TypeId} {A : Option Addr} {m c size : Nat} {kd : IntKind} {e : Int} (hx : fev f x = .slice A m c) (hy : fev f y = .int kd e) (hs : elemSize P T = some size) (h0 : 0 ≤ e) (h1 : e ≤ m) :
    (execOp (fev f) ⟨some d, .slice T x (some y) none none, ty, ps, af, gd⟩).run P w = .ok (.value (.slice (sub A e.toNat size c) (m - e.toNat) (c - e.toNat))) w := by
  unfold elemSize at hs
  split at hs <;> try (cases hs; done)
  rename_i el hu
  obtain ⟨i, hi, hsz⟩ := Option.map_eq_some_iff.1 hs
  subst hsz
  simp [execOp, Instr.sliceAt, Instr.slice, Instr.sliceBounds, Instr.sliceBound, run_underlying hu, hx, hy, Sem.run_bind, Sem.run_pure, Result.andThen, asIntOf, h0, h1, sizeOf, typeInfo, hi, go_sem, sub]
theorem x_sliceHi {T : TypeId} {A : Option Addr} {m c size : Nat} {kd : IntKind} {e : Int} (hg : want ops f ⟨some d, .slice T x none (some y) none, ty, ps, af, gd⟩ = true) (hdn : Nat.blt d n = true) (hx : fev f x = .slice A m c) (hy : fev f y = .int kd e) (hs : elemSize P T = some size) (h0 : 0 ≤ e) (h1 : e ≤ c)
    (k : WL P ro n ops Q rest D (upd f d (.slice A e.toNat c)) w) : WL P ro n ops Q (⟨some d, .slice T x none (some y) none, ty, ps, af, gd⟩ :: rest) D f w :=
  wl_val hg rfl hdn (run_sliceHi hx hy hs h0 h1) (.z .slice) k
theorem x_sliceLo {T : TypeId} {A : Option Addr} {m c size sz : Nat} {kd : IntKind} {e : Int} (hg : want ops f ⟨some d, .slice T x (some y) none none, ty, ps, af, gd⟩ = true) (hdn : Nat.blt d n = true) (hx : fev f x = .slice A m c) (hy : fev f y = .int kd e) (hs : elemSize P T = some size) (hz : IsN size sz) (h0 : 0 ≤ e) (h1 : e ≤ m)
    (k : WL P ro n ops Q rest D (upd f d (.slice (sub A e.toNat sz c) (m - e.toNat) (c - e.toNat))) w) : WL P ro n ops Q (⟨some d, .slice T x (some y) none none, ty, ps, af, gd⟩ :: rest) D f w :=
  by
  have hz := hz.eq
  subst hz
  exact wl_val hg rfl hdn (run_sliceLo hx hy hs h0 h1) (.z .slice) k
end
end Go.Proofs.Ytfkcihcbmlcajaa
