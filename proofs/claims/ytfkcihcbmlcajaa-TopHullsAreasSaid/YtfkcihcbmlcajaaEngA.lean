/- Frames as functions, the world as a list of heap facts: the core of a small calculus over the fenced wp. No statement of the seat is proved here. -/
import Derived.WalkKit
import Derived.KernelRfl
import Derived.CallsIn
import Derived.TacticsIn
import Derived.LoopIn
import Derived.RangeFuncLeaves
import Derived.RangeFuncIn
import Derived.RangeFuncRecord
namespace Go.Proofs.Ytfkcihcbmlcajaa
set_option linter.unusedVariables false
set_option linter.unusedSimpArgs false
open Go Go.RowKit

/-- the wide fence, perhaps in a round -/
def FW (ro : Option Nat) : Fence := { fn := fun _ => True, depth := none, alive := false, round := ro }
theorem FW_none : FW none = Fence.wide := rfl

abbrev Fm := Nat → Value
def upd (f : Fm) (i : Nat) (v : Value) : Fm := fun j => bif Nat.beq i j then v else f j
def updo (f : Fm) (i : Option Nat) (v : Value) : Fm := match i with | some i => upd f i v | none => f
def ini (l : List Value) : Fm := fun i => l.getD i undef
def fev (f : Fm) : Operand → Value
  | .tmp t => f t
  | .const v => v
  | .global g => .pointer (some ⟨g, 0, none⟩)
  | .func g => .func (.func g) #[] #[]
def evs (f : Fm) : List Operand → List Value
  | [] => []
  | x :: r => fev f x :: evs f r
def gy (ops : Array Oper) (f : Fm) (j : Nat) : Option Bool :=
  match (ops[j]?).bind (·.dst) with
  | some t => (match f t with | .bool b => some b | _ => none)
  | none => none

/-- the activation a reads as f -/
structure Fr (n : Nat) (D : List Deferred) (a : Act) (f : Fm) : Prop where
  defers : a.defers = D
  size : a.tmps.size = n
  tmp : ∀ i, a.tmps.getD i undef = f i

theorem Fr.eval {n : Nat} {D : List Deferred} {a : Act} {f : Fm} (h : Fr n D a f) : a.eval = fev f := by
  funext x
  cases x with
  | tmp t => exact h.tmp t
  | const v => rfl
  | global g => rfl
  | func g => rfl

theorem Fr.yielded {n : Nat} {D : List Deferred} {a : Act} {f : Fm} (h : Fr n D a f) (ops : Array Oper) : yielded ops a.tmps = gy ops f := by
  funext j
  unfold Go.yielded gy
  cases (ops[j]?).bind (·.dst) with
  | none => rfl
  | some t =>
    have ht := h.tmp t
    simp only [Option.bind_some]
    rcases Nat.lt_or_ge t a.tmps.size with hlt | hge
    · have e : a.tmps[t]? = some (f t) := by
        rw [Array.getElem?_eq_getElem hlt]
        rw [Array.getD_eq_getD_getElem?, Array.getElem?_eq_getElem hlt] at ht
        simpa using ht
      rw [e]
      cases f t <;> rfl
    · have e : a.tmps[t]? = none := Array.getElem?_eq_none hge
      rw [Array.getD_eq_getD_getElem?, e] at ht
      rw [e, ← ht]
      rfl

theorem Fr.put {n : Nat} {D : List Deferred} {a : Act} {f : Fm} (h : Fr n D a f) {d : Nat} (v : Value) (hd : Nat.blt d n = true) : Fr n D (a.put (some d) v) (upd f d v) := by
  have hd' : d < n := by
    have h1 : d + 1 ≤ n := by simpa [Nat.blt] using hd
    omega
  refine ⟨h.defers, by simp [Act.put, h.size], fun i => ?_⟩
  have hi := h.tmp i
  simp only [Act.put, upd, Array.getD_eq_getD_getElem?, Array.getElem?_setIfInBounds] at hi ⊢
  by_cases e : d = i
  · subst e
    simp [h.size, hd', Nat.beq_eq_true_eq]
  · have e2 : Nat.beq d i = false := by
      cases hb : Nat.beq d i with
      | false => rfl
      | true => exact absurd (Nat.eq_of_beq_eq_true hb) e
    simp [e, e2, hi]

def dstOk (n : Nat) : Option Nat → Bool
  | some d => Nat.blt d n
  | none => true
theorem Fr.puto {n : Nat} {D : List Deferred} {a : Act} {f : Fm} (h : Fr n D a f) {d : Option Nat} (v : Value) (hd : dstOk n d = true) : Fr n D (a.put d v) (updo f d v) := by
  cases d with
  | none => exact h
  | some d => exact h.put v hd

abbrev Post := Exit → List Deferred → Fm → World → Prop
/-- Q on activations -/
def lift (n : Nat) (Q : Post) : Exit → Act → World → Prop := fun e a w => ∃ D f, Fr n D a f ∧ Q e D f w

section
variable (P : Program) (ro : Option Nat) (n : Nat)
def CW (c : Code) (Q : Post) (D : List Deferred) (f : Fm) (w : World) : Prop :=
  ∀ a, Fr n D a f → c.wpIn (FW ro) 0 P (lift n Q) a w
def WL (ops : Array Oper) (Q : Post) (l : List Oper) (D : List Deferred) (f : Fm) (w : World) : Prop :=
  ∀ a, Fr n D a f → wpListIn (FW ro) 0 P ops (lift n Q) l a w
end

def thenQ (K : List Deferred → Fm → World → Prop) (Q : Post) : Post
  | .normal, D, f, w => K D f w
  | e, D, f, w => Q e D f w
def blockQ (id : Nat) (Q : Post) : Post
  | .exit i, D, f, w => bif Nat.beq i id then Q .normal D f w else Q (.exit i) D f w
  | e, D, f, w => Q e D f w

section
variable {P : Program} {ro : Option Nat} {n : Nat} {Q : Post} {D : List Deferred} {f : Fm} {w : World}

theorem cw_mono {c : Code} {Q' : Post} (h : CW P ro n c Q D f w) (hq : ∀ e D f w, Q e D f w → Q' e D f w) : CW P ro n c Q' D f w :=
  fun a ha => wpIn_mono (h a ha) fun e a' w' ⟨D', f', hf, hQ⟩ => ⟨D', f', hf, hq _ _ _ _ hQ⟩

theorem cw_seq {x y : Code} (h : CW P ro n x (thenQ (CW P ro n y Q) Q) D f w) : CW P ro n (.seq x y) Q D f w := fun a ha => by
  refine wpIn_seq (wpIn_mono (h a ha) fun e a' w' ⟨D', f', hf, hQ⟩ => ?_)
  cases e with
  | normal => exact hQ a' hf
  | exit id => exact ⟨D', f', hf, hQ⟩
  | goto l => exact ⟨D', f', hf, hQ⟩
  | ret => exact ⟨D', f', hf, hQ⟩
  | panic c => exact ⟨D', f', hf, hQ⟩
  | outgrown => exact ⟨D', f', hf, hQ⟩

theorem cw_skip (h : Q .normal D f w) : CW P ro n .skip Q D f w := fun _ ha => wpIn_skip ⟨D, f, ha, h⟩
theorem cw_exit {id : Nat} (h : Q (.exit id) D f w) : CW P ro n (.exit id) Q D f w := fun _ ha => wpIn_exit ⟨D, f, ha, h⟩
theorem cw_ret (h : Q .ret D f w) : CW P ro n .ret Q D f w := fun _ ha => wpIn_ret ⟨D, f, ha, h⟩

theorem cw_block {id : Nat} {c : Code} (h : CW P ro n c (blockQ id Q) D f w) : CW P ro n (.block id c) Q D f w := fun a ha => by
  refine wpIn_block (wpIn_mono (h a ha) fun e a' w' ⟨D', f', hf, hQ⟩ => ?_)
  cases e with
  | exit i =>
    simp only [blockQ, Exit.inBlock] at hQ ⊢
    by_cases hi : i = id
    · subst hi
      rw [if_pos rfl]
      have e2 : Nat.beq i i = true := Nat.beq_refl i
      rw [e2] at hQ
      exact ⟨D', f', hf, hQ⟩
    · rw [if_neg hi]
      have e2 : Nat.beq i id = false := by
        cases hb : Nat.beq i id with
        | false => rfl
        | true => exact absurd (Nat.eq_of_beq_eq_true hb) hi
      rw [e2] at hQ
      exact ⟨D', f', hf, hQ⟩
  | normal => exact ⟨D', f', hf, hQ⟩
  | goto l => exact ⟨D', f', hf, hQ⟩
  | ret => exact ⟨D', f', hf, hQ⟩
  | panic c => exact ⟨D', f', hf, hQ⟩
  | outgrown => exact ⟨D', f', hf, hQ⟩

theorem cw_cond {c : Operand} {x y : Code} (t : Bool) (hc : fev f c = .bool t) (ht : t = true → CW P ro n x Q D f w) (hf : t = false → CW P ro n y Q D f w) :
    CW P ro n (.cond c x y) Q D f w := fun a ha => by
  refine wpIn_cond_split (t := t) (by rw [ha.eval]; exact hc) (fun h => ht h a ha) (fun h => hf h a ha)
theorem cw_true {c : Operand} {x y : Code} (hc : fev f c = .bool true) (h : CW P ro n x Q D f w) : CW P ro n (.cond c x y) Q D f w :=
  cw_cond true hc (fun _ => h) (fun h => by cases h)
theorem cw_false {c : Operand} {x y : Code} (hc : fev f c = .bool false) (h : CW P ro n y Q D f w) : CW P ro n (.cond c x y) Q D f w :=
  cw_cond false hc (fun h => by cases h) (fun _ => h)
theorem cw_dec {c : Operand} {x y : Code} {p : Prop} [Decidable p] (hc : fev f c = .bool (decide p)) (ht : p → CW P ro n x Q D f w) (hf : ¬ p → CW P ro n y Q D f w) :
    CW P ro n (.cond c x y) Q D f w := cw_cond _ hc (fun h => ht (of_decide_eq_true h)) (fun h => hf (of_decide_eq_false h))
theorem cw_eq {c : Operand} {x y : Code} {p q : Int} (hc : fev f c = .bool (p == q)) (ht : p = q → CW P ro n x Q D f w) (hf : ¬ p = q → CW P ro n y Q D f w) :
    CW P ro n (.cond c x y) Q D f w := cw_cond _ hc (fun h => ht (eq_of_beq h)) (fun h => hf (fun e => by subst e; simp at h))
theorem cw_ne {c : Operand} {x y : Code} {p q : Int} (hc : fev f c = .bool (p != q)) (ht : ¬ p = q → CW P ro n x Q D f w) (hf : p = q → CW P ro n y Q D f w) :
    CW P ro n (.cond c x y) Q D f w := cw_cond _ hc (fun h => ht (fun e => by subst e; simp at h)) (fun h => hf (by simpa using h))
theorem cw_not {c : Operand} {x y : Code} {b : Bool} (hc : fev f c = .bool (!b)) (ht : b = false → CW P ro n x Q D f w) (hf : b = true → CW P ro n y Q D f w) :
    CW P ro n (.cond c x y) Q D f w := cw_cond _ hc (fun h => ht (by simpa using h)) (fun h => hf (by simpa using h))

theorem cw_region {id : Nat} {l : List Oper} (h : WL P ro n l.toArray Q l D f w) : CW P ro n (.region id l.toArray false) Q D f w :=
  fun a ha => wpIn_region_lit (h a ha)

theorem wl_nil {ops : Array Oper} (h : Q .normal D f w) : WL P ro n ops Q [] D f w := fun _ ha => ⟨D, f, ha, h⟩

def want (ops : Array Oper) (f : Fm) (o : Oper) : Bool := Region.wanted o (gy ops f)

theorem semAt_exec {ρ : Operand → Value} {o : Oper} {nx : Next} {w' : World} (h : (execOp ρ o).run P w = .ok nx w') (hn : ∀ d, nx ≠ .defer d) : (o.semAt ro ρ).run P w = .ok nx w' := by
  cases ro with
  | none => exact h
  | some l =>
    rw [Oper.semAt_eq]
    · exact h
    · intro c hc
      unfold execOp at h
      rw [hc] at h
      simp only [Sem.run_bind] at h
      cases hr : (resolve ρ c o.type).run P w with
      | ok d w1 => rw [hr] at h; simp [Result.andThen] at h; exact hn _ h.1.symm
      | halt x w1 => rw [hr] at h; simp [Result.andThen] at h

/-- an operation that gives a value, whatever it does to the world -/
theorem wl_run {ops : Array Oper} {rest : List Oper} {o : Oper} {v : Value} {w' : World} (hg : want ops f o = true) (hd : dstOk n o.dst = true)
    (hr : (execOp (fev f) o).run P w = .ok (.value v) w') (h : WL P ro n ops Q rest D (updo f o.dst v) w') : WL P ro n ops Q (o :: rest) D f w := fun a ha => by
  have hw : Region.wanted o (yielded ops a.tmps) = true := by rw [ha.yielded]; exact hg
  simp only [wpListIn, hw, if_true, Oper.wpIn]
  refine ⟨fun _ _ => trivial, ?_⟩
  rw [ha.eval, semAt_exec hr (by intro d; simp), Oper.uponIn_value]
  exact h _ (ha.puto v hd)
theorem wl_runSkip {ops : Array Oper} {rest : List Oper} {o : Oper} {w' : World} (hg : want ops f o = true) (hd : o.dst = none)
    (hr : (execOp (fev f) o).run P w = .ok .skip w') (h : WL P ro n ops Q rest D f w') : WL P ro n ops Q (o :: rest) D f w := fun a ha => by
  have hw : Region.wanted o (yielded ops a.tmps) = true := by rw [ha.yielded]; exact hg
  simp only [wpListIn, hw, if_true, Oper.wpIn]
  refine ⟨fun _ _ => trivial, ?_⟩
  rw [ha.eval, semAt_exec hr (by intro d; simp), Oper.uponIn_skip, hd]
  exact h _ ha
/-- an operation that is passed over -/
theorem wl_pass {ops : Array Oper} {rest : List Oper} {o : Oper} (hg : want ops f o = false) (hd : dstOk n o.dst = true)
    (h : WL P ro n ops Q rest D (updo f o.dst undef) w) : WL P ro n ops Q (o :: rest) D f w := fun a ha => by
  have hw : Region.wanted o (yielded ops a.tmps) = false := by rw [ha.yielded]; exact hg
  simp only [wpListIn, hw, Bool.false_eq_true, if_false]
  exact ⟨fun _ _ => trivial, h _ (ha.puto undef hd)⟩

/-- an operation that enters a function -/
theorem wl_enter {ops : Array Oper} {rest : List Oper} {o : Oper} {g : FuncId} {args : Array Value} {R : Ending → World → Prop} (hg : want ops f o = true) (hd : dstOk n o.dst = true)
    (hr : (execOp (fev f) o).run P w = .ok (.enter g args) w) (hc : Calls P g args w R)
    (h : ∀ e w', R e w' → ∃ v, e = .returned v ∧ WL P ro n ops Q rest D (updo f o.dst v) w') : WL P ro n ops Q (o :: rest) D f w := fun a ha => by
  have hw : Region.wanted o (yielded ops a.tmps) = true := by rw [ha.yielded]; exact hg
  simp only [wpListIn, hw, if_true, Oper.wpIn]
  refine ⟨fun _ _ => trivial, ?_⟩
  rw [ha.eval, semAt_exec hr (by intro d; simp), Oper.uponIn_enter]
  refine ⟨fun h => by simp [FW] at h, ?_⟩
  have hc' : CallsIn Fence.wide (0 - 1) P g args w R := callsIn_wide.2 hc
  have hc2 : CallsIn (FW ro) (0 - 1) P g args w R := hc'
  refine hc2.mono fun e w' hR => ?_
  obtain ⟨v, rfl, hk⟩ := h e w' hR
  exact hk _ (ha.puto v hd)

/-! ### the guard's own test, decided -/
theorem upd_self {f : Fm} {t : Nat} {v : Value} (h : f t = v) : upd f t v = f := by
  funext j
  unfold upd
  cases hb : Nat.beq t j with
  | false => rfl
  | true => have := Nat.eq_of_beq_eq_true hb; subst this; exact h.symm
theorem wl_split {ops : Array Oper} {l : List Oper} (t : Nat) {b : Bool} (hf : f t = .bool b)
    (h1 : b = true → WL P ro n ops Q l D (upd f t (.bool true)) w) (h2 : b = false → WL P ro n ops Q l D (upd f t (.bool false)) w) : WL P ro n ops Q l D f w := by
  cases b with
  | true => have := h1 rfl; rwa [upd_self hf] at this
  | false => have := h2 rfl; rwa [upd_self hf] at this
theorem wl_is {ops : Array Oper} {l : List Oper} (t : Nat) {b : Bool} (c : Bool) (hf : f t = .bool b) (hb : b = c)
    (h1 : WL P ro n ops Q l D (upd f t (.bool c)) w) : WL P ro n ops Q l D f w := by
  subst hb
  rwa [upd_self hf] at h1

/-! ### loops -/
def mask (S : List Nat) (g f : Fm) : Fm := fun i => bif S.elem i then g i else f i
def updl (f : Fm) : List Nat → List Value → Fm
  | i :: is, v :: vs => upd (updl f is vs) i v
  | _, _ => f
def Agree (S : List Nat) (g f : Fm) : Prop := ∀ i, S.elem i = false → g i = f i
theorem Agree.refl (S : List Nat) (f : Fm) : Agree S f f := fun _ _ => rfl
theorem Agree.trans {S : List Nat} {f g h : Fm} (h1 : Agree S f g) (h2 : Agree S g h) : Agree S f h := fun i hi => (h1 i hi).trans (h2 i hi)
theorem Agree.upd {S : List Nat} {g f : Fm} {i : Nat} {v : Value} (hi : S.elem i = true) (h : Agree S g f) : Agree S (upd g i v) f := fun j hj => by
  unfold Go.Proofs.Ytfkcihcbmlcajaa.upd
  cases hb : Nat.beq i j with
  | false => exact h j hj
  | true => have := Nat.eq_of_beq_eq_true hb; subst this; rw [hi] at hj; cases hj
theorem Agree.mask (S : List Nat) (g f : Fm) : Agree S (mask S g f) f := fun i hi => by unfold Go.Proofs.Ytfkcihcbmlcajaa.mask; rw [hi]; rfl
theorem Agree.updl {S ks : List Nat} {g f : Fm} {vs : List Value} (hk : ks.all (S.elem ·) = true) (h : Agree S g f) : Agree S (updl g ks vs) f := by
  induction ks generalizing vs with
  | nil => exact h
  | cons k ks ih =>
    simp only [List.all_cons, Bool.and_eq_true] at hk
    cases vs with
    | nil => exact h
    | cons v vs => exact (ih hk.2).upd hk.1
theorem updl_map (f : Fm) (ks : List Nat) : updl f ks (ks.map f) = f := by
  induction ks with
  | nil => rfl
  | cons k ks ih => simp only [List.map_cons, updl, ih]; exact upd_self rfl
theorem Agree.eq_mask {S : List Nat} {g f : Fm} (h : Agree S g f) : g = Go.Proofs.Ytfkcihcbmlcajaa.mask S g f := by
  funext i
  unfold Go.Proofs.Ytfkcihcbmlcajaa.mask
  cases hi : S.elem i with
  | true => rfl
  | false => exact h i hi

/-- a loop: S: the slots that the body writes; ks: those of which something is known at the head -/
theorem cw_loop {c : Code} (S ks : List Nat) (I : List Value → World → Prop) (μ : List Value → World → Nat) (h0 : I (ks.map f) w)
    (round : ∀ g vs w, I vs w → CW P ro n c (thenQ (fun D' f' w' => D' = D ∧ Agree S f' f ∧ I (ks.map f') w' ∧ μ (ks.map f') w' < μ vs w) Q) D (updl (mask S g f) ks vs) w) :
    CW P ro n (.loop c) Q D f w := fun a ha => by
  refine wpIn_loop (fun a' w' => ∃ g, Fr n D a' g ∧ Agree S g f ∧ I (ks.map g) w') (fun a' w' => μ (ks.map fun i => a'.tmps.getD i undef) w') ⟨f, ha, Agree.refl _ _, h0⟩ ?_
  rintro a1 w1 ⟨g, hg, hag, hI⟩
  have hb := round g (ks.map g) w1 hI
  have e : updl (mask S g f) ks (ks.map g) = g := by rw [← hag.eq_mask]; exact updl_map g ks
  rw [e] at hb
  refine wpIn_mono (hb a1 hg) fun x a' w' ⟨D', f', hf', hQ⟩ => ?_
  have hm : ∀ (b : Act) (g' : Fm), Fr n D b g' → (ks.map fun i => b.tmps.getD i undef) = ks.map g' := fun b g' hb => List.map_congr_left fun i _ => hb.tmp i
  cases x with
  | normal =>
    obtain ⟨rfl, hA, hI', hμ⟩ := hQ
    exact ⟨⟨f', hf', hA, hI'⟩, by show μ _ _ < μ _ _; rw [hm _ _ hf', hm _ _ hg]; exact hμ⟩
  | exit id => exact ⟨D', f', hf', hQ⟩
  | goto l => exact ⟨D', f', hf', hQ⟩
  | ret => exact ⟨D', f', hf', hQ⟩
  | panic c => exact ⟨D', f', hf', hQ⟩
  | outgrown => exact ⟨D', f', hf', hQ⟩

/-! ### a function -/
def resF (f : Fm) : ResultVar → Sem Value
  | .tmp t => pure (f t)
  | .cell a t => do loadVar t (← asAddr (f a))
def resultsF (fn : Func) (f : Fm) : Sem Value := do
  let vs ← fn.results.mapM (resF f)
  pure (if h : vs.size = 1 then vs[0] else .tuple vs)
theorem Fr.results {a : Act} (h : Fr n D a f) (fn : Func) : results fn a.tmps = resultsF fn f := by
  unfold Go.results resultsF
  refine congrArg (fun m => m >>= _) (congrArg (fun F => Array.mapM F fn.results) ?_)
  funext x
  cases x <;> simp only [h.tmp, resF]

def retQ (P : Program) (fn : Func) (R : Value → World → Prop) : Post
  | .normal, D, f, w | .ret, D, f, w => D = [] ∧ ∃ v, (resultsF fn f).run P w = .ok v w ∧ R v w
  | _, _, _, _ => False
/-- what a call gives: a value and a world -/
def RetP (R : Value → World → Prop) : Ending → World → Prop := fun e w => ∃ v, e = .returned v ∧ R v w

theorem ini_tmp (args : List Value) (m : Nat) (i : Nat) : (args.toArray ++ Array.replicate (m - args.length) undef).getD i undef = ini args i := by
  unfold ini
  rw [Array.getD_eq_getD_getElem?, Array.getElem?_append, List.getD_eq_getElem?_getD]
  by_cases h : i < args.length
  · simp [h]
  · simp [h]
    rw [Array.getElem?_replicate]
    split <;> rfl

theorem calls_of_cw {g : FuncId} {fn : Func} {c : Code} {args : List Value} {R : Value → World → Prop} (hf : P.funcs[g]? = some fn) (hb : fn.body = some c) (hl : Nat.ble args.length fn.ntmps = true)
    (h : CW P none fn.ntmps c (retQ P fn R) [] (ini args) w) : Calls P g args.toArray w (RetP R) := by
  have hl' : args.length ≤ fn.ntmps := Nat.le_of_ble_eq_true hl
  refine callsIn_wide.1 (callsIn_of_wp (n := 0) hf hb trivial (wpIn_mono (h _ ⟨rfl, ?_, ?_⟩) ?_))
  · simp; omega
  · intro i
    have := ini_tmp args fn.ntmps i
    simpa using this
  · rintro e a' w' ⟨D', f', hf', hQ⟩
    cases e with
    | normal =>
      obtain ⟨rfl, v, hr, hR⟩ := hQ
      exact ⟨hf'.defers, v, by rw [hf'.results]; exact hr, v, rfl, hR⟩
    | ret =>
      obtain ⟨rfl, v, hr, hR⟩ := hQ
      exact ⟨hf'.defers, v, by rw [hf'.results]; exact hr, v, rfl, hR⟩
    | exit id => exact hQ.elim
    | goto l => exact hQ.elim
    | panic c => exact hQ.elim
    | outgrown => exact hQ.elim
theorem q_ret {fn : Func} {R : Value → World → Prop} (v : Value) (hr : (resultsF fn f).run P w = .ok v w) (h : R v w) : retQ P fn R .ret [] f w := ⟨rfl, v, hr, h⟩
theorem q_end {fn : Func} {R : Value → World → Prop} (v : Value) (hr : (resultsF fn f).run P w = .ok v w) (h : R v w) : retQ P fn R .normal [] f w := ⟨rfl, v, hr, h⟩
end
end Go.Proofs.Ytfkcihcbmlcajaa
