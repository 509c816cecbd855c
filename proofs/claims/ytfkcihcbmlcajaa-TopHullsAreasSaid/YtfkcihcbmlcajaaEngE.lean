/- EngE: several texts in one. No statement of the seat is proved here. -/
import Derived.Test.YtfkcihcbmlcajaaEngC
import Derived.OrdersIn
/- A region that draws its order: by a plan in which reads come first. No statement of the seat is proved here. -/
namespace Go.Proofs.Ytfkcihcbmlcajaa
set_option linter.unusedVariables false
set_option linter.unusedSimpArgs false
open Go Go.RowKit

section
variable {P : Program} {ro : Option Nat} {n : Nat} {Q : Post} {D : List Deferred} {ops : Array Oper}

/-- what operation o does in frame f -/
def Beh (P : Program) (ro : Option Nat) (ops : Array Oper) (o : Oper) (f : Fm) (w : World) (K : Value → World → Prop) : Prop :=
  if want ops f o = true then
    match (execOp (fev f) o).run P w with
    | .ok (.value v) w' => K v w'
    | .ok .skip w' => K undef w'
    | .ok (.enter g args) w' => CallsIn (FW ro) 0 P g args w' fun | .returned v, w'' => K v w'' | _, _ => False
    | .ok (.round l g tmps asg body) w' => RoundIn (FW ro) 0 P l g tmps asg body w' fun | .returned v, w'' => K v w'' | _, _ => False
    | _ => False
  else K undef w
theorem Beh.mono {o : Oper} {f : Fm} {w : World} {K K' : Value → World → Prop} (h : Beh P ro ops o f w K) (hk : ∀ v w, K v w → K' v w) : Beh P ro ops o f w K' := by
  unfold Beh at *
  split
  · rename_i hw
    rw [if_pos hw] at h
    revert h
    cases (execOp (fev f) o).run P w with
    | halt x w' => intro h; exact h
    | ok nx w' =>
      cases nx with
      | value v => intro h; exact hk _ _ h
      | skip => intro h; exact hk _ _ h
      | enter g args => intro h; exact CallsIn.mono h (fun e w'' he => by cases e with | returned v => exact hk _ _ he | panicked c => exact he.elim | outgrown => exact he.elim)
      | round l g tmps asg body => intro h; exact RoundIn.mono h (fun e w'' he => by cases e with | returned v => exact hk _ _ he | panicked c => exact he.elim | outgrown => exact he.elim)
      | _ => intro h; exact h.elim
  · rename_i hw
    rw [if_neg hw] at h
    exact hk _ _ h
theorem Beh.congr {o : Oper} {f g : Fm} {w : World} {K : Value → World → Prop} (he : execOp (fev f) o = execOp (fev g) o) (hw : want ops f o = want ops g o) (h : Beh P ro ops o f w K) : Beh P ro ops o g w K := by
  unfold Beh at *
  rw [← he, ← hw]
  exact h

theorem updo_comm (f : Fm) {x y : Option Nat} (v u : Value) (h : ∀ d, x = some d → y ≠ some d) : updo (updo f x v) y u = updo (updo f y u) x v := by
  cases x with
  | none => rfl
  | some d =>
    cases y with
    | none => rfl
    | some e =>
      have hne : d ≠ e := fun he => h d rfl (he ▸ rfl)
      funext j
      simp only [updo, upd]
      cases h1 : Nat.beq e j with
      | false => cases h2 : Nat.beq d j <;> rfl
      | true =>
        have := Nat.eq_of_beq_eq_true h1
        subst this
        have h2 : Nat.beq d e = false := by
          cases hb : Nat.beq d e with
          | false => rfl
          | true => exact absurd (Nat.eq_of_beq_eq_true hb) hne
        rw [h2]
        rfl
theorem fev_updo {f : Fm} {dst : Option Nat} {v : Value} {x : Operand} (h : ∀ d, dst = some d → x ≠ .tmp d) : fev (updo f dst v) x = fev f x := by
  cases dst with
  | none => rfl
  | some d =>
    cases x with
    | tmp t =>
      have hne : d ≠ t := fun e => h d rfl (e ▸ rfl)
      simp only [fev, updo, upd]
      cases hb : Nat.beq d t with
      | false => rfl
      | true => exact absurd (Nat.eq_of_beq_eq_true hb) hne
    | _ => rfl
theorem exec_updo (o : Oper) (hs : ∀ cs b, o.op ≠ .select cs b) (f : Fm) (dst : Option Nat) (v : Value) (h : ∀ d, dst = some d → d ∉ o.looksAt ops) : execOp (fev (updo f dst v)) o = execOp (fev f) o :=
  execOp_congr o hs fun x hx => fev_updo fun d hd hxd => h d hd (by
    subst hxd
    exact List.mem_append_left _ (List.mem_filterMap.2 ⟨.tmp d, by simpa using hx, rfl⟩))
theorem want_updo (o : Oper) (f : Fm) (dst : Option Nat) (v : Value) (h : ∀ d, dst = some d → d ∉ o.looksAt ops) : want ops (updo f dst v) o = want ops f o := by
  cases dst with
  | none => rfl
  | some d =>
    unfold want Region.wanted
    cases hg : o.guard with
    | none => rfl
    | some gw =>
      obtain ⟨g, wn⟩ := gw
      have hd := h d rfl
      simp only [gy]
      cases hb : (ops[g]?).bind (·.dst) with
      | none => rfl
      | some t =>
        have hne : d ≠ t := by
          rintro rfl
          refine hd (List.mem_append_right _ ?_)
          simp [hg, hb]
        have e : Nat.beq d t = false := by
          cases hb : Nat.beq d t with
          | false => rfl
          | true => exact absurd (Nat.eq_of_beq_eq_true hb) hne
        simp only [updo, upd, e]
        rfl

/-! ### who comes before whom -/
def closedL (ops : Array Oper) (L : Array Bool) : Prop := ∀ k o e, ops[k]? = some o → L.getD k false = true → e ∈ o.after → Region.binds .any e = true → L.getD e.on false = true
/-- b is listed wherever k is, or may come up -/
def Anc (ops : Array Oper) (b k : Nat) : Prop := ∀ L : Array Bool, closedL ops L → (L.getD k false = true ∨ k ∈ Region.ready .any ops L) → L.getD b false = true
def mskE (acc : List Nat) : List Edge → Nat → Nat
  | [], s => s
  | e :: r, s => mskE acc r (bif Region.binds .any e then s ||| 2 ^ e.on ||| acc.getD e.on 0 else s)
def bef : List Oper → List Nat → List Nat
  | [], acc => acc
  | o :: r, acc => bef r (acc ++ [mskE acc o.after.toList 0])
theorem mskE_bit (acc : List Nat) (b : Nat) : ∀ (es : List Edge) (s : Nat), (mskE acc es s).testBit b = true → s.testBit b = true ∨ ∃ e ∈ es, Region.binds .any e = true ∧ (e.on = b ∨ (acc.getD e.on 0).testBit b = true)
  | [], s, h => .inl h
  | e :: r, s, h => by
    simp only [mskE] at h
    rcases mskE_bit acc b r _ h with h1 | ⟨e', he', hb', hc'⟩
    · cases hb : Region.binds .any e with
      | false => rw [hb] at h1; exact .inl h1
      | true =>
        rw [hb] at h1
        simp only [cond_true, Nat.testBit_or, Bool.or_eq_true, Nat.testBit_two_pow, decide_eq_true_eq] at h1
        rcases h1 with (h1 | h1) | h1
        · exact .inl h1
        · exact .inr ⟨e, List.mem_cons_self, hb, .inl h1⟩
        · exact .inr ⟨e, List.mem_cons_self, hb, .inr h1⟩
    · exact .inr ⟨e', List.mem_cons_of_mem _ he', hb', hc'⟩
theorem bef_anc (ops : Array Oper) : ∀ (l : List Oper) (acc : List Nat), (∀ j, l[j]? = ops[acc.length + j]?) → (∀ k m, acc[k]? = some m → ∀ b, m.testBit b = true → Anc ops b k) →
    ∀ k m, (bef l acc)[k]? = some m → ∀ b, m.testBit b = true → Anc ops b k
  | [], acc, _, h => h
  | o :: r, acc, hl, h => by
    simp only [bef]
    refine bef_anc ops r _ (fun j => by have := hl (j + 1); simp only [List.getElem?_cons_succ] at this; rw [this]; congr 1; simp; omega) ?_
    intro k m hk b hb
    rcases Nat.lt_or_ge k acc.length with hlt | hge
    · rw [List.getElem?_append_left hlt] at hk
      exact h k m hk b hb
    · rw [List.getElem?_append_right hge] at hk
      have hk0 : k = acc.length := by
        have := (List.getElem?_eq_some_iff.1 hk).1
        simp at this
        omega
      subst hk0
      simp only [Nat.sub_self, List.getElem?_cons_zero, Option.some.injEq] at hk
      subst hk
      have ho : ops[acc.length]? = some o := by have := hl 0; simpa using this.symm
      rcases mskE_bit acc b _ _ hb with h0 | ⟨e, he, hbi, hc⟩
      · simp at h0
      · intro L hL hk
        have hon : L.getD e.on false = true := by
          rcases hk with hk | hk
          · exact hL _ o e ho hk (by simpa using he) hbi
          · obtain ⟨_, o', ho', hall⟩ := mem_ready.1 hk
            rw [ho] at ho'
            injection ho' with ho'
            subst ho'
            exact hall e (by simpa using he) hbi
        rcases hc with rfl | hc
        · exact hon
        · cases hacc : acc[e.on]? with
          | none => simp [List.getD_eq_getElem?_getD, hacc] at hc
          | some m' =>
            refine h e.on m' hacc b ?_ L hL (.inl hon)
            simpa [List.getD_eq_getElem?_getD, hacc] using hc
/-- an operation that asks nothing of the world -/
def isPure (o : Oper) : Bool := match o.op with | .move _ => true | .assign _ => true | .extract _ _ => true | .pick _ _ _ => true | _ => false
theorem pure_run {P : Program} {f : Fm} {o : Oper} {w : World} {v : Value} (hp : isPure o = true) (h : (execOp (fev f) o).run P w = .ok (.value v) w) (w' : World) : (execOp (fev f) o).run P w' = .ok (.value v) w' := by
  obtain ⟨dst, op, type, pos, after, guard⟩ := o
  cases op with
  | move x =>
    have h' : Result.ok (Next.value (fev f x)) w = .ok (.value v) w := h
    injection h' with h1 _
    injection h1 with h1
    subst h1
    rfl
  | assign x =>
    have h' : Result.ok (Next.value (fev f x)) w = .ok (.value v) w := h
    injection h' with h1 _
    injection h1 with h1
    subst h1
    rfl
  | extract x i =>
    simp only [execOp, Instr.extract, Sem.run_bind] at h ⊢
    split at h
    · split at h
      · simpa using h
      · simp [Result.andThen] at h
    · simp [Result.andThen] at h
  | pick c x y =>
    simp only [execOp, Sem.run_bind] at h ⊢
    cases hc : fev f c <;> simp_all [asBool, Result.andThen]
  | _ => cases hp
def pureAt (ops : Array Oper) (k : Nat) : Bool := match ops[k]? with | some o => isPure o | none => false
/-- every other operation comes before j, or behind it, or asks nothing of the world -/
def cutAt (ops : Array Oper) (B : List Nat) (j : Nat) (E : List Nat) : Bool := (List.range ops.size).all fun k => Nat.beq k j || (B.getD j 0).testBit k || (B.getD k 0).testBit j || pureAt ops k || E.elem k
theorem closed_set {L : Array Bool} {j : Nat} (hL : closedL ops L) (hj : j ∈ Region.ready .any ops L) : closedL ops (L.setIfInBounds j true) := by
  intro k o e ho hk he hb
  by_cases hkj : k = j
  · subst hkj
    obtain ⟨_, o', ho', hall⟩ := mem_ready.1 hj
    rw [ho] at ho'
    injection ho' with ho'
    subst ho'
    exact getD_set_true (hall e he hb)
  · rw [getD_set_ne false (Ne.symm hkj)] at hk
    exact getD_set_true (hL k o e ho hk he hb)
theorem cut_not {L : Array Bool} {i j : Nat} {E : List Nat} (hiE : E.elem i = false) (hL : closedL ops L) (hi : i ∈ Region.ready .any ops L) (hj : j ∈ Region.ready .any ops L) (hne : j ≠ i) (hpu : pureAt ops i = false) : cutAt ops (bef ops.toList []) j E = false := by
  cases hc : cutAt ops (bef ops.toList []) j E with
  | false => rfl
  | true =>
    have hA := bef_anc ops ops.toList [] (by simp) (by simp)
    obtain ⟨hi0, oi, hoi, _⟩ := mem_ready.1 hi
    obtain ⟨hj0, oj, hoj, _⟩ := mem_ready.1 hj
    have hisz : i < ops.size := (Array.getElem?_eq_some_iff.1 hoi).1
    have no : ∀ {k : Nat} {o : Oper}, ops[k]? = some o → L.getD k true = false → L.getD k false = true → False := fun {k o} _ h1 h2 => by
      rcases Nat.lt_or_ge k L.size with h | h
      · simp [h] at h1 h2; rw [h2] at h1; cases h1
      · simp [Array.getElem?_eq_none h] at h1
    simp only [cutAt, List.all_eq_true, List.mem_range] at hc
    have h1 := hc i hisz
    simp only [Bool.or_eq_true] at h1
    have bit : ∀ a b : Nat, ((bef ops.toList []).getD a 0).testBit b = true → Anc ops b a := fun a b h => by
      cases hB : (bef ops.toList [])[a]? with
      | none => simp [List.getD_eq_getElem?_getD, hB] at h
      | some m => exact hA a m hB b (by simpa [List.getD_eq_getElem?_getD, hB] using h)
    rw [hpu, hiE] at h1
    simp only [Bool.false_eq_true, or_false] at h1
    rcases h1 with (h1 | h1) | h1
    · exact absurd (Nat.eq_of_beq_eq_true h1).symm hne
    · exact (no hoi hi0 (bit j i h1 L hL (.inr hj))).elim
    · exact (no hoj hj0 (bit i j h1 L hL (.inr hi))).elim

/-- what a step may turn: the blocks that are known; what is known behind it was known, or is new -/
structure St (h h' : List HO) (w w' : World) : Prop where
  os : w'.os = w.os
  tape : w'.tape = w.tape
  output : w'.output = w.output
  size : w.heap.size ≤ w'.heap.size
  block : ∀ k, k < w.heap.size → (∀ o ∈ h, o.own ≠ some k) → w'.heap[k]? = w.heap[k]?
  fresh : ∀ o ∈ h', ∀ k, o.own = some k → (∃ o' ∈ h, o'.own = some k) ∨ w.heap.size ≤ k
section
variable {w0 w w' : World} {M : List Nat} {h h' : List HO}
theorem St.keeps (h : List HO) (hk : Keeps [] w w') : St h h w w' := ⟨hk.os, hk.tape, hk.output, hk.size, fun k hlt _ => hk.block k hlt (by simp), fun o ho k hok => .inl ⟨o, ho, hok⟩⟩
theorem St.ext {b : Nat} {T : TypeId} {cs : List Value} (s : St h h' w w') (S : Sat w0 M (.cl b T cs :: h) w) (S' : Sat w0 M h' w') : Sat w0 M (.cl b T cs :: h') w' ∧ St (.cl b T cs :: h) (.cl b T cs :: h') w w' := by
  obtain ⟨hap, _⟩ := List.pairwise_cons.1 S.apart
  have hc := S.ok _ List.mem_cons_self
  have hlt : b < w.heap.size := hc.lt (b := b) rfl
  have hno : ∀ o ∈ h, o.own ≠ some b := fun o ho => hap o ho b rfl
  refine ⟨⟨S'.keeps, fun x hx => ?_, List.pairwise_cons.2 ⟨fun x hx g hg hxg => ?_, S'.apart⟩⟩, ⟨s.os, s.tape, s.output, s.size, fun k hk hn => s.block k hk (fun o ho => hn o (List.mem_cons_of_mem _ ho)), fun o ho k hok => ?_⟩⟩
  · rcases List.mem_cons.1 hx with rfl | hx
    · exact ⟨(s.block b hlt hno).trans hc.1, hc.2⟩
    · exact S'.ok x hx
  · injection hg with hg
    subst hg
    rcases s.fresh x hx _ hxg with ⟨o', ho', hoo⟩ | hge
    · exact hno o' ho' hoo
    · omega
  · rcases List.mem_cons.1 ho with rfl | ho
    · exact .inl ⟨_, List.mem_cons_self, hok⟩
    · rcases s.fresh o ho k hok with ⟨o', ho', hoo⟩ | hge
      · exact .inl ⟨o', List.mem_cons_of_mem _ ho', hoo⟩
      · exact .inr hge
end

section
variable {w0 : World} {M : List Nat}
/-- whatever order, from whatever world of which h is known -/
def AV (P : Program) (ro : Option Nat) (ops : Array Oper) (E : List Nat) (w0 : World) (M : List Nat) (K : Fm → World → Prop) : Nat → List HO → Array Bool → Fm → Prop
  | 0, h, L, f => Region.ready .any ops L = [] ∧ ∀ w, Sat w0 M h w → K f w
  | fuel + 1, h, L, f => (Region.ready .any ops L = [] → ∀ w, Sat w0 M h w → K f w) ∧ ∀ i ∈ Region.ready .any ops L, ∀ o, ops[i]? = some o → ∀ w, Sat w0 M h w →
      Beh P ro ops o f w fun v w' => ∃ h', Sat w0 M h' w' ∧ (cutAt ops (bef ops.toList []) i E = true ∨ ∀ w, Sat w0 M h' w → Sat w0 M h w) ∧ AV P ro ops E w0 M K fuel h' (L.setIfInBounds i true) (updo f o.dst v)

theorem AV.wp {E : List Nat} {K : Fm → World → Prop} (hd : ∀ o ∈ ops.toList, dstOk n o.dst = true) (hK : ∀ f w, K f w → Q .normal D f w) : ∀ (fuel : Nat) (h : List HO) (L : Array Bool) (f : Fm) (a : Act) (w : World), Fr n D a f → Sat w0 M h w → AV P ro ops E w0 M K fuel h L f →
    wpAnyIn (FW ro) 0 P .any ops (lift n Q) fuel L a w
  | 0, h, L, f, a, w, ha, S, hh => ⟨hh.1, D, f, ha, hK _ _ (hh.2 w S)⟩
  | fuel + 1, h, L, f, a, w, ha, S, hh => by
    refine ⟨fun h0 => ⟨D, f, ha, hK _ _ (hh.1 h0 w S)⟩, fun i hi => ?_⟩
    obtain ⟨_, o, ho, _⟩ := mem_ready.1 hi
    have hb := hh.2 i hi o ho w S
    have hdo : dstOk n o.dst = true := hd o (by simpa using Array.mem_of_getElem? ho)
    have key : ∀ v w', (∃ h', Sat w0 M h' w' ∧ (cutAt ops (bef ops.toList []) i E = true ∨ ∀ w, Sat w0 M h' w → Sat w0 M h w) ∧ AV P ro ops E w0 M K fuel h' (L.setIfInBounds i true) (updo f o.dst v)) →
        wpAnyIn (FW ro) 0 P .any ops (lift n Q) fuel (L.setIfInBounds i true) (a.put o.dst v) w' := fun v w' ⟨h', S', _, hv⟩ => AV.wp hd hK fuel h' _ _ _ _ (ha.puto v hdo) S' hv
    unfold wpOpIn
    simp only [ho]
    unfold Beh at hb
    have hw : Region.wanted o (yielded ops a.tmps) = want ops f o := by rw [ha.yielded]; rfl
    rw [hw]
    split at hb
    · rename_i hwt
      rw [if_pos hwt]
      refine ⟨fun _ _ => trivial, ?_⟩
      rw [ha.eval]
      have hsem : ∀ nx w', (execOp (fev f) o).run P w = .ok nx w' → (∀ d, nx ≠ .defer d) → (o.semAt (FW ro).round (fev f)).run P w = .ok nx w' := fun nx w' => semAt_exec
      cases hr : (execOp (fev f) o).run P w with
      | halt x w' => rw [hr] at hb; exact hb.elim
      | ok nx w' =>
        rw [hr] at hb
        cases nx with
        | value v => rw [hsem _ _ hr (by simp), Oper.uponIn_value]; exact key _ _ hb
        | skip => rw [hsem _ _ hr (by simp), Oper.uponIn_skip]; exact key _ _ hb
        | enter g args =>
          rw [hsem _ _ hr (by simp), Oper.uponIn_enter]
          refine ⟨fun h => by simp [FW] at h, CallsIn.mono hb fun e w'' he => ?_⟩
          cases e with
          | returned v => exact key _ _ he
          | panicked c => exact he.elim
          | outgrown => exact he.elim
        | round l g tmps asg body =>
          rw [hsem _ _ hr (by simp), Oper.uponIn_round]
          refine ⟨fun h => by simp [FW] at h, RoundIn.mono hb fun e w'' he => ?_⟩
          cases e with
          | returned v => exact key _ _ he
          | panicked c => exact he.elim
          | outgrown => exact he.elim
        | _ => exact hb.elim
    · rename_i hwt
      rw [if_neg (by simpa using hwt)]
      exact ⟨fun _ _ => trivial, key _ _ hb⟩

/-- in every world that meets S, o gives v and does nothing else -/
def Qy (P : Program) (ops : Array Oper) (S : World → Prop) (o : Oper) (f : Fm) (v : Value) : Prop :=
  (want ops f o = true ∧ ∀ w, S w → (execOp (fev f) o).run P w = .ok (.value v) w) ∨ (want ops f o = false ∧ v = undef)
theorem Qy.beh {S : World → Prop} {o : Oper} {f : Fm} {v : Value} {w : World} {K : Value → World → Prop} (h : Qy P ops S o f v) (hS : S w) (hK : K v w) : Beh P ro ops o f w K := by
  unfold Beh
  rcases h with ⟨hw, hr⟩ | ⟨hw, rfl⟩
  · rw [if_pos hw, hr w hS]; exact hK
  · rw [if_neg (by rw [hw]; simp)]; exact hK
theorem Qy.weak {S S' : World → Prop} {o : Oper} {f : Fm} {v : Value} (h : Qy P ops S o f v) (hS : ∀ w, S' w → S w) : Qy P ops S' o f v := h.imp (fun ⟨a, b⟩ => ⟨a, fun w hw => b w (hS w hw)⟩) id
theorem Qy.congr {S : World → Prop} {o : Oper} {f g : Fm} {v : Value} (he : execOp (fev g) o = execOp (fev f) o) (hw : want ops g o = want ops f o) (h : Qy P ops S o f v) : Qy P ops S o g v := by
  unfold Qy at *
  rw [he, hw]
  exact h

/-- i and every operation that is not listed and does not wait for i are apart -/
def FreeOf (ops : Array Oper) (L : Array Bool) (i : Nat) (oi : Oper) : Prop := ∀ j oj, ops[j]? = some oj → j ≠ i → L.getD j true = false → (∀ e ∈ oj.after, Region.binds .any e = true → e.on ≠ i) → oi.apart ops oj = true
theorem FreeOf.set {L : Array Bool} {i j : Nat} {oi oj : Oper} (hf : FreeOf ops L i oi) (hoj : ops[j]? = some oj) (hjun : L.getD j true = false) : FreeOf ops (L.setIfInBounds j true) i oi := fun k ok hk hki hun hno => by
  refine hf k ok hk hki ?_ hno
  by_cases hjk : j = k
  · subst hjk; exact hjun
  · rw [getD_set_ne true hjk] at hun; exact hun
theorem not_waits {L : Array Bool} {i j : Nat} {oj : Oper} (hr : i ∈ Region.ready .any ops L) (hj : j ∈ Region.ready .any ops L) (hoj : ops[j]? = some oj) : ∀ e ∈ oj.after, Region.binds .any e = true → e.on ≠ i := fun e he hb heq => by
  obtain ⟨_, oj', hoj', hall⟩ := mem_ready.1 hj
  rw [hoj] at hoj'
  injection hoj' with hoj'
  subst hoj'
  have h1 := hall e he hb
  have h0 := (mem_ready.1 hr).1
  rw [heq] at h1
  rcases Nat.lt_or_ge i L.size with h' | h'
  · simp [h'] at h0 h1; rw [h0] at h1; cases h1
  · simp [Array.getElem?_eq_none h'] at h1

theorem first_quiet {E : List Nat} {K : Fm → World → Prop} {i : Nat} {oi : Oper} {v : Value} (hi : ops[i]? = some oi) (hsel : Region.noSelect ops = true) :
    ∀ (fuel : Nat) (h : List HO) (L : Array Bool) (f : Fm), closedL ops L → FreeOf ops L i oi →
      i ∈ Region.ready .any ops L → ((E.elem i = false ∧ Qy P ops (Sat w0 M h) oi f v) ∨ Qy P ops (Sat w0 M []) oi f v) → AV P ro ops E w0 M K fuel h (L.setIfInBounds i true) (updo f oi.dst v) → AV P ro ops E w0 M K (fuel + 1) h L f := by
  intro fuel
  have hs := Region.noSelect_spec hsel
  induction fuel with
  | zero =>
    intro h L f hL hfree hr hy H
    refine ⟨fun h => (by rw [h] at hr; cases hr), fun j hj oj hoj w hS => ?_⟩
    by_cases hji : j = i
    · subst hji
      rw [hi] at hoj
      injection hoj with hoj
      subst hoj
      have hy0 : Qy P ops (Sat w0 M h) oi f v := hy.elim (·.2) (fun q => q.weak (fun w S => S.drop [] (List.nil_sublist _)))
      exact hy0.beh hS ⟨h, hS, .inr (fun _ h => h), H⟩
    · have := ready_mono hj hji
      rw [H.1] at this
      cases this
  | succ fuel ih =>
    intro h L f hL hfree hr hy H
    refine ⟨fun h => (by rw [h] at hr; cases hr), fun j hj oj hoj w hS => ?_⟩
    by_cases hji : j = i
    · subst hji
      rw [hi] at hoj
      injection hoj with hoj
      subst hoj
      have hy0 : Qy P ops (Sat w0 M h) oi f v := hy.elim (·.2) (fun q => q.weak (fun w S => S.drop [] (List.nil_sublist _)))
      exact hy0.beh hS ⟨h, hS, .inr (fun _ h => h), H⟩
    · have h1 := H.2 j (ready_mono hj hji) oj hoj w hS
      have hjun := (mem_ready.1 hj).1
      obtain ⟨a1, a2, a3⟩ := Oper.apart_spec (hfree j oj hoj hji hjun (not_waits hr hj hoj))
      have h2 : Beh P ro ops oj f w _ := h1.congr (exec_updo oj (fun cs b => hs j oj cs b hoj) f oi.dst v a1) (want_updo oj f oi.dst v a1)
      refine h2.mono fun u w' ⟨h', hS', hwk, h3⟩ => ⟨h', hS', hwk, ih h' (L.setIfInBounds j true) (updo f oj.dst u) (closed_set hL hj) (hfree.set hoj hjun) (ready_mono hr (Ne.symm hji)) ?_ ?_⟩
      · rcases hy with ⟨hiE, hy⟩ | hy
        · left
          refine ⟨hiE, ?_⟩
          cases hpu : pureAt ops i with
          | false =>
            rw [cut_not hiE hL hr hj hji hpu] at hwk
            simp only [Bool.false_eq_true, false_or] at hwk
            exact (hy.congr (exec_updo oi (fun cs b => hs i oi cs b hi) f oj.dst u a3) (want_updo oi f oj.dst u a3)).weak hwk
          | true =>
            have hpo : isPure oi = true := by simpa [pureAt, hi] using hpu
            have hy' : Qy P ops (fun _ => True) oi f v := hy.imp (fun ⟨a, b⟩ => ⟨a, fun w' _ => pure_run hpo (b w hS) w'⟩) id
            exact (hy'.congr (exec_updo oi (fun cs b => hs i oi cs b hi) f oj.dst u a3) (want_updo oi f oj.dst u a3)).weak (fun _ _ => trivial)
        · right
          exact hy.congr (exec_updo oi (fun cs b => hs i oi cs b hi) f oj.dst u a3) (want_updo oi f oj.dst u a3)
      · rw [Array.setIfInBounds_comm _ _ hji, ← updo_comm f v u a2]
        exact h3

/-- a maker of a new block: its type, its cells, the value that it gives -/
def el0 (P : Program) (T : TypeId) : Option TypeId := match P.underlying T with
  | some (.slice e) => (P.info? e).map fun _ => e
  | _ => none
/-- what make gives, where both numbers are the same and not large -/
def mks (P : Program) (T : TypeId) (a b : Value) : Option (TypeId × List Value × (Nat → Value)) := match P.underlying T with
  | some (.slice e) => match P.info? e with
    | some i => match i.zero with
      | some z => match a, b with
        | .int .i64 a, .int .i64 b => bif decide (a = b ∧ 0 ≤ a ∧ a ≤ 1000000 ∧ i.bytes ≤ 100000) then some (e, (madeCells z.cells (a.toNat * i.size)).toList, fun g => .slice (some ⟨g, 0, none⟩) a.toNat a.toNat) else none
        | _, _ => none
      | none => none
    | none => none
  | _ => none
def mkAt (P : Program) (f : Fm) (o : Oper) : Option (TypeId × List Value × (Nat → Value)) :=
  match o.op, o.guard with
  | .alloc T, none => ((P.info? T).bind (·.zero)).map fun z => (T, cl1 z, fun b => .pointer (some ⟨b, 0, none⟩))
  | .buildSlice T len ps, none => bif Nat.beq len 0 then (bif ps.isEmpty then (el0 P T).map fun e => (e, [], fun b => .slice (some ⟨b, 0, none⟩) 0 0) else none)
      else (bsl P T len (pvs f ps.toList)).map fun q => (q.1, q.2.2, fun b => .slice (some ⟨b, 0, none⟩) len len)
  | .makeSlice T x y, none => mks P T (fev f x) (fev f y)
  | _, _ => none
theorem mk_run {o : Oper} {T : TypeId} {cs : List Value} {V : Nat → Value} {f : Fm} (hm : mkAt P f o = some (T, cs, V)) : want ops f o = true ∧ ∀ w, (execOp (fev f) o).run P w = .ok (.value (V w.heap.size)) (w.alloc (.cells cs.toArray T)) := by
  obtain ⟨dst, op, type, pos, after, guard⟩ := o
  unfold mkAt at hm
  split at hm
  · rename_i T' h1 h2
    dsimp only at h1 h2
    subst h1
    subst h2
    obtain ⟨z, hz, he⟩ := Option.map_eq_some_iff.1 hm
    simp only [Prod.mk.injEq] at he
    obtain ⟨rfl, rfl, rfl⟩ := he
    obtain ⟨i, hi1, hi2⟩ := Option.bind_eq_some_iff.1 hz
    refine ⟨rfl, fun w => ?_⟩
    simp [execOp, Instr.alloc, zeroValue, typeInfo, hi1, hi2, newVar, newRow, ← cl1_eq]
  · rename_i T' len ps h1 h2
    dsimp only at h1 h2
    subst h1
    subst h2
    refine ⟨rfl, fun w => ?_⟩
    cases hb : Nat.beq len 0 with
    | true =>
      have hl := Nat.eq_of_beq_eq_true hb
      subst hl
      rw [hb] at hm
      simp only [cond_true] at hm
      cases hp : ps.isEmpty with
      | false => rw [hp] at hm; cases hm
      | true =>
        rw [hp] at hm
        have hps : ps = #[] := by simpa using hp
        subst hps
        simp only [cond_true] at hm
        obtain ⟨e, he, hq⟩ := Option.map_eq_some_iff.1 hm
        simp only [Prod.mk.injEq] at hq
        obtain ⟨rfl, rfl, rfl⟩ := hq
        unfold el0 at he
        split at he
        · rename_i e' hu
          obtain ⟨i, hi, rfl⟩ := Option.map_eq_some_iff.1 he
          simp [execOp, Instr.buildSlice, run_underlying hu, sizeOf, typeInfo, hi, Instr.fill, newRow, Sem.run_bind, Sem.run_pure, Result.andThen]
          rw [show Array.range 0 = (#[] : Array Nat) from by apply Array.ext <;> simp]
          simp
        · cases he
    | false =>
      rw [hb] at hm
      simp only [cond_false] at hm
      obtain ⟨⟨e, size, cs'⟩, hq, he⟩ := Option.map_eq_some_iff.1 hm
      simp only [Prod.mk.injEq] at he
      obtain ⟨rfl, rfl, rfl⟩ := he
      have hr := run_buildSlice (P := P) (w := w) hq
      unfold execOp
      dsimp only
      have hpv := pvs_eq f ps.toList
      simp only [Array.toArray_toList] at hpv
      rw [hpv, Sem.run_bind, hr]
      simp [Result.andThen]
  · rename_i T' x y h1 h2
    dsimp only at h1 h2
    subst h1
    subst h2
    refine ⟨rfl, fun w => ?_⟩
    unfold mks at hm
    split at hm
    · rename_i e hu
      split at hm
      · rename_i i hi
        split at hm
        · rename_i z hz
          split at hm
          · rename_i a b hx hy
            cases hc : decide (a = b ∧ 0 ≤ a ∧ a ≤ 1000000 ∧ i.bytes ≤ 100000) with
            | false => rw [hc] at hm; cases hm
            | true =>
              rw [hc] at hm
              simp only [cond_true, Option.some.injEq, Prod.mk.injEq] at hm
              obtain ⟨rfl, rfl, rfl⟩ := hm
              obtain ⟨rfl, h0, h1, h2⟩ := of_decide_eq_true hc
              have hb : (i.bytes : Int) * a ≤ 281474976710656 := by
                obtain ⟨k, rfl⟩ : ∃ k : Nat, a = k := ⟨a.toNat, by omega⟩
                rw [← Int.natCast_mul]
                have := Nat.mul_le_mul h2 (show k ≤ 1000000 by omega)
                omega
              have hr := run_make (P := P) w T' e i z hu hi hz .i64 .i64 a a h0 (Int.le_refl _) hb (by omega)
              unfold execOp
              simp only [hx, hy, Sem.run_bind, hr, Result.andThen_ok, Sem.run_pure]
          · cases hm
        · cases hm
      · cases hm
    · cases hm
  · cases hm
theorem pvs_updo {f : Fm} {dst : Option Nat} {v : Value} : ∀ l : List (Nat × Operand), (∀ d, dst = some d → ∀ p ∈ l, p.2 ≠ .tmp d) → pvs (updo f dst v) l = pvs f l
  | [], _ => rfl
  | (i, x) :: l, h => by
    simp only [pvs]
    rw [fev_updo fun d hd => h d hd (i, x) List.mem_cons_self, pvs_updo l fun d hd p hp => h d hd p (List.mem_cons_of_mem _ hp)]
theorem mkAt_updo {o : Oper} {f : Fm} {dst : Option Nat} {v : Value} (h : ∀ d, dst = some d → d ∉ o.looksAt ops) : mkAt P (updo f dst v) o = mkAt P f o := by
  obtain ⟨dt, op, type, pos, after, guard⟩ := o
  unfold mkAt
  cases op with
  | buildSlice T len ps =>
    cases guard with
    | some g => rfl
    | none =>
      dsimp only
      rw [pvs_updo ps.toList fun d hd p hp e => h d hd (List.mem_append_left _ (List.mem_filterMap.2 ⟨.tmp d, by simp only [Op.operands]; simpa using ⟨p.1, by rw [← e]; exact Array.mem_toList_iff.1 hp⟩, rfl⟩))]
  | makeSlice T x y =>
    cases guard with
    | some g => rfl
    | none =>
      dsimp only
      rw [fev_updo fun d hd e => h d hd (List.mem_append_left _ (List.mem_filterMap.2 ⟨.tmp d, by simp [Op.operands, ← e], rfl⟩)), fev_updo fun d hd e => h d hd (List.mem_append_left _ (List.mem_filterMap.2 ⟨.tmp d, by simp [Op.operands, ← e], rfl⟩))]
  | _ => cases guard <;> rfl

/-! ### a plan: 0: a read, taken first · 1: the only one that may come up, beside the makers · 2: the like, and a cut · 3: a maker of a new variable, whenever it comes up -/
def isMk (π : List (Nat × Nat)) (j : Nat) : Bool := π.any fun p => Nat.beq p.1 j && Nat.beq p.2 4
/-- the plan without its maker i -/
def less (i : Nat) : List (Nat × Nat) → List (Nat × Nat)
  | [] => []
  | (j, k) :: π => bif Nat.beq j i && Nat.beq k 4 then π else (j, k) :: less i π
def planOk (ops : Array Oper) (B : List Nat) (E : List Nat) : Nat → List (Nat × Nat) → Array Bool → Bool
  | 0, π, L => π.isEmpty && (Region.ready .any ops L).isEmpty
  | _ + 1, [], _ => false
  | m + 1, (i, k) :: π, L => (bif Nat.beq k 0 then Region.free .any ops L i && !(E.elem i)
      else bif Nat.beq k 3 then Region.free .any ops L i else (Region.ready .any ops L).all (fun j => Nat.beq i j || (isMk π j && (Region.free .any ops L j && planOk ops B E m ((i, k) :: less j π) (L.setIfInBounds j true)))) && (bif Nat.beq k 2 then cutAt ops B i E else true)) &&
      ((Region.ready .any ops L).contains i && planOk ops B E m π (L.setIfInBounds i true))
def planOps (ops : Array Oper) : List (Nat × Nat) → List (Nat × Oper)
  | [] => []
  | (i, k) :: π => match ops[i]? with
    | some o => (k, o) :: planOps ops π
    | none => []
/-- the plan carried out -/
def PV (P : Program) (ro : Option Nat) (ops : Array Oper) (Q : Post) (w0 : World) (M : List Nat) : List HO → List (Nat × Oper) → List Deferred → Fm → Prop
  | h, [], D, f => ∀ w, Sat w0 M h w → Q .normal D f w
  | h, (0, o) :: π, D, f => ∃ v, Qy P ops (Sat w0 M h) o f v ∧ PV P ro ops Q w0 M h π D (updo f o.dst v)
  | h, (1, o) :: π, D, f => ∀ w, Sat w0 M h w → Beh P ro ops o f w fun v w' => ∃ h', Sat w0 M h' w' ∧ St h h' w w' ∧ (∃ p, List.Perm h' (p ++ h)) ∧ PV P ro ops Q w0 M h' π D (updo f o.dst v)
  | h, (2, o) :: π, D, f => ∀ w, Sat w0 M h w → Beh P ro ops o f w fun v w' => ∃ h', Sat w0 M h' w' ∧ St h h' w w' ∧ PV P ro ops Q w0 M h' π D (updo f o.dst v)
  | h, (3, o) :: π, D, f => ∃ v, Qy P ops (Sat w0 M []) o f v ∧ PV P ro ops Q w0 M h π D (updo f o.dst v)
  | h, (_, o) :: π, D, f => ∃ T cs V, mkAt P f o = some (T, cs, V) ∧ ∀ b, PV P ro ops Q w0 M (.cl b T cs :: h) π D (updo f o.dst (V b))

theorem Apart.symm {a b : HO} (h : Apart a b) : Apart b a := fun g hb ha => h g ha hb
theorem Sat.perm {h h' : List HO} {w : World} (S : Sat w0 M h w) (hp : List.Perm h h') : Sat w0 M h' w :=
  ⟨S.keeps, fun o ho => S.ok o (hp.symm.subset ho), hp.pairwise S.apart (fun {_ _} hab => hab.symm)⟩
theorem Sat.of_perm {h h' p : List HO} {w : World} (S : Sat w0 M h' w) (hp : List.Perm h' (p ++ h)) : Sat w0 M h w := (S.perm hp).drop _ (List.sublist_append_right _ _)
theorem St.perm {h h2 h' : List HO} {w w' : World} (s : St h h' w w') (hp : List.Perm h h2) : St h2 h' w w' :=
  ⟨s.os, s.tape, s.output, s.size, fun k hk hn => s.block k hk (fun o ho => hn o (hp.subset ho)), fun o ho k hk => (s.fresh o ho k hk).imp (fun ⟨o', ho', e⟩ => ⟨o', hp.subset ho', e⟩) id⟩
theorem PV.perm : ∀ (π : List (Nat × Oper)) (h h2 : List HO) (f : Fm), List.Perm h h2 → PV P ro ops Q w0 M h π D f → PV P ro ops Q w0 M h2 π D f
  | [], h, h2, f, hp, H => fun w S => H w (S.perm hp.symm)
  | (0, o) :: π, h, h2, f, hp, H => by
    obtain ⟨v, hq, H'⟩ := H
    exact ⟨v, hq.weak (fun w S => S.perm hp.symm), PV.perm π h h2 _ hp H'⟩
  | (1, o) :: π, h, h2, f, hp, H => fun w S => (H w (S.perm hp.symm)).mono fun v w' ⟨h', a, b, ⟨p, c⟩, d⟩ => ⟨h', a, b.perm hp, ⟨p, c.trans (hp.append_left p)⟩, d⟩
  | (2, o) :: π, h, h2, f, hp, H => fun w S => (H w (S.perm hp.symm)).mono fun v w' ⟨h', a, b, d⟩ => ⟨h', a, b.perm hp, d⟩
  | (3, o) :: π, h, h2, f, hp, H => by
    obtain ⟨v, hq, H'⟩ := H
    exact ⟨v, hq, PV.perm π h h2 _ hp H'⟩
  | (k + 4, o) :: π, h, h2, f, hp, H => by
    obtain ⟨T, cs, V, hm, H'⟩ := H
    exact ⟨T, cs, V, hm, fun b => PV.perm π _ _ _ (hp.cons _) (H' b)⟩
theorem isMk_cons (j k i : Nat) (π : List (Nat × Nat)) : isMk ((j, k) :: π) i = (Nat.beq j i && Nat.beq k 4 || isMk π i) := by simp [isMk]
theorem unlisted {B E : List Nat} {i : Nat} : ∀ (m : Nat) (π : List (Nat × Nat)) (L : Array Bool), planOk ops B E m π L = true → isMk π i = true → L.getD i true = false
  | 0, π, L, hp, hm => by
    simp only [planOk, Bool.and_eq_true, List.isEmpty_iff] at hp
    rw [hp.1] at hm
    cases hm
  | m + 1, [], L, hp, hm => by cases hm
  | m + 1, (j, k) :: π, L, hp, hm => by
    simp only [planOk, Bool.and_eq_true] at hp
    obtain ⟨_, hc, hp2⟩ := hp
    rw [isMk_cons] at hm
    cases hb : Nat.beq j i && Nat.beq k 4 with
    | true =>
      simp only [Bool.and_eq_true] at hb
      have hji := Nat.eq_of_beq_eq_true hb.1
      subst hji
      exact (mem_ready.1 (by simpa using hc : j ∈ Region.ready .any ops L)).1
    | false =>
      rw [hb] at hm
      simp only [Bool.false_or] at hm
      have h1 := unlisted m π _ hp2 hm
      by_cases hji : j = i
      · subst hji
        have hl := (mem_ready.1 (by simpa using hc : j ∈ Region.ready .any ops L)).1
        exact hl
      · rwa [getD_set_ne true hji] at h1

theorem early {B E : List Nat} {i : Nat} {oi : Oper} {T : TypeId} {cs : List Value} {V : Nat → Value} (hi : ops[i]? = some oi) (hsel : Region.noSelect ops = true) :
    ∀ (m : Nat) (π : List (Nat × Nat)) (h : List HO) (L : Array Bool) (f : Fm), mkAt P f oi = some (T, cs, V) → planOk ops B E m π L = true → closedL ops L → FreeOf ops L i oi → i ∈ Region.ready .any ops L → isMk π i = true →
      PV P ro ops Q w0 M h (planOps ops π) D f → ∀ b, PV P ro ops Q w0 M (.cl b T cs :: h) (planOps ops (less i π)) D (updo f oi.dst (V b))
  | 0, π, h, L, f, hmk, hp, hL, hfree, hr, hm, H, b => by
    simp only [planOk, Bool.and_eq_true, List.isEmpty_iff] at hp
    rw [hp.1] at hm
    cases hm
  | m + 1, [], h, L, f, hmk, hp, hL, hfree, hr, hm, H, b => by cases hm
  | m + 1, (j, k) :: π, h, L, f, hmk, hp, hL, hfree, hr, hm, H, b => by
    have hs := Region.noSelect_spec hsel
    simp only [planOk, Bool.and_eq_true] at hp
    obtain ⟨_, hc, hp2⟩ := hp
    have hjr : j ∈ Region.ready .any ops L := by simpa using hc
    obtain ⟨hjun, oj, hoj, _⟩ := mem_ready.1 hjr
    rw [isMk_cons] at hm
    cases hb : Nat.beq j i && Nat.beq k 4 with
    | true =>
      have hb' := hb
      simp only [Bool.and_eq_true] at hb
      have hji := Nat.eq_of_beq_eq_true hb.1
      have hk := Nat.eq_of_beq_eq_true hb.2
      subst hji
      subst hk
      simp only [less, hb', cond_true]
      rw [hi] at hoj
      injection hoj with hoj
      subst hoj
      simp only [planOps, hi] at H
      obtain ⟨T', cs', V', hm', H'⟩ := H
      rw [hmk] at hm'
      simp only [Option.some.injEq, Prod.mk.injEq] at hm'
      obtain ⟨rfl, rfl, rfl⟩ := hm'
      exact H' b
    | false =>
      rw [hb] at hm
      simp only [Bool.false_or] at hm
      have hji : j ≠ i := by
        rintro rfl
        have h1 := unlisted m π _ hp2 hm
        have hlt : j < L.size := by
          rcases Nat.lt_or_ge j L.size with h' | h'
          · exact h'
          · simp [Array.getElem?_eq_none h'] at hjun
        simp [hlt] at h1
      obtain ⟨a1, a2, a3⟩ := Oper.apart_spec (hfree j oj hoj hji hjun (not_waits hr hjr hoj))
      have IH := fun (h' : List HO) (v : Value) (H' : PV P ro ops Q w0 M h' (planOps ops π) D (updo f oj.dst v)) => early hi hsel m π h' (L.setIfInBounds j true) (updo f oj.dst v) ((mkAt_updo a3).trans hmk) hp2 (closed_set hL hjr) (hfree.set hoj hjun) (ready_mono hr (Ne.symm hji)) hm H' b
      have e1 := exec_updo oj (fun cs b => hs j oj cs b hoj) f oi.dst (V b) a1
      have e2 := want_updo oj f oi.dst (V b) a1
      have comm : ∀ v, updo (updo f oi.dst (V b)) oj.dst v = updo (updo f oj.dst v) oi.dst (V b) := fun v => updo_comm f _ _ a2
      simp only [less, hb, cond_false, planOps, hoj] at H ⊢
      match k, H with
      | 0, H =>
        obtain ⟨v, hq, H'⟩ := H
        exact ⟨v, (hq.congr e1 e2).weak (fun w S => S.drop _ (List.sublist_cons_self _ _)), by rw [comm]; exact IH _ _ H'⟩
      | 1, H =>
        intro w S
        refine Beh.congr e1.symm e2.symm ((H w (S.drop _ (List.sublist_cons_self _ _))).mono ?_)
        rintro v w' ⟨h', hS', hst, ⟨p, hpm⟩, H'⟩
        obtain ⟨s1, s2⟩ := hst.ext S hS'
        exact ⟨_, s1, s2, ⟨p, (hpm.cons _).trans List.perm_middle.symm⟩, by rw [comm]; exact IH _ _ H'⟩
      | 2, H =>
        intro w S
        refine Beh.congr e1.symm e2.symm ((H w (S.drop _ (List.sublist_cons_self _ _))).mono ?_)
        rintro v w' ⟨h', hS', hst, H'⟩
        obtain ⟨s1, s2⟩ := hst.ext S hS'
        exact ⟨_, s1, s2, by rw [comm]; exact IH _ _ H'⟩
      | 3, H =>
        obtain ⟨v, hq, H'⟩ := H
        exact ⟨v, hq.congr e1 e2, by rw [comm]; exact IH _ _ H'⟩
      | k + 4, H =>
        obtain ⟨T', cs', V', hm', H'⟩ := H
        refine ⟨T', cs', V', (mkAt_updo a1).trans hm', fun b' => ?_⟩
        rw [comm]
        exact PV.perm _ _ _ _ (List.Perm.swap _ _ _) (IH _ _ (H' b'))
theorem less_length {i : Nat} : ∀ π : List (Nat × Nat), isMk π i = true → (less i π).length + 1 = π.length
  | [], h => by cases h
  | (j, k) :: π, h => by
    rw [isMk_cons] at h
    simp only [less]
    cases hb : Nat.beq j i && Nat.beq k 4 with
    | true => simp
    | false =>
      rw [hb] at h
      simp only [Bool.false_or] at h
      simp [less_length π h]

theorem Beh.out {o : Oper} {f : Fm} {w : World} {K : Value → World → Prop} (h : Beh P ro ops o f w K) : ∃ v w', K v w' := by
  unfold Beh at h
  split at h
  · revert h
    cases (execOp (fev f) o).run P w with
    | halt x w' => intro h; exact h.elim
    | ok nx w' =>
      cases nx with
      | value v => intro h; exact ⟨_, _, h⟩
      | skip => intro h; exact ⟨_, _, h⟩
      | enter g args =>
        intro h
        obtain ⟨e, w'', fr, hR, _⟩ := h.2 [] (fun d hd => by simp [FW] at hd)
        cases e with
        | returned v => exact ⟨_, _, hR⟩
        | panicked c => exact hR.elim
        | outgrown => exact hR.elim
      | round l g tmps asg body =>
        intro h
        obtain ⟨e, w'', hR, _⟩ := h.2 default [] (fun d hd => by simp [FW] at hd)
        cases e with
        | returned v => exact ⟨_, _, hR⟩
        | panicked c => exact hR.elim
        | outgrown => exact hR.elim
      | _ => intro h; exact h.elim
  · exact ⟨_, _, h⟩
theorem PV.mk {B E : List Nat} {i : Nat} {oi : Oper} (hi : ops[i]? = some oi) (hsel : Region.noSelect ops = true) :
    ∀ (m : Nat) (π : List (Nat × Nat)) (h : List HO) (L : Array Bool) (f : Fm), planOk ops B E m π L = true → closedL ops L → FreeOf ops L i oi → i ∈ Region.ready .any ops L → isMk π i = true →
      PV P ro ops Q w0 M h (planOps ops π) D f → ∀ w, Sat w0 M h w → ∃ T cs V, mkAt P f oi = some (T, cs, V)
  | 0, π, h, L, f, hp, hL, hfree, hr, hm, H, w, S => by
    simp only [planOk, Bool.and_eq_true, List.isEmpty_iff] at hp
    rw [hp.1] at hm
    cases hm
  | m + 1, [], h, L, f, hp, hL, hfree, hr, hm, H, w, S => by cases hm
  | m + 1, (j, k) :: π, h, L, f, hp, hL, hfree, hr, hm, H, w, S => by
    simp only [planOk, Bool.and_eq_true] at hp
    obtain ⟨_, hc, hp2⟩ := hp
    have hjr : j ∈ Region.ready .any ops L := by simpa using hc
    obtain ⟨hjun, oj, hoj, _⟩ := mem_ready.1 hjr
    rw [isMk_cons] at hm
    cases hb : Nat.beq j i && Nat.beq k 4 with
    | true =>
      simp only [Bool.and_eq_true] at hb
      have hji := Nat.eq_of_beq_eq_true hb.1
      have hk := Nat.eq_of_beq_eq_true hb.2
      subst hji
      subst hk
      rw [hi] at hoj
      injection hoj with hoj
      subst hoj
      simp only [planOps, hi] at H
      obtain ⟨T, cs, V, hm', _⟩ := H
      exact ⟨T, cs, V, hm'⟩
    | false =>
      rw [hb] at hm
      simp only [Bool.false_or] at hm
      have hji : j ≠ i := by
        rintro rfl
        have h1 := unlisted m π _ hp2 hm
        have hlt : j < L.size := by
          rcases Nat.lt_or_ge j L.size with h' | h'
          · exact h'
          · simp [Array.getElem?_eq_none h'] at hjun
        simp [hlt] at h1
      obtain ⟨_, _, a3⟩ := Oper.apart_spec (hfree j oj hoj hji hjun (not_waits hr hjr hoj))
      simp only [planOps, hoj] at H
      match k, H with
      | 0, ⟨v, _, H'⟩ =>
        have := PV.mk hi hsel m π h (L.setIfInBounds j true) (updo f oj.dst v) hp2 (closed_set hL hjr) (hfree.set hoj hjun) (ready_mono hr (Ne.symm hji)) hm H' w S
        rwa [mkAt_updo a3] at this
      | 1, H =>
        obtain ⟨v, w', h', S', _, _, H'⟩ := (H w S).out
        have := PV.mk hi hsel m π h' (L.setIfInBounds j true) (updo f oj.dst v) hp2 (closed_set hL hjr) (hfree.set hoj hjun) (ready_mono hr (Ne.symm hji)) hm H' w' S'
        rwa [mkAt_updo a3] at this
      | 2, H =>
        obtain ⟨v, w', h', S', _, H'⟩ := (H w S).out
        have := PV.mk hi hsel m π h' (L.setIfInBounds j true) (updo f oj.dst v) hp2 (closed_set hL hjr) (hfree.set hoj hjun) (ready_mono hr (Ne.symm hji)) hm H' w' S'
        rwa [mkAt_updo a3] at this
      | 3, ⟨v, _, H'⟩ =>
        have := PV.mk hi hsel m π h (L.setIfInBounds j true) (updo f oj.dst v) hp2 (closed_set hL hjr) (hfree.set hoj hjun) (ready_mono hr (Ne.symm hji)) hm H' w S
        rwa [mkAt_updo a3] at this
      | k + 4, ⟨T, cs, V, _, H'⟩ =>
        have := PV.mk hi hsel m π (.cl w.heap.size T cs :: h) (L.setIfInBounds j true) (updo f oj.dst (V w.heap.size)) hp2 (closed_set hL hjr) (hfree.set hoj hjun) (ready_mono hr (Ne.symm hji)) hm (H' w.heap.size) (w.alloc (.cells cs.toArray T)) (S.alloc T cs)
        rwa [mkAt_updo a3] at this
theorem planOk_all {B E : List Nat} : ∀ (m : Nat) (π : List (Nat × Nat)) (L : Array Bool), planOk ops B E m π L = true → ∀ p ∈ π, ∃ o, ops[p.1]? = some o
  | 0, π, L, hp, p, hm => by
    simp only [planOk, Bool.and_eq_true, List.isEmpty_iff] at hp
    rw [hp.1] at hm
    cases hm
  | m + 1, [], L, hp, p, hm => by cases hm
  | m + 1, (j, k) :: π, L, hp, p, hm => by
    simp only [planOk, Bool.and_eq_true] at hp
    obtain ⟨_, hc, hp2⟩ := hp
    rcases List.mem_cons.1 hm with rfl | hm
    · obtain ⟨_, o, ho, _⟩ := mem_ready.1 (by simpa using hc : j ∈ Region.ready .any ops L)
      exact ⟨o, ho⟩
    · exact planOk_all m π _ hp2 p hm

theorem PV.av {E : List Nat} (hsel : Region.noSelect ops = true) : ∀ (m : Nat) (π : List (Nat × Nat)) (h : List HO) (L : Array Bool) (f : Fm), closedL ops L → planOk ops (bef ops.toList []) E m π L = true →
    PV P ro ops Q w0 M h (planOps ops π) D f → AV P ro ops E w0 M (fun f w => Q .normal D f w) m h L f
  | 0, π, h, L, f, hL, hp, H => by
    simp only [planOk, Bool.and_eq_true, List.isEmpty_iff] at hp
    obtain ⟨rfl, hp⟩ := hp
    exact ⟨hp, H⟩
  | m + 1, [], h, L, f, hL, hp, H => by simp [planOk] at hp
  | m + 1, (i, k) :: π, h, L, f, hL, hp, H => by
    have hp' := hp
    simp only [planOk, Bool.and_eq_true] at hp
    obtain ⟨hp1, hc, hp2⟩ := hp
    have hr : i ∈ Region.ready .any ops L := by simpa using hc
    obtain ⟨hiun, o, ho, _⟩ := mem_ready.1 hr
    have H0 := H
    simp only [planOps, ho] at H
    cases hb : Nat.beq k 0 with
    | true =>
      have hk := Nat.eq_of_beq_eq_true hb
      subst hk
      rw [hb] at hp1
      simp only [cond_true, Bool.and_eq_true, Bool.not_eq_true'] at hp1
      obtain ⟨hp1, hpE⟩ := hp1
      obtain ⟨v, hq, H'⟩ := H
      exact first_quiet ho hsel _ h L f hL (Region.free_spec ho hp1) hr (.inl ⟨hpE, hq⟩) (PV.av hsel m π _ _ _ (closed_set hL hr) hp2 H')
    | false =>
     cases hb3 : Nat.beq k 3 with
     | true =>
      have hk := Nat.eq_of_beq_eq_true hb3
      subst hk
      rw [hb, hb3] at hp1
      simp only [cond_false, cond_true] at hp1
      obtain ⟨v, hq, H'⟩ := H
      exact first_quiet ho hsel _ h L f hL (Region.free_spec ho hp1) hr (.inr hq) (PV.av hsel m π _ _ _ (closed_set hL hr) hp2 H')
     | false =>
      rw [hb, hb3] at hp1
      simp only [cond_false, Bool.and_eq_true, List.all_eq_true] at hp1
      obtain ⟨hall, hcut⟩ := hp1
      refine ⟨(fun h0 => by rw [h0] at hr; cases hr), fun j hj oj hoj w S => ?_⟩
      by_cases hji : j = i
      · subst hji
        rw [ho] at hoj
        injection hoj with hoj
        subst hoj
        match k, H, hb, hcut with
        | 0, _, hb, _ => simp at hb
        | 1, H, _, _ =>
          refine (H w S).mono ?_
          rintro v w' ⟨h', hS', _, ⟨p, hpm⟩, H'⟩
          exact ⟨h', hS', .inr (fun w S => S.of_perm hpm), PV.av hsel m π _ _ _ (closed_set hL hr) hp2 H'⟩
        | 2, H, _, hcut =>
          refine (H w S).mono ?_
          rintro v w' ⟨h', hS', _, H'⟩
          exact ⟨h', hS', .inl (by simpa using hcut), PV.av hsel m π _ _ _ (closed_set hL hr) hp2 H'⟩
        | 3, _, _, _ => simp at hb3
        | k + 4, H, _, _ =>
          obtain ⟨T, cs, V, hm, H'⟩ := H
          obtain ⟨hw, hrun⟩ := mk_run (ops := ops) hm
          unfold Beh
          rw [if_pos hw, hrun]
          exact ⟨_, S.alloc T cs, .inr (fun w S => S.drop _ (List.sublist_cons_self _ _)), PV.av hsel m π _ _ _ (closed_set hL hr) hp2 (H' _)⟩
      · have h1 := hall j hj
        have hne : Nat.beq i j = false := by
          cases hbb : Nat.beq i j with
          | false => rfl
          | true => exact absurd (Nat.eq_of_beq_eq_true hbb).symm hji
        rw [hne] at h1
        simp only [Bool.false_or, Bool.and_eq_true] at h1
        obtain ⟨hmk, hfr, hpl⟩ := h1
        have hnb : (Nat.beq i j && Nat.beq k 4) = false := by rw [hne]; rfl
        have hmk' : isMk ((i, k) :: π) j = true := by rw [isMk_cons, hnb]; exact hmk
        have hless : less j ((i, k) :: π) = (i, k) :: less j π := by simp only [less, hnb, cond_false]
        have hfree := Region.free_spec hoj hfr
        -- the maker's own numbers: out of the plan
        have hsome : ∃ T cs V, mkAt P f oj = some (T, cs, V) := PV.mk hoj hsel (m + 1) ((i, k) :: π) h L f hp' hL hfree hj hmk' H0 w S
        obtain ⟨T, cs, V, hm⟩ := hsome
        obtain ⟨hw, hrun⟩ := mk_run (ops := ops) hm
        unfold Beh
        rw [if_pos hw, hrun]
        refine ⟨_, S.alloc T cs, .inr (fun w S => S.drop _ (List.sublist_cons_self _ _)), ?_⟩
        have hE := early hoj hsel (m + 1) ((i, k) :: π) h L f hm hp' hL hfree hj hmk' H0 w.heap.size
        rw [hless] at hE
        exact PV.av hsel m ((i, k) :: less j π) _ _ _ (closed_set hL hj) hpl hE
end

def dsts (n : Nat) : List Oper → Bool
  | [] => true
  | o :: r => dstOk n o.dst && dsts n r
theorem dsts_mem {l : List Oper} (h : dsts n l = true) : ∀ o ∈ l, dstOk n o.dst = true := by
  induction l with
  | nil => intro o ho; cases ho
  | cons a l ih =>
    simp only [dsts, Bool.and_eq_true] at h
    intro o ho
    rcases List.mem_cons.1 ho with rfl | ho
    · exact h.1
    · exact ih h.2 o ho
def stab (π : List (Nat × Nat)) : List Nat := (π.filter fun p => Nat.beq p.2 3).map (·.1)
def planAll (n : Nat) (l : List Oper) (π : List (Nat × Nat)) : Bool :=
  planOk l.toArray (bef l []) (stab π) l.length π (Array.replicate l.length false) && (Region.noSelect l.toArray && dsts n l)
variable {f : Fm} {w w0 : World} {M : List Nat} {h : List HO}
theorem cw_draw {id : Nat} {l : List Oper} (π : List (Nat × Nat)) (S : Sat w0 M h w) (hm : P.follows .mixedOrders = true) (hok : planAll n l π = true)
    (k : PV P ro l.toArray Q w0 M h (planOps l.toArray π) D f) : CW P ro n (.region id l.toArray true) Q D f w := fun a ha => by
  simp only [planAll, Bool.and_eq_true] at hok
  obtain ⟨h1, h2, h4⟩ := hok
  have hcl : closedL l.toArray (Array.replicate l.length false) := by
    intro k o e _ hk
    exfalso
    rw [Array.getD_eq_getD_getElem?, Array.getElem?_replicate] at hk
    split at hk <;> simp at hk
  have h6 := PV.av (ops := l.toArray) (E := stab π) h2 l.length π _ _ f hcl (by simpa using h1) k
  refine wpIn_region_any hm ?_
  have h7 := AV.wp (n := n) (Q := Q) (D := D) (ops := l.toArray) (by simpa using dsts_mem h4) (fun f w h => h) l.length _ _ f a w.drew ha S.drew h6
  simpa using h7
/-- first reads; then one of two may come up, either way a plan -/
def preOk (ops : Array Oper) (E : List Nat) : List (Nat × Nat) → Array Bool → Option (Array Bool)
  | [], L => some L
  | (i, k) :: π, L => bif Nat.beq k 0 && (Region.free .any ops L i && !(E.elem i)) && (Region.ready .any ops L).contains i then preOk ops E π (L.setIfInBounds i true) else none
theorem PV.pre {ops : Array Oper} {E : List Nat} {K : Fm → World → Prop} {m : Nat} {h : List HO} (hsel : Region.noSelect ops = true) : ∀ (π : List (Nat × Nat)) (L L' : Array Bool) (f : Fm), closedL ops L → preOk ops E π L = some L' →
    (∃ w, Sat w0 M h w) → PV P ro ops (fun _ _ f _ => AV P ro ops E w0 M K m h L' f) w0 M h (planOps ops π) D f → AV P ro ops E w0 M K (m + π.length) h L f
  | [], L, L', f, hL, hp, ⟨w, S⟩, H => by
    simp only [preOk, Option.some.injEq] at hp
    subst hp
    exact H w S
  | (i, k) :: π, L, L', f, hL, hp, hw, H => by
    simp only [preOk] at hp
    cases hb : (Nat.beq k 0 && (Region.free .any ops L i && !(E.elem i)) && (Region.ready .any ops L).contains i) with
    | false => rw [hb] at hp; cases hp
    | true =>
      rw [hb] at hp
      simp only [cond_true] at hp
      simp only [Bool.and_eq_true, Bool.not_eq_true'] at hb
      obtain ⟨⟨h1, h2, h3⟩, h4⟩ := hb
      have hk := Nat.eq_of_beq_eq_true h1
      subst hk
      have hr : i ∈ Region.ready .any ops L := by simpa using h4
      obtain ⟨_, o, ho, _⟩ := mem_ready.1 hr
      simp only [planOps, ho] at H
      obtain ⟨v, hq, H'⟩ := H
      exact first_quiet ho hsel _ h L f hL (Region.free_spec ho h2) hr (.inl ⟨h3, hq⟩) (PV.pre hsel π _ _ _ (closed_set hL hr) hp hw H')
theorem closed_pre {ops : Array Oper} {E : List Nat} : ∀ (π : List (Nat × Nat)) (L L' : Array Bool), closedL ops L → preOk ops E π L = some L' → closedL ops L'
  | [], L, L', hL, hp => by
    simp only [preOk, Option.some.injEq] at hp
    subst hp
    exact hL
  | (i, k) :: π, L, L', hL, hp => by
    simp only [preOk] at hp
    cases hb : (Nat.beq k 0 && (Region.free .any ops L i && !(E.elem i)) && (Region.ready .any ops L).contains i) with
    | false => rw [hb] at hp; cases hp
    | true =>
      rw [hb] at hp
      simp only [cond_true] at hp
      simp only [Bool.and_eq_true] at hb
      exact closed_pre π _ _ (closed_set hL (by simpa using hb.2)) hp
def twoAll (n : Nat) (l : List Oper) (E : List Nat) (π : List (Nat × Nat)) (a : Nat) (ra : List (Nat × Nat)) (b : Nat) (rb : List (Nat × Nat)) : Bool :=
  (match preOk l.toArray E π (Array.replicate l.length false) with
   | some L => (Region.ready .any l.toArray L).all (fun j => Nat.beq j a || Nat.beq j b) && ((Region.ready .any l.toArray L).contains a && (Region.ready .any l.toArray L).contains b) &&
      (planOk l.toArray (bef l []) E ra.length ra (L.setIfInBounds a true) && planOk l.toArray (bef l []) E rb.length rb (L.setIfInBounds b true)) && (Nat.beq ra.length rb.length && Nat.beq l.length (ra.length + 1 + π.length))
   | none => false) && (Region.noSelect l.toArray && dsts n l)
theorem cw_draw2 {id : Nat} {l : List Oper} (E : List Nat) (π : List (Nat × Nat)) (a' : Nat) (ra : List (Nat × Nat)) (b' : Nat) (rb : List (Nat × Nat)) (S : Sat w0 M h w) (hm : P.follows .mixedOrders = true) (hok : twoAll n l E π a' ra b' rb = true)
    (k : PV P ro l.toArray (fun _ _ f _ => PV P ro l.toArray Q w0 M h (planOps l.toArray ((a', 1) :: ra)) D f ∧ PV P ro l.toArray Q w0 M h (planOps l.toArray ((b', 1) :: rb)) D f) w0 M h (planOps l.toArray π) D f) : CW P ro n (.region id l.toArray true) Q D f w := fun a ha => by
  simp only [twoAll, Bool.and_eq_true] at hok
  obtain ⟨h1, h2, h4⟩ := hok
  have hcl : closedL l.toArray (Array.replicate l.length false) := by
    intro k o e _ hk
    exfalso
    rw [Array.getD_eq_getD_getElem?, Array.getElem?_replicate] at hk
    split at hk <;> simp at hk
  split at h1
  · rename_i L hpre
    simp only [Bool.and_eq_true, List.all_eq_true, Bool.or_eq_true] at h1
    obtain ⟨⟨⟨hall, hra, hrb⟩, hpa, hpb⟩, hlen, hll⟩ := h1
    have hlen := Nat.eq_of_beq_eq_true hlen
    have hll := Nat.eq_of_beq_eq_true hll
    have hclL := closed_pre π _ _ hcl hpre
    have hra' : a' ∈ Region.ready .any l.toArray L := by simpa using hra
    have hrb' : b' ∈ Region.ready .any l.toArray L := by simpa using hrb
    have hAV : ∀ f, (PV P ro l.toArray Q w0 M h (planOps l.toArray ((a', 1) :: ra)) D f ∧ PV P ro l.toArray Q w0 M h (planOps l.toArray ((b', 1) :: rb)) D f) → AV P ro l.toArray E w0 M (fun f w => Q .normal D f w) (ra.length + 1) h L f := by
      rintro f ⟨Ha, Hb⟩
      refine ⟨(fun h0 => by rw [h0] at hra'; cases hra'), fun j hj oj hoj w S => ?_⟩
      rcases hall j hj with e | e
      · have e := Nat.eq_of_beq_eq_true e
        subst e
        simp only [planOps, hoj] at Ha
        refine (Ha w S).mono ?_
        rintro v w' ⟨h', hS', _, ⟨p, hpm⟩, H'⟩
        exact ⟨h', hS', .inr (fun w S => S.of_perm hpm), PV.av h2 _ ra _ _ _ (closed_set hclL hj) hpa H'⟩
      · have e := Nat.eq_of_beq_eq_true e
        subst e
        simp only [planOps, hoj] at Hb
        refine (Hb w S).mono ?_
        rintro v w' ⟨h', hS', _, ⟨p, hpm⟩, H'⟩
        refine ⟨h', hS', .inr (fun w S => S.of_perm hpm), ?_⟩
        have := PV.av (E := E) h2 _ rb _ _ _ (closed_set hclL hj) hpb H'
        rwa [← hlen] at this
    have hmono : ∀ (π : List (Nat × Nat)) (f : Fm), PV P ro l.toArray (fun _ _ f _ => PV P ro l.toArray Q w0 M h (planOps l.toArray ((a', 1) :: ra)) D f ∧ PV P ro l.toArray Q w0 M h (planOps l.toArray ((b', 1) :: rb)) D f) w0 M h (planOps l.toArray π) D f →
        (∀ p ∈ π, p.2 = 0) → PV P ro l.toArray (fun _ _ f _ => AV P ro l.toArray E w0 M (fun f w => Q .normal D f w) (ra.length + 1) h L f) w0 M h (planOps l.toArray π) D f := by
      intro π
      induction π with
      | nil => exact fun f H _ w S => hAV f (H w S)
      | cons p π ih =>
        intro f H hz
        obtain ⟨i, kk⟩ := p
        have hk0 : kk = 0 := hz (i, kk) List.mem_cons_self
        subst hk0
        simp only [planOps] at H ⊢
        cases ho : l.toArray[i]? with
        | none => rw [ho] at H; exact fun w S => hAV f (H w S)
        | some o =>
          rw [ho] at H
          obtain ⟨v, hq, H'⟩ := H
          exact ⟨v, hq, ih _ H' (fun p hp => hz p (List.mem_cons_of_mem _ hp))⟩
    have hz : ∀ (π : List (Nat × Nat)) (L L' : Array Bool), preOk l.toArray E π L = some L' → ∀ p ∈ π, p.2 = 0 := by
      intro π
      induction π with
      | nil => intro _ _ _ p hp; cases hp
      | cons q π ih =>
        intro L L' hp p hpm
        obtain ⟨i, kk⟩ := q
        simp only [preOk] at hp
        cases hb : (Nat.beq kk 0 && (Region.free .any l.toArray L i && !(E.elem i)) && (Region.ready .any l.toArray L).contains i) with
        | false => rw [hb] at hp; cases hp
        | true =>
          rw [hb] at hp
          simp only [Bool.and_eq_true] at hb
          rcases List.mem_cons.1 hpm with rfl | hpm
          · exact Nat.eq_of_beq_eq_true hb.1.1
          · exact ih _ _ hp p hpm
    refine wpIn_region_any hm ?_
    have h6 := PV.pre (E := E) h2 π _ _ f hcl hpre ⟨w, S⟩ (hmono π f k (hz π _ _ hpre))
    rw [← hll] at h6
    have h7 := AV.wp (n := n) (Q := Q) (D := D) (ops := l.toArray) (by simpa using dsts_mem h4) (fun f w h => h) l.length _ _ f a w.drew ha S.drew h6
    simpa using h7
  · cases h1
end
end Go.Proofs.Ytfkcihcbmlcajaa
/- The operations of a region that draws its order, a lemma each: y: a read, taken first · z: the only one that may come up. No statement of the seat is proved here. -/
namespace Go.Proofs.Ytfkcihcbmlcajaa
set_option linter.unusedVariables false
set_option linter.unusedSimpArgs false
open Go Go.RowKit
section
variable {P : Program} {ro : Option Nat} {n : Nat} {Q : Post} {D : List Deferred} {f : Fm} {w w0 : World} {M : List Nat} {h h1 : List HO}
variable {ops : Array Oper} {rest : List (Nat × Oper)} {d ty kd : Nat} {ps : String} {af : Array Edge} {gd : Option (Nat × Bool)}
variable {l : List (Nat × Operand)} {al cl : List Operand} {x y : Operand} {T e len size i : Nat}

theorem y_val {o : Oper} {v0 v : Value} (hg : want ops f o = true) (hd : o.dst = some d) (hr : ∀ w, Sat w0 M h w → (execOp (fev f) o).run P w = .ok (.value v0) w) (hi : Is v0 v)
    (k : PV P ro ops Q w0 M h rest D (upd f d v)) : PV P ro ops Q w0 M h ((0, o) :: rest) D f :=
  ⟨v0, .inl ⟨hg, hr⟩, by rw [hd, hi.eq]; exact k⟩
theorem y_not {op : Op} {j : Nat} {wn : Bool} (hg : want ops f ⟨some d, op, ty, ps, af, some (j, wn)⟩ = false) (k : PV P ro ops Q w0 M h rest D (upd f d undef)) :
    PV P ro ops Q w0 M h ((0, ⟨some d, op, ty, ps, af, some (j, wn)⟩) :: rest) D f := ⟨undef, .inr ⟨hg, rfl⟩, k⟩
theorem y_move {v : Value} (hg : want ops f ⟨some d, .move x, ty, ps, af, gd⟩ = true) (hi : Is (fev f x) v) (k : PV P ro ops Q w0 M h rest D (upd f d v)) :
    PV P ro ops Q w0 M h ((0, ⟨some d, .move x, ty, ps, af, gd⟩) :: rest) D f := y_val hg rfl (fun _ _ => rfl) hi k
theorem y_assign {v : Value} (hg : want ops f ⟨some d, .assign x, ty, ps, af, gd⟩ = true) (hi : Is (fev f x) v) (k : PV P ro ops Q w0 M h rest D (upd f d v)) :
    PV P ro ops Q w0 M h ((0, ⟨some d, .assign x, ty, ps, af, gd⟩) :: rest) D f := y_val hg rfl (fun _ _ => rfl) hi k
theorem y_pick {c : Operand} {b : Bool} {v : Value} (hg : want ops f ⟨some d, .pick c x y, ty, ps, af, gd⟩ = true) (hc : fev f c = .bool b) (hi : Is (bif b then fev f x else fev f y) v) (k : PV P ro ops Q w0 M h rest D (upd f d v)) :
    PV P ro ops Q w0 M h ((0, ⟨some d, .pick c x y, ty, ps, af, gd⟩) :: rest) D f :=
  y_val (v0 := bif b then fev f x else fev f y) hg rfl (fun _ _ => by simp only [execOp, hc, asBool, Sem.run_bind, Sem.run_pure, Result.andThen_ok]; cases b <;> rfl) hi k
theorem y_bin {op : BinOp} {xt yt : Nat} {v0 v : Value} (hg : want ops f ⟨some d, .binOp op xt x y yt, ty, ps, af, gd⟩ = true)
    (hr : ∀ w, (execOp (fev f) ⟨some d, .binOp op xt x y yt, ty, ps, af, gd⟩).run P w = .ok (.value v0) w) (hi : Is v0 v) (k : PV P ro ops Q w0 M h rest D (upd f d v)) : PV P ro ops Q w0 M h ((0, ⟨some d, .binOp op xt x y yt, ty, ps, af, gd⟩) :: rest) D f :=
  y_val hg rfl (fun w _ => hr w) hi k
theorem y_un {op : UnOp} {xt : Nat} {v0 v : Value} (hg : want ops f ⟨some d, .unOp op xt x, ty, ps, af, gd⟩ = true)
    (hr : ∀ w, (execOp (fev f) ⟨some d, .unOp op xt x, ty, ps, af, gd⟩).run P w = .ok (.value v0) w) (hi : Is v0 v) (k : PV P ro ops Q w0 M h rest D (upd f d v)) : PV P ro ops Q w0 M h ((0, ⟨some d, .unOp op xt x, ty, ps, af, gd⟩) :: rest) D f :=
  y_val hg rfl (fun w _ => hr w) hi k
theorem y_conv {s t : Nat} {v0 v : Value} (hg : want ops f ⟨some d, .convert s t x, ty, ps, af, gd⟩ = true)
    (hr : ∀ w, (execOp (fev f) ⟨some d, .convert s t x, ty, ps, af, gd⟩).run P w = .ok (.value v0) w) (hi : Is v0 v) (k : PV P ro ops Q w0 M h rest D (upd f d v)) : PV P ro ops Q w0 M h ((0, ⟨some d, .convert s t x, ty, ps, af, gd⟩) :: rest) D f :=
  y_val hg rfl (fun w _ => hr w) hi k
theorem y_extract {v0 v : Value} (hg : want ops f ⟨some d, .extract x i, ty, ps, af, gd⟩ = true)
    (hr : ∀ w, (execOp (fev f) ⟨some d, .extract x i, ty, ps, af, gd⟩).run P w = .ok (.value v0) w) (hi : Is v0 v) (k : PV P ro ops Q w0 M h rest D (upd f d v)) : PV P ro ops Q w0 M h ((0, ⟨some d, .extract x i, ty, ps, af, gd⟩) :: rest) D f :=
  y_val hg rfl (fun w _ => hr w) hi k
theorem y_load {T' b off : Nat} {kk : Option Nat} {cs : List Value} {v0 v : Value} (hg : want ops f ⟨some d, .load T x, ty, ps, af, gd⟩ = true)
    (hx : fev f x = .pointer (some ⟨b, off, none⟩)) (hh : Has h (.cl b T' cs)) (hk : ldk P T = some kk) (hv : ldv kk cs off = some v0) (hi : Is v0 v)
    (k : PV P ro ops Q w0 M h rest D (upd f d v)) : PV P ro ops Q w0 M h ((0, ⟨some d, .load T x, ty, ps, af, gd⟩) :: rest) D f :=
  y_val hg rfl (fun _ S => r_load_at rfl hx (S.cells hh) hk hv) hi k
theorem y_loadB {T' b off : Nat} {kk : Option Nat} {cs : List Value} {v0 v : Value} (hg : want ops f ⟨some d, .load T x, ty, ps, af, gd⟩ = true)
    (hx : fev f x = .pointer (some ⟨b, off, none⟩)) (O : OldB w0 M b T' cs) (hk : ldk P T = some kk) (hv : ldv kk cs off = some v0) (hi : Is v0 v)
    (k : PV P ro ops Q w0 M h rest D (upd f d v)) : PV P ro ops Q w0 M h ((0, ⟨some d, .load T x, ty, ps, af, gd⟩) :: rest) D f :=
  y_val hg rfl (fun _ S => r_load_at rfl hx (O.cells S) hk hv) hi k
theorem y_loadR {A : Option Addr} {j off m : Nat} {cell : Nat → List Value} {kk : Option Nat} {v0 v : Value} (hg : want ops f ⟨some d, .load T x, ty, ps, af, gd⟩ = true)
    (hx : fev f x = .pointer (some (ea A size j off))) (R : Old w0 M A size m cell) (him : j < m) (hk : ldk P T = some kk) (hv : ldv kk (cell j) off = some v0) (hi : Is v0 v)
    (k : PV P ro ops Q w0 M h rest D (upd f d v)) : PV P ro ops Q w0 M h ((0, ⟨some d, .load T x, ty, ps, af, gd⟩) :: rest) D f :=
  y_val hg rfl (fun _ S => r_load_at rfl hx ((R.now S).cells him) hk hv) hi k
theorem y_fieldB {b off k0 r : Nat} (hg : want ops f ⟨some d, .fieldAddr T x i, ty, ps, af, gd⟩ = true)
    (hx : fev f x = .pointer (some ⟨b, off, none⟩)) (hf : fieldOff P T i = some k0) (hn : IsN (off + k0) r) (k : PV P ro ops Q w0 M h rest D (upd f d (.pointer (some ⟨b, r, none⟩)))) :
    PV P ro ops Q w0 M h ((0, ⟨some d, .fieldAddr T x i, ty, ps, af, gd⟩) :: rest) D f :=
  y_val (v0 := .pointer (some ((⟨b, off, none⟩ : Addr).add k0))) hg rfl (fun _ _ => r_field rfl hx hf) (.z (by rw [← hn.eq]; exact .ptrb)) k
theorem y_fieldE {A : Option Addr} {j off k0 r : Nat} (hg : want ops f ⟨some d, .fieldAddr T x i, ty, ps, af, gd⟩ = true)
    (hx : fev f x = .pointer (some (ea A size j off))) (hf : fieldOff P T i = some k0) (hn : IsN (off + k0) r) (k : PV P ro ops Q w0 M h rest D (upd f d (.pointer (some (ea A size j r))))) :
    PV P ro ops Q w0 M h ((0, ⟨some d, .fieldAddr T x i, ty, ps, af, gd⟩) :: rest) D f :=
  y_val (v0 := .pointer (some ((ea A size j off).add k0))) hg rfl (fun _ _ => r_field rfl hx hf) (.z (by rw [← hn.eq]; exact .ptre)) k
theorem y_index {A : Option Addr} {m c j : Nat} {kd : IntKind} (hg : want ops f ⟨some d, .indexAddr T x y, ty, ps, af, gd⟩ = true)
    (hx : fev f x = .slice A m c) (hy : fev f y = .int kd (j : Int)) (hs : elemSize P T = some e) (hz : IsN e size) (hi : j < m) (hA : A.isSome = true)
    (k : PV P ro ops Q w0 M h rest D (upd f d (.pointer (some (ea A size j 0))))) : PV P ro ops Q w0 M h ((0, ⟨some d, .indexAddr T x y, ty, ps, af, gd⟩) :: rest) D f :=
  y_val (v0 := .pointer (some (ea A size j 0))) hg rfl (fun _ _ => r_index rfl hx hy (hz.eq ▸ hs) hi hA) (.z .any) k
theorem y_indexI {A : Option Addr} {m c : Nat} {z : Int} {kd : IntKind} (hg : want ops f ⟨some d, .indexAddr T x y, ty, ps, af, gd⟩ = true)
    (hx : fev f x = .slice A m c) (hy : fev f y = .int kd z) (hs : elemSize P T = some e) (hz : IsN e size) (h0 : 0 ≤ z) (hi : z < m) (hA : A.isSome = true)
    (k : PV P ro ops Q w0 M h rest D (upd f d (.pointer (some (ea A size z.toNat 0))))) : PV P ro ops Q w0 M h ((0, ⟨some d, .indexAddr T x y, ty, ps, af, gd⟩) :: rest) D f :=
  y_val (v0 := .pointer (some (ea A size z.toNat 0))) hg rfl (fun _ _ => r_indexI rfl hx hy (hz.eq ▸ hs) h0 hi hA) (.z .any) k
theorem y_indexArr {a : Addr} {m : Nat} {z : Int} {kd : IntKind} {v : Value} (hg : want ops f ⟨some d, .indexAddr T x y, ty, ps, af, gd⟩ = true)
    (hx : fev f x = .pointer (some a)) (hy : fev f y = .int kd z) (hs : arrSize P T = some (m, size)) (h0 : 0 ≤ z) (h1 : z < m) (hi : Is0 (.pointer (some (a.add (z.toNat * size)))) v)
    (k : PV P ro ops Q w0 M h rest D (upd f d v)) : PV P ro ops Q w0 M h ((0, ⟨some d, .indexAddr T x y, ty, ps, af, gd⟩) :: rest) D f :=
  y_val hg rfl (fun _ _ => r_indexArr rfl hx hy hs h0 h1) (.z hi) k
theorem y_build {cs cs' : List Value} (hg : want ops f ⟨some d, .build T l.toArray, ty, ps, af, gd⟩ = true)
    (hb : bld P T (pvs f l) = some cs) (hn : NL cs cs') (k : PV P ro ops Q w0 M h rest D (upd f d (.agg cs'.toArray))) : PV P ro ops Q w0 M h ((0, ⟨some d, .build T l.toArray, ty, ps, af, gd⟩) :: rest) D f :=
  y_val (v0 := .agg cs.toArray) hg rfl (fun _ _ => r_build rfl hb) (.agg hn) k
theorem y_makeFunc {fn : Fn} {l' : List Value} (hg : want ops f ⟨some d, .makeFunc fn #[] cl.toArray, ty, ps, af, gd⟩ = true)
    (hn : NL (evs f cl) l') (k : PV P ro ops Q w0 M h rest D (upd f d (.func fn #[] l'.toArray))) : PV P ro ops Q w0 M h ((0, ⟨some d, .makeFunc fn #[] cl.toArray, ty, ps, af, gd⟩) :: rest) D f :=
  y_val (v0 := .func fn #[] l'.toArray) hg rfl (fun _ _ => r_makeFunc rfl hn) (.z .any) k
theorem y_builtin {b : Builtin} {ts : Array TypeId} {v0 v : Value} (hg : want ops f ⟨some d, .call ⟨.builtin b, al.toArray, ts⟩, ty, ps, af, gd⟩ = true)
    (hr : ∀ w c, (builtin b ts ty c (evs f al).toArray).run P w = .ok (.value v0) w) (hi : Is v0 v) (k : PV P ro ops Q w0 M h rest D (upd f d v)) : PV P ro ops Q w0 M h ((0, ⟨some d, .call ⟨.builtin b, al.toArray, ts⟩, ty, ps, af, gd⟩) :: rest) D f :=
  y_val hg rfl (fun w _ => r_builtin rfl (hr w)) hi k
theorem y_gsplit {op : Op} {dd : Option Nat} {j t : Nat} {wn b : Bool} (hj : (ops[j]?).bind (·.dst) = some t) (hf : f t = .bool b)
    (h1 : b = true → PV P ro ops Q w0 M h ((kd, ⟨dd, op, ty, ps, af, some (j, wn)⟩) :: rest) D (upd f t (.bool true))) (h2 : b = false → PV P ro ops Q w0 M h ((kd, ⟨dd, op, ty, ps, af, some (j, wn)⟩) :: rest) D (upd f t (.bool false))) :
    PV P ro ops Q w0 M h ((kd, ⟨dd, op, ty, ps, af, some (j, wn)⟩) :: rest) D f := by
  cases b with
  | true => have := h1 rfl; rwa [upd_self hf] at this
  | false => have := h2 rfl; rwa [upd_self hf] at this
theorem y_gnot {op : Op} {dd : Option Nat} {j t : Nat} {wn b : Bool} (hj : (ops[j]?).bind (·.dst) = some t) (hf : f t = .bool (!b))
    (h1 : b = false → PV P ro ops Q w0 M h ((kd, ⟨dd, op, ty, ps, af, some (j, wn)⟩) :: rest) D (upd f t (.bool true))) (h2 : b = true → PV P ro ops Q w0 M h ((kd, ⟨dd, op, ty, ps, af, some (j, wn)⟩) :: rest) D (upd f t (.bool false))) :
    PV P ro ops Q w0 M h ((kd, ⟨dd, op, ty, ps, af, some (j, wn)⟩) :: rest) D f := y_gsplit hj hf (fun e => h1 (by simpa using e)) (fun e => h2 (by simpa using e))
theorem y_gndec {op : Op} {dd : Option Nat} {j t : Nat} {wn e : Bool} {p : Prop} {inst : Decidable p} (hj : (ops[j]?).bind (·.dst) = some t) (hf : f t = .bool e) (he : e = !decide p)
    (h1 : ¬ p → PV P ro ops Q w0 M h ((kd, ⟨dd, op, ty, ps, af, some (j, wn)⟩) :: rest) D (upd f t (.bool true))) (h2 : p → PV P ro ops Q w0 M h ((kd, ⟨dd, op, ty, ps, af, some (j, wn)⟩) :: rest) D (upd f t (.bool false))) :
    PV P ro ops Q w0 M h ((kd, ⟨dd, op, ty, ps, af, some (j, wn)⟩) :: rest) D f := y_gnot hj (hf.trans (by rw [he])) (fun e => h1 (of_decide_eq_false e)) (fun e => h2 (of_decide_eq_true e))
theorem y_gdec {op : Op} {dd : Option Nat} {j t : Nat} {wn : Bool} {p : Prop} {inst : Decidable p} (hj : (ops[j]?).bind (·.dst) = some t) (hf : f t = .bool (decide p))
    (h1 : p → PV P ro ops Q w0 M h ((kd, ⟨dd, op, ty, ps, af, some (j, wn)⟩) :: rest) D (upd f t (.bool true))) (h2 : ¬ p → PV P ro ops Q w0 M h ((kd, ⟨dd, op, ty, ps, af, some (j, wn)⟩) :: rest) D (upd f t (.bool false))) :
    PV P ro ops Q w0 M h ((kd, ⟨dd, op, ty, ps, af, some (j, wn)⟩) :: rest) D f := y_gsplit hj hf (fun e => h1 (of_decide_eq_true e)) (fun e => h2 (of_decide_eq_false e))
theorem y_geq {op : Op} {dd : Option Nat} {j t : Nat} {wn : Bool} {p q : Int} (hj : (ops[j]?).bind (·.dst) = some t) (hf : f t = .bool (p == q))
    (h1 : p = q → PV P ro ops Q w0 M h ((kd, ⟨dd, op, ty, ps, af, some (j, wn)⟩) :: rest) D (upd f t (.bool true))) (h2 : ¬ p = q → PV P ro ops Q w0 M h ((kd, ⟨dd, op, ty, ps, af, some (j, wn)⟩) :: rest) D (upd f t (.bool false))) :
    PV P ro ops Q w0 M h ((kd, ⟨dd, op, ty, ps, af, some (j, wn)⟩) :: rest) D f := y_gsplit hj hf (fun e => h1 (eq_of_beq e)) (fun e => h2 (fun e' => by subst e'; simp at e))
theorem y_gne {op : Op} {dd : Option Nat} {j t : Nat} {wn : Bool} {p q : Int} (hj : (ops[j]?).bind (·.dst) = some t) (hf : f t = .bool (p != q))
    (h1 : ¬ p = q → PV P ro ops Q w0 M h ((kd, ⟨dd, op, ty, ps, af, some (j, wn)⟩) :: rest) D (upd f t (.bool true))) (h2 : p = q → PV P ro ops Q w0 M h ((kd, ⟨dd, op, ty, ps, af, some (j, wn)⟩) :: rest) D (upd f t (.bool false))) :
    PV P ro ops Q w0 M h ((kd, ⟨dd, op, ty, ps, af, some (j, wn)⟩) :: rest) D f := y_gsplit hj hf (fun e => h1 (fun e' => by subst e'; simp at e)) (fun e => h2 (by simpa using e))
theorem y_nil (k : ∀ w, Sat w0 M h w → Q .normal D f w) : PV P ro ops Q w0 M h [] D f := k

/-! ### z -/
theorem beh_run {o : Oper} {v : Value} {w' : World} {K : Value → World → Prop} (hg : want ops f o = true) (hr : (execOp (fev f) o).run P w = .ok (.value v) w') (k : K v w') : Beh P ro ops o f w K := by
  unfold Beh; rw [if_pos hg, hr]; exact k
theorem beh_skip {o : Oper} {w' : World} {K : Value → World → Prop} (hg : want ops f o = true) (hr : (execOp (fev f) o).run P w = .ok .skip w') (k : K undef w') : Beh P ro ops o f w K := by
  unfold Beh; rw [if_pos hg, hr]; exact k
theorem beh_not {o : Oper} {K : Value → World → Prop} (hg : want ops f o = false) (k : K undef w) : Beh P ro ops o f w K := by
  unfold Beh; rw [if_neg (by rw [hg]; simp)]; exact k
theorem beh_call {o : Oper} {g : FuncId} {args : Array Value} {R : Value → World → Prop} {K : Value → World → Prop} (hg : want ops f o = true) (hr : (execOp (fev f) o).run P w = .ok (.enter g args) w) (hc : Calls P g args w (RetP R)) (k : ∀ v w', R v w' → K v w') : Beh P ro ops o f w K := by
  unfold Beh
  rw [if_pos hg, hr]
  have h1 : CallsIn Fence.wide 0 P g args w (RetP R) := callsIn_wide.2 hc
  have h2 : CallsIn (FW ro) 0 P g args w (RetP R) := h1
  refine CallsIn.mono h2 ?_
  rintro e w' ⟨v, rfl, hR⟩
  exact k v w' hR
/-- the only one that may come up: what is known stays known -/
theorem PV.step1 {o : Oper} (hb : ∀ w, Sat w0 M h w → Beh P ro ops o f w fun v w' => ∃ h', Sat w0 M h' w' ∧ St h h' w w' ∧ (∃ p, List.Perm h' (p ++ h)) ∧ PV P ro ops Q w0 M h' rest D (updo f o.dst v)) : PV P ro ops Q w0 M h ((1, o) :: rest) D f := hb
theorem PV.step2 {o : Oper} (hb : ∀ w, Sat w0 M h w → Beh P ro ops o f w fun v w' => ∃ h', Sat w0 M h' w' ∧ St h h' w w' ∧ PV P ro ops Q w0 M h' rest D (updo f o.dst v)) : PV P ro ops Q w0 M h ((2, o) :: rest) D f := hb
theorem z1_callv {g : FuncId} {cap as : List Value} {ts : Array TypeId} {V : Value} (hg : want ops f ⟨some d, .call ⟨.value x, al.toArray, ts⟩, ty, ps, af, gd⟩ = true)
    (hx : fev f x = .func (.func g) #[] cap.toArray) (hE : Ent P g) (ha : NA (evs f al ++ cap) as) (hc : ∀ w, Sat w0 M h w → Calls P g as.toArray w (RetP (Val V w)))
    (k : PV P ro ops Q w0 M h rest D (upd f d V)) : PV P ro ops Q w0 M h ((1, ⟨some d, .call ⟨.value x, al.toArray, ts⟩, ty, ps, af, gd⟩) :: rest) D f :=
  PV.step1 fun w S => beh_call hg (run_callv rfl hx hE) (by rw [ha.eq]; exact hc w S) (by rintro v w' ⟨rfl, hk⟩; exact ⟨h, S.call hk, St.keeps h hk, ⟨[], List.Perm.refl _⟩, k⟩)
theorem z2_callv {g : FuncId} {cap as : List Value} {ts : Array TypeId} {V : Value} (hg : want ops f ⟨some d, .call ⟨.value x, al.toArray, ts⟩, ty, ps, af, gd⟩ = true)
    (hx : fev f x = .func (.func g) #[] cap.toArray) (hE : Ent P g) (ha : NA (evs f al ++ cap) as) (hc : ∀ w, Sat w0 M h w → Calls P g as.toArray w (RetP (Val V w)))
    (k : PV P ro ops Q w0 M h rest D (upd f d V)) : PV P ro ops Q w0 M h ((2, ⟨some d, .call ⟨.value x, al.toArray, ts⟩, ty, ps, af, gd⟩) :: rest) D f :=
  PV.step2 fun w S => beh_call hg (run_callv rfl hx hE) (by rw [ha.eq]; exact hc w S) (by rintro v w' ⟨rfl, hk⟩; exact ⟨h, S.call hk, St.keeps h hk, k⟩)
/-- new facts in front -/
theorem z1_call {g : FuncId} {cap as : List Value} {ts : Array TypeId} {R : World → Value → World → Prop} (hg : want ops f ⟨some d, .call ⟨.value x, al.toArray, ts⟩, ty, ps, af, gd⟩ = true)
    (hx : fev f x = .func (.func g) #[] cap.toArray) (hE : Ent P g) (ha : NA (evs f al ++ cap) as) (hc : ∀ w, Sat w0 M h w → Calls P g as.toArray w (RetP (R w)))
    (k : ∀ w v w', Sat w0 M h w → R w v w' → ∃ p, Sat w0 M (p ++ h) w' ∧ St h (p ++ h) w w' ∧ PV P ro ops Q w0 M (p ++ h) rest D (upd f d v)) : PV P ro ops Q w0 M h ((1, ⟨some d, .call ⟨.value x, al.toArray, ts⟩, ty, ps, af, gd⟩) :: rest) D f :=
  PV.step1 fun w S => beh_call hg (run_callv rfl hx hE) (by rw [ha.eq]; exact hc w S) (fun v w' hR => by obtain ⟨p, a, b, c⟩ := k w v w' S hR; exact ⟨_, a, b, ⟨p, List.Perm.refl _⟩, c⟩)
theorem z2_call {g : FuncId} {cap as : List Value} {ts : Array TypeId} {R : World → Value → World → Prop} (hg : want ops f ⟨some d, .call ⟨.value x, al.toArray, ts⟩, ty, ps, af, gd⟩ = true)
    (hx : fev f x = .func (.func g) #[] cap.toArray) (hE : Ent P g) (ha : NA (evs f al ++ cap) as) (hc : ∀ w, Sat w0 M h w → Calls P g as.toArray w (RetP (R w)))
    (k : ∀ w v w', Sat w0 M h w → R w v w' → ∃ h', Sat w0 M h' w' ∧ St h h' w w' ∧ PV P ro ops Q w0 M h' rest D (upd f d v)) : PV P ro ops Q w0 M h ((2, ⟨some d, .call ⟨.value x, al.toArray, ts⟩, ty, ps, af, gd⟩) :: rest) D f :=
  PV.step2 fun w S => beh_call hg (run_callv rfl hx hE) (by rw [ha.eq]; exact hc w S) (fun v w' hR => k w v w' S hR)
/-- a pure operation as the only one -/
theorem z_val {o : Oper} {v0 v : Value} (hg : want ops f o = true) (hd : o.dst = some d) (hr : ∀ w, Sat w0 M h w → (execOp (fev f) o).run P w = .ok (.value v0) w) (hi : Is v0 v)
    (k : PV P ro ops Q w0 M h rest D (upd f d v)) : PV P ro ops Q w0 M h ((1, o) :: rest) D f ∧ PV P ro ops Q w0 M h ((2, o) :: rest) D f :=
  have k' : PV P ro ops Q w0 M h rest D (updo f o.dst v0) := by rw [hd, hi.eq]; exact k
  ⟨PV.step1 fun w S => beh_run hg (hr w S) ⟨h, S, St.keeps h (Keeps.refl _ _), ⟨[], List.Perm.refl _⟩, k'⟩, PV.step2 fun w S => beh_run hg (hr w S) ⟨h, S, St.keeps h (Keeps.refl _ _), k'⟩⟩
theorem z1_not {op : Op} {j : Nat} {wn : Bool} (hg : want ops f ⟨some d, op, ty, ps, af, some (j, wn)⟩ = false) (k : PV P ro ops Q w0 M h rest D (upd f d undef)) :
    PV P ro ops Q w0 M h ((1, ⟨some d, op, ty, ps, af, some (j, wn)⟩) :: rest) D f := PV.step1 fun w S => beh_not hg ⟨h, S, St.keeps h (Keeps.refl _ _), ⟨[], List.Perm.refl _⟩, k⟩
theorem z2_not {op : Op} {j : Nat} {wn : Bool} (hg : want ops f ⟨some d, op, ty, ps, af, some (j, wn)⟩ = false) (k : PV P ro ops Q w0 M h rest D (upd f d undef)) :
    PV P ro ops Q w0 M h ((2, ⟨some d, op, ty, ps, af, some (j, wn)⟩) :: rest) D f := PV.step2 fun w S => beh_not hg ⟨h, S, St.keeps h (Keeps.refl _ _), k⟩
theorem r_box {o : Oper} {v : Value} {cs : List Value} (hop : o.op = .box T x) (hi : Is (fev f x) v) (hn : NL (cl1 v) cs) : (execOp (fev f) o).run P w = .ok (.value (.pointer (some ⟨w.heap.size, 0, none⟩))) (w.alloc (.cells cs.toArray T)) := by
  unfold execOp
  rw [hop]
  simp only [Instr.box, Sem.run_bind, run_newVar, Result.andThen_ok, Sem.run_pure, hi.eq, ← cl1_eq, hn.eq]
theorem r_alloc {o : Oper} {z : Value} {cs : List Value} (hop : o.op = .alloc T) (hz : (P.info? T).bind (·.zero) = some z) (hn : NL (cl1 z) cs) : (execOp (fev f) o).run P w = .ok (.value (.pointer (some ⟨w.heap.size, 0, none⟩))) (w.alloc (.cells cs.toArray T)) := by
  obtain ⟨i, hi1, hi2⟩ := Option.bind_eq_some_iff.1 hz
  unfold execOp
  rw [hop]
  simp [Instr.alloc, zeroValue, typeInfo, hi1, hi2, newVar, newRow, ← cl1_eq, hn.eq]
theorem r_buildSlice {o : Oper} {cs cs' : List Value} (hop : o.op = .buildSlice T len l.toArray) (hb : bsl P T len (pvs f l) = some (e, size, cs)) (hn : NL cs cs') :
    (execOp (fev f) o).run P w = .ok (.value (.slice (some ⟨w.heap.size, 0, none⟩) len len)) (w.alloc (.cells cs'.toArray e)) := by
  unfold execOp
  rw [hop]
  simp only [pvs_eq, Sem.run_bind, run_buildSlice hb, Result.andThen_ok, Sem.run_pure, hn.eq]
theorem r_store {o : Oper} {T' b off : Nat} {v : Value} {cs cs' : List Value} (hb : w.heap[b]? = some (.cells cs.toArray T' (0, 0))) (hop : o.op = .store T x y)
    (hx : fev f x = .pointer (some ⟨b, off, none⟩)) (hy : Is (fev f y) v) (hs : (P.info? T).map (·.size) = some (cl1 v).length) (h1 : ones (cl1 v) = true)
    (hfit : Nat.ble (off + (cl1 v).length) cs.length = true) (hcs : NL (spl cs off (cl1 v)) cs') : (execOp (fev f) o).run P w = .ok .skip (w.setRow b cs'.toArray) := by
  have hfit' := Nat.le_of_ble_eq_true hfit
  obtain ⟨i, hi1, hi2⟩ := Option.map_eq_some_iff.1 hs
  have hrun := run_storeCells_at P b off T' (cl1 v) 0 cs.toArray w hb (by simpa using hfit') (ones_mem h1)
  unfold execOp
  rw [hop]
  simp only [Instr.storeAt, hx, Instr.sureAddr, Sem.run_bind, Sem.run_pure, Result.andThen_ok, hy.eq, storeVar, sizeOf, typeInfo, run_program, hi1, hi2]
  rw [← cl1_eq]
  simp only [List.size_toArray, ne_eq, not_true_eq_false, if_false, Sem.run_pure, Result.andThen_ok]
  rw [hrun]
  simp only [Result.andThen_ok, Nat.add_zero]
  rw [← hcs.eq, spl_eq _ _ _ hfit']
theorem St.new (h : List HO) (w : World) (T : TypeId) (cs : List Value) : St h (.cl w.heap.size T cs :: h) w (w.alloc (.cells cs.toArray T)) :=
  ⟨rfl, rfl, rfl, by simp, fun k hk _ => Below.heap_alloc w _ k hk, fun o ho k hok => by
    rcases List.mem_cons.1 ho with rfl | ho
    · injection hok with hok; exact .inr (by omega)
    · exact .inl ⟨o, ho, hok⟩⟩
theorem z_new {o : Oper} {cs : List Value} {V : Nat → Value} (hg : want ops f o = true) (hd : o.dst = some d) (hr : ∀ w, (execOp (fev f) o).run P w = .ok (.value (V w.heap.size)) (w.alloc (.cells cs.toArray T)))
    (k : ∀ b, PV P ro ops Q w0 M (.cl b T cs :: h) rest D (upd f d (V b))) : PV P ro ops Q w0 M h ((1, o) :: rest) D f ∧ PV P ro ops Q w0 M h ((2, o) :: rest) D f :=
  ⟨PV.step1 fun w S => beh_run hg (hr w) ⟨_, S.alloc T cs, St.new h w T cs, ⟨[_], List.Perm.refl _⟩, by rw [hd]; exact k _⟩, PV.step2 fun w S => beh_run hg (hr w) ⟨_, S.alloc T cs, St.new h w T cs, by rw [hd]; exact k _⟩⟩
theorem z1_box {v : Value} {cs : List Value} (hg : want ops f ⟨some d, .box T x, ty, ps, af, gd⟩ = true) (hi : Is (fev f x) v) (hn : NL (cl1 v) cs)
    (k : ∀ b, PV P ro ops Q w0 M (.cl b T cs :: h) rest D (upd f d (.pointer (some ⟨b, 0, none⟩)))) : PV P ro ops Q w0 M h ((1, ⟨some d, .box T x, ty, ps, af, gd⟩) :: rest) D f :=
  (z_new (V := fun b => .pointer (some ⟨b, 0, none⟩)) hg rfl (fun _ => r_box rfl hi hn) k).1
theorem z2_box {v : Value} {cs : List Value} (hg : want ops f ⟨some d, .box T x, ty, ps, af, gd⟩ = true) (hi : Is (fev f x) v) (hn : NL (cl1 v) cs)
    (k : ∀ b, PV P ro ops Q w0 M (.cl b T cs :: h) rest D (upd f d (.pointer (some ⟨b, 0, none⟩)))) : PV P ro ops Q w0 M h ((2, ⟨some d, .box T x, ty, ps, af, gd⟩) :: rest) D f :=
  (z_new (V := fun b => .pointer (some ⟨b, 0, none⟩)) hg rfl (fun _ => r_box rfl hi hn) k).2
theorem z1_alloc {z : Value} {cs : List Value} (hg : want ops f ⟨some d, .alloc T, ty, ps, af, gd⟩ = true) (hz : (P.info? T).bind (·.zero) = some z) (hn : NL (cl1 z) cs)
    (k : ∀ b, PV P ro ops Q w0 M (.cl b T cs :: h) rest D (upd f d (.pointer (some ⟨b, 0, none⟩)))) : PV P ro ops Q w0 M h ((1, ⟨some d, .alloc T, ty, ps, af, gd⟩) :: rest) D f :=
  (z_new (V := fun b => .pointer (some ⟨b, 0, none⟩)) hg rfl (fun _ => r_alloc rfl hz hn) k).1
theorem z2_alloc {z : Value} {cs : List Value} (hg : want ops f ⟨some d, .alloc T, ty, ps, af, gd⟩ = true) (hz : (P.info? T).bind (·.zero) = some z) (hn : NL (cl1 z) cs)
    (k : ∀ b, PV P ro ops Q w0 M (.cl b T cs :: h) rest D (upd f d (.pointer (some ⟨b, 0, none⟩)))) : PV P ro ops Q w0 M h ((2, ⟨some d, .alloc T, ty, ps, af, gd⟩) :: rest) D f :=
  (z_new (V := fun b => .pointer (some ⟨b, 0, none⟩)) hg rfl (fun _ => r_alloc rfl hz hn) k).2
theorem z3_alloc {z : Value} {cs : List Value} (hz : (P.info? T).bind (·.zero) = some z) (hn : NL (cl1 z) cs)
    (k : ∀ b, PV P ro ops Q w0 M (.cl b T cs :: h) rest D (upd f d (.pointer (some ⟨b, 0, none⟩)))) : PV P ro ops Q w0 M h ((4, ⟨some d, .alloc T, ty, ps, af, none⟩) :: rest) D f :=
  ⟨T, cs, _, by simp only [mkAt, hz, Option.map_some, hn.eq], k⟩
theorem z1_buildSlice {cs cs' : List Value} (hg : want ops f ⟨some d, .buildSlice T len l.toArray, ty, ps, af, gd⟩ = true) (hb : bsl P T len (pvs f l) = some (e, size, cs)) (hn : NL cs cs')
    (k : ∀ b, PV P ro ops Q w0 M (.cl b e cs' :: h) rest D (upd f d (.slice (some ⟨b, 0, none⟩) len len))) : PV P ro ops Q w0 M h ((1, ⟨some d, .buildSlice T len l.toArray, ty, ps, af, gd⟩) :: rest) D f :=
  (z_new (V := fun b => .slice (some ⟨b, 0, none⟩) len len) hg rfl (fun _ => r_buildSlice rfl hb hn) k).1
theorem z3_buildSlice {cs cs' : List Value} (hb : bsl P T len (pvs f l) = some (e, size, cs)) (hn : NL cs cs')
    (k : ∀ b, PV P ro ops Q w0 M (.cl b e cs' :: h) rest D (upd f d (.slice (some ⟨b, 0, none⟩) len len))) : PV P ro ops Q w0 M h ((4, ⟨some d, .buildSlice T len l.toArray, ty, ps, af, none⟩) :: rest) D f := by
  refine ⟨e, cs', _, ?_, k⟩
  have h0 : Nat.beq len 0 = false := by
    cases hb0 : Nat.beq len 0 with
    | false => rfl
    | true =>
      have := Nat.eq_of_beq_eq_true hb0
      subst this
      unfold bsl at hb
      split at hb
      · split at hb
        · split at hb
          · rename_i ie _ _ z _
            have h1 : Nat.blt 0 (0 * ie.size) = false := by rw [Nat.zero_mul]; rfl
            rw [h1, Bool.and_false] at hb
            cases hb
          · cases hb
        · cases hb
      · cases hb
  simp only [mkAt, h0, cond_false, hb, Option.map_some, hn.eq]
theorem z3_buildSlice0 (he : el0 P T = some e)
    (k : ∀ b, PV P ro ops Q w0 M (.cl b e [] :: h) rest D (upd f d (.slice (some ⟨b, 0, none⟩) 0 0))) : PV P ro ops Q w0 M h ((4, ⟨some d, .buildSlice T 0 #[], ty, ps, af, none⟩) :: rest) D f := by
  refine ⟨e, [], _, ?_, k⟩
  simp [mkAt, he]
theorem z2_buildSlice {cs cs' : List Value} (hg : want ops f ⟨some d, .buildSlice T len l.toArray, ty, ps, af, gd⟩ = true) (hb : bsl P T len (pvs f l) = some (e, size, cs)) (hn : NL cs cs')
    (k : ∀ b, PV P ro ops Q w0 M (.cl b e cs' :: h) rest D (upd f d (.slice (some ⟨b, 0, none⟩) len len))) : PV P ro ops Q w0 M h ((2, ⟨some d, .buildSlice T len l.toArray, ty, ps, af, gd⟩) :: rest) D f :=
  (z_new (V := fun b => .slice (some ⟨b, 0, none⟩) len len) hg rfl (fun _ => r_buildSlice rfl hb hn) k).2
theorem Rep.back {h h' : List HO} {o o' : HO} (r : Rep h o o' h') : Rep h' o' o h := by
  induction r with
  | head => exact .head
  | tail _ ih => exact .tail ih
theorem z2_store {T' b off : Nat} {v : Value} {cs cs' : List Value} {h' : List HO} (hg : want ops f ⟨none, .store T x y, ty, ps, af, gd⟩ = true)
    (hx : fev f x = .pointer (some ⟨b, off, none⟩)) (hy : Is (fev f y) v) (r : Rep h (.cl b T' cs) (.cl b T' cs') h') (hs : (P.info? T).map (·.size) = some (cl1 v).length) (ho : ones (cl1 v) = true)
    (hfit : Nat.ble (off + (cl1 v).length) cs.length = true) (hcs : NL (spl cs off (cl1 v)) cs')
    (k : PV P ro ops Q w0 M h' rest D f) : PV P ro ops Q w0 M h ((2, ⟨none, .store T x y, ty, ps, af, gd⟩) :: rest) D f :=
  PV.step2 fun w S => beh_skip hg (r_store (S.ok _ r.mem).1 rfl hx hy hs ho hfit hcs) ⟨h', S.setRow r,
    ⟨rfl, rfl, rfl, by simp, fun k _ hn => setRow_other w b k _ (fun e => hn _ r.mem (by rw [e]; rfl)), fun o ho k hok => by
      rcases r.mem' o ho with rfl | hm
      · exact .inl ⟨_, r.mem, hok⟩
      · exact .inl ⟨o, hm, hok⟩⟩, k⟩
end
end Go.Proofs.Ytfkcihcbmlcajaa
