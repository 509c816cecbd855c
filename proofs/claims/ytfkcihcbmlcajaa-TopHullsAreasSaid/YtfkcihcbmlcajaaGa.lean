/- Convex chains in plain words: the path that the stack keeps is the best one. No program is in sight, and no statement of the seat is proved here. -/
import Derived.Test.YtfkcihcbmlcajaaEngA
namespace Go.Proofs.Ytfkcihcbmlcajaa.Hu
set_option linter.unusedVariables false
set_option linter.unusedSimpArgs false
structure P where
  x : Int
  y : Int
def sb (a b : P) : P := ⟨a.x - b.x, a.y - b.y⟩
def po (v : P) : Prop := 0 < v.x ∨ (v.x = 0 ∧ 0 < v.y)
def cr (a b : P) : Int := a.x * b.y - a.y * b.x
def lt (a b : P) : Prop := a.x < b.x ∨ (a.x = b.x ∧ a.y < b.y)
def lf (a b c : P) : Int := cr (sb b a) (sb c a)
theorem lf_cr (a b c : P) : lf a b c = cr a b + cr b c - cr a c := by unfold lf cr sb; grind
theorem lf_rot (a b c : P) : lf a b c = lf b c a := by unfold lf cr sb; grind
theorem cr_sw (a b : P) : cr a b = - cr b a := by unfold cr; grind
theorem lt_po {a b : P} (h : lt a b) : po (sb b a) := by unfold lt at h; unfold po sb; dsimp only; omega
theorem lt_tr {a b c : P} (h : lt a b) (k : lt b c) : lt a c := by unfold lt at *; omega
theorem lt_ir {a : P} (h : lt a a) : False := by unfold lt at h; omega
theorem lt_tri (a b : P) : lt a b ∨ a = b ∨ lt b a := by
  cases a; cases b; simp only [lt, P.mk.injEq]; omega
theorem tri (a b z : P) : cr a z * b.x = cr b z * a.x + cr a b * z.x := by unfold cr; grind
theorem triy (a b z : P) : cr a z * b.y = cr b z * a.y + cr a b * z.y := by unfold cr; grind
theorem ang1 {a b z : P} (ha : po a) (hb : po b) (hz : po z) (h1 : 0 < cr a b) (h2 : 0 ≤ cr b z) : 0 < cr a z := by
  rcases Int.lt_or_le 0 (cr a z) with h | h
  · exact h
  exfalso
  have t := tri a b z
  have hax : 0 ≤ a.x := by unfold po at ha; omega
  have hzx : 0 ≤ z.x := by unfold po at hz; omega
  rcases hb with hb | ⟨hb, hb'⟩
  · have e1 : 0 ≤ cr b z * a.x := Int.mul_nonneg h2 hax
    have e2 : 0 ≤ cr a b * z.x := Int.mul_nonneg (Int.le_of_lt h1) hzx
    have e3 : cr a z * b.x ≤ 0 := Int.mul_nonpos_of_nonpos_of_nonneg h (Int.le_of_lt hb)
    have e4 : cr a b * z.x = 0 := by omega
    have e5 : z.x = 0 := by rcases Int.mul_eq_zero.1 e4 with e | e <;> omega
    have hzy : 0 < z.y := by unfold po at hz; omega
    have e6 : cr b z = b.x * z.y := by unfold cr; rw [e5]; grind
    have e7 : 0 < cr b z := by rw [e6]; exact Int.mul_pos hb hzy
    have e8 : cr b z * a.x = 0 := by omega
    have e9 : a.x = 0 := by rcases Int.mul_eq_zero.1 e8 with e | e <;> omega
    have hay : 0 < a.y := by unfold po at ha; omega
    have e10 : cr a b = - (a.y * b.x) := by unfold cr; rw [e9]; grind
    have := Int.mul_pos hay hb
    omega
  · have e1 : cr b z = - (b.y * z.x) := by unfold cr; rw [hb]; grind
    have e2 : z.x = 0 := by
      rcases Int.lt_or_le 0 z.x with k | k
      · have := Int.mul_pos hb' k; omega
      · omega
    have hzy : 0 < z.y := by unfold po at hz; omega
    have e3 : cr a b = a.x * b.y := by unfold cr; rw [hb]; grind
    have e4 : 0 < a.x := by
      rcases Int.lt_or_le 0 a.x with k | k
      · exact k
      · have : a.x = 0 := by omega
        rw [this] at e3; omega
    have e5 : cr a z = a.x * z.y := by unfold cr; rw [e2]; grind
    have := Int.mul_pos e4 hzy
    omega
/-- by turning the plane over: the order of the three is reversed -/
theorem ang2 {a b z : P} (ha : po a) (hb : po b) (hz : po z) (h1 : 0 ≤ cr a b) (h2 : 0 < cr b z) : 0 < cr a z := by
  rcases Int.lt_or_le 0 (cr a z) with h | h
  · exact h
  exfalso
  have t := tri a b z
  have hax : 0 ≤ a.x := by unfold po at ha; omega
  have hzx : 0 ≤ z.x := by unfold po at hz; omega
  rcases Int.lt_or_le 0 (cr a b) with k | k
  · exact absurd (ang1 ha hb hz k (Int.le_of_lt h2)) (by omega)
  have k0 : cr a b = 0 := by omega
  have h3 : 0 ≤ cr z a := by rw [cr_sw]; omega
  have := ang1 hb hz ha h2 h3
  rw [cr_sw] at this; omega
theorem ang0 {a b z : P} (ha : po a) (hb : po b) (hz : po z) (h1 : 0 ≤ cr a b) (h2 : 0 ≤ cr b z) : 0 ≤ cr a z := by
  rcases Int.lt_or_le (cr a z) 0 with h | h
  · exfalso
    have h3 : 0 < cr z a := by rw [cr_sw]; omega
    have := ang2 hb hz ha h2 h3
    rw [cr_sw] at this; omega
  · exact h
theorem conv3 {a b c x : P} (h1 : lt a b) (h2 : lt b c) (h3 : lt c x) (k1 : 0 < lf a b c) (k2 : 0 < lf b c x) : 0 < lf a b x := by
  have e1 : lf a b c = cr (sb b a) (sb c b) := by unfold lf cr sb; grind
  have e2 : lf b c x = cr (sb c b) (sb x c) := by unfold lf cr sb; grind
  have e3 : lf a b x = cr (sb b a) (sb c b) + cr (sb b a) (sb x c) := by unfold lf cr sb; grind
  have := ang1 (lt_po h1) (lt_po h2) (lt_po h3) (by omega) (show 0 ≤ cr (sb c b) (sb x c) by omega)
  omega
theorem tlem {v a b x : P} (h1 : lt v a) (h2 : lt a b) (h3 : lt b x) (k : lf v a b ≤ 0) : cr v a + cr a x ≤ cr v x ∨ cr v a + cr a x ≤ cr v b + cr b x := by
  have pa := lt_po h1
  have pb := lt_po (lt_tr h1 h2)
  have px := lt_po (lt_tr (lt_tr h1 h2) h3)
  have e1 : cr v a + cr a x - cr v x = cr (sb a v) (sb x v) := by rw [← lf_cr]; rfl
  have e2 : cr v b + cr b x - cr v x = cr (sb b v) (sb x v) := by rw [← lf_cr]; rfl
  have t := tri (sb a v) (sb b v) (sb x v)
  have k' : cr (sb a v) (sb b v) ≤ 0 := k
  have hab : (sb a v).x ≤ (sb b v).x := by unfold lt at h2; unfold sb; dsimp only; omega
  generalize sb a v = α at *
  generalize sb b v = β at *
  generalize sb x v = ζ at *
  have a0 : 0 ≤ α.x := by unfold po at pa; omega
  have z0 : 0 ≤ ζ.x := by unfold po at px; omega
  rcases Int.lt_or_le 0 (cr α ζ) with h | h
  · right
    rcases Int.lt_or_le 0 β.x with hb | hb
    · have m1 : cr α β * ζ.x ≤ 0 := Int.mul_nonpos_of_nonpos_of_nonneg k' z0
      have m2 : 0 < cr α ζ * β.x := Int.mul_pos h hb
      have m3 : 0 < cr β ζ := by
        rcases Int.lt_or_le 0 (cr β ζ) with q | q
        · exact q
        · have := Int.mul_nonpos_of_nonpos_of_nonneg q a0; omega
      have m4 : cr β ζ * α.x ≤ cr β ζ * β.x := Int.mul_le_mul_of_nonneg_left hab (Int.le_of_lt m3)
      have m5 : cr α ζ * β.x ≤ cr β ζ * β.x := by omega
      have := Int.le_of_mul_le_mul_right m5 hb
      omega
    · exfalso
      have ax : α.x = 0 := by omega
      have ay : 0 < α.y := by unfold po at pa; omega
      have : cr α ζ = - (α.y * ζ.x) := by unfold cr; rw [ax]; grind
      have := Int.mul_nonneg (Int.le_of_lt ay) z0
      omega
  · left; omega
/- the stack, its top first -/
def V : List P → Int
  | b :: a :: r => V (a :: r) + cr a b
  | _ => 0
open Classical in
noncomputable def pop (x : P) : List P → List P
  | b :: a :: r => if lf a b x ≤ 0 then pop x (a :: r) else b :: a :: r
  | s => s
noncomputable def chn : List P → List P
  | [] => []
  | x :: D => x :: pop x (chn D)
def W (x : P) : List P → Int
  | b :: a :: r => max (V (b :: a :: r) + cr b x) (W x (a :: r))
  | [a] => cr a x
  | [] => 0
def Cv : List P → Prop
  | c :: b :: a :: r => 0 < lf a b c ∧ Cv (b :: a :: r)
  | _ => True
abbrev Dsc (l : List P) : Prop := l.Pairwise (fun u v => lt v u)
def Tc (x : P) : List P → Prop
  | b :: a :: _ => 0 < lf a b x
  | _ => True
theorem Cv.tail {b : P} {l : List P} (h : Cv (b :: l)) : Cv l := by
  match l with
  | [] => trivial
  | [_] => trivial
  | _ :: _ :: _ => exact h.2
theorem vw (x b : P) (r : List P) : V (b :: r) + cr b x ≤ W x (b :: r) := by
  cases r with
  | nil => simp [V, W]
  | cons a r => exact Int.le_max_left ..
theorem wn (x b : P) (r : List P) (hd : Dsc (b :: r)) (hc : Cv (b :: r)) (hx : lt b x) (ht : Tc x (b :: r)) : W x (b :: r) ≤ V (b :: r) + cr b x := by
  induction r generalizing b with
  | nil => simp [V, W]
  | cons a r ih =>
    have hab : lt a b := (List.pairwise_cons.1 hd).1 a (by simp)
    have h1 : W x (a :: r) ≤ V (a :: r) + cr a x := ih a (List.pairwise_cons.1 hd).2 hc.tail (lt_tr hab hx) (by
      match r, hd, hc with
      | [], _, _ => trivial
      | a' :: r, hd, hc =>
        have ha : lt a' a := (List.pairwise_cons.1 (List.pairwise_cons.1 hd).2).1 a' (by simp)
        exact conv3 ha hab hx hc.1 ht)
    have e := lf_cr a b x
    have ht' : 0 < lf a b x := ht
    have : V (b :: a :: r) = V (a :: r) + cr a b := rfl
    exact Int.max_le.2 ⟨Int.le_refl _, by omega⟩
theorem pop_suf (x : P) (s : List P) : pop x s <:+ s := by
  match s with
  | [] => simp [pop]
  | [_] => simp [pop]
  | b :: a :: r =>
    unfold pop
    split
    · exact (pop_suf x (a :: r)).trans (List.suffix_cons _ _)
    · exact List.suffix_refl _
theorem pop_tc (x : P) (s : List P) : Tc x (pop x s) := by
  match s with
  | [] => trivial
  | [_] => trivial
  | b :: a :: r =>
    unfold pop
    split
    · exact pop_tc x (a :: r)
    · rename_i h; exact Int.not_le.1 h
theorem pop_last (x : P) (s : List P) : (pop x s).getLast? = s.getLast? := by
  match s with
  | [] => rfl
  | [_] => rfl
  | b :: a :: r =>
    unfold pop
    split
    · rw [pop_last x (a :: r)]; rfl
    · rfl
theorem cv_push {x : P} {s : List P} (h : Cv s) (ht : Tc x s) : Cv (x :: s) := by
  match s, h, ht with
  | [], _, _ => trivial
  | [_], _, _ => trivial
  | _ :: _ :: _, h, ht => exact ⟨ht, h⟩
theorem cv_suf {s t : List P} (h : Cv s) (k : t <:+ s) : Cv t := by
  induction s with
  | nil => have := List.suffix_nil.1 k; subst this; trivial
  | cons b s ih =>
    rcases List.suffix_cons_iff.1 k with e | e
    · subst e; exact h
    · exact ih h.tail e
theorem chn_cv (D : List P) : Cv (chn D) := by
  induction D with
  | nil => trivial
  | cons x D ih => exact cv_push (cv_suf ih (pop_suf _ _)) (pop_tc _ _)
theorem chn_sub (D : List P) : (chn D).Sublist D := by
  induction D with
  | nil => exact List.Sublist.slnil
  | cons x D ih => exact ((pop_suf _ _).sublist.trans ih).cons_cons x
theorem chn_dsc {D : List P} (h : Dsc D) : Dsc (chn D) := h.sublist (chn_sub D)
theorem chn_last (D : List P) : (chn D).getLast? = D.getLast? := by
  induction D with
  | nil => rfl
  | cons x D ih =>
    have h := (pop_last x (chn D)).trans ih
    unfold chn
    rw [List.getLast?_cons, List.getLast?_cons, h]
theorem vvw (x : P) (s : List P) (hs : s ≠ []) (hd : Dsc s) (hc : Cv s) (hx : ∀ d ∈ s, lt d x) : W x s ≤ V (x :: pop x s) := by
  match s, hs with
  | [b], _ => simp [pop, V, W]
  | b :: a :: r, _ =>
    have hd2 := (List.pairwise_cons.1 hd).2
    have ih := vvw x (a :: r) (by simp) hd2 hc.tail (fun d h => hx d (List.mem_cons_of_mem _ h))
    unfold pop
    split
    · rename_i hle
      refine Int.max_le.2 ⟨?_, ih⟩
      have e := lf_cr a b x
      have := vw x a r
      have : V (b :: a :: r) = V (a :: r) + cr a b := rfl
      omega
    · rename_i hle
      exact wn x b (a :: r) hd hc (hx b (by simp)) (Int.not_le.1 hle)
theorem ww (x0 x : P) (s : List P) (hs : s ≠ []) (hd : Dsc s) (hc : Cv s) (hx0 : ∀ d ∈ s, lt d x0) (hx : lt x0 x) : W x s ≤ W x (x0 :: pop x0 s) := by
  match s, hs with
  | [b], _ => exact Int.le_max_right ..
  | b :: a :: r, _ =>
    have hd2 := (List.pairwise_cons.1 hd).2
    have hx2 : ∀ d ∈ a :: r, lt d x0 := fun d h => hx0 d (List.mem_cons_of_mem _ h)
    have ih := ww x0 x (a :: r) (by simp) hd2 hc.tail hx2 hx
    unfold pop
    split
    · rename_i hle
      refine Int.max_le.2 ⟨?_, ih⟩
      have v1 : V (b :: a :: r) = V (a :: r) + cr a b := rfl
      rcases tlem ((List.pairwise_cons.1 hd).1 a (by simp)) (hx0 b (by simp)) hx hle with h | h
      · have := vw x a r; omega
      · have h1 := vw x0 a r
        have h2 := vvw x0 (a :: r) (by simp) hd2 hc.tail hx2
        have h3 := vw x x0 (pop x0 (a :: r))
        omega
    · exact Int.le_max_right ..
theorem best (D : List P) (hD : Dsc D) (q : List P) (hq : q ≠ []) (hqd : Dsc q) (hs : ∀ u ∈ q, u ∈ D) (hl : q.getLast? = D.getLast?) (x : P) (hx : ∀ d ∈ D, lt d x) : V q + cr (q.head hq) x ≤ W x (chn D) := by
  induction D generalizing q x with
  | nil => match q, hq with
    | u :: _, _ => exact absurd (hs u (by simp)) (by simp)
  | cons x0 D ih =>
    have hD2 := (List.pairwise_cons.1 hD).2
    have hlt := (List.pairwise_cons.1 hD).1
    match q, hq with
    | e :: q', _ =>
      have hq2 := (List.pairwise_cons.1 hqd).2
      have hqlt := (List.pairwise_cons.1 hqd).1
      rcases List.mem_cons.1 (hs e (by simp)) with he | he
      · subst he
        have hs' : ∀ u ∈ q', u ∈ D := fun u hu => by
          rcases List.mem_cons.1 (hs u (List.mem_cons_of_mem _ hu)) with k | k
          · subst k; exact (lt_ir (hqlt _ hu)).elim
          · exact k
        cases q' with
        | nil =>
          cases D with
          | nil => simp [chn, pop, V, W]
          | cons d D =>
            exfalso
            rw [List.getLast?_cons_cons] at hl
            have hm := List.mem_of_getLast? (hl.symm.trans rfl : (d :: D).getLast? = some e)
            exact lt_ir (hlt e hm)
        | cons f q' =>
          have hDn : D ≠ [] := fun k => by subst k; exact absurd (hs' f (by simp)) (by simp)
          have hl' : (f :: q').getLast? = D.getLast? := by
            cases D with
            | nil => exact absurd rfl hDn
            | cons d D => rw [List.getLast?_cons_cons, List.getLast?_cons_cons] at hl; exact hl
          have h1 := ih hD2 (f :: q') (by simp) hq2 hs' hl' e hlt
          have hn : chn D ≠ [] := fun k => by
            have := chn_last D; rw [k] at this
            exact hDn (List.getLast?_eq_none_iff.1 this.symm)
          have h2 := vvw e (chn D) hn (chn_dsc hD2) (chn_cv D) (fun d hd => hlt d ((chn_sub D).subset hd))
          have h3 := vw x e (pop e (chn D))
          have h4 : V (e :: f :: q') = V (f :: q') + cr f e := rfl
          have h5 : chn (e :: D) = e :: pop e (chn D) := rfl
          rw [h5]
          simp only [List.head_cons] at h1 ⊢
          omega
      · have hs' : ∀ u ∈ e :: q', u ∈ D := fun u hu => by
          rcases List.mem_cons.1 (hs u hu) with k | k
          · subst k
            exfalso
            rcases List.mem_cons.1 hu with k2 | k2
            · subst k2; exact lt_ir (hlt _ he)
            · exact lt_ir (lt_tr (hqlt _ k2) (hlt _ he))
          · exact k
        have hDn : D ≠ [] := fun k => by subst k; exact absurd he (by simp)
        have hl' : (e :: q').getLast? = D.getLast? := by
          cases D with
          | nil => exact absurd rfl hDn
          | cons d D => rw [hl, List.getLast?_cons_cons]
        have hn : chn D ≠ [] := fun k => by
          have := chn_last D; rw [k] at this
          exact hDn (List.getLast?_eq_none_iff.1 this.symm)
        have h1 := ih hD2 (e :: q') (by simp) hqd hs' hl' x (fun d hd => hx d (List.mem_cons_of_mem _ hd))
        exact Int.le_trans h1 (ww x0 x (chn D) hn (chn_dsc hD2) (chn_cv D) (fun d hd => hlt d ((chn_sub D).subset hd)) (hx x0 (by simp)))
/-- the chain's path is the best one -/
theorem chn_best (x0 : P) (D : List P) (hD : Dsc (x0 :: D)) (q : List P) (hqd : Dsc (x0 :: q)) (hs : ∀ u ∈ q, u ∈ D) (hl : (x0 :: q).getLast? = (x0 :: D).getLast?) : V (x0 :: q) ≤ V (chn (x0 :: D)) := by
  have hlt := (List.pairwise_cons.1 hD).1
  have hD2 := (List.pairwise_cons.1 hD).2
  cases D with
  | nil => cases q with
    | nil => exact Int.le_refl _
    | cons f q => exact absurd (hs f (by simp)) (by simp)
  | cons d D =>
    cases q with
    | nil =>
      exfalso
      rw [List.getLast?_cons_cons] at hl
      exact lt_ir (hlt x0 (List.mem_of_getLast? (hl.symm.trans rfl : (d :: D).getLast? = some x0)))
    | cons f q =>
      rw [List.getLast?_cons_cons, List.getLast?_cons_cons] at hl
      have h1 := best (d :: D) hD2 (f :: q) (by simp) (List.pairwise_cons.1 hqd).2 hs hl x0 hlt
      have h2 := vvw x0 (chn (d :: D)) (by simp [chn]) (chn_dsc hD2) (chn_cv _) (fun e hd => hlt e ((chn_sub _).subset hd))
      exact Int.le_trans h1 h2
end Go.Proofs.Ytfkcihcbmlcajaa.Hu
