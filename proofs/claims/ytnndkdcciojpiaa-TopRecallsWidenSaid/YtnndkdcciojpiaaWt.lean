/- Values, chains, broken records and those that are due: what they have to do with each other. No statement of the seat is proved here. -/
import Derived.Test.YtnndkdcciojpiaaWs
import Derived.Test.YtnndkdcciojpiaaKi
namespace Go.Proofs.Ytnndkdcciojpiaa.Rl
set_option linter.unusedVariables false
set_option linter.unusedSimpArgs false
open Go Go.RowKit Go.Maps
theorem foll_same {l : List Rc} {n n' : ByteArray} {d d' : Int} (h : place l n d = place l n' d') : foll l n d = foll l n' d' := by
  unfold foll chy
  rw [h]
theorem cmpTo_mem {l : List ByteArray} {s : ByteArray} : ∀ {k : Nat}, s ∈ cmpTo l k ↔ ∃ j, j < k ∧ sat l j = s
  | 0 => by simp [cmpTo]
  | k + 1 => by
    have ih := cmpTo_mem (l := l) (s := s) (k := k)
    have step : (∃ j, j < k + 1 ∧ sat l j = s) ↔ (∃ j, j < k ∧ sat l j = s) ∨ sat l k = s := by
      constructor
      · rintro ⟨j, h1, h2⟩
        rcases Nat.lt_succ_iff_lt_or_eq.1 h1 with h | rfl
        · exact .inl ⟨j, h, h2⟩
        · exact .inr h2
      · rintro (⟨j, h1, h2⟩ | h)
        · exact ⟨j, Nat.lt_succ_of_lt h1, h2⟩
        · exact ⟨k, Nat.lt_succ_self _, h⟩
    rw [step]
    by_cases h : 0 < k ∧ sat l k = sat l (k - 1)
    · have e : cmpTo l (k + 1) = cmpTo l k := by rw [cmpTo, if_pos h]
      rw [e, ih]
      constructor
      · exact .inl
      · rintro (h1 | h1)
        · exact h1
        · exact ⟨k - 1, by omega, h.2.symm.trans h1⟩
    · have e : cmpTo l (k + 1) = cmpTo l k ++ [sat l k] := by rw [cmpTo, if_neg h]
      rw [e, List.mem_append, ih, List.mem_singleton]
      constructor
      · rintro (h1 | h1)
        · exact .inl h1
        · exact .inr h1.symm
      · rintro (h1 | h1)
        · exact .inl h1
        · exact .inr h1.symm
theorem dueUp_mem {l : List Rc} {day : Int} {s : ByteArray} : ∀ {k : Nat}, s ∈ dueUp l day k ↔ ∃ j, j < k ∧ ¬ (place l (rat l j).nm day).2 = 0 ∧ (rat l j).nm = s
  | 0 => by simp [dueUp]
  | k + 1 => by
    have ih := dueUp_mem (l := l) (day := day) (s := s) (k := k)
    by_cases h : (place l (rat l k).nm day).2 = 0
    · rw [dueUp_no h, ih]
      constructor
      · rintro ⟨j, h1, h2, h3⟩; exact ⟨j, by omega, h2, h3⟩
      · rintro ⟨j, h1, h2, h3⟩
        rcases Nat.lt_succ_iff_lt_or_eq.1 h1 with h4 | rfl
        · exact ⟨j, h4, h2, h3⟩
        · exact absurd h h2
    · rw [dueUp_yes h, List.mem_append, ih, List.mem_singleton]
      constructor
      · rintro (⟨j, h1, h2, h3⟩ | h1)
        · exact ⟨j, by omega, h2, h3⟩
        · exact ⟨k, by omega, h, h1.symm⟩
      · rintro ⟨j, h1, h2, h3⟩
        rcases Nat.lt_succ_iff_lt_or_eq.1 h1 with h4 | rfl
        · exact .inl ⟨j, h4, h2, h3⟩
        · exact .inr h3.symm
theorem getD_mem_iff {l : List ByteArray} {s : ByteArray} : (∃ j, j < l.length ∧ sat l j = s) ↔ s ∈ l := by
  constructor
  · rintro ⟨j, h1, rfl⟩; exact getD_mem nul h1
  · intro h
    obtain ⟨j, h1, h2⟩ := List.getElem_of_mem h
    exact ⟨j, h1, by rw [sat, List.getD_eq_getElem?_getD, List.getElem?_eq_getElem h1]; exact h2⟩
theorem dueC_mem {l : List Rc} {day : Int} {i : Nat} (hi : i < l.length) : (rat l i).nm ∈ dueC l day ↔ ¬ (place l (rat l i).nm day).2 = 0 := by
  unfold dueC
  rw [cmpTo_mem, getD_mem_iff, dueUp_mem]
  constructor
  · rintro ⟨j, _, h2, h3⟩; rwa [h3] at h2
  · intro h; exact ⟨i, hi, h, rfl⟩
theorem brUp_mem {l : List Rc} {s : Nat} : ∀ {k : Nat}, s ∈ brUp l k ↔ s < k ∧ ¬ (foll l (rat l s).nm (rat l s).fr).2 = 0
  | 0 => by simp [brUp]
  | k + 1 => by
    have ih := brUp_mem (l := l) (s := s) (k := k)
    by_cases h : (foll l (rat l k).nm (rat l k).fr).2 = 0
    · rw [brUp_no h, ih]
      constructor
      · rintro ⟨h1, h2⟩; exact ⟨by omega, h2⟩
      · rintro ⟨h1, h2⟩
        rcases Nat.lt_succ_iff_lt_or_eq.1 h1 with h4 | rfl
        · exact ⟨h4, h2⟩
        · exact absurd h h2
    · rw [brUp_yes h, List.mem_append, ih, List.mem_singleton]
      constructor
      · rintro (⟨h1, h2⟩ | rfl)
        · exact ⟨by omega, h2⟩
        · exact ⟨by omega, h⟩
      · rintro ⟨h1, h2⟩
        rcases Nat.lt_succ_iff_lt_or_eq.1 h1 with h4 | rfl
        · exact .inl ⟨h4, h2⟩
        · exact .inr rfl
theorem foll_own {l : List Rc} (h : Right l) {name : ByteArray} {day : Int} (hp : (place l name day).2 = 0) : foll l name day = foll l (rat l (place l name day).1).nm (rat l (place l name day).1).fr := by
  have h1 := place_at hp
  have hr := recE0 (h.2 _ h1.1).1
  have h2 := place_yes h (name := (rat l (place l name day).1).nm) (day := (rat l (place l name day).1).fr) (k := (place l name day).1) ⟨h1.1, rfl, Int.le_refl _, hr.2.2.2.2.2.2⟩
  exact foll_same (by rw [h2, ← hp])
/-! ### what is told of one instrument -/
structure Trace (l : List Rc) (name : ByteArray) (day : Int) (k : Nat) (f vl vh e : Int) : Prop where
  va : VaR l name day = (k, f)
  vv : valL l name day 100 = ((vl, vh), e)
theorem VaR_right {l : List Rc} (h : ckE l = 0) {name : ByteArray} {day : Int} (hd : dayE day = 0) : VaR l name day = place l name day := by
  unfold VaR
  rw [if_neg (fun e => e h), if_neg (fun e => e hd)]
theorem dueL_right {l : List Rc} (h : ckE l = 0) {day : Int} (hd : dayE day = 0) : dueL l day = (dueC l day, 0) := by
  unfold dueL
  rw [if_neg (fun e => e h), if_neg (fun e => e hd)]
theorem broL_right {l : List Rc} (h : ckE l = 0) : broL l = (brUp l l.length, 0) := by
  unfold broL
  rw [if_neg (fun e => e h)]
theorem val_e {l : List Rc} {name : ByteArray} {day : Int} : (valL l name day 100).2 = 0 ↔ (chL l name day).2 = 0 := by
  unfold valL
  by_cases h : (chL l name day).2 = 0
  · rw [errL_yes h, if_neg (fun e => e rfl), if_neg (by omega)]
    exact ⟨fun _ => h, fun _ => rfl⟩
  · rw [errL_no h, if_pos h]
theorem val_wide {l : List Rc} {name : ByteArray} {day : Int} (h : (chL l name day).2 = 0) : (valL l name day 100).1.2 - (valL l name day 100).1.1 = sumF (fun i => 2 * (rat l i).spr) (chL l name day).1 := by
  unfold valL
  rw [errL_yes h, if_neg (fun e => e rfl), if_neg (by omega)]
  show (100 - sumF (loF l) _) - (100 - sumF (hiF l) _) = _
  have e : (fun i => 2 * (rat l i).spr) = fun i => hiF l i - loF l i := by funext i; simp only [hiF, loF]; omega
  rw [e, sumF_sub (hiF l) (loF l)]
  omega
theorem spr_sums {l : List Rc} {name : ByteArray} {day : Int} (h : (chL l name day).2 = 0) (k : Nat) : -(200000 * 257) ≤ sumF (fun i => 2 * (rat l i).spr) ((chL l name day).1.take k) ∧ sumF (fun i => 2 * (rat l i).spr) ((chL l name day).1.take k) ≤ 200000 * 257 := by
  have hb := ch_bounds h
  exact sumF_takeLe (by omega) (fun i hi => by have := hb.2.2 i hi; omega) hb.1 k
/-! ### contracts with results in plain words -/
theorem kValue_v {A : Option Addr} {c : Nat} {l : List Rc} (hl : l.length ≤ 9223372036854775807) (ho : ∀ i, i < l.length → (rat l i).ok) {name : ByteArray} {day sh a b e : Int} (hv : valL l name day sh = ((a, b), e)) (w : World) (R : Rd w A 6 l.length (fun i => rcC (l.getD i rc0))) : Calls Try.prog 16 #[.slice A l.length c, .agg #[.string name, .int .i64 day, .int .i64 sh]] w (RetP (Val (.tuple #[.agg #[.int .i64 a, .int .i64 b], .int .i64 e]) w)) := by
  have := kValue_c A c l hl ho name day sh w R
  rw [hv] at this
  exact this
theorem Valid_w {A : Option Addr} {c : Nat} {l : List Rc} (hl : l.length ≤ 9223372036854775807) (ho : ∀ i, i < l.length → (rat l i).ok) {name : ByteArray} {day : Int} {k : Nat} {f : Int} (hv : VaR l name day = (k, f)) (w : World) (R : Rd w A 6 l.length (fun i => rcC (l.getD i rc0))) : Calls Try.prog 17 #[.slice A l.length c, .string name, .int .i64 day] w (RetP (Val (.tuple #[.int .i64 (k : Int), .int .i64 f]) w)) := by
  have := Valid_c A c l hl ho name day w R
  rw [hv] at this
  exact this
theorem Chain_w {A : Option Addr} {c : Nat} {l : List Rc} (hl : l.length ≤ 9223372036854775807) (ho : ∀ i, i < l.length → (rat l i).ok) {name : ByteArray} {day : Int} {cs : List Nat} (hv : chL l name day = (cs, 0)) (w : World) (R : Rd w A 6 l.length (fun i => rcC (l.getD i rc0))) : Calls Try.prog 19 #[.slice A l.length c, .string name, .int .i64 day] w (RetP (RowR (fun v => .tuple #[v, .int .i64 0]) 3 1 (cs.map natC) w)) := by
  have := Chain_c A c l hl ho name day w R
  rw [hv] at this
  exact this
theorem kDue_w {A : Option Addr} {c : Nat} {l : List Rc} (hl : l.length ≤ 9223372036854775807) (ho : ∀ i, i < l.length → (rat l i).ok) {day : Int} {cs : List ByteArray} (hv : dueL l day = (cs, 0)) (w : World) (R : Rd w A 6 l.length (fun i => rcC (l.getD i rc0))) : Calls Try.prog 14 #[.slice A l.length c, .int .i64 day] w (RetP (RowR (fun v => .tuple #[v, .int .i64 0]) 9 1 (cs.map strC) w)) := by
  have := kDue_c A c l hl ho day w R
  rw [hv] at this
  exact this
theorem kBroken_w {A : Option Addr} {c : Nat} {l : List Rc} (hl : l.length ≤ 9223372036854775807) (ho : ∀ i, i < l.length → (rat l i).ok) {cs : List Nat} (hv : broL l = (cs, 0)) (w : World) (R : Rd w A 6 l.length (fun i => rcC (l.getD i rc0))) : Calls Try.prog 15 #[.slice A l.length c] w (RetP (RowR (fun v => .tuple #[v, .int .i64 0]) 3 1 (cs.map natC) w)) := by
  have := kBroken_c A c l hl ho w R
  rw [hv] at this
  exact this
theorem ContainsI_y {A : Option Addr} {c n : Nat} {xs : List Nat} {v : Nat} {b : Bool} (hn : n = xs.length) (hx : xs.length ≤ 9223372036854775807) (hb : memB v xs = b) (w : World) (R : Rd w A 1 xs.length (fun i => natC (xs.getD i 0))) :
    Calls Try.prog 18 #[.slice A n c, .int .i64 (v : Int)] w (RetP (Val (.bool b) w)) := by
  subst hn
  subst hb
  exact ContainsI_c A c xs hx v w R
theorem memB_no {α : Type} {v : α} {xs : List α} (h : ¬ v ∈ xs) : memB v xs = false := by
  cases hb : memB v xs with
  | false => rfl
  | true => exact absurd (memB_iff.1 hb) h
end Go.Proofs.Ytnndkdcciojpiaa.Rl
