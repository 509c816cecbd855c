/- When a log goes on: what is told of its events. No statement of the seat is proved here. -/
import Derived.Test.YtnndkdcciojpiaaWq
namespace Go.Proofs.Ytnndkdcciojpiaa.Rl
set_option linter.unusedVariables false
set_option linter.unusedSimpArgs false
open Go Go.RowKit Go.Maps
/-! ### next checks, by their place -/
/-- event j is a check of the gauge -/
def isCk (l : List Ev) (j : Nat) (g : ByteArray) : Prop := ((l.getD j ev0).k = 1 ∨ (l.getD j ev0).k = 2) ∧ g = (l.getD j ev0).g
theorem tC_some {l : List Ev} {g : ByteArray} {x : Int × Int} : ∀ {d : Nat}, d ≤ l.length → tC l d g = some x → ∃ j, l.length - d ≤ j ∧ j < l.length ∧ isCk l j g ∧ (∀ j', l.length - d ≤ j' → j' < j → ¬ isCk l j' g) ∧ x = ((j : Int), (l.getD j ev0).k + 1)
  | 0, _, h => by cases h
  | d + 1, hd, h => by
    unfold tC at h
    have e : l.length - (d + 1) = l.length - 1 - d := by omega
    by_cases hc : ((evB l d).k = 1 ∨ (evB l d).k = 2) ∧ g = (evB l d).g
    · rw [if_pos hc] at h
      refine ⟨l.length - 1 - d, by omega, by omega, hc, fun j' h1 h2 => by omega, (Option.some.inj h).symm⟩
    · rw [if_neg hc] at h
      obtain ⟨j, h1, h2, h3, h4, h5⟩ := tC_some (by omega) h
      refine ⟨j, by omega, h2, h3, fun j' h6 h7 => ?_, h5⟩
      by_cases e2 : j' = l.length - 1 - d
      · subst e2; exact hc
      · exact h4 j' (by omega) h7
theorem tC_none {l : List Ev} {g : ByteArray} : ∀ {d : Nat}, d ≤ l.length → tC l d g = none → ∀ j, l.length - d ≤ j → j < l.length → ¬ isCk l j g
  | 0, _, _, j, h1, h2 => by omega
  | d + 1, hd, h, j, h1, h2 => by
    unfold tC at h
    by_cases hc : ((evB l d).k = 1 ∨ (evB l d).k = 2) ∧ g = (evB l d).g
    · rw [if_pos hc] at h; cases h
    · rw [if_neg hc] at h
      by_cases e2 : j = l.length - 1 - d
      · subst e2; exact hc
      · exact tC_none (by omega) h j (by omega) h2
theorem getD_take {α : Type} {l : List α} {k j : Nat} {z : α} (h : j < k) : (l.take k).getD j z = l.getD j z := by
  rw [List.getD_eq_getElem?_getD, List.getD_eq_getElem?_getD, List.getElem?_take, if_pos h]
theorem isCk_take {l : List Ev} {k j : Nat} {g : ByteArray} (h : j < k) : isCk (l.take k) j g ↔ isCk l j g := by
  unfold isCk; rw [getD_take h]
/-- the state of event i -/
def sT (l : List Ev) (i : Nat) : Int := (ckC l (l.length - 1 - i)).2
theorem evB_at {l : List Ev} {i : Nat} (h : i < l.length) : evB l (l.length - 1 - i) = l.getD i ev0 := by
  unfold evB; rw [show l.length - 1 - (l.length - 1 - i) = i by omega]
theorem sT_other {l : List Ev} {i : Nat} (h : i < l.length) (hk : ¬ (l.getD i ev0).k = 0) : sT l i = 0 := by
  unfold sT ckC
  rw [evB_at h, if_neg hk]
theorem sT_zero {l : List Ev} {i : Nat} (h : i < l.length) (hk : (l.getD i ev0).k = 0) : sT l i = ((tC l (l.length - 1 - i) (l.getD i ev0).g).getD (-1, 1)).2 := by
  unfold sT ckC
  rw [evB_at h, if_pos hk]
theorem sT_range {l : List Ev} {i : Nat} (h : i < l.length) (hk : (l.getD i ev0).k = 0) : sT l i = 1 ∨ sT l i = 2 ∨ sT l i = 3 := by
  rw [sT_zero h hk]
  cases hT : tC l (l.length - 1 - i) (l.getD i ev0).g with
  | none => exact .inl rfl
  | some x =>
    obtain ⟨j, _, _, h3, _, rfl⟩ := tC_some (by omega) hT
    rcases h3.1 with e | e
    · right; left; show (l.getD j ev0).k + 1 = 2; omega
    · right; right; show (l.getD j ev0).k + 1 = 3; omega
theorem sT_take {l : List Ev} {k i : Nat} (hk : k ≤ l.length) (hi : i < k) (h1 : ¬ sT (l.take k) i = 1) : sT l i = sT (l.take k) i := by
  have hn : (l.take k).length = k := by rw [List.length_take]; omega
  by_cases h0 : (l.getD i ev0).k = 0
  · have h0' : ((l.take k).getD i ev0).k = 0 := by rw [getD_take hi]; exact h0
    rw [sT_zero (by omega) h0' , getD_take hi, hn] at h1 ⊢
    rw [sT_zero (by omega) h0]
    cases hT : tC (l.take k) (k - 1 - i) (l.getD i ev0).g with
    | none => rw [hT] at h1; exact absurd rfl h1
    | some x =>
      obtain ⟨j, a1, a2, a3, a4, rfl⟩ := tC_some (by omega) hT
      rw [hn] at a1 a2 a4
      have a3' := (isCk_take a2).1 a3
      cases hU : tC l (l.length - 1 - i) (l.getD i ev0).g with
      | none => exact absurd a3' (tC_none (by omega) hU j (by omega) (by omega))
      | some y =>
        obtain ⟨j2, b1, b2, b3, b4, rfl⟩ := tC_some (by omega) hU
        have e : j = j2 := by
          rcases Nat.lt_trichotomy j j2 with h | h | h
          · exact absurd a3' (b4 j (by omega) h)
          · exact h
          · exact absurd ((isCk_take (by omega)).2 b3) (a4 j2 (by omega) h)
        subst e
        show (l.getD j ev0).k + 1 = ((l.take k).getD j ev0).k + 1
        rw [getD_take a2]
  · have h0' : ¬ ((l.take k).getD i ev0).k = 0 := by rw [getD_take hi]; exact h0
    rw [sT_other (by omega) h0, sT_other (by omega) h0']
theorem sT_open {l : List Ev} {i : Nat} (hi : i < l.length) (h1 : sT l i = 1) : (unF l l.length (keyL (l.getD i ev0).g)).isSome = true := by
  rw [unF_mem]
  refine ⟨l.length - 1 - i, by omega, ?_, by rw [show l.length - 1 - (l.length - 1 - i) = i by omega]⟩
  rw [ckF_ckC]; exact h1
/-! ### a right log's beginning is right -/
theorem goneP_take {l : List Ev} {k i : Nat} {s : ByteArray} (h : i ≤ k) : goneP (l.take k) i s ↔ goneP l i s := by
  unfold goneP
  constructor
  · rintro ⟨j, h1, h2, h3⟩; rw [getD_take (by omega)] at h2 h3; exact ⟨j, h1, h2, h3⟩
  · rintro ⟨j, h1, h2, h3⟩; exact ⟨j, h1, by rw [getD_take (by omega)]; exact h2, by rw [getD_take (by omega)]; exact h3⟩
theorem measP_take {l : List Ev} {k i : Nat} {s : ByteArray} (h : i ≤ k) : measP (l.take k) i s ↔ measP l i s := by
  unfold measP
  constructor
  · rintro ⟨j, h1, h2, h3⟩; rw [getD_take (by omega)] at h2 h3; exact ⟨j, h1, h2, h3⟩
  · rintro ⟨j, h1, h2, h3⟩; exact ⟨j, h1, by rw [getD_take (by omega)]; exact h2, by rw [getD_take (by omega)]; exact h3⟩
theorem RightL.take {l : List Ev} (h : RightL l) (k : Nat) : RightL (l.take k) := by
  refine ⟨by have := h.n; rw [List.length_take]; omega, fun i hi => ?_⟩
  rw [List.length_take] at hi
  have hi2 : i < k := by omega
  have hx := h.at_ i (by omega)
  refine ⟨by rw [getD_take hi2]; exact hx.nm, ?_, ?_, ?_, ?_⟩
  · rw [getD_take hi2, goneP_take (by omega)]; exact hx.m1
  · rw [getD_take hi2]
    intro h0 j hj
    rw [getD_take (by omega)]
    exact hx.m2 h0 j hj
  · rw [getD_take hi2, measP_take (by omega)]; exact hx.w1
  · rw [getD_take hi2, goneP_take (by omega)]; exact hx.w2
/-! ### the states as a list -/
def sTs (l : List Ev) : List Int := (List.range l.length).map (sT l)
theorem sTs_len (l : List Ev) : (sTs l).length = l.length := by simp [sTs]
theorem sTs_at {l : List Ev} {i : Nat} (h : i < l.length) : (sTs l).getD i 0 = sT l i := by
  rw [List.getD_eq_getElem?_getD, sTs, List.getElem?_map, List.getElem?_range h]; rfl
theorem stO_sTs (l : List Ev) : stO l l.length = (sTs l).map pkC := by
  unfold stO sTs
  rw [List.map_map]
  refine List.map_congr_left fun i hi => ?_
  have := List.mem_range.1 hi
  rw [if_pos (by omega), ckF_ckC]
  rfl
theorem States_s {A : Option Addr} {c n : Nat} {l : List Ev} (hn : n = l.length) (hl : n ≤ c) (ho : ∀ i, i < l.length → (l.getD i ev0).ok) (hR : RightL l) (w : World) (R : Rd w A 4 l.length (fun i => evC (l.getD i ev0))) : Calls Try.prog 8 #[.slice A n c] w (RetP (RowR (fun s => .tuple #[s, .int .i64 0]) 3 1 ((sTs l).map pkC) w)) := by
  subst hn
  rw [← stO_sTs]
  exact States_c hl ho hR w R
theorem Unsure_s {A : Option Addr} {c n : Nat} {l : List Ev} (hn : n = l.length) (hl : n ≤ c) (ho : ∀ i, i < l.length → (l.getD i ev0).ok) (hR : RightL l) (w : World) (R : Rd w A 4 l.length (fun i => evC (l.getD i ev0))) : Calls Try.prog 9 #[.slice A n c] w (RetP fun v w' => ∃ a : NamesOf (unF l l.length), v = .tuple #[a.sl, .int .i64 0] ∧ Sat w [] [a.ho] w') := by
  subst hn
  exact Unsure_c hl ho hR w R
theorem Rd.evTake {w : World} {A : Option Addr} {l : List Ev} {k : Nat} (hk : k ≤ l.length) (R : Rd w A 4 l.length (fun i => evC (l.getD i ev0))) : Rd w A 4 (l.take k).length (fun i => evC ((l.take k).getD i ev0)) :=
  (R.take (by rw [List.length_take]; omega)).congr fun i hi => by rw [List.length_take] at hi; rw [getD_take (by omega)]
theorem evOk_take {l : List Ev} {k : Nat} (ho : ∀ i, i < l.length → (l.getD i ev0).ok) : ∀ i, i < (l.take k).length → ((l.take k).getD i ev0).ok := fun i hi => by
  rw [List.length_take] at hi
  rw [getD_take (by omega)]
  exact ho i (by omega)
end Go.Proofs.Ytnndkdcciojpiaa.Rl
