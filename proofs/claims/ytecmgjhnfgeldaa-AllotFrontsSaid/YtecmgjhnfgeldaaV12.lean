/- The reference's best pick. No statement of the seat is proved here. -/
import Derived.Test.YtecmgjhnfgeldaaVz
import Derived.Test.YtecmgjhnfgeldaaV6
import Derived.Test.YtecmgjhnfgeldaaV8
namespace Go.Proofs.Ytecmgjhnfgeldaa.Al
set_option linter.unusedVariables false
set_option linter.unusedSimpArgs false
open Go Go.RowKit
/-- the index of the best one of the first picks -/
def bF (m : Int) (W C : Nat → Int) : Nat → Option Nat
  | 0 => none
  | k + 1 => match bF m W C k with
    | none => if W k ≤ m then some k else none
    | some j => if W k ≤ m ∧ C k < C j then some k else some j
structure BestJ (m : Int) (W C : Nat → Int) (k j : Nat) : Prop where
  lt : j < k
  ok : W j ≤ m
  le : ∀ i, i < k → W i ≤ m → C j ≤ C i
  first : ∀ i, i < j → W i ≤ m → C j < C i
theorem bF_ok {m : Int} {W C : Nat → Int} : ∀ k, (bF m W C k = none ∧ ∀ i, i < k → ¬ W i ≤ m) ∨ ∃ j, bF m W C k = some j ∧ BestJ m W C k j
  | 0 => .inl ⟨rfl, fun i hi => absurd hi (Nat.not_lt_zero _)⟩
  | k + 1 => by
    rcases bF_ok (m := m) (W := W) (C := C) k with ⟨h1, h2⟩ | ⟨j, h1, h2⟩
    · by_cases hw : W k ≤ m
      · refine .inr ⟨k, by rw [bF, h1]; exact if_pos hw, Nat.lt_succ_self _, hw, fun i hi hwi => ?_, fun i hi hwi => absurd hwi (h2 i hi)⟩
        rcases Nat.lt_succ_iff_lt_or_eq.1 hi with hi | rfl
        · exact absurd hwi (h2 i hi)
        · exact Int.le_refl _
      · refine .inl ⟨by rw [bF, h1]; exact if_neg hw, fun i hi => ?_⟩
        rcases Nat.lt_succ_iff_lt_or_eq.1 hi with hi | rfl
        · exact h2 i hi
        · exact hw
    · by_cases hw : W k ≤ m ∧ C k < C j
      · refine .inr ⟨k, by rw [bF, h1]; exact if_pos hw, Nat.lt_succ_self _, hw.1, fun i hi hwi => ?_, fun i hi hwi => ?_⟩
        · rcases Nat.lt_succ_iff_lt_or_eq.1 hi with hi | rfl
          · have := h2.le i hi hwi; omega
          · exact Int.le_refl _
        · have := h2.le i hi hwi; omega
      · refine .inr ⟨j, by rw [bF, h1]; exact if_neg hw, Nat.lt_succ_of_lt h2.lt, h2.ok, fun i hi hwi => ?_, h2.first⟩
        rcases Nat.lt_succ_iff_lt_or_eq.1 hi with hi | rfl
        · exact h2.le i hi hwi
        · by_cases hc : C i < C j
          · exact absurd ⟨hwi, hc⟩ hw
          · omega
/-- all picks, as ints -/
abbrev pkA (ps : List Pt) : List (List Int) := pkI ps ps.length
theorem pkA_eq (ps : List Pt) : pkA ps = (picksP (ps.map Pt.pl)).map toI := by
  unfold pkA pkI
  rw [List.take_length]
abbrev wA (ps : List Pt) (k : Nat) : Int := wS ps ((pkA ps).getD k []) ((pkA ps).getD k []).length
abbrev cA' (ps : List Pt) (k : Nat) : Int := cS ps ((pkA ps).getD k []) ((pkA ps).getD k []).length
theorem pkA_at {ps : List Pt} {k : Nat} (h : k < (pkA ps).length) : ∃ x, x ∈ picksP (ps.map Pt.pl) ∧ (pkA ps).getD k [] = toI x ∧ ∃ hk : k < (picksP (ps.map Pt.pl)).length, (picksP (ps.map Pt.pl))[k] = x := by
  have hk : k < (picksP (ps.map Pt.pl)).length := by rw [pkA_eq, List.length_map] at h; exact h
  refine ⟨_, List.getElem_mem hk, ?_, hk, rfl⟩
  rw [pkA_eq, List.getD_eq_getElem?_getD, List.getElem?_map, List.getElem?_eq_getElem hk]
  rfl
theorem pkA_ok {ps : List Pt} {k : Nat} (h : k < (pkA ps).length) : ((pkA ps).getD k []).length = ps.length ∧ okL ps ((pkA ps).getD k []) ((pkA ps).getD k []).length := by
  obtain ⟨x, hx, e, _⟩ := pkA_at h
  rw [e, toI_len]
  exact picks_ok.1 hx
theorem wA_eq {ps : List Pt} {k : Nat} (h : k < (picksP (ps.map Pt.pl)).length) : wA ps k = (wgtP (ps.map Pt.pl) (picksP (ps.map Pt.pl))[k]).1 ∧ cA' ps k = (wgtP (ps.map Pt.pl) (picksP (ps.map Pt.pl))[k]).2 := by
  have h' : k < (pkA ps).length := by rw [pkA_eq, List.length_map]; exact h
  obtain ⟨x, hx, e, hk, e2⟩ := pkA_at h'
  have hl := (picks_ok.1 hx).1
  unfold wA cA'
  rw [e, toI_len, e2]
  exact wgt_S hl
theorem best_none {m : Int} {ps : List Pt} (h : ∀ i, i < (pkA ps).length → ¬ wA ps i ≤ m) : chpS (frF ps) m = none := by
  refine (chp_none (frF_front ps)).2 fun s hs hw => ?_
  obtain ⟨x, hx, rfl⟩ := sums_picks.1 hs
  obtain ⟨k, hk, rfl⟩ := List.mem_iff_getElem.1 hx
  have h1 := h k (by rw [pkA_eq, List.length_map]; exact hk)
  rw [(wA_eq hk).1] at h1
  exact h1 hw
theorem best_some {m : Int} {ps : List Pt} {j : Nat} (h : BestJ m (wA ps) (cA' ps) (pkA ps).length j) : chpS (frF ps) m = some (cA' ps j) ∧ (pkA ps).getD j [] = toI (srchP (ps.map Pt.pl) m (cA' ps j)) := by
  have hlen : (pkA ps).length = (picksP (ps.map Pt.pl)).length := by rw [pkA_eq, List.length_map]
  have hj : j < (picksP (ps.map Pt.pl)).length := by rw [← hlen]; exact h.lt
  have hL : LeastC (sumsP (ps.map Pt.pl)) m (cA' ps j) := by
    refine ⟨⟨_, sums_picks.2 ⟨_, List.getElem_mem hj, rfl⟩, ?_, (wA_eq hj).2.symm⟩, fun s hs hw => ?_⟩
    · rw [← (wA_eq hj).1]; exact h.ok
    · obtain ⟨x, hx, rfl⟩ := sums_picks.1 hs
      obtain ⟨k, hk, rfl⟩ := List.mem_iff_getElem.1 hx
      rw [← (wA_eq hk).2]
      exact h.le k (by rw [hlen]; exact hk) (by rw [(wA_eq hk).1]; exact hw)
  refine ⟨(chp_some (frF_front ps)).2 hL, ?_⟩
  have hf := srch_first (least_some.2 hL)
  have hf2 : firstP (ps.map Pt.pl) m (cA' ps j) = some (picksP (ps.map Pt.pl))[j] := by
    unfold firstP
    refine List.find?_eq_some_iff_getElem.2 ⟨?_, j, hj, rfl, fun i hi => ?_⟩
    · rw [decide_eq_true_iff, ← (wA_eq hj).1, ← (wA_eq hj).2]
      exact ⟨h.ok, rfl⟩
    · have hi2 : i < (picksP (ps.map Pt.pl)).length := by omega
      rw [Bool.not_eq_true', decide_eq_false_iff_not, ← (wA_eq hi2).1, ← (wA_eq hi2).2]
      rintro ⟨h1, h2⟩
      have := h.first i hi h1
      omega
  obtain ⟨x, hx, e, hk, e2⟩ := pkA_at (by rw [hlen]; exact hj)
  rw [hf] at hf2
  injection hf2 with hf2
  rw [e, hf2, e2]
end Go.Proofs.Ytecmgjhnfgeldaa.Al
