/- Tasks of choices: the bounds of begun picks, in plain words. No statement of the seat is proved here. -/
import Derived.Test.YtecmgjhnfgeldaaVh
namespace Go.Proofs.Ytecmgjhnfgeldaa.Al
set_option linter.unusedVariables false
set_option linter.unusedSimpArgs false
def rS (ps : List Pt) (q : Nat) : Nat → Int
  | 0 => 0
  | k + 1 => rS ps q k + nar (ps.getD (q + k) pt0)
/-- the least cost of the choices that fit, -1 if there is none -/
def bstF (m t wt : Int) (cs : List Ch) : Nat → Int
  | 0 => -1
  | k + 1 => if t + wt * (cs.getD k ch0).w ≤ m ∧ (bstF m t wt cs k < 0 ∨ (cs.getD k ch0).c < bstF m t wt cs k) then (cs.getD k ch0).c else bstF m t wt cs k
theorem bstF_yes {m t wt b : Int} {cs : List Ch} {k : Nat} (hb : b = bstF m t wt cs k) (h : t + wt * (cs.getD k ch0).w ≤ m ∧ (b < 0 ∨ (cs.getD k ch0).c < b)) : (cs.getD k ch0).c = bstF m t wt cs (k + 1) := by
  subst hb; rw [bstF, if_pos h]
theorem bstF_no {m t wt b : Int} {cs : List Ch} {k : Nat} (hb : b = bstF m t wt cs k) (h : ¬ (t + wt * (cs.getD k ch0).w ≤ m ∧ (b < 0 ∨ (cs.getD k ch0).c < b))) : b = bstF m t wt cs (k + 1) := by
  subst hb; rw [bstF, if_neg h]
abbrev bst (m T : Int) (p : Pt) : Int := bstF m (T - nar p) p.wt p.cs p.cs.length
def bS (m T : Int) (ps : List Pt) (q : Nat) : Nat → Int
  | 0 => 0
  | k + 1 => bS m T ps q k + bst m T (ps.getD (q + k) pt0)
theorem bstF_ok {m t : Int} {p : Pt} (h : OkP p) : ∀ k, k ≤ p.cs.length → -1 ≤ bstF m t p.wt p.cs k ∧ bstF m t p.wt p.cs k ≤ 1048576
  | 0, _ => by simp [bstF]
  | k + 1, hk => by
    have h1 := bstF_ok (m := m) (t := t) h k (by omega)
    have h2 := (h.cw k (by omega)).2
    rw [bstF]
    split <;> omega
theorem bstF_fit {m t : Int} {p : Pt} (h : OkP p) : ∀ {k j : Nat}, k ≤ p.cs.length → j < k → t + p.wt * (p.cs.getD j ch0).w ≤ m → 0 ≤ bstF m t p.wt p.cs k ∧ bstF m t p.wt p.cs k ≤ (p.cs.getD j ch0).c
  | k + 1, j, hk, hj, hf => by
    have h2 := (h.cw k (by omega)).2
    have h3 := bstF_ok (m := m) (t := t) h k (by omega)
    rw [bstF]
    rcases Nat.lt_succ_iff_lt_or_eq.1 hj with hj | rfl
    · have h1 := bstF_fit h (by omega) hj hf
      split <;> omega
    · split <;> omega
theorem bstF_none {m t : Int} {p : Pt} (h : OkP p) : ∀ {k : Nat}, k ≤ p.cs.length → (∀ j, j < k → ¬ t + p.wt * (p.cs.getD j ch0).w ≤ m) → bstF m t p.wt p.cs k = -1
  | 0, _, _ => rfl
  | k + 1, hk, hn => by
    rw [bstF, if_neg (fun e => hn k (by omega) e.1)]
    exact bstF_none h (by omega) fun j hj => hn j (by omega)
theorem bstF_get {m t : Int} {p : Pt} (h : OkP p) : ∀ {k : Nat}, k ≤ p.cs.length → 0 ≤ bstF m t p.wt p.cs k → ∃ j, j < k ∧ t + p.wt * (p.cs.getD j ch0).w ≤ m ∧ (p.cs.getD j ch0).c = bstF m t p.wt p.cs k
  | 0, _, hn => by simp [bstF] at hn
  | k + 1, hk, hn => by
    rw [bstF] at hn ⊢
    split
    · rename_i h1
      exact ⟨k, by omega, h1.1, rfl⟩
    · rename_i h1
      rw [if_neg h1] at hn
      obtain ⟨j, hj, h2, h3⟩ := bstF_get h (by omega) hn
      exact ⟨j, by omega, h2, h3⟩
theorem bst_pos {m T : Int} {p : Pt} (h : OkP p) (hT : T ≤ m) : 0 ≤ bst m T p := by
  obtain ⟨j, hj, e⟩ := nar_mem h
  exact (bstF_fit h (Nat.le_refl _) hj (by omega)).1
theorem bst_neg {m T : Int} {p : Pt} (h : OkP p) (hT : m < T) : bst m T p = -1 :=
  bstF_none h (Nat.le_refl _) fun j hj => by have := nar_le h hj; omega
theorem rS_le {m : Int} {ps : List Pt} (ho : OkT m ps) (q : Nat) : ∀ k, q + k ≤ ps.length → 0 ≤ rS ps q k ∧ rS ps q k ≤ 1600000 * k
  | 0, _ => by simp [rS]
  | k + 1, hk => by
    have h1 := rS_le ho q k (by omega)
    have h2 := nar_ok (ho.pt (q + k) (by omega))
    rw [rS]
    omega
theorem bS_le {m T : Int} {ps : List Pt} (ho : OkT m ps) (q : Nat) : ∀ k, q + k ≤ ps.length → -k ≤ bS m T ps q k ∧ bS m T ps q k ≤ 1048576 * k
  | 0, _ => by simp [bS]
  | k + 1, hk => by
    have h1 := bS_le (T := T) ho q k (by omega)
    have h2 := bstF_ok (m := m) (t := T - nar (ps.getD (q + k) pt0)) (ho.pt (q + k) (by omega)) _ (Nat.le_refl _)
    rw [bS]
    unfold bst
    omega
/-- the width of a begun pick with the narrowest choices of what is left -/
def totW (ps : List Pt) (l : List Int) : Int := wS ps l l.length + rS ps l.length (ps.length - l.length)
noncomputable def bndV (m : Int) (ps : List Pt) (l : List Int) : Int × Int :=
  if ¬ chkE m ps = 0 then (0, chkE m ps) else if ¬ bgE ps l = 0 then (0, bgE ps l) else if m < totW ps l then (0, 6) else (cS ps l l.length + bS m (totW ps l) ps l.length (ps.length - l.length), 0)
theorem bndV_e {m : Int} {ps : List Pt} {l : List Int} (h : ¬ chkE m ps = 0) : bndV m ps l = (0, chkE m ps) := if_pos h
theorem bndV_b {m : Int} {ps : List Pt} {l : List Int} (h : chkE m ps = 0) (h2 : ¬ bgE ps l = 0) : bndV m ps l = (0, bgE ps l) := (if_neg (not_not_intro h)).trans (if_pos h2)
theorem bndV_6 {m : Int} {ps : List Pt} {l : List Int} (h : chkE m ps = 0) (h2 : bgE ps l = 0) (h3 : m < totW ps l) : bndV m ps l = (0, 6) := (if_neg (not_not_intro h)).trans ((if_neg (not_not_intro h2)).trans (if_pos h3))
theorem bndV_0 {m : Int} {ps : List Pt} {l : List Int} (h : chkE m ps = 0) (h2 : bgE ps l = 0) (h3 : ¬ m < totW ps l) : bndV m ps l = (cS ps l l.length + bS m (totW ps l) ps l.length (ps.length - l.length), 0) := (if_neg (not_not_intro h)).trans ((if_neg (not_not_intro h2)).trans (if_neg h3))
end Go.Proofs.Ytecmgjhnfgeldaa.Al
