/- Tasks of choices: begun picks, and the values of picks. No statement of the seat is proved here. -/
import Derived.Test.YtdkknknebehkgaaVd
namespace Go.Proofs.Ytdkknknebehkgaa.Al
set_option linter.unusedVariables false
set_option linter.unusedSimpArgs false
open Go Go.RowKit
structure OkP (p : Pt) : Prop where
  w1 : 1 ≤ p.wt
  w16 : p.wt ≤ 16
  n1 : 1 ≤ p.cs.length
  n16 : p.cs.length ≤ 16
  cw : ∀ j, j < p.cs.length → (0 ≤ (p.cs.getD j ch0).w ∧ (p.cs.getD j ch0).w ≤ 100000) ∧ 0 ≤ (p.cs.getD j ch0).c ∧ (p.cs.getD j ch0).c ≤ 1048576
structure OkT (m : Int) (ps : List Pt) : Prop where
  m0 : 0 ≤ m
  m1 : m ≤ 1048576
  n1 : 1 ≤ ps.length
  n16 : ps.length ≤ 16
  pt : ∀ i, i < ps.length → OkP (ps.getD i pt0)
theorem sideE_ok {n : Int} (h : sideE n = 0) : ¬ n = 0 ∧ n ≤ 16 := by
  by_cases h0 : n = 0
  · rw [sideE_13 h0] at h; cases h
  by_cases h5 : 16 < n
  · rw [sideE_5 h5] at h; cases h
  exact ⟨h0, by omega⟩
theorem choE_ok {c : Ch} (h : choE c = 0) : (0 ≤ c.w ∧ c.w ≤ 100000) ∧ 0 ≤ c.c ∧ c.c ≤ 1048576 := by
  by_cases h2 : c.w < 0 ∨ 100000 < c.w ∨ c.c < 0 ∨ 1048576 < c.c
  · rw [choE_no h2] at h; cases h
  · omega
theorem partE_ok {p : Pt} (h : partE p = 0) : OkP p := by
  by_cases hw : p.wt < 1 ∨ 16 < p.wt
  · rw [partE_2 hw] at h; cases h
  by_cases hs : sideE p.cs.length = 0
  · rw [partE_f hw hs] at h
    obtain ⟨h1, h2⟩ := sideE_ok hs
    exact ⟨by omega, by omega, by omega, by omega, fun j hj => choE_ok (fstE0 _ _ h j (Nat.zero_le _) (by omega))⟩
  · rw [partE_s hw hs] at h; exact absurd h hs
theorem chkE_ok {m : Int} {ps : List Pt} (h : chkE m ps = 0) : OkT m ps := by
  by_cases hw : m < 0 ∨ 1048576 < m
  · rw [chkE_2 hw] at h; cases h
  by_cases hs : sideE ps.length = 0
  · rw [chkE_f hw hs] at h
    obtain ⟨h1, h2⟩ := sideE_ok hs
    exact ⟨by omega, by omega, by omega, by omega, fun j hj => partE_ok (fstE0 _ _ h j (Nat.zero_le _) (by omega))⟩
  · rw [chkE_s hw hs] at h; exact absurd h hs
theorem prod_le {a b : Int} (h1 : 1 ≤ a) (h2 : a ≤ 16) (h3 : 0 ≤ b) (h4 : b ≤ 100000) : 0 ≤ a * b ∧ a * b ≤ 1600000 :=
  ⟨Int.mul_nonneg (by omega) h3, Int.le_trans (Int.mul_le_mul h2 h4 h3 (by omega)) (by decide)⟩
abbrev pkC (x : Int) : List Value := [.int .i64 x]
/-- the choice that a pick takes of a part -/
def chO (ps : List Pt) (l : List Int) (k : Nat) : Ch := (ps.getD k pt0).cs.getD (l.getD k 0).toNat ch0
def wS (ps : List Pt) (l : List Int) : Nat → Int
  | 0 => 0
  | k + 1 => wS ps l k + (ps.getD k pt0).wt * (chO ps l k).w
def cS (ps : List Pt) (l : List Int) : Nat → Int
  | 0 => 0
  | k + 1 => cS ps l k + (chO ps l k).c
def okL (ps : List Pt) (l : List Int) (k : Nat) : Prop := ∀ i, i < k → 0 ≤ l.getD i 0 ∧ l.getD i 0 < (ps.getD i pt0).cs.length
theorem okL_succ {ps : List Pt} {l : List Int} {k : Nat} (h : okL ps l k) (h2 : 0 ≤ l.getD k 0 ∧ l.getD k 0 < (ps.getD k pt0).cs.length) : okL ps l (k + 1) := fun i hi => by
  rcases Nat.lt_succ_iff_lt_or_eq.1 hi with hi | rfl
  · exact h i hi
  · exact h2
theorem chO_ok {m : Int} {ps : List Pt} (ho : OkT m ps) {l : List Int} {k : Nat} (hk : k < ps.length) (h : 0 ≤ l.getD k 0 ∧ l.getD k 0 < (ps.getD k pt0).cs.length) : (0 ≤ (ps.getD k pt0).wt * (chO ps l k).w ∧ (ps.getD k pt0).wt * (chO ps l k).w ≤ 1600000) ∧ 0 ≤ (chO ps l k).c ∧ (chO ps l k).c ≤ 1048576 := by
  have h2 := (ho.pt k hk).cw (l.getD k 0).toNat (by omega)
  exact ⟨prod_le (ho.pt k hk).w1 (ho.pt k hk).w16 h2.1.1 h2.1.2, h2.2⟩
theorem wS_le {m : Int} {ps : List Pt} (ho : OkT m ps) {l : List Int} : ∀ k, k ≤ ps.length → okL ps l k → (0 ≤ wS ps l k ∧ wS ps l k ≤ 1600000 * k) ∧ 0 ≤ cS ps l k ∧ cS ps l k ≤ 1048576 * k
  | 0, _, _ => by simp [wS, cS]
  | k + 1, hk, h => by
    have h1 := wS_le ho (l := l) k (by omega) (fun i hi => h i (by omega))
    have h2 := chO_ok ho (l := l) (k := k) (by omega) (h k (by omega))
    rw [wS, cS]
    omega
noncomputable def begV (ps : List Pt) (l : List Int) : List Value := @ite _ (okL ps l l.length) (Classical.propDecidable _) [.int .i64 (wS ps l l.length), .int .i64 (cS ps l l.length), .int .i64 0] [.int .i64 0, .int .i64 0, .int .i64 2]
theorem begV_ok {ps : List Pt} {l : List Int} (h : okL ps l l.length) : begV ps l = [.int .i64 (wS ps l l.length), .int .i64 (cS ps l l.length), .int .i64 0] := if_pos h
theorem begV_no {ps : List Pt} {l : List Int} (h : ¬ okL ps l l.length) : begV ps l = [.int .i64 0, .int .i64 0, .int .i64 2] := if_neg h
end Go.Proofs.Ytdkknknebehkgaa.Al
