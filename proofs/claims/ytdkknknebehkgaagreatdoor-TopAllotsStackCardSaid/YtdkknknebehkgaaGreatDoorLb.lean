/- Loops of dimensions: checks of lists and of chains, of the program. No statement of the seat is proved here. -/
import Derived.Test.YtdkknknebehkgaaGreatDoorLa
import Derived.Test.YtdkknknebehkgaaGreatDoorEngQ
import Derived.Test.YtdkknknebehkgaaGreatDoorEngW
namespace Go.Proofs.YtdkknknebehkgaaGreatDoor
set_option linter.unusedVariables false
set_option linter.unusedSimpArgs false
open Go Go.RowKit
/-! ### the first error -/
def fstE (g : Nat → Int) : Nat → Nat → Int
  | 0, _ => 0
  | m + 1, k => if g k = 0 then fstE g m (k + 1) else g k
theorem fstE_no {g : Nat → Int} {n k : Nat} (hk : k < n) (h : ¬ g k = 0) : fstE g (n - k) k = g k := by
  obtain ⟨m, hm⟩ : ∃ m, n - k = m + 1 := ⟨n - k - 1, by omega⟩
  rw [hm, fstE, if_neg h]
theorem fstE_yes {g : Nat → Int} {n k : Nat} (hk : k < n) (h : g k = 0) : fstE g (n - k) k = fstE g (n - (k + 1)) (k + 1) := by
  obtain ⟨m, hm⟩ : ∃ m, n - k = m + 1 := ⟨n - k - 1, by omega⟩
  rw [hm, fstE, if_pos h, show n - (k + 1) = m by omega]
theorem fstE_end {g : Nat → Int} {n k : Nat} (hk : ¬ k < n) : fstE g (n - k) k = 0 := by rw [show n - k = 0 by omega]; rfl
theorem fstE0 {g : Nat → Int} : ∀ (m k : Nat), fstE g m k = 0 → ∀ i, k ≤ i → i < k + m → g i = 0
  | 0, k, _, i, h1, h2 => by omega
  | m + 1, k, h, i, h1, h2 => by
    by_cases hk : g k = 0
    · rw [fstE, if_pos hk] at h
      rcases Nat.eq_or_lt_of_le h1 with rfl | h1
      · exact hk
      · exact fstE0 m (k + 1) h i h1 (by omega)
    · rw [fstE, if_neg hk] at h; exact absurd h hk
theorem fstE_of {g : Nat → Int} : ∀ (m k : Nat), (∀ i, k ≤ i → i < k + m → g i = 0) → fstE g m k = 0
  | 0, _, _ => rfl
  | m + 1, k, h => by rw [fstE, if_pos (h k (Nat.le_refl _) (by omega))]; exact fstE_of m (k + 1) fun i h1 h2 => h i (by omega) (by omega)
/-! ### links -/
structure Lk where
  dm : Int
  bk : Bool
def lk0 : Lk := ⟨0, false⟩
abbrev dat (l : List Dm) (k : Nat) : Dm := l.getD k dm0
abbrev lat (c : List Lk) (k : Nat) : Lk := c.getD k lk0
abbrev dmC (d : Dm) : List Value := [.string d.fr, .string d.to, .int .i64 d.ax, .int .i64 d.lo, .int .i64 d.hi]
abbrev lkC (x : Lk) : List Value := [.int .i64 x.dm, .bool x.bk]
theorem dmC_len (d : Dm) : (dmC d).length = 5 := rfl
theorem lkC_len (x : Lk) : (lkC x).length = 2 := rfl
abbrev dOf (l : List Dm) (x : Lk) : Dm := l.getD x.dm.toNat dm0
def begE (l : List Dm) (x : Lk) : ByteArray := if x.bk = true then (dOf l x).to else (dOf l x).fr
def stoE (l : List Dm) (x : Lk) : ByteArray := if x.bk = true then (dOf l x).fr else (dOf l x).to
def inR (l : List Dm) (x : Lk) : Prop := 0 ≤ x.dm ∧ x.dm < l.length
def givenE (l : List Dm) : Int := if 256 < l.length then 5 else fstE (fun k => validE (dat l k)) l.length 0
/-- the error of the i-th link behind those before -/
noncomputable def stp (l : List Dm) (c : List Lk) (i : Nat) : Int :=
  @ite _ (¬ inR l (lat c i)) (Classical.propDecidable _) 2 (@ite _ (0 < i ∧ (¬ (dOf l (lat c i)).ax = (dOf l (lat c 0)).ax ∨ ¬ begE l (lat c i) = stoE l (lat c (i - 1)))) (Classical.propDecidable _) 8
    (@ite _ ((∃ j, j < i ∧ ((lat c j).dm = (lat c i).dm ∨ 0 < j ∧ begE l (lat c j) = stoE l (lat c i))) ∨ (0 < i ∧ begE l (lat c 0) = stoE l (lat c (i - 1)))) (Classical.propDecidable _) 7 0))
noncomputable def chainE (l : List Dm) (c : List Lk) : Int := if c.length = 0 then 13 else if 256 < c.length then 5 else fstE (stp l c) c.length 0
noncomputable def lpE (l : List Dm) (c : List Lk) : Int := if ¬ givenE l = 0 then givenE l else chainE l c
set_option maxRecDepth 100000 in
theorem e_given : Ent Tryz.prog 68 := fun _ _ => rfl
set_option maxRecDepth 4000 in
set_option maxHeartbeats 2000000 in
theorem given_c (A : Option Addr) (cA : Nat) (l : List Dm) (hl : l.length ≤ 9223372036854775807) (ho : ∀ i, i < l.length → (dat l i).ok) (w : World) (R : Rd w A 5 l.length (fun i => dmC (l.getD i dm0))) : Calls Tryz.prog 68 #[.slice A l.length cA] w (RetP (Val (.int .i64 (givenE l)) w)) := by
  refine calls_of_cw (args := [.slice A l.length cA]) Tryz.func68 rfl rfl ?_
  have S := Sat.start [] w
  have O := (R).old
  (repeat' (first | apply cw_seq | apply cw_region | apply wl_nil | apply cw_block | apply cw_skip | apply cw_ret | (apply x_move; exact rfl; exact rfl; (exact (by repeat' constructor))) | (apply x_assign; exact rfl; exact rfl; (exact (by repeat' constructor))) | (apply x_bin; exact rfl; exact rfl; exact rfl; (first | exact .z (.wrap (by omega)) | exact (by repeat' constructor))) | (apply x_builtin; exact rfl; exact rfl; exact (fun _ => rfl); (exact (by repeat' constructor))) | (apply x_dec; exact rfl; all_goals (intro _; try omega))))
  · (first | refine q_retS (by assumption) rfl (by repeat (first | exact .nil | (apply RV.tmp; exact (by repeat' constructor)) | (apply RV.cell; exact rfl; exact (by repeat' constructor); exact rfl; exact rfl; exact (by repeat' constructor)))) ?_ | (simp only [thenQ, blockQ]; refine q_retS (by assumption) rfl (by repeat (first | exact .nil | (apply RV.tmp; exact (by repeat' constructor)) | (apply RV.cell; exact rfl; exact (by repeat' constructor); exact rfl; exact rfl; exact (by repeat' constructor)))) ?_))
    refine ⟨?_, Sat.keeps (by assumption)⟩
    rw [givenE, if_pos (by omega)]
    rfl
  rename_i h256
  refine cw_loop [2, 4, 5, 11, 12, 13, 14, 15, 16, 17, 18, 19, 20] [11] (fun us wr => ∃ k : Nat, k ≤ l.length ∧ us = [.int .i64 k] ∧ Sat w [] [] wr ∧ givenE l = fstE (fun k => validE (dat l k)) (l.length - k) k) (fun us _ => l.length - (intOf (us.getD 0 undef)).toNat) ?_ ?_
  · exact ⟨0, by omega, rfl, by assumption, by rw [givenE, if_neg (by omega)]; rfl⟩
  clear S
  rintro g' us wr ⟨k, hk, rfl, Sr, hfe⟩
  by_cases hlt : k < l.length
  · have hok : (l.getD k dm0).ok := ho k hlt
    (repeat' (first | apply cw_seq | apply cw_region | apply wl_nil | apply cw_block | apply cw_skip | apply cw_ret | (apply x_callv; assumption; exact rfl; exact rfl; exact rfl; exact e_Valid; (exact (by repeat' constructor)); with_reducible exact (Valid_c _ hok _); intro _ _ _) | (apply x_move; exact rfl; exact rfl; (exact (by repeat' constructor))) | (apply x_assign; exact rfl; exact rfl; (exact (by repeat' constructor))) | (apply x_load; assumption; exact rfl; exact rfl; exact rfl; (exact (by repeat' constructor)); exact rfl; exact rfl; (exact (by repeat' constructor))) | (apply x_bin; exact rfl; exact rfl; exact rfl; (first | exact .z (.wrap (by omega)) | exact (by repeat' constructor))) | (apply x_alloc; assumption; exact rfl; exact rfl; exact rfl; (exact (by repeat' constructor)); intro _ _ _) | (apply x_store; assumption; exact rfl; exact rfl; (exact (by repeat' constructor)); (exact (by repeat' constructor)); exact rfl; exact rfl; exact rfl; (exact (by repeat' constructor)); intro _ _) | (apply x_index; exact rfl; exact rfl; exact rfl; exact rfl; exact rfl; (constructor); (first | omega | exact size_pos (by assumption) | assumption); (first | exact rfl | assumption | exact Rd.some_ (by assumption) (by omega) | exact Rd.some_ (Old.rd (by assumption)) (by omega) | exact (Sat.rd (by assumption) (by exact (by repeat' constructor))).some_ (by omega))) | (apply x_loadR; exact rfl; exact rfl; exact rfl; (first | exact Old.now (by assumption) (by assumption) | exact Sat.rdpr (by assumption) (by exact (by repeat' constructor)) | exact Sat.rd (by assumption) (by exact (by repeat' constructor))); (first | omega | exact size_pos (by assumption) | assumption); exact rfl; exact rfl; (exact (by repeat' constructor))) | (apply x_dec; exact rfl; all_goals (intro _; try omega)) | (apply cw_ne; exact rfl; all_goals (intro _; try omega))))
    · rw [hfe, fstE_no hlt (by assumption)]
      (first | refine q_retS (by assumption) rfl (by repeat (first | exact .nil | (apply RV.tmp; exact (by repeat' constructor)) | (apply RV.cell; exact rfl; exact (by repeat' constructor); exact rfl; exact rfl; exact (by repeat' constructor)))) ?_ | (simp only [thenQ, blockQ]; refine q_retS (by assumption) rfl (by repeat (first | exact .nil | (apply RV.tmp; exact (by repeat' constructor)) | (apply RV.cell; exact rfl; exact (by repeat' constructor); exact rfl; exact rfl; exact (by repeat' constructor)))) ?_))
      exact ⟨rfl, Sat.keeps (by assumption)⟩
    · refine ⟨rfl, (by repeat (first | exact Agree.updl rfl (Agree.mask _ _ _) | refine Agree.upd rfl ?_)), ⟨k + 1, hlt, rfl, Sat.drop1 (by assumption), by rw [hfe, fstE_yes hlt (by assumption)]⟩, ?_⟩
      show l.length - (k + 1 : Int).toNat < l.length - (k : Int).toNat
      omega
  · (repeat' (first | apply cw_seq | apply cw_region | apply wl_nil | apply cw_exit | apply cw_ret | (apply x_assign; exact rfl; exact rfl; (exact (by repeat' constructor))) | (apply x_bin; exact rfl; exact rfl; exact rfl; (first | exact .z (.wrap (by omega)) | exact (by repeat' constructor))) | (apply x_dec; exact rfl; all_goals (intro _; try omega))))
    rw [hfe, fstE_end hlt]
    (first | refine q_retS (by assumption) rfl (by repeat (first | exact .nil | (apply RV.tmp; exact (by repeat' constructor)) | (apply RV.cell; exact rfl; exact (by repeat' constructor); exact rfl; exact rfl; exact (by repeat' constructor)))) ?_ | (simp only [thenQ, blockQ]; refine q_retS (by assumption) rfl (by repeat (first | exact .nil | (apply RV.tmp; exact (by repeat' constructor)) | (apply RV.cell; exact rfl; exact (by repeat' constructor); exact rfl; exact rfl; exact (by repeat' constructor)))) ?_))
    exact ⟨rfl, Sat.keeps (by assumption)⟩
set_option maxRecDepth 100000 in
theorem e_ends : Ent Tryz.prog 81 := fun _ _ => rfl
set_option maxRecDepth 4000 in
set_option maxHeartbeats 2000000 in
theorem ends_c (A : Option Addr) (cA : Nat) (l : List Dm) (hl : l.length ≤ 9223372036854775807) (ho : ∀ i, i < l.length → (dat l i).ok) (x : Lk) (hx : inR l x) (w : World) (R : Rd w A 5 l.length (fun i => dmC (l.getD i dm0))) : Calls Tryz.prog 81 #[.slice A l.length cA, .agg #[.int .i64 (x).dm, .bool (x).bk]] w (RetP (Val (.tuple #[.string (begE l x), .string (stoE l x)]) w)) := by
  refine calls_of_cw (args := [.slice A l.length cA, .agg #[.int .i64 (x).dm, .bool (x).bk]]) Tryz.func81 rfl rfl ?_
  have S := Sat.start [] w
  have O := (R).old
  (repeat' (first | apply cw_seq | apply cw_region | apply wl_nil | apply cw_skip | apply cw_ret | (apply x_indexI (z := x.dm); exact rfl; exact rfl; exact rfl; exact rfl; exact rfl; (constructor); exact hx.1; exact hx.2; (exact (Old.rd O).some_ (by have := hx.1; have := hx.2; omega))) | (apply x_loadR; exact rfl; exact rfl; exact rfl; exact Old.now O (by assumption); (exact (by have := hx.1; have := hx.2; omega)); exact rfl; exact rfl; (exact (by repeat' constructor))) | (apply cw_draw (id := 3) [(0, 0), (1, 0), (2, 0), (3, 0), (4, 0), (5, 0)]; assumption; exact mixed; kernel_rfl) | (apply cw_draw (id := 4) [(0, 0), (1, 0), (2, 0), (3, 0), (4, 0), (5, 0)]; assumption; exact mixed; kernel_rfl) | (apply x_move; exact rfl; exact rfl; (exact (by repeat' constructor))) | (apply x_assign; exact rfl; exact rfl; (exact (by repeat' constructor))) | (apply x_fieldB; exact rfl; exact rfl; exact rfl; exact rfl; (constructor)) | (apply x_load; assumption; exact rfl; exact rfl; exact rfl; (exact (by repeat' constructor)); exact rfl; exact rfl; (exact (by repeat' constructor))) | (apply x_box; assumption; exact rfl; exact rfl; (exact (by repeat' constructor)); (exact (by repeat' constructor)); intro _ _ _) | (apply x_alloc; assumption; exact rfl; exact rfl; exact rfl; (exact (by repeat' constructor)); intro _ _ _) | (apply x_store; assumption; exact rfl; exact rfl; (exact (by repeat' constructor)); (exact (by repeat' constructor)); exact rfl; exact rfl; exact rfl; (exact (by repeat' constructor)); intro _ _) | (apply y_assign; exact rfl; (exact (by repeat' constructor))) | (apply y_fieldB; exact rfl; exact rfl; exact rfl; (constructor)) | (apply y_load; exact rfl; exact rfl; (exact (by repeat' constructor)); exact rfl; exact rfl; (exact (by repeat' constructor))) | (apply y_nil; intro _ _) | (apply cw_cond; exact rfl; all_goals (intro _; try omega))))
  all_goals (first | refine q_retS (by assumption) rfl (by repeat (first | exact .nil | (apply RV.tmp; exact (by repeat' constructor)) | (apply RV.cell; exact rfl; exact (by repeat' constructor); exact rfl; exact rfl; exact (by repeat' constructor)))) ?_ | (simp only [thenQ, blockQ]; refine q_retS (by assumption) rfl (by repeat (first | exact .nil | (apply RV.tmp; exact (by repeat' constructor)) | (apply RV.cell; exact rfl; exact (by repeat' constructor); exact rfl; exact rfl; exact (by repeat' constructor)))) ?_))
  all_goals refine ⟨?_, Sat.keeps (by assumption)⟩
  · rw [begE, stoE, if_pos (by assumption), if_pos (by assumption)]; rfl
  · rw [begE, stoE, if_neg (by simp [*]), if_neg (by simp [*])]; rfl
end Go.Proofs.YtdkknknebehkgaaGreatDoor
