/- slices.ContainsFunc at rows of rows. No statement of the seat is proved here. -/
import Derived.Test.YtagapiflfnbfiaaUa
namespace Go.Proofs.Ytagapiflfnbfiaa
set_option linter.unusedVariables false
set_option linter.unusedSimpArgs false
open Go Go.RowKit
def or0 : OR := ⟨none, 0, []⟩
def fstI (p : Nat → Bool) : Nat → Nat → Int
  | 0, _ => -1
  | m + 1, k => if p k = true then k else fstI p m (k + 1)
theorem fstI_end {p : Nat → Bool} {n k : Nat} (h : ¬ k < n) : fstI p (n - k) k = -1 := by rw [show n - k = 0 by omega]; rfl
theorem fstI_hit {p : Nat → Bool} {n k : Nat} (h : k < n) (hp : p k = true) : fstI p (n - k) k = k := by
  obtain ⟨m, hm⟩ : ∃ m, n - k = m + 1 := ⟨n - k - 1, by omega⟩
  rw [hm, fstI, if_pos hp]
theorem fstI_next {p : Nat → Bool} {n k : Nat} (h : k < n) (hp : ¬ p k = true) : fstI p (n - k) k = fstI p (n - (k + 1)) (k + 1) := by
  obtain ⟨m, hm⟩ : ∃ m, n - k = m + 1 := ⟨n - k - 1, by omega⟩
  rw [hm, fstI, if_neg hp, show n - (k + 1) = m by omega]
theorem fstI_yes {p : Nat → Bool} : ∀ {m k i : Nat}, k ≤ i → i < k + m → p i = true → 0 ≤ fstI p m k
  | 0, _, _, _, _, _ => by omega
  | m + 1, k, i, h1, h2, h3 => by
    rw [fstI]
    by_cases hk : p k = true
    · rw [if_pos hk]; omega
    · rw [if_neg hk]
      rcases Nat.eq_or_lt_of_le h1 with rfl | h1
      · exact absurd h3 hk
      · exact fstI_yes h1 (by omega) h3
theorem fstI_no {p : Nat → Bool} : ∀ {m k : Nat}, (∀ i, k ≤ i → i < k + m → ¬ p i = true) → fstI p m k = -1
  | 0, _, _ => rfl
  | m + 1, k, h => by
    rw [fstI, if_neg (h k (Nat.le_refl _) (by omega))]
    exact fstI_no fun i h1 h2 => h i (by omega) (by omega)
set_option maxRecDepth 100000 in
theorem e_IndexR : Ent Try.prog 53 := fun _ _ => rfl
set_option maxRecDepth 100000 in
theorem e_ContainsR : Ent Try.prog 25 := fun _ _ => rfl
set_option maxRecDepth 8000 in
set_option maxHeartbeats 4000000 in
theorem IndexR_c (A : Option Addr) (cA : Nat) (rs : List OR) (hl : rs.length ≤ 9223372036854775807) (g : FuncId) (cap : List Value) (hE : Ent Try.prog g) (p : Nat → Bool) (w : World) (R : Rd w A 1 rs.length (fun i => orV (rs.getD i or0))) (hU : ∀ i, i < rs.length → ∀ w', Keeps [] w w' → Calls Try.prog g (.slice (rs.getD i or0).A (rs.getD i or0).xs.length (rs.getD i or0).c :: cap).toArray w' (RetP (Val (.bool (p i)) w'))) : Calls Try.prog 53 #[.slice A rs.length cA, .func (.func g) #[] cap.toArray] w (RetP (Val (.int .i64 (fstI p rs.length 0)) w)) := by
  refine calls_of_cw (args := [.slice A rs.length cA, .func (.func g) #[] cap.toArray]) Try.func53 rfl rfl ?_
  have S := Sat.start [] w
  have O := R.old
  (repeat' (first | apply cw_seq | apply cw_region | apply wl_nil | apply cw_block | (apply x_move; exact rfl; exact rfl; (exact (by repeat' constructor))) | (apply x_assign; exact rfl; exact rfl; (exact (by repeat' constructor))) | (apply x_builtin; exact rfl; exact rfl; exact (fun _ => rfl); (exact (by repeat' constructor)))))
  refine cw_loop [4, 5, 8, 9, 10, 11, 12, 13, 14, 15, 16, 17, 18] [8] (fun us wr => ∃ k : Nat, k ≤ rs.length ∧ us = [.int .i64 k] ∧ Sat w [] [] wr ∧ fstI p rs.length 0 = fstI p (rs.length - k) k) (fun us _ => rs.length - (intOf (us.getD 0 undef)).toNat) ?_ ?_
  · exact ⟨0, by omega, rfl, S, rfl⟩
  clear S
  rintro g' us wr ⟨k, hk, rfl, Sr, hfe⟩
  by_cases hlt : k < rs.length
  · by_cases hp : p k = true
    · have hU2 : ∀ w', Keeps [] w w' → Calls Try.prog g (.slice (rs.getD k or0).A (rs.getD k or0).xs.length (rs.getD k or0).c :: cap).toArray w' (RetP (Val (.bool true) w')) := fun w' K => by
        have := hU k hlt w' K
        rwa [hp] at this
      (repeat' (first | apply cw_seq | apply cw_region | apply wl_nil | apply cw_block | apply cw_skip | apply cw_ret | (apply x_callv; assumption; exact rfl; exact rfl; exact rfl; exact hE; (exact NA.cons (by exact (by repeat' constructor)) (NA.rfl_ _)); exact hU2 _ (Sat.keeps (by assumption)); intro _ _ _) | (apply x_move; exact rfl; exact rfl; (exact (by repeat' constructor))) | (apply x_assign; exact rfl; exact rfl; (exact (by repeat' constructor))) | (apply x_bin; exact rfl; exact rfl; exact rfl; (first | exact .z (.wrap (by omega)) | exact (by repeat' constructor))) | (apply x_index; exact rfl; exact rfl; exact rfl; exact rfl; exact rfl; (constructor); (first | omega | exact size_pos (by assumption) | assumption); (first | exact rfl | assumption | exact Rd.some_ (by assumption) (by omega) | exact Rd.some_ (Old.rd (by assumption)) (by omega) | exact (Sat.rd (by assumption) (by exact (by repeat' constructor))).some_ (by omega))) | (apply x_loadR; exact rfl; exact rfl; exact rfl; (first | exact Old.now (by assumption) (by assumption) | exact Sat.rdpr (by assumption) (by exact (by repeat' constructor)) | exact Sat.rd (by assumption) (by exact (by repeat' constructor))); (first | omega | exact size_pos (by assumption) | assumption); exact rfl; exact rfl; (exact (by repeat' constructor))) | (apply cw_true; exact rfl) | (apply x_dec; exact rfl; all_goals (intro _; try omega))))
      rw [hfe, fstI_hit hlt hp]
      (first | refine q_retS (by assumption) rfl (by repeat (first | exact .nil | (apply RV.tmp; exact (by repeat' constructor)) | (apply RV.cell; exact rfl; exact (by repeat' constructor); exact rfl; exact rfl; exact (by repeat' constructor)))) ?_ | (simp only [thenQ, blockQ]; refine q_retS (by assumption) rfl (by repeat (first | exact .nil | (apply RV.tmp; exact (by repeat' constructor)) | (apply RV.cell; exact rfl; exact (by repeat' constructor); exact rfl; exact rfl; exact (by repeat' constructor)))) ?_))
      exact ⟨rfl, Sat.keeps (by assumption)⟩
    · have hU2 : ∀ w', Keeps [] w w' → Calls Try.prog g (.slice (rs.getD k or0).A (rs.getD k or0).xs.length (rs.getD k or0).c :: cap).toArray w' (RetP (Val (.bool false) w')) := fun w' K => by
        have := hU k hlt w' K
        rwa [Bool.eq_false_iff.2 hp] at this
      (repeat' (first | apply cw_seq | apply cw_region | apply wl_nil | apply cw_block | apply cw_skip | (apply x_callv; assumption; exact rfl; exact rfl; exact rfl; exact hE; (exact NA.cons (by exact (by repeat' constructor)) (NA.rfl_ _)); exact hU2 _ (Sat.keeps (by assumption)); intro _ _ _) | (apply x_move; exact rfl; exact rfl; (exact (by repeat' constructor))) | (apply x_assign; exact rfl; exact rfl; (exact (by repeat' constructor))) | (apply x_bin; exact rfl; exact rfl; exact rfl; (first | exact .z (.wrap (by omega)) | exact (by repeat' constructor))) | (apply x_index; exact rfl; exact rfl; exact rfl; exact rfl; exact rfl; (constructor); (first | omega | exact size_pos (by assumption) | assumption); (first | exact rfl | assumption | exact Rd.some_ (by assumption) (by omega) | exact Rd.some_ (Old.rd (by assumption)) (by omega) | exact (Sat.rd (by assumption) (by exact (by repeat' constructor))).some_ (by omega))) | (apply x_loadR; exact rfl; exact rfl; exact rfl; (first | exact Old.now (by assumption) (by assumption) | exact Sat.rdpr (by assumption) (by exact (by repeat' constructor)) | exact Sat.rd (by assumption) (by exact (by repeat' constructor))); (first | omega | exact size_pos (by assumption) | assumption); exact rfl; exact rfl; (exact (by repeat' constructor))) | (apply cw_false; exact rfl) | (apply x_dec; exact rfl; all_goals (intro _; try omega))))
      refine ⟨rfl, (by repeat (first | exact Agree.updl rfl (Agree.mask _ _ _) | refine Agree.upd rfl ?_)), ⟨k + 1, hlt, rfl, by assumption, by rw [hfe, fstI_next hlt hp]⟩, ?_⟩
      show rs.length - (k + 1 : Int).toNat < rs.length - (k : Int).toNat
      omega
  · (repeat' (first | apply cw_seq | apply cw_region | apply wl_nil | apply cw_exit | apply cw_ret | (apply x_assign; exact rfl; exact rfl; (exact (by repeat' constructor))) | (apply x_bin; exact rfl; exact rfl; exact rfl; (first | exact .z (.wrap (by omega)) | exact (by repeat' constructor))) | (apply x_dec; exact rfl; all_goals (intro _; try omega))))
    rw [hfe, fstI_end hlt]
    (first | refine q_retS (by assumption) rfl (by repeat (first | exact .nil | (apply RV.tmp; exact (by repeat' constructor)) | (apply RV.cell; exact rfl; exact (by repeat' constructor); exact rfl; exact rfl; exact (by repeat' constructor)))) ?_ | (simp only [thenQ, blockQ]; refine q_retS (by assumption) rfl (by repeat (first | exact .nil | (apply RV.tmp; exact (by repeat' constructor)) | (apply RV.cell; exact rfl; exact (by repeat' constructor); exact rfl; exact rfl; exact (by repeat' constructor)))) ?_))
    exact ⟨rfl, Sat.keeps (by assumption)⟩
set_option maxRecDepth 8000 in
set_option maxHeartbeats 4000000 in
theorem ContainsR_c (A : Option Addr) (cA : Nat) (rs : List OR) (hl : rs.length ≤ 9223372036854775807) (g : FuncId) (cap : List Value) (hE : Ent Try.prog g) (p : Nat → Bool) (w : World) (R : Rd w A 1 rs.length (fun i => orV (rs.getD i or0))) (hU : ∀ i, i < rs.length → ∀ w', Keeps [] w w' → Calls Try.prog g (.slice (rs.getD i or0).A (rs.getD i or0).xs.length (rs.getD i or0).c :: cap).toArray w' (RetP (Val (.bool (p i)) w'))) : Calls Try.prog 25 #[.slice A rs.length cA, .func (.func g) #[] cap.toArray] w (RetP (Val (.bool (decide (fstI p rs.length 0 ≥ 0))) w)) := by
  refine calls_of_cw (args := [.slice A rs.length cA, .func (.func g) #[] cap.toArray]) Try.func25 rfl rfl ?_
  have S := Sat.start [] w
  have O := R.old
  (repeat' (first | apply cw_seq | apply cw_region | apply wl_nil | apply cw_ret | (apply x_callv; assumption; exact rfl; exact rfl; exact rfl; exact e_IndexR; (exact (by repeat' constructor)); with_reducible exact (IndexR_c A cA rs hl g cap hE p _ (Old.now O (by assumption)) (fun i hi w' K => hU i hi w' ((Sat.keeps (by assumption)).trans K))); intro _ _ _) | (apply x_move; exact rfl; exact rfl; (exact (by repeat' constructor))) | (apply x_assign; exact rfl; exact rfl; (exact (by repeat' constructor))) | (apply x_bin; exact rfl; exact rfl; exact rfl; (first | exact .z (.wrap (by omega)) | exact (by repeat' constructor)))))
  all_goals (first | refine q_retS (by assumption) rfl (by repeat (first | exact .nil | (apply RV.tmp; exact (by repeat' constructor)) | (apply RV.cell; exact rfl; exact (by repeat' constructor); exact rfl; exact rfl; exact (by repeat' constructor)))) ?_ | (simp only [thenQ, blockQ]; refine q_retS (by assumption) rfl (by repeat (first | exact .nil | (apply RV.tmp; exact (by repeat' constructor)) | (apply RV.cell; exact rfl; exact (by repeat' constructor); exact rfl; exact rfl; exact (by repeat' constructor)))) ?_))
  all_goals exact ⟨rfl, Sat.keeps (by assumption)⟩
theorem ContainsR_y (A : Option Addr) (cA : Nat) (rs : List OR) (hl : rs.length ≤ 9223372036854775807) (g : FuncId) (cap : List Value) (hE : Ent Try.prog g) (p : Nat → Bool) (w : World) (R : Rd w A 1 rs.length (fun i => orV (rs.getD i or0))) (hU : ∀ i, i < rs.length → ∀ w', Keeps [] w w' → Calls Try.prog g (.slice (rs.getD i or0).A (rs.getD i or0).xs.length (rs.getD i or0).c :: cap).toArray w' (RetP (Val (.bool (p i)) w'))) {i : Nat} (hi : i < rs.length) (hp : p i = true) : Calls Try.prog 25 #[.slice A rs.length cA, .func (.func g) #[] cap.toArray] w (RetP (Val (.bool true) w)) :=
  val_of (ContainsR_c A cA rs hl g cap hE p w R hU) (by rw [decide_eq_true (fstI_yes (Nat.zero_le i) (by omega) hp)])
end Go.Proofs.Ytagapiflfnbfiaa
