/- Samples of points in space: distances, what is thinned, what occurs once. No statement of the seat is proved here. -/
import Derived.Test.YtnlddjbeekfjlaaPa
namespace Go.Proofs.Ytnlddjbeekfjlaa
open Go Go.RowKit
theorem sq_b {x : Int} (h : -200000 ≤ x ∧ x ≤ 200000) : 0 ≤ x * x ∧ x * x ≤ 40000000000 := by
  have h1 := Int.mul_nonneg (show (0 : Int) ≤ 200000 - x by omega) (show (0 : Int) ≤ 200000 + x by omega)
  rw [Int.sub_mul, Int.mul_add, Int.mul_add] at h1
  refine ⟨?_, by omega⟩
  rcases Int.le_total 0 x with hx | hx
  · exact Int.mul_nonneg hx hx
  · have := Int.mul_nonneg (show (0 : Int) ≤ -x by omega) (show (0 : Int) ≤ -x by omega)
    rwa [Int.neg_mul_neg] at this
def dist2 (a b : Sp) : Int := (b.1 - a.1) * (b.1 - a.1) + (b.2.1 - a.2.1) * (b.2.1 - a.2.1) + (b.2.2 - a.2.2) * (b.2.2 - a.2.2)
set_option maxRecDepth 100000 in
theorem e_reach : Ent Try.prog 45 := fun _ _ => rfl
set_option maxRecDepth 4000 in
set_option maxHeartbeats 2000000 in
theorem reach_c (a b : Sp) (h1 : -100000 ≤ a.1 ∧ a.1 ≤ 100000) (h2 : -100000 ≤ a.2.1 ∧ a.2.1 ≤ 100000) (h3 : -100000 ≤ a.2.2 ∧ a.2.2 ≤ 100000) (h4 : -100000 ≤ b.1 ∧ b.1 ≤ 100000) (h5 : -100000 ≤ b.2.1 ∧ b.2.1 ≤ 100000) (h6 : -100000 ≤ b.2.2 ∧ b.2.2 ≤ 100000) (w : World) : Calls Try.prog 45 #[.agg #[.int .i64 (a).1, .int .i64 (a).2.1, .int .i64 (a).2.2], .agg #[.int .i64 (b).1, .int .i64 (b).2.1, .int .i64 (b).2.2]] w (RetP (Val (.agg #[.int .i64 (b.1 - a.1), .int .i64 (b.2.1 - a.2.1), .int .i64 (b.2.2 - a.2.2)]) w)) := by
  refine calls_of_cw (args := [.agg #[.int .i64 (a).1, .int .i64 (a).2.1, .int .i64 (a).2.2], .agg #[.int .i64 (b).1, .int .i64 (b).2.1, .int .i64 (b).2.2]]) Try.func45 rfl rfl ?_
  have S := Sat.start [] w
  (repeat' (first | apply cw_seq | apply cw_region | apply wl_nil | apply cw_block | apply cw_skip | apply cw_exit | apply cw_ret | (apply x_fieldB; exact rfl; exact rfl; exact rfl; exact rfl; (constructor)) | (apply x_load; assumption; exact rfl; exact rfl; exact rfl; (exact (by repeat' constructor)); exact rfl; exact rfl; (exact (by repeat' constructor))) | (apply x_bin; exact rfl; exact rfl; exact rfl; (first | exact .z (.wrap (by omega)) | exact (by repeat' constructor))) | (apply x_box; assumption; exact rfl; exact rfl; (exact (by repeat' constructor)); (exact (by repeat' constructor)); intro _ _ _) | (apply x_alloc; assumption; exact rfl; exact rfl; exact rfl; (exact (by repeat' constructor)); intro _ _ _) | (apply x_store; assumption; exact rfl; exact rfl; (exact (by repeat' constructor)); (exact (by repeat' constructor)); exact rfl; exact rfl; exact rfl; (exact (by repeat' constructor)); intro _ _) | (apply x_build; exact rfl; exact rfl; exact rfl; (exact (by repeat' constructor))) | (apply x_fieldE; exact rfl; exact rfl; exact rfl; exact rfl; (constructor)) | (apply x_loadB; assumption; exact rfl; exact rfl; exact rfl; assumption; exact rfl; exact rfl; (exact (by repeat' constructor))) | (apply x_loadR; exact rfl; exact rfl; exact rfl; (first | exact Old.now (by assumption) (by assumption) | exact Sat.rdpr (by assumption) (by exact (by repeat' constructor)) | exact Sat.rd (by assumption) (by exact (by repeat' constructor))); (first | omega | exact size_pos (by assumption) | assumption); exact rfl; exact rfl; (exact (by repeat' constructor)))))
  all_goals refine q_retS (by assumption) rfl (by repeat (first | exact .nil | (apply RV.tmp; exact (by repeat' constructor)) | (apply RV.cell; exact rfl; exact (by repeat' constructor); exact rfl; exact rfl; exact (by repeat' constructor)))) ?_
  all_goals exact ⟨rfl, Sat.keeps (by assumption)⟩
set_option maxRecDepth 100000 in
theorem e_bdot : Ent Try.prog 46 := fun _ _ => rfl
set_option maxRecDepth 4000 in
set_option maxHeartbeats 2000000 in
theorem bdot_c (x y z : Int) (hx : 0 ≤ x * x ∧ x * x ≤ 40000000000) (hy : 0 ≤ y * y ∧ y * y ≤ 40000000000) (hz : 0 ≤ z * z ∧ z * z ≤ 40000000000) (w : World) : Calls Try.prog 46 #[.agg #[.int .i64 x, .int .i64 y, .int .i64 z], .agg #[.int .i64 x, .int .i64 y, .int .i64 z]] w (RetP (Val (.int .i64 (x * x + y * y + z * z)) w)) := by
  refine calls_of_cw (args := [.agg #[.int .i64 x, .int .i64 y, .int .i64 z], .agg #[.int .i64 x, .int .i64 y, .int .i64 z]]) Try.func46 rfl rfl ?_
  have S := Sat.start [] w
  (repeat' (first | apply cw_seq | apply cw_region | apply wl_nil | apply cw_block | apply cw_skip | apply cw_exit | apply cw_ret | (apply x_assign; exact rfl; exact rfl; (exact (by repeat' constructor))) | (apply x_fieldB; exact rfl; exact rfl; exact rfl; exact rfl; (constructor)) | (apply x_load; assumption; exact rfl; exact rfl; exact rfl; (exact (by repeat' constructor)); exact rfl; exact rfl; (exact (by repeat' constructor))) | (apply x_bin; exact rfl; exact rfl; exact rfl; (first | exact .z (.wrap (by omega)) | exact (by repeat' constructor))) | (apply x_box; assumption; exact rfl; exact rfl; (exact (by repeat' constructor)); (exact (by repeat' constructor)); intro _ _ _) | (apply x_fieldE; exact rfl; exact rfl; exact rfl; exact rfl; (constructor)) | (apply x_loadB; assumption; exact rfl; exact rfl; exact rfl; assumption; exact rfl; exact rfl; (exact (by repeat' constructor))) | (apply x_loadR; exact rfl; exact rfl; exact rfl; (first | exact Old.now (by assumption) (by assumption) | exact Sat.rdpr (by assumption) (by exact (by repeat' constructor)) | exact Sat.rd (by assumption) (by exact (by repeat' constructor))); (first | omega | exact size_pos (by assumption) | assumption); exact rfl; exact rfl; (exact (by repeat' constructor)))))
  all_goals refine q_retS (by assumption) rfl (by repeat (first | exact .nil | (apply RV.tmp; exact (by repeat' constructor)) | (apply RV.cell; exact rfl; exact (by repeat' constructor); exact rfl; exact rfl; exact (by repeat' constructor)))) ?_
  all_goals exact ⟨rfl, Sat.keeps (by assumption)⟩
theorem rgS_raw {p : Sp} (h : rgS p) : (-100000 ≤ p.1 ∧ p.1 ≤ 100000) ∧ (-100000 ≤ p.2.1 ∧ p.2.1 ≤ 100000) ∧ (-100000 ≤ p.2.2 ∧ p.2.2 ≤ 100000) := h
theorem reach_v {a b : Sp} (ha : rgS a) (hb : rgS b) (w : World) : Calls Try.prog 45 #[.agg #[.int .i64 (a).1, .int .i64 (a).2.1, .int .i64 (a).2.2], .agg #[.int .i64 (b).1, .int .i64 (b).2.1, .int .i64 (b).2.2]] w (RetP (Val (.agg #[.int .i64 (b.1 - a.1), .int .i64 (b.2.1 - a.2.1), .int .i64 (b.2.2 - a.2.2)]) w)) :=
  reach_c a b ha.1 ha.2.1 ha.2.2 hb.1 hb.2.1 hb.2.2 w
theorem bdot_v {a b : Sp} (ha : rgS a) (hb : rgS b) (w : World) : Calls Try.prog 46 #[.agg #[.int .i64 (b.1 - a.1), .int .i64 (b.2.1 - a.2.1), .int .i64 (b.2.2 - a.2.2)], .agg #[.int .i64 (b.1 - a.1), .int .i64 (b.2.1 - a.2.1), .int .i64 (b.2.2 - a.2.2)]] w (RetP (Val (.int .i64 (dist2 a b)) w)) := by
  have h1 := rgS_raw ha
  have h2 := rgS_raw hb
  exact bdot_c _ _ _ (sq_b (by omega)) (sq_b (by omega)) (sq_b (by omega)) w
theorem all2_v {a b : Sp} (ha : rgS a) (hb : rgS b) {w : World} {k : Nat} (R : Rd w (some ⟨k, 0, none⟩) 3 [a, b].length (fun i => spC ([a, b].getD i sp0))) : Calls Try.prog 43 #[.func (.func 44) #[] #[], .slice (some ⟨k, 0, none⟩) 2 2] w (RetP (Val (.int .i64 0) w)) :=
  val_of (all_c (some ⟨k, 0, none⟩) 2 [a, b] (by simp) w R) (by rw [allE, if_pos (allP_mem.2 (by intro p hp; simp at hp; rcases hp with rfl | rfl <;> assumption))])
set_option maxRecDepth 100000 in
theorem e_Square : Ent Try.prog 15 := fun _ _ => rfl
set_option maxRecDepth 4000 in
set_option maxHeartbeats 2000000 in
theorem Square_c (a b : Sp) (ha : rgS a) (hb : rgS b) (w : World) : Calls Try.prog 15 #[.agg #[.int .i64 (a).1, .int .i64 (a).2.1, .int .i64 (a).2.2], .agg #[.int .i64 (b).1, .int .i64 (b).2.1, .int .i64 (b).2.2]] w (RetP (Val (.tuple #[.int .i64 (dist2 a b), .int .i64 0]) w)) := by
  refine calls_of_cw (args := [.agg #[.int .i64 (a).1, .int .i64 (a).2.1, .int .i64 (a).2.2], .agg #[.int .i64 (b).1, .int .i64 (b).2.1, .int .i64 (b).2.2]]) Try.func15 rfl rfl ?_
  have S := Sat.start [] w
  (repeat' (first | apply cw_seq | apply cw_region | apply wl_nil | apply cw_block | apply cw_skip | apply cw_exit | apply cw_ret | (apply x_callv; assumption; exact rfl; exact rfl; exact rfl; exact e_all; (exact (by repeat' constructor)); exact (all2_v ha hb (Sat.rdflat (l := [a, b]) sp0 spC_len (by assumption) (by exact (by repeat' constructor)))); intro _ _ _) | (apply z1_callv; exact rfl; exact rfl; exact e_all; (exact (by repeat' constructor)); exact (fun _ _ => all2_v ha hb (Sat.rdflat (l := [a, b]) sp0 spC_len (by assumption) (by exact (by repeat' constructor))))) | (apply z2_callv; exact rfl; exact rfl; exact e_all; (exact (by repeat' constructor)); exact (fun _ _ => all2_v ha hb (Sat.rdflat (l := [a, b]) sp0 spC_len (by assumption) (by exact (by repeat' constructor))))) | (apply x_callv; assumption; exact rfl; exact rfl; exact rfl; exact e_reach; (exact (by repeat' constructor)); exact (reach_v ha hb _); intro _ _ _) | (apply z1_callv; exact rfl; exact rfl; exact e_reach; (exact (by repeat' constructor)); exact (fun _ _ => reach_v ha hb _)) | (apply z2_callv; exact rfl; exact rfl; exact e_reach; (exact (by repeat' constructor)); exact (fun _ _ => reach_v ha hb _)) | (apply x_callv; assumption; exact rfl; exact rfl; exact rfl; exact e_bdot; (exact (by repeat' constructor)); exact (bdot_v ha hb _); intro _ _ _) | (apply z1_callv; exact rfl; exact rfl; exact e_bdot; (exact (by repeat' constructor)); exact (fun _ _ => bdot_v ha hb _)) | (apply z2_callv; exact rfl; exact rfl; exact e_bdot; (exact (by repeat' constructor)); exact (fun _ _ => bdot_v ha hb _)) | (apply x_buildSlice0; assumption; exact rfl; exact rfl; exact rfl; intro _ _ _ _ _) | (apply x_move; exact rfl; exact rfl; (exact (by repeat' constructor))) | (apply x_assign; exact rfl; exact rfl; (exact (by repeat' constructor))) | (apply x_load; assumption; exact rfl; exact rfl; exact rfl; (exact (by repeat' constructor)); exact rfl; exact rfl; (exact (by repeat' constructor))) | (apply x_neStr; exact rfl; exact rfl; exact rfl; exact rfl) | (apply x_bin; exact rfl; exact rfl; exact rfl; (first | exact .z (.wrap (by omega)) | exact (by repeat' constructor))) | (apply x_box; assumption; exact rfl; exact rfl; (exact (by repeat' constructor)); (exact (by repeat' constructor)); intro _ _ _) | (apply x_alloc; assumption; exact rfl; exact rfl; exact rfl; (exact (by repeat' constructor)); intro _ _ _) | (apply x_store; assumption; exact rfl; exact rfl; (exact (by repeat' constructor)); (exact (by repeat' constructor)); exact rfl; exact rfl; exact rfl; (exact (by repeat' constructor)); intro _ _) | (apply x_buildSlice; assumption; exact rfl; exact rfl; exact rfl; (exact (by repeat' constructor)); intro _ _ _) | (apply x_loadB; assumption; exact rfl; exact rfl; exact rfl; assumption; exact rfl; exact rfl; (exact (by repeat' constructor))) | (apply x_loadR; exact rfl; exact rfl; exact rfl; (first | exact Old.now (by assumption) (by assumption) | exact Sat.rdpr (by assumption) (by exact (by repeat' constructor)) | exact Sat.rd (by assumption) (by exact (by repeat' constructor))); (first | omega | exact size_pos (by assumption) | assumption); exact rfl; exact rfl; (exact (by repeat' constructor))) | (apply cw_true; exact rfl) | (apply cw_false; exact rfl) | (apply x_ndec; exact rfl; with_reducible exact rfl; all_goals (intro _; try omega)) | (apply x_dec; exact rfl; all_goals (intro _; try omega)) | (apply cw_ne; exact rfl; all_goals (intro _; try omega)) | (apply cw_eq; exact rfl; all_goals (intro _; try omega)) | (apply cw_not; exact rfl; all_goals (intro _; try omega)) | (apply cw_cond; exact rfl; all_goals (intro _; try omega))))
  all_goals refine q_retS (by assumption) rfl (by repeat (first | exact .nil | (apply RV.tmp; exact (by repeat' constructor)) | (apply RV.cell; exact rfl; exact (by repeat' constructor); exact rfl; exact rfl; exact (by repeat' constructor)))) ?_
  all_goals exact ⟨rfl, Sat.keeps (by assumption)⟩
/-! ### the first element of a kind -/
noncomputable def idxG {α : Type} (φ : α → Prop) : List α → Nat → Int
  | [], _ => -1
  | p :: r, k => if h : Classical.propDecidable (φ p) |>.decide then (k : Int) else idxG φ r (k + 1)
theorem idxG_yes {α : Type} {φ : α → Prop} {p : α} {r : List α} {k : Nat} (h : φ p) : idxG φ (p :: r) k = k := by simp [idxG, h]
theorem idxG_no {α : Type} {φ : α → Prop} {p : α} {r : List α} {k : Nat} (h : ¬ φ p) : idxG φ (p :: r) k = idxG φ r (k + 1) := by simp [idxG, h]
theorem idxG_iff {α : Type} {φ : α → Prop} : ∀ (l : List α) (k : Nat), 0 ≤ idxG φ l k ↔ ∃ p ∈ l, φ p
  | [], k => by simp [idxG]
  | p :: r, k => by
    by_cases h : φ p
    · rw [idxG_yes h]; exact ⟨fun _ => ⟨p, by simp, h⟩, fun _ => by omega⟩
    · rw [idxG_no h, idxG_iff r (k + 1)]; simp [h]
theorem drop_getD {α : Type} {l : List α} {k : Nat} (h : k < l.length) (z : α) : l.drop k = l.getD k z :: l.drop (k + 1) := by
  rw [List.drop_eq_getElem_cons h, getD_lt h]
set_option maxRecDepth 100000 in
theorem e_indexF : Ent Try.prog 76 := fun _ _ => rfl
set_option maxRecDepth 4000 in
set_option maxHeartbeats 2000000 in
theorem indexF_c (A : Option Addr) (c : Nat) (l : List Sp) (hl : l.length ≤ 9223372036854775807) (φ : Sp → Prop) (g : FuncId) (cap : List Value) (hE : Ent Try.prog g) (w : World) (R : Rd w A 3 l.length (fun i => spC (l.getD i sp0))) (hF : ∀ q ∈ l, ∀ w', Keeps [] w w' → Calls Try.prog g (.agg #[.int .i64 (q).1, .int .i64 (q).2.1, .int .i64 (q).2.2] :: cap).toArray w' (RetP (Val (.bool (@decide (φ q) (Classical.propDecidable _))) w'))) : Calls Try.prog 76 #[.slice A l.length c, .func (.func g) #[] cap.toArray] w (RetP (Val (.int .i64 (idxG φ l 0)) w)) := by
  refine calls_of_cw (args := [.slice A l.length c, .func (.func g) #[] cap.toArray]) Try.func76 rfl rfl ?_
  have S := Sat.start [] w
  have O := (R).old
  (repeat' (first | apply cw_seq | apply cw_region | apply wl_nil | apply cw_block | apply cw_skip | apply cw_exit | apply cw_ret | (apply x_move; exact rfl; exact rfl; (exact (by repeat' constructor))) | (apply x_assign; exact rfl; exact rfl; (exact (by repeat' constructor))) | (apply x_load; assumption; exact rfl; exact rfl; exact rfl; (exact (by repeat' constructor)); exact rfl; exact rfl; (exact (by repeat' constructor))) | (apply x_bin; exact rfl; exact rfl; exact rfl; (first | exact .z (.wrap (by omega)) | exact (by repeat' constructor))) | (apply x_builtin; exact rfl; exact rfl; exact (fun _ => rfl); (exact (by repeat' constructor))) | (apply x_loadB; assumption; exact rfl; exact rfl; exact rfl; assumption; exact rfl; exact rfl; (exact (by repeat' constructor))) | (apply x_index; exact rfl; exact rfl; exact rfl; exact rfl; exact rfl; (constructor); (first | omega | exact size_pos (by assumption) | assumption); (first | exact rfl | assumption | exact Rd.some_ (by assumption) (by omega) | exact Rd.some_ (Old.rd (by assumption)) (by omega) | exact (Sat.rd (by assumption) (by exact (by repeat' constructor))).some_ (by omega))) | (apply x_indexArrB; exact rfl; exact rfl; exact rfl; exact rfl; exact rfl; decide; decide; (constructor)) | (apply x_loadR; exact rfl; exact rfl; exact rfl; (first | exact Old.now (by assumption) (by assumption) | exact Sat.rdpr (by assumption) (by exact (by repeat' constructor)) | exact Sat.rd (by assumption) (by exact (by repeat' constructor))); (first | omega | exact size_pos (by assumption) | assumption); exact rfl; exact rfl; (exact (by repeat' constructor))) | (apply cw_true; exact rfl) | (apply cw_false; exact rfl) | (apply x_ndec; exact rfl; with_reducible exact rfl; all_goals (intro _; try omega)) | (apply x_dec; exact rfl; all_goals (intro _; try omega)) | (apply cw_ne; exact rfl; all_goals (intro _; try omega)) | (apply cw_eq; exact rfl; all_goals (intro _; try omega)) | (apply cw_not; exact rfl; all_goals (intro _; try omega)) | (apply cw_cond; exact rfl; all_goals (intro _; try omega))))
  refine cw_loop [4, 5, 8, 9, 10, 11, 12, 13, 14, 15, 16, 17, 18] [8] (fun us wr => ∃ k : Nat, k ≤ l.length ∧ us = [.int .i64 k] ∧ Sat w [] [] wr ∧ idxG φ l 0 = idxG φ (l.drop k) k) (fun us _ => l.length - (intOf (us.getD 0 undef)).toNat) ?_ ?_
  · exact ⟨0, by omega, rfl, S, rfl⟩
  clear S
  rintro g' us wr ⟨k, hk, rfl, Sr, hfe⟩
  by_cases hlt : k < l.length
  · rw [drop_getD hlt sp0] at hfe
    (repeat' (first | apply cw_seq | apply cw_region | apply wl_nil | apply cw_block | apply cw_skip | apply cw_exit | apply cw_ret | (apply x_callv; assumption; exact rfl; exact rfl; exact rfl; exact hE; (exact NA.cons (by exact (by repeat' constructor)) (NA.rfl_ _)); exact hF _ (by rw [getD_lt hlt]; exact List.getElem_mem hlt) _ (Sat.keeps (by assumption)); intro _ _ _) | (apply x_move; exact rfl; exact rfl; (exact (by repeat' constructor))) | (apply x_assign; exact rfl; exact rfl; (exact (by repeat' constructor))) | (apply x_load; assumption; exact rfl; exact rfl; exact rfl; (exact (by repeat' constructor)); exact rfl; exact rfl; (exact (by repeat' constructor))) | (apply x_bin; exact rfl; exact rfl; exact rfl; (first | exact .z (.wrap (by omega)) | exact (by repeat' constructor))) | (apply x_builtin; exact rfl; exact rfl; exact (fun _ => rfl); (exact (by repeat' constructor))) | (apply x_loadB; assumption; exact rfl; exact rfl; exact rfl; assumption; exact rfl; exact rfl; (exact (by repeat' constructor))) | (apply x_index; exact rfl; exact rfl; exact rfl; exact rfl; exact rfl; (constructor); (first | omega | exact size_pos (by assumption) | assumption); (first | exact rfl | assumption | exact Rd.some_ (by assumption) (by omega) | exact Rd.some_ (Old.rd (by assumption)) (by omega) | exact (Sat.rd (by assumption) (by exact (by repeat' constructor))).some_ (by omega))) | (apply x_indexArrB; exact rfl; exact rfl; exact rfl; exact rfl; exact rfl; decide; decide; (constructor)) | (apply x_loadR; exact rfl; exact rfl; exact rfl; (first | exact Old.now (by assumption) (by assumption) | exact Sat.rdpr (by assumption) (by exact (by repeat' constructor)) | exact Sat.rd (by assumption) (by exact (by repeat' constructor))); (first | omega | exact size_pos (by assumption) | assumption); exact rfl; exact rfl; (exact (by repeat' constructor))) | (apply cw_true; exact rfl) | (apply cw_false; exact rfl) | (apply x_ndec; exact rfl; with_reducible exact rfl; all_goals (intro _; try omega)) | (apply x_dec; exact rfl; all_goals (intro _; try omega)) | (apply cw_ne; exact rfl; all_goals (intro _; try omega)) | (apply cw_eq; exact rfl; all_goals (intro _; try omega)) | (apply cw_not; exact rfl; all_goals (intro _; try omega)) | (apply cw_cond; exact rfl; all_goals (intro _; try omega))))
    · refine q_retS (by assumption) rfl (by repeat (first | exact .nil | (apply RV.tmp; exact (by repeat' constructor)) | (apply RV.cell; exact rfl; exact (by repeat' constructor); exact rfl; exact rfl; exact (by repeat' constructor)))) ?_
      refine ⟨?_, Sat.keeps (by assumption)⟩
      rw [hfe, idxG_yes (by assumption)]
      rfl
    · refine ⟨rfl, (by repeat (first | exact Agree.updl rfl (Agree.mask _ _ _) | refine Agree.upd rfl ?_)), ⟨k + 1, hlt, rfl, by assumption, ?_⟩, ?_⟩
      · rw [hfe, idxG_no (by assumption)]
      · show l.length - (k + 1 : Int).toNat < l.length - (k : Int).toNat
        omega
  · (repeat' (first | apply cw_seq | apply cw_region | apply wl_nil | apply cw_block | apply cw_skip | apply cw_exit | apply cw_ret | (apply x_move; exact rfl; exact rfl; (exact (by repeat' constructor))) | (apply x_assign; exact rfl; exact rfl; (exact (by repeat' constructor))) | (apply x_load; assumption; exact rfl; exact rfl; exact rfl; (exact (by repeat' constructor)); exact rfl; exact rfl; (exact (by repeat' constructor))) | (apply x_bin; exact rfl; exact rfl; exact rfl; (first | exact .z (.wrap (by omega)) | exact (by repeat' constructor))) | (apply x_builtin; exact rfl; exact rfl; exact (fun _ => rfl); (exact (by repeat' constructor))) | (apply x_loadB; assumption; exact rfl; exact rfl; exact rfl; assumption; exact rfl; exact rfl; (exact (by repeat' constructor))) | (apply x_index; exact rfl; exact rfl; exact rfl; exact rfl; exact rfl; (constructor); (first | omega | exact size_pos (by assumption) | assumption); (first | exact rfl | assumption | exact Rd.some_ (by assumption) (by omega) | exact Rd.some_ (Old.rd (by assumption)) (by omega) | exact (Sat.rd (by assumption) (by exact (by repeat' constructor))).some_ (by omega))) | (apply x_indexArrB; exact rfl; exact rfl; exact rfl; exact rfl; exact rfl; decide; decide; (constructor)) | (apply x_loadR; exact rfl; exact rfl; exact rfl; (first | exact Old.now (by assumption) (by assumption) | exact Sat.rdpr (by assumption) (by exact (by repeat' constructor)) | exact Sat.rd (by assumption) (by exact (by repeat' constructor))); (first | omega | exact size_pos (by assumption) | assumption); exact rfl; exact rfl; (exact (by repeat' constructor))) | (apply cw_true; exact rfl) | (apply cw_false; exact rfl) | (apply x_ndec; exact rfl; with_reducible exact rfl; all_goals (intro _; try omega)) | (apply x_dec; exact rfl; all_goals (intro _; try omega)) | (apply cw_ne; exact rfl; all_goals (intro _; try omega)) | (apply cw_eq; exact rfl; all_goals (intro _; try omega)) | (apply cw_not; exact rfl; all_goals (intro _; try omega)) | (apply cw_cond; exact rfl; all_goals (intro _; try omega))))
    refine q_retS (by assumption) rfl (by repeat (first | exact .nil | (apply RV.tmp; exact (by repeat' constructor)) | (apply RV.cell; exact rfl; exact (by repeat' constructor); exact rfl; exact rfl; exact (by repeat' constructor)))) ?_
    refine ⟨?_, Sat.keeps (by assumption)⟩
    rw [hfe, List.drop_eq_nil_of_le (by omega)]
    rfl
set_option maxRecDepth 100000 in
theorem e_containsF : Ent Try.prog 41 := fun _ _ => rfl
set_option maxRecDepth 4000 in
set_option maxHeartbeats 2000000 in
theorem containsF_c (A : Option Addr) (c : Nat) (l : List Sp) (hl : l.length ≤ 9223372036854775807) (φ : Sp → Prop) (g : FuncId) (cap : List Value) (hE : Ent Try.prog g) (w : World) (R : Rd w A 3 l.length (fun i => spC (l.getD i sp0))) (hF : ∀ q ∈ l, ∀ w', Keeps [] w w' → Calls Try.prog g (.agg #[.int .i64 (q).1, .int .i64 (q).2.1, .int .i64 (q).2.2] :: cap).toArray w' (RetP (Val (.bool (@decide (φ q) (Classical.propDecidable _))) w'))) : Calls Try.prog 41 #[.slice A l.length c, .func (.func g) #[] cap.toArray] w (RetP (Val (.bool (@decide (∃ p ∈ l, φ p) (Classical.propDecidable _))) w)) := by
  refine calls_of_cw (args := [.slice A l.length c, .func (.func g) #[] cap.toArray]) Try.func41 rfl rfl ?_
  have S := Sat.start [] w
  have O := (R).old
  (repeat' (first | apply cw_seq | apply cw_region | apply wl_nil | apply cw_block | apply cw_skip | apply cw_exit | apply cw_ret | (apply x_callv; assumption; exact rfl; exact rfl; exact rfl; exact e_indexF; (exact (by repeat' constructor)); exact (indexF_c _ _ l hl φ g cap hE _ (Old.now O (by assumption)) (fun q hq w' hk => hF q hq w' ((Sat.keeps (by assumption)).trans hk))); intro _ _ _) | (apply z1_callv; exact rfl; exact rfl; exact e_indexF; (exact (by repeat' constructor)); exact (fun _ _ => indexF_c _ _ l hl φ g cap hE _ (Old.now O (by assumption)) (fun q hq w' hk => hF q hq w' ((Sat.keeps (by assumption)).trans hk)))) | (apply z2_callv; exact rfl; exact rfl; exact e_indexF; (exact (by repeat' constructor)); exact (fun _ _ => indexF_c _ _ l hl φ g cap hE _ (Old.now O (by assumption)) (fun q hq w' hk => hF q hq w' ((Sat.keeps (by assumption)).trans hk)))) | (apply x_move; exact rfl; exact rfl; (exact (by repeat' constructor))) | (apply x_assign; exact rfl; exact rfl; (exact (by repeat' constructor))) | (apply x_bin; exact rfl; exact rfl; exact rfl; (first | exact .z (.wrap (by omega)) | exact (by repeat' constructor)))))
  all_goals refine q_retS (by assumption) rfl (by repeat (first | exact .nil | (apply RV.tmp; exact (by repeat' constructor)) | (apply RV.cell; exact rfl; exact (by repeat' constructor); exact rfl; exact rfl; exact (by repeat' constructor)))) ?_
  all_goals refine ⟨?_, Sat.keeps (by assumption)⟩
  all_goals
    show Value.bool _ = Value.bool _
    refine congrArg Value.bool ?_
    rw [Bool.eq_iff_iff]
    simp [idxG_iff, pack]
theorem sp_ext {p q : Sp} : p = q ↔ p.1 = q.1 ∧ p.2.1 = q.2.1 ∧ p.2.2 = q.2.2 := by
  obtain ⟨a, b, c⟩ := p
  obtain ⟨d, e, f⟩ := q
  simp
set_option maxRecDepth 100000 in
theorem e_indexS : Ent Try.prog 96 := fun _ _ => rfl
set_option maxRecDepth 4000 in
set_option maxHeartbeats 2000000 in
theorem indexS_c (A : Option Addr) (c : Nat) (l : List Sp) (hl : l.length ≤ 9223372036854775807) (v : Sp) (w : World) (R : Rd w A 3 l.length (fun i => spC (l.getD i sp0))) : Calls Try.prog 96 #[.slice A l.length c, .agg #[.int .i64 (v).1, .int .i64 (v).2.1, .int .i64 (v).2.2]] w (RetP (Val (.int .i64 (idxG (fun p => v = p) l 0)) w)) := by
  refine calls_of_cw (args := [.slice A l.length c, .agg #[.int .i64 (v).1, .int .i64 (v).2.1, .int .i64 (v).2.2]]) Try.func96 rfl rfl ?_
  have S := Sat.start [] w
  have O := (R).old
  (repeat' (first | apply cw_seq | apply cw_region | apply wl_nil | apply cw_block | apply cw_skip | apply cw_exit | apply cw_ret | (apply cw_draw (id := 4) [(0, 0), (1, 0), (2, 0), (3, 0), (4, 0), (5, 0)]; assumption; exact mixed; kernel_rfl) | (apply x_move; exact rfl; exact rfl; (exact (by repeat' constructor))) | (apply x_assign; exact rfl; exact rfl; (exact (by repeat' constructor))) | (apply x_bin; exact rfl; exact rfl; exact rfl; (first | exact .z (.wrap (by omega)) | exact (by repeat' constructor))) | (apply x_box; assumption; exact rfl; exact rfl; (exact (by repeat' constructor)); (exact (by repeat' constructor)); intro _ _ _) | (apply x_builtin; exact rfl; exact rfl; exact (fun _ => rfl); (exact (by repeat' constructor))) | (apply y_loadRow; exact rfl; exact rfl; (exact (by repeat' constructor)); (first | omega | exact size_pos (by assumption) | assumption); exact rfl; exact rfl; (exact (by repeat' constructor))) | (apply y_eqStr; exact rfl; exact rfl; exact rfl) | (apply y_eqAgg; exact rfl; exact rfl; exact rfl; (first | with_reducible exact flat_Limits | with_reducible exact flat_Dimension | with_reducible exact flat_Limits | with_reducible exact flat_at | with_reducible exact flat_set | with_reducible exact flat_get | with_reducible exact flat_single | with_reducible exact flat_Spot | with_reducible exact flat_Datum | with_reducible exact flat_Spot | with_reducible exact flat_step | with_reducible exact flat_Point); exact rfl; kernel_rfl; exact rfl) | (apply y_move; exact rfl; (exact (by repeat' constructor))) | (apply y_load; exact rfl; exact rfl; (exact (by repeat' constructor)); exact rfl; exact rfl; (exact (by repeat' constructor))) | (apply y_bin; exact rfl; exact (fun _ => rfl); (first | exact .z (.wrap (by omega)) | exact (by repeat' constructor))) | (apply y_loadB; exact rfl; exact rfl; assumption; exact rfl; exact rfl; (exact (by repeat' constructor))) | (apply y_index; exact rfl; exact rfl; exact rfl; exact rfl; (constructor); (first | omega | exact size_pos (by assumption) | assumption); (first | exact rfl | assumption | exact Rd.some_ (by assumption) (by omega) | exact Rd.some_ (Old.rd (by assumption)) (by omega) | exact (Sat.rd (by assumption) (by exact (by repeat' constructor))).some_ (by omega))) | (apply y_indexArrB; exact rfl; exact rfl; exact rfl; exact rfl; decide; decide; (constructor)) | (apply y_loadR; exact rfl; exact rfl; assumption; (first | omega | exact size_pos (by assumption) | assumption); exact rfl; exact rfl; (exact (by repeat' constructor))) | (apply PV.up3) | (apply y_nil; intro _ _) | (apply cw_true; exact rfl) | (apply cw_false; exact rfl) | (apply x_ndec; exact rfl; with_reducible exact rfl; all_goals (intro _; try omega)) | (apply x_dec; exact rfl; all_goals (intro _; try omega)) | (apply cw_ne; exact rfl; all_goals (intro _; try omega)) | (apply cw_eq; exact rfl; all_goals (intro _; try omega)) | (apply cw_not; exact rfl; all_goals (intro _; try omega)) | (apply cw_cond; exact rfl; all_goals (intro _; try omega))))
  rename_i b3 w1 S1
  refine cw_loop [4, 5, 8, 9, 10, 11, 12, 13, 14, 15, 16, 17, 18] [8] (fun us wr => ∃ k : Nat, k ≤ l.length ∧ us = [.int .i64 k] ∧ Sat w [] [.cl b3 30 (spC v)] wr ∧ idxG (fun p => v = p) l 0 = idxG (fun p => v = p) (l.drop k) k) (fun us _ => l.length - (intOf (us.getD 0 undef)).toNat) ?_ ?_
  · exact ⟨0, by omega, rfl, S1, rfl⟩
  clear S1 S
  rintro g' us wr ⟨k, hk, rfl, Sr, hfe⟩
  by_cases hlt : k < l.length
  · rw [drop_getD hlt sp0] at hfe
    (repeat' (first | apply cw_seq | apply cw_region | apply wl_nil | apply cw_block | apply cw_skip | apply cw_exit | apply cw_ret | (apply cw_draw (id := 4) [(0, 0), (1, 0), (2, 0), (3, 0), (4, 0), (5, 0)]; assumption; exact mixed; kernel_rfl) | (apply x_move; exact rfl; exact rfl; (exact (by repeat' constructor))) | (apply x_assign; exact rfl; exact rfl; (exact (by repeat' constructor))) | (apply x_bin; exact rfl; exact rfl; exact rfl; (first | exact .z (.wrap (by omega)) | exact (by repeat' constructor))) | (apply x_box; assumption; exact rfl; exact rfl; (exact (by repeat' constructor)); (exact (by repeat' constructor)); intro _ _ _) | (apply x_builtin; exact rfl; exact rfl; exact (fun _ => rfl); (exact (by repeat' constructor))) | (apply y_loadRow; exact rfl; exact rfl; (exact (by repeat' constructor)); (first | omega | exact size_pos (by assumption) | assumption); exact rfl; exact rfl; (exact (by repeat' constructor))) | (apply y_eqStr; exact rfl; exact rfl; exact rfl) | (apply y_eqAgg; exact rfl; exact rfl; exact rfl; (first | with_reducible exact flat_Limits | with_reducible exact flat_Dimension | with_reducible exact flat_Limits | with_reducible exact flat_at | with_reducible exact flat_set | with_reducible exact flat_get | with_reducible exact flat_single | with_reducible exact flat_Spot | with_reducible exact flat_Datum | with_reducible exact flat_Spot | with_reducible exact flat_step | with_reducible exact flat_Point); exact rfl; kernel_rfl; exact rfl) | (apply y_move; exact rfl; (exact (by repeat' constructor))) | (apply y_load; exact rfl; exact rfl; (exact (by repeat' constructor)); exact rfl; exact rfl; (exact (by repeat' constructor))) | (apply y_bin; exact rfl; exact (fun _ => rfl); (first | exact .z (.wrap (by omega)) | exact (by repeat' constructor))) | (apply y_loadB; exact rfl; exact rfl; assumption; exact rfl; exact rfl; (exact (by repeat' constructor))) | (apply y_index; exact rfl; exact rfl; exact rfl; exact rfl; (constructor); (first | omega | exact size_pos (by assumption) | assumption); (first | exact rfl | assumption | exact Rd.some_ (by assumption) (by omega) | exact Rd.some_ (Old.rd (by assumption)) (by omega) | exact (Sat.rd (by assumption) (by exact (by repeat' constructor))).some_ (by omega))) | (apply y_indexArrB; exact rfl; exact rfl; exact rfl; exact rfl; decide; decide; (constructor)) | (apply y_loadR; exact rfl; exact rfl; assumption; (first | omega | exact size_pos (by assumption) | assumption); exact rfl; exact rfl; (exact (by repeat' constructor))) | (apply PV.up3) | (apply y_nil; intro _ _) | (apply cw_true; exact rfl) | (apply cw_false; exact rfl) | (apply x_ndec; exact rfl; with_reducible exact rfl; all_goals (intro _; try omega)) | (apply x_dec; exact rfl; all_goals (intro _; try omega)) | (apply cw_ne; exact rfl; all_goals (intro _; try omega)) | (apply cw_eq; exact rfl; all_goals (intro _; try omega)) | (apply cw_not; exact rfl; all_goals (intro _; try omega)) | (apply cw_cond; exact rfl; all_goals (intro _; try omega))))
    · refine q_retS (by assumption) rfl (by repeat (first | exact .nil | (apply RV.tmp; exact (by repeat' constructor)) | (apply RV.cell; exact rfl; exact (by repeat' constructor); exact rfl; exact rfl; exact (by repeat' constructor)))) ?_
      refine ⟨?_, Sat.keeps (by assumption)⟩
      rw [hfe, idxG_yes (by rw [sp_ext]; simp_all)]
      rfl
    · refine ⟨rfl, (by repeat (first | exact Agree.updl rfl (Agree.mask _ _ _) | refine Agree.upd rfl ?_)), ⟨k + 1, hlt, rfl, by assumption, ?_⟩, ?_⟩
      · rw [hfe, idxG_no (by rw [sp_ext]; simp_all)]
      · show l.length - (k + 1 : Int).toNat < l.length - (k : Int).toNat
        omega
  · (repeat' (first | apply cw_seq | apply cw_region | apply wl_nil | apply cw_block | apply cw_skip | apply cw_exit | apply cw_ret | (apply cw_draw (id := 4) [(0, 0), (1, 0), (2, 0), (3, 0), (4, 0), (5, 0)]; assumption; exact mixed; kernel_rfl) | (apply x_move; exact rfl; exact rfl; (exact (by repeat' constructor))) | (apply x_assign; exact rfl; exact rfl; (exact (by repeat' constructor))) | (apply x_bin; exact rfl; exact rfl; exact rfl; (first | exact .z (.wrap (by omega)) | exact (by repeat' constructor))) | (apply x_box; assumption; exact rfl; exact rfl; (exact (by repeat' constructor)); (exact (by repeat' constructor)); intro _ _ _) | (apply x_builtin; exact rfl; exact rfl; exact (fun _ => rfl); (exact (by repeat' constructor))) | (apply y_loadRow; exact rfl; exact rfl; (exact (by repeat' constructor)); (first | omega | exact size_pos (by assumption) | assumption); exact rfl; exact rfl; (exact (by repeat' constructor))) | (apply y_eqStr; exact rfl; exact rfl; exact rfl) | (apply y_eqAgg; exact rfl; exact rfl; exact rfl; (first | with_reducible exact flat_Limits | with_reducible exact flat_Dimension | with_reducible exact flat_Limits | with_reducible exact flat_at | with_reducible exact flat_set | with_reducible exact flat_get | with_reducible exact flat_single | with_reducible exact flat_Spot | with_reducible exact flat_Datum | with_reducible exact flat_Spot | with_reducible exact flat_step | with_reducible exact flat_Point); exact rfl; kernel_rfl; exact rfl) | (apply y_move; exact rfl; (exact (by repeat' constructor))) | (apply y_load; exact rfl; exact rfl; (exact (by repeat' constructor)); exact rfl; exact rfl; (exact (by repeat' constructor))) | (apply y_bin; exact rfl; exact (fun _ => rfl); (first | exact .z (.wrap (by omega)) | exact (by repeat' constructor))) | (apply y_loadB; exact rfl; exact rfl; assumption; exact rfl; exact rfl; (exact (by repeat' constructor))) | (apply y_index; exact rfl; exact rfl; exact rfl; exact rfl; (constructor); (first | omega | exact size_pos (by assumption) | assumption); (first | exact rfl | assumption | exact Rd.some_ (by assumption) (by omega) | exact Rd.some_ (Old.rd (by assumption)) (by omega) | exact (Sat.rd (by assumption) (by exact (by repeat' constructor))).some_ (by omega))) | (apply y_indexArrB; exact rfl; exact rfl; exact rfl; exact rfl; decide; decide; (constructor)) | (apply y_loadR; exact rfl; exact rfl; assumption; (first | omega | exact size_pos (by assumption) | assumption); exact rfl; exact rfl; (exact (by repeat' constructor))) | (apply PV.up3) | (apply y_nil; intro _ _) | (apply cw_true; exact rfl) | (apply cw_false; exact rfl) | (apply x_ndec; exact rfl; with_reducible exact rfl; all_goals (intro _; try omega)) | (apply x_dec; exact rfl; all_goals (intro _; try omega)) | (apply cw_ne; exact rfl; all_goals (intro _; try omega)) | (apply cw_eq; exact rfl; all_goals (intro _; try omega)) | (apply cw_not; exact rfl; all_goals (intro _; try omega)) | (apply cw_cond; exact rfl; all_goals (intro _; try omega))))
    refine q_retS (by assumption) rfl (by repeat (first | exact .nil | (apply RV.tmp; exact (by repeat' constructor)) | (apply RV.cell; exact rfl; exact (by repeat' constructor); exact rfl; exact rfl; exact (by repeat' constructor)))) ?_
    refine ⟨?_, Sat.keeps (by assumption)⟩
    rw [hfe, List.drop_eq_nil_of_le (by omega)]
    rfl
set_option maxRecDepth 100000 in
theorem e_contains : Ent Try.prog 86 := fun _ _ => rfl
set_option maxRecDepth 4000 in
set_option maxHeartbeats 2000000 in
theorem contains_c (A : Option Addr) (c : Nat) (l : List Sp) (hl : l.length ≤ 9223372036854775807) (v : Sp) (w : World) (R : Rd w A 3 l.length (fun i => spC (l.getD i sp0))) : Calls Try.prog 86 #[.slice A l.length c, .agg #[.int .i64 (v).1, .int .i64 (v).2.1, .int .i64 (v).2.2]] w (RetP (Val (.bool (@decide (v ∈ l) (Classical.propDecidable _))) w)) := by
  refine calls_of_cw (args := [.slice A l.length c, .agg #[.int .i64 (v).1, .int .i64 (v).2.1, .int .i64 (v).2.2]]) Try.func86 rfl rfl ?_
  have S := Sat.start [] w
  have O := (R).old
  (repeat' (first | apply cw_seq | apply cw_region | apply wl_nil | apply cw_block | apply cw_skip | apply cw_exit | apply cw_ret | (apply x_callv; assumption; exact rfl; exact rfl; exact rfl; exact e_indexS; (exact (by repeat' constructor)); exact (indexS_c _ _ l hl v _ (Old.now O (by assumption))); intro _ _ _) | (apply z1_callv; exact rfl; exact rfl; exact e_indexS; (exact (by repeat' constructor)); exact (fun _ _ => indexS_c _ _ l hl v _ (Old.now O (by assumption)))) | (apply z2_callv; exact rfl; exact rfl; exact e_indexS; (exact (by repeat' constructor)); exact (fun _ _ => indexS_c _ _ l hl v _ (Old.now O (by assumption)))) | (apply x_move; exact rfl; exact rfl; (exact (by repeat' constructor))) | (apply x_assign; exact rfl; exact rfl; (exact (by repeat' constructor))) | (apply x_load; assumption; exact rfl; exact rfl; exact rfl; (exact (by repeat' constructor)); exact rfl; exact rfl; (exact (by repeat' constructor))) | (apply x_bin; exact rfl; exact rfl; exact rfl; (first | exact .z (.wrap (by omega)) | exact (by repeat' constructor))) | (apply x_box; assumption; exact rfl; exact rfl; (exact (by repeat' constructor)); (exact (by repeat' constructor)); intro _ _ _) | (apply x_loadB; assumption; exact rfl; exact rfl; exact rfl; assumption; exact rfl; exact rfl; (exact (by repeat' constructor))) | (apply x_loadR; exact rfl; exact rfl; exact rfl; (first | exact Old.now (by assumption) (by assumption) | exact Sat.rdpr (by assumption) (by exact (by repeat' constructor)) | exact Sat.rd (by assumption) (by exact (by repeat' constructor))); (first | omega | exact size_pos (by assumption) | assumption); exact rfl; exact rfl; (exact (by repeat' constructor)))))
  all_goals refine q_retS (by assumption) rfl (by repeat (first | exact .nil | (apply RV.tmp; exact (by repeat' constructor)) | (apply RV.cell; exact rfl; exact (by repeat' constructor); exact rfl; exact rfl; exact (by repeat' constructor)))) ?_
  all_goals refine ⟨?_, Sat.keeps (by assumption)⟩
  all_goals
    show Value.bool _ = Value.bool _
    refine congrArg Value.bool ?_
    rw [Bool.eq_iff_iff]
    simp [idxG_iff, pack]
/-! ### what is kept -/
noncomputable def keepG (bad : List Sp → Sp → Prop) : List Sp → List Sp → List Sp
  | out, [] => out
  | out, p :: r => keepG bad (@ite _ (bad out p) (Classical.propDecidable _) out (out ++ [p])) r
theorem keepG_yes {bad : List Sp → Sp → Prop} {out r : List Sp} {p : Sp} (h : bad out p) : keepG bad out (p :: r) = keepG bad out r := by rw [keepG, if_pos h]
theorem keepG_no {bad : List Sp → Sp → Prop} {out r : List Sp} {p : Sp} (h : ¬ bad out p) : keepG bad out (p :: r) = keepG bad (out ++ [p]) r := by rw [keepG, if_neg h]
theorem keepG_len {bad : List Sp → Sp → Prop} : ∀ (r out : List Sp), (keepG bad out r).length ≤ out.length + r.length
  | [], out => by simp [keepG]
  | p :: r, out => by
    by_cases h : bad out p
    · rw [keepG_yes h]; have := keepG_len (bad := bad) r out; simp; omega
    · rw [keepG_no h]; have := keepG_len (bad := bad) r (out ++ [p]); simp at this ⊢; omega
theorem keepG_mem {bad : List Sp → Sp → Prop} : ∀ (r out : List Sp) (p : Sp), p ∈ keepG bad out r → p ∈ out ∨ p ∈ r
  | [], out, p, h => .inl h
  | q :: r, out, p, h => by
    by_cases hb : bad out q
    · rw [keepG_yes hb] at h
      rcases keepG_mem r out p h with h | h
      · exact .inl h
      · exact .inr (by simp [h])
    · rw [keepG_no hb] at h
      rcases keepG_mem r (out ++ [q]) p h with h | h
      · simp at h; rcases h with h | h
        · exact .inl h
        · exact .inr (by simp [h])
      · exact .inr (by simp [h])
/-- what a loop that keeps knows -/
def KeepI (bad : List Sp → Sp → Prop) (l : List Sp) (fr : List HO) (k : Nat) (v : Value) (w wr : World) : Prop :=
  ∃ (A : Option Addr) (c : Nat) (out : List Sp), v = .slice A out.length c ∧ Sat w [] (.rw 0 (.slice A out.length c) 30 3 (out.map spC) :: fr) wr ∧ keepG bad [] l = keepG bad out (l.drop k) ∧ out.length ≤ k ∧ ∀ p ∈ out, p ∈ l
theorem KeepI.start {bad : List Sp → Sp → Prop} {l : List Sp} {fr : List HO} {w wr : World} (S : Sat w [] fr wr) : KeepI bad l fr 0 (.slice none 0 0) w wr :=
  ⟨none, 0, [], rfl, S.addNil _ _, rfl, by simp, by simp⟩
theorem KeepI.skip {bad : List Sp → Sp → Prop} {l : List Sp} {fr : List HO} {k : Nat} {A : Option Addr} {c : Nat} {out : List Sp} {w wr : World} (hlt : k < l.length) (S : Sat w [] (.rw 0 (.slice A out.length c) 30 3 (out.map spC) :: fr) wr)
    (h : keepG bad [] l = keepG bad out (l.drop k)) (hk : out.length ≤ k) (hm : ∀ p ∈ out, p ∈ l) (hb : bad out (l.getD k sp0)) : KeepI bad l fr (k + 1) (.slice A out.length c) w wr :=
  ⟨A, c, out, rfl, S, by rw [h, drop_getD hlt sp0, keepG_yes hb], by omega, hm⟩
theorem KeepI.more {bad : List Sp → Sp → Prop} {l : List Sp} {fr : List HO} {k : Nat} {A : Option Addr} {c n : Nat} {out : List Sp} {w wr : World} (hlt : k < l.length) (hn : n = out.length + 1) (S : Sat w [] (.rw 0 (.slice A n c) 30 3 (out.map spC ++ [spC (l.getD k sp0)]) :: fr) wr)
    (h : keepG bad [] l = keepG bad out (l.drop k)) (hk : out.length ≤ k) (hm : ∀ p ∈ out, p ∈ l) (hb : ¬ bad out (l.getD k sp0)) : KeepI bad l fr (k + 1) (.slice A n c) w wr := by
  subst hn
  have hp : l.getD k sp0 ∈ l := by rw [getD_lt hlt]; exact List.getElem_mem hlt
  refine ⟨A, c, out ++ [l.getD k sp0], by simp, by simpa using S, by rw [h, drop_getD hlt sp0, keepG_no hb], by simp; omega, fun p h => ?_⟩
  simp at h
  rcases h with h | h
  · exact hm p h
  · rw [h]; rw [List.getD_eq_getElem?_getD] at hp; exact hp
theorem KeepI.done {bad : List Sp → Sp → Prop} {l : List Sp} {fr : List HO} {k : Nat} {v : Value} {w wr : World} (h : KeepI bad l fr k v w wr) (hk : l.length ≤ k) : ∃ A c, v = .slice A (keepG bad [] l).length c ∧ Sat w [] (.rw 0 (.slice A (keepG bad [] l).length c) 30 3 ((keepG bad [] l).map spC) :: fr) wr := by
  obtain ⟨A, c, out, rfl, S, he, _, _⟩ := h
  rw [List.drop_eq_nil_of_le hk] at he
  rw [he]
  exact ⟨A, c, rfl, S⟩
end Go.Proofs.Ytnlddjbeekfjlaa
