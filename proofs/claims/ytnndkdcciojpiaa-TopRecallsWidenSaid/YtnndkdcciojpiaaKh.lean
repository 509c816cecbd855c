/- Records of calibrations: the chain, the error, the value, the verdict. No statement of the seat is proved here. -/
import Derived.Test.YtnndkdcciojpiaaKg
namespace Go.Proofs.Ytnndkdcciojpiaa
set_option linter.unusedVariables false
set_option linter.unusedSimpArgs false
open Go Go.RowKit
noncomputable def chL (l : List Rc) (name : ByteArray) (day : Int) : List Nat × Int := if ¬ (VaR l name day).2 = 0 then ([], (VaR l name day).2) else foll l name day
theorem chL_no {l : List Rc} {name : ByteArray} {day : Int} (h : ¬ (VaR l name day).2 = 0) : chL l name day = ([], (VaR l name day).2) := by rw [chL, if_pos h]
theorem chL_yes {l : List Rc} {name : ByteArray} {day : Int} (h : (VaR l name day).2 = 0) : chL l name day = foll l name day := by rw [chL, if_neg (fun e => e h)]
theorem VaR0 {l : List Rc} {name : ByteArray} {day : Int} (h : (VaR l name day).2 = 0) : ckE l = 0 ∧ dayE day = 0 ∧ place l name day = VaR l name day := by
  unfold VaR at *
  by_cases h1 : ckE l = 0
  · rw [if_neg (fun e => e h1)] at *
    by_cases h2 : dayE day = 0
    · rw [if_neg (fun e => e h2)] at *; exact ⟨h1, h2, rfl⟩
    · rw [if_pos h2] at h; exact absurd h h2
  · rw [if_pos h1] at h; exact absurd h h1
set_option maxRecDepth 100000 in
theorem e_Chain : Ent Try.prog 19 := fun _ _ => rfl
set_option maxRecDepth 4000 in
set_option maxHeartbeats 2000000 in
theorem Chain_c (A : Option Addr) (c : Nat) (l : List Rc) (hl : l.length ≤ 9223372036854775807) (ho : ∀ i, i < l.length → (rat l i).ok) (name : ByteArray) (day : Int) (w : World) (R : Rd w A 6 l.length (fun i => rcC (l.getD i rc0))) : Calls Try.prog 19 #[.slice A l.length c, .string name, .int .i64 day] w (RetP (RowR (fun v => .tuple #[v, .int .i64 (chL l name day).2]) 3 1 ((chL l name day).1.map natC) w)) := by
  refine calls_of_cw (args := [.slice A l.length c, .string name, .int .i64 day]) Try.func19 rfl rfl ?_
  have S := Sat.start [] w
  have O := (R).old
  (repeat' (first | apply cw_seq | apply cw_region | apply wl_nil | apply cw_skip | apply cw_ret | (apply x_callv; assumption; exact rfl; exact rfl; exact rfl; exact e_Valid; (exact (by repeat' constructor)); with_reducible exact (Valid_c A c l hl ho name day _ (Old.now O (by assumption))); intro _ _ _) | (apply x_callrow; assumption; exact rfl; exact rfl; exact rfl; exact e_collected; (exact (by repeat' constructor)); with_reducible exact (collected_c A c l hl ho (ckE0 (VaR0 (by assumption)).1) name day _ (Old.now O (by assumption))); intro _ _ _ _) | (apply x_move; exact rfl; exact rfl; (exact (by repeat' constructor))) | (apply x_assign; exact rfl; exact rfl; (exact (by repeat' constructor))) | (apply x_bin; exact rfl; exact rfl; exact rfl; (first | exact .z (.wrap (by omega)) | exact (by repeat' constructor))) | (apply x_extract; exact rfl; exact rfl; exact rfl; (exact (by repeat' constructor))) | (apply cw_ne; exact rfl; all_goals (intro _; try omega))))
  all_goals (first | refine q_retS (by assumption) rfl (by repeat (first | exact .nil | (apply RV.tmp; exact (by repeat' constructor)) | (apply RV.cell; exact rfl; exact (by repeat' constructor); exact rfl; exact rfl; exact (by repeat' constructor)))) ?_ | (simp only [thenQ, blockQ]; refine q_retS (by assumption) rfl (by repeat (first | exact .nil | (apply RV.tmp; exact (by repeat' constructor)) | (apply RV.cell; exact rfl; exact (by repeat' constructor); exact rfl; exact rfl; exact (by repeat' constructor)))) ?_))
  · rw [chL_no (by assumption)]
    exact rowR_nil (V := fun v => .tuple #[v, .int .i64 (VaR l name day).2]) rfl (Sat.keeps (by assumption))
  · rw [chL_yes (by assumption)]
    exact rowR_n (V := fun v => .tuple #[v, .int .i64 (foll l name day).2]) (by simp) (by assumption) (by exact (by repeat' constructor))
/-! ### sums along a chain -/
def sumF (g : Nat → Int) : List Nat → Int
  | [] => 0
  | i :: r => g i + sumF g r
theorem sumF_app (g : Nat → Int) : ∀ a b : List Nat, sumF g (a ++ b) = sumF g a + sumF g b
  | [], b => by simp [sumF]
  | i :: r, b => by simp only [List.cons_append, sumF, sumF_app g r b]; omega
theorem sumF_le {g : Nat → Int} {m : Int} : ∀ l : List Nat, (∀ i ∈ l, -m ≤ g i ∧ g i ≤ m) → -(m * l.length) ≤ sumF g l ∧ sumF g l ≤ m * l.length
  | [], _ => by simp [sumF]
  | i :: r, h => by
    have h1 := h i (by simp)
    have h2 := sumF_le r (fun j hj => h j (by simp [hj]))
    simp only [sumF, List.length_cons, Int.natCast_add, Int.mul_add]
    have : m * ((1 : Nat) : Int) = m := by simp
    omega
theorem sumF_add (g h : Nat → Int) : ∀ l : List Nat, sumF (fun i => g i + h i) l = sumF g l + sumF h l
  | [] => rfl
  | i :: r => by simp only [sumF, sumF_add g h r]; omega
theorem sumF_sub (g h : Nat → Int) : ∀ l : List Nat, sumF (fun i => g i - h i) l = sumF g l - sumF h l
  | [] => rfl
  | i :: r => by simp only [sumF, sumF_sub g h r]; omega
theorem sumF_take {g : Nat → Int} {l : List Nat} {k : Nat} (h : k < l.length) : sumF g (l.take (k + 1)) = sumF g (l.take k) + g (l.getD k 0) := by
  rw [List.take_add_one, sumF_app]
  simp [List.getD_eq_getElem?_getD, h, sumF]
theorem sumF_takeLe {g : Nat → Int} {m : Int} (hm : 0 ≤ m) {l : List Nat} {b : Nat} (h : ∀ i ∈ l, -m ≤ g i ∧ g i ≤ m) (hb : l.length ≤ b) (k : Nat) : -(m * b) ≤ sumF g (l.take k) ∧ sumF g (l.take k) ≤ m * b := by
  have h1 := sumF_le (l.take k) (fun i hi => h i (List.mem_of_mem_take hi))
  have h2 : m * ((l.take k).length : Int) ≤ m * b := Int.mul_le_mul_of_nonneg_left (by have : (l.take k).length ≤ b := by rw [List.length_take]; omega
                                                                                       omega) hm
  omega
abbrev loF (l : List Rc) (i : Nat) : Int := (rat l i).off - (rat l i).spr
abbrev hiF (l : List Rc) (i : Nat) : Int := (rat l i).off + (rat l i).spr
noncomputable def errL (l : List Rc) (name : ByteArray) (day : Int) : (Int × Int) × Int :=
  if ¬ (chL l name day).2 = 0 then ((0, 0), (chL l name day).2) else ((sumF (loF l) (chL l name day).1, sumF (hiF l) (chL l name day).1), 0)
theorem errL_no {l : List Rc} {name : ByteArray} {day : Int} (h : ¬ (chL l name day).2 = 0) : errL l name day = ((0, 0), (chL l name day).2) := by rw [errL, if_pos h]
theorem errL_yes {l : List Rc} {name : ByteArray} {day : Int} (h : (chL l name day).2 = 0) : errL l name day = ((sumF (loF l) (chL l name day).1, sumF (hiF l) (chL l name day).1), 0) := by rw [errL, if_neg (fun e => e h)]
theorem chL0 {l : List Rc} {name : ByteArray} {day : Int} (h : (chL l name day).2 = 0) : Right l ∧ dayE day = 0 ∧ chL l name day = foll l name day ∧ place l name day = VaR l name day ∧ (place l name day).2 = 0 := by
  by_cases h1 : (VaR l name day).2 = 0
  · have h2 := VaR0 h1
    exact ⟨ckE0 h2.1, h2.2.1, chL_yes h1, h2.2.2, by rw [h2.2.2]; exact h1⟩
  · rw [chL_no h1] at h; exact absurd h h1
theorem coll_fst : ∀ (xs : List (Nat × Int)) (out : List Nat), (coll out xs).2 = 0 → (coll out xs).1 = out ++ xs.map (·.1) ∧ ∀ p ∈ xs, p.2 = 0
  | [], out, _ => by simp [coll]
  | (i, e) :: r, out, h => by
    by_cases he : e = 0
    · subst he
      rw [coll, if_pos rfl] at *
      have := coll_fst r _ h
      refine ⟨by rw [this.1]; simp, fun p hp => ?_⟩
      rcases List.mem_cons.1 hp with rfl | hp
      · rfl
      · exact this.2 p hp
    · rw [coll, if_neg he] at h; exact absurd h he
theorem chy_lt {l : List Rc} : ∀ (m : Nat) (out : List Nat) (name : ByteArray) (day : Int), (∀ p ∈ chy l m out name day, p.2 = 0) → ∀ p ∈ chy l m out name day, p.1 < l.length
  | 0, _, _, _, _, p, hp => by simp [chy] at hp
  | m + 1, out, name, day, h0, p, hp => by
    by_cases h1 : (place l name day).2 = 0
    · have hat := (place_at h1).1
      by_cases h2 : (place l name day).1 ∈ out
      · rw [chy_met h1 h2] at hp; simp at hp; subst hp; exact hat
      · by_cases h3 : (rat l (place l name day).1).bn = nul
        · rw [chy_end h1 h2 h3] at hp; simp at hp; subst hp; exact hat
        · rw [chy_more h1 h2 h3] at hp h0
          rcases List.mem_cons.1 hp with rfl | hp
          · exact hat
          · exact chy_lt m _ _ _ (fun q hq => h0 q (List.mem_cons_of_mem _ hq)) p hp
    · rw [chy_err h1] at h0
      exact absurd (h0 (0, (place l name day).2) (by simp)) h1
theorem foll_at {l : List Rc} {name : ByteArray} {day : Int} (h : (foll l name day).2 = 0) : (foll l name day).1.length ≤ l.length + 1 ∧ ∀ i ∈ (foll l name day).1, i < l.length := by
  have h1 := coll_fst _ _ h
  have h2 := chy_len l (l.length + 1) [] name day
  have e : (foll l name day).1 = (chy l (l.length + 1) [] name day).map (·.1) := by rw [foll, h1.1]; simp
  rw [e]
  refine ⟨by simpa using h2, fun i hi => ?_⟩
  obtain ⟨p, hp, rfl⟩ := List.mem_map.1 hi
  exact chy_lt _ _ _ _ h1.2 p hp
theorem ch_bounds {l : List Rc} {name : ByteArray} {day : Int} (h : (chL l name day).2 = 0) : (chL l name day).1.length ≤ 257 ∧ (∀ i ∈ (chL l name day).1, i < l.length) ∧ (∀ i ∈ (chL l name day).1, (-100000 ≤ (rat l i).off ∧ (rat l i).off ≤ 100000) ∧ 0 ≤ (rat l i).spr ∧ (rat l i).spr ≤ 100000) := by
  obtain ⟨hr, _, e, _⟩ := chL0 h
  rw [e] at h ⊢
  have h1 := foll_at h
  have h2 := hr.1
  refine ⟨by omega, h1.2, fun i hi => ?_⟩
  have h3 := recE0 (hr.2 i (h1.2 i hi)).1
  exact ⟨h3.2.2.1, h3.2.2.2.1⟩
theorem ch_sums {l : List Rc} {name : ByteArray} {day : Int} (h : (chL l name day).2 = 0) (k : Nat) :
    (-(200000 * 257) ≤ sumF (loF l) ((chL l name day).1.take k) ∧ sumF (loF l) ((chL l name day).1.take k) ≤ 200000 * 257) ∧ -(200000 * 257) ≤ sumF (hiF l) ((chL l name day).1.take k) ∧ sumF (hiF l) ((chL l name day).1.take k) ≤ 200000 * 257 := by
  have hb := ch_bounds h
  exact ⟨sumF_takeLe (by omega) (fun i hi => by have := hb.2.2 i hi; simp only [loF]; omega) hb.1 k, sumF_takeLe (by omega) (fun i hi => by have := hb.2.2 i hi; simp only [hiF]; omega) hb.1 k⟩
theorem errL_b {l : List Rc} {name : ByteArray} {day : Int} : (-51400000 ≤ (errL l name day).1.1 ∧ (errL l name day).1.1 ≤ 51400000) ∧ -51400000 ≤ (errL l name day).1.2 ∧ (errL l name day).1.2 ≤ 51400000 := by
  by_cases h : (chL l name day).2 = 0
  · have := ch_sums h (chL l name day).1.length
    rw [List.take_length] at this
    rw [errL_yes h]
    exact this
  · rw [errL_no h]; simp
theorem is_nat {a b : Nat} (h : a = b) : Is (.int .i64 (a : Int)) (.int .i64 (b : Int)) := by rw [h]; exact .z .any
set_option maxRecDepth 100000 in
theorem e_kError : Ent Try.prog 38 := fun _ _ => rfl
set_option maxRecDepth 4000 in
set_option maxHeartbeats 2000000 in
theorem kError_c (A : Option Addr) (c : Nat) (l : List Rc) (hl : l.length ≤ 9223372036854775807) (ho : ∀ i, i < l.length → (rat l i).ok) (name : ByteArray) (day : Int) (w : World) (R : Rd w A 6 l.length (fun i => rcC (l.getD i rc0))) : Calls Try.prog 38 #[.slice A l.length c, .string name, .int .i64 day] w (RetP (Val (.tuple #[.agg #[.int .i64 (errL l name day).1.1, .int .i64 (errL l name day).1.2], .int .i64 (errL l name day).2]) w)) := by
  refine calls_of_cw (args := [.slice A l.length c, .string name, .int .i64 day]) Try.func38 rfl rfl ?_
  have S := Sat.start [] w
  have O := (R).old
  (repeat' (first | apply cw_seq | apply cw_region | apply wl_nil | apply cw_block | apply cw_skip | apply cw_ret | (apply x_callrow; assumption; exact rfl; exact rfl; exact rfl; exact e_Chain; (exact (by repeat' constructor)); with_reducible exact (Chain_c A c l hl ho name day _ (Old.now O (by assumption))); intro _ _ _ _) | (apply x_move; exact rfl; exact rfl; (exact (by repeat' constructor))) | (apply x_assign; exact rfl; exact rfl; (exact (by repeat' constructor))) | (apply x_bin; exact rfl; exact rfl; exact rfl; (first | exact .z (.wrap (by omega)) | exact (by repeat' constructor))) | (apply x_alloc; assumption; exact rfl; exact rfl; exact rfl; (exact (by repeat' constructor)); intro _ _ _) | (apply x_store; assumption; exact rfl; exact rfl; (exact (by repeat' constructor)); (exact (by repeat' constructor)); exact rfl; exact rfl; exact rfl; (exact (by repeat' constructor)); intro _ _) | (apply x_build; exact rfl; exact rfl; exact rfl; (exact (by repeat' constructor))) | (apply x_extract; exact rfl; exact rfl; exact rfl; (exact (by repeat' constructor))) | (apply x_builtin; exact rfl; exact rfl; exact (fun _ => rfl); (exact (by repeat' constructor))) | (apply cw_ne; exact rfl; all_goals (intro _; try omega))))
  all_goals first
    | ((first | refine q_retS (by assumption) rfl (by repeat (first | exact .nil | (apply RV.tmp; exact (by repeat' constructor)) | (apply RV.cell; exact rfl; exact (by repeat' constructor); exact rfl; exact rfl; exact (by repeat' constructor)))) ?_ | (simp only [thenQ, blockQ]; refine q_retS (by assumption) rfl (by repeat (first | exact .nil | (apply RV.tmp; exact (by repeat' constructor)) | (apply RV.cell; exact rfl; exact (by repeat' constructor); exact rfl; exact rfl; exact (by repeat' constructor)))) ?_))
       refine ⟨?_, Sat.keeps (by assumption)⟩
       rw [errL_no (by assumption)]
       rfl)
    | skip
  rename_i b6 _ _ A1 c1 _ _ _ b10 w1 S1
  have h0 : (chL l name day).2 = 0 := by omega
  have hsum := ch_sums h0
  have hch := ch_bounds h0
  have hfin := errL_yes h0
  rw [hfin]
  clear hfin
  revert S1 hsum hch
  generalize (chL l name day).1 = xs
  intro S1 hsum hch
  refine cw_loop [12, 26, 27, 28, 29, 30, 31, 32, 33, 34, 35, 36, 37, 38, 39, 40, 41, 42, 43, 44, 45, 46, 47, 48, 49, 50, 51, 52, 53, 54, 55, 56, 57, 58, 59, 60] [26] (fun us wr => ∃ k : Nat, k ≤ xs.length ∧ us = [.int .i64 k] ∧ Sat w [] (.cl b10 40 [.int .i64 (sumF (loF l) (xs.take k)), .int .i64 (sumF (hiF l) (xs.take k))] :: .rw 0 (.slice A1 (xs.map natC).length c1) 3 1 (xs.map natC) :: .cl b6 40 [.int .i64 0, .int .i64 0] :: []) wr) (fun us _ => xs.length - (intOf (us.getD 0 undef)).toNat) ?_ ?_
  · exact ⟨0, by omega, rfl, S1⟩
  clear S S1
  have hlm : (xs.map natC).length = xs.length := List.length_map _
  rintro g' us wr ⟨k, hk, rfl, Sr⟩
  have hs := hsum k
  by_cases hlt : k < xs.length
  · obtain ⟨i, hi⟩ : ∃ i, xs.getD k 0 = i := ⟨_, rfl⟩
    have him : i ∈ xs := by rw [← hi]; exact getD_mem 0 hlt
    have hil := hch.2.1 i him
    have hib : (-100000 ≤ (l.getD i rc0).off ∧ (l.getD i rc0).off ≤ 100000) ∧ 0 ≤ (l.getD i rc0).spr ∧ (l.getD i rc0).spr ≤ 100000 := hch.2.2 i him
    have e1 : sumF (loF l) (xs.take (k + 1)) = sumF (loF l) (xs.take k) + ((l.getD i rc0).off - (l.getD i rc0).spr) := by rw [sumF_take hlt, hi]
    have e2 : sumF (hiF l) (xs.take (k + 1)) = sumF (hiF l) (xs.take k) + ((l.getD i rc0).off + (l.getD i rc0).spr) := by rw [sumF_take hlt, hi]
    (repeat' (first | apply cw_seq | apply cw_region | apply wl_nil | apply cw_block | apply cw_skip | (apply x_loadR; exact rfl; exact rfl; exact rfl; exact Sat.rdmapN 0 (by assumption) (by exact (by repeat' constructor)) hlm; (first | omega | exact size_pos (by assumption) | assumption); exact rfl; exact rfl; exact is_nat hi) | (apply cw_draw (id := 8) [(0, 0), (1, 0), (2, 0), (3, 0), (4, 0), (5, 0), (6, 0), (7, 0), (8, 0), (9, 0), (10, 0), (11, 0), (12, 0), (13, 0), (14, 0), (15, 2)]; assumption; exact mixed; kernel_rfl) | (apply cw_draw (id := 9) [(0, 0), (1, 0), (2, 0), (3, 0), (4, 0), (5, 0), (6, 0), (7, 0), (8, 0), (9, 0), (10, 0), (11, 0), (12, 0), (13, 0), (14, 0), (15, 2)]; assumption; exact mixed; kernel_rfl) | (apply x_move; exact rfl; exact rfl; (exact (by repeat' constructor))) | (apply x_assign; exact rfl; exact rfl; (exact (by repeat' constructor))) | (apply x_bin; exact rfl; exact rfl; exact rfl; (first | exact .z (.wrap (by omega)) | exact (by repeat' constructor))) | (apply x_index; exact rfl; exact rfl; exact rfl; exact rfl; exact rfl; (constructor); (first | omega | exact size_pos (by assumption) | assumption); (first | exact rfl | assumption | exact Rd.some_ (by assumption) (by omega) | exact Rd.some_ (Old.rd (by assumption)) (by omega) | exact (Sat.rd (by assumption) (by exact (by repeat' constructor))).some_ (by omega))) | (apply y_move; exact rfl; (exact (by repeat' constructor))) | (apply y_fieldB; exact rfl; exact rfl; exact rfl; (constructor)) | (apply y_load; exact rfl; exact rfl; (exact (by repeat' constructor)); exact rfl; exact rfl; (exact (by repeat' constructor))) | (apply y_bin; exact rfl; exact (fun _ => rfl); (first | exact .z (.wrap (by omega)) | exact (by repeat' constructor))) | (apply y_fieldE; exact rfl; exact rfl; exact rfl; (constructor)) | (apply y_index; exact rfl; exact rfl; exact rfl; exact rfl; (constructor); (first | omega | exact size_pos (by assumption) | assumption); (first | exact rfl | assumption | exact Rd.some_ (by assumption) (by omega) | exact Rd.some_ (Old.rd (by assumption)) (by omega) | exact (Sat.rd (by assumption) (by exact (by repeat' constructor))).some_ (by omega))) | (apply y_loadR; exact rfl; exact rfl; assumption; (first | omega | exact size_pos (by assumption) | assumption); exact rfl; exact rfl; (exact (by repeat' constructor))) | (apply z2_store; exact rfl; exact rfl; (exact (by repeat' constructor)); (exact (by repeat' constructor)); exact rfl; exact rfl; exact rfl; (exact (by repeat' constructor))) | (apply y_nil; intro _ _) | (apply x_dec; exact rfl; all_goals (intro _; try omega))))
    refine ⟨rfl, (by repeat (first | exact Agree.updl rfl (Agree.mask _ _ _) | refine Agree.upd rfl ?_)), ⟨k + 1, hlt, rfl, ?_⟩, ?_⟩
    · rw [e1, e2]; assumption
    · show xs.length - (k + 1 : Int).toNat < xs.length - (k : Int).toNat
      omega
  · (repeat' (first | apply cw_seq | apply cw_region | apply wl_nil | apply cw_exit | apply cw_ret | (apply x_assign; exact rfl; exact rfl; (exact (by repeat' constructor))) | (apply x_load; assumption; exact rfl; exact rfl; exact rfl; (exact (by repeat' constructor)); exact rfl; exact rfl; (exact (by repeat' constructor))) | (apply x_bin; exact rfl; exact rfl; exact rfl; (first | exact .z (.wrap (by omega)) | exact (by repeat' constructor))) | (apply x_store; assumption; exact rfl; exact rfl; (exact (by repeat' constructor)); (exact (by repeat' constructor)); exact rfl; exact rfl; exact rfl; (exact (by repeat' constructor)); intro _ _) | (apply x_dec; exact rfl; all_goals (intro _; try omega))))
    (first | refine q_retS (by assumption) rfl (by repeat (first | exact .nil | (apply RV.tmp; exact (by repeat' constructor)) | (apply RV.cell; exact rfl; exact (by repeat' constructor); exact rfl; exact rfl; exact (by repeat' constructor)))) ?_ | (simp only [thenQ, blockQ]; refine q_retS (by assumption) rfl (by repeat (first | exact .nil | (apply RV.tmp; exact (by repeat' constructor)) | (apply RV.cell; exact rfl; exact (by repeat' constructor); exact rfl; exact rfl; exact (by repeat' constructor)))) ?_))
    refine ⟨?_, Sat.keeps (by assumption)⟩
    have e : k = xs.length := by omega
    subst e
    rw [List.take_length]
    rfl
end Go.Proofs.Ytnndkdcciojpiaa
