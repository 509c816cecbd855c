/- Loops of dimensions: the chapter's example, walked. No statement of the seat is proved here. -/
import Derived.Test.YtagapiflfnbfiaaJm
import Derived.Test.YtagapiflfnbfiaaJn
namespace Go.Proofs.Ytagapiflfnbfiaa
set_option linter.unusedVariables false
set_option linter.unusedSimpArgs false
open Go Go.RowKit
theorem flat_Link : flatT Try.prog 9 59 = some [0, 1] := by kernel_rfl
theorem lk_ext {p q : Lk} : p = q ↔ p.dm = q.dm ∧ p.bk = q.bk := by
  obtain ⟨a, b⟩ := p
  obtain ⟨d, e⟩ := q
  simp
theorem getDL {l : List Lk} {i : Nat} (h : i < l.length) : l.getD i lk0 = l[i] := by rw [List.getD_eq_getElem?_getD, List.getElem?_eq_getElem h]; rfl
theorem decT {p : Prop} (h : p) : @decide p (Classical.propDecidable p) = true := @decide_eq_true p (Classical.propDecidable p) h
theorem decF {p : Prop} (h : ¬ p) : @decide p (Classical.propDecidable p) = false := @decide_eq_false p (Classical.propDecidable p) h
set_option maxRecDepth 100000 in
theorem e_equalL : Ent Try.prog 29 := fun _ _ => rfl
set_option maxRecDepth 4000 in
set_option maxHeartbeats 2000000 in
theorem equalL_c (A B : Option Addr) (c c' : Nat) (l m : List Lk) (hl : l.length ≤ 9223372036854775807) (hm : m.length ≤ 9223372036854775807) (w : World) (R : Rd w A 2 l.length (fun i => lkC (l.getD i lk0))) (R2 : Rd w B 2 m.length (fun i => lkC (m.getD i lk0))) : Calls Try.prog 29 #[.slice A l.length c, .slice B m.length c'] w (RetP (Val (.bool (@decide (l = m) (Classical.propDecidable _))) w)) := by
  refine calls_of_cw (args := [.slice A l.length c, .slice B m.length c']) Try.func29 rfl rfl ?_
  have S := Sat.start [] w
  have O := (R).old
  have O2 := (R2).old
  (repeat' (first | apply cw_seq | apply cw_region | apply wl_nil | apply cw_block | apply cw_skip | apply cw_ret | (apply x_move; exact rfl; exact rfl; (exact (by repeat' constructor))) | (apply x_assign; exact rfl; exact rfl; (exact (by repeat' constructor))) | (apply x_bin; exact rfl; exact rfl; exact rfl; (first | exact .z (.wrap (by omega)) | exact (by repeat' constructor))) | (apply x_builtin; exact rfl; exact rfl; exact (fun _ => rfl); (exact (by repeat' constructor))) | (apply cw_ne; exact rfl; all_goals (intro _; try omega))))
  all_goals first
    | ((first | refine q_retS (by assumption) rfl (by repeat (first | exact .nil | (apply RV.tmp; exact (by repeat' constructor)) | (apply RV.cell; exact rfl; exact (by repeat' constructor); exact rfl; exact rfl; exact (by repeat' constructor)))) ?_ | (simp only [thenQ, blockQ]; refine q_retS (by assumption) rfl (by repeat (first | exact .nil | (apply RV.tmp; exact (by repeat' constructor)) | (apply RV.cell; exact rfl; exact (by repeat' constructor); exact rfl; exact rfl; exact (by repeat' constructor)))) ?_))
       refine ⟨?_, Sat.keeps (by assumption)⟩
       rw [decF (fun h : l = m => by subst h; omega)]
       rfl)
    | skip
  rename_i heq
  refine cw_loop [4, 5, 13, 14, 15, 16, 17, 18, 19, 20, 21, 22, 23, 24, 25] [13] (fun us wr => ∃ k : Nat, k ≤ l.length ∧ us = [.int .i64 k] ∧ Sat w [] [] wr ∧ ∀ i, i < k → l.getD i lk0 = m.getD i lk0) (fun us _ => l.length - (intOf (us.getD 0 undef)).toNat) ?_ ?_
  · exact ⟨0, by omega, rfl, S, fun i hi => absurd hi (Nat.not_lt_zero i)⟩
  clear S
  rintro g us wr ⟨k, hk, rfl, Sr, hfe⟩
  by_cases hlt : k < l.length
  · (repeat' (first | apply cw_seq | apply cw_region | apply wl_nil | apply cw_block | apply cw_skip | apply cw_ret | (apply cw_draw (id := 6) [(0, 0), (1, 0), (2, 0), (3, 0), (4, 0), (5, 0), (6, 0), (7, 0), (8, 0)]; assumption; exact mixed; kernel_rfl) | (apply x_move; exact rfl; exact rfl; (exact (by repeat' constructor))) | (apply x_assign; exact rfl; exact rfl; (exact (by repeat' constructor))) | (apply x_bin; exact rfl; exact rfl; exact rfl; (first | exact .z (.wrap (by omega)) | exact (by repeat' constructor))) | (apply y_neAgg; exact rfl; exact rfl; exact rfl; (first | with_reducible exact flat_Limits | with_reducible exact flat_Dimension | with_reducible exact flat_Limits | with_reducible exact flat_Limits | with_reducible exact flat_at | with_reducible exact flat_spl | with_reducible exact flat_take | with_reducible exact flat_set | with_reducible exact flat_get | with_reducible exact flat_single | with_reducible exact flat_Spot | with_reducible exact flat_Datum | with_reducible exact flat_Link | with_reducible exact flat_rLink | with_reducible exact flat_Dimension | with_reducible exact flat_Spot | with_reducible exact flat_step | with_reducible exact flat_Point | with_reducible exact flat_lift | with_reducible exact flat_back); exact rfl; kernel_rfl; exact rfl) | (apply y_move; exact rfl; (exact (by repeat' constructor))) | (apply y_index; exact rfl; exact rfl; exact rfl; exact rfl; (constructor); (first | omega | exact size_pos (by assumption) | assumption); (first | exact rfl | assumption | exact Rd.some_ (by assumption) (by omega) | exact Rd.some_ (Old.rd (by assumption)) (by omega) | exact (Sat.rd (by assumption) (by exact (by repeat' constructor))).some_ (by omega))) | (apply y_loadR; exact rfl; exact rfl; assumption; (first | omega | exact size_pos (by assumption) | assumption); exact rfl; exact rfl; (exact (by repeat' constructor))) | (apply y_nil; intro _ _) | (apply x_dec; exact rfl; all_goals (intro _; try omega)) | (apply cw_not; exact rfl; all_goals (intro _; try omega))))
    · rename_i hb
      (first | refine q_retS (by assumption) rfl (by repeat (first | exact .nil | (apply RV.tmp; exact (by repeat' constructor)) | (apply RV.cell; exact rfl; exact (by repeat' constructor); exact rfl; exact rfl; exact (by repeat' constructor)))) ?_ | (simp only [thenQ, blockQ]; refine q_retS (by assumption) rfl (by repeat (first | exact .nil | (apply RV.tmp; exact (by repeat' constructor)) | (apply RV.cell; exact rfl; exact (by repeat' constructor); exact rfl; exact rfl; exact (by repeat' constructor)))) ?_))
      refine ⟨?_, Sat.keeps (by assumption)⟩
      rw [decF (fun h : l = m => by subst h; simp at hb)]
      rfl
    · rename_i hb
      refine ⟨rfl, (by repeat (first | exact Agree.updl rfl (Agree.mask _ _ _) | refine Agree.upd rfl ?_)), ⟨k + 1, hlt, rfl, by assumption, fun i hi => ?_⟩, ?_⟩
      · rcases Nat.lt_succ_iff_lt_or_eq.1 hi with hi | hi
        · exact hfe i hi
        · subst hi; rw [lk_ext]; simpa using hb
      · show l.length - (k + 1 : Int).toNat < l.length - (k : Int).toNat
        omega
  · (repeat' (first | apply cw_seq | apply cw_region | apply wl_nil | apply cw_exit | apply cw_ret | (apply x_assign; exact rfl; exact rfl; (exact (by repeat' constructor))) | (apply x_bin; exact rfl; exact rfl; exact rfl; (first | exact .z (.wrap (by omega)) | exact (by repeat' constructor))) | (apply x_dec; exact rfl; all_goals (intro _; try omega))))
    (first | refine q_retS (by assumption) rfl (by repeat (first | exact .nil | (apply RV.tmp; exact (by repeat' constructor)) | (apply RV.cell; exact rfl; exact (by repeat' constructor); exact rfl; exact rfl; exact (by repeat' constructor)))) ?_ | (simp only [thenQ, blockQ]; refine q_retS (by assumption) rfl (by repeat (first | exact .nil | (apply RV.tmp; exact (by repeat' constructor)) | (apply RV.cell; exact rfl; exact (by repeat' constructor); exact rfl; exact rfl; exact (by repeat' constructor)))) ?_))
    refine ⟨?_, Sat.keeps (by assumption)⟩
    rw [decT (show l = m from List.ext_getElem (by omega) (fun i h1 h2 => by have := hfe i (by omega); rwa [getDL h1, getDL h2] at this))]
    rfl
theorem equalL_m {A B : Option Addr} {c c' n : Nat} {w : World} (l : List Lk) (hn : n = l.length) (hl : l.length ≤ 9223372036854775807) (R : Rd w A 2 l.length (fun i => lkC (l.getD i lk0))) (R2 : Rd w B 2 l.length (fun i => lkC (l.getD i lk0))) :
    Calls Try.prog 29 #[.slice A n c, .slice B n c'] w (RetP (Val (.bool true) w)) := by
  subst hn
  exact val_of (equalL_c A B c c' l l hl hl w R R2) (by rw [decT rfl])
/-! ### chains of the example -/
theorem lpE_of {l : List Dm} {c : List Lk} (h1 : givenE l = 0) (h2 : chainE l c = 0) : lpE l c = 0 := by
  unfold lpE
  rw [if_neg (fun e => e h1)]
  exact h2
theorem chE_of {l : List Dm} {c : List Lk} (h0 : 0 < c.length) (h1 : c.length ≤ 256) (h : ∀ i, i < c.length → stp l c i = 0) : chainE l c = 0 := by
  unfold chainE
  rw [if_neg (by omega), if_neg (by omega)]
  exact fstE_of _ _ fun i _ hi => h i (by omega)
abbrev ca : List Lk := [⟨0, false⟩, ⟨1, false⟩]
abbrev cb : List Lk := [⟨2, false⟩, ⟨1, true⟩, ⟨0, true⟩]
theorem sa : ∀ i, i < ca.length → stp sq ca i = 0 := by
  intro i hi
  have h3 : i = 0 ∨ i = 1 := by simp at hi; omega
  rcases h3 with rfl | rfl
  · refine stp_0 ⟨by decide, by decide⟩ (by rintro ⟨h, _⟩; omega) ?_
    rintro (⟨j, h, _⟩ | ⟨h, _⟩) <;> omega
  · refine stp_0 ⟨by decide, by decide⟩ ?_ ?_
    · rintro ⟨_, h | h⟩
      · exact h (by decide)
      · exact h (by decide)
    · rintro (⟨j, h, h2 | h2⟩ | ⟨_, h2⟩)
      · have : j = 0 := by omega
        subst this
        exact absurd h2 (by decide)
      · omega
      · exact absurd h2 (by decide)
theorem sb : ∀ i, i < cb.length → stp sq cb i = 0 := by
  intro i hi
  have h3 : i = 0 ∨ i = 1 ∨ i = 2 := by simp at hi; omega
  rcases h3 with rfl | rfl | rfl
  · refine stp_0 ⟨by decide, by decide⟩ (by rintro ⟨h, _⟩; omega) ?_
    rintro (⟨j, h, _⟩ | ⟨h, _⟩) <;> omega
  · refine stp_0 ⟨by decide, by decide⟩ ?_ ?_
    · rintro ⟨_, h | h⟩
      · exact h (by decide)
      · exact h (by decide)
    · rintro (⟨j, h, h2 | h2⟩ | ⟨_, h2⟩)
      · have : j = 0 := by omega
        subst this
        exact absurd h2 (by decide)
      · omega
      · exact absurd h2 (by decide)
  · refine stp_0 ⟨by decide, by decide⟩ ?_ ?_
    · rintro ⟨_, h | h⟩
      · exact h (by decide)
      · exact h (by decide)
    · rintro (⟨j, h, h2 | h2⟩ | ⟨_, h2⟩)
      · have hj : j = 0 ∨ j = 1 := by omega
        rcases hj with rfl | rfl
        · exact absurd h2 (by decide)
        · exact absurd h2 (by decide)
      · have hj : j = 1 := by omega
        subst hj
        exact absurd h2.2 (by decide)
      · exact absurd h2 (by decide)
abbrev vsh : List Int := [10, 5, 16, 7]
theorem okv : okS vsh := by
  intro i
  match i with
  | 0 => decide
  | 1 => decide
  | 2 => decide
  | 3 => decide
  | i + 4 => exact ⟨by show (-100000 : Int) ≤ 0; omega, by show (0 : Int) ≤ 100000; omega⟩
theorem su1 : sumL sq ca vsh = (15, 0) := by
  rw [sumL_yes (lpE_of vsq (chE_of (by decide) (by decide) sa)) rfl okv]; rfl
theorem su2 : sumL sq cb vsh = (1, 0) := by
  rw [sumL_yes (lpE_of vsq (chE_of (by decide) (by decide) sb)) rfl okv]; rfl
/-! ### the calls -/
theorem aw_Find {a : Nat} {w : World} (R : Rd w (some ⟨a, 0, none⟩) 5 sq.length (fun i => dmC (sq.getD i dm0))) : Calls Try.prog 15 #[.slice (some ⟨a, 0, none⟩) 4 4, .agg #[.int .i64 0, .string nA, .string nC]] w (RetP (RowR (fun v => .tuple #[v, .int .i64 0]) 59 2 ([(⟨2, false⟩ : Lk)].map lkC) w)) := by
  have := Find_c (some ⟨a, 0, none⟩) 4 sq (by decide) osq 0 nA nC (show (⟨#[_]⟩ : ByteArray).size ≤ _ from Nat.le_of_ble_eq_true rfl) (show (⟨#[_]⟩ : ByteArray).size ≤ _ from Nat.le_of_ble_eq_true rfl) w R
  rw [find1] at this
  exact this
structure W1 where
  Ao : Option Addr
  co : Nat
  A1 : Option Addr
  c1 : Nat
  A2 : Option Addr
  c2 : Nat
theorem aw_All1 {a : Nat} {w : World} (R : Rd w (some ⟨a, 0, none⟩) 5 sq.length (fun i => dmC (sq.getD i dm0))) : Calls Try.prog 17 #[.slice (some ⟨a, 0, none⟩) 4 4, .agg #[.int .i64 0, .string nA, .string nC]] w (RetP fun v w' => ∃ q : W1, v = .tuple #[.slice q.Ao 2 q.co, .int .i64 0] ∧
    Sat w [] [.rw 0 (.slice q.Ao 2 q.co) 23 1 [[.slice q.A1 2 q.c1], [.slice q.A2 1 q.c2]], .rw 0 (.slice q.A1 2 q.c1) 59 2 (ca.map lkC)] w') := by
  refine (All_c (some ⟨a, 0, none⟩) 4 sq (by decide) osq 0 nA nC (show (⟨#[_]⟩ : ByteArray).size ≤ _ from Nat.le_of_ble_eq_true rfl) (show (⟨#[_]⟩ : ByteArray).size ≤ _ from Nat.le_of_ble_eq_true rfl) w R).mono ?_
  rintro e w' ⟨v, rfl, ⟨⟨Ao, co, rs⟩, hq⟩, rfl, S⟩
  rw [all1] at hq
  dsimp only at hq ⊢
  rw [all1]
  match rs, hq with
  | [⟨A1, c1, x1⟩, ⟨A2, c2, x2⟩], hq =>
    simp only [List.map_cons, List.map_nil, List.cons.injEq, and_true] at hq
    obtain ⟨h1, h2⟩ := hq
    subst h1
    subst h2
    exact ⟨_, rfl, ⟨Ao, co, A1, c1, A2, c2⟩, rfl, S.drop [_, _] (List.sublist_append_left [_, _] [_])⟩
theorem aw_All2 {a : Nat} {w : World} (R : Rd w (some ⟨a, 0, none⟩) 5 sq.length (fun i => dmC (sq.getD i dm0))) : Calls Try.prog 17 #[.slice (some ⟨a, 0, none⟩) 4 4, .agg #[.int .i64 0, .string nC, .string nA]] w (RetP fun v w' => ∃ q : Option Addr × Nat, v = .tuple #[.slice q.1 2 q.2, .int .i64 0] ∧ Sat w [] [] w') := by
  refine (All_c (some ⟨a, 0, none⟩) 4 sq (by decide) osq 0 nC nA (show (⟨#[_]⟩ : ByteArray).size ≤ _ from Nat.le_of_ble_eq_true rfl) (show (⟨#[_]⟩ : ByteArray).size ≤ _ from Nat.le_of_ble_eq_true rfl) w R).mono ?_
  rintro e w' ⟨v, rfl, ⟨⟨Ao, co, rs⟩, hq⟩, rfl, S⟩
  have hl : rs.length = 2 := by
    have h1 := congrArg List.length hq
    rw [List.length_map, all2.1] at h1
    exact h1
  refine ⟨_, rfl, (Ao, co), ?_, S.drop [] (List.nil_sublist _)⟩
  dsimp only
  rw [all2.2]
  show Value.tuple #[.slice Ao rs.length co, _] = _
  rw [hl]
theorem aw_Loops {a : Nat} {w : World} (R : Rd w (some ⟨a, 0, none⟩) 5 sq.length (fun i => dmC (sq.getD i dm0))) : Calls Try.prog 22 #[.slice (some ⟨a, 0, none⟩) 4 4] w (RetP fun v w' => ∃ q : W1, v = .tuple #[.slice q.Ao 1 q.co, .int .i64 0] ∧
    Sat w [] [.rw 0 (.slice q.Ao 1 q.co) 23 1 [[.slice q.A1 3 q.c1]], .rw 0 (.slice q.A1 3 q.c1) 59 2 (cb.map lkC)] w') := by
  refine (Loops_c (some ⟨a, 0, none⟩) 4 sq (by decide) osq w R).mono ?_
  rintro e w' ⟨v, rfl, ⟨⟨Ao, co, rs⟩, hq⟩, rfl, S⟩
  rw [lop1] at hq
  dsimp only at hq ⊢
  rw [lop1]
  match rs, hq with
  | [⟨A1, c1, x1⟩], hq =>
    simp only [List.map_cons, List.map_nil, List.cons.injEq, and_true] at hq
    subst hq
    exact ⟨_, rfl, ⟨Ao, co, A1, c1, none, 0⟩, rfl, S⟩
theorem aw_Sum1 {a bv c1 : Nat} {A1 : Option Addr} {w : World} (R : Rd w (some ⟨a, 0, none⟩) 5 sq.length (fun i => dmC (sq.getD i dm0))) (R2 : Rd w A1 2 ca.length (fun i => lkC (ca.getD i lk0))) (R3 : Rd w (some ⟨bv, 0, none⟩) 1 vsh.length (fun i => [.int .i64 (vsh.getD i 0)])) :
    Calls Try.prog 12 #[.slice (some ⟨a, 0, none⟩) 4 4, .slice A1 2 c1, .slice (some ⟨bv, 0, none⟩) 4 4] w (RetP (Val (.tuple #[.int .i64 15, .int .i64 0]) w)) := by
  have := Sum_c (some ⟨a, 0, none⟩) 4 sq (by decide) osq A1 c1 ca (by decide) (some ⟨bv, 0, none⟩) 4 vsh (by decide) w R R2 R3
  rw [su1] at this
  exact this
theorem aw_Sum2 {a bv c1 : Nat} {A1 : Option Addr} {w : World} (R : Rd w (some ⟨a, 0, none⟩) 5 sq.length (fun i => dmC (sq.getD i dm0))) (R2 : Rd w A1 2 cb.length (fun i => lkC (cb.getD i lk0))) (R3 : Rd w (some ⟨bv, 0, none⟩) 1 vsh.length (fun i => [.int .i64 (vsh.getD i 0)])) :
    Calls Try.prog 12 #[.slice (some ⟨a, 0, none⟩) 4 4, .slice A1 3 c1, .slice (some ⟨bv, 0, none⟩) 4 4] w (RetP (Val (.tuple #[.int .i64 1, .int .i64 0]) w)) := by
  have := Sum_c (some ⟨a, 0, none⟩) 4 sq (by decide) osq A1 c1 cb (by decide) (some ⟨bv, 0, none⟩) 4 vsh (by decide) w R R2 R3
  rw [su2] at this
  exact this
set_option maxRecDepth 100000 in
theorem e_Square : Ent Try.prog 36 := fun _ _ => rfl
set_option maxRecDepth 8000 in
theorem Square_c (w : World) : Calls Try.prog 36 #[] w (RetP fun v w' => ∃ a : Nat, v = .slice (some ⟨a, 0, none⟩) 4 4 ∧ Sat w [] [.cl a 56 (sq.flatMap dmC)] w') := by
  refine calls_of_cw (args := []) Try.func36 rfl rfl ?_
  have S := Sat.start [] w
  (repeat' (first | apply cw_seq | apply cw_region | apply wl_nil | apply cw_ret | (apply x_assign; exact rfl; exact rfl; (exact (by repeat' constructor))) | (apply x_build; exact rfl; exact rfl; exact rfl; (exact (by repeat' constructor))) | (apply x_buildSlice; assumption; exact rfl; exact rfl; exact rfl; (exact (by repeat' constructor)); intro _ _ _)))
  (first | refine q_retS (by assumption) rfl (by repeat (first | exact .nil | (apply RV.tmp; exact (by repeat' constructor)) | (apply RV.cell; exact rfl; exact (by repeat' constructor); exact rfl; exact rfl; exact (by repeat' constructor)))) ?_ | (simp only [thenQ, blockQ]; refine q_retS (by assumption) rfl (by repeat (first | exact .nil | (apply RV.tmp; exact (by repeat' constructor)) | (apply RV.cell; exact rfl; exact (by repeat' constructor); exact rfl; exact rfl; exact (by repeat' constructor)))) ?_))
  rename_i b0 w3 S3
  exact ⟨b0, rfl, S3⟩
end Go.Proofs.Ytagapiflfnbfiaa
