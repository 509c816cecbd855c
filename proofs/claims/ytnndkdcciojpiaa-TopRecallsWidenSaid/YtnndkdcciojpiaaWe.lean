/- Events of gauges: the program's check of a right log; few events. No statement of the seat is proved here. -/
import Derived.Test.YtnndkdcciojpiaaWd
namespace Go.Proofs.Ytnndkdcciojpiaa.Rl
set_option linter.unusedVariables false
set_option linter.unusedSimpArgs false
open Go Go.RowKit Go.Maps
theorem kS : Keyed Try.prog 9 := Maps.string_keyed (by kernel_rfl)
abbrev keyL (s : ByteArray) : Lit := .string s.data.toList
theorem keyL_inj {s t : ByteArray} (h : keyL s = keyL t) : s = t := by
  injection h with h
  cases s; cases t
  congr 1
  exact Array.toList_inj.1 h
theorem keyS {s : ByteArray} (h : s.size ≤ 9223372036854775807) : keyOf Try.prog 9 (.string s) = some (keyL s) :=   WideMaps.keyOf_string_mk (by kernel_rfl) h
/-- the lots of the parts that the first events measured -/
noncomputable def lotF (l : List Ev) : Nat → Lit → Option Value
  | 0 => fun _ => none
  | i + 1 => @ite _ ((l.getD i ev0).k = 0) (Classical.propDecidable _) (putV (lotF l i) (keyL (l.getD i ev0).p) (.string (l.getD i ev0).l)) (lotF l i)
noncomputable def goneF (l : List Ev) : Nat → Lit → Option Value
  | 0 => fun _ => none
  | i + 1 => @ite _ ((l.getD i ev0).k = 3) (Classical.propDecidable _) (putV (goneF l i) (keyL (l.getD i ev0).p) (.bool true)) (goneF l i)
theorem lotF_yes {l : List Ev} {i : Nat} (h : (l.getD i ev0).k = 0) : lotF l (i + 1) = putV (lotF l i) (keyL (l.getD i ev0).p) (.string (l.getD i ev0).l) := if_pos h
theorem lotF_no {l : List Ev} {i : Nat} (h : ¬ (l.getD i ev0).k = 0) : lotF l (i + 1) = lotF l i := if_neg h
theorem goneF_yes {l : List Ev} {i : Nat} (h : (l.getD i ev0).k = 3) : goneF l (i + 1) = putV (goneF l i) (keyL (l.getD i ev0).p) (.bool true) := if_pos h
theorem goneF_no {l : List Ev} {i : Nat} (h : ¬ (l.getD i ev0).k = 3) : goneF l (i + 1) = goneF l i := if_neg h
theorem lot_none {l : List Ev} {s : ByteArray} : ∀ {i : Nat}, ¬ measP l i s → lotF l i (keyL s) = none
  | 0, _ => rfl
  | i + 1, h => by
    have ih := lot_none (l := l) (s := s) (i := i) fun ⟨j, hj, h2⟩ => h ⟨j, by omega, h2⟩
    by_cases hk : (l.getD i ev0).k = 0
    · rw [lotF_yes hk, putV_other fun e => h ⟨i, Nat.lt_succ_self _, hk, (keyL_inj e).symm⟩]
      exact ih
    · rw [lotF_no hk]; exact ih
theorem lot_some {l : List Ev} {s : ByteArray} : ∀ {i : Nat}, measP l i s → ∃ j, j < i ∧ (l.getD j ev0).k = 0 ∧ (l.getD j ev0).p = s ∧ lotF l i (keyL s) = some (.string (l.getD j ev0).l)
  | 0, ⟨j, hj, _⟩ => absurd hj (Nat.not_lt_zero _)
  | i + 1, h => by
    by_cases hk : (l.getD i ev0).k = 0 ∧ (l.getD i ev0).p = s
    · obtain ⟨hk, rfl⟩ := hk
      exact ⟨i, Nat.lt_succ_self _, hk, rfl, by rw [lotF_yes hk, putV_same]⟩
    · have h2 : measP l i s := by
        obtain ⟨j, hj, h3, h4⟩ := h
        rcases Nat.lt_succ_iff_lt_or_eq.1 hj with hj | rfl
        · exact ⟨j, hj, h3, h4⟩
        · exact absurd ⟨h3, h4⟩ hk
      obtain ⟨j, hj, h3, h4, h5⟩ := lot_some h2
      refine ⟨j, by omega, h3, h4, ?_⟩
      by_cases hk0 : (l.getD i ev0).k = 0
      · rw [lotF_yes hk0, putV_other fun e => hk ⟨hk0, (keyL_inj e).symm⟩]; exact h5
      · rw [lotF_no hk0]; exact h5
theorem gone_none {l : List Ev} {s : ByteArray} : ∀ {i : Nat}, ¬ goneP l i s → goneF l i (keyL s) = none
  | 0, _ => rfl
  | i + 1, h => by
    have ih := gone_none (l := l) (s := s) (i := i) fun ⟨j, hj, h2⟩ => h ⟨j, by omega, h2⟩
    by_cases hk : (l.getD i ev0).k = 3
    · rw [goneF_yes hk, putV_other fun e => h ⟨i, Nat.lt_succ_self _, hk, (keyL_inj e).symm⟩]
      exact ih
    · rw [goneF_no hk]; exact ih
/-- what Check looks up at an event: a lot, and whether there is one -/
structure LotAt (l : List Ev) (i : Nat) (v : ByteArray) (ok : Bool) : Prop where
  val : (lotF l i (keyL (l.getD i ev0).p)).getD (.string ⟨#[]⟩) = .string v
  has : (lotF l i (keyL (l.getD i ev0).p)).isSome = ok
  same : (l.getD i ev0).k = 0 → ok = true → v = (l.getD i ev0).l
  meas : (l.getD i ev0).k = 3 → ok = true
theorem lotAt {l : List Ev} {i : Nat} (h : EvOk l i) : ∃ v ok, LotAt l i v ok := by
  by_cases hm : measP l i (l.getD i ev0).p
  · obtain ⟨j, hj, h1, h2, h3⟩ := lot_some hm
    exact ⟨_, true, by rw [h3]; rfl, by rw [h3]; rfl, fun h0 _ => h.m2 h0 j hj h1 h2, fun _ => rfl⟩
  · exact ⟨⟨#[]⟩, false, by rw [lot_none hm]; rfl, by rw [lot_none hm]; rfl, fun _ e => absurd e (by decide), fun h3 => absurd (h.w1 h3) hm⟩
set_option maxRecDepth 100000 in
theorem e_pCheckL : Ent Try.prog 26 := fun _ _ => rfl
set_option maxRecDepth 8000 in
set_option maxHeartbeats 8000000 in
theorem pCheckL_c (A : Option Addr) (c : Nat) (l : List Ev) (ho : ∀ i, i < l.length → (l.getD i ev0).ok) (hr : RightL l) (w : World) (R : Rd w A 4 l.length (fun i => evC (l.getD i ev0))) : Calls Try.prog 26 #[.slice A l.length c] w (RetP (Val (.int .i64 0) w)) := by
  refine calls_of_cw (args := [.slice A l.length c]) Try.func26 rfl rfl ?_
  have S := Sat.start [] w
  have O := R.old
  have hn := hr.n
  (repeat' (first | apply cw_seq | apply cw_region | apply wl_nil | apply cw_block | apply cw_skip | (apply x_makeMapV; assumption; exact rfl; exact rfl; exact rfl; intro _ _ _) | (apply x_move; exact rfl; exact rfl; (exact (by repeat' constructor))) | (apply x_assign; exact rfl; exact rfl; (exact (by repeat' constructor))) | (apply x_bin; exact rfl; exact rfl; exact rfl; (first | exact .z (.wrap (by omega)) | exact (by repeat' constructor))) | (apply x_builtin; exact rfl; exact rfl; exact (fun _ => rfl); (exact (by repeat' constructor))) | (apply x_dec; exact rfl; all_goals (intro _; try omega))))
  all_goals first
    | (exfalso; omega)
    | skip
  rename_i _ bL _ _ bG w1 S1
  refine cw_loop [2, 6, 7, 8, 9, 17, 18, 19, 20, 21, 22, 23, 24, 25, 26, 27, 28, 29, 30, 31, 32, 33, 34, 35, 36, 37, 38, 39, 40, 41, 42, 43, 44, 45, 46, 47, 48, 49, 50, 51, 52, 53, 54, 55, 56, 57, 58, 59, 60, 61, 62, 63, 64] [17] (fun us wr => ∃ i c1 c2 : Nat, i ≤ l.length ∧ us = [.int .i64 i] ∧ c1 ≤ i ∧ c2 ≤ i ∧ Sat w [] [.pr bG (MapV Try.prog 9 c2 (goneF l i)), .pr bL (MapV Try.prog 9 c1 (lotF l i))] wr) (fun us _ => l.length - (intOf (us.getD 0 undef)).toNat) ?_ ?_
  · exact ⟨0, 0, 0, Nat.zero_le _, rfl, Nat.le_refl _, Nat.le_refl _, S1⟩
  clear S S1
  rintro g us wr ⟨i, c1, c2, hi, rfl, hc1, hc2, Sr⟩
  by_cases hlt : i < l.length
  · have hok := ho i hlt
    have hev := hr.at_ i hlt
    obtain ⟨v, ok, hla⟩ := lotAt hev
    by_cases hk0 : (l.getD i ev0).k = 0
    · have hg0 : (goneF l i (keyL (l.getD i ev0).p)).getD (.bool false) = .bool false := by rw [gone_none (hev.m1 hk0)]; rfl
      have hsame := hla.same hk0
      cases hok2 : ok with
      | true =>
        rw [hok2] at hsame hla
        have hv := hsame rfl
        subst hv
        (repeat' (first | apply cw_seq | apply cw_region | apply wl_nil | apply cw_block | apply cw_skip | apply cw_ret | (apply x_callv; assumption; exact rfl; exact rfl; exact rfl; exact e_names; (exact (by repeat' constructor)); (with_reducible exact names_c (l.getD i ev0) hok hev.nm _); intro _ _ _) | (apply x_lookVok; exact rfl; exact rfl; exact rfl; exact kS; exact rfl; exact rfl; exact Sat.prAt (by assumption) (by exact (by repeat' constructor)); exact keyS hok.hp; exact trivial; exact hla.val; exact hla.has) | (apply x_lookV; exact rfl; exact rfl; exact rfl; exact kS; exact rfl; exact rfl; exact Sat.prAt (by assumption) (by exact (by repeat' constructor)); exact keyS hok.hp; exact trivial; exact hg0) | (apply x_putV; assumption; exact rfl; exact rfl; exact kS; exact rfl; exact rfl; (exact (by repeat' constructor)); (exact (by repeat' constructor)); (exact (by unfold maxLen; omega)); exact keyS hok.hp; intro _ _) | (apply x_move; exact rfl; exact rfl; (exact (by repeat' constructor))) | (apply x_assign; exact rfl; exact rfl; (exact (by repeat' constructor))) | (apply x_fieldB; exact rfl; exact rfl; exact rfl; exact rfl; (constructor)) | (apply x_load; assumption; exact rfl; exact rfl; exact rfl; (exact (by repeat' constructor)); exact rfl; exact rfl; (exact (by repeat' constructor))) | (apply x_neStr; exact rfl; exact rfl; exact rfl; exact rfl) | (apply x_bin; exact rfl; exact rfl; exact rfl; (first | exact .z (.wrap (by omega)) | exact (by repeat' constructor))) | (apply x_pick; exact rfl; exact rfl; exact rfl; (exact (by repeat' constructor))) | (apply x_alloc; assumption; exact rfl; exact rfl; exact rfl; (exact (by repeat' constructor)); intro _ _ _) | (apply x_store; assumption; exact rfl; exact rfl; (exact (by repeat' constructor)); (exact (by repeat' constructor)); exact rfl; exact rfl; exact rfl; (exact (by repeat' constructor)); intro _ _) | (apply x_extract; exact rfl; exact rfl; exact rfl; (exact (by repeat' constructor))) | (apply x_index; exact rfl; exact rfl; exact rfl; exact rfl; exact rfl; (constructor); (first | omega | exact size_pos (by assumption) | assumption); (first | exact rfl | assumption | exact Rd.some_ (by assumption) (by omega) | exact Rd.some_ (Old.rd (by assumption)) (by omega) | exact (Sat.rd (by assumption) (by exact (by repeat' constructor))).some_ (by omega))) | (apply x_loadR; exact rfl; exact rfl; exact rfl; (first | exact Old.now (by assumption) (by assumption) | exact Sat.rdpr (by assumption) (by exact (by repeat' constructor)) | exact Sat.rd (by assumption) (by exact (by repeat' constructor))); (first | omega | exact size_pos (by assumption) | assumption); exact rfl; exact rfl; (exact (by repeat' constructor))) | (apply cw_false; exact rfl) | (apply x_dec; exact rfl; all_goals (intro _; try omega))))
        all_goals first
          | (exfalso; omega)
          | (exfalso; simp_all; done)
          | skip
        refine ⟨rfl, (by repeat (first | exact Agree.updl rfl (Agree.mask _ _ _) | refine Agree.upd rfl ?_ | refine Agree.updl rfl ?_ | refine Agree.maskIn rfl ?_)), ⟨i + 1, c1 + 1, c2, hlt, rfl, by omega, by omega, ?_⟩, ?_⟩
        · rw [lotF_yes hk0, goneF_no (by omega)]
          exact Sat.drop1 (by assumption)
        · show l.length - (i + 1 : Int).toNat < l.length - (i : Int).toNat
          omega
      | false =>
        rw [hok2] at hla
        (repeat' (first | apply cw_seq | apply cw_region | apply wl_nil | apply cw_block | apply cw_skip | (apply x_callv; assumption; exact rfl; exact rfl; exact rfl; exact e_names; (exact (by repeat' constructor)); (with_reducible exact names_c (l.getD i ev0) hok hev.nm _); intro _ _ _) | (apply x_lookVok; exact rfl; exact rfl; exact rfl; exact kS; exact rfl; exact rfl; exact Sat.prAt (by assumption) (by exact (by repeat' constructor)); exact keyS hok.hp; exact trivial; exact hla.val; exact hla.has) | (apply x_lookV; exact rfl; exact rfl; exact rfl; exact kS; exact rfl; exact rfl; exact Sat.prAt (by assumption) (by exact (by repeat' constructor)); exact keyS hok.hp; exact trivial; exact hg0) | (apply x_putV; assumption; exact rfl; exact rfl; exact kS; exact rfl; exact rfl; (exact (by repeat' constructor)); (exact (by repeat' constructor)); (exact (by unfold maxLen; omega)); exact keyS hok.hp; intro _ _) | (apply x_not; exact rfl; exact rfl) | (apply x_move; exact rfl; exact rfl; (exact (by repeat' constructor))) | (apply x_assign; exact rfl; exact rfl; (exact (by repeat' constructor))) | (apply x_fieldB; exact rfl; exact rfl; exact rfl; exact rfl; (constructor)) | (apply x_load; assumption; exact rfl; exact rfl; exact rfl; (exact (by repeat' constructor)); exact rfl; exact rfl; (exact (by repeat' constructor))) | (apply x_bin; exact rfl; exact rfl; exact rfl; (first | exact .z (.wrap (by omega)) | exact (by repeat' constructor))) | (apply x_pick; exact rfl; exact rfl; exact rfl; (exact (by repeat' constructor))) | (apply x_alloc; assumption; exact rfl; exact rfl; exact rfl; (exact (by repeat' constructor)); intro _ _ _) | (apply x_store; assumption; exact rfl; exact rfl; (exact (by repeat' constructor)); (exact (by repeat' constructor)); exact rfl; exact rfl; exact rfl; (exact (by repeat' constructor)); intro _ _) | (apply x_extract; exact rfl; exact rfl; exact rfl; (exact (by repeat' constructor))) | (apply x_index; exact rfl; exact rfl; exact rfl; exact rfl; exact rfl; (constructor); (first | omega | exact size_pos (by assumption) | assumption); (first | exact rfl | assumption | exact Rd.some_ (by assumption) (by omega) | exact Rd.some_ (Old.rd (by assumption)) (by omega) | exact (Sat.rd (by assumption) (by exact (by repeat' constructor))).some_ (by omega))) | (apply x_loadR; exact rfl; exact rfl; exact rfl; (first | exact Old.now (by assumption) (by assumption) | exact Sat.rdpr (by assumption) (by exact (by repeat' constructor)) | exact Sat.rd (by assumption) (by exact (by repeat' constructor))); (first | omega | exact size_pos (by assumption) | assumption); exact rfl; exact rfl; (exact (by repeat' constructor))) | (apply cw_false; exact rfl) | (apply x_dec; exact rfl; all_goals (intro _; try omega))))
        all_goals first
          | (exfalso; omega)
          | (exfalso; simp_all; done)
          | skip
        refine ⟨rfl, (by repeat (first | exact Agree.updl rfl (Agree.mask _ _ _) | refine Agree.upd rfl ?_ | refine Agree.updl rfl ?_ | refine Agree.maskIn rfl ?_)), ⟨i + 1, c1 + 1, c2, hlt, rfl, by omega, by omega, ?_⟩, ?_⟩
        · rw [lotF_yes hk0, goneF_no (by omega)]
          exact Sat.drop1 (by assumption)
        · show l.length - (i + 1 : Int).toNat < l.length - (i : Int).toNat
          omega
    · by_cases hk3 : (l.getD i ev0).k = 3
      · have hg0 : (goneF l i (keyL (l.getD i ev0).p)).getD (.bool false) = .bool false := by rw [gone_none (hev.w2 hk3)]; rfl
        have hok2 := hla.meas hk3
        subst hok2
        (repeat' (first | apply cw_seq | apply cw_region | apply wl_nil | apply cw_block | apply cw_skip | (apply x_callv; assumption; exact rfl; exact rfl; exact rfl; exact e_names; (exact (by repeat' constructor)); (with_reducible exact names_c (l.getD i ev0) hok hev.nm _); intro _ _ _) | (apply x_lookVok; exact rfl; exact rfl; exact rfl; exact kS; exact rfl; exact rfl; exact Sat.prAt (by assumption) (by exact (by repeat' constructor)); exact keyS hok.hp; exact trivial; exact hla.val; exact hla.has) | (apply x_lookV; exact rfl; exact rfl; exact rfl; exact kS; exact rfl; exact rfl; exact Sat.prAt (by assumption) (by exact (by repeat' constructor)); exact keyS hok.hp; exact trivial; exact hg0) | (apply x_putV; assumption; exact rfl; exact rfl; exact kS; exact rfl; exact rfl; (exact (by repeat' constructor)); (exact (by repeat' constructor)); (exact (by unfold maxLen; omega)); exact keyS hok.hp; intro _ _) | (apply x_move; exact rfl; exact rfl; (exact (by repeat' constructor))) | (apply x_assign; exact rfl; exact rfl; (exact (by repeat' constructor))) | (apply x_fieldB; exact rfl; exact rfl; exact rfl; exact rfl; (constructor)) | (apply x_load; assumption; exact rfl; exact rfl; exact rfl; (exact (by repeat' constructor)); exact rfl; exact rfl; (exact (by repeat' constructor))) | (apply x_bin; exact rfl; exact rfl; exact rfl; (first | exact .z (.wrap (by omega)) | exact (by repeat' constructor))) | (apply x_un; exact rfl; exact rfl; exact rfl; (first | exact .z (.wrap (by omega)) | exact (by repeat' constructor))) | (apply x_alloc; assumption; exact rfl; exact rfl; exact rfl; (exact (by repeat' constructor)); intro _ _ _) | (apply x_store; assumption; exact rfl; exact rfl; (exact (by repeat' constructor)); (exact (by repeat' constructor)); exact rfl; exact rfl; exact rfl; (exact (by repeat' constructor)); intro _ _) | (apply x_extract; exact rfl; exact rfl; exact rfl; (exact (by repeat' constructor))) | (apply x_index; exact rfl; exact rfl; exact rfl; exact rfl; exact rfl; (constructor); (first | omega | exact size_pos (by assumption) | assumption); (first | exact rfl | assumption | exact Rd.some_ (by assumption) (by omega) | exact Rd.some_ (Old.rd (by assumption)) (by omega) | exact (Sat.rd (by assumption) (by exact (by repeat' constructor))).some_ (by omega))) | (apply x_loadR; exact rfl; exact rfl; exact rfl; (first | exact Old.now (by assumption) (by assumption) | exact Sat.rdpr (by assumption) (by exact (by repeat' constructor)) | exact Sat.rd (by assumption) (by exact (by repeat' constructor))); (first | omega | exact size_pos (by assumption) | assumption); exact rfl; exact rfl; (exact (by repeat' constructor))) | (apply cw_false; exact rfl) | (apply x_dec; exact rfl; all_goals (intro _; try omega))))
        all_goals first
          | (exfalso; omega)
          | (exfalso; simp_all; done)
          | skip
        refine ⟨rfl, (by repeat (first | exact Agree.updl rfl (Agree.mask _ _ _) | refine Agree.upd rfl ?_ | refine Agree.updl rfl ?_ | refine Agree.maskIn rfl ?_)), ⟨i + 1, c1, c2 + 1, hlt, rfl, by omega, by omega, ?_⟩, ?_⟩
        · rw [lotF_no hk0, goneF_yes hk3]
          exact Sat.drop1 (by assumption)
        · show l.length - (i + 1 : Int).toNat < l.length - (i : Int).toNat
          omega
      · (repeat' (first | apply cw_seq | apply cw_region | apply wl_nil | apply cw_block | apply cw_skip | (apply x_callv; assumption; exact rfl; exact rfl; exact rfl; exact e_names; (exact (by repeat' constructor)); (with_reducible exact names_c (l.getD i ev0) hok hev.nm _); intro _ _ _) | (apply x_lookVok; exact rfl; exact rfl; exact rfl; exact kS; exact rfl; exact rfl; exact Sat.prAt (by assumption) (by exact (by repeat' constructor)); exact keyS hok.hp; exact trivial; exact hla.val; exact hla.has) | (apply x_move; exact rfl; exact rfl; (exact (by repeat' constructor))) | (apply x_assign; exact rfl; exact rfl; (exact (by repeat' constructor))) | (apply x_fieldB; exact rfl; exact rfl; exact rfl; exact rfl; (constructor)) | (apply x_load; assumption; exact rfl; exact rfl; exact rfl; (exact (by repeat' constructor)); exact rfl; exact rfl; (exact (by repeat' constructor))) | (apply x_bin; exact rfl; exact rfl; exact rfl; (first | exact .z (.wrap (by omega)) | exact (by repeat' constructor))) | (apply x_alloc; assumption; exact rfl; exact rfl; exact rfl; (exact (by repeat' constructor)); intro _ _ _) | (apply x_store; assumption; exact rfl; exact rfl; (exact (by repeat' constructor)); (exact (by repeat' constructor)); exact rfl; exact rfl; exact rfl; (exact (by repeat' constructor)); intro _ _) | (apply x_extract; exact rfl; exact rfl; exact rfl; (exact (by repeat' constructor))) | (apply x_index; exact rfl; exact rfl; exact rfl; exact rfl; exact rfl; (constructor); (first | omega | exact size_pos (by assumption) | assumption); (first | exact rfl | assumption | exact Rd.some_ (by assumption) (by omega) | exact Rd.some_ (Old.rd (by assumption)) (by omega) | exact (Sat.rd (by assumption) (by exact (by repeat' constructor))).some_ (by omega))) | (apply x_loadR; exact rfl; exact rfl; exact rfl; (first | exact Old.now (by assumption) (by assumption) | exact Sat.rdpr (by assumption) (by exact (by repeat' constructor)) | exact Sat.rd (by assumption) (by exact (by repeat' constructor))); (first | omega | exact size_pos (by assumption) | assumption); exact rfl; exact rfl; (exact (by repeat' constructor))) | (apply cw_false; exact rfl) | (apply x_dec; exact rfl; all_goals (intro _; try omega))))
        all_goals first
          | (exfalso; omega)
          | (exfalso; simp_all; done)
          | skip
        refine ⟨rfl, (by repeat (first | exact Agree.updl rfl (Agree.mask _ _ _) | refine Agree.upd rfl ?_ | refine Agree.updl rfl ?_ | refine Agree.maskIn rfl ?_)), ⟨i + 1, c1, c2, hlt, rfl, by omega, by omega, ?_⟩, ?_⟩
        · rw [lotF_no hk0, goneF_no hk3]
          exact Sat.drop1 (by assumption)
        · show l.length - (i + 1 : Int).toNat < l.length - (i : Int).toNat
          omega
  · (repeat' (first | apply cw_seq | apply cw_region | apply wl_nil | apply cw_exit | apply cw_ret | (apply x_assign; exact rfl; exact rfl; (exact (by repeat' constructor))) | (apply x_bin; exact rfl; exact rfl; exact rfl; (first | exact .z (.wrap (by omega)) | exact (by repeat' constructor))) | (apply x_dec; exact rfl; all_goals (intro _; try omega))))
    (first | refine q_retS (by assumption) rfl (by repeat (first | exact .nil | (apply RV.tmp; exact (by repeat' constructor)) | (apply RV.cell; exact rfl; exact (by repeat' constructor); exact rfl; exact rfl; exact (by repeat' constructor)))) ?_ | (simp only [thenQ, blockQ]; refine q_retS (by assumption) rfl (by repeat (first | exact .nil | (apply RV.tmp; exact (by repeat' constructor)) | (apply RV.cell; exact rfl; exact (by repeat' constructor); exact rfl; exact rfl; exact (by repeat' constructor)))) ?_))
    exact ⟨rfl, Sat.keeps (by assumption)⟩
end Go.Proofs.Ytnndkdcciojpiaa.Rl
