/- States of measurements: the iterator. No statement of the seat is proved here. -/
import Derived.Test.YtnndkdcciojpiaaWe
namespace Go.Proofs.Ytnndkdcciojpiaa.Rl
set_option linter.unusedVariables false
set_option linter.unusedSimpArgs false
open Go Go.RowKit Go.Maps
theorem take_sucD {α : Type} {l : List α} {d : α} {k : Nat} (h : k < l.length) : l.take (k + 1) = l.take k ++ [l.getD k d] := by
  rw [List.take_add_one]; simp [List.getD_eq_getElem?_getD, h]
theorem take_splD {α : Type} {l : List α} {d : α} {k : Nat} (h : k < l.length) : l = l.take k ++ l.getD k d :: l.drop (k + 1) := by
  have h2 := (List.take_append_drop (k + 1) l).symm
  rw [take_sucD (d := d) h, List.append_assoc] at h2
  exact h2
/-! ### backwards -/
def bwE (l : List Ev) : List (Int × Ev) := (List.range l.length).map fun j => (((l.length - 1 - j : Nat) : Int), l.getD (l.length - 1 - j) ev0)
theorem bwE_len (l : List Ev) : (bwE l).length = l.length := by simp [bwE]
theorem bwE_at {l : List Ev} {j : Nat} (h : j < l.length) : (bwE l).getD j (0, ev0) = (((l.length - 1 - j : Nat) : Int), l.getD (l.length - 1 - j) ev0) := by
  rw [List.getD_eq_getElem?_getD, bwE, List.getElem?_map, List.getElem?_range h]; rfl
set_option maxRecDepth 100000 in
theorem e_Backward : Ent Try.prog 47 := fun _ _ => rfl
set_option maxRecDepth 100000 in
theorem e_Backward1 : Ent Try.prog 62 := fun _ _ => rfl
set_option maxRecDepth 8000 in
theorem Backward_c (B : Option Addr) (n cB : Nat) (w : World) : Calls Try.prog 47 #[.slice B n cB] w (RetP (NewR (fun b => .func (.func 62) #[] #[.pointer (some ⟨b, 0, none⟩)]) 23 [.slice B n cB] w)) := by
  refine calls_of_cw (args := [.slice B n cB]) Try.func47 rfl rfl ?_
  have S := Sat.start [] w
  (repeat' (first | apply cw_seq | apply cw_region | apply wl_nil | apply cw_ret | (apply x_assign; exact rfl; exact rfl; (exact (by repeat' constructor))) | (apply x_box; assumption; exact rfl; exact rfl; (exact (by repeat' constructor)); (exact (by repeat' constructor)); intro _ _ _) | (apply x_makeFunc; exact rfl; exact rfl; (exact (by repeat' constructor)))))
  all_goals (first | refine q_retS (by assumption) rfl (by repeat (first | exact .nil | (apply RV.tmp; exact (by repeat' constructor)) | (apply RV.cell; exact rfl; exact (by repeat' constructor); exact rfl; exact rfl; exact (by repeat' constructor)))) ?_ | (simp only [thenQ, blockQ]; refine q_retS (by assumption) rfl (by repeat (first | exact .nil | (apply RV.tmp; exact (by repeat' constructor)) | (apply RV.cell; exact rfl; exact (by repeat' constructor); exact rfl; exact rfl; exact (by repeat' constructor)))) ?_))
  all_goals exact Sat.newR (by assumption) (by exact (by repeat' constructor))
set_option maxRecDepth 8000 in
set_option maxHeartbeats 4000000 in
theorem back_it {w0 : World} {M : List Nat} {b n cB : Nat} {B : Option Addr} {c : List Ev} (hn : n = c.length) (O : Old w0 M B 4 c.length (fun i => evC (c.getD i ev0))) (hc : c.length ≤ 1000000) :
    Iter Try.prog 62 [.pointer (some ⟨b, 0, none⟩)] (fun p : Int × Ev => [.int .i64 p.1, .agg #[.int .i64 (p.2).k, .string (p.2).g, .string (p.2).p, .string (p.2).l]]) (bwE c) w0 M [.cl b 23 [.slice B n cB]] := by
  subst hn
  intro l' J Jx hY h W h0 S
  refine calls_of_cw (args := [.func (.yield l') #[] #[], .pointer (some ⟨b, 0, none⟩)]) Try.func62 rfl rfl ?_
  replace S : Sat w0 M (_ :: h) W := S
  (repeat' (first | apply cw_seq | apply cw_region | apply wl_nil | apply cw_block | (apply x_assign; exact rfl; exact rfl; (exact (by repeat' constructor))) | (apply x_load; assumption; exact rfl; exact rfl; exact rfl; (exact (by repeat' constructor)); exact rfl; exact rfl; (exact (by repeat' constructor))) | (apply x_bin; exact rfl; exact rfl; exact rfl; (first | exact .z (.wrap (by omega)) | exact (by repeat' constructor))) | (apply x_builtin; exact rfl; exact rfl; exact (fun _ => rfl); (exact (by repeat' constructor)))))
  refine cw_loop [3, 7, 8, 9, 10, 11, 12, 13, 14, 15, 16, 17, 18] [3] (fun us wr => ∃ (j : Nat) (z : Int), j ≤ c.length ∧ z = (c.length : Int) - 1 - j ∧ us = [.int .i64 z] ∧ ∃ hh, Sat w0 M (.cl b 23 [.slice B c.length cB] :: hh) wr ∧ J ((bwE c).take j) hh) (fun us _ => (intOf (us.getD 0 undef) + 1).toNat) ?_ ?_
  · exact ⟨0, (c.length : Int) - 1, by omega, by omega, rfl, h, S, h0⟩
  rintro g us wr ⟨j, z, hj, hz, rfl, hh, Sr, hJ⟩
  clear S h0
  by_cases hlt : j < c.length
  · have hbl : j < (bwE c).length := by rw [bwE_len]; exact hlt
    have hsp := take_splD (d := ((0 : Int), ev0)) hbl
    have hz0 : 0 ≤ z ∧ z < c.length := by omega
    have hzn : z.toNat = c.length - 1 - j := by omega
    have hat := bwE_at hlt
    rw [← hzn, show ((z.toNat : Nat) : Int) = z by omega] at hat
    have hYn : ∀ fr h W, J ((bwE c).take j) h → Sat w0 M (fr ++ h) W → YieldR Try.prog l' [.int .i64 z, .agg #[.int .i64 (c.getD z.toNat ev0).k, .string (c.getD z.toNat ev0).g, .string (c.getD z.toNat ev0).p, .string (c.getD z.toNat ev0).l]] W (fun b W' => ∃ h', Sat w0 M (fr ++ h') W' ∧ ((b = true ∧ J ((bwE c).take j ++ [(bwE c).getD j (0, ev0)]) h') ∨ (b = false ∧ Jx ((bwE c).take j ++ [(bwE c).getD j (0, ev0)]) h'))) := by
      intro fr h W hj hs
      have := hY _ _ _ fr h W hsp hj hs
      rw [hat] at this ⊢
      exact this
    (repeat' (first | apply cw_seq | apply cw_region | apply wl_nil | apply cw_block | apply cw_skip | apply cw_ret | (apply x_indexI (z := z); exact rfl; exact rfl; exact rfl; exact rfl; exact rfl; (constructor); exact hz0.1; exact hz0.2; (exact (Old.rd O).some_ (by omega))) | (apply x_loadR; exact rfl; exact rfl; exact rfl; exact Old.now O (by assumption); (exact (show z.toNat < c.length by omega)); exact rfl; exact rfl; (exact (by repeat' constructor))) | (apply x_yield; exact rfl; exact rfl; exact rfl; (exact (by repeat' constructor)); exact hYn [_] _ _ hJ (by assumption); rintro _ w2 ⟨h2, S2, ⟨rfl, hJ2⟩ | ⟨rfl, hJ2⟩⟩ <;> replace S2 : Sat w0 M (_ :: h2) w2 := S2) | (apply x_move; exact rfl; exact rfl; (exact (by repeat' constructor))) | (apply x_assign; exact rfl; exact rfl; (exact (by repeat' constructor))) | (apply x_load; assumption; exact rfl; exact rfl; exact rfl; (exact (by repeat' constructor)); exact rfl; exact rfl; (exact (by repeat' constructor))) | (apply x_bin; exact rfl; exact rfl; exact rfl; (first | exact .z (.wrap (by omega)) | exact (by repeat' constructor))) | (apply x_un; exact rfl; exact rfl; exact rfl; (first | exact .z (.wrap (by omega)) | exact (by repeat' constructor))) | (apply cw_true; exact rfl) | (apply cw_false; exact rfl) | (apply x_dec; exact rfl; all_goals (intro _; try omega))))
    all_goals first
      | (refine ⟨rfl, (by repeat (first | exact Agree.updl rfl (Agree.mask _ _ _) | refine Agree.upd rfl ?_)), ⟨j + 1, z - 1, hlt, by omega, rfl, h2, S2, by rw [take_sucD (d := ((0 : Int), ev0)) hbl]; exact hJ2⟩, ?_⟩
         show (z - 1 + 1).toNat < (z + 1).toNat
         omega)
      | (first | (apply q_ret0; exact rfl) | (apply q_end0; exact rfl)
         exact ⟨_, S2.drop1, .inr ⟨_, (by rw [← take_sucD (d := ((0 : Int), ev0)) hbl]; exact List.take_prefix _ _), hJ2⟩⟩)
      | skip
    all_goals done
  · (repeat' (first | apply cw_seq | apply cw_region | apply wl_nil | apply cw_exit | (apply x_move; exact rfl; exact rfl; (exact (by repeat' constructor))) | (apply x_bin; exact rfl; exact rfl; exact rfl; (first | exact .z (.wrap (by omega)) | exact (by repeat' constructor))) | (apply x_dec; exact rfl; all_goals (intro _; try omega))))
    first | (apply q_ret0; exact rfl) | (apply q_end0; exact rfl)
    exact ⟨_, Sr.drop1, .inl (by rwa [List.take_of_length_le (by rw [bwE_len]; omega)] at hJ)⟩
/-! ### checks and states -/
/-- the next check of each gauge, when the last d events are done -/
noncomputable def tF (l : List Ev) : Nat → Lit → Option (Int × Int)
  | 0 => fun _ => none
  | d + 1 => fun z => @ite _ (((l.getD (l.length - 1 - d) ev0).k = 1 ∨ (l.getD (l.length - 1 - d) ev0).k = 2) ∧ z = keyL (l.getD (l.length - 1 - d) ev0).g) (Classical.propDecidable _) (some (((l.length - 1 - d : Nat) : Int), (l.getD (l.length - 1 - d) ev0).k + 1)) (tF l d z)
theorem tF_hit {l : List Ev} {d : Nat} (h : (l.getD (l.length - 1 - d) ev0).k = 1 ∨ (l.getD (l.length - 1 - d) ev0).k = 2) : tF l (d + 1) (keyL (l.getD (l.length - 1 - d) ev0).g) = some (((l.length - 1 - d : Nat) : Int), (l.getD (l.length - 1 - d) ev0).k + 1) := if_pos ⟨h, rfl⟩
theorem tF_miss {l : List Ev} {d : Nat} {z : Lit} (h : ¬ (((l.getD (l.length - 1 - d) ev0).k = 1 ∨ (l.getD (l.length - 1 - d) ev0).k = 2) ∧ z = keyL (l.getD (l.length - 1 - d) ev0).g)) : tF l (d + 1) z = tF l d z := if_neg h
abbrev ckV (x : Int × Int) : Value := .agg #[.int .i64 x.1, .int .i64 x.2]
noncomputable def mF (l : List Ev) (d : Nat) : Lit → Option Value := fun z => (tF l d z).map ckV
/-- what is told of the event n - 1 - d -/
noncomputable def ckF (l : List Ev) (d : Nat) : Int × Int :=
  @ite _ ((l.getD (l.length - 1 - d) ev0).k = 0) (Classical.propDecidable _) ((tF l d (keyL (l.getD (l.length - 1 - d) ev0).g)).getD (-1, 1)) (-1, 0)
theorem mF_put {l : List Ev} {d : Nat} (h : (l.getD (l.length - 1 - d) ev0).k = 1 ∨ (l.getD (l.length - 1 - d) ev0).k = 2) : mF l (d + 1) = putV (mF l d) (keyL (l.getD (l.length - 1 - d) ev0).g) (ckV (((l.length - 1 - d : Nat) : Int), (l.getD (l.length - 1 - d) ev0).k + 1)) := by
  funext z
  unfold mF
  by_cases hz : z = keyL (l.getD (l.length - 1 - d) ev0).g
  · subst hz
    rw [putV_same, tF_hit h]
    rfl
  · rw [putV_other hz, tF_miss fun e => hz e.2]
theorem mF_skip {l : List Ev} {d : Nat} (h : ¬ ((l.getD (l.length - 1 - d) ev0).k = 1 ∨ (l.getD (l.length - 1 - d) ev0).k = 2)) : mF l (d + 1) = mF l d := by
  funext z
  unfold mF
  rw [tF_miss fun e => h e.1]
theorem ckF_other {l : List Ev} {d : Nat} (h : ¬ (l.getD (l.length - 1 - d) ev0).k = 0) : ckF l d = (-1, 0) := if_neg h
theorem ckF_none {l : List Ev} {d : Nat} (h : (l.getD (l.length - 1 - d) ev0).k = 0) (h2 : tF l d (keyL (l.getD (l.length - 1 - d) ev0).g) = none) : ckF l d = (-1, 1) := by
  rw [ckF, if_pos h, h2]; rfl
theorem ckF_some {l : List Ev} {d : Nat} {x : Int × Int} (h : (l.getD (l.length - 1 - d) ev0).k = 0) (h2 : tF l d (keyL (l.getD (l.length - 1 - d) ev0).g) = some x) : ckF l d = x := by
  rw [ckF, if_pos h, h2]; rfl
noncomputable def stL (l : List Ev) : List (Int × Int × Int) := (List.range l.length).map fun d => (((l.length - 1 - d : Nat) : Int), ckF l d)
theorem stL_len (l : List Ev) : (stL l).length = l.length := by simp [stL]
theorem stL_at {l : List Ev} {d : Nat} (h : d < l.length) : (stL l).getD d (0, 0, 0) = (((l.length - 1 - d : Nat) : Int), ckF l d) := by
  rw [List.getD_eq_getElem?_getD, stL, List.getElem?_map, List.getElem?_range h]; rfl
end Go.Proofs.Ytnndkdcciojpiaa.Rl
