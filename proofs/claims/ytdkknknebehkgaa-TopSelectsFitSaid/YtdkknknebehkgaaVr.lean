/- Parts backwards, with their indices (slices.Backward). No statement of the seat is proved here. -/
import Derived.Test.YtdkknknebehkgaaVq
namespace Go.Proofs.Ytdkknknebehkgaa.Al
set_option linter.unusedVariables false
set_option linter.unusedSimpArgs false
open Go Go.RowKit
theorem take_splZ {α : Type} (z : α) {c : List α} {k : Nat} (h : k < c.length) : c = c.take k ++ c.getD k z :: c.drop (k + 1) := by
  simp [List.getD_eq_getElem?_getD, h]
theorem take_sucZ {α : Type} (z : α) {c : List α} {k : Nat} (h : k < c.length) : c.take (k + 1) = c.take k ++ [c.getD k z] := by
  simp [List.getD_eq_getElem?_getD, h]
theorem tltZ {z : Int} {n : Nat} (h : 0 ≤ z ∧ z < n) : z.toNat < n := by omega
/-- a list of parts backwards, with indices -/
def bwL (c : List Pt) : List (Int × Pt) := (List.range c.length).map fun j => (((c.length - 1 - j : Nat) : Int), pat c (c.length - 1 - j))
theorem bwL_len (c : List Pt) : (bwL c).length = c.length := by simp [bwL]
theorem bwL_at {c : List Pt} {j : Nat} (h : j < c.length) : (bwL c).getD j (0, pt0) = (((c.length - 1 - j : Nat) : Int), pat c (c.length - 1 - j)) := by
  rw [List.getD_eq_getElem?_getD, bwL, List.getElem?_map, List.getElem?_range h]; rfl
set_option maxRecDepth 100000 in
theorem e_Backward : Ent Try.prog 40 := fun _ _ => rfl
set_option maxRecDepth 100000 in
theorem e_Backward1 : Ent Try.prog 52 := fun _ _ => rfl
set_option maxRecDepth 8000 in
theorem Backward_c (B : Option Addr) (n cB : Nat) (w : World) : Calls Try.prog 40 #[.slice B n cB] w (RetP (NewR (fun b => .func (.func 52) #[] #[.pointer (some ⟨b, 0, none⟩)]) 54 [.slice B n cB] w)) := by
  refine calls_of_cw (args := [.slice B n cB]) Try.func40 rfl rfl ?_
  have S := Sat.start [] w
  (repeat' (first | apply cw_seq | apply cw_region | apply wl_nil | apply cw_ret | (apply x_assign; exact rfl; exact rfl; (exact (by repeat' constructor))) | (apply x_box; assumption; exact rfl; exact rfl; (exact (by repeat' constructor)); (exact (by repeat' constructor)); intro _ _ _) | (apply x_makeFunc; exact rfl; exact rfl; (exact (by repeat' constructor)))))
  all_goals (first | refine q_retS (by assumption) rfl (by repeat (first | exact .nil | (apply RV.tmp; exact (by repeat' constructor)) | (apply RV.cell; exact rfl; exact (by repeat' constructor); exact rfl; exact rfl; exact (by repeat' constructor)))) ?_ | (simp only [thenQ, blockQ]; refine q_retS (by assumption) rfl (by repeat (first | exact .nil | (apply RV.tmp; exact (by repeat' constructor)) | (apply RV.cell; exact rfl; exact (by repeat' constructor); exact rfl; exact rfl; exact (by repeat' constructor)))) ?_))
  all_goals exact Sat.newR (by assumption) (by exact (by repeat' constructor))
set_option maxRecDepth 8000 in
set_option maxHeartbeats 4000000 in
theorem back_it {w0 : World} {M : List Nat} {b n cB : Nat} {B : Option Addr} {c : List Pt} (hn : n = c.length) (O : Old w0 M B 2 c.length (fun i => ptC (c.getD i pt0))) (hc : c.length ≤ 1000000) :
    Iter Try.prog 52 [.pointer (some ⟨b, 0, none⟩)] (fun p : Int × Pt => [.int .i64 p.1, .agg #[.int .i64 p.2.wt, .slice p.2.A p.2.cs.length p.2.cA]]) (bwL c) w0 M [.cl b 54 [.slice B n cB]] := by
  subst hn
  intro l' J Jx hY h W h0 S
  refine calls_of_cw (args := [.func (.yield l') #[] #[], .pointer (some ⟨b, 0, none⟩)]) Try.func52 rfl rfl ?_
  replace S : Sat w0 M (_ :: h) W := S
  (repeat' (first | apply cw_seq | apply cw_region | apply wl_nil | apply cw_block | (apply x_assign; exact rfl; exact rfl; (exact (by repeat' constructor))) | (apply x_load; assumption; exact rfl; exact rfl; exact rfl; (exact (by repeat' constructor)); exact rfl; exact rfl; (exact (by repeat' constructor))) | (apply x_bin; exact rfl; exact rfl; exact rfl; (first | exact .z (.wrap (by omega)) | exact (by repeat' constructor))) | (apply x_builtin; exact rfl; exact rfl; exact (fun _ => rfl); (exact (by repeat' constructor)))))
  refine cw_loop [3, 7, 8, 9, 10, 11, 12, 13, 14, 15, 16, 17, 18] [3] (fun us wr => ∃ (j : Nat) (z : Int), j ≤ c.length ∧ z = (c.length : Int) - 1 - j ∧ us = [.int .i64 z] ∧ ∃ hh, Sat w0 M (.cl b 54 [.slice B c.length cB] :: hh) wr ∧ J ((bwL c).take j) hh) (fun us _ => (intOf (us.getD 0 undef) + 1).toNat) ?_ ?_
  · exact ⟨0, (c.length : Int) - 1, by omega, by omega, rfl, h, S, h0⟩
  rintro g us wr ⟨j, z, hj, hz, rfl, hh, Sr, hJ⟩
  clear S h0
  by_cases hlt : j < c.length
  · have hbl : j < (bwL c).length := by rw [bwL_len]; exact hlt
    have hsp := take_splZ ((0 : Int), pt0) hbl
    have hz0 : 0 ≤ z ∧ z < c.length := by omega
    have hzn : z.toNat = c.length - 1 - j := by omega
    have hat := bwL_at hlt
    rw [← hzn, show ((z.toNat : Nat) : Int) = z by omega] at hat
    have hYn : ∀ fr h W, J ((bwL c).take j) h → Sat w0 M (fr ++ h) W → YieldR Try.prog l' [.int .i64 z, .agg #[.int .i64 (c.getD z.toNat pt0).wt, .slice (c.getD z.toNat pt0).A (c.getD z.toNat pt0).cs.length (c.getD z.toNat pt0).cA]] W (fun b W' => ∃ h', Sat w0 M (fr ++ h') W' ∧ ((b = true ∧ J ((bwL c).take j ++ [(bwL c).getD j (0, pt0)]) h') ∨ (b = false ∧ Jx ((bwL c).take j ++ [(bwL c).getD j (0, pt0)]) h'))) := by
      intro fr h W hj hs
      have := hY _ _ _ fr h W hsp hj hs
      rw [hat] at this ⊢
      exact this
    (repeat' (first | apply cw_seq | apply cw_region | apply wl_nil | apply cw_block | apply cw_skip | apply cw_ret | (apply x_indexI (z := z); exact rfl; exact rfl; exact rfl; exact rfl; exact rfl; (constructor); exact hz0.1; exact hz0.2; (exact (Old.rd O).some_ (by omega))) | (apply x_loadR; exact rfl; exact rfl; exact rfl; exact Old.now O (by assumption); exact tltZ hz0; exact rfl; exact rfl; (exact (by repeat' constructor))) | (apply x_yield; exact rfl; exact rfl; exact rfl; (exact (by repeat' constructor)); exact hYn [_] _ _ hJ (by assumption); rintro _ w2 ⟨h2, S2, ⟨rfl, hJ2⟩ | ⟨rfl, hJ2⟩⟩ <;> replace S2 : Sat w0 M (_ :: h2) w2 := S2) | (apply x_move; exact rfl; exact rfl; (exact (by repeat' constructor))) | (apply x_assign; exact rfl; exact rfl; (exact (by repeat' constructor))) | (apply x_load; assumption; exact rfl; exact rfl; exact rfl; (exact (by repeat' constructor)); exact rfl; exact rfl; (exact (by repeat' constructor))) | (apply x_bin; exact rfl; exact rfl; exact rfl; (first | exact .z (.wrap (by omega)) | exact (by repeat' constructor))) | (apply x_un; exact rfl; exact rfl; exact rfl; (first | exact .z (.wrap (by omega)) | exact (by repeat' constructor))) | (apply cw_true; exact rfl) | (apply cw_false; exact rfl) | (apply x_dec; exact rfl; all_goals (intro _; try omega))))
    all_goals first
      | (refine ⟨rfl, (by repeat (first | exact Agree.updl rfl (Agree.mask _ _ _) | refine Agree.upd rfl ?_)), ⟨j + 1, z - 1, hlt, by omega, rfl, h2, S2, by rw [take_sucZ ((0 : Int), pt0) hbl]; exact hJ2⟩, ?_⟩
         show (z - 1 + 1).toNat < (z + 1).toNat
         omega)
      | (first | (apply q_ret0; exact rfl) | (apply q_end0; exact rfl)
         exact ⟨_, S2.drop1, .inr ⟨_, (by rw [← take_sucZ ((0 : Int), pt0) hbl]; exact List.take_prefix _ _), hJ2⟩⟩)
      | skip
    all_goals done
  · (repeat' (first | apply cw_seq | apply cw_region | apply wl_nil | apply cw_exit | (apply x_move; exact rfl; exact rfl; (exact (by repeat' constructor))) | (apply x_bin; exact rfl; exact rfl; exact rfl; (first | exact .z (.wrap (by omega)) | exact (by repeat' constructor))) | (apply x_dec; exact rfl; all_goals (intro _; try omega))))
    first | (apply q_ret0; exact rfl) | (apply q_end0; exact rfl)
    exact ⟨_, Sr.drop1, .inl (by rwa [List.take_of_length_le (by rw [bwL_len]; omega)] at hJ)⟩
end Go.Proofs.Ytdkknknebehkgaa.Al
