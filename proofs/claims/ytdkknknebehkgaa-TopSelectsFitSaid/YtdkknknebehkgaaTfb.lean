/- Tolerance grades: tolerances, deviations and limits of classes. No statement of the seat is proved here. -/
import Derived.Test.YtdkknknebehkgaaTfa
namespace Go.Proofs.Ytdkknknebehkgaa
set_option linter.unusedVariables false
set_option linter.unusedSimpArgs false
open Go Go.RowKit
def stC (p : Int × Int) : List Value := [.int .i64 p.1, .int .i64 p.2]
theorem stC_len (p : Int × Int) : (stC p).length = 2 := rfl
def st0 : Int × Int := (0, 0)
def stepL : List (Int × Int) := [(3000, 6), (6000, 8), (10000, 9), (18000, 11), (30000, 13), (50000, 16), (80000, 19), (100000, 22)]
set_option maxRecDepth 100000 in
theorem e_indexF : Ent Try.prog 79 := fun _ _ => rfl
set_option maxRecDepth 4000 in
set_option maxHeartbeats 2000000 in
theorem indexF_c (A : Option Addr) (c : Nat) (l : List (Int × Int)) (hl : l.length ≤ 9223372036854775807) (φ : Int × Int → Prop) (g : FuncId) (cap : List Value) (hE : Ent Try.prog g) (w : World) (R : Rd w A 2 l.length (fun i => stC (l.getD i st0))) (hF : ∀ q ∈ l, ∀ w', Keeps [] w w' → Calls Try.prog g (.agg #[.int .i64 (q).1, .int .i64 (q).2] :: cap).toArray w' (RetP (Val (.bool (@decide (φ q) (Classical.propDecidable _))) w'))) : Calls Try.prog 79 #[.slice A l.length c, .func (.func g) #[] cap.toArray] w (RetP (Val (.int .i64 (idxG φ l 0)) w)) := by
  refine calls_of_cw (args := [.slice A l.length c, .func (.func g) #[] cap.toArray]) Try.func79 rfl rfl ?_
  have S := Sat.start [] w
  have O := (R).old
  (repeat' (first | apply cw_seq | apply cw_region | apply wl_nil | apply cw_block | (apply x_move; exact rfl; exact rfl; (exact (by repeat' constructor))) | (apply x_assign; exact rfl; exact rfl; (exact (by repeat' constructor))) | (apply x_builtin; exact rfl; exact rfl; exact (fun _ => rfl); (exact (by repeat' constructor)))))
  refine cw_loop [4, 5, 8, 9, 10, 11, 12, 13, 14, 15, 16, 17, 18] [8] (fun us wr => ∃ k : Nat, k ≤ l.length ∧ us = [.int .i64 k] ∧ Sat w [] [] wr ∧ idxG φ l 0 = idxG φ (l.drop k) k) (fun us _ => l.length - (intOf (us.getD 0 undef)).toNat) ?_ ?_
  · exact ⟨0, by omega, rfl, S, rfl⟩
  clear S
  rintro g' us wr ⟨k, hk, rfl, Sr, hfe⟩
  by_cases hlt : k < l.length
  · rw [drop_getD hlt st0] at hfe
    (repeat' (first | apply cw_seq | apply cw_region | apply wl_nil | apply cw_block | apply cw_skip | apply cw_ret | (apply x_callv; assumption; exact rfl; exact rfl; exact rfl; exact hE; (exact NA.cons (by exact (by repeat' constructor)) (NA.rfl_ _)); exact hF _ (by rw [getD_lt hlt]; exact List.getElem_mem hlt) _ (Sat.keeps (by assumption)); intro _ _ _) | (apply x_move; exact rfl; exact rfl; (exact (by repeat' constructor))) | (apply x_assign; exact rfl; exact rfl; (exact (by repeat' constructor))) | (apply x_bin; exact rfl; exact rfl; exact rfl; (first | exact .z (.wrap (by omega)) | exact (by repeat' constructor))) | (apply x_index; exact rfl; exact rfl; exact rfl; exact rfl; exact rfl; (constructor); (first | omega | exact size_pos (by assumption) | assumption); (first | exact rfl | assumption | exact Rd.some_ (by assumption) (by omega) | exact Rd.some_ (Old.rd (by assumption)) (by omega) | exact (Sat.rd (by assumption) (by exact (by repeat' constructor))).some_ (by omega))) | (apply x_loadR; exact rfl; exact rfl; exact rfl; (first | exact Old.now (by assumption) (by assumption) | exact Sat.rdpr (by assumption) (by exact (by repeat' constructor)) | exact Sat.rd (by assumption) (by exact (by repeat' constructor))); (first | omega | exact size_pos (by assumption) | assumption); exact rfl; exact rfl; (exact (by repeat' constructor))) | (apply x_dec; exact rfl; all_goals (intro _; try omega))))
    · (first | refine q_retS (by assumption) rfl (by repeat (first | exact .nil | (apply RV.tmp; exact (by repeat' constructor)) | (apply RV.cell; exact rfl; exact (by repeat' constructor); exact rfl; exact rfl; exact (by repeat' constructor)))) ?_ | (simp only [thenQ, blockQ]; refine q_retS (by assumption) rfl (by repeat (first | exact .nil | (apply RV.tmp; exact (by repeat' constructor)) | (apply RV.cell; exact rfl; exact (by repeat' constructor); exact rfl; exact rfl; exact (by repeat' constructor)))) ?_))
      refine ⟨?_, Sat.keeps (by assumption)⟩
      rw [hfe, idxG_yes (by assumption)]
      rfl
    · refine ⟨rfl, (by repeat (first | exact Agree.updl rfl (Agree.mask _ _ _) | refine Agree.upd rfl ?_)), ⟨k + 1, hlt, rfl, by assumption, ?_⟩, ?_⟩
      · rw [hfe, idxG_no (by assumption)]
      · show l.length - (k + 1 : Int).toNat < l.length - (k : Int).toNat
        omega
  · (repeat' (first | apply cw_seq | apply cw_region | apply wl_nil | apply cw_exit | apply cw_ret | (apply x_assign; exact rfl; exact rfl; (exact (by repeat' constructor))) | (apply x_bin; exact rfl; exact rfl; exact rfl; (first | exact .z (.wrap (by omega)) | exact (by repeat' constructor))) | (apply x_dec; exact rfl; all_goals (intro _; try omega))))
    (first | refine q_retS (by assumption) rfl (by repeat (first | exact .nil | (apply RV.tmp; exact (by repeat' constructor)) | (apply RV.cell; exact rfl; exact (by repeat' constructor); exact rfl; exact rfl; exact (by repeat' constructor)))) ?_ | (simp only [thenQ, blockQ]; refine q_retS (by assumption) rfl (by repeat (first | exact .nil | (apply RV.tmp; exact (by repeat' constructor)) | (apply RV.cell; exact rfl; exact (by repeat' constructor); exact rfl; exact rfl; exact (by repeat' constructor)))) ?_))
    refine ⟨?_, Sat.keeps (by assumption)⟩
    rw [hfe, List.drop_eq_nil_of_le (by omega)]
    rfl
theorem idx_at {s : Int} (h : s ≤ 100000) : idxG (fun p : Int × Int => s ≤ p.1) stepL 0 = (atN s : Nat) := by
  unfold atN stepL
  (repeat' split) <;> (repeat (first | rw [idxG_yes (by simp; omega)] | rw [idxG_no (by simp; omega)])) <;> rfl
theorem find_v {s : Int} (hs : s ≤ 100000) {w0 w : World} {M : List Nat} {h : List HO} {b bx T : Nat} (S : Sat w0 M h w) (hh : Has h (.cl b T (stepL.flatMap stC))) (hb : Has h (.cl bx 3 [.int .i64 s])) :
    Calls Try.prog 79 #[.slice (some ⟨b, 0, none⟩) 8 8, .func (.func 80) #[] #[.pointer (some ⟨bx, 0, none⟩)]] w (RetP (Val (.int .i64 (atN s : Nat)) w)) :=
  val_of (indexF_c (some ⟨b, 0, none⟩) 8 stepL (by decide) (fun p => s ≤ p.1) 80 [.pointer (some ⟨bx, 0, none⟩)] e_gindex1 _ (Sat.rdflat (l := stepL) st0 stC_len S hh) (fun q _ w' hk => val_of (gindex1_c q.1 q.2 s _ _ (Sat.oldb S hb hk)) (by simp))) (congrArg (Value.int .i64) (idx_at hs))
set_option maxRecDepth 100000 in
theorem e_gindex : Ent Try.prog 70 := fun _ _ => rfl
set_option maxRecDepth 4000 in
set_option maxHeartbeats 2000000 in
theorem gindex_c (s : Int) (hs : s ≤ 100000) (w : World) : Calls Try.prog 70 #[.int .i64 s] w (RetP (Val (.int .i64 (atN s : Nat)) w)) := by
  refine calls_of_cw (args := [.int .i64 s]) Try.func70 rfl rfl ?_
  have S := Sat.start [] w
  (repeat' (first | apply cw_seq | apply cw_region | apply wl_nil | apply cw_ret | (apply x_callv; assumption; exact rfl; exact rfl; exact rfl; exact e_gsteps; (exact (by repeat' constructor)); exact (gsteps_c _); intro _ _ _) | (apply x_callv; assumption; exact rfl; exact rfl; exact rfl; exact e_indexF; (exact (by repeat' constructor)); exact (find_v hs (by assumption) (by exact (by repeat' constructor)) (by exact (by repeat' constructor))); intro _ _ _) | (apply x_sliceArr; exact rfl; exact rfl; exact rfl; exact rfl) | (apply x_assign; exact rfl; exact rfl; (exact (by repeat' constructor))) | (apply x_box; assumption; exact rfl; exact rfl; (exact (by repeat' constructor)); (exact (by repeat' constructor)); intro _ _ _) | (apply x_alloc; assumption; exact rfl; exact rfl; exact rfl; (exact (by repeat' constructor)); intro _ _ _) | (apply x_store; assumption; exact rfl; exact rfl; (exact (by repeat' constructor)); (exact (by repeat' constructor)); exact rfl; exact rfl; exact rfl; (exact (by repeat' constructor)); intro _ _) | (apply x_makeFunc; exact rfl; exact rfl; (exact (by repeat' constructor)))))
  all_goals (first | refine q_retS (by assumption) rfl (by repeat (first | exact .nil | (apply RV.tmp; exact (by repeat' constructor)) | (apply RV.cell; exact rfl; exact (by repeat' constructor); exact rfl; exact rfl; exact (by repeat' constructor)))) ?_ | (simp only [thenQ, blockQ]; refine q_retS (by assumption) rfl (by repeat (first | exact .nil | (apply RV.tmp; exact (by repeat' constructor)) | (apply RV.cell; exact rfl; exact (by repeat' constructor); exact rfl; exact rfl; exact (by repeat' constructor)))) ?_))
  all_goals exact ⟨rfl, Sat.keeps (by assumption)⟩
end Go.Proofs.Ytdkknknebehkgaa
