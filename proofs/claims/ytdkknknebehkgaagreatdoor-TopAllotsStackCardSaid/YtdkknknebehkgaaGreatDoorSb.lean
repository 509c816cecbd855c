/- Pairs of holes and pins: what fits. No statement of the seat is proved here. -/
import Derived.Test.YtdkknknebehkgaaGreatDoorSa
import Derived.Test.YtdkknknebehkgaaGreatDoorEngQ
import Derived.Test.YtdkknknebehkgaaGreatDoorEngRl
import Derived.Test.YtdkknknebehkgaaGreatDoorEngK
import Derived.Test.YtdkknknebehkgaaGreatDoorProg
namespace Go.Proofs.YtdkknknebehkgaaGreatDoor.Sl
set_option linter.unusedVariables false
set_option linter.unusedSimpArgs false
open Go Go.RowKit
theorem mixed : Tryz.prog.follows .mixedOrders = true := by kernel_rfl
def fitB (lo hi a b : Int) : Bool := decide (lo ≤ a - b) && decide (a - b ≤ hi)
set_option maxRecDepth 100000 in
theorem e_fits : Ent Tryz.prog 37 := fun _ _ => rfl
set_option maxRecDepth 8000 in
theorem fits_c (a b lo hi : Int) (ha : 0 ≤ a ∧ a ≤ 100000) (hb : 0 ≤ b ∧ b ≤ 100000) (w : World) : Calls Tryz.prog 37 #[.int .i64 a, .int .i64 b, .agg #[.int .i64 lo, .int .i64 hi]] w (RetP (Val (.bool (fitB lo hi a b)) w)) := by
  refine calls_of_cw (args := [.int .i64 a, .int .i64 b, .agg #[.int .i64 lo, .int .i64 hi]]) Tryz.func37 rfl rfl ?_
  have S := Sat.start [] w
  (repeat' (first | apply cw_seq | apply cw_region | apply wl_nil | apply cw_ret | (apply x_gdec; exact rfl; exact rfl; all_goals (intro _; try omega)) | (apply x_not; exact rfl; exact rfl) | (apply x_move; exact rfl; exact rfl; (exact (by repeat' constructor))) | (apply x_assign; exact rfl; exact rfl; (exact (by repeat' constructor))) | (apply x_fieldB; exact rfl; exact rfl; exact rfl; exact rfl; (constructor)) | (apply x_load; assumption; exact rfl; exact rfl; exact rfl; (exact (by repeat' constructor)); exact rfl; exact rfl; (exact (by repeat' constructor))) | (apply x_bin; exact rfl; exact rfl; exact rfl; (first | exact .z (.wrap (by omega)) | exact (by repeat' constructor))) | (apply x_pick; exact rfl; exact rfl; exact rfl; (exact (by repeat' constructor))) | (apply x_box; assumption; exact rfl; exact rfl; (exact (by repeat' constructor)); (exact (by repeat' constructor)); intro _ _ _)))
  all_goals (first | refine q_retS (by assumption) rfl (by repeat (first | exact .nil | (apply RV.tmp; exact (by repeat' constructor)) | (apply RV.cell; exact rfl; exact (by repeat' constructor); exact rfl; exact rfl; exact (by repeat' constructor)))) ?_ | (simp only [thenQ, blockQ]; refine q_retS (by assumption) rfl (by repeat (first | exact .nil | (apply RV.tmp; exact (by repeat' constructor)) | (apply RV.cell; exact rfl; exact (by repeat' constructor); exact rfl; exact rfl; exact (by repeat' constructor)))) ?_))
  all_goals refine ⟨?_, Sat.keeps (by assumption)⟩
  all_goals first
    | (show Value.bool _ = Value.bool _; congr 1; unfold fitB; simp_all [pack]; done)
    | (unfold fitB; simp_all [pack]; done)
    | (unfold fitB; simp_all [pack]; omega)
abbrev zC (x : Int) : List Value := [.int .i64 x]
set_option maxRecDepth 100000 in
theorem e_most1 : Ent Tryz.prog 36 := fun _ _ => rfl
set_option maxRecDepth 8000 in
theorem most1_c {b3 b4 b5 : Nat} {X Y : Option Addr} {cx cy : Nat} {xs ys : List Int} {lo hi : Int}
    (hx : ∀ i, i < xs.length → 0 ≤ xs.getD i 0 ∧ xs.getD i 0 ≤ 100000) (hy : ∀ i, i < ys.length → 0 ≤ ys.getD i 0 ∧ ys.getD i 0 ≤ 100000) (i j : Nat) (hi' : i < xs.length) (hj : j < ys.length) (w : World)
    (RX : Rd w X 1 xs.length (fun i => zC (xs.getD i 0))) (RY : Rd w Y 1 ys.length (fun i => zC (ys.getD i 0)))
    (B3 : OldB w [] b3 40 [.slice X xs.length cx]) (B4 : OldB w [] b4 40 [.slice Y ys.length cy]) (B5 : OldB w [] b5 47 [.int .i64 lo, .int .i64 hi]) :
    Calls Tryz.prog 36 #[.int .i64 (i : Int), .int .i64 (j : Int), .pointer (some ⟨b3, 0, none⟩), .pointer (some ⟨b4, 0, none⟩), .pointer (some ⟨b5, 0, none⟩)] w (RetP (Val (.bool (fitB lo hi (xs.getD i 0) (ys.getD j 0))) w)) := by
  refine calls_of_cw (args := [.int .i64 (i : Int), .int .i64 (j : Int), .pointer (some ⟨b3, 0, none⟩), .pointer (some ⟨b4, 0, none⟩), .pointer (some ⟨b5, 0, none⟩)]) Tryz.func36 rfl rfl ?_
  have S := Sat.start [] w
  have OX := RX.old
  have OY := RY.old
  have h1 := hx i hi'
  have h2 := hy j hj
  (repeat' (first | apply cw_seq | apply cw_region | apply wl_nil | apply cw_ret | (apply z2_callv; exact rfl; exact rfl; exact e_fits; (exact (by repeat' constructor)); intro _ _; (with_reducible exact fits_c (xs.getD i 0) (ys.getD j 0) lo hi h1 h2 _)) | (apply cw_draw (id := 1) [(0, 0), (1, 0), (2, 0), (3, 0), (4, 0), (5, 0), (6, 0), (7, 0), (8, 0), (9, 2), (10, 0)]; assumption; exact mixed; kernel_rfl) | (apply x_assign; exact rfl; exact rfl; (exact (by repeat' constructor))) | (apply y_move; exact rfl; (exact (by repeat' constructor))) | (apply y_assign; exact rfl; (exact (by repeat' constructor))) | (apply y_loadB; exact rfl; exact rfl; assumption; exact rfl; exact rfl; (exact (by repeat' constructor))) | (apply y_index; exact rfl; exact rfl; exact rfl; exact rfl; (constructor); (first | omega | exact size_pos (by assumption) | assumption); (first | exact rfl | assumption | exact Rd.some_ (by assumption) (by omega) | exact Rd.some_ (Old.rd (by assumption)) (by omega) | exact (Sat.rd (by assumption) (by exact (by repeat' constructor))).some_ (by omega))) | (apply y_loadR; exact rfl; exact rfl; assumption; (first | omega | exact size_pos (by assumption) | assumption); exact rfl; exact rfl; (exact (by repeat' constructor))) | (apply y_nil; intro _ _)))
  all_goals first
    | ((first | refine q_retS (by assumption) rfl (by repeat (first | exact .nil | (apply RV.tmp; exact (by repeat' constructor)) | (apply RV.cell; exact rfl; exact (by repeat' constructor); exact rfl; exact rfl; exact (by repeat' constructor)))) ?_ | (simp only [thenQ, blockQ]; refine q_retS (by assumption) rfl (by repeat (first | exact .nil | (apply RV.tmp; exact (by repeat' constructor)) | (apply RV.cell; exact rfl; exact (by repeat' constructor); exact rfl; exact rfl; exact (by repeat' constructor)))) ?_))
       exact ⟨rfl, Sat.keeps (by assumption)⟩)
end Go.Proofs.YtdkknknebehkgaaGreatDoor.Sl
namespace Go.Proofs.YtdkknknebehkgaaGreatDoor.Sl
set_option linter.unusedVariables false
set_option linter.unusedSimpArgs false
open Go Go.RowKit
theorem mt_yes {i : Nat} {l : List Int} (h : 0 ≤ gI l i) : (mt (i + 1) l).length = (mt i l).length + 1 := by
  unfold mt
  rw [List.range_succ, List.filter_append, List.length_append, List.filter_cons, if_pos (decide_eq_true h)]
  rfl
theorem mt_no {i : Nat} {l : List Int} (h : ¬ 0 ≤ gI l i) : (mt (i + 1) l).length = (mt i l).length := by
  unfold mt
  rw [List.range_succ, List.filter_append, List.length_append, List.filter_cons_of_neg (by simpa using h)]
  rfl
/-- the cells of a matching -/
abbrev mCs (F OH OP FX GV : Value) : List Value := [F, OH, OP, FX, GV]
set_option maxRecDepth 100000 in
theorem e_size : Ent Tryz.prog 42 := fun _ _ => rfl
set_option maxRecDepth 8000 in
set_option maxHeartbeats 4000000 in
theorem size_c {bm : Nat} {T : TypeId} {F OP FX GV : Value} {H : Option Addr} {cH : Nat} {oh : List Int} (hn : oh.length ≤ 100000) (w : World) (B : OldB w [] bm T (mCs F (.slice H oh.length cH) OP FX GV)) (R : Rd w H 1 oh.length (fun i => zC (oh.getD i (-1)))) :
    Calls Tryz.prog 42 #[.pointer (some ⟨bm, 0, none⟩)] w (RetP (Val (.int .i64 ((mt oh.length oh).length : Nat)) w)) := by
  refine calls_of_cw (args := [.pointer (some ⟨bm, 0, none⟩)]) Tryz.func42 rfl rfl ?_
  have S := Sat.start [] w
  have O := R.old
  (repeat' (first | apply cw_seq | apply cw_region | apply wl_nil | apply cw_block | (apply x_nilP; exact rfl; exact rfl; exact rfl) | (apply x_move; exact rfl; exact rfl; (exact (by repeat' constructor))) | (apply x_assign; exact rfl; exact rfl; (exact (by repeat' constructor))) | (apply x_fieldB; exact rfl; exact rfl; exact rfl; exact rfl; (constructor)) | (apply x_builtin; exact rfl; exact rfl; exact (fun _ => rfl); (exact (by repeat' constructor))) | (apply x_loadB; assumption; exact rfl; exact rfl; exact rfl; assumption; exact rfl; exact rfl; (exact (by repeat' constructor)))))
  refine cw_loop [3, 5, 11, 12, 13, 14, 15, 16, 17, 18, 19] [11, 3] (fun us wr => ∃ i : Nat, i ≤ oh.length ∧ us = [.int .i64 i, .int .i64 ((mt i oh).length : Nat)] ∧ Sat w [] [] wr) (fun us _ => oh.length - (intOf (us.getD 0 undef)).toNat) ?_ ?_
  · exact ⟨0, Nat.zero_le _, rfl, by assumption⟩
  clear S
  rintro g us wr ⟨i, hi, rfl, Sr⟩
  have hle := mt_le i oh
  by_cases hlt : i < oh.length
  · by_cases h0 : 0 ≤ gI oh i
    · have e := mt_yes h0
      (repeat' (first | apply cw_seq | apply cw_region | apply wl_nil | apply cw_block | apply cw_skip | (apply x_move; exact rfl; exact rfl; (exact (by repeat' constructor))) | (apply x_assign; exact rfl; exact rfl; (exact (by repeat' constructor))) | (apply x_bin; exact rfl; exact rfl; exact rfl; (first | exact .z (.wrap (by omega)) | exact (by repeat' constructor))) | (apply x_index; exact rfl; exact rfl; exact rfl; exact rfl; exact rfl; (constructor); (first | omega | exact size_pos (by assumption) | assumption); (first | exact rfl | assumption | exact Rd.some_ (by assumption) (by omega) | exact Rd.some_ (Old.rd (by assumption)) (by omega) | exact (Sat.rd (by assumption) (by exact (by repeat' constructor))).some_ (by omega))) | (apply x_loadR; exact rfl; exact rfl; exact rfl; (first | exact Old.now (by assumption) (by assumption) | exact Sat.rdpr (by assumption) (by exact (by repeat' constructor)) | exact Sat.rd (by assumption) (by exact (by repeat' constructor))); (first | omega | exact size_pos (by assumption) | assumption); exact rfl; exact rfl; (exact (by repeat' constructor))) | (apply x_dec; exact rfl; all_goals (intro _; try omega))))
      all_goals first
        | (refine ⟨rfl, (by repeat (first | exact Agree.updl rfl (Agree.mask _ _ _) | refine Agree.upd rfl ?_)), ⟨i + 1, hlt, by rw [e]; rfl, by assumption⟩, ?_⟩
           show oh.length - (i + 1 : Int).toNat < oh.length - (i : Int).toNat
           omega)
        | (exfalso; simp only [gI] at h0; omega)
    · have e := mt_no h0
      (repeat' (first | apply cw_seq | apply cw_region | apply wl_nil | apply cw_block | apply cw_skip | (apply x_move; exact rfl; exact rfl; (exact (by repeat' constructor))) | (apply x_assign; exact rfl; exact rfl; (exact (by repeat' constructor))) | (apply x_bin; exact rfl; exact rfl; exact rfl; (first | exact .z (.wrap (by omega)) | exact (by repeat' constructor))) | (apply x_index; exact rfl; exact rfl; exact rfl; exact rfl; exact rfl; (constructor); (first | omega | exact size_pos (by assumption) | assumption); (first | exact rfl | assumption | exact Rd.some_ (by assumption) (by omega) | exact Rd.some_ (Old.rd (by assumption)) (by omega) | exact (Sat.rd (by assumption) (by exact (by repeat' constructor))).some_ (by omega))) | (apply x_loadR; exact rfl; exact rfl; exact rfl; (first | exact Old.now (by assumption) (by assumption) | exact Sat.rdpr (by assumption) (by exact (by repeat' constructor)) | exact Sat.rd (by assumption) (by exact (by repeat' constructor))); (first | omega | exact size_pos (by assumption) | assumption); exact rfl; exact rfl; (exact (by repeat' constructor))) | (apply x_dec; exact rfl; all_goals (intro _; try omega))))
      all_goals first
        | (refine ⟨rfl, (by repeat (first | exact Agree.updl rfl (Agree.mask _ _ _) | refine Agree.upd rfl ?_)), ⟨i + 1, hlt, by rw [e]; rfl, by assumption⟩, ?_⟩
           show oh.length - (i + 1 : Int).toNat < oh.length - (i : Int).toNat
           omega)
        | (exfalso; simp only [gI] at h0; omega)
  · have hie : i = oh.length := by omega
    subst hie
    (repeat' (first | apply cw_seq | apply cw_region | apply wl_nil | apply cw_exit | apply cw_ret | (apply x_move; exact rfl; exact rfl; (exact (by repeat' constructor))) | (apply x_assign; exact rfl; exact rfl; (exact (by repeat' constructor))) | (apply x_bin; exact rfl; exact rfl; exact rfl; (first | exact .z (.wrap (by omega)) | exact (by repeat' constructor))) | (apply x_dec; exact rfl; all_goals (intro _; try omega))))
    (first | refine q_retS (by assumption) rfl (by repeat (first | exact .nil | (apply RV.tmp; exact (by repeat' constructor)) | (apply RV.cell; exact rfl; exact (by repeat' constructor); exact rfl; exact rfl; exact (by repeat' constructor)))) ?_ | (simp only [thenQ, blockQ]; refine q_retS (by assumption) rfl (by repeat (first | exact .nil | (apply RV.tmp; exact (by repeat' constructor)) | (apply RV.cell; exact rfl; exact (by repeat' constructor); exact rfl; exact rfl; exact (by repeat' constructor)))) ?_))
    exact ⟨rfl, Sat.keeps (by assumption)⟩
end Go.Proofs.YtdkknknebehkgaaGreatDoor.Sl
