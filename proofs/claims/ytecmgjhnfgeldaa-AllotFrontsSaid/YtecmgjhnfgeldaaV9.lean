/- Bounds along the solution: the law walked. No statement of the seat is proved here. -/
import Derived.Test.YtecmgjhnfgeldaaV8
namespace Go.Proofs.Ytecmgjhnfgeldaa.Al
set_option linter.unusedVariables false
set_option linter.unusedSimpArgs false
open Go Go.RowKit
theorem Solve_y {l : List Int} {c e : Int} (m : Int) (B : Option Addr) (cB : Nat) (ps : List Pt) (hp : ps.length ≤ 9223372036854775807) (hcs : ∀ i, i < ps.length → (pat ps i).cs.length ≤ 9223372036854775807) (hN : chkE m ps = 0 → prodN ps ≤ 20000) (hv : slvL m ps = (l, c, e)) (w : World) (R : Rd w B 2 ps.length (fun i => ptC (ps.getD i pt0))) (R2 : ∀ i, i < ps.length → Rd w (pat ps i).A 2 (pat ps i).cs.length (fun j => chC ((pat ps i).cs.getD j ch0))) : Calls Try.prog 14 #[.agg #[.int .i64 m, .slice B ps.length cB]] w (RetP (RowR (fun v => .tuple #[v, .int .i64 c, .int .i64 e]) 3 1 (l.map pkC) w)) := by
  have := SolveT_c m B cB ps hp hcs hN w R R2
  rw [hv] at this
  exact this
theorem Bound_m {m' : Int} {x y : Int} {n : Nat} (m : Int) (B : Option Addr) (cB : Nat) (ps : List Pt) (hp : ps.length ≤ 9223372036854775807) (hcs : ∀ i, i < ps.length → (pat ps i).cs.length ≤ 9223372036854775807) (hcB : ps.length ≤ cB) (L : Option Addr) (cL : Nat) (l : List Int) (hn : n = l.length) (hl : l.length ≤ 9223372036854775807) (hv : bndV m ps l = (x, y)) (w : World) (R : Rd w B 2 ps.length (fun i => ptC (ps.getD i pt0))) (R2 : ∀ i, i < ps.length → Rd w (pat ps i).A 2 (pat ps i).cs.length (fun j => chC ((pat ps i).cs.getD j ch0))) (R3 : Rd w L 1 l.length (fun i => pkC (l.getD i 0))) : Calls Try.prog 23 #[.agg #[.int .i64 m, .slice B ps.length cB], .slice L n cL] w (RetP (Val (.tuple #[.int .i64 x, .int .i64 y]) w)) := by
  subst hn
  have := BoundT_c m B cB ps hp hcs hcB L cL l hl w R R2 R3
  rw [hv] at this
  exact this
theorem slv_cases {m : Int} {ps : List Pt} (hck : chkE m ps = 0) : (chpS (frF ps) m = none ∧ slvL m ps = ([], 0, 6)) ∨ ∃ l c, chpS (frF ps) m = some c ∧ slvL m ps = (l, c, 0) ∧ Sol m ps l c := by
  cases h : chpS (frF ps) m with
  | none => exact .inl ⟨rfl, slvL_n hck h⟩
  | some c => exact .inr ⟨_, c, rfl, slvL_s hck h, slv_sol h⟩
/-- the bound told before the i-th one -/
def lastB (m : Int) (ps : List Pt) (l : List Int) : Nat → Int
  | 0 => 0
  | i + 1 => bI m ps l i
theorem lastB_le {m n : Int} {ps : List Pt} {l : List Int} (ho : OkT m ps) (hs : Sol m ps l n) {i : Nat} (hi : i ≤ l.length) : lastB m ps l i ≤ bI m ps l i ∧ bI m ps l i ≤ n := by
  have hok : okL ps l ps.length := by rw [← hs.len]; exact hs.ok
  have hw : wS ps l ps.length ≤ m := by rw [← hs.len]; exact hs.wd
  have hl := hs.len
  refine ⟨?_, ?_⟩
  · cases i with
    | zero => exact bI_pos ho hok hw
    | succ i => exact bI_step ho hok hw (by omega)
  · have h1 := bI_mono ho hok hw (ps.length - i) i (by omega)
    rw [show i + (ps.length - i) = ps.length by omega, bI_end, ← hl, hs.cost] at h1
    exact h1
theorem lastB_end {m n : Int} {ps : List Pt} {l : List Int} (hs : Sol m ps l n) : lastB m ps l (l.length + 1) = n := by
  show bI m ps l l.length = n
  rw [hs.len, bI_end, ← hs.len, hs.cost]
theorem Bound_n {x y : Int} (m : Int) (B : Option Addr) (cB : Nat) (ps : List Pt) (hp : ps.length ≤ 9223372036854775807) (hcs : ∀ i, i < ps.length → (pat ps i).cs.length ≤ 9223372036854775807) (hcB : ps.length ≤ cB) (hv : bndV m ps [] = (x, y)) (w : World) (R : Rd w B 2 ps.length (fun i => ptC (ps.getD i pt0))) (R2 : ∀ i, i < ps.length → Rd w (pat ps i).A 2 (pat ps i).cs.length (fun j => chC ((pat ps i).cs.getD j ch0))) : Calls Try.prog 23 #[.agg #[.int .i64 m, .slice B ps.length cB], .slice none 0 0] w (RetP (Val (.tuple #[.int .i64 x, .int .i64 y]) w)) :=
  Bound_m (m' := 0) m B cB ps hp hcs hcB none 0 [] rfl (Nat.zero_le _) hv w R R2 (Rd.nil _ _ _ _)
set_option maxRecDepth 100000 in
theorem e_lawBounds : Ent Try.prog 6 := fun _ _ => rfl
set_option maxRecDepth 8000 in
set_option maxHeartbeats 8000000 in
theorem lawBounds_c (m : Int) (B : Option Addr) (cB : Nat) (ps : List Pt) (hp : ps.length ≤ 9223372036854775807) (hcs : ∀ i, i < ps.length → (pat ps i).cs.length ≤ 9223372036854775807) (hz : ps.length * 32 ≤ reachBytes) (hcz : ∀ i, i < ps.length → (pat ps i).cs.length * 16 ≤ reachBytes) (hcB : ps.length ≤ cB) (w : World) (R : Rd w B 2 ps.length (fun i => ptC (ps.getD i pt0))) (R2 : ∀ i, i < ps.length → Rd w (pat ps i).A 2 (pat ps i).cs.length (fun j => chC ((pat ps i).cs.getD j ch0))) : Calls Try.prog 6 #[.agg #[.int .i64 m, .slice B ps.length cB]] w (RetP (Val (.bool true) w)) := by
  refine calls_of_cw (args := [.agg #[.int .i64 m, .slice B ps.length cB]]) Try.func6 rfl rfl ?_
  have S := Sat.start [] w
  have O := R.old
  by_cases hr : Rgt m ps
  · have ho := chkE_ok hr.ck
    have hn := ho.n16
    rcases slv_cases hr.ck with ⟨h1, hv⟩ | ⟨l, c, h1, hv, hs⟩
    · have hbn := bnd_none hr.ck h1
      (repeat' (first | apply cw_seq | apply cw_region | apply wl_nil | apply cw_skip | apply cw_ret | (apply x_gdec; exact rfl; exact rfl; all_goals (intro _; try omega)) | (apply x_callv; assumption; exact rfl; exact rfl; exact rfl; exact e_right; (exact (by repeat' constructor)); with_reducible exact (right_y m B cB ps hp hcs hz hcz hr _ (R.old.now (by assumption)) (fun i hi => (R2 i hi).old.now (by assumption))); intro _ _ _) | (apply x_callv; assumption; exact rfl; exact rfl; exact rfl; exact e_awake; (exact (by repeat' constructor)); with_reducible exact (awake_c _); intro _ _ _) | (apply x_callrowE (m := 0); assumption; exact rfl; exact rfl; exact rfl; exact e_SolveT; (exact (by repeat' constructor)); (with_reducible exact (Solve_y m B cB ps hp hcs (fun _ => hr.few) hv _ (R.old.now (by assumption)) (fun i hi => (R2 i hi).old.now (by assumption)))); exact rfl; intro _ _ _ _) | (apply x_callv; assumption; exact rfl; exact rfl; exact rfl; exact e_BoundT; (exact (by repeat' constructor)); with_reducible exact (Bound_n m B cB ps hp hcs hcB hbn _ (R.old.now (by assumption)) (fun i hi => (R2 i hi).old.now (by assumption))); intro _ _ _) | (apply x_move; exact rfl; exact rfl; (exact (by repeat' constructor))) | (apply x_assign; exact rfl; exact rfl; (exact (by repeat' constructor))) | (apply x_load; assumption; exact rfl; exact rfl; exact rfl; (exact (by repeat' constructor)); exact rfl; exact rfl; (exact (by repeat' constructor))) | (apply x_bin; exact rfl; exact rfl; exact rfl; (first | exact .z (.wrap (by omega)) | exact (by repeat' constructor))) | (apply x_pick; exact rfl; exact rfl; exact rfl; (exact (by repeat' constructor))) | (apply x_un; exact rfl; exact rfl; exact rfl; (first | exact .z (.wrap (by omega)) | exact (by repeat' constructor))) | (apply x_box; assumption; exact rfl; exact rfl; (exact (by repeat' constructor)); (exact (by repeat' constructor)); intro _ _ _) | (apply x_extract; exact rfl; exact rfl; exact rfl; (exact (by repeat' constructor))) | (apply cw_true; exact rfl) | (apply cw_false; exact rfl)))
      (all_goals (first | refine q_retS (by assumption) rfl (by repeat (first | exact .nil | (apply RV.tmp; exact (by repeat' constructor)) | (apply RV.cell; exact rfl; exact (by repeat' constructor); exact rfl; exact rfl; exact (by repeat' constructor)))) ?_ | (simp only [thenQ, blockQ]; refine q_retS (by assumption) rfl (by repeat (first | exact .nil | (apply RV.tmp; exact (by repeat' constructor)) | (apply RV.cell; exact rfl; exact (by repeat' constructor); exact rfl; exact rfl; exact (by repeat' constructor)))) ?_))); (all_goals refine ⟨?_, Sat.keeps (by assumption)⟩); (all_goals first | rfl | (simp [pack]; done) | (exfalso; simp_all; done))
    · have hll := hs.len
      (repeat' (first | apply cw_seq | apply cw_region | apply wl_nil | apply cw_block | apply cw_skip | (apply x_callv; assumption; exact rfl; exact rfl; exact rfl; exact e_right; (exact (by repeat' constructor)); with_reducible exact (right_y m B cB ps hp hcs hz hcz hr _ (R.old.now (by assumption)) (fun i hi => (R2 i hi).old.now (by assumption))); intro _ _ _) | (apply x_callrowE (m := l.length); assumption; exact rfl; exact rfl; exact rfl; exact e_SolveT; (exact (by repeat' constructor)); (with_reducible exact (Solve_y m B cB ps hp hcs (fun _ => hr.few) hv _ (R.old.now (by assumption)) (fun i hi => (R2 i hi).old.now (by assumption)))); exact List.length_map _; intro _ _ _ _) | (apply x_move; exact rfl; exact rfl; (exact (by repeat' constructor))) | (apply x_assign; exact rfl; exact rfl; (exact (by repeat' constructor))) | (apply x_fieldB; exact rfl; exact rfl; exact rfl; exact rfl; (constructor)) | (apply x_load; assumption; exact rfl; exact rfl; exact rfl; (exact (by repeat' constructor)); exact rfl; exact rfl; (exact (by repeat' constructor))) | (apply x_bin; exact rfl; exact rfl; exact rfl; (first | exact .z (.wrap (by omega)) | exact (by repeat' constructor))) | (apply x_un; exact rfl; exact rfl; exact rfl; (first | exact .z (.wrap (by omega)) | exact (by repeat' constructor))) | (apply x_box; assumption; exact rfl; exact rfl; (exact (by repeat' constructor)); (exact (by repeat' constructor)); intro _ _ _) | (apply x_extract; exact rfl; exact rfl; exact rfl; (exact (by repeat' constructor))) | (apply x_builtin; exact rfl; exact rfl; exact (fun _ => rfl); (exact (by repeat' constructor))) | (apply cw_false; exact rfl) | (apply cw_ne; exact rfl; all_goals (intro _; try omega))))
      all_goals first
        | (exfalso; omega)
        | skip
      rename_i b1 _ _ _ _ _ Al cl w2 S2 _
      have hcap : l.length ≤ cl := Sat.rowCap S2 .head
      refine cw_loop [2, 8, 9, 10, 11, 47, 48, 49, 50, 51, 52, 53, 54, 55, 56, 57, 58, 59, 60, 61, 62, 63, 64, 65, 66, 67, 68, 69, 70, 71] [8, 47] (fun us wr => ∃ i : Nat, i ≤ l.length + 1 ∧ us = [.int .i64 (lastB m ps l i), .int .i64 i] ∧ Sat w [] [.rw 0 (.slice Al l.length cl) 3 1 (l.map pkC), .cl b1 24 [.int .i64 m, .slice B ps.length cB]] wr) (fun us _ => l.length + 1 - (intOf (us.getD 1 undef)).toNat) ?_ ?_
      · exact ⟨0, Nat.zero_le _, rfl, S2⟩
      clear S2
      rintro g us wr ⟨i, hi, rfl, Sr⟩
      by_cases hlt : i < l.length + 1
      · have hb := bnd_sol hr.ck hs (i := i) (by omega)
        have hle := lastB_le ho hs (i := i) (by omega)
        have hR3 : ∀ {w' : World} {M : List Nat} {h : List HO}, Sat w M h w' → Has h (.rw 0 (.slice Al l.length cl) 3 1 (l.map pkC)) → Rd w' Al 1 (l.take i).length (fun j => pkC ((l.take i).getD j 0)) := fun S hh => ((Sat.rdmapN (0 : Int) S hh rfl).take (by rw [List.length_take]; omega)).congr fun j hj => by rw [take_get (by rw [List.length_take] at hj; omega)]
        (repeat' (first | apply cw_seq | apply cw_region | apply wl_nil | apply cw_block | apply cw_skip | (apply x_gdec; exact rfl; exact rfl; all_goals (intro _; try omega)) | (apply z2_callv; exact rfl; exact rfl; exact e_BoundT; (exact (by repeat' constructor)); intro _ Sx; (with_reducible refine Bound_m (m' := 0) m B cB ps hp hcs hcB Al cl (l.take i) ?_ ?_ hb _ (R.old.now Sx) (fun i hi => (R2 i hi).old.now Sx) ?_); (exact (by rw [List.length_take]; omega)); (exact (by rw [List.length_take]; omega)); exact hR3 Sx (by exact (by repeat' constructor))) | (apply cw_draw (id := 13) [(0, 0), (1, 0), (2, 0), (3, 0), (4, 2), (5, 0), (6, 0), (7, 0), (8, 0), (9, 0)]; assumption; exact mixed; kernel_rfl) | (apply x_move; exact rfl; exact rfl; (exact (by repeat' constructor))) | (apply x_assign; exact rfl; exact rfl; (exact (by repeat' constructor))) | (apply x_bin; exact rfl; exact rfl; exact rfl; (first | exact .z (.wrap (by omega)) | exact (by repeat' constructor))) | (apply x_pick; exact rfl; exact rfl; exact rfl; (exact (by repeat' constructor))) | (apply y_sliceHi; exact rfl; exact rfl; exact rfl; exact rfl; (exact (by omega)); (exact (by omega))) | (apply y_move; exact rfl; (exact (by repeat' constructor))) | (apply y_assign; exact rfl; (exact (by repeat' constructor))) | (apply y_load; exact rfl; exact rfl; (exact (by repeat' constructor)); exact rfl; exact rfl; (exact (by repeat' constructor))) | (apply y_extract; exact rfl; exact (fun _ => rfl); (exact (by repeat' constructor))) | (apply y_nil; intro _ _) | (apply x_dec; exact rfl; all_goals (intro _; try omega))))
        all_goals first
          | (exfalso; omega)
          | skip
        refine ⟨rfl, (by repeat (first | exact Agree.updl rfl (Agree.mask _ _ _) | refine Agree.upd rfl ?_)), ⟨i + 1, hlt, rfl, by assumption⟩, ?_⟩
        show l.length + 1 - (i + 1 : Int).toNat < l.length + 1 - (i : Int).toNat
        omega
      · have ei : i = l.length + 1 := by omega
        subst ei
        rw [lastB_end hs]
        (repeat' (first | apply cw_seq | apply cw_region | apply wl_nil | apply cw_exit | apply cw_ret | (apply x_callv; assumption; exact rfl; exact rfl; exact rfl; exact e_awake; (exact (by repeat' constructor)); with_reducible exact (awake_c _); intro _ _ _) | (apply x_move; exact rfl; exact rfl; (exact (by repeat' constructor))) | (apply x_assign; exact rfl; exact rfl; (exact (by repeat' constructor))) | (apply x_bin; exact rfl; exact rfl; exact rfl; (first | exact .z (.wrap (by omega)) | exact (by repeat' constructor))) | (apply x_pick; exact rfl; exact rfl; exact rfl; (exact (by repeat' constructor))) | (apply x_dec; exact rfl; all_goals (intro _; try omega)) | (apply x_gdec; exact rfl; exact rfl; all_goals (intro _; try omega))))
        (all_goals (first | refine q_retS (by assumption) rfl (by repeat (first | exact .nil | (apply RV.tmp; exact (by repeat' constructor)) | (apply RV.cell; exact rfl; exact (by repeat' constructor); exact rfl; exact rfl; exact (by repeat' constructor)))) ?_ | (simp only [thenQ, blockQ]; refine q_retS (by assumption) rfl (by repeat (first | exact .nil | (apply RV.tmp; exact (by repeat' constructor)) | (apply RV.cell; exact rfl; exact (by repeat' constructor); exact rfl; exact rfl; exact (by repeat' constructor)))) ?_))); (all_goals refine ⟨?_, Sat.keeps (by assumption)⟩); (all_goals first | rfl | (simp [pack]; done) | (exfalso; simp_all; done))
  · (repeat' (first | apply cw_seq | apply cw_region | apply wl_nil | apply cw_ret | (apply x_callv; assumption; exact rfl; exact rfl; exact rfl; exact e_right; (exact (by repeat' constructor)); with_reducible exact (right_n m B cB ps hp hcs hz hcz hr _ (R.old.now (by assumption)) (fun i hi => (R2 i hi).old.now (by assumption))); intro _ _ _) | (apply x_callv; assumption; exact rfl; exact rfl; exact rfl; exact e_awake; (exact (by repeat' constructor)); with_reducible exact (awake_c _); intro _ _ _) | (apply x_assign; exact rfl; exact rfl; (exact (by repeat' constructor))) | (apply x_load; assumption; exact rfl; exact rfl; exact rfl; (exact (by repeat' constructor)); exact rfl; exact rfl; (exact (by repeat' constructor))) | (apply x_un; exact rfl; exact rfl; exact rfl; (first | exact .z (.wrap (by omega)) | exact (by repeat' constructor))) | (apply x_box; assumption; exact rfl; exact rfl; (exact (by repeat' constructor)); (exact (by repeat' constructor)); intro _ _ _) | (apply cw_true; exact rfl)))
    (all_goals (first | refine q_retS (by assumption) rfl (by repeat (first | exact .nil | (apply RV.tmp; exact (by repeat' constructor)) | (apply RV.cell; exact rfl; exact (by repeat' constructor); exact rfl; exact rfl; exact (by repeat' constructor)))) ?_ | (simp only [thenQ, blockQ]; refine q_retS (by assumption) rfl (by repeat (first | exact .nil | (apply RV.tmp; exact (by repeat' constructor)) | (apply RV.cell; exact rfl; exact (by repeat' constructor); exact rfl; exact rfl; exact (by repeat' constructor)))) ?_))); (all_goals refine ⟨?_, Sat.keeps (by assumption)⟩); (all_goals first | rfl | (simp [pack]; done) | (exfalso; simp_all; done))
theorem lawBounds_t (t : Tk) (w : World) (h : t.ok w) : Calls Try.prog 6 #[tkV t] w (RetP (Val (.bool true) w)) :=
  lawBounds_c t.m t.B t.cB t.ps h.hp h.hcs h.hz h.hcz h.hcB w h.R h.R2
end Go.Proofs.Ytecmgjhnfgeldaa.Al
