/- Features: their values, openers, and checks. No statement of the seat is proved here. -/
import Derived.Test.YtcchdbihepinmaaCm
namespace Go.Proofs.Ytcchdbihepinmaa
open Go Go.RowKit
structure Dt where
  nm : ByteArray
  mat : Int
structure Fr' where
  kind : Int
  disc : Bool
  tol : Int
  mat : Int
  A : Option Addr
  cap : Nat
  ds : List Dt
structure Ft where
  nm : ByteArray
  kind : Int
  ax : Int
  x : Int
  y : Int
  z : Int
  lo : Int
  hi : Int
  A : Option Addr
  cap : Nat
  fs : List Fr'
abbrev dtC (d : Dt) : List Value := [.string d.nm, .int .i64 d.mat]
abbrev frC (g : Fr') : List Value := [.int .i64 g.kind, .bool g.disc, .int .i64 g.tol, .int .i64 g.mat, .slice g.A g.ds.length g.cap]
abbrev ftC (f : Ft) : List Value := [.string f.nm, .int .i64 f.kind, .int .i64 f.ax, .int .i64 f.x, .int .i64 f.y, .int .i64 f.z, .int .i64 f.lo, .int .i64 f.hi, .slice f.A f.fs.length f.cap]
def dt0 : Dt := ⟨⟨#[]⟩, 0⟩
def fr0 : Fr' := ⟨0, false, 0, 0, none, 0, []⟩
def ft0 : Ft := ⟨⟨#[]⟩, 0, 0, 0, 0, 0, 0, 0, none, 0, []⟩
def Dt.ok (d : Dt) : Prop := d.nm.size ≤ 9223372036854775807
def Fr'.ok (w : World) (g : Fr') : Prop := g.ds.length ≤ 9223372036854775807 ∧ g.ds.length ≤ g.cap ∧ Rd w g.A 2 g.ds.length (fun i => dtC (g.ds.getD i dt0)) ∧ ∀ d ∈ g.ds, d.ok
def Ft.ok (w : World) (f : Ft) : Prop := f.nm.size ≤ 9223372036854775807 ∧ f.fs.length ≤ 9223372036854775807 ∧ f.fs.length ≤ f.cap ∧ Rd w f.A 5 f.fs.length (fun i => frC (f.fs.getD i fr0)) ∧ ∀ g ∈ f.fs, g.ok w
abbrev shD : List Sh := [.string, .int .i64]
abbrev shF : List Sh := [.int .i64, .bool, .int .i64, .int .i64, .slice 2 shD]
abbrev shE : List Sh := [.string, .int .i64, .int .i64, .int .i64, .int .i64, .int .i64, .int .i64, .int .i64, .slice 5 shF]
theorem size_le {n : Nat} (h : n ≤ maxLen) : n ≤ 9223372036854775807 := by unfold maxLen at h; omega
theorem openDs {w : World} {c : List Value} (h : LeavesS w shD c) : ∃ d : Dt, c = dtC d ∧ d.ok := by
  simp only [LeavesS, LeafS] at h
  obtain ⟨_, _, rfl, ⟨nm, rfl, wn⟩, _, _, rfl, ⟨m, rfl, _⟩, rfl⟩ := h
  exact ⟨⟨nm, m⟩, rfl, size_le wn⟩
theorem openFs {w : World} {c : List Value} (h : LeavesS w shF c) : ∃ g : Fr', c = frC g ∧ g.ok w := by
  simp only [LeavesS, LeafS] at h
  obtain ⟨_, _, rfl, ⟨k, rfl, _⟩, _, _, rfl, ⟨b, rfl⟩, _, _, rfl, ⟨t, rfl, _⟩, _, _, rfl, ⟨m, rfl, _⟩, _, _, rfl, ⟨A, cap, css, rfl, h1, h2, R, hc⟩, rfl⟩ := h
  obtain ⟨ds, rfl, hds⟩ := ex_map (f := dtC) (p := Dt.ok) css (fun c hcm => openDs (w := w) (by simpa only [LeavesS, LeafS] using hc c hcm))
  rw [List.length_map] at h1
  exact ⟨⟨k, b, t, m, A, cap, ds⟩, by simp, size_le (Nat.le_trans h1 h2), h1, R.map dt0, hds⟩
theorem openFt {w : World} {v : Value} (h : ∃ l : List Value, v = .agg l.toArray ∧ LeavesS w shE l) : ∃ f : Ft, v = .agg #[.string (f).nm, .int .i64 (f).kind, .int .i64 (f).ax, .int .i64 (f).x, .int .i64 (f).y, .int .i64 (f).z, .int .i64 (f).lo, .int .i64 (f).hi, .slice (f).A (f).fs.length (f).cap] ∧ f.ok w := by
  obtain ⟨l, rfl, h⟩ := h
  simp only [LeavesS, LeafS] at h
  obtain ⟨_, _, rfl, ⟨nm, rfl, wn⟩, _, _, rfl, ⟨k, rfl, _⟩, _, _, rfl, ⟨ax, rfl, _⟩, _, _, rfl, ⟨x, rfl, _⟩, _, _, rfl, ⟨y, rfl, _⟩, _, _, rfl, ⟨z, rfl, _⟩, _, _, rfl, ⟨lo, rfl, _⟩, _, _, rfl, ⟨hi, rfl, _⟩, _, _, rfl, ⟨A, cap, css, rfl, h1, h2, R, hc⟩, rfl⟩ := h
  obtain ⟨fs, rfl, hfs⟩ := ex_map (f := frC) (p := Fr'.ok w) css (fun c hcm => openFs (w := w) (by simpa only [LeavesS, LeafS] using hc c hcm))
  rw [List.length_map] at h1
  exact ⟨⟨nm, k, ax, x, y, z, lo, hi, A, cap, fs⟩, by simp, size_le wn, size_le (Nat.le_trans h1 h2), h1, R.map fr0, hfs⟩
/-! ### few -/
def frFew (g : Fr') : Prop := g.ds.length ≤ 6 ∧ ∀ i, i < g.ds.length → (g.ds.getD i dt0).nm.size ≤ 100
def ftFew (f : Ft) : Prop := f.nm.size ≤ 100 ∧ f.fs.length ≤ 12 ∧ ∀ i, i < f.fs.length → frFew (f.fs.getD i fr0)
instance (g : Fr') : Decidable (frFew g) := inferInstanceAs (Decidable (_ ∧ _))
instance (f : Ft) : Decidable (ftFew f) := inferInstanceAs (Decidable (_ ∧ _ ∧ _))
/-! ### checks -/
def rng (n : Int) : Prop := -100000 ≤ n ∧ n ≤ 100000
def chkF (f : Ft) : Int :=
  if ¬ nameE f.nm = 0 then nameE f.nm else if ¬ ((0 ≤ f.kind ∧ f.kind < 5) ∧ (0 ≤ f.ax ∧ f.ax < 3)) then 1 else if f.kind = 4 ∧ ¬ f.ax = 0 then 3 else
  if ¬ ((-100000 ≤ f.x ∧ f.x ≤ 100000) ∧ (-100000 ≤ f.y ∧ f.y ≤ 100000) ∧ (-100000 ≤ f.z ∧ f.z ≤ 100000)) then 2 else
  if f.kind = 0 then (if f.lo = 0 ∧ f.hi = 0 then 0 else 3) else if ¬ chk f.lo f.hi = 0 then chk f.lo f.hi else if f.lo < 1 then 2 else 0
theorem chkF0 {f : Ft} (h : chkF f = 0) : nameE f.nm = 0 ∧ (0 ≤ f.kind ∧ f.kind < 5) ∧ (0 ≤ f.ax ∧ f.ax < 3) ∧ (f.kind = 4 → f.ax = 0) ∧ (-100000 ≤ f.x ∧ f.x ≤ 100000) ∧ (-100000 ≤ f.y ∧ f.y ≤ 100000) ∧ (-100000 ≤ f.z ∧ f.z ≤ 100000) ∧ ((f.kind = 0 ∧ f.lo = 0 ∧ f.hi = 0) ∨ (¬ f.kind = 0 ∧ 1 ≤ f.lo ∧ f.lo ≤ f.hi ∧ f.hi ≤ 100000)) := by
  unfold chkF at h
  by_cases h1 : nameE f.nm = 0
  · rw [if_neg (by simp [h1])] at h
    split at h
    · omega
    · split at h
      · omega
      · split at h
        · omega
        · split at h
          · split at h
            · refine ⟨h1, ?_⟩; omega
            · omega
          · split at h
            · rename_i h2; exact absurd h h2
            · rename_i h2
              have h3 : chk f.lo f.hi = 0 := Classical.byContradiction h2
              have := chk0 h3
              split at h
              · omega
              · refine ⟨h1, ?_⟩; omega
  · rw [if_pos h1] at h
    exact absurd h h1
theorem e_fin : Ent Try.prog 37 := fun _ _ => rfl
set_option maxRecDepth 4000 in
set_option maxHeartbeats 2000000 in
theorem fin_c (n : Int) (w : World) : Calls Try.prog 37 #[.int .i64 n] w (RetP (Val (.bool (decide (-100000 ≤ n ∧ n ≤ 100000))) w)) := by
  refine calls_of_cw (args := [.int .i64 n]) Try.func37 rfl rfl ?_
  have S := Sat.start [] w
  (repeat' (first | apply cw_seq | apply cw_region | apply wl_nil | apply cw_block | apply cw_skip | apply cw_exit | apply cw_ret | (apply x_not; exact rfl; exact rfl) | (apply x_move; exact rfl; exact rfl; (exact (by repeat' constructor))) | (apply x_assign; exact rfl; exact rfl; (exact (by repeat' constructor))) | (apply x_bin; exact rfl; exact rfl; exact rfl; (first | exact .z (.wrap (by omega)) | exact (by repeat' constructor))) | (apply x_pick; exact rfl; exact rfl; exact rfl; (exact (by repeat' constructor))) | (apply x_gndec; exact rfl; exact rfl; with_reducible exact rfl; all_goals (intro _; try omega)) | (apply x_gdec; exact rfl; exact rfl; all_goals (intro _; try omega)) | (apply x_gne; exact rfl; exact rfl; all_goals (intro _; try omega)) | (apply x_geq; exact rfl; exact rfl; all_goals (intro _; try omega)) | (apply x_gnot; exact rfl; exact rfl; all_goals (intro _; try omega)) | (apply x_gsplit; exact rfl; exact rfl; all_goals (intro _; try omega))))
  all_goals refine q_retS (by assumption) rfl (by repeat (first | exact .nil | (apply RV.tmp; exact (by repeat' constructor)) | (apply RV.cell; exact rfl; exact (by repeat' constructor); exact rfl; exact rfl; exact (by repeat' constructor)))) ?_
  all_goals refine ⟨?_, S.keeps⟩
  all_goals simp [pack]
  all_goals first | omega | (rw [Bool.eq_iff_iff]; simp; omega)
theorem e_franged : Ent Try.prog 48 := fun _ _ => rfl
set_option maxRecDepth 4000 in
set_option maxHeartbeats 2000000 in
theorem franged_c (x y z : Int) (w : World) : Calls Try.prog 48 #[.agg #[.int .i64 x, .int .i64 y, .int .i64 z]] w (RetP (Val (.bool (decide ((-100000 ≤ x ∧ x ≤ 100000) ∧ (-100000 ≤ y ∧ y ≤ 100000) ∧ (-100000 ≤ z ∧ z ≤ 100000)))) w)) := by
  refine calls_of_cw (args := [.agg #[.int .i64 x, .int .i64 y, .int .i64 z]]) Try.func48 rfl rfl ?_
  have S := Sat.start [] w
  (repeat' (first | apply cw_seq | apply cw_region | apply wl_nil | apply cw_block | apply cw_skip | apply cw_exit | apply cw_ret | (apply x_callv; assumption; exact rfl; exact rfl; exact rfl; exact e_fin; (exact (by repeat' constructor)); exact (fin_c _ _); intro _ _ _) | (apply z1_callv; exact rfl; exact rfl; exact e_fin; (exact (by repeat' constructor)); exact (fun _ _ => fin_c _ _)) | (apply z2_callv; exact rfl; exact rfl; exact e_fin; (exact (by repeat' constructor)); exact (fun _ _ => fin_c _ _)) | (apply x_not; exact rfl; exact rfl) | (apply x_move; exact rfl; exact rfl; (exact (by repeat' constructor))) | (apply x_assign; exact rfl; exact rfl; (exact (by repeat' constructor))) | (apply x_fieldB; exact rfl; exact rfl; exact rfl; exact rfl; (constructor)) | (apply x_load; assumption; exact rfl; exact rfl; exact rfl; (exact (by repeat' constructor)); exact rfl; exact rfl; (exact (by repeat' constructor))) | (apply x_pick; exact rfl; exact rfl; exact rfl; (exact (by repeat' constructor))) | (apply x_box; assumption; exact rfl; exact rfl; (exact (by repeat' constructor)); (exact (by repeat' constructor)); intro _ _ _) | (apply x_fieldE; exact rfl; exact rfl; exact rfl; exact rfl; (constructor)) | (apply x_loadB; assumption; exact rfl; exact rfl; exact rfl; assumption; exact rfl; exact rfl; (exact (by repeat' constructor))) | (apply x_loadR; exact rfl; exact rfl; exact rfl; (first | exact Old.now (by assumption) (by assumption) | exact Sat.rdpr (by assumption) (by exact (by repeat' constructor)) | exact Sat.rd (by assumption) (by exact (by repeat' constructor))); (first | omega | exact size_pos (by assumption) | assumption); exact rfl; exact rfl; (exact (by repeat' constructor))) | (apply x_gndec; exact rfl; exact rfl; with_reducible exact rfl; all_goals (intro _; try omega)) | (apply x_gdec; exact rfl; exact rfl; all_goals (intro _; try omega)) | (apply x_gne; exact rfl; exact rfl; all_goals (intro _; try omega)) | (apply x_geq; exact rfl; exact rfl; all_goals (intro _; try omega)) | (apply x_gnot; exact rfl; exact rfl; all_goals (intro _; try omega)) | (apply x_gsplit; exact rfl; exact rfl; all_goals (intro _; try omega))))
  all_goals refine q_retS (by assumption) rfl (by repeat (first | exact .nil | (apply RV.tmp; exact (by repeat' constructor)) | (apply RV.cell; exact rfl; exact (by repeat' constructor); exact rfl; exact rfl; exact (by repeat' constructor)))) ?_
  all_goals refine ⟨?_, Sat.keeps (by assumption)⟩
  all_goals simp [pack]
  all_goals first | omega | (rw [Bool.eq_iff_iff]; simp; omega)
theorem e_FCheck : Ent Try.prog 22 := fun _ _ => rfl
set_option maxRecDepth 4000 in
set_option maxHeartbeats 2000000 in
theorem FCheck_c (f : Ft) (hn : f.nm.size ≤ 9223372036854775807) (w : World) : Calls Try.prog 22 #[.agg #[.string (f).nm, .int .i64 (f).kind, .int .i64 (f).ax, .int .i64 (f).x, .int .i64 (f).y, .int .i64 (f).z, .int .i64 (f).lo, .int .i64 (f).hi, .slice (f).A (f).fs.length (f).cap]] w (RetP (Val (.int .i64 (chkF f)) w)) := by
  refine calls_of_cw (args := [.agg #[.string (f).nm, .int .i64 (f).kind, .int .i64 (f).ax, .int .i64 (f).x, .int .i64 (f).y, .int .i64 (f).z, .int .i64 (f).lo, .int .i64 (f).hi, .slice (f).A (f).fs.length (f).cap]]) Try.func22 rfl rfl ?_
  have S := Sat.start [] w
  (repeat' (first | apply cw_seq | apply cw_region | apply wl_nil | apply cw_block | apply cw_skip | apply cw_exit | apply cw_ret | (apply x_callv; assumption; exact rfl; exact rfl; exact rfl; exact e_Name; (exact (by repeat' constructor)); exact (Name_c _ hn _); intro _ _ _) | (apply z1_callv; exact rfl; exact rfl; exact e_Name; (exact (by repeat' constructor)); exact (fun _ _ => Name_c _ hn _)) | (apply z2_callv; exact rfl; exact rfl; exact e_Name; (exact (by repeat' constructor)); exact (fun _ _ => Name_c _ hn _)) | (apply x_callv; assumption; exact rfl; exact rfl; exact rfl; exact e_franged; (exact (by repeat' constructor)); exact (franged_c _ _ _ _); intro _ _ _) | (apply z1_callv; exact rfl; exact rfl; exact e_franged; (exact (by repeat' constructor)); exact (fun _ _ => franged_c _ _ _ _)) | (apply z2_callv; exact rfl; exact rfl; exact e_franged; (exact (by repeat' constructor)); exact (fun _ _ => franged_c _ _ _ _)) | (apply x_callv; assumption; exact rfl; exact rfl; exact rfl; exact e_Check; (exact (by repeat' constructor)); exact (Check_c _ _ _); intro _ _ _) | (apply z1_callv; exact rfl; exact rfl; exact e_Check; (exact (by repeat' constructor)); exact (fun _ _ => Check_c _ _ _)) | (apply z2_callv; exact rfl; exact rfl; exact e_Check; (exact (by repeat' constructor)); exact (fun _ _ => Check_c _ _ _)) | (apply x_not; exact rfl; exact rfl) | (apply x_move; exact rfl; exact rfl; (exact (by repeat' constructor))) | (apply x_assign; exact rfl; exact rfl; (exact (by repeat' constructor))) | (apply x_fieldB; exact rfl; exact rfl; exact rfl; exact rfl; (constructor)) | (apply x_load; assumption; exact rfl; exact rfl; exact rfl; (exact (by repeat' constructor)); exact rfl; exact rfl; (exact (by repeat' constructor))) | (apply x_eqStr; exact rfl; exact rfl; exact rfl; exact rfl) | (apply x_neStr; exact rfl; exact rfl; exact rfl; exact rfl) | (apply x_neAgg; exact rfl; exact rfl; exact rfl; exact rfl; (first | with_reducible exact flat_Limits | with_reducible exact flat_Dimension | with_reducible exact flat_Limits | with_reducible exact flat_at | with_reducible exact flat_set | with_reducible exact flat_get | with_reducible exact flat_Spot | with_reducible exact flat_Datum); exact rfl; kernel_rfl; exact rfl) | (apply x_bin; exact rfl; exact rfl; exact rfl; (first | exact .z (.wrap (by omega)) | exact (by repeat' constructor))) | (apply x_pick; exact rfl; exact rfl; exact rfl; (exact (by repeat' constructor))) | (apply x_un; exact rfl; exact rfl; exact rfl; (first | exact .z (.wrap (by omega)) | exact (by repeat' constructor))) | (apply x_box; assumption; exact rfl; exact rfl; (exact (by repeat' constructor)); (exact (by repeat' constructor)); intro _ _ _) | (apply x_build; exact rfl; exact rfl; exact rfl; (exact (by repeat' constructor))) | (apply x_fieldE; exact rfl; exact rfl; exact rfl; exact rfl; (constructor)) | (apply x_loadB; assumption; exact rfl; exact rfl; exact rfl; assumption; exact rfl; exact rfl; (exact (by repeat' constructor))) | (apply x_loadR; exact rfl; exact rfl; exact rfl; (first | exact Old.now (by assumption) (by assumption) | exact Sat.rdpr (by assumption) (by exact (by repeat' constructor)) | exact Sat.rd (by assumption) (by exact (by repeat' constructor))); (first | omega | exact size_pos (by assumption) | assumption); exact rfl; exact rfl; (exact (by repeat' constructor))) | (apply cw_true; exact rfl) | (apply cw_false; exact rfl) | (apply x_ndec; exact rfl; with_reducible exact rfl; all_goals (intro _; try omega)) | (apply x_dec; exact rfl; all_goals (intro _; try omega)) | (apply cw_ne; exact rfl; all_goals (intro _; try omega)) | (apply cw_eq; exact rfl; all_goals (intro _; try omega)) | (apply cw_not; exact rfl; all_goals (intro _; try omega)) | (apply cw_cond; exact rfl; all_goals (intro _; try omega)) | (apply x_gndec; exact rfl; exact rfl; with_reducible exact rfl; all_goals (intro _; try omega)) | (apply x_gdec; exact rfl; exact rfl; all_goals (intro _; try omega)) | (apply x_gne; exact rfl; exact rfl; all_goals (intro _; try omega)) | (apply x_geq; exact rfl; exact rfl; all_goals (intro _; try omega)) | (apply x_gnot; exact rfl; exact rfl; all_goals (intro _; try omega)) | (apply x_gsplit; exact rfl; exact rfl; all_goals (intro _; try omega))))
  all_goals refine q_retS (by assumption) rfl (by repeat (first | exact .nil | (apply RV.tmp; exact (by repeat' constructor)) | (apply RV.cell; exact rfl; exact (by repeat' constructor); exact rfl; exact rfl; exact (by repeat' constructor)))) ?_
  all_goals refine ⟨?_, Sat.keeps (by assumption)⟩
  all_goals unfold chkF
  all_goals first
    | (rw [if_pos (by assumption)]; rfl)
    | (rw [if_neg (not_not_intro (by assumption)), if_pos (by omega)]; rfl)
    | (rw [if_neg (not_not_intro (by assumption)), if_neg (by omega), if_pos (by omega)]; rfl)
    | (rw [if_neg (not_not_intro (by assumption)), if_neg (by omega), if_neg (by omega), if_pos (by omega)]; rfl)
    | (rw [if_neg (not_not_intro (by assumption)), if_neg (by omega), if_neg (by omega), if_neg (by omega), if_neg (by omega), if_pos (by assumption)]; rfl)
    | (rw [if_neg (not_not_intro (by assumption)), if_neg (by omega), if_neg (by omega), if_neg (by omega), if_neg (by omega), if_neg (not_not_intro (by assumption)), if_pos (by omega)]; rfl)
    | (rw [if_neg (not_not_intro (by assumption)), if_neg (by omega), if_neg (by omega), if_neg (by omega), if_neg (by omega), if_neg (not_not_intro (by assumption)), if_neg (by omega)]; rfl)
    | (rw [if_neg (not_not_intro (by assumption)), if_neg (by omega), if_neg (by omega), if_neg (by omega), if_pos (by omega), if_pos (by first | omega | (simp_all; done) | (simp_all; omega))]; rfl)
    | (rw [if_neg (not_not_intro (by assumption)), if_neg (by omega), if_neg (by omega), if_neg (by omega), if_pos (by omega), if_neg (by first | omega | (simp_all; done) | (simp_all; omega))]; rfl)
theorem e_rFCheck : Ent Try.prog 23 := fun _ _ => rfl
set_option maxRecDepth 4000 in
set_option maxHeartbeats 2000000 in
theorem rFCheck_c (f : Ft) (hn : f.nm.size ≤ 9223372036854775807) (w : World) : Calls Try.prog 23 #[.agg #[.string (f).nm, .int .i64 (f).kind, .int .i64 (f).ax, .int .i64 (f).x, .int .i64 (f).y, .int .i64 (f).z, .int .i64 (f).lo, .int .i64 (f).hi, .slice (f).A (f).fs.length (f).cap]] w (RetP (Val (.int .i64 (chkF f)) w)) := by
  refine calls_of_cw (args := [.agg #[.string (f).nm, .int .i64 (f).kind, .int .i64 (f).ax, .int .i64 (f).x, .int .i64 (f).y, .int .i64 (f).z, .int .i64 (f).lo, .int .i64 (f).hi, .slice (f).A (f).fs.length (f).cap]]) Try.func23 rfl rfl ?_
  have S := Sat.start [] w
  (repeat' (first | apply cw_seq | apply cw_region | apply wl_nil | apply cw_block | apply cw_skip | apply cw_exit | apply cw_ret | (apply x_callv; assumption; exact rfl; exact rfl; exact rfl; exact e_rName; (exact (by repeat' constructor)); exact (rName_c _ hn _); intro _ _ _) | (apply z1_callv; exact rfl; exact rfl; exact e_rName; (exact (by repeat' constructor)); exact (fun _ _ => rName_c _ hn _)) | (apply z2_callv; exact rfl; exact rfl; exact e_rName; (exact (by repeat' constructor)); exact (fun _ _ => rName_c _ hn _)) | (apply x_callv; assumption; exact rfl; exact rfl; exact rfl; exact e_rIn; (exact (by repeat' constructor)); exact (rIn_c _ _); intro _ _ _) | (apply z1_callv; exact rfl; exact rfl; exact e_rIn; (exact (by repeat' constructor)); exact (fun _ _ => rIn_c _ _)) | (apply z2_callv; exact rfl; exact rfl; exact e_rIn; (exact (by repeat' constructor)); exact (fun _ _ => rIn_c _ _)) | (apply x_callv; assumption; exact rfl; exact rfl; exact rfl; exact e_rCheck; (exact (by repeat' constructor)); exact (rCheck_c _ _ _); intro _ _ _) | (apply z1_callv; exact rfl; exact rfl; exact e_rCheck; (exact (by repeat' constructor)); exact (fun _ _ => rCheck_c _ _ _)) | (apply z2_callv; exact rfl; exact rfl; exact e_rCheck; (exact (by repeat' constructor)); exact (fun _ _ => rCheck_c _ _ _)) | (apply x_not; exact rfl; exact rfl) | (apply x_move; exact rfl; exact rfl; (exact (by repeat' constructor))) | (apply x_assign; exact rfl; exact rfl; (exact (by repeat' constructor))) | (apply x_fieldB; exact rfl; exact rfl; exact rfl; exact rfl; (constructor)) | (apply x_load; assumption; exact rfl; exact rfl; exact rfl; (exact (by repeat' constructor)); exact rfl; exact rfl; (exact (by repeat' constructor))) | (apply x_eqStr; exact rfl; exact rfl; exact rfl; exact rfl) | (apply x_neStr; exact rfl; exact rfl; exact rfl; exact rfl) | (apply x_neAgg; exact rfl; exact rfl; exact rfl; exact rfl; (first | with_reducible exact flat_Limits | with_reducible exact flat_Dimension | with_reducible exact flat_Limits | with_reducible exact flat_at | with_reducible exact flat_set | with_reducible exact flat_get | with_reducible exact flat_Spot | with_reducible exact flat_Datum); exact rfl; kernel_rfl; exact rfl) | (apply x_bin; exact rfl; exact rfl; exact rfl; (first | exact .z (.wrap (by omega)) | exact (by repeat' constructor))) | (apply x_pick; exact rfl; exact rfl; exact rfl; (exact (by repeat' constructor))) | (apply x_un; exact rfl; exact rfl; exact rfl; (first | exact .z (.wrap (by omega)) | exact (by repeat' constructor))) | (apply x_box; assumption; exact rfl; exact rfl; (exact (by repeat' constructor)); (exact (by repeat' constructor)); intro _ _ _) | (apply x_build; exact rfl; exact rfl; exact rfl; (exact (by repeat' constructor))) | (apply x_fieldE; exact rfl; exact rfl; exact rfl; exact rfl; (constructor)) | (apply x_loadB; assumption; exact rfl; exact rfl; exact rfl; assumption; exact rfl; exact rfl; (exact (by repeat' constructor))) | (apply x_loadR; exact rfl; exact rfl; exact rfl; (first | exact Old.now (by assumption) (by assumption) | exact Sat.rdpr (by assumption) (by exact (by repeat' constructor)) | exact Sat.rd (by assumption) (by exact (by repeat' constructor))); (first | omega | exact size_pos (by assumption) | assumption); exact rfl; exact rfl; (exact (by repeat' constructor))) | (apply cw_true; exact rfl) | (apply cw_false; exact rfl) | (apply x_ndec; exact rfl; with_reducible exact rfl; all_goals (intro _; try omega)) | (apply x_dec; exact rfl; all_goals (intro _; try omega)) | (apply cw_ne; exact rfl; all_goals (intro _; try omega)) | (apply cw_eq; exact rfl; all_goals (intro _; try omega)) | (apply cw_not; exact rfl; all_goals (intro _; try omega)) | (apply cw_cond; exact rfl; all_goals (intro _; try omega)) | (apply x_gndec; exact rfl; exact rfl; with_reducible exact rfl; all_goals (intro _; try omega)) | (apply x_gdec; exact rfl; exact rfl; all_goals (intro _; try omega)) | (apply x_gne; exact rfl; exact rfl; all_goals (intro _; try omega)) | (apply x_geq; exact rfl; exact rfl; all_goals (intro _; try omega)) | (apply x_gnot; exact rfl; exact rfl; all_goals (intro _; try omega)) | (apply x_gsplit; exact rfl; exact rfl; all_goals (intro _; try omega))))
  all_goals refine q_retS (by assumption) rfl (by repeat (first | exact .nil | (apply RV.tmp; exact (by repeat' constructor)) | (apply RV.cell; exact rfl; exact (by repeat' constructor); exact rfl; exact rfl; exact (by repeat' constructor)))) ?_
  all_goals refine ⟨?_, Sat.keeps (by assumption)⟩
  all_goals unfold chkF
  all_goals first
    | (rw [if_pos (by assumption)]; rfl)
    | (rw [if_neg (not_not_intro (by assumption)), if_pos (by omega)]; rfl)
    | (rw [if_neg (not_not_intro (by assumption)), if_neg (by omega), if_pos (by omega)]; rfl)
    | (rw [if_neg (not_not_intro (by assumption)), if_neg (by omega), if_neg (by omega), if_pos (by omega)]; rfl)
    | (rw [if_neg (not_not_intro (by assumption)), if_neg (by omega), if_neg (by omega), if_neg (by omega), if_neg (by omega), if_pos (by assumption)]; rfl)
    | (rw [if_neg (not_not_intro (by assumption)), if_neg (by omega), if_neg (by omega), if_neg (by omega), if_neg (by omega), if_neg (not_not_intro (by assumption)), if_pos (by omega)]; rfl)
    | (rw [if_neg (not_not_intro (by assumption)), if_neg (by omega), if_neg (by omega), if_neg (by omega), if_neg (by omega), if_neg (not_not_intro (by assumption)), if_neg (by omega)]; rfl)
    | (rw [if_neg (not_not_intro (by assumption)), if_neg (by omega), if_neg (by omega), if_neg (by omega), if_pos (by omega), if_pos (by first | omega | (simp_all; done) | (simp_all; omega))]; rfl)
    | (rw [if_neg (not_not_intro (by assumption)), if_neg (by omega), if_neg (by omega), if_neg (by omega), if_pos (by omega), if_neg (by first | omega | (simp_all; done) | (simp_all; omega))]; rfl)
end Go.Proofs.Ytcchdbihepinmaa
