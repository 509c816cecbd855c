/- Samples of points in space: their checks. No statement of the seat is proved here. -/
import Derived.Test.YtnlddjbeekfjlaaEngV
import Derived.Test.YtnlddjbeekfjlaaProg
namespace Go.Proofs.Ytnlddjbeekfjlaa
open Go Go.RowKit
abbrev Sp := Int × Int × Int
theorem val_of {P : Program} {g : FuncId} {ar : Array Value} {w : World} {V V' : Value} (h : Calls P g ar w (RetP (Val V w))) (e : V = V') : Calls P g ar w (RetP (Val V' w)) := e ▸ h
theorem mixed : Try.prog.follows .mixedOrders = true := by kernel_rfl
theorem flat_Spot : flatT Try.prog 9 30 = some [0, 0, 0] := by kernel_rfl
def sp0 : Sp := (0, 0, 0)
def spC (p : Sp) : List Value := [.int .i64 p.1, .int .i64 p.2.1, .int .i64 p.2.2]
theorem spC_len (p : Sp) : (spC p).length = 3 := rfl
def rgI (n : Int) : Prop := -100000 ≤ n ∧ n ≤ 100000
instance (n : Int) : Decidable (rgI n) := inferInstanceAs (Decidable (_ ∧ _))
def rgS (p : Sp) : Prop := rgI p.1 ∧ rgI p.2.1 ∧ rgI p.2.2
instance (p : Sp) : Decidable (rgS p) := inferInstanceAs (Decidable (_ ∧ _ ∧ _))
def allP (l : List Sp) : Prop := ∀ i, i < l.length → rgS (l.getD i sp0)
noncomputable instance (l : List Sp) : Decidable (allP l) := Classical.propDecidable _
noncomputable def allE (l : List Sp) : Int := if allP l then 0 else 2
noncomputable def spE (l : List Sp) : Int := if 64 < l.length then 5 else allE l
theorem spE0 {l : List Sp} (h : spE l = 0) : l.length ≤ 64 ∧ allP l := by
  unfold spE allE at h
  split at h
  · omega
  · split at h
    · exact ⟨by omega, by assumption⟩
    · omega
theorem spE_ok {l : List Sp} (h : l.length ≤ 64) (ha : allP l) : spE l = 0 := by
  rw [spE, if_neg (by omega), allE, if_pos ha]
theorem getD_lt {α : Type} {l : List α} {i : Nat} (h : i < l.length) (z : α) : l.getD i z = l[i] := by simp [List.getD_eq_getElem?_getD, h]
theorem getD_in {α : Type} {l : List α} {p : α} (h : p ∈ l) (z : α) : ∃ i, i < l.length ∧ l.getD i z = p := by
  obtain ⟨i, hi, e⟩ := List.getElem_of_mem h
  exact ⟨i, hi, by rw [getD_lt hi]; exact e⟩
theorem allP_mem {l : List Sp} : allP l ↔ ∀ p ∈ l, rgS p :=
  ⟨fun h p hp => by obtain ⟨i, hi, e⟩ := getD_in hp sp0; exact e ▸ h i hi, fun h i hi => h _ (by rw [getD_lt hi]; exact List.getElem_mem hi)⟩
/-- a block that holds the elements of a list -/
theorem Sat.rdflat {α : Type} {w0 w : World} {M : List Nat} {h : List HO} {b size : Nat} {T : TypeId} {l : List α} {en : α → List Value} (z : α) (hs : ∀ a, (en a).length = size) (S : Sat w0 M h w) (hh : Has h (.cl b T (l.flatMap en))) :
    Rd w (some ⟨b, 0, none⟩) size l.length (fun i => en (l.getD i z)) := by
  refine ⟨fun _ => rfl, fun i j u hi hu => ?_⟩
  have hc := S.cl hh
  show w.cell? ((⟨b, 0, none⟩ : Addr).add (i * size + j)) = some u
  rw [add_at, cell_of_row w b _ _ _ _ hc, Nat.zero_add]
  have key : ∀ (l : List α) (i : Nat), i < l.length → (en (l.getD i z))[j]? = some u → (l.flatMap en)[i * size + j]? = some u := by
    intro l
    induction l with
    | nil => intro i hi; simp at hi
    | cons a l ih =>
      intro i hi hu
      rw [List.flatMap_cons]
      cases i with
      | zero =>
        have hj : j < (en a).length := (List.getElem?_eq_some_iff.1 hu).1
        rw [Nat.zero_mul, Nat.zero_add, List.getElem?_append_left hj]
        exact hu
      | succ i =>
        rw [Nat.succ_mul, List.getElem?_append_right (by rw [hs]; omega), hs, show i * size + size + j - size = i * size + j by omega]
        exact ih i (by simpa using hi) hu
  simpa using key l i hi hu
set_option maxRecDepth 100000 in
theorem e_within : Ent Try.prog 77 := fun _ _ => rfl
set_option maxRecDepth 4000 in
set_option maxHeartbeats 2000000 in
theorem within_c (n : Int) (w : World) : Calls Try.prog 77 #[.int .i64 n] w (RetP (Val (.bool (decide (rgI n))) w)) := by
  refine calls_of_cw (args := [.int .i64 n]) Try.func77 rfl rfl ?_
  have S := Sat.start [] w
  (repeat' (first | apply cw_seq | apply cw_region | apply wl_nil | apply cw_block | apply cw_skip | apply cw_exit | apply cw_ret | (apply x_not; exact rfl; exact rfl) | (apply x_move; exact rfl; exact rfl; (exact (by repeat' constructor))) | (apply x_assign; exact rfl; exact rfl; (exact (by repeat' constructor))) | (apply x_bin; exact rfl; exact rfl; exact rfl; (first | exact .z (.wrap (by omega)) | exact (by repeat' constructor))) | (apply x_pick; exact rfl; exact rfl; exact rfl; (exact (by repeat' constructor))) | (apply x_gndec; exact rfl; exact rfl; with_reducible exact rfl; all_goals (intro _; try omega)) | (apply x_gdec; exact rfl; exact rfl; all_goals (intro _; try omega)) | (apply x_gne; exact rfl; exact rfl; all_goals (intro _; try omega)) | (apply x_geq; exact rfl; exact rfl; all_goals (intro _; try omega)) | (apply x_gnot; exact rfl; exact rfl; all_goals (intro _; try omega)) | (apply x_gsplit; exact rfl; exact rfl; all_goals (intro _; try omega))))
  all_goals refine q_retS (by assumption) rfl (by repeat (first | exact .nil | (apply RV.tmp; exact (by repeat' constructor)) | (apply RV.cell; exact rfl; exact (by repeat' constructor); exact rfl; exact rfl; exact (by repeat' constructor)))) ?_
  all_goals refine ⟨?_, Sat.keeps (by assumption)⟩
  all_goals first | (simp_all [pack, rgI]; done) | (simp_all [pack, rgI]; first | exact decide_eq_false (by omega) | exact decide_eq_true (by omega) | rfl)
set_option maxRecDepth 100000 in
theorem e_rin : Ent Try.prog 80 := fun _ _ => rfl
set_option maxRecDepth 4000 in
set_option maxHeartbeats 2000000 in
theorem rin_c (n : Int) (w : World) : Calls Try.prog 80 #[.int .i64 n] w (RetP (Val (.bool (decide (rgI n))) w)) := by
  refine calls_of_cw (args := [.int .i64 n]) Try.func80 rfl rfl ?_
  have S := Sat.start [] w
  (repeat' (first | apply cw_seq | apply cw_region | apply wl_nil | apply cw_block | apply cw_skip | apply cw_exit | apply cw_ret | (apply x_not; exact rfl; exact rfl) | (apply x_move; exact rfl; exact rfl; (exact (by repeat' constructor))) | (apply x_assign; exact rfl; exact rfl; (exact (by repeat' constructor))) | (apply x_bin; exact rfl; exact rfl; exact rfl; (first | exact .z (.wrap (by omega)) | exact (by repeat' constructor))) | (apply x_pick; exact rfl; exact rfl; exact rfl; (exact (by repeat' constructor))) | (apply x_gndec; exact rfl; exact rfl; with_reducible exact rfl; all_goals (intro _; try omega)) | (apply x_gdec; exact rfl; exact rfl; all_goals (intro _; try omega)) | (apply x_gne; exact rfl; exact rfl; all_goals (intro _; try omega)) | (apply x_geq; exact rfl; exact rfl; all_goals (intro _; try omega)) | (apply x_gnot; exact rfl; exact rfl; all_goals (intro _; try omega)) | (apply x_gsplit; exact rfl; exact rfl; all_goals (intro _; try omega))))
  all_goals refine q_retS (by assumption) rfl (by repeat (first | exact .nil | (apply RV.tmp; exact (by repeat' constructor)) | (apply RV.cell; exact rfl; exact (by repeat' constructor); exact rfl; exact rfl; exact (by repeat' constructor)))) ?_
  all_goals refine ⟨?_, Sat.keeps (by assumption)⟩
  all_goals first | (simp_all [pack, rgI]; done) | (simp_all [pack, rgI]; first | exact decide_eq_false (by omega) | exact decide_eq_true (by omega) | rfl)
set_option maxRecDepth 100000 in
theorem e_high : Ent Try.prog 44 := fun _ _ => rfl
set_option maxRecDepth 4000 in
set_option maxHeartbeats 2000000 in
theorem high_c (p : Sp) (w : World) : Calls Try.prog 44 #[.agg #[.int .i64 (p).1, .int .i64 (p).2.1, .int .i64 (p).2.2]] w (RetP (Val (.bool (decide (rgS p))) w)) := by
  refine calls_of_cw (args := [.agg #[.int .i64 (p).1, .int .i64 (p).2.1, .int .i64 (p).2.2]]) Try.func44 rfl rfl ?_
  have S := Sat.start [] w
  (repeat' (first | apply cw_seq | apply cw_region | apply wl_nil | apply cw_block | apply cw_skip | apply cw_exit | apply cw_ret | (apply x_callv; assumption; exact rfl; exact rfl; exact rfl; exact e_within; (exact (by repeat' constructor)); exact (within_c _ _); intro _ _ _) | (apply z1_callv; exact rfl; exact rfl; exact e_within; (exact (by repeat' constructor)); exact (fun _ _ => within_c _ _)) | (apply z2_callv; exact rfl; exact rfl; exact e_within; (exact (by repeat' constructor)); exact (fun _ _ => within_c _ _)) | (apply x_not; exact rfl; exact rfl) | (apply x_move; exact rfl; exact rfl; (exact (by repeat' constructor))) | (apply x_assign; exact rfl; exact rfl; (exact (by repeat' constructor))) | (apply x_fieldB; exact rfl; exact rfl; exact rfl; exact rfl; (constructor)) | (apply x_load; assumption; exact rfl; exact rfl; exact rfl; (exact (by repeat' constructor)); exact rfl; exact rfl; (exact (by repeat' constructor))) | (apply x_pick; exact rfl; exact rfl; exact rfl; (exact (by repeat' constructor))) | (apply x_box; assumption; exact rfl; exact rfl; (exact (by repeat' constructor)); (exact (by repeat' constructor)); intro _ _ _) | (apply x_fieldE; exact rfl; exact rfl; exact rfl; exact rfl; (constructor)) | (apply x_loadB; assumption; exact rfl; exact rfl; exact rfl; assumption; exact rfl; exact rfl; (exact (by repeat' constructor))) | (apply x_loadR; exact rfl; exact rfl; exact rfl; (first | exact Old.now (by assumption) (by assumption) | exact Sat.rdpr (by assumption) (by exact (by repeat' constructor)) | exact Sat.rd (by assumption) (by exact (by repeat' constructor))); (first | omega | exact size_pos (by assumption) | assumption); exact rfl; exact rfl; (exact (by repeat' constructor))) | (apply x_gndec; exact rfl; exact rfl; with_reducible exact rfl; all_goals (intro _; try omega)) | (apply x_gdec; exact rfl; exact rfl; all_goals (intro _; try omega)) | (apply x_gne; exact rfl; exact rfl; all_goals (intro _; try omega)) | (apply x_geq; exact rfl; exact rfl; all_goals (intro _; try omega)) | (apply x_gnot; exact rfl; exact rfl; all_goals (intro _; try omega)) | (apply x_gsplit; exact rfl; exact rfl; all_goals (intro _; try omega))))
  all_goals refine q_retS (by assumption) rfl (by repeat (first | exact .nil | (apply RV.tmp; exact (by repeat' constructor)) | (apply RV.cell; exact rfl; exact (by repeat' constructor); exact rfl; exact rfl; exact (by repeat' constructor)))) ?_
  all_goals refine ⟨?_, Sat.keeps (by assumption)⟩
  all_goals first | (simp_all [pack, rgS]; done) | (simp_all [pack, rgS]; rfl)
set_option maxRecDepth 100000 in
theorem e_rRight : Ent Try.prog 61 := fun _ _ => rfl
set_option maxRecDepth 4000 in
set_option maxHeartbeats 2000000 in
theorem rRight_c (p : Sp) (w : World) : Calls Try.prog 61 #[.agg #[.int .i64 (p).1, .int .i64 (p).2.1, .int .i64 (p).2.2]] w (RetP (Val (.bool (decide (rgS p))) w)) := by
  refine calls_of_cw (args := [.agg #[.int .i64 (p).1, .int .i64 (p).2.1, .int .i64 (p).2.2]]) Try.func61 rfl rfl ?_
  have S := Sat.start [] w
  (repeat' (first | apply cw_seq | apply cw_region | apply wl_nil | apply cw_block | apply cw_skip | apply cw_exit | apply cw_ret | (apply x_callv; assumption; exact rfl; exact rfl; exact rfl; exact e_rin; (exact (by repeat' constructor)); exact (rin_c _ _); intro _ _ _) | (apply z1_callv; exact rfl; exact rfl; exact e_rin; (exact (by repeat' constructor)); exact (fun _ _ => rin_c _ _)) | (apply z2_callv; exact rfl; exact rfl; exact e_rin; (exact (by repeat' constructor)); exact (fun _ _ => rin_c _ _)) | (apply x_not; exact rfl; exact rfl) | (apply x_move; exact rfl; exact rfl; (exact (by repeat' constructor))) | (apply x_assign; exact rfl; exact rfl; (exact (by repeat' constructor))) | (apply x_fieldB; exact rfl; exact rfl; exact rfl; exact rfl; (constructor)) | (apply x_load; assumption; exact rfl; exact rfl; exact rfl; (exact (by repeat' constructor)); exact rfl; exact rfl; (exact (by repeat' constructor))) | (apply x_pick; exact rfl; exact rfl; exact rfl; (exact (by repeat' constructor))) | (apply x_box; assumption; exact rfl; exact rfl; (exact (by repeat' constructor)); (exact (by repeat' constructor)); intro _ _ _) | (apply x_fieldE; exact rfl; exact rfl; exact rfl; exact rfl; (constructor)) | (apply x_loadB; assumption; exact rfl; exact rfl; exact rfl; assumption; exact rfl; exact rfl; (exact (by repeat' constructor))) | (apply x_loadR; exact rfl; exact rfl; exact rfl; (first | exact Old.now (by assumption) (by assumption) | exact Sat.rdpr (by assumption) (by exact (by repeat' constructor)) | exact Sat.rd (by assumption) (by exact (by repeat' constructor))); (first | omega | exact size_pos (by assumption) | assumption); exact rfl; exact rfl; (exact (by repeat' constructor))) | (apply x_gndec; exact rfl; exact rfl; with_reducible exact rfl; all_goals (intro _; try omega)) | (apply x_gdec; exact rfl; exact rfl; all_goals (intro _; try omega)) | (apply x_gne; exact rfl; exact rfl; all_goals (intro _; try omega)) | (apply x_geq; exact rfl; exact rfl; all_goals (intro _; try omega)) | (apply x_gnot; exact rfl; exact rfl; all_goals (intro _; try omega)) | (apply x_gsplit; exact rfl; exact rfl; all_goals (intro _; try omega))))
  all_goals refine q_retS (by assumption) rfl (by repeat (first | exact .nil | (apply RV.tmp; exact (by repeat' constructor)) | (apply RV.cell; exact rfl; exact (by repeat' constructor); exact rfl; exact rfl; exact (by repeat' constructor)))) ?_
  all_goals refine ⟨?_, Sat.keeps (by assumption)⟩
  all_goals first | (simp_all [pack, rgS]; done) | (simp_all [pack, rgS]; rfl)
set_option maxRecDepth 100000 in
theorem e_all : Ent Try.prog 43 := fun _ _ => rfl
set_option maxRecDepth 4000 in
set_option maxHeartbeats 2000000 in
theorem all_c (A : Option Addr) (c : Nat) (l : List Sp) (hl : l.length ≤ 9223372036854775807) (w : World) (R : Rd w A 3 l.length (fun i => spC (l.getD i sp0))) : Calls Try.prog 43 #[.func (.func 44) #[] #[], .slice A l.length c] w (RetP (Val (.int .i64 (allE l)) w)) := by
  refine calls_of_cw (args := [.func (.func 44) #[] #[], .slice A l.length c]) Try.func43 rfl rfl ?_
  have S := Sat.start [] w
  have O := (R).old
  (repeat' (first | apply cw_seq | apply cw_region | apply wl_nil | apply cw_block | apply cw_skip | apply cw_exit | apply cw_ret | (apply x_move; exact rfl; exact rfl; (exact (by repeat' constructor))) | (apply x_assign; exact rfl; exact rfl; (exact (by repeat' constructor))) | (apply x_load; assumption; exact rfl; exact rfl; exact rfl; (exact (by repeat' constructor)); exact rfl; exact rfl; (exact (by repeat' constructor))) | (apply x_bin; exact rfl; exact rfl; exact rfl; (first | exact .z (.wrap (by omega)) | exact (by repeat' constructor))) | (apply x_un; exact rfl; exact rfl; exact rfl; (first | exact .z (.wrap (by omega)) | exact (by repeat' constructor))) | (apply x_alloc; assumption; exact rfl; exact rfl; exact rfl; (exact (by repeat' constructor)); intro _ _ _) | (apply x_store; assumption; exact rfl; exact rfl; (exact (by repeat' constructor)); (exact (by repeat' constructor)); exact rfl; exact rfl; exact rfl; (exact (by repeat' constructor)); intro _ _) | (apply x_builtin; exact rfl; exact rfl; exact (fun _ => rfl); (exact (by repeat' constructor))) | (apply x_loadB; assumption; exact rfl; exact rfl; exact rfl; assumption; exact rfl; exact rfl; (exact (by repeat' constructor))) | (apply x_index; exact rfl; exact rfl; exact rfl; exact rfl; exact rfl; (constructor); (first | omega | exact size_pos (by assumption) | assumption); (first | exact rfl | assumption | exact Rd.some_ (by assumption) (by omega) | exact Rd.some_ (Old.rd (by assumption)) (by omega) | exact (Sat.rd (by assumption) (by exact (by repeat' constructor))).some_ (by omega))) | (apply x_indexArrB; exact rfl; exact rfl; exact rfl; exact rfl; exact rfl; decide; decide; (constructor)) | (apply x_loadR; exact rfl; exact rfl; exact rfl; (first | exact Old.now (by assumption) (by assumption) | exact Sat.rdpr (by assumption) (by exact (by repeat' constructor)) | exact Sat.rd (by assumption) (by exact (by repeat' constructor))); (first | omega | exact size_pos (by assumption) | assumption); exact rfl; exact rfl; (exact (by repeat' constructor))) | (apply cw_true; exact rfl) | (apply cw_false; exact rfl) | (apply x_ndec; exact rfl; with_reducible exact rfl; all_goals (intro _; try omega)) | (apply x_dec; exact rfl; all_goals (intro _; try omega)) | (apply cw_ne; exact rfl; all_goals (intro _; try omega)) | (apply cw_eq; exact rfl; all_goals (intro _; try omega)) | (apply cw_not; exact rfl; all_goals (intro _; try omega)) | (apply cw_cond; exact rfl; all_goals (intro _; try omega))))
  refine cw_loop [4, 6, 9, 10, 11, 12, 13, 14, 15, 16, 17] [9] (fun us wr => ∃ k : Nat, k ≤ l.length ∧ us = [.int .i64 k] ∧ Sat w [] [] wr ∧ ∀ i, i < k → rgS (l.getD i sp0)) (fun us _ => l.length - (intOf (us.getD 0 undef)).toNat) ?_ ?_
  · exact ⟨0, by omega, rfl, S, fun i hi => absurd hi (Nat.not_lt_zero i)⟩
  clear S
  rintro g us wr ⟨k, hk, rfl, Sr, hfe⟩
  by_cases hlt : k < l.length
  · (repeat' (first | apply cw_seq | apply cw_region | apply wl_nil | apply cw_block | apply cw_skip | apply cw_exit | apply cw_ret | (apply x_callv; assumption; exact rfl; exact rfl; exact rfl; exact e_high; (exact (by repeat' constructor)); exact (high_c _ _); intro _ _ _) | (apply z1_callv; exact rfl; exact rfl; exact e_high; (exact (by repeat' constructor)); exact (fun _ _ => high_c _ _)) | (apply z2_callv; exact rfl; exact rfl; exact e_high; (exact (by repeat' constructor)); exact (fun _ _ => high_c _ _)) | (apply x_move; exact rfl; exact rfl; (exact (by repeat' constructor))) | (apply x_assign; exact rfl; exact rfl; (exact (by repeat' constructor))) | (apply x_load; assumption; exact rfl; exact rfl; exact rfl; (exact (by repeat' constructor)); exact rfl; exact rfl; (exact (by repeat' constructor))) | (apply x_bin; exact rfl; exact rfl; exact rfl; (first | exact .z (.wrap (by omega)) | exact (by repeat' constructor))) | (apply x_un; exact rfl; exact rfl; exact rfl; (first | exact .z (.wrap (by omega)) | exact (by repeat' constructor))) | (apply x_alloc; assumption; exact rfl; exact rfl; exact rfl; (exact (by repeat' constructor)); intro _ _ _) | (apply x_store; assumption; exact rfl; exact rfl; (exact (by repeat' constructor)); (exact (by repeat' constructor)); exact rfl; exact rfl; exact rfl; (exact (by repeat' constructor)); intro _ _) | (apply x_builtin; exact rfl; exact rfl; exact (fun _ => rfl); (exact (by repeat' constructor))) | (apply x_loadB; assumption; exact rfl; exact rfl; exact rfl; assumption; exact rfl; exact rfl; (exact (by repeat' constructor))) | (apply x_index; exact rfl; exact rfl; exact rfl; exact rfl; exact rfl; (constructor); (first | omega | exact size_pos (by assumption) | assumption); (first | exact rfl | assumption | exact Rd.some_ (by assumption) (by omega) | exact Rd.some_ (Old.rd (by assumption)) (by omega) | exact (Sat.rd (by assumption) (by exact (by repeat' constructor))).some_ (by omega))) | (apply x_indexArrB; exact rfl; exact rfl; exact rfl; exact rfl; exact rfl; decide; decide; (constructor)) | (apply x_loadR; exact rfl; exact rfl; exact rfl; (first | exact Old.now (by assumption) (by assumption) | exact Sat.rdpr (by assumption) (by exact (by repeat' constructor)) | exact Sat.rd (by assumption) (by exact (by repeat' constructor))); (first | omega | exact size_pos (by assumption) | assumption); exact rfl; exact rfl; (exact (by repeat' constructor))) | (apply cw_true; exact rfl) | (apply cw_false; exact rfl) | (apply x_ndec; exact rfl; with_reducible exact rfl; all_goals (intro _; try omega)) | (apply x_dec; exact rfl; all_goals (intro _; try omega)) | (apply cw_ne; exact rfl; all_goals (intro _; try omega)) | (apply cw_eq; exact rfl; all_goals (intro _; try omega)) | (apply cw_not; exact rfl; all_goals (intro _; try omega)) | (apply cw_cond; exact rfl; all_goals (intro _; try omega))))
    · refine q_retS (by assumption) rfl (by repeat (first | exact .nil | (apply RV.tmp; exact (by repeat' constructor)) | (apply RV.cell; exact rfl; exact (by repeat' constructor); exact rfl; exact rfl; exact (by repeat' constructor)))) ?_
      refine ⟨?_, Sat.keeps (by assumption)⟩
      rw [allE, if_neg (fun h => absurd (h k hlt) (by assumption))]
      rfl
    · refine ⟨rfl, (by repeat (first | exact Agree.updl rfl (Agree.mask _ _ _) | refine Agree.upd rfl ?_)), ⟨k + 1, hlt, rfl, Sat.drop1 (by assumption), fun i hi => ?_⟩, ?_⟩
      · rcases Nat.lt_succ_iff_lt_or_eq.1 hi with hi | hi
        · exact hfe i hi
        · subst hi; assumption
      · show l.length - (k + 1 : Int).toNat < l.length - (k : Int).toNat
        omega
  · (repeat' (first | apply cw_seq | apply cw_region | apply wl_nil | apply cw_block | apply cw_skip | apply cw_exit | apply cw_ret | (apply x_move; exact rfl; exact rfl; (exact (by repeat' constructor))) | (apply x_assign; exact rfl; exact rfl; (exact (by repeat' constructor))) | (apply x_load; assumption; exact rfl; exact rfl; exact rfl; (exact (by repeat' constructor)); exact rfl; exact rfl; (exact (by repeat' constructor))) | (apply x_bin; exact rfl; exact rfl; exact rfl; (first | exact .z (.wrap (by omega)) | exact (by repeat' constructor))) | (apply x_un; exact rfl; exact rfl; exact rfl; (first | exact .z (.wrap (by omega)) | exact (by repeat' constructor))) | (apply x_alloc; assumption; exact rfl; exact rfl; exact rfl; (exact (by repeat' constructor)); intro _ _ _) | (apply x_store; assumption; exact rfl; exact rfl; (exact (by repeat' constructor)); (exact (by repeat' constructor)); exact rfl; exact rfl; exact rfl; (exact (by repeat' constructor)); intro _ _) | (apply x_builtin; exact rfl; exact rfl; exact (fun _ => rfl); (exact (by repeat' constructor))) | (apply x_loadB; assumption; exact rfl; exact rfl; exact rfl; assumption; exact rfl; exact rfl; (exact (by repeat' constructor))) | (apply x_index; exact rfl; exact rfl; exact rfl; exact rfl; exact rfl; (constructor); (first | omega | exact size_pos (by assumption) | assumption); (first | exact rfl | assumption | exact Rd.some_ (by assumption) (by omega) | exact Rd.some_ (Old.rd (by assumption)) (by omega) | exact (Sat.rd (by assumption) (by exact (by repeat' constructor))).some_ (by omega))) | (apply x_indexArrB; exact rfl; exact rfl; exact rfl; exact rfl; exact rfl; decide; decide; (constructor)) | (apply x_loadR; exact rfl; exact rfl; exact rfl; (first | exact Old.now (by assumption) (by assumption) | exact Sat.rdpr (by assumption) (by exact (by repeat' constructor)) | exact Sat.rd (by assumption) (by exact (by repeat' constructor))); (first | omega | exact size_pos (by assumption) | assumption); exact rfl; exact rfl; (exact (by repeat' constructor))) | (apply cw_true; exact rfl) | (apply cw_false; exact rfl) | (apply x_ndec; exact rfl; with_reducible exact rfl; all_goals (intro _; try omega)) | (apply x_dec; exact rfl; all_goals (intro _; try omega)) | (apply cw_ne; exact rfl; all_goals (intro _; try omega)) | (apply cw_eq; exact rfl; all_goals (intro _; try omega)) | (apply cw_not; exact rfl; all_goals (intro _; try omega)) | (apply cw_cond; exact rfl; all_goals (intro _; try omega))))
    refine q_retS (by assumption) rfl (by repeat (first | exact .nil | (apply RV.tmp; exact (by repeat' constructor)) | (apply RV.cell; exact rfl; exact (by repeat' constructor); exact rfl; exact rfl; exact (by repeat' constructor)))) ?_
    refine ⟨?_, Sat.keeps (by assumption)⟩
    rw [allE, if_pos (show allP l from fun i hi => hfe i (by omega))]
    rfl
set_option maxRecDepth 100000 in
theorem e_checked : Ent Try.prog 75 := fun _ _ => rfl
set_option maxRecDepth 4000 in
set_option maxHeartbeats 2000000 in
theorem checked_c (A : Option Addr) (c : Nat) (l : List Sp) (hl : l.length ≤ 9223372036854775807) (w : World) (R : Rd w A 3 l.length (fun i => spC (l.getD i sp0))) : Calls Try.prog 75 #[.slice A l.length c, .func (.func 44) #[] #[]] w (RetP (Val (.int .i64 (spE l)) w)) := by
  refine calls_of_cw (args := [.slice A l.length c, .func (.func 44) #[] #[]]) Try.func75 rfl rfl ?_
  have S := Sat.start [] w
  have O := (R).old
  (repeat' (first | apply cw_seq | apply cw_region | apply wl_nil | apply cw_block | apply cw_skip | apply cw_exit | apply cw_ret | (apply x_callv; assumption; exact rfl; exact rfl; exact rfl; exact e_all; (exact (by repeat' constructor)); exact (all_c _ _ l hl _ (Old.now O (by assumption))); intro _ _ _) | (apply z1_callv; exact rfl; exact rfl; exact e_all; (exact (by repeat' constructor)); exact (fun _ _ => all_c _ _ l hl _ (Old.now O (by assumption)))) | (apply z2_callv; exact rfl; exact rfl; exact e_all; (exact (by repeat' constructor)); exact (fun _ _ => all_c _ _ l hl _ (Old.now O (by assumption)))) | (apply x_move; exact rfl; exact rfl; (exact (by repeat' constructor))) | (apply x_assign; exact rfl; exact rfl; (exact (by repeat' constructor))) | (apply x_bin; exact rfl; exact rfl; exact rfl; (first | exact .z (.wrap (by omega)) | exact (by repeat' constructor))) | (apply x_builtin; exact rfl; exact rfl; exact (fun _ => rfl); (exact (by repeat' constructor))) | (apply cw_true; exact rfl) | (apply cw_false; exact rfl) | (apply x_ndec; exact rfl; with_reducible exact rfl; all_goals (intro _; try omega)) | (apply x_dec; exact rfl; all_goals (intro _; try omega)) | (apply cw_ne; exact rfl; all_goals (intro _; try omega)) | (apply cw_eq; exact rfl; all_goals (intro _; try omega)) | (apply cw_not; exact rfl; all_goals (intro _; try omega)) | (apply cw_cond; exact rfl; all_goals (intro _; try omega))))
  all_goals refine q_retS (by assumption) rfl (by repeat (first | exact .nil | (apply RV.tmp; exact (by repeat' constructor)) | (apply RV.cell; exact rfl; exact (by repeat' constructor); exact rfl; exact rfl; exact (by repeat' constructor)))) ?_
  all_goals refine ⟨?_, Sat.keeps (by assumption)⟩
  all_goals first
    | (rw [spE, if_pos (by omega)]; rfl)
    | (rw [spE, if_neg (by omega)]; rfl)
set_option maxRecDepth 100000 in
theorem e_CheckSpots : Ent Try.prog 40 := fun _ _ => rfl
set_option maxRecDepth 4000 in
set_option maxHeartbeats 2000000 in
theorem CheckSpots_c (A : Option Addr) (c : Nat) (l : List Sp) (hl : l.length ≤ 9223372036854775807) (w : World) (R : Rd w A 3 l.length (fun i => spC (l.getD i sp0))) : Calls Try.prog 40 #[.slice A l.length c] w (RetP (Val (.int .i64 (spE l)) w)) := by
  refine calls_of_cw (args := [.slice A l.length c]) Try.func40 rfl rfl ?_
  have S := Sat.start [] w
  have O := (R).old
  (repeat' (first | apply cw_seq | apply cw_region | apply wl_nil | apply cw_block | apply cw_skip | apply cw_exit | apply cw_ret | (apply x_callv; assumption; exact rfl; exact rfl; exact rfl; exact e_checked; (exact (by repeat' constructor)); exact (checked_c _ _ l hl _ (Old.now O (by assumption))); intro _ _ _) | (apply z1_callv; exact rfl; exact rfl; exact e_checked; (exact (by repeat' constructor)); exact (fun _ _ => checked_c _ _ l hl _ (Old.now O (by assumption)))) | (apply z2_callv; exact rfl; exact rfl; exact e_checked; (exact (by repeat' constructor)); exact (fun _ _ => checked_c _ _ l hl _ (Old.now O (by assumption)))) | (apply x_move; exact rfl; exact rfl; (exact (by repeat' constructor))) | (apply x_assign; exact rfl; exact rfl; (exact (by repeat' constructor)))))
  all_goals refine q_retS (by assumption) rfl (by repeat (first | exact .nil | (apply RV.tmp; exact (by repeat' constructor)) | (apply RV.cell; exact rfl; exact (by repeat' constructor); exact rfl; exact rfl; exact (by repeat' constructor)))) ?_
  all_goals exact ⟨rfl, Sat.keeps (by assumption)⟩
set_option maxRecDepth 100000 in
theorem e_rCheckSpots : Ent Try.prog 39 := fun _ _ => rfl
set_option maxRecDepth 4000 in
set_option maxHeartbeats 2000000 in
theorem rCheckSpots_c (A : Option Addr) (c : Nat) (l : List Sp) (hl : l.length ≤ 9223372036854775807) (w : World) (R : Rd w A 3 l.length (fun i => spC (l.getD i sp0))) : Calls Try.prog 39 #[.slice A l.length c] w (RetP (Val (.int .i64 (spE l)) w)) := by
  refine calls_of_cw (args := [.slice A l.length c]) Try.func39 rfl rfl ?_
  have S := Sat.start [] w
  have O := (R).old
  (repeat' (first | apply cw_seq | apply cw_region | apply wl_nil | apply cw_block | apply cw_skip | apply cw_exit | apply cw_ret | (apply x_move; exact rfl; exact rfl; (exact (by repeat' constructor))) | (apply x_assign; exact rfl; exact rfl; (exact (by repeat' constructor))) | (apply x_load; assumption; exact rfl; exact rfl; exact rfl; (exact (by repeat' constructor)); exact rfl; exact rfl; (exact (by repeat' constructor))) | (apply x_bin; exact rfl; exact rfl; exact rfl; (first | exact .z (.wrap (by omega)) | exact (by repeat' constructor))) | (apply x_un; exact rfl; exact rfl; exact rfl; (first | exact .z (.wrap (by omega)) | exact (by repeat' constructor))) | (apply x_builtin; exact rfl; exact rfl; exact (fun _ => rfl); (exact (by repeat' constructor))) | (apply x_loadB; assumption; exact rfl; exact rfl; exact rfl; assumption; exact rfl; exact rfl; (exact (by repeat' constructor))) | (apply x_index; exact rfl; exact rfl; exact rfl; exact rfl; exact rfl; (constructor); (first | omega | exact size_pos (by assumption) | assumption); (first | exact rfl | assumption | exact Rd.some_ (by assumption) (by omega) | exact Rd.some_ (Old.rd (by assumption)) (by omega) | exact (Sat.rd (by assumption) (by exact (by repeat' constructor))).some_ (by omega))) | (apply x_indexArrB; exact rfl; exact rfl; exact rfl; exact rfl; exact rfl; decide; decide; (constructor)) | (apply x_loadR; exact rfl; exact rfl; exact rfl; (first | exact Old.now (by assumption) (by assumption) | exact Sat.rdpr (by assumption) (by exact (by repeat' constructor)) | exact Sat.rd (by assumption) (by exact (by repeat' constructor))); (first | omega | exact size_pos (by assumption) | assumption); exact rfl; exact rfl; (exact (by repeat' constructor))) | (apply cw_true; exact rfl) | (apply cw_false; exact rfl) | (apply x_ndec; exact rfl; with_reducible exact rfl; all_goals (intro _; try omega)) | (apply x_dec; exact rfl; all_goals (intro _; try omega)) | (apply cw_ne; exact rfl; all_goals (intro _; try omega)) | (apply cw_eq; exact rfl; all_goals (intro _; try omega)) | (apply cw_not; exact rfl; all_goals (intro _; try omega)) | (apply cw_cond; exact rfl; all_goals (intro _; try omega))))
  all_goals first
    | (refine q_retS (by assumption) rfl (by repeat (first | exact .nil | (apply RV.tmp; exact (by repeat' constructor)) | (apply RV.cell; exact rfl; exact (by repeat' constructor); exact rfl; exact rfl; exact (by repeat' constructor)))) ?_
       refine ⟨?_, Sat.keeps (by assumption)⟩
       rw [spE, if_pos (by omega)]
       rfl)
    | skip
  rename_i hle
  refine cw_loop [2, 3, 7, 8, 9, 10, 11, 12, 13, 14, 15, 16, 17, 18] [3] (fun us wr => ∃ k : Nat, k ≤ l.length ∧ us = [.int .i64 k] ∧ Sat w [] [] wr ∧ ∀ i, i < k → rgS (l.getD i sp0)) (fun us _ => l.length - (intOf (us.getD 0 undef)).toNat) ?_ ?_
  · exact ⟨0, by omega, rfl, S, fun i hi => absurd hi (Nat.not_lt_zero i)⟩
  clear S
  rintro g us wr ⟨k, hk, rfl, Sr, hfe⟩
  by_cases hlt : k < l.length
  · (repeat' (first | apply cw_seq | apply cw_region | apply wl_nil | apply cw_block | apply cw_skip | apply cw_exit | apply cw_ret | (apply x_callv; assumption; exact rfl; exact rfl; exact rfl; exact e_rRight; (exact (by repeat' constructor)); exact (rRight_c _ _); intro _ _ _) | (apply z1_callv; exact rfl; exact rfl; exact e_rRight; (exact (by repeat' constructor)); exact (fun _ _ => rRight_c _ _)) | (apply z2_callv; exact rfl; exact rfl; exact e_rRight; (exact (by repeat' constructor)); exact (fun _ _ => rRight_c _ _)) | (apply x_move; exact rfl; exact rfl; (exact (by repeat' constructor))) | (apply x_assign; exact rfl; exact rfl; (exact (by repeat' constructor))) | (apply x_load; assumption; exact rfl; exact rfl; exact rfl; (exact (by repeat' constructor)); exact rfl; exact rfl; (exact (by repeat' constructor))) | (apply x_bin; exact rfl; exact rfl; exact rfl; (first | exact .z (.wrap (by omega)) | exact (by repeat' constructor))) | (apply x_un; exact rfl; exact rfl; exact rfl; (first | exact .z (.wrap (by omega)) | exact (by repeat' constructor))) | (apply x_builtin; exact rfl; exact rfl; exact (fun _ => rfl); (exact (by repeat' constructor))) | (apply x_loadB; assumption; exact rfl; exact rfl; exact rfl; assumption; exact rfl; exact rfl; (exact (by repeat' constructor))) | (apply x_index; exact rfl; exact rfl; exact rfl; exact rfl; exact rfl; (constructor); (first | omega | exact size_pos (by assumption) | assumption); (first | exact rfl | assumption | exact Rd.some_ (by assumption) (by omega) | exact Rd.some_ (Old.rd (by assumption)) (by omega) | exact (Sat.rd (by assumption) (by exact (by repeat' constructor))).some_ (by omega))) | (apply x_indexArrB; exact rfl; exact rfl; exact rfl; exact rfl; exact rfl; decide; decide; (constructor)) | (apply x_loadR; exact rfl; exact rfl; exact rfl; (first | exact Old.now (by assumption) (by assumption) | exact Sat.rdpr (by assumption) (by exact (by repeat' constructor)) | exact Sat.rd (by assumption) (by exact (by repeat' constructor))); (first | omega | exact size_pos (by assumption) | assumption); exact rfl; exact rfl; (exact (by repeat' constructor))) | (apply cw_true; exact rfl) | (apply cw_false; exact rfl) | (apply x_ndec; exact rfl; with_reducible exact rfl; all_goals (intro _; try omega)) | (apply x_dec; exact rfl; all_goals (intro _; try omega)) | (apply cw_ne; exact rfl; all_goals (intro _; try omega)) | (apply cw_eq; exact rfl; all_goals (intro _; try omega)) | (apply cw_not; exact rfl; all_goals (intro _; try omega)) | (apply cw_cond; exact rfl; all_goals (intro _; try omega))))
    · refine q_retS (by assumption) rfl (by repeat (first | exact .nil | (apply RV.tmp; exact (by repeat' constructor)) | (apply RV.cell; exact rfl; exact (by repeat' constructor); exact rfl; exact rfl; exact (by repeat' constructor)))) ?_
      refine ⟨?_, Sat.keeps (by assumption)⟩
      rw [spE, if_neg (by omega), allE, if_neg (fun h => absurd (h k hlt) (by assumption))]
      rfl
    · refine ⟨rfl, (by repeat (first | exact Agree.updl rfl (Agree.mask _ _ _) | refine Agree.upd rfl ?_)), ⟨k + 1, hlt, rfl, by assumption, fun i hi => ?_⟩, ?_⟩
      · rcases Nat.lt_succ_iff_lt_or_eq.1 hi with hi | hi
        · exact hfe i hi
        · subst hi; assumption
      · show l.length - (k + 1 : Int).toNat < l.length - (k : Int).toNat
        omega
  · (repeat' (first | apply cw_seq | apply cw_region | apply wl_nil | apply cw_block | apply cw_skip | apply cw_exit | apply cw_ret | (apply x_move; exact rfl; exact rfl; (exact (by repeat' constructor))) | (apply x_assign; exact rfl; exact rfl; (exact (by repeat' constructor))) | (apply x_load; assumption; exact rfl; exact rfl; exact rfl; (exact (by repeat' constructor)); exact rfl; exact rfl; (exact (by repeat' constructor))) | (apply x_bin; exact rfl; exact rfl; exact rfl; (first | exact .z (.wrap (by omega)) | exact (by repeat' constructor))) | (apply x_un; exact rfl; exact rfl; exact rfl; (first | exact .z (.wrap (by omega)) | exact (by repeat' constructor))) | (apply x_builtin; exact rfl; exact rfl; exact (fun _ => rfl); (exact (by repeat' constructor))) | (apply x_loadB; assumption; exact rfl; exact rfl; exact rfl; assumption; exact rfl; exact rfl; (exact (by repeat' constructor))) | (apply x_index; exact rfl; exact rfl; exact rfl; exact rfl; exact rfl; (constructor); (first | omega | exact size_pos (by assumption) | assumption); (first | exact rfl | assumption | exact Rd.some_ (by assumption) (by omega) | exact Rd.some_ (Old.rd (by assumption)) (by omega) | exact (Sat.rd (by assumption) (by exact (by repeat' constructor))).some_ (by omega))) | (apply x_indexArrB; exact rfl; exact rfl; exact rfl; exact rfl; exact rfl; decide; decide; (constructor)) | (apply x_loadR; exact rfl; exact rfl; exact rfl; (first | exact Old.now (by assumption) (by assumption) | exact Sat.rdpr (by assumption) (by exact (by repeat' constructor)) | exact Sat.rd (by assumption) (by exact (by repeat' constructor))); (first | omega | exact size_pos (by assumption) | assumption); exact rfl; exact rfl; (exact (by repeat' constructor))) | (apply cw_true; exact rfl) | (apply cw_false; exact rfl) | (apply x_ndec; exact rfl; with_reducible exact rfl; all_goals (intro _; try omega)) | (apply x_dec; exact rfl; all_goals (intro _; try omega)) | (apply cw_ne; exact rfl; all_goals (intro _; try omega)) | (apply cw_eq; exact rfl; all_goals (intro _; try omega)) | (apply cw_not; exact rfl; all_goals (intro _; try omega)) | (apply cw_cond; exact rfl; all_goals (intro _; try omega))))
    refine q_retS (by assumption) rfl (by repeat (first | exact .nil | (apply RV.tmp; exact (by repeat' constructor)) | (apply RV.cell; exact rfl; exact (by repeat' constructor); exact rfl; exact rfl; exact (by repeat' constructor)))) ?_
    refine ⟨?_, Sat.keeps (by assumption)⟩
    rw [spE, if_neg (by omega), allE, if_pos (show allP l from fun i hi => hfe i (by omega))]
    rfl
end Go.Proofs.Ytnlddjbeekfjlaa
