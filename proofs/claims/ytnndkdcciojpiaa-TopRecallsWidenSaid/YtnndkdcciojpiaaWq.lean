/- Shifts: as arguments; whether one is small and right. No statement of the seat is proved here. -/
import Derived.Test.YtnndkdcciojpiaaWp
import Derived.Test.YtnndkdcciojpiaaWd
import Derived.Test.YtnndkdcciojpiaaEngP
import Derived.Test.YtnndkdcciojpiaaEngK
namespace Go.Proofs.Ytnndkdcciojpiaa.Rl
set_option linter.unusedVariables false
set_option linter.unusedSimpArgs false
open Go Go.RowKit Go.Maps
/-! ### few events: what it says does not matter -/
set_option maxRecDepth 100000 in
theorem e_rFewL : Ent Try.prog 22 := fun _ _ => rfl
set_option maxRecDepth 8000 in
set_option maxHeartbeats 8000000 in
theorem rFewL_c {A : Option Addr} {n c : Nat} {l : List Ev} (hn : n = l.length) (hl9 : l.length ≤ 9223372036854775807) (ho : ∀ i, i < l.length → (l.getD i ev0).ok) (w : World) (R : Rd w A 4 l.length (fun i => evC (l.getD i ev0))) : Calls Try.prog 22 #[.slice A n c] w (RetP fun v w' => ∃ b : Bool, v = .bool b ∧ Sat w [] [] w') := by
  subst hn
  refine calls_of_cw (args := [.slice A l.length c]) Try.func22 rfl rfl ?_
  have S := Sat.start [] w
  have O := R.old
  (repeat' (first | apply cw_seq | apply cw_region | apply wl_nil | apply cw_block | apply cw_skip | apply cw_ret | (apply x_gdec; exact rfl; exact rfl; all_goals (intro _; try omega)) | (apply x_not; exact rfl; exact rfl) | (apply x_move; exact rfl; exact rfl; (exact (by repeat' constructor))) | (apply x_assign; exact rfl; exact rfl; (exact (by repeat' constructor))) | (apply x_bin; exact rfl; exact rfl; exact rfl; (first | exact .z (.wrap (by omega)) | exact (by repeat' constructor))) | (apply x_pick; exact rfl; exact rfl; exact rfl; (exact (by repeat' constructor))) | (apply x_builtin; exact rfl; exact rfl; exact (fun _ => rfl); (exact (by repeat' constructor))) | (apply cw_true; exact rfl) | (apply x_dec; exact rfl; all_goals (intro _; try omega))))
  all_goals first
    | (exfalso; omega)
    | ((first | refine q_retS (by assumption) rfl (by repeat (first | exact .nil | (apply RV.tmp; exact (by repeat' constructor)) | (apply RV.cell; exact rfl; exact (by repeat' constructor); exact rfl; exact rfl; exact (by repeat' constructor)))) ?_ | (simp only [thenQ, blockQ]; refine q_retS (by assumption) rfl (by repeat (first | exact .nil | (apply RV.tmp; exact (by repeat' constructor)) | (apply RV.cell; exact rfl; exact (by repeat' constructor); exact rfl; exact rfl; exact (by repeat' constructor)))) ?_))
       exact ⟨_, rfl, keepSat (by assumption)⟩)
    | skip
  all_goals
    refine cw_loop [2, 3, 17, 18, 19, 20, 21, 22, 23, 24, 25, 26, 27, 28, 29, 30, 31, 32, 33, 34, 35, 36, 37, 38, 39, 40, 41, 42, 43, 44, 45, 46, 47] [3] (fun us wr => ∃ i : Nat, i ≤ l.length ∧ us = [.int .i64 i] ∧ Sat w [] [] wr) (fun us _ => l.length - (intOf (us.getD 0 undef)).toNat) ?_ ?_
    · exact ⟨0, Nat.zero_le _, rfl, S⟩
    clear S
    rintro g us wr ⟨i, hi, rfl, Sr⟩
    by_cases hlt : i < l.length
    · have hsz := ho i hlt
      (repeat' (first | apply cw_seq | apply cw_region | apply wl_nil | apply cw_block | apply cw_skip | apply cw_ret | (apply x_gdec; exact rfl; exact rfl; all_goals (intro _; try omega)) | (apply x_not; exact rfl; exact rfl) | (apply x_move; exact rfl; exact rfl; (exact (by repeat' constructor))) | (apply x_assign; exact rfl; exact rfl; (exact (by repeat' constructor))) | (apply x_bin; exact rfl; exact rfl; exact rfl; (first | exact .z (.wrap (by omega)) | exact (by repeat' constructor))) | (apply x_pick; exact rfl; exact rfl; exact rfl; (exact (by repeat' constructor))) | (apply x_builtin; exact rfl; exact rfl; exact (fun _ => rfl); (exact (by repeat' constructor))) | (apply x_fieldE; exact rfl; exact rfl; exact rfl; exact rfl; (constructor)) | (apply x_index; exact rfl; exact rfl; exact rfl; exact rfl; exact rfl; (constructor); (first | omega | exact size_pos (by assumption) | assumption); (first | exact rfl | assumption | exact Rd.some_ (by assumption) (by omega) | exact Rd.some_ (Old.rd (by assumption)) (by omega) | exact (Sat.rd (by assumption) (by exact (by repeat' constructor))).some_ (by omega))) | (apply x_loadR; exact rfl; exact rfl; exact rfl; (first | exact Old.now (by assumption) (by assumption) | exact Sat.rdpr (by assumption) (by exact (by repeat' constructor)) | exact Sat.rd (by assumption) (by exact (by repeat' constructor))); (first | omega | exact size_pos (by assumption) | assumption); exact rfl; exact rfl; (exact (by repeat' constructor))) | (apply cw_true; exact rfl) | (apply x_dec; exact rfl; all_goals (intro _; try omega))))
      all_goals first
        | (exfalso; omega)
        | ((first | refine q_retS (by assumption) rfl (by repeat (first | exact .nil | (apply RV.tmp; exact (by repeat' constructor)) | (apply RV.cell; exact rfl; exact (by repeat' constructor); exact rfl; exact rfl; exact (by repeat' constructor)))) ?_ | (simp only [thenQ, blockQ]; refine q_retS (by assumption) rfl (by repeat (first | exact .nil | (apply RV.tmp; exact (by repeat' constructor)) | (apply RV.cell; exact rfl; exact (by repeat' constructor); exact rfl; exact rfl; exact (by repeat' constructor)))) ?_))
           exact ⟨_, rfl, keepSat (by assumption)⟩)
        | (refine ⟨rfl, (by repeat (first | exact Agree.updl rfl (Agree.mask _ _ _) | refine Agree.upd rfl ?_)), ⟨i + 1, hlt, rfl, by assumption⟩, ?_⟩
           show l.length - (i + 1 : Int).toNat < l.length - (i : Int).toNat
           omega)
    · (repeat' (first | apply cw_seq | apply cw_region | apply wl_nil | apply cw_exit | apply cw_ret | (apply x_move; exact rfl; exact rfl; (exact (by repeat' constructor))) | (apply x_assign; exact rfl; exact rfl; (exact (by repeat' constructor))) | (apply x_bin; exact rfl; exact rfl; exact rfl; (first | exact .z (.wrap (by omega)) | exact (by repeat' constructor))) | (apply x_builtin; exact rfl; exact rfl; exact (fun _ => rfl); (exact (by repeat' constructor))) | (apply x_dec; exact rfl; all_goals (intro _; try omega))))
      all_goals first
        | (exfalso; omega)
        | ((first | refine q_retS (by assumption) rfl (by repeat (first | exact .nil | (apply RV.tmp; exact (by repeat' constructor)) | (apply RV.cell; exact rfl; exact (by repeat' constructor); exact rfl; exact rfl; exact (by repeat' constructor)))) ?_ | (simp only [thenQ, blockQ]; refine q_retS (by assumption) rfl (by repeat (first | exact .nil | (apply RV.tmp; exact (by repeat' constructor)) | (apply RV.cell; exact rfl; exact (by repeat' constructor); exact rfl; exact rfl; exact (by repeat' constructor)))) ?_))
           exact ⟨_, rfl, keepSat (by assumption)⟩)
/-! ### shifts as arguments -/
structure Sh where
  A : Option Addr
  cA : Nat
  l : List Rc
  B : Option Addr
  cB : Nat
  e : List Ev
  C : Option Addr
  cC : Nat
  s : List Int
abbrev pkC (x : Int) : List Value := [.int .i64 x]
abbrev shV (t : Sh) : Value := .agg #[.slice t.A t.l.length t.cA, .slice t.B t.e.length t.cB, .slice t.C t.s.length t.cC]
structure Sh.ok (t : Sh) (w : World) : Prop where
  hl : t.l.length ≤ 9223372036854775807
  ho : ∀ i, i < t.l.length → (rat t.l i).ok
  he : t.e.length ≤ 9223372036854775807
  hoe : ∀ i, i < t.e.length → (t.e.getD i ev0).ok
  hs : t.s.length ≤ 9223372036854775807
  R : Rd w t.A 6 t.l.length (fun i => rcC (t.l.getD i rc0))
  R2 : Rd w t.B 4 t.e.length (fun i => evC (t.e.getD i ev0))
  R3 : Rd w t.C 1 t.s.length (fun i => pkC (t.s.getD i 0))
  zl : t.l.length * 64 ≤ reachBytes
  ze : t.e.length * 56 ≤ reachBytes
  ce : t.e.length ≤ t.cB
theorem openSh {w : World} {v : Value} (h : ∃ l : List Value, v = .agg l.toArray ∧ LeavesZ w [.slice 64 6 [.string, .string, .int .i64, .int .i64, .int .i64, .int .i64], .slice 56 4 [.int .i64, .string, .string, .string], .slice 8 1 [.int .i64]] l) : ∃ t : Sh, v = shV t ∧ t.ok w := by
  obtain ⟨_, rfl, h⟩ := h
  simp only [LeavesZ, LeafZ] at h
  obtain ⟨_, _, rfl, ⟨A, cA, css, rfl, h1, h2, R, hc, hz⟩, _, _, rfl, ⟨B, cB, dss, rfl, h3, h4, R2, hd, hy⟩, _, _, rfl, ⟨C, cC, ess, rfl, h5, h6, R3, hf, hx⟩, rfl⟩ := h
  obtain ⟨l, rfl, hl⟩ := ex_map (f := rcC) (p := Rc.ok) css (fun c hcm => by
    obtain ⟨_, _, rfl, ⟨a, rfl, ha⟩, _, _, rfl, ⟨b, rfl, hb⟩, _, _, rfl, ⟨x, rfl, _⟩, _, _, rfl, ⟨y, rfl, _⟩, _, _, rfl, ⟨z, rfl, _⟩, _, _, rfl, ⟨t, rfl, _⟩, rfl⟩ := hc c hcm
    exact ⟨⟨a, b, x, y, z, t⟩, rfl, by have : maxLen = 9223372036854775807 := rfl; exact ⟨show a.size ≤ 9223372036854775807 by omega, show b.size ≤ 9223372036854775807 by omega⟩⟩)
  obtain ⟨e, rfl, he⟩ := ex_map (f := evC) (p := Ev.ok) dss (fun c hcm => by
    obtain ⟨_, _, rfl, ⟨a, rfl, _⟩, _, _, rfl, ⟨b, rfl, hb⟩, _, _, rfl, ⟨x, rfl, hx⟩, _, _, rfl, ⟨y, rfl, hy⟩, rfl⟩ := hd c hcm
    exact ⟨⟨a, b, x, y⟩, rfl, by have : maxLen = 9223372036854775807 := rfl; exact ⟨show b.size ≤ 9223372036854775807 by omega, show x.size ≤ 9223372036854775807 by omega, show y.size ≤ 9223372036854775807 by omega⟩⟩)
  obtain ⟨s, rfl, _⟩ := ex_map (f := pkC) (p := fun _ => True) ess (fun c hcm => by
    obtain ⟨_, _, rfl, ⟨a, rfl, _⟩, rfl⟩ := hf c hcm
    exact ⟨a, rfl, trivial⟩)
  rw [List.length_map] at h1 hz h3 hy h5 hx
  have hm : maxLen = 9223372036854775807 := rfl
  refine ⟨⟨A, cA, l, B, cB, e, C, cC, s⟩, ?_, ?_⟩
  · unfold shV; rw [List.length_map, List.length_map, List.length_map]
  · exact ⟨show l.length ≤ _ by omega, fun i hi => hl _ (getD_mem rc0 hi), show e.length ≤ _ by omega, fun i hi => he _ (getD_mem ev0 hi), show s.length ≤ _ by omega, R.map rc0, R2.map ev0, R3.map 0, hz, hy, h3⟩
/-! ### a shift that is small and right -/
/-- what is known of a shift that is small and right -/
structure Sh.Right (t : Sh) : Prop where
  r : ckE t.l = 0
  n : t.e.length ≤ 14
  e : RightL t.e
set_option maxRecDepth 100000 in
theorem e_runShift : Ent Try.prog 6 := fun _ _ => rfl
theorem rCheckL_n {A : Option Addr} {n c : Nat} {l : List Ev} (hn : n = l.length) (hl9 : l.length ≤ 9223372036854775807) (ho : ∀ i, i < l.length → (l.getD i ev0).ok) (w : World) (R : Rd w A 4 l.length (fun i => evC (l.getD i ev0))) (hc : n ≤ c) : Calls Try.prog 23 #[.slice A n c] w (RetP fun v w' => ∃ z : {z : Int // z = 0 → RightL l}, v = .int .i64 z.1 ∧ Sat w [] [] w') := by
  subst hn
  exact rCheckL_c A c l hc hl9 ho w R
theorem rFew_n {A : Option Addr} {n c : Nat} {l : List Rc} (hn : n = l.length) (hl : l.length ≤ 9223372036854775807) (ho : ∀ i, i < l.length → (rat l i).ok) (w : World) (R : Rd w A 6 l.length (fun i => rcC (l.getD i rc0))) : Calls Try.prog 20 #[.slice A n c] w (RetP (Val (.bool (fewB l)) w)) := by
  subst hn
  exact rFew_c A c l hl ho w R
theorem rCheckR_n {A : Option Addr} {n c : Nat} {l : List Rc} (hn : n = l.length) (hl : l.length ≤ 9223372036854775807) (ho : ∀ i, i < l.length → (rat l i).ok) (w : World) (R : Rd w A 6 l.length (fun i => rcC (l.getD i rc0))) : Calls Try.prog 21 #[.slice A n c] w (RetP (Val (.int .i64 (ckE l)) w)) := by
  subst hn
  exact rCheckR_c A c l hl ho w R
set_option maxRecDepth 8000 in
set_option maxHeartbeats 8000000 in
theorem runShift_c (t : Sh) (w : World) (ok : t.ok w) : Calls Try.prog 6 #[shV t] w (RetP fun v w' => ∃ b : {b : Bool // b = true → t.Right}, v = .bool b.1 ∧ Sat w [] [] w') := by
  refine calls_of_cw (args := [.agg #[.slice t.A t.l.length t.cA, .slice t.B t.e.length t.cB, .slice t.C t.s.length t.cC]]) Try.func6 rfl rfl ?_
  have S := Sat.start [] w
  have OA := ok.R.old
  have OB := ok.R2.old
  have hl := ok.hl
  have he := ok.he
  have hz := ok.zl
  have hz2 := ok.ze
  (repeat' (first | apply cw_seq | apply cw_region | apply wl_nil | apply cw_block | (apply x_move; exact rfl; exact rfl; (exact (by repeat' constructor))) | (apply x_assign; exact rfl; exact rfl; (exact (by repeat' constructor))) | (apply x_fieldB; exact rfl; exact rfl; exact rfl; exact rfl; (constructor)) | (apply x_load; assumption; exact rfl; exact rfl; exact rfl; (exact (by repeat' constructor)); exact rfl; exact rfl; (exact (by repeat' constructor))) | (apply x_box; assumption; exact rfl; exact rfl; (exact (by repeat' constructor)); (exact (by repeat' constructor)); intro _ _ _) | (apply x_builtin; exact rfl; exact rfl; exact (fun _ => rfl); (exact (by repeat' constructor)))))
  rename_i b1 _ _
  refine cw_loop [3, 5, 12, 13, 14, 15, 16, 17, 18, 19, 20] [12, 3] (fun us wr => ∃ (k : Nat) (A' : Option Addr) (c' : Nat), k ≤ t.l.length ∧ us = [.int .i64 k, .slice A' ((t.l.take k).map rcC).length c'] ∧ Sat w [] [.rw 0 (.slice A' ((t.l.take k).map rcC).length c') 58 6 ((t.l.take k).map rcC), .cl b1 26 [.slice t.A t.l.length t.cA, .slice t.B t.e.length t.cB, .slice t.C t.s.length t.cC]] wr) (fun us _ => t.l.length - (intOf (us.getD 0 undef)).toNat) ?_ ?_
  · exact ⟨0, none, 0, by omega, rfl, Sat.addNil (by assumption) _ _⟩
  clear S
  rintro g' us wr ⟨k, A', c', hk, rfl, Sr⟩
  by_cases hlt : k < t.l.length
  · have hkl : ((t.l.take k).map rcC).length = k := by simp; omega
    have hb : (((t.l.take k).map rcC).length + 1) * 64 ≤ reachBytes := Nat.le_trans (Nat.mul_le_mul_right 64 (by omega)) hz
    have e : (t.l.take (k + 1)).map rcC = (t.l.take k).map rcC ++ [rcC (t.l.getD k rc0)] := by
      rw [take_sucD (d := rc0) hlt, List.map_append]; rfl
    (repeat' (first | apply cw_seq | apply cw_region | apply wl_nil | apply cw_block | apply cw_skip | (apply x_append1B; assumption; exact rfl; exact rfl; exact rfl; exact rfl; exact rfl; (exact (by repeat' constructor)); (exact (by repeat' constructor)); exact rfl; exact rfl; exact rfl; exact hb; intro _ _ _ _) | (apply x_move; exact rfl; exact rfl; (exact (by repeat' constructor))) | (apply x_assign; exact rfl; exact rfl; (exact (by repeat' constructor))) | (apply x_load; assumption; exact rfl; exact rfl; exact rfl; (exact (by repeat' constructor)); exact rfl; exact rfl; (exact (by repeat' constructor))) | (apply x_bin; exact rfl; exact rfl; exact rfl; (first | exact .z (.wrap (by omega)) | exact (by repeat' constructor))) | (apply x_alloc; assumption; exact rfl; exact rfl; exact rfl; (exact (by repeat' constructor)); intro _ _ _) | (apply x_store; assumption; exact rfl; exact rfl; (exact (by repeat' constructor)); (exact (by repeat' constructor)); exact rfl; exact rfl; exact rfl; (exact (by repeat' constructor)); intro _ _) | (apply x_buildSlice; assumption; exact rfl; exact rfl; exact rfl; (exact (by repeat' constructor)); intro _ _ _) | (apply x_index; exact rfl; exact rfl; exact rfl; exact rfl; exact rfl; (constructor); (first | omega | exact size_pos (by assumption) | assumption); (first | exact rfl | assumption | exact Rd.some_ (by assumption) (by omega) | exact Rd.some_ (Old.rd (by assumption)) (by omega) | exact (Sat.rd (by assumption) (by exact (by repeat' constructor))).some_ (by omega))) | (apply x_loadR; exact rfl; exact rfl; exact rfl; (first | exact Old.now (by assumption) (by assumption) | exact Sat.rdpr (by assumption) (by exact (by repeat' constructor)) | exact Sat.rd (by assumption) (by exact (by repeat' constructor))); (first | omega | exact size_pos (by assumption) | assumption); exact rfl; exact rfl; (exact (by repeat' constructor))) | (apply x_dec; exact rfl; all_goals (intro _; try omega))))
    rename_i g1 cap1 w2 S2
    refine ⟨rfl, (by repeat (first | exact Agree.updl rfl (Agree.mask _ _ _) | refine Agree.upd rfl ?_)), ⟨k + 1, some ⟨g1, 0, none⟩, cap1, hlt, ?_, ?_⟩, ?_⟩
    · rw [e, List.length_append]; rfl
    · rw [e, List.length_append]; exact Sat.drop2 S2
    · show t.l.length - (k + 1 : Int).toNat < t.l.length - (k : Int).toNat
      omega
  have ek : k = t.l.length := by omega
  subst ek
  rw [List.take_length] at Sr
  (repeat' (first | apply cw_seq | apply cw_region | apply wl_nil | apply cw_block | apply cw_exit | (apply x_move; exact rfl; exact rfl; (exact (by repeat' constructor))) | (apply x_assign; exact rfl; exact rfl; (exact (by repeat' constructor))) | (apply x_fieldB; exact rfl; exact rfl; exact rfl; exact rfl; (constructor)) | (apply x_load; assumption; exact rfl; exact rfl; exact rfl; (exact (by repeat' constructor)); exact rfl; exact rfl; (exact (by repeat' constructor))) | (apply x_bin; exact rfl; exact rfl; exact rfl; (first | exact .z (.wrap (by omega)) | exact (by repeat' constructor))) | (apply x_builtin; exact rfl; exact rfl; exact (fun _ => rfl); (exact (by repeat' constructor))) | (apply x_dec; exact rfl; all_goals (intro _; try omega))))
  rw [List.take_length]
  refine cw_loop [6, 8, 24, 25, 26, 27, 28, 29, 30, 31, 32] [24, 6] (fun us wr => ∃ (k : Nat) (B' : Option Addr) (d' : Nat), k ≤ t.e.length ∧ us = [.int .i64 k, .slice B' ((t.e.take k).map evC).length d'] ∧ Sat w [] [.rw 0 (.slice B' ((t.e.take k).map evC).length d') 60 4 ((t.e.take k).map evC), .rw 0 (.slice A' ((t.l).map rcC).length c') 58 6 ((t.l).map rcC), .cl b1 26 [.slice t.A t.l.length t.cA, .slice t.B t.e.length t.cB, .slice t.C t.s.length t.cC]] wr) (fun us _ => t.e.length - (intOf (us.getD 0 undef)).toNat) ?_ ?_
  · exact ⟨0, none, 0, by omega, rfl, Sat.addNil (by assumption) _ _⟩
  clear Sr
  rintro g2 us2 wr2 ⟨k, B', d', hk, rfl, Sr⟩
  by_cases hlt : k < t.e.length
  · have hkl : ((t.e.take k).map evC).length = k := by simp; omega
    have hb : (((t.e.take k).map evC).length + 1) * 56 ≤ reachBytes := Nat.le_trans (Nat.mul_le_mul_right 56 (by omega)) hz2
    have e : (t.e.take (k + 1)).map evC = (t.e.take k).map evC ++ [evC (t.e.getD k ev0)] := by
      rw [take_sucD (d := ev0) hlt, List.map_append]; rfl
    (repeat' (first | apply cw_seq | apply cw_region | apply wl_nil | apply cw_block | apply cw_skip | (apply x_append1B; assumption; exact rfl; exact rfl; exact rfl; exact rfl; exact rfl; (exact (by repeat' constructor)); (exact (by repeat' constructor)); exact rfl; exact rfl; exact rfl; exact hb; intro _ _ _ _) | (apply x_move; exact rfl; exact rfl; (exact (by repeat' constructor))) | (apply x_assign; exact rfl; exact rfl; (exact (by repeat' constructor))) | (apply x_load; assumption; exact rfl; exact rfl; exact rfl; (exact (by repeat' constructor)); exact rfl; exact rfl; (exact (by repeat' constructor))) | (apply x_bin; exact rfl; exact rfl; exact rfl; (first | exact .z (.wrap (by omega)) | exact (by repeat' constructor))) | (apply x_alloc; assumption; exact rfl; exact rfl; exact rfl; (exact (by repeat' constructor)); intro _ _ _) | (apply x_store; assumption; exact rfl; exact rfl; (exact (by repeat' constructor)); (exact (by repeat' constructor)); exact rfl; exact rfl; exact rfl; (exact (by repeat' constructor)); intro _ _) | (apply x_buildSlice; assumption; exact rfl; exact rfl; exact rfl; (exact (by repeat' constructor)); intro _ _ _) | (apply x_index; exact rfl; exact rfl; exact rfl; exact rfl; exact rfl; (constructor); (first | omega | exact size_pos (by assumption) | assumption); (first | exact rfl | assumption | exact Rd.some_ (by assumption) (by omega) | exact Rd.some_ (Old.rd (by assumption)) (by omega) | exact (Sat.rd (by assumption) (by exact (by repeat' constructor))).some_ (by omega))) | (apply x_loadR; exact rfl; exact rfl; exact rfl; (first | exact Old.now (by assumption) (by assumption) | exact Sat.rdpr (by assumption) (by exact (by repeat' constructor)) | exact Sat.rd (by assumption) (by exact (by repeat' constructor))); (first | omega | exact size_pos (by assumption) | assumption); exact rfl; exact rfl; (exact (by repeat' constructor))) | (apply x_dec; exact rfl; all_goals (intro _; try omega))))
    rename_i g1 cap1 w2 S2
    refine ⟨rfl, (by repeat (first | exact Agree.updl rfl (Agree.mask _ _ _) | refine Agree.upd rfl ?_)), ⟨k + 1, some ⟨g1, 0, none⟩, cap1, hlt, ?_, ?_⟩, ?_⟩
    · rw [e, List.length_append]; rfl
    · rw [e, List.length_append]; exact Sat.drop2 S2
    · show t.e.length - (k + 1 : Int).toNat < t.e.length - (k : Int).toNat
      omega
  have ek : k = t.e.length := by omega
  subst ek
  rw [List.take_length] at Sr
  rw [List.take_length]
  have hcap : (t.e.map evC).length ≤ d' := Sat.rowCap Sr .head
  (repeat' (first | apply cw_seq | apply cw_region | apply wl_nil | apply cw_exit | apply cw_ret | (apply x_callv; assumption; exact rfl; exact rfl; exact rfl; exact e_rFew; (exact (by repeat' constructor)); (with_reducible refine rFew_n (l := t.l) ?_ hl ok.ho _ ?_); exact List.length_map _; exact (Sat.rdmapN rc0 (by assumption) (by exact (by repeat' constructor)) (List.length_map _)); intro _ _ _) | (apply x_callv; assumption; exact rfl; exact rfl; exact rfl; exact e_rCheckR; (exact (by repeat' constructor)); (with_reducible refine rCheckR_n (l := t.l) ?_ hl ok.ho _ ?_); exact List.length_map _; exact (Sat.rdmapN rc0 (by assumption) (by exact (by repeat' constructor)) (List.length_map _)); intro _ _ _) | (apply x_callH (hs := fun _ => []); assumption; exact rfl; exact rfl; exact rfl; exact e_rFewL; (exact (by repeat' constructor)); (with_reducible apply rFewL_c (l := t.e)); exact List.length_map _; exact ok.he; exact ok.hoe; exact (Sat.rdmapN ev0 (by assumption) (by exact (by repeat' constructor)) (List.length_map _)); rintro b3 w3 S3; cases b3 <;> replace S3 : Sat w [] _ w3 := S3) | (apply x_callH (hs := fun _ => []); assumption; exact rfl; exact rfl; exact rfl; exact e_rCheckL; (exact (by repeat' constructor)); (with_reducible apply rCheckL_n (l := t.e)); exact List.length_map _; exact ok.he; exact ok.hoe; exact (Sat.rdmapN ev0 (by assumption) (by exact (by repeat' constructor)) (List.length_map _)); exact hcap; rintro ⟨z4, hz4⟩ w4 S4; dsimp only; replace S4 : Sat w [] _ w4 := S4) | (apply x_gdec; exact rfl; exact rfl; all_goals (intro _; try omega)) | (apply x_not; exact rfl; exact rfl) | (apply x_move; exact rfl; exact rfl; (exact (by repeat' constructor))) | (apply x_assign; exact rfl; exact rfl; (exact (by repeat' constructor))) | (apply x_fieldB; exact rfl; exact rfl; exact rfl; exact rfl; (constructor)) | (apply x_load; assumption; exact rfl; exact rfl; exact rfl; (exact (by repeat' constructor)); exact rfl; exact rfl; (exact (by repeat' constructor))) | (apply x_bin; exact rfl; exact rfl; exact rfl; (first | exact .z (.wrap (by omega)) | exact (by repeat' constructor))) | (apply x_pick; exact rfl; exact rfl; exact rfl; (exact (by repeat' constructor))) | (apply x_builtin; exact rfl; exact rfl; exact (fun _ => rfl); (exact (by repeat' constructor))) | (apply x_dec; exact rfl; all_goals (intro _; try omega))))
  all_goals first
    | ((first | refine q_retS (by assumption) rfl (by repeat (first | exact .nil | (apply RV.tmp; exact (by repeat' constructor)) | (apply RV.cell; exact rfl; exact (by repeat' constructor); exact rfl; exact rfl; exact (by repeat' constructor)))) ?_ | (simp only [thenQ, blockQ]; refine q_retS (by assumption) rfl (by repeat (first | exact .nil | (apply RV.tmp; exact (by repeat' constructor)) | (apply RV.cell; exact rfl; exact (by repeat' constructor); exact rfl; exact rfl; exact (by repeat' constructor)))) ?_))
       exact ⟨⟨false, fun h => by cases h⟩, rfl, keepSat (by assumption)⟩)
    | skip
  all_goals (first | refine q_retS (by assumption) rfl (by repeat (first | exact .nil | (apply RV.tmp; exact (by repeat' constructor)) | (apply RV.cell; exact rfl; exact (by repeat' constructor); exact rfl; exact rfl; exact (by repeat' constructor)))) ?_ | (simp only [thenQ, blockQ]; refine q_retS (by assumption) rfl (by repeat (first | exact .nil | (apply RV.tmp; exact (by repeat' constructor)) | (apply RV.cell; exact rfl; exact (by repeat' constructor); exact rfl; exact rfl; exact (by repeat' constructor)))) ?_))
  all_goals exact ⟨⟨z4 == 0, fun h => ⟨by assumption, by omega, hz4 (by simpa using h)⟩⟩, rfl, keepSat (by assumption)⟩
end Go.Proofs.Ytnndkdcciojpiaa.Rl
