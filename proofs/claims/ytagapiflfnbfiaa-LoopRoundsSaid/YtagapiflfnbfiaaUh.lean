/- Rows of chains as the reference's; the chains that end at a feature. No statement of the seat is proved here. -/
import Derived.Test.YtagapiflfnbfiaaUg
namespace Go.Proofs.Ytagapiflfnbfiaa
set_option linter.unusedVariables false
set_option linter.unusedSimpArgs false
open Go Go.RowKit
def orHr (r : OR) : HO := .rw 0 (.slice r.A r.xs.length r.c) 75 2 (r.xs.map lkC)
def oqHr (q : OQ) : List HO := .rw 0 (.slice q.A q.rs.length q.c) 32 1 (q.rs.map orV) :: q.rs.map orHr
theorem oqHr_push {w0 w : World} {M : List Nat} {g c3 : Nat} {os : List OR} {r : OR} {t : List HO} (S : Sat w0 M (orHr r :: .rw 0 (.slice (some ⟨g, 0, none⟩) ((os.map orV).length + 1) c3) 32 1 (os.map orV ++ [orV r]) :: (os.map orHr ++ t)) w) : Sat w0 M (oqHr ⟨some ⟨g, 0, none⟩, c3, os ++ [r]⟩ ++ t) w := by
  have S1 : Sat w0 M (.rw 0 (.slice (some ⟨g, 0, none⟩) ((os.map orV).length + 1) c3) 32 1 (os.map orV ++ [orV r]) :: (os.map orHr ++ (orHr r :: t))) w := by
    refine S.perm' ?_
    refine (List.Perm.swap _ _ _).trans ?_
    exact List.Perm.cons _ List.perm_middle.symm
  refine Sat.cast ?_ S1
  simp [oqHr]
theorem oqV_push {g c3 : Nat} {os : List OR} {r : OR} : oqV ⟨some ⟨g, 0, none⟩, c3, os ++ [r]⟩ = .slice (some ⟨g, 0, none⟩) ((os.map orV).length + 1) c3 := by simp [oqV]
theorem hasOf {o : HO} : ∀ {h : List HO}, o ∈ h → Has h o
  | [], hm => by cases hm
  | x :: h, hm => by
    by_cases e : o = x
    · subst e; exact .head
    · rcases List.mem_cons.1 hm with h1 | h1
      · exact absurd h1 e
      · exact .tail (hasOf h1)
theorem is_rowE {r r' : OR} (h : r = r') : Is (.slice r.A r.xs.length r.c) (.slice r'.A r'.xs.length r'.c) := by subst h; exact .z .any
theorem oqr_rd {q : OQ} {h : List HO} {w0 w : World} {M : List Nat} (S : Sat w0 M h w) (hs : ∀ o ∈ oqHr q, o ∈ h) : Rd w q.A 1 q.rs.length (fun i => orV (q.rs.getD i or0)) ∧ ∀ i, i < q.rs.length → Rd w (q.rs.getD i or0).A 2 (q.rs.getD i or0).xs.length (fun j => lkC ((q.rs.getD i or0).xs.getD j lk0)) := by
  refine ⟨Sat.rdmapN (en := orV) or0 S (hasOf (hs _ (List.mem_cons_self ..))) rfl, fun i hi => ?_⟩
  have hm := getD_mem or0 hi
  exact Sat.rdmapN (en := lkC) lk0 S (hasOf (hs (orHr (q.rs.getD i or0)) (List.mem_cons_of_mem _ (List.mem_map_of_mem hm)))) rfl
theorem take_snocR {os : List OR} {rs : List OR} {k : Nat} {r : OR} (h : k < rs.length) (h1 : os.map OR.xs = (rs.take k).map OR.xs) (h2 : r.xs = (rs.getD k or0).xs) : (os ++ [r]).map OR.xs = (rs.take (k + 1)).map OR.xs := by
  have e : rs.take (k + 1) = rs.take k ++ [rs.getD k or0] := by rw [List.take_add_one]; simp [List.getD_eq_getElem?_getD, h]
  rw [e, List.map_append, List.map_append, h1, List.map_cons, List.map_cons, h2]
set_option maxRecDepth 100000 in
theorem e_lall : Ent Try.prog 21 := fun _ _ => rfl
set_option maxRecDepth 8000 in
set_option maxHeartbeats 4000000 in
theorem lall_c (B : Option Addr) (cB : Nat) (rs : List OR) (hrs : rs.length ≤ 20000000) (hx : ∀ r ∈ rs, r.xs.length ≤ 1000000) (w : World) (R2 : Rd w B 1 rs.length (fun i => orV (rs.getD i or0))) (R3 : ∀ i, i < rs.length → Rd w (rs.getD i or0).A 2 (rs.getD i or0).xs.length (fun j => lkC ((rs.getD i or0).xs.getD j lk0))) : Calls Try.prog 21 #[.slice B rs.length cB] w (RetP fun v w' => ∃ q : { q : OQ // q.rs.map OR.xs = rs.map OR.xs }, v = oqV q.1 ∧ Sat w [] (oqHr q.1) w') := by
  refine calls_of_cw (args := [.slice B rs.length cB]) Try.func21 rfl rfl ?_
  have S := Sat.start [] w
  have O2 := R2.old
  (repeat' (first | apply cw_seq | apply cw_region | apply wl_nil | apply cw_block | (apply x_move; exact rfl; exact rfl; (exact (by repeat' constructor))) | (apply x_assign; exact rfl; exact rfl; (exact (by repeat' constructor))) | (apply x_builtin; exact rfl; exact rfl; exact (fun _ => rfl); (exact (by repeat' constructor)))))
  refine cw_loop [3, 5, 8, 9, 10, 11, 12, 13, 14, 15, 16, 17] [8, 3] (fun us wr => ∃ (k : Nat) (q : OQ), k ≤ rs.length ∧ q.rs.map OR.xs = (rs.take k).map OR.xs ∧ us = [.int .i64 k, oqV q] ∧ Sat w [] (oqHr q) wr) (fun us _ => rs.length - (intOf (us.getD 0 undef)).toNat) ?_ ?_
  · exact ⟨0, ⟨none, 0, []⟩, Nat.zero_le _, rfl, rfl, S.addNil _ _⟩
  clear S
  rintro g us wr ⟨k, ⟨Ao, co, os⟩, hk, hos, rfl, Sr⟩
  dsimp only at hos
  by_cases hlt : k < rs.length
  · have hol : os.length = k := by
      have := congrArg List.length hos
      simp at this
      omega
    have hxl := hx _ (getD_mem or0 hlt)
    have O3 := (R3 k hlt).old
    have hz : (rs.getD k or0).xs.length * 16 ≤ reachBytes := Nat.le_trans (Nat.mul_le_mul_right 16 hxl) (by decide)
    replace Sr : Sat w [] (.rw 0 (.slice Ao os.length co) 32 1 (os.map orV) :: os.map orHr) wr := Sr
    show CW _ _ _ _ _ _ (updl _ _ [.int .i64 (k : Int), .slice Ao os.length co]) _
    (repeat' (first | apply cw_seq | apply cw_region | apply wl_nil | apply cw_block | apply cw_skip | (apply x_callrowE (m := (rs.getD k or0).xs.length); assumption; exact rfl; exact rfl; exact rfl; exact e_own; (exact (by repeat' constructor)); with_reducible exact (own_c _ _ (rs.getD k or0).xs (Nat.le_trans hxl (by decide)) hz _ (Old.now O3 (by assumption))); exact (List.length_map _); intro _ _ _ _) | (apply x_append1; assumption; exact rfl; exact rfl; exact rfl; exact rfl; exact rfl; (exact (by repeat' constructor)); (exact (by repeat' constructor)); exact rfl; exact rfl; exact rfl; (first | assumption | omega | (simp; omega)); intro _ _ _ _) | (apply x_move; exact rfl; exact rfl; (exact (by repeat' constructor))) | (apply x_assign; exact rfl; exact rfl; (exact (by repeat' constructor))) | (apply x_bin; exact rfl; exact rfl; exact rfl; (first | exact .z (.wrap (by omega)) | exact (by repeat' constructor))) | (apply x_buildSlice; assumption; exact rfl; exact rfl; exact rfl; (exact (by repeat' constructor)); intro _ _ _) | (apply x_index; exact rfl; exact rfl; exact rfl; exact rfl; exact rfl; (constructor); (first | omega | exact size_pos (by assumption) | assumption); (first | exact rfl | assumption | exact Rd.some_ (by assumption) (by omega) | exact Rd.some_ (Old.rd (by assumption)) (by omega) | exact (Sat.rd (by assumption) (by exact (by repeat' constructor))).some_ (by omega))) | (apply x_loadR; exact rfl; exact rfl; exact rfl; (first | exact Old.now (by assumption) (by assumption) | exact Sat.rdpr (by assumption) (by exact (by repeat' constructor)) | exact Sat.rd (by assumption) (by exact (by repeat' constructor))); (first | omega | exact size_pos (by assumption) | assumption); exact rfl; exact rfl; (exact (by repeat' constructor))) | (apply x_dec; exact rfl; all_goals (intro _; try omega))))
    rename_i A5 c5 _ _ _ _ _ g3 c3 w7 S7
    refine ⟨rfl, (by repeat (first | exact Agree.updl rfl (Agree.mask _ _ _) | refine Agree.upd rfl ?_)), ⟨k + 1, ⟨some ⟨g3, 0, none⟩, c3, os ++ [⟨A5, c5, (rs.getD k or0).xs⟩]⟩, hlt, take_snocR hlt hos rfl, (by rw [oqV_push]; rfl), ?_⟩, ?_⟩
    · have S8 := oqHr_push (r := ⟨A5, c5, (rs.getD k or0).xs⟩) (t := []) (by rw [List.append_nil]; exact S7.drop1)
      rwa [List.append_nil] at S8
    · show rs.length - (k + 1 : Int).toNat < rs.length - (k : Int).toNat
      omega
  · have hkl : k = rs.length := by omega
    subst hkl
    rw [List.take_length] at hos
    (repeat' (first | apply cw_seq | apply cw_region | apply wl_nil | apply cw_exit | apply cw_ret | (apply x_move; exact rfl; exact rfl; (exact (by repeat' constructor))) | (apply x_assign; exact rfl; exact rfl; (exact (by repeat' constructor))) | (apply x_bin; exact rfl; exact rfl; exact rfl; (first | exact .z (.wrap (by omega)) | exact (by repeat' constructor))) | (apply x_dec; exact rfl; all_goals (intro _; try omega))))
    (first | refine q_retS (by assumption) rfl (by repeat (first | exact .nil | (apply RV.tmp; exact (by repeat' constructor)) | (apply RV.cell; exact rfl; exact (by repeat' constructor); exact rfl; exact rfl; exact (by repeat' constructor)))) ?_ | (simp only [thenQ, blockQ]; refine q_retS (by assumption) rfl (by repeat (first | exact .nil | (apply RV.tmp; exact (by repeat' constructor)) | (apply RV.cell; exact rfl; exact (by repeat' constructor); exact rfl; exact rfl; exact (by repeat' constructor)))) ?_))
    exact ⟨⟨⟨Ao, co, os⟩, hos⟩, rfl, Sr⟩
/-! ### the chains that end at a feature -/
theorem filter_snoc {rs : List OR} {k : Nat} {p : OR → Bool} (h : k < rs.length) : (rs.take (k + 1)).filter p = (rs.take k).filter p ++ (if p (rs.getD k or0) = true then [rs.getD k or0] else []) := by
  have e : rs.take (k + 1) = rs.take k ++ [rs.getD k or0] := by rw [List.take_add_one]; simp [List.getD_eq_getElem?_getD, h]
  rw [e, List.filter_append]
  congr 1
  by_cases hp : p (rs.getD k or0) = true
  · rw [if_pos hp, List.filter_cons, if_pos hp, List.filter_nil]
  · rw [if_neg hp, List.filter_cons, if_neg hp, List.filter_nil]
set_option maxRecDepth 100000 in
theorem e_rLead : Ent Try.prog 44 := fun _ _ => rfl
set_option maxRecDepth 8000 in
set_option maxHeartbeats 4000000 in
theorem rLead_c (A : Option Addr) (cA : Nat) (l : List Dm) (hl : l.length ≤ 9223372036854775807) (ho : ∀ i, i < l.length → (dat l i).ok) (B : Option Addr) (cB : Nat) (rs : List OR) (hrs : rs.length ≤ 20000000) (hx : ∀ r ∈ rs, r.xs.length ≤ 1000000) (hp : ∀ r ∈ rs, 0 < r.xs.length ∧ ∀ x ∈ r.xs, inR l x) (to : ByteArray) (hto : to.size ≤ 9223372036854775807) (w : World) (R : Rd w A 5 l.length (fun i => dmC (l.getD i dm0))) (R2 : Rd w B 1 rs.length (fun i => orV (rs.getD i or0))) (R3 : ∀ i, i < rs.length → Rd w (rs.getD i or0).A 2 (rs.getD i or0).xs.length (fun j => lkC ((rs.getD i or0).xs.getD j lk0))) :
    Calls Try.prog 44 #[.slice A l.length cA, .slice B rs.length cB, .string to] w (RetP (RowR (fun v => v) 32 1 ((rs.filter fun r => leadB l to r.xs).map orV) w)) := by
  refine calls_of_cw (args := [.slice A l.length cA, .slice B rs.length cB, .string to]) Try.func44 rfl rfl ?_
  have S := Sat.start [] w
  have O := R.old
  have O2 := R2.old
  (repeat' (first | apply cw_seq | apply cw_region | apply wl_nil | apply cw_block | (apply x_assign; exact rfl; exact rfl; (exact (by repeat' constructor)))))
  refine cw_loop [7, 8, 9, 10, 11, 12, 13, 14, 15, 16, 17, 18, 19, 20, 21, 22, 23, 24, 25, 26, 27, 28, 29, 30, 31, 32, 33, 34, 35, 36, 37] [8, 7] (fun us wr => ∃ (k : Nat) (Ao : Option Addr) (co : Nat), k ≤ rs.length ∧ us = [.int .i64 k, .slice Ao ((rs.take k).filter fun r => leadB l to r.xs).length co] ∧ Sat w [] [.rw 0 (.slice Ao ((rs.take k).filter fun r => leadB l to r.xs).length co) 32 1 (((rs.take k).filter fun r => leadB l to r.xs).map orV)] wr) (fun us _ => rs.length - (intOf (us.getD 0 undef)).toNat) ?_ ?_
  · exact ⟨0, none, 0, Nat.zero_le _, rfl, S.addNil _ _⟩
  clear S
  rintro g us wr ⟨k, Ao, co, hk, rfl, Sr⟩
  by_cases hlt : k < rs.length
  · have hfs := filter_snoc (p := fun r => leadB l to r.xs) hlt
    obtain ⟨os, hos⟩ : ∃ os, (rs.take k).filter (fun r => leadB l to r.xs) = os := ⟨_, rfl⟩
    rw [hos] at Sr hfs
    rw [hos]
    have hol : os.length ≤ 20000000 := by
      rw [← hos]
      exact Nat.le_trans (List.length_filter_le _ _) (by rw [List.length_take]; omega)
    obtain ⟨r, hr⟩ : ∃ r, rs.getD k or0 = r := ⟨_, rfl⟩
    have hrm : r ∈ rs := by rw [← hr]; exact getD_mem or0 hlt
    have hxl := hx _ hrm
    obtain ⟨h0, hin⟩ := hp _ hrm
    have O3 := (R3 k hlt).old
    rw [hr] at O3 hfs
    have hz0 : (0 : Int) ≤ (r.xs.length : Int) - 1 ∧ (r.xs.length : Int) - 1 < r.xs.length := by omega
    have hzl : ((r.xs.length : Int) - 1).toNat < r.xs.length := by omega
    have hzn : ((r.xs.length : Int) - 1).toNat = r.xs.length - 1 := by omega
    have hil : inR l (r.xs.getD ((r.xs.length : Int) - 1).toNat lk0) := hin _ (getD_mem lk0 hzl)
    have hlb : leadB l to r.xs = true ↔ stoE l (r.xs.getD ((r.xs.length : Int) - 1).toNat lk0) = to := by
      unfold leadB
      rw [hzn, decide_eq_true_iff]
    by_cases hb : stoE l (r.xs.getD ((r.xs.length : Int) - 1).toNat lk0) = to
    all_goals
      (repeat' (first | apply cw_seq | apply cw_region | apply wl_nil | apply cw_block | apply cw_skip | (apply y_loadR; exact rfl; exact rfl; exact O2; exact hlt; exact rfl; exact rfl; exact is_rowE hr) | (apply x_loadR; exact rfl; exact rfl; exact rfl; exact Old.now O2 (by assumption); exact hlt; exact rfl; exact rfl; exact is_rowE hr) | (apply y_indexI (z := (r.xs.length : Int) - 1); exact rfl; exact rfl; exact rfl; exact rfl; (constructor); exact hz0.1; exact hz0.2; (exact (Old.rd O3).some_ (by omega))) | (apply y_loadR; exact rfl; exact rfl; exact O3; exact hzl; exact rfl; exact rfl; (exact (by repeat' constructor))) | (apply z2_callv; exact rfl; exact rfl; exact e_rStop; (exact (by repeat' constructor)); with_reducible exact (fun _ _ => rStop_c A cA l hl ho _ hil _ (Old.now O (by assumption)))) | (apply cw_draw (id := 5) [(0, 0), (1, 0), (2, 0), (3, 0), (4, 0), (5, 0), (6, 0), (7, 0), (8, 0), (9, 0), (10, 0), (11, 0), (12, 0), (14, 0), (13, 2), (15, 0)]; assumption; exact mixed; kernel_rfl) | (apply x_append1; assumption; exact rfl; exact rfl; exact rfl; exact rfl; exact rfl; (exact (by repeat' constructor)); (exact (by repeat' constructor)); exact rfl; exact rfl; exact rfl; (first | assumption | omega | (simp; omega)); intro _ _ _ _) | (apply x_move; exact rfl; exact rfl; (exact (by repeat' constructor))) | (apply x_assign; exact rfl; exact rfl; (exact (by repeat' constructor))) | (apply x_bin; exact rfl; exact rfl; exact rfl; (first | exact .z (.wrap (by omega)) | exact (by repeat' constructor))) | (apply x_builtin; exact rfl; exact rfl; exact (fun _ => rfl); (exact (by repeat' constructor))) | (apply x_buildSlice; assumption; exact rfl; exact rfl; exact rfl; (exact (by repeat' constructor)); intro _ _ _) | (apply x_index; exact rfl; exact rfl; exact rfl; exact rfl; exact rfl; (constructor); (first | omega | exact size_pos (by assumption) | assumption); (first | exact rfl | assumption | exact Rd.some_ (by assumption) (by omega) | exact Rd.some_ (Old.rd (by assumption)) (by omega) | exact (Sat.rd (by assumption) (by exact (by repeat' constructor))).some_ (by omega))) | (apply y_eqStr; exact rfl; exact rfl; exact rfl) | (apply y_move; exact rfl; (exact (by repeat' constructor))) | (apply y_bin; exact rfl; exact (fun _ => rfl); (first | exact .z (.wrap (by omega)) | exact (by repeat' constructor))) | (apply y_builtin; exact rfl; exact (fun _ _ => rfl); (exact (by repeat' constructor))) | (apply y_index; exact rfl; exact rfl; exact rfl; exact rfl; (constructor); (first | omega | exact size_pos (by assumption) | assumption); (first | exact rfl | assumption | exact Rd.some_ (by assumption) (by omega) | exact Rd.some_ (Old.rd (by assumption)) (by omega) | exact (Sat.rd (by assumption) (by exact (by repeat' constructor))).some_ (by omega))) | (apply y_nil; intro _ _) | (apply x_dec; exact rfl; all_goals (intro _; try omega))))
      all_goals first
        | exact absurd hb (by assumption)
        | exact absurd (by assumption) hb
        | skip
    · rename_i g3 c3 w7 S7
      rw [if_pos (hlb.2 hb)] at hfs
      refine ⟨rfl, (by repeat (first | exact Agree.updl rfl (Agree.mask _ _ _) | refine Agree.upd rfl ?_)), ⟨k + 1, some ⟨g3, 0, none⟩, c3, hlt, ?_, ?_⟩, ?_⟩
      · rw [hfs]; simp only [List.length_append, List.length_map]; rfl
      · rw [hfs]
        refine Sat.cast ?_ S7.drop1
        simp [orV]
        rfl
      · show rs.length - (k + 1 : Int).toNat < rs.length - (k : Int).toNat
        omega
    · rw [if_neg (fun e => hb (hlb.1 e)), List.append_nil] at hfs
      refine ⟨rfl, (by repeat (first | exact Agree.updl rfl (Agree.mask _ _ _) | refine Agree.upd rfl ?_)), ⟨k + 1, Ao, co, hlt, ?_, ?_⟩, ?_⟩
      · rw [hfs]; rfl
      · rw [hfs]; assumption
      · show rs.length - (k + 1 : Int).toNat < rs.length - (k : Int).toNat
        omega
  · have hkl : k = rs.length := by omega
    subst hkl
    rw [List.take_length] at Sr
    rw [List.take_length]
    (repeat' (first | apply cw_seq | apply cw_region | apply wl_nil | apply cw_exit | apply cw_ret | (apply x_move; exact rfl; exact rfl; (exact (by repeat' constructor))) | (apply x_assign; exact rfl; exact rfl; (exact (by repeat' constructor))) | (apply x_bin; exact rfl; exact rfl; exact rfl; (first | exact .z (.wrap (by omega)) | exact (by repeat' constructor))) | (apply x_builtin; exact rfl; exact rfl; exact (fun _ => rfl); (exact (by repeat' constructor))) | (apply x_dec; exact rfl; all_goals (intro _; try omega))))
    (first | refine q_retS (by assumption) rfl (by repeat (first | exact .nil | (apply RV.tmp; exact (by repeat' constructor)) | (apply RV.cell; exact rfl; exact (by repeat' constructor); exact rfl; exact rfl; exact (by repeat' constructor)))) ?_ | (simp only [thenQ, blockQ]; refine q_retS (by assumption) rfl (by repeat (first | exact .nil | (apply RV.tmp; exact (by repeat' constructor)) | (apply RV.cell; exact rfl; exact (by repeat' constructor); exact rfl; exact rfl; exact (by repeat' constructor)))) ?_))
    exact rowR_n (V := fun v => v) (List.length_map _).symm Sr .head
end Go.Proofs.Ytagapiflfnbfiaa
