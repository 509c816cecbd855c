/- Loops of dimensions: the program's walk. No statement of the seat is proved here. -/
import Derived.Test.YtagapiflfnbfiaaJk
namespace Go.Proofs.Ytagapiflfnbfiaa
set_option linter.unusedVariables false
set_option linter.unusedSimpArgs false
open Go Go.RowKit
def useF (fs : List Bool) : Nat → Bool := fun j => fs.getD j false
def stepFo (l : List Dm) (s : List Bool × List Nat) (i : Nat) : List Bool × List Nat :=
  if (shS l (nlk l (dat l i).ax (useF s.1) l.length) (dat l i).fr (dat l i).to).2 = true then (s.1, s.2 ++ [i]) else (s.1.set i true, s.2)
def forS (l : List Dm) (k : Nat) : List Bool × List Nat := (List.range k).foldl (stepFo l) (List.replicate l.length false, [])
theorem forS_succ {l : List Dm} {k : Nat} : forS l (k + 1) = stepFo l (forS l k) k := by unfold forS; rw [List.range_succ, List.foldl_append]; rfl
theorem forS_len {l : List Dm} : ∀ k : Nat, (forS l k).1.length = l.length ∧ (forS l k).2.length ≤ k ∧ ∀ i ∈ (forS l k).2, i < k
  | 0 => ⟨List.length_replicate, Nat.le_refl _, fun i h => by cases h⟩
  | k + 1 => by
    obtain ⟨h1, h2, h3⟩ := forS_len (l := l) k
    rw [forS_succ]
    unfold stepFo
    split
    · refine ⟨h1, by rw [List.length_append]; simpa using h2, fun i hi => ?_⟩
      rcases List.mem_append.1 hi with hi | hi
      · have := h3 i hi; omega
      · simp at hi; omega
    · exact ⟨by rw [List.length_set]; exact h1, by show (forS l k).2.length ≤ k + 1; omega, fun i hi => by have := h3 i hi; omega⟩
/-- the chain that closes the loop of dimension i -/
def ringS (l : List Dm) (i : Nat) : List Lk := (shS l (nlk l (dat l i).ax (useF (forS l l.length).1) l.length) (dat l i).to (dat l i).fr).1
def lopS (l : List Dm) : List (List Lk) × Int := if givenE l = 0 then ((forS l l.length).2.map (fun (i : Nat) => (⟨(i : Int), false⟩ : Lk) :: ringS l i), 0) else ([], givenE l)
def boC (b : Bool) : List Value := [.bool b]
def naC (i : Nat) : List Value := [.int .i64 (i : Int)]
set_option maxRecDepth 100000 in
theorem e_Loops : Ent Try.prog 22 := fun _ _ => rfl
set_option maxRecDepth 8000 in
set_option maxHeartbeats 8000000 in
theorem Loops_c (A : Option Addr) (cA : Nat) (l : List Dm) (hl : l.length ≤ 9223372036854775807) (ho : ∀ i, i < l.length → (dat l i).ok) (w : World) (R : Rd w A 5 l.length (fun i => dmC (l.getD i dm0))) : Calls Try.prog 22 #[.slice A l.length cA] w (RetP fun v w' => ∃ q : { q : OQ // q.rs.map OR.xs = (lopS l).1 }, v = .tuple #[oqV q.1, .int .i64 (lopS l).2] ∧ Sat w [] (oqH q.1) w') := by
  refine calls_of_cw (args := [.slice A l.length cA]) Try.func22 rfl rfl ?_
  have S := Sat.start [] w
  have O := R.old
  by_cases he : givenE l = 0
  · have hL := givenE_len he
    (repeat' (first | apply cw_seq | apply cw_region | apply wl_nil | apply cw_block | apply cw_skip | (apply x_callv; assumption; exact rfl; exact rfl; exact rfl; exact e_given; (exact (by repeat' constructor)); with_reducible exact (given_c A cA l hl ho _ (Old.now O (by assumption))); intro _ _ _) | (apply x_makeSlice1; assumption; exact rfl; exact rfl; exact rfl; exact rfl; exact rfl; exact rfl; exact rfl; exact rfl; omega; intro gF _ _) | (apply x_move; exact rfl; exact rfl; (exact (by repeat' constructor))) | (apply x_assign; exact rfl; exact rfl; (exact (by repeat' constructor))) | (apply x_bin; exact rfl; exact rfl; exact rfl; (first | exact .z (.wrap (by omega)) | exact (by repeat' constructor))) | (apply x_alloc; assumption; exact rfl; exact rfl; exact rfl; (exact (by repeat' constructor)); intro _ _ _) | (apply x_store; assumption; exact rfl; exact rfl; (exact (by repeat' constructor)); (exact (by repeat' constructor)); exact rfl; exact rfl; exact rfl; (exact (by repeat' constructor)); intro _ _) | (apply x_builtin; exact rfl; exact rfl; exact (fun _ => rfl); (exact (by repeat' constructor))) | (apply x_makeFunc; exact rfl; exact rfl; (exact (by repeat' constructor))) | (apply cw_ne; exact rfl; all_goals (intro _; try omega))))
    all_goals first
      | exact absurd he (by assumption)
      | skip
    rename_i b5 _ _ w4 S4
    have hch : ∀ {w0 : World} {M : List Nat} {h : List HO} {w : World} {fs : List Bool} (Sx : Sat w0 M h w) (h1 : Has h (.cl b5 91 [.slice (some ⟨gF, 0, none⟩) l.length l.length])) (h2 : Has h (.rw 0 (.slice (some ⟨gF, 0, none⟩) l.length l.length) 4 1 (fs.map boC))) (j : Nat) (hj : j < l.length) (w' : World) (hk : Keeps [] w w'), fs.length = l.length →
        Calls Try.prog 51 #[.int .i64 (j : Int), .pointer (some ⟨b5, 0, none⟩)] w' (RetP (Val (.bool (useF fs j)) w')) := fun {w0 M h w fs} Sx h1 h2 j hj w' hk hfs => by
      have h3 := Sx.oldb h1 hk
      have h4 := (Sat.rdmapN false Sx h2 hfs.symm).call hk
      rw [← hfs] at h3
      exact chosen_c b5 _ _ fs j (by omega) w' h3 h4
    refine cw_loop [7, 8, 9, 10, 27, 28, 29, 30, 31, 32, 33, 34, 35, 36, 37, 38, 39, 40, 41, 42, 43, 44, 45, 46, 47, 48, 49, 50, 51, 52, 53, 54, 55, 56, 57, 58, 59, 60, 61] [27, 7] (fun us wr => ∃ (i : Nat) (Ar : Option Addr) (cr : Nat), i ≤ l.length ∧ us = [.int .i64 (i : Int), .slice Ar (forS l i).2.length cr] ∧ Sat w [] [.rw 0 (.slice Ar ((forS l i).2).length cr) 3 1 (((forS l i).2).map naC), .cl b5 91 [.slice (some ⟨gF, 0, none⟩) l.length l.length], .rw 0 (.slice (some ⟨gF, 0, none⟩) l.length l.length) 4 1 (((forS l i).1).map boC)] wr) (fun us _ => l.length - (intOf (us.getD 0 undef)).toNat) ?_ ?_
    · refine ⟨0, none, 0, Nat.zero_le _, rfl, ?_⟩
      have e : (forS l 0).1.map boC = List.replicate l.length [.bool false] := by show (List.replicate l.length false).map boC = _; rw [List.map_replicate]; rfl
      rw [e]
      exact S4.addNil _ _
    clear S4 S
    rintro g' us wr ⟨i, Ar, cr, hi, rfl, Sr⟩
    have hfs := forS_len (l := l) i
    by_cases hlt : i < l.length
    · have hok := ho i hlt
      have hf1 : (l.getD i dm0).fr.size ≤ 9223372036854775807 := hok.1
      have hf2 : (l.getD i dm0).to.size ≤ 9223372036854775807 := hok.2
      have hstep := forS_succ (l := l) (k := i)
      obtain ⟨fs, hfs1⟩ : ∃ fs, (forS l i).1 = fs := ⟨_, rfl⟩
      obtain ⟨rs, hrs1⟩ : ∃ rs, (forS l i).2 = rs := ⟨_, rfl⟩
      rw [hfs1, hrs1] at Sr
      rw [hrs1]
      unfold stepFo at hstep
      rw [hfs1, hrs1] at hstep
      have hfl : fs.length = l.length := by rw [← hfs1]; exact hfs.1
      have hrl : rs.length ≤ i := by rw [← hrs1]; exact hfs.2.1
      cases hok2 : (shS l (nlk l (l.getD i dm0).ax (useF fs) l.length) (l.getD i dm0).fr (l.getD i dm0).to).2 with
      | true =>
        rw [if_pos hok2] at hstep
        (repeat' (first | apply cw_seq | apply cw_region | apply wl_nil | apply cw_block | apply cw_skip | (apply z1_callH; exact rfl; exact rfl; exact e_joined; (exact (by repeat' constructor)); exact (fun _ Sx => joined_c A cA l hl ho hL _ (useF fs) _ [.pointer (some ⟨b5, 0, none⟩)] e_chosen _ (Old.now O Sx) (fun j hj w' hk => hch Sx (by exact (by repeat' constructor)) (by exact (by repeat' constructor)) j hj w' hk hfl)); rintro ⟨⟨bn, hn⟩, Nn⟩; dsimp only at Nn; dsimp only) | (apply z2_callrowE; exact rfl; exact rfl; exact e_shortest; (exact (by repeat' constructor)); exact (fun _ Sx => shortest_c A cA l hl ho _ (nlk_ok l _ (useF fs) hL) bn _ _ hf1 hf2 _ (Old.now O Sx) (Nn.rdL Sx)); exact List.length_map _; intro Ap cp) | (apply y_nil; intro wz Sz; replace Sz := Sat.drop1 (Sat.tail2 Sz)) | (apply cw_draw (id := 10) [(0, 0), (1, 0), (2, 0), (3, 0), (4, 0), (5, 0), (6, 0), (7, 0), (9, 0), (10, 0), (11, 0), (12, 0), (13, 0), (14, 0), (15, 0), (16, 0), (17, 0), (18, 0), (8, 1), (19, 2), (20, 0), (21, 0), (22, 0), (23, 0), (24, 0)]; assumption; exact mixed; kernel_rfl) | (apply x_append1; assumption; exact rfl; exact rfl; exact rfl; exact rfl; exact rfl; (exact (by repeat' constructor)); (exact (by repeat' constructor)); exact rfl; exact rfl; exact rfl; (first | assumption | omega | (simp; omega)); intro _ _ _ _) | (apply x_move; exact rfl; exact rfl; (exact (by repeat' constructor))) | (apply x_assign; exact rfl; exact rfl; (exact (by repeat' constructor))) | (apply x_load; assumption; exact rfl; exact rfl; exact rfl; (exact (by repeat' constructor)); exact rfl; exact rfl; (exact (by repeat' constructor))) | (apply x_bin; exact rfl; exact rfl; exact rfl; (first | exact .z (.wrap (by omega)) | exact (by repeat' constructor))) | (apply x_buildSlice; assumption; exact rfl; exact rfl; exact rfl; (exact (by repeat' constructor)); intro _ _ _) | (apply x_index; exact rfl; exact rfl; exact rfl; exact rfl; exact rfl; (constructor); (first | omega | exact size_pos (by assumption) | assumption); (first | exact rfl | assumption | exact Rd.some_ (by assumption) (by omega) | exact Rd.some_ (Old.rd (by assumption)) (by omega) | exact (Sat.rd (by assumption) (by exact (by repeat' constructor))).some_ (by omega))) | (apply y_move; exact rfl; (exact (by repeat' constructor))) | (apply y_assign; exact rfl; (exact (by repeat' constructor))) | (apply y_extract; exact rfl; exact (fun _ => rfl); (exact (by repeat' constructor))) | (apply y_fieldE; exact rfl; exact rfl; exact rfl; (constructor)) | (apply y_index; exact rfl; exact rfl; exact rfl; exact rfl; (constructor); (first | omega | exact size_pos (by assumption) | assumption); (first | exact rfl | assumption | exact Rd.some_ (by assumption) (by omega) | exact Rd.some_ (Old.rd (by assumption)) (by omega) | exact (Sat.rd (by assumption) (by exact (by repeat' constructor))).some_ (by omega))) | (apply y_loadR; exact rfl; exact rfl; assumption; (first | omega | exact size_pos (by assumption) | assumption); exact rfl; exact rfl; (exact (by repeat' constructor))) | (apply x_dec; exact rfl; all_goals (intro _; try omega)) | (apply cw_cond; exact rfl; all_goals (intro _; try omega))))
        all_goals first
          | exact absurd (hok2.symm.trans (by assumption)) (by decide)
          | skip
        rename_i g4 c4 w5 S5
        have e : (forS l (i + 1)).2.length = (rs.map naC).length + 1 := by rw [hstep, List.length_append, List.length_map]; rfl
        refine ⟨rfl, (by repeat (first | exact Agree.updl rfl (Agree.mask _ _ _) | refine Agree.upd rfl ?_)), ⟨i + 1, some ⟨g4, 0, none⟩, c4, hlt, ?_, ?_⟩, ?_⟩
        · rw [e]; rfl
        · rw [e, hstep, List.map_append]; exact S5.drop1
        · show l.length - (i + 1 : Int).toNat < l.length - (i : Int).toNat
          omega
      | false =>
        rw [if_neg (by rw [hok2]; decide)] at hstep
        have hfi : i < (fs.map boC).length := by rw [List.length_map, hfl]; exact hlt
        (repeat' (first | apply cw_seq | apply cw_region | apply wl_nil | apply cw_block | apply cw_skip | (apply z1_callH; exact rfl; exact rfl; exact e_joined; (exact (by repeat' constructor)); exact (fun _ Sx => joined_c A cA l hl ho hL _ (useF fs) _ [.pointer (some ⟨b5, 0, none⟩)] e_chosen _ (Old.now O Sx) (fun j hj w' hk => hch Sx (by exact (by repeat' constructor)) (by exact (by repeat' constructor)) j hj w' hk hfl)); rintro ⟨⟨bn, hn⟩, Nn⟩; dsimp only at Nn; dsimp only) | (apply z2_callrowE; exact rfl; exact rfl; exact e_shortest; (exact (by repeat' constructor)); exact (fun _ Sx => shortest_c A cA l hl ho _ (nlk_ok l _ (useF fs) hL) bn _ _ hf1 hf2 _ (Old.now O Sx) (Nn.rdL Sx)); exact List.length_map _; intro Ap cp) | (apply y_nil; intro wz Sz; replace Sz := Sat.drop1 (Sat.tail2 Sz)) | (apply x_storeRow; assumption; exact rfl; exact rfl; (exact (by repeat' constructor)); exact rfl; exact rfl; (exact (by repeat' constructor)); exact hfi; exact Nat.succ_pos _; intro _ _) | (apply cw_draw (id := 10) [(0, 0), (1, 0), (2, 0), (3, 0), (4, 0), (5, 0), (6, 0), (7, 0), (9, 0), (10, 0), (11, 0), (12, 0), (13, 0), (14, 0), (15, 0), (16, 0), (17, 0), (18, 0), (8, 1), (19, 2), (20, 0), (21, 0), (22, 0), (23, 0), (24, 0)]; assumption; exact mixed; kernel_rfl) | (apply x_append1; assumption; exact rfl; exact rfl; exact rfl; exact rfl; exact rfl; (exact (by repeat' constructor)); (exact (by repeat' constructor)); exact rfl; exact rfl; exact rfl; (first | assumption | omega | (simp; omega)); intro _ _ _ _) | (apply x_move; exact rfl; exact rfl; (exact (by repeat' constructor))) | (apply x_assign; exact rfl; exact rfl; (exact (by repeat' constructor))) | (apply x_load; assumption; exact rfl; exact rfl; exact rfl; (exact (by repeat' constructor)); exact rfl; exact rfl; (exact (by repeat' constructor))) | (apply x_bin; exact rfl; exact rfl; exact rfl; (first | exact .z (.wrap (by omega)) | exact (by repeat' constructor))) | (apply x_buildSlice; assumption; exact rfl; exact rfl; exact rfl; (exact (by repeat' constructor)); intro _ _ _) | (apply x_index; exact rfl; exact rfl; exact rfl; exact rfl; exact rfl; (constructor); (first | omega | exact size_pos (by assumption) | assumption); (first | exact rfl | assumption | exact Rd.some_ (by assumption) (by omega) | exact Rd.some_ (Old.rd (by assumption)) (by omega) | exact (Sat.rd (by assumption) (by exact (by repeat' constructor))).some_ (by omega))) | (apply y_move; exact rfl; (exact (by repeat' constructor))) | (apply y_assign; exact rfl; (exact (by repeat' constructor))) | (apply y_extract; exact rfl; exact (fun _ => rfl); (exact (by repeat' constructor))) | (apply y_fieldE; exact rfl; exact rfl; exact rfl; (constructor)) | (apply y_index; exact rfl; exact rfl; exact rfl; exact rfl; (constructor); (first | omega | exact size_pos (by assumption) | assumption); (first | exact rfl | assumption | exact Rd.some_ (by assumption) (by omega) | exact Rd.some_ (Old.rd (by assumption)) (by omega) | exact (Sat.rd (by assumption) (by exact (by repeat' constructor))).some_ (by omega))) | (apply y_loadR; exact rfl; exact rfl; assumption; (first | omega | exact size_pos (by assumption) | assumption); exact rfl; exact rfl; (exact (by repeat' constructor))) | (apply x_dec; exact rfl; all_goals (intro _; try omega)) | (apply cw_cond; exact rfl; all_goals (intro _; try omega))))
        all_goals first
          | exact absurd (hok2.symm.trans (by assumption)) (by decide)
          | skip
        rename_i w5 S5
        have e : (forS l (i + 1)).2 = rs := by rw [hstep]
        have e1 : (forS l (i + 1)).1.map boC = (fs.map boC).set i (((fs.map boC).getD i []).set 0 (.bool true)) := by
          rw [hstep, List.map_set]
          congr 1
          rw [List.getD_eq_getElem?_getD, List.getElem?_map, List.getElem?_eq_getElem (by omega)]
          rfl
        refine ⟨rfl, (by repeat (first | exact Agree.updl rfl (Agree.mask _ _ _) | refine Agree.upd rfl ?_)), ⟨i + 1, Ar, cr, hlt, ?_, ?_⟩, ?_⟩
        · rw [e]; rfl
        · rw [e, e1]; exact S5
        · show l.length - (i + 1 : Int).toNat < l.length - (i : Int).toNat
          omega
    · have hil : i = l.length := by omega
      subst hil
      have hlo : lopS l = ((forS l l.length).2.map (fun (i : Nat) => (⟨(i : Int), false⟩ : Lk) :: ringS l i), 0) := if_pos he
      rw [hlo]
      obtain ⟨fs, hfs1⟩ : ∃ fs, (forS l l.length).1 = fs := ⟨_, rfl⟩
      obtain ⟨rs, hrs1⟩ : ∃ rs, (forS l l.length).2 = rs := ⟨_, rfl⟩
      have hfl : fs.length = l.length := by rw [← hfs1]; exact hfs.1
      have hrl : rs.length ≤ l.length := by rw [← hrs1]; exact hfs.2.1
      have hri : ∀ i ∈ rs, i < l.length := by rw [← hrs1]; exact hfs.2.2
      rw [hfs1, hrs1] at Sr
      rw [hrs1]
      (repeat' (first | apply cw_seq | apply cw_region | apply wl_nil | apply cw_block | apply cw_exit | (apply x_move; exact rfl; exact rfl; (exact (by repeat' constructor))) | (apply x_assign; exact rfl; exact rfl; (exact (by repeat' constructor))) | (apply x_bin; exact rfl; exact rfl; exact rfl; (first | exact .z (.wrap (by omega)) | exact (by repeat' constructor))) | (apply x_builtin; exact rfl; exact rfl; exact (fun _ => rfl); (exact (by repeat' constructor))) | (apply x_dec; exact rfl; all_goals (intro _; try omega))))
      refine cw_loop [11, 13, 14, 15, 64, 65, 66, 67, 68, 69, 70, 71, 72, 73, 74, 75, 76, 77, 78, 79, 80, 81, 82, 83, 84, 85, 86, 87, 88, 89, 90, 91, 92, 93, 94, 95, 96, 97, 98, 99] [64, 11] (fun us wr => ∃ (j : Nat) (q : OQ), j ≤ rs.length ∧ q.rs.map OR.xs = (rs.take j).map (fun (i : Nat) => (⟨(i : Int), false⟩ : Lk) :: ringS l i) ∧ us = [.int .i64 (j : Int), oqV q] ∧ Sat w [] (.rw 0 (.slice Ar (rs).length cr) 3 1 ((rs).map naC) :: .cl b5 91 [.slice (some ⟨gF, 0, none⟩) l.length l.length] :: .rw 0 (.slice (some ⟨gF, 0, none⟩) l.length l.length) 4 1 (fs.map boC) :: oqH q) wr) (fun us _ => rs.length - (intOf (us.getD 0 undef)).toNat) ?_ ?_
      · exact ⟨0, ⟨none, 0, []⟩, Nat.zero_le _, rfl, rfl, ((Sat.addNil (by assumption) 23 1).perm' (List.perm_append_comm (l₁ := [_]) (l₂ := [_, _, _])))⟩
      clear Sr
      rintro g2 us2 wr2 ⟨j, ⟨Ao, co, os⟩, hj, hos, rfl, Sr⟩
      dsimp only at hos
      by_cases hlt2 : j < rs.length
      · have hij : rs.getD j 0 < l.length := by
          rw [List.getD_eq_getElem?_getD, List.getElem?_eq_getElem hlt2]; exact hri _ (List.getElem_mem hlt2)
        have hok := ho (rs.getD j 0) hij
        have hf1 : (l.getD (rs.getD j 0) dm0).fr.size ≤ 9223372036854775807 := hok.1
        have hf2 : (l.getD (rs.getD j 0) dm0).to.size ≤ 9223372036854775807 := hok.2
        have hol : os.length = j := by
          have := congrArg List.length hos
          simp at this
          omega
        replace Sr : Sat w [] (.rw 0 (.slice Ar rs.length cr) 3 1 (rs.map naC) :: .cl b5 91 [.slice (some ⟨gF, 0, none⟩) l.length l.length] :: .rw 0 (.slice (some ⟨gF, 0, none⟩) l.length l.length) 4 1 (fs.map boC) :: .rw 0 (.slice Ao os.length co) 23 1 (os.map orV) :: os.map orH) wr2 := Sr
        show CW _ _ _ _ _ _ (updl _ _ [.int .i64 (j : Int), .slice Ao os.length co]) _
        (repeat' (first | apply cw_seq | apply cw_region | apply wl_nil | apply cw_block | apply cw_skip | (apply z1_callH; exact rfl; exact rfl; exact e_joined; (exact (by repeat' constructor)); exact (fun _ Sx => joined_c A cA l hl ho hL _ (useF fs) _ [.pointer (some ⟨b5, 0, none⟩)] e_chosen _ (Old.now O Sx) (fun j hj w' hk => hch Sx (by exact (by repeat' constructor)) (by exact (by repeat' constructor)) j hj w' hk hfl)); rintro ⟨⟨bn, hn⟩, Nn⟩; dsimp only at Nn; dsimp only) | (apply z2_callrowE; exact rfl; exact rfl; exact e_shortest; (exact (by repeat' constructor)); exact (fun _ Sx => shortest_c A cA l hl ho _ (nlk_ok l _ (useF fs) hL) bn _ _ hf2 hf1 _ (Old.now O Sx) (Nn.rdL Sx)); exact List.length_map _; intro Ap cp) | (apply y_nil; intro wz Sz; replace Sz := Sat.tail2 Sz) | (apply x_loadR; exact rfl; exact rfl; exact rfl; exact Sat.rdmapN (l := rs) (en := naC) 0 (by assumption) (by exact (by repeat' constructor)) rfl; exact hlt2; exact rfl; exact rfl; (exact (by repeat' constructor))) | (apply cw_draw (id := 19) [(0, 0), (1, 0), (2, 0), (3, 0), (4, 0), (5, 0), (6, 0), (7, 0), (9, 0), (10, 0), (11, 0), (12, 0), (13, 0), (14, 0), (15, 0), (16, 0), (17, 0), (18, 0), (8, 1), (19, 2), (20, 0), (21, 0), (22, 0), (23, 0), (24, 0)]; assumption; exact mixed; kernel_rfl) | (apply x_move; exact rfl; exact rfl; (exact (by repeat' constructor))) | (apply x_assign; exact rfl; exact rfl; (exact (by repeat' constructor))) | (apply x_bin; exact rfl; exact rfl; exact rfl; (first | exact .z (.wrap (by omega)) | exact (by repeat' constructor))) | (apply x_build; exact rfl; exact rfl; exact rfl; (exact (by repeat' constructor))) | (apply x_buildSlice; assumption; exact rfl; exact rfl; exact rfl; (exact (by repeat' constructor)); intro _ _ _) | (apply x_index; exact rfl; exact rfl; exact rfl; exact rfl; exact rfl; (constructor); (first | omega | exact size_pos (by assumption) | assumption); (first | exact rfl | assumption | exact Rd.some_ (by assumption) (by omega) | exact Rd.some_ (Old.rd (by assumption)) (by omega) | exact (Sat.rd (by assumption) (by exact (by repeat' constructor))).some_ (by omega))) | (apply y_move; exact rfl; (exact (by repeat' constructor))) | (apply y_assign; exact rfl; (exact (by repeat' constructor))) | (apply y_extract; exact rfl; exact (fun _ => rfl); (exact (by repeat' constructor))) | (apply y_fieldE; exact rfl; exact rfl; exact rfl; (constructor)) | (apply y_index; exact rfl; exact rfl; exact rfl; exact rfl; (constructor); (first | omega | exact size_pos (by assumption) | assumption); (first | exact rfl | assumption | exact Rd.some_ (by assumption) (by omega) | exact Rd.some_ (Old.rd (by assumption)) (by omega) | exact (Sat.rd (by assumption) (by exact (by repeat' constructor))).some_ (by omega))) | (apply y_loadR; exact rfl; exact rfl; assumption; (first | omega | exact size_pos (by assumption) | assumption); exact rfl; exact rfl; (exact (by repeat' constructor))) | (apply x_dec; exact rfl; all_goals (intro _; try omega))))
        rename_i b94 w5 S5
        have hring : ringS l (rs.getD j 0) = (shS l (nlk l (l.getD (rs.getD j 0) dm0).ax (useF fs) l.length) (l.getD (rs.getD j 0) dm0).to (l.getD (rs.getD j 0) dm0).fr).1 := by unfold ringS; rw [hfs1]
        have hcl := shS_len (nlk_ok l (l.getD (rs.getD j 0) dm0).ax (useF fs) hL) (l.getD (rs.getD j 0) dm0).to (l.getD (rs.getD j 0) dm0).fr
        clear Sr Sz
        revert S5 hring hcl
        generalize (shS l (nlk l (l.getD (rs.getD j 0) dm0).ax (useF fs) l.length) (l.getD (rs.getD j 0) dm0).to (l.getD (rs.getD j 0) dm0).fr).1 = cR
        intro S5 hring hcl
        have S6 := Sat.clRow (xs := [[.int .i64 ((rs.getD j 0 : Nat) : Int), .bool false]]) (size := 2) S5 .head (by simp) (by simp [maxLen])
        clear S5
        have hol9 : (os.map orV).length < 1000000000 := by rw [List.length_map]; omega
        have htake : (rs.take (j + 1)).map (fun (i : Nat) => (⟨(i : Int), false⟩ : Lk) :: ringS l i) = os.map OR.xs ++ [(⟨((rs.getD j 0 : Nat) : Int), false⟩ : Lk) :: cR] := by
          rw [hos, List.take_add_one, List.getElem?_eq_getElem hlt2, List.map_append, ← hring]
          simp [List.getD_eq_getElem?_getD, List.getElem?_eq_getElem hlt2]
        have fin : ∀ (A' : Option Addr) (c' b7 : Nat) (g3 c3 : Nat) (w7 : World), Sat w [] (.cl b7 23 [.slice A' (1 + cR.length) c'] :: .rw 0 (.slice A' (1 + cR.length) c') 59 2 ([.int .i64 ((rs.getD j 0 : Nat) : Int), .bool false] :: cR.map lkC) :: .rw 0 (.slice Ap cR.length cp) 59 2 (cR.map lkC) :: .rw 0 (.slice Ar (rs).length cr) 3 1 ((rs).map naC) :: .cl b5 91 [.slice (some ⟨gF, 0, none⟩) l.length l.length] :: .rw 0 (.slice (some ⟨gF, 0, none⟩) l.length l.length) 4 1 (fs.map boC) :: .rw 0 (.slice (some ⟨g3, 0, none⟩) ((os.map orV).length + 1) c3) 23 1 (os.map orV ++ [[.slice A' (1 + cR.length) c']]) :: os.map orH) w7 →
            Sat w [] (.rw 0 (.slice Ar (rs).length cr) 3 1 ((rs).map naC) :: .cl b5 91 [.slice (some ⟨gF, 0, none⟩) l.length l.length] :: .rw 0 (.slice (some ⟨gF, 0, none⟩) l.length l.length) 4 1 (fs.map boC) :: oqH ⟨some ⟨g3, 0, none⟩, c3, os ++ [⟨A', c', ⟨((rs.getD j 0 : Nat) : Int), false⟩ :: cR⟩]⟩) w7 := fun A' c' b7 g3 c3 w7 S7 => by
          have S8 := (S7.drop1.drop (_ :: _) (List.Sublist.cons_cons _ (List.sublist_cons_self _ _))).perm' (List.perm_append_comm (l₁ := [_]) (l₂ := _))
          refine Sat.cast ?_ S8
          simp [oqH, orV, orH, Nat.add_comm]
        cases hcR : cR with
        | nil =>
          rw [hcR] at S6 fin htake
          refine x_append0b (k := 1) (c := 1) (c2 := cp) rfl rfl rfl rfl rfl (Nat.le_refl _) ?_
          (repeat' (first | apply cw_region | apply wl_nil | (apply x_append1; assumption; exact rfl; exact rfl; exact rfl; exact rfl; exact rfl; (exact (by repeat' constructor)); (exact (by repeat' constructor)); exact rfl; exact rfl; exact rfl; (first | assumption | omega | (simp; omega)); intro _ _ _ _) | (apply x_move; exact rfl; exact rfl; (exact (by repeat' constructor))) | (apply x_assign; exact rfl; exact rfl; (exact (by repeat' constructor))) | (apply x_bin; exact rfl; exact rfl; exact rfl; (first | exact .z (.wrap (by omega)) | exact (by repeat' constructor))) | (apply x_buildSlice; assumption; exact rfl; exact rfl; exact rfl; (exact (by repeat' constructor)); intro _ _ _)))
          rename_i b7 _ _ g3 c3 w7 S7
          have e : ∀ r : OR, oqV ⟨some ⟨g3, 0, none⟩, c3, os ++ [r]⟩ = .slice (some ⟨g3, 0, none⟩) ((os.map orV).length + 1) c3 := fun r => by simp [oqV]
          refine ⟨rfl, (by repeat (first | exact Agree.updl rfl (Agree.mask _ _ _) | refine Agree.upd rfl ?_)), ⟨j + 1, ⟨some ⟨g3, 0, none⟩, c3, os ++ [⟨(some ⟨b94, 0, none⟩), 1, (⟨((rs.getD j 0 : Nat) : Int), false⟩ : Lk) :: []⟩]⟩, hlt2, ?_, ?_, fin (some ⟨b94, 0, none⟩) 1 b7 g3 c3 w7 S7⟩, ?_⟩
          · rw [htake]; simp
          · rw [e]; rfl
          · show rs.length - (j + 1 : Int).toNat < rs.length - (j : Int).toNat
            omega
        | cons y ys =>
          obtain ⟨ad, rfl⟩ : ∃ ad, Ap = some ad := Option.isSome_iff_exists.1 ((Sat.rdmapN (l := cR) lk0 S6 (.tail .head) rfl).some_ (by rw [hcR]; simp))
          rw [← hcR]
          refine x_appendN (k := 1) (c := 1) (A := some ⟨b94, 0, none⟩) (l := cR) (en := lkC) lk0 lkC_len (fun _ => rfl) (Sat.rdmapN (l := cR) lk0 S6 (.tail .head) rfl) (by show 1 + cR.length < _; omega) S6 rfl rfl rfl rfl .head rfl (by decide) ?_
          intro A' c' w6 S8
          clear S6
          (repeat' (first | apply cw_region | apply wl_nil | (apply x_append1; assumption; exact rfl; exact rfl; exact rfl; exact rfl; exact rfl; (exact (by repeat' constructor)); (exact (by repeat' constructor)); exact rfl; exact rfl; exact rfl; (first | assumption | omega | (simp; omega)); intro _ _ _ _) | (apply x_move; exact rfl; exact rfl; (exact (by repeat' constructor))) | (apply x_assign; exact rfl; exact rfl; (exact (by repeat' constructor))) | (apply x_bin; exact rfl; exact rfl; exact rfl; (first | exact .z (.wrap (by omega)) | exact (by repeat' constructor))) | (apply x_buildSlice; assumption; exact rfl; exact rfl; exact rfl; (exact (by repeat' constructor)); intro _ _ _)))
          rename_i b7 _ _ g3 c3 w7 S7
          have e : ∀ r : OR, oqV ⟨some ⟨g3, 0, none⟩, c3, os ++ [r]⟩ = .slice (some ⟨g3, 0, none⟩) ((os.map orV).length + 1) c3 := fun r => by simp [oqV]
          refine ⟨rfl, (by repeat (first | exact Agree.updl rfl (Agree.mask _ _ _) | refine Agree.upd rfl ?_)), ⟨j + 1, ⟨some ⟨g3, 0, none⟩, c3, os ++ [⟨A', c', (⟨((rs.getD j 0 : Nat) : Int), false⟩ : Lk) :: cR⟩]⟩, hlt2, ?_, ?_, fin A' c' b7 g3 c3 w7 S7⟩, ?_⟩
          · rw [htake]; simp
          · rw [e]; rfl
          · show rs.length - (j + 1 : Int).toNat < rs.length - (j : Int).toNat
            omega
      · have hjl : j = rs.length := by omega
        subst hjl
        rw [List.take_length] at hos
        (repeat' (first | apply cw_seq | apply cw_region | apply wl_nil | apply cw_exit | apply cw_ret | (apply x_move; exact rfl; exact rfl; (exact (by repeat' constructor))) | (apply x_assign; exact rfl; exact rfl; (exact (by repeat' constructor))) | (apply x_bin; exact rfl; exact rfl; exact rfl; (first | exact .z (.wrap (by omega)) | exact (by repeat' constructor))) | (apply x_dec; exact rfl; all_goals (intro _; try omega))))
        (first | refine q_retS (by assumption) rfl (by repeat (first | exact .nil | (apply RV.tmp; exact (by repeat' constructor)) | (apply RV.cell; exact rfl; exact (by repeat' constructor); exact rfl; exact rfl; exact (by repeat' constructor)))) ?_ | (simp only [thenQ, blockQ]; refine q_retS (by assumption) rfl (by repeat (first | exact .nil | (apply RV.tmp; exact (by repeat' constructor)) | (apply RV.cell; exact rfl; exact (by repeat' constructor); exact rfl; exact rfl; exact (by repeat' constructor)))) ?_))
        exact ⟨⟨⟨Ao, co, os⟩, hos⟩, rfl, (Sat.drop1 (Sat.drop1 (Sat.drop1 Sr)))⟩
  · have h1 : lopS l = ([], givenE l) := if_neg he
    rw [h1]
    (repeat' (first | apply cw_seq | apply cw_region | apply wl_nil | apply cw_ret | (apply x_callv; assumption; exact rfl; exact rfl; exact rfl; exact e_given; (exact (by repeat' constructor)); with_reducible exact (given_c A cA l hl ho _ (Old.now O (by assumption))); intro _ _ _) | (apply x_move; exact rfl; exact rfl; (exact (by repeat' constructor))) | (apply x_assign; exact rfl; exact rfl; (exact (by repeat' constructor))) | (apply x_bin; exact rfl; exact rfl; exact rfl; (first | exact .z (.wrap (by omega)) | exact (by repeat' constructor))) | (apply cw_ne; exact rfl; all_goals (intro _; try omega))))
    all_goals first
      | exact absurd (by assumption) he
      | skip
    (first | refine q_retS (by assumption) rfl (by repeat (first | exact .nil | (apply RV.tmp; exact (by repeat' constructor)) | (apply RV.cell; exact rfl; exact (by repeat' constructor); exact rfl; exact rfl; exact (by repeat' constructor)))) ?_ | (simp only [thenQ, blockQ]; refine q_retS (by assumption) rfl (by repeat (first | exact .nil | (apply RV.tmp; exact (by repeat' constructor)) | (apply RV.cell; exact rfl; exact (by repeat' constructor); exact rfl; exact rfl; exact (by repeat' constructor)))) ?_))
    exact ⟨⟨⟨none, 0, []⟩, rfl⟩, rfl, ((Sat.start [] w).call (Sat.keeps (by assumption))).addNil _ _⟩
end Go.Proofs.Ytagapiflfnbfiaa
