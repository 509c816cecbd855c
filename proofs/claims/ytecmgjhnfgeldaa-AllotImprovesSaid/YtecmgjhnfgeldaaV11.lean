/- The solution against those that differ in two choices: the law walked. No statement of the seat is proved here. -/
import Derived.Test.YtecmgjhnfgeldaaV9
import Derived.Test.YtecmgjhnfgeldaaV7
namespace Go.Proofs.Ytecmgjhnfgeldaa.Al
set_option linter.unusedVariables false
set_option linter.unusedSimpArgs false
open Go Go.RowKit
set_option maxRecDepth 100000 in
theorem e_CloneI : Ent Try.prog 29 := fun _ _ => rfl
set_option maxRecDepth 8000 in
set_option maxHeartbeats 4000000 in
theorem CloneI_c (A : Option Addr) (cA : Nat) (l : List Int) (hl : l.length < 1000000000) (hp : 0 < l.length) (w : World) (R : Rd w A 1 l.length (fun i => pkC (l.getD i 0))) :
    Calls Try.prog 29 #[.slice A l.length cA] w (RetP (RowR (fun v => v) 3 1 (l.map pkC) w)) := by
  refine calls_of_cw (args := [.slice A l.length cA]) Try.func29 rfl rfl ?_
  have S := Sat.start [] w
  have O := R.old
  obtain ⟨a, rfl⟩ := Option.isSome_iff_exists.1 (R.some_ hp)
  (repeat' (first | apply cw_seq | apply cw_region | apply wl_nil | apply cw_skip | apply cw_ret | (apply x_appendAllB (l := l) (en := pkC) (0 : Int) pkC_len (Old.now O (by assumption)) hl hp; assumption; exact rfl; exact rfl; exact rfl; exact rfl; exact rfl; exact .inr ⟨_, rfl⟩; exact rfl; intro _ _ _ _ _) | (apply x_buildSlice0; assumption; exact rfl; exact rfl; exact rfl; intro _ _ _ _ _) | (apply x_move; exact rfl; exact rfl; (exact (by repeat' constructor))) | (apply x_assign; exact rfl; exact rfl; (exact (by repeat' constructor))) | (apply x_bin; exact rfl; exact rfl; exact rfl; (first | exact .z (.wrap (by omega)) | exact (by repeat' constructor))) | (apply cw_false; exact rfl)))
  (first | refine q_retS (by assumption) rfl (by repeat (first | exact .nil | (apply RV.tmp; exact (by repeat' constructor)) | (apply RV.cell; exact rfl; exact (by repeat' constructor); exact rfl; exact rfl; exact (by repeat' constructor)))) ?_ | (simp only [thenQ, blockQ]; refine q_retS (by assumption) rfl (by repeat (first | exact .nil | (apply RV.tmp; exact (by repeat' constructor)) | (apply RV.cell; exact rfl; exact (by repeat' constructor); exact rfl; exact rfl; exact (by repeat' constructor)))) ?_))
  exact rowR_n (V := fun v => v) (List.length_map _).symm (by assumption) .head
/-! ### lists compared -/
theorem cmp_v (x y : Int) (w : World) : Calls Try.prog 46 #[.int .i64 x, .int .i64 y] w (RetP (Val (.int .i64 (Lib.compareInt x y)) w)) :=
  (cmp_Compare_int x y w).mono (by rintro e w' ⟨rfl, rfl⟩; exact ⟨_, rfl, rfl, Keeps.refl _ _⟩)
set_option maxRecDepth 100000 in
theorem e_cmpI : Ent Try.prog 46 := fun _ _ => rfl
theorem cmpL_at : ∀ {xs ys : List Int} {i : Nat}, xs.length = ys.length → i < xs.length → cmpL (xs.drop i) (ys.drop i) = (if Lib.compareInt (xs.getD i 0) (ys.getD i 0) = 0 then cmpL (xs.drop (i + 1)) (ys.drop (i + 1)) else Lib.compareInt (xs.getD i 0) (ys.getD i 0))
  | [], _, _, _, h => absurd h (Nat.not_lt_zero _)
  | _ :: _, [], _, e, _ => by simp at e
  | a :: xs, b :: ys, 0, _, _ => by
    show (if a < b then (-1 : Int) else if b < a then 1 else cmpL xs ys) = if Lib.compareInt a b = 0 then cmpL xs ys else Lib.compareInt a b
    unfold Lib.compareInt
    by_cases h1 : a < b
    · simp [h1]
    · by_cases h2 : b < a
      · simp [h1, h2]
      · simp [h1, h2]
  | a :: xs, b :: ys, i + 1, e, h => cmpL_at (xs := xs) (ys := ys) (i := i) (by simpa using e) (by simpa using h)
theorem cmpL_end {xs ys : List Int} (e : xs.length = ys.length) : cmpL (xs.drop xs.length) (ys.drop xs.length) = 0 := by
  rw [List.drop_length, e, List.drop_length]; rfl
set_option maxRecDepth 100000 in
theorem e_CompareI : Ent Try.prog 30 := fun _ _ => rfl
set_option maxRecDepth 4000 in
set_option maxHeartbeats 2000000 in
theorem CompareI_c (A B : Option Addr) (c c' : Nat) (xs ys : List Int) (hx : xs.length ≤ 9223372036854775807) (e : xs.length = ys.length) (w : World) (R1 : Rd w A 1 xs.length (fun i => pkC (xs.getD i 0))) (R2 : Rd w B 1 ys.length (fun i => pkC (ys.getD i 0))) : Calls Try.prog 30 #[.slice A xs.length c, .slice B ys.length c'] w (RetP (Val (.int .i64 (cmpL xs ys)) w)) := by
  refine calls_of_cw (args := [.slice A xs.length c, .slice B ys.length c']) Try.func30 rfl rfl ?_
  have S := Sat.start [] w
  have O1 := (R1).old
  have O2 := (R2).old
  (repeat' (first | apply cw_seq | apply cw_region | apply wl_nil | apply cw_block | (apply x_move; exact rfl; exact rfl; (exact (by repeat' constructor))) | (apply x_assign; exact rfl; exact rfl; (exact (by repeat' constructor))) | (apply x_builtin; exact rfl; exact rfl; exact (fun _ => rfl); (exact (by repeat' constructor)))))
  refine cw_loop [4, 5, 6, 7, 8, 11, 12, 13, 14, 15, 16, 17, 18, 19, 20, 21, 22, 23, 24, 25, 26, 27, 28, 29, 30] [11] (fun us wr => ∃ k : Nat, k ≤ xs.length ∧ us = [.int .i64 k] ∧ cmpL xs ys = cmpL (xs.drop k) (ys.drop k) ∧ Sat w [] [] wr) (fun us _ => xs.length - (intOf (us.getD 0 undef)).toNat) ?_ ?_
  · exact ⟨0, by omega, rfl, rfl, S⟩
  clear S
  rintro g' us wr ⟨k, hk, rfl, hc, Sr⟩
  by_cases hlt : k < xs.length
  · have h2 := cmpL_at e hlt
    obtain ⟨z, hz⟩ : ∃ z, Lib.compareInt (xs.getD k 0) (ys.getD k 0) = z := ⟨_, rfl⟩
    by_cases h0 : z = 0
    · rw [hz, if_pos h0] at h2
      (repeat' (first | apply cw_seq | apply cw_region | apply wl_nil | apply cw_block | apply cw_skip | (apply x_callv; assumption; exact rfl; exact rfl; exact rfl; exact e_cmpI; (exact (by repeat' constructor)); (with_reducible exact val_ofA (cmp_v _ _ _) (congrArg (Value.int .i64) hz)); intro _ _ _) | (apply x_move; exact rfl; exact rfl; (exact (by repeat' constructor))) | (apply x_assign; exact rfl; exact rfl; (exact (by repeat' constructor))) | (apply x_bin; exact rfl; exact rfl; exact rfl; (first | exact .z (.wrap (by omega)) | exact (by repeat' constructor))) | (apply x_builtin; exact rfl; exact rfl; exact (fun _ => rfl); (exact (by repeat' constructor))) | (apply x_index; exact rfl; exact rfl; exact rfl; exact rfl; exact rfl; (constructor); (first | omega | exact size_pos (by assumption) | assumption); (first | exact rfl | assumption | exact Rd.some_ (by assumption) (by omega) | exact Rd.some_ (Old.rd (by assumption)) (by omega) | exact (Sat.rd (by assumption) (by exact (by repeat' constructor))).some_ (by omega))) | (apply x_loadR; exact rfl; exact rfl; exact rfl; (first | exact Old.now (by assumption) (by assumption) | exact Sat.rdpr (by assumption) (by exact (by repeat' constructor)) | exact Sat.rd (by assumption) (by exact (by repeat' constructor))); (first | omega | exact size_pos (by assumption) | assumption); exact rfl; exact rfl; (exact (by repeat' constructor))) | (apply x_dec; exact rfl; all_goals (intro _; try omega)) | (apply cw_ne; exact rfl; all_goals (intro _; try omega))))
      all_goals first
        | (exfalso; omega)
        | skip
      refine ⟨rfl, (by repeat (first | exact Agree.updl rfl (Agree.mask _ _ _) | refine Agree.upd rfl ?_)), ⟨k + 1, hlt, rfl, hc.trans h2, by assumption⟩, ?_⟩
      show xs.length - (k + 1 : Int).toNat < xs.length - (k : Int).toNat
      omega
    · rw [hz, if_neg h0] at h2
      rw [hc.trans h2]
      (repeat' (first | apply cw_seq | apply cw_region | apply wl_nil | apply cw_block | apply cw_skip | apply cw_ret | (apply x_callv; assumption; exact rfl; exact rfl; exact rfl; exact e_cmpI; (exact (by repeat' constructor)); (with_reducible exact val_ofA (cmp_v _ _ _) (congrArg (Value.int .i64) hz)); intro _ _ _) | (apply x_move; exact rfl; exact rfl; (exact (by repeat' constructor))) | (apply x_assign; exact rfl; exact rfl; (exact (by repeat' constructor))) | (apply x_bin; exact rfl; exact rfl; exact rfl; (first | exact .z (.wrap (by omega)) | exact (by repeat' constructor))) | (apply x_builtin; exact rfl; exact rfl; exact (fun _ => rfl); (exact (by repeat' constructor))) | (apply x_index; exact rfl; exact rfl; exact rfl; exact rfl; exact rfl; (constructor); (first | omega | exact size_pos (by assumption) | assumption); (first | exact rfl | assumption | exact Rd.some_ (by assumption) (by omega) | exact Rd.some_ (Old.rd (by assumption)) (by omega) | exact (Sat.rd (by assumption) (by exact (by repeat' constructor))).some_ (by omega))) | (apply x_loadR; exact rfl; exact rfl; exact rfl; (first | exact Old.now (by assumption) (by assumption) | exact Sat.rdpr (by assumption) (by exact (by repeat' constructor)) | exact Sat.rd (by assumption) (by exact (by repeat' constructor))); (first | omega | exact size_pos (by assumption) | assumption); exact rfl; exact rfl; (exact (by repeat' constructor))) | (apply x_dec; exact rfl; all_goals (intro _; try omega)) | (apply cw_ne; exact rfl; all_goals (intro _; try omega))))
      all_goals first
        | (exfalso; omega)
        | ((first | refine q_retS (by assumption) rfl (by repeat (first | exact .nil | (apply RV.tmp; exact (by repeat' constructor)) | (apply RV.cell; exact rfl; exact (by repeat' constructor); exact rfl; exact rfl; exact (by repeat' constructor)))) ?_ | (simp only [thenQ, blockQ]; refine q_retS (by assumption) rfl (by repeat (first | exact .nil | (apply RV.tmp; exact (by repeat' constructor)) | (apply RV.cell; exact rfl; exact (by repeat' constructor); exact rfl; exact rfl; exact (by repeat' constructor)))) ?_))
           exact ⟨rfl, Sat.keeps (by assumption)⟩)
  · have ek : k = xs.length := by omega
    subst ek
    rw [hc, cmpL_end e]
    (repeat' (first | apply cw_seq | apply cw_region | apply wl_nil | apply cw_skip | apply cw_exit | apply cw_ret | (apply x_move; exact rfl; exact rfl; (exact (by repeat' constructor))) | (apply x_assign; exact rfl; exact rfl; (exact (by repeat' constructor))) | (apply x_bin; exact rfl; exact rfl; exact rfl; (first | exact .z (.wrap (by omega)) | exact (by repeat' constructor))) | (apply x_builtin; exact rfl; exact rfl; exact (fun _ => rfl); (exact (by repeat' constructor))) | (apply x_dec; exact rfl; all_goals (intro _; try omega))))
    all_goals first
      | (exfalso; omega)
      | ((first | refine q_retS (by assumption) rfl (by repeat (first | exact .nil | (apply RV.tmp; exact (by repeat' constructor)) | (apply RV.cell; exact rfl; exact (by repeat' constructor); exact rfl; exact rfl; exact (by repeat' constructor)))) ?_ | (simp only [thenQ, blockQ]; refine q_retS (by assumption) rfl (by repeat (first | exact .nil | (apply RV.tmp; exact (by repeat' constructor)) | (apply RV.cell; exact rfl; exact (by repeat' constructor); exact rfl; exact rfl; exact (by repeat' constructor)))) ?_))
         exact ⟨rfl, Sat.keeps (by assumption)⟩)
theorem Compare_m {A B : Option Addr} {c c' n n' : Nat} (xs ys : List Int) (hn : n = xs.length) (hn' : n' = ys.length) (hx : xs.length ≤ 9223372036854775807) (e : xs.length = ys.length) (w : World) (R1 : Rd w A 1 xs.length (fun i => pkC (xs.getD i 0))) (R2 : Rd w B 1 ys.length (fun i => pkC (ys.getD i 0))) :
    Calls Try.prog 30 #[.slice A n c, .slice B n' c'] w (RetP (Val (.int .i64 (cmpL xs ys)) w)) := by subst hn; subst hn'; exact CompareI_c A B c c' xs ys hx e w R1 R2
theorem Value_m {a b c : Int} {n : Nat} (m : Int) (B : Option Addr) (cB : Nat) (ps : List Pt) (hp : ps.length ≤ 9223372036854775807) (hcs : ∀ i, i < ps.length → (pat ps i).cs.length ≤ 9223372036854775807) (L : Option Addr) (cL : Nat) (l : List Int) (hn : n = l.length) (hl : l.length ≤ 9223372036854775807) (hv : valV m ps l = [.int .i64 a, .int .i64 b, .int .i64 c]) (w : World) (R : Rd w B 2 ps.length (fun i => ptC (ps.getD i pt0))) (R2 : ∀ i, i < ps.length → Rd w (pat ps i).A 2 (pat ps i).cs.length (fun j => chC ((pat ps i).cs.getD j ch0))) (R3 : Rd w L 1 l.length (fun i => pkC (l.getD i 0))) : Calls Try.prog 24 #[.agg #[.int .i64 m, .slice B ps.length cB], .slice L n cL] w (RetP (Val (.tuple #[.int .i64 a, .int .i64 b, .int .i64 c]) w)) := by
  subst hn
  exact Value_y m B cB ps hp hcs L cL l hl hv w R R2 R3
section
variable {P : Program} {ro : Option Nat} {n : Nat} {Q : Post} {D : List Deferred} {f : Fm} {w w0 w' : World} {M : List Nat} {h : List HO}
variable {ops : Array Oper} {rest : List Oper} {d ty : Nat} {ps : String} {af : Array Edge} {gd : Option (Nat × Bool)} {x y : Operand}
theorem x_storeRowEA {T E size i off m c : Nat} {A : Option Addr} {v : Value} {xs ys : List (List Value)} {F : HO → List HO} (S : Sat w0 M h w) (hg : want ops f ⟨none, .store T x y, ty, ps, af, gd⟩ = true)
    (hx : fev f x = .pointer (some (ea A size i off))) (hy : Is (fev f y) v) (h1 : one v = true) (hs : (P.info? T).map (·.size) = some 1) (hr : RepF h (.rw 0 (.slice A m c) E size xs) F) (hi : i < xs.length) (ho : off < size) (he : xs.set i ((xs.getD i []).set off v) = ys)
    (k : ∀ w', Sat w0 M (F (.rw 0 (.slice A m c) E size ys)) w' → WL P ro n ops Q rest D f w') :
    WL P ro n ops Q (⟨none, .store T x y, ty, ps, af, gd⟩ :: rest) D f w := by
  subst he
  exact x_storeRow S hg hx hy h1 hs hr hi ho k
end
theorem set_pk {l : List Int} {i : Nat} {z : Int} (h : i < l.length) : (l.map pkC).set i (((l.map pkC).getD i []).set 0 (.int .i64 z)) = (l.set i z).map pkC := by
  have e : (l.map pkC).getD i [] = pkC (l.getD i 0) := by simp [List.getD_eq_getElem?_getD, h]
  rw [e, List.map_set]
  rfl
theorem set_get {l : List Int} {i j : Nat} {z : Int} (hi : i < l.length) : (l.set i z).getD j 0 = if i = j then z else l.getD j 0 := by
  simp only [List.getD_eq_getElem?_getD, List.getElem?_set]
  by_cases e : i = j
  · subst e; simp [hi]
  · simp [e]
theorem okL_set {ps : List Pt} {l : List Int} {i a : Nat} (ho : okL ps l l.length) (hi : i < l.length) (ha : a < (ps.getD i pt0).cs.length) : okL ps (l.set i (a : Int)) (l.set i (a : Int)).length := fun j hj => by
  rw [List.length_set] at hj
  rw [set_get hi]
  split
  · rename_i e
    subst e
    omega
  · exact ho j hj
set_option maxRecDepth 100000 in
theorem e_lawImproves : Ent Try.prog 10 := fun _ _ => rfl
set_option maxRecDepth 8000 in
set_option maxHeartbeats 16000000 in
theorem lawImproves_c (m : Int) (B : Option Addr) (cB : Nat) (ps : List Pt) (hp : ps.length ≤ 9223372036854775807) (hcs : ∀ i, i < ps.length → (pat ps i).cs.length ≤ 9223372036854775807) (hz : ps.length * 32 ≤ reachBytes) (hcz : ∀ i, i < ps.length → (pat ps i).cs.length * 16 ≤ reachBytes) (w : World) (R : Rd w B 2 ps.length (fun i => ptC (ps.getD i pt0))) (R2 : ∀ i, i < ps.length → Rd w (pat ps i).A 2 (pat ps i).cs.length (fun j => chC ((pat ps i).cs.getD j ch0))) : Calls Try.prog 10 #[.agg #[.int .i64 m, .slice B ps.length cB]] w (RetP (Val (.bool true) w)) := by
  refine calls_of_cw (args := [.agg #[.int .i64 m, .slice B ps.length cB]]) Try.func10 rfl rfl ?_
  have S := Sat.start [] w
  have O := R.old
  by_cases hr : Rgt m ps
  · have ho := chkE_ok hr.ck
    have hn := ho.n16
    have hn1 := ho.n1
    rcases slv_cases hr.ck with ⟨h1, hv⟩ | ⟨l, c, h1, hv, hs⟩
    · (repeat' (first | apply cw_seq | apply cw_region | apply wl_nil | apply cw_skip | apply cw_ret | (apply x_gdec; exact rfl; exact rfl; all_goals (intro _; try omega)) | (apply x_callv; assumption; exact rfl; exact rfl; exact rfl; exact e_right; (exact (by repeat' constructor)); with_reducible exact (right_y m B cB ps hp hcs hz hcz hr _ (R.old.now (by assumption)) (fun i hi => (R2 i hi).old.now (by assumption))); intro _ _ _) | (apply x_callv; assumption; exact rfl; exact rfl; exact rfl; exact e_awake; (exact (by repeat' constructor)); with_reducible exact (awake_c _); intro _ _ _) | (apply x_callrowE (m := 0); assumption; exact rfl; exact rfl; exact rfl; exact e_SolveT; (exact (by repeat' constructor)); (with_reducible exact (Solve_y m B cB ps hp hcs (fun _ => hr.few) hv _ (R.old.now (by assumption)) (fun i hi => (R2 i hi).old.now (by assumption)))); exact rfl; intro _ _ _ _) | (apply x_move; exact rfl; exact rfl; (exact (by repeat' constructor))) | (apply x_assign; exact rfl; exact rfl; (exact (by repeat' constructor))) | (apply x_load; assumption; exact rfl; exact rfl; exact rfl; (exact (by repeat' constructor)); exact rfl; exact rfl; (exact (by repeat' constructor))) | (apply x_bin; exact rfl; exact rfl; exact rfl; (first | exact .z (.wrap (by omega)) | exact (by repeat' constructor))) | (apply x_pick; exact rfl; exact rfl; exact rfl; (exact (by repeat' constructor))) | (apply x_un; exact rfl; exact rfl; exact rfl; (first | exact .z (.wrap (by omega)) | exact (by repeat' constructor))) | (apply x_box; assumption; exact rfl; exact rfl; (exact (by repeat' constructor)); (exact (by repeat' constructor)); intro _ _ _) | (apply x_extract; exact rfl; exact rfl; exact rfl; (exact (by repeat' constructor))) | (apply cw_true; exact rfl) | (apply cw_false; exact rfl)))
      (all_goals (first | refine q_retS (by assumption) rfl (by repeat (first | exact .nil | (apply RV.tmp; exact (by repeat' constructor)) | (apply RV.cell; exact rfl; exact (by repeat' constructor); exact rfl; exact rfl; exact (by repeat' constructor)))) ?_ | (simp only [thenQ, blockQ]; refine q_retS (by assumption) rfl (by repeat (first | exact .nil | (apply RV.tmp; exact (by repeat' constructor)) | (apply RV.cell; exact rfl; exact (by repeat' constructor); exact rfl; exact rfl; exact (by repeat' constructor)))) ?_))); (all_goals refine ⟨?_, Sat.keeps (by assumption)⟩); (all_goals first | rfl | (simp [pack]; done) | (exfalso; simp_all; done))
    · have hll := hs.len
      have hvl : valV m ps l = [.int .i64 (wS ps l l.length), .int .i64 (cS ps l l.length), .int .i64 0] := valV_0 hr.ck hll hs.ok
      rw [hs.cost] at hvl
      have hwd := hs.wd
      (repeat' (first | apply cw_seq | apply cw_region | apply wl_nil | apply cw_block | apply cw_skip | (apply x_gdec; exact rfl; exact rfl; all_goals (intro _; try omega)) | (apply x_callv; assumption; exact rfl; exact rfl; exact rfl; exact e_right; (exact (by repeat' constructor)); with_reducible exact (right_y m B cB ps hp hcs hz hcz hr _ (R.old.now (by assumption)) (fun i hi => (R2 i hi).old.now (by assumption))); intro _ _ _) | (apply x_callrowE (m := l.length); assumption; exact rfl; exact rfl; exact rfl; exact e_SolveT; (exact (by repeat' constructor)); (with_reducible exact (Solve_y m B cB ps hp hcs (fun _ => hr.few) hv _ (R.old.now (by assumption)) (fun i hi => (R2 i hi).old.now (by assumption)))); exact List.length_map _; intro _ _ _ _) | (apply x_callv; assumption; exact rfl; exact rfl; exact rfl; exact e_ValueT; (exact (by repeat' constructor)); with_reducible exact (Value_m m B cB ps hp hcs _ _ l rfl (by omega) hvl _ (R.old.now (by assumption)) (fun i hi => (R2 i hi).old.now (by assumption)) (Sat.rdmapN (0 : Int) (by assumption) (by exact (by repeat' constructor)) rfl)); intro _ _ _) | (apply x_move; exact rfl; exact rfl; (exact (by repeat' constructor))) | (apply x_assign; exact rfl; exact rfl; (exact (by repeat' constructor))) | (apply x_fieldB; exact rfl; exact rfl; exact rfl; exact rfl; (constructor)) | (apply x_load; assumption; exact rfl; exact rfl; exact rfl; (exact (by repeat' constructor)); exact rfl; exact rfl; (exact (by repeat' constructor))) | (apply x_bin; exact rfl; exact rfl; exact rfl; (first | exact .z (.wrap (by omega)) | exact (by repeat' constructor))) | (apply x_pick; exact rfl; exact rfl; exact rfl; (exact (by repeat' constructor))) | (apply x_un; exact rfl; exact rfl; exact rfl; (first | exact .z (.wrap (by omega)) | exact (by repeat' constructor))) | (apply x_box; assumption; exact rfl; exact rfl; (exact (by repeat' constructor)); (exact (by repeat' constructor)); intro _ _ _) | (apply x_extract; exact rfl; exact rfl; exact rfl; (exact (by repeat' constructor))) | (apply x_builtin; exact rfl; exact rfl; exact (fun _ => rfl); (exact (by repeat' constructor))) | (apply cw_false; exact rfl) | (apply cw_ne; exact rfl; all_goals (intro _; try omega))))
      all_goals first
        | (exfalso; omega)
        | skip
      rename_i b1 _ _ _ _ _ Al cl _ _ w2 _ S2 _ _
      replace S2 : Sat w [] [.rw 0 (.slice Al l.length cl) 3 1 (l.map pkC), .cl b1 24 [.int .i64 m, .slice B ps.length cB]] w2 := S2
      refine cw_loop [2, 8, 9, 10, 11, 12, 13, 14, 15, 55, 56, 57, 58, 59, 60, 61, 62, 63, 64, 65, 66, 67, 68, 69, 70, 71, 72, 73, 74, 75, 76, 77, 78, 79, 80, 81, 82, 83, 84, 85, 86, 87, 88, 89, 90, 91, 92, 93, 94, 95, 96, 97, 98, 99, 100, 101, 102, 103, 104, 105, 106, 107, 108, 109, 110, 111, 112, 113, 114, 115, 116, 117, 118, 119, 120, 121, 122, 123, 124, 125, 126, 127, 128, 129, 130, 131, 132, 133, 134, 135] [55] (fun us wr => ∃ i : Nat, i ≤ l.length ∧ us = [.int .i64 i] ∧ Sat w [] [.rw 0 (.slice Al l.length cl) 3 1 (l.map pkC), .cl b1 24 [.int .i64 m, .slice B ps.length cB]] wr) (fun us _ => l.length - (intOf (us.getD 0 undef)).toNat) ?_ ?_
      · exact ⟨0, Nat.zero_le _, rfl, S2⟩
      clear S2
      rintro g us wr ⟨i, hi, rfl, Sr⟩
      by_cases hli : i < l.length
      · (repeat' (first | apply cw_seq | apply cw_region | apply wl_nil | apply cw_block | apply cw_skip | (apply x_move; exact rfl; exact rfl; (exact (by repeat' constructor))) | (apply x_assign; exact rfl; exact rfl; (exact (by repeat' constructor))) | (apply x_bin; exact rfl; exact rfl; exact rfl; (first | exact .z (.wrap (by omega)) | exact (by repeat' constructor))) | (apply x_builtin; exact rfl; exact rfl; exact (fun _ => rfl); (exact (by repeat' constructor))) | (apply x_dec; exact rfl; all_goals (intro _; try omega))))
        refine cw_loop [2, 9, 10, 11, 12, 13, 14, 15, 60, 61, 62, 63, 64, 65, 66, 67, 68, 69, 70, 71, 72, 73, 74, 75, 76, 77, 78, 79, 80, 81, 82, 83, 84, 85, 86, 87, 88, 89, 90, 91, 92, 93, 94, 95, 96, 97, 98, 99, 100, 101, 102, 103, 104, 105, 106, 107, 108, 109, 110, 111, 112, 113, 114, 115, 116, 117, 118, 119, 120, 121, 122, 123, 124, 125, 126, 127, 128, 129, 130, 131, 132, 133, 134] [60] (fun us wr => ∃ k : Nat, k ≤ l.length ∧ us = [.int .i64 k] ∧ Sat w [] [.rw 0 (.slice Al l.length cl) 3 1 (l.map pkC), .cl b1 24 [.int .i64 m, .slice B ps.length cB]] wr) (fun us _ => l.length - (intOf (us.getD 0 undef)).toNat) ?_ ?_
        · exact ⟨0, Nat.zero_le _, rfl, Sr⟩
        clear Sr
        rintro g1 us1 wr1 ⟨k, hk, rfl, Sr⟩
        by_cases hlk : k < l.length
        · have hcl : (ps.getD i pt0).cs.length ≤ 16 := (ho.pt i (by omega)).n16
          (repeat' (first | apply cw_seq | apply cw_region | apply wl_nil | apply cw_block | apply cw_skip | (apply x_move; exact rfl; exact rfl; (exact (by repeat' constructor))) | (apply x_assign; exact rfl; exact rfl; (exact (by repeat' constructor))) | (apply x_fieldB; exact rfl; exact rfl; exact rfl; exact rfl; (constructor)) | (apply x_load; assumption; exact rfl; exact rfl; exact rfl; (exact (by repeat' constructor)); exact rfl; exact rfl; (exact (by repeat' constructor))) | (apply x_bin; exact rfl; exact rfl; exact rfl; (first | exact .z (.wrap (by omega)) | exact (by repeat' constructor))) | (apply x_builtin; exact rfl; exact rfl; exact (fun _ => rfl); (exact (by repeat' constructor))) | (apply x_fieldE; exact rfl; exact rfl; exact rfl; exact rfl; (constructor)) | (apply x_index; exact rfl; exact rfl; exact rfl; exact rfl; exact rfl; (constructor); (first | omega | exact size_pos (by assumption) | assumption); (first | exact rfl | assumption | exact Rd.some_ (by assumption) (by omega) | exact Rd.some_ (Old.rd (by assumption)) (by omega) | exact (Sat.rd (by assumption) (by exact (by repeat' constructor))).some_ (by omega))) | (apply x_loadR; exact rfl; exact rfl; exact rfl; (first | exact Old.now (by assumption) (by assumption) | exact Sat.rdpr (by assumption) (by exact (by repeat' constructor)) | exact Sat.rd (by assumption) (by exact (by repeat' constructor))); (first | omega | exact size_pos (by assumption) | assumption); exact rfl; exact rfl; (exact (by repeat' constructor))) | (apply x_dec; exact rfl; all_goals (intro _; try omega))))
          refine cw_loop [2, 10, 11, 12, 13, 14, 15, 70, 71, 72, 73, 74, 75, 76, 77, 78, 79, 80, 81, 82, 83, 84, 85, 86, 87, 88, 89, 90, 91, 92, 93, 94, 95, 96, 97, 98, 99, 100, 101, 102, 103, 104, 105, 106, 107, 108, 109, 110, 111, 112, 113, 114, 115, 116, 117, 118, 119, 120, 121, 122, 123, 124, 125, 126, 127, 128, 129, 130, 131, 132, 133] [70] (fun us wr => ∃ a : Nat, a ≤ (ps.getD i pt0).cs.length ∧ us = [.int .i64 a] ∧ Sat w [] [.rw 0 (.slice Al l.length cl) 3 1 (l.map pkC), .cl b1 24 [.int .i64 m, .slice B ps.length cB]] wr) (fun us _ => (ps.getD i pt0).cs.length - (intOf (us.getD 0 undef)).toNat) ?_ ?_
          · exact ⟨0, Nat.zero_le _, rfl, Sr⟩
          clear Sr
          rintro g2 us2 wr2 ⟨a, ha, rfl, Sr⟩
          by_cases hla : a < (ps.getD i pt0).cs.length
          · have hcl2 : (ps.getD k pt0).cs.length ≤ 16 := (ho.pt k (by omega)).n16
            (repeat' (first | apply cw_seq | apply cw_region | apply wl_nil | apply cw_block | apply cw_skip | (apply x_move; exact rfl; exact rfl; (exact (by repeat' constructor))) | (apply x_assign; exact rfl; exact rfl; (exact (by repeat' constructor))) | (apply x_fieldB; exact rfl; exact rfl; exact rfl; exact rfl; (constructor)) | (apply x_load; assumption; exact rfl; exact rfl; exact rfl; (exact (by repeat' constructor)); exact rfl; exact rfl; (exact (by repeat' constructor))) | (apply x_bin; exact rfl; exact rfl; exact rfl; (first | exact .z (.wrap (by omega)) | exact (by repeat' constructor))) | (apply x_builtin; exact rfl; exact rfl; exact (fun _ => rfl); (exact (by repeat' constructor))) | (apply x_fieldE; exact rfl; exact rfl; exact rfl; exact rfl; (constructor)) | (apply x_index; exact rfl; exact rfl; exact rfl; exact rfl; exact rfl; (constructor); (first | omega | exact size_pos (by assumption) | assumption); (first | exact rfl | assumption | exact Rd.some_ (by assumption) (by omega) | exact Rd.some_ (Old.rd (by assumption)) (by omega) | exact (Sat.rd (by assumption) (by exact (by repeat' constructor))).some_ (by omega))) | (apply x_loadR; exact rfl; exact rfl; exact rfl; (first | exact Old.now (by assumption) (by assumption) | exact Sat.rdpr (by assumption) (by exact (by repeat' constructor)) | exact Sat.rd (by assumption) (by exact (by repeat' constructor))); (first | omega | exact size_pos (by assumption) | assumption); exact rfl; exact rfl; (exact (by repeat' constructor))) | (apply x_dec; exact rfl; all_goals (intro _; try omega))))
            refine cw_loop [2, 11, 12, 13, 14, 15, 80, 81, 82, 83, 84, 85, 86, 87, 88, 89, 90, 91, 92, 93, 94, 95, 96, 97, 98, 99, 100, 101, 102, 103, 104, 105, 106, 107, 108, 109, 110, 111, 112, 113, 114, 115, 116, 117, 118, 119, 120, 121, 122, 123, 124, 125, 126, 127, 128, 129, 130, 131, 132] [80] (fun us wr => ∃ b : Nat, b ≤ (ps.getD k pt0).cs.length ∧ us = [.int .i64 b] ∧ Sat w [] [.rw 0 (.slice Al l.length cl) 3 1 (l.map pkC), .cl b1 24 [.int .i64 m, .slice B ps.length cB]] wr) (fun us _ => (ps.getD k pt0).cs.length - (intOf (us.getD 0 undef)).toNat) ?_ ?_
            · exact ⟨0, Nat.zero_le _, rfl, Sr⟩
            clear Sr
            rintro g3 us3 wr3 ⟨b, hb, rfl, Sr⟩
            by_cases hlb : b < (ps.getD k pt0).cs.length
            · have hl0 : 0 < l.length := by omega
              obtain ⟨x, hx⟩ : ∃ x, (l.set i (a : Int)).set k (b : Int) = x := ⟨_, rfl⟩
              have hxl : x.length = l.length := by rw [← hx, List.length_set, List.length_set]
              have hok1 := okL_set hs.ok hli hla
              have hxo : okL ps x x.length := by
                rw [← hx]
                exact okL_set hok1 (by rw [List.length_set]; exact hlk) hlb
              have hset2 : ((l.set i (a : Int)).map pkC).set k ((((l.set i (a : Int)).map pkC).getD k []).set 0 (.int .i64 (b : Int))) = x.map pkC := by
                rw [set_pk (by rw [List.length_set]; exact hlk), hx]
              have hvx : valV m ps x = [.int .i64 (wS ps x x.length), .int .i64 (cS ps x x.length), .int .i64 0] := valV_0 hr.ck (hxl.trans hll) hxo
              have hbest := hs.least x (hxl.trans hll) hxo
              obtain ⟨wx, hwx⟩ : ∃ z, wS ps x x.length = z := ⟨_, rfl⟩
              obtain ⟨cx, hcx⟩ : ∃ z, cS ps x x.length = z := ⟨_, rfl⟩
              rw [hwx, hcx] at hvx hbest
              have h3 : (k = i ∧ ¬ (a : Int) = (b : Int)) ∨ (¬ (k = i ∧ ¬ (a : Int) = (b : Int)) ∧ (m < wx ∨ (wx ≤ m ∧ c < cx) ∨ (wx ≤ m ∧ cx = c ∧ ¬ cmpL x l < 0))) := by
                by_cases h4 : k = i ∧ ¬ (a : Int) = (b : Int)
                · exact .inl h4
                · refine .inr ⟨h4, ?_⟩
                  by_cases h5 : wx ≤ m
                  · have h6 := hbest h5
                    by_cases h7 : cx = c
                    · exact .inr (.inr ⟨h5, h7, h6.2 h7⟩)
                    · exact .inr (.inl ⟨h5, by omega⟩)
                  · exact .inl (by omega)
              clear hbest
              rcases h3 with ⟨h4, h5⟩ | ⟨h4, h5 | ⟨h5, h6⟩ | ⟨h5, h6, h7⟩⟩
              all_goals
                (repeat' (first | apply cw_seq | apply cw_region | apply wl_nil | apply cw_block | apply cw_skip | apply cw_exit | (apply x_gdec; exact rfl; exact rfl; all_goals (intro _; try omega)) | (apply x_callrowE (m := l.length); assumption; exact rfl; exact rfl; exact rfl; exact e_CloneI; (exact (by repeat' constructor)); (with_reducible exact (CloneI_c _ _ l (by omega) hl0 _ (Sat.rdmapN (0 : Int) (by assumption) (by exact (by repeat' constructor)) rfl))); exact List.length_map _; intro _ _ _ _) | (apply x_storeRowEA; assumption; exact rfl; exact rfl; (exact (by repeat' constructor)); exact rfl; exact rfl; (exact (by repeat' constructor)); (exact (by rw [List.length_map]; omega)); (exact (by decide)); exact set_pk hli; intro _ _) | (apply x_storeRowEA; assumption; exact rfl; exact rfl; (exact (by repeat' constructor)); exact rfl; exact rfl; (exact (by repeat' constructor)); (exact (by rw [List.length_map, List.length_set]; omega)); (exact (by decide)); exact hset2; intro _ _) | (apply x_callv; assumption; exact rfl; exact rfl; exact rfl; exact e_ValueT; (exact (by repeat' constructor)); with_reducible exact (Value_m m B cB ps hp hcs _ _ x hxl.symm (by omega) hvx _ (R.old.now (by assumption)) (fun i hi => (R2 i hi).old.now (by assumption)) (Sat.rdmapN (0 : Int) (by assumption) (by exact (by repeat' constructor)) hxl.symm)); intro _ _ _) | (apply x_callv; assumption; exact rfl; exact rfl; exact rfl; exact e_CompareI; (exact (by repeat' constructor)); with_reducible exact (Compare_m x l hxl.symm rfl (by omega) hxl _ (Sat.rdmapN (0 : Int) (by assumption) (by exact (by repeat' constructor)) hxl.symm) (Sat.rdmapN (0 : Int) (by assumption) (by exact (by repeat' constructor)) rfl)); intro _ _ _) | (apply x_not; exact rfl; exact rfl) | (apply x_move; exact rfl; exact rfl; (exact (by repeat' constructor))) | (apply x_assign; exact rfl; exact rfl; (exact (by repeat' constructor))) | (apply x_fieldB; exact rfl; exact rfl; exact rfl; exact rfl; (constructor)) | (apply x_load; assumption; exact rfl; exact rfl; exact rfl; (exact (by repeat' constructor)); exact rfl; exact rfl; (exact (by repeat' constructor))) | (apply x_bin; exact rfl; exact rfl; exact rfl; (first | exact .z (.wrap (by omega)) | exact (by repeat' constructor))) | (apply x_pick; exact rfl; exact rfl; exact rfl; (exact (by repeat' constructor))) | (apply x_extract; exact rfl; exact rfl; exact rfl; (exact (by repeat' constructor))) | (apply x_index; exact rfl; exact rfl; exact rfl; exact rfl; exact rfl; (constructor); (first | omega | exact size_pos (by assumption) | assumption); (first | exact rfl | assumption | exact Rd.some_ (by assumption) (by omega) | exact Rd.some_ (Old.rd (by assumption)) (by omega) | exact (Sat.rd (by assumption) (by exact (by repeat' constructor))).some_ (by omega))) | (apply cw_false; exact rfl) | (apply x_dec; exact rfl; all_goals (intro _; try omega)) | (apply cw_ne; exact rfl; all_goals (intro _; try omega))))
              all_goals first
                | (exfalso; omega)
                | skip
              all_goals
                exact ⟨rfl, (by repeat (first | exact Agree.updl rfl (Agree.mask _ _ _) | refine Agree.upd rfl ?_ | refine Agree.updl rfl ?_ | refine Agree.maskIn rfl ?_)), ⟨b + 1, hlb, rfl, Sat.drop1 (by assumption)⟩, (show (ps.getD k pt0).cs.length - (b + 1 : Int).toNat < (ps.getD k pt0).cs.length - (b : Int).toNat by omega)⟩
            · (repeat' (first | apply cw_seq | apply cw_region | apply wl_nil | apply cw_exit | (apply x_move; exact rfl; exact rfl; (exact (by repeat' constructor))) | (apply x_bin; exact rfl; exact rfl; exact rfl; (first | exact .z (.wrap (by omega)) | exact (by repeat' constructor))) | (apply x_dec; exact rfl; all_goals (intro _; try omega))))
              exact ⟨rfl, (by repeat (first | exact Agree.updl rfl (Agree.mask _ _ _) | refine Agree.upd rfl ?_ | refine Agree.updl rfl ?_ | refine Agree.maskIn rfl ?_)), ⟨a + 1, hla, rfl, by assumption⟩, (show (ps.getD i pt0).cs.length - (a + 1 : Int).toNat < (ps.getD i pt0).cs.length - (a : Int).toNat by omega)⟩
          · (repeat' (first | apply cw_seq | apply cw_region | apply wl_nil | apply cw_exit | (apply x_move; exact rfl; exact rfl; (exact (by repeat' constructor))) | (apply x_bin; exact rfl; exact rfl; exact rfl; (first | exact .z (.wrap (by omega)) | exact (by repeat' constructor))) | (apply x_dec; exact rfl; all_goals (intro _; try omega))))
            exact ⟨rfl, (by repeat (first | exact Agree.updl rfl (Agree.mask _ _ _) | refine Agree.upd rfl ?_ | refine Agree.updl rfl ?_ | refine Agree.maskIn rfl ?_)), ⟨k + 1, hlk, rfl, by assumption⟩, (show l.length - (k + 1 : Int).toNat < l.length - (k : Int).toNat by omega)⟩
        · (repeat' (first | apply cw_seq | apply cw_region | apply wl_nil | apply cw_exit | (apply x_move; exact rfl; exact rfl; (exact (by repeat' constructor))) | (apply x_bin; exact rfl; exact rfl; exact rfl; (first | exact .z (.wrap (by omega)) | exact (by repeat' constructor))) | (apply x_dec; exact rfl; all_goals (intro _; try omega))))
          exact ⟨rfl, (by repeat (first | exact Agree.updl rfl (Agree.mask _ _ _) | refine Agree.upd rfl ?_ | refine Agree.updl rfl ?_ | refine Agree.maskIn rfl ?_)), ⟨i + 1, hli, rfl, by assumption⟩, (show l.length - (i + 1 : Int).toNat < l.length - (i : Int).toNat by omega)⟩
      · (repeat' (first | apply cw_seq | apply cw_region | apply wl_nil | apply cw_exit | apply cw_ret | (apply x_callv; assumption; exact rfl; exact rfl; exact rfl; exact e_awake; (exact (by repeat' constructor)); with_reducible exact (awake_c _); intro _ _ _) | (apply x_assign; exact rfl; exact rfl; (exact (by repeat' constructor))) | (apply x_bin; exact rfl; exact rfl; exact rfl; (first | exact .z (.wrap (by omega)) | exact (by repeat' constructor))) | (apply x_dec; exact rfl; all_goals (intro _; try omega))))
        (all_goals (first | refine q_retS (by assumption) rfl (by repeat (first | exact .nil | (apply RV.tmp; exact (by repeat' constructor)) | (apply RV.cell; exact rfl; exact (by repeat' constructor); exact rfl; exact rfl; exact (by repeat' constructor)))) ?_ | (simp only [thenQ, blockQ]; refine q_retS (by assumption) rfl (by repeat (first | exact .nil | (apply RV.tmp; exact (by repeat' constructor)) | (apply RV.cell; exact rfl; exact (by repeat' constructor); exact rfl; exact rfl; exact (by repeat' constructor)))) ?_))); (all_goals refine ⟨?_, Sat.keeps (by assumption)⟩); (all_goals first | rfl | (simp [pack]; done) | (exfalso; simp_all; done))
  · (repeat' (first | apply cw_seq | apply cw_region | apply wl_nil | apply cw_ret | (apply x_callv; assumption; exact rfl; exact rfl; exact rfl; exact e_right; (exact (by repeat' constructor)); with_reducible exact (right_n m B cB ps hp hcs hz hcz hr _ (R.old.now (by assumption)) (fun i hi => (R2 i hi).old.now (by assumption))); intro _ _ _) | (apply x_callv; assumption; exact rfl; exact rfl; exact rfl; exact e_awake; (exact (by repeat' constructor)); with_reducible exact (awake_c _); intro _ _ _) | (apply x_assign; exact rfl; exact rfl; (exact (by repeat' constructor))) | (apply x_load; assumption; exact rfl; exact rfl; exact rfl; (exact (by repeat' constructor)); exact rfl; exact rfl; (exact (by repeat' constructor))) | (apply x_un; exact rfl; exact rfl; exact rfl; (first | exact .z (.wrap (by omega)) | exact (by repeat' constructor))) | (apply x_box; assumption; exact rfl; exact rfl; (exact (by repeat' constructor)); (exact (by repeat' constructor)); intro _ _ _) | (apply cw_true; exact rfl)))
    (all_goals (first | refine q_retS (by assumption) rfl (by repeat (first | exact .nil | (apply RV.tmp; exact (by repeat' constructor)) | (apply RV.cell; exact rfl; exact (by repeat' constructor); exact rfl; exact rfl; exact (by repeat' constructor)))) ?_ | (simp only [thenQ, blockQ]; refine q_retS (by assumption) rfl (by repeat (first | exact .nil | (apply RV.tmp; exact (by repeat' constructor)) | (apply RV.cell; exact rfl; exact (by repeat' constructor); exact rfl; exact rfl; exact (by repeat' constructor)))) ?_))); (all_goals refine ⟨?_, Sat.keeps (by assumption)⟩); (all_goals first | rfl | (simp [pack]; done) | (exfalso; simp_all; done))
theorem lawImproves_t (t : Tk) (w : World) (h : t.ok w) : Calls Try.prog 10 #[tkV t] w (RetP (Val (.bool true) w)) :=
  lawImproves_c t.m t.B t.cB t.ps h.hp h.hcs h.hz h.hcz w h.R h.R2
end Go.Proofs.Ytecmgjhnfgeldaa.Al
