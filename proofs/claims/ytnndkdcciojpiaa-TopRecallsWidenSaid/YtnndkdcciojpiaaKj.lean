/- Records of calibrations: names without doubles (slices.Compact), instruments that are due. No statement of the seat is proved here. -/
import Derived.Test.YtnndkdcciojpiaaKi
import Derived.Test.YtnndkdcciojpiaaEngN
namespace Go.Proofs.Ytnndkdcciojpiaa
set_option linter.unusedVariables false
set_option linter.unusedSimpArgs false
open Go Go.RowKit
abbrev strC (s : ByteArray) : List Value := [.string s]
abbrev sat (l : List ByteArray) (k : Nat) : ByteArray := l.getD k nul
/-- the first k, without those that equal the one before -/
noncomputable def cmpTo (l : List ByteArray) : Nat → List ByteArray
  | 0 => []
  | k + 1 => @ite _ (0 < k ∧ sat l k = sat l (k - 1)) (Classical.propDecidable _) (cmpTo l k) (cmpTo l k ++ [sat l k])
theorem cmpTo_yes {l : List ByteArray} {j : Nat} (h : sat l (j + 1) = sat l j) : cmpTo l (j + 1 + 1) = cmpTo l (j + 1) := by rw [cmpTo, if_pos ⟨by omega, h⟩]
theorem cmpTo_no {l : List ByteArray} {j : Nat} (h : ¬ sat l (j + 1) = sat l j) : cmpTo l (j + 1 + 1) = cmpTo l (j + 1) ++ [sat l (j + 1)] := by rw [cmpTo, if_neg (fun e => h e.2)]
theorem cmpTo_one (l : List ByteArray) : cmpTo l 1 = [sat l 0] := by rw [cmpTo, if_neg (fun e => absurd e.1 (by omega))]; rfl
theorem takeS {l : List ByteArray} {k : Nat} (h : k < l.length) : l.take (k + 1) = l.take k ++ [sat l k] := by
  rw [List.take_add_one]
  simp [List.getD_eq_getElem?_getD, h]
structure CompI (xs : List ByteArray) (p i : Nat) (ys : List ByteArray) : Prop where
  len : ys.length = xs.length
  lt : i < p
  pre : ys.take i = cmpTo xs p
  suf : ∀ q, p ≤ q + 1 → sat ys q = sat xs q
theorem CompI.keep {xs ys : List ByteArray} {j i : Nat} (h : CompI xs (j + 1) i ys) (he : sat xs (j + 1) = sat xs j) : CompI xs (j + 1 + 1) i ys :=
  ⟨h.len, by have := h.lt; omega, by rw [cmpTo_yes he]; exact h.pre, fun q hq => h.suf q (by omega)⟩
theorem CompI.put {xs ys : List ByteArray} {j i : Nat} (h : CompI xs (j + 1) i ys) (hj : j + 1 < xs.length) (he : ¬ sat xs (j + 1) = sat xs j) : CompI xs (j + 1 + 1) (i + 1) (ys.set i (sat ys (j + 1))) := by
  have hl := h.len
  have hlt := h.lt
  refine ⟨by simp [hl], by omega, ?_, fun q hq => ?_⟩
  · rw [takeS (by simp; omega), cmpTo_no he, List.take_set_of_le (Nat.le_refl _), h.pre, h.suf _ (by omega)]
    congr 2
    simp [List.getD_eq_getElem?_getD, show i < ys.length by omega, h.suf _ (show j + 1 ≤ j + 1 + 1 by omega)]
  · rw [← h.suf q (by omega)]
    simp [List.getD_eq_getElem?_getD, List.getElem?_set, show ¬ i = q by omega]
theorem set_str {ys : List ByteArray} {i : Nat} {v : ByteArray} : (ys.map strC).set i (((ys.map strC).getD i []).set 0 (.string v)) = (ys.set i v).map strC := by
  rw [List.map_set]
  by_cases h : i < ys.length
  · congr 1
    simp [List.getD_eq_getElem?_getD, h]
  · rw [List.set_eq_of_length_le (by simp; omega), List.set_eq_of_length_le (by simp; omega)]
set_option maxRecDepth 100000 in
theorem e_Compact : Ent Try.prog 36 := fun _ _ => rfl
set_option maxRecDepth 4000 in
set_option maxHeartbeats 2000000 in
theorem Compact_c (A : Option Addr) (c : Nat) (xs : List ByteArray) (hn : xs.length ≤ 1000000) (M : List Nat) (w : World) (S : Sat w M [.rw 0 (.slice A (xs.map strC).length c) 9 1 (xs.map strC)] w) :
    Calls Try.prog 36 #[.slice A (xs.map strC).length c] w (RetP fun v w' => ∃ _ : Unit, v = .slice A ((cmpTo xs xs.length).map strC).length c ∧ Sat w M [.rw 0 (.slice A ((cmpTo xs xs.length).map strC).length c) 9 1 ((cmpTo xs xs.length).map strC)] w') := by
  have hlm : (xs.map strC).length = xs.length := List.length_map _
  refine calls_of_cw (args := [.slice A (xs.map strC).length c]) Try.func36 rfl rfl ?_
  by_cases h2 : xs.length < 2
  · have e : cmpTo xs xs.length = xs := by
      match xs, h2 with
      | [], _ => rfl
      | [a], _ => exact cmpTo_one [a]
    rw [e]
    (repeat' (first | apply cw_seq | apply cw_region | apply wl_nil | apply cw_ret | (apply x_move; exact rfl; exact rfl; (exact (by repeat' constructor))) | (apply x_assign; exact rfl; exact rfl; (exact (by repeat' constructor))) | (apply x_bin; exact rfl; exact rfl; exact rfl; (first | exact .z (.wrap (by omega)) | exact (by repeat' constructor))) | (apply x_builtin; exact rfl; exact rfl; exact (fun _ => rfl); (exact (by repeat' constructor))) | (apply x_dec; exact rfl; all_goals (intro _; try omega))))
    simp only [thenQ]
    (first | refine q_retS (by assumption) rfl (by repeat (first | exact .nil | (apply RV.tmp; exact (by repeat' constructor)) | (apply RV.cell; exact rfl; exact (by repeat' constructor); exact rfl; exact rfl; exact (by repeat' constructor)))) ?_ | (simp only [thenQ, blockQ]; refine q_retS (by assumption) rfl (by repeat (first | exact .nil | (apply RV.tmp; exact (by repeat' constructor)) | (apply RV.cell; exact rfl; exact (by repeat' constructor); exact rfl; exact rfl; exact (by repeat' constructor)))) ?_))
    exact ⟨(), rfl, by assumption⟩
  obtain ⟨g, rfl, _, hc⟩ := S.rowSome .head (by omega)
  (repeat' (first | apply cw_seq | apply cw_region | apply wl_nil | apply cw_block | apply cw_skip | (apply x_move; exact rfl; exact rfl; (exact (by repeat' constructor))) | (apply x_assign; exact rfl; exact rfl; (exact (by repeat' constructor))) | (apply x_bin; exact rfl; exact rfl; exact rfl; (first | exact .z (.wrap (by omega)) | exact (by repeat' constructor))) | (apply x_builtin; exact rfl; exact rfl; exact (fun _ => rfl); (exact (by repeat' constructor))) | (apply x_dec; exact rfl; all_goals (intro _; try omega))))
  refine cw_loop [2, 3, 4, 5, 10, 11, 12, 13, 14, 15, 16, 17, 18, 19, 20, 21, 22, 23, 24, 25, 26, 27, 28, 29, 30, 31, 32, 33, 34, 35, 36, 37, 38, 39, 40, 41, 42, 43, 44, 45, 46, 47, 48, 49, 50, 51, 52, 53, 54, 55, 56, 57, 58, 59] [3] (fun us wr => ∃ j : Nat, j + 1 ≤ xs.length ∧ us = [.int .i64 (j + 1 : Nat)] ∧ cmpTo xs (j + 1) = xs.take (j + 1) ∧ Sat w M [.rw 0 (.slice (some ⟨g, 0, none⟩) (xs.map strC).length c) 9 1 (xs.map strC)] wr) (fun us _ => xs.length - (intOf (us.getD 0 undef)).toNat) ?_ ?_
  · exact ⟨0, by omega, rfl, by rw [cmpTo_one, takeS (by omega)]; rfl, S⟩
  clear S
  rintro g' us wr ⟨j, hj, rfl, hcm, Sr⟩
  have hμ : xs.length - (intOf (([.int .i64 ((j + 1 : Nat) : Int)] : List Value).getD 0 undef)).toNat = xs.length - (j + 1) := rfl
  by_cases hlt : j + 1 < xs.length
  · (repeat' (first | apply cw_seq | apply cw_region | apply wl_nil | apply cw_block | apply cw_skip | (apply x_sliceLoE; exact rfl; exact rfl; exact rfl; exact rfl; exact rfl; omega; omega) | (apply y_bin; exact rfl; exact (fun _ => rfl); exact is_sub1 (by omega)) | (apply y_loadRowM nul; exact rfl; exact rfl; (exact (by repeat' constructor)); exact hlm; (first | omega | exact size_pos (by assumption) | assumption); exact rfl; exact rfl; (exact (by repeat' constructor))) | (apply cw_draw (id := 6) [(0, 0), (1, 0), (2, 0), (3, 0), (4, 0), (5, 0), (6, 0), (7, 0), (8, 0), (9, 0)]; assumption; exact mixed; kernel_rfl) | (apply x_move; exact rfl; exact rfl; (exact (by repeat' constructor))) | (apply x_assign; exact rfl; exact rfl; (exact (by repeat' constructor))) | (apply x_bin; exact rfl; exact rfl; exact rfl; (first | exact .z (.wrap (by omega)) | exact (by repeat' constructor))) | (apply x_builtin; exact rfl; exact rfl; exact (fun _ => rfl); (exact (by repeat' constructor))) | (apply y_eqStr; exact rfl; exact rfl; exact rfl) | (apply y_move; exact rfl; (exact (by repeat' constructor))) | (apply y_index; exact rfl; exact rfl; exact rfl; exact rfl; (constructor); (first | omega | exact size_pos (by assumption) | assumption); (first | exact rfl | assumption | exact Rd.some_ (by assumption) (by omega) | exact Rd.some_ (Old.rd (by assumption)) (by omega) | exact (Sat.rd (by assumption) (by exact (by repeat' constructor))).some_ (by omega))) | (apply y_nil; intro _ _) | (apply x_dec; exact rfl; all_goals (intro _; try omega))))
    · have hdup : (xs.getD (j + 1) nul) = (xs.getD j nul) := by assumption
      refine cw_loop [3, 5, 29, 30, 31, 32, 33, 34, 35, 36, 37, 38, 39, 40, 41, 42, 43, 44, 45, 46, 47, 48, 49, 50, 51, 52, 53] [3, 5] (fun us wr => ∃ (i j2 : Nat) (ys : List ByteArray), j + 1 + (j2 + 1) ≤ xs.length ∧ us = [.int .i64 i, .int .i64 (j2 + 1 : Nat)] ∧ CompI xs (j + 1 + j2 + 1) i ys ∧ Sat w M [.rw 0 (.slice (some ⟨g, 0, none⟩) (xs.map strC).length c) 9 1 (ys.map strC)] wr) (fun us _ => xs.length - (intOf (us.getD 1 undef)).toNat) ?_ ?_
      · exact ⟨j + 1, 0, xs, by omega, rfl, ⟨rfl, by omega, by rw [cmpTo_yes hdup, hcm], fun _ _ => rfl⟩, by assumption⟩
      clear Sr
      rintro g2 us wr2 ⟨i, j2, ys, hj2, rfl, hI, Sr⟩
      have hyl := hI.len
      have hil := hI.lt
      have hym : (xs.map strC).length = ys.length := by rw [hlm, hyl]
      by_cases hl2 : j + 1 + (j2 + 1) < xs.length
      · have y1 := hI.suf (j + 1 + j2 + 1) (by omega)
        have y0 := hI.suf (j + 1 + j2) (by omega)
        (repeat' (first | apply cw_seq | apply cw_region | apply wl_nil | apply cw_block | apply cw_skip | (apply y_bin; exact rfl; exact (fun _ => rfl); exact is_sub1 (by omega)) | (apply y_indexSub (r := j + 1 + j2 + 1) (j := j2 + 1); exact rfl; exact rfl; exact rfl; exact rfl; omega; omega) | (apply y_indexSub (r := j + 1 + j2) (j := j2); exact rfl; exact rfl; exact rfl; exact rfl; omega; omega) | (apply x_indexSub (r := j + 1 + j2 + 1) (j := j2 + 1); exact rfl; exact rfl; exact rfl; exact rfl; exact rfl; omega; omega) | (apply y_loadRowM nul; exact rfl; exact rfl; (exact (by repeat' constructor)); exact hym; (first | omega | exact size_pos (by assumption) | assumption); exact rfl; exact rfl; (exact (by repeat' constructor))) | (apply x_loadR; exact rfl; exact rfl; exact rfl; exact Sat.rdmapN nul (by assumption) (by exact (by repeat' constructor)) hym; (first | omega | exact size_pos (by assumption) | assumption); exact rfl; exact rfl; (exact (by repeat' constructor))) | (apply x_storeRow; assumption; exact rfl; exact rfl; (exact (by repeat' constructor)); exact rfl; exact rfl; (exact (by repeat' constructor)); (exact (by rw [List.length_map]; omega)); decide; intro w3 S3; rw [set_str] at S3) | (apply cw_draw (id := 11) [(0, 0), (1, 0), (2, 0), (3, 0), (4, 0), (5, 0), (6, 0), (7, 0), (8, 0), (9, 0)]; assumption; exact mixed; kernel_rfl) | (apply x_move; exact rfl; exact rfl; (exact (by repeat' constructor))) | (apply x_assign; exact rfl; exact rfl; (exact (by repeat' constructor))) | (apply x_bin; exact rfl; exact rfl; exact rfl; (first | exact .z (.wrap (by omega)) | exact (by repeat' constructor))) | (apply x_builtin; exact rfl; exact rfl; exact (fun _ => rfl); (exact (by repeat' constructor))) | (apply x_index; exact rfl; exact rfl; exact rfl; exact rfl; exact rfl; (constructor); (first | omega | exact size_pos (by assumption) | assumption); (first | exact rfl | assumption | exact Rd.some_ (by assumption) (by omega) | exact Rd.some_ (Old.rd (by assumption)) (by omega) | exact (Sat.rd (by assumption) (by exact (by repeat' constructor))).some_ (by omega))) | (apply y_neStr; exact rfl; exact rfl; exact rfl) | (apply y_move; exact rfl; (exact (by repeat' constructor))) | (apply y_nil; intro _ _) | (apply x_dec; exact rfl; all_goals (intro _; try omega))))
        · refine ⟨rfl, (by repeat (first | exact Agree.updl rfl (Agree.mask _ _ _) | refine Agree.upd rfl ?_)), ⟨i + 1, j2 + 1, _, by omega, rfl, hI.put (by omega) (by rw [← y1, ← y0]; assumption), by assumption⟩, ?_⟩
          show xs.length - (j2 + 1 + 1 : Int).toNat < xs.length - ((j2 + 1 : Nat) : Int).toNat
          omega
        · refine ⟨rfl, (by repeat (first | exact Agree.updl rfl (Agree.mask _ _ _) | refine Agree.upd rfl ?_)), ⟨i, j2 + 1, ys, by omega, rfl, hI.keep (by rw [← y1, ← y0]; exact nn (by assumption)), by assumption⟩, ?_⟩
          show xs.length - (j2 + 1 + 1 : Int).toNat < xs.length - ((j2 + 1 : Nat) : Int).toNat
          omega
      · (repeat' (first | apply cw_seq | apply cw_region | apply wl_nil | apply cw_exit | apply cw_ret | (apply x_sliceLoE; exact rfl; exact rfl; exact rfl; exact rfl; exact rfl; omega; omega) | (apply x_sliceHiE; exact rfl; exact rfl; exact rfl; exact rfl; exact rfl; omega) | (apply x_clearRow; assumption; exact rfl; exact rfl; (exact (by repeat' constructor)); exact rfl; exact rfl; exact rfl; (exact (by simp only [List.length_map]; omega)); (exact (by simp only [List.length_map]; omega)); intro w3 S3) | (apply x_move; exact rfl; exact rfl; (exact (by repeat' constructor))) | (apply x_assign; exact rfl; exact rfl; (exact (by repeat' constructor))) | (apply x_bin; exact rfl; exact rfl; exact rfl; (first | exact .z (.wrap (by omega)) | exact (by repeat' constructor))) | (apply x_builtin; exact rfl; exact rfl; exact (fun _ => rfl); (exact (by repeat' constructor))) | (apply x_dec; exact rfl; all_goals (intro _; try omega))))
        have e : j + 1 + j2 + 1 = xs.length := by omega
        have hpre := hI.pre
        rw [e] at hpre hil
        have S4 := S3.shrink (k := i) (by exact (by repeat' constructor)) (by simp; omega)
        have e2 : (((ys.map strC).take i) ++ List.replicate ((xs.map strC).length - i) [Value.string nul]).take i = (cmpTo xs xs.length).map strC := by
          rw [List.take_append_of_le_length (by simp; omega), List.take_take, Nat.min_self, ← List.map_take, hpre]
        have e3 : ((cmpTo xs xs.length).map strC).length = i := by rw [← hpre]; simp; omega
        rw [e2] at S4
        simp only [thenQ, blockQ]
        (first | refine q_retS (by assumption) rfl (by repeat (first | exact .nil | (apply RV.tmp; exact (by repeat' constructor)) | (apply RV.cell; exact rfl; exact (by repeat' constructor); exact rfl; exact rfl; exact (by repeat' constructor)))) ?_ | (simp only [thenQ, blockQ]; refine q_retS (by assumption) rfl (by repeat (first | exact .nil | (apply RV.tmp; exact (by repeat' constructor)) | (apply RV.cell; exact rfl; exact (by repeat' constructor); exact rfl; exact rfl; exact (by repeat' constructor)))) ?_))
        rw [e3]
        exact ⟨(), rfl, S4⟩
    · have hdup : ¬ (xs.getD (j + 1) nul) = (xs.getD j nul) := by assumption
      refine ⟨rfl, (by repeat (first | exact Agree.updl rfl (Agree.mask _ _ _) | refine Agree.upd rfl ?_ | refine Agree.updl rfl ?_ | refine Agree.maskIn rfl ?_)), ⟨j + 1, hlt, rfl, ?_, by assumption⟩, ?_⟩
      · rw [cmpTo_no hdup, takeS hlt, hcm]
      · show xs.length - (j + 1 + 1 : Int).toNat < xs.length - ((j + 1 : Nat) : Int).toNat
        omega
  · (repeat' (first | apply cw_seq | apply cw_region | apply wl_nil | apply cw_exit | apply cw_ret | (apply x_move; exact rfl; exact rfl; (exact (by repeat' constructor))) | (apply x_assign; exact rfl; exact rfl; (exact (by repeat' constructor))) | (apply x_bin; exact rfl; exact rfl; exact rfl; (first | exact .z (.wrap (by omega)) | exact (by repeat' constructor))) | (apply x_builtin; exact rfl; exact rfl; exact (fun _ => rfl); (exact (by repeat' constructor))) | (apply x_dec; exact rfl; all_goals (intro _; try omega))))
    (first | refine q_retS (by assumption) rfl (by repeat (first | exact .nil | (apply RV.tmp; exact (by repeat' constructor)) | (apply RV.cell; exact rfl; exact (by repeat' constructor); exact rfl; exact rfl; exact (by repeat' constructor)))) ?_ | (simp only [thenQ, blockQ]; refine q_retS (by assumption) rfl (by repeat (first | exact .nil | (apply RV.tmp; exact (by repeat' constructor)) | (apply RV.cell; exact rfl; exact (by repeat' constructor); exact rfl; exact rfl; exact (by repeat' constructor)))) ?_))
    have e : xs.length = j + 1 := by omega
    rw [e, hcm, ← e, List.take_length]
    exact ⟨(), rfl, by assumption⟩
end Go.Proofs.Ytnndkdcciojpiaa
