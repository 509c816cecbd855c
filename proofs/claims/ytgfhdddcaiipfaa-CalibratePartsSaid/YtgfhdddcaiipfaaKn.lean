/- Records of calibrations: the reference's list of names; few records; lists that are equal, sorted, what they hold. No statement of the seat is proved here. -/
import Derived.Test.YtgfhdddcaiipfaaKm
import Derived.Test.YtgfhdddcaiipfaaEngP
namespace Go.Proofs.Ytgfhdddcaiipfaa
open Go Go.RowKit
section
variable {P : Program} {ro : Option Nat} {n : Nat} {Q : Post} {D : List Deferred} {f : Fm} {w w0 : World} {M : List Nat} {h : List HO}
theorem r_geS {x y : Operand} {o : Oper} {T T' : TypeId} {a b : ByteArray} (hop : o.op = .binOp .geq T x y T') (hx : fev f x = .string a) (hy : fev f y = .string b) : (execOp (fev f) o).run P w = .ok (.value (.bool (decide (sl a b = false)))) w := by
  have h : (execOp (fev f) o).run P w = .ok (.value (.bool (!(Op.bytesLess a.toList b.toList)))) w := by
    unfold execOp
    rw [hop]
    simp only [hx, hy]
    rfl
  rw [h]
  show Result.ok (Next.value (.bool (!(sl a b)))) w = _
  cases sl a b <;> rfl
theorem x_geS {ops : Array Oper} {rest : List Oper} {d ty : Nat} {ps : String} {af : Array Edge} {gd : Option (Nat × Bool)} {x y : Operand} {T T' : TypeId} {a b : ByteArray} (hg : want ops f ⟨some d, .binOp .geq T x y T', ty, ps, af, gd⟩ = true) (hdn : Nat.blt d n = true) (hx : fev f x = .string a) (hy : fev f y = .string b)
    (k : WL P ro n ops Q rest D (upd f d (.bool (decide (sl a b = false)))) w) : WL P ro n ops Q (⟨some d, .binOp .geq T x y T', ty, ps, af, gd⟩ :: rest) D f w :=
  wl_val hg rfl hdn (r_geS rfl hx hy) (.z .bool) k
theorem x_ltS {ops : Array Oper} {rest : List Oper} {d ty : Nat} {ps : String} {af : Array Edge} {gd : Option (Nat × Bool)} {x y : Operand} {T T' : TypeId} {a b : ByteArray} (hg : want ops f ⟨some d, .binOp .lss T x y T', ty, ps, af, gd⟩ = true) (hdn : Nat.blt d n = true) (hx : fev f x = .string a) (hy : fev f y = .string b)
    (k : WL P ro n ops Q rest D (upd f d (.bool (decide (sl a b = true)))) w) : WL P ro n ops Q (⟨some d, .binOp .lss T x y T', ty, ps, af, gd⟩ :: rest) D f w :=
  wl_val hg rfl hdn (r_ltS rfl hx hy) (.z .bool) k
end
/-! ### a name put behind those that are less -/
theorem map_snoc_len {xs : List ByteArray} {x : ByteArray} : ((xs ++ [x]).map strC).length = (xs.map strC).length + 1 := by simp
theorem put_step {w0 w : World} {M : List Nat} {h : List HO} {A : Option Addr} {c : Nat} {zs : List ByteArray} {s : ByteArray} (S : Sat w0 M (.rw 0 (.slice A ((zs.map strC).length + 1) c) 9 1 (zs.map strC ++ [strC s]) :: h) w) :
    Sat w0 M (.rw 0 (.slice A ((zs ++ [s]).map strC).length c) 9 1 ((zs ++ [s]).map strC) :: h) w := by
  rw [map_snoc_len, List.map_append]; exact S
set_option maxRecDepth 100000 in
theorem e_rPut : Ent Try.prog 48 := fun _ _ => rfl
set_option maxRecDepth 4000 in
set_option maxHeartbeats 2000000 in
theorem rPut_c (A : Option Addr) (c : Nat) (xs : List ByteArray) (hx : xs.length ≤ 1000000) (s : ByteArray) (m : Nat) (hlt : ∀ j, j < m → sl (xs.getD j nul) s = true) (hm : m = xs.length ∨ m + 1 = xs.length ∧ xs.getD m nul = s) (w : World) (R : Rd w A 1 xs.length (fun i => strC (xs.getD i nul))) : Calls Try.prog 48 #[.slice A xs.length c, .string s] w (RetP (RowR (fun v => v) 9 1 ((xs.take m ++ [s]).map strC) w)) := by
  refine calls_of_cw (args := [.slice A xs.length c, .string s]) Try.func48 rfl rfl ?_
  have S := Sat.start [] w
  have O := (R).old
  (repeat' (first | apply cw_seq | apply cw_region | apply wl_nil | apply cw_block | apply cw_skip | apply cw_exit | apply cw_ret | (apply x_buildSlice0; assumption; exact rfl; exact rfl; exact rfl; intro _ _ _ _ _) | (apply x_append1; assumption; exact rfl; exact rfl; exact rfl; exact rfl; exact rfl; (exact (by repeat' constructor)); (exact (by repeat' constructor)); exact rfl; exact rfl; exact rfl; (first | assumption | omega | (simp; omega)); intro _ _ _ _) | (apply x_not; exact rfl; exact rfl) | (apply x_move; exact rfl; exact rfl; (exact (by repeat' constructor))) | (apply x_assign; exact rfl; exact rfl; (exact (by repeat' constructor))) | (apply x_load; assumption; exact rfl; exact rfl; exact rfl; (exact (by repeat' constructor)); exact rfl; exact rfl; (exact (by repeat' constructor))) | (apply x_neStr; exact rfl; exact rfl; exact rfl; exact rfl) | (apply x_neAgg; exact rfl; exact rfl; exact rfl; exact rfl; (first | with_reducible exact flat_Limits | with_reducible exact flat_Dimension | with_reducible exact flat_Limits | with_reducible exact flat_Limits | with_reducible exact flat_at | with_reducible exact flat_take | with_reducible exact flat_set | with_reducible exact flat_get | with_reducible exact flat_single | with_reducible exact flat_Spot | with_reducible exact flat_Datum | with_reducible exact flat_Spot | with_reducible exact flat_step | with_reducible exact flat_Point); exact rfl; kernel_rfl; exact rfl) | (apply x_bin; exact rfl; exact rfl; exact rfl; (first | exact .z (.wrap (by omega)) | exact (by repeat' constructor))) | (apply x_pick; exact rfl; exact rfl; exact rfl; (exact (by repeat' constructor))) | (apply x_un; exact rfl; exact rfl; exact rfl; (first | exact .z (.wrap (by omega)) | exact (by repeat' constructor))) | (apply x_builtin; exact rfl; exact rfl; exact (fun _ => rfl); (exact (by repeat' constructor))) | (apply x_buildSlice; assumption; exact rfl; exact rfl; exact rfl; (exact (by repeat' constructor)); intro _ _ _) | (apply x_loadB; assumption; exact rfl; exact rfl; exact rfl; assumption; exact rfl; exact rfl; (exact (by repeat' constructor))) | (apply x_index; exact rfl; exact rfl; exact rfl; exact rfl; exact rfl; (constructor); (first | omega | exact size_pos (by assumption) | assumption); (first | exact rfl | assumption | exact Rd.some_ (by assumption) (by omega) | exact Rd.some_ (Old.rd (by assumption)) (by omega) | exact (Sat.rd (by assumption) (by exact (by repeat' constructor))).some_ (by omega))) | (apply x_indexArrB; exact rfl; exact rfl; exact rfl; exact rfl; exact rfl; decide; decide; (constructor)) | (apply x_loadR; exact rfl; exact rfl; exact rfl; (first | exact Old.now (by assumption) (by assumption) | exact Sat.rdpr (by assumption) (by exact (by repeat' constructor)) | exact Sat.rd (by assumption) (by exact (by repeat' constructor))); (first | omega | exact size_pos (by assumption) | assumption); exact rfl; exact rfl; (exact (by repeat' constructor))) | (apply cw_true; exact rfl) | (apply cw_false; exact rfl) | (apply x_ndec; exact rfl; with_reducible exact rfl; all_goals (intro _; try omega)) | (apply x_dec; exact rfl; all_goals (intro _; try omega)) | (apply cw_ne; exact rfl; all_goals (intro _; try omega)) | (apply cw_eq; exact rfl; all_goals (intro _; try omega)) | (apply cw_not; exact rfl; all_goals (intro _; try omega)) | (apply cw_cond; exact rfl; all_goals (intro _; try omega)) | (apply x_gndec; exact rfl; exact rfl; with_reducible exact rfl; all_goals (intro _; try omega)) | (apply x_gdec; exact rfl; exact rfl; all_goals (intro _; try omega)) | (apply x_gne; exact rfl; exact rfl; all_goals (intro _; try omega)) | (apply x_geq; exact rfl; exact rfl; all_goals (intro _; try omega)) | (apply x_gnot; exact rfl; exact rfl; all_goals (intro _; try omega)) | (apply x_gsplit; exact rfl; exact rfl; all_goals (intro _; try omega))))
  refine cw_loop [5, 6, 7, 8, 9, 10, 11, 12, 13, 14, 15, 16, 17, 18, 19, 20, 21, 22, 23, 24, 25, 26, 27, 28, 29, 30, 31, 32, 33, 34, 35, 36, 37, 38, 39, 40] [5, 6, 7] (fun us wr => ∃ (k : Nat) (zs : List ByteArray) (dn : Bool) (A' : Option Addr) (c' : Nat), us = [.slice A' (zs.map strC).length c', .bool dn, .int .i64 k] ∧ k ≤ xs.length ∧ ((k ≤ m ∧ zs = xs.take k ∧ dn = false) ∨ (m < k ∧ k = xs.length ∧ zs = xs.take m ++ [s] ∧ dn = true)) ∧ Sat w [] [.rw 0 (.slice A' (zs.map strC).length c') 9 1 (zs.map strC)] wr) (fun us _ => xs.length - (intOf (us.getD 2 undef)).toNat) ?_ ?_
  · exact ⟨0, [], false, none, 0, rfl, by omega, .inl ⟨by omega, rfl, rfl⟩, S.addNil _ _⟩
  clear S
  rintro g' us wr ⟨k, zs, dn, A', c', rfl, hk, hI, Sr⟩
  have hzl : (zs.map strC).length = zs.length := List.length_map _
  have hzs : zs.length ≤ xs.length := by
    rcases hI with ⟨h1, rfl, _⟩ | ⟨h1, h2, rfl, _⟩
    · rw [List.length_take]; omega
    · rw [List.length_append, List.length_take, List.length_singleton]; omega
  by_cases hlk : k < xs.length
  · rcases hI with ⟨h1, h2, rfl⟩ | ⟨h1, h2, _, _⟩
    · by_cases hkm : k < m
      · have hsl := hlt k hkm
        have hne : ¬ xs.getD k nul = s := fun e => by rw [e, sl_irr] at hsl; cases hsl
        (repeat' (first | apply cw_seq | apply cw_region | apply wl_nil | apply cw_block | apply cw_skip | apply cw_exit | apply cw_ret | (apply x_geS; exact rfl; exact rfl; exact rfl; exact rfl) | (apply x_buildSlice0; assumption; exact rfl; exact rfl; exact rfl; intro _ _ _ _ _) | (apply x_append1; assumption; exact rfl; exact rfl; exact rfl; exact rfl; exact rfl; (exact (by repeat' constructor)); (exact (by repeat' constructor)); exact rfl; exact rfl; exact rfl; (first | assumption | omega | (simp; omega)); intro _ _ _ _) | (apply x_not; exact rfl; exact rfl) | (apply x_move; exact rfl; exact rfl; (exact (by repeat' constructor))) | (apply x_assign; exact rfl; exact rfl; (exact (by repeat' constructor))) | (apply x_load; assumption; exact rfl; exact rfl; exact rfl; (exact (by repeat' constructor)); exact rfl; exact rfl; (exact (by repeat' constructor))) | (apply x_neStr; exact rfl; exact rfl; exact rfl; exact rfl) | (apply x_neAgg; exact rfl; exact rfl; exact rfl; exact rfl; (first | with_reducible exact flat_Limits | with_reducible exact flat_Dimension | with_reducible exact flat_Limits | with_reducible exact flat_Limits | with_reducible exact flat_at | with_reducible exact flat_take | with_reducible exact flat_set | with_reducible exact flat_get | with_reducible exact flat_single | with_reducible exact flat_Spot | with_reducible exact flat_Datum | with_reducible exact flat_Spot | with_reducible exact flat_step | with_reducible exact flat_Point); exact rfl; kernel_rfl; exact rfl) | (apply x_bin; exact rfl; exact rfl; exact rfl; (first | exact .z (.wrap (by omega)) | exact (by repeat' constructor))) | (apply x_pick; exact rfl; exact rfl; exact rfl; (exact (by repeat' constructor))) | (apply x_un; exact rfl; exact rfl; exact rfl; (first | exact .z (.wrap (by omega)) | exact (by repeat' constructor))) | (apply x_builtin; exact rfl; exact rfl; exact (fun _ => rfl); (exact (by repeat' constructor))) | (apply x_buildSlice; assumption; exact rfl; exact rfl; exact rfl; (exact (by repeat' constructor)); intro _ _ _) | (apply x_loadB; assumption; exact rfl; exact rfl; exact rfl; assumption; exact rfl; exact rfl; (exact (by repeat' constructor))) | (apply x_index; exact rfl; exact rfl; exact rfl; exact rfl; exact rfl; (constructor); (first | omega | exact size_pos (by assumption) | assumption); (first | exact rfl | assumption | exact Rd.some_ (by assumption) (by omega) | exact Rd.some_ (Old.rd (by assumption)) (by omega) | exact (Sat.rd (by assumption) (by exact (by repeat' constructor))).some_ (by omega))) | (apply x_indexArrB; exact rfl; exact rfl; exact rfl; exact rfl; exact rfl; decide; decide; (constructor)) | (apply x_loadR; exact rfl; exact rfl; exact rfl; (first | exact Old.now (by assumption) (by assumption) | exact Sat.rdpr (by assumption) (by exact (by repeat' constructor)) | exact Sat.rd (by assumption) (by exact (by repeat' constructor))); (first | omega | exact size_pos (by assumption) | assumption); exact rfl; exact rfl; (exact (by repeat' constructor))) | (apply cw_true; exact rfl) | (apply cw_false; exact rfl) | (apply x_ndec; exact rfl; with_reducible exact rfl; all_goals (intro _; try omega)) | (apply x_dec; exact rfl; all_goals (intro _; try omega)) | (apply cw_ne; exact rfl; all_goals (intro _; try omega)) | (apply cw_eq; exact rfl; all_goals (intro _; try omega)) | (apply cw_not; exact rfl; all_goals (intro _; try omega)) | (apply cw_cond; exact rfl; all_goals (intro _; try omega)) | (apply x_gndec; exact rfl; exact rfl; with_reducible exact rfl; all_goals (intro _; try omega)) | (apply x_gdec; exact rfl; exact rfl; all_goals (intro _; try omega)) | (apply x_gne; exact rfl; exact rfl; all_goals (intro _; try omega)) | (apply x_geq; exact rfl; exact rfl; all_goals (intro _; try omega)) | (apply x_gnot; exact rfl; exact rfl; all_goals (intro _; try omega)) | (apply x_gsplit; exact rfl; exact rfl; all_goals (intro _; try omega))))
        all_goals first
          | (exfalso; simp_all; done)
          | skip
        rename_i g1 cap1 w2 S2
        refine ⟨rfl, (by repeat (first | exact Agree.updl rfl (Agree.mask _ _ _) | refine Agree.upd rfl ?_)), ⟨k + 1, zs ++ [xs.getD k nul], false, some ⟨g1, 0, none⟩, cap1, ?_, hlk, .inl ⟨by omega, by rw [h2, takeS hlk], rfl⟩, put_step S2.drop1⟩, ?_⟩
        · rw [map_snoc_len]; rfl
        · show xs.length - (k + 1 : Int).toNat < xs.length - (k : Int).toNat
          omega
      · have hkm2 : k = m := by omega
        have hs : xs.getD k nul = s := by
          rcases hm with hm | hm
          · omega
          · rw [hkm2]; exact hm.2
        (repeat' (first | apply cw_seq | apply cw_region | apply wl_nil | apply cw_block | apply cw_skip | apply cw_exit | apply cw_ret | (apply x_geS; exact rfl; exact rfl; exact rfl; exact rfl) | (apply x_buildSlice0; assumption; exact rfl; exact rfl; exact rfl; intro _ _ _ _ _) | (apply x_append1; assumption; exact rfl; exact rfl; exact rfl; exact rfl; exact rfl; (exact (by repeat' constructor)); (exact (by repeat' constructor)); exact rfl; exact rfl; exact rfl; (first | assumption | omega | (simp; omega)); intro _ _ _ _) | (apply x_not; exact rfl; exact rfl) | (apply x_move; exact rfl; exact rfl; (exact (by repeat' constructor))) | (apply x_assign; exact rfl; exact rfl; (exact (by repeat' constructor))) | (apply x_load; assumption; exact rfl; exact rfl; exact rfl; (exact (by repeat' constructor)); exact rfl; exact rfl; (exact (by repeat' constructor))) | (apply x_neStr; exact rfl; exact rfl; exact rfl; exact rfl) | (apply x_neAgg; exact rfl; exact rfl; exact rfl; exact rfl; (first | with_reducible exact flat_Limits | with_reducible exact flat_Dimension | with_reducible exact flat_Limits | with_reducible exact flat_Limits | with_reducible exact flat_at | with_reducible exact flat_take | with_reducible exact flat_set | with_reducible exact flat_get | with_reducible exact flat_single | with_reducible exact flat_Spot | with_reducible exact flat_Datum | with_reducible exact flat_Spot | with_reducible exact flat_step | with_reducible exact flat_Point); exact rfl; kernel_rfl; exact rfl) | (apply x_bin; exact rfl; exact rfl; exact rfl; (first | exact .z (.wrap (by omega)) | exact (by repeat' constructor))) | (apply x_pick; exact rfl; exact rfl; exact rfl; (exact (by repeat' constructor))) | (apply x_un; exact rfl; exact rfl; exact rfl; (first | exact .z (.wrap (by omega)) | exact (by repeat' constructor))) | (apply x_builtin; exact rfl; exact rfl; exact (fun _ => rfl); (exact (by repeat' constructor))) | (apply x_buildSlice; assumption; exact rfl; exact rfl; exact rfl; (exact (by repeat' constructor)); intro _ _ _) | (apply x_loadB; assumption; exact rfl; exact rfl; exact rfl; assumption; exact rfl; exact rfl; (exact (by repeat' constructor))) | (apply x_index; exact rfl; exact rfl; exact rfl; exact rfl; exact rfl; (constructor); (first | omega | exact size_pos (by assumption) | assumption); (first | exact rfl | assumption | exact Rd.some_ (by assumption) (by omega) | exact Rd.some_ (Old.rd (by assumption)) (by omega) | exact (Sat.rd (by assumption) (by exact (by repeat' constructor))).some_ (by omega))) | (apply x_indexArrB; exact rfl; exact rfl; exact rfl; exact rfl; exact rfl; decide; decide; (constructor)) | (apply x_loadR; exact rfl; exact rfl; exact rfl; (first | exact Old.now (by assumption) (by assumption) | exact Sat.rdpr (by assumption) (by exact (by repeat' constructor)) | exact Sat.rd (by assumption) (by exact (by repeat' constructor))); (first | omega | exact size_pos (by assumption) | assumption); exact rfl; exact rfl; (exact (by repeat' constructor))) | (apply cw_true; exact rfl) | (apply cw_false; exact rfl) | (apply x_ndec; exact rfl; with_reducible exact rfl; all_goals (intro _; try omega)) | (apply x_dec; exact rfl; all_goals (intro _; try omega)) | (apply cw_ne; exact rfl; all_goals (intro _; try omega)) | (apply cw_eq; exact rfl; all_goals (intro _; try omega)) | (apply cw_not; exact rfl; all_goals (intro _; try omega)) | (apply cw_cond; exact rfl; all_goals (intro _; try omega)) | (apply x_gndec; exact rfl; exact rfl; with_reducible exact rfl; all_goals (intro _; try omega)) | (apply x_gdec; exact rfl; exact rfl; all_goals (intro _; try omega)) | (apply x_gne; exact rfl; exact rfl; all_goals (intro _; try omega)) | (apply x_geq; exact rfl; exact rfl; all_goals (intro _; try omega)) | (apply x_gnot; exact rfl; exact rfl; all_goals (intro _; try omega)) | (apply x_gsplit; exact rfl; exact rfl; all_goals (intro _; try omega))))
        all_goals first
          | (exfalso; simp_all [sl_irr]; done)
          | skip
        rename_i g1 cap1 w2 S2 _
        refine ⟨rfl, (by repeat (first | exact Agree.updl rfl (Agree.mask _ _ _) | refine Agree.upd rfl ?_)), ⟨k + 1, zs ++ [s], true, some ⟨g1, 0, none⟩, cap1, ?_, hlk, .inr ⟨by omega, by omega, by rw [h2, hkm2], rfl⟩, put_step S2.drop1⟩, ?_⟩
        · rw [map_snoc_len]; rfl
        · show xs.length - (k + 1 : Int).toNat < xs.length - (k : Int).toNat
          omega
    · omega
  · rcases hI with ⟨h1, h2, rfl⟩ | ⟨h1, h2, h3, rfl⟩
    · have e : zs = xs.take m := by rw [h2, show k = m by omega]
      (repeat' (first | apply cw_seq | apply cw_region | apply wl_nil | apply cw_block | apply cw_skip | apply cw_exit | apply cw_ret | (apply x_buildSlice0; assumption; exact rfl; exact rfl; exact rfl; intro _ _ _ _ _) | (apply x_append1; assumption; exact rfl; exact rfl; exact rfl; exact rfl; exact rfl; (exact (by repeat' constructor)); (exact (by repeat' constructor)); exact rfl; exact rfl; exact rfl; (first | assumption | omega | (simp; omega)); intro _ _ _ _) | (apply x_not; exact rfl; exact rfl) | (apply x_move; exact rfl; exact rfl; (exact (by repeat' constructor))) | (apply x_assign; exact rfl; exact rfl; (exact (by repeat' constructor))) | (apply x_load; assumption; exact rfl; exact rfl; exact rfl; (exact (by repeat' constructor)); exact rfl; exact rfl; (exact (by repeat' constructor))) | (apply x_neStr; exact rfl; exact rfl; exact rfl; exact rfl) | (apply x_neAgg; exact rfl; exact rfl; exact rfl; exact rfl; (first | with_reducible exact flat_Limits | with_reducible exact flat_Dimension | with_reducible exact flat_Limits | with_reducible exact flat_Limits | with_reducible exact flat_at | with_reducible exact flat_take | with_reducible exact flat_set | with_reducible exact flat_get | with_reducible exact flat_single | with_reducible exact flat_Spot | with_reducible exact flat_Datum | with_reducible exact flat_Spot | with_reducible exact flat_step | with_reducible exact flat_Point); exact rfl; kernel_rfl; exact rfl) | (apply x_bin; exact rfl; exact rfl; exact rfl; (first | exact .z (.wrap (by omega)) | exact (by repeat' constructor))) | (apply x_pick; exact rfl; exact rfl; exact rfl; (exact (by repeat' constructor))) | (apply x_un; exact rfl; exact rfl; exact rfl; (first | exact .z (.wrap (by omega)) | exact (by repeat' constructor))) | (apply x_builtin; exact rfl; exact rfl; exact (fun _ => rfl); (exact (by repeat' constructor))) | (apply x_buildSlice; assumption; exact rfl; exact rfl; exact rfl; (exact (by repeat' constructor)); intro _ _ _) | (apply x_loadB; assumption; exact rfl; exact rfl; exact rfl; assumption; exact rfl; exact rfl; (exact (by repeat' constructor))) | (apply x_index; exact rfl; exact rfl; exact rfl; exact rfl; exact rfl; (constructor); (first | omega | exact size_pos (by assumption) | assumption); (first | exact rfl | assumption | exact Rd.some_ (by assumption) (by omega) | exact Rd.some_ (Old.rd (by assumption)) (by omega) | exact (Sat.rd (by assumption) (by exact (by repeat' constructor))).some_ (by omega))) | (apply x_indexArrB; exact rfl; exact rfl; exact rfl; exact rfl; exact rfl; decide; decide; (constructor)) | (apply x_loadR; exact rfl; exact rfl; exact rfl; (first | exact Old.now (by assumption) (by assumption) | exact Sat.rdpr (by assumption) (by exact (by repeat' constructor)) | exact Sat.rd (by assumption) (by exact (by repeat' constructor))); (first | omega | exact size_pos (by assumption) | assumption); exact rfl; exact rfl; (exact (by repeat' constructor))) | (apply cw_true; exact rfl) | (apply cw_false; exact rfl) | (apply x_ndec; exact rfl; with_reducible exact rfl; all_goals (intro _; try omega)) | (apply x_dec; exact rfl; all_goals (intro _; try omega)) | (apply cw_ne; exact rfl; all_goals (intro _; try omega)) | (apply cw_eq; exact rfl; all_goals (intro _; try omega)) | (apply cw_not; exact rfl; all_goals (intro _; try omega)) | (apply cw_cond; exact rfl; all_goals (intro _; try omega)) | (apply x_gndec; exact rfl; exact rfl; with_reducible exact rfl; all_goals (intro _; try omega)) | (apply x_gdec; exact rfl; exact rfl; all_goals (intro _; try omega)) | (apply x_gne; exact rfl; exact rfl; all_goals (intro _; try omega)) | (apply x_geq; exact rfl; exact rfl; all_goals (intro _; try omega)) | (apply x_gnot; exact rfl; exact rfl; all_goals (intro _; try omega)) | (apply x_gsplit; exact rfl; exact rfl; all_goals (intro _; try omega))))
      rename_i g1 cap1 w2 S2
      (first | refine q_retS (by assumption) rfl (by repeat (first | exact .nil | (apply RV.tmp; exact (by repeat' constructor)) | (apply RV.cell; exact rfl; exact (by repeat' constructor); exact rfl; exact rfl; exact (by repeat' constructor)))) ?_ | (simp only [thenQ, blockQ]; refine q_retS (by assumption) rfl (by repeat (first | exact .nil | (apply RV.tmp; exact (by repeat' constructor)) | (apply RV.cell; exact rfl; exact (by repeat' constructor); exact rfl; exact rfl; exact (by repeat' constructor)))) ?_))
      rw [← e]
      refine rowR_n (V := fun v => v) (by simp) S2.drop1 ?_
      show Has _ (.rw 0 _ _ _ ((zs ++ [s]).map strC))
      rw [List.map_append]
      exact (by repeat' constructor)
    · (repeat' (first | apply cw_seq | apply cw_region | apply wl_nil | apply cw_block | apply cw_skip | apply cw_exit | apply cw_ret | (apply x_buildSlice0; assumption; exact rfl; exact rfl; exact rfl; intro _ _ _ _ _) | (apply x_append1; assumption; exact rfl; exact rfl; exact rfl; exact rfl; exact rfl; (exact (by repeat' constructor)); (exact (by repeat' constructor)); exact rfl; exact rfl; exact rfl; (first | assumption | omega | (simp; omega)); intro _ _ _ _) | (apply x_not; exact rfl; exact rfl) | (apply x_move; exact rfl; exact rfl; (exact (by repeat' constructor))) | (apply x_assign; exact rfl; exact rfl; (exact (by repeat' constructor))) | (apply x_load; assumption; exact rfl; exact rfl; exact rfl; (exact (by repeat' constructor)); exact rfl; exact rfl; (exact (by repeat' constructor))) | (apply x_neStr; exact rfl; exact rfl; exact rfl; exact rfl) | (apply x_neAgg; exact rfl; exact rfl; exact rfl; exact rfl; (first | with_reducible exact flat_Limits | with_reducible exact flat_Dimension | with_reducible exact flat_Limits | with_reducible exact flat_Limits | with_reducible exact flat_at | with_reducible exact flat_take | with_reducible exact flat_set | with_reducible exact flat_get | with_reducible exact flat_single | with_reducible exact flat_Spot | with_reducible exact flat_Datum | with_reducible exact flat_Spot | with_reducible exact flat_step | with_reducible exact flat_Point); exact rfl; kernel_rfl; exact rfl) | (apply x_bin; exact rfl; exact rfl; exact rfl; (first | exact .z (.wrap (by omega)) | exact (by repeat' constructor))) | (apply x_pick; exact rfl; exact rfl; exact rfl; (exact (by repeat' constructor))) | (apply x_un; exact rfl; exact rfl; exact rfl; (first | exact .z (.wrap (by omega)) | exact (by repeat' constructor))) | (apply x_builtin; exact rfl; exact rfl; exact (fun _ => rfl); (exact (by repeat' constructor))) | (apply x_buildSlice; assumption; exact rfl; exact rfl; exact rfl; (exact (by repeat' constructor)); intro _ _ _) | (apply x_loadB; assumption; exact rfl; exact rfl; exact rfl; assumption; exact rfl; exact rfl; (exact (by repeat' constructor))) | (apply x_index; exact rfl; exact rfl; exact rfl; exact rfl; exact rfl; (constructor); (first | omega | exact size_pos (by assumption) | assumption); (first | exact rfl | assumption | exact Rd.some_ (by assumption) (by omega) | exact Rd.some_ (Old.rd (by assumption)) (by omega) | exact (Sat.rd (by assumption) (by exact (by repeat' constructor))).some_ (by omega))) | (apply x_indexArrB; exact rfl; exact rfl; exact rfl; exact rfl; exact rfl; decide; decide; (constructor)) | (apply x_loadR; exact rfl; exact rfl; exact rfl; (first | exact Old.now (by assumption) (by assumption) | exact Sat.rdpr (by assumption) (by exact (by repeat' constructor)) | exact Sat.rd (by assumption) (by exact (by repeat' constructor))); (first | omega | exact size_pos (by assumption) | assumption); exact rfl; exact rfl; (exact (by repeat' constructor))) | (apply cw_true; exact rfl) | (apply cw_false; exact rfl) | (apply x_ndec; exact rfl; with_reducible exact rfl; all_goals (intro _; try omega)) | (apply x_dec; exact rfl; all_goals (intro _; try omega)) | (apply cw_ne; exact rfl; all_goals (intro _; try omega)) | (apply cw_eq; exact rfl; all_goals (intro _; try omega)) | (apply cw_not; exact rfl; all_goals (intro _; try omega)) | (apply cw_cond; exact rfl; all_goals (intro _; try omega)) | (apply x_gndec; exact rfl; exact rfl; with_reducible exact rfl; all_goals (intro _; try omega)) | (apply x_gdec; exact rfl; exact rfl; all_goals (intro _; try omega)) | (apply x_gne; exact rfl; exact rfl; all_goals (intro _; try omega)) | (apply x_geq; exact rfl; exact rfl; all_goals (intro _; try omega)) | (apply x_gnot; exact rfl; exact rfl; all_goals (intro _; try omega)) | (apply x_gsplit; exact rfl; exact rfl; all_goals (intro _; try omega))))
      (first | refine q_retS (by assumption) rfl (by repeat (first | exact .nil | (apply RV.tmp; exact (by repeat' constructor)) | (apply RV.cell; exact rfl; exact (by repeat' constructor); exact rfl; exact rfl; exact (by repeat' constructor)))) ?_ | (simp only [thenQ, blockQ]; refine q_retS (by assumption) rfl (by repeat (first | exact .nil | (apply RV.tmp; exact (by repeat' constructor)) | (apply RV.cell; exact rfl; exact (by repeat' constructor); exact rfl; exact rfl; exact (by repeat' constructor)))) ?_))
      rw [← h3]
      exact rowR_xs (V := fun v => v) Sr .head
/-! ### names in order, without doubles -/
theorem cmpTo_congr {a b : List ByteArray} : ∀ k : Nat, (∀ j, j < k → sat a j = sat b j) → cmpTo a k = cmpTo b k
  | 0, _ => rfl
  | 1, h => by rw [cmpTo_one, cmpTo_one, h 0 (by omega)]
  | k + 2, h => by
    have ih := cmpTo_congr (k + 1) (fun j hj => h j (by omega))
    by_cases he : sat a (k + 1) = sat a k
    · rw [cmpTo_yes he, cmpTo_yes (by rw [← h k (by omega), ← h (k + 1) (by omega), he]), ih]
    · rw [cmpTo_no he, cmpTo_no (by rw [← h k (by omega), ← h (k + 1) (by omega)]; exact he), ih, h (k + 1) (by omega)]
theorem cmp_asc {ds : List ByteArray} (ha : ds.Pairwise (fun a b => sl b a = false)) : ∀ k, k ≤ ds.length → (cmpTo ds k).Pairwise (fun a b => sl a b = true) ∧ (0 < k → ∃ r, cmpTo ds k = r ++ [sat ds (k - 1)])
  | 0, _ => ⟨List.Pairwise.nil, fun h => by omega⟩
  | 1, _ => ⟨by rw [cmpTo_one]; simp, fun _ => ⟨[], by rw [cmpTo_one]; rfl⟩⟩
  | k + 2, hk => by
    obtain ⟨h1, h2⟩ := cmp_asc ha (k + 1) (by omega)
    obtain ⟨r, hr⟩ := h2 (by omega)
    rw [Nat.add_sub_cancel] at hr
    by_cases he : sat ds (k + 1) = sat ds k
    · rw [cmpTo_yes he]
      exact ⟨h1, fun _ => ⟨r, by rw [hr, show k + 2 - 1 = k + 1 from rfl, he]⟩⟩
    · rw [cmpTo_no he]
      have hle : sl (sat ds (k + 1)) (sat ds k) = false := by
        have := List.pairwise_iff_getElem.1 ha k (k + 1) (by omega) (by omega) (by omega)
        simpa [List.getD_eq_getElem?_getD, show k < ds.length by omega, show k + 1 < ds.length by omega] using this
      have hlt : sl (sat ds k) (sat ds (k + 1)) = true := by
        cases hb : sl (sat ds k) (sat ds (k + 1)) with
        | true => rfl
        | false => exact absurd (sl_tri hle hb) he
      refine ⟨?_, fun _ => ⟨cmpTo ds (k + 1), rfl⟩⟩
      rw [List.pairwise_append]
      refine ⟨h1, by simp, fun a ham b hb => ?_⟩
      simp at hb
      subst hb
      rw [hr] at ham h1
      rcases List.mem_append.1 ham with ham | ham
      · exact sl_trans ((List.pairwise_append.1 h1).2.2 a ham _ (by simp)) hlt
      · simp at ham; subst ham; exact hlt
/-- what Put needs where names ascend -/
theorem put_need {ds : List ByteArray} {s : ByteArray} (ha : ds.Pairwise (fun a b => sl b a = false)) (hs : ∀ d ∈ ds, sl s d = false) :
    ∃ m, (∀ j, j < m → sl ((cmpTo ds ds.length).getD j nul) s = true) ∧ (m = (cmpTo ds ds.length).length ∨ m + 1 = (cmpTo ds ds.length).length ∧ (cmpTo ds ds.length).getD m nul = s) ∧ (cmpTo ds ds.length).take m ++ [s] = cmpTo (ds ++ [s]) (ds.length + 1) := by
  obtain ⟨h1, h2⟩ := cmp_asc ha ds.length (Nat.le_refl _)
  have hcg : cmpTo (ds ++ [s]) ds.length = cmpTo ds ds.length := cmpTo_congr _ fun j hj => by simp [List.getD_eq_getElem?_getD, List.getElem?_append_left hj]
  have hlast : sat (ds ++ [s]) ds.length = s := by simp [List.getD_eq_getElem?_getD]
  rcases Nat.eq_zero_or_pos ds.length with h0 | h0
  · have e : ds = [] := List.length_eq_zero_iff.1 h0
    subst e
    exact ⟨0, fun j hj => by omega, .inl rfl, by rw [List.nil_append, List.length_nil, cmpTo_one]; rfl⟩
  · obtain ⟨r, hr⟩ := h2 h0
    obtain ⟨n, hn⟩ : ∃ n, ds.length = n + 1 := ⟨ds.length - 1, by omega⟩
    rw [hn] at hr hcg hlast ⊢
    rw [hn] at h1
    rw [Nat.add_sub_cancel] at hr
    have hprev : sat (ds ++ [s]) n = sat ds n := by simp [List.getD_eq_getElem?_getD, List.getElem?_append_left (show n < ds.length by omega)]
    by_cases he : s = sat ds n
    · refine ⟨r.length, fun j hj => ?_, .inr ⟨by rw [hr]; simp, by rw [hr]; simp [List.getD_eq_getElem?_getD, he]⟩, ?_⟩
      · rw [hr] at h1 ⊢
        have hm : (r ++ [sat ds n]).getD j nul ∈ r := by
          simp [List.getD_eq_getElem?_getD, List.getElem?_append_left hj, hj]
        have := (List.pairwise_append.1 h1).2.2 _ hm (sat ds n) (by simp)
        rw [he]
        exact this
      · rw [cmpTo_yes (by rw [hlast, hprev, he]), hcg, hr, List.take_append_of_le_length (Nat.le_refl _), List.take_length, ← he]
    · have hlt : sl (sat ds n) s = true := by
        have hm : sat ds n ∈ ds := getD_mem nul (by omega)
        cases hb : sl (sat ds n) s with
        | true => rfl
        | false => exact absurd (sl_tri (hs _ hm) hb) he
      refine ⟨(cmpTo ds (n + 1)).length, fun j hj => ?_, .inl rfl, ?_⟩
      · have hm := getD_mem nul hj
        rw [hr] at h1 hm ⊢
        rcases List.mem_append.1 hm with hm | hm
        · exact sl_trans ((List.pairwise_append.1 h1).2.2 _ hm _ (by simp)) hlt
        · simp only [List.mem_singleton] at hm; rw [hm]; exact hlt
      · rw [cmpTo_no (by rw [hlast, hprev]; exact he), hcg, List.take_length, hlast]
theorem dueUp_asc {l : List Rc} (h : Right l) {day : Int} : ∀ k, k ≤ l.length → (dueUp l day k).Pairwise (fun a b => sl b a = false) ∧ ∀ d ∈ dueUp l day k, ∃ i, i < k ∧ (rat l i).nm = d
  | 0, _ => ⟨List.Pairwise.nil, fun d hd => by simp [dueUp] at hd⟩
  | k + 1, hk => by
    obtain ⟨h1, h2⟩ := dueUp_asc h (day := day) k (by omega)
    by_cases hp : (place l (rat l k).nm day).2 = 0
    · rw [dueUp_no hp]
      exact ⟨h1, fun d hd => by obtain ⟨i, hi, e⟩ := h2 d hd; exact ⟨i, by omega, e⟩⟩
    · rw [dueUp_yes hp]
      refine ⟨?_, fun d hd => ?_⟩
      · rw [List.pairwise_append]
        refine ⟨h1, by simp, fun a ha b hb => ?_⟩
        simp at hb
        subst hb
        obtain ⟨i, hi, rfl⟩ := h2 a ha
        exact (h.mono hi (by omega)).1
      · rcases List.mem_append.1 hd with hd | hd
        · obtain ⟨i, hi, e⟩ := h2 d hd; exact ⟨i, by omega, e⟩
        · simp at hd; exact ⟨k, by omega, hd.symm⟩
/-- the names without a valid record, of the first k records, without doubles -/
noncomputable def dueK (l : List Rc) (day : Int) (k : Nat) : List ByteArray := cmpTo (dueUp l day k) (dueUp l day k).length
theorem cmpTo_len (l : List ByteArray) : ∀ k, (cmpTo l k).length ≤ k
  | 0 => by simp [cmpTo]
  | k + 1 => by
    have := cmpTo_len l k
    unfold cmpTo
    split
    · omega
    · simp; omega
theorem dueK_yes {l : List Rc} (h : Right l) {day : Int} {k : Nat} (hk : k < l.length) (hp : ¬ (place l (rat l k).nm day).2 = 0) :
    ∃ m, (∀ j, j < m → sl ((dueK l day k).getD j nul) (rat l k).nm = true) ∧ (m = (dueK l day k).length ∨ m + 1 = (dueK l day k).length ∧ (dueK l day k).getD m nul = (rat l k).nm) ∧ (dueK l day k).take m ++ [(rat l k).nm] = dueK l day (k + 1) := by
  obtain ⟨h1, h2⟩ := dueUp_asc h (day := day) k (by omega)
  obtain ⟨m, a, b, c⟩ := put_need (s := (rat l k).nm) h1 (fun d hd => by obtain ⟨i, hi, rfl⟩ := h2 d hd; exact (h.mono hi hk).1)
  refine ⟨m, a, b, ?_⟩
  unfold dueK
  rw [dueUp_yes hp, List.length_append, List.length_singleton]
  exact c
theorem dueK_no {l : List Rc} {day : Int} {k : Nat} (hp : (place l (rat l k).nm day).2 = 0) : dueK l day (k + 1) = dueK l day k := by unfold dueK; rw [dueUp_no hp]
theorem rPlace_at {l : List Rc} (A : Option Addr) (c : Nat) (hl : l.length ≤ 9223372036854775807) (ho : ∀ i, i < l.length → (rat l i).ok) (day : Int) (k : Nat) {p : Nat × Int} (hp : place l (rat l k).nm day = p) (w : World) (R : Rd w A 6 l.length (fun i => rcC (l.getD i rc0))) :
    Calls Try.prog 42 #[.slice A l.length c, .string (l.getD k rc0).nm, .int .i64 day] w (RetP (Val (.tuple #[.int .i64 (p.1 : Int), .int .i64 p.2]) w)) := by
  subst hp
  exact rPlace_c A c l hl ho _ day w R
theorem rPut_at {l : List Rc} (h : Right l) {day : Int} {k : Nat} (hk : k < l.length) (hp : ¬ (place l (rat l k).nm day).2 = 0) (A : Option Addr) (c : Nat) (w : World) (R : Rd w A 1 (dueK l day k).length (fun i => strC ((dueK l day k).getD i nul))) :
    Calls Try.prog 48 #[.slice A (dueK l day k).length c, .string (l.getD k rc0).nm] w (RetP (RowR (fun v => v) 9 1 ((dueK l day (k + 1)).map strC) w)) := by
  obtain ⟨m, a, b, e⟩ := dueK_yes h hk hp
  have h1 := cmpTo_len (dueUp l day k) (dueUp l day k).length
  have h2 := dueUp_len l day k
  have h3 := h.1
  rw [← e]
  exact rPut_c A c (dueK l day k) (by unfold dueK; omega) (rat l k).nm m a b w R
set_option maxRecDepth 100000 in
theorem e_rDue : Ent Try.prog 21 := fun _ _ => rfl
set_option maxRecDepth 4000 in
set_option maxHeartbeats 2000000 in
theorem rDue_c (A : Option Addr) (c : Nat) (l : List Rc) (hl : l.length ≤ 9223372036854775807) (ho : ∀ i, i < l.length → (rat l i).ok) (day : Int) (w : World) (R : Rd w A 6 l.length (fun i => rcC (l.getD i rc0))) : Calls Try.prog 21 #[.slice A l.length c, .int .i64 day] w (RetP (RowR (fun v => .tuple #[v, .int .i64 (dueL l day).2]) 9 1 ((dueL l day).1.map strC) w)) := by
  refine calls_of_cw (args := [.slice A l.length c, .int .i64 day]) Try.func21 rfl rfl ?_
  have S := Sat.start [] w
  have O := (R).old
  (repeat' (first | apply cw_seq | apply cw_region | apply wl_nil | apply cw_block | apply cw_skip | apply cw_exit | apply cw_ret | (apply x_callv; assumption; exact rfl; exact rfl; exact rfl; exact e_rgiven; (exact (by repeat' constructor)); with_reducible exact (rgiven_c A c l hl ho day _ (Old.now O (by assumption))); intro _ _ _) | (apply z1_callv; exact rfl; exact rfl; exact e_rgiven; (exact (by repeat' constructor)); with_reducible exact (fun _ _ => rgiven_c A c l hl ho day _ (Old.now O (by assumption)))) | (apply z2_callv; exact rfl; exact rfl; exact e_rgiven; (exact (by repeat' constructor)); with_reducible exact (fun _ _ => rgiven_c A c l hl ho day _ (Old.now O (by assumption)))) | (apply x_move; exact rfl; exact rfl; (exact (by repeat' constructor))) | (apply x_assign; exact rfl; exact rfl; (exact (by repeat' constructor))) | (apply x_fieldB; exact rfl; exact rfl; exact rfl; exact rfl; (constructor)) | (apply x_load; assumption; exact rfl; exact rfl; exact rfl; (exact (by repeat' constructor)); exact rfl; exact rfl; (exact (by repeat' constructor))) | (apply x_neStr; exact rfl; exact rfl; exact rfl; exact rfl) | (apply x_bin; exact rfl; exact rfl; exact rfl; (first | exact .z (.wrap (by omega)) | exact (by repeat' constructor))) | (apply x_extract; exact rfl; exact rfl; exact rfl; (exact (by repeat' constructor))) | (apply x_builtin; exact rfl; exact rfl; exact (fun _ => rfl); (exact (by repeat' constructor))) | (apply x_fieldE; exact rfl; exact rfl; exact rfl; exact rfl; (constructor)) | (apply x_loadB; assumption; exact rfl; exact rfl; exact rfl; assumption; exact rfl; exact rfl; (exact (by repeat' constructor))) | (apply x_index; exact rfl; exact rfl; exact rfl; exact rfl; exact rfl; (constructor); (first | omega | exact size_pos (by assumption) | assumption); (first | exact rfl | assumption | exact Rd.some_ (by assumption) (by omega) | exact Rd.some_ (Old.rd (by assumption)) (by omega) | exact (Sat.rd (by assumption) (by exact (by repeat' constructor))).some_ (by omega))) | (apply x_indexArrB; exact rfl; exact rfl; exact rfl; exact rfl; exact rfl; decide; decide; (constructor)) | (apply x_loadR; exact rfl; exact rfl; exact rfl; (first | exact Old.now (by assumption) (by assumption) | exact Sat.rdpr (by assumption) (by exact (by repeat' constructor)) | exact Sat.rd (by assumption) (by exact (by repeat' constructor))); (first | omega | exact size_pos (by assumption) | assumption); exact rfl; exact rfl; (exact (by repeat' constructor))) | (apply cw_true; exact rfl) | (apply cw_false; exact rfl) | (apply x_ndec; exact rfl; with_reducible exact rfl; all_goals (intro _; try omega)) | (apply x_dec; exact rfl; all_goals (intro _; try omega)) | (apply cw_ne; exact rfl; all_goals (intro _; try omega)) | (apply cw_eq; exact rfl; all_goals (intro _; try omega)) | (apply cw_not; exact rfl; all_goals (intro _; try omega)) | (apply cw_cond; exact rfl; all_goals (intro _; try omega))))
  · (first | refine q_retS (by assumption) rfl (by repeat (first | exact .nil | (apply RV.tmp; exact (by repeat' constructor)) | (apply RV.cell; exact rfl; exact (by repeat' constructor); exact rfl; exact rfl; exact (by repeat' constructor)))) ?_ | (simp only [thenQ, blockQ]; refine q_retS (by assumption) rfl (by repeat (first | exact .nil | (apply RV.tmp; exact (by repeat' constructor)) | (apply RV.cell; exact rfl; exact (by repeat' constructor); exact rfl; exact rfl; exact (by repeat' constructor)))) ?_))
    have hg : ¬ givE l day = 0 := by assumption
    have e : dueL l day = ([], givE l day) := by
      unfold dueL givE at *
      by_cases h1 : ckE l = 0
      · simp only [h1, not_true_eq_false, if_false] at hg ⊢; rw [if_pos hg]
      · rw [if_pos h1, if_pos h1]
    rw [e]
    exact rowR_nil (V := fun v => .tuple #[v, .int .i64 (givE l day)]) rfl (Sat.keeps (by assumption))
  rename_i w1 _ S1 h0
  have hg : givE l day = 0 := by simpa using h0
  have hck := (VaR_p (name := nul) hg).1
  have hr := ckE0 hck
  have hl2 := hr.1
  have e : dueL l day = (dueK l day l.length, 0) := by
    unfold dueL givE at *
    simp only [hck, not_true_eq_false, if_false] at hg ⊢
    rw [if_neg (fun e => e hg)]
    rfl
  rw [e]
  refine cw_loop [7, 8, 9, 10, 17, 18, 19, 20, 21, 22, 23, 24, 25, 26, 27, 28, 29, 30, 31, 32, 33, 34, 35, 36, 37, 38, 39, 40, 41, 42] [8, 7] (fun us wr => ∃ (k : Nat) (A' : Option Addr) (c' : Nat), k ≤ l.length ∧ us = [.int .i64 k, .slice A' (dueK l day k).length c'] ∧ Sat w [] (.rw 0 (.slice A' (dueK l day k).length c') 9 1 ((dueK l day k).map strC) :: []) wr) (fun us _ => l.length - (intOf (us.getD 0 undef)).toNat) ?_ ?_
  · exact ⟨0, none, 0, by omega, rfl, S1.addNil _ _⟩
  clear S1 S
  rintro g' us wr ⟨k, A', c', hk, rfl, Sr⟩
  by_cases hlt : k < l.length
  · obtain ⟨p, hp⟩ : ∃ p, place l (rat l k).nm day = p := ⟨_, rfl⟩
    have hp2 : (place l (rat l k).nm day).2 = p.2 := by rw [hp]
    (repeat' (first | apply cw_seq | apply cw_region | apply wl_nil | apply cw_block | apply cw_skip | apply cw_exit | apply cw_ret | (apply x_callv; assumption; exact rfl; exact rfl; exact rfl; exact e_rPlace; (exact (by repeat' constructor)); with_reducible exact (rPlace_at A c hl ho day k hp _ (Old.now O (by assumption))); intro _ _ _) | (apply z1_callv; exact rfl; exact rfl; exact e_rPlace; (exact (by repeat' constructor)); with_reducible exact (fun _ _ => rPlace_at A c hl ho day k hp _ (Old.now O (by assumption)))) | (apply z2_callv; exact rfl; exact rfl; exact e_rPlace; (exact (by repeat' constructor)); with_reducible exact (fun _ _ => rPlace_at A c hl ho day k hp _ (Old.now O (by assumption)))) | (apply x_callrowE (m := (dueK l day (k + 1)).length); assumption; exact rfl; exact rfl; exact rfl; exact e_rPut; (exact (by repeat' constructor)); exact (rPut_at hr hlt (by rw [hp2]; assumption) _ _ _ (Sat.rdmapN nul (by assumption) (by exact (by repeat' constructor)) rfl)); exact (List.length_map _); intro _ _ _ _) | (apply x_move; exact rfl; exact rfl; (exact (by repeat' constructor))) | (apply x_assign; exact rfl; exact rfl; (exact (by repeat' constructor))) | (apply x_fieldB; exact rfl; exact rfl; exact rfl; exact rfl; (constructor)) | (apply x_load; assumption; exact rfl; exact rfl; exact rfl; (exact (by repeat' constructor)); exact rfl; exact rfl; (exact (by repeat' constructor))) | (apply x_neStr; exact rfl; exact rfl; exact rfl; exact rfl) | (apply x_bin; exact rfl; exact rfl; exact rfl; (first | exact .z (.wrap (by omega)) | exact (by repeat' constructor))) | (apply x_extract; exact rfl; exact rfl; exact rfl; (exact (by repeat' constructor))) | (apply x_builtin; exact rfl; exact rfl; exact (fun _ => rfl); (exact (by repeat' constructor))) | (apply x_fieldE; exact rfl; exact rfl; exact rfl; exact rfl; (constructor)) | (apply x_loadB; assumption; exact rfl; exact rfl; exact rfl; assumption; exact rfl; exact rfl; (exact (by repeat' constructor))) | (apply x_index; exact rfl; exact rfl; exact rfl; exact rfl; exact rfl; (constructor); (first | omega | exact size_pos (by assumption) | assumption); (first | exact rfl | assumption | exact Rd.some_ (by assumption) (by omega) | exact Rd.some_ (Old.rd (by assumption)) (by omega) | exact (Sat.rd (by assumption) (by exact (by repeat' constructor))).some_ (by omega))) | (apply x_indexArrB; exact rfl; exact rfl; exact rfl; exact rfl; exact rfl; decide; decide; (constructor)) | (apply x_loadR; exact rfl; exact rfl; exact rfl; (first | exact Old.now (by assumption) (by assumption) | exact Sat.rdpr (by assumption) (by exact (by repeat' constructor)) | exact Sat.rd (by assumption) (by exact (by repeat' constructor))); (first | omega | exact size_pos (by assumption) | assumption); exact rfl; exact rfl; (exact (by repeat' constructor))) | (apply cw_true; exact rfl) | (apply cw_false; exact rfl) | (apply x_ndec; exact rfl; with_reducible exact rfl; all_goals (intro _; try omega)) | (apply x_dec; exact rfl; all_goals (intro _; try omega)) | (apply cw_ne; exact rfl; all_goals (intro _; try omega)) | (apply cw_eq; exact rfl; all_goals (intro _; try omega)) | (apply cw_not; exact rfl; all_goals (intro _; try omega)) | (apply cw_cond; exact rfl; all_goals (intro _; try omega))))
    · rename_i A2 c2 w2 S2
      refine ⟨rfl, (by repeat (first | exact Agree.updl rfl (Agree.mask _ _ _) | refine Agree.upd rfl ?_)), ⟨k + 1, A2, c2, hlt, rfl, S2.drop [_] (List.Sublist.cons_cons _ (List.nil_sublist _))⟩, ?_⟩
      show l.length - (k + 1 : Int).toNat < l.length - (k : Int).toNat
      omega
    · have e := dueK_no (l := l) (day := day) (k := k) (by rw [hp2]; omega)
      refine ⟨rfl, (by repeat (first | exact Agree.updl rfl (Agree.mask _ _ _) | refine Agree.upd rfl ?_)), ⟨k + 1, A', c', hlt, by rw [e]; rfl, by rw [e]; assumption⟩, ?_⟩
      show l.length - (k + 1 : Int).toNat < l.length - (k : Int).toNat
      omega
  · have e : k = l.length := by omega
    subst e
    (repeat' (first | apply cw_seq | apply cw_region | apply wl_nil | apply cw_block | apply cw_skip | apply cw_exit | apply cw_ret | (apply x_move; exact rfl; exact rfl; (exact (by repeat' constructor))) | (apply x_assign; exact rfl; exact rfl; (exact (by repeat' constructor))) | (apply x_fieldB; exact rfl; exact rfl; exact rfl; exact rfl; (constructor)) | (apply x_load; assumption; exact rfl; exact rfl; exact rfl; (exact (by repeat' constructor)); exact rfl; exact rfl; (exact (by repeat' constructor))) | (apply x_neStr; exact rfl; exact rfl; exact rfl; exact rfl) | (apply x_bin; exact rfl; exact rfl; exact rfl; (first | exact .z (.wrap (by omega)) | exact (by repeat' constructor))) | (apply x_extract; exact rfl; exact rfl; exact rfl; (exact (by repeat' constructor))) | (apply x_builtin; exact rfl; exact rfl; exact (fun _ => rfl); (exact (by repeat' constructor))) | (apply x_fieldE; exact rfl; exact rfl; exact rfl; exact rfl; (constructor)) | (apply x_loadB; assumption; exact rfl; exact rfl; exact rfl; assumption; exact rfl; exact rfl; (exact (by repeat' constructor))) | (apply x_index; exact rfl; exact rfl; exact rfl; exact rfl; exact rfl; (constructor); (first | omega | exact size_pos (by assumption) | assumption); (first | exact rfl | assumption | exact Rd.some_ (by assumption) (by omega) | exact Rd.some_ (Old.rd (by assumption)) (by omega) | exact (Sat.rd (by assumption) (by exact (by repeat' constructor))).some_ (by omega))) | (apply x_indexArrB; exact rfl; exact rfl; exact rfl; exact rfl; exact rfl; decide; decide; (constructor)) | (apply x_loadR; exact rfl; exact rfl; exact rfl; (first | exact Old.now (by assumption) (by assumption) | exact Sat.rdpr (by assumption) (by exact (by repeat' constructor)) | exact Sat.rd (by assumption) (by exact (by repeat' constructor))); (first | omega | exact size_pos (by assumption) | assumption); exact rfl; exact rfl; (exact (by repeat' constructor))) | (apply cw_true; exact rfl) | (apply cw_false; exact rfl) | (apply x_ndec; exact rfl; with_reducible exact rfl; all_goals (intro _; try omega)) | (apply x_dec; exact rfl; all_goals (intro _; try omega)) | (apply cw_ne; exact rfl; all_goals (intro _; try omega)) | (apply cw_eq; exact rfl; all_goals (intro _; try omega)) | (apply cw_not; exact rfl; all_goals (intro _; try omega)) | (apply cw_cond; exact rfl; all_goals (intro _; try omega))))
    (first | refine q_retS (by assumption) rfl (by repeat (first | exact .nil | (apply RV.tmp; exact (by repeat' constructor)) | (apply RV.cell; exact rfl; exact (by repeat' constructor); exact rfl; exact rfl; exact (by repeat' constructor)))) ?_ | (simp only [thenQ, blockQ]; refine q_retS (by assumption) rfl (by repeat (first | exact .nil | (apply RV.tmp; exact (by repeat' constructor)) | (apply RV.cell; exact rfl; exact (by repeat' constructor); exact rfl; exact rfl; exact (by repeat' constructor)))) ?_))
    exact rowR_n (V := fun v => .tuple #[v, .int .i64 0]) (by simp) Sr .head
end Go.Proofs.Ytgfhdddcaiipfaa
