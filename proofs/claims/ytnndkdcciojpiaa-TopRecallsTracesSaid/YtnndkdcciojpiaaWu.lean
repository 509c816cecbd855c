/- Values, chains, broken records and those that are due: the law's walk. No statement of the seat is proved here. -/
import Derived.Test.YtnndkdcciojpiaaWt
namespace Go.Proofs.Ytnndkdcciojpiaa.Rl
set_option linter.unusedVariables false
set_option linter.unusedSimpArgs false
open Go Go.RowKit Go.Maps
theorem cmpTo_le (l : List ByteArray) : ∀ k, (cmpTo l k).length ≤ k
  | 0 => by simp [cmpTo]
  | k + 1 => by
    have := cmpTo_le l k
    by_cases h : 0 < k ∧ sat l k = sat l (k - 1)
    · rw [cmpTo, if_pos h]; omega
    · rw [cmpTo, if_neg h, List.length_append]; simp; omega
section
variable {P : Program} {ro : Option Nat} {n : Nat} {Q : Post} {D : List Deferred} {f : Fm} {w : World}
variable {ops : Array Oper} {rest : List Oper} {d ty : Nat} {ps : String} {af : Array Edge} {gd : Option (Nat × Bool)} {x : Operand}
theorem x_loadN {T : TypeId} {A : Option Addr} {j : Nat} {l : List Nat} {kk : Option Nat} {v : Nat} (hg : want ops f ⟨some d, .load T x, ty, ps, af, gd⟩ = true) (hdn : Nat.blt d n = true)
    (hx : fev f x = .pointer (some (ea A 1 j 0))) (R : Rd w A 1 l.length (fun i => natC (l.getD i 0))) (hj : j < l.length) (hv : l.getD j 0 = v) (hk : ldk P T = some kk) (h0 : ldv kk (natC (l.getD j 0)) 0 = some (.int .i64 ((l.getD j 0 : Nat) : Int)))
    (k : WL P ro n ops Q rest D (upd f d (.int .i64 (v : Int))) w) : WL P ro n ops Q (⟨some d, .load T x, ty, ps, af, gd⟩ :: rest) D f w := by
  subst hv
  exact x_loadR hg hdn hx R hj hk h0 (.z .int) k
end
set_option maxRecDepth 100000 in
theorem e_Traces : Ent Try.prog 5 := fun _ _ => rfl
set_option maxRecDepth 8000 in
set_option maxHeartbeats 16000000 in
theorem lawTraces (t : Sh) (z : Int) (hz : 0 ≤ z ∧ z ≤ 255) (w : World) (ok : t.ok w) : Calls Try.prog 5 #[shV t, .int .u8 z] w (RetP (Val (.bool true) w)) := by
  refine calls_of_cw (args := [.agg #[.slice t.A t.l.length t.cA, .slice t.B t.e.length t.cB, .slice t.C t.s.length t.cC], .int .u8 z]) Try.func5 rfl rfl ?_
  have S := Sat.start [] w
  have OA := ok.R.old
  have hl := ok.hl
  have hd : dayE z = 0 := by unfold dayE; rw [if_pos (by omega)]
  obtain ⟨ds, hds⟩ : ∃ ds, dueC t.l z = ds := ⟨_, rfl⟩
  obtain ⟨bs, hbs⟩ : ∃ bs, brUp t.l t.l.length = bs := ⟨_, rfl⟩
  (repeat' (first | apply cw_seq | apply cw_region | apply wl_nil | apply cw_block | apply cw_skip | apply cw_ret | (apply x_callH (hs := fun _ => []); assumption; exact rfl; exact rfl; exact rfl; exact e_runShift; (exact (by repeat' constructor)); (with_reducible exact runShift_c t _ (ok.now (by assumption))); rintro ⟨b3, hb3⟩ w3 S3; cases b3 <;> replace S3 : Sat w [] _ w3 := S3 <;> first | (have hR := hb3 rfl; have h14 := hR.n) | skip) | (apply x_callv; assumption; exact rfl; exact rfl; exact rfl; exact e_runRecalls; (exact (by repeat' constructor)); (with_reducible exact runRecalls_c _); intro _ _ _) | (apply x_callrowE (m := ds.length); assumption; exact rfl; exact rfl; exact rfl; exact e_kDue; (exact (by repeat' constructor)); (with_reducible refine kDue_w (cs := ds) hl ok.ho ?_ _ ?_); (exact (by rw [dueL_right hR.r hd, hds])); exact Old.now OA (by assumption); exact List.length_map _; intro A1 c1 _ _) | (apply x_callrowE (m := bs.length); assumption; exact rfl; exact rfl; exact rfl; exact e_kBroken; (exact (by repeat' constructor)); (with_reducible refine kBroken_w (cs := bs) hl ok.ho ?_ _ ?_); (exact (by rw [broL_right hR.r, hbs])); exact Old.now OA (by assumption); exact List.length_map _; intro A2 c2 w5 S5) | (apply x_move; exact rfl; exact rfl; (exact (by repeat' constructor))) | (apply x_assign; exact rfl; exact rfl; (exact (by repeat' constructor))) | (apply x_fieldB; exact rfl; exact rfl; exact rfl; exact rfl; (constructor)) | (apply x_load; assumption; exact rfl; exact rfl; exact rfl; (exact (by repeat' constructor)); exact rfl; exact rfl; (exact (by repeat' constructor))) | (apply x_bin; exact rfl; exact rfl; exact rfl; (first | exact .z (.wrap (by omega)) | exact (by repeat' constructor))) | (apply x_un; exact rfl; exact rfl; exact rfl; (first | exact .z (.wrap (by omega)) | exact (by repeat' constructor))) | (apply x_box; assumption; exact rfl; exact rfl; (exact (by repeat' constructor)); (exact (by repeat' constructor)); intro _ _ _) | (apply x_extract; exact rfl; exact rfl; exact rfl; (exact (by repeat' constructor))) | (apply x_conv; exact rfl; exact rfl; exact rfl; (first | exact .z (.wrap (by omega)) | exact (by repeat' constructor))) | (apply x_builtin; exact rfl; exact rfl; exact (fun _ => rfl); (exact (by repeat' constructor))) | (apply cw_true; exact rfl) | (apply cw_false; exact rfl)))
  all_goals first
    | ((first | refine q_retS (by assumption) rfl (by repeat (first | exact .nil | (apply RV.tmp; exact (by repeat' constructor)) | (apply RV.cell; exact rfl; exact (by repeat' constructor); exact rfl; exact rfl; exact (by repeat' constructor)))) ?_ | (simp only [thenQ, blockQ]; refine q_retS (by assumption) rfl (by repeat (first | exact .nil | (apply RV.tmp; exact (by repeat' constructor)) | (apply RV.cell; exact rfl; exact (by repeat' constructor); exact rfl; exact rfl; exact (by repeat' constructor)))) ?_))
       exact ⟨rfl, Sat.keeps (by assumption)⟩)
    | skip
  rename_i b1 _ _ _ _
  replace S5 : Sat w [] [.rw 0 (.slice A2 bs.length c2) 3 1 (bs.map natC), .rw 0 (.slice A1 ds.length c1) 9 1 (ds.map strC), .cl b1 26 [.slice t.A t.l.length t.cA, .slice t.B t.e.length t.cB, .slice t.C t.s.length t.cC]] w5 := S5
  have hrt := ckE0 hR.r
  have hll := hrt.1
  have hdl : ds.length ≤ 9223372036854775807 := by
    have h1 := dueUp_len t.l z t.l.length
    have h2 := cmpTo_le (dueUp t.l z t.l.length) (dueUp t.l z t.l.length).length
    rw [← hds, dueC]; omega
  have hbl : bs.length ≤ 9223372036854775807 := by have := brUp_len t.l t.l.length; rw [← hbs]; omega
  refine cw_loop [4, 10, 11, 12, 13, 14, 15, 16, 18, 44, 45, 46, 47, 48, 49, 50, 51, 52, 53, 54, 55, 56, 57, 58, 59, 60, 61, 62, 63, 64, 65, 66, 67, 68, 69, 70, 71, 72, 73, 74, 75, 76, 77, 78, 79, 80, 81, 82, 83, 84, 85, 86, 87, 88, 89, 90, 91, 92, 93, 94, 95, 96, 97, 98, 99, 100, 101, 102, 103, 104, 105, 106, 107, 108, 109, 110, 111, 112, 113, 114, 115, 116, 117, 118, 119, 120, 121, 122, 123, 124, 125, 126, 127, 128, 129, 130, 131, 132, 133, 134, 135] [44] (fun us wr => ∃ i : Nat, i ≤ t.l.length ∧ us = [.int .i64 i] ∧ Sat w [] [.rw 0 (.slice A2 bs.length c2) 3 1 (bs.map natC), .rw 0 (.slice A1 ds.length c1) 9 1 (ds.map strC), .cl b1 26 [.slice t.A t.l.length t.cA, .slice t.B t.e.length t.cB, .slice t.C t.s.length t.cC]] wr) (fun us _ => t.l.length - (intOf (us.getD 0 undef)).toNat) ?_ ?_
  · exact ⟨0, Nat.zero_le _, rfl, S5⟩
  clear S5 S
  rintro g us wr ⟨i, hi, rfl, Sr⟩
  by_cases hlt : i < t.l.length
  · have hsz := ok.ho i hlt
    obtain ⟨⟨k, f⟩, hva⟩ : ∃ x, VaR t.l (t.l.getD i rc0).nm z = x := ⟨_, rfl⟩
    obtain ⟨⟨⟨vl, vh⟩, e⟩, hvv⟩ : ∃ x, valL t.l (t.l.getD i rc0).nm z 100 = x := ⟨_, rfl⟩
    have hpl : place t.l (t.l.getD i rc0).nm z = (k, f) := by rw [← VaR_right hR.r hd]; exact hva
    have hvb := valL_b (l := t.l) (name := (t.l.getD i rc0).nm) (day := z) (shown := 100)
    have hve := val_e (l := t.l) (name := (t.l.getD i rc0).nm) (day := z)
    rw [hvv] at hvb hve
    replace hvb : (-52000000 ≤ vl ∧ vl ≤ 52000000) ∧ -52000000 ≤ vh ∧ vh ≤ 52000000 := hvb
    replace hve : e = 0 ↔ (chL t.l (t.l.getD i rc0).nm z).2 = 0 := hve
    have hdm := dueC_mem (l := t.l) (day := z) hlt
    rw [hds, show place t.l (rat t.l i).nm z = (k, f) from hpl] at hdm
    by_cases hf : f = 0
    · subst hf
      have hmS : memB (t.l.getD i rc0).nm ds = false := memB_no fun h => hdm.1 h rfl
      have hch : chL t.l (t.l.getD i rc0).nm z = foll t.l (t.l.getD i rc0).nm z := chL_yes (by rw [hva])
      have hfo := foll_own hrt (name := (t.l.getD i rc0).nm) (day := z) (by rw [hpl])
      rw [hpl] at hfo
      have hkl := (place_at (l := t.l) (name := (t.l.getD i rc0).nm) (day := z) (by rw [hpl])).1
      rw [hpl] at hkl
      have hbm := brUp_mem (l := t.l) (s := k) (k := t.l.length)
      rw [hbs, ← hfo, ← hch] at hbm
      by_cases hc : (chL t.l (t.l.getD i rc0).nm z).2 = 0
      · have he : e = 0 := hve.2 hc
        subst he
        have hmI : memB k bs = false := memB_no fun h => (hbm.1 h).2 hc
        obtain ⟨cs, hcs⟩ : ∃ cs, (chL t.l (t.l.getD i rc0).nm z).1 = cs := ⟨_, rfl⟩
        have hcc : chL t.l (t.l.getD i rc0).nm z = (cs, 0) := by rw [← hcs, ← hc]
        have hcb := ch_bounds hc
        have hwd := val_wide hc
        have hsm := spr_sums hc
        rw [hcs] at hcb hwd hsm
        rw [hvv] at hwd
        have hcl := hcb.1
        (repeat' (first | apply cw_seq | apply cw_region | apply wl_nil | apply cw_block | apply cw_skip | (apply x_callv; assumption; exact rfl; exact rfl; exact rfl; exact e_kValue; (exact (by repeat' constructor)); (with_reducible refine kValue_v hl ok.ho hvv _ ?_); exact Old.now OA (by assumption); intro _ _ _) | (apply x_callv; assumption; exact rfl; exact rfl; exact rfl; exact e_Valid; (exact (by repeat' constructor)); (with_reducible refine Valid_w hl ok.ho hva _ ?_); exact Old.now OA (by assumption); intro _ _ _) | (apply x_gdec; exact rfl; exact rfl; all_goals (intro _; try omega)) | (apply x_callv; assumption; exact rfl; exact rfl; exact rfl; exact e_ContainsS; (exact (by repeat' constructor)); (with_reducible refine ContainsS_y (xs := ds) rfl hdl hmS _ ?_); exact Sat.rdmapN nul (by assumption) (by exact (by repeat' constructor)) rfl; intro _ _ _) | (apply x_callv; assumption; exact rfl; exact rfl; exact rfl; exact e_ContainsI; (exact (by repeat' constructor)); (with_reducible refine ContainsI_y (xs := bs) rfl hbl hmI _ ?_); exact Sat.rdmapN (0 : Nat) (by assumption) (by exact (by repeat' constructor)) rfl; intro _ _ _) | (apply x_callrowE (m := cs.length); assumption; exact rfl; exact rfl; exact rfl; exact e_Chain; (exact (by repeat' constructor)); (with_reducible refine Chain_w hl ok.ho hcc _ ?_); exact Old.now OA (by assumption); exact List.length_map _; intro A3 c3 w6 S6) | (apply x_move; exact rfl; exact rfl; (exact (by repeat' constructor))) | (apply x_assign; exact rfl; exact rfl; (exact (by repeat' constructor))) | (apply x_fieldB; exact rfl; exact rfl; exact rfl; exact rfl; (constructor)) | (apply x_load; assumption; exact rfl; exact rfl; exact rfl; (exact (by repeat' constructor)); exact rfl; exact rfl; (exact (by repeat' constructor))) | (apply x_bin; exact rfl; exact rfl; exact rfl; (first | exact .z (.wrap (by omega)) | exact (by repeat' constructor))) | (apply x_pick; exact rfl; exact rfl; exact rfl; (exact (by repeat' constructor))) | (apply x_un; exact rfl; exact rfl; exact rfl; (first | exact .z (.wrap (by omega)) | exact (by repeat' constructor))) | (apply x_alloc; assumption; exact rfl; exact rfl; exact rfl; (exact (by repeat' constructor)); intro _ _ _) | (apply x_store; assumption; exact rfl; exact rfl; (exact (by repeat' constructor)); (exact (by repeat' constructor)); exact rfl; exact rfl; exact rfl; (exact (by repeat' constructor)); intro _ _) | (apply x_build; exact rfl; exact rfl; exact rfl; (exact (by repeat' constructor))) | (apply x_extract; exact rfl; exact rfl; exact rfl; (exact (by repeat' constructor))) | (apply x_conv; exact rfl; exact rfl; exact rfl; (first | exact .z (.wrap (by omega)) | exact (by repeat' constructor))) | (apply x_builtin; exact rfl; exact rfl; exact (fun _ => rfl); (exact (by repeat' constructor))) | (apply x_index; exact rfl; exact rfl; exact rfl; exact rfl; exact rfl; (constructor); (first | omega | exact size_pos (by assumption) | assumption); (first | exact rfl | assumption | exact Rd.some_ (by assumption) (by omega) | exact Rd.some_ (Old.rd (by assumption)) (by omega) | exact (Sat.rd (by assumption) (by exact (by repeat' constructor))).some_ (by omega))) | (apply x_loadR; exact rfl; exact rfl; exact rfl; (first | exact Old.now (by assumption) (by assumption) | exact Sat.rdpr (by assumption) (by exact (by repeat' constructor)) | exact Sat.rd (by assumption) (by exact (by repeat' constructor))); (first | omega | exact size_pos (by assumption) | assumption); exact rfl; exact rfl; (exact (by repeat' constructor))) | (apply cw_false; exact rfl) | (apply x_dec; exact rfl; all_goals (intro _; try omega))))
        rename_i b10 _ _ _ _ _ _ _ b11 _ _ _ _ _ _ _ _ _ _ _ _ _ _
        replace S6 : Sat w [] [.rw 0 (.slice A3 cs.length c3) 3 1 (cs.map natC), .cl b11 40 [.int .i64 vl, .int .i64 vh], .cl b10 48 (rcC (t.l.getD i rc0)), .rw 0 (.slice A2 bs.length c2) 3 1 (bs.map natC), .rw 0 (.slice A1 ds.length c1) 9 1 (ds.map strC), .cl b1 26 [.slice t.A t.l.length t.cA, .slice t.B t.e.length t.cB, .slice t.C t.s.length t.cC]] w6 := S6
        refine cw_loop [4, 16, 18, 105, 106, 107, 108, 109, 110, 111, 112, 113, 114, 115, 116, 117, 118, 119, 120, 121, 122, 123, 124, 125, 126, 127] [105, 16] (fun us wr => ∃ j : Nat, j ≤ cs.length ∧ us = [.int .i64 j, .int .i64 (sumF (fun i => 2 * (rat t.l i).spr) (cs.take j))] ∧ Sat w [] [.rw 0 (.slice A3 cs.length c3) 3 1 (cs.map natC), .cl b11 40 [.int .i64 vl, .int .i64 vh], .cl b10 48 (rcC (t.l.getD i rc0)), .rw 0 (.slice A2 bs.length c2) 3 1 (bs.map natC), .rw 0 (.slice A1 ds.length c1) 9 1 (ds.map strC), .cl b1 26 [.slice t.A t.l.length t.cA, .slice t.B t.e.length t.cB, .slice t.C t.s.length t.cC]] wr) (fun us _ => cs.length - (intOf (us.getD 0 undef)).toNat) ?_ ?_
        · exact ⟨0, Nat.zero_le _, rfl, S6⟩
        clear S6 Sr
        rintro g2 us2 wr2 ⟨j, hj, rfl, Sr⟩
        by_cases hjl : j < cs.length
        · obtain ⟨ix, hix⟩ : ∃ ix, cs.getD j 0 = ix := ⟨_, rfl⟩
          have hmem : ix ∈ cs := hix ▸ getD_mem 0 hjl
          have hix2 := hcb.2.1 ix hmem
          have hsp : 0 ≤ (t.l.getD ix rc0).spr ∧ (t.l.getD ix rc0).spr ≤ 100000 := (hcb.2.2 ix hmem).2
          have hst : sumF (fun i => 2 * (rat t.l i).spr) (cs.take (j + 1)) = sumF (fun i => 2 * (rat t.l i).spr) (cs.take j) + 2 * (t.l.getD ix rc0).spr := by rw [sumF_take hjl, hix]
          have hb0 := hsm j
          have hb1 := hsm (j + 1)
          rw [hst] at hb1
          have hln : cs.length = (cs.map natC).length := (List.length_map _).symm
          (repeat' (first | apply cw_seq | apply cw_region | apply wl_nil | apply cw_block | apply cw_skip | (apply x_loadN (l := cs) (v := ix); exact rfl; exact rfl; exact rfl; exact Sat.rdmapN (0 : Nat) (by assumption) (by exact (by repeat' constructor)) rfl; exact hjl; exact hix; exact rfl; exact rfl) | (apply x_gdec; exact rfl; exact rfl; all_goals (intro _; try omega)) | (apply x_move; exact rfl; exact rfl; (exact (by repeat' constructor))) | (apply x_assign; exact rfl; exact rfl; (exact (by repeat' constructor))) | (apply x_fieldB; exact rfl; exact rfl; exact rfl; exact rfl; (constructor)) | (apply x_load; assumption; exact rfl; exact rfl; exact rfl; (exact (by repeat' constructor)); exact rfl; exact rfl; (exact (by repeat' constructor))) | (apply x_bin; exact rfl; exact rfl; exact rfl; (first | exact .z (.wrap (by omega)) | exact (by repeat' constructor))) | (apply x_pick; exact rfl; exact rfl; exact rfl; (exact (by repeat' constructor))) | (apply x_builtin; exact rfl; exact rfl; exact (fun _ => rfl); (exact (by repeat' constructor))) | (apply x_fieldE; exact rfl; exact rfl; exact rfl; exact rfl; (constructor)) | (apply x_index; exact rfl; exact rfl; exact rfl; exact rfl; exact rfl; (constructor); (first | omega | exact size_pos (by assumption) | assumption); (first | exact rfl | assumption | exact Rd.some_ (by assumption) (by omega) | exact Rd.some_ (Old.rd (by assumption)) (by omega) | exact (Sat.rd (by assumption) (by exact (by repeat' constructor))).some_ (by omega))) | (apply x_loadR; exact rfl; exact rfl; exact rfl; (first | exact Old.now (by assumption) (by assumption) | exact Sat.rdpr (by assumption) (by exact (by repeat' constructor)) | exact Sat.rd (by assumption) (by exact (by repeat' constructor))); (first | omega | exact size_pos (by assumption) | assumption); exact rfl; exact rfl; (exact (by repeat' constructor))) | (apply x_dec; exact rfl; all_goals (intro _; try omega))))
          all_goals first
            | (refine ⟨rfl, (by repeat (first | exact Agree.updl rfl (Agree.mask _ _ _) | refine Agree.upd rfl ?_)), ⟨j + 1, hjl, by rw [hst]; rfl, by assumption⟩, ?_⟩
               show cs.length - (j + 1 : Int).toNat < cs.length - (j : Int).toNat
               omega)
            | (exfalso; omega)
        · have hje : j = cs.length := by omega
          subst hje
          rw [List.take_length]
          have hne : (vh - vl != sumF (fun i => 2 * (rat t.l i).spr) cs) = false := by rw [← hwd]; simp
          (repeat' (first | apply cw_seq | apply cw_region | apply wl_nil | apply cw_skip | apply cw_exit | (apply x_bin; exact rfl; exact rfl; exact rfl; exact is_bool hne) | (apply x_move; exact rfl; exact rfl; (exact (by repeat' constructor))) | (apply x_fieldB; exact rfl; exact rfl; exact rfl; exact rfl; (constructor)) | (apply x_load; assumption; exact rfl; exact rfl; exact rfl; (exact (by repeat' constructor)); exact rfl; exact rfl; (exact (by repeat' constructor))) | (apply x_bin; exact rfl; exact rfl; exact rfl; (first | exact .z (.wrap (by omega)) | exact (by repeat' constructor))) | (apply cw_false; exact rfl) | (apply x_dec; exact rfl; all_goals (intro _; try omega))))
          all_goals first
            | (refine ⟨rfl, (by repeat (first | exact Agree.updl rfl (Agree.mask _ _ _) | refine Agree.upd rfl ?_ | refine Agree.updl rfl ?_ | refine Agree.maskIn rfl ?_)), ⟨i + 1, hlt, rfl, Sat.drop1 (Sat.drop1 (Sat.drop1 (by assumption)))⟩, ?_⟩
               show t.l.length - (i + 1 : Int).toNat < t.l.length - (i : Int).toNat
               omega)
      · have he : ¬ e = 0 := fun h => hc (hve.1 h)
        have hmI : memB k bs = true := memB_iff.2 (hbm.2 ⟨hkl, hc⟩)
        have he1 : (e == 0) = false := beq_eq_false_iff_ne.2 he
        have he2 : (e != 0) = true := bne_iff_ne.2 he
        (repeat' (first | apply cw_seq | apply cw_region | apply wl_nil | apply cw_block | apply cw_skip | apply cw_exit | (apply x_callv; assumption; exact rfl; exact rfl; exact rfl; exact e_kValue; (exact (by repeat' constructor)); (with_reducible refine kValue_v hl ok.ho hvv _ ?_); exact Old.now OA (by assumption); intro _ _ _) | (apply x_callv; assumption; exact rfl; exact rfl; exact rfl; exact e_Valid; (exact (by repeat' constructor)); (with_reducible refine Valid_w hl ok.ho hva _ ?_); exact Old.now OA (by assumption); intro _ _ _) | (apply x_bin; exact rfl; exact rfl; exact rfl; exact is_bool he1) | (apply x_bin; exact rfl; exact rfl; exact rfl; exact is_bool he2) | (apply x_gdec; exact rfl; exact rfl; all_goals (intro _; try omega)) | (apply x_callv; assumption; exact rfl; exact rfl; exact rfl; exact e_ContainsS; (exact (by repeat' constructor)); (with_reducible refine ContainsS_y (xs := ds) rfl hdl hmS _ ?_); exact Sat.rdmapN nul (by assumption) (by exact (by repeat' constructor)) rfl; intro _ _ _) | (apply x_callv; assumption; exact rfl; exact rfl; exact rfl; exact e_ContainsI; (exact (by repeat' constructor)); (with_reducible refine ContainsI_y (xs := bs) rfl hbl hmI _ ?_); exact Sat.rdmapN (0 : Nat) (by assumption) (by exact (by repeat' constructor)) rfl; intro _ _ _) | (apply x_move; exact rfl; exact rfl; (exact (by repeat' constructor))) | (apply x_assign; exact rfl; exact rfl; (exact (by repeat' constructor))) | (apply x_fieldB; exact rfl; exact rfl; exact rfl; exact rfl; (constructor)) | (apply x_load; assumption; exact rfl; exact rfl; exact rfl; (exact (by repeat' constructor)); exact rfl; exact rfl; (exact (by repeat' constructor))) | (apply x_bin; exact rfl; exact rfl; exact rfl; (first | exact .z (.wrap (by omega)) | exact (by repeat' constructor))) | (apply x_pick; exact rfl; exact rfl; exact rfl; (exact (by repeat' constructor))) | (apply x_un; exact rfl; exact rfl; exact rfl; (first | exact .z (.wrap (by omega)) | exact (by repeat' constructor))) | (apply x_alloc; assumption; exact rfl; exact rfl; exact rfl; (exact (by repeat' constructor)); intro _ _ _) | (apply x_store; assumption; exact rfl; exact rfl; (exact (by repeat' constructor)); (exact (by repeat' constructor)); exact rfl; exact rfl; exact rfl; (exact (by repeat' constructor)); intro _ _) | (apply x_build; exact rfl; exact rfl; exact rfl; (exact (by repeat' constructor))) | (apply x_extract; exact rfl; exact rfl; exact rfl; (exact (by repeat' constructor))) | (apply x_conv; exact rfl; exact rfl; exact rfl; (first | exact .z (.wrap (by omega)) | exact (by repeat' constructor))) | (apply x_index; exact rfl; exact rfl; exact rfl; exact rfl; exact rfl; (constructor); (first | omega | exact size_pos (by assumption) | assumption); (first | exact rfl | assumption | exact Rd.some_ (by assumption) (by omega) | exact Rd.some_ (Old.rd (by assumption)) (by omega) | exact (Sat.rd (by assumption) (by exact (by repeat' constructor))).some_ (by omega))) | (apply x_loadR; exact rfl; exact rfl; exact rfl; (first | exact Old.now (by assumption) (by assumption) | exact Sat.rdpr (by assumption) (by exact (by repeat' constructor)) | exact Sat.rd (by assumption) (by exact (by repeat' constructor))); (first | omega | exact size_pos (by assumption) | assumption); exact rfl; exact rfl; (exact (by repeat' constructor))) | (apply cw_true; exact rfl) | (apply cw_false; exact rfl) | (apply x_dec; exact rfl; all_goals (intro _; try omega))))
        refine ⟨rfl, (by repeat (first | exact Agree.updl rfl (Agree.mask _ _ _) | refine Agree.upd rfl ?_)), ⟨i + 1, hlt, rfl, Sat.drop1 (Sat.drop1 (by assumption))⟩, ?_⟩
        show t.l.length - (i + 1 : Int).toNat < t.l.length - (i : Int).toNat
        omega
    · have hmS : memB (t.l.getD i rc0).nm ds = true := memB_iff.2 (hdm.2 hf)
      have he : ¬ e = 0 := fun h => hf (by
        have h1 := hve.1 h
        rw [chL_no (by rw [hva]; exact hf), hva] at h1
        exact h1)
      have hn1 : (f != 0) = true := bne_iff_ne.2 hf
      have hn2 : (f == 0) = false := beq_eq_false_iff_ne.2 hf
      have he1 : (e == 0) = false := beq_eq_false_iff_ne.2 he
      have he2 : (e != 0) = true := bne_iff_ne.2 he
      (repeat' (first | apply cw_seq | apply cw_region | apply wl_nil | apply cw_block | apply cw_skip | apply cw_exit | (apply x_callv; assumption; exact rfl; exact rfl; exact rfl; exact e_kValue; (exact (by repeat' constructor)); (with_reducible refine kValue_v hl ok.ho hvv _ ?_); exact Old.now OA (by assumption); intro _ _ _) | (apply x_callv; assumption; exact rfl; exact rfl; exact rfl; exact e_Valid; (exact (by repeat' constructor)); (with_reducible refine Valid_w hl ok.ho hva _ ?_); exact Old.now OA (by assumption); intro _ _ _) | (apply x_bin; exact rfl; exact rfl; exact rfl; exact is_bool hn1) | (apply x_bin; exact rfl; exact rfl; exact rfl; exact is_bool hn2) | (apply x_bin; exact rfl; exact rfl; exact rfl; exact is_bool he1) | (apply x_bin; exact rfl; exact rfl; exact rfl; exact is_bool he2) | (apply x_callv; assumption; exact rfl; exact rfl; exact rfl; exact e_ContainsS; (exact (by repeat' constructor)); (with_reducible refine ContainsS_y (xs := ds) rfl hdl hmS _ ?_); exact Sat.rdmapN nul (by assumption) (by exact (by repeat' constructor)) rfl; intro _ _ _) | (apply x_not; exact rfl; exact rfl) | (apply x_move; exact rfl; exact rfl; (exact (by repeat' constructor))) | (apply x_assign; exact rfl; exact rfl; (exact (by repeat' constructor))) | (apply x_fieldB; exact rfl; exact rfl; exact rfl; exact rfl; (constructor)) | (apply x_load; assumption; exact rfl; exact rfl; exact rfl; (exact (by repeat' constructor)); exact rfl; exact rfl; (exact (by repeat' constructor))) | (apply x_bin; exact rfl; exact rfl; exact rfl; (first | exact .z (.wrap (by omega)) | exact (by repeat' constructor))) | (apply x_pick; exact rfl; exact rfl; exact rfl; (exact (by repeat' constructor))) | (apply x_alloc; assumption; exact rfl; exact rfl; exact rfl; (exact (by repeat' constructor)); intro _ _ _) | (apply x_store; assumption; exact rfl; exact rfl; (exact (by repeat' constructor)); (exact (by repeat' constructor)); exact rfl; exact rfl; exact rfl; (exact (by repeat' constructor)); intro _ _) | (apply x_build; exact rfl; exact rfl; exact rfl; (exact (by repeat' constructor))) | (apply x_extract; exact rfl; exact rfl; exact rfl; (exact (by repeat' constructor))) | (apply x_conv; exact rfl; exact rfl; exact rfl; (first | exact .z (.wrap (by omega)) | exact (by repeat' constructor))) | (apply x_index; exact rfl; exact rfl; exact rfl; exact rfl; exact rfl; (constructor); (first | omega | exact size_pos (by assumption) | assumption); (first | exact rfl | assumption | exact Rd.some_ (by assumption) (by omega) | exact Rd.some_ (Old.rd (by assumption)) (by omega) | exact (Sat.rd (by assumption) (by exact (by repeat' constructor))).some_ (by omega))) | (apply x_loadR; exact rfl; exact rfl; exact rfl; (first | exact Old.now (by assumption) (by assumption) | exact Sat.rdpr (by assumption) (by exact (by repeat' constructor)) | exact Sat.rd (by assumption) (by exact (by repeat' constructor))); (first | omega | exact size_pos (by assumption) | assumption); exact rfl; exact rfl; (exact (by repeat' constructor))) | (apply cw_true; exact rfl) | (apply cw_false; exact rfl) | (apply x_dec; exact rfl; all_goals (intro _; try omega))))
      refine ⟨rfl, (by repeat (first | exact Agree.updl rfl (Agree.mask _ _ _) | refine Agree.upd rfl ?_)), ⟨i + 1, hlt, rfl, Sat.drop1 (Sat.drop1 (by assumption))⟩, ?_⟩
      show t.l.length - (i + 1 : Int).toNat < t.l.length - (i : Int).toNat
      omega
  · (repeat' (first | apply cw_seq | apply cw_region | apply wl_nil | apply cw_exit | apply cw_ret | (apply x_callv; assumption; exact rfl; exact rfl; exact rfl; exact e_runRecalls; (exact (by repeat' constructor)); (with_reducible exact runRecalls_c _); intro _ _ _) | (apply x_assign; exact rfl; exact rfl; (exact (by repeat' constructor))) | (apply x_bin; exact rfl; exact rfl; exact rfl; (first | exact .z (.wrap (by omega)) | exact (by repeat' constructor))) | (apply x_dec; exact rfl; all_goals (intro _; try omega))))
    (first | refine q_retS (by assumption) rfl (by repeat (first | exact .nil | (apply RV.tmp; exact (by repeat' constructor)) | (apply RV.cell; exact rfl; exact (by repeat' constructor); exact rfl; exact rfl; exact (by repeat' constructor)))) ?_ | (simp only [thenQ, blockQ]; refine q_retS (by assumption) rfl (by repeat (first | exact .nil | (apply RV.tmp; exact (by repeat' constructor)) | (apply RV.cell; exact rfl; exact (by repeat' constructor); exact rfl; exact rfl; exact (by repeat' constructor)))) ?_))
    exact ⟨rfl, Sat.keeps (by assumption)⟩
end Go.Proofs.Ytnndkdcciojpiaa.Rl
