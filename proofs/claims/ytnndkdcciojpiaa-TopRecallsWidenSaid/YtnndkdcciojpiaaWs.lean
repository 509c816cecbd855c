/- When a log goes on: the law's walk. No statement of the seat is proved here. -/
import Derived.Test.YtnndkdcciojpiaaWr
import Derived.Test.YtnndkdcciojpiaaWa
namespace Go.Proofs.Ytnndkdcciojpiaa.Rl
set_option linter.unusedVariables false
set_option linter.unusedSimpArgs false
open Go Go.RowKit Go.Maps
theorem Sh.ok.now {t : Sh} {w0 w : World} {h : List HO} (o : t.ok w0) (S : Sat w0 [] h w) : t.ok w :=
  { o with R := Old.now o.R.old S, R2 := Old.now o.R2.old S, R3 := Old.now o.R3.old S }
section
variable {P : Program} {ro : Option Nat} {n : Nat} {Q : Post} {D : List Deferred} {f : Fm} {w w0 : World} {M : List Nat} {h : List HO}
variable {ops : Array Oper} {rest : List Oper} {d ty : Nat} {ps : String} {af : Array Edge} {gd : Option (Nat × Bool)} {x y : Operand} {xt yt : TypeId}
theorem x_loadI {T : TypeId} {A : Option Addr} {j : Nat} {l : List Int} {kk : Option Nat} {v : Int} (hg : want ops f ⟨some d, .load T x, ty, ps, af, gd⟩ = true) (hdn : Nat.blt d n = true)
    (hx : fev f x = .pointer (some (ea A 1 j 0))) (R : Rd w A 1 l.length (fun i => pkC (l.getD i 0))) (hj : j < l.length) (hv : l.getD j 0 = v) (hk : ldk P T = some kk) (h0 : ldv kk (pkC (l.getD j 0)) 0 = some (.int .i64 (l.getD j 0)))
    (k : WL P ro n ops Q rest D (upd f d (.int .i64 v)) w) : WL P ro n ops Q (⟨some d, .load T x, ty, ps, af, gd⟩ :: rest) D f w := by
  subst hv
  exact x_loadR hg hdn hx R hj hk h0 (.z .int) k
theorem x_remE {kd : IntKind} {a b c : Int} (hg : want ops f ⟨some d, .binOp .rem xt x y yt, ty, ps, af, gd⟩ = true) (hdn : Nat.blt d n = true) (hx : fev f x = .int kd a) (hy : fev f y = .int kd b) (ha : 0 ≤ a) (hb : 0 < b) (hc : a % b = c)
    (k : WL P ro n ops Q rest D (upd f d (.int kd c)) w) : WL P ro n ops Q (⟨some d, .binOp .rem xt x y yt, ty, ps, af, gd⟩ :: rest) D f w := by
  subst hc
  exact x_rem hg hdn hx hy ha hb k
end
theorem unF_len {l : List Ev} (a : NamesOf (unF l l.length)) : a.ss.length ≤ l.length := by
  have h := a.nd.length_le_of_subset (l₂ := l.map (·.g)) fun s hs => by
    obtain ⟨e, h1, _, h3⟩ := unF_mem.1 ((a.mem s).1 hs)
    rw [← h3]
    exact List.mem_map.2 ⟨_, getD_mem ev0 (by omega), rfl⟩
  rwa [List.length_map] at h
theorem ContainsS_y {A : Option Addr} {c n : Nat} {xs : List ByteArray} {v : ByteArray} {b : Bool} (hn : n = xs.length) (hx : xs.length ≤ 9223372036854775807) (hb : memB v xs = b) (w : World) (R : Rd w A 1 xs.length (fun i => strC (xs.getD i nul))) :
    Calls Try.prog 10 #[.slice A n c, .string v] w (RetP (Val (.bool b) w)) := by
  subst hn
  subst hb
  exact ContainsS_c A c xs hx v w R
set_option maxRecDepth 100000 in
theorem e_Goes : Ent Try.prog 3 := fun _ _ => rfl
set_option maxRecDepth 8000 in
set_option maxHeartbeats 16000000 in
theorem lawGoes (t : Sh) (z : Int) (hz : 0 ≤ z ∧ z ≤ 255) (w : World) (ok : t.ok w) : Calls Try.prog 3 #[shV t, .int .u8 z] w (RetP (Val (.bool true) w)) := by
  refine calls_of_cw (args := [.agg #[.slice t.A t.l.length t.cA, .slice t.B t.e.length t.cB, .slice t.C t.s.length t.cC], .int .u8 z]) Try.func3 rfl rfl ?_
  have S := Sat.start [] w
  have OB := ok.R2.old
  have he := ok.he
  have hce := ok.ce
  obtain ⟨k, hkz⟩ : ∃ k : Nat, z % ((t.e.length : Int) + 1) = (k : Int) := ⟨(z % ((t.e.length : Int) + 1)).toNat, by have := Int.emod_nonneg z (b := (t.e.length : Int) + 1) (by omega); omega⟩
  have hk : k ≤ t.e.length := by have := Int.emod_lt_of_pos z (b := (t.e.length : Int) + 1) (by omega); omega
  have hkn : k = (t.e.take k).length := by rw [List.length_take]; omega
  have hkc : k ≤ t.cB := by omega
  (repeat' (first | apply cw_seq | apply cw_region | apply wl_nil | apply cw_block | apply cw_skip | apply cw_ret | (apply x_callH (hs := fun _ => []); assumption; exact rfl; exact rfl; exact rfl; exact e_runShift; (exact (by repeat' constructor)); (with_reducible exact runShift_c t _ (ok.now (by assumption))); rintro ⟨b3, hb3⟩ w3 S3; cases b3 <;> replace S3 : Sat w [] _ w3 := S3 <;> first | (have hR := hb3 rfl; have h14 := hR.n) | skip) | (apply x_callv; assumption; exact rfl; exact rfl; exact rfl; exact e_runRecalls; (exact (by repeat' constructor)); (with_reducible exact runRecalls_c _); intro _ _ _) | (apply x_remE; exact rfl; exact rfl; exact rfl; exact rfl; (exact hz.1); (exact (by omega)); exact hkz) | (apply x_sliceHiE (r := k); exact rfl; exact rfl; exact rfl; exact rfl; exact rfl; exact hkc) | (apply x_callrowE (m := k); assumption; exact rfl; exact rfl; exact rfl; exact e_States; (exact (by repeat' constructor)); (with_reducible apply States_s (l := t.e.take k)); exact hkn; exact hkc; exact evOk_take ok.hoe; exact hR.e.take k; exact Rd.evTake hk (Old.now OB (by assumption)); (exact (by rw [List.length_map, sTs_len]; exact hkn.symm)); intro A1 c1 _ _) | (apply x_callrowE (m := t.e.length); assumption; exact rfl; exact rfl; exact rfl; exact e_States; (exact (by repeat' constructor)); (with_reducible apply States_s (l := t.e)); exact rfl; exact hce; exact ok.hoe; exact hR.e; exact Old.now OB (by assumption); (exact (by rw [List.length_map, sTs_len])); intro A2 c2 _ _) | (apply x_callT (hs := fun a : NamesOf (unF (t.e.take k) (t.e.take k).length) => [a.ho]) (V := fun a => .tuple #[a.sl, .int .i64 0]); assumption; exact rfl; exact rfl; exact rfl; exact e_Unsure; (exact (by repeat' constructor)); (with_reducible apply Unsure_s (l := t.e.take k)); exact hkn; exact hkc; exact evOk_take ok.hoe; exact hR.e.take k; exact Rd.evTake hk (Old.now OB (by assumption)); intro a w5 S5) | (apply x_move; exact rfl; exact rfl; (exact (by repeat' constructor))) | (apply x_assign; exact rfl; exact rfl; (exact (by repeat' constructor))) | (apply x_fieldB; exact rfl; exact rfl; exact rfl; exact rfl; (constructor)) | (apply x_load; assumption; exact rfl; exact rfl; exact rfl; (exact (by repeat' constructor)); exact rfl; exact rfl; (exact (by repeat' constructor))) | (apply x_bin; exact rfl; exact rfl; exact rfl; (first | exact .z (.wrap (by omega)) | exact (by repeat' constructor))) | (apply x_pick; exact rfl; exact rfl; exact rfl; (exact (by repeat' constructor))) | (apply x_un; exact rfl; exact rfl; exact rfl; (first | exact .z (.wrap (by omega)) | exact (by repeat' constructor))) | (apply x_box; assumption; exact rfl; exact rfl; (exact (by repeat' constructor)); (exact (by repeat' constructor)); intro _ _ _) | (apply x_extract; exact rfl; exact rfl; exact rfl; (exact (by repeat' constructor))) | (apply x_conv; exact rfl; exact rfl; exact rfl; (first | exact .z (.wrap (by omega)) | exact (by repeat' constructor))) | (apply x_builtin; exact rfl; exact rfl; exact (fun _ => rfl); (exact (by repeat' constructor))) | (apply cw_true; exact rfl) | (apply cw_false; exact rfl) | (apply cw_ne; exact rfl; all_goals (intro _; try omega)) | (apply x_gne; exact rfl; exact rfl; all_goals (intro _; try omega))))
  all_goals first
    | ((first | refine q_retS (by assumption) rfl (by repeat (first | exact .nil | (apply RV.tmp; exact (by repeat' constructor)) | (apply RV.cell; exact rfl; exact (by repeat' constructor); exact rfl; exact rfl; exact (by repeat' constructor)))) ?_ | (simp only [thenQ, blockQ]; refine q_retS (by assumption) rfl (by repeat (first | exact .nil | (apply RV.tmp; exact (by repeat' constructor)) | (apply RV.cell; exact rfl; exact (by repeat' constructor); exact rfl; exact rfl; exact (by repeat' constructor)))) ?_))
       exact ⟨rfl, Sat.keeps (by assumption)⟩)
    | skip
  rename_i b1 _ _ _ _ _ _ _ _
  replace S5 : Sat w [] [.rw 0 (.slice A2 t.e.length c2) 3 1 ((sTs t.e).map pkC), .rw 0 (.slice A1 k c1) 3 1 ((sTs (t.e.take k)).map pkC), .cl b1 26 [.slice t.A t.l.length t.cA, .slice t.B t.e.length t.cB, .slice t.C t.s.length t.cC], .rw 0 (.slice a.A a.ss.length a.c) 9 1 (a.ss.map strC)] w5 := S5
  have hkn' : k = (sTs (t.e.take k)).length := by rw [sTs_len]; exact hkn
  have hen' : t.e.length = (sTs t.e).length := (sTs_len _).symm
  have hal : a.ss.length ≤ 9223372036854775807 := Nat.le_trans (unF_len a) (by rw [← hkn]; omega)
  refine cw_loop [4, 12, 13, 69, 70, 71, 72, 73, 74, 75, 76, 77, 78, 79, 80, 81, 82, 83, 84, 85, 86, 87, 88, 89, 90, 91, 92, 93, 94, 95, 96, 97, 98, 99, 100, 101, 102, 103, 104, 105, 106, 107, 108, 109, 110] [69] (fun us wr => ∃ i : Nat, i ≤ k ∧ us = [.int .i64 i] ∧ Sat w [] [.rw 0 (.slice A2 t.e.length c2) 3 1 ((sTs t.e).map pkC), .rw 0 (.slice A1 k c1) 3 1 ((sTs (t.e.take k)).map pkC), .cl b1 26 [.slice t.A t.l.length t.cA, .slice t.B t.e.length t.cB, .slice t.C t.s.length t.cC], .rw 0 (.slice a.A a.ss.length a.c) 9 1 (a.ss.map strC)] wr) (fun us _ => k - (intOf (us.getD 0 undef)).toNat) ?_ ?_
  · exact ⟨0, Nat.zero_le _, rfl, S5⟩
  clear S5 S
  rintro g us wr ⟨i, hi, rfl, Sr⟩
  by_cases hlt : i < k
  · have hie : i < t.e.length := by omega
    have hit : i < (t.e.take k).length := by omega
    obtain ⟨u, hu⟩ : ∃ u, (sTs (t.e.take k)).getD i 0 = u := ⟨_, rfl⟩
    obtain ⟨v, hv⟩ : ∃ v, (sTs t.e).getD i 0 = v := ⟨_, rfl⟩
    have hu' : sT (t.e.take k) i = u := by rw [← hu, sTs_at hit]
    have hv' : sT t.e i = v := by rw [← hv, sTs_at hie]
    have hI1 : i < (sTs (t.e.take k)).length := by rw [sTs_len]; exact hit
    have hI2 : i < (sTs t.e).length := by rw [sTs_len]; exact hie
    by_cases h1 : u = 1
    · have hv0 : ¬ v = 0 := by
        rw [← hv']
        have h0 : (t.e.getD i ev0).k = 0 := Classical.byContradiction fun hn => by
          have := sT_other hit (by rw [getD_take hlt]; exact hn)
          omega
        have := sT_range hie h0
        omega
      have hmem : memB (t.e.getD i ev0).g a.ss = true := memB_iff.2 ((a.mem _).2 (by have := sT_open hit (hu'.trans h1); rwa [getD_take hlt] at this))
      (repeat' (first | apply cw_seq | apply cw_region | apply wl_nil | apply cw_block | apply cw_skip | (apply x_loadI (l := sTs (t.e.take k)) (v := u); exact rfl; exact rfl; exact rfl; exact Sat.rdmapN (0 : Int) (by assumption) (by exact (by repeat' constructor)) hkn'; exact hI1; exact hu; exact rfl; exact rfl) | (apply x_loadI (l := sTs t.e) (v := v); exact rfl; exact rfl; exact rfl; exact Sat.rdmapN (0 : Int) (by assumption) (by exact (by repeat' constructor)) hen'; exact hI2; exact hv; exact rfl; exact rfl) | (apply x_gdec; exact rfl; exact rfl; all_goals (intro _; try omega)) | (apply x_callv; assumption; exact rfl; exact rfl; exact rfl; exact e_ContainsS; (exact (by repeat' constructor)); (with_reducible refine ContainsS_y (xs := a.ss) rfl hal hmem _ ?_); exact Sat.rdmapN nul (by assumption) (by exact (by repeat' constructor)) rfl; intro _ _ _) | (apply x_not; exact rfl; exact rfl) | (apply x_move; exact rfl; exact rfl; (exact (by repeat' constructor))) | (apply x_assign; exact rfl; exact rfl; (exact (by repeat' constructor))) | (apply x_fieldB; exact rfl; exact rfl; exact rfl; exact rfl; (constructor)) | (apply x_load; assumption; exact rfl; exact rfl; exact rfl; (exact (by repeat' constructor)); exact rfl; exact rfl; (exact (by repeat' constructor))) | (apply x_bin; exact rfl; exact rfl; exact rfl; (first | exact .z (.wrap (by omega)) | exact (by repeat' constructor))) | (apply x_pick; exact rfl; exact rfl; exact rfl; (exact (by repeat' constructor))) | (apply x_un; exact rfl; exact rfl; exact rfl; (first | exact .z (.wrap (by omega)) | exact (by repeat' constructor))) | (apply x_fieldE; exact rfl; exact rfl; exact rfl; exact rfl; (constructor)) | (apply x_index; exact rfl; exact rfl; exact rfl; exact rfl; exact rfl; (constructor); (first | omega | exact size_pos (by assumption) | assumption); (first | exact rfl | assumption | exact Rd.some_ (by assumption) (by omega) | exact Rd.some_ (Old.rd (by assumption)) (by omega) | exact (Sat.rd (by assumption) (by exact (by repeat' constructor))).some_ (by omega))) | (apply x_loadR; exact rfl; exact rfl; exact rfl; (first | exact Old.now (by assumption) (by assumption) | exact Sat.rdpr (by assumption) (by exact (by repeat' constructor)) | exact Sat.rd (by assumption) (by exact (by repeat' constructor))); (first | omega | exact size_pos (by assumption) | assumption); exact rfl; exact rfl; (exact (by repeat' constructor))) | (apply x_dec; exact rfl; all_goals (intro _; try omega)) | (apply x_gne; exact rfl; exact rfl; all_goals (intro _; try omega))))
      all_goals first
        | (refine ⟨rfl, (by repeat (first | exact Agree.updl rfl (Agree.mask _ _ _) | refine Agree.upd rfl ?_)), ⟨i + 1, hlt, rfl, by assumption⟩, ?_⟩
           show k - (i + 1 : Int).toNat < k - (i : Int).toNat
           omega)
        | (exfalso; first | omega | simp_all; done)
    · have huv : v = u := by rw [← hv', ← hu']; exact sT_take hk hlt (by rw [hu']; exact h1)
      (repeat' (first | apply cw_seq | apply cw_region | apply wl_nil | apply cw_block | apply cw_skip | (apply x_loadI (l := sTs (t.e.take k)) (v := u); exact rfl; exact rfl; exact rfl; exact Sat.rdmapN (0 : Int) (by assumption) (by exact (by repeat' constructor)) hkn'; exact hI1; exact hu; exact rfl; exact rfl) | (apply x_loadI (l := sTs t.e) (v := v); exact rfl; exact rfl; exact rfl; exact Sat.rdmapN (0 : Int) (by assumption) (by exact (by repeat' constructor)) hen'; exact hI2; exact hv; exact rfl; exact rfl) | (apply x_gdec; exact rfl; exact rfl; all_goals (intro _; try omega)) | (apply x_not; exact rfl; exact rfl) | (apply x_move; exact rfl; exact rfl; (exact (by repeat' constructor))) | (apply x_assign; exact rfl; exact rfl; (exact (by repeat' constructor))) | (apply x_bin; exact rfl; exact rfl; exact rfl; (first | exact .z (.wrap (by omega)) | exact (by repeat' constructor))) | (apply x_pick; exact rfl; exact rfl; exact rfl; (exact (by repeat' constructor))) | (apply x_index; exact rfl; exact rfl; exact rfl; exact rfl; exact rfl; (constructor); (first | omega | exact size_pos (by assumption) | assumption); (first | exact rfl | assumption | exact Rd.some_ (by assumption) (by omega) | exact Rd.some_ (Old.rd (by assumption)) (by omega) | exact (Sat.rd (by assumption) (by exact (by repeat' constructor))).some_ (by omega))) | (apply cw_false; exact rfl) | (apply x_dec; exact rfl; all_goals (intro _; try omega)) | (apply x_gne; exact rfl; exact rfl; all_goals (intro _; try omega))))
      all_goals first
        | (refine ⟨rfl, (by repeat (first | exact Agree.updl rfl (Agree.mask _ _ _) | refine Agree.upd rfl ?_)), ⟨i + 1, hlt, rfl, by assumption⟩, ?_⟩
           show k - (i + 1 : Int).toNat < k - (i : Int).toNat
           omega)
        | (exfalso; first | omega | simp_all; done)
  · (repeat' (first | apply cw_seq | apply cw_region | apply wl_nil | apply cw_exit | apply cw_ret | (apply x_callv; assumption; exact rfl; exact rfl; exact rfl; exact e_runRecalls; (exact (by repeat' constructor)); (with_reducible exact runRecalls_c _); intro _ _ _) | (apply x_assign; exact rfl; exact rfl; (exact (by repeat' constructor))) | (apply x_bin; exact rfl; exact rfl; exact rfl; (first | exact .z (.wrap (by omega)) | exact (by repeat' constructor))) | (apply x_dec; exact rfl; all_goals (intro _; try omega))))
    (first | refine q_retS (by assumption) rfl (by repeat (first | exact .nil | (apply RV.tmp; exact (by repeat' constructor)) | (apply RV.cell; exact rfl; exact (by repeat' constructor); exact rfl; exact rfl; exact (by repeat' constructor)))) ?_ | (simp only [thenQ, blockQ]; refine q_retS (by assumption) rfl (by repeat (first | exact .nil | (apply RV.tmp; exact (by repeat' constructor)) | (apply RV.cell; exact rfl; exact (by repeat' constructor); exact rfl; exact rfl; exact (by repeat' constructor)))) ?_))
    exact ⟨rfl, Sat.keeps (by assumption)⟩
end Go.Proofs.Ytnndkdcciojpiaa.Rl
