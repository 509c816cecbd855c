/- Wider limits: the law's walk. No statement of the seat is proved here. -/
import Derived.Test.YtnndkdcciojpiaaWw
namespace Go.Proofs.Ytnndkdcciojpiaa.Rl
set_option linter.unusedVariables false
set_option linter.unusedSimpArgs false
open Go Go.RowKit Go.Maps
theorem rCheck_y {a b e : Int} (h : chk a b = e) (w : World) : Calls Try.prog 11 #[.agg #[.int .i64 a, .int .i64 b]] w (RetP (Val (.int .i64 e) w)) := by
  subst h
  exact rCheck_c a b w
theorem runLog_yes {t : Sh} {lo hi : Int} (hc : chk lo hi = 0) (h14 : t.e.length ≤ 14) (hE : ∀ i, i < t.e.length → ¬ badJ t i) (w : World) (ok : t.ok w) : Calls Try.prog 12 #[shV t, .agg #[.int .i64 lo, .int .i64 hi]] w (RetP (RowR (fun v => .tuple #[v, .bool true]) 37 4 ((logJ t lo hi t.e.length).map evC) w)) := by
  refine (runLog_c t lo hi hc h14 w ok).mono ?_
  rintro e w' ⟨v, rfl, ⟨_, h⟩ | ⟨⟨i, h1, h2⟩, _⟩⟩
  · exact ⟨v, rfl, h⟩
  · exact absurd h2 (hE i h1)
theorem runLog_no {t : Sh} {lo hi : Int} (hc : chk lo hi = 0) (h14 : t.e.length ≤ 14) (hE : ¬ ∀ i, i < t.e.length → ¬ badJ t i) (w : World) (ok : t.ok w) : Calls Try.prog 12 #[shV t, .agg #[.int .i64 lo, .int .i64 hi]] w (RetP (Val (.tuple #[.slice none 0 0, .bool false]) w)) := by
  refine (runLog_c t lo hi hc h14 w ok).mono ?_
  rintro e w' ⟨v, rfl, ⟨h, _⟩ | ⟨_, rfl, hk⟩⟩
  · exact absurd h hE
  · exact ⟨_, rfl, rfl, hk⟩
theorem Parts_n {A : Option Addr} {n c : Nat} {l : List Ev} (hn : n = l.length) (hl : n ≤ c) (ho : ∀ i, i < l.length → (l.getD i ev0).ok) (hR : RightL l) (w : World) (R : Rd w A 4 l.length (fun i => evC (l.getD i ev0))) : Calls Try.prog 13 #[.slice A n c] w (RetP fun v w' => ∃ a : NamesOf (reF l), v = .tuple #[a.sl, .int .i64 0] ∧ Sat w [] [a.ho] w') := by
  subst hn
  exact Parts_c hl ho hR w R
theorem reF_len {l : List Ev} (a : NamesOf (reF l)) : a.ss.length ≤ l.length := by
  have h := a.nd.length_le_of_subset (l₂ := l.map (·.p)) fun s hs => by
    obtain ⟨⟨d, h1, _, h3⟩, _⟩ := reF_mem.1 ((a.mem s).1 hs)
    rw [← h3]
    exact List.mem_map.2 ⟨_, getD_mem ev0 (by omega), rfl⟩
  rwa [List.length_map] at h
theorem is_int {a b : Int} (h : a = b) : Is (.int .i64 a) (.int .i64 b) := by rw [h]; exact .z .any
section
variable {P : Program} {ro : Option Nat} {n : Nat} {Q : Post} {D : List Deferred} {f : Fm} {w : World}
variable {ops : Array Oper} {rest : List Oper} {d ty : Nat} {ps : String} {af : Array Edge} {gd : Option (Nat × Bool)} {x : Operand}
theorem x_loadS {T : TypeId} {A : Option Addr} {j : Nat} {l : List ByteArray} {kk : Option Nat} {v : ByteArray} (hg : want ops f ⟨some d, .load T x, ty, ps, af, gd⟩ = true) (hdn : Nat.blt d n = true)
    (hx : fev f x = .pointer (some (ea A 1 j 0))) (R : Rd w A 1 l.length (fun i => strC (l.getD i nul))) (hj : j < l.length) (hv : l.getD j nul = v) (hk : ldk P T = some kk) (h0 : ldv kk (strC (l.getD j nul)) 0 = some (.string (l.getD j nul)))
    (k : WL P ro n ops Q rest D (upd f d (.string v)) w) : WL P ro n ops Q (⟨some d, .load T x, ty, ps, af, gd⟩ :: rest) D f w := by
  subst hv
  exact x_loadR hg hdn hx R hj hk h0 (.z .any) k
end
set_option maxRecDepth 100000 in
theorem e_Widen : Ent Try.prog 4 := fun _ _ => rfl
set_option maxRecDepth 8000 in
set_option maxHeartbeats 16000000 in
theorem lawWiden (t : Sh) (lo hi m : Int) (hm : 0 ≤ m ∧ m ≤ 255) (w : World) (ok : t.ok w) : Calls Try.prog 4 #[shV t, .agg #[.int .i64 lo, .int .i64 hi], .int .u8 m] w (RetP (Val (.bool true) w)) := by
  refine calls_of_cw (args := [.agg #[.slice t.A t.l.length t.cA, .slice t.B t.e.length t.cB, .slice t.C t.s.length t.cC], .agg #[.int .i64 lo, .int .i64 hi], .int .u8 m]) Try.func4 rfl rfl ?_
  have S := Sat.start [] w
  obtain ⟨q, hq⟩ : ∃ q, chk lo hi = q := ⟨_, rfl⟩
  by_cases hc : chk lo hi = 0
  · have hq0 : q = 0 := hq.symm.trans hc
    subst hq0
    have hlh : -100000 ≤ lo ∧ lo ≤ hi ∧ hi ≤ 100000 := by
      unfold chk at hc
      split at hc
      · split at hc
        · exact absurd hc (by decide)
        · omega
      · exact absurd hc (by decide)
    obtain ⟨lo', hlo⟩ : ∃ lo', (if -100000 > lo - m then -100000 else lo - m) = lo' := ⟨_, rfl⟩
    obtain ⟨hi', hhi⟩ : ∃ hi', (if 100000 < hi + m then 100000 else hi + m) = hi' := ⟨_, rfl⟩
    have hlo2 : -100000 ≤ lo' ∧ lo' ≤ lo := by split at hlo <;> omega
    have hhi2 : hi ≤ hi' ∧ hi' ≤ 100000 := by split at hhi <;> omega
    have hc' : chk lo' hi' = 0 := by unfold chk; rw [if_pos (by omega), if_neg (by omega)]
    have h1 := hlo2.2
    have h2 := hhi2.1
    by_cases hE : ∀ i, i < t.e.length → ¬ badJ t i
    · have hwi := logJ_wider (t := t) hc hc' h1 h2
      (repeat' (first | apply cw_seq | apply cw_region | apply wl_nil | apply cw_block | apply cw_skip | apply cw_ret | (apply x_builtin; exact rfl; exact rfl; exact (fun _ => rfl); exact is_int hlo) | (apply x_builtin; exact rfl; exact rfl; exact (fun _ => rfl); exact is_int hhi) | (apply x_callH (hs := fun _ => []); assumption; exact rfl; exact rfl; exact rfl; exact e_runShift; (exact (by repeat' constructor)); (with_reducible exact runShift_c t _ (ok.now (by assumption))); rintro ⟨b3, hb3⟩ w3 S3; cases b3 <;> replace S3 : Sat w [] _ w3 := S3 <;> first | (have hR := hb3 rfl; have h14 := hR.n) | skip) | (apply x_callv; assumption; exact rfl; exact rfl; exact rfl; exact e_runRecalls; (exact (by repeat' constructor)); (with_reducible exact runRecalls_c _); intro _ _ _) | (apply x_callv; assumption; exact rfl; exact rfl; exact rfl; exact e_rCheck; (exact (by repeat' constructor)); (with_reducible exact rCheck_y hq _); intro _ _ _) | (apply x_callrowE (m := t.e.length); assumption; exact rfl; exact rfl; exact rfl; exact e_runLog; (exact (by repeat' constructor)); (with_reducible exact runLog_yes hc h14 hE _ (ok.now (by assumption))); (exact (by rw [List.length_map, logJ_len])); intro _ _ _ _) | (apply x_callrowE (m := t.e.length); assumption; exact rfl; exact rfl; exact rfl; exact e_runLog; (exact (by repeat' constructor)); (with_reducible exact runLog_yes hc' h14 hE _ (ok.now (by assumption))); (exact (by rw [List.length_map, logJ_len])); intro _ _ _ _) | (apply x_callT (hs := fun a : NamesOf (reF (logJ t lo hi t.e.length)) => [a.ho]) (V := fun a => .tuple #[a.sl, .int .i64 0]); assumption; exact rfl; exact rfl; exact rfl; exact e_Parts; (exact (by repeat' constructor)); (with_reducible apply Parts_n (l := logJ t lo hi t.e.length)); exact (logJ_len _ _ _ _).symm; exact Sat.rowCap (E := 37) (size := 4) (xs := (logJ t lo hi t.e.length).map evC) (by assumption) (by exact (by repeat' constructor)); exact logJ_ok ok.hoe; exact logJ_right hR.e; exact Sat.rdmapN ev0 (by assumption) (by exact (by repeat' constructor)) (logJ_len _ _ _ _).symm; intro a1 w8 S8) | (apply x_callT (hs := fun a : NamesOf (reF (logJ t lo' hi' t.e.length)) => [a.ho]) (V := fun a => .tuple #[a.sl, .int .i64 0]); assumption; exact rfl; exact rfl; exact rfl; exact e_Parts; (exact (by repeat' constructor)); (with_reducible apply Parts_n (l := logJ t lo' hi' t.e.length)); exact (logJ_len _ _ _ _).symm; exact Sat.rowCap (E := 37) (size := 4) (xs := (logJ t lo' hi' t.e.length).map evC) (by assumption) (by exact (by repeat' constructor)); exact logJ_ok ok.hoe; exact logJ_right hR.e; exact Sat.rdmapN ev0 (by assumption) (by exact (by repeat' constructor)) (logJ_len _ _ _ _).symm; intro a2 w9 S9) | (apply x_not; exact rfl; exact rfl) | (apply x_move; exact rfl; exact rfl; (exact (by repeat' constructor))) | (apply x_assign; exact rfl; exact rfl; (exact (by repeat' constructor))) | (apply x_fieldB; exact rfl; exact rfl; exact rfl; exact rfl; (constructor)) | (apply x_load; assumption; exact rfl; exact rfl; exact rfl; (exact (by repeat' constructor)); exact rfl; exact rfl; (exact (by repeat' constructor))) | (apply x_bin; exact rfl; exact rfl; exact rfl; (first | exact .z (.wrap (by omega)) | exact (by repeat' constructor))) | (apply x_pick; exact rfl; exact rfl; exact rfl; (exact (by repeat' constructor))) | (apply x_un; exact rfl; exact rfl; exact rfl; (first | exact .z (.wrap (by omega)) | exact (by repeat' constructor))) | (apply x_box; assumption; exact rfl; exact rfl; (exact (by repeat' constructor)); (exact (by repeat' constructor)); intro _ _ _) | (apply x_alloc; assumption; exact rfl; exact rfl; exact rfl; (exact (by repeat' constructor)); intro _ _ _) | (apply x_store; assumption; exact rfl; exact rfl; (exact (by repeat' constructor)); (exact (by repeat' constructor)); exact rfl; exact rfl; exact rfl; (exact (by repeat' constructor)); intro _ _) | (apply x_build; exact rfl; exact rfl; exact rfl; (exact (by repeat' constructor))) | (apply x_extract; exact rfl; exact rfl; exact rfl; (exact (by repeat' constructor))) | (apply x_conv; exact rfl; exact rfl; exact rfl; (first | exact .z (.wrap (by omega)) | exact (by repeat' constructor))) | (apply x_builtin; exact rfl; exact rfl; exact (fun _ => rfl); (exact (by repeat' constructor))) | (apply cw_true; exact rfl) | (apply cw_false; exact rfl)))
      all_goals first
        | ((first | refine q_retS (by assumption) rfl (by repeat (first | exact .nil | (apply RV.tmp; exact (by repeat' constructor)) | (apply RV.cell; exact rfl; exact (by repeat' constructor); exact rfl; exact rfl; exact (by repeat' constructor)))) ?_ | (simp only [thenQ, blockQ]; refine q_retS (by assumption) rfl (by repeat (first | exact .nil | (apply RV.tmp; exact (by repeat' constructor)) | (apply RV.cell; exact rfl; exact (by repeat' constructor); exact rfl; exact rfl; exact (by repeat' constructor)))) ?_))
           exact ⟨rfl, Sat.keeps (by assumption)⟩)
        | (exfalso; omega)
        | skip
      replace S9 : Sat w [] [.rw 0 (.slice a1.A a1.ss.length a1.c) 9 1 (a1.ss.map strC), .rw 0 (.slice a2.A a2.ss.length a2.c) 9 1 (a2.ss.map strC)] w9 := Sat.drop S9 _ (by repeat (first | exact List.Sublist.refl _ | apply List.Sublist.cons))
      have hl1 : a1.ss.length ≤ 9223372036854775807 := Nat.le_trans (reF_len a1) (by rw [logJ_len]; omega)
      have hl2 : a2.ss.length ≤ 9223372036854775807 := Nat.le_trans (reF_len a2) (by rw [logJ_len]; omega)
      refine cw_loop [6, 16, 72, 73, 74, 75, 76, 77, 78, 79, 80] [72] (fun us wr => ∃ j : Nat, j ≤ a2.ss.length ∧ us = [.int .i64 j] ∧ Sat w [] [.rw 0 (.slice a1.A a1.ss.length a1.c) 9 1 (a1.ss.map strC), .rw 0 (.slice a2.A a2.ss.length a2.c) 9 1 (a2.ss.map strC)] wr) (fun us _ => a2.ss.length - (intOf (us.getD 0 undef)).toNat) ?_ ?_
      · exact ⟨0, Nat.zero_le _, rfl, S9⟩
      clear S9 S
      rintro g us wr ⟨j, hj, rfl, Sr⟩
      by_cases hlt : j < a2.ss.length
      · obtain ⟨s, hs⟩ : ∃ s, a2.ss.getD j nul = s := ⟨_, rfl⟩
        have hmem : memB s a1.ss = true := memB_iff.2 ((a1.mem s).2 (re_rel hwi ((a2.mem s).1 (hs ▸ getD_mem nul hlt))))
        (repeat' (first | apply cw_seq | apply cw_region | apply wl_nil | apply cw_block | apply cw_skip | (apply x_loadS (l := a2.ss) (v := s); exact rfl; exact rfl; exact rfl; exact Sat.rdmapN nul (by assumption) (by exact (by repeat' constructor)) rfl; exact hlt; exact hs; exact rfl; exact rfl) | (apply x_callv; assumption; exact rfl; exact rfl; exact rfl; exact e_ContainsS; (exact (by repeat' constructor)); (with_reducible refine ContainsS_y (xs := a1.ss) rfl hl1 hmem _ ?_); exact Sat.rdmapN nul (by assumption) (by exact (by repeat' constructor)) rfl; intro _ _ _) | (apply x_move; exact rfl; exact rfl; (exact (by repeat' constructor))) | (apply x_assign; exact rfl; exact rfl; (exact (by repeat' constructor))) | (apply x_bin; exact rfl; exact rfl; exact rfl; (first | exact .z (.wrap (by omega)) | exact (by repeat' constructor))) | (apply x_un; exact rfl; exact rfl; exact rfl; (first | exact .z (.wrap (by omega)) | exact (by repeat' constructor))) | (apply x_index; exact rfl; exact rfl; exact rfl; exact rfl; exact rfl; (constructor); (first | omega | exact size_pos (by assumption) | assumption); (first | exact rfl | assumption | exact Rd.some_ (by assumption) (by omega) | exact Rd.some_ (Old.rd (by assumption)) (by omega) | exact (Sat.rd (by assumption) (by exact (by repeat' constructor))).some_ (by omega))) | (apply cw_false; exact rfl) | (apply x_dec; exact rfl; all_goals (intro _; try omega))))
        all_goals first
          | (refine ⟨rfl, (by repeat (first | exact Agree.updl rfl (Agree.mask _ _ _) | refine Agree.upd rfl ?_)), ⟨j + 1, hlt, rfl, by assumption⟩, ?_⟩
             show a2.ss.length - (j + 1 : Int).toNat < a2.ss.length - (j : Int).toNat
             omega)
          | (exfalso; omega)
      · (repeat' (first | apply cw_seq | apply cw_region | apply wl_nil | apply cw_exit | apply cw_ret | (apply x_callv; assumption; exact rfl; exact rfl; exact rfl; exact e_runRecalls; (exact (by repeat' constructor)); (with_reducible exact runRecalls_c _); intro _ _ _) | (apply x_assign; exact rfl; exact rfl; (exact (by repeat' constructor))) | (apply x_bin; exact rfl; exact rfl; exact rfl; (first | exact .z (.wrap (by omega)) | exact (by repeat' constructor))) | (apply x_dec; exact rfl; all_goals (intro _; try omega))))
        (first | refine q_retS (by assumption) rfl (by repeat (first | exact .nil | (apply RV.tmp; exact (by repeat' constructor)) | (apply RV.cell; exact rfl; exact (by repeat' constructor); exact rfl; exact rfl; exact (by repeat' constructor)))) ?_ | (simp only [thenQ, blockQ]; refine q_retS (by assumption) rfl (by repeat (first | exact .nil | (apply RV.tmp; exact (by repeat' constructor)) | (apply RV.cell; exact rfl; exact (by repeat' constructor); exact rfl; exact rfl; exact (by repeat' constructor)))) ?_))
        exact ⟨rfl, Sat.keeps (by assumption)⟩
    · (repeat' (first | apply cw_seq | apply cw_region | apply wl_nil | apply cw_skip | apply cw_ret | (apply x_builtin; exact rfl; exact rfl; exact (fun _ => rfl); exact is_int hlo) | (apply x_builtin; exact rfl; exact rfl; exact (fun _ => rfl); exact is_int hhi) | (apply x_callH (hs := fun _ => []); assumption; exact rfl; exact rfl; exact rfl; exact e_runShift; (exact (by repeat' constructor)); (with_reducible exact runShift_c t _ (ok.now (by assumption))); rintro ⟨b3, hb3⟩ w3 S3; cases b3 <;> replace S3 : Sat w [] _ w3 := S3 <;> first | (have hR := hb3 rfl; have h14 := hR.n) | skip) | (apply x_callv; assumption; exact rfl; exact rfl; exact rfl; exact e_runRecalls; (exact (by repeat' constructor)); (with_reducible exact runRecalls_c _); intro _ _ _) | (apply x_callv; assumption; exact rfl; exact rfl; exact rfl; exact e_rCheck; (exact (by repeat' constructor)); (with_reducible exact rCheck_y hq _); intro _ _ _) | (apply x_callv; assumption; exact rfl; exact rfl; exact rfl; exact e_runLog; (exact (by repeat' constructor)); (with_reducible exact runLog_no hc h14 hE _ (ok.now (by assumption))); intro _ _ _) | (apply x_not; exact rfl; exact rfl) | (apply x_move; exact rfl; exact rfl; (exact (by repeat' constructor))) | (apply x_assign; exact rfl; exact rfl; (exact (by repeat' constructor))) | (apply x_fieldB; exact rfl; exact rfl; exact rfl; exact rfl; (constructor)) | (apply x_load; assumption; exact rfl; exact rfl; exact rfl; (exact (by repeat' constructor)); exact rfl; exact rfl; (exact (by repeat' constructor))) | (apply x_bin; exact rfl; exact rfl; exact rfl; (first | exact .z (.wrap (by omega)) | exact (by repeat' constructor))) | (apply x_pick; exact rfl; exact rfl; exact rfl; (exact (by repeat' constructor))) | (apply x_un; exact rfl; exact rfl; exact rfl; (first | exact .z (.wrap (by omega)) | exact (by repeat' constructor))) | (apply x_box; assumption; exact rfl; exact rfl; (exact (by repeat' constructor)); (exact (by repeat' constructor)); intro _ _ _) | (apply x_alloc; assumption; exact rfl; exact rfl; exact rfl; (exact (by repeat' constructor)); intro _ _ _) | (apply x_store; assumption; exact rfl; exact rfl; (exact (by repeat' constructor)); (exact (by repeat' constructor)); exact rfl; exact rfl; exact rfl; (exact (by repeat' constructor)); intro _ _) | (apply x_build; exact rfl; exact rfl; exact rfl; (exact (by repeat' constructor))) | (apply x_extract; exact rfl; exact rfl; exact rfl; (exact (by repeat' constructor))) | (apply x_conv; exact rfl; exact rfl; exact rfl; (first | exact .z (.wrap (by omega)) | exact (by repeat' constructor))) | (apply cw_true; exact rfl) | (apply cw_false; exact rfl)))
      all_goals first
        | ((first | refine q_retS (by assumption) rfl (by repeat (first | exact .nil | (apply RV.tmp; exact (by repeat' constructor)) | (apply RV.cell; exact rfl; exact (by repeat' constructor); exact rfl; exact rfl; exact (by repeat' constructor)))) ?_ | (simp only [thenQ, blockQ]; refine q_retS (by assumption) rfl (by repeat (first | exact .nil | (apply RV.tmp; exact (by repeat' constructor)) | (apply RV.cell; exact rfl; exact (by repeat' constructor); exact rfl; exact rfl; exact (by repeat' constructor)))) ?_))
           exact ⟨rfl, Sat.keeps (by assumption)⟩)
        | (exfalso; omega)
        | skip
  · have hq0 : ¬ q = 0 := fun h => hc (hq.trans h)
    (repeat' (first | apply cw_seq | apply cw_region | apply wl_nil | apply cw_ret | (apply x_callH (hs := fun _ => []); assumption; exact rfl; exact rfl; exact rfl; exact e_runShift; (exact (by repeat' constructor)); (with_reducible exact runShift_c t _ (ok.now (by assumption))); rintro ⟨b3, hb3⟩ w3 S3; cases b3 <;> replace S3 : Sat w [] _ w3 := S3 <;> first | (have hR := hb3 rfl; have h14 := hR.n) | skip) | (apply x_callv; assumption; exact rfl; exact rfl; exact rfl; exact e_runRecalls; (exact (by repeat' constructor)); (with_reducible exact runRecalls_c _); intro _ _ _) | (apply x_callv; assumption; exact rfl; exact rfl; exact rfl; exact e_rCheck; (exact (by repeat' constructor)); (with_reducible exact rCheck_y hq _); intro _ _ _) | (apply x_not; exact rfl; exact rfl) | (apply x_move; exact rfl; exact rfl; (exact (by repeat' constructor))) | (apply x_assign; exact rfl; exact rfl; (exact (by repeat' constructor))) | (apply x_load; assumption; exact rfl; exact rfl; exact rfl; (exact (by repeat' constructor)); exact rfl; exact rfl; (exact (by repeat' constructor))) | (apply x_bin; exact rfl; exact rfl; exact rfl; (first | exact .z (.wrap (by omega)) | exact (by repeat' constructor))) | (apply x_pick; exact rfl; exact rfl; exact rfl; (exact (by repeat' constructor))) | (apply x_un; exact rfl; exact rfl; exact rfl; (first | exact .z (.wrap (by omega)) | exact (by repeat' constructor))) | (apply x_box; assumption; exact rfl; exact rfl; (exact (by repeat' constructor)); (exact (by repeat' constructor)); intro _ _ _) | (apply cw_true; exact rfl) | (apply cw_ne; exact rfl; all_goals (intro _; try omega))))
    all_goals first
      | ((first | refine q_retS (by assumption) rfl (by repeat (first | exact .nil | (apply RV.tmp; exact (by repeat' constructor)) | (apply RV.cell; exact rfl; exact (by repeat' constructor); exact rfl; exact rfl; exact (by repeat' constructor)))) ?_ | (simp only [thenQ, blockQ]; refine q_retS (by assumption) rfl (by repeat (first | exact .nil | (apply RV.tmp; exact (by repeat' constructor)) | (apply RV.cell; exact rfl; exact (by repeat' constructor); exact rfl; exact rfl; exact (by repeat' constructor)))) ?_))
         exact ⟨rfl, Sat.keeps (by assumption)⟩)
      | (exfalso; omega)
      | skip
end Go.Proofs.Ytnndkdcciojpiaa.Rl
