/- Fits and sizes that are drawn within their limits. No statement of the seat is proved here. -/
import Derived.Test.YtdkknknebehkgaaTfh
import Derived.Test.YtdkknknebehkgaaSn
namespace Go.Proofs.Ytdkknknebehkgaa.Sl
set_option linter.unusedVariables false
set_option linter.unusedSimpArgs false
open Go Go.RowKit
theorem fit0 {f : Ft} (h : fitE f = 0) : sizeE f.s = 0 ∧ clsE f.l1 f.g1 = 0 ∧ clsE f.l2 f.g2 = 0 ∧ (limS f.b1 f.s f.l1 f.g1).2 = 0 ∧ (limS f.b2 f.s f.l2 f.g2).2 = 0 := by
  unfold fitE at h
  split at h
  · exact absurd h (by assumption)
  split at h
  · exact absurd h (by assumption)
  split at h
  · exact absurd h (by assumption)
  split at h
  · cases h
  split at h
  · exact absurd h (by assumption)
  rename_i h1 h2 h3 h4 h5
  exact ⟨Classical.not_not.1 h1, Classical.not_not.1 h2, Classical.not_not.1 h3, Classical.not_not.1 h5, h⟩
theorem lim_ok {b : Bool} {s l g : Int} (hs : sizeE s = 0) (hc : clsE l g = 0) (h : (limS b s l g).2 = 0) :
    (limS b s l g).1 = (s + (awayV b s l g).1, s + (awayV b s l g).2) ∧ 1 ≤ s + (awayV b s l g).1 ∧ s + (awayV b s l g).1 ≤ s + (awayV b s l g).2 ∧ s + (awayV b s l g).2 ≤ 100000 := by
  have hd : devS b s l g = (awayV b s l g, 0) := by rw [devS, if_neg (fun e => e hs), if_neg (fun e => e hc)]
  have hb := limS_b b s l g
  unfold limS at h hb ⊢
  rw [hd] at h hb ⊢
  rw [if_neg (by simp)] at h hb ⊢
  split at h
  · cases h
  · rename_i h1
    rw [if_neg h1] at hb ⊢
    refine ⟨rfl, ?_⟩
    dsimp only at h1 hb
    omega
/-- the limits of a right fit -/
abbrev loA (f : Ft) : Int := f.s + (awayV f.b1 f.s f.l1 f.g1).1
abbrev hiA (f : Ft) : Int := f.s + (awayV f.b1 f.s f.l1 f.g1).2
abbrev loB (f : Ft) : Int := f.s + (awayV f.b2 f.s f.l2 f.g2).1
abbrev hiB (f : Ft) : Int := f.s + (awayV f.b2 f.s f.l2 f.g2).2
theorem fit_lims {f : Ft} (h : fitE f = 0) : (1 ≤ loA f ∧ loA f ≤ hiA f ∧ hiA f ≤ 100000) ∧ (1 ≤ loB f ∧ loB f ≤ hiB f ∧ hiB f ≤ 100000) ∧ clrS f = (loA f - hiB f, hiA f - loB f) := by
  obtain ⟨h1, h2, h3, h4, h5⟩ := fit0 h
  have a := lim_ok h1 h2 h4
  have b := lim_ok h1 h3 h5
  refine ⟨a.2, b.2, ?_⟩
  unfold clrS
  rw [(ck_ok h).2]
  unfold bothV
  rw [a.1, b.1]
theorem away_s {b : Bool} {s l g : Int} (hs : sizeE s = 0) : 1 ≤ s ∧ s ≤ 100000 := by
  unfold sizeE at hs
  split at hs
  · cases hs
  · omega
set_option maxRecDepth 100000 in
theorem e_both16 : Ent Try.prog 6 := fun _ _ => rfl
set_option maxRecDepth 8000 in
set_option maxHeartbeats 4000000 in
theorem both16_c (f : Ft) (h : fitE f = 0) (w : World) : Calls Try.prog 6 #[.agg #[.int .i64 (f).s, .bool (f).b1, .int .i64 (f).l1, .int .i64 (f).g1, .bool (f).b2, .int .i64 (f).l2, .int .i64 (f).g2]] w (RetP (Val (.tuple #[.agg #[.int .i64 (loA f), .int .i64 (hiA f)], .agg #[.int .i64 (loB f), .int .i64 (hiB f)]]) w)) := by
  refine calls_of_cw (args := [.agg #[.int .i64 (f).s, .bool (f).b1, .int .i64 (f).l1, .int .i64 (f).g1, .bool (f).b2, .int .i64 (f).l2, .int .i64 (f).g2]]) Try.func6 rfl rfl ?_
  have S := Sat.start [] w
  have hm := fit_lims h
  have ca := cls0 (fit0 h).2.1
  have cb := cls0 (fit0 h).2.2.1
  obtain ⟨s, b1, l1, g1, b2, l2, g2⟩ := f
  dsimp only [loA, hiA, loB, hiB] at *
  have ra := fun w => rAway_c b1 s l1 g1 ca.1 ca.2 w
  have rb := fun w => rAway_c b2 s l2 g2 cb.1 cb.2 w
  obtain ⟨⟨a1, a2⟩, ea⟩ : ∃ x, awayV b1 s l1 g1 = x := ⟨_, rfl⟩
  obtain ⟨⟨c1, c2⟩, ec⟩ : ∃ x, awayV b2 s l2 g2 = x := ⟨_, rfl⟩
  rw [ea, ec] at hm
  simp only [ea] at ra
  simp only [ec] at rb
  rw [ea, ec]
  obtain ⟨m1, m2, _⟩ := hm
  clear ea ec ca cb h
  dsimp only at m1 m2 ⊢
  (repeat' (first | apply cw_seq | apply cw_region | apply wl_nil | (apply z1_callv; exact rfl; exact rfl; exact e_rAway; (exact (by repeat' constructor)); with_reducible exact (fun _ _ => ra _)) | (apply z1_callv; exact rfl; exact rfl; exact e_rAway; (exact (by repeat' constructor)); with_reducible exact (fun _ _ => rb _)) | (apply cw_draw (id := 1) [(0, 0), (1, 0), (2, 0), (3, 0), (5, 0), (6, 0), (7, 0), (8, 0), (4, 1), (9, 1), (10, 4), (11, 4), (12, 2), (13, 2)]; assumption; exact mixed; kernel_rfl) | (apply x_box; assumption; exact rfl; exact rfl; (exact (by repeat' constructor)); (exact (by repeat' constructor)); intro _ _ _) | (apply x_alloc; assumption; exact rfl; exact rfl; exact rfl; (exact (by repeat' constructor)); intro _ _ _) | (apply y_fieldB; exact rfl; exact rfl; exact rfl; (constructor)) | (apply y_load; exact rfl; exact rfl; (exact (by repeat' constructor)); exact rfl; exact rfl; (exact (by repeat' constructor))) | (apply z3_alloc; exact rfl; (exact (by repeat' constructor)); intro _) | (apply z2_store; exact rfl; exact rfl; (exact (by repeat' constructor)); (exact (by repeat' constructor)); exact rfl; exact rfl; exact rfl; (exact (by repeat' constructor))) | (apply y_nil; intro _ _)))
  rename_i bf _ _ br2 _ _ br3 _ _ ba bc w4 S4
  have S5 := S4.perm' ((List.perm_append_comm (l₁ := [_, _]) (l₂ := [_, _])).append_right _)
  replace S5 : Sat w [] ([_, _] ++ (_ :: _ :: _ :: [])) w4 := S5
  have Q1 := Sat.oldOf S5 (b := bc) (T := 33) (cs := [.int .i64 c1, .int .i64 c2]) (Has.mem (by exact (by repeat' constructor)))
  have Q2 := Sat.oldOf S5 (b := ba) (T := 33) (cs := [.int .i64 a1, .int .i64 a2]) (Has.mem (by exact (by repeat' constructor)))
  have Q3 := Sat.oldOf S5 (b := bf) (T := 29) (cs := [.int .i64 s, .bool b1, .int .i64 l1, .int .i64 g1, .bool b2, .int .i64 l2, .int .i64 g2]) (Has.mem (by exact (by repeat' constructor)))
  have mrg := fun hc' w' (S' : Sat w4 _ hc' w') => S5.merge S'
  have Sp := S5.part
  clear S4 S5
  (repeat' (first | apply cw_ret | (apply cw_draw (id := 2) [(0, 0), (1, 0), (2, 0), (3, 0), (4, 0), (5, 0), (6, 0), (7, 0), (8, 0), (9, 0), (10, 0), (11, 3), (12, 3), (13, 3), (14, 3), (15, 3), (16, 3), (17, 3), (18, 3), (19, 3), (20, 3), (21, 3), (22, 2), (23, 2)]; assumption; exact mixed; kernel_rfl) | (apply y_fieldB; exact rfl; exact rfl; exact rfl; (constructor)) | (apply y_bin; exact rfl; exact (fun _ => rfl); (first | exact .z (.wrap (by omega)) | exact (by repeat' constructor))) | (apply y_build; exact rfl; exact rfl; (exact (by repeat' constructor))) | (apply y_loadB; exact rfl; exact rfl; assumption; exact rfl; exact rfl; (exact (by repeat' constructor))) | (apply z2_store; exact rfl; exact rfl; (exact (by repeat' constructor)); (exact (by repeat' constructor)); exact rfl; exact rfl; exact rfl; (exact (by repeat' constructor))) | (apply PV.up3) | (apply y_nil; intro _ _)))
  (first | refine q_retS (by assumption) rfl (by repeat (first | exact .nil | (apply RV.tmp; exact (by repeat' constructor)) | (apply RV.cell; exact rfl; exact (by repeat' constructor); exact rfl; exact rfl; exact (by repeat' constructor)))) ?_ | (simp only [thenQ, blockQ]; refine q_retS (by assumption) rfl (by repeat (first | exact .nil | (apply RV.tmp; exact (by repeat' constructor)) | (apply RV.cell; exact rfl; exact (by repeat' constructor); exact rfl; exact rfl; exact (by repeat' constructor)))) ?_))
  exact ⟨rfl, Sat.keeps (mrg _ _ (by assumption))⟩
end Go.Proofs.Ytdkknknebehkgaa.Sl
namespace Go.Proofs.Ytdkknknebehkgaa.Sl
set_option linter.unusedVariables false
set_option linter.unusedSimpArgs false
open Go Go.RowKit
def msr (lo hi b : Int) : Int := lo + b % (hi - lo + 1)
theorem msr_in {lo hi b : Int} (h : lo ≤ hi) : lo ≤ msr lo hi b ∧ msr lo hi b ≤ hi := by
  unfold msr
  have h1 := Int.emod_nonneg b (show hi - lo + 1 ≠ 0 by omega)
  have h2 := Int.emod_lt_of_pos b (show 0 < hi - lo + 1 by omega)
  omega
abbrev uC (x : Int) : List Value := [.int .u8 x]
theorem take_more {l : List Int} {k : Nat} (h : k < l.length) (f : Int → Int) : ((l.take (k + 1)).map f).map zC = ((l.take k).map f).map zC ++ [zC (f (l.getD k 0))] := by
  have e : l.take (k + 1) = l.take k ++ [l.getD k 0] := by
    rw [List.take_succ_eq_append_getElem h]
    simp [List.getD_eq_getElem?_getD, h]
  rw [e]; simp
set_option maxRecDepth 100000 in
theorem e_msr : Ent Try.prog 7 := fun _ _ => rfl
set_option maxRecDepth 8000 in
set_option maxHeartbeats 4000000 in
theorem msr_c (lo hi : Int) (h : 1 ≤ lo ∧ lo ≤ hi ∧ hi ≤ 100000) (A : Option Addr) (c : Nat) (bs : List Int) (hl : bs.length ≤ 8) (hbs : ∀ i, i < bs.length → 0 ≤ bs.getD i 0 ∧ bs.getD i 0 ≤ 255) (w : World) (R : Rd w A 1 bs.length (fun i => uC (bs.getD i 0))) :
    Calls Try.prog 7 #[.agg #[.int .i64 lo, .int .i64 hi], .slice A bs.length c] w (RetP (RowR (fun v => v) 3 1 ((bs.map (msr lo hi)).map zC) w)) := by
  refine calls_of_cw (args := [.agg #[.int .i64 lo, .int .i64 hi], .slice A bs.length c]) Try.func7 rfl rfl ?_
  have S := Sat.start [] w
  have O := R.old
  (repeat' (first | apply cw_seq | apply cw_region | apply wl_nil | apply cw_block | (apply x_box; assumption; exact rfl; exact rfl; (exact (by repeat' constructor)); (exact (by repeat' constructor)); intro b2 w2 S2) | (apply x_move; exact rfl; exact rfl; (exact (by repeat' constructor))) | (apply x_assign; exact rfl; exact rfl; (exact (by repeat' constructor))) | (apply x_builtin; exact rfl; exact rfl; exact (fun _ => rfl); (exact (by repeat' constructor)))))
  refine cw_loop [5, 7, 10, 11, 12, 13, 14, 15, 16, 17, 18, 19, 20, 21, 22, 23, 24, 25, 26, 27, 28, 29] [10, 5] (fun us wr => ∃ (k : Nat) (A' : Option Addr) (c' : Nat), k ≤ bs.length ∧ us = [.int .i64 k, .slice A' k c'] ∧ Sat w [] [.rw 0 (.slice A' k c') 3 1 (((bs.take k).map (msr lo hi)).map zC), .cl b2 33 [.int .i64 lo, .int .i64 hi]] wr) (fun us _ => bs.length - (intOf (us.getD 0 undef)).toNat) ?_ ?_
  · exact ⟨0, none, 0, Nat.zero_le _, rfl, S2.addNil _ _⟩
  clear S S2
  rintro g us wr ⟨k, A', c', hk, rfl, Sr⟩
  by_cases hlt : k < bs.length
  · have hb := hbs k hlt
    have e : (((bs.take k).map (msr lo hi)).map zC).length = k := by simp; omega
    (repeat' (first | apply cw_seq | apply cw_region | apply wl_nil | apply cw_block | apply cw_skip | (apply cw_draw (id := 5) [(0, 0), (1, 0), (2, 0), (3, 0), (4, 0), (5, 0), (6, 0), (7, 0), (8, 0), (9, 0), (10, 0), (11, 0), (12, 0), (13, 2), (14, 2), (15, 0)]; assumption; exact mixed; kernel_rfl) | (apply x_move; exact rfl; exact rfl; (exact (by repeat' constructor))) | (apply x_assign; exact rfl; exact rfl; (exact (by repeat' constructor))) | (apply x_bin; exact rfl; exact rfl; exact rfl; (first | exact .z (.wrap (by omega)) | exact (by repeat' constructor))) | (apply x_index; exact rfl; exact rfl; exact rfl; exact rfl; exact rfl; (constructor); (first | omega | exact size_pos (by assumption) | assumption); (first | exact rfl | assumption | exact Rd.some_ (by assumption) (by omega) | exact Rd.some_ (Old.rd (by assumption)) (by omega) | exact (Sat.rd (by assumption) (by exact (by repeat' constructor))).some_ (by omega))) | (apply x_loadR; exact rfl; exact rfl; exact rfl; (first | exact Old.now (by assumption) (by assumption) | exact Sat.rdpr (by assumption) (by exact (by repeat' constructor)) | exact Sat.rd (by assumption) (by exact (by repeat' constructor))); (first | omega | exact size_pos (by assumption) | assumption); exact rfl; exact rfl; (exact (by repeat' constructor))) | (apply z2_append1; exact rfl; exact rfl; exact rfl; exact rfl; exact (by repeat' constructor); exact (by repeat' constructor); exact rfl; exact rfl; exact rfl; (first | assumption | omega | (simp; omega)); intro _ _) | (apply y_rem; exact rfl; exact rfl; exact rfl; (exact (by omega)); (exact (by omega))) | (apply y_move; exact rfl; (exact (by repeat' constructor))) | (apply y_assign; exact rfl; (exact (by repeat' constructor))) | (apply y_fieldB; exact rfl; exact rfl; exact rfl; (constructor)) | (apply y_load; exact rfl; exact rfl; (exact (by repeat' constructor)); exact rfl; exact rfl; (exact (by repeat' constructor))) | (apply y_bin; exact rfl; exact (fun _ => rfl); (first | exact .z (.wrap (by omega)) | exact (by repeat' constructor))) | (apply y_conv; exact rfl; exact (fun _ => rfl); (first | exact .z (.wrap (by omega)) | exact (by repeat' constructor))) | (apply z2_buildSlice; exact rfl; exact rfl; (exact (by repeat' constructor)); intro _) | (apply y_nil; intro _ _) | (apply x_dec; exact rfl; all_goals (intro _; try omega))))
    rename_i gA cA wz Sz
    have hin := msr_in (b := bs.getD k 0) h.2.1
    have hw : IntKind.i64.wrap (lo + bs.getD k 0 % (hi - lo + 1)) = msr lo hi (bs.getD k 0) := by
      unfold msr at hin ⊢
      rw [IntKind.wrap_i64]; omega
    rw [hw, ← take_more hlt] at Sz
    refine ⟨rfl, (by repeat (first | exact Agree.updl rfl (Agree.mask _ _ _) | refine Agree.upd rfl ?_)), ⟨k + 1, some ⟨gA, 0, none⟩, cA, hlt, Eq.trans (b := [Value.int .i64 ((k : Int) + 1), Value.slice (some ⟨gA, 0, none⟩) ((((bs.take k).map (msr lo hi)).map zC).length + 1) cA]) rfl (by rw [e]; rfl), by rw [e] at Sz; exact Sz.drop1⟩, ?_⟩
    show bs.length - (k + 1 : Int).toNat < bs.length - (k : Int).toNat
    omega
  · have hke : k = bs.length := by omega
    subst hke
    rw [List.take_length] at Sr
    (repeat' (first | apply cw_seq | apply cw_region | apply wl_nil | apply cw_exit | apply cw_ret | (apply x_move; exact rfl; exact rfl; (exact (by repeat' constructor))) | (apply x_assign; exact rfl; exact rfl; (exact (by repeat' constructor))) | (apply x_bin; exact rfl; exact rfl; exact rfl; (first | exact .z (.wrap (by omega)) | exact (by repeat' constructor))) | (apply x_dec; exact rfl; all_goals (intro _; try omega))))
    (first | refine q_retS (by assumption) rfl (by repeat (first | exact .nil | (apply RV.tmp; exact (by repeat' constructor)) | (apply RV.cell; exact rfl; exact (by repeat' constructor); exact rfl; exact rfl; exact (by repeat' constructor)))) ?_ | (simp only [thenQ, blockQ]; refine q_retS (by assumption) rfl (by repeat (first | exact .nil | (apply RV.tmp; exact (by repeat' constructor)) | (apply RV.cell; exact rfl; exact (by repeat' constructor); exact rfl; exact rfl; exact (by repeat' constructor)))) ?_))
    exact rowR_n (V := fun v => v) (by simp) Sr .head
end Go.Proofs.Ytdkknknebehkgaa.Sl
