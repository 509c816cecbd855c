/- Dimensions: their names and limits, checked, for chapters of loops and stacks. No statement of the seat is proved here. -/
import Derived.Test.YtdkknknebehkgaaGreatDoorCm
import Derived.Test.YtdkknknebehkgaaGreatDoorEngG
import Derived.Test.YtdkknknebehkgaaGreatDoorEngW
namespace Go.Proofs.YtdkknknebehkgaaGreatDoor
set_option linter.unusedVariables false
set_option linter.unusedSimpArgs false
open Go Go.RowKit
theorem flat_Dimension : flatT Tryz.prog 9 52 = some [2, 2, 0, 0, 0] := by kernel_rfl
set_option maxRecDepth 100000 in
theorem e_limits : Ent Tryz.prog 94 := fun _ _ => rfl
set_option maxRecDepth 100000 in
theorem e_limits1 : Ent Tryz.prog 102 := fun _ _ => rfl
set_option maxRecDepth 8000 in
theorem limits_c (a b : Int) (w : World) : Calls Tryz.prog 94 #[.agg #[.int .i64 a, .int .i64 b]] w (RetP (NewR (fun b => .func (.func 102) #[] #[.pointer (some ⟨b, 0, none⟩)]) 47 [.int .i64 a, .int .i64 b] w)) := by
  refine calls_of_cw (args := [.agg #[.int .i64 a, .int .i64 b]]) Tryz.func94 rfl rfl ?_
  have S := Sat.start [] w
  (repeat' (first | apply cw_seq | apply cw_region | apply wl_nil | apply cw_ret | (apply x_assign; exact rfl; exact rfl; (exact (by repeat' constructor))) | (apply x_box; assumption; exact rfl; exact rfl; (exact (by repeat' constructor)); (exact (by repeat' constructor)); intro _ _ _) | (apply x_makeFunc; exact rfl; exact rfl; (exact (by repeat' constructor)))))
  all_goals (first | refine q_retS (by assumption) rfl (by repeat (first | exact .nil | (apply RV.tmp; exact (by repeat' constructor)) | (apply RV.cell; exact rfl; exact (by repeat' constructor); exact rfl; exact rfl; exact (by repeat' constructor)))) ?_ | (simp only [thenQ, blockQ]; refine q_retS (by assumption) rfl (by repeat (first | exact .nil | (apply RV.tmp; exact (by repeat' constructor)) | (apply RV.cell; exact rfl; exact (by repeat' constructor); exact rfl; exact rfl; exact (by repeat' constructor)))) ?_))
  all_goals exact Sat.newR (by assumption) (by exact (by repeat' constructor))
set_option maxRecDepth 8000 in
theorem limits1_y {w : World} {b : Nat} {x y : Int} (hb : w.heap[b]? = some (.cells #[.int .i64 x, .int .i64 y] 47 (0, 0))) :
    Yields Tryz.prog w (.func (.func 102) #[] #[.pointer (some ⟨b, 0, none⟩)]) (chk x y) := by
  refine ⟨_, [.pointer (some ⟨b, 0, none⟩)], rfl, e_limits1, fun w1 hk => ?_⟩
  have O : OldB w1 [] b 47 [.int .i64 x, .int .i64 y] := ⟨(hk.block b (Array.getElem?_eq_some_iff.1 hb).1 (by simp)).trans hb, by simp⟩
  refine calls_of_cw (args := [.pointer (some ⟨b, 0, none⟩)]) Tryz.func102 rfl rfl ?_
  have S := Sat.start [] w1
  (repeat' (first | apply cw_seq | apply cw_region | apply wl_nil | apply cw_ret | (apply x_callv; assumption; exact rfl; exact rfl; exact rfl; exact e_Check; (exact (by repeat' constructor)); exact (Check_c _ _ _); intro _ _ _) | (apply x_assign; exact rfl; exact rfl; (exact (by repeat' constructor))) | (apply x_loadB; assumption; exact rfl; exact rfl; exact rfl; assumption; exact rfl; exact rfl; (exact (by repeat' constructor)))))
  all_goals (first | refine q_retS (by assumption) rfl (by repeat (first | exact .nil | (apply RV.tmp; exact (by repeat' constructor)) | (apply RV.cell; exact rfl; exact (by repeat' constructor); exact rfl; exact rfl; exact (by repeat' constructor)))) ?_ | (simp only [thenQ, blockQ]; refine q_retS (by assumption) rfl (by repeat (first | exact .nil | (apply RV.tmp; exact (by repeat' constructor)) | (apply RV.cell; exact rfl; exact (by repeat' constructor); exact rfl; exact rfl; exact (by repeat' constructor)))) ?_))
  all_goals exact ⟨rfl, Sat.keeps (by assumption)⟩

def firstE : List Int → Int
  | [] => 0
  | e :: r => if e = 0 then firstE r else e
theorem firstE_drop (es : List Int) (k : Nat) (e : Int) (h : es[k]? = some e) : firstE (es.drop k) = if e = 0 then firstE (es.drop (k + 1)) else e := by
  obtain ⟨hk, rfl⟩ := List.getElem?_eq_some_iff.1 h
  rw [List.drop_eq_getElem_cons hk]; rfl
set_option maxRecDepth 100000 in
theorem e_first : Ent Tryz.prog 91 := fun _ _ => rfl
set_option maxRecDepth 8000 in
theorem first_c (A : Option Addr) (c : Nat) (vs : List Value) (es : List Int) (w : World) (hn : vs.length ≤ 1000) (R : Rd w A 1 vs.length (fun i => [vs.getD i undef])) (hy : YL Tryz.prog w vs es) :
    Calls Tryz.prog 91 #[.slice A vs.length c] w (RetP (Val (.int .i64 (firstE es)) w)) := by
  refine calls_of_cw (args := [.slice A vs.length c]) Tryz.func91 rfl rfl ?_
  have S := Sat.start [] w
  have O := R.old
  (repeat' (first | apply cw_seq | apply cw_region | apply wl_nil | apply cw_block | (apply x_move; exact rfl; exact rfl; (exact (by repeat' constructor))) | (apply x_assign; exact rfl; exact rfl; (exact (by repeat' constructor))) | (apply x_builtin; exact rfl; exact rfl; exact (fun _ => rfl); (exact (by repeat' constructor)))))
  refine cw_loop [2, 4, 5, 8, 9, 10, 11, 12, 13, 14, 15, 16, 17] [8] (fun us wr => ∃ k : Nat, k ≤ vs.length ∧ us = [.int .i64 k] ∧ Sat w [] [] wr ∧ firstE es = firstE (es.drop k)) (fun us _ => vs.length - (intOf (us.getD 0 undef)).toNat) ?_ ?_
  · exact ⟨0, by omega, rfl, S, rfl⟩
  rintro g us wr ⟨k, hk, rfl, Sr, hfe⟩
  by_cases hlt : k < vs.length
  · obtain ⟨v, e, hv, he, K, cp, rfl, hE, hc⟩ := hy.get k hlt
    have hvk : ldv none [vs.getD k undef] 0 = some (.func (.func K) #[] cp.toArray) := by simp [ldv, List.getD_eq_getElem?_getD, hv]
    have hce := fun w1 (hk : Keeps [] w w1) => hc w1 hk
    clear S
    (repeat' (first | apply cw_seq | apply cw_region | apply wl_nil | apply cw_block | apply cw_skip | apply cw_ret | (apply x_loadR; exact rfl; exact rfl; exact rfl; exact O.now Sr; exact hlt; exact rfl; exact hvk; exact .z .func) | (apply x_callv; assumption; exact rfl; exact rfl; exact rfl; exact hE; exact NA.rfl_ _; exact hce _ Sr.keeps; intro _ _ _) | (apply x_move; exact rfl; exact rfl; (exact (by repeat' constructor))) | (apply x_assign; exact rfl; exact rfl; (exact (by repeat' constructor))) | (apply x_bin; exact rfl; exact rfl; exact rfl; (first | exact .z (.wrap (by omega)) | exact (by repeat' constructor))) | (apply x_index; exact rfl; exact rfl; exact rfl; exact rfl; exact rfl; (constructor); (first | omega | exact size_pos (by assumption) | assumption); (first | exact rfl | assumption | exact Rd.some_ (by assumption) (by omega) | exact Rd.some_ (Old.rd (by assumption)) (by omega) | exact (Sat.rd (by assumption) (by exact (by repeat' constructor))).some_ (by omega))) | (apply x_dec; exact rfl; all_goals (intro _; try omega)) | (apply cw_ne; exact rfl; all_goals (intro _; try omega))))
    · refine q_retS (by assumption) rfl (by repeat (first | exact .nil | (apply RV.tmp; exact (by repeat' constructor)) | (apply RV.cell; exact rfl; exact (by repeat' constructor); exact rfl; exact rfl; exact (by repeat' constructor)))) ⟨?_, Sat.keeps (by assumption)⟩
      rw [hfe, firstE_drop es k e he, if_neg (by assumption)]; rfl
    · refine ⟨rfl, (by repeat (first | exact Agree.updl rfl (Agree.mask _ _ _) | refine Agree.upd rfl ?_)), ⟨k + 1, hlt, rfl, by assumption, ?_⟩, ?_⟩
      · rw [hfe, firstE_drop es k e he, if_pos (by assumption)]
      · show vs.length - (k + 1 : Int).toNat < vs.length - (k : Int).toNat
        omega
  · clear S
    (repeat' (first | apply cw_seq | apply cw_region | apply wl_nil | apply cw_exit | apply cw_ret | (apply x_assign; exact rfl; exact rfl; (exact (by repeat' constructor))) | (apply x_bin; exact rfl; exact rfl; exact rfl; (first | exact .z (.wrap (by omega)) | exact (by repeat' constructor))) | (apply x_dec; exact rfl; all_goals (intro _; try omega))))
    (first | refine q_retS (by assumption) rfl (by repeat (first | exact .nil | (apply RV.tmp; exact (by repeat' constructor)) | (apply RV.cell; exact rfl; exact (by repeat' constructor); exact rfl; exact rfl; exact (by repeat' constructor)))) ?_ | (simp only [thenQ, blockQ]; refine q_retS (by assumption) rfl (by repeat (first | exact .nil | (apply RV.tmp; exact (by repeat' constructor)) | (apply RV.cell; exact rfl; exact (by repeat' constructor); exact rfl; exact rfl; exact (by repeat' constructor)))) ?_))
    refine ⟨?_, Sr.keeps⟩
    rw [hfe, List.drop_of_length_le (by rw [hy.len]; omega)]; rfl
set_option maxRecDepth 100000 in
theorem e_name1 : Ent Tryz.prog 100 := fun _ _ => rfl
set_option maxRecDepth 100000 in
theorem e_name : Ent Tryz.prog 92 := fun _ _ => rfl
set_option maxRecDepth 4000 in
set_option maxHeartbeats 2000000 in
theorem name_c (s : ByteArray) (w : World) : Calls Tryz.prog 92 #[.string s] w (RetP (NewR (fun b => .func (.func 100) #[] #[.pointer (some ⟨b, 0, none⟩)]) 9 [.string s] w)) := by
  refine calls_of_cw (args := [.string s]) Tryz.func92 rfl rfl ?_
  have S := Sat.start [] w
  (repeat' (first | apply cw_seq | apply cw_region | apply wl_nil | apply cw_ret | (apply x_assign; exact rfl; exact rfl; (exact (by repeat' constructor))) | (apply x_box; assumption; exact rfl; exact rfl; (exact (by repeat' constructor)); (exact (by repeat' constructor)); intro _ _ _) | (apply x_makeFunc; exact rfl; exact rfl; (exact (by repeat' constructor)))))
  all_goals (first | refine q_retS (by assumption) rfl (by repeat (first | exact .nil | (apply RV.tmp; exact (by repeat' constructor)) | (apply RV.cell; exact rfl; exact (by repeat' constructor); exact rfl; exact rfl; exact (by repeat' constructor)))) ?_ | (simp only [thenQ, blockQ]; refine q_retS (by assumption) rfl (by repeat (first | exact .nil | (apply RV.tmp; exact (by repeat' constructor)) | (apply RV.cell; exact rfl; exact (by repeat' constructor); exact rfl; exact rfl; exact (by repeat' constructor)))) ?_))
  all_goals exact Sat.newR (by assumption) (by exact (by repeat' constructor))
set_option maxRecDepth 8000 in
theorem name1_y {w : World} {b : Nat} {s : ByteArray} (hs : s.size ≤ 9223372036854775807) (hb : w.heap[b]? = some (.cells #[.string s] 9 (0, 0))) :
    Yields Tryz.prog w (.func (.func 100) #[] #[.pointer (some ⟨b, 0, none⟩)]) (nameE s) := by
  refine ⟨_, [.pointer (some ⟨b, 0, none⟩)], rfl, e_name1, fun w1 hk => ?_⟩
  have O : OldB w1 [] b 9 [.string s] := ⟨(hk.block b (Array.getElem?_eq_some_iff.1 hb).1 (by simp)).trans hb, by simp⟩
  refine calls_of_cw (args := [.pointer (some ⟨b, 0, none⟩)]) Tryz.func100 rfl rfl ?_
  have S := Sat.start [] w1
  (repeat' (first | apply cw_seq | apply cw_region | apply wl_nil | apply cw_ret | (apply x_callv; assumption; exact rfl; exact rfl; exact rfl; exact e_Name; (exact (by repeat' constructor)); exact (Name_c _ hs _); intro _ _ _) | (apply x_assign; exact rfl; exact rfl; (exact (by repeat' constructor))) | (apply x_loadB; assumption; exact rfl; exact rfl; exact rfl; assumption; exact rfl; exact rfl; (exact (by repeat' constructor)))))
  all_goals (first | refine q_retS (by assumption) rfl (by repeat (first | exact .nil | (apply RV.tmp; exact (by repeat' constructor)) | (apply RV.cell; exact rfl; exact (by repeat' constructor); exact rfl; exact rfl; exact (by repeat' constructor)))) ?_ | (simp only [thenQ, blockQ]; refine q_retS (by assumption) rfl (by repeat (first | exact .nil | (apply RV.tmp; exact (by repeat' constructor)) | (apply RV.cell; exact rfl; exact (by repeat' constructor); exact rfl; exact rfl; exact (by repeat' constructor)))) ?_))
  all_goals exact ⟨rfl, Sat.keeps (by assumption)⟩

/-- dimensions -/
structure Dm where
  fr : ByteArray
  to : ByteArray
  ax : Int
  lo : Int
  hi : Int
def Dm.ok (d : Dm) : Prop := d.fr.size ≤ 9223372036854775807 ∧ d.to.size ≤ 9223372036854775807
def clsE (d : Dm) : Int := if d.fr = d.to then 7 else if d.ax < 0 ∨ 3 ≤ d.ax then 1 else 0
def validE (d : Dm) : Int := firstE [nameE d.fr, nameE d.to, clsE d, chk d.lo d.hi]
set_option maxRecDepth 100000 in
theorem e_Valid1 : Ent Tryz.prog 93 := fun _ _ => rfl
set_option maxRecDepth 8000 in
theorem Valid1_y {w : World} {b : Nat} {d : Dm} (hb : w.heap[b]? = some (.cells #[.string d.fr, .string d.to, .int .i64 d.ax, .int .i64 d.lo, .int .i64 d.hi] 52 (0, 0))) :
    Yields Tryz.prog w (.func (.func 93) #[] #[.pointer (some ⟨b, 0, none⟩)]) (clsE d) := by
  refine ⟨_, [.pointer (some ⟨b, 0, none⟩)], rfl, e_Valid1, fun w1 hk => ?_⟩
  have O : OldB w1 [] b 52 [.string (d).fr, .string (d).to, .int .i64 (d).ax, .int .i64 (d).lo, .int .i64 (d).hi] := ⟨(hk.block b (Array.getElem?_eq_some_iff.1 hb).1 (by simp)).trans hb, by simp⟩
  refine calls_of_cw (args := [.pointer (some ⟨b, 0, none⟩)]) Tryz.func93 rfl rfl ?_
  have S := Sat.start [] w1
  (repeat' (first | apply cw_seq | apply cw_region | apply wl_nil | apply cw_block | apply cw_skip | apply cw_exit | apply cw_ret | (apply x_not; exact rfl; exact rfl) | (apply x_move; exact rfl; exact rfl; (exact (by repeat' constructor))) | (apply x_assign; exact rfl; exact rfl; (exact (by repeat' constructor))) | (apply x_fieldB; exact rfl; exact rfl; exact rfl; exact rfl; (constructor)) | (apply x_load; assumption; exact rfl; exact rfl; exact rfl; (exact (by repeat' constructor)); exact rfl; exact rfl; (exact (by repeat' constructor))) | (apply x_eqStr; exact rfl; exact rfl; exact rfl; exact rfl) | (apply x_eqAgg; exact rfl; exact rfl; exact rfl; exact rfl; (first | with_reducible exact flat_Limits | with_reducible exact flat_Dimension | with_reducible exact flat_Limits | with_reducible exact flat_Limits | with_reducible exact flat_Limits | with_reducible exact flat_at | with_reducible exact flat_spl | with_reducible exact flat_take | with_reducible exact flat_set | with_reducible exact flat_get | with_reducible exact flat_single | with_reducible exact flat_Spot | with_reducible exact flat_Datum | with_reducible exact flat_Link | with_reducible exact flat_rLink | with_reducible exact flat_Dimension | with_reducible exact flat_Spot | with_reducible exact flat_step | with_reducible exact flat_Point | with_reducible exact flat_lift | with_reducible exact flat_back | with_reducible exact flat_str); exact rfl; kernel_rfl; exact rfl) | (apply x_bin; exact rfl; exact rfl; exact rfl; (first | exact .z (.wrap (by omega)) | exact (by repeat' constructor))) | (apply x_pick; exact rfl; exact rfl; exact rfl; (exact (by repeat' constructor))) | (apply x_fieldE; exact rfl; exact rfl; exact rfl; exact rfl; (constructor)) | (apply x_loadB; assumption; exact rfl; exact rfl; exact rfl; assumption; exact rfl; exact rfl; (exact (by repeat' constructor))) | (apply x_loadR; exact rfl; exact rfl; exact rfl; (first | exact Old.now (by assumption) (by assumption) | exact Sat.rdpr (by assumption) (by exact (by repeat' constructor)) | exact Sat.rd (by assumption) (by exact (by repeat' constructor))); (first | omega | exact size_pos (by assumption) | assumption); exact rfl; exact rfl; (exact (by repeat' constructor))) | (apply cw_true; exact rfl) | (apply cw_false; exact rfl) | (apply x_ndec; exact rfl; with_reducible exact rfl; all_goals (intro _; try omega)) | (apply x_dec; exact rfl; all_goals (intro _; try omega)) | (apply cw_ne; exact rfl; all_goals (intro _; try omega)) | (apply cw_eq; exact rfl; all_goals (intro _; try omega)) | (apply cw_not; exact rfl; all_goals (intro _; try omega)) | (apply cw_cond; exact rfl; all_goals (intro _; try omega)) | (apply x_gndec; exact rfl; exact rfl; with_reducible exact rfl; all_goals (intro _; try omega)) | (apply x_gdec; exact rfl; exact rfl; all_goals (intro _; try omega)) | (apply x_gne; exact rfl; exact rfl; all_goals (intro _; try omega)) | (apply x_geq; exact rfl; exact rfl; all_goals (intro _; try omega)) | (apply x_gnot; exact rfl; exact rfl; all_goals (intro _; try omega)) | (apply x_gsplit; exact rfl; exact rfl; all_goals (intro _; try omega))))
  all_goals (first | refine q_retS (by assumption) rfl (by repeat (first | exact .nil | (apply RV.tmp; exact (by repeat' constructor)) | (apply RV.cell; exact rfl; exact (by repeat' constructor); exact rfl; exact rfl; exact (by repeat' constructor)))) ?_ | (simp only [thenQ, blockQ]; refine q_retS (by assumption) rfl (by repeat (first | exact .nil | (apply RV.tmp; exact (by repeat' constructor)) | (apply RV.cell; exact rfl; exact (by repeat' constructor); exact rfl; exact rfl; exact (by repeat' constructor)))) ?_))
  all_goals refine ⟨?_, Sat.keeps (by assumption)⟩
  all_goals unfold clsE
  all_goals (repeat' split)
  all_goals first | rfl | contradiction | (exfalso; omega)
set_option maxRecDepth 100000 in
theorem e_Valid : Ent Tryz.prog 80 := fun _ _ => rfl
set_option maxRecDepth 4000 in
set_option maxHeartbeats 2000000 in
theorem Valid_c (d : Dm) (hd : d.ok) (w : World) : Calls Tryz.prog 80 #[.agg #[.string (d).fr, .string (d).to, .int .i64 (d).ax, .int .i64 (d).lo, .int .i64 (d).hi]] w (RetP (Val (.int .i64 (validE d)) w)) := by
  refine calls_of_cw (args := [.agg #[.string (d).fr, .string (d).to, .int .i64 (d).ax, .int .i64 (d).lo, .int .i64 (d).hi]]) Tryz.func80 rfl rfl ?_
  have S := Sat.start [] w
  (repeat' (first | apply cw_seq | apply cw_region | apply wl_nil | apply cw_ret | (apply z1_calln; exact rfl; exact rfl; exact e_name; (exact (by repeat' constructor)); exact (fun _ _ => name_c _ _); intro _) | (apply z1_calln; exact rfl; exact rfl; exact e_limits; (exact (by repeat' constructor)); exact (fun _ _ => limits_c _ _ _); intro _) | (apply z2_callv; exact rfl; exact rfl; exact e_first; (exact (by repeat' constructor)); (intro _ S; exact first_c _ _ [_, _, _, _] [nameE d.fr, nameE d.to, clsE d, chk d.lo d.hi] _ (by simp) (S.rdcl1 (by exact (by repeat' constructor))) ⟨name1_y hd.1 (S.cl (by exact (by repeat' constructor))), name1_y hd.2 (S.cl (by exact (by repeat' constructor))), Valid1_y (S.cl (by exact (by repeat' constructor))), limits1_y (S.cl (by exact (by repeat' constructor))), trivial⟩)) | (apply cw_draw (id := 1) [(0, 0), (1, 0), (3, 0), (4, 0), (6, 0), (7, 0), (8, 0), (2, 1), (5, 1), (9, 1), (10, 2), (11, 2), (12, 0)]; assumption; exact mixed; kernel_rfl) | (apply x_assign; exact rfl; exact rfl; (exact (by repeat' constructor))) | (apply x_box; assumption; exact rfl; exact rfl; (exact (by repeat' constructor)); (exact (by repeat' constructor)); intro _ _ _) | (apply y_assign; exact rfl; (exact (by repeat' constructor))) | (apply y_fieldB; exact rfl; exact rfl; exact rfl; (constructor)) | (apply y_load; exact rfl; exact rfl; (exact (by repeat' constructor)); exact rfl; exact rfl; (exact (by repeat' constructor))) | (apply y_makeFunc; exact rfl; (exact (by repeat' constructor))) | (apply z2_buildSlice; exact rfl; exact rfl; (exact (by repeat' constructor)); intro _) | (apply y_nil; intro _ _)))
  all_goals (first | refine q_retS (by assumption) rfl (by repeat (first | exact .nil | (apply RV.tmp; exact (by repeat' constructor)) | (apply RV.cell; exact rfl; exact (by repeat' constructor); exact rfl; exact rfl; exact (by repeat' constructor)))) ?_ | (simp only [thenQ, blockQ]; refine q_retS (by assumption) rfl (by repeat (first | exact .nil | (apply RV.tmp; exact (by repeat' constructor)) | (apply RV.cell; exact rfl; exact (by repeat' constructor); exact rfl; exact rfl; exact (by repeat' constructor)))) ?_))
  all_goals exact ⟨rfl, Sat.keeps (by assumption)⟩
def dm0 : Dm := ⟨⟨#[]⟩, ⟨#[]⟩, 0, 0, 0⟩
theorem valid0 {d : Dm} (h : validE d = 0) : nameE d.fr = 0 ∧ nameE d.to = 0 ∧ ¬ d.fr = d.to ∧ (0 ≤ d.ax ∧ d.ax < 3) ∧ chk d.lo d.hi = 0 := by
  have key : ∀ p q r s : Int, firstE [p, q, r, s] = 0 → p = 0 ∧ q = 0 ∧ r = 0 ∧ s = 0 := by
    intro p q r s h
    by_cases h1 : p = 0 <;> by_cases h2 : q = 0 <;> by_cases h3 : r = 0 <;> by_cases h4 : s = 0 <;> simp_all [firstE]
  obtain ⟨h1, h2, h3, h4⟩ := key _ _ _ _ h
  refine ⟨h1, h2, ?_, ?_, h4⟩
  · intro e
    rw [clsE, if_pos e] at h3
    exact absurd h3 (by decide)
  · unfold clsE at h3
    split at h3
    · exact absurd h3 (by decide)
    · split at h3
      · exact absurd h3 (by decide)
      · omega
theorem valid0b {d : Dm} (h : validE d = 0) : -100000 ≤ d.lo ∧ d.lo ≤ d.hi ∧ d.hi ≤ 100000 := chk0 (valid0 h).2.2.2.2
def rev (d : Dm) : Dm := ⟨d.to, d.fr, d.ax, 0 - d.hi, 0 - d.lo⟩
end Go.Proofs.YtdkknknebehkgaaGreatDoor
