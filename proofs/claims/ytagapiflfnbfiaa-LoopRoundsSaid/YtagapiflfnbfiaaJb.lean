/- Nets of links: joined by the program. No statement of the seat is proved here. -/
import Derived.Test.YtagapiflfnbfiaaJa
namespace Go.Proofs.Ytagapiflfnbfiaa
set_option linter.unusedVariables false
set_option linter.unusedSimpArgs false
open Go Go.RowKit
def two (l : List Dm) (ax : Int) (use : Nat → Bool) (i : Nat) : List Lk := if (dat l i).ax = ax ∧ use i = true then [⟨i, false⟩, ⟨i, true⟩] else []
/-- the links along an axis, of the first k dimensions -/
def nlk (l : List Dm) (ax : Int) (use : Nat → Bool) : Nat → List Lk
  | 0 => []
  | k + 1 => nlk l ax use k ++ two l ax use k
theorem nlk_yes {l : List Dm} {ax : Int} {use : Nat → Bool} {k : Nat} (h : (dat l k).ax = ax) (hu : use k = true) : nlk l ax use (k + 1) = nlk l ax use k ++ [⟨k, false⟩] ++ [⟨k, true⟩] := by
  rw [nlk, two, if_pos ⟨h, hu⟩, List.append_assoc]; rfl
theorem nlk_no {l : List Dm} {ax : Int} {use : Nat → Bool} {k : Nat} (h : ¬ ((dat l k).ax = ax ∧ use k = true)) : nlk l ax use (k + 1) = nlk l ax use k := by
  rw [nlk, two, if_neg h, List.append_nil]
theorem nlk_len {l : List Dm} {ax : Int} {use : Nat → Bool} : ∀ k : Nat, (nlk l ax use k).length ≤ 2 * k
  | 0 => by simp [nlk]
  | k + 1 => by
    have := nlk_len (l := l) (ax := ax) (use := use) k
    rw [nlk, List.length_append]
    have h2 : (two l ax use k).length ≤ 2 := by unfold two; split <;> simp
    omega
theorem atS_len {l : List Dm} {L : List Lk} {s : ByteArray} : (atS l L s).length ≤ L.length := List.length_filter_le _ _
set_option maxRecDepth 100000 in
theorem e_joined : Ent Try.prog 41 := fun _ _ => rfl
set_option maxRecDepth 8000 in
set_option maxHeartbeats 4000000 in
theorem joined_c (A : Option Addr) (cA : Nat) (l : List Dm) (hl : l.length ≤ 9223372036854775807) (ho : ∀ i, i < l.length → (dat l i).ok) (hL : l.length ≤ 256) (ax : Int) (use : Nat → Bool) (g : FuncId) (cap : List Value) (hE : Ent Try.prog g) (w : World) (R : Rd w A 5 l.length (fun i => dmC (l.getD i dm0))) (hU : ∀ i, i < l.length → ∀ w', Keeps [] w w' → Calls Try.prog g (.int .i64 (i : Int) :: cap).toArray w' (RetP (Val (.bool (use i)) w'))) :
    Calls Try.prog 41 #[.slice A l.length cA, .int .i64 ax, .func (.func g) #[] cap.toArray] w (RetP fun v w' => ∃ q : { q : Nat × List HO // NetI l q.1 (nlk l ax use l.length) q.2 }, v = .map (some q.1.1) ∧ Sat w [] q.1.2 w') := by
  refine calls_of_cw (args := [.slice A l.length cA, .int .i64 ax, .func (.func g) #[] cap.toArray]) Try.func41 rfl rfl ?_
  have S := Sat.start [] w
  have O := R.old
  (repeat' (first | apply cw_seq | apply cw_region | apply wl_nil | apply cw_block | (apply x_makeMapV; assumption; exact rfl; exact rfl; exact rfl; intro _ _ _) | (apply x_move; exact rfl; exact rfl; (exact (by repeat' constructor))) | (apply x_assign; exact rfl; exact rfl; (exact (by repeat' constructor))) | (apply x_builtin; exact rfl; exact rfl; exact (fun _ => rfl); (exact (by repeat' constructor)))))
  rename_i b7 w1 S1
  refine cw_loop [8, 10, 11, 12, 16, 17, 18, 19, 20, 21, 22, 23, 24, 25, 26, 27, 28, 29, 30, 31, 32, 33, 34, 35, 36, 37, 38, 39, 40, 41, 42, 43, 44, 45, 46, 47, 48, 49, 50, 51, 52, 53, 54, 55, 56, 57] [16] (fun us wr => ∃ (i : Nat) (h : List HO), i ≤ l.length ∧ us = [.int .i64 i] ∧ NetI l b7 (nlk l ax use i) h ∧ Sat w [] h wr) (fun us _ => l.length - (intOf (us.getD 0 undef)).toNat) ?_ ?_
  · exact ⟨0, _, by omega, rfl, NetI.start l b7, S1⟩
  clear S1 S
  rintro g' us wr ⟨i, h, hi, rfl, N, Sr⟩
  by_cases hlt : i < l.length
  · have hUi := fun w' hk => hU i hlt w' hk
    by_cases hax : (l.getD i dm0).ax = ax
    · cases hu : use i with
      | true =>
        rw [hu] at hUi
        have hin1 : inR l ⟨(i : Int), false⟩ := ⟨by show (0 : Int) ≤ i; omega, by show (i : Int) < l.length; omega⟩
        have hin2 : inR l ⟨(i : Int), true⟩ := hin1
        have hlen := nlk_len (l := l) (ax := ax) (use := use) i
        have hb1 : ((atS l (nlk l ax use i) (begE l ⟨(i : Int), false⟩)).map lkC).length < 1000000000 := by rw [List.length_map]; have := atS_len (l := l) (L := nlk l ax use i) (s := begE l ⟨(i : Int), false⟩); omega
        obtain ⟨A1, c1, n1, m1, rest, hn1, hv1, S1, hs1, hnd1, hm1, he1⟩ := N.split (pre := []) Sr (begE l ⟨(i : Int), false⟩)
        clear Sr
        replace S1 : Sat w [] (_ :: _ :: _) wr := S1
        (repeat' (first | apply cw_seq | apply cw_region | apply wl_nil | apply cw_block | apply cw_skip | (apply x_indexK; exact rfl; exact rfl; exact rfl; exact rfl; exact rfl; (constructor); (constructor); (exact (by decide)); (first | omega | exact size_pos (by assumption) | assumption); (first | exact rfl | assumption | exact Rd.some_ (by assumption) (by omega) | exact Rd.some_ (Old.rd (by assumption)) (by omega) | exact (Sat.rd (by assumption) (by exact (by repeat' constructor))).some_ (by omega))) | (apply x_callv; assumption; exact rfl; exact rfl; exact rfl; exact hE; (exact NA.cons (by exact (by repeat' constructor)) (NA.rfl_ _)); exact hUi _ (Sat.keeps (by assumption)); intro _ _ _) | (refine cw_rounds 3 ?_) | (apply x_addK; exact rfl; exact rfl; exact rfl; exact rfl; constructor) | (apply x_callv; assumption; exact rfl; exact rfl; exact rfl; exact e_ends; (exact (by repeat' constructor)); with_reducible exact (ends_c A cA l hl ho ⟨(i : Int), false⟩ hin1 _ (Old.now O (by assumption))); intro _ _ _) | (apply x_callv; assumption; exact rfl; exact rfl; exact rfl; exact e_ends; (exact (by repeat' constructor)); with_reducible exact (ends_c A cA l hl ho ⟨(i : Int), true⟩ hin2 _ (Old.now O (by assumption))); intro _ _ _) | (apply x_lookV; exact rfl; exact rfl; exact rfl; exact kS; exact rfl; exact rfl; exact Sat.prAt (by assumption) (by exact (by repeat' constructor)); exact keyS (beg_ok ho hin1); exact trivial; exact hv1) | (apply x_putV; assumption; exact rfl; exact rfl; exact kS; exact rfl; exact rfl; (exact (by repeat' constructor)); (exact (by repeat' constructor)); (exact (by unfold maxLen; omega)); exact keyS (beg_ok ho hin1); intro _ _) | (apply x_append1; assumption; exact rfl; exact rfl; exact rfl; exact rfl; exact rfl; (exact (by repeat' constructor)); (exact (by repeat' constructor)); exact rfl; exact rfl; exact rfl; (first | assumption | omega | (simp; omega)); intro _ _ _ _) | (apply x_move; exact rfl; exact rfl; (exact (by repeat' constructor))) | (apply x_assign; exact rfl; exact rfl; (exact (by repeat' constructor))) | (apply x_load; assumption; exact rfl; exact rfl; exact rfl; (exact (by repeat' constructor)); exact rfl; exact rfl; (exact (by repeat' constructor))) | (apply x_bin; exact rfl; exact rfl; exact rfl; (first | exact .z (.wrap (by omega)) | exact (by repeat' constructor))) | (apply x_pick; exact rfl; exact rfl; exact rfl; (exact (by repeat' constructor))) | (apply x_un; exact rfl; exact rfl; exact rfl; (first | exact .z (.wrap (by omega)) | exact (by repeat' constructor))) | (apply x_alloc; assumption; exact rfl; exact rfl; exact rfl; (exact (by repeat' constructor)); intro _ _ _) | (apply x_store; assumption; exact rfl; exact rfl; (exact (by repeat' constructor)); (exact (by repeat' constructor)); exact rfl; exact rfl; exact rfl; (exact (by repeat' constructor)); intro _ _) | (apply x_build; exact rfl; exact rfl; exact rfl; (exact (by repeat' constructor))) | (apply x_extract; exact rfl; exact rfl; exact rfl; (exact (by repeat' constructor))) | (apply x_builtin; exact rfl; exact rfl; exact (fun _ => rfl); (exact (by repeat' constructor))) | (apply x_buildSlice; assumption; exact rfl; exact rfl; exact rfl; (exact (by repeat' constructor)); intro _ _ _) | (apply x_fieldE; exact rfl; exact rfl; exact rfl; exact rfl; (constructor)) | (apply x_index; exact rfl; exact rfl; exact rfl; exact rfl; exact rfl; (constructor); (first | omega | exact size_pos (by assumption) | assumption); (first | exact rfl | assumption | exact Rd.some_ (by assumption) (by omega) | exact Rd.some_ (Old.rd (by assumption)) (by omega) | exact (Sat.rd (by assumption) (by exact (by repeat' constructor))).some_ (by omega))) | (apply x_loadR; exact rfl; exact rfl; exact rfl; (first | exact Old.now (by assumption) (by assumption) | exact Sat.rdpr (by assumption) (by exact (by repeat' constructor)) | exact Sat.rd (by assumption) (by exact (by repeat' constructor))); (first | omega | exact size_pos (by assumption) | assumption); exact rfl; exact rfl; (exact (by repeat' constructor))) | (apply cw_true; exact rfl) | (apply cw_false; exact rfl) | (apply x_dec; exact rfl; all_goals (intro _; try omega)) | (apply x_gne; exact rfl; exact rfl; all_goals (intro _; try omega))))
        rename_i g2 cap2 _ _ _ _ b10 _ _ _ _ w5 _ S5
        replace S5 : Sat w [] ([_, _, _, _] ++ (_ :: _ :: _)) w5 := S5
        have N2 := NetI.put (b := b7) hn1 hs1 hnd1 hm1 he1 (some ⟨g2, 0, none⟩) cap2
        obtain ⟨A2, c2, n2, m2, rest2, hn2, hv2, S6, hs2, hnd2, hm2, he2⟩ := N2.split (pre := [_, _, _, _]) S5 (begE l ⟨(i : Int), true⟩)
        clear S5 N2 S1 N
        have hl2 : (nlk l ax use i ++ [(⟨(i : Int), false⟩ : Lk)]).length ≤ 2 * i + 1 := by rw [List.length_append]; simpa using hlen
        have hb2 : ((atS l (nlk l ax use i ++ [⟨(i : Int), false⟩]) (begE l ⟨(i : Int), true⟩)).map lkC).length < 1000000000 := by rw [List.length_map]; have := atS_len (l := l) (L := nlk l ax use i ++ [⟨(i : Int), false⟩]) (s := begE l ⟨(i : Int), true⟩); omega
        replace S6 : Sat w [] (_ :: _ :: _ :: _ :: _ :: _ :: _) w5 := S6
        (repeat' (first | apply cw_seq | apply cw_region | apply wl_nil | apply cw_exit | (apply x_addK; exact rfl; exact rfl; exact rfl; exact rfl; constructor) | (apply x_lookV; exact rfl; exact rfl; exact rfl; exact kS; exact rfl; exact rfl; exact Sat.prAt (by assumption) (by exact (by repeat' constructor)); exact keyS (beg_ok ho hin2); exact trivial; exact hv2) | (apply x_putV; assumption; exact rfl; exact rfl; exact kS; exact rfl; exact rfl; (exact (by repeat' constructor)); (exact (by repeat' constructor)); (exact (by unfold maxLen; omega)); exact keyS (beg_ok ho hin2); intro _ _) | (apply x_append1; assumption; exact rfl; exact rfl; exact rfl; exact rfl; exact rfl; (exact (by repeat' constructor)); (exact (by repeat' constructor)); exact rfl; exact rfl; exact rfl; (first | assumption | omega | (simp; omega)); intro _ _ _ _) | (apply x_move; exact rfl; exact rfl; (exact (by repeat' constructor))) | (apply x_load; assumption; exact rfl; exact rfl; exact rfl; (exact (by repeat' constructor)); exact rfl; exact rfl; (exact (by repeat' constructor))) | (apply x_bin; exact rfl; exact rfl; exact rfl; (first | exact .z (.wrap (by omega)) | exact (by repeat' constructor))) | (apply x_buildSlice; assumption; exact rfl; exact rfl; exact rfl; (exact (by repeat' constructor)); intro _ _ _) | (apply cw_false; exact rfl)))
        rename_i g3 cap3 _ _ w7 S7
        refine ⟨rfl, (by repeat (first | exact Agree.updl rfl (Agree.mask _ _ _) | refine Agree.upd rfl ?_)), ⟨i + 1, _, hlt, rfl, (by rw [nlk_yes hax hu]; exact NetI.put (b := b7) hn2 hs2 hnd2 hm2 he2 (some ⟨g3, 0, none⟩) cap3), S7.drop1.drop1.drop1.drop1.drop1⟩, ?_⟩
        show l.length - (i + 1 : Int).toNat < l.length - (i : Int).toNat
        omega
      | false =>
        rw [hu] at hUi
        (repeat' (first | apply cw_seq | apply cw_region | apply wl_nil | apply cw_block | apply cw_skip | apply cw_exit | (apply x_callv; assumption; exact rfl; exact rfl; exact rfl; exact hE; (exact NA.cons (by exact (by repeat' constructor)) (NA.rfl_ _)); exact hUi _ (Sat.keeps (by assumption)); intro _ _ _) | (apply x_move; exact rfl; exact rfl; (exact (by repeat' constructor))) | (apply x_assign; exact rfl; exact rfl; (exact (by repeat' constructor))) | (apply x_bin; exact rfl; exact rfl; exact rfl; (first | exact .z (.wrap (by omega)) | exact (by repeat' constructor))) | (apply x_pick; exact rfl; exact rfl; exact rfl; (exact (by repeat' constructor))) | (apply x_un; exact rfl; exact rfl; exact rfl; (first | exact .z (.wrap (by omega)) | exact (by repeat' constructor))) | (apply x_fieldE; exact rfl; exact rfl; exact rfl; exact rfl; (constructor)) | (apply x_index; exact rfl; exact rfl; exact rfl; exact rfl; exact rfl; (constructor); (first | omega | exact size_pos (by assumption) | assumption); (first | exact rfl | assumption | exact Rd.some_ (by assumption) (by omega) | exact Rd.some_ (Old.rd (by assumption)) (by omega) | exact (Sat.rd (by assumption) (by exact (by repeat' constructor))).some_ (by omega))) | (apply x_loadR; exact rfl; exact rfl; exact rfl; (first | exact Old.now (by assumption) (by assumption) | exact Sat.rdpr (by assumption) (by exact (by repeat' constructor)) | exact Sat.rd (by assumption) (by exact (by repeat' constructor))); (first | omega | exact size_pos (by assumption) | assumption); exact rfl; exact rfl; (exact (by repeat' constructor))) | (apply cw_true; exact rfl) | (apply x_dec; exact rfl; all_goals (intro _; try omega)) | (apply x_gne; exact rfl; exact rfl; all_goals (intro _; try omega))))
        refine ⟨rfl, (by repeat (first | exact Agree.updl rfl (Agree.mask _ _ _) | refine Agree.upd rfl ?_)), ⟨i + 1, h, hlt, rfl, by rw [nlk_no (fun e => by rw [hu] at e; exact absurd e.2 (by decide))]; exact N, by assumption⟩, ?_⟩
        show l.length - (i + 1 : Int).toNat < l.length - (i : Int).toNat
        omega
    · (repeat' (first | apply cw_seq | apply cw_region | apply wl_nil | apply cw_block | apply cw_skip | apply cw_exit | (apply x_not; exact rfl; exact rfl) | (apply x_move; exact rfl; exact rfl; (exact (by repeat' constructor))) | (apply x_assign; exact rfl; exact rfl; (exact (by repeat' constructor))) | (apply x_bin; exact rfl; exact rfl; exact rfl; (first | exact .z (.wrap (by omega)) | exact (by repeat' constructor))) | (apply x_pick; exact rfl; exact rfl; exact rfl; (exact (by repeat' constructor))) | (apply x_fieldE; exact rfl; exact rfl; exact rfl; exact rfl; (constructor)) | (apply x_index; exact rfl; exact rfl; exact rfl; exact rfl; exact rfl; (constructor); (first | omega | exact size_pos (by assumption) | assumption); (first | exact rfl | assumption | exact Rd.some_ (by assumption) (by omega) | exact Rd.some_ (Old.rd (by assumption)) (by omega) | exact (Sat.rd (by assumption) (by exact (by repeat' constructor))).some_ (by omega))) | (apply x_loadR; exact rfl; exact rfl; exact rfl; (first | exact Old.now (by assumption) (by assumption) | exact Sat.rdpr (by assumption) (by exact (by repeat' constructor)) | exact Sat.rd (by assumption) (by exact (by repeat' constructor))); (first | omega | exact size_pos (by assumption) | assumption); exact rfl; exact rfl; (exact (by repeat' constructor))) | (apply cw_true; exact rfl) | (apply x_dec; exact rfl; all_goals (intro _; try omega)) | (apply x_gne; exact rfl; exact rfl; all_goals (intro _; try omega))))
      refine ⟨rfl, (by repeat (first | exact Agree.updl rfl (Agree.mask _ _ _) | refine Agree.upd rfl ?_)), ⟨i + 1, h, hlt, rfl, by rw [nlk_no (fun e => hax e.1)]; exact N, by assumption⟩, ?_⟩
      show l.length - (i + 1 : Int).toNat < l.length - (i : Int).toNat
      omega
  · (repeat' (first | apply cw_seq | apply cw_region | apply wl_nil | apply cw_exit | apply cw_ret | (apply x_move; exact rfl; exact rfl; (exact (by repeat' constructor))) | (apply x_assign; exact rfl; exact rfl; (exact (by repeat' constructor))) | (apply x_bin; exact rfl; exact rfl; exact rfl; (first | exact .z (.wrap (by omega)) | exact (by repeat' constructor))) | (apply x_dec; exact rfl; all_goals (intro _; try omega))))
    have e : i = l.length := by omega
    subst e
    (first | refine q_retS (by assumption) rfl (by repeat (first | exact .nil | (apply RV.tmp; exact (by repeat' constructor)) | (apply RV.cell; exact rfl; exact (by repeat' constructor); exact rfl; exact rfl; exact (by repeat' constructor)))) ?_ | (simp only [thenQ, blockQ]; refine q_retS (by assumption) rfl (by repeat (first | exact .nil | (apply RV.tmp; exact (by repeat' constructor)) | (apply RV.cell; exact rfl; exact (by repeat' constructor); exact rfl; exact rfl; exact (by repeat' constructor)))) ?_))
    exact ⟨⟨(b7, h), N⟩, rfl, Sr⟩
end Go.Proofs.Ytagapiflfnbfiaa
