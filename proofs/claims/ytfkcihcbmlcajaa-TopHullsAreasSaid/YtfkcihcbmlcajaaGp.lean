/- The way round, by indices (around). No statement of the seat is proved here. -/
import Derived.Test.YtfkcihcbmlcajaaGo
namespace Go.Proofs.Ytfkcihcbmlcajaa.Hu
set_option linter.unusedVariables false
set_option linter.unusedSimpArgs false
open Go Go.RowKit
theorem lt_le_tr {a b c : P} (h : lt a b) (k : ¬ lt c b) : lt a c := by unfold lt at *; omega
structure CmpS (l : List P) (ys : List Int) (k : Nat) : Prop where
  dsc : Dsc (sv l (cmpTo l ys k))
  sub : ∀ x ∈ cmpTo l ys k, x ∈ ys
  head : 0 < k → (sv l (cmpTo l ys k)).head? = some (pz l ys (k - 1))
  mem : ∀ i, i < k → pz l ys i ∈ sv l (cmpTo l ys k)
theorem cmp_s {l : List P} {ys : List Int} (hs : ∀ a b, a < b → b < ys.length → le l (gI ys a) (gI ys b)) : ∀ k, k ≤ ys.length → CmpS l ys k := by
  intro k
  induction k with
  | zero => exact fun _ => ⟨List.Pairwise.nil, fun x hx => absurd hx List.not_mem_nil, fun h => absurd h (by omega), fun i hi => absurd hi (by omega)⟩
  | succ k ih =>
    intro hk
    have I := ih (by omega)
    cases k with
    | zero =>
      have e : cmpTo l ys (0 + 1) = [gI ys 0] := cmpTo_one l ys
      rw [Nat.zero_add] at e ⊢
      refine ⟨?_, fun x hx => ?_, fun _ => ?_, fun i hi => ?_⟩
      · rw [e]; simp [sv]
      · rw [e] at hx; rw [List.mem_singleton.1 hx, gI, getD_lt (by omega)]; exact List.getElem_mem _
      · rw [e]; rfl
      · obtain rfl : i = 0 := by omega
        rw [e]; simp [sv]
    | succ k =>
      have hh := I.head (by omega)
      by_cases hd : pz l ys (k + 1) = pz l ys k
      · have e := cmpTo_yes hd
        refine ⟨by rw [e]; exact I.dsc, by rw [e]; exact I.sub, fun _ => ?_, fun i hi => ?_⟩
        · rw [e, hh]
          show some (pz l ys k) = some (pz l ys (k + 1))
          rw [hd]
        · rw [e]
          by_cases hi2 : i = k + 1
          · subst hi2; rw [hd]; exact I.mem k (by omega)
          · exact I.mem i (by omega)
      · have e := cmpTo_no hd
        have e2 : sv l (cmpTo l ys (k + 1 + 1)) = pz l ys (k + 1) :: sv l (cmpTo l ys (k + 1)) := by rw [e, sv_app]
        have hlt : lt (pz l ys k) (pz l ys (k + 1)) := by
          have h1 := hs k (k + 1) (by omega) (by omega)
          rcases lt_tri (pz l ys k) (pz l ys (k + 1)) with h | h | h
          · exact h
          · exact absurd h.symm hd
          · exact absurd h h1
        refine ⟨?_, fun x hx => ?_, fun _ => by rw [e2]; rfl, fun i hi => ?_⟩
        · rw [e2]
          refine List.pairwise_cons.2 ⟨fun u hu => ?_, I.dsc⟩
          rcases head_max I.dsc hh hu with h | h
          · exact lt_tr h hlt
          · rw [h]; exact hlt
        · rw [e] at hx
          rcases List.mem_append.1 hx with h | h
          · exact I.sub x h
          · rw [List.mem_singleton.1 h, gI, getD_lt (by omega)]; exact List.getElem_mem _
        · rw [e2]
          by_cases hi2 : i = k + 1
          · subst hi2; exact List.mem_cons_self
          · exact List.mem_cons_of_mem _ (I.mem i (by omega))
/-- the points in order, without doubles -/
structure Srt (l : List P) (zs : List Int) : Prop where
  inl : inL l zs
  isd : IsD l (sv l zs)
theorem srt_of {l : List P} (r : SRes l (iota l.length)) : Srt l (cmpTo l r.ys l.length) := by
  have hlen : r.ys.length = l.length := r.perm.length_eq.trans (iota_len _)
  have hin : inL l r.ys := inL_perm (iota_in l) r.perm
  have I := cmp_s (l := l) (ys := r.ys) (fun a b h1 h2 => r.srt a b h1 (by rw [iota_len]; omega)) l.length (by omega)
  refine ⟨fun x hx => hin x (I.sub x hx), I.dsc, fun u => ⟨fun hu => ?_, fun hu => ?_⟩⟩
  · obtain ⟨x, hx, rfl⟩ := List.mem_map.1 (List.mem_reverse.1 hu)
    have hx := hin x (I.sub x hx)
    have hlt : x.toNat < l.length := by omega
    rw [at0, getD_lt hlt]
    exact List.getElem_mem _
  · obtain ⟨i, hi, rfl⟩ := List.getElem_of_mem hu
    have hm : (i : Int) ∈ r.ys := r.perm.mem_iff.2 (iota_mem.2 (by omega))
    obtain ⟨j, hj, e⟩ := List.getElem_of_mem hm
    have := I.mem j (by omega)
    have e2 : pz l r.ys j = l[i] := by
      rw [pz, gI, getD_lt hj, e, at0, Int.toNat_natCast, getD_lt hi]
    rwa [e2] at this
theorem cv_all (l : List P) {zs : List Int} {n : Nat} (h : zs.length = n) : cv l zs n = chn (sv l zs) := by
  rw [cv, ← h, List.take_length]; rfl
theorem sv_rev (l : List P) (zs : List Int) : sv l zs.reverse = (sv l zs).reverse := by rw [sv, sv, List.map_reverse]
theorem verts_few {l : List P} {zs : List Int} (h : zs.length < 3) : zs.map (at0 l) = verts (sv l zs) := by
  rw [verts, if_pos (by rw [sv_len]; exact h), sv, List.reverse_reverse]
theorem verts_many {l : List P} {zs a b : List Int} (h : ¬ zs.length < 3) (ha : a.map (at0 l) = (cv l zs zs.length).reverse.dropLast) (hb : b.map (at0 l) = (cv l zs.reverse zs.length).reverse.dropLast) : (a ++ b).map (at0 l) = verts (sv l zs) := by
  rw [cv_all l rfl] at ha
  rw [cv_all l (by rw [List.length_reverse]), sv_rev] at hb
  rw [verts, if_neg (by rw [sv_len]; exact h), List.map_append, ha, hb]
theorem inL_rev {l : List P} {zs : List Int} (h : inL l zs) : inL l zs.reverse := fun x hx => h x (List.mem_reverse.1 hx)
theorem inL_app2 {l : List P} {a b : List Int} (h : inL l a) (k : inL l b) : inL l (a ++ b) := fun x hx => (List.mem_append.1 hx).elim (h x) (k x)
theorem isd_len {l : List P} {zs : List Int} (h : Srt l zs) (h0 : 0 < l.length) : 0 < zs.length := by
  have : l[0] ∈ sv l zs := (h.isd.2 _).2 (List.getElem_mem h0)
  rw [← sv_len l]
  exact List.length_pos_of_mem this
theorem cmpTo_len (l : List P) (xs : List Int) : ∀ k, (cmpTo l xs k).length ≤ k
  | 0 => Nat.le_refl _
  | k + 1 => by
    have := cmpTo_len l xs k
    rw [cmpTo]
    split
    · omega
    · rw [List.length_append, List.length_singleton]; omega
/-- what goes round -/
structure Rnd (l : List P) (vs : List Int) : Prop where
  le : vs.length ≤ 16
  inl : inL l vs
  way : ∃ D, IsD l D ∧ vs.map (at0 l) = verts D
set_option maxRecDepth 100000 in
theorem e_around : Ent Try.prog 17 := fun _ _ => rfl
set_option maxRecDepth 8000 in
set_option maxHeartbeats 4000000 in
theorem around_c {A : Option Addr} {c : Nat} {l : List P} (hl : l.length ≤ 8) (h0 : 0 < l.length) (hN : allN l) (w : World) (R : Rd w A 2 l.length (fun i => ptC (l.getD i p0))) :
    Calls Try.prog 17 #[.slice A l.length c] w (RetP fun v w' => ∃ (A2 : Option Addr) (c2 : Nat) (vs : List Int), v = .slice A2 vs.length c2 ∧ Rnd l vs ∧ Sat w [] [.rw 0 (.slice A2 vs.length c2) 3 1 ((vs).map zC)] w') := by
  refine calls_of_cw (args := [.slice A l.length c]) Try.func17 rfl rfl ?_
  have S := Sat.start [] w
  have O := R.old
  have ha : allPP l := allPP_mem.2 fun p hp => nP_rg (hN p hp)
  (repeat' (first | apply cw_seq | apply cw_region | apply wl_nil | apply cw_block | apply cw_skip | apply cw_exit | apply cw_ret | (apply x_box; assumption; exact rfl; exact rfl; (exact (by repeat' constructor)); (exact (by repeat' constructor)); intro b1 _ S1) | (apply x_call; exact rfl; exact rfl; exact rfl; exact e_Order; (exact (by repeat' constructor)); (exact Order_c hl ha _ (Old.now O (by assumption))); rintro _ w5 ⟨A2, c2, r, rfl, S5⟩; have S6 := (Rl.Sat.moreA (by assumption) S5).1; clear S5; try simp only [List.cons_append, List.nil_append] at S6) | (apply x_callC (bd := []) (hc := [.rw 0 (.slice A2 l.length c2) 3 1 ((r.ys).map zC)]) (fr := [.cl b1 22 [.slice A l.length c]]); assumption; exact rfl; exact rfl; exact rfl; exact e_Compact; (exact (by repeat' constructor)); exact List.Perm.refl _; (exact fun Sc => Compact_c r.ys (r.perm.length_eq.trans (iota_len _)) hl (inL_perm (iota_in l) r.perm) _ Sc (Sat.oldOf S6 (List.mem_singleton.2 rfl)) (Old.next (hc := [_]) (fr := [_]) O (fun i _ => by simp [ptC]) S6)); (intro _ w7 S7)) | (apply x_append1; assumption; exact rfl; exact rfl; exact rfl; exact rfl; exact rfl; (exact (by repeat' constructor)); (exact (by repeat' constructor)); exact rfl; exact rfl; exact rfl; (first | assumption | omega | (simp; omega)); intro _ _ _ _) | (apply x_move; exact rfl; exact rfl; (exact (by repeat' constructor))) | (apply x_assign; exact rfl; exact rfl; (exact (by repeat' constructor))) | (apply x_load; assumption; exact rfl; exact rfl; exact rfl; (exact (by repeat' constructor)); exact rfl; exact rfl; (exact (by repeat' constructor))) | (apply x_neStr; exact rfl; exact rfl; exact rfl; exact rfl) | (apply x_bin; exact rfl; exact rfl; exact rfl; (first | exact .z (.wrap (by omega)) | exact (by repeat' constructor))) | (apply x_box; assumption; exact rfl; exact rfl; (exact (by repeat' constructor)); (exact (by repeat' constructor)); intro _ _ _) | (apply x_extract; exact rfl; exact rfl; exact rfl; (exact (by repeat' constructor))) | (apply x_builtin; exact rfl; exact rfl; exact (fun _ => rfl); (exact (by repeat' constructor))) | (apply x_makeFunc; exact rfl; exact rfl; (exact (by repeat' constructor))) | (apply x_makeFuncB; exact rfl; exact rfl; (exact (by repeat' constructor))) | (apply x_loadB; assumption; exact rfl; exact rfl; exact rfl; assumption; exact rfl; exact rfl; (exact (by repeat' constructor))) | (apply x_loadR; exact rfl; exact rfl; exact rfl; (first | exact Old.now (by assumption) (by assumption) | exact Sat.rdpr (by assumption) (by exact (by repeat' constructor)) | exact Sat.rd (by assumption) (by exact (by repeat' constructor))); (first | omega | exact size_pos (by assumption) | assumption); exact rfl; exact rfl; (exact (by repeat' constructor))) | (apply cw_true; exact rfl) | (apply cw_false; exact rfl) | (apply x_ndec; exact rfl; with_reducible exact rfl; all_goals (intro _; try omega)) | (apply x_dec; exact rfl; all_goals (intro _; try omega)) | (apply cw_ne; exact rfl; all_goals (intro _; try omega)) | (apply cw_eq; exact rfl; all_goals (intro _; try omega)) | (apply cw_not; exact rfl; all_goals (intro _; try omega)) | (apply cw_cond; exact rfl; all_goals (intro _; try omega))))
  all_goals (
    have hS := srt_of r
    have hz8 := cmpTo_len l r.ys l.length
    have hz0 := isd_len hS h0
    generalize cmpTo l r.ys l.length = zs at *
    try simp only [List.cons_append, List.nil_append] at S7)
  · (first | refine q_retS (by assumption) rfl (by repeat (first | exact .nil | (apply RV.tmp; exact (by repeat' constructor)) | (apply RV.cell; exact rfl; exact (by repeat' constructor); exact rfl; exact rfl; exact (by repeat' constructor)))) ?_ | (simp only [thenQ, blockQ]; refine q_retS (by assumption) rfl (by repeat (first | exact .nil | (apply RV.tmp; exact (by repeat' constructor)) | (apply RV.cell; exact rfl; exact (by repeat' constructor); exact rfl; exact rfl; exact (by repeat' constructor)))) ?_))
    exact ⟨A2, c2, zs, rfl, ⟨by omega, hS.inl, _, hS.isd, verts_few (by omega)⟩, Sat.pick S7 (by exact (by repeat' constructor))⟩
  · (repeat' (first | apply cw_seq | apply cw_region | apply wl_nil | apply cw_block | apply cw_skip | apply cw_exit | apply cw_ret | (apply x_call; exact rfl; exact rfl; exact rfl; exact e_chain; (exact (by repeat' constructor)); (exact chain_c zs rfl hz0 (by omega) hS.inl hN _ (Sat.oldb S7 (by exact (by repeat' constructor)) (Keeps.refl _ _)) (Old.now O S7) (Sat.rdmapN (en := zC) (0 : Int) S7 (by exact (by repeat' constructor)) (by first | rfl | exact List.length_reverse.symm))); rintro _ w8 ⟨g1, c1, v1, rfl, len1, in1, m1, S8⟩; have SA := (Rl.Sat.moreA S7 S8).1; clear S8; try simp only [List.cons_append, List.nil_append] at SA) | (apply x_callC (bd := []) (hc := [.rw 0 (.slice A2 zs.length c2) 3 1 ((zs).map zC)]) (V := fun _ => .tuple #[]); assumption; exact rfl; exact rfl; exact rfl; exact e_Reverse; (exact (by repeat' constructor)); exact List.Perm.swap _ _ _; (exact fun Sc => Reverse_c zs rfl hz0 (by omega) _ Sc); (intro _ w9 SB; try simp only [List.cons_append, List.nil_append] at SB)) | (apply x_call; exact rfl; exact rfl; exact rfl; exact e_chain; (exact (by repeat' constructor)); (exact chain_c zs.reverse List.length_reverse hz0 (by omega) (inL_rev hS.inl) hN _ (Sat.oldb SB (by exact (by repeat' constructor)) (Keeps.refl _ _)) (Old.now O SB) (Sat.rdmapN (en := zC) (0 : Int) SB (by exact (by repeat' constructor)) (by first | rfl | exact List.length_reverse.symm))); rintro _ w8 ⟨g2, c2, v2, rfl, len2, in2, m2, S8⟩; have SC := (Rl.Sat.moreA SB S8).1; clear S8; try simp only [List.cons_append, List.nil_append] at SC) | (apply x_appendN (l := v2) (en := zC) (xs := v1.map zC) (0 : Int) zC_len (fun _ => rfl) (Sat.rdmapN (en := zC) (0 : Int) SC (by exact (by repeat' constructor)) rfl) (by rw [List.length_map]; omega) SC; exact rfl; exact rfl; exact rfl; exact rfl; (exact (by repeat' constructor)); exact rfl; exact rfl; intro A9 c9 w10 SD) | (apply x_append1; assumption; exact rfl; exact rfl; exact rfl; exact rfl; exact rfl; (exact (by repeat' constructor)); (exact (by repeat' constructor)); exact rfl; exact rfl; exact rfl; (first | assumption | omega | (simp; omega)); intro _ _ _ _) | (apply x_move; exact rfl; exact rfl; (exact (by repeat' constructor))) | (apply x_assign; exact rfl; exact rfl; (exact (by repeat' constructor))) | (apply x_load; assumption; exact rfl; exact rfl; exact rfl; (exact (by repeat' constructor)); exact rfl; exact rfl; (exact (by repeat' constructor))) | (apply x_neStr; exact rfl; exact rfl; exact rfl; exact rfl) | (apply x_bin; exact rfl; exact rfl; exact rfl; (first | exact .z (.wrap (by omega)) | exact (by repeat' constructor))) | (apply x_box; assumption; exact rfl; exact rfl; (exact (by repeat' constructor)); (exact (by repeat' constructor)); intro _ _ _) | (apply x_extract; exact rfl; exact rfl; exact rfl; (exact (by repeat' constructor))) | (apply x_builtin; exact rfl; exact rfl; exact (fun _ => rfl); (exact (by repeat' constructor))) | (apply x_makeFunc; exact rfl; exact rfl; (exact (by repeat' constructor))) | (apply x_makeFuncB; exact rfl; exact rfl; (exact (by repeat' constructor))) | (apply x_loadB; assumption; exact rfl; exact rfl; exact rfl; assumption; exact rfl; exact rfl; (exact (by repeat' constructor))) | (apply x_loadR; exact rfl; exact rfl; exact rfl; (first | exact Old.now (by assumption) (by assumption) | exact Sat.rdpr (by assumption) (by exact (by repeat' constructor)) | exact Sat.rd (by assumption) (by exact (by repeat' constructor))); (first | omega | exact size_pos (by assumption) | assumption); exact rfl; exact rfl; (exact (by repeat' constructor))) | (apply cw_true; exact rfl) | (apply cw_false; exact rfl) | (apply x_ndec; exact rfl; with_reducible exact rfl; all_goals (intro _; try omega)) | (apply x_dec; exact rfl; all_goals (intro _; try omega)) | (apply cw_ne; exact rfl; all_goals (intro _; try omega)) | (apply cw_eq; exact rfl; all_goals (intro _; try omega)) | (apply cw_not; exact rfl; all_goals (intro _; try omega)) | (apply cw_cond; exact rfl; all_goals (intro _; try omega))))
    (first | refine q_retS (by assumption) rfl (by repeat (first | exact .nil | (apply RV.tmp; exact (by repeat' constructor)) | (apply RV.cell; exact rfl; exact (by repeat' constructor); exact rfl; exact rfl; exact (by repeat' constructor)))) ?_ | (simp only [thenQ, blockQ]; refine q_retS (by assumption) rfl (by repeat (first | exact .nil | (apply RV.tmp; exact (by repeat' constructor)) | (apply RV.cell; exact rfl; exact (by repeat' constructor); exact rfl; exact rfl; exact (by repeat' constructor)))) ?_))
    have e : (v1 ++ v2).length = (v1.map zC).length + v2.length := by simp
    refine ⟨A9, c9, v1 ++ v2, by rw [e]; rfl, ⟨by rw [List.length_append]; omega, inL_app2 in1 in2, _, hS.isd, verts_many (by omega) m1 m2⟩, ?_⟩
    rw [e, List.map_append]
    exact Sat.pick SD (by exact (by repeat' constructor))
end Go.Proofs.Ytfkcihcbmlcajaa.Hu
