/- All chains between two features, by the program. No statement of the seat is proved here. -/
import Derived.Test.YtagapiflfnbfiaaJh
namespace Go.Proofs.Ytagapiflfnbfiaa
set_option linter.unusedVariables false
set_option linter.unusedSimpArgs false
open Go Go.RowKit
def runG (l : List Dm) (ax : Int) (fr to : ByteArray) : List (List Lk) × Bool := growS l (atS l (netL l ax)) to ((netL l ax).length + 1) fr [] [fr] []
def allS (l : List Dm) (ax : Int) (fr to : ByteArray) : List (List Lk) × Int :=
  if askE l ax fr to = 0 then (if (runG l ax fr to).2 = true then ((runG l ax fr to).1, 0) else ([], 12)) else ([], askE l ax fr to)
theorem askE_ne {l : List Dm} {ax : Int} {fr to : ByteArray} (h : askE l ax fr to = 0) : ¬ fr = to := by
  intro e
  unfold askE at h
  rw [if_pos e] at h
  split at h
  · exact absurd h (by assumption)
  · split at h
    · omega
    · split at h
      · exact absurd h (by assumption)
      · split at h
        · exact absurd h (by assumption)
        · omega
theorem need_le {K pass : List ByteArray} : need K pass ≤ K.length := List.length_filter_le _ _
section
variable {P : Program} {ro : Option Nat} {n : Nat} {Q : Post} {D : List Deferred} {f : Fm} {w w0 : World} {M : List Nat} {h : List HO}
variable {ops : Array Oper} {rest : List Oper} {d ty : Nat} {ps : String} {af : Array Edge} {gd : Option (Nat × Bool)} {x : Operand} {al : List Operand}
theorem x_callH {α : Type} {g : FuncId} {cap args : List Value} {ts : Array TypeId} {hs : α → List HO} {V : α → Value} (S : Sat w0 M h w) (hg : want ops f ⟨some d, .call ⟨.value x, al.toArray, ts⟩, ty, ps, af, gd⟩ = true) (hdn : Nat.blt d n = true)
    (hx : fev f x = .func (.func g) #[] cap.toArray) (hE : Ent P g) (ha : NA (evs f al ++ cap) args) (hc : Calls P g args.toArray w (RetP fun v w' => ∃ a, v = V a ∧ Sat w [] (hs a) w'))
    (k : ∀ a w', Sat w0 M (hs a ++ h) w' → WL P ro n ops Q rest D (upd f d (V a)) w') : WL P ro n ops Q (⟨some d, .call ⟨.value x, al.toArray, ts⟩, ty, ps, af, gd⟩ :: rest) D f w :=
  x_call hg hdn hx hE ha hc (by rintro v w' ⟨a, rfl, S'⟩; exact k a w' (S.more S').1)
theorem Sat.oldOf {hc fr : List HO} {b : Nat} {T : TypeId} {cs : List Value} (S : Sat w0 M (hc ++ fr) w) (hm : HO.cl b T cs ∈ fr) : OldB w (blks hc) b T cs := by
  obtain ⟨_, _, hap⟩ := List.pairwise_append.1 S.apart
  refine ⟨(S.ok _ (List.mem_append_right _ hm)).1, fun hb => ?_⟩
  obtain ⟨o2, h2, h3⟩ := blks_mem hb
  exact hap o2 h2 _ hm b h3 rfl
end
theorem permOf (xs : List HO) (z : HO) {is js : List Nat} (h : is.Perm js) : (is.map fun i => xs.getD i z).Perm (js.map fun i => xs.getD i z) := h.map _
theorem perm9 (a b c d e f g h i : HO) (t : List HO) : (a :: b :: c :: d :: e :: f :: g :: h :: i :: t).Perm ([b, e, f, a] ++ (t ++ [c, d, g, h, i])) := by
  have h1 : ([a, b, c, d, e, f, g, h, i] : List HO).Perm [b, e, f, a, c, d, g, h, i] := permOf [a, b, c, d, e, f, g, h, i] a (is := [0, 1, 2, 3, 4, 5, 6, 7, 8]) (js := [1, 4, 5, 0, 2, 3, 6, 7, 8]) (by decide)
  have h2 : ([a, b, c, d, e, f, g, h, i] ++ t).Perm ([b, e, f, a, c, d, g, h, i] ++ t) := h1.append_right t
  exact h2.trans (List.Perm.append_left [b, e, f, a] (List.perm_append_comm (l₁ := [c, d, g, h, i]) (l₂ := t)))
/-- rows of rows, returned -/
structure OQ where
  A : Option Addr
  c : Nat
  rs : List OR
def oqH (q : OQ) : List HO := .rw 0 (.slice q.A q.rs.length q.c) 23 1 (q.rs.map orV) :: q.rs.map orH
def oqV (q : OQ) : Value := .slice q.A q.rs.length q.c
set_option maxRecDepth 100000 in
theorem e_All : Ent Try.prog 17 := fun _ _ => rfl
set_option maxRecDepth 8000 in
set_option maxHeartbeats 8000000 in
theorem All_c (A : Option Addr) (cA : Nat) (l : List Dm) (hl : l.length ≤ 9223372036854775807) (ho : ∀ i, i < l.length → (dat l i).ok) (ax : Int) (fr to : ByteArray) (hfr : fr.size ≤ 9223372036854775807) (hto : to.size ≤ 9223372036854775807) (w : World) (R : Rd w A 5 l.length (fun i => dmC (l.getD i dm0))) : Calls Try.prog 17 #[.slice A l.length cA, .agg #[.int .i64 ax, .string fr, .string to]] w (RetP fun v w' => ∃ q : { q : OQ // q.rs.map OR.xs = (allS l ax fr to).1 }, v = .tuple #[oqV q.1, .int .i64 (allS l ax fr to).2] ∧ Sat w [] (oqH q.1) w') := by
  refine calls_of_cw (args := [.slice A l.length cA, .agg #[.int .i64 ax, .string fr, .string to]]) Try.func17 rfl rfl ?_
  have S := Sat.start [] w
  have O := R.old
  by_cases he : askE l ax fr to = 0
  · have hne := askE_ne he
    have hL := givenE_len (askE_given he)
    (repeat' (first | apply cw_seq | apply cw_region | apply wl_nil | apply cw_skip | (apply x_callv; assumption; exact rfl; exact rfl; exact rfl; exact e_asked; (exact (by repeat' constructor)); with_reducible exact (asked_c A cA l hl ho ax fr to hfr hto _ (Old.now O (by assumption))); intro _ _ _) | (apply x_callH; assumption; exact rfl; exact rfl; exact rfl; exact e_joined; (exact (by repeat' constructor)); (with_reducible exact joinedA_c A cA l hl ho hL ax _ (Old.now O (by assumption))); rintro ⟨⟨bn, hn⟩, Nn⟩ w2 S2; dsimp only at S2; dsimp only at Nn; dsimp only; replace S2 : Sat w [] (_ :: _ :: hn) w2 := S2.perm' List.perm_append_comm) | (apply x_makeMapV; assumption; exact rfl; exact rfl; exact rfl; intro _ _ _) | (apply x_insV; assumption; exact rfl; exact rfl; exact kS; exact rfl; exact rfl; (exact (by repeat' constructor)); (exact (by repeat' constructor)); (exact (by unfold maxLen; omega)); exact keyS hfr; intro _ _) | (apply x_move; exact rfl; exact rfl; (exact (by repeat' constructor))) | (apply x_assign; exact rfl; exact rfl; (exact (by repeat' constructor))) | (apply x_fieldB; exact rfl; exact rfl; exact rfl; exact rfl; (constructor)) | (apply x_load; assumption; exact rfl; exact rfl; exact rfl; (exact (by repeat' constructor)); exact rfl; exact rfl; (exact (by repeat' constructor))) | (apply x_bin; exact rfl; exact rfl; exact rfl; (first | exact .z (.wrap (by omega)) | exact (by repeat' constructor))) | (apply x_box; assumption; exact rfl; exact rfl; (exact (by repeat' constructor)); (exact (by repeat' constructor)); intro _ _ _) | (apply x_alloc; assumption; exact rfl; exact rfl; exact rfl; (exact (by repeat' constructor)); intro _ _ _) | (apply x_store; assumption; exact rfl; exact rfl; (exact (by repeat' constructor)); (exact (by repeat' constructor)); exact rfl; exact rfl; exact rfl; (exact (by repeat' constructor)); intro _ _) | (apply x_makeFunc; exact rfl; exact rfl; (exact (by repeat' constructor))) | (apply cw_ne; exact rfl; all_goals (intro _; try omega))))
    all_goals first
      | exact absurd he (by assumption)
      | skip
    rename_i b2 _ _ b3 _ _ _ _ _ _ b7 _ _ _ _ b8 _ _ bp _ _ _ _ b9 _ _ _ _ b10 _ _ w4 S4
    have hk0 : KeysIn (putV (fun _ => none) (sK fr) (.bool true)) (sK fr :: ((netL l ax).map (stoE l)).map sK) := fun kl h => by
      by_cases e : kl = sK fr
      · rw [e]; exact List.mem_cons_self
      · rw [putV_other e] at h; cases h
    have hp0 : PassM (putV (fun _ => none) (sK fr) (.bool true)) [fr] := PassM.on (pass := []) (fun s => rfl) fr
    have hnl : (netL l ax).length ≤ 2 * l.length := nlk_len (l := l) (ax := ax) (use := allU) l.length
    have hKl : (sK fr :: ((netL l ax).map (stoE l)).map sK).length ≤ 10000 := by simp; omega
    have hnd : need ((netL l ax).map (stoE l)) [fr] ≤ (netL l ax).length := by have := need_le (K := (netL l ax).map (stoE l)) (pass := [fr]); rwa [List.length_map] at this
    have S5 := Sat.prMono (b := bp) (φ := MapV Try.prog 9 (0 + 1) (putV (fun _ => none) (sK fr) (.bool true))) S4 (by exact (by repeat' constructor)) (fun H => H.shrink kS hk0)
    have S6 := (S5.addNil 59 2).addNil 23 1
    have S7 : Sat w [] (hcG none 0 [] bp (sK fr :: ((netL l ax).map (stoE l)).map sK) b8 ⟨[], none, 0, putV (fun _ => none) (sK fr) (.bool true)⟩ ++ (hn ++ [_, _, _, _, _])) w4 := S6.perm' (perm9 _ _ _ _ _ _ _ _ _ hn)
    clear S4 S5 S6
    refine x_callC (bd := []) (hc := hcG none 0 [] bp (sK fr :: ((netL l ax).map (stoE l)).map sK) b8 ⟨[], none, 0, putV (fun _ => none) (sK fr) (.bool true)⟩) (fr := hn ++ [_, _, _, _, _]) S7 rfl rfl rfl e_grow (by exact (by repeat' constructor)) (List.Perm.refl _)
      (fun Sc => grow_c A cA l hl ho (netL l ax) (nlk_ok l ax allU hL) ax fr to b2 b3 b7 b8 b9 b10 bn bp _ (fun s hs => List.mem_cons_of_mem _ (List.mem_map_of_mem hs)) hKl ((netL l ax).length + 1) fr [] [fr] none 0 ⟨[], none, 0, putV (fun _ => none) (sK fr) (.bool true)⟩ w4 (by omega) hfr (fun e => absurd e hne) (by show 0 + _ ≤ _; omega) (Nat.zero_le _) hp0 hk0 Sc
        ⟨O.next (fun i _ => by simp) S7, S7.oldOf (List.mem_append_right _ (by simp)), S7.oldOf (List.mem_append_right _ (by simp)), S7.oldOf (List.mem_append_right _ (by simp)), S7.oldOf (List.mem_append_right _ (by simp)), S7.oldOf (List.mem_append_right _ (by simp)), Nn.oldL S7⟩) ?_
    rintro ⟨⟨rs2, Ao2, co2, m2⟩, hq1, hq2, hq3, hq4⟩ w5 S8
    dsimp only at hq1 hq2 S8
    have S9 := (S8.drop (hcG none 0 [] bp (sK fr :: ((netL l ax).map (stoE l)).map sK) b8 ⟨rs2, Ao2, co2, m2⟩) (List.sublist_append_left _ _))
    clear S8 S7
    replace S9 : Sat w [] (_ :: _ :: .cl b8 41 [.slice Ao2 rs2.length co2] :: oqH ⟨Ao2, co2, rs2⟩) w5 := S9
    cases hr : (runG l ax fr to).2 with
    | true =>
      have h1 : allS l ax fr to = ((runG l ax fr to).1, 0) := (if_pos he).trans (if_pos hr)
      rw [h1]
      have hr' : (growS l (atS l (netL l ax)) to ((netL l ax).length + 1) fr [] [fr] []).2 = true := hr
      (repeat' (first | apply cw_seq | apply cw_region | apply wl_nil | apply cw_skip | apply cw_ret | (apply x_assign; exact rfl; exact rfl; (exact (by repeat' constructor))) | (apply x_load; assumption; exact rfl; exact rfl; exact rfl; (exact (by repeat' constructor)); exact rfl; exact rfl; (exact (by repeat' constructor))) | (apply x_un; exact rfl; exact rfl; exact rfl; (first | exact .z (.wrap (by omega)) | exact (by repeat' constructor))) | (apply cw_not; exact rfl; all_goals (intro _; try omega))))
      all_goals first
        | exact absurd (hr'.symm.trans (by assumption)) (by decide)
        | skip
      (first | refine q_retS (by assumption) rfl (by repeat (first | exact .nil | (apply RV.tmp; exact (by repeat' constructor)) | (apply RV.cell; exact rfl; exact (by repeat' constructor); exact rfl; exact rfl; exact (by repeat' constructor)))) ?_ | (simp only [thenQ, blockQ]; refine q_retS (by assumption) rfl (by repeat (first | exact .nil | (apply RV.tmp; exact (by repeat' constructor)) | (apply RV.cell; exact rfl; exact (by repeat' constructor); exact rfl; exact rfl; exact (by repeat' constructor)))) ?_))
      exact ⟨⟨⟨Ao2, co2, rs2⟩, hq1⟩, rfl, S9.drop1.drop1.drop1⟩
    | false =>
      have h1 : allS l ax fr to = ([], 12) := (if_pos he).trans (if_neg (by rw [hr]; decide))
      rw [h1]
      have hr' : (growS l (atS l (netL l ax)) to ((netL l ax).length + 1) fr [] [fr] []).2 = false := hr
      (repeat' (first | apply cw_seq | apply cw_region | apply wl_nil | apply cw_skip | apply cw_ret | (apply x_assign; exact rfl; exact rfl; (exact (by repeat' constructor))) | (apply x_load; assumption; exact rfl; exact rfl; exact rfl; (exact (by repeat' constructor)); exact rfl; exact rfl; (exact (by repeat' constructor))) | (apply x_un; exact rfl; exact rfl; exact rfl; (first | exact .z (.wrap (by omega)) | exact (by repeat' constructor))) | (apply cw_not; exact rfl; all_goals (intro _; try omega))))
      all_goals first
        | exact absurd (hr'.symm.trans (by assumption)) (by decide)
        | skip
      (first | refine q_retS (by assumption) rfl (by repeat (first | exact .nil | (apply RV.tmp; exact (by repeat' constructor)) | (apply RV.cell; exact rfl; exact (by repeat' constructor); exact rfl; exact rfl; exact (by repeat' constructor)))) ?_ | (simp only [thenQ, blockQ]; refine q_retS (by assumption) rfl (by repeat (first | exact .nil | (apply RV.tmp; exact (by repeat' constructor)) | (apply RV.cell; exact rfl; exact (by repeat' constructor); exact rfl; exact rfl; exact (by repeat' constructor)))) ?_))
      exact ⟨⟨⟨none, 0, []⟩, rfl⟩, rfl, ((Sat.start [] w).call (Sat.keeps S9)).addNil _ _⟩
  · have h1 : allS l ax fr to = ([], askE l ax fr to) := if_neg he
    rw [h1]
    (repeat' (first | apply cw_seq | apply cw_region | apply wl_nil | apply cw_ret | (apply x_callv; assumption; exact rfl; exact rfl; exact rfl; exact e_asked; (exact (by repeat' constructor)); with_reducible exact (asked_c A cA l hl ho ax fr to hfr hto _ (Old.now O (by assumption))); intro _ _ _) | (apply x_move; exact rfl; exact rfl; (exact (by repeat' constructor))) | (apply x_assign; exact rfl; exact rfl; (exact (by repeat' constructor))) | (apply x_load; assumption; exact rfl; exact rfl; exact rfl; (exact (by repeat' constructor)); exact rfl; exact rfl; (exact (by repeat' constructor))) | (apply x_bin; exact rfl; exact rfl; exact rfl; (first | exact .z (.wrap (by omega)) | exact (by repeat' constructor))) | (apply x_box; assumption; exact rfl; exact rfl; (exact (by repeat' constructor)); (exact (by repeat' constructor)); intro _ _ _) | (apply cw_ne; exact rfl; all_goals (intro _; try omega))))
    all_goals first
      | exact absurd (by assumption) he
      | skip
    (first | refine q_retS (by assumption) rfl (by repeat (first | exact .nil | (apply RV.tmp; exact (by repeat' constructor)) | (apply RV.cell; exact rfl; exact (by repeat' constructor); exact rfl; exact rfl; exact (by repeat' constructor)))) ?_ | (simp only [thenQ, blockQ]; refine q_retS (by assumption) rfl (by repeat (first | exact .nil | (apply RV.tmp; exact (by repeat' constructor)) | (apply RV.cell; exact rfl; exact (by repeat' constructor); exact rfl; exact rfl; exact (by repeat' constructor)))) ?_))
    exact ⟨⟨⟨none, 0, []⟩, rfl⟩, rfl, (Sat.start [] w).call (Sat.keeps (by assumption)) |>.addNil _ _⟩
end Go.Proofs.Ytagapiflfnbfiaa
