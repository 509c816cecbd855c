/- The shortest chain between two features: the program's walk. No statement of the seat is proved here. -/
import Derived.Test.YtagapiflfnbfiaaJc
namespace Go.Proofs.Ytagapiflfnbfiaa
set_option linter.unusedVariables false
set_option linter.unusedSimpArgs false
open Go Go.RowKit
section
variable {P : Program} {ro : Option Nat} {n : Nat} {Q : Post} {D : List Deferred} {f : Fm} {w : World}
theorem ex_min {σ : Type} (p : σ → Prop) (μ : σ → Nat) (h : ∃ s, p s) : ∃ s, p s ∧ ∀ t, p t → μ s ≤ μ t := by
  obtain ⟨s, hs⟩ := h
  generalize hm : μ s = m
  induction m using Nat.strongRecOn generalizing s with
  | ind m ih =>
    by_cases h2 : ∃ t, p t ∧ μ t < m
    · obtain ⟨t, ht, hlt⟩ := h2
      exact ih (μ t) hlt t ht rfl
    · exact ⟨s, hs, fun t ht => by rw [hm]; exact Nat.le_of_not_lt fun e => h2 ⟨t, ht, e⟩⟩
open Classical in
/-- a loop with a state that no variable holds -/
theorem cw_loopG {σ : Type} {c : Code} (S ks : List Nat) (I : σ → List Value → World → Prop) (μ : σ → Nat) (s0 : σ) (h0 : I s0 (ks.map f) w)
    (round : ∀ s g vs w, I s vs w → CW P ro n c (thenQ (fun D' f' w' => D' = D ∧ Agree S f' f ∧ ∃ s', I s' (ks.map f') w' ∧ μ s' < μ s) Q) D (updl (mask S g f) ks vs) w) :
    CW P ro n (.loop c) Q D f w := by
  let ν : List Value → World → Nat := fun vs w => if h : ∃ s, I s vs w then μ (Classical.choose (ex_min (fun s => I s vs w) μ h)) else 0
  have hν : ∀ vs w s, I s vs w → ∃ s', I s' vs w ∧ μ s' = ν vs w ∧ ∀ t, I t vs w → ν vs w ≤ μ t := fun vs w s hs => by
    have h : ∃ s, I s vs w := ⟨s, hs⟩
    have h2 := Classical.choose_spec (ex_min (fun s => I s vs w) μ h)
    have e : ν vs w = μ (Classical.choose (ex_min (fun s => I s vs w) μ h)) := by
      show (if h : ∃ s, I s vs w then μ (Classical.choose (ex_min (fun s => I s vs w) μ h)) else 0) = _
      rw [dif_pos h]
    exact ⟨_, h2.1, e.symm, fun t ht => by rw [e]; exact h2.2 t ht⟩
  refine cw_loop S ks (fun vs w => ∃ s, I s vs w) ν ⟨s0, h0⟩ ?_
  rintro g vs w1 ⟨s, hs⟩
  obtain ⟨s1, hs1, e1, _⟩ := hν vs w1 s hs
  refine cw_mono (round s1 g vs w1 hs1) ?_
  rintro e D' f' w' hq
  cases e with
  | normal =>
    obtain ⟨h1, h2, s2, h3, h4⟩ := hq
    obtain ⟨_, _, _, h5⟩ := hν _ _ s2 h3
    exact ⟨h1, h2, ⟨s2, h3⟩, by have := h5 _ h3; omega⟩
  | exit id => exact hq
  | goto id => exact hq
  | ret => exact hq
  | panic c => exact hq
  | outgrown => exact hq
end
theorem take_snocL {c : List Lk} {k : Nat} (h : k < c.length) : c.take (k + 1) = c.take k ++ [c.getD k lk0] := by
  rw [List.take_add_one]
  simp [List.getD_eq_getElem?_getD, h]
theorem find_first {α : Type} {z : α} {p : α → Bool} : ∀ {l : List α} {j : Nat}, j < l.length → p (l.getD j z) = true → (∀ i, i < j → ¬ p (l.getD i z) = true) → l.find? p = some (l.getD j z)
  | [], j, h, _, _ => by simp at h
  | a :: t, 0, _, h, _ => by rw [List.find?_cons_of_pos (by simpa using h)]; rfl
  | a :: t, j + 1, hj, h, hn => by
    rw [List.find?_cons_of_neg (by simpa using hn 0 (Nat.succ_pos _))]
    rw [find_first (z := z) (l := t) (j := j) (by simpa using hj) (by simpa using h) (fun i hi => by simpa using hn (i + 1) (by omega))]
    rfl
/-- links that may be followed backwards -/
structure NetOk (l : List Dm) (L : List Lk) : Prop where
  inr : ∀ x ∈ L, inR l x
  sym : ∀ x ∈ L, ∃ y ∈ L, begE l y = stoE l x ∧ stoE l y = begE l x
  few : L.length ≤ 1000
theorem atS_mem {l : List Dm} {L : List Lk} {s : ByteArray} {x : Lk} : x ∈ atS l L s ↔ x ∈ L ∧ begE l x = s := by
  unfold atS; rw [List.mem_filter, decide_eq_true_iff]
theorem NetOk.at_ {l : List Dm} {L : List Lk} (H : NetOk l L) (a : ByteArray) : ∀ x ∈ atS l L a, stoE l x ∈ L.map (stoE l) ∧ ∃ y ∈ atS l L (stoE l x), stoE l y = a := fun x hx => by
  obtain ⟨h1, h2⟩ := atS_mem.1 hx
  obtain ⟨y, h3, h4, h5⟩ := H.sym x h1
  exact ⟨List.mem_map_of_mem h1, y, atS_mem.2 ⟨h3, h4⟩, by rw [h5, h2]⟩
abbrev farT (l : List Dm) (L : List Lk) (to : ByteArray) : Far := farR l (atS l L) (L.map (stoE l)) to
def shS (l : List Dm) (L : List Lk) (a to : ByteArray) : List Lk × Bool :=
  match farG (farT l L to) a with
  | some d => (wayF l (atS l L) (farT l L to) d a, true)
  | none => ([], false)
theorem shS_yes {l : List Dm} {L : List Lk} {a to : ByteArray} {d : Nat} (h : farG (farT l L to) a = some d) : shS l L a to = (wayF l (atS l L) (farT l L to) d a, true) := by unfold shS; rw [h]
theorem shS_no {l : List Dm} {L : List Lk} {a to : ByteArray} (h : farG (farT l L to) a = none) : shS l L a to = ([], false) := by unfold shS; rw [h]
def FarM (m : Lit → Option Value) (F : Far) : Prop := ∀ s, m (sK s) = (farG F s).map fun d => .int .i64 (d : Int)
theorem FarM.put {m : Lit → Option Value} {F : Far} {t : ByteArray} {d : Nat} (H : FarM m F) (h : farG F t = none) : FarM (putV m (sK t) (.int .i64 ((d : Nat) : Int))) (F ++ [(t, d)]) := fun s => by
  by_cases hs : s = t
  · subst hs
    rw [putV_same, farG_snoc_same h]; rfl
  · rw [putV_other (fun e => hs (sK_inj e)), farG_snoc_other hs, H s]
theorem stepF_yes {l : List Dm} {d : Nat} {s : Far × List ByteArray} {x : Lk} {k : Nat} (h : farG s.1 (stoE l x) = some k) : stepF l d s x = s := by unfold stepF; rw [h]; rfl
theorem stepF_no {l : List Dm} {d : Nat} {s : Far × List ByteArray} {x : Lk} (h : farG s.1 (stoE l x) = none) : stepF l d s x = (s.1 ++ [(stoE l x, d + 1)], s.2 ++ [stoE l x]) := by unfold stepF; rw [h]; rfl
theorem relF_succ {l : List Dm} {d : Nat} {xs : List Lk} {s : Far × List ByteArray} {j : Nat} (h : j < xs.length) : relF l d (xs.take (j + 1)) s = stepF l d (relF l d (xs.take j) s) (xs.getD j lk0) := by
  unfold relF
  rw [take_snocL h, List.foldl_append]
  rfl
theorem bfsF_end {l : List Dm} {N : ByteArray → List Lk} {f : Nat} {F : Far} : bfsF l N f F [] = F := by cases f <;> rfl
set_option maxRecDepth 100000 in
theorem e_shortest : Ent Try.prog 40 := fun _ _ => rfl
set_option maxRecDepth 8000 in
set_option maxHeartbeats 8000000 in
theorem shortest_c (A : Option Addr) (cA : Nat) (l : List Dm) (hl : l.length ≤ 9223372036854775807) (ho : ∀ i, i < l.length → (dat l i).ok) (L : List Lk) (H : NetOk l L) (b : Nat) (fr to : ByteArray) (hfr : fr.size ≤ 9223372036854775807) (hto : to.size ≤ 9223372036854775807) (w : World) (R : Rd w A 5 l.length (fun i => dmC (l.getD i dm0))) (RN : NetRd w l b L) :
    Calls Try.prog 40 #[.slice A l.length cA, .map (some b), .string fr, .string to] w (RetP (RowR (fun v => .tuple #[v, .bool (shS l L fr to).2]) 59 2 ((shS l L fr to).1.map lkC) w)) := by
  refine calls_of_cw (args := [.slice A l.length cA, .map (some b), .string fr, .string to]) Try.func40 rfl rfl ?_
  have S := Sat.start [] w
  have O := R.old
  obtain ⟨nn, mn, On, hnet⟩ := RN.at_
  have hK : (L.map (stoE l)).length ≤ 1000 := by rw [List.length_map]; exact H.few
  have hsz : ∀ s, s ∈ to :: L.map (stoE l) → s.size ≤ 9223372036854775807 := fun s hs => by
    rcases List.mem_cons.1 hs with rfl | hs
    · exact hto
    · obtain ⟨x, hx, rfl⟩ := List.mem_map.1 hs
      exact sto_ok ho (H.inr x hx)
  (repeat' (first | apply cw_seq | apply cw_region | apply wl_nil | apply cw_block | (apply x_makeMapV; assumption; exact rfl; exact rfl; exact rfl; intro _ _ _) | (apply x_insV; assumption; exact rfl; exact rfl; exact kS; exact rfl; exact rfl; (exact (by repeat' constructor)); (exact (by repeat' constructor)); (exact (by unfold maxLen; omega)); exact keyS hto; intro _ _) | (apply x_move; exact rfl; exact rfl; (exact (by repeat' constructor))) | (apply x_assign; exact rfl; exact rfl; (exact (by repeat' constructor))) | (apply x_buildSlice; assumption; exact rfl; exact rfl; exact rfl; (exact (by repeat' constructor)); intro _ _ _)))
  rename_i b10 _ _ _ _ bq w1 S1
  replace S1 := S1.toQ (b := bq) .head
  refine cw_loopG (σ := Far × List ByteArray × Nat) [11, 12, 14, 15, 16, 17, 18, 33, 34, 35, 36, 37, 38, 39, 40, 41, 42, 43, 44, 45, 46, 47, 48, 49, 50, 51, 52, 53, 54, 55, 56, 57, 58, 59, 60, 61, 62, 63, 64, 65, 66, 67, 68, 69, 70, 71, 72, 73] [11] (fun s us wr => FarI l (atS l L) (L.map (stoE l)) to s.1 s.2.1 ∧ leftF (L.map (stoE l)) s.1 s.2.1 ≤ s.2.2 ∧ bfsF l (atS l L) s.2.2 s.1 s.2.1 = farT l L to ∧
    ∃ (g k c qn n : Nat) (m : Lit → Option Value), qn = s.2.1.length ∧ us = [.slice (some ⟨g, k, none⟩) qn c] ∧ n ≤ s.1.length ∧ FarM m s.1 ∧ Sat w [] [.pr g (QB 9 k c ((s.2.1).map Value.string)), .pr b10 (MapV Try.prog 9 n m)] wr) (fun s => s.2.2)
    ([(to, 0)], [to], leftF (L.map (stoE l)) [(to, 0)] [to]) ⟨FarI.start _ _ _ _, Nat.le_refl _, rfl, bq, 0, 1, 1, 1, _, rfl, rfl, Nat.le_refl _, fun s => ?_, S1⟩ ?_
  · by_cases hs : s = to
    · subst hs; rw [putV_same]; simp [farG]
    · rw [putV_other (fun e => hs (sK_inj e))]; have h2 : ¬ to = s := fun e => hs e.symm; simp [farG, h2]
  clear S1 S
  rintro ⟨F, q, fu⟩ g' us wr ⟨FI, hle, hbf, g, k, c, qn, n, m, hqn, rfl, hn, hm, Sr⟩
  dsimp only at FI hle hbf hqn hn hm Sr
  cases q with
  | nil =>
    have hR : F = farT l L to := by rw [← hbf, bfsF_end]
    subst hR
    have hlk : ∀ s, (m (sK s)).getD (.int .i64 0) = .int .i64 (((farG (farT l L to) s).getD 0 : Nat) : Int) ∧ (m (sK s)).isSome = (farG (farT l L to) s).isSome := fun s => by
      rw [hm s]
      cases farG (farT l L to) s with
      | none => exact ⟨rfl, rfl⟩
      | some d => exact ⟨rfl, rfl⟩
    obtain rfl : qn = 0 := hqn
    have hlen := FI.len
    cases hd : farG (farT l L to) fr with
    | none =>
      rw [shS_no hd]
      have hv1 := (hlk fr).1
      have ho1 := (hlk fr).2
      rw [hd] at hv1 ho1
      (repeat' (first | apply cw_seq | apply cw_region | apply wl_nil | apply cw_exit | apply cw_ret | (apply x_lookVok; exact rfl; exact rfl; exact rfl; exact kS; exact rfl; exact rfl; exact Sat.prAt (by assumption) (by exact (by repeat' constructor)); exact keyS hfr; exact trivial; exact hv1; exact ho1) | (apply x_move; exact rfl; exact rfl; (exact (by repeat' constructor))) | (apply x_assign; exact rfl; exact rfl; (exact (by repeat' constructor))) | (apply x_bin; exact rfl; exact rfl; exact rfl; (first | exact .z (.wrap (by omega)) | exact (by repeat' constructor))) | (apply x_un; exact rfl; exact rfl; exact rfl; (first | exact .z (.wrap (by omega)) | exact (by repeat' constructor))) | (apply x_extract; exact rfl; exact rfl; exact rfl; (exact (by repeat' constructor))) | (apply x_builtin; exact rfl; exact rfl; exact (fun _ => rfl); (exact (by repeat' constructor))) | (apply cw_true; exact rfl) | (apply cw_false; exact rfl)))
      (first | refine q_retS (by assumption) rfl (by repeat (first | exact .nil | (apply RV.tmp; exact (by repeat' constructor)) | (apply RV.cell; exact rfl; exact (by repeat' constructor); exact rfl; exact rfl; exact (by repeat' constructor)))) ?_ | (simp only [thenQ, blockQ]; refine q_retS (by assumption) rfl (by repeat (first | exact .nil | (apply RV.tmp; exact (by repeat' constructor)) | (apply RV.cell; exact rfl; exact (by repeat' constructor); exact rfl; exact rfl; exact (by repeat' constructor)))) ?_))
      exact rowR_nil (V := fun v => .tuple #[v, .bool false]) rfl (Sat.keeps (by assumption))
    | some d0 =>
      rw [shS_yes hd]
      have hv1 := (hlk fr).1
      have ho1 := (hlk fr).2
      rw [hd] at hv1 ho1
      have hd0 := FI.le fr d0 hd
      (repeat' (first | apply cw_seq | apply cw_region | apply wl_nil | apply cw_block | apply cw_skip | apply cw_exit | (apply x_lookVok; exact rfl; exact rfl; exact rfl; exact kS; exact rfl; exact rfl; exact Sat.prAt (by assumption) (by exact (by repeat' constructor)); exact keyS hfr; exact trivial; exact hv1; exact ho1) | (apply x_move; exact rfl; exact rfl; (exact (by repeat' constructor))) | (apply x_assign; exact rfl; exact rfl; (exact (by repeat' constructor))) | (apply x_bin; exact rfl; exact rfl; exact rfl; (first | exact .z (.wrap (by omega)) | exact (by repeat' constructor))) | (apply x_un; exact rfl; exact rfl; exact rfl; (first | exact .z (.wrap (by omega)) | exact (by repeat' constructor))) | (apply x_extract; exact rfl; exact rfl; exact rfl; (exact (by repeat' constructor))) | (apply x_builtin; exact rfl; exact rfl; exact (fun _ => rfl); (exact (by repeat' constructor))) | (apply cw_false; exact rfl)))
      refine cw_loopG (σ := Nat × ByteArray × List Lk) [2, 21, 23, 24, 25, 26, 27, 82, 83, 84, 85, 86, 87, 88, 89, 90, 91, 92, 93, 94, 95, 96, 97, 98, 99, 100, 101, 102, 103, 104, 105, 106, 107, 108, 109, 110, 111, 112, 113, 114, 115, 116, 117, 118, 119] [2, 21] (fun s us wr => farG (farT l L to) s.2.1 = some s.1 ∧ s.2.1.size ≤ 9223372036854775807 ∧ s.2.2 ++ wayF l (atS l L) (farT l L to) s.1 s.2.1 = wayF l (atS l L) (farT l L to) d0 fr ∧ s.2.2.length + s.1 = d0 ∧
        ∃ (A' : Option Addr) (no c' : Nat), no = s.2.2.length ∧ us = [.string s.2.1, .slice A' no c'] ∧ Sat w [] [.rw 0 (.slice A' no c') 59 2 (s.2.2.map lkC), .pr g (QB 9 k c (([]).map Value.string)), .pr b10 (MapV Try.prog 9 n m)] wr) (fun s => s.1)
        (d0, fr, []) ⟨hd, hfr, rfl, Nat.zero_add _, none, 0, 0, rfl, rfl, Sat.addNil (by assumption) _ _⟩ ?_
      clear Sr
      rintro ⟨e, s, out⟩ g2 us2 wr2 ⟨hds, hss, hway, hcnt, A', no, c', hno, hus, Sr⟩
      dsimp only at hds hss hway hcnt hno hus Sr
      subst hus
      obtain rfl : no = out.length := hno
      by_cases hst : s = to
      · have he0 : e = 0 := by
          have := FI.end_
          rw [hst, this] at hds
          injection hds with h
          exact h.symm
        subst he0
        rw [show wayF l (atS l L) (farT l L to) 0 s = [] from rfl, List.append_nil] at hway
        rw [← hway]
        (repeat' (first | apply cw_seq | apply cw_region | apply wl_nil | apply cw_block | apply cw_skip | apply cw_exit | apply cw_ret | (apply x_move; exact rfl; exact rfl; (exact (by repeat' constructor))) | (apply x_assign; exact rfl; exact rfl; (exact (by repeat' constructor))) | (apply x_neStr; exact rfl; exact rfl; exact rfl; exact rfl) | (apply x_dec; exact rfl; all_goals (intro _; try omega))))
        all_goals first
          | exact absurd hst (by assumption)
          | exact absurd (by assumption) (not_not_intro hst)
          | ((first | refine q_retS (by assumption) rfl (by repeat (first | exact .nil | (apply RV.tmp; exact (by repeat' constructor)) | (apply RV.cell; exact rfl; exact (by repeat' constructor); exact rfl; exact rfl; exact (by repeat' constructor)))) ?_ | (simp only [thenQ, blockQ]; refine q_retS (by assumption) rfl (by repeat (first | exact .nil | (apply RV.tmp; exact (by repeat' constructor)) | (apply RV.cell; exact rfl; exact (by repeat' constructor); exact rfl; exact rfl; exact (by repeat' constructor)))) ?_))
             exact rowR_n (V := fun v => .tuple #[v, .bool true]) (List.length_map _).symm (by assumption) .head)
      · obtain ⟨e1, rfl, y, hy1, hy2⟩ := FI.near s e hds hst
        have hxl : (atS l L s).length ≤ 1000 := Nat.le_trans atS_len H.few
        obtain ⟨An, cn, hvn, Rn⟩ := hnet s
        have O3 := Rn.old
        have hvs := (hlk s).1
        rw [hds] at hvs
        replace hvs : (m (sK s)).getD (.int .i64 0) = .int .i64 ((e1 + 1 : Nat) : Int) := hvs
        (repeat' (first | apply cw_seq | apply cw_region | apply wl_nil | apply cw_block | apply cw_skip | apply cw_exit | apply cw_ret | (apply x_lookV; exact rfl; exact rfl; exact rfl; exact kS; exact rfl; exact rfl; exact On.now (by assumption); exact keyS hss; exact trivial; exact hvn) | (apply x_move; exact rfl; exact rfl; (exact (by repeat' constructor))) | (apply x_assign; exact rfl; exact rfl; (exact (by repeat' constructor))) | (apply x_neStr; exact rfl; exact rfl; exact rfl; exact rfl) | (apply x_builtin; exact rfl; exact rfl; exact (fun _ => rfl); (exact (by repeat' constructor))) | (apply x_dec; exact rfl; all_goals (intro _; try omega))))
        all_goals first
          | exact absurd (by assumption) hst
          | exact absurd hst (by assumption)
          | skip
        refine cw_loop [2, 21, 23, 24, 25, 26, 27, 89, 90, 91, 92, 93, 94, 95, 96, 97, 98, 99, 100, 101, 102, 103, 104, 105, 106, 107, 108, 109, 110, 111, 112, 113, 114, 115, 116, 117, 118, 119] [89, 2, 21] (fun us wr => ∃ j : Nat, j ≤ (atS l L s).length ∧ us = [.int .i64 (j : Int), .string s, .slice A' out.length c'] ∧ (∀ i, i < j → ¬ farG (farT l L to) (stoE l ((atS l L s).getD i lk0)) = some e1) ∧
          Sat w [] [.rw 0 (.slice A' out.length c') 59 2 (out.map lkC), .pr g (QB 9 k c (([]).map Value.string)), .pr b10 (MapV Try.prog 9 n m)] wr) (fun us _ => (atS l L s).length - (intOf (us.getD 0 undef)).toNat) ?_ ?_
        · exact ⟨0, Nat.zero_le _, rfl, fun i hi => absurd hi (Nat.not_lt_zero i), Sr⟩
        clear Sr
        rintro g3 us3 wr3 ⟨j, hj, rfl, hno, Sr⟩
        by_cases hlt : j < (atS l L s).length
        · have hxm : (atS l L s).getD j lk0 ∈ atS l L s := by rw [List.getD_eq_getElem?_getD, List.getElem?_eq_getElem hlt]; exact List.getElem_mem hlt
          have hxin : inR l ((atS l L s).getD j lk0) := H.inr _ (atS_mem.1 hxm).1
          have hsx : (stoE l ((atS l L s).getD j lk0)).size ≤ 9223372036854775807 := sto_ok ho hxin
          have hv2 := (hlk (stoE l ((atS l L s).getD j lk0))).1
          have ho2 := (hlk (stoE l ((atS l L s).getD j lk0))).2
          cases hf : farG (farT l L to) (stoE l ((atS l L s).getD j lk0)) with
          | none =>
            rw [hf] at hv2 ho2
            (repeat' (first | apply cw_seq | apply cw_region | apply wl_nil | apply cw_block | apply cw_skip | (apply x_callv; assumption; exact rfl; exact rfl; exact rfl; exact e_ends; (exact (by repeat' constructor)); with_reducible exact (ends_c A cA l hl ho _ hxin _ (Old.now O (by assumption))); intro _ _ _) | (apply x_lookVok; exact rfl; exact rfl; exact rfl; exact kS; exact rfl; exact rfl; exact Sat.prAt (by assumption) (by exact (by repeat' constructor)); exact keyS hsx; exact trivial; exact hv2; exact ho2) | (apply x_not; exact rfl; exact rfl) | (apply x_move; exact rfl; exact rfl; (exact (by repeat' constructor))) | (apply x_assign; exact rfl; exact rfl; (exact (by repeat' constructor))) | (apply x_load; assumption; exact rfl; exact rfl; exact rfl; (exact (by repeat' constructor)); exact rfl; exact rfl; (exact (by repeat' constructor))) | (apply x_bin; exact rfl; exact rfl; exact rfl; (first | exact .z (.wrap (by omega)) | exact (by repeat' constructor))) | (apply x_pick; exact rfl; exact rfl; exact rfl; (exact (by repeat' constructor))) | (apply x_alloc; assumption; exact rfl; exact rfl; exact rfl; (exact (by repeat' constructor)); intro _ _ _) | (apply x_store; assumption; exact rfl; exact rfl; (exact (by repeat' constructor)); (exact (by repeat' constructor)); exact rfl; exact rfl; exact rfl; (exact (by repeat' constructor)); intro _ _) | (apply x_extract; exact rfl; exact rfl; exact rfl; (exact (by repeat' constructor))) | (apply x_index; exact rfl; exact rfl; exact rfl; exact rfl; exact rfl; (constructor); (first | omega | exact size_pos (by assumption) | assumption); (first | exact rfl | assumption | exact Rd.some_ (by assumption) (by omega) | exact Rd.some_ (Old.rd (by assumption)) (by omega) | exact (Sat.rd (by assumption) (by exact (by repeat' constructor))).some_ (by omega))) | (apply x_loadR; exact rfl; exact rfl; exact rfl; (first | exact Old.now (by assumption) (by assumption) | exact Sat.rdpr (by assumption) (by exact (by repeat' constructor)) | exact Sat.rd (by assumption) (by exact (by repeat' constructor))); (first | omega | exact size_pos (by assumption) | assumption); exact rfl; exact rfl; (exact (by repeat' constructor))) | (apply cw_false; exact rfl) | (apply x_dec; exact rfl; all_goals (intro _; try omega))))
            refine ⟨rfl, (by repeat (first | exact Agree.updl rfl (Agree.mask _ _ _) | refine Agree.upd rfl ?_ | refine Agree.updl rfl ?_ | refine Agree.maskIn rfl ?_)), ⟨j + 1, hlt, rfl, fun i hi => ?_, Sat.drop1 (by assumption)⟩, ?_⟩
            · rcases Nat.lt_succ_iff_lt_or_eq.1 hi with hi | hi
              · exact hno i hi
              · rw [hi, hf]; exact fun e => by cases e
            · show (atS l L s).length - (j + 1 : Int).toNat < (atS l L s).length - (j : Int).toNat
              omega
          | some kf =>
            rw [hf] at hv2 ho2
            replace hv2 : (m (sK (stoE l ((atS l L s).getD j lk0)))).getD (.int .i64 0) = .int .i64 (kf : Int) := hv2
            have hkf := FI.le _ kf hf
            have he1 := FI.le _ _ hds
            by_cases hk1 : kf = e1
            · subst hk1
              have hob : (out.map lkC).length < 1000000000 := by rw [List.length_map]; omega
              (repeat' (first | apply cw_seq | apply cw_region | apply wl_nil | apply cw_block | apply cw_skip | apply cw_exit | (apply x_callv; assumption; exact rfl; exact rfl; exact rfl; exact e_ends; (exact (by repeat' constructor)); with_reducible exact (ends_c A cA l hl ho _ hxin _ (Old.now O (by assumption))); intro _ _ _) | (apply x_lookVok; exact rfl; exact rfl; exact rfl; exact kS; exact rfl; exact rfl; exact Sat.prAt (by assumption) (by exact (by repeat' constructor)); exact keyS hsx; exact trivial; exact hv2; exact ho2) | (apply x_lookV; exact rfl; exact rfl; exact rfl; exact kS; exact rfl; exact rfl; exact Sat.prAt (by assumption) (by exact (by repeat' constructor)); exact keyS hss; exact trivial; exact hvs) | (apply x_append1; assumption; exact rfl; exact rfl; exact rfl; exact rfl; exact rfl; (exact (by repeat' constructor)); (exact (by repeat' constructor)); exact rfl; exact rfl; exact rfl; (first | assumption | omega | (simp; omega)); intro _ _ _ _) | (apply x_move; exact rfl; exact rfl; (exact (by repeat' constructor))) | (apply x_assign; exact rfl; exact rfl; (exact (by repeat' constructor))) | (apply x_load; assumption; exact rfl; exact rfl; exact rfl; (exact (by repeat' constructor)); exact rfl; exact rfl; (exact (by repeat' constructor))) | (apply x_bin; exact rfl; exact rfl; exact rfl; (first | exact .z (.wrap (by omega)) | exact (by repeat' constructor))) | (apply x_pick; exact rfl; exact rfl; exact rfl; (exact (by repeat' constructor))) | (apply x_alloc; assumption; exact rfl; exact rfl; exact rfl; (exact (by repeat' constructor)); intro _ _ _) | (apply x_store; assumption; exact rfl; exact rfl; (exact (by repeat' constructor)); (exact (by repeat' constructor)); exact rfl; exact rfl; exact rfl; (exact (by repeat' constructor)); intro _ _) | (apply x_extract; exact rfl; exact rfl; exact rfl; (exact (by repeat' constructor))) | (apply x_buildSlice; assumption; exact rfl; exact rfl; exact rfl; (exact (by repeat' constructor)); intro _ _ _) | (apply x_index; exact rfl; exact rfl; exact rfl; exact rfl; exact rfl; (constructor); (first | omega | exact size_pos (by assumption) | assumption); (first | exact rfl | assumption | exact Rd.some_ (by assumption) (by omega) | exact Rd.some_ (Old.rd (by assumption)) (by omega) | exact (Sat.rd (by assumption) (by exact (by repeat' constructor))).some_ (by omega))) | (apply x_loadR; exact rfl; exact rfl; exact rfl; (first | exact Old.now (by assumption) (by assumption) | exact Sat.rdpr (by assumption) (by exact (by repeat' constructor)) | exact Sat.rd (by assumption) (by exact (by repeat' constructor))); (first | omega | exact size_pos (by assumption) | assumption); exact rfl; exact rfl; (exact (by repeat' constructor))) | (apply x_dec; exact rfl; all_goals (intro _; try omega))))
              all_goals first
                | (exfalso; omega)
                | skip
              rename_i g4 c4 w4 S4
              have hfind : (atS l L s).find? (fun x => decide (farG (farT l L to) (stoE l x) = some kf)) = some ((atS l L s).getD j lk0) := find_first hlt (by simpa using hf) (fun i hi => by simpa using hno i hi)
              have S5 : Sat w [] [.rw 0 (.slice (some ⟨g4, 0, none⟩) ((out.map lkC).length + 1) c4) 59 2 ((out ++ [(atS l L s).getD j lk0]).map lkC), .pr g (QB 9 k c (([]).map Value.string)), .pr b10 (MapV Try.prog 9 n m)] w4 := by
                rw [List.map_append]
                exact S4.drop1.drop1
              refine And.intro rfl (And.intro (by repeat (first | exact Agree.updl rfl (Agree.mask _ _ _) | refine Agree.upd rfl ?_ | refine Agree.updl rfl ?_ | refine Agree.maskIn rfl ?_)) ⟨(kf, stoE l ((atS l L s).getD j lk0), out ++ [(atS l L s).getD j lk0]), ⟨hf, hsx, ?_, ?_, some ⟨g4, 0, none⟩, (out.map lkC).length + 1, c4, ?_, rfl, S5⟩, Nat.lt_succ_self _⟩)
              · rw [← hway, wayF_some hfind, List.append_assoc]; rfl
              · rw [← hcnt]; simp; omega
              · simp
            · (repeat' (first | apply cw_seq | apply cw_region | apply wl_nil | apply cw_block | apply cw_skip | (apply x_callv; assumption; exact rfl; exact rfl; exact rfl; exact e_ends; (exact (by repeat' constructor)); with_reducible exact (ends_c A cA l hl ho _ hxin _ (Old.now O (by assumption))); intro _ _ _) | (apply x_lookVok; exact rfl; exact rfl; exact rfl; exact kS; exact rfl; exact rfl; exact Sat.prAt (by assumption) (by exact (by repeat' constructor)); exact keyS hsx; exact trivial; exact hv2; exact ho2) | (apply x_lookV; exact rfl; exact rfl; exact rfl; exact kS; exact rfl; exact rfl; exact Sat.prAt (by assumption) (by exact (by repeat' constructor)); exact keyS hss; exact trivial; exact hvs) | (apply x_move; exact rfl; exact rfl; (exact (by repeat' constructor))) | (apply x_assign; exact rfl; exact rfl; (exact (by repeat' constructor))) | (apply x_load; assumption; exact rfl; exact rfl; exact rfl; (exact (by repeat' constructor)); exact rfl; exact rfl; (exact (by repeat' constructor))) | (apply x_bin; exact rfl; exact rfl; exact rfl; (first | exact .z (.wrap (by omega)) | exact (by repeat' constructor))) | (apply x_pick; exact rfl; exact rfl; exact rfl; (exact (by repeat' constructor))) | (apply x_alloc; assumption; exact rfl; exact rfl; exact rfl; (exact (by repeat' constructor)); intro _ _ _) | (apply x_store; assumption; exact rfl; exact rfl; (exact (by repeat' constructor)); (exact (by repeat' constructor)); exact rfl; exact rfl; exact rfl; (exact (by repeat' constructor)); intro _ _) | (apply x_extract; exact rfl; exact rfl; exact rfl; (exact (by repeat' constructor))) | (apply x_index; exact rfl; exact rfl; exact rfl; exact rfl; exact rfl; (constructor); (first | omega | exact size_pos (by assumption) | assumption); (first | exact rfl | assumption | exact Rd.some_ (by assumption) (by omega) | exact Rd.some_ (Old.rd (by assumption)) (by omega) | exact (Sat.rd (by assumption) (by exact (by repeat' constructor))).some_ (by omega))) | (apply x_loadR; exact rfl; exact rfl; exact rfl; (first | exact Old.now (by assumption) (by assumption) | exact Sat.rdpr (by assumption) (by exact (by repeat' constructor)) | exact Sat.rd (by assumption) (by exact (by repeat' constructor))); (first | omega | exact size_pos (by assumption) | assumption); exact rfl; exact rfl; (exact (by repeat' constructor))) | (apply x_dec; exact rfl; all_goals (intro _; try omega))))
              all_goals first
                | (exfalso; omega)
                | skip
              refine ⟨rfl, (by repeat (first | exact Agree.updl rfl (Agree.mask _ _ _) | refine Agree.upd rfl ?_ | refine Agree.updl rfl ?_ | refine Agree.maskIn rfl ?_)), ⟨j + 1, hlt, rfl, fun i hi => ?_, Sat.drop1 (by assumption)⟩, ?_⟩
              · rcases Nat.lt_succ_iff_lt_or_eq.1 hi with hi | hi
                · exact hno i hi
                · rw [hi, hf]; exact fun e => hk1 (by injection e)
              · show (atS l L s).length - (j + 1 : Int).toNat < (atS l L s).length - (j : Int).toNat
                omega
        · exfalso
          obtain ⟨i, hi, e⟩ := List.mem_iff_getElem.1 hy1
          refine hno i (by omega) ?_
          rw [List.getD_eq_getElem?_getD, List.getElem?_eq_getElem hi, Option.getD_some, e]
          exact hy2
  | cons a q =>
    have hxl : (atS l L a).length ≤ 1000 := Nat.le_trans atS_len H.few
    obtain ⟨An, cn, hvn, Rn⟩ := hnet a
    have O3 := Rn.old
    obtain rfl : qn = (q.map Value.string).length + 1 := by rw [hqn, List.length_map]; rfl
    replace Sr : Sat w [] [.pr g (QB 9 k c (Value.string a :: q.map Value.string)), .pr b10 (MapV Try.prog 9 n m)] wr := Sr
    obtain ⟨d, hd⟩ := Option.isSome_iff_exists.1 (FI.que a (by simp))
    have hleft : leftF (L.map (stoE l)) F (a :: q) = leftF (L.map (stoE l)) F q + 1 := rfl
    obtain ⟨f1, rfl⟩ : ∃ f1, fu = f1 + 1 := ⟨fu - 1, by omega⟩
    have hsa : a.size ≤ 9223372036854775807 := hsz a (by
      rcases FI.sub a (farG_mem.1 (FI.que a (by simp))) with h | h
      · rw [h]; simp
      · exact List.mem_cons_of_mem _ h)
    have hrel := fun j => FarI.rel ((atS l L a).take j) F q FI.pop hd (fun x hx => H.at_ a x (List.mem_of_mem_take hx))
    have hbf2 : bfsF l (atS l L) f1 (relF l d (atS l L a) (F, q)).1 (relF l d (atS l L a) (F, q)).2 = farT l L to := by
      rw [← hbf]
      show _ = bfsF l (atS l L) f1 (relF l ((farG F a).getD 0) (atS l L a) (F, q)).1 (relF l ((farG F a).getD 0) (atS l L a) (F, q)).2
      rw [hd]
      rfl
    (repeat' (first | apply cw_seq | apply cw_region | apply wl_nil | apply cw_block | apply cw_skip | (apply x_loadQ; assumption; exact rfl; exact rfl; exact rfl; (exact (by repeat' constructor)); exact rfl) | (apply x_sliceQ; assumption; exact rfl; exact rfl; exact rfl; exact rfl; (exact (by repeat' constructor)); exact rfl; intro _ _ _) | (apply x_lookV; exact rfl; exact rfl; exact rfl; exact kS; exact rfl; exact rfl; exact On.now (by assumption); exact keyS hsa; exact trivial; exact hvn) | (apply x_move; exact rfl; exact rfl; (exact (by repeat' constructor))) | (apply x_assign; exact rfl; exact rfl; (exact (by repeat' constructor))) | (apply x_bin; exact rfl; exact rfl; exact rfl; (first | exact .z (.wrap (by omega)) | exact (by repeat' constructor))) | (apply x_builtin; exact rfl; exact rfl; exact (fun _ => rfl); (exact (by repeat' constructor))) | (apply x_indexK; exact rfl; exact rfl; exact rfl; exact rfl; exact rfl; (constructor); (constructor); (first | assumption | omega | decide); (first | omega | exact size_pos (by assumption) | assumption); (first | exact rfl | assumption | exact Rd.some_ (by assumption) (by omega) | exact Rd.some_ (Old.rd (by assumption)) (by omega) | exact (Sat.rd (by assumption) (by exact (by repeat' constructor))).some_ (by omega))) | (apply x_dec; exact rfl; all_goals (intro _; try omega))))
    rename_i k1 c1 S1
    refine cw_loop [11, 14, 15, 16, 17, 18, 45, 46, 47, 48, 49, 50, 51, 52, 53, 54, 55, 56, 57, 58, 59, 60, 61, 62, 63, 64, 65, 66, 67, 68, 69, 70, 71, 72, 73] [45, 11] (fun us wr => ∃ (j n : Nat) (m : Lit → Option Value) (g k c qn : Nat), j ≤ (atS l L a).length ∧ qn = (relF l d ((atS l L a).take j) (F, q)).2.length ∧ us = [.int .i64 (j : Int), .slice (some ⟨g, k, none⟩) qn c] ∧ n ≤ (relF l d ((atS l L a).take j) (F, q)).1.length ∧ FarM m (relF l d ((atS l L a).take j) (F, q)).1 ∧
      Sat w [] [.pr g (QB 9 k c (((relF l d ((atS l L a).take j) (F, q)).2).map Value.string)), .pr b10 (MapV Try.prog 9 n m)] wr) (fun us _ => (atS l L a).length - (intOf (us.getD 0 undef)).toNat) ?_ ?_
    · exact ⟨0, n, m, g, k1, c1, (q.map Value.string).length, Nat.zero_le _, List.length_map _, rfl, hn, hm, S1⟩
    clear S1 Sr hm hn
    rintro g2 us2 wr2 ⟨j, n, m, g, k, c, qn, hj, hqn, rfl, hn, hm, Sr⟩
    by_cases hlt : j < (atS l L a).length
    · have hxm : (atS l L a).getD j lk0 ∈ atS l L a := by rw [List.getD_eq_getElem?_getD, List.getElem?_eq_getElem hlt]; exact List.getElem_mem hlt
      have hxin : inR l ((atS l L a).getD j lk0) := H.inr _ (atS_mem.1 hxm).1
      have hsx : (stoE l ((atS l L a).getD j lk0)).size ≤ 9223372036854775807 := sto_ok ho hxin
      have hnext := relF_succ (l := l) (d := d) (s := (F, q)) hlt
      have hI := (hrel j).1
      have hda := (hrel j).2
      obtain ⟨s, hs⟩ : ∃ s, relF l d ((atS l L a).take j) (F, q) = s := ⟨_, rfl⟩
      rw [hs] at hn hm Sr hqn hnext hI hda
      obtain rfl : qn = (s.2.map Value.string).length := by rw [hqn, List.length_map]
      have hlen := hI.len
      have hd6 := hI.le a d hda
      have hcnt := hI.cnt
      cases hf : farG s.1 (stoE l ((atS l L a).getD j lk0)) with
      | some kf =>
        rw [stepF_yes hf] at hnext
        have hv1 : (m (sK (stoE l ((atS l L a).getD j lk0)))).getD (.int .i64 0) = .int .i64 (kf : Int) := by rw [hm, hf]; rfl
        have ho1 : (m (sK (stoE l ((atS l L a).getD j lk0)))).isSome = true := by rw [hm, hf]; rfl
        (repeat' (first | apply cw_seq | apply cw_region | apply wl_nil | apply cw_block | apply cw_skip | (apply x_callv; assumption; exact rfl; exact rfl; exact rfl; exact e_ends; (exact (by repeat' constructor)); with_reducible exact (ends_c A cA l hl ho _ hxin _ (Old.now O (by assumption))); intro _ _ _) | (apply x_lookVok; exact rfl; exact rfl; exact rfl; exact kS; exact rfl; exact rfl; exact Sat.prAt (by assumption) (by exact (by repeat' constructor)); exact keyS hsx; exact trivial; exact hv1; exact ho1) | (apply x_move; exact rfl; exact rfl; (exact (by repeat' constructor))) | (apply x_assign; exact rfl; exact rfl; (exact (by repeat' constructor))) | (apply x_load; assumption; exact rfl; exact rfl; exact rfl; (exact (by repeat' constructor)); exact rfl; exact rfl; (exact (by repeat' constructor))) | (apply x_bin; exact rfl; exact rfl; exact rfl; (first | exact .z (.wrap (by omega)) | exact (by repeat' constructor))) | (apply x_un; exact rfl; exact rfl; exact rfl; (first | exact .z (.wrap (by omega)) | exact (by repeat' constructor))) | (apply x_alloc; assumption; exact rfl; exact rfl; exact rfl; (exact (by repeat' constructor)); intro _ _ _) | (apply x_store; assumption; exact rfl; exact rfl; (exact (by repeat' constructor)); (exact (by repeat' constructor)); exact rfl; exact rfl; exact rfl; (exact (by repeat' constructor)); intro _ _) | (apply x_extract; exact rfl; exact rfl; exact rfl; (exact (by repeat' constructor))) | (apply x_index; exact rfl; exact rfl; exact rfl; exact rfl; exact rfl; (constructor); (first | omega | exact size_pos (by assumption) | assumption); (first | exact rfl | assumption | exact Rd.some_ (by assumption) (by omega) | exact Rd.some_ (Old.rd (by assumption)) (by omega) | exact (Sat.rd (by assumption) (by exact (by repeat' constructor))).some_ (by omega))) | (apply x_loadR; exact rfl; exact rfl; exact rfl; (first | exact Old.now (by assumption) (by assumption) | exact Sat.rdpr (by assumption) (by exact (by repeat' constructor)) | exact Sat.rd (by assumption) (by exact (by repeat' constructor))); (first | omega | exact size_pos (by assumption) | assumption); exact rfl; exact rfl; (exact (by repeat' constructor))) | (apply cw_false; exact rfl) | (apply x_dec; exact rfl; all_goals (intro _; try omega))))
        refine ⟨rfl, (by repeat (first | exact Agree.updl rfl (Agree.mask _ _ _) | refine Agree.upd rfl ?_ | refine Agree.updl rfl ?_ | refine Agree.maskIn rfl ?_)), ⟨j + 1, n, m, g, k, c, (s.2.map Value.string).length, hlt, by rw [hnext, List.length_map], rfl, by rw [hnext]; exact hn, by rw [hnext]; exact hm, by rw [hnext]; exact Sat.drop1 (by assumption)⟩, ?_⟩
        show (atS l L a).length - (j + 1 : Int).toNat < (atS l L a).length - (j : Int).toNat
        omega
      | none =>
        rw [stepF_no hf] at hnext
        have hv1 : (m (sK (stoE l ((atS l L a).getD j lk0)))).getD (.int .i64 0) = .int .i64 0 := by rw [hm, hf]; rfl
        have ho1 : (m (sK (stoE l ((atS l L a).getD j lk0)))).isSome = false := by rw [hm, hf]; rfl
        have hv2 : (m (sK a)).getD (.int .i64 0) = .int .i64 (d : Int) := by rw [hm, hda]; rfl
        (repeat' (first | apply cw_seq | apply cw_region | apply wl_nil | apply cw_block | apply cw_skip | (apply x_callv; assumption; exact rfl; exact rfl; exact rfl; exact e_ends; (exact (by repeat' constructor)); with_reducible exact (ends_c A cA l hl ho _ hxin _ (Old.now O (by assumption))); intro _ _ _) | (apply x_lookVok; exact rfl; exact rfl; exact rfl; exact kS; exact rfl; exact rfl; exact Sat.prAt (by assumption) (by exact (by repeat' constructor)); exact keyS hsx; exact trivial; exact hv1; exact ho1) | (apply x_lookV; exact rfl; exact rfl; exact rfl; exact kS; exact rfl; exact rfl; exact Sat.prAt (by assumption) (by exact (by repeat' constructor)); exact keyS hsa; exact trivial; exact hv2) | (apply x_putV; assumption; exact rfl; exact rfl; exact kS; exact rfl; exact rfl; (exact (by repeat' constructor)); (exact (by repeat' constructor)); (exact (by unfold maxLen; omega)); exact keyS hsx; intro _ _) | (apply x_appendQ; assumption; exact rfl; exact rfl; exact rfl; exact rfl; exact rfl; (exact (by repeat' constructor)); (exact (by repeat' constructor)); exact rfl; exact rfl; (exact (by rw [List.length_map]; omega)); intro _ _ _ _ _) | (apply x_move; exact rfl; exact rfl; (exact (by repeat' constructor))) | (apply x_assign; exact rfl; exact rfl; (exact (by repeat' constructor))) | (apply x_load; assumption; exact rfl; exact rfl; exact rfl; (exact (by repeat' constructor)); exact rfl; exact rfl; (exact (by repeat' constructor))) | (apply x_bin; exact rfl; exact rfl; exact rfl; (first | exact .z (.wrap (by omega)) | exact (by repeat' constructor))) | (apply x_un; exact rfl; exact rfl; exact rfl; (first | exact .z (.wrap (by omega)) | exact (by repeat' constructor))) | (apply x_alloc; assumption; exact rfl; exact rfl; exact rfl; (exact (by repeat' constructor)); intro _ _ _) | (apply x_store; assumption; exact rfl; exact rfl; (exact (by repeat' constructor)); (exact (by repeat' constructor)); exact rfl; exact rfl; exact rfl; (exact (by repeat' constructor)); intro _ _) | (apply x_extract; exact rfl; exact rfl; exact rfl; (exact (by repeat' constructor))) | (apply x_buildSlice; assumption; exact rfl; exact rfl; exact rfl; (exact (by repeat' constructor)); intro _ _ _) | (apply x_index; exact rfl; exact rfl; exact rfl; exact rfl; exact rfl; (constructor); (first | omega | exact size_pos (by assumption) | assumption); (first | exact rfl | assumption | exact Rd.some_ (by assumption) (by omega) | exact Rd.some_ (Old.rd (by assumption)) (by omega) | exact (Sat.rd (by assumption) (by exact (by repeat' constructor))).some_ (by omega))) | (apply x_loadR; exact rfl; exact rfl; exact rfl; (first | exact Old.now (by assumption) (by assumption) | exact Sat.rdpr (by assumption) (by exact (by repeat' constructor)) | exact Sat.rd (by assumption) (by exact (by repeat' constructor))); (first | omega | exact size_pos (by assumption) | assumption); exact rfl; exact rfl; (exact (by repeat' constructor))) | (apply cw_true; exact rfl) | (apply x_dec; exact rfl; all_goals (intro _; try omega))))
        rename_i g3 k3 c3 w3 S3
        have hput := FarM.put (d := d + 1) hm hf
        have S4 : Sat w [] [.pr g3 (QB 9 k3 c3 (((s.2 ++ [stoE l ((atS l L a).getD j lk0)])).map Value.string)), .pr b10 (MapV Try.prog 9 (n + 1) (putV m (sK (stoE l ((atS l L a).getD j lk0))) (.int .i64 ((d + 1 : Nat) : Int))))] w3 := by
          rw [List.map_append]
          exact S3.drop1.drop1
        refine ⟨rfl, (by repeat (first | exact Agree.updl rfl (Agree.mask _ _ _) | refine Agree.upd rfl ?_ | refine Agree.updl rfl ?_ | refine Agree.maskIn rfl ?_)), ⟨j + 1, n + 1, (putV m (sK (stoE l ((atS l L a).getD j lk0))) (.int .i64 ((d + 1 : Nat) : Int))), g3, k3, c3, (s.2.map Value.string).length + 1, hlt, ?_, rfl, ?_, ?_, ?_⟩, ?_⟩
        rotate_left 3
        · rw [hnext]; exact S4
        · show (atS l L a).length - (j + 1 : Int).toNat < (atS l L a).length - (j : Int).toNat
          omega
        · rw [hnext, List.length_append, List.length_map]; rfl
        · rw [hnext, List.length_append]; simpa using hn
        · rw [hnext]; exact hput
    · have hjl : j = (atS l L a).length := by omega
      subst hjl
      rw [List.take_length] at hn hm Sr hqn
      have hI := (hrel (atS l L a).length).1
      rw [List.take_length] at hI
      have hlf := rel_left (atS l L a) F q FI.pop hd (H.at_ a)
      (repeat' (first | apply cw_seq | apply cw_region | apply wl_nil | apply cw_exit | (apply x_bin; exact rfl; exact rfl; exact rfl; (first | exact .z (.wrap (by omega)) | exact (by repeat' constructor))) | (apply x_dec; exact rfl; all_goals (intro _; try omega))))
      refine ⟨rfl, (by repeat (first | exact Agree.updl rfl (Agree.mask _ _ _) | refine Agree.upd rfl ?_ | refine Agree.updl rfl ?_ | refine Agree.maskIn rfl ?_)), ⟨((relF l d (atS l L a) (F, q)).1, (relF l d (atS l L a) (F, q)).2, f1), ⟨hI, by dsimp only; omega, hbf2, g, k, c, qn, n, m, hqn, rfl, hn, hm, by assumption⟩, Nat.lt_succ_self _⟩⟩
end Go.Proofs.Ytagapiflfnbfiaa
