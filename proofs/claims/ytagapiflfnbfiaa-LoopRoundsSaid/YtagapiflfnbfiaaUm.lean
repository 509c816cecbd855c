/- The reference's loops, in plain words: they are those of the program; forests without the dimensions with which loops begin. No statement of the seat is proved here. -/
import Derived.Test.YtagapiflfnbfiaaUf
namespace Go.Proofs.Ytagapiflfnbfiaa
set_option linter.unusedVariables false
set_option linter.unusedSimpArgs false
open Go Go.RowKit
noncomputable def withinR (l : List Dm) (F : List Nat) (ax : Int) (fr to : ByteArray) : List Lk := ((leadR (F.map (dat l)) ax fr to).headD []).map (ren F)
noncomputable def stepRd (l : List Dm) (s : List (List Lk) × List Nat) (i : Nat) : List (List Lk) × List Nat :=
  if (withinR l s.2 (dat l i).ax (dat l i).to (dat l i).fr).length = 0 then (s.1, s.2 ++ [i]) else (s.1 ++ [(⟨(i : Int), false⟩ : Lk) :: withinR l s.2 (dat l i).ax (dat l i).to (dat l i).fr], s.2)
noncomputable def rndR (l : List Dm) (k : Nat) : List (List Lk) × List Nat := (List.range k).foldl (stepRd l) ([], [])
theorem rndR_succ {l : List Dm} {k : Nat} : rndR l (k + 1) = stepRd l (rndR l k) k := by unfold rndR; rw [List.range_succ, List.foldl_append]; rfl
def FR (l : List Dm) (k : Nat) : List Nat := (List.range k).filter (useF (forS l k).1)
theorem FR_mem {l : List Dm} {k j : Nat} : j ∈ FR l k ↔ j < k ∧ useF (forS l k).1 j = true := by unfold FR; rw [List.mem_filter, List.mem_range]
theorem getD_memN {F : List Nat} {m : Nat} (h : m < F.length) : F.getD m 0 ∈ F := getD_mem 0 h
theorem mem_getDN {F : List Nat} {j : Nat} (h : j ∈ F) : ∃ m, m < F.length ∧ F.getD m 0 = j := by
  obtain ⟨m, hm, rfl⟩ := List.mem_iff_getElem.1 h
  exact ⟨m, hm, by simp [List.getD_eq_getElem?_getD, hm]⟩
theorem FR_same {l : List Dm} {k : Nat} (hL : l.length ≤ 256) (hk : k < l.length) (h : conn l (dat l k).ax (useF (forS l k).1) (dat l k).fr (dat l k).to) : FR l (k + 1) = FR l k := by
  unfold FR
  rw [forS_yes hL h, List.range_succ, List.filter_append]
  have : useF (forS l k).1 k = false := Bool.eq_false_iff.2 fun e => by have := ((forS_use hL (by omega)) k).1 e; omega
  simp [this]
theorem FR_more {l : List Dm} {k : Nat} (hL : l.length ≤ 256) (hk : k < l.length) (h : ¬ conn l (dat l k).ax (useF (forS l k).1) (dat l k).fr (dat l k).to) : FR l (k + 1) = FR l k ++ [k] := by
  have hfl : k < (forS l k).1.length := by rw [(forS_len (l := l) k).1]; exact hk
  unfold FR
  rw [forS_no hL h, List.range_succ, List.filter_append]
  congr 1
  · refine List.filter_congr fun j hj => ?_
    rw [List.mem_range] at hj
    rw [Bool.eq_iff_iff, useF_set hfl]
    exact ⟨fun h => h.elim id (fun e => by omega), .inl⟩
  · rw [List.filter_cons, if_pos ((useF_set hfl).2 (.inr rfl)), List.filter_nil]
/-- some of the dimensions, all of them used: chains in them -/
theorem some_gp {l : List Dm} {F : List Nat} {use : Nat → Bool} {ax : Int} {c : List Lk} {a b : ByteArray} (hF : ∀ j ∈ F, j < l.length ∧ use j = true) (h : gp (F.map (dat l)) (netL (F.map (dat l)) ax) a c b) : gp l (netU l ax use) a (c.map (ren F)) b :=
  gp_ren (use' := allU) (fun m hm _ => hF _ (getD_memN hm)) h
theorem some_conn {l : List Dm} {F : List Nat} {use : Nat → Bool} {ax : Int} {a b : ByteArray} (hF : ∀ j, j < l.length → use j = true → j ∈ F) (h : conn l ax use a b) : conn (F.map (dat l)) ax allU a b := by
  obtain ⟨c, hc⟩ := h
  exact conn_ren (fun j h1 h2 => by obtain ⟨m, h3, h4⟩ := mem_getDN (hF j h1 h2); exact ⟨m, h3, rfl, h4⟩) hc
theorem valid_ne {l : List Dm} (hg : givenE l = 0) {i : Nat} (hi : i < l.length) : ¬ (dat l i).to = (dat l i).fr := fun e => (valid0 ((givenE_all hg).2 i hi)).2.2.1 e.symm
theorem FR_all {l : List Dm} {k : Nat} (hL : l.length ≤ 256) (hk : k ≤ l.length) : (∀ j ∈ FR l k, j < l.length ∧ useF (forS l k).1 j = true) ∧ ∀ j, j < l.length → useF (forS l k).1 j = true → j ∈ FR l k :=
  ⟨fun j hj => by have := FR_mem.1 hj; exact ⟨by omega, this.2⟩, fun j _ hu => FR_mem.2 ⟨((forS_use hL hk j).1 hu).1, hu⟩⟩
theorem FR_len {l : List Dm} (k : Nat) : (FR l k).length ≤ k := by
  have := List.length_filter_le (useF (forS l k).1) (List.range k)
  rw [List.length_range] at this
  exact this
/-- what closes a loop, in the reference -/
theorem within_no {l : List Dm} {k : Nat} (hg : givenE l = 0) (hk : k < l.length) (h : ¬ conn l (dat l k).ax (useF (forS l k).1) (dat l k).fr (dat l k).to) : withinR l (FR l k) (dat l k).ax (dat l k).to (dat l k).fr = [] := by
  have hL := givenE_len hg
  obtain ⟨h1, h2⟩ := FR_all hL (by omega : k ≤ l.length)
  have hg2 := given_some hg (fun j hj => (h1 j hj).1) (Nat.le_trans (FR_len k) (by omega))
  have e : leadR ((FR l k).map (dat l)) (dat l k).ax (dat l k).to (dat l k).fr = [] := by
    refine List.eq_nil_iff_forall_not_mem.2 fun c hc => ?_
    have hc := (leadR_mem hg2 (valid_ne hg hk)).1 hc
    exact h (conn_rev ⟨_, (some_gp h1 hc).1⟩)
  unfold withinR
  rw [e]; rfl
theorem within_yes {l : List Dm} {k : Nat} (hg : givenE l = 0) (hk : k < l.length) (h : conn l (dat l k).ax (useF (forS l k).1) (dat l k).fr (dat l k).to) : withinR l (FR l k) (dat l k).ax (dat l k).to (dat l k).fr = ringS l k ∧ 0 < (ringS l k).length := by
  have hL := givenE_len hg
  obtain ⟨h1, h2⟩ := FR_all hL (by omega : k ≤ l.length)
  have hl2 : ((FR l k).map (dat l)).length ≤ 256 := by rw [List.length_map]; exact Nat.le_trans (FR_len k) (by omega)
  have hg2 := given_some hg (fun j hj => (h1 j hj).1) (Nat.le_trans (FR_len k) (by omega))
  have hc := (sh_conn hl2).2 (some_conn h2 (conn_rev h))
  have hm := (leadR_mem hg2 (valid_ne hg hk)).2 (sh_gp (nlk_ok _ _ _ hl2) hc)
  have hr := ring_gp hL ((forS_rest hL (Nat.le_refl _) k).2 ⟨hk, h⟩)
  refine ⟨?_, gp_pos hr.1 (valid_ne hg hk)⟩
  unfold withinR
  cases hq : leadR ((FR l k).map (dat l)) (dat l k).ax (dat l k).to (dat l k).fr with
  | nil => rw [hq] at hm; cases hm
  | cons c t =>
    have hcm := (leadR_mem hg2 (valid_ne hg hk)).1 (by rw [hq]; exact List.mem_cons_self ..)
    have h3 := some_gp h1 hcm
    refine forS_uniq hL (Nat.le_refl _) _ _ _ _ _ ⟨lnk_mono (fun x _ hx => ?_) h3.1, h3.2⟩ hr
    obtain ⟨i, g1, g2, g3, g4⟩ := netU_mem.1 hx
    exact netU_mem.2 ⟨i, g1, g2, g3, forS_mono hL (by omega : k ≤ l.length) (Nat.le_refl _) i g4⟩
theorem rnd_eq {l : List Dm} (hg : givenE l = 0) : ∀ {k : Nat}, k ≤ l.length → rndR l k = ((forS l k).2.map (fun (i : Nat) => (⟨(i : Int), false⟩ : Lk) :: ringS l i), FR l k)
  | 0, _ => rfl
  | k + 1, hk => by
    have hL := givenE_len hg
    rw [rndR_succ, rnd_eq hg (by omega), stepRd]
    by_cases hc : conn l (dat l k).ax (useF (forS l k).1) (dat l k).fr (dat l k).to
    · obtain ⟨h1, h2⟩ := within_yes hg hk hc
      dsimp only
      rw [h1, if_neg (by omega), FR_same hL hk hc, forS_yes hL hc, List.map_append]
      rfl
    · have h1 := within_no hg hk hc
      dsimp only
      rw [h1, if_pos (show ([] : List Lk).length = 0 from rfl), FR_more hL hk hc, forS_no hL hc]
/-! ### the forest alone -/
theorem FR_count {l : List Dm} (hL : l.length ≤ 256) : ∀ {k : Nat}, k ≤ l.length → (FR l k).length + (forS l k).2.length = k
  | 0, _ => rfl
  | k + 1, hk => by
    have ih := FR_count hL (k := k) (by omega)
    by_cases hc : conn l (dat l k).ax (useF (forS l k).1) (dat l k).fr (dat l k).to
    · rw [FR_same hL hk hc, forS_yes hL hc, List.length_append, List.length_cons, List.length_nil]
      omega
    · rw [FR_more hL hk hc, forS_no hL hc, List.length_append, List.length_cons, List.length_nil]
      dsimp only
      omega
theorem FR_iff {l : List Dm} (hL : l.length ≤ 256) {j : Nat} (hj : j < l.length) : j ∈ FR l l.length ↔ j ∉ (forS l l.length).2 := by
  rw [FR_mem, forS_use hL (Nat.le_refl _), forS_rest hL (Nat.le_refl _)]
  constructor
  · rintro ⟨_, _, h⟩ ⟨_, h2⟩; exact h h2
  · intro h
    exact ⟨hj, hj, fun h2 => h ⟨hj, h2⟩⟩
/-- the dimensions of the forest -/
def forD (l : List Dm) : List Dm := (FR l l.length).map (dat l)
theorem forD_given {l : List Dm} (hg : givenE l = 0) : givenE (forD l) = 0 := by
  have hL := givenE_len hg
  exact given_some hg (fun j hj => ((FR_all hL (Nat.le_refl _)).1 j hj).1) (Nat.le_trans (FR_len _) hL)
theorem FR_lt {l : List Dm} {i j : Nat} (hij : i < j) (hj : j < (FR l l.length).length) : (FR l l.length).getD i 0 < (FR l l.length).getD j 0 := by
  have h1 : (FR l l.length).Pairwise (· < ·) := (List.pairwise_lt_range).filter _
  have h2 := List.pairwise_iff_getElem.1 h1 i j (by omega) hj hij
  have e : ∀ m (h : m < (FR l l.length).length), (FR l l.length).getD m 0 = (FR l l.length)[m] := fun m h => by simp [List.getD_eq_getElem?_getD, h]
  rw [e i (by omega), e j hj]
  exact h2
theorem forD_noloop {l : List Dm} (hg : givenE l = 0) : ∀ {k : Nat}, k ≤ (forD l).length → (forS (forD l) k).2 = []
  | 0, _ => rfl
  | k + 1, hk => by
    have hL := givenE_len hg
    have hlF : (forD l).length = (FR l l.length).length := List.length_map _
    have hL2 : (forD l).length ≤ 256 := by rw [hlF]; exact Nat.le_trans (FR_len _) hL
    have ih := forD_noloop hg (k := k) (by omega)
    have hkF : k < (FR l l.length).length := by omega
    rw [forS_no hL2]
    · exact ih
    · intro hc
      obtain ⟨c, hc⟩ := hc
      have hi := FR_mem.1 (getD_memN hkF)
      have hi2 := (forS_use hL (Nat.le_refl _) _).1 hi.2
      have hd : dat (forD l) k = dat l ((FR l l.length).getD k 0) := dat_some hkF
      rw [hd] at hc
      refine hi2.2 ⟨_, (lnk_ren (F := FR l l.length) (use := useF (forS l ((FR l l.length).getD k 0)).1) (fun m hm hu => ?_) hc).1⟩
      have hmk : m < k := ((forS_use hL2 (by omega) m).1 hu).1
      have h3 := FR_mem.1 (getD_memN hm)
      have h4 := (forS_use hL (Nat.le_refl _) _).1 h3.2
      exact ⟨h3.1, (forS_use hL (by omega) _).2 ⟨FR_lt hmk hkF, h4.2⟩⟩
theorem forD_lop {l : List Dm} (hg : givenE l = 0) : lopS (forD l) = ([], 0) := by
  unfold lopS
  rw [if_pos (forD_given hg), forD_noloop hg (Nat.le_refl _)]
  rfl
theorem forD_ask {l : List Dm} (hg : givenE l = 0) {i : Nat} (hi : i < l.length) : askE (forD l) (dat l i).ax (dat l i).fr (dat l i).to = 0 := by
  obtain ⟨h1, h2, h3, h4, _⟩ := valid0 ((givenE_all hg).2 i hi)
  unfold askE
  rw [if_neg (not_not_intro (forD_given hg)), if_neg (by omega), if_neg (not_not_intro h1), if_neg (not_not_intro h2), if_neg h3]
theorem forD_find {l : List Dm} (hg : givenE l = 0) {i : Nat} (hi : i < l.length) : (findS (forD l) (dat l i).ax (dat l i).fr (dat l i).to).2 = 0 := by
  have hL := givenE_len hg
  have hlF : (forD l).length = (FR l l.length).length := List.length_map _
  have hL2 : (forD l).length ≤ 256 := by rw [hlF]; exact Nat.le_trans (FR_len _) hL
  have hcl : conn l (dat l i).ax (useF (forS l l.length).1) (dat l i).fr (dat l i).to := by
    by_cases hc : conn l (dat l i).ax (useF (forS l i).1) (dat l i).fr (dat l i).to
    · exact conn_mono (fun j _ => forS_mono hL (by omega : i ≤ l.length) (Nat.le_refl _) j) hc
    · have hu := (forS_use hL (Nat.le_refl _) i).2 ⟨hi, hc⟩
      exact ⟨[⟨(i : Int), false⟩], netU_mem.2 ⟨i, hi, rfl, rfl, hu⟩, rfl, rfl⟩
  have h1 := (sh_conn hL2).2 (some_conn (FR_all hL (Nat.le_refl _)).2 hcl)
  unfold findS
  rw [if_pos (forD_ask hg hi), if_pos h1]
end Go.Proofs.Ytagapiflfnbfiaa
