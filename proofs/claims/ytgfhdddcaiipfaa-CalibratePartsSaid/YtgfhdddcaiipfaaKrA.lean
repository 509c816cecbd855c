/- Records of calibrations: chains as paths; what follows for errors, verdicts, broken records. No statement of the seat is proved here. -/
import Derived.Test.YtgfhdddcaiipfaaKq
namespace Go.Proofs.Ytgfhdddcaiipfaa
open Go Go.RowKit
inductive Path (l : List Rc) : ByteArray → Int → List Nat → Prop
  | last {name : ByteArray} {day : Int} {i : Nat} : place l name day = (i, 0) → (rat l i).bn = nul → Path l name day [i]
  | more {name : ByteArray} {day : Int} {i : Nat} {r : List Nat} : place l name day = (i, 0) → ¬ (rat l i).bn = nul → Path l (rat l i).bn (rat l i).fr r → Path l name day (i :: r)
theorem place_pair {l : List Rc} {name : ByteArray} {day : Int} (h : (place l name day).2 = 0) : place l name day = ((place l name day).1, 0) := by rw [← h]
theorem chy_path {l : List Rc} : ∀ (m : Nat) (out : List Nat) (name : ByteArray) (day : Int), out.Nodup → (∀ i ∈ out, i < l.length) → l.length + 1 ≤ m + out.length → (∀ p ∈ chy l m out name day, p.2 = 0) →
    Path l name day ((chy l m out name day).map (·.1)) ∧ (out ++ (chy l m out name day).map (·.1)).Nodup
  | 0, out, name, day, hd, hlt, hm, _ => by have := nodup_bound _ _ hd hlt; omega
  | m + 1, out, name, day, hd, hlt, hm, h0 => by
    by_cases h1 : (place l name day).2 = 0
    · have hat := (place_at h1).1
      by_cases h2 : (place l name day).1 ∈ out
      · rw [chy_met h1 h2] at h0
        exact absurd (show (16 : Int) = 0 from h0 ((place l name day).1, 16) (by simp)) (by decide)
      · have hd2 : (out ++ [(place l name day).1]).Nodup := by
          rw [List.nodup_append]
          exact ⟨hd, by simp, fun a ha b hb => by simp at hb; subst hb; exact fun e => h2 (e ▸ ha)⟩
        by_cases h3 : (rat l (place l name day).1).bn = nul
        · rw [chy_end h1 h2 h3]
          exact ⟨.last (place_pair h1) h3, by simpa using hd2⟩
        · rw [chy_more h1 h2 h3] at h0 ⊢
          have ih := chy_path m (out ++ [(place l name day).1]) (rat l (place l name day).1).bn (rat l (place l name day).1).fr hd2 (fun i hi => by
            rcases List.mem_append.1 hi with hi | hi
            · exact hlt i hi
            · simp at hi; subst hi; exact hat) (by rw [List.length_append, List.length_singleton]; omega) (fun p hp => h0 p (List.mem_cons_of_mem _ hp))
          exact ⟨.more (place_pair h1) h3 ih.1, by have := ih.2; rwa [List.append_assoc] at this⟩
    · rw [chy_err h1] at h0
      exact absurd (h0 (0, (place l name day).2) (by simp)) h1
theorem Path.lt {l : List Rc} {name : ByteArray} {day : Int} {xs : List Nat} (h : Path l name day xs) : ∀ i ∈ xs, i < l.length := by
  induction h with
  | last h _ => intro i hi; simp at hi; subst hi; have := place_at (l := l) (by rw [h]); rw [h] at this; exact this.1
  | more h _ _ ih =>
    intro i hi
    rcases List.mem_cons.1 hi with rfl | hi
    · have := place_at (l := l) (by rw [h]); rw [h] at this; exact this.1
    · exact ih i hi
theorem Path.chy {l : List Rc} {name : ByteArray} {day : Int} {xs : List Nat} (h : Path l name day xs) : ∀ (m : Nat) (out : List Nat), (∀ i ∈ xs, ¬ i ∈ out) → xs.Nodup → xs.length ≤ m → Go.Proofs.Ytgfhdddcaiipfaa.chy l m out name day = xs.map fun i => (i, (0 : Int)) := by
  induction h with
  | last h hb =>
    intro m out hn _ hm
    obtain ⟨k, rfl⟩ : ∃ k, m = k + 1 := ⟨m - 1, by simp at hm; omega⟩
    rw [chy_z h (hn _ (by simp)) hb]
    rfl
  | more h hb _ ih =>
    intro m out hn hd hm
    obtain ⟨k, rfl⟩ : ∃ k, m = k + 1 := ⟨m - 1, by simp at hm; omega⟩
    rw [chy_s h (hn _ (by simp)) hb, ih k _ (fun j hj hmem => ?_) (List.nodup_cons.1 hd).2 (by simpa using hm)]
    · rfl
    · rcases List.mem_append.1 hmem with hmem | hmem
      · exact hn j (by simp [hj]) hmem
      · simp at hmem; subst hmem; exact (List.nodup_cons.1 hd).1 hj
theorem foll_path {l : List Rc} {name : ByteArray} {day : Int} (h : (foll l name day).2 = 0) : Path l name day (foll l name day).1 ∧ (foll l name day).1.Nodup := by
  have h1 := coll_fst _ _ h
  have e : (foll l name day).1 = (chy l (l.length + 1) [] name day).map (·.1) := by rw [foll, h1.1]; simp
  rw [e]
  have := chy_path (l.length + 1) [] name day .nil (by simp) (by simp) h1.2
  exact ⟨this.1, by simpa using this.2⟩
theorem path_foll {l : List Rc} {name : ByteArray} {day : Int} {xs : List Nat} (h : Path l name day xs) (hd : xs.Nodup) : foll l name day = (xs, 0) := by
  have hl := nodup_bound _ _ hd h.lt
  rw [foll, h.chy (l.length + 1) [] (by simp) hd (by omega), coll_all (fun p hp => by obtain ⟨i, _, rfl⟩ := List.mem_map.1 hp; rfl)]
  simp [List.map_map, Function.comp_def]
/-- the state before the k-th record of a chain -/
def stN (l : List Rc) (name : ByteArray) (day : Int) (xs : List Nat) : Nat → ByteArray × Int
  | 0 => (name, day)
  | k + 1 => ((rat l (xs.getD k 0)).bn, (rat l (xs.getD k 0)).fr)
theorem Path.at_ {l : List Rc} {name : ByteArray} {day : Int} {xs : List Nat} (h : Path l name day xs) : ∀ k, k < xs.length → place l (stN l name day xs k).1 (stN l name day xs k).2 = (xs.getD k 0, 0) ∧ ((rat l (xs.getD k 0)).bn = nul ↔ k + 1 = xs.length) := by
  induction h with
  | last h hb => intro k hk; have : k = 0 := by simp at hk; omega
                 subst this; exact ⟨h, by simpa using hb⟩
  | more h hb hp ih =>
    rename_i name day i r
    intro k hk
    cases k with
    | zero =>
      refine ⟨h, ?_⟩
      have hr : 0 < r.length := by cases hp <;> simp
      show (rat l i).bn = nul ↔ _
      exact ⟨fun e => absurd e hb, fun e => by rw [List.length_cons] at e; omega⟩
    | succ k =>
      have := ih k (by simpa using hk)
      refine ⟨?_, ?_⟩
      · have e : stN l name day (i :: r) (k + 1) = stN l (rat l i).bn (rat l i).fr r k := by
          cases k with
          | zero => rfl
          | succ k => rfl
        rw [e]; simpa using this.1
      · rw [show (i :: r).getD (k + 1) 0 = r.getD k 0 by simp, this.2]; simp
theorem Path.pos {l : List Rc} {name : ByteArray} {day : Int} {xs : List Nat} (h : Path l name day xs) : 0 < xs.length := by cases h <;> simp
/-- a record's own name and day find it -/
theorem place_self {l : List Rc} (hr : Right l) {i : Nat} (hi : i < l.length) : place l (rat l i).nm (rat l i).fr = (i, 0) :=
  place_yes hr ⟨hi, rfl, Int.le_refl _, (recE0 (hr.2 i hi).1).2.2.2.2.2.2⟩
theorem Path.suffix {l : List Rc} (hr : Right l) {name : ByteArray} {day : Int} {xs : List Nat} (h : Path l name day xs) : ∀ i ∈ xs, ∃ r, Path l (rat l i).nm (rat l i).fr r ∧ r.Sublist xs := by
  induction h with
  | last h hb =>
    intro i hi
    simp at hi
    subst hi
    have hlt := (place_at (l := l) (by rw [h])).1
    rw [h] at hlt
    exact ⟨_, .last (place_self hr hlt) hb, List.Sublist.refl _⟩
  | more h hb hp ih =>
    intro i hi
    rcases List.mem_cons.1 hi with rfl | hi
    · have hlt := (place_at (l := l) (by rw [h])).1
      rw [h] at hlt
      exact ⟨_, .more (place_self hr hlt) hb hp, List.Sublist.refl _⟩
    · obtain ⟨r, h1, h2⟩ := ih i hi
      exact ⟨r, h1, h2.trans (List.sublist_cons_self _ _)⟩
/-- the records of the chain of a record that is not broken are not broken -/
theorem chain_whole {l : List Rc} (hr : Right l) {name : ByteArray} {day : Int} (h : (foll l name day).2 = 0) : ∀ i ∈ (foll l name day).1, i < l.length ∧ (foll l (rat l i).nm (rat l i).fr).2 = 0 := by
  obtain ⟨h1, h2⟩ := foll_path h
  intro i hi
  obtain ⟨r, h3, h4⟩ := h1.suffix hr i hi
  exact ⟨h1.lt i hi, by rw [path_foll h3 (h2.sublist h4)]⟩
theorem foll_head {l : List Rc} (hr : Right l) {i : Nat} (hi : i < l.length) (h : (foll l (rat l i).nm (rat l i).fr).2 = 0) : 0 < (foll l (rat l i).nm (rat l i).fr).1.length ∧ (foll l (rat l i).nm (rat l i).fr).1.getD 0 0 = i := by
  obtain ⟨h1, _⟩ := foll_path h
  have h2 := h1.at_ 0 h1.pos
  refine ⟨h1.pos, ?_⟩
  have h3 := h2.1
  rw [show stN l (rat l i).nm (rat l i).fr (foll l (rat l i).nm (rat l i).fr).1 0 = ((rat l i).nm, (rat l i).fr) from rfl] at h3
  rw [place_self hr hi] at h3
  exact (congrArg Prod.fst h3).symm
/-! ### what is due, what is broken -/
theorem brUp_mem {l : List Rc} : ∀ (k i : Nat), i ∈ brUp l k ↔ i < k ∧ ¬ (foll l (rat l i).nm (rat l i).fr).2 = 0
  | 0, i => by simp [brUp]
  | k + 1, i => by
    by_cases h : (foll l (rat l k).nm (rat l k).fr).2 = 0
    · rw [brUp_no h, brUp_mem k i]
      constructor
      · rintro ⟨h1, h2⟩; exact ⟨by omega, h2⟩
      · rintro ⟨h1, h2⟩
        rcases Nat.lt_succ_iff_lt_or_eq.1 h1 with h1 | rfl
        · exact ⟨h1, h2⟩
        · exact absurd h h2
    · rw [brUp_yes h, List.mem_append, brUp_mem k i]
      constructor
      · rintro (⟨h1, h2⟩ | h1)
        · exact ⟨by omega, h2⟩
        · simp at h1; subst h1; exact ⟨by omega, h⟩
      · rintro ⟨h1, h2⟩
        rcases Nat.lt_succ_iff_lt_or_eq.1 h1 with h1 | rfl
        · exact .inl ⟨h1, h2⟩
        · exact .inr (by simp)
theorem dueUp_mem {l : List Rc} {day : Int} : ∀ (k : Nat) (d : ByteArray), d ∈ dueUp l day k ↔ ∃ i, i < k ∧ (rat l i).nm = d ∧ ¬ (place l d day).2 = 0
  | 0, d => by simp [dueUp]
  | k + 1, d => by
    by_cases h : (place l (rat l k).nm day).2 = 0
    · rw [dueUp_no h, dueUp_mem k d]
      constructor
      · rintro ⟨i, h1, h2, h3⟩; exact ⟨i, by omega, h2, h3⟩
      · rintro ⟨i, h1, h2, h3⟩
        rcases Nat.lt_succ_iff_lt_or_eq.1 h1 with h1 | rfl
        · exact ⟨i, h1, h2, h3⟩
        · subst h2; exact absurd h h3
    · rw [dueUp_yes h, List.mem_append, dueUp_mem k d]
      constructor
      · rintro (⟨i, h1, h2, h3⟩ | h1)
        · exact ⟨i, by omega, h2, h3⟩
        · simp at h1; subst h1; exact ⟨k, by omega, rfl, h⟩
      · rintro ⟨i, h1, h2, h3⟩
        rcases Nat.lt_succ_iff_lt_or_eq.1 h1 with h1 | rfl
        · exact .inl ⟨i, h1, h2, h3⟩
        · exact .inr (by rw [h2]; simp)
theorem cmpTo_mem {ds : List ByteArray} : ∀ (k : Nat) (d : ByteArray), d ∈ cmpTo ds k ↔ ∃ j, j < k ∧ sat ds j = d
  | 0, d => by simp [cmpTo]
  | 1, d => by
    rw [cmpTo_one]
    simp only [List.mem_singleton]
    refine ⟨fun h => ⟨0, by omega, h.symm⟩, fun h => ?_⟩
    obtain ⟨j, hj, h⟩ := h
    have : j = 0 := by omega
    subst this
    exact h.symm
  | k + 2, d => by
    by_cases h : sat ds (k + 1) = sat ds k
    · rw [cmpTo_yes h, cmpTo_mem (k + 1) d]
      constructor
      · rintro ⟨j, h1, h2⟩; exact ⟨j, by omega, h2⟩
      · rintro ⟨j, h1, h2⟩
        rcases Nat.lt_succ_iff_lt_or_eq.1 h1 with h1 | rfl
        · exact ⟨j, h1, h2⟩
        · exact ⟨k, by omega, by rw [← h]; exact h2⟩
    · rw [cmpTo_no h, List.mem_append, cmpTo_mem (k + 1) d]
      constructor
      · rintro (⟨j, h1, h2⟩ | h1)
        · exact ⟨j, by omega, h2⟩
        · simp at h1; exact ⟨k + 1, by omega, h1.symm⟩
      · rintro ⟨j, h1, h2⟩
        rcases Nat.lt_succ_iff_lt_or_eq.1 h1 with h1 | rfl
        · exact .inl ⟨j, h1, h2⟩
        · exact .inr (by rw [h2]; simp)
theorem due_mem {l : List Rc} {day : Int} {i : Nat} (hi : i < l.length) : (rat l i).nm ∈ dueC l day ↔ ¬ (place l (rat l i).nm day).2 = 0 := by
  unfold dueC
  rw [cmpTo_mem]
  constructor
  · rintro ⟨j, h1, h2⟩
    have hm : (rat l i).nm ∈ dueUp l day l.length := by rw [← h2]; exact getD_mem nul h1
    obtain ⟨_, _, _, h3⟩ := (dueUp_mem _ _).1 hm
    exact h3
  · intro h
    have hm : (rat l i).nm ∈ dueUp l day l.length := (dueUp_mem _ _).2 ⟨i, hi, rfl, h⟩
    obtain ⟨j, h1, h2⟩ := mem_getD nul hm
    exact ⟨j, h1, h2⟩
theorem due_sorted {l : List Rc} (hr : Right l) {day : Int} : ∀ j, j + 1 < (dueC l day).length → sl ((dueC l day).getD (j + 1) nul) ((dueC l day).getD j nul) = false := by
  intro j hj
  have h1 := (dueUp_asc hr (day := day) l.length (Nat.le_refl _)).1
  have h2 := (cmp_asc h1 (dueUp l day l.length).length (Nat.le_refl _)).1
  have h3 := List.pairwise_iff_getElem.1 h2 j (j + 1) (by unfold dueC at hj; omega) hj (by omega)
  have h4 : sl ((dueC l day).getD j nul) ((dueC l day).getD (j + 1) nul) = true := by
    unfold dueC at hj ⊢
    rw [getD_lt hj, getD_lt (show j < _ by omega)]
    exact h3
  exact sl_asym h4
/-! ### errors and verdicts -/
theorem sumF_mono {g h : Nat → Int} : ∀ xs : List Nat, (∀ i ∈ xs, g i ≤ h i) → sumF g xs ≤ sumF h xs
  | [], _ => by simp [sumF]
  | i :: r, hh => by
    have h1 := hh i (by simp)
    have h2 := sumF_mono r (fun j hj => hh j (by simp [hj]))
    simp only [sumF]; omega
theorem errL_ord {l : List Rc} {name : ByteArray} {day : Int} : (errL l name day).1.1 ≤ (errL l name day).1.2 := by
  by_cases h : (chL l name day).2 = 0
  · rw [errL_yes h]
    refine sumF_mono _ fun i hi => ?_
    have := (ch_bounds h).2.2 i hi
    show (rat l i).off - (rat l i).spr ≤ (rat l i).off + (rat l i).spr
    omega
  · rw [errL_no h]; simp
theorem errL_ch {l : List Rc} {name : ByteArray} {day : Int} (h : (errL l name day).2 = 0) : (chL l name day).2 = 0 := by
  by_cases h1 : (chL l name day).2 = 0
  · exact h1
  · rw [errL_no h1] at h; exact h
/-- the error of an instrument out of that of its reference -/
theorem errL_step {l : List Rc} {name : ByteArray} {day : Int} (h : (errL l name day).2 = 0) : ∃ k, VaR l name day = (k, 0) ∧ k < l.length ∧
    ((rat l k).bn = nul ∧ (errL l name day).1 = ((rat l k).off - (rat l k).spr, (rat l k).off + (rat l k).spr) ∨
     ¬ (rat l k).bn = nul ∧ (errL l (rat l k).bn (rat l k).fr).2 = 0 ∧ (errL l name day).1 = ((errL l (rat l k).bn (rat l k).fr).1.1 + ((rat l k).off - (rat l k).spr), (errL l (rat l k).bn (rat l k).fr).1.2 + ((rat l k).off + (rat l k).spr))) := by
  have hc := errL_ch h
  obtain ⟨hr, hd, e1, e2, e3⟩ := chL0 hc
  rw [errL_yes hc]
  rw [e1] at hc ⊢
  obtain ⟨hp, hn⟩ := foll_path hc
  revert hp hn
  generalize (foll l name day).1 = xs
  intro hp hn
  cases hp with
  | last h1 hb =>
    rename_i k
    have hlt := (place_at (l := l) (by rw [h1])).1
    rw [h1] at hlt
    refine ⟨k, by rw [← e2, h1], hlt, .inl ⟨hb, ?_⟩⟩
    simp [sumF, loF, hiF]
  | more h1 hb hp2 =>
    rename_i k r
    have hlt := (place_at (l := l) (by rw [h1])).1
    rw [h1] at hlt
    have hf := path_foll hp2 (List.nodup_cons.1 hn).2
    have hre := recE0 (hr.2 k hlt).1
    have hck : ckE l = 0 := by
      by_cases h0 : ckE l = 0
      · exact h0
      · rw [VaR, if_pos h0] at e2
        rw [h1] at e2
        exact absurd (congrArg Prod.snd e2).symm h0
    have hg : givE l (rat l k).fr = 0 := by rw [givE, if_neg (fun e => e hck)]; exact hre.2.2.2.2.1
    have hcl : chL l (rat l k).bn (rat l k).fr = (r, 0) := by rw [chL_p hg, hf]
    refine ⟨k, by rw [← e2, h1], hlt, .inr ⟨hb, ?_, ?_⟩⟩
    · rw [errL_yes (by rw [hcl])]
    · rw [errL_yes (by rw [hcl]), hcl]
      simp only [sumF, loF, hiF, Prod.mk.injEq]
      constructor <;> omega
theorem valL_ok {l : List Rc} {name : ByteArray} {day shown : Int} (h : (errL l name day).2 = 0) :
    ((-100000 ≤ shown ∧ shown ≤ 100000) ∧ valL l name day shown = ((shown - (errL l name day).1.2, shown - (errL l name day).1.1), 0)) ∨ (¬ (-100000 ≤ shown ∧ shown ≤ 100000) ∧ valL l name day shown = ((0, 0), 2)) := by
  unfold valL
  rw [if_neg (fun e => e h)]
  by_cases hs : -100000 ≤ shown ∧ shown ≤ 100000
  · exact .inl ⟨hs, by rw [if_neg (fun e => e hs)]⟩
  · exact .inr ⟨hs, by rw [if_pos hs]⟩
theorem valL_ord {l : List Rc} {name : ByteArray} {day shown : Int} : (valL l name day shown).1.1 ≤ (valL l name day shown).1.2 := by
  have h := errL_ord (l := l) (name := name) (day := day)
  unfold valL
  split
  · simp
  · split
    · simp
    · show shown - _ ≤ shown - _; omega
theorem chk_in {a b : Int} (h1 : -100000 ≤ a) (h2 : a ≤ b) (h3 : b ≤ 100000) : chk a b = 0 := by
  unfold chk; rw [if_pos ⟨⟨h1, by omega⟩, by omega, h3⟩, if_neg (by omega)]
theorem chk_at {a b : Int} (h : chk a b = 0) : -100000 ≤ a ∧ a ≤ b ∧ b ≤ 100000 := by
  unfold chk at h
  split at h
  · split at h
    · omega
    · omega
  · omega
theorem judL_ok {l : List Rc} {name : ByteArray} {day shown lo hi : Int} (hv : (valL l name day shown).2 = 0) (hc : chk lo hi = 0) :
    judL l name day shown lo hi = (if lo ≤ (valL l name day shown).1.1 ∧ (valL l name day shown).1.2 ≤ hi then 2 else if (valL l name day shown).1.2 < lo ∨ hi < (valL l name day shown).1.1 then 0 else 1, 0) := by
  unfold judL
  rw [if_neg (fun e => e hv), if_neg (fun e => e hc)]
  split
  · rfl
  · split <;> rfl
theorem judL_val {l : List Rc} {name : ByteArray} {day shown lo hi : Int} (h : (judL l name day shown lo hi).2 = 0) : (valL l name day shown).2 = 0 := by
  by_cases hv : (valL l name day shown).2 = 0
  · exact hv
  · unfold judL at h; rw [if_pos hv] at h; exact h
end Go.Proofs.Ytgfhdddcaiipfaa
