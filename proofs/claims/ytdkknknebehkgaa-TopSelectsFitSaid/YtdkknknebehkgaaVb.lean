/- First picks in plain words. No statement of the seat is proved here. -/
import Derived.Test.YtdkknknebehkgaaVa
namespace Go.Proofs.Ytdkknknebehkgaa
set_option linter.unusedVariables false
set_option linter.unusedSimpArgs false
/-- the fronts of the parts from each one on -/
def frontsI (ps : List PP) (F : List Pr2) : Prop := IsFront F (sumsP ps)
theorem front_nil : IsFront [((0 : Int), (0 : Int))] (sumsP []) where
  sub f hf := hf
  dom s hs := ⟨s, hs, by omega, by omega⟩
  asc := by simp
/-- all picks, in order -/
def picksP : List PP → List (List Nat)
  | [] => [[]]
  | p :: ps => (List.range p.2.length).flatMap fun k => (picksP ps).map (k :: ·)
/-- the width and the cost of a begun pick -/
def wgtP : List PP → List Nat → Pr2
  | p :: ps, k :: l => (p.1 * (p.2.getD k ch0).w + (wgtP ps l).1, (p.2.getD k ch0).c + (wgtP ps l).2)
  | _, _ => (0, 0)
theorem wgtP_cons (p : PP) (ps : List PP) (k : Nat) (l : List Nat) : wgtP (p :: ps) (k :: l) = (p.1 * (p.2.getD k ch0).w + (wgtP ps l).1, (p.2.getD k ch0).c + (wgtP ps l).2) := rfl
theorem picks_len : ∀ {ps : List PP} {l : List Nat}, l ∈ picksP ps → l.length = ps.length
  | [], l, h => by simp [picksP] at h; subst h; rfl
  | p :: ps, l, h => by
    rw [picksP, List.mem_flatMap] at h
    obtain ⟨k, _, h⟩ := h
    obtain ⟨l', hl, rfl⟩ := List.mem_map.1 h
    simp [picks_len hl]
theorem picks_mem : ∀ {ps : List PP} {l : List Nat}, l ∈ picksP ps ↔ l.length = ps.length ∧ ∀ i, i < l.length → l.getD i 0 < (ps.getD i (0, [])).2.length
  | [], l => by
    simp only [picksP, List.mem_singleton]
    constructor
    · rintro rfl; exact ⟨rfl, fun i hi => by simp at hi⟩
    · rintro ⟨h, _⟩; exact List.length_eq_zero_iff.1 h
  | p :: ps, l => by
    rw [picksP, List.mem_flatMap]
    constructor
    · rintro ⟨k, hk, h⟩
      obtain ⟨l', hl, rfl⟩ := List.mem_map.1 h
      obtain ⟨h1, h2⟩ := picks_mem.1 hl
      rw [List.mem_range] at hk
      refine ⟨by simp [h1], fun i hi => ?_⟩
      cases i with
      | zero => exact hk
      | succ i => exact h2 i (by simpa using hi)
    · rintro ⟨h1, h2⟩
      cases l with
      | nil => simp at h1
      | cons k l =>
        refine ⟨k, List.mem_range.2 (h2 0 (by simp)), List.mem_map.2 ⟨l, picks_mem.2 ⟨by simpa using h1, fun i hi => h2 (i + 1) (by simpa using hi)⟩, rfl⟩⟩
theorem sums_picks : ∀ {ps : List PP} {y : Pr2}, y ∈ sumsP ps ↔ ∃ l ∈ picksP ps, wgtP ps l = y
  | [], y => by simp [sumsP, picksP, wgtP, eq_comm]
  | p :: ps, y => by
    rw [sumsP_mem]
    constructor
    · rintro ⟨c, hc, s, hs, rfl⟩
      obtain ⟨l, hl, rfl⟩ := sums_picks.1 hs
      obtain ⟨k, hk, rfl⟩ := List.mem_iff_getElem.1 hc
      refine ⟨k :: l, ?_, ?_⟩
      · rw [picksP, List.mem_flatMap]
        exact ⟨k, List.mem_range.2 hk, List.mem_map_of_mem hl⟩
      · simp [wgtP, List.getD_eq_getElem?_getD, hk]
    · rintro ⟨l, hl, rfl⟩
      rw [picksP, List.mem_flatMap] at hl
      obtain ⟨k, hk, h⟩ := hl
      obtain ⟨l', hl, rfl⟩ := List.mem_map.1 h
      rw [List.mem_range] at hk
      refine ⟨p.2.getD k ch0, ?_, wgtP ps l', sums_picks.2 ⟨l', hl, rfl⟩, rfl⟩
      rw [List.getD_eq_getElem?_getD, List.getElem?_eq_getElem hk]
      exact List.getElem_mem hk
/-- the first pick within a width and at a cost -/
def firstP (ps : List PP) (w c : Int) : Option (List Nat) := (picksP ps).find? fun l => decide ((wgtP ps l).1 ≤ w ∧ (wgtP ps l).2 = c)
/-- the least cost, off the sums -/
noncomputable def leastP (ps : List PP) (w : Int) : Option Int := @dite _ (∃ m, LeastC (sumsP ps) w m) (Classical.propDecidable _) (fun h => some (Classical.choose h)) (fun _ => none)
theorem least_some {ps : List PP} {w m : Int} : leastP ps w = some m ↔ LeastC (sumsP ps) w m := by
  unfold leastP
  by_cases h : ∃ m, LeastC (sumsP ps) w m
  · rw [dif_pos h]
    have h2 := Classical.choose_spec h
    exact ⟨fun e => by injection e with e; rw [← e]; exact h2, fun k => by rw [least_uniq h2 k]⟩
  · rw [dif_neg h]
    exact ⟨fun e => (by cases e), fun k => absurd ⟨m, k⟩ h⟩
theorem chp_least {ps : List PP} {F : List Pr2} {w : Int} (h : IsFront F (sumsP ps)) : chpS F w = leastP ps w := by
  cases hc : chpS F w with
  | some m => exact (least_some.2 ((chp_some h).1 hc)).symm
  | none =>
    cases hl : leastP ps w with
    | none => rfl
    | some m =>
      obtain ⟨⟨s, hs, hw, _⟩, _⟩ := least_some.1 hl
      exact absurd hw ((chp_none h).1 hc s hs)
theorem least_none {ps : List PP} {w : Int} : leastP ps w = none ↔ ∀ s ∈ sumsP ps, ¬ s.1 ≤ w := by
  constructor
  · intro h s hs hw
    have key : ∀ (n : Nat) (s : Pr2), s ∈ sumsP ps → s.1 ≤ w → (∀ t ∈ sumsP ps, t.1 ≤ w → s.2 - t.2 ≤ n) → ∃ m, LeastC (sumsP ps) w m := by
      intro n
      induction n with
      | zero => exact fun s hs hw hb => ⟨s.2, ⟨s, hs, hw, rfl⟩, fun t ht htw => by have := hb t ht htw; omega⟩
      | succ n ih =>
        intro s hs hw hb
        by_cases h2 : ∃ t ∈ sumsP ps, t.1 ≤ w ∧ t.2 < s.2
        · obtain ⟨t, ht, htw, hlt⟩ := h2
          exact ih t ht htw fun u hu huw => by have := hb u hu huw; omega
        · exact ⟨s.2, ⟨s, hs, hw, rfl⟩, fun t ht htw => by
            have h3 : ¬ t.2 < s.2 := fun e => h2 ⟨t, ht, htw, e⟩
            omega⟩
    have hbnd : ∃ n : Nat, ∀ t ∈ sumsP ps, s.2 - t.2 ≤ n := by
      generalize sumsP ps = S
      induction S with
      | nil => exact ⟨0, fun t ht => by cases ht⟩
      | cons a S ih =>
        obtain ⟨n, hn⟩ := ih
        refine ⟨n + (s.2 - a.2).toNat, fun t ht => ?_⟩
        rcases List.mem_cons.1 ht with rfl | ht
        · omega
        · have := hn t ht; omega
    obtain ⟨n, hn⟩ := hbnd
    obtain ⟨m, hm⟩ := key n s hs hw (fun t ht _ => hn t ht)
    rw [least_some.2 hm] at h
    cases h
  · intro h
    cases hl : leastP ps w with
    | none => rfl
    | some m =>
      obtain ⟨⟨s, hs, hw, _⟩, _⟩ := least_some.1 hl
      exact absurd hw (h s hs)
/-- the program's search: the first choices that keep the width and the cost -/
noncomputable def srchP : List PP → Int → Int → List Nat
  | [], _, _ => []
  | p :: ps, w, c => match (List.range p.2.length).find? fun k => @decide (leastP ps (w - p.1 * (p.2.getD k ch0).w) = some (c - (p.2.getD k ch0).c)) (Classical.propDecidable _) with
    | some k => k :: srchP ps (w - p.1 * (p.2.getD k ch0).w) (c - (p.2.getD k ch0).c)
    | none => []
theorem find_flat {α β : Type} {f : α → List β} {p : β → Bool} : ∀ {xs : List α}, (xs.flatMap f).find? p = xs.findSome? fun x => (f x).find? p
  | [] => rfl
  | x :: xs => by
    rw [List.flatMap_cons, List.find?_append, List.findSome?_cons, find_flat]
    cases (f x).find? p <;> rfl
/-- the search finds the first pick -/
theorem srch_first : ∀ {ps : List PP} {w c : Int}, leastP ps w = some c → firstP ps w c = some (srchP ps w c)
  | [], w, c, h => by
    obtain ⟨⟨s, hs, hw, hc⟩, _⟩ := least_some.1 h
    simp [sumsP] at hs
    subst hs
    dsimp only at hw hc
    subst hc
    simp [firstP, picksP, wgtP, srchP, hw]
  | p :: ps, w, c, h => by
    obtain ⟨⟨s, hs, hw, hc⟩, hmin⟩ := least_some.1 h
    -- an inner search succeeds exactly if the least cost fits
    have hin : ∀ k, k < p.2.length → (((picksP ps).map (k :: ·)).find? fun l => decide ((wgtP (p :: ps) l).1 ≤ w ∧ (wgtP (p :: ps) l).2 = c)) = ((picksP ps).find? fun l => decide ((wgtP ps l).1 ≤ w - p.1 * (p.2.getD k ch0).w ∧ (wgtP ps l).2 = c - (p.2.getD k ch0).c)).map (k :: ·) := fun k hk => by
      rw [List.find?_map]
      congr 1
      refine congrArg (fun g => List.find? g (picksP ps)) (funext fun l => ?_)
      show decide ((wgtP (p :: ps) (k :: l)).1 ≤ w ∧ (wgtP (p :: ps) (k :: l)).2 = c) = _
      rw [wgtP_cons]
      refine decide_eq_decide.2 ⟨fun h => ⟨by have := h.1; dsimp only at this; omega, by have := h.2; dsimp only at this; omega⟩, fun h => ⟨by have := h.1; dsimp only; omega, by have := h.2; dsimp only; omega⟩⟩
    have hfit : ∀ k, k < p.2.length → (((picksP ps).find? fun l => decide ((wgtP ps l).1 ≤ w - p.1 * (p.2.getD k ch0).w ∧ (wgtP ps l).2 = c - (p.2.getD k ch0).c)).isSome = true ↔ leastP ps (w - p.1 * (p.2.getD k ch0).w) = some (c - (p.2.getD k ch0).c)) := fun k hk => by
      rw [List.find?_isSome]
      constructor
      · rintro ⟨l, hl, he⟩
        rw [decide_eq_true_iff] at he
        refine least_some.2 ⟨⟨_, sums_picks.2 ⟨l, hl, rfl⟩, he.1, he.2⟩, fun t ht htw => ?_⟩
        have h3 := hmin (p.1 * (p.2.getD k ch0).w + t.1, (p.2.getD k ch0).c + t.2) (sumsP_mem.2 ⟨p.2.getD k ch0, by rw [List.getD_eq_getElem?_getD, List.getElem?_eq_getElem hk]; exact List.getElem_mem hk, t, ht, rfl⟩) (by dsimp only; omega)
        dsimp only at h3
        omega
      · intro he
        obtain ⟨⟨t, ht, htw, htc⟩, _⟩ := least_some.1 he
        obtain ⟨l, hl, rfl⟩ := sums_picks.1 ht
        exact ⟨l, hl, by rw [decide_eq_true_iff]; exact ⟨htw, htc⟩⟩
    unfold firstP
    rw [picksP, find_flat]
    obtain ⟨cc, hcc, t, ht, rfl⟩ := sumsP_mem.1 hs
    obtain ⟨k0, hk0, rfl⟩ := List.mem_iff_getElem.1 hcc
    have hex : leastP ps (w - p.1 * (p.2.getD k0 ch0).w) = some (c - (p.2.getD k0 ch0).c) := by
      rw [← hfit k0 hk0, List.find?_isSome]
      obtain ⟨l, hl, rfl⟩ := sums_picks.1 ht
      refine ⟨l, hl, ?_⟩
      rw [decide_eq_true_iff]
      have e : p.2.getD k0 ch0 = p.2[k0] := by simp [List.getD_eq_getElem?_getD, hk0]
      rw [e]
      dsimp only at hw hc
      exact ⟨by omega, by omega⟩
    rw [srchP]
    -- the first k that fits
    have key : ∀ ks : List Nat, (∀ k ∈ ks, k < p.2.length) → (ks.findSome? fun k => (((picksP ps).map (k :: ·)).find? fun l => decide ((wgtP (p :: ps) l).1 ≤ w ∧ (wgtP (p :: ps) l).2 = c))) =
        match ks.find? fun k => @decide (leastP ps (w - p.1 * (p.2.getD k ch0).w) = some (c - (p.2.getD k ch0).c)) (Classical.propDecidable _) with
        | some k => some (k :: srchP ps (w - p.1 * (p.2.getD k ch0).w) (c - (p.2.getD k ch0).c))
        | none => none := by
      intro ks
      induction ks with
      | nil => intro _; rfl
      | cons k ks ih =>
        intro hks
        have hk := hks k (by simp)
        rw [List.findSome?_cons, hin k hk]
        by_cases hle : leastP ps (w - p.1 * (p.2.getD k ch0).w) = some (c - (p.2.getD k ch0).c)
        · have hs := srch_first hle
          unfold firstP at hs
          rw [hs, List.find?_cons_of_pos (by exact @decide_eq_true _ (Classical.propDecidable _) hle)]
          rfl
        · have hno : ((picksP ps).find? fun l => decide ((wgtP ps l).1 ≤ w - p.1 * (p.2.getD k ch0).w ∧ (wgtP ps l).2 = c - (p.2.getD k ch0).c)) = none := by
            rw [← Option.not_isSome_iff_eq_none, hfit k hk]
            exact hle
          rw [hno, List.find?_cons_of_neg (by rw [@decide_eq_true_iff _ (Classical.propDecidable _)]; exact hle)]
          exact ih fun j hj => hks j (List.mem_cons_of_mem _ hj)
    rw [key _ (fun k hk => List.mem_range.1 hk)]
    cases hf : (List.range p.2.length).find? fun k => @decide (leastP ps (w - p.1 * (p.2.getD k ch0).w) = some (c - (p.2.getD k ch0).c)) (Classical.propDecidable _) with
    | some k => rfl
    | none =>
      rw [List.find?_eq_none] at hf
      exact absurd (@decide_eq_true _ (Classical.propDecidable _) hex) (hf k0 (List.mem_range.2 hk0))
end Go.Proofs.Ytdkknknebehkgaa
