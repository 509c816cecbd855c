/- Solutions in plain words: their values, their order. No statement of the seat is proved here. -/
import Derived.Test.YtdkknknebehkgaaGreatDoorVw
namespace Go.Proofs.YtdkknknebehkgaaGreatDoor.Al
set_option linter.unusedVariables false
set_option linter.unusedSimpArgs false
abbrev toI (l : List Nat) : List Int := l.map fun (k : Nat) => (k : Int)
theorem toI_len (l : List Nat) : (toI l).length = l.length := List.length_map _
theorem toI_get (l : List Nat) (i : Nat) : (toI l).getD i 0 = (l.getD i 0 : Nat) := by
  simp only [toI, List.getD_eq_getElem?_getD, List.getElem?_map]
  cases l[i]? <;> rfl
theorem wS_cons (p : Pt) (ps : List Pt) (z : Int) (l : List Int) : ∀ n, wS (p :: ps) (z :: l) (n + 1) = p.wt * (p.cs.getD z.toNat ch0).w + wS ps l n ∧ cS (p :: ps) (z :: l) (n + 1) = (p.cs.getD z.toNat ch0).c + cS ps l n
  | 0 => ⟨by show 0 + p.wt * (p.cs.getD z.toNat ch0).w = p.wt * (p.cs.getD z.toNat ch0).w + 0; omega, by show 0 + (p.cs.getD z.toNat ch0).c = (p.cs.getD z.toNat ch0).c + 0; omega⟩
  | n + 1 => by
    obtain ⟨h1, h2⟩ := wS_cons p ps z l n
    refine ⟨?_, ?_⟩
    · show wS (p :: ps) (z :: l) (n + 1) + (ps.getD n pt0).wt * (chO ps l n).w = p.wt * (p.cs.getD z.toNat ch0).w + (wS ps l n + (ps.getD n pt0).wt * (chO ps l n).w)
      rw [h1, Int.add_assoc]
    · show cS (p :: ps) (z :: l) (n + 1) + (chO ps l n).c = (p.cs.getD z.toNat ch0).c + (cS ps l n + (chO ps l n).c)
      rw [h2, Int.add_assoc]
theorem wgt_S : ∀ {ps : List Pt} {l : List Nat}, l.length = ps.length → wS ps (toI l) l.length = (wgtP (ps.map Pt.pl) l).1 ∧ cS ps (toI l) l.length = (wgtP (ps.map Pt.pl) l).2
  | [], [], _ => ⟨rfl, rfl⟩
  | [], _ :: _, h => by simp at h
  | _ :: _, [], h => by simp at h
  | p :: ps, k :: l, h => by
    have ih := wgt_S (ps := ps) (l := l) (by simpa using h)
    have hc := wS_cons p ps (k : Int) (toI l) l.length
    rw [List.map_cons, wgtP_cons]
    dsimp only
    rw [← ih.1, ← ih.2]
    exact hc
theorem pl_get (ps : List Pt) (i : Nat) : ((ps.map Pt.pl).getD i (0, [])) = (ps.getD i pt0).pl := by
  simp only [List.getD_eq_getElem?_getD, List.getElem?_map]
  cases ps[i]? <;> rfl
theorem picks_ok {ps : List Pt} {l : List Nat} : l ∈ picksP (ps.map Pt.pl) ↔ l.length = ps.length ∧ okL ps (toI l) l.length := by
  rw [picks_mem, List.length_map]
  refine and_congr_right fun _ => ⟨fun h i hi => ?_, fun h i hi => ?_⟩
  · rw [toI_get]
    have h2 := h i hi
    rw [pl_get] at h2
    change _ < (ps.getD i pt0).cs.length at h2
    exact ⟨by omega, by omega⟩
  · rw [pl_get]
    have h2 := h i hi
    rw [toI_get] at h2
    exact Int.ofNat_lt.1 h2.2
theorem toI_of {ps : List Pt} {x : List Int} (h : okL ps x x.length) : ∃ l : List Nat, toI l = x := by
  refine ⟨x.map Int.toNat, ?_⟩
  unfold toI
  rw [List.map_map]
  refine List.ext_getElem (by simp) fun i h1 h2 => ?_
  have h3 := (h i h2).1
  rw [List.getD_eq_getElem?_getD, List.getElem?_eq_getElem h2] at h3
  simp only [List.getElem_map, Function.comp]
  exact Int.toNat_of_nonneg h3
/-! ### the order of picks -/
def lexL : List Nat → List Nat → Prop
  | a :: x, b :: y => a < b ∨ (a = b ∧ lexL x y)
  | _, _ => False
theorem lexL_irr : ∀ {x : List Nat}, ¬ lexL x x
  | [], h => h
  | a :: x, h => by
    rcases h with h | ⟨_, h⟩
    · omega
    · exact lexL_irr h
theorem lexL_asy : ∀ {x y : List Nat}, lexL x y → ¬ lexL y x
  | [], _, h, _ => h
  | _ :: _, [], h, _ => h
  | a :: x, b :: y, h, k => by
    rcases h with h | ⟨h, h2⟩
    · rcases k with k | ⟨k, _⟩ <;> omega
    · rcases k with k | ⟨_, k2⟩
      · omega
      · exact lexL_asy h2 k2
theorem picks_sorted : ∀ ps : List PP, (picksP ps).Pairwise lexL
  | [] => by simp [picksP]
  | p :: ps => by
    rw [picksP, List.pairwise_flatMap]
    refine ⟨fun k _ => ?_, ?_⟩
    · rw [List.pairwise_map]
      exact (picks_sorted ps).imp fun {a b} h => .inr ⟨rfl, h⟩
    · refine List.pairwise_lt_range.imp fun {a b} h x hx y hy => ?_
      obtain ⟨x', _, rfl⟩ := List.mem_map.1 hx
      obtain ⟨y', _, rfl⟩ := List.mem_map.1 hy
      exact .inl h
theorem first_least {ps : List PP} {w c : Int} {l x : List Nat} (h : firstP ps w c = some l) (hx : x ∈ picksP ps) (h1 : (wgtP ps x).1 ≤ w) (h2 : (wgtP ps x).2 = c) : ¬ lexL x l := by
  unfold firstP at h
  obtain ⟨_, us, vs, e, hno⟩ := List.find?_eq_some_iff_append.1 h
  have hp := picks_sorted ps
  rw [e] at hx hp
  rw [List.pairwise_append, List.pairwise_cons] at hp
  rcases List.mem_append.1 hx with hx | hx
  · have := hno x hx
    rw [decide_eq_true ⟨h1, h2⟩] at this
    cases this
  · rcases List.mem_cons.1 hx with rfl | hx
    · exact lexL_irr
    · exact lexL_asy (hp.2.1.1 x hx)
/-- the order of lists of ints, as the library compares them -/
def cmpL : List Int → List Int → Int
  | [], [] => 0
  | [], _ :: _ => -1
  | _ :: _, [] => 1
  | a :: x, b :: y => if a < b then -1 else if b < a then 1 else cmpL x y
theorem cmpL_lex : ∀ {x y : List Nat}, x.length = y.length → cmpL (toI x) (toI y) < 0 → lexL x y
  | [], [], _, h => absurd h (by decide)
  | [], _ :: _, e, _ => by simp at e
  | _ :: _, [], e, _ => by simp at e
  | a :: x, b :: y, e, h => by
    change (if (a : Int) < (b : Int) then (-1 : Int) else if (b : Int) < (a : Int) then 1 else cmpL (toI x) (toI y)) < 0 at h
    by_cases h1 : (a : Int) < (b : Int)
    · exact .inl (by omega)
    · rw [if_neg h1] at h
      by_cases h2 : (b : Int) < (a : Int)
      · rw [if_pos h2] at h; omega
      · rw [if_neg h2] at h
        exact .inr ⟨by omega, cmpL_lex (by simpa using e) h⟩
/-- what Solve's solution is -/
structure Sol (m : Int) (ps : List Pt) (l : List Int) (n : Int) : Prop where
  len : l.length = ps.length
  ok : okL ps l l.length
  wd : wS ps l l.length ≤ m
  cost : cS ps l l.length = n
  least : ∀ x : List Int, x.length = ps.length → okL ps x x.length → wS ps x x.length ≤ m → n ≤ cS ps x x.length ∧ (cS ps x x.length = n → ¬ cmpL x l < 0)
theorem slv_sol {m c : Int} {ps : List Pt} (h1 : chpS (frF ps) m = some c) : Sol m ps (toI (srchP (ps.map Pt.pl) m c)) c := by
  have hl := least_some.1 ((chp_least (w := m) (frF_front ps)).symm.trans h1)
  have hf := srch_first (least_some.2 hl)
  have hm := List.mem_of_find?_eq_some hf
  have hp := List.find?_some (show (picksP (ps.map Pt.pl)).find? (fun l => decide ((wgtP (ps.map Pt.pl) l).1 ≤ m ∧ (wgtP (ps.map Pt.pl) l).2 = c)) = some _ from hf)
  replace hp : decide ((wgtP (ps.map Pt.pl) (srchP (ps.map Pt.pl) m c)).1 ≤ m ∧ (wgtP (ps.map Pt.pl) (srchP (ps.map Pt.pl) m c)).2 = c) = true := hp
  rw [decide_eq_true_iff] at hp
  obtain ⟨e, ho⟩ := picks_ok.1 hm
  obtain ⟨w1, w2⟩ := wgt_S e
  refine ⟨by rw [toI_len, e], by rw [toI_len]; exact ho, by rw [toI_len, w1]; exact hp.1, by rw [toI_len, w2]; exact hp.2, fun x hx hox hw => ?_⟩
  obtain ⟨x', rfl⟩ := toI_of hox
  rw [toI_len] at hx hox hw ⊢
  have hxm := picks_ok.2 ⟨hx, hox⟩
  obtain ⟨u1, u2⟩ := wgt_S hx
  rw [u1] at hw
  rw [u2]
  refine ⟨hl.2 _ (sums_picks.2 ⟨x', hxm, rfl⟩) hw, fun hc hlt => ?_⟩
  exact first_least hf hxm hw hc (cmpL_lex (by rw [hx, e]) hlt)
/-- without a solution no pick is permitted -/
theorem slv_none {m : Int} {ps : List Pt} (h1 : chpS (frF ps) m = none) {x : List Int} (hx : x.length = ps.length) (hox : okL ps x x.length) : m < wS ps x x.length := by
  obtain ⟨x', rfl⟩ := toI_of hox
  rw [toI_len] at hx hox ⊢
  have hxm := picks_ok.2 ⟨hx, hox⟩
  rw [(wgt_S hx).1]
  have := (chp_none (frF_front ps)).1 h1 _ (sums_picks.2 ⟨x', hxm, rfl⟩)
  omega
end Go.Proofs.YtdkknknebehkgaaGreatDoor.Al
