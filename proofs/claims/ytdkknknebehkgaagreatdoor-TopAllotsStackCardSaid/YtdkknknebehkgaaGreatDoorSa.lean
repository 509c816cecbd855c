/- Pairs of holes and pins, in plain form: what find leaves; how many pairs there are; a pair made by force. No statement of the seat is proved here. -/
import Derived.Test.YtdkknknebehkgaaGreatDoorEngA
namespace Go.Proofs.YtdkknknebehkgaaGreatDoor.Sl
set_option linter.unusedVariables false
set_option linter.unusedSimpArgs false
/-! ### partners: each hole has a pin or -1, each pin a hole or -1 -/
abbrev gI (l : List Int) (i : Nat) : Int := l.getD i (-1)
abbrev gB (l : List Bool) (i : Nat) : Bool := l.getD i false
theorem gI_set {l : List Int} {i j : Nat} {v : Int} (hi : i < l.length) : gI (l.set i v) j = if i = j then v else gI l j := by
  simp only [gI, List.getD_eq_getElem?_getD, List.getElem?_set]
  by_cases e : i = j
  · subst e; simp [hi]
  · simp [e]
theorem gB_set {l : List Bool} {i j : Nat} {v : Bool} (hi : i < l.length) : gB (l.set i v) j = if i = j then v else gB l j := by
  simp only [gB, List.getD_eq_getElem?_getD, List.getElem?_set]
  by_cases e : i = j
  · subst e; simp [hi]
  · simp [e]
/-- the partners of holes and pins are told alike -/
structure Cons (nx ny : Nat) (oh op : List Int) : Prop where
  lh : oh.length = nx
  lp : op.length = ny
  rh : ∀ h, h < nx → -1 ≤ gI oh h ∧ gI oh h < ny
  rp : ∀ p, p < ny → -1 ≤ gI op p ∧ gI op p < nx
  eq : ∀ h p, h < nx → p < ny → (gI oh h = p ↔ gI op p = h)
/-- what find leaves when it has found a pin for a hole: the pins that were seen are as they were, and what they say of the hole is void -/
structure FPost (nx ny : Nat) (gv sn : List Bool) (h0 : Nat) (oh op oh' op' : List Int) : Prop where
  lh : oh'.length = nx
  lp : op'.length = ny
  rh : ∀ h, h < nx → -1 ≤ gI oh' h ∧ gI oh' h < ny
  rp : ∀ p, p < ny → -1 ≤ gI op' p ∧ gI op' p < nx
  seen : ∀ p, p < ny → gB sn p = true → gI op' p = gI op p
  given : ∀ p, p < ny → gB gv p = true → gI op' p = gI op p
  eq : ∀ h p, h < nx → p < ny → h ≠ h0 → (gI oh' h = p ↔ gI op' p = h)
  own : ∀ p, p < ny → (gI oh' h0 = p ↔ gI op' p = h0 ∧ gB sn p = false)
  got : 0 ≤ gI oh' h0
  same : ∀ h, h < nx → h ≠ h0 → (gI oh' h = -1 ↔ gI oh h = -1)
variable {nx ny : Nat} {gv sn : List Bool} {oh op oh' op' : List Int}
/-- a pin that is free is taken -/
theorem FPost.free (C : Cons nx ny oh op) {h0 p : Nat} (hh : h0 < nx) (hp : p < ny) (hs : gB sn p = false) (hg : gB gv p = false) (hf : gI op p = -1)
    (hn : ∀ q, q < ny → gI op q = h0 → gB sn q = true) : FPost nx ny gv sn h0 oh op (oh.set h0 p) (op.set p h0) := by
  have lh := C.lh
  have lp := C.lp
  have e1 : ∀ j, gI (oh.set h0 p) j = if h0 = j then (p : Int) else gI oh j := fun j => gI_set (by omega)
  have e2 : ∀ j, gI (op.set p h0) j = if p = j then (h0 : Int) else gI op j := fun j => gI_set (by omega)
  refine ⟨by rw [List.length_set]; exact lh, by rw [List.length_set]; exact lp, fun h hh' => ?_, fun q hq => ?_, fun q hq h1 => ?_, fun q hq h1 => ?_, fun h q hh' hq hne => ?_, fun q hq => ?_, ?_, fun h hh' hne => ?_⟩
  · rw [e1]; split
    · omega
    · exact C.rh h hh'
  · rw [e2]; split
    · omega
    · exact C.rp q hq
  · rw [e2, if_neg]; rintro rfl; rw [hs] at h1; cases h1
  · rw [e2, if_neg]; rintro rfl; rw [hg] at h1; cases h1
  · rw [e1, if_neg (fun e => hne e.symm), e2]
    by_cases e : p = q
    · subst e
      rw [if_pos rfl, C.eq h p hh' hp, hf]
      constructor <;> intro h1 <;> omega
    · rw [if_neg e]; exact C.eq h q hh' hq
  · rw [e1, if_pos rfl, e2]
    by_cases e : p = q
    · subst e; rw [if_pos rfl]; exact ⟨fun _ => ⟨rfl, hs⟩, fun _ => rfl⟩
    · rw [if_neg e]
      constructor
      · intro h1; omega
      · rintro ⟨h1, h2⟩
        have := hn q hq h1
        rw [h2] at this; cases this
  · rw [e1, if_pos rfl]; omega
  · rw [e1, if_neg (fun e => hne e.symm)]
/-- a pin whose hole has got another one is taken -/
theorem FPost.step (C : Cons nx ny oh op) {h0 h1 p : Nat} (hh : h0 < nx) (hh1 : h1 < nx) (hp : p < ny) (hs : gB sn p = false) (hg : gB gv p = false) (hl : sn.length = ny) (hf : gI op p = h1)
    (hn : ∀ q, q < ny → gI op q = h0 → gB sn q = true) (N : FPost nx ny gv (sn.set p true) h1 oh op oh' op') : FPost nx ny gv sn h0 oh op (oh'.set h0 p) (op'.set p h0) := by
  have lh := N.lh
  have lp := N.lp
  have hne01 : h0 ≠ h1 := by
    rintro rfl
    have := hn p hp hf
    rw [hs] at this; cases this
  have e1 : ∀ j, gI (oh'.set h0 p) j = if h0 = j then (p : Int) else gI oh' j := fun j => gI_set (by omega)
  have e2 : ∀ j, gI (op'.set p h0) j = if p = j then (h0 : Int) else gI op' j := fun j => gI_set (by omega)
  have es : ∀ j, gB (sn.set p true) j = if p = j then true else gB sn j := fun j => gB_set (by omega)
  have hpp : gI op' p = h1 := by rw [N.seen p hp (by rw [es, if_pos rfl])]; exact hf
  have keep : ∀ q, q < ny → gB sn q = true → gI op' q = gI op q := fun q hq h => N.seen q hq (by rw [es]; split <;> first | rfl | exact h)
  refine ⟨by rw [List.length_set]; exact lh, by rw [List.length_set]; exact lp, fun h hh' => ?_, fun q hq => ?_, fun q hq h2 => ?_, fun q hq h2 => ?_, fun h q hh' hq hne => ?_, fun q hq => ?_, ?_, fun h hh' hne => ?_⟩
  · rw [e1]; split
    · omega
    · exact N.rh h hh'
  · rw [e2]; split
    · omega
    · exact N.rp q hq
  · rw [e2, if_neg]
    · exact keep q hq h2
    · rintro rfl; rw [hs] at h2; cases h2
  · rw [e2, if_neg]
    · exact N.given q hq h2
    · rintro rfl; rw [hg] at h2; cases h2
  · rw [e1, if_neg (fun e => hne e.symm), e2]
    by_cases eh : h = h1
    · subst eh
      rw [N.own q hq, es]
      by_cases e : p = q
      · subst e
        rw [if_pos rfl, if_pos rfl]
        constructor
        · rintro ⟨_, h3⟩; cases h3
        · intro h3; omega
      · rw [if_neg e, if_neg e]
        constructor
        · exact fun h3 => h3.1
        · intro h3
          refine ⟨h3, ?_⟩
          cases hb : gB sn q with
          | false => rfl
          | true =>
            exfalso
            have h4 : gI op q = h := (keep q hq hb).symm.trans h3
            have h5 := (C.eq h q hh' hq).2 h4
            have h6 := (C.eq h p hh' hp).2 hf
            omega
    · rw [N.eq h q hh' hq eh]
      by_cases e : p = q
      · subst e
        rw [if_pos rfl, hpp]
        constructor <;> intro h3 <;> omega
      · rw [if_neg e]
  · rw [e1, if_pos rfl, e2]
    by_cases e : p = q
    · subst e; rw [if_pos rfl]; exact ⟨fun _ => ⟨rfl, hs⟩, fun _ => rfl⟩
    · rw [if_neg e]
      constructor
      · intro h3; omega
      · rintro ⟨h3, h4⟩
        exfalso
        have h5 : gI oh' h0 = q := (N.eq h0 q hh hq hne01).2 h3
        by_cases h6 : gI oh h0 = -1
        · have := (N.same h0 hh hne01).2 h6; omega
        · have h7 := C.rh h0 hh
          obtain ⟨r, hr⟩ : ∃ r : Nat, gI oh h0 = r := ⟨(gI oh h0).toNat, by omega⟩
          have hr' : r < ny := by omega
          have h8 := (C.eq h0 r hh hr').1 hr
          have h9 := hn r hr' h8
          have h10 := keep r hr' h9
          rw [h8] at h10
          have h11 := (N.eq h0 r hh hr' hne01).2 h10
          have : r = q := by omega
          subst this
          rw [h9] at h4; cases h4
  · rw [e1, if_pos rfl]; omega
  · rw [e1, if_neg (fun e => hne e.symm)]
    by_cases eh : h = h1
    · subst eh
      have h3 := N.got
      have h4 := (C.eq h p hh' hp).2 hf
      constructor <;> intro h5 <;> omega
    · exact N.same h hh' eh
/-- a hole that was free: all is told alike again -/
theorem FPost.cons {h0 : Nat} (hh : h0 < nx) (N : FPost nx ny gv sn h0 oh op oh' op') (hs : ∀ p, gB sn p = false) : Cons nx ny oh' op' := by
  refine ⟨N.lh, N.lp, N.rh, N.rp, fun h p hh' hp => ?_⟩
  by_cases e : h = h0
  · subst e
    rw [N.own p hp]
    exact ⟨fun h1 => h1.1, fun h1 => ⟨h1, hs p⟩⟩
  · exact N.eq h p hh' hp e

/-! ### how many have a partner -/
def mt (n : Nat) (l : List Int) : List Nat := (List.range n).filter fun h => decide (0 ≤ gI l h)
theorem mt_mem {n : Nat} {l : List Int} {h : Nat} : h ∈ mt n l ↔ h < n ∧ 0 ≤ gI l h := by
  unfold mt; rw [List.mem_filter, List.mem_range, decide_eq_true_iff]
theorem mt_nd (n : Nat) (l : List Int) : (mt n l).Nodup := List.Pairwise.filter _ List.nodup_range
theorem mt_le (n : Nat) (l : List Int) : (mt n l).length ≤ n := by
  have := List.length_filter_le (fun h => decide (0 ≤ gI l h)) (List.range n)
  rwa [List.length_range] at this
theorem mt_sub {n m : Nat} {a b : List Int} {f : Nat → Nat} (h1 : ∀ h, h < n → 0 ≤ gI a h → f h < m ∧ 0 ≤ gI b (f h)) (h2 : ∀ h h', h < n → h' < n → 0 ≤ gI a h → 0 ≤ gI a h' → f h = f h' → h = h') : (mt n a).length ≤ (mt m b).length := by
  have hnd : ((mt n a).map f).Nodup := by
    refine List.pairwise_map.2 ((mt_nd n a).imp_of_mem fun {x y} hx hy hne e => hne ?_)
    exact h2 x y (mt_mem.1 hx).1 (mt_mem.1 hy).1 (mt_mem.1 hx).2 (mt_mem.1 hy).2 e
  have := hnd.length_le_of_subset (l₂ := mt m b) fun z hz => by
    obtain ⟨h, hh, rfl⟩ := List.mem_map.1 hz
    exact mt_mem.2 (h1 h (mt_mem.1 hh).1 (mt_mem.1 hh).2)
  rwa [List.length_map] at this
theorem Cons.cnt {nx ny : Nat} {oh op : List Int} (C : Cons nx ny oh op) : (mt nx oh).length = (mt ny op).length := by
  apply Nat.le_antisymm
  · refine mt_sub (f := fun h => (gI oh h).toNat) (fun h hh h0 => ?_) (fun h h' hh hh' h0 h0' e => ?_)
    · have r := C.rh h hh
      have e := (C.eq h (gI oh h).toNat hh (by omega)).1 (by omega)
      exact ⟨by omega, by rw [e]; omega⟩
    · have r := C.rh h hh
      have r' := C.rh h' hh'
      have e1 := (C.eq h (gI oh h).toNat hh (by omega)).1 (by omega)
      replace e : (gI oh h).toNat = (gI oh h').toNat := e
      have e2 := (C.eq h' (gI oh h).toNat hh' (by omega)).1 (by omega)
      omega
  · refine mt_sub (f := fun p => (gI op p).toNat) (fun p hp h0 => ?_) (fun p p' hp hp' h0 h0' e => ?_)
    · have r := C.rp p hp
      have e := (C.eq (gI op p).toNat p (by omega) hp).2 (by omega)
      exact ⟨by omega, by rw [e]; omega⟩
    · have r := C.rp p hp
      have r' := C.rp p' hp'
      have e1 := (C.eq (gI op p).toNat p (by omega) hp).2 (by omega)
      replace e : (gI op p).toNat = (gI op p').toNat := e
      have e2 := (C.eq (gI op p).toNat p' (by omega) hp').2 (by omega)
      omega
theorem mt_all {n : Nat} {l : List Int} : (mt n l).length = n ↔ ∀ h, h < n → 0 ≤ gI l h := by
  constructor
  · intro h i hi
    have h1 : (mt n l).length = (List.range n).length := by rw [List.length_range]; exact h
    have h2 := List.length_filter_eq_length_iff.1 h1 i (List.mem_range.2 hi)
    exact of_decide_eq_true h2
  · intro h
    have h2 : (mt n l).length = (List.range n).length := List.length_filter_eq_length_iff.2 fun i hi => decide_eq_true (h i (List.mem_range.1 hi))
    rw [h2, List.length_range]
/-- no pair can be added -/
def Full (nx ny : Nat) (oh op : List Int) : Prop := (∀ h, h < nx → 0 ≤ gI oh h) ∨ ∀ p, p < ny → 0 ≤ gI op p
theorem Full.iff {nx ny : Nat} {oh op : List Int} (C : Cons nx ny oh op) : Full nx ny oh op ↔ (mt nx oh).length = min nx ny := by
  have h1 := C.cnt
  have h2 := mt_le nx oh
  have h3 := mt_le ny op
  unfold Full
  rw [← mt_all, ← mt_all]
  omega
theorem mt_one {n h0 : Nat} {a b : List Int} (hh : h0 < n) (ha : gI a h0 < 0) (hb : 0 ≤ gI b h0) (hs : ∀ h, h < n → h ≠ h0 → (0 ≤ gI b h ↔ 0 ≤ gI a h)) : (mt n b).length = (mt n a).length + 1 := by
  have : (mt n b).Perm (h0 :: mt n a) := by
    refine (List.perm_ext_iff_of_nodup (mt_nd n b) (List.nodup_cons.2 ⟨fun h => ?_, mt_nd n a⟩)).2 fun h => ?_
    · have := (mt_mem.1 h).2; omega
    · rw [List.mem_cons, mt_mem, mt_mem]
      by_cases e : h = h0
      · subst e; exact ⟨fun _ => .inl rfl, fun _ => ⟨hh, hb⟩⟩
      · constructor
        · rintro ⟨h1, h2⟩; exact .inr ⟨h1, (hs h h1 e).1 h2⟩
        · rintro (h1 | ⟨h1, h2⟩)
          · exact absurd h1 e
          · exact ⟨h1, (hs h h1 e).2 h2⟩
  rw [this.length_eq, List.length_cons]
theorem mt_same {n : Nat} {a b : List Int} (hs : ∀ h, h < n → (0 ≤ gI b h ↔ 0 ≤ gI a h)) : (mt n b).length = (mt n a).length := by
  have : mt n b = mt n a := List.filter_congr fun h hh => decide_eq_decide.2 (hs h (List.mem_range.1 hh))
  rw [this]
theorem FPost.size {nx ny : Nat} {gv sn : List Bool} {oh op oh' op' : List Int} {h0 : Nat} (C : Cons nx ny oh op) (N : FPost nx ny gv sn h0 oh op oh' op') (hh : h0 < nx) (hf : gI oh h0 = -1) : (mt nx oh').length = (mt nx oh).length + 1 := by
  refine mt_one hh (by omega) N.got fun h hh' hne => ?_
  have h1 := N.same h hh' hne
  have h2 := N.rh h hh'
  have h3 := C.rh h hh'
  omega
/-! ### a pair that is made by force -/
def fre (l : List Int) (z : Int) : List Int := if 0 ≤ z then l.set z.toNat (-1) else l
theorem fre_len (l : List Int) (z : Int) : (fre l z).length = l.length := by unfold fre; split <;> simp
theorem gI_fre {l : List Int} {z : Int} (hz : z < l.length) {j : Nat} : gI (fre l z) j = if z = j then -1 else gI l j := by
  unfold fre
  by_cases h : 0 ≤ z
  · rw [if_pos h, gI_set (by omega)]
    by_cases e : z.toNat = j
    · rw [if_pos e, if_pos (by omega)]
    · rw [if_neg e, if_neg (by omega)]
  · rw [if_neg h, if_neg (by omega)]
def swH (oh op : List Int) (hole pin : Nat) : List Int := (fre oh (gI op pin)).set hole pin
def swP (oh op : List Int) (hole pin : Nat) : List Int := (fre op (gI (fre oh (gI op pin)) hole)).set pin hole
section
variable {nx ny : Nat} {oh op : List Int} {hole pin : Nat}
theorem swH_at (C : Cons nx ny oh op) (hh : hole < nx) (hp : pin < ny) (j : Nat) : gI (swH oh op hole pin) j = if hole = j then (pin : Int) else if gI op pin = j then -1 else gI oh j := by
  have r := C.rp pin hp
  unfold swH
  rw [gI_set (by rw [fre_len, C.lh]; exact hh), gI_fre (by rw [C.lh]; exact r.2)]
theorem swP_at (C : Cons nx ny oh op) (hh : hole < nx) (hp : pin < ny) (j : Nat) : gI (swP oh op hole pin) j = if pin = j then (hole : Int) else if gI oh hole = j ∧ gI op pin ≠ hole then -1 else gI op j := by
  have r := C.rp pin hp
  have r2 := C.rh hole hh
  have e : gI (fre oh (gI op pin)) hole = if gI op pin = hole then -1 else gI oh hole := gI_fre (by rw [C.lh]; exact r.2)
  unfold swP
  rw [gI_set (by rw [fre_len, C.lp]; exact hp), e, gI_fre (by rw [C.lp]; split <;> omega)]
  by_cases h1 : pin = j
  · rw [if_pos h1, if_pos h1]
  · rw [if_neg h1, if_neg h1]
    by_cases h2 : gI op pin = hole
    · rw [if_pos h2, if_neg (by omega), if_neg (fun h => h.2 h2)]
    · rw [if_neg h2]
      by_cases h3 : gI oh hole = j
      · rw [if_pos h3, if_pos ⟨h3, h2⟩]
      · rw [if_neg h3, if_neg (fun h => h3 h.1)]
theorem sw_cons (C : Cons nx ny oh op) (hh : hole < nx) (hp : pin < ny) : Cons nx ny (swH oh op hole pin) (swP oh op hole pin) := by
  refine ⟨by unfold swH; rw [List.length_set, fre_len]; exact C.lh, by unfold swP; rw [List.length_set, fre_len]; exact C.lp, fun h hh' => ?_, fun p hp' => ?_, fun h p hh' hp' => ?_⟩
  · have := C.rh h hh'
    rw [swH_at C hh hp]
    split
    · omega
    · split <;> omega
  · have := C.rp p hp'
    rw [swP_at C hh hp]
    split
    · omega
    · split <;> omega
  · rw [swH_at C hh hp, swP_at C hh hp]
    have a := C.eq h p hh' hp'
    have b := C.eq hole p hh hp'
    have c := C.eq h pin hh' hp
    by_cases h1 : hole = h
    · subst h1
      rw [if_pos rfl]
      by_cases h2 : pin = p
      · subst h2; rw [if_pos rfl]; exact ⟨fun _ => rfl, fun _ => rfl⟩
      · rw [if_neg h2]
        by_cases h3 : gI oh hole = p ∧ gI op pin ≠ hole
        · rw [if_pos h3]; omega
        · rw [if_neg h3]
          constructor
          · intro h4; omega
          · intro h4
            exfalso
            have h5 := b.2 h4
            have h6 : gI op pin = hole := Classical.byContradiction fun h => h3 ⟨h5, h⟩
            have := c.2 h6
            omega
    · rw [if_neg h1]
      by_cases h2 : pin = p
      · subst h2
        rw [if_pos rfl]
        by_cases h3 : gI op pin = h
        · rw [if_pos h3]; omega
        · rw [if_neg h3, a]; omega
      · rw [if_neg h2]
        by_cases h3 : gI op pin = h
        · rw [if_pos h3]
          have h5 := c.2 h3
          split
          · omega
          · rw [← a]; omega
        · rw [if_neg h3]
          by_cases h4 : gI oh hole = p ∧ gI op pin ≠ hole
          · rw [if_pos h4]
            have := b.1 h4.1
            constructor
            · intro h5
              have := a.1 h5
              omega
            · intro h5; omega
          · rw [if_neg h4]; exact a
/-- when no pair can be added: the number stays, or the hole's old pin becomes free -/
theorem sw_size (C : Cons nx ny oh op) (F : Full nx ny oh op) (hh : hole < nx) (hp : pin < ny) :
    (mt nx (swH oh op hole pin)).length = (mt nx oh).length ∨
    (mt nx (swH oh op hole pin)).length + 1 = (mt nx oh).length ∧ (∃ h, h < nx ∧ gI (swH oh op hole pin) h = -1) ∧ ∃ q, q < ny ∧ q ≠ pin ∧ gI op q = hole ∧ gI (swP oh op hole pin) q = -1 := by
  have e := fun j => swH_at (j := j) C hh hp
  have r := C.rp pin hp
  have r2 := C.rh hole hh
  by_cases h1 : gI op pin = -1
  · left
    have h2 : ∀ h, h < nx → 0 ≤ gI oh h := F.elim id fun h => by have := h pin hp; omega
    refine mt_same fun h hh' => ?_
    rw [e]
    have := h2 h hh'
    split
    · omega
    · rw [if_neg (by omega)]
  · obtain ⟨o, ho⟩ : ∃ o : Nat, gI op pin = o := ⟨(gI op pin).toNat, by omega⟩
    have hoo := (C.eq o pin (by omega) hp).2 ho
    by_cases h2 : o = hole
    · left
      refine mt_same fun h hh' => ?_
      rw [e]
      by_cases h3 : hole = h
      · subst h3; rw [if_pos rfl]; subst h2; omega
      · rw [if_neg h3, if_neg (by omega)]
    · by_cases h3 : gI oh hole = -1
      · left
        -- one hole loses its pin, the other gets it
        have k1 := mt_one (n := nx) (h0 := hole) (a := oh.set o (-1)) (b := swH oh op hole pin) hh (by rw [gI_set (by rw [C.lh]; omega), if_neg h2]; omega) (by rw [e, if_pos rfl]; omega) fun h hh' hne => by
          rw [e, if_neg (fun x => hne x.symm), gI_set (by rw [C.lh]; omega), ho]
          by_cases h4 : o = h
          · rw [if_pos (by omega), if_pos h4]
          · rw [if_neg (by omega), if_neg h4]
        have k2 := mt_one (n := nx) (h0 := o) (a := oh.set o (-1)) (b := oh) (by omega) (by rw [gI_set (by rw [C.lh]; omega), if_pos rfl]; omega) (by omega) fun h hh' hne => by
          rw [gI_set (by rw [C.lh]; omega), if_neg (fun x => hne x.symm)]
        omega
      · right
        obtain ⟨q, hq⟩ : ∃ q : Nat, gI oh hole = q := ⟨(gI oh hole).toNat, by omega⟩
        have hqn : q < ny := by omega
        have hqh := (C.eq hole q hh hqn).1 hq
        refine ⟨?_, ⟨o, by omega, by rw [e, if_neg (fun x => h2 x.symm), if_pos ho]⟩, q, hqn, ?_, hqh, ?_⟩
        · have k2 := mt_one (n := nx) (h0 := o) (a := swH oh op hole pin) (b := oh) (by omega) (by rw [e, if_neg (fun x => h2 x.symm), if_pos ho]; omega) (by omega) fun h hh' hne => by
            rw [e]
            by_cases h4 : hole = h
            · subst h4; rw [if_pos rfl]; omega
            · rw [if_neg h4, if_neg (by omega)]
          omega
        · rintro rfl; omega
        · rw [swP_at C hh hp, if_neg (by rintro rfl; omega), if_pos ⟨hq, by omega⟩]
end
end Go.Proofs.YtdkknknebehkgaaGreatDoor.Sl
namespace Go.Proofs.YtdkknknebehkgaaGreatDoor.Sl
set_option linter.unusedVariables false
set_option linter.unusedSimpArgs false
/-- pins that were not seen -/
def uns (ny : Nat) (sn : List Bool) : List Nat := (List.range ny).filter fun q => !gB sn q
theorem uns_mem {ny : Nat} {sn : List Bool} {q : Nat} : q ∈ uns ny sn ↔ q < ny ∧ gB sn q = false := by
  unfold uns; rw [List.mem_filter, List.mem_range, Bool.not_eq_true']
theorem uns_nd (ny : Nat) (sn : List Bool) : (uns ny sn).Nodup := List.Pairwise.filter _ List.nodup_range
theorem uns_le {ny : Nat} {sn sn' : List Bool} (h : ∀ q, gB sn q = true → gB sn' q = true) : (uns ny sn').length ≤ (uns ny sn).length :=
  (uns_nd ny sn').length_le_of_subset fun q hq => uns_mem.2 ⟨(uns_mem.1 hq).1, by
    cases hb : gB sn q with
    | false => rfl
    | true => have := (uns_mem.1 hq).2; rw [h q hb] at this; cases this⟩
theorem uns_set {ny p : Nat} {sn : List Bool} (hl : sn.length = ny) (hp : p < ny) (hs : gB sn p = false) : (uns ny (sn.set p true)).length + 1 ≤ (uns ny sn).length := by
  have hnd : (p :: uns ny (sn.set p true)).Nodup := List.nodup_cons.2 ⟨fun h => (by
    have := (uns_mem.1 h).2
    rw [gB_set (by omega), if_pos rfl] at this; cases this), uns_nd _ _⟩
  have := hnd.length_le_of_subset (l₂ := uns ny sn) fun q hq => by
    rcases List.mem_cons.1 hq with rfl | hq
    · exact uns_mem.2 ⟨hp, hs⟩
    · have h1 := uns_mem.1 hq
      refine uns_mem.2 ⟨h1.1, ?_⟩
      have h2 := h1.2
      rw [gB_set (by omega)] at h2
      split at h2
      · cases h2
      · exact h2
  simpa using this
/-- what find gives -/
structure FRes (nx ny : Nat) (gv sn : List Bool) (AF : Prop) (h0 : Nat) (oh op : List Int) where
  b : Bool
  oh' : List Int
  op' : List Int
  sn' : List Bool
  ln : sn'.length = ny
  grew : ∀ q, gB sn q = true → gB sn' q = true
  yes : b = true → FPost nx ny gv sn h0 oh op oh' op'
  no : b = false → oh' = oh ∧ op' = op
  newf : b = false → ∀ q, q < ny → gB sn' q = true → gB sn q = false → gI op q ≠ -1
  all : b = false → AF → ∀ q, q < ny → gB gv q = false → gB sn q = false → gI op q ≠ -1
/-- what holds when the pins up to p are done -/
structure LI (ny : Nat) (gv sn0 : List Bool) (AF : Prop) (op : List Int) (p : Nat) (sn : List Bool) : Prop where
  ln : sn.length = ny
  grew : ∀ q, gB sn0 q = true → gB sn q = true
  newf : ∀ q, q < ny → gB sn q = true → gB sn0 q = false → gI op q ≠ -1
  all : AF → ∀ q, q < p → gB gv q = false → gB sn0 q = false → gI op q ≠ -1
variable {nx ny : Nat} {gv sn0 sn : List Bool} {AF : Prop} {oh op : List Int} {p h0 h1 : Nat}
theorem LI.start (hl : sn0.length = ny) : LI ny gv sn0 AF op 0 sn0 := ⟨hl, fun _ h => h, fun q _ h h2 => (by rw [h] at h2; cases h2), fun _ q hq => absurd hq (Nat.not_lt_zero _)⟩
theorem LI.seen (L : LI ny gv sn0 AF op p sn) (hp : p < ny) (hs : gB sn p = true) : LI ny gv sn0 AF op (p + 1) sn :=
  ⟨L.ln, L.grew, L.newf, fun a q hq h2 h3 => by
    rcases Nat.lt_succ_iff_lt_or_eq.1 hq with h | rfl
    · exact L.all a q h h2 h3
    · exact L.newf q hp hs h3⟩
theorem LI.given (L : LI ny gv sn0 AF op p sn) (hg : gB gv p = true) : LI ny gv sn0 AF op (p + 1) sn :=
  ⟨L.ln, L.grew, L.newf, fun a q hq h2 h3 => by
    rcases Nat.lt_succ_iff_lt_or_eq.1 hq with h | rfl
    · exact L.all a q h h2 h3
    · rw [hg] at h2; cases h2⟩
theorem LI.unfit (L : LI ny gv sn0 AF op p sn) (hf : ¬ AF) : LI ny gv sn0 AF op (p + 1) sn := ⟨L.ln, L.grew, L.newf, fun a => absurd a hf⟩
theorem LI.fail (L : LI ny gv sn0 AF op p sn) (hp : p < ny) (ho : gI op p = h1) (r : FRes nx ny gv (sn.set p true) AF h1 oh op) (hb : r.b = false) : LI ny gv sn0 AF op (p + 1) r.sn' := by
  have es : ∀ j, gB (sn.set p true) j = if p = j then true else gB sn j := fun j => gB_set (by rw [L.ln]; exact hp)
  refine ⟨r.ln, fun q h => r.grew q (by rw [es]; split <;> first | rfl | exact L.grew q h), fun q hq h2 h3 => ?_, fun a q hq h2 h3 => ?_⟩
  · by_cases e : p = q
    · subst e; omega
    · cases hs : gB sn q with
      | true => exact L.newf q hq hs h3
      | false => exact r.newf hb q hq h2 (by rw [es, if_neg e]; exact hs)
  · rcases Nat.lt_succ_iff_lt_or_eq.1 hq with h | rfl
    · exact L.all a q h h2 h3
    · omega
/-- no pin was found -/
def LI.none (L : LI ny gv sn0 AF op ny sn) (nx h0 : Nat) (oh : List Int) : FRes nx ny gv sn0 AF h0 oh op :=
  ⟨false, oh, op, sn, L.ln, L.grew, fun h => (by cases h), fun _ => ⟨rfl, rfl⟩, fun _ => L.newf, fun _ a q hq => L.all a q hq⟩
theorem FPost.mono {oh' op' : List Int} (N : FPost nx ny gv sn h0 oh op oh' op') (L : LI ny gv sn0 AF op p sn) (hn : ∀ q, q < ny → gI op q = h0 → gB sn0 q = true) (C : Cons nx ny oh op) (hh : h0 < nx) :
    FPost nx ny gv sn0 h0 oh op oh' op' :=
  { N with
    seen := fun q hq h => N.seen q hq (L.grew q h)
    own := fun q hq => by
      rw [N.own q hq]
      constructor
      · rintro ⟨a, b⟩
        refine ⟨a, ?_⟩
        cases hb : gB sn0 q with
        | false => rfl
        | true => rw [L.grew q hb] at b; cases b
      · rintro ⟨a, b⟩
        refine ⟨a, ?_⟩
        cases hb : gB sn q with
        | false => rfl
        | true =>
          exfalso
          have h1 := N.seen q hq hb
          rw [a] at h1
          have := hn q hq h1.symm
          rw [b] at this; cases this }
end Go.Proofs.YtdkknknebehkgaaGreatDoor.Sl
