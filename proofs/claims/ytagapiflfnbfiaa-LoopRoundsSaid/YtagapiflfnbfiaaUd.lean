/- The reference's chains, listed in plain words. No statement of the seat is proved here. -/
import Derived.Test.YtagapiflfnbfiaaUa
namespace Go.Proofs.Ytagapiflfnbfiaa
set_option linter.unusedVariables false
set_option linter.unusedSimpArgs false
open Go Go.RowKit
/-! ### a link more -/
theorem lnk_split {l : List Dm} {L : List Lk} : ∀ {c d : List Lk} {a e : ByteArray}, lnk l L a (c ++ d) e → ∃ b, lnk l L a c b ∧ lnk l L b d e
  | [], d, a, e, h => ⟨a, rfl, h⟩
  | y :: c, d, a, e, ⟨h1, h2, h3⟩ => by
    obtain ⟨b, h4, h5⟩ := lnk_split h3
    exact ⟨b, ⟨h1, h2, h4⟩, h5⟩
theorem gp_pre {l : List Dm} {L : List Lk} {c d : List Lk} {a e : ByteArray} (h : gp l L a (c ++ d) e) : ∃ b, gp l L a c b := by
  obtain ⟨b, h1, _⟩ := lnk_split h.1
  refine ⟨b, h1, ?_⟩
  have h2 := h.2
  rw [List.map_append, ← List.cons_append, List.nodup_append] at h2
  exact h2.1
theorem lnk_end {l : List Dm} {L : List Lk} {c : List Lk} {x : Lk} {a b : ByteArray} (h : lnk l L a (c ++ [x]) b) : b = stoE l x := by
  obtain ⟨_, _, h2⟩ := lnk_split h
  exact h2.2.2.symm
theorem lat_app_lt {c : List Lk} {x : Lk} {j : Nat} (h : j < c.length) : lat (c ++ [x]) j = lat c j := by
  simp [List.getD_eq_getElem?_getD, List.getElem?_append_left h]
theorem lat_app_len {c : List Lk} {x : Lk} : lat (c ++ [x]) c.length = x := by
  simp [List.getD_eq_getElem?_getD]
/-- may x follow c? -/
def extP (l : List Dm) (ax : Int) (fr : ByteArray) (c : List Lk) (x : Lk) : Prop :=
  (dOf l x).ax = ax ∧ ¬ (c.length = 0 ∧ ¬ begE l x = fr) ∧ stp l (c ++ [x]) c.length = 0 ∧ ¬ stoE l x = fr
theorem ext_gp {l : List Dm} {ax : Int} {fr b : ByteArray} {c : List Lk} {x : Lk} (hg : givenE l = 0) (h : gp l (netL l ax) fr c b) : extP l ax fr c x ↔ gp l (netL l ax) fr (c ++ [x]) (stoE l x) := by
  constructor
  · rintro ⟨h1, h2, h3, h4⟩
    obtain ⟨z1, z2, z3⟩ := stp_zero h3
    rw [lat_app_len] at z1 z2 z3
    have hin : x ∈ netL l ax := (nlk_mem _).2 ⟨x.dm.toNat, in_dat z1, by have := z1.1; omega, h1, rfl⟩
    have hb : begE l x = b := by
      by_cases hc : c = []
      · subst hc
        have e1 : fr = b := h.1
        have e2 : begE l x = fr := Classical.not_not.1 fun e => h2 ⟨rfl, e⟩
        rw [e2, e1]
      · have h0 : 0 < c.length := List.length_pos_iff.2 hc
        have e1 := (gp_ends h.1 h0).2
        have e2 : begE l x = stoE l (lat (c ++ [x]) (c.length - 1)) := Classical.not_not.1 fun e => z2 ⟨h0, .inr e⟩
        rw [lat_app_lt (by omega), e1] at e2
        exact e2
    refine ⟨lnk_app h.1 ⟨hin, hb, rfl⟩, ?_⟩
    rw [List.map_append, ← List.cons_append, List.nodup_append]
    refine ⟨h.2, by simp, fun s hs t ht e => ?_⟩
    simp at ht
    subst ht
    subst e
    rcases List.mem_cons.1 hs with e | hs
    · exact h4 e
    · obtain ⟨y, hy, e⟩ := List.mem_map.1 hs
      obtain ⟨j, hj, rfl⟩ := List.mem_iff_getElem.1 hy
      have e' : stoE l (lat c j) = stoE l x := by rw [show lat c j = c[j] from getDL hj]; exact e
      by_cases hjl : j + 1 < c.length
      · have e3 := gp_pt h.1 hjl
        have e4 : begE l (lat c (j + 1)) = stoE l (lat c j) := by
          have h0 : 0 < c.length := by omega
          have e5 := (gp_rc h h0).link (j + 1) hjl
          exact e5
        refine z3 (.inl ⟨j + 1, hjl, .inr ⟨Nat.succ_pos j, ?_⟩⟩)
        rw [lat_app_lt hjl, e4, e']
      · have hjn : j = c.length - 1 := by omega
        have h0 : 0 < c.length := by omega
        have e1 := (gp_ends h.1 h0).2
        rw [← hjn, e'] at e1
        exact beg_ne (givenE_all hg).2 z1 (hb.trans e1.symm)
  · intro h1
    have hx : x ∈ netL l ax := lnk_mem h1.1 x (by simp)
    obtain ⟨i, hi, hdm, hax, _⟩ := (nlk_mem _).1 hx
    have hrc := gp_rc h1 (by simp)
    have hst := stp_of hrc c.length (by simp)
    refine ⟨?_, ?_, hst, ?_⟩
    · show (dat l x.dm.toNat).ax = ax
      rw [hdm]; exact hax
    · rintro ⟨h0, hn⟩
      have : c = [] := List.length_eq_zero_iff.1 h0
      subst this
      exact hn h1.1.2.1
    · intro e
      have h2 := h1.2
      rw [List.nodup_cons] at h2
      exact h2.1 (by rw [← e]; simp)
/-! ### the levels -/
def twos : Nat → List Lk
  | 0 => []
  | k + 1 => twos k ++ [⟨k, false⟩, ⟨k, true⟩]
theorem twos_mem {x : Lk} : ∀ {k : Nat}, x ∈ twos k ↔ 0 ≤ x.dm ∧ x.dm < k
  | 0 => by
    simp only [twos, List.not_mem_nil, false_iff]
    omega
  | k + 1 => by
    rw [twos, List.mem_append, twos_mem (k := k)]
    obtain ⟨d, b⟩ := x
    constructor
    · rintro (h | h)
      · exact ⟨h.1, by have := h.2; dsimp only at *; omega⟩
      · simp at h
        rcases h with h | h <;> (dsimp only; omega)
    · rintro ⟨h1, h2⟩
      dsimp only at h1 h2
      by_cases h3 : d < k
      · exact .inl ⟨h1, h3⟩
      · have : d = (k : Int) := by omega
        subst this
        right
        cases b <;> simp
theorem twos_len : ∀ k : Nat, (twos k).length = 2 * k
  | 0 => rfl
  | k + 1 => by rw [twos, List.length_append, twos_len k]; simp; omega
open Classical in
noncomputable def extR (l : List Dm) (ax : Int) (fr : ByteArray) (c : List Lk) (n : Nat) : List (List Lk) := ((twos n).filter fun x => decide (extP l ax fr c x)).map fun x => c ++ [x]
noncomputable def nextR (l : List Dm) (ax : Int) (fr : ByteArray) (last : List (List Lk)) : List (List Lk) := last.flatMap fun c => extR l ax fr c l.length
noncomputable def levR (l : List Dm) (ax : Int) (fr : ByteArray) : Nat → List (List Lk)
  | 0 => [[]]
  | k + 1 => nextR l ax fr (levR l ax fr k)
open Classical in
theorem extR_mem {l : List Dm} {ax : Int} {fr : ByteArray} {c d : List Lk} {n : Nat} : d ∈ extR l ax fr c n ↔ ∃ x : Lk, (0 ≤ x.dm ∧ x.dm < n) ∧ extP l ax fr c x ∧ d = c ++ [x] := by
  unfold extR
  rw [List.mem_map]
  constructor
  · rintro ⟨x, hx, rfl⟩
    rw [List.mem_filter, twos_mem, decide_eq_true_iff] at hx
    exact ⟨x, hx.1, hx.2, rfl⟩
  · rintro ⟨x, h1, h2, rfl⟩
    exact ⟨x, by rw [List.mem_filter, twos_mem, decide_eq_true_iff]; exact ⟨h1, h2⟩, rfl⟩
theorem extP_in {l : List Dm} {ax : Int} {fr : ByteArray} {c : List Lk} {x : Lk} (h : extP l ax fr c x) : 0 ≤ x.dm ∧ x.dm < l.length := by
  have := (stp_zero h.2.2.1).1
  rw [lat_app_len] at this
  exact this
theorem lev_mem {l : List Dm} {ax : Int} {fr : ByteArray} (hg : givenE l = 0) : ∀ {k : Nat} {c : List Lk}, c ∈ levR l ax fr k ↔ c.length = k ∧ ∃ b, gp l (netL l ax) fr c b
  | 0, c => by
    simp only [levR, List.mem_singleton]
    constructor
    · rintro rfl
      exact ⟨rfl, fr, rfl, by simp⟩
    · rintro ⟨h, _⟩
      exact List.length_eq_zero_iff.1 h
  | k + 1, c => by
    rw [levR, nextR, List.mem_flatMap]
    constructor
    · rintro ⟨d, hd, hc⟩
      obtain ⟨h1, b, h2⟩ := (lev_mem hg).1 hd
      obtain ⟨x, _, h3, rfl⟩ := extR_mem.1 hc
      exact ⟨by simp [h1], _, (ext_gp hg h2).1 h3⟩
    · rintro ⟨h1, b, h2⟩
      have hne : c ≠ [] := by rintro rfl; simp at h1
      have e := List.dropLast_concat_getLast hne
      generalize c.dropLast = d at e
      generalize c.getLast hne = x at e
      subst e
      obtain ⟨b', h3⟩ := gp_pre h2
      have h4 : b = stoE l x := lnk_end h2.1
      subst h4
      have h5 := (ext_gp hg h3).2 h2
      exact ⟨d, (lev_mem hg).2 ⟨by simpa using h1, b', h3⟩, extR_mem.2 ⟨x, extP_in h5, h5, rfl⟩⟩
/-! ### the list, as the reference makes it -/
noncomputable def chaR (l : List Dm) (ax : Int) (fr : ByteArray) : Nat → List (List Lk) → List (List Lk) → List (List Lk)
  | 0, out, _ => out
  | k + 1, out, last => if 1048576 < (out ++ nextR l ax fr last).length then out ++ nextR l ax fr last else chaR l ax fr k (out ++ nextR l ax fr last) (nextR l ax fr last)
noncomputable def fromR (l : List Dm) (ax : Int) (fr : ByteArray) : Nat → List (List Lk) → List (List Lk)
  | 0, _ => []
  | k + 1, last => nextR l ax fr last ++ fromR l ax fr k (nextR l ax fr last)
theorem len_flat {α β : Type} {f : α → List β} {m : Nat} : ∀ {xs : List α}, (∀ x ∈ xs, (f x).length ≤ m) → (xs.flatMap f).length ≤ m * xs.length
  | [], _ => by simp
  | x :: xs, h => by
    rw [List.flatMap_cons, List.length_append, List.length_cons, Nat.mul_succ]
    have h1 := h x (by simp)
    have h2 := len_flat (f := f) (m := m) (xs := xs) fun y hy => h y (List.mem_cons_of_mem _ hy)
    omega
theorem extR_len {l : List Dm} {ax : Int} {fr : ByteArray} {c : List Lk} {n : Nat} : (extR l ax fr c n).length ≤ 2 * n := by
  unfold extR
  rw [List.length_map]
  exact Nat.le_trans (List.length_filter_le _ _) (Nat.le_of_eq (twos_len n))
theorem next_len {l : List Dm} {ax : Int} {fr : ByteArray} {last : List (List Lk)} (h6 : l.length ≤ 6) : (nextR l ax fr last).length ≤ 12 * last.length :=
  len_flat fun c _ => Nat.le_trans extR_len (by omega)
theorem chaR_from {l : List Dm} {ax : Int} {fr : ByteArray} (h6 : l.length ≤ 6) : ∀ (m k : Nat) (out last : List (List Lk)), m + k ≤ 6 → last.length ≤ 12 ^ k → out.length ≤ 2 * 12 ^ k → chaR l ax fr m out last = out ++ fromR l ax fr m last
  | 0, k, out, last, _, _, _ => by simp [chaR, fromR]
  | m + 1, k, out, last, hk, h1, h2 => by
    have h3 := next_len (ax := ax) (fr := fr) (last := last) h6
    have e : 12 ^ (k + 1) = 12 ^ k * 12 := Nat.pow_succ ..
    rw [chaR, fromR]
    split
    · rename_i hb
      rw [List.length_append] at hb
      cases m with
      | zero => simp [fromR]
      | succ m =>
        exfalso
        have : 12 ^ k ≤ 12 ^ 4 := Nat.pow_le_pow_right (by decide) (by omega)
        have : 12 ^ 4 = 20736 := by decide
        omega
    · rw [chaR_from h6 m (k + 1) _ _ (by omega) (by omega) (by rw [List.length_append]; omega), List.append_assoc]
theorem from_mem {l : List Dm} {ax : Int} {fr : ByteArray} {c : List Lk} : ∀ {m k : Nat}, c ∈ fromR l ax fr m (levR l ax fr k) ↔ ∃ j, k < j ∧ j ≤ k + m ∧ c ∈ levR l ax fr j
  | 0, k => by
    simp only [fromR, List.not_mem_nil, false_iff]
    rintro ⟨j, h1, h2, _⟩
    omega
  | m + 1, k => by
    rw [fromR, List.mem_append, show nextR l ax fr (levR l ax fr k) = levR l ax fr (k + 1) from rfl, from_mem (m := m) (k := k + 1)]
    constructor
    · rintro (h | ⟨j, h1, h2, h3⟩)
      · exact ⟨k + 1, by omega, by omega, h⟩
      · exact ⟨j, by omega, by omega, h3⟩
    · rintro ⟨j, h1, h2, h3⟩
      by_cases e : j = k + 1
      · subst e; exact .inl h3
      · exact .inr ⟨j, by omega, by omega, h3⟩
/-- all chains that begin at a feature -/
noncomputable def allR (l : List Dm) (ax : Int) (fr : ByteArray) : List (List Lk) := fromR l ax fr l.length [[]]
theorem chaR_all {l : List Dm} {ax : Int} {fr : ByteArray} (h6 : l.length ≤ 6) : chaR l ax fr l.length [] [[]] = allR l ax fr := by
  rw [chaR_from h6 l.length 0 [] [[]] (by omega) (by simp) (by simp), List.nil_append]; rfl
theorem allR_mem {l : List Dm} {ax : Int} {fr : ByteArray} {c : List Lk} (hg : givenE l = 0) : c ∈ allR l ax fr ↔ 0 < c.length ∧ ∃ b, gp l (netL l ax) fr c b := by
  have h := from_mem (l := l) (ax := ax) (fr := fr) (c := c) (m := l.length) (k := 0)
  unfold allR
  rw [show ([[]] : List (List Lk)) = levR l ax fr 0 from rfl, h]
  constructor
  · rintro ⟨j, h1, _, h3⟩
    obtain ⟨h4, h5⟩ := (lev_mem hg).1 h3
    exact ⟨by omega, h5⟩
  · rintro ⟨h1, b, h2⟩
    have h3 := rc_len (gp_rc h2 h1)
    exact ⟨c.length, h1, by omega, (lev_mem hg).2 ⟨rfl, b, h2⟩⟩
def leadB (l : List Dm) (to : ByteArray) (c : List Lk) : Bool := decide (stoE l (lat c (c.length - 1)) = to)
noncomputable def leadR (l : List Dm) (ax : Int) (fr to : ByteArray) : List (List Lk) := (allR l ax fr).filter (leadB l to)
theorem leadR_mem {l : List Dm} {ax : Int} {fr to : ByteArray} {c : List Lk} (hg : givenE l = 0) (hne : ¬ fr = to) : c ∈ leadR l ax fr to ↔ gp l (netL l ax) fr c to := by
  unfold leadR leadB
  rw [List.mem_filter, allR_mem hg, decide_eq_true_iff]
  constructor
  · rintro ⟨⟨h1, b, h2⟩, h3⟩
    have h4 := (gp_ends h2.1 h1).2
    rw [h3] at h4
    rw [h4]; exact h2
  · intro h
    have h1 := gp_pos h.1 hne
    exact ⟨⟨h1, to, h⟩, (gp_ends h.1 h1).2⟩
end Go.Proofs.Ytagapiflfnbfiaa
