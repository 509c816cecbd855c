/- Records of calibrations: the order of names, checks, valid records, chains, in plain form. No statement of the seat is proved here. -/
import Derived.Test.YtnndkdcciojpiaaCm
import Derived.Test.YtnndkdcciojpiaaEngW
namespace Go.Proofs.Ytnndkdcciojpiaa
set_option linter.unusedVariables false
set_option linter.unusedSimpArgs false
open Go Go.RowKit
/-! ### the order of names -/
abbrev sl (a b : ByteArray) : Bool := Op.bytesLess a.toList b.toList
theorem bl_irr : ∀ x : List UInt8, Op.bytesLess x x = false
  | [] => rfl
  | a :: x => by simp [Op.bytesLess, bl_irr x, UInt8.lt_irrefl]
theorem bl_trans : ∀ {x y z : List UInt8}, Op.bytesLess x y = true → Op.bytesLess y z = true → Op.bytesLess x z = true
  | _, [], _, h, _ => by cases ‹List UInt8› <;> simp [Op.bytesLess] at h
  | _, _ :: _, [], _, h => by simp [Op.bytesLess] at h
  | [], _ :: _, _ :: _, _, _ => rfl
  | a :: x, b :: y, c :: z, h, k => by
    simp only [Op.bytesLess, Bool.or_eq_true, Bool.and_eq_true, decide_eq_true_eq, beq_iff_eq] at h k ⊢
    rcases h with h | ⟨rfl, h⟩
    · rcases k with k | ⟨rfl, k⟩
      · exact .inl (UInt8.lt_trans h k)
      · exact .inl h
    · rcases k with k | ⟨rfl, k⟩
      · exact .inl k
      · exact .inr ⟨rfl, bl_trans h k⟩
theorem bl_tri : ∀ (x y : List UInt8), Op.bytesLess x y = false → Op.bytesLess y x = false → x = y
  | [], [], _, _ => rfl
  | [], _ :: _, h, _ => by simp [Op.bytesLess] at h
  | _ :: _, [], _, h => by simp [Op.bytesLess] at h
  | a :: x, b :: y, h, k => by
    simp only [Op.bytesLess, Bool.or_eq_false_iff, Bool.and_eq_false_iff, decide_eq_false_iff_not, beq_eq_false_iff_ne] at h k
    have hab : a = b := UInt8.le_antisymm (UInt8.not_lt.1 k.1) (UInt8.not_lt.1 h.1)
    subst hab
    rw [bl_tri x y (by simpa using h.2) (by simpa using k.2)]
theorem sl_irr (a : ByteArray) : sl a a = false := bl_irr _
theorem sl_trans {a b c : ByteArray} (h : sl a b = true) (k : sl b c = true) : sl a c = true := bl_trans h k
theorem sl_asym {a b : ByteArray} (h : sl a b = true) : sl b a = false := by
  cases hb : sl b a with
  | false => rfl
  | true => have := sl_trans h hb; rw [sl_irr] at this; cases this
theorem toList_inj {a b : ByteArray} (h : a.toList = b.toList) : a = b := by
  have := str_beq a b
  rw [h] at this
  simpa using this
theorem sl_tri {a b : ByteArray} (h : sl a b = false) (k : sl b a = false) : a = b := toList_inj (bl_tri _ _ h k)
/-- a is not behind b, b is before c -/
theorem le_lt {a b c : ByteArray} (h : sl b a = false) (k : sl b c = true) : sl a c = true := by
  cases hc : sl a c with
  | true => rfl
  | false =>
    cases hab : sl a b with
    | true => rw [sl_trans hab k] at hc; cases hc
    | false => rw [sl_tri hab h, k] at hc; cases hc
theorem lt_le {a b c : ByteArray} (h : sl a b = true) (k : sl c b = false) : sl a c = true := by
  cases hc : sl a c with
  | true => rfl
  | false =>
    cases hbc : sl b c with
    | true => rw [sl_trans h hbc] at hc; cases hc
    | false => rw [← sl_tri hbc k, h] at hc; cases hc
theorem le_le {a b c : ByteArray} (h : sl b a = false) (k : sl c b = false) : sl c a = false := by
  cases hc : sl c a with
  | false => rfl
  | true => rw [lt_le hc h] at k; cases k
/-! ### records -/
structure Rc where
  nm : ByteArray
  bn : ByteArray
  off : Int
  spr : Int
  fr : Int
  un : Int
abbrev nul : ByteArray := ⟨#[]⟩
def rc0 : Rc := ⟨nul, nul, 0, 0, 0, 0⟩
abbrev rcC (r : Rc) : List Value := [.string r.nm, .string r.bn, .int .i64 r.off, .int .i64 r.spr, .int .i64 r.fr, .int .i64 r.un]
theorem rcC_len (r : Rc) : (rcC r).length = 6 := rfl
def Rc.ok (r : Rc) : Prop := r.nm.size ≤ 9223372036854775807 ∧ r.bn.size ≤ 9223372036854775807
def dayE (n : Int) : Int := if 0 ≤ n ∧ n ≤ 1048576 then 0 else 2
noncomputable def recE (r : Rc) : Int :=
  if ¬ nameE r.nm = 0 then nameE r.nm else if (¬ r.bn = nul) ∧ ¬ nameE r.bn = 0 then nameE r.bn else if r.bn = r.nm then 7 else
  if ¬ (-100000 ≤ r.off ∧ r.off ≤ 100000) ∨ ¬ (0 ≤ r.spr ∧ r.spr ≤ 100000) ∨ ¬ dayE r.fr = 0 ∨ ¬ dayE r.un = 0 then 2 else if r.un < r.fr then 9 else 0
theorem dayE0 {n : Int} (h : dayE n = 0) : 0 ≤ n ∧ n ≤ 1048576 := by
  unfold dayE at h
  split at h
  · assumption
  · omega
theorem recE0 {r : Rc} (h : recE r = 0) : nameE r.nm = 0 ∧ ¬ r.bn = r.nm ∧ (-100000 ≤ r.off ∧ r.off ≤ 100000) ∧ (0 ≤ r.spr ∧ r.spr ≤ 100000) ∧ dayE r.fr = 0 ∧ dayE r.un = 0 ∧ r.fr ≤ r.un := by
  unfold recE at h
  split at h
  · rename_i h1; exact absurd h h1
  rename_i h1
  split at h
  · rename_i h2; exact absurd h h2.2
  split at h
  · cases h
  rename_i h3
  split at h
  · cases h
  rename_i h4
  split at h
  · cases h
  rename_i h5
  simp only [not_or, Classical.not_not] at h4 h1
  exact ⟨h1, h3, h4.1, h4.2.1, h4.2.2.1, h4.2.2.2, by omega⟩
/-! ### the first error -/
def fstE (g : Nat → Int) : Nat → Nat → Int
  | 0, _ => 0
  | m + 1, k => if g k = 0 then fstE g m (k + 1) else g k
theorem fstE_no {g : Nat → Int} {n k : Nat} (hk : k < n) (h : ¬ g k = 0) : fstE g (n - k) k = g k := by
  obtain ⟨m, hm⟩ : ∃ m, n - k = m + 1 := ⟨n - k - 1, by omega⟩
  rw [hm, fstE, if_neg h]
theorem fstE_yes {g : Nat → Int} {n k : Nat} (hk : k < n) (h : g k = 0) : fstE g (n - k) k = fstE g (n - (k + 1)) (k + 1) := by
  obtain ⟨m, hm⟩ : ∃ m, n - k = m + 1 := ⟨n - k - 1, by omega⟩
  rw [hm, fstE, if_pos h, show n - (k + 1) = m by omega]
theorem fstE_end {g : Nat → Int} {n k : Nat} (hk : ¬ k < n) : fstE g (n - k) k = 0 := by rw [show n - k = 0 by omega]; rfl
theorem fstE0 {g : Nat → Int} : ∀ (m k : Nat), fstE g m k = 0 → ∀ i, k ≤ i → i < k + m → g i = 0
  | 0, k, _, i, h1, h2 => by omega
  | m + 1, k, h, i, h1, h2 => by
    by_cases hk : g k = 0
    · rw [fstE, if_pos hk] at h
      rcases Nat.eq_or_lt_of_le h1 with rfl | h1
      · exact hk
      · exact fstE0 m (k + 1) h i h1 (by omega)
    · rw [fstE, if_neg hk] at h; exact absurd h hk
theorem fstE_of {g : Nat → Int} : ∀ (m k : Nat), (∀ i, k ≤ i → i < k + m → g i = 0) → fstE g m k = 0
  | 0, _, _ => rfl
  | m + 1, k, h => by rw [fstE, if_pos (h k (Nat.le_refl _) (by omega))]; exact fstE_of m (k + 1) fun i h1 h2 => h i (by omega) (by omega)
abbrev rat (l : List Rc) (k : Nat) : Rc := l.getD k rc0
def badAt (l : List Rc) (k : Nat) : Prop := 0 < k ∧ (sl (rat l k).nm (rat l (k - 1)).nm = true ∨ (rat l k).nm = (rat l (k - 1)).nm ∧ (rat l k).fr ≤ (rat l (k - 1)).un)
noncomputable instance (l : List Rc) (k : Nat) : Decidable (badAt l k) := Classical.propDecidable _
noncomputable def chkAt (l : List Rc) (k : Nat) : Int := if ¬ recE (rat l k) = 0 then recE (rat l k) else if badAt l k then 9 else 0
noncomputable def ckE (l : List Rc) : Int := if 256 < l.length then 5 else fstE (chkAt l) l.length 0
def Right (l : List Rc) : Prop := l.length ≤ 256 ∧ ∀ k, k < l.length → recE (rat l k) = 0 ∧ ¬ badAt l k
theorem ckE0 {l : List Rc} (h : ckE l = 0) : Right l := by
  unfold ckE at h
  split at h
  · cases h
  · refine ⟨by omega, fun k hk => ?_⟩
    have := fstE0 _ _ h k (by omega) (by omega)
    unfold chkAt at this
    split at this
    · rename_i h1; exact absurd this h1
    · split at this
      · cases this
      · rename_i h1 h2; exact ⟨Classical.not_not.1 h1, h2⟩
/-- names do not descend; records of the same name are apart -/
theorem Right.mono {l : List Rc} (h : Right l) : ∀ {j i : Nat}, i < j → j < l.length → sl (rat l j).nm (rat l i).nm = false ∧ ((rat l i).nm = (rat l j).nm → (rat l i).un < (rat l j).fr)
  | 0, i, hij, _ => by omega
  | j + 1, i, hij, hj => by
    have hb := (h.2 (j + 1) hj).2
    unfold badAt at hb
    simp only [Nat.succ_pos, true_and, Nat.add_sub_cancel, not_or, not_and, Bool.not_eq_true, Int.not_le] at hb
    rcases Nat.lt_succ_iff_lt_or_eq.1 hij with hi | rfl
    · have ih := Right.mono h hi (by omega)
      refine ⟨le_le ih.1 hb.1, fun e => ?_⟩
      have e2 : (rat l j).nm = (rat l i).nm := sl_tri ih.1 (by rw [e]; exact hb.1)
      have h1 := ih.2 e2.symm
      have h2 := hb.2 (by rw [← e, e2])
      have h3 := (recE0 (h.2 j (by omega)).1).2.2.2.2.2.2
      omega
    · exact ⟨hb.1, fun e => hb.2 e.symm⟩
/-! ### valid records -/
noncomputable def plG (name : ByteArray) (day : Int) : List Rc → Nat → Int → Nat × Int
  | [], _, e => (0, e)
  | x :: r, k, e => @ite _ (x.nm = name) (Classical.propDecidable _) (if x.fr ≤ day ∧ day ≤ x.un then (k, 0) else plG name day r (k + 1) 14) (plG name day r (k + 1) e)
noncomputable def place (l : List Rc) (name : ByteArray) (day : Int) : Nat × Int := plG name day l 0 6
def isAt (l : List Rc) (name : ByteArray) (day : Int) (k : Nat) : Prop := k < l.length ∧ (rat l k).nm = name ∧ (rat l k).fr ≤ day ∧ day ≤ (rat l k).un
theorem plG_yes {name : ByteArray} {day : Int} {x : Rc} {r : List Rc} {k : Nat} {e : Int} (h : x.nm = name) (h2 : x.fr ≤ day ∧ day ≤ x.un) : plG name day (x :: r) k e = (k, 0) := by rw [plG, if_pos h, if_pos h2]
theorem plG_out {name : ByteArray} {day : Int} {x : Rc} {r : List Rc} {k : Nat} {e : Int} (h : x.nm = name) (h2 : ¬ (x.fr ≤ day ∧ day ≤ x.un)) : plG name day (x :: r) k e = plG name day r (k + 1) 14 := by rw [plG, if_pos h, if_neg h2]
theorem plG_no {name : ByteArray} {day : Int} {x : Rc} {r : List Rc} {k : Nat} {e : Int} (h : ¬ x.nm = name) : plG name day (x :: r) k e = plG name day r (k + 1) e := by rw [plG, if_neg h]
theorem plG_spec {name : ByteArray} {day : Int} : ∀ (r : List Rc) (k : Nat) (e : Int), ¬ e = 0 →
    (∃ i, i < r.length ∧ plG name day r k e = (k + i, 0) ∧ (rat r i).nm = name ∧ (rat r i).fr ≤ day ∧ day ≤ (rat r i).un) ∨
    ((∀ i, i < r.length → (rat r i).nm = name → ¬ ((rat r i).fr ≤ day ∧ day ≤ (rat r i).un)) ∧ ((∃ i, i < r.length ∧ (rat r i).nm = name) → plG name day r k e = (0, 14)) ∧ ((∀ i, i < r.length → ¬ (rat r i).nm = name) → plG name day r k e = (0, e)))
  | [], k, e, he => .inr ⟨fun i hi => by simp at hi, fun ⟨i, hi, _⟩ => by simp at hi, fun _ => rfl⟩
  | x :: r, k, e, he => by
    by_cases h : x.nm = name
    · by_cases h2 : x.fr ≤ day ∧ day ≤ x.un
      · exact .inl ⟨0, by simp, plG_yes h h2, h, h2.1, h2.2⟩
      · rw [plG_out h h2]
        rcases plG_spec r (k + 1) 14 (by decide) with ⟨i, hi, h3, h4⟩ | ⟨h3, h4, h5⟩
        · exact .inl ⟨i + 1, by simpa using hi, by rw [h3]; congr 1; omega, by simpa using h4⟩
        · refine .inr ⟨fun i hi => ?_, fun _ => ?_, fun hall => absurd h (hall 0 (by simp))⟩
          · cases i with
            | zero => exact fun _ => h2
            | succ i => simpa using h3 i (by simpa using hi)
          · by_cases h6 : ∃ i, i < r.length ∧ (rat r i).nm = name
            · exact h4 h6
            · exact h5 fun i hi h7 => h6 ⟨i, hi, h7⟩
    · rw [plG_no h]
      rcases plG_spec r (k + 1) e he with ⟨i, hi, h3, h4⟩ | ⟨h3, h4, h5⟩
      · exact .inl ⟨i + 1, by simpa using hi, by rw [h3]; congr 1; omega, by simpa using h4⟩
      · refine .inr ⟨fun i hi => ?_, fun ⟨i, hi, h6⟩ => ?_, fun hall => ?_⟩
        · cases i with
          | zero => exact fun e => absurd e h
          | succ i => simpa using h3 i (by simpa using hi)
        · cases i with
          | zero => exact absurd h6 h
          | succ i => exact h4 ⟨i, by simpa using hi, by simpa using h6⟩
        · exact h5 fun i hi h6 => hall (i + 1) (by simpa using hi) (by simpa using h6)
theorem place_yes {l : List Rc} (h : Right l) {name : ByteArray} {day : Int} {k : Nat} (hk : isAt l name day k) : place l name day = (k, 0) := by
  rcases plG_spec (name := name) (day := day) l 0 6 (by decide) with ⟨i, hi, h1, h2⟩ | ⟨h1, _⟩
  · rw [Nat.zero_add] at h1
    have : i = k := by
      obtain ⟨a1, a2, a3, a4⟩ := hk
      obtain ⟨b2, b3, b4⟩ := h2
      rcases Nat.lt_trichotomy i k with hlt | rfl | hlt
      · have := (h.mono hlt a1).2 (by rw [a2, b2]); omega
      · rfl
      · have := (h.mono hlt hi).2 (by rw [a2, b2]); omega
    subst this
    exact h1
  · exact absurd hk.2.2 (h1 k hk.1 hk.2.1)
theorem place_none {l : List Rc} {name : ByteArray} {day : Int} (hn : ∀ i, i < l.length → ¬ (rat l i).nm = name) : place l name day = (0, 6) := by
  rcases plG_spec (name := name) (day := day) l 0 6 (by decide) with ⟨i, hi, h1, h2⟩ | ⟨_, _, h3⟩
  · exact absurd h2.1 (hn i hi)
  · exact h3 hn
theorem place_out {l : List Rc} {name : ByteArray} {day : Int} (hn : ∃ i, i < l.length ∧ (rat l i).nm = name) (ho : ∀ i, i < l.length → (rat l i).nm = name → ¬ ((rat l i).fr ≤ day ∧ day ≤ (rat l i).un)) : place l name day = (0, 14) := by
  rcases plG_spec (name := name) (day := day) l 0 6 (by decide) with ⟨i, hi, h1, h2⟩ | ⟨_, h3, _⟩
  · exact absurd h2.2 (ho i hi h2.1)
  · exact h3 hn
theorem place_at {l : List Rc} {name : ByteArray} {day : Int} (h : (place l name day).2 = 0) : isAt l name day (place l name day).1 := by
  rcases plG_spec (name := name) (day := day) l 0 6 (by decide) with ⟨i, hi, h1, h2⟩ | ⟨_, h3, h4⟩
  · have h1 : place l name day = (0 + i, 0) := h1
    rw [h1, Nat.zero_add]
    exact ⟨hi, h2⟩
  · by_cases h6 : ∃ i, i < l.length ∧ (rat l i).nm = name
    · rw [show place l name day = (0, 14) from h3 h6] at h; cases h
    · rw [show place l name day = (0, 6) from h4 fun i hi h7 => h6 ⟨i, hi, h7⟩] at h; cases h
theorem place_err {l : List Rc} {name : ByteArray} {day : Int} (h : ¬ (place l name day).2 = 0) : (place l name day).1 = 0 := by
  rcases plG_spec (name := name) (day := day) l 0 6 (by decide) with ⟨i, hi, h1, h2⟩ | ⟨_, h3, h4⟩
  · rw [show place l name day = (0 + i, 0) from h1] at h; exact absurd rfl h
  · by_cases h6 : ∃ i, i < l.length ∧ (rat l i).nm = name
    · rw [show place l name day = (0, 14) from h3 h6]
    · rw [show place l name day = (0, 6) from h4 fun i hi h7 => h6 ⟨i, hi, h7⟩]
/-! ### the first index of which something holds -/
theorem first_ex (φ : Nat → Bool) : ∀ n : Nat, ∃ r, r ≤ n ∧ (∀ i, i < r → φ i = false) ∧ (r = n ∨ φ r = true)
  | 0 => ⟨0, Nat.le_refl _, fun i hi => by omega, .inl rfl⟩
  | n + 1 => by
    obtain ⟨r, h1, h2, h3⟩ := first_ex φ n
    rcases h3 with rfl | h3
    · cases hr : φ r with
      | true => exact ⟨r, by omega, h2, .inr hr⟩
      | false => exact ⟨r + 1, Nat.le_refl _, fun i hi => by rcases Nat.lt_succ_iff_lt_or_eq.1 hi with hi | rfl; exact h2 i hi; exact hr, .inl rfl⟩
    · exact ⟨r, by omega, h2, .inr h3⟩
noncomputable def firstI (φ : Nat → Bool) (n : Nat) : Nat := Classical.choose (first_ex φ n)
theorem firstI_spec (φ : Nat → Bool) (n : Nat) : firstI φ n ≤ n ∧ (∀ i, i < firstI φ n → φ i = false) ∧ (firstI φ n = n ∨ φ (firstI φ n) = true) := Classical.choose_spec (first_ex φ n)
theorem firstI_eq {φ : Nat → Bool} {n r : Nat} (h1 : r ≤ n) (h2 : ∀ i, i < r → φ i = false) (h3 : r = n ∨ φ r = true) : firstI φ n = r := by
  obtain ⟨g1, g2, g3⟩ := firstI_spec φ n
  rcases Nat.lt_trichotomy (firstI φ n) r with hlt | h | hlt
  · rcases g3 with g3 | g3
    · omega
    · rw [h2 _ hlt] at g3; cases g3
  · exact h
  · rcases h3 with h3 | h3
    · omega
    · rw [g2 _ hlt] at h3; cases h3
noncomputable def beh (l : List Rc) (name : ByteArray) (day : Int) (i : Nat) : Bool := !(sl (rat l i).nm name || @decide ((rat l i).nm = name) (Classical.propDecidable _)) || (@decide ((rat l i).nm = name) (Classical.propDecidable _) && decide (day < (rat l i).fr))
def nbe (l : List Rc) (name : ByteArray) (i : Nat) : Bool := !(sl (rat l i).nm name)
theorem nbe_mono {l : List Rc} (h : Right l) {name : ByteArray} {i j : Nat} (hij : i ≤ j) (hj : j < l.length) (hi : nbe l name i = true) : nbe l name j = true := by
  rcases Nat.eq_or_lt_of_le hij with rfl | hij
  · exact hi
  · unfold nbe at *
    simp only [Bool.not_eq_true'] at *
    cases hs : sl (rat l j).nm name with
    | false => rfl
    | true => rw [le_lt ((h.mono hij hj).1) hs] at hi; cases hi
theorem beh_true {l : List Rc} {name : ByteArray} {day : Int} {i : Nat} : beh l name day i = true ↔ sl name (rat l i).nm = true ∨ (rat l i).nm = name ∧ day < (rat l i).fr := by
  unfold beh
  simp only [Bool.or_eq_true, Bool.not_eq_true', Bool.or_eq_false_iff, decide_eq_false_iff_not, Bool.and_eq_true, decide_eq_true_eq]
  constructor
  · rintro (⟨h1, h2⟩ | h)
    · refine .inl ?_
      cases hs : sl name (rat l i).nm with
      | true => rfl
      | false => exact absurd (sl_tri h1 hs) h2
    · exact .inr h
  · rintro (h | h)
    · exact .inl ⟨sl_asym h, fun e => by rw [e, sl_irr] at h; cases h⟩
    · exact .inr h
theorem beh_mono {l : List Rc} (h : Right l) {name : ByteArray} {day : Int} {i j : Nat} (hij : i ≤ j) (hj : j < l.length) (hi : beh l name day i = true) : beh l name day j = true := by
  rcases Nat.eq_or_lt_of_le hij with rfl | hij
  · exact hi
  · have hm := h.mono hij hj
    rw [beh_true] at *
    rcases hi with hi | ⟨h1, h2⟩
    · exact .inl (lt_le hi hm.1)
    · by_cases he : (rat l i).nm = (rat l j).nm
      · have h3 := hm.2 he
        have h4 := (recE0 (h.2 i (by omega)).1).2.2.2.2.2.2
        exact .inr ⟨by rw [← he, h1], by omega⟩
      · refine .inl ?_
        rw [← h1]
        cases hs : sl (rat l i).nm (rat l j).nm with
        | true => rfl
        | false => exact absurd (sl_tri hs hm.1) he
/-- what the program's two searches find -/
theorem valid_none {l : List Rc} (h : Right l) {name : ByteArray} {day : Int} (hn : firstI (nbe l name) l.length = l.length ∨ ¬ (rat l (firstI (nbe l name) l.length)).nm = name) : place l name day = (0, 6) := by
  obtain ⟨g1, g2, g3⟩ := firstI_spec (nbe l name) l.length
  refine place_none fun i hi e => ?_
  have hlt : ¬ i < firstI (nbe l name) l.length := fun hlt => by
    have := g2 i hlt
    unfold nbe at this
    rw [e, sl_irr] at this
    cases this
  rcases hn with hn | hn
  · omega
  · rcases Nat.eq_or_lt_of_le (Nat.not_lt.1 hlt) with he | he
    · rw [he] at hn; exact hn e
    · have h1 := (h.mono he hi).1
      have h2 := g3.resolve_left (by omega)
      unfold nbe at h2
      simp only [Bool.not_eq_true'] at h2
      rw [e] at h1
      exact hn (sl_tri h2 h1)
theorem valid_out {l : List Rc} (h : Right l) {name : ByteArray} {day : Int} (hf : firstI (nbe l name) l.length < l.length) (hn : (rat l (firstI (nbe l name) l.length)).nm = name)
    (ho : firstI (beh l name day) l.length ≤ firstI (nbe l name) l.length ∨ (rat l (firstI (beh l name day) l.length - 1)).un < day) : place l name day = (0, 14) := by
  obtain ⟨g1, g2, g3⟩ := firstI_spec (nbe l name) l.length
  obtain ⟨k1, k2, k3⟩ := firstI_spec (beh l name day) l.length
  refine place_out ⟨_, hf, hn⟩ fun i hi e ⟨h1, h2⟩ => ?_
  have hi1 : ¬ i < firstI (nbe l name) l.length := fun hlt => by
    have := g2 i hlt
    unfold nbe at this
    rw [e, sl_irr] at this
    cases this
  have hi2 : i < firstI (beh l name day) l.length := by
    rcases Nat.lt_or_ge i (firstI (beh l name day) l.length) with hlt | hge
    · exact hlt
    · have h4 := k3.resolve_left (by omega)
      have := beh_mono h hge hi h4
      rw [beh_true, e, sl_irr] at this
      rcases this with this | this
      · cases this
      · omega
  rcases ho with ho | ho
  · omega
  · rcases Nat.eq_or_lt_of_le (show i ≤ firstI (beh l name day) l.length - 1 by omega) with he | he
    · rw [← he] at ho; omega
    · have hk := k2 (firstI (beh l name day) l.length - 1) (by omega)
      have hm := h.mono he (by omega)
      have he2 : (rat l (firstI (beh l name day) l.length - 1)).nm = name := by
        refine sl_tri ?_ ?_
        · have : ¬ beh l name day (firstI (beh l name day) l.length - 1) = true := by rw [hk]; simp
          rw [beh_true] at this
          have hs : sl name (rat l (firstI (beh l name day) l.length - 1)).nm = false := by
            cases hs : sl name (rat l (firstI (beh l name day) l.length - 1)).nm with
            | false => rfl
            | true => exact absurd (.inl hs) this
          have h9 := hm.1
          rw [e] at h9
          exact h9
        · have : ¬ beh l name day (firstI (beh l name day) l.length - 1) = true := by rw [hk]; simp
          rw [beh_true] at this
          cases hs : sl name (rat l (firstI (beh l name day) l.length - 1)).nm with
          | false => rfl
          | true => exact absurd (.inl hs) this
      have h8 := hm.2 (by rw [e, he2])
      have hfr : ¬ day < (rat l (firstI (beh l name day) l.length - 1)).fr := fun hd => by
        have : beh l name day (firstI (beh l name day) l.length - 1) = true := beh_true.2 (.inr ⟨he2, hd⟩)
        rw [hk] at this; cases this
      omega
theorem valid_in {l : List Rc} (h : Right l) {name : ByteArray} {day : Int} (hf : firstI (nbe l name) l.length < l.length) (hn : (rat l (firstI (nbe l name) l.length)).nm = name)
    (h1 : firstI (nbe l name) l.length < firstI (beh l name day) l.length) (h2 : day ≤ (rat l (firstI (beh l name day) l.length - 1)).un) : place l name day = (firstI (beh l name day) l.length - 1, 0) := by
  obtain ⟨k1, k2, k3⟩ := firstI_spec (beh l name day) l.length
  have hk := k2 (firstI (beh l name day) l.length - 1) (by omega)
  have hb : ¬ beh l name day (firstI (beh l name day) l.length - 1) = true := by rw [hk]; simp
  rw [beh_true] at hb
  have hs : sl name (rat l (firstI (beh l name day) l.length - 1)).nm = false := by
    cases hs : sl name (rat l (firstI (beh l name day) l.length - 1)).nm with
    | false => rfl
    | true => exact absurd (.inl hs) hb
  have he2 : (rat l (firstI (beh l name day) l.length - 1)).nm = name := by
    rcases Nat.eq_or_lt_of_le (show firstI (nbe l name) l.length ≤ firstI (beh l name day) l.length - 1 by omega) with he | he
    · rw [← he]; exact hn
    · have := (h.mono he (by omega)).1
      rw [hn] at this
      exact sl_tri this hs
  exact place_yes h ⟨by omega, he2, by
    have : ¬ day < (rat l (firstI (beh l name day) l.length - 1)).fr := fun hd => hb (.inr ⟨he2, hd⟩)
    omega, h2⟩
/-! ### chains -/
noncomputable def chy (l : List Rc) : Nat → List Nat → ByteArray → Int → List (Nat × Int)
  | 0, _, _, _ => []
  | m + 1, out, name, day =>
    if ¬ (place l name day).2 = 0 then [(0, (place l name day).2)] else
    if (place l name day).1 ∈ out then [((place l name day).1, 16)] else
    @ite _ ((rat l (place l name day).1).bn = nul) (Classical.propDecidable _) [((place l name day).1, 0)]
      (((place l name day).1, 0) :: chy l m (out ++ [(place l name day).1]) (rat l (place l name day).1).bn (rat l (place l name day).1).fr)
def coll : List Nat → List (Nat × Int) → List Nat × Int
  | out, [] => (out, 0)
  | out, (i, e) :: r => if e = 0 then coll (out ++ [i]) r else ([], e)
noncomputable def foll (l : List Rc) (name : ByteArray) (day : Int) : List Nat × Int := coll [] (chy l (l.length + 1) [] name day)
theorem chy_err {l : List Rc} {m : Nat} {out : List Nat} {name : ByteArray} {day : Int} (h : ¬ (place l name day).2 = 0) : chy l (m + 1) out name day = [(0, (place l name day).2)] := by rw [chy, if_pos h]
theorem chy_met {l : List Rc} {m : Nat} {out : List Nat} {name : ByteArray} {day : Int} (h : (place l name day).2 = 0) (h2 : (place l name day).1 ∈ out) : chy l (m + 1) out name day = [((place l name day).1, 16)] := by rw [chy, if_neg (fun e => e h), if_pos h2]
theorem chy_end {l : List Rc} {m : Nat} {out : List Nat} {name : ByteArray} {day : Int} (h : (place l name day).2 = 0) (h2 : ¬ (place l name day).1 ∈ out) (h3 : (rat l (place l name day).1).bn = nul) : chy l (m + 1) out name day = [((place l name day).1, 0)] := by rw [chy, if_neg (fun e => e h), if_neg h2, if_pos h3]
theorem chy_more {l : List Rc} {m : Nat} {out : List Nat} {name : ByteArray} {day : Int} (h : (place l name day).2 = 0) (h2 : ¬ (place l name day).1 ∈ out) (h3 : ¬ (rat l (place l name day).1).bn = nul) :
    chy l (m + 1) out name day = ((place l name day).1, 0) :: chy l m (out ++ [(place l name day).1]) (rat l (place l name day).1).bn (rat l (place l name day).1).fr := by rw [chy, if_neg (fun e => e h), if_neg h2, if_neg h3]
theorem nodup_bound : ∀ (n : Nat) (l : List Nat), l.Nodup → (∀ i ∈ l, i < n) → l.length ≤ n
  | 0, l, _, h => by
    cases l with
    | nil => simp
    | cons a r => exact absurd (h a (by simp)) (by omega)
  | n + 1, l, hd, h => by
    have h1 := nodup_bound n (l.erase n) (hd.erase n) fun i hi => by
      have h2 := (List.Nodup.mem_erase_iff hd).1 hi
      have := h i h2.2
      omega
    rw [List.length_erase] at h1
    split at h1 <;> omega
end Go.Proofs.Ytnndkdcciojpiaa
