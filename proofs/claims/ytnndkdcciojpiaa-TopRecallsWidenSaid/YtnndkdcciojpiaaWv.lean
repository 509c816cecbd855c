/- The log of a shift, its checks judged for some limits; wider limits. No statement of the seat is proved here. -/
import Derived.Test.YtnndkdcciojpiaaWt
namespace Go.Proofs.Ytnndkdcciojpiaa.Rl
set_option linter.unusedVariables false
set_option linter.unusedSimpArgs false
open Go Go.RowKit Go.Maps
/-! ### two logs that differ in their checks alone -/
structure Wider (a b : List Ev) : Prop where
  n : b.length = a.length
  g : ∀ i, i < a.length → (b.getD i ev0).g = (a.getD i ev0).g
  p : ∀ i, i < a.length → (b.getD i ev0).p = (a.getD i ev0).p
  l : ∀ i, i < a.length → (b.getD i ev0).l = (a.getD i ev0).l
  k : ∀ i, i < a.length → (b.getD i ev0).k = (a.getD i ev0).k ∨ (a.getD i ev0).k = 2 ∧ (b.getD i ev0).k = 1
theorem tC_rel {a b : List Ev} (h : Wider a b) {g : ByteArray} : ∀ {d : Nat}, d ≤ a.length → (tC a d g = none ∧ tC b d g = none) ∨ ∃ j x y, tC a d g = some (j, x) ∧ tC b d g = some (j, y) ∧ (x = 2 ∨ x = 3) ∧ (y = 2 ∨ y = 3) ∧ (x = 2 → y = 2)
  | 0, _ => .inl ⟨rfl, rfl⟩
  | d + 1, hd => by
    have hg := h.g (a.length - 1 - d) (by omega)
    have hk := h.k (a.length - 1 - d) (by omega)
    unfold tC
    rw [show evB b d = b.getD (a.length - 1 - d) ev0 by unfold evB; rw [h.n], hg, h.n]
    by_cases hc : ((evB a d).k = 1 ∨ (evB a d).k = 2) ∧ g = (evB a d).g
    · have hc2 : ((b.getD (a.length - 1 - d) ev0).k = 1 ∨ (b.getD (a.length - 1 - d) ev0).k = 2) ∧ g = (a.getD (a.length - 1 - d) ev0).g := ⟨by have := hc.1; unfold evB at this; omega, hc.2⟩
      rw [if_pos hc, if_pos hc2]
      right
      refine ⟨_, _, _, rfl, rfl, ?_, ?_, ?_⟩
      · have := hc.1; unfold evB at this ⊢; omega
      · have := hc2.1; omega
      · have := hc.1; unfold evB at this ⊢; omega
    · have hc2 : ¬ (((b.getD (a.length - 1 - d) ev0).k = 1 ∨ (b.getD (a.length - 1 - d) ev0).k = 2) ∧ g = (a.getD (a.length - 1 - d) ev0).g) := fun e => hc ⟨by have := e.1; unfold evB; omega, e.2⟩
      rw [if_neg hc, if_neg hc2]
      exact tC_rel h (by omega)
theorem ck_rel {a b : List Ev} (h : Wider a b) {d : Nat} (hd : d < a.length) : ((ckF b d).2 = 3 → (ckF a d).2 = 3) ∧ ((ckF a d).2 = 2 → (ckF b d).2 = 2) := by
  have hg := h.g (a.length - 1 - d) (by omega)
  have hk := h.k (a.length - 1 - d) (by omega)
  rw [ckF_ckC, ckF_ckC]
  unfold ckC
  rw [show evB b d = b.getD (a.length - 1 - d) ev0 by unfold evB; rw [h.n], hg]
  by_cases h0 : (evB a d).k = 0
  · have h0' : (b.getD (a.length - 1 - d) ev0).k = 0 := by unfold evB at h0; omega
    rw [if_pos h0, if_pos h0']
    rcases tC_rel h (g := (evB a d).g) (d := d) (by omega) with ⟨e1, e2⟩ | ⟨j, x, y, e1, e2, hx, hy, hxy⟩
    · rw [e1, show tC b d (a.getD (a.length - 1 - d) ev0).g = none from e2]
      exact ⟨fun h => absurd h (by decide), fun h => absurd h (by decide)⟩
    · rw [e1, show tC b d (a.getD (a.length - 1 - d) ev0).g = some (j, y) from e2]
      show (y = 3 → x = 3) ∧ (x = 2 → y = 2)
      exact ⟨fun h => by omega, hxy⟩
  · have h0' : ¬ (b.getD (a.length - 1 - d) ev0).k = 0 := by unfold evB at h0; omega
    rw [if_neg h0, if_neg h0']
    exact ⟨fun h => absurd h (by decide), fun h => absurd h (by decide)⟩
theorem re_rel {a b : List Ev} (h : Wider a b) {s : ByteArray} (hb : (reF b (keyL s)).isSome = true) : (reF a (keyL s)).isSome = true := by
  rw [reF_mem] at hb ⊢
  obtain ⟨⟨d, hd, hs, rfl⟩, hn⟩ := hb
  rw [h.n] at hd
  have evb : ∀ d, evB b d = b.getD (a.length - 1 - d) ev0 := fun d => by unfold evB; rw [h.n]
  have nev : ∀ d, d < a.length → nevP a d → nevP b d := fun d hd hx => by
    rcases hx with hx | hx
    · left
      have := h.k (a.length - 1 - d) (by omega)
      rw [evb]; unfold evB at hx; omega
    · exact .inr ((ck_rel h hd).2 hx)
  have hp : ∀ d, d < a.length → (evB b d).p = (evB a d).p := fun d hd => by rw [evb]; exact h.p _ (by omega)
  constructor
  · refine ⟨d, hd, ⟨fun hx => hs.1 (nev d hd hx), ?_, (ck_rel h hd).1 hs.2.2⟩, (hp d hd).symm⟩
    have h1 := hs.2.1
    have := h.k (a.length - 1 - d) (by omega)
    rw [evb] at h1; unfold evB; omega
  · rintro ⟨d', hd', hx, he⟩
    exact hn ⟨d', by rw [h.n]; exact hd', nev d' hd' hx, by rw [hp d' hd', he]⟩
/-! ### the log of a shift -/
/-- event i with its check judged -/
noncomputable def jud1 (t : Sh) (lo hi : Int) (i : Nat) : Ev :=
  if (t.e.getD i ev0).k = 1 ∨ (t.e.getD i ev0).k = 2 then ⟨if (judL t.l (t.e.getD i ev0).g i (t.s.getD i 0) lo hi).1 = 2 then 1 else 2, (t.e.getD i ev0).g, (t.e.getD i ev0).p, (t.e.getD i ev0).l⟩ else t.e.getD i ev0
noncomputable def logJ (t : Sh) (lo hi : Int) (n : Nat) : List Ev := (List.range n).map (jud1 t lo hi)
theorem logJ_len (t : Sh) (lo hi : Int) (n : Nat) : (logJ t lo hi n).length = n := by simp [logJ]
theorem logJ_at {t : Sh} {lo hi : Int} {n i : Nat} (h : i < n) : (logJ t lo hi n).getD i ev0 = jud1 t lo hi i := by
  rw [List.getD_eq_getElem?_getD, logJ, List.getElem?_map, List.getElem?_range h]; rfl
theorem logJ_succ (t : Sh) (lo hi : Int) (n : Nat) : logJ t lo hi (n + 1) = logJ t lo hi n ++ [jud1 t lo hi n] := by
  unfold logJ; rw [List.range_succ, List.map_append]; rfl
/-- event i is a check without a value -/
def badJ (t : Sh) (i : Nat) : Prop := ((t.e.getD i ev0).k = 1 ∨ (t.e.getD i ev0).k = 2) ∧ ¬ (valL t.l (t.e.getD i ev0).g i (t.s.getD i 0)).2 = 0
theorem jud1_gpl (t : Sh) (lo hi : Int) (i : Nat) : (jud1 t lo hi i).g = (t.e.getD i ev0).g ∧ (jud1 t lo hi i).p = (t.e.getD i ev0).p ∧ (jud1 t lo hi i).l = (t.e.getD i ev0).l := by
  unfold jud1; split <;> exact ⟨rfl, rfl, rfl⟩
theorem jud1_k (t : Sh) (lo hi : Int) (i : Nat) : (¬ ((t.e.getD i ev0).k = 1 ∨ (t.e.getD i ev0).k = 2) ∧ (jud1 t lo hi i).k = (t.e.getD i ev0).k) ∨ (((t.e.getD i ev0).k = 1 ∨ (t.e.getD i ev0).k = 2) ∧ ((judL t.l (t.e.getD i ev0).g i (t.s.getD i 0) lo hi).1 = 2 ∧ (jud1 t lo hi i).k = 1 ∨ ¬ (judL t.l (t.e.getD i ev0).g i (t.s.getD i 0) lo hi).1 = 2 ∧ (jud1 t lo hi i).k = 2)) := by
  unfold jud1
  by_cases h : (t.e.getD i ev0).k = 1 ∨ (t.e.getD i ev0).k = 2
  · rw [if_pos h]
    right
    refine ⟨h, ?_⟩
    by_cases hj : (judL t.l (t.e.getD i ev0).g i (t.s.getD i 0) lo hi).1 = 2
    · exact .inl ⟨hj, if_pos hj⟩
    · exact .inr ⟨hj, if_neg hj⟩
  · rw [if_neg h]
    exact .inl ⟨h, rfl⟩
theorem judL_e {l : List Rc} {name : ByteArray} {day sh lo hi : Int} (hc : chk lo hi = 0) : (judL l name day sh lo hi).2 = 0 ↔ (valL l name day sh).2 = 0 := by
  unfold judL
  by_cases h : (valL l name day sh).2 = 0
  · rw [if_neg (fun e => e h), if_neg (fun e => e hc)]
    split
    · exact ⟨fun _ => h, fun _ => rfl⟩
    · split
      · exact ⟨fun _ => h, fun _ => rfl⟩
      · exact ⟨fun _ => h, fun _ => rfl⟩
  · rw [if_pos h]
theorem judL_wide {l : List Rc} {name : ByteArray} {day sh lo hi lo' hi' : Int} (hc : chk lo hi = 0) (hc' : chk lo' hi' = 0) (h1 : lo' ≤ lo) (h2 : hi ≤ hi') (h : (judL l name day sh lo hi).1 = 2) : (judL l name day sh lo' hi').1 = 2 := by
  unfold judL at h ⊢
  by_cases hv : (valL l name day sh).2 = 0
  · rw [if_neg (fun e => e hv), if_neg (fun e => e hc)] at h
    rw [if_neg (fun e => e hv), if_neg (fun e => e hc')]
    by_cases hb : lo ≤ (valL l name day sh).1.1 ∧ (valL l name day sh).1.2 ≤ hi
    · rw [if_pos ⟨by omega, by omega⟩]
    · rw [if_neg hb] at h
      split at h
      · exact absurd h (by decide)
      · exact absurd h (by decide)
  · rw [if_pos hv] at h
    exact absurd (show (0 : Int) = 2 from h) (by decide)
theorem logJ_wider {t : Sh} {lo hi lo' hi' : Int} (hc : chk lo hi = 0) (hc' : chk lo' hi' = 0) (h1 : lo' ≤ lo) (h2 : hi ≤ hi') : Wider (logJ t lo hi t.e.length) (logJ t lo' hi' t.e.length) := by
  refine ⟨by rw [logJ_len, logJ_len], ?_, ?_, ?_, ?_⟩ <;> intro i hi' <;> rw [logJ_len] at hi' <;> rw [logJ_at hi', logJ_at hi']
  · rw [(jud1_gpl _ _ _ _).1, (jud1_gpl _ _ _ _).1]
  · rw [(jud1_gpl _ _ _ _).2.1, (jud1_gpl _ _ _ _).2.1]
  · rw [(jud1_gpl _ _ _ _).2.2, (jud1_gpl _ _ _ _).2.2]
  · have hw := judL_wide (l := t.l) (name := (t.e.getD i ev0).g) (day := i) (sh := t.s.getD i 0) hc hc' h1 h2
    rcases jud1_k t lo hi i with ⟨a1, a2⟩ | ⟨a1, ⟨a2, a3⟩ | ⟨a2, a3⟩⟩
    · rcases jud1_k t lo' _ i with ⟨b1, b2⟩ | ⟨b1, _⟩
      · left; rw [a2]; exact b2
      · exact absurd b1 a1
    · rcases jud1_k t lo' _ i with ⟨b1, b2⟩ | ⟨b1, ⟨b2, b3⟩ | ⟨b2, b3⟩⟩
      · exact absurd a1 b1
      · left; rw [a3]; exact b3
      · exact absurd (hw a2) b2
    · rcases jud1_k t lo' _ i with ⟨b1, b2⟩ | ⟨b1, ⟨b2, b3⟩ | ⟨b2, b3⟩⟩
      · exact absurd a1 b1
      · right; exact ⟨a3, b3⟩
      · left; rw [a3]; exact b3
/-! ### it stays right -/
theorem logJ_right {t : Sh} {lo up : Int} (h : RightL t.e) : RightL (logJ t lo up t.e.length) := by
  have hk0 : ∀ i, ((jud1 t lo up i).k = 0 ↔ (t.e.getD i ev0).k = 0) ∧ ((jud1 t lo up i).k = 3 ↔ (t.e.getD i ev0).k = 3) := fun i => by
    rcases jud1_k t lo up i with ⟨a1, a2⟩ | ⟨a1, ⟨a2, a3⟩ | ⟨a2, a3⟩⟩ <;> omega
  have hgone : ∀ i s, i ≤ t.e.length → (goneP (logJ t lo up t.e.length) i s ↔ goneP t.e i s) := fun i s hi => by
    unfold goneP
    constructor
    · rintro ⟨j, a1, a2, a3⟩
      rw [logJ_at (by omega)] at a2 a3
      exact ⟨j, a1, (hk0 j).2.1 a2, by rw [← a3, (jud1_gpl _ _ _ _).2.1]⟩
    · rintro ⟨j, a1, a2, a3⟩
      exact ⟨j, a1, by rw [logJ_at (by omega)]; exact (hk0 j).2.2 a2, by rw [logJ_at (by omega), (jud1_gpl _ _ _ _).2.1]; exact a3⟩
  have hmeas : ∀ i s, i ≤ t.e.length → (measP (logJ t lo up t.e.length) i s ↔ measP t.e i s) := fun i s hi => by
    unfold measP
    constructor
    · rintro ⟨j, a1, a2, a3⟩
      rw [logJ_at (by omega)] at a2 a3
      exact ⟨j, a1, (hk0 j).1.1 a2, by rw [← a3, (jud1_gpl _ _ _ _).2.1]⟩
    · rintro ⟨j, a1, a2, a3⟩
      exact ⟨j, a1, by rw [logJ_at (by omega)]; exact (hk0 j).1.2 a2, by rw [logJ_at (by omega), (jud1_gpl _ _ _ _).2.1]; exact a3⟩
  refine ⟨by rw [logJ_len]; exact h.n, fun i hi => ?_⟩
  rw [logJ_len] at hi
  have hx := h.at_ i hi
  have hgpl := jud1_gpl t lo up i
  have hk := hk0 i
  have hkk := jud1_k t lo up i
  refine ⟨?_, ?_, ?_, ?_, ?_⟩
  · rw [logJ_at hi]
    have hn := hx.nm
    have n3 := hn.k0; have n4 := hn.k3
    refine ⟨?_, ?_, ?_, ?_, ?_⟩
    · rcases hkk with ⟨a1, a2⟩ | ⟨a1, ⟨a2, a3⟩ | ⟨a2, a3⟩⟩ <;> omega
    · rcases hkk with ⟨a1, a2⟩ | ⟨a1, ⟨a2, a3⟩ | ⟨a2, a3⟩⟩ <;> omega
    · have := hn.g
      rw [hgpl.1]
      by_cases c3 : (t.e.getD i ev0).k = 3
      · rw [if_pos c3] at this; rw [if_pos (hk.2.2 c3)]; exact this
      · rw [if_neg c3] at this; rw [if_neg (fun e => c3 (hk.2.1 e))]; exact this
    · have := hn.p
      rw [hgpl.2.1]
      by_cases c3 : (t.e.getD i ev0).k = 0 ∨ (t.e.getD i ev0).k = 3
      · rw [if_pos c3] at this; rw [if_pos (c3.imp hk.1.2 hk.2.2)]; exact this
      · rw [if_neg c3] at this; rw [if_neg (fun e => c3 (e.imp hk.1.1 hk.2.1))]; exact this
    · have := hn.l
      rw [hgpl.2.2]
      by_cases c3 : (t.e.getD i ev0).k = 0
      · rw [if_pos c3] at this; rw [if_pos (hk.1.2 c3)]; exact this
      · rw [if_neg c3] at this; rw [if_neg (fun e => c3 (hk.1.1 e))]; exact this
  · rw [logJ_at hi, hgone _ _ (by omega), hgpl.2.1]
    intro h0; exact hx.m1 (hk.1.1 h0)
  · rw [logJ_at hi, hgpl.2.1, hgpl.2.2]
    intro h0 j hj hj0 hp
    rw [logJ_at (by omega)] at hj0 hp ⊢
    rw [(jud1_gpl _ _ _ _).2.1] at hp
    rw [(jud1_gpl _ _ _ _).2.2]
    exact hx.m2 (hk.1.1 h0) j hj ((hk0 j).1.1 hj0) hp
  · rw [logJ_at hi, hmeas _ _ (by omega), hgpl.2.1]
    intro h0; exact hx.w1 (hk.2.1 h0)
  · rw [logJ_at hi, hgone _ _ (by omega), hgpl.2.1]
    intro h0; exact hx.w2 (hk.2.1 h0)
theorem logJ_ok {t : Sh} {lo up : Int} (ho : ∀ i, i < t.e.length → (t.e.getD i ev0).ok) : ∀ i, i < (logJ t lo up t.e.length).length → ((logJ t lo up t.e.length).getD i ev0).ok := fun i hi => by
  rw [logJ_len] at hi
  have h := ho i hi
  have hg := jud1_gpl t lo up i
  rw [logJ_at hi]
  exact ⟨by rw [hg.1]; exact h.hg, by rw [hg.2.1]; exact h.hp, by rw [hg.2.2]; exact h.hl⟩
end Go.Proofs.Ytnndkdcciojpiaa.Rl
