/- Features that are moved, mirrored, turned: the plain laws. No statement of the seat is proved here. -/
import Derived.Test.YtcchdbihepinmaaFo
import Derived.Test.YtcchdbihepinmaaFf
namespace Go.Proofs.Ytcchdbihepinmaa
open Go Go.RowKit
theorem chk_ok {l h : Int} (h1 : 1 ≤ l) (h2 : l ≤ h) (h3 : h ≤ 100000) : chk l h = 0 := by
  unfold chk
  rw [if_pos (by omega), if_neg (by omega)]
theorem chkF1 {f : Ft} (h : nameE f.nm = 0 ∧ (0 ≤ f.kind ∧ f.kind < 5) ∧ (0 ≤ f.ax ∧ f.ax < 3) ∧ (f.kind = 4 → f.ax = 0) ∧ (-100000 ≤ f.x ∧ f.x ≤ 100000) ∧ (-100000 ≤ f.y ∧ f.y ≤ 100000) ∧ (-100000 ≤ f.z ∧ f.z ≤ 100000) ∧ ((f.kind = 0 ∧ f.lo = 0 ∧ f.hi = 0) ∨ (¬ f.kind = 0 ∧ 1 ≤ f.lo ∧ f.lo ≤ f.hi ∧ f.hi ≤ 100000))) : chkF f = 0 := by
  obtain ⟨h1, h2, h3, h4, h5, h6, h7, h8⟩ := h
  unfold chkF
  rw [if_neg (by simp [h1]), if_neg (by omega), if_neg (fun k => k.2 (h4 k.1)), if_neg (by omega)]
  rcases h8 with ⟨e1, e2, e3⟩ | ⟨e1, e2, e3, e4⟩
  · rw [if_pos e1, if_pos ⟨e2, e3⟩]
  · rw [if_neg e1, if_neg (not_not_intro (chk_ok e2 e3 e4)), if_neg (by omega)]
theorem chk_sk {a b : Ft} (h : a.sk = b.sk) : chkF a = chkF b := (show chkF a = chkF a.sk from rfl).trans ((congrArg chkF h).trans rfl)
theorem sep_sk {a b c d : Ft} (h : a.sk = b.sk) (k : c.sk = d.sk) : apP a c ↔ apP b d := by
  have : apP a.sk c.sk ↔ apP b.sk d.sk := by rw [h, k]
  exact this
theorem reach_sk {a b : Ft} (h : a.sk = b.sk) (k : Int) : reachS a k = reachS b k := (show reachS a k = reachS a.sk k from rfl).trans ((congrArg (reachS · k) h).trans rfl)
theorem small_sk {a b : Ft} (h : a.sk = b.sk) (hs : b.small) : a.small := by
  have h1 : a.fs.map sk = b.fs.map sk := by
    have := congrArg Ft.fs h
    exact this
  have hl := sk_len h1
  refine ⟨by rw [hl]; exact hs.1, fun g hg => ?_⟩
  obtain ⟨j, hj, e⟩ := List.getElem_of_mem hg
  have e1 : a.fs.getD j fr0 = g := by simp [List.getD_eq_getElem?_getD, hj, e]
  rw [← e1, sk_ds (sk_get h1 j)]
  exact hs.2 _ (getD_mem fr0 (by omega))
theorem turn_chk {f : Ft} {k : Int} (hc : chkF f = 0) (hk : 0 ≤ k ∧ k < 3) : chkF (turnF k f) = 0 := by
  obtain ⟨h1, h2, h3, h4, h5, h6, h7, h8⟩ := chkF0 hc
  have ht : (0 ≤ turnAx k f ∧ turnAx k f < 3) ∧ (f.kind = 4 → turnAx k f = 0) := by
    unfold turnAx
    split
    · omega
    · exact ⟨h3, h4⟩
  refine chkF1 ⟨h1, h2, ht.1, ht.2, ?_, ?_, ?_, h8⟩
  all_goals
    simp only [turnF, Ft.at_, turnC]
    obtain rfl | rfl | rfl : k = 0 ∨ k = 1 ∨ k = 2 := by omega
    all_goals simp
    all_goals omega
theorem mir_chk {f : Ft} {k : Int} (hc : chkF f = 0) (hk : 0 ≤ k ∧ k < 3) : chkF (f.at_ (mirC k f.x f.y f.z)) = 0 := by
  obtain ⟨h1, h2, h3, h4, h5, h6, h7, h8⟩ := chkF0 hc
  refine chkF1 ⟨h1, h2, h3, h4, ?_, ?_, ?_, h8⟩
  all_goals
    simp only [Ft.at_, mirC]
    obtain rfl | rfl | rfl : k = 0 ∨ k = 1 ∨ k = 2 := by omega
    all_goals simp
    all_goals omega
theorem turn_bnd {f : Ft} {k : Int} (hc : chkF f = 0) (hk : 0 ≤ k ∧ k < 3) (j : Int) (hj : 0 ≤ j ∧ j < 3) : bndP f.kind (turnAx k f) j ↔ bndP f.kind f.ax (if j = k then k else 3 - k - j) := by
  obtain ⟨h1, h2, h3, h4, h5, h6, h7, h8⟩ := chkF0 hc
  unfold bndP turnAx
  split <;> split <;> omega
theorem turn_r {f : Ft} {k : Int} (hk : 0 ≤ k ∧ k < 3) (j : Int) (hj : 0 ≤ j ∧ j < 3) : if j = (k + 1) % 3 then (rlo (turnF k f) j = - rhi f (if j = k then k else 3 - k - j) ∧ rhi (turnF k f) j = - rlo f (if j = k then k else 3 - k - j)) else (rlo (turnF k f) j = rlo f (if j = k then k else 3 - k - j) ∧ rhi (turnF k f) j = rhi f (if j = k then k else 3 - k - j)) := by
  obtain rfl | rfl | rfl : k = 0 ∨ k = 1 ∨ k = 2 := by omega
  all_goals
    obtain rfl | rfl | rfl : j = 0 ∨ j = 1 ∨ j = 2 := by omega
    all_goals simp [rlo, rhi, coI, turnF, turnC, Ft.at_]
    all_goals try omega
theorem sep_turn {a b : Ft} {k : Int} (ha : chkF a = 0) (hb : chkF b = 0) (hk : 0 ≤ k ∧ k < 3) (j : Int) (hj : 0 ≤ j ∧ j < 3) : sepP (turnF k a) (turnF k b) j ↔ sepP a b (if j = k then k else 3 - k - j) := by
  have h1 := turn_bnd ha hk j hj
  have h2 := turn_bnd hb hk j hj
  have h3 := turn_r (f := a) hk j hj
  have h4 := turn_r (f := b) hk j hj
  have e1 : (turnF k a).kind = a.kind := rfl
  have e2 : (turnF k b).kind = b.kind := rfl
  have e3 : (turnF k a).ax = turnAx k a := rfl
  have e4 : (turnF k b).ax = turnAx k b := rfl
  unfold sepP
  rw [e1, e2, e3, e4, h1, h2]
  generalize (if j = k then k else 3 - k - j) = m at *
  split at h3
  · rename_i hs
    rw [if_pos hs] at h4
    rw [h3.1, h3.2, h4.1, h4.2]
    constructor
    · rintro ⟨p, q, r⟩; exact ⟨p, q, by omega⟩
    · rintro ⟨p, q, r⟩; exact ⟨p, q, by omega⟩
  · rename_i hs
    rw [if_neg hs] at h4
    rw [h3.1, h3.2, h4.1, h4.2]
theorem ap_turn {a b : Ft} {k : Int} (ha : chkF a = 0) (hb : chkF b = 0) (hk : 0 ≤ k ∧ k < 3) : apP (turnF k a) (turnF k b) ↔ apP a b := by
  unfold apP
  rw [sep_turn ha hb hk 0 (by omega), sep_turn ha hb hk 1 (by omega), sep_turn ha hb hk 2 (by omega)]
  obtain rfl | rfl | rfl : k = 0 ∨ k = 1 ∨ k = 2 := by omega
  · simp; exact or_congr Iff.rfl or_comm
  · simp; constructor
    · rintro (h | h | h) <;> simp [h]
    · rintro (h | h | h) <;> simp [h]
  · simp; constructor
    · rintro (h | h | h) <;> simp [h]
    · rintro (h | h | h) <;> simp [h]
theorem mir_r {f : Ft} {k : Int} (hk : 0 ≤ k ∧ k < 3) (j : Int) (hj : 0 ≤ j ∧ j < 3) : if j = k then (rlo (f.at_ (mirC k f.x f.y f.z)) j = - rhi f j ∧ rhi (f.at_ (mirC k f.x f.y f.z)) j = - rlo f j) else (rlo (f.at_ (mirC k f.x f.y f.z)) j = rlo f j ∧ rhi (f.at_ (mirC k f.x f.y f.z)) j = rhi f j) := by
  obtain rfl | rfl | rfl : k = 0 ∨ k = 1 ∨ k = 2 := by omega
  all_goals
    obtain rfl | rfl | rfl : j = 0 ∨ j = 1 ∨ j = 2 := by omega
    all_goals simp [rlo, rhi, coI, mirC, Ft.at_]
    all_goals try omega
theorem sep_mir {a b : Ft} {k : Int} (hk : 0 ≤ k ∧ k < 3) (j : Int) (hj : 0 ≤ j ∧ j < 3) : sepP (a.at_ (mirC k a.x a.y a.z)) (b.at_ (mirC k b.x b.y b.z)) j ↔ sepP a b j := by
  have h3 := mir_r (f := a) hk j hj
  have h4 := mir_r (f := b) hk j hj
  unfold sepP
  rw [show (a.at_ (mirC k a.x a.y a.z)).kind = a.kind from rfl, show (b.at_ (mirC k b.x b.y b.z)).kind = b.kind from rfl, show (a.at_ (mirC k a.x a.y a.z)).ax = a.ax from rfl, show (b.at_ (mirC k b.x b.y b.z)).ax = b.ax from rfl]
  split at h3
  · rename_i hs
    rw [if_pos hs] at h4
    rw [h3.1, h3.2, h4.1, h4.2]
    constructor
    · rintro ⟨p, q, r⟩; exact ⟨p, q, by omega⟩
    · rintro ⟨p, q, r⟩; exact ⟨p, q, by omega⟩
  · rename_i hs
    rw [if_neg hs] at h4
    rw [h3.1, h3.2, h4.1, h4.2]
theorem ap_mir {a b : Ft} {k : Int} (hk : 0 ≤ k ∧ k < 3) : apP (a.at_ (mirC k a.x a.y a.z)) (b.at_ (mirC k b.x b.y b.z)) ↔ apP a b := by
  unfold apP
  rw [sep_mir hk 0 (by omega), sep_mir hk 1 (by omega), sep_mir hk 2 (by omega)]
theorem al_of {f : Ft} {k : Int} (hc : chkF f = 0) (hk : 0 ≤ k ∧ k < 3) : alE f k = 0 := by
  unfold alE
  rw [if_neg (not_not_intro hc), if_neg (by omega)]
theorem reach_turn {f : Ft} {k : Int} (hc : chkF f = 0) (hk : 0 ≤ k ∧ k < 3) : reachS (turnF k f) k = reachS f k := by
  have h1 := turn_bnd hc hk k hk
  have h2 := turn_r (f := f) hk k hk
  rw [if_neg (by omega), if_pos rfl] at h2
  rw [if_pos rfl] at h1
  unfold reachS
  rw [al_of hc hk, al_of (turn_chk hc hk) hk, h2.1, h2.2]
  have e : bndP (turnF k f).kind (turnF k f).ax k ↔ bndP f.kind f.ax k := h1
  simp only [e]
theorem turn4 {f : Ft} {k : Int} (hc : chkF f = 0) (hk : 0 ≤ k ∧ k < 3) : turnF k (turnF k (turnF k (turnF k f))) = f := by
  obtain ⟨h1, h2, h3, h4, h5, h6, h7, h8⟩ := chkF0 hc
  have hax : ∀ g : Ft, g.kind = f.kind → (g.ax = f.ax) → turnAx k (turnF k g) = f.ax := by
    intro g hg he
    have e1 : (turnF k g).kind = f.kind := hg
    have e2 : (turnF k g).ax = turnAx k g := rfl
    unfold turnAx
    rw [e1, e2]
    unfold turnAx
    rw [hg, he]
    by_cases hs : ¬ f.kind = 4 ∧ ¬ f.ax = k
    · rw [if_pos hs, if_pos ⟨hs.1, by omega⟩]; omega
    · rw [if_neg hs, if_neg hs]
  have ha : (turnF k (turnF k (turnF k (turnF k f)))).ax = f.ax := hax (turnF k (turnF k f)) rfl (hax f rfl rfl)
  have hx : (turnF k (turnF k (turnF k (turnF k f)))).x = f.x ∧ (turnF k (turnF k (turnF k (turnF k f)))).y = f.y ∧ (turnF k (turnF k (turnF k (turnF k f)))).z = f.z := by
    obtain rfl | rfl | rfl : k = 0 ∨ k = 1 ∨ k = 2 := by omega
    all_goals simp [turnF, turnC, Ft.at_]
  have e : ∀ g : Ft, g.nm = f.nm → g.kind = f.kind → g.ax = f.ax → g.x = f.x → g.y = f.y → g.z = f.z → g.lo = f.lo → g.hi = f.hi → g.A = f.A → g.cap = f.cap → g.fs = f.fs → g = f := by
    intro g; cases g; cases f; simp_all
  exact e _ rfl rfl ha hx.1 hx.2.1 hx.2.2 rfl rfl rfl rfl rfl
theorem mir2 {f : Ft} {k : Int} (hk : 0 ≤ k ∧ k < 3) (g : Ft) (hg : g = f.at_ (mirC k f.x f.y f.z)) : g.at_ (mirC k g.x g.y g.z) = f := by
  subst hg
  obtain rfl | rfl | rfl : k = 0 ∨ k = 1 ∨ k = 2 := by omega
  all_goals simp [mirC, Ft.at_]
theorem turn_sk {a b : Ft} (h : a.sk = b.sk) (k : Int) : (turnF k a).sk = (turnF k b).sk := by
  have := congrArg (turnF k) h
  exact this
theorem mir_sk {a b : Ft} (h : a.sk = b.sk) (k : Int) : (a.at_ (mirC k a.x a.y a.z)).sk = (b.at_ (mirC k b.x b.y b.z)).sk := by
  have hx : a.x = b.x := by have := congrArg Ft.x h; exact this
  have hy : a.y = b.y := by have := congrArg Ft.y h; exact this
  have hz : a.z = b.z := by have := congrArg Ft.z h; exact this
  rw [hx, hy, hz]
  have := congrArg (fun g : Ft => g.at_ (mirC k b.x b.y b.z)) h
  exact this
end Go.Proofs.Ytcchdbihepinmaa
