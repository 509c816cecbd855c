/- Forests of dimensions: chains in them are unique. No statement of the seat is proved here. -/
import Derived.Test.YtagapiflfnbfiaaUe
import Derived.Test.YtagapiflfnbfiaaJl
namespace Go.Proofs.Ytagapiflfnbfiaa
set_option linter.unusedVariables false
set_option linter.unusedSimpArgs false
open Go Go.RowKit
abbrev netU (l : List Dm) (ax : Int) (use : Nat → Bool) : List Lk := nlk l ax use l.length
theorem netU_mem {l : List Dm} {ax : Int} {use : Nat → Bool} {x : Lk} : x ∈ netU l ax use ↔ ∃ i : Nat, i < l.length ∧ x.dm = i ∧ (dat l i).ax = ax ∧ use i = true := nlk_mem _
theorem lnk_mono {l : List Dm} {L L' : List Lk} : ∀ {c : List Lk} {a b : ByteArray}, (∀ x ∈ c, x ∈ L → x ∈ L') → lnk l L a c b → lnk l L' a c b
  | [], _, _, _, h => h
  | y :: c, _, _, hm, ⟨h1, h2, h3⟩ => ⟨hm y (by simp) h1, h2, lnk_mono (fun x hx => hm x (List.mem_cons_of_mem _ hx)) h3⟩
/-- joined by a chain -/
def conn (l : List Dm) (ax : Int) (use : Nat → Bool) (a b : ByteArray) : Prop := ∃ c, lnk l (netU l ax use) a c b
theorem conn_rev {l : List Dm} {ax : Int} {use : Nat → Bool} {a b : ByteArray} (h : conn l ax use a b) : conn l ax use b a := by
  obtain ⟨c, h⟩ := h
  exact ⟨_, lnk_rev nlk_flp h⟩
theorem conn_trans {l : List Dm} {ax : Int} {use : Nat → Bool} {a b d : ByteArray} (h1 : conn l ax use a b) (h2 : conn l ax use b d) : conn l ax use a d := by
  obtain ⟨c, h1⟩ := h1
  obtain ⟨c', h2⟩ := h2
  exact ⟨_, lnk_app h1 h2⟩
theorem conn_mono {l : List Dm} {ax : Int} {use use' : Nat → Bool} {a b : ByteArray} (hu : ∀ j, j < l.length → use j = true → use' j = true) (h : conn l ax use a b) : conn l ax use' a b := by
  obtain ⟨c, h⟩ := h
  refine ⟨c, lnk_mono (fun x _ hx => ?_) h⟩
  obtain ⟨i, h1, h2, h3, h4⟩ := netU_mem.1 hx
  exact netU_mem.2 ⟨i, h1, h2, h3, hu i h1 h4⟩
theorem sh_conn {l : List Dm} {ax : Int} {use : Nat → Bool} {a b : ByteArray} (hL : l.length ≤ 256) : (shS l (netU l ax use) a b).2 = true ↔ conn l ax use a b :=
  ⟨fun h => ⟨_, (sh_gp (nlk_ok l ax use hL) h).1⟩, fun ⟨_, h⟩ => (sh_min (nlk_ok l ax use hL) nlk_flp h).1⟩
def uniq (l : List Dm) (use : Nat → Bool) : Prop := ∀ ax a b c c', gp l (netU l ax use) a c b → gp l (netU l ax use) a c' b → c = c'
theorem uniq_none (l : List Dm) (use : Nat → Bool) (h : ∀ j, j < l.length → use j = false) : uniq l use := by
  have key : ∀ ax a c b, gp l (netU l ax use) a c b → c = [] := fun ax a c b hc => by
    cases c with
    | nil => rfl
    | cons y c =>
      obtain ⟨i, h1, _, _, h4⟩ := netU_mem.1 hc.1.1
      rw [h i h1] at h4
      cases h4
  intro ax a b c c' h1 h2
  rw [key _ _ _ _ h1, key _ _ _ _ h2]
theorem rc_dms {l : List Dm} {c : List Lk} (h : RC l c) : (c.map Lk.dm).Nodup := by
  refine List.pairwise_iff_getElem.2 fun i j hi hj hij e => ?_
  simp only [List.length_map] at hi hj
  simp only [List.getElem_map] at e
  have := h.dist i j hi hj (by rw [show lat c i = c[i] from getDL hi, show lat c j = c[j] from getDL hj]; exact e)
  omega
theorem gp_dms {l : List Dm} {ax : Int} {use : Nat → Bool} {c : List Lk} {a b : ByteArray} (h : gp l (netU l ax use) a c b) : (c.map Lk.dm).Nodup := by
  cases c with
  | nil => simp
  | cons y c => exact rc_dms (gp_rc h (by simp))
/-- a chain with a dimension more: without it, or once over it -/
theorem gp_cut {l : List Dm} {ax : Int} {use use' : Nat → Bool} {i : Nat} {c : List Lk} {a b : ByteArray} (hu : ∀ j, use' j = true → use j = true ∨ j = i) (h : gp l (netU l ax use') a c b) :
    gp l (netU l ax use) a c b ∨ ∃ (p : List Lk) (x : Lk) (q : List Lk), c = p ++ x :: q ∧ x.dm = (i : Int) ∧ (dat l i).ax = ax ∧ gp l (netU l ax use) a p (begE l x) ∧ gp l (netU l ax use) (stoE l x) q b := by
  have hin : ∀ y : Lk, ¬ y.dm = i → y ∈ netU l ax use' → y ∈ netU l ax use := fun y hy hm => by
    obtain ⟨j, h1, h2, h3, h4⟩ := netU_mem.1 hm
    rcases hu j h4 with h5 | h5
    · exact netU_mem.2 ⟨j, h1, h2, h3, h5⟩
    · subst h5; exact absurd h2 hy
  by_cases hx : ∃ x ∈ c, x.dm = (i : Int)
  · right
    obtain ⟨x, hx, hxi⟩ := hx
    obtain ⟨p, q, rfl⟩ := List.append_of_mem hx
    have hd := gp_dms h
    rw [List.map_append, List.map_cons, List.nodup_append, List.nodup_cons] at hd
    obtain ⟨_, ⟨h2, _⟩, h4⟩ := hd
    have hp : ∀ y ∈ p, ¬ y.dm = i := fun y hy e => h4 y.dm (List.mem_map_of_mem hy) x.dm (by simp) (e.trans hxi.symm)
    have hq : ∀ y ∈ q, ¬ y.dm = i := fun y hy e => h2 (by rw [hxi, ← e]; exact List.mem_map_of_mem hy)
    obtain ⟨m, h5, h6⟩ := lnk_split h.1
    obtain ⟨h7, h8, h9⟩ := h6
    obtain ⟨j, h10, h11, h12, _⟩ := netU_mem.1 h7
    have hji : j = i := by omega
    subst hji
    have hn := h.2
    rw [List.map_append, List.map_cons, ← List.cons_append, List.nodup_append] at hn
    refine ⟨p, x, q, rfl, hxi, h12, ⟨?_, hn.1⟩, ⟨lnk_mono (fun y hy => hin y (hq y hy)) h9, hn.2.1⟩⟩
    rw [h8]
    exact lnk_mono (fun y hy => hin y (hp y hy)) h5
  · left
    exact ⟨lnk_mono (fun y hy => hin y (fun e => hx ⟨y, hy, e⟩)) h.1, h.2⟩
theorem conn_link {l : List Dm} {ax : Int} {use : Nat → Bool} {x : Lk} {i : Nat} (hx : x.dm = i) (h : conn l ax use (begE l x) (stoE l x)) : conn l ax use (dat l i).fr (dat l i).to := by
  unfold begE stoE at h
  rw [show dOf l x = dat l i by unfold dOf; rw [hx]; rfl] at h
  by_cases hb : x.bk = true
  · rw [if_pos hb, if_pos hb] at h; exact conn_rev h
  · rw [if_neg hb, if_neg hb] at h; exact h
theorem uniq_add {l : List Dm} {use use' : Nat → Bool} {i : Nat} (h : uniq l use) (hu : ∀ j, use' j = true → use j = true ∨ j = i) (hn : ¬ conn l (dat l i).ax use (dat l i).fr (dat l i).to) : uniq l use' := by
  intro ax a b c c' h1 h2
  rcases gp_cut hu h1 with h1 | ⟨p, x, q, rfl, hx, hax, hp, hq⟩
  · rcases gp_cut hu h2 with h2 | ⟨p', x', q', rfl, hx', hax, hp', hq'⟩
    · exact h ax a b c c' h1 h2
    · subst hax
      refine absurd (conn_link hx' ?_) hn
      exact conn_trans (conn_rev ⟨_, hp'.1⟩) (conn_trans ⟨_, h1.1⟩ (conn_rev ⟨_, hq'.1⟩))
  · subst hax
    rcases gp_cut hu h2 with h2 | ⟨p', x', q', rfl, hx', _, hp', hq'⟩
    · refine absurd (conn_link hx ?_) hn
      exact conn_trans (conn_rev ⟨_, hp.1⟩) (conn_trans ⟨_, h2.1⟩ (conn_rev ⟨_, hq.1⟩))
    · by_cases hb : x.bk = x'.bk
      · have e : x = x' := lk_eta (hx.trans hx'.symm) hb
        subst e
        rw [h _ _ _ _ _ hp hp', h _ _ _ _ _ hq hq']
      · have e : x' = flp x := lk_eta (hx'.trans hx.symm) (by show x'.bk = !x.bk; cases h1 : x.bk <;> cases h2 : x'.bk <;> simp_all)
        subst e
        rw [beg_flp] at hp'
        refine absurd (conn_link hx ?_) hn
        exact conn_trans (conn_rev ⟨_, hp.1⟩) ⟨_, hp'.1⟩
/-! ### the program's forest -/
theorem forS_yes {l : List Dm} {k : Nat} (hL : l.length ≤ 256) (h : conn l (dat l k).ax (useF (forS l k).1) (dat l k).fr (dat l k).to) : forS l (k + 1) = ((forS l k).1, (forS l k).2 ++ [k]) := by
  rw [forS_succ, stepFo, if_pos ((sh_conn hL).2 h)]
theorem forS_no {l : List Dm} {k : Nat} (hL : l.length ≤ 256) (h : ¬ conn l (dat l k).ax (useF (forS l k).1) (dat l k).fr (dat l k).to) : forS l (k + 1) = ((forS l k).1.set k true, (forS l k).2) := by
  rw [forS_succ, stepFo, if_neg (fun e => h ((sh_conn hL).1 e))]
theorem useF_set {fs : List Bool} {k j : Nat} (hk : k < fs.length) : useF (fs.set k true) j = true ↔ useF fs j = true ∨ j = k := by
  unfold useF
  simp only [List.getD_eq_getElem?_getD, List.getElem?_set]
  by_cases h : k = j
  · subst h; simp [hk]
  · rw [if_neg h]
    exact ⟨.inl, fun h2 => h2.elim id (fun e => absurd e.symm h)⟩
/-- which dimensions are used so far -/
theorem forS_use {l : List Dm} (hL : l.length ≤ 256) : ∀ {k : Nat}, k ≤ l.length → ∀ j, useF (forS l k).1 j = true ↔ j < k ∧ ¬ conn l (dat l j).ax (useF (forS l j).1) (dat l j).fr (dat l j).to
  | 0, _, j => by
    have : useF (forS l 0).1 j = false := by
      show (List.replicate l.length false).getD j false = false
      rw [List.getD_eq_getElem?_getD, List.getElem?_replicate]
      split <;> rfl
    rw [this]
    simp
  | k + 1, hk, j => by
    have ih := forS_use hL (k := k) (by omega) j
    by_cases hc : conn l (dat l k).ax (useF (forS l k).1) (dat l k).fr (dat l k).to
    · rw [forS_yes hL hc]
      dsimp only
      rw [ih]
      constructor
      · rintro ⟨h1, h2⟩; exact ⟨by omega, h2⟩
      · rintro ⟨h1, h2⟩
        refine ⟨?_, h2⟩
        rcases Nat.lt_succ_iff_lt_or_eq.1 h1 with h1 | rfl
        · exact h1
        · exact absurd hc h2
    · rw [forS_no hL hc]
      dsimp only
      rw [useF_set (by rw [(forS_len (l := l) k).1]; omega), ih]
      constructor
      · rintro (⟨h1, h2⟩ | rfl)
        · exact ⟨by omega, h2⟩
        · exact ⟨by omega, hc⟩
      · rintro ⟨h1, h2⟩
        rcases Nat.lt_succ_iff_lt_or_eq.1 h1 with h1 | rfl
        · exact .inl ⟨h1, h2⟩
        · exact .inr rfl
theorem forS_mono {l : List Dm} (hL : l.length ≤ 256) {k k' : Nat} (h : k ≤ k') (h' : k' ≤ l.length) : ∀ j, useF (forS l k).1 j = true → useF (forS l k').1 j = true := fun j hj => by
  rw [forS_use hL (by omega)] at hj ⊢
  exact ⟨by omega, hj.2⟩
theorem forS_rest {l : List Dm} (hL : l.length ≤ 256) : ∀ {k : Nat}, k ≤ l.length → ∀ j, j ∈ (forS l k).2 ↔ j < k ∧ conn l (dat l j).ax (useF (forS l j).1) (dat l j).fr (dat l j).to
  | 0, _, j => by
    show j ∈ ([] : List Nat) ↔ _
    simp
  | k + 1, hk, j => by
    have ih := forS_rest hL (k := k) (by omega) j
    by_cases hc : conn l (dat l k).ax (useF (forS l k).1) (dat l k).fr (dat l k).to
    · rw [forS_yes hL hc]
      dsimp only
      rw [List.mem_append, ih, List.mem_singleton]
      constructor
      · rintro (⟨h1, h2⟩ | rfl)
        · exact ⟨by omega, h2⟩
        · exact ⟨by omega, hc⟩
      · rintro ⟨h1, h2⟩
        rcases Nat.lt_succ_iff_lt_or_eq.1 h1 with h1 | rfl
        · exact .inl ⟨h1, h2⟩
        · exact .inr rfl
    · rw [forS_no hL hc]
      dsimp only
      rw [ih]
      constructor
      · rintro ⟨h1, h2⟩; exact ⟨by omega, h2⟩
      · rintro ⟨h1, h2⟩
        refine ⟨?_, h2⟩
        rcases Nat.lt_succ_iff_lt_or_eq.1 h1 with h1 | rfl
        · exact h1
        · exact absurd h2 hc
theorem forS_uniq {l : List Dm} (hL : l.length ≤ 256) : ∀ {k : Nat}, k ≤ l.length → uniq l (useF (forS l k).1)
  | 0, hk => uniq_none l _ fun j _ => Bool.eq_false_iff.2 fun h => by
    have := ((forS_use hL hk) j).1 h
    omega
  | k + 1, hk => by
    have ih := forS_uniq hL (k := k) (by omega)
    by_cases hc : conn l (dat l k).ax (useF (forS l k).1) (dat l k).fr (dat l k).to
    · rw [forS_yes hL hc]; exact ih
    · refine uniq_add ih (fun j hj => ?_) hc
      rw [forS_no hL hc] at hj
      exact (useF_set (by rw [(forS_len (l := l) k).1]; omega)).1 hj
/-- what closes a loop is a chain of the forest -/
theorem ring_gp {l : List Dm} (hL : l.length ≤ 256) {i : Nat} (hi : i ∈ (forS l l.length).2) : gp l (netU l (dat l i).ax (useF (forS l l.length).1)) (dat l i).to (ringS l i) (dat l i).fr := by
  obtain ⟨h1, h2⟩ := (forS_rest hL (Nat.le_refl _) i).1 hi
  have h3 := conn_rev (conn_mono (fun j _ => forS_mono hL (by omega : i ≤ l.length) (Nat.le_refl _) j) h2)
  exact sh_gp (nlk_ok l _ _ hL) ((sh_conn hL).2 h3)
/-! ### some of the dimensions -/
def ren (F : List Nat) (x : Lk) : Lk := ⟨((F.getD x.dm.toNat 0 : Nat) : Int), x.bk⟩
theorem dat_some {l : List Dm} {F : List Nat} {k : Nat} (hk : k < F.length) : dat (F.map (dat l)) k = dat l (F.getD k 0) := by
  simp [List.getD_eq_getElem?_getD, hk]
theorem beg_ren {l : List Dm} {F : List Nat} {x : Lk} (hx : inR (F.map (dat l)) x) : begE (F.map (dat l)) x = begE l (ren F x) ∧ stoE (F.map (dat l)) x = stoE l (ren F x) := by
  have h1 : x.dm.toNat < F.length := by have := in_dat hx; simpa using this
  have h2 : dOf (F.map (dat l)) x = dOf l (ren F x) := by
    show dat (F.map (dat l)) x.dm.toNat = dat l (ren F x).dm.toNat
    rw [dat_some h1]
    unfold ren
    rw [Int.toNat_natCast]
  unfold begE stoE
  rw [h2]
  exact ⟨rfl, rfl⟩
theorem lnk_ren {l : List Dm} {F : List Nat} {ax : Int} {use use' : Nat → Bool} (hF : ∀ k, k < F.length → use' k = true → F.getD k 0 < l.length ∧ use (F.getD k 0) = true) : ∀ {c : List Lk} {a b : ByteArray}, lnk (F.map (dat l)) (netU (F.map (dat l)) ax use') a c b →
    lnk l (netU l ax use) a (c.map (ren F)) b ∧ (c.map (ren F)).map (stoE l) = c.map (stoE (F.map (dat l)))
  | [], _, _, h => ⟨h, rfl⟩
  | y :: c, a, b, ⟨h1, h2, h3⟩ => by
    obtain ⟨i, g1, g2, g3, g4⟩ := netU_mem.1 h1
    have gl : i < F.length := by simpa using g1
    have hin : inR (F.map (dat l)) y := by unfold inR; omega
    obtain ⟨e1, e2⟩ := beg_ren hin
    rw [e2] at h3
    obtain ⟨h4, h5⟩ := lnk_ren hF h3
    obtain ⟨f1, f2⟩ := hF i gl g4
    rw [dat_some gl] at g3
    refine ⟨⟨netU_mem.2 ⟨F.getD i 0, f1, ?_, g3, f2⟩, e1.symm.trans h2, h4⟩, ?_⟩
    · show ((F.getD y.dm.toNat 0 : Nat) : Int) = _
      rw [g2]; rfl
    · rw [List.map_cons, List.map_cons, List.map_cons, h5, e2]
theorem gp_ren {l : List Dm} {F : List Nat} {ax : Int} {use use' : Nat → Bool} (hF : ∀ k, k < F.length → use' k = true → F.getD k 0 < l.length ∧ use (F.getD k 0) = true) {c : List Lk} {a b : ByteArray} (h : gp (F.map (dat l)) (netU (F.map (dat l)) ax use') a c b) : gp l (netU l ax use) a (c.map (ren F)) b := by
  obtain ⟨h1, h2⟩ := lnk_ren hF h.1
  exact ⟨h1, by rw [h2]; exact h.2⟩
theorem conn_ren {l : List Dm} {F : List Nat} {ax : Int} {use use' : Nat → Bool} (hF : ∀ j, j < l.length → use j = true → ∃ k, k < F.length ∧ use' k = true ∧ F.getD k 0 = j) : ∀ {c : List Lk} {a b : ByteArray}, lnk l (netU l ax use) a c b → conn (F.map (dat l)) ax use' a b
  | [], _, _, h => ⟨[], h⟩
  | y :: c, a, b, ⟨h1, h2, h3⟩ => by
    obtain ⟨i, g1, g2, g3, g4⟩ := netU_mem.1 h1
    obtain ⟨k, k1, k2, k3⟩ := hF i g1 g4
    obtain ⟨c', h4⟩ := conn_ren hF h3
    have hin : inR (F.map (dat l)) ⟨(k : Int), y.bk⟩ := by unfold inR; simp only [List.length_map]; omega
    obtain ⟨e1, e2⟩ := beg_ren hin
    have e3 : ren F ⟨(k : Int), y.bk⟩ = y := by
      refine lk_eta ?_ rfl
      show ((F.getD (k : Int).toNat 0 : Nat) : Int) = y.dm
      rw [Int.toNat_natCast, k3, g2]
    rw [e3] at e1 e2
    refine ⟨⟨(k : Int), y.bk⟩ :: c', netU_mem.2 ⟨k, by simpa using k1, rfl, ?_, k2⟩, e1.trans h2, ?_⟩
    · rw [dat_some k1, k3]; exact g3
    · rw [e2]; exact h4
theorem given_of {l : List Dm} (h1 : l.length ≤ 256) (h2 : ∀ i, i < l.length → validE (dat l i) = 0) : givenE l = 0 := by
  unfold givenE
  rw [if_neg (by omega)]
  exact fstE_of _ _ fun i _ hi => h2 i (by omega)
theorem given_some {l : List Dm} {F : List Nat} (hg : givenE l = 0) (hF : ∀ j ∈ F, j < l.length) (hl : F.length ≤ 256) : givenE (F.map (dat l)) = 0 := by
  refine given_of (by simpa using hl) fun i hi => ?_
  have hi' : i < F.length := by simpa using hi
  rw [dat_some hi']
  exact (givenE_all hg).2 _ (hF _ (getD_mem 0 hi'))
end Go.Proofs.Ytagapiflfnbfiaa
