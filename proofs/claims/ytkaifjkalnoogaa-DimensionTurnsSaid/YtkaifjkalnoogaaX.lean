/- Paths backwards and in parts: the plain law. No statement of the seat is proved here. -/
import Derived.Test.YtkaifjkalnoogaaW
import Derived.Test.YtkaifjkalnoogaaEngS
namespace Go.Proofs.Ytkaifjkalnoogaa
open Go Go.RowKit
/-- the dimension of two that fit, without a look at the bounds -/
def jn (o d : Dm) : Dm := ⟨o.fr, d.to, o.ax, o.lo + d.lo, o.hi + d.hi⟩
def totl : Dm → List Dm → Dm
  | o, [] => o
  | o, d :: r => totl (jn o d) r
def Ch : ByteArray → Int → List Dm → Prop
  | _, _, [] => True
  | t, x, d :: r => validE d = 0 ∧ x = d.ax ∧ t = d.fr ∧ Ch d.to d.ax r
theorem valid_of {d : Dm} (h1 : nameE d.fr = 0) (h2 : nameE d.to = 0) (h3 : ¬ d.fr = d.to) (h4 : 0 ≤ d.ax ∧ d.ax < 3) (h5 : chk d.lo d.hi = 0) : validE d = 0 := by
  have hc : clsE d = 0 := by rw [clsE, if_neg h3, if_neg (by omega)]
  unfold validE
  rw [h1, h2, hc, h5]
  rfl
theorem chk_okk {a b : Int} (h1 : -100000 ≤ a) (h2 : a ≤ b) (h3 : b ≤ 100000) : chk a b = 0 := by
  unfold chk
  rw [if_pos (by omega), if_neg (by omega)]
theorem chk_22 {a b : Int} (h : a ≤ b) : chk a b = 0 ∨ chk a b = 2 := by
  unfold chk
  repeat' split
  all_goals omega
theorem rev_valid {d : Dm} (h : validE d = 0) : validE (rev d) = 0 := by
  obtain ⟨h1, h2, h3, h4, h5⟩ := valid0 h
  have g := chk0 h5
  exact valid_of h2 h1 (fun e => h3 e.symm) h4 (by unfold rev; exact chk_okk (by simp only; omega) (by simp only; omega) (by simp only; omega))
theorem rev_rev (d : Dm) : rev (rev d) = d := by
  cases d; simp only [rev]; congr 1 <;> omega
theorem join_step {o d : Dm} (ho : validE o = 0) (hd : validE d = 0) (hx : o.ax = d.ax) (ht : o.to = d.fr) :
    (joinS o d = (jn o d, 0) ∧ validE (jn o d) = 0) ∨ ∃ e, (e = 2 ∨ e = 7) ∧ joinS o d = (dm0, e) := by
  obtain ⟨a1, a2, a3, a4, a5⟩ := valid0 ho
  obtain ⟨b1, b2, b3, b4, b5⟩ := valid0 hd
  have ga := chk0 a5
  have gb := chk0 b5
  unfold joinS
  rw [if_neg (by simp [ho]), if_neg (by simp [hd]), if_neg (by simp [hx, ht])]
  by_cases h7 : o.fr = d.to
  · rw [if_pos h7]
    exact .inr ⟨7, .inr rfl, rfl⟩
  · rw [if_neg h7]
    have hadd : addS o.lo o.hi d.lo d.hi = madeS (o.lo + d.lo) (o.hi + d.hi) := by
      unfold addS bothE
      rw [if_pos a5, if_pos b5]
    rcases chk_22 (a := o.lo + d.lo) (b := o.hi + d.hi) (by omega) with hc | hc
    · have hm : madeS (o.lo + d.lo) (o.hi + d.hi) = (o.lo + d.lo, o.hi + d.hi, 0) := by unfold madeS; rw [if_pos hc]
      rw [hadd, hm]
      exact .inl ⟨rfl, valid_of a1 b2 h7 a4 hc⟩
    · have hm : madeS (o.lo + d.lo) (o.hi + d.hi) = (0, 0, 2) := by unfold madeS; rw [if_neg (by rw [hc]; decide), hc]
      rw [hadd, hm]
      exact .inr ⟨2, .inl rfl, rfl⟩
theorem join_ok {o d : Dm} {w : Dm} (h : joinS o d = (w, 0)) : validE o = 0 ∧ validE d = 0 ∧ o.ax = d.ax ∧ o.to = d.fr ∧ w = jn o d ∧ validE w = 0 := by
  by_cases ho : validE o = 0
  · by_cases hd : validE d = 0
    · by_cases hs : ¬ o.ax = d.ax ∨ ¬ o.to = d.fr
      · unfold joinS at h
        rw [if_neg (by simp [ho]), if_neg (by simp [hd]), if_pos hs] at h
        simp at h
      · have hx : o.ax = d.ax := Classical.byContradiction fun e => hs (.inl e)
        have ht : o.to = d.fr := Classical.byContradiction fun e => hs (.inr e)
        rcases join_step ho hd hx ht with ⟨h1, h2⟩ | ⟨e, he, h1⟩
        · rw [h1] at h
          simp only [Prod.mk.injEq, and_true] at h
          subst h
          exact ⟨ho, hd, hx, ht, rfl, h2⟩
        · rw [h1] at h
          simp only [Prod.mk.injEq] at h
          omega
    · unfold joinS at h
      rw [if_neg (by simp [ho]), if_pos hd] at h
      simp only [Prod.mk.injEq] at h
      exact absurd h.2 hd
  · unfold joinS at h
    rw [if_pos ho] at h
    simp only [Prod.mk.injEq] at h
    exact absurd h.2 ho
theorem go_chain : ∀ (r : List Dm) (o : Dm), validE o = 0 → Ch o.to o.ax r → (goJoin o r = (totl o r, 0) ∧ validE (totl o r) = 0) ∨ ∃ e, (e = 2 ∨ e = 7) ∧ goJoin o r = (dm0, e)
  | [], o, ho, _ => .inl ⟨rfl, ho⟩
  | d :: r, o, ho, ⟨hd, hx, ht, hr⟩ => by
    simp only [goJoin, totl]
    rcases join_step ho hd hx ht with ⟨h1, h2⟩ | ⟨e, he, h1⟩
    · rw [h1]
      simp only [if_true]
      have hc : Ch (jn o d).to (jn o d).ax r := by
        show Ch d.to o.ax r
        rw [hx]; exact hr
      exact go_chain r (jn o d) h2 hc
    · rw [h1]
      right
      refine ⟨e, he, ?_⟩
      rw [if_neg (by simp only; omega)]
theorem go_ok : ∀ (r : List Dm) (o w : Dm), goJoin o r = (w, 0) → validE o = 0 → Ch o.to o.ax r ∧ w = totl o r ∧ validE w = 0
  | [], o, w, h, ho => by
    simp only [goJoin, Prod.mk.injEq, and_true] at h
    subst h
    exact ⟨trivial, rfl, ho⟩
  | d :: r, o, w, h, ho => by
    simp only [goJoin] at h
    split at h
    · rename_i h0
      have hj : joinS o d = ((joinS o d).1, 0) := by rw [← h0]
      obtain ⟨_, hd, hx, ht, hw, hv⟩ := join_ok hj
      obtain ⟨h1, h2, h3⟩ := go_ok r _ w h hv
      rw [hw] at h1 h2
      refine ⟨⟨hd, hx, ht, ?_⟩, h2, h3⟩
      have : Ch d.to o.ax r := h1
      rwa [hx] at this
    · rename_i h0
      simp only [Prod.mk.injEq] at h
      exact absurd h.2 h0
theorem totl_fr : ∀ (r : List Dm) (o : Dm), (totl o r).fr = o.fr ∧ (totl o r).ax = o.ax
  | [], _ => ⟨rfl, rfl⟩
  | d :: r, o => by
    have := totl_fr r (jn o d)
    exact this
theorem totl_jn : ∀ (r : List Dm) (o d : Dm), o.ax = d.ax → totl (jn o d) r = jn o (totl d r)
  | [], _, _, _ => rfl
  | c :: r, o, d, hx => by
    simp only [totl]
    have e : jn (jn o d) c = jn o (jn d c) := by
      simp only [jn]; congr 1 <;> omega
    rw [e, totl_jn r o (jn d c) hx]
theorem totl_append : ∀ (r : List Dm) (o d : Dm) (q : List Dm), totl o (r ++ d :: q) = totl (jn (totl o r) d) q
  | [], _, _, _ => rfl
  | a :: r, o, d, q => totl_append r (jn o a) d q
theorem rev_jn (a b : Dm) (h : a.ax = b.ax) : rev (jn a b) = jn (rev b) (rev a) := by
  simp only [rev, jn, h]; congr 1 <;> omega
/-- backwards -/
theorem back_tot : ∀ (r : List Dm) (o : Dm), validE o = 0 → Ch o.to o.ax r → ∃ a q, (((o :: r).reverse.map rev) = a :: q) ∧ validE a = 0 ∧ Ch a.to a.ax q ∧ totl a q = rev (totl o r)
  | [], o, ho, _ => ⟨rev o, [], rfl, rev_valid ho, trivial, rfl⟩
  | d :: r, o, ho, ⟨hd, hx, ht, hr⟩ => by
    obtain ⟨a, q, h1, h2, h3, h4⟩ := back_tot r d hd hr
    refine ⟨a, q ++ [rev o], ?_, h2, ?_, ?_⟩
    · rw [List.reverse_cons, List.map_append, h1]
      rfl
    · have key : ∀ (q : List Dm) (t : ByteArray) (x : Int) (z : Dm), Ch t x q → validE z = 0 → (∀ y : Dm, y.to = t → y.ax = x → (totl y q).to = z.fr ∧ (totl y q).ax = z.ax) → Ch t x (q ++ [z]) := by
        intro q
        induction q with
        | nil =>
          intro t x z _ hz hy
          have := hy ⟨t, t, x, 0, 0⟩ rfl rfl
          exact ⟨hz, this.2, this.1, trivial⟩
        | cons c q ih =>
          intro t x z hc hz hy
          refine ⟨hc.1, hc.2.1, hc.2.2.1, ih _ _ z hc.2.2.2 hz (fun y h1 h2 => ?_)⟩
          have := hy ⟨t, t, x, 0, 0⟩ rfl rfl
          simp only [totl] at this
          have e1 : ∀ (q : List Dm) (y y' : Dm), y.to = y'.to → (totl y q).to = (totl y' q).to := by
            intro q
            induction q with
            | nil => intro y y' h; exact h
            | cons c q ih => intro y y' _; exact ih _ _ rfl
          refine ⟨(e1 q y (jn ⟨t, t, x, 0, 0⟩ c) h1).trans this.1, ?_⟩
          rw [(totl_fr q y).2, h2, ← this.2, (totl_fr q _).2]
          exact hc.2.1.symm
      refine key q a.to a.ax (rev o) h3 (rev_valid ho) (fun y hy1 hy2 => ?_)
      have e1 : ∀ (q : List Dm) (y y' : Dm), y.to = y'.to → (totl y q).to = (totl y' q).to := by
        intro q
        induction q with
        | nil => intro y y' h; exact h
        | cons c q ih => intro y y' _; exact ih _ _ rfl
      rw [e1 q y a hy1, h4]
      refine ⟨?_, ?_⟩
      · show (totl d r).fr = o.to
        rw [(totl_fr r d).1, ht]
      · rw [(totl_fr q y).2, hy2]
        have h5 := (totl_fr q a).2
        rw [h4] at h5
        have h6 : (rev (totl d r)).ax = d.ax := (totl_fr r d).2
        rw [← h5, h6, ← hx]
        rfl
    · rw [totl_append, h4]
      show jn (rev (totl d r)) (rev o) = rev (totl (jn o d) r)
      rw [totl_jn r o d hx, rev_jn o (totl d r) (hx.trans (totl_fr r d).2.symm)]
theorem chain_all : ∀ (r : List Dm) (t : ByteArray) (x : Int), Ch t x r → ∀ d ∈ r, validE d = 0
  | [], _, _, _, d, h => by cases h
  | c :: r, t, x, hc, d, h => by
    rcases List.mem_cons.1 h with rfl | h
    · exact hc.1
    · exact chain_all r _ _ hc.2.2.2 d h
theorem path_of {o : Dm} {r : List Dm} (ho : validE o = 0) (hc : Ch o.to o.ax r) (hn : (o :: r).length ≤ 256) : pathS (o :: r) = goJoin o r := by
  have hf : firstE ((o :: r).map validE) = 0 := firstE_all _ (fun i hi => by
    have hm := getD_mem dm0 hi
    rcases List.mem_cons.1 hm with e | h
    · rw [e]; exact ho
    · exact chain_all r _ _ hc _ h)
  rw [pathS, if_neg (by rw [hf]; exact fun h => h rfl), if_neg (by simp), if_neg (by omega)]
  rfl
theorem path_ok {l : List Dm} {w : Dm} (h : pathS l = (w, 0)) : ∃ o r, l = o :: r ∧ validE o = 0 ∧ Ch o.to o.ax r ∧ goJoin o r = (w, 0) ∧ w = totl o r ∧ validE w = 0 := by
  unfold pathS at h
  split at h
  · rename_i h0
    simp only [Prod.mk.injEq] at h
    exact absurd h.2 h0
  · rename_i h0
    split at h
    · simp at h
    · split at h
      · simp at h
      · cases l with
        | nil => rename_i h1 _; simp at h1
        | cons o r =>
          have h0' : firstE ((o :: r).map validE) = 0 := Classical.byContradiction h0
          have ho : validE o = 0 := by
            simp only [List.map_cons, firstE] at h0'
            split at h0'
            · assumption
            · exact h0'
          obtain ⟨h1, h2, h3⟩ := go_ok r o w h ho
          exact ⟨o, r, rfl, ho, h1, h, h2, h3⟩
/-- the law of the way back -/
theorem turn_back {l : List Dm} {w : Dm} (h : pathS l = (w, 0)) (hn : l.length ≤ 256) : pathS (l.reverse.map rev) = (rev w, 0) ∨ ∃ e, (e = 2 ∨ e = 7) ∧ pathS (l.reverse.map rev) = (dm0, e) := by
  obtain ⟨o, r, rfl, ho, hc, _, rfl, _⟩ := path_ok h
  obtain ⟨a, q, h1, h2, h3, h4⟩ := back_tot r o ho hc
  have hlen : (a :: q).length ≤ 256 := by rw [← h1]; simpa using hn
  rw [h1, path_of h2 h3 hlen]
  rcases go_chain q a h2 h3 with ⟨g1, g2⟩ | g
  · left; rw [g1, h4]
  · exact .inr g
theorem ch_append : ∀ (r : List Dm) (t : ByteArray) (x : Int) (d : Dm) (q : List Dm), Ch t x (r ++ d :: q) → Ch t x r ∧ validE d = 0 ∧ Ch d.to d.ax q ∧ (∀ y : Dm, y.to = t → y.ax = x → (totl y r).to = d.fr ∧ (totl y r).ax = d.ax)
  | [], t, x, d, q, h => ⟨trivial, h.1, h.2.2.2, fun y h1 h2 => ⟨h1.trans h.2.2.1, h2.trans h.2.1⟩⟩
  | c :: r, t, x, d, q, h => by
    obtain ⟨h1, h2, h3, h4⟩ := ch_append r c.to c.ax d q h.2.2.2
    exact ⟨⟨h.1, h.2.1, h.2.2.1, h1⟩, h2, h3, fun y hy1 hy2 => h4 (jn y c) rfl (hy2.trans h.2.1)⟩
/-- the law of two parts -/
theorem turn_parts {l : List Dm} {w : Dm} (h : pathS l = (w, 0)) (hn : l.length ≤ 256) (k : Nat) (h1 : 1 ≤ k) (h2 : k < l.length) :
    ∃ a, pathS (l.take k) = (a, 0) ∧ ((∃ b, pathS (l.drop k) = (b, 0) ∧ joinS a b = (w, 0)) ∨ ∃ e, (e = 2 ∨ e = 7) ∧ pathS (l.drop k) = (dm0, e)) := by
  obtain ⟨o, r, rfl, ho, hc, hg, hw, hv⟩ := path_ok h
  obtain ⟨j, rfl⟩ : ∃ j, k = j + 1 := ⟨k - 1, by omega⟩
  have hj : j < r.length := by simpa using h2
  have hsp := take_split dm0 hj
  obtain ⟨d, hd⟩ : ∃ d, r.getD j dm0 = d := ⟨_, rfl⟩
  rw [hd] at hsp
  have hdrop : (o :: r).drop (j + 1) = d :: r.drop (j + 1) := by
    rw [List.drop_succ_cons]
    conv => lhs; rw [hsp]
    rw [List.drop_append, List.drop_of_length_le (by simp; omega)]
    simp
    have : j - min j r.length = 0 := by omega
    rw [this]
    rfl
  rw [hsp] at hc hg hw
  obtain ⟨c1, c2, c3, c4⟩ := ch_append _ _ _ _ _ hc
  rw [goJoin_snoc] at hg
  have htake : (o :: r).take (j + 1) = o :: r.take j := rfl
  have hl1 : (o :: r.take j).length ≤ 256 := by simp at hn ⊢; omega
  rw [htake, path_of ho c1 hl1]
  rcases go_chain (r.take j) o ho c1 with ⟨g1, g2⟩ | ⟨e, he, g1⟩
  · refine ⟨_, g1, ?_⟩
    have hl2 : (d :: r.drop (j + 1)).length ≤ 256 := by simp at hn ⊢; omega
    rw [hdrop, path_of c2 c3 hl2]
    rcases go_chain _ d c2 c3 with ⟨k1, k2⟩ | k1
    · left
      refine ⟨_, k1, ?_⟩
      obtain ⟨m1, m2⟩ := c4 o rfl rfl
      have e1 := totl_fr (r.drop (j + 1)) d
      have hwj : w = jn (totl o (r.take j)) (totl d (r.drop (j + 1))) := by
        rw [hw, totl_append, totl_jn _ _ _ m2]
      rcases join_step (o := totl o (r.take j)) (d := totl d (r.drop (j + 1))) g2 k2 (m2.trans e1.2.symm) (m1.trans e1.1.symm) with ⟨n1, n2⟩ | ⟨e, he, n1⟩
      · rw [n1, hwj]
      · exfalso
        obtain ⟨v1, v2, v3, v4, v5⟩ := valid0 hv
        obtain ⟨p1, p2, p3, p4, p5⟩ := valid0 g2
        obtain ⟨q1, q2, q3, q4, q5⟩ := valid0 k2
        rw [hwj] at v3 v5
        have v3' : ¬ (totl o (r.take j)).fr = (totl d (r.drop (j + 1))).to := v3
        unfold joinS at n1
        rw [if_neg (by simp [g2]), if_neg (by simp [k2]), if_neg (by simp [m2.trans e1.2.symm, m1.trans e1.1.symm]), if_neg v3'] at n1
        have hadd : addS (totl o (r.take j)).lo (totl o (r.take j)).hi (totl d (r.drop (j + 1))).lo (totl d (r.drop (j + 1))).hi = madeS ((totl o (r.take j)).lo + (totl d (r.drop (j + 1))).lo) ((totl o (r.take j)).hi + (totl d (r.drop (j + 1))).hi) := by
          unfold addS bothE
          rw [if_pos p5, if_pos q5]
        rw [hadd] at n1
        unfold madeS at n1
        have v5' : chk ((totl o (r.take j)).lo + (totl d (r.drop (j + 1))).lo) ((totl o (r.take j)).hi + (totl d (r.drop (j + 1))).hi) = 0 := v5
        rw [if_pos v5'] at n1
        simp only [ne_eq, not_true_eq_false, if_false, Prod.mk.injEq] at n1
        omega
    · exact .inr k1
  · exfalso
    rw [g1] at hg
    rw [if_neg (by simp only; omega)] at hg
    simp only [Prod.mk.injEq] at hg
    omega
end Go.Proofs.Ytkaifjkalnoogaa
