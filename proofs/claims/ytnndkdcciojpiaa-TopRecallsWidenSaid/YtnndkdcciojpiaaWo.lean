/- Next checks, computed; the chapter's example. No statement of the seat is proved here. -/
import Derived.Test.YtnndkdcciojpiaaWn
namespace Go.Proofs.Ytnndkdcciojpiaa.Rl
set_option linter.unusedVariables false
set_option linter.unusedSimpArgs false
open Go Go.RowKit Go.Maps
/-- the next check of a gauge when the last d events are done -/
def tC (l : List Ev) : Nat → ByteArray → Option (Int × Int)
  | 0, _ => none
  | d + 1, g => if ((evB l d).k = 1 ∨ (evB l d).k = 2) ∧ g = (evB l d).g then some (((l.length - 1 - d : Nat) : Int), (evB l d).k + 1) else tC l d g
theorem tF_tC (l : List Ev) : ∀ (d : Nat) (g : ByteArray), tF l d (keyL g) = tC l d g
  | 0, g => rfl
  | d + 1, g => by
    unfold tC
    by_cases h : ((evB l d).k = 1 ∨ (evB l d).k = 2) ∧ g = (evB l d).g
    · rw [if_pos h, h.2]
      exact tF_hit h.1
    · rw [if_neg h, ← tF_tC l d g]
      exact tF_miss fun e => h ⟨e.1, keyL_inj e.2⟩
def ckC (l : List Ev) (d : Nat) : Int × Int := if (evB l d).k = 0 then (tC l d (evB l d).g).getD (-1, 1) else (-1, 0)
theorem ckF_ckC (l : List Ev) (d : Nat) : ckF l d = ckC l d := by
  unfold ckC
  by_cases h : (evB l d).k = 0
  · rw [if_pos h, ← tF_tC]
    exact if_pos h
  · rw [if_neg h]
    exact if_neg h
/-! ### the example -/
abbrev nG : ByteArray := ⟨#[103]⟩
abbrev nH : ByteArray := ⟨#[104]⟩
abbrev nP1 : ByteArray := ⟨#[112, 49]⟩
abbrev nP2 : ByteArray := ⟨#[112, 50]⟩
abbrev nP3 : ByteArray := ⟨#[112, 51]⟩
abbrev nX : ByteArray := ⟨#[88]⟩
abbrev nY : ByteArray := ⟨#[89]⟩
abbrev sevenL : List Ev := [⟨0, nG, nP1, nX⟩, ⟨0, nH, nP2, nX⟩, ⟨1, nG, nul, nul⟩, ⟨0, nG, nP1, nX⟩, ⟨0, nG, nP3, nY⟩, ⟨2, nG, nul, nul⟩, ⟨2, nH, nul, nul⟩]
theorem seven_lt {P : Nat → Prop} (h0 : P 0) (h1 : P 1) (h2 : P 2) (h3 : P 3) (h4 : P 4) (h5 : P 5) (h6 : P 6) : ∀ i, i < 7 → P i := fun i hi => by
  have : i = 0 ∨ i = 1 ∨ i = 2 ∨ i = 3 ∨ i = 4 ∨ i = 5 ∨ i = 6 := by omega
  rcases this with rfl | rfl | rfl | rfl | rfl | rfl | rfl <;> assumption
theorem nmG : nameE nG = 0 := by decide +kernel
theorem nmH : nameE nH = 0 := by decide +kernel
theorem nmP1 : nameE nP1 = 0 := by decide +kernel
theorem nmP2 : nameE nP2 = 0 := by decide +kernel
theorem nmP3 : nameE nP3 = 0 := by decide +kernel
theorem nmX : nameE nX = 0 := by decide +kernel
theorem nmY : nameE nY = 0 := by decide +kernel
theorem names_0 {g p l : ByteArray} (hg : nameE g = 0) (hp : nameE p = 0) (hl : nameE l = 0) : NamesOk ⟨0, g, p, l⟩ :=
  ⟨by show (0 : Int) ≤ 0; decide, by show (0 : Int) ≤ 3; decide, by rw [if_neg (by show ¬ (0 : Int) = 3; decide)]; exact hg, by rw [if_pos (.inl rfl)]; exact hp, by rw [if_pos rfl]; exact hl⟩
theorem names_1 {g : ByteArray} (hg : nameE g = 0) : NamesOk ⟨1, g, nul, nul⟩ :=
  ⟨by show (0 : Int) ≤ 1; decide, by show (1 : Int) ≤ 3; decide, by rw [if_neg (by show ¬ (1 : Int) = 3; decide)]; exact hg, by rw [if_neg (by show ¬ ((1 : Int) = 0 ∨ (1 : Int) = 3); decide)], by rw [if_neg (by show ¬ (1 : Int) = 0; decide)]⟩
theorem names_2 {g : ByteArray} (hg : nameE g = 0) : NamesOk ⟨2, g, nul, nul⟩ :=
  ⟨by show (0 : Int) ≤ 2; decide, by show (2 : Int) ≤ 3; decide, by rw [if_neg (by show ¬ (2 : Int) = 3; decide)]; exact hg, by rw [if_neg (by show ¬ ((2 : Int) = 0 ∨ (2 : Int) = 3); decide)], by rw [if_neg (by show ¬ (2 : Int) = 0; decide)]⟩
theorem seven_k : ∀ i, i < 7 → ¬ (sevenL.getD i ev0).k = 3 := by decide
theorem seven_m : ∀ i, i < 7 → ∀ j, j < i → (sevenL.getD i ev0).k = 0 → (sevenL.getD j ev0).k = 0 → (sevenL.getD j ev0).p = (sevenL.getD i ev0).p → (sevenL.getD j ev0).l = (sevenL.getD i ev0).l := by decide +kernel
theorem seven_ok : ∀ i, i < 7 → (sevenL.getD i ev0).ok :=
  seven_lt ⟨by show 1 ≤ _; decide, by show 2 ≤ _; decide, by show 1 ≤ _; decide⟩ ⟨by show 1 ≤ _; decide, by show 2 ≤ _; decide, by show 1 ≤ _; decide⟩ ⟨by show 1 ≤ _; decide, by show 0 ≤ _; decide, by show 0 ≤ _; decide⟩
    ⟨by show 1 ≤ _; decide, by show 2 ≤ _; decide, by show 1 ≤ _; decide⟩ ⟨by show 1 ≤ _; decide, by show 2 ≤ _; decide, by show 1 ≤ _; decide⟩ ⟨by show 1 ≤ _; decide, by show 0 ≤ _; decide, by show 0 ≤ _; decide⟩ ⟨by show 1 ≤ _; decide, by show 0 ≤ _; decide, by show 0 ≤ _; decide⟩
theorem seven_nm : ∀ i, i < 7 → NamesOk (sevenL.getD i ev0) :=
  seven_lt (names_0 nmG nmP1 nmX) (names_0 nmH nmP2 nmX) (names_1 nmG) (names_0 nmG nmP1 nmX) (names_0 nmG nmP3 nmY) (names_2 nmG) (names_2 nmH)
theorem seven_right : RightL sevenL := ⟨by decide, fun i hi => ⟨seven_nm i hi, fun _ h => by
    obtain ⟨j, hj, h3, _⟩ := h
    exact seven_k j (Nat.lt_trans hj hi) h3, fun h0 j hj hj0 hp => seven_m i hi j hj h0 hj0 hp, fun h => absurd h (seven_k i hi), fun h => absurd h (seven_k i hi)⟩⟩
def nevC (l : List Ev) (d : Nat) : Bool := decide ((evB l d).k = 3 ∨ (ckC l d).2 = 2)
def susC (l : List Ev) (d : Nat) : Bool := !nevC l d && decide ((evB l d).k = 0 ∧ (ckC l d).2 = 3)
theorem nev_iff {l : List Ev} {d : Nat} : nevP l d ↔ nevC l d = true := by
  unfold nevP nevC
  rw [ckF_ckC, decide_eq_true_iff]
theorem sus_iff {l : List Ev} {d : Nat} : susP l d ↔ susC l d = true := by
  unfold susP susC
  rw [nev_iff, ckF_ckC, Bool.and_eq_true, decide_eq_true_iff]
  cases nevC l d <;> simp
theorem s7a : ∀ d, d < 7 → susC sevenL d = true → (evB sevenL d).p = nP1 ∨ (evB sevenL d).p = nP2 ∨ (evB sevenL d).p = nP3 := by decide +kernel
theorem s7b : 6 < 7 ∧ nevC sevenL 6 = true ∧ (evB sevenL 6).p = nP1 := by decide +kernel
theorem s7c : 5 < 7 ∧ susC sevenL 5 = true ∧ (evB sevenL 5).p = nP2 := by decide +kernel
theorem s7d : 2 < 7 ∧ susC sevenL 2 = true ∧ (evB sevenL 2).p = nP3 := by decide +kernel
theorem s7e : ∀ d, d < 7 → nevC sevenL d = true → (evB sevenL d).p = nP1 := by decide +kernel
theorem re_seven {s : ByteArray} : (reF sevenL (keyL s)).isSome = true ↔ s = nP2 ∨ s = nP3 := by
  rw [reF_mem]
  constructor
  · rintro ⟨⟨d, hd, hs, rfl⟩, hn⟩
    rcases s7a d hd (sus_iff.1 hs) with h | h
    · exact absurd ⟨6, s7b.1, nev_iff.2 s7b.2.1, s7b.2.2.trans h.symm⟩ hn
    · exact h
  · intro h
    constructor
    · rcases h with rfl | rfl
      · exact ⟨5, s7c.1, sus_iff.2 s7c.2.1, s7c.2.2⟩
      · exact ⟨2, s7d.1, sus_iff.2 s7d.2.1, s7d.2.2⟩
    · rintro ⟨d, hd, hn, rfl⟩
      have := s7e d hd (nev_iff.1 hn)
      rw [this] at h
      exact absurd h (by decide)
theorem list_two {α : Type} {a b : α} {R : α → α → Prop} (hab : a ≠ b) (hR : ¬ R b a) : ∀ ss : List α, ss.Nodup → ss.Pairwise R → (∀ s, s ∈ ss ↔ s = a ∨ s = b) → ss = [a, b]
  | [], _, _, hm => absurd ((hm a).2 (.inl rfl)) (by simp)
  | [x], _, _, hm => by
    have h1 := (hm a).2 (.inl rfl)
    have h2 := (hm b).2 (.inr rfl)
    simp only [List.mem_singleton] at h1 h2
    exact absurd (h1.trans h2.symm) hab
  | x :: y :: [], hn, hp, hm => by
    have h1 := (hm x).1 (by simp)
    have h2 := (hm y).1 (by simp)
    have hne : x ≠ y := fun e => by subst e; simp at hn
    have hr : R x y := by simp at hp; exact hp
    rcases h1 with rfl | rfl
    · rcases h2 with rfl | rfl
      · exact absurd rfl hne
      · rfl
    · rcases h2 with rfl | rfl
      · exact absurd hr hR
      · exact absurd rfl hne
  | x :: y :: z :: t, hn, _, hm => by
    have h1 := (hm x).1 (by simp)
    have h2 := (hm y).1 (by simp)
    have h3 := (hm z).1 (by simp)
    simp only [List.nodup_cons, List.mem_cons, not_or] at hn
    rcases h1 with rfl | rfl <;> rcases h2 with rfl | rfl <;> rcases h3 with rfl | rfl <;> simp_all
/-! ### Parts -/
set_option maxRecDepth 100000 in
theorem e_recalled : Ent Try.prog 32 := fun _ _ => rfl
set_option maxRecDepth 8000 in
theorem recalled_c {A : Option Addr} {c : Nat} {l : List Ev} (hl : l.length ≤ c) (ho : ∀ i, i < l.length → (l.getD i ev0).ok) (hR : RightL l) (w : World) (R : Rd w A 4 l.length (fun i => evC (l.getD i ev0))) : Calls Try.prog 32 #[.slice A l.length c] w (RetP fun v w' => ∃ a : Nat × {c : Nat // c ≤ 4096}, v = .map (some a.1) ∧ Sat w [] [.pr a.1 (MapV Try.prog 9 a.2.1 (reF l))] w') := by
  refine calls_of_cw (args := [.slice A l.length c]) Try.func32 rfl rfl ?_
  have S := Sat.start [] w
  have O := R.old
  (repeat' (first | apply cw_seq | apply cw_region | apply wl_nil | apply cw_ret | (apply x_callH (hs := fun a : Nat × {c : Nat // c ≤ 4096} => [HO.pr a.1 (MapV Try.prog 9 a.2.1 (reF l))]); assumption; exact rfl; exact rfl; exact rfl; exact e_kept; (exact (by repeat' constructor)); (with_reducible exact kept_c ho hR.n _ (Old.now O (by assumption))); intro a w3 S3) | (apply x_move; exact rfl; exact rfl; (exact (by repeat' constructor))) | (apply x_assign; exact rfl; exact rfl; (exact (by repeat' constructor)))))
  (first | refine q_retS (by assumption) rfl (by repeat (first | exact .nil | (apply RV.tmp; exact (by repeat' constructor)) | (apply RV.cell; exact rfl; exact (by repeat' constructor); exact rfl; exact rfl; exact (by repeat' constructor)))) ?_ | (simp only [thenQ, blockQ]; refine q_retS (by assumption) rfl (by repeat (first | exact .nil | (apply RV.tmp; exact (by repeat' constructor)) | (apply RV.cell; exact rfl; exact (by repeat' constructor); exact rfl; exact rfl; exact (by repeat' constructor)))) ?_))
  exact ⟨a, rfl, by assumption⟩
set_option maxRecDepth 100000 in
theorem e_Parts : Ent Try.prog 13 := fun _ _ => rfl
set_option maxRecDepth 8000 in
theorem Parts_c {A : Option Addr} {c : Nat} {l : List Ev} (hl : l.length ≤ c) (ho : ∀ i, i < l.length → (l.getD i ev0).ok) (hR : RightL l) (w : World) (R : Rd w A 4 l.length (fun i => evC (l.getD i ev0))) : Calls Try.prog 13 #[.slice A l.length c] w (RetP fun v w' => ∃ a : NamesOf (reF l), v = .tuple #[a.sl, .int .i64 0] ∧ Sat w [] [a.ho] w') := by
  refine calls_of_cw (args := [.slice A l.length c]) Try.func13 rfl rfl ?_
  have S := Sat.start [] w
  have O := R.old
  (repeat' (first | apply cw_seq | apply cw_region | apply wl_nil | apply cw_skip | apply cw_ret | (apply x_callv; assumption; exact rfl; exact rfl; exact rfl; exact e_pCheckL; (exact (by repeat' constructor)); with_reducible exact (pCheckL_t hl ho hR _ (Old.now O (by assumption))); intro _ _ _) | (apply x_callH (hs := fun a : Nat × {c : Nat // c ≤ 4096} => [HO.pr a.1 (MapV Try.prog 9 a.2.1 (reF l))]); assumption; exact rfl; exact rfl; exact rfl; exact e_recalled; (exact (by repeat' constructor)); (with_reducible exact recalled_c hl ho hR _ (Old.now O (by assumption))); rintro ⟨b, c1, hc1⟩ w3 S3; replace S3 : Sat w [] [HO.pr b (MapV Try.prog 9 c1 (reF l))] w3 := S3) | (apply x_callH (hs := fun a : NamesOf (reF l) => [a.ho]) (V := fun a => a.sl); assumption; exact rfl; exact rfl; exact rfl; exact e_sorted; (exact (by repeat' constructor)); (with_reducible exact sorted_c (m := reF l) (c := c1) (by omega) _ (Sat.prAt (by assumption) (by exact (by repeat' constructor)))); intro a w4 S4) | (apply x_move; exact rfl; exact rfl; (exact (by repeat' constructor))) | (apply x_assign; exact rfl; exact rfl; (exact (by repeat' constructor))) | (apply x_bin; exact rfl; exact rfl; exact rfl; (first | exact .z (.wrap (by omega)) | exact (by repeat' constructor))) | (apply cw_false; exact rfl)))
  (first | refine q_retS (by assumption) rfl (by repeat (first | exact .nil | (apply RV.tmp; exact (by repeat' constructor)) | (apply RV.cell; exact rfl; exact (by repeat' constructor); exact rfl; exact rfl; exact (by repeat' constructor)))) ?_ | (simp only [thenQ, blockQ]; refine q_retS (by assumption) rfl (by repeat (first | exact .nil | (apply RV.tmp; exact (by repeat' constructor)) | (apply RV.cell; exact rfl; exact (by repeat' constructor); exact rfl; exact rfl; exact (by repeat' constructor)))) ?_))
  exact ⟨a, rfl, Sat.drop S4 _ (.cons_cons _ (.cons _ .slnil))⟩
end Go.Proofs.Ytnndkdcciojpiaa.Rl
