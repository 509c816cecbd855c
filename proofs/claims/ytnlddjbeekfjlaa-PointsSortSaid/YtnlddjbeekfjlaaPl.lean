/- Samples of points in space: what is undone: the plain laws and the walk. No statement of the seat is proved here. -/
import Derived.Test.YtnlddjbeekfjlaaPk
namespace Go.Proofs.Ytnlddjbeekfjlaa
set_option linter.unusedVariables false
set_option linter.unusedSimpArgs false
open Go Go.RowKit
/-! ### plain laws -/
theorem nturn_add (k : Int) (p : Sp) (a : Nat) : ∀ b : Nat, nturn k (a + b) p = nturn k b (nturn k a p)
  | 0 => rfl
  | b + 1 => by show turnS k (nturn k (a + b) p) = turnS k (nturn k b (nturn k a p)); rw [nturn_add k p a b]
theorem turnS4 (k : Int) (p : Sp) : nturn k 4 p = p := by
  obtain ⟨x, y, z⟩ := p
  simp only [nturn, turnS]
  by_cases h0 : k = 0
  · simp [h0]
  · by_cases h1 : k = 1
    · simp [h1]
    · simp [h0, h1]
theorem qn_neg {q : Int} (h : 0 ≤ q) : (qn q).toNat + (qn (0 - q)).toNat = 0 ∨ (qn q).toNat + (qn (0 - q)).toNat = 4 := by
  have e1 : Int.tmod q 4 = q % 4 := Int.tmod_eq_emod_of_nonneg h
  have e2 : Int.tmod (0 - q) 4 = - (q % 4) := by rw [Int.zero_sub, Int.neg_tmod, e1]
  have h1 := qn_b q
  have h2 := qn_b (0 - q)
  rw [qn_e] at h1 h2 ⊢
  rw [qn_e]
  rw [e1] at h1 ⊢
  rw [e2] at h2 ⊢
  omega
theorem nturn_undo {k q : Int} (h : 0 ≤ q) (p : Sp) : nturn k (qn (0 - q)).toNat (nturn k (qn q).toNat p) = p := by
  rw [← nturn_add]
  rcases qn_neg h with e | e
  · rw [e]; rfl
  · rw [e]; exact turnS4 k p
theorem mirS2 (k : Int) (p : Sp) : mirS k (mirS k p) = p := by
  obtain ⟨x, y, z⟩ := p
  unfold mirS
  by_cases h0 : k = 0
  · simp [h0]
  · by_cases h1 : k = 1
    · simp [h1]
    · simp [h0, h1]
theorem half3 (p : Sp) : nturn 2 2 (nturn 1 2 (nturn 0 2 p)) = p := by
  obtain ⟨x, y, z⟩ := p
  simp [nturn, turnS]
theorem half3' (p : Sp) : nturn 2 (qn 2).toNat (nturn 1 (qn 2).toNat (nturn 0 (qn 2).toNat p)) = p := by
  rw [show (qn 2).toNat = 2 by decide]; exact half3 p
theorem mvS2 (d p : Sp) : mvS (0 - d.1, 0 - d.2.1, 0 - d.2.2) (mvS d p) = p := by
  obtain ⟨x, y, z⟩ := p
  simp only [mvS, Prod.mk.injEq]
  omega
theorem mirS_rg {k : Int} {p : Sp} (h : rgS p) : rgS (mirS k p) := by
  obtain ⟨h1, h2, h3⟩ := rgS_raw h
  unfold mirS rgS rgI
  split
  · exact ⟨by dsimp only; omega, h2, h3⟩
  · split
    · exact ⟨h1, by dsimp only; omega, h3⟩
    · exact ⟨h1, h2, by dsimp only; omega⟩
theorem map_undo {φ ψ : Sp → Sp} {l : List Sp} (h : ∀ p, ψ (φ p) = p) : (l.map φ).map ψ = l := by
  rw [List.map_map]
  exact (List.map_congr_left (fun p _ => h p)).trans (List.map_id l)
theorem spE_map {φ : Sp → Sp} {l : List Sp} (h : spE l = 0) (hφ : ∀ p, rgS p → rgS (φ p)) : spE (l.map φ) = 0 := by
  obtain ⟨h1, h2⟩ := spE0 h
  refine spE_ok (by simpa using h1) (allP_mem.2 fun p hp => ?_)
  obtain ⟨q, hq, rfl⟩ := List.mem_map.1 hp
  exact hφ q (allP_mem.1 h2 q hq)
theorem alE_r {l : List Sp} {k : Int} (h : spE l = 0) (hk : 0 ≤ k ∧ k < 3) : alE l k = 0 := by
  rw [alE, if_neg (not_not_intro h), if_neg (by omega)]
theorem sh0 {l : List Sp} {d : Sp} (h : shE l d = 0) : spE l = 0 ∧ rgS d ∧ bigL d l = false := by
  unfold shE at h
  by_cases h1 : spE l = 0
  · rw [if_neg (not_not_intro h1)] at h
    by_cases h2 : rgS d
    · rw [if_neg (not_not_intro h2)] at h
      by_cases h3 : bigL d l = true
      · rw [if_pos h3] at h; omega
      · exact ⟨h1, h2, by simpa using h3⟩
    · rw [if_pos h2] at h; omega
  · rw [if_pos h1] at h; exact absurd h h1
theorem sh_raw {l : List Sp} {d : Sp} (h : shE l d = 0) : (-100000 ≤ d.1 ∧ d.1 ≤ 100000) ∧ (-100000 ≤ d.2.1 ∧ d.2.1 ≤ 100000) ∧ (-100000 ≤ d.2.2 ∧ d.2.2 ≤ 100000) := (sh0 h).2.1
theorem big_not {d : Sp} {l : List Sp} (h : bigL d l = false) : ∀ p ∈ l, rgS (mvS d p) := by
  intro p hp
  unfold bigL at h
  rw [List.any_eq_false] at h
  have := h p hp
  unfold bigB at this
  simpa using this
theorem sh_back {l : List Sp} {d : Sp} (h : shE l d = 0) : shE (l.map (mvS d)) (0 - d.1, 0 - d.2.1, 0 - d.2.2) = 0 := by
  obtain ⟨h1, h2, h3⟩ := sh0 h
  have h4 := rgS_raw h2
  obtain ⟨h5, h6⟩ := spE0 h1
  have hs : spE (l.map (mvS d)) = 0 := spE_ok (by simpa using h5) (allP_mem.2 fun p hp => by
    obtain ⟨q, hq, rfl⟩ := List.mem_map.1 hp
    exact big_not h3 q hq)
  have hd : rgS (0 - d.1, 0 - d.2.1, 0 - d.2.2) := ⟨by unfold rgI; dsimp only; omega, by unfold rgI; dsimp only; omega, by unfold rgI; dsimp only; omega⟩
  rw [shE, if_neg (not_not_intro hs), if_neg (not_not_intro hd), if_neg]
  intro hb
  unfold bigL at hb
  rw [List.any_eq_true] at hb
  obtain ⟨p, hp, hp2⟩ := hb
  obtain ⟨q, hq, rfl⟩ := List.mem_map.1 hp
  unfold bigB at hp2
  rw [mvS2] at hp2
  have := allP_mem.1 h6 q hq
  simp [this] at hp2
/-! ### contracts for right samples -/
theorem turn_r {A : Option Addr} {c n : Nat} {l l' : List Sp} {k q : Int} (hr : spE l = 0) (hk : 0 ≤ k ∧ k < 3) (hl' : l.map (nturn k (qn q).toNat) = l') {w : World} (R : Rd w A 3 l.length (fun i => spC (l.getD i sp0))) (hn : n = l.length) :
    Calls Try.prog 17 #[.slice A n c, .int .i64 k, .int .i64 q] w (RetP (RowR (fun v => .tuple #[v, .int .i64 0]) 30 3 ((l').map spC) w)) := by
  subst hn; subst hl'
  have e := alE_r hr hk
  exact row_v (Turn_c A c l (by have := (spE0 hr).1; omega) k q (tmod_b q) w R) e (by rw [mapS, if_pos e])
theorem mir_r {A : Option Addr} {c n : Nat} {l l' : List Sp} {k : Int} (hr : spE l = 0) (hk : 0 ≤ k ∧ k < 3) (hl' : l.map (mirS k) = l') {w : World} (R : Rd w A 3 l.length (fun i => spC (l.getD i sp0))) (hn : n = l.length) :
    Calls Try.prog 19 #[.slice A n c, .int .i64 k] w (RetP (RowR (fun v => .tuple #[v, .int .i64 0]) 30 3 ((l').map spC) w)) := by
  subst hn; subst hl'
  have e := alE_r hr hk
  exact row_v (Mirror_c A c l (by have := (spE0 hr).1; omega) k w R) e (by rw [mapS, if_pos e])
theorem shift_r {A : Option Addr} {c n : Nat} {l l' : List Sp} {d : Sp} (hs : shE l d = 0) (hl' : l.map (mvS d) = l') {w : World} (R : Rd w A 3 l.length (fun i => spC (l.getD i sp0))) (hn : n = l.length) :
    Calls Try.prog 25 #[.slice A n c, .agg #[.int .i64 (d).1, .int .i64 (d).2.1, .int .i64 (d).2.2]] w (RetP (RowR (fun v => .tuple #[v, .int .i64 0]) 30 3 ((l').map spC) w)) := by
  subst hn; subst hl'
  exact row_v (Shift_c A c l (by have := (spE0 (sh0 hs).1).1; omega) d w R) hs (by rw [mapS, if_pos hs])
theorem sh_map {l : List Sp} {d : Sp} (h : shE l d = 0) : mapS (mvS d) l (shE l d) = l.map (mvS d) := by rw [mapS, if_pos h]
theorem sh_back' {l : List Sp} {d : Sp} (h : shE l d = 0) : shE (mapS (mvS d) l (shE l d)) (0 - d.1, 0 - d.2.1, 0 - d.2.2) = 0 := by rw [sh_map h]; exact sh_back h
theorem sh_undo {l : List Sp} {d : Sp} (h : shE l d = 0) : (mapS (mvS d) l (shE l d)).map (mvS (0 - d.1, 0 - d.2.1, 0 - d.2.2)) = l := by rw [sh_map h]; exact map_undo (mvS2 d)
set_option maxRecDepth 100000 in
theorem e_right : Ent Try.prog 12 := fun _ _ => rfl
set_option maxRecDepth 4000 in
set_option maxHeartbeats 2000000 in
theorem right_c (A : Option Addr) (c : Nat) (l : List Sp) (hl : l.length ≤ 9223372036854775807) (w : World) (R : Rd w A 3 l.length (fun i => spC (l.getD i sp0))) : Calls Try.prog 12 #[.slice A l.length c] w (RetP (Val (.bool (decide (spE l = 0))) w)) := by
  refine calls_of_cw (args := [.slice A l.length c]) Try.func12 rfl rfl ?_
  have S := Sat.start [] w
  have O := (R).old
  (repeat' (first | apply cw_seq | apply cw_region | apply wl_nil | apply cw_block | apply cw_skip | apply cw_exit | apply cw_ret | (apply x_callv; assumption; exact rfl; exact rfl; exact rfl; exact e_rCheckSpots; (exact (by repeat' constructor)); exact (rCheckSpots_c _ _ l hl _ (Old.now O (by assumption))); intro _ _ _) | (apply z1_callv; exact rfl; exact rfl; exact e_rCheckSpots; (exact (by repeat' constructor)); exact (fun _ _ => rCheckSpots_c _ _ l hl _ (Old.now O (by assumption)))) | (apply z2_callv; exact rfl; exact rfl; exact e_rCheckSpots; (exact (by repeat' constructor)); exact (fun _ _ => rCheckSpots_c _ _ l hl _ (Old.now O (by assumption)))) | (apply x_move; exact rfl; exact rfl; (exact (by repeat' constructor))) | (apply x_assign; exact rfl; exact rfl; (exact (by repeat' constructor))) | (apply x_eqStr; exact rfl; exact rfl; exact rfl; exact rfl) | (apply x_bin; exact rfl; exact rfl; exact rfl; (first | exact .z (.wrap (by omega)) | exact (by repeat' constructor)))))
  all_goals (first | refine q_retS (by assumption) rfl (by repeat (first | exact .nil | (apply RV.tmp; exact (by repeat' constructor)) | (apply RV.cell; exact rfl; exact (by repeat' constructor); exact rfl; exact rfl; exact (by repeat' constructor)))) ?_ | (simp only [thenQ, blockQ]; refine q_retS (by assumption) rfl (by repeat (first | exact .nil | (apply RV.tmp; exact (by repeat' constructor)) | (apply RV.cell; exact rfl; exact (by repeat' constructor); exact rfl; exact rfl; exact (by repeat' constructor)))) ?_))
  all_goals refine ⟨?_, Sat.keeps (by assumption)⟩
  all_goals first | rfl | (simp_all [pack]; done) | (simp [pack]; rfl)
theorem eqS_nm {A B : Option Addr} {c c' n m : Nat} (l : List Sp) (hl : l.length ≤ 9223372036854775807) {w : World} (R : Rd w A 3 l.length (fun i => spC (l.getD i sp0))) (R2 : Rd w B 3 l.length (fun i => spC (l.getD i sp0))) (hn : n = l.length) (hm : m = l.length) :
    Calls Try.prog 21 #[.slice A n c, .slice B m c'] w (RetP (Val (.bool true) w)) := by
  subst hn; subst hm
  exact val_of (equalS_c A B c c' l l hl hl w R R2) (by rw [decide_eq_true rfl])
set_option maxRecDepth 100000 in
theorem e_lawUndo : Ent Try.prog 6 := fun _ _ => rfl
set_option maxRecDepth 4000 in
set_option maxHeartbeats 2000000 in
theorem lawUndo1 (A : Option Addr) (c : Nat) (l : List Sp) (hl : l.length ≤ 9223372036854775807) (d : Sp) (u : Int) (hu : 0 ≤ u ∧ u ≤ 255) (hr : spE l = 0) (w : World) (R : Rd w A 3 l.length (fun i => spC (l.getD i sp0))) : Calls Try.prog 6 #[.slice A l.length c, .agg #[.int .i64 (d).1, .int .i64 (d).2.1, .int .i64 (d).2.2], .int .u8 u] w (RetP (Val (.bool true) w)) := by
  have hk : 0 ≤ u % 3 ∧ u % 3 < 3 := by omega
  have hq : 0 ≤ u / 3 := by omega
  have hx0 : spE (l.map (nturn 0 (qn 2).toNat)) = 0 := spE_map hr (fun p h => nturn_rg h _)
  have hx1 : spE ((l.map (nturn 0 (qn 2).toNat)).map (nturn 1 (qn 2).toNat)) = 0 := spE_map hx0 (fun p h => nturn_rg h _)
  have ha : spE (l.map (nturn (u % 3) (qn (u / 3)).toNat)) = 0 := spE_map hr (fun p h => nturn_rg h _)
  have hm : spE (l.map (mirS (u % 3))) = 0 := spE_map hr (fun p h => mirS_rg h)
  have hu1 : (l.map (nturn (u % 3) (qn (u / 3)).toNat)).map (nturn (u % 3) (qn (0 - u / 3)).toNat) = l := map_undo (fun p => nturn_undo hq p)
  have hu2 : (l.map (mirS (u % 3))).map (mirS (u % 3)) = l := map_undo (mirS2 _)
  have hu3 : ((l.map (nturn 0 (qn 2).toNat)).map (nturn 1 (qn 2).toNat)).map (nturn 2 (qn 2).toNat) = l := by
    rw [List.map_map]; exact map_undo (φ := nturn 0 (qn 2).toNat) (fun p => half3' p)
  refine calls_of_cw (args := [.slice A l.length c, .agg #[.int .i64 (d).1, .int .i64 (d).2.1, .int .i64 (d).2.2], .int .u8 u]) Try.func6 rfl rfl ?_
  have S := Sat.start [] w
  have O := R.old
  (repeat' (first | apply cw_seq | apply cw_region | apply wl_nil | apply cw_block | apply cw_skip | apply cw_exit | apply cw_ret | (refine cw_rounds 4 ?_) | (apply cw_rds) | (apply x_addK; exact rfl; exact rfl; exact rfl; exact rfl; constructor) | (apply x_callv; assumption; exact rfl; exact rfl; exact rfl; exact e_right; (exact (by repeat' constructor)); exact (val_of (right_c _ _ l hl _ (Old.now O (by assumption))) (by rw [decide_eq_true hr])); intro _ _ _) | (apply z1_callv; exact rfl; exact rfl; exact e_right; (exact (by repeat' constructor)); exact (fun _ _ => val_of (right_c _ _ l hl _ (Old.now O (by assumption))) (by rw [decide_eq_true hr]))) | (apply z2_callv; exact rfl; exact rfl; exact e_right; (exact (by repeat' constructor)); exact (fun _ _ => val_of (right_c _ _ l hl _ (Old.now O (by assumption))) (by rw [decide_eq_true hr]))) | (apply x_callv; assumption; exact rfl; exact rfl; exact rfl; exact e_awake; (exact (by repeat' constructor)); exact (awake_c _); intro _ _ _) | (apply z1_callv; exact rfl; exact rfl; exact e_awake; (exact (by repeat' constructor)); exact (fun _ _ => awake_c _)) | (apply z2_callv; exact rfl; exact rfl; exact e_awake; (exact (by repeat' constructor)); exact (fun _ _ => awake_c _)) | (apply x_callrow; assumption; exact rfl; exact rfl; exact rfl; exact e_Turn; (exact (by repeat' constructor)); (with_reducible refine turn_r (A := A) (l := l) (k := u % 3) (q := u / 3) hr hk rfl ?_ ?_); ((exact Old.now O (by assumption)); exact rfl); intro _ _ _ _) | (apply x_callrow; assumption; exact rfl; exact rfl; exact rfl; exact e_Turn; (exact (by repeat' constructor)); (with_reducible refine turn_r (l := (l.map (nturn (u % 3) (qn (u / 3)).toNat))) (k := (u % 3)) (q := (0 - u / 3)) ha hk hu1 ?_ ?_); ((exact Sat.rdmapN (l := (l.map (nturn (u % 3) (qn (u / 3)).toNat))) sp0 (by assumption) (by exact (by repeat' constructor)) (by simp)); (exact (by simp))); intro _ _ _ _) | (apply x_callrow; assumption; exact rfl; exact rfl; exact rfl; exact e_Mirror; (exact (by repeat' constructor)); (with_reducible refine mir_r (A := A) (l := l) (k := u % 3) hr hk rfl ?_ ?_); ((exact Old.now O (by assumption)); exact rfl); intro _ _ _ _) | (apply x_callrow; assumption; exact rfl; exact rfl; exact rfl; exact e_Mirror; (exact (by repeat' constructor)); (with_reducible refine mir_r (l := l.map (mirS (u % 3))) (k := u % 3) hm hk hu2 ?_ ?_); ((exact Sat.rdmapN (l := l.map (mirS (u % 3))) sp0 (by assumption) (by exact (by repeat' constructor)) (by simp)); (exact (by simp))); intro _ _ _ _) | (apply x_callv; assumption; exact rfl; exact rfl; exact rfl; exact e_equalS; (exact (by repeat' constructor)); (with_reducible refine eqS_nm (B := A) l hl ?_ ?_ ?_ ?_); ((exact Sat.rdmapN (l := l) sp0 (by assumption) (by exact (by repeat' constructor)) (by simp)); (exact Old.now O (by assumption)); (exact (by simp)); exact rfl); intro _ _ _) | (apply x_callrow; assumption; exact rfl; exact rfl; exact rfl; exact e_Turn; (exact (by repeat' constructor)); (with_reducible refine turn_r (A := A) (l := l) (k := 0) (q := 2) hr (by first | omega | (have hb := sh_raw (by assumption); omega)) rfl ?_ ?_); ((exact Old.now O (by assumption)); exact rfl); intro _ _ _ _) | (apply x_callrow; assumption; exact rfl; exact rfl; exact rfl; exact e_Turn; (exact (by repeat' constructor)); (with_reducible refine turn_r (l := (l.map (nturn 0 (qn 2).toNat))) (k := 1) (q := 2) hx0 (by first | omega | (have hb := sh_raw (by assumption); omega)) rfl ?_ ?_); ((exact Sat.rdmapN (l := (l.map (nturn 0 (qn 2).toNat))) sp0 (by assumption) (by exact (by repeat' constructor)) (by simp)); (exact (by simp))); intro _ _ _ _) | (apply x_callrow; assumption; exact rfl; exact rfl; exact rfl; exact e_Turn; (exact (by repeat' constructor)); (with_reducible refine turn_r (l := ((l.map (nturn 0 (qn 2).toNat)).map (nturn 1 (qn 2).toNat))) (k := 2) (q := 2) hx1 (by first | omega | (have hb := sh_raw (by assumption); omega)) hu3 ?_ ?_); ((exact Sat.rdmapN (l := ((l.map (nturn 0 (qn 2).toNat)).map (nturn 1 (qn 2).toNat))) sp0 (by assumption) (by exact (by repeat' constructor)) (by simp)); (exact (by simp))); intro _ _ _ _) | (apply x_callrow; assumption; exact rfl; exact rfl; exact rfl; exact e_Shift; (exact (by repeat' constructor)); (with_reducible refine Shift_c A c l hl d _ ?_); (exact Old.now O (by assumption)); intro _ _ _ _) | (apply x_callrow; assumption; exact rfl; exact rfl; exact rfl; exact e_Shift; (exact (by repeat' constructor)); (with_reducible refine shift_r (l := mapS (mvS d) l (shE l d)) (d := (0 - d.1, 0 - d.2.1, 0 - d.2.2)) (sh_back' (by assumption)) (sh_undo (by assumption)) ?_ ?_); ((exact Sat.rdmapN (l := mapS (mvS d) l (shE l d)) sp0 (by assumption) (by exact (by repeat' constructor)) (by simp)); (exact (by simp))); intro _ _ _ _) | (apply x_rem; exact rfl; exact rfl; exact rfl; exact rfl; (exact (by first | omega | (have hb := sh_raw (by assumption); omega))); (exact (by first | omega | (have hb := sh_raw (by assumption); omega)))) | (apply x_quo; exact rfl; exact rfl; exact rfl; exact rfl; (exact (by first | omega | (have hb := sh_raw (by assumption); omega))); (exact (by first | omega | (have hb := sh_raw (by assumption); omega))); (exact (by first | omega | (have hb := sh_raw (by assumption); omega)))) | (apply x_not; exact rfl; exact rfl) | (apply x_move; exact rfl; exact rfl; (exact (by repeat' constructor))) | (apply x_assign; exact rfl; exact rfl; (exact (by repeat' constructor))) | (apply x_fieldB; exact rfl; exact rfl; exact rfl; exact rfl; (constructor)) | (apply x_load; assumption; exact rfl; exact rfl; exact rfl; (exact (by repeat' constructor)); exact rfl; exact rfl; (exact (by repeat' constructor))) | (apply x_eqStr; exact rfl; exact rfl; exact rfl; exact rfl) | (apply x_neStr; exact rfl; exact rfl; exact rfl; exact rfl) | (apply x_bin; exact rfl; exact rfl; exact rfl; (first | exact .z (.wrap (by first | omega | (have hb := sh_raw (by assumption); omega))) | exact (by repeat' constructor))) | (apply x_pick; exact rfl; exact rfl; exact rfl; (exact (by repeat' constructor))) | (apply x_un; exact rfl; exact rfl; exact rfl; (first | exact .z (.wrap (by first | omega | (have hb := sh_raw (by assumption); omega))) | exact (by repeat' constructor))) | (apply x_box; assumption; exact rfl; exact rfl; (exact (by repeat' constructor)); (exact (by repeat' constructor)); intro _ _ _) | (apply x_build; exact rfl; exact rfl; exact rfl; (exact (by repeat' constructor))) | (apply x_extract; exact rfl; exact rfl; exact rfl; (exact (by repeat' constructor))) | (apply x_bytes; assumption; exact rfl; exact rfl; exact rfl; exact rfl; exact rfl; exact rfl; intro _ _ _ _) | (apply x_conv; exact rfl; exact rfl; exact rfl; (first | exact .z (.wrap (by first | omega | (have hb := sh_raw (by assumption); omega))) | exact (by repeat' constructor))) | (apply x_fieldE; exact rfl; exact rfl; exact rfl; exact rfl; (constructor)) | (apply x_loadB; assumption; exact rfl; exact rfl; exact rfl; assumption; exact rfl; exact rfl; (exact (by repeat' constructor))) | (apply x_loadR; exact rfl; exact rfl; exact rfl; (first | exact Old.now (by assumption) (by assumption) | exact Sat.rdpr (by assumption) (by exact (by repeat' constructor)) | exact Sat.rd (by assumption) (by exact (by repeat' constructor))); (first | omega | exact size_pos (by assumption) | assumption); exact rfl; exact rfl; (exact (by repeat' constructor))) | (apply cw_true; exact rfl) | (apply cw_false; exact rfl) | (apply x_ndec; exact rfl; with_reducible exact rfl; all_goals (intro _; try omega)) | (apply x_dec; exact rfl; all_goals (intro _; try omega)) | (apply cw_ne; exact rfl; all_goals (intro _; try omega)) | (apply cw_eq; exact rfl; all_goals (intro _; try omega)) | (apply cw_not; exact rfl; all_goals (intro _; try omega)) | (apply cw_cond; exact rfl; all_goals (intro _; try omega)) | (apply x_gndec; exact rfl; exact rfl; with_reducible exact rfl; all_goals (intro _; try omega)) | (apply x_gdec; exact rfl; exact rfl; all_goals (intro _; try omega)) | (apply x_gne; exact rfl; exact rfl; all_goals (intro _; try omega)) | (apply x_geq; exact rfl; exact rfl; all_goals (intro _; try omega)) | (apply x_gnot; exact rfl; exact rfl; all_goals (intro _; try omega)) | (apply x_gsplit; exact rfl; exact rfl; all_goals (intro _; try omega))))
  all_goals (first | refine q_retS (by assumption) rfl (by repeat (first | exact .nil | (apply RV.tmp; exact (by repeat' constructor)) | (apply RV.cell; exact rfl; exact (by repeat' constructor); exact rfl; exact rfl; exact (by repeat' constructor)))) ?_ | (simp only [thenQ, blockQ]; refine q_retS (by assumption) rfl (by repeat (first | exact .nil | (apply RV.tmp; exact (by repeat' constructor)) | (apply RV.cell; exact rfl; exact (by repeat' constructor); exact rfl; exact rfl; exact (by repeat' constructor)))) ?_))
  all_goals refine ⟨?_, Sat.keeps (by assumption)⟩
  all_goals first | rfl | (simp [pack]; done)
set_option maxRecDepth 100000 in
theorem e_lawUndo2 : Ent Try.prog 6 := fun _ _ => rfl
set_option maxRecDepth 4000 in
set_option maxHeartbeats 2000000 in
theorem lawUndo2_c (A : Option Addr) (c : Nat) (l : List Sp) (hl : l.length ≤ 9223372036854775807) (d : Sp) (u : Int) (hr : ¬ spE l = 0) (w : World) (R : Rd w A 3 l.length (fun i => spC (l.getD i sp0))) : Calls Try.prog 6 #[.slice A l.length c, .agg #[.int .i64 (d).1, .int .i64 (d).2.1, .int .i64 (d).2.2], .int .u8 u] w (RetP (Val (.bool true) w)) := by
  refine calls_of_cw (args := [.slice A l.length c, .agg #[.int .i64 (d).1, .int .i64 (d).2.1, .int .i64 (d).2.2], .int .u8 u]) Try.func6 rfl rfl ?_
  have S := Sat.start [] w
  have O := (R).old
  (repeat' (first | apply cw_seq | apply cw_region | apply wl_nil | apply cw_block | apply cw_skip | apply cw_exit | apply cw_ret | (apply x_callv; assumption; exact rfl; exact rfl; exact rfl; exact e_right; (exact (by repeat' constructor)); exact (val_of (right_c _ _ l hl _ (Old.now O (by assumption))) (by rw [decide_eq_false hr])); intro _ _ _) | (apply z1_callv; exact rfl; exact rfl; exact e_right; (exact (by repeat' constructor)); exact (fun _ _ => val_of (right_c _ _ l hl _ (Old.now O (by assumption))) (by rw [decide_eq_false hr]))) | (apply z2_callv; exact rfl; exact rfl; exact e_right; (exact (by repeat' constructor)); exact (fun _ _ => val_of (right_c _ _ l hl _ (Old.now O (by assumption))) (by rw [decide_eq_false hr]))) | (apply x_callv; assumption; exact rfl; exact rfl; exact rfl; exact e_awake; (exact (by repeat' constructor)); exact (awake_c _); intro _ _ _) | (apply z1_callv; exact rfl; exact rfl; exact e_awake; (exact (by repeat' constructor)); exact (fun _ _ => awake_c _)) | (apply z2_callv; exact rfl; exact rfl; exact e_awake; (exact (by repeat' constructor)); exact (fun _ _ => awake_c _)) | (apply x_rem; exact rfl; exact rfl; exact rfl; exact rfl; (exact (by omega)); (exact (by omega))) | (apply x_quo; exact rfl; exact rfl; exact rfl; exact rfl; (exact (by omega)); (exact (by omega)); (exact (by omega))) | (apply x_not; exact rfl; exact rfl) | (apply x_move; exact rfl; exact rfl; (exact (by repeat' constructor))) | (apply x_assign; exact rfl; exact rfl; (exact (by repeat' constructor))) | (apply x_fieldB; exact rfl; exact rfl; exact rfl; exact rfl; (constructor)) | (apply x_load; assumption; exact rfl; exact rfl; exact rfl; (exact (by repeat' constructor)); exact rfl; exact rfl; (exact (by repeat' constructor))) | (apply x_eqStr; exact rfl; exact rfl; exact rfl; exact rfl) | (apply x_neStr; exact rfl; exact rfl; exact rfl; exact rfl) | (apply x_bin; exact rfl; exact rfl; exact rfl; (first | exact .z (.wrap (by omega)) | exact (by repeat' constructor))) | (apply x_pick; exact rfl; exact rfl; exact rfl; (exact (by repeat' constructor))) | (apply x_un; exact rfl; exact rfl; exact rfl; (first | exact .z (.wrap (by omega)) | exact (by repeat' constructor))) | (apply x_box; assumption; exact rfl; exact rfl; (exact (by repeat' constructor)); (exact (by repeat' constructor)); intro _ _ _) | (apply x_build; exact rfl; exact rfl; exact rfl; (exact (by repeat' constructor))) | (apply x_extract; exact rfl; exact rfl; exact rfl; (exact (by repeat' constructor))) | (apply x_bytes; assumption; exact rfl; exact rfl; exact rfl; exact rfl; exact rfl; exact rfl; intro _ _ _ _) | (apply x_conv; exact rfl; exact rfl; exact rfl; (first | exact .z (.wrap (by omega)) | exact (by repeat' constructor))) | (apply x_fieldE; exact rfl; exact rfl; exact rfl; exact rfl; (constructor)) | (apply x_loadB; assumption; exact rfl; exact rfl; exact rfl; assumption; exact rfl; exact rfl; (exact (by repeat' constructor))) | (apply x_loadR; exact rfl; exact rfl; exact rfl; (first | exact Old.now (by assumption) (by assumption) | exact Sat.rdpr (by assumption) (by exact (by repeat' constructor)) | exact Sat.rd (by assumption) (by exact (by repeat' constructor))); (first | omega | exact size_pos (by assumption) | assumption); exact rfl; exact rfl; (exact (by repeat' constructor))) | (apply cw_true; exact rfl) | (apply cw_false; exact rfl) | (apply x_ndec; exact rfl; with_reducible exact rfl; all_goals (intro _; try omega)) | (apply x_dec; exact rfl; all_goals (intro _; try omega)) | (apply cw_ne; exact rfl; all_goals (intro _; try omega)) | (apply cw_eq; exact rfl; all_goals (intro _; try omega)) | (apply cw_not; exact rfl; all_goals (intro _; try omega)) | (apply cw_cond; exact rfl; all_goals (intro _; try omega)) | (apply x_gndec; exact rfl; exact rfl; with_reducible exact rfl; all_goals (intro _; try omega)) | (apply x_gdec; exact rfl; exact rfl; all_goals (intro _; try omega)) | (apply x_gne; exact rfl; exact rfl; all_goals (intro _; try omega)) | (apply x_geq; exact rfl; exact rfl; all_goals (intro _; try omega)) | (apply x_gnot; exact rfl; exact rfl; all_goals (intro _; try omega)) | (apply x_gsplit; exact rfl; exact rfl; all_goals (intro _; try omega))))
  all_goals (first | refine q_retS (by assumption) rfl (by repeat (first | exact .nil | (apply RV.tmp; exact (by repeat' constructor)) | (apply RV.cell; exact rfl; exact (by repeat' constructor); exact rfl; exact rfl; exact (by repeat' constructor)))) ?_ | (simp only [thenQ, blockQ]; refine q_retS (by assumption) rfl (by repeat (first | exact .nil | (apply RV.tmp; exact (by repeat' constructor)) | (apply RV.cell; exact rfl; exact (by repeat' constructor); exact rfl; exact rfl; exact (by repeat' constructor)))) ?_))
  all_goals exact ⟨rfl, Sat.keeps (by assumption)⟩
theorem lawUndo_a (A : Option Addr) (c : Nat) (l : List Sp) (hl : l.length ≤ 9223372036854775807) (d : Sp) (u : Int) (hu : 0 ≤ u ∧ u ≤ 255) (w : World) (R : Rd w A 3 l.length (fun i => spC (l.getD i sp0))) : Calls Try.prog 6 #[.slice A l.length c, .agg #[.int .i64 (d).1, .int .i64 (d).2.1, .int .i64 (d).2.2], .int .u8 u] w (RetP (Val (.bool true) w)) := by
  by_cases hr : spE l = 0
  · exact lawUndo1 A c l hl d u hu hr w R
  · exact lawUndo2_c A c l hl d u hr w R
end Go.Proofs.Ytnlddjbeekfjlaa
