/- Own rows, cut short and cleared; slices of own rows, indexed. No statement of the seat is proved here. -/
import Derived.Test.YtfkcihcbmlcajaaEngW
namespace Go.Proofs.Ytfkcihcbmlcajaa
set_option linter.unusedVariables false
set_option linter.unusedSimpArgs false
open Go Go.RowKit
theorem flat_take {size : Nat} : ∀ (xs : List (List Value)) (k : Nat), (∀ c ∈ xs, c.length = size) → xs.flatten.take (k * size) = (xs.take k).flatten
  | [], k, _ => by simp
  | x :: xs, 0, _ => by simp
  | x :: xs, k + 1, h => by
    have hx : x.length = size := h x List.mem_cons_self
    have ih := flat_take xs k (fun c hc => h c (List.mem_cons_of_mem _ hc))
    rw [List.flatten_cons, List.take_succ_cons, List.flatten_cons, List.take_append, ← ih]
    have e : (k + 1) * size - x.length = k * size := by rw [hx, Nat.succ_mul]; omega
    rw [e, List.take_of_length_le (by rw [hx, Nat.succ_mul]; omega)]
section
variable {P : Program} {ro : Option Nat} {n : Nat} {Q : Post} {D : List Deferred} {f : Fm} {w w0 : World} {M : List Nat} {h : List HO}
variable {ops : Array Oper} {rest : List Oper} {prest : List (Nat × Oper)} {d ty : Nat} {ps : String} {af : Array Edge} {gd : Option (Nat × Bool)} {x y : Operand}
/-- the first k of an own row -/
theorem Sat.shrink {A : Option Addr} {c E size m k : Nat} {xs : List (List Value)} {F : HO → List HO} (S : Sat w0 M h w) (hr : RepF h (.rw 0 (.slice A m c) E size xs) F) (hk : k ≤ xs.length) :
    Sat w0 M (F (.rw 0 (.slice A k c) E size (xs.take k))) w := by
  obtain ⟨h1, h2, h3⟩ := S.ok _ (hr.rep (.rw 0 (.slice A m c) E size xs)).mem
  refine S.rep (hr.rep _) ⟨rfl, rfl, rfl, Nat.le_refl _, fun _ _ _ => rfl⟩ ⟨fun b hb => h1 b (by cases A <;> exact hb), fun c hc => h2 c (List.mem_of_mem_take hc), ?_⟩ (fun b hb => .inl (by cases A <;> exact hb))
  have hlen : (xs.take k).length = k := by rw [List.length_take]; omega
  refine ⟨?_, ?_⟩
  · rw [hlen, ← flat_take xs k h2, List.length_take, h3.1]
    exact Nat.min_eq_left (Nat.mul_le_mul_right _ hk)
  · rcases h3.2 with ⟨e1, e2⟩ | ⟨g, cap, cur, e1, e2, e3, e4, e5, e6, e7⟩
    · injection e1 with a1 a2 a3
      subst a1; subst a3
      have : k = 0 := by omega
      subst this
      exact .inl ⟨rfl, by simp⟩
    · injection e1 with a1 a2 a3
      subst a1; subst a3
      refine .inr ⟨g, c, cur, by rw [hlen], e2, e3, by rw [hlen]; omega, e5, e6, ?_⟩
      rw [hlen, ← flat_take xs k h2, ← e7, List.take_take, Nat.min_eq_left (Nat.mul_le_mul_right _ hk)]
/-- the block of an own row of single cells -/
theorem Sat.openRow {g c E m : Nat} {xs : List (List Value)} {F : HO → List HO} (S : Sat w0 M h w) (hr : RepF h (.rw 0 (.slice (some ⟨g, 0, none⟩) m c) E 1 xs) F) :
    ∃ cs : List Value, cs.length = c ∧ cs.take xs.length = xs.flatten ∧ m = xs.length ∧ m ≤ c ∧ c ≤ maxLen ∧ Sat w0 M (F (.cl g E cs)) w := by
  obtain ⟨h1, h2, h3⟩ := S.ok _ (hr.rep (.rw 0 (.slice (some ⟨g, 0, none⟩) m c) E 1 xs)).mem
  rcases h3.2 with ⟨e1, _⟩ | ⟨g', cap, cur, e1, e2, e3, e4, e5, e6, e7⟩
  · cases e1
  · injection e1 with a1 a2 a3
    injection a1 with a1
    injection a1 with a1
    subst a1; subst a3
    refine ⟨cur.toList, by simpa using e6, by simpa using e7, a2, by omega, e5, S.rep (hr.rep _) ⟨rfl, rfl, rfl, Nat.le_refl _, fun _ _ _ => rfl⟩ ⟨by simpa using e3, h1 g rfl⟩ (fun b hb => .inl (by injection hb with e; rw [← e]; rfl))⟩
theorem Sat.closeRow {g E k : Nat} {cs : List Value} {F : HO → List HO} (S : Sat w0 M h w) (hr : RepF h (.cl g E cs) F) (hk : k ≤ cs.length) (hm : cs.length ≤ maxLen) :
    Sat w0 M (F (.rw 0 (.slice (some ⟨g, 0, none⟩) k cs.length) E 1 ((cs.take k).map fun v => [v]))) w := by
  obtain ⟨h1, h2⟩ := S.ok _ (hr.rep (.cl g E cs)).mem
  refine S.rep (hr.rep _) ⟨rfl, rfl, rfl, Nat.le_refl _, fun _ _ _ => rfl⟩ ⟨fun b' hb' => ?_, ?_, ?_⟩ (fun b' hb' => .inl (by injection hb' with e; rw [← e]; rfl))
  · injection hb' with e; rw [← e]; exact h2
  · intro c hc
    obtain ⟨v, _, rfl⟩ := List.mem_map.1 hc
    rfl
  · have hf := flat_single (cs.take k)
    have hl : (cs.take k).length = k := by rw [List.length_take]; omega
    rw [hf, List.length_map, hl]
    exact ⟨by omega, .inr ⟨g, cs.length, cs.toArray, rfl, Nat.zero_le _, h1, hk, hm, by simp, by simp⟩⟩
theorem Sat.rowSome {A : Option Addr} {c E size m : Nat} {xs : List (List Value)} (S : Sat w0 M h w) (hh : Has h (.rw 0 (.slice A m c) E size xs)) (hm : 0 < m) : ∃ g, A = some ⟨g, 0, none⟩ ∧ m = xs.length ∧ m ≤ c := by
  obtain ⟨_, _, h3⟩ := S.ok _ hh.mem
  rcases h3.2 with ⟨e1, _⟩ | ⟨g, cap, cur, e1, e2, e3, e4, _⟩
  · injection e1 with a1 a2 a3; omega
  · injection e1 with a1 a2 a3; exact ⟨g, a1, a2, by omega⟩
theorem x_clearRow {T E g m mm c i cc : Nat} {v : Value} {xs : List (List Value)} {F : HO → List HO} (S : Sat w0 M h w) (hg : want ops f ⟨none, .call ⟨.builtin .clear, #[x], #[T]⟩, ty, ps, af, gd⟩ = true)
    (hx : fev f x = .slice (some ⟨g, i, none⟩) mm cc) (hr : RepF h (.rw 0 (.slice (some ⟨g, 0, none⟩) m c) E 1 xs) F) (hz : ((P.underlying T).bind fun u => match u with | .slice e => (P.info? e).bind (·.zero) | _ => none) = some v) (hv : cl1 v = [v]) (h1 : one v = true)
    (h2 : i + mm = xs.length) (h3 : 0 < mm)
    (k : ∀ w', Sat w0 M (F (.rw 0 (.slice (some ⟨g, 0, none⟩) m c) E 1 (xs.take i ++ List.replicate mm [v]))) w' → WL P ro n ops Q rest D f w') : WL P ro n ops Q (⟨none, .call ⟨.builtin .clear, #[x], #[T]⟩, ty, ps, af, gd⟩ :: rest) D f w := by
  have hlen := (S.ok _ (hr.rep (.rw 0 (.slice (some ⟨g, 0, none⟩) m c) E 1 xs)).mem).2.1
  obtain ⟨cs, g1, g2, g3, g4, g5, S1⟩ := S.openRow hr
  refine x_clearIn S1 hg hx (hr.again _) hz hv h1 (by omega) h3 (NL.rfl_ _) fun w' S2 => ?_
  have hspl : (spl cs i (List.replicate mm v)).length = cs.length := spl_length _ _ _
  have S3 := S2.closeRow (hr.again _) (k := m) (by omega) (by omega)
  rw [hspl, g1] at S3
  have e : ((spl cs i (List.replicate mm v)).take m).map (fun v => [v]) = xs.take i ++ List.replicate mm [v] := by
    rw [spl_eq cs i _ (by simp; omega), List.take_append, List.length_append, List.length_take, List.length_replicate]
    rw [List.take_of_length_le (by simp; omega), show m - (min i cs.length + mm) = 0 by omega, List.take_zero, List.append_nil, List.map_append, List.map_replicate]
    congr 1
    have e2 : cs.take i = (xs.take i).flatten := by
      have h4 := flat_take xs i hlen
      rw [← h4, ← g2, List.take_take, Nat.mul_one, Nat.min_eq_left (by omega)]
    rw [e2]
    have : ∀ l : List (List Value), (∀ c ∈ l, c.length = 1) → l.flatten.map (fun v => [v]) = l := by
      intro l hl
      induction l with
      | nil => rfl
      | cons a l ih =>
        rw [List.flatten_cons, List.map_append, ih (fun c hc => hl c (List.mem_cons_of_mem _ hc))]
        have ha : a.length = 1 := hl a List.mem_cons_self
        obtain ⟨u, rfl⟩ : ∃ u, a = [u] := by
          match a, ha with
          | [u], _ => exact ⟨u, rfl⟩
        rfl
    exact this _ (fun c hc => hlen c (List.mem_of_mem_take hc))
  rw [e] at S3
  exact k w' S3
theorem x_sliceLoE {T : TypeId} {g m c r : Nat} {kd : IntKind} (hg : want ops f ⟨some d, .slice T x (some y) none none, ty, ps, af, gd⟩ = true) (hdn : Nat.blt d n = true) (hx : fev f x = .slice (some ⟨g, 0, none⟩) m c) (hy : fev f y = .int kd (r : Int)) (hs : elemSize P T = some 1) (h1 : r ≤ m) (h2 : r < c)
    (k : WL P ro n ops Q rest D (upd f d (.slice (some ⟨g, r, none⟩) (m - r) (c - r))) w) : WL P ro n ops Q (⟨some d, .slice T x (some y) none none, ty, ps, af, gd⟩ :: rest) D f w := by
  have hrun := run_sliceLo (P := P) (w := w) (d := d) (ty := ty) (ps := ps) (af := af) (gd := gd) hx hy hs (by omega) (by omega)
  rw [show ((r : Int)).toNat = r from rfl, sub_lt h2] at hrun
  exact wl_val hg rfl hdn hrun (.z .slice) k
theorem x_sliceHiE {T : TypeId} {A : Option Addr} {m c size r : Nat} {kd : IntKind} (hg : want ops f ⟨some d, .slice T x none (some y) none, ty, ps, af, gd⟩ = true) (hdn : Nat.blt d n = true) (hx : fev f x = .slice A m c) (hy : fev f y = .int kd (r : Int)) (hs : elemSize P T = some size) (h1 : r ≤ c)
    (k : WL P ro n ops Q rest D (upd f d (.slice A r c)) w) : WL P ro n ops Q (⟨some d, .slice T x none (some y) none, ty, ps, af, gd⟩ :: rest) D f w := by
  have hrun := run_sliceHi (P := P) (w := w) (d := d) (ty := ty) (ps := ps) (af := af) (gd := gd) hx hy hs (by omega) (by omega)
  exact wl_val hg rfl hdn hrun (.z .slice) k
theorem ea_sub {g k j r : Nat} (h : k + j = r) : ea (some ⟨g, k, none⟩) 1 j 0 = ea (some ⟨g, 0, none⟩) 1 r 0 := by
  unfold ea
  simp only [Option.getD_some]
  rw [add_at, add_at]
  congr 1
  omega
theorem x_indexSub {T g k m c j r : Nat} {kd : IntKind} (hg : want ops f ⟨some d, .indexAddr T x y, ty, ps, af, gd⟩ = true) (hdn : Nat.blt d n = true)
    (hx : fev f x = .slice (some ⟨g, k, none⟩) m c) (hy : fev f y = .int kd (j : Int)) (hs : elemSize P T = some 1) (hi : j < m) (hr : k + j = r)
    (kk : WL P ro n ops Q rest D (upd f d (.pointer (some (ea (some ⟨g, 0, none⟩) 1 r 0)))) w) : WL P ro n ops Q (⟨some d, .indexAddr T x y, ty, ps, af, gd⟩ :: rest) D f w :=
  wl_val (v0 := .pointer (some (ea (some ⟨g, k, none⟩) 1 j 0))) hg rfl hdn (r_index rfl hx hy hs hi rfl) (by rw [ea_sub hr]; exact .z .any) kk
theorem y_indexSub {T g k m c j r : Nat} {kd : IntKind} (hg : want ops f ⟨some d, .indexAddr T x y, ty, ps, af, gd⟩ = true)
    (hx : fev f x = .slice (some ⟨g, k, none⟩) m c) (hy : fev f y = .int kd (j : Int)) (hs : elemSize P T = some 1) (hi : j < m) (hr : k + j = r)
    (kk : PV P ro ops Q w0 M h prest D (upd f d (.pointer (some (ea (some ⟨g, 0, none⟩) 1 r 0))))) : PV P ro ops Q w0 M h ((0, ⟨some d, .indexAddr T x y, ty, ps, af, gd⟩) :: prest) D f :=
  y_val (v0 := .pointer (some (ea (some ⟨g, k, none⟩) 1 j 0))) hg rfl (fun _ _ => r_index rfl hx hy hs hi rfl) (by rw [ea_sub hr]; exact .z .any) kk
end
end Go.Proofs.Ytfkcihcbmlcajaa
