/- Loops whose measure the invariant bears; make of rows; rows as results; boxes in another order. No statement of the seat is proved here. -/
import Derived.Test.YtagapiflfnbfiaaEngY
import Derived.Test.YtagapiflfnbfiaaEngW
import Derived.Laws.OwnMore
namespace Go.Proofs.Ytagapiflfnbfiaa
set_option linter.unusedVariables false
set_option linter.unusedSimpArgs false
open Go Go.RowKit
/-! ### a loop with a measure that the invariant bears -/
theorem least_ex {p : Nat → Prop} : ∀ n : Nat, p n → ∃ m, p m ∧ ∀ k, k < m → ¬ p k := by
  intro n
  induction n using Nat.strongRecOn with
  | _ n ih =>
    intro hn
    by_cases h : ∃ k, k < n ∧ p k
    · obtain ⟨k, hk, hp⟩ := h; exact ih k hk hp
    · exact ⟨n, hn, fun k hk hp => h ⟨k, hk, hp⟩⟩
open Classical in
noncomputable def least (p : Nat → Prop) : Nat := if h : ∃ n, p n then Classical.choose (least_ex _ (Classical.choose_spec h)) else 0
theorem least_at {p : Nat → Prop} (h : ∃ n, p n) : p (least p) := by
  unfold least; rw [dif_pos h]; exact (Classical.choose_spec (least_ex _ (Classical.choose_spec h))).1
theorem least_le {p : Nat → Prop} {n : Nat} (h : p n) : least p ≤ n := by
  unfold least; rw [dif_pos ⟨n, h⟩]
  exact Nat.not_lt.1 fun hlt => (Classical.choose_spec (least_ex _ (Classical.choose_spec (⟨n, h⟩ : ∃ n, p n)))).2 n hlt h
section
variable {P : Program} {ro : Option Nat} {n : Nat} {Q : Post} {D : List Deferred} {f : Fm} {w w0 : World} {M : List Nat} {h : List HO}
theorem cw_loopE {c : Code} (Ss ks : List Nat) (J : Nat → List Value → World → Prop) (m0 : Nat) (h0 : J m0 (ks.map f) w)
    (round : ∀ g m vs w, J m vs w → CW P ro n c (thenQ (fun D' f' w' => D' = D ∧ Agree Ss f' f ∧ ∃ m', m' < m ∧ J m' (ks.map f') w') Q) D (updl (mask Ss g f) ks vs) w) :
    CW P ro n (.loop c) Q D f w := by
  refine cw_loop Ss ks (fun vs w => ∃ m, J m vs w) (fun vs w => least fun m => J m vs w) ⟨m0, h0⟩ ?_
  intro g vs w hi
  refine cw_mono (round g _ vs w (least_at hi)) ?_
  rintro e D' f' w2 hq
  cases e with
  | normal => obtain ⟨h1, h2, m', h3, h4⟩ := hq; exact ⟨h1, h2, ⟨m', h4⟩, Nat.lt_of_le_of_lt (least_le h4) h3⟩
  | ret => exact hq
  | exit id => exact hq
  | goto l => exact hq
  | panic c => exact hq
  | outgrown => exact hq
variable {ops : Array Oper} {rest : List Oper} {d ty : Nat} {ps : String} {af : Array Edge} {gd : Option (Nat × Bool)} {x y : Operand}
theorem made_flat (v : Value) (n : Nat) : (madeCells #[v] (n * 1)).toList = (List.replicate n [v]).flatten := by
  rw [List.flatten_replicate_singleton, List.eq_replicate_iff]
  unfold madeCells
  refine ⟨by simp, fun b hb => ?_⟩
  simp [Nat.mod_one] at hb
  exact hb.2.symm
theorem x_makeSlice1 {T e bytes m : Nat} {v : Value} (S : Sat w0 M h w) (hg : want ops f ⟨some d, .makeSlice T x y, ty, ps, af, gd⟩ = true) (hdn : Nat.blt d n = true) (hk : apk P T = some (e, 1, bytes))
    (hz : (P.info? e).bind (·.zero) = some v) (hv : v.cells = #[v]) (hx : fev f x = .int .i64 (m : Int)) (hy : fev f y = .int .i64 (m : Int)) (hb : Nat.ble bytes 100000 = true) (hm : m ≤ 1000000)
    (k : ∀ g w', Sat w0 M (.rw 0 (.slice (some ⟨g, 0, none⟩) m m) e 1 (List.replicate m [v]) :: h) w' → WL P ro n ops Q rest D (upd f d (.slice (some ⟨g, 0, none⟩) m m)) w') : WL P ro n ops Q (⟨some d, .makeSlice T x y, ty, ps, af, gd⟩ :: rest) D f w := by
  obtain ⟨hu, i, zv, hi, hzz, h1, h2, h3, h4⟩ := apk_parts hk
  have hzv : zv = v := by rw [hi] at hz; simpa [hzz] using hz
  subst hzv
  have hby := Nat.le_of_ble_eq_true hb
  have hbm : i.bytes * m ≤ 281474976710656 := by
    rw [h2]; exact Nat.le_trans (Nat.mul_le_mul hby hm) (by decide)
  obtain ⟨w', hrun, hown, hgr⟩ := run_makeSlice_full (P := P) (w := w) 0 T e i zv 1 hu hi hzz h1 .i64 .i64 m (by omega) hbm (by simp [maxLen]; omega) (Nat.zero_le _)
  refine wl_run (v := .slice (some ⟨w.heap.size, 0, none⟩) m m) (w' := w') hg hdn ?_ (k w.heap.size _ ?_)
  · unfold execOp
    simp only [hx, hy, Sem.run_bind, hrun, Result.andThen_ok, Sem.run_pure]
  · refine S.add hgr ⟨fun b hb => ?_, (fun c hc => ?_), ?_⟩ (fun b hb => ?_)
    · have e1 : w.heap.size = b := by injection hb
      exact .inl (by have := S.le; omega)
    · rw [List.eq_of_mem_replicate hc]; rfl
    · rw [List.length_replicate, ← made_flat]
      rw [← hv]
      exact hown
    · have e1 : w.heap.size = b := by injection hb
      omega
end
/-! ### rows as results -/
theorem rowR_nil {V : Value → Value} {E size : Nat} {xs : List (List Value)} {w w' : World} (hx : xs = []) (K : Keeps [] w w') : RowR V E size xs w (V (.slice none 0 0)) w' := by
  subst hx
  exact ⟨none, 0, rfl, K, World.ownsRow_nil w' _ E size, fun c hc => by cases hc⟩
theorem rowR_xs {V : Value → Value} {E size : Nat} {xs : List (List Value)} {A : Option Addr} {c : Nat} {h : List HO} {w w' : World} (S : Sat w [] h w') (hh : Has h (.rw 0 (.slice A xs.length c) E size xs)) : RowR V E size xs w (V (.slice A xs.length c)) w' :=
  ⟨A, c, rfl, S.keeps, (S.toRow hh).1, (S.toRow hh).2⟩
theorem rowR_n {V : Value → Value} {E size n : Nat} {xs : List (List Value)} {A : Option Addr} {c : Nat} {h : List HO} {w w' : World} (hn : n = xs.length) (S : Sat w [] h w') (hh : Has h (.rw 0 (.slice A n c) E size xs)) : RowR V E size xs w (V (.slice A n c)) w' := by
  subst hn
  exact rowR_xs S hh
theorem Sat.rev3 {w0 w : World} {M : List Nat} {a b c : HO} {r : List HO} (S : Sat w0 M (a :: b :: c :: r) w) : Sat w0 M (c :: b :: a :: r) w :=
  S.perm' ((List.reverse_perm [c, b, a]).append_right r)
end Go.Proofs.Ytagapiflfnbfiaa
