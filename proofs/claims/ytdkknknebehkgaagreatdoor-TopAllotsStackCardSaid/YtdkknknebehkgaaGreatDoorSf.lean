/- Pairs of holes and pins: grow. No statement of the seat is proved here. -/
import Derived.Test.YtdkknknebehkgaaGreatDoorSe
namespace Go.Proofs.YtdkknknebehkgaaGreatDoor.Sl
set_option linter.unusedVariables false
set_option linter.unusedSimpArgs false
open Go Go.RowKit
abbrev hF (b3 b4 b5 : Nat) : Value := .func (.func 36) #[] #[.pointer (some ⟨b3, 0, none⟩), .pointer (some ⟨b4, 0, none⟩), .pointer (some ⟨b5, 0, none⟩)]
/-- what grow gives: all is told alike still, and there is one pair more, or nothing has changed -/
structure GRes (nx ny : Nat) (gv : List Bool) (AF : Prop) (h0 : Nat) (oh op : List Int) where
  b : Bool
  oh' : List Int
  op' : List Int
  cons : Cons nx ny oh' op'
  yes : b = true → FPost nx ny gv (List.replicate ny false) h0 oh op oh' op'
  no : b = false → oh' = oh ∧ op' = op
  all : b = false → AF → ∀ q, q < ny → gB gv q = false → gI op q ≠ -1
theorem gB_rep (n q : Nat) : gB (List.replicate n false) q = false := by
  simp only [gB, List.getD_eq_getElem?_getD, List.getElem?_replicate]
  split <;> rfl
abbrev mF (bm : Nat) (F FX : Value) (G : Option Addr) (cG : Nat) (H : Option Addr) (cH : Nat) (P : Option Addr) (cP nx ny : Nat) (oh op : List Int) : List HO :=
  [.cl bm 84 [F, .slice H nx cH, .slice P ny cP, FX, .slice G ny cG], .rw 0 (.slice H nx cH) 3 1 (oh.map zC), .rw 0 (.slice P ny cP) 3 1 (op.map zC)]
theorem perm7 {α : Type} (a b c d e f g : α) : [a, b, c, d, e, f, g].Perm [d, b, a, e, f, g, c] :=
  (List.perm_middle (l₁ := [a, b, c])).trans (.cons d ((List.Perm.swap b a _).trans (.cons b (.cons a (List.perm_append_comm (l₁ := [c]))))))
theorem retP_imp {R R' : Value → World → Prop} (h : ∀ v w, R v w → R' v w) : ∀ e w, RetP R e w → RetP R' e w := by
  rintro e w ⟨v, rfl, hr⟩
  exact ⟨v, rfl, h v w hr⟩
set_option maxRecDepth 100000 in
theorem e_grow : Ent Tryz.prog 39 := fun _ _ => rfl
set_option maxRecDepth 8000 in
set_option maxHeartbeats 4000000 in
theorem grow_c {w0 : World} {M : List Nat} {bm : Nat} {FX : Value} {G : Option Addr} {cG : Nat} {H : Option Addr} {cH : Nat} {P : Option Addr} {cP : Nat} {nx ny b3 b4 b5 : Nat} {gv : List Bool} {AF : Prop} {ft : Nat → Nat → Bool} (hx : nx ≤ 1000) (hy : ny ≤ 1000)
    (hft : ∀ i j, i < nx → j < ny → ∀ h w, Sat w0 M h w → Calls Tryz.prog 36 #[.int .i64 (i : Int), .int .i64 (j : Int), .pointer (some ⟨b3, 0, none⟩), .pointer (some ⟨b4, 0, none⟩), .pointer (some ⟨b5, 0, none⟩)] w (RetP (Val (.bool (ft i j)) w)))
    (hAF : AF → ∀ i j, i < nx → j < ny → ft i j = true) (hgl : gv.length = ny) (OG : Old w0 M G 1 ny (fun i => bC (gv.getD i false)))
    (hole : Nat) (oh op : List Int) (w : World) (hh : hole < nx) (C : Cons nx ny oh op) (hf : gI oh hole = -1) (S : Sat w0 M (mF bm (hF b3 b4 b5) FX G cG H cH P cP nx ny oh op) w) :
    Calls Tryz.prog 39 #[.pointer (some ⟨bm, 0, none⟩), .int .i64 (hole : Int)] w (RetP fun v w' => ∃ r : GRes nx ny gv AF hole oh op, v = .bool r.b ∧ Sat w0 M (mF bm (hF b3 b4 b5) FX G cG H cH P cP nx ny r.oh' r.op') w') := by
  refine calls_of_cw (args := [.pointer (some ⟨bm, 0, none⟩), .int .i64 (hole : Int)]) Tryz.func39 rfl rfl ?_
  have FC : ∀ (b2 b5' b6 g : Nat) (w : World), Sat w0 M (.cl b6 94 [.func (.func 58) #[] #[.pointer (some ⟨b2, 0, none⟩), .pointer (some ⟨b5', 0, none⟩), .pointer (some ⟨b6, 0, none⟩)]] :: .cl b5' 82 [.slice (some ⟨g, 0, none⟩) ny ny] ::
      .rw 0 (.slice (some ⟨g, 0, none⟩) ny ny) 4 1 (List.replicate ny [.bool false]) :: .cl b2 79 [.pointer (some ⟨bm, 0, none⟩)] :: mF bm (hF b3 b4 b5) FX G cG H cH P cP nx ny oh op) w →
      Calls Tryz.prog 58 #[.int .i64 (hole : Int), .pointer (some ⟨b2, 0, none⟩), .pointer (some ⟨b5', 0, none⟩), .pointer (some ⟨b6, 0, none⟩)] w (RetP fun v w' => ∃ r : FRes nx ny gv (List.replicate ny false) AF hole oh op, v = .bool r.b ∧ Sat w0 M (mF bm (hF b3 b4 b5) FX G cG H cH P cP nx ny r.oh' r.op') w') := by
    intro b2 b5' b6 g w S
    have S1 : Sat w0 M ((⟨b2, b5', b6, bm, hF b3 b4 b5, FX, G, cG, H, cH, P, cP, some ⟨g, 0, none⟩, ny⟩ : Gr).fl nx ny oh op (List.replicate ny false) ++ []) w := by
      have S2 := S.perm' (perm7 _ _ _ _ _ _ _)
      have e : (List.replicate ny false).map bC = List.replicate ny [.bool false] := List.map_replicate
      rw [← e] at S2
      exact S2
    have hn : ∀ q, q < ny → gI op q = hole → gB (List.replicate ny false) q = true := fun q hq e => by
      have := (C.eq hole q hh hq).2 e
      omega
    refine (find_c (g := ⟨b2, b5', b6, bm, hF b3 b4 b5, FX, G, cG, H, cH, P, cP, some ⟨g, 0, none⟩, ny⟩) hx hy rfl hft hAF hgl OG _ hole oh op _ [] w hh C (List.length_replicate ..) (Nat.le_refl _) hn S1).mono (retP_imp ?_)
    rintro v w' ⟨r, rfl, S3⟩
    exact ⟨r, rfl, S3.drop _ (.cons _ (.cons _ (.cons _ (.cons_cons _ (.cons_cons _ (.cons_cons _ (.cons _ .slnil)))))))⟩
  (repeat' (first | apply cw_seq | apply cw_region | apply wl_nil | apply cw_ret | (apply x_nilP; exact rfl; exact rfl; exact rfl) | (apply x_makeSlice1; assumption; exact rfl; exact rfl; exact rfl; exact rfl; exact rfl; exact rfl; exact rfl; exact rfl; (exact by omega); intro _ _ _) | (apply x_call; exact rfl; exact rfl; exact rfl; exact e_find; (exact (by repeat' constructor)); (exact FC _ _ _ _ _ (by assumption)); (rintro _ _ ⟨r, rfl, S2⟩)) | (apply x_move; exact rfl; exact rfl; (exact (by repeat' constructor))) | (apply x_assign; exact rfl; exact rfl; (exact (by repeat' constructor))) | (apply x_fieldB; exact rfl; exact rfl; exact rfl; exact rfl; (constructor)) | (apply x_load; assumption; exact rfl; exact rfl; exact rfl; (exact (by repeat' constructor)); exact rfl; exact rfl; (exact (by repeat' constructor))) | (apply x_box; assumption; exact rfl; exact rfl; (exact (by repeat' constructor)); (exact (by repeat' constructor)); intro _ _ _) | (apply x_alloc; assumption; exact rfl; exact rfl; exact rfl; (exact (by repeat' constructor)); intro _ _ _) | (apply x_store; assumption; exact rfl; exact rfl; (exact (by repeat' constructor)); (exact (by repeat' constructor)); exact rfl; exact rfl; exact rfl; (exact (by repeat' constructor)); intro _ _) | (apply x_builtin; exact rfl; exact rfl; exact (fun _ => rfl); (exact (by repeat' constructor))) | (apply x_makeFunc; exact rfl; exact rfl; (exact (by repeat' constructor)))))
  (first | refine q_retS (by assumption) rfl (by repeat (first | exact .nil | (apply RV.tmp; exact (by repeat' constructor)) | (apply RV.cell; exact rfl; exact (by repeat' constructor); exact rfl; exact rfl; exact (by repeat' constructor)))) ?_ | (simp only [thenQ, blockQ]; refine q_retS (by assumption) rfl (by repeat (first | exact .nil | (apply RV.tmp; exact (by repeat' constructor)) | (apply RV.cell; exact rfl; exact (by repeat' constructor); exact rfl; exact rfl; exact (by repeat' constructor)))) ?_))
  refine ⟨⟨r.b, r.oh', r.op', ?_, r.yes, r.no, fun hb a q hq hg => r.all hb a q hq hg (gB_rep _ _)⟩, rfl, by assumption⟩
  cases hb : r.b with
  | true => exact (r.yes hb).cons hh (gB_rep _)
  | false =>
    obtain ⟨e1, e2⟩ := r.no hb
    rw [e1, e2]
    exact C
end Go.Proofs.YtdkknknebehkgaaGreatDoor.Sl
namespace Go.Proofs.YtdkknknebehkgaaGreatDoor.Sl
set_option linter.unusedVariables false
set_option linter.unusedSimpArgs false
open Go Go.RowKit
set_option maxRecDepth 100000 in
theorem e_Mul64 : Ent Tryz.prog 73 := fun _ _ => rfl
set_option maxRecDepth 100000 in
theorem e_Mul : Ent Tryz.prog 57 := fun _ _ => rfl
theorem cases8 {z : Int} (h : 0 ≤ z ∧ z ≤ 8) : z = 0 ∨ z = 1 ∨ z = 2 ∨ z = 3 ∨ z = 4 ∨ z = 5 ∨ z = 6 ∨ z = 7 ∨ z = 8 := by omega
set_option maxRecDepth 8000 in
set_option maxHeartbeats 4000000 in
theorem Mul64_c (z : Int) (hz : 0 ≤ z ∧ z ≤ 8) (w : World) : Calls Tryz.prog 73 #[.int .u64 1, .int .u64 z] w (RetP (Val (.tuple #[.int .u64 0, .int .u64 z]) w)) := by
  rcases cases8 hz with rfl | rfl | rfl | rfl | rfl | rfl | rfl | rfl | rfl
  all_goals
    refine calls_of_cw (args := [.int .u64 1, .int .u64 _]) Tryz.func73 rfl rfl ?_
    have S := Sat.start [] w
    (repeat' (first | apply cw_seq | apply cw_region | apply wl_nil | apply cw_ret | (apply x_move; exact rfl; exact rfl; (exact (by repeat' constructor))) | (apply x_assign; exact rfl; exact rfl; (exact (by repeat' constructor))) | (apply x_bin; exact rfl; exact rfl; exact rfl; (first | exact .z (.wrap (by omega)) | exact (by repeat' constructor)))))
    (first | refine q_retS (by assumption) rfl (by repeat (first | exact .nil | (apply RV.tmp; exact (by repeat' constructor)) | (apply RV.cell; exact rfl; exact (by repeat' constructor); exact rfl; exact rfl; exact (by repeat' constructor)))) ?_ | (simp only [thenQ, blockQ]; refine q_retS (by assumption) rfl (by repeat (first | exact .nil | (apply RV.tmp; exact (by repeat' constructor)) | (apply RV.cell; exact rfl; exact (by repeat' constructor); exact rfl; exact rfl; exact (by repeat' constructor)))) ?_))
    exact ⟨rfl, Sat.keeps (by assumption)⟩
set_option maxRecDepth 8000 in
theorem Mul_c (z : Int) (hz : 0 ≤ z ∧ z ≤ 8) (w : World) : Calls Tryz.prog 57 #[.int .u64 1, .int .u64 z] w (RetP (Val (.tuple #[.int .u64 0, .int .u64 z]) w)) := by
  refine calls_of_cw (args := [.int .u64 1, .int .u64 z]) Tryz.func57 rfl rfl ?_
  have S := Sat.start [] w
  (repeat' (first | apply cw_seq | apply cw_region | apply wl_nil | apply cw_skip | apply cw_ret | (apply x_callv; assumption; exact rfl; exact rfl; exact rfl; exact e_Mul64; (exact (by repeat' constructor)); exact (Mul64_c z hz _); intro _ _ _) | (apply x_move; exact rfl; exact rfl; (exact (by repeat' constructor))) | (apply x_assign; exact rfl; exact rfl; (exact (by repeat' constructor))) | (apply x_extract; exact rfl; exact rfl; exact rfl; (exact (by repeat' constructor))) | (apply cw_false; exact rfl)))
  (first | refine q_retS (by assumption) rfl (by repeat (first | exact .nil | (apply RV.tmp; exact (by repeat' constructor)) | (apply RV.cell; exact rfl; exact (by repeat' constructor); exact rfl; exact rfl; exact (by repeat' constructor)))) ?_ | (simp only [thenQ, blockQ]; refine q_retS (by assumption) rfl (by repeat (first | exact .nil | (apply RV.tmp; exact (by repeat' constructor)) | (apply RV.cell; exact rfl; exact (by repeat' constructor); exact rfl; exact rfl; exact (by repeat' constructor)))) ?_))
  exact ⟨rfl, Sat.keeps (by assumption)⟩
section
variable {P : Program} {ro : Option Nat} {n : Nat} {Q : Post} {D : List Deferred} {f : Fm} {w : World}
variable {ops : Array Oper} {rest : List Oper} {prest : List (Nat × Oper)} {d ty : Nat} {ps : String} {af : Array Edge} {gd : Option (Nat × Bool)} {x : Operand}
variable {w0 w' : World} {M : List Nat} {h : List HO} {y : Operand}
theorem mks_one {T e bytes m : Nat} {v a b : Value} (hk : apk P T = some (e, 1, bytes)) (hz : (P.info? e).bind (·.zero) = some v) (hv : v.cells = #[v]) (ha : a = .int .i64 (m : Int)) (hb : b = .int .i64 (m : Int)) (hby : Nat.ble bytes 100000 = true) (hm : m ≤ 1000000) :
    mks P T a b = some (e, List.replicate m v, fun g => .slice (some ⟨g, 0, none⟩) m m) := by
  obtain ⟨hu, i, zv, hi, hzz, h1, h2, h3, h4⟩ := apk_parts hk
  have hzv : zv = v := by rw [hi] at hz; simpa [hzz] using hz
  subst hzv ha hb
  have h5 := Nat.le_of_ble_eq_true hby
  have e1 : decide ((m : Int) = (m : Int) ∧ 0 ≤ (m : Int) ∧ (m : Int) ≤ 1000000 ∧ i.bytes ≤ 100000) = true := decide_eq_true ⟨rfl, by omega, by omega, by omega⟩
  unfold mks
  rw [hu]
  dsimp only
  rw [hi]
  dsimp only
  rw [hzz]
  dsimp only
  rw [e1, Int.toNat_natCast, hv, h1]
  dsimp only [cond_true]
  rw [made_flat, List.flatten_replicate_singleton]
theorem z3_makeSlice {T e bytes m : Nat} {v : Value} (hk : apk P T = some (e, 1, bytes)) (hz : (P.info? e).bind (·.zero) = some v) (hv : v.cells = #[v]) (hx : fev f x = .int .i64 (m : Int)) (hy : fev f y = .int .i64 (m : Int)) (hb : Nat.ble bytes 100000 = true) (hm : m ≤ 1000000)
    (k : ∀ b, PV P ro ops Q w0 M (.cl b e (List.replicate m v) :: h) prest D (upd f d (.slice (some ⟨b, 0, none⟩) m m))) : PV P ro ops Q w0 M h ((4, ⟨some d, .makeSlice T x y, ty, ps, af, none⟩) :: prest) D f :=
  ⟨e, _, _, mks_one hk hz hv hx hy hb hm, k⟩
theorem x_makeSliceC {T e bytes m : Nat} {v : Value} {z : Int} (S : Sat w0 M h w) (hg : want ops f ⟨some d, .makeSlice T x y, ty, ps, af, gd⟩ = true) (hdn : Nat.blt d n = true) (hk : apk P T = some (e, 1, bytes))
    (hz : (P.info? e).bind (·.zero) = some v) (hv : v.cells = #[v]) (hx : fev f x = .int .i64 z) (hy : fev f y = .int .i64 z) (hb : Nat.ble bytes 100000 = true) (he : z = (m : Int)) (hm : m ≤ 1000000)
    (k : ∀ g w', Sat w0 M (.cl g e (List.replicate m v) :: h) w' → WL P ro n ops Q rest D (upd f d (.slice (some ⟨g, 0, none⟩) m m)) w') : WL P ro n ops Q (⟨some d, .makeSlice T x y, ty, ps, af, gd⟩ :: rest) D f w := by
  subst he
  have hm1 : mkAt P f ⟨some d, .makeSlice T x y, ty, ps, af, none⟩ = some (e, List.replicate m v, fun g => .slice (some ⟨g, 0, none⟩) m m) := mks_one hk hz hv hx hy hb hm
  have hr := (mk_run (ops := ops) hm1).2 w
  exact wl_run (v := .slice (some ⟨w.heap.size, 0, none⟩) m m) hg hdn hr (k _ _ (S.alloc e _))
theorem x_copyOld {T Tg Tb g o1 o2 b dl dc sl sc k : Nat} {cs cs2 cs' : List Value} {F : HO → List HO} (S : Sat w0 M h w) (hg : want ops f ⟨some d, .call ⟨.builtin .copy, #[x, y], #[T, T]⟩, ty, ps, af, gd⟩ = true) (hdn : Nat.blt d n = true) (hs : elemSize P T = some 1) (hx : fev f x = .slice (some ⟨g, o1, none⟩) dl dc) (hy : fev f y = .slice (some ⟨b, o2, none⟩) sl sc)
    (hr : RepF h (.cl g Tg cs) F) (hh : OldB w0 M b Tb cs2) (hk : IsN (Nat.min sl dl) k) (h2 : o2 + k ≤ cs2.length) (h3 : o1 + k ≤ cs.length) (ho : ones ((cs2.drop o2).take k) = true) (hn : NL (spl cs o1 ((cs2.drop o2).take k)) cs')
    (kk : ∀ w', Sat w0 M (F (.cl g Tg cs')) w' → WL P ro n ops Q rest D (upd f d (goInt k)) w') : WL P ro n ops Q (⟨some d, .call ⟨.builtin .copy, #[x, y], #[T, T]⟩, ty, ps, af, gd⟩ :: rest) D f w := by
  have hrun := run_copyIn (P := P) (f := f) (d := d) (ty := ty) (ps := ps) (af := af) (gd := gd) hs hx hy (S.ok _ (hr.rep (.cl g Tg cs)).mem).1 (hh.now S) hk.eq.symm h2 h3 ho
  rw [hn.eq] at hrun
  exact wl_run hg hdn hrun (kk _ (S.set hr))
end
set_option maxRecDepth 100000 in
theorem e_Repeat : Ent Tryz.prog 38 := fun _ _ => rfl
set_option maxRecDepth 8000 in
set_option maxHeartbeats 4000000 in
theorem Repeat_0 {bx : Nat} (w : World) (B : OldB w [] bx 3 [.int .i64 (-1)]) : Calls Tryz.prog 38 #[.slice (some ⟨bx, 0, none⟩) 1 1, .int .i64 0] w
    (RetP fun v w' => ∃ g, v = .slice (some ⟨g, 0, none⟩) 0 0 ∧ Sat w [] [.cl g 3 (List.replicate 0 (.int .i64 (-1)))] w') := by
  refine calls_of_cw (args := [.slice (some ⟨bx, 0, none⟩) 1 1, .int .i64 0]) Tryz.func38 rfl rfl ?_
  have S := Sat.start [] w
  (repeat' (first | apply cw_seq | apply cw_region | apply wl_nil | apply cw_block | apply cw_skip | apply cw_exit | apply cw_ret | (refine cw_rounds 5 ?_) | (apply x_callv; assumption; exact rfl; exact rfl; exact rfl; exact e_Mul; (exact (by repeat' constructor)); exact (Mul_c 0 (by decide) _); intro _ _ _) | (apply x_makeSliceC (m := 0); assumption; exact rfl; exact rfl; exact rfl; exact rfl; exact rfl; exact rfl; exact rfl; exact rfl; exact rfl; (exact by decide); intro _ _ _) | (apply x_copyOld; assumption; exact rfl; exact rfl; exact rfl; exact rfl; exact rfl; (exact (by repeat' constructor)); exact B; (constructor); (exact (by decide)); (exact (by decide)); exact rfl; exact NL.rfl_ _; intro _ _) | (apply x_move; exact rfl; exact rfl; (exact (by repeat' constructor))) | (apply x_assign; exact rfl; exact rfl; (exact (by repeat' constructor))) | (apply x_bin; exact rfl; exact rfl; exact rfl; (first | exact .z (.wrap (by omega)) | exact (by repeat' constructor))) | (apply x_pick; exact rfl; exact rfl; exact rfl; (exact (by repeat' constructor))) | (apply x_extract; exact rfl; exact rfl; exact rfl; (exact (by repeat' constructor))) | (apply x_conv; exact rfl; exact rfl; exact rfl; (first | exact .z (.wrap (by omega)) | exact (by repeat' constructor))) | (apply x_builtin; exact rfl; exact rfl; exact (fun _ => rfl); (exact (by repeat' constructor))) | (apply cw_false; exact rfl)))
  (first | refine q_retS (by assumption) rfl (by repeat (first | exact .nil | (apply RV.tmp; exact (by repeat' constructor)) | (apply RV.cell; exact rfl; exact (by repeat' constructor); exact rfl; exact rfl; exact (by repeat' constructor)))) ?_ | (simp only [thenQ, blockQ]; refine q_retS (by assumption) rfl (by repeat (first | exact .nil | (apply RV.tmp; exact (by repeat' constructor)) | (apply RV.cell; exact rfl; exact (by repeat' constructor); exact rfl; exact rfl; exact (by repeat' constructor)))) ?_))
  exact ⟨_, rfl, by assumption⟩
set_option maxRecDepth 8000 in
set_option maxHeartbeats 4000000 in
theorem Repeat_1 {bx : Nat} (w : World) (B : OldB w [] bx 3 [.int .i64 (-1)]) : Calls Tryz.prog 38 #[.slice (some ⟨bx, 0, none⟩) 1 1, .int .i64 1] w
    (RetP fun v w' => ∃ g, v = .slice (some ⟨g, 0, none⟩) 1 1 ∧ Sat w [] [.cl g 3 (List.replicate 1 (.int .i64 (-1)))] w') := by
  refine calls_of_cw (args := [.slice (some ⟨bx, 0, none⟩) 1 1, .int .i64 1]) Tryz.func38 rfl rfl ?_
  have S := Sat.start [] w
  (repeat' (first | apply cw_seq | apply cw_region | apply wl_nil | apply cw_block | apply cw_skip | apply cw_exit | apply cw_ret | (refine cw_rounds 5 ?_) | (apply x_callv; assumption; exact rfl; exact rfl; exact rfl; exact e_Mul; (exact (by repeat' constructor)); exact (Mul_c 1 (by decide) _); intro _ _ _) | (apply x_makeSliceC (m := 1); assumption; exact rfl; exact rfl; exact rfl; exact rfl; exact rfl; exact rfl; exact rfl; exact rfl; exact rfl; (exact by decide); intro _ _ _) | (apply x_copyOld; assumption; exact rfl; exact rfl; exact rfl; exact rfl; exact rfl; (exact (by repeat' constructor)); exact B; (constructor); (exact (by decide)); (exact (by decide)); exact rfl; exact NL.rfl_ _; intro _ _) | (apply x_move; exact rfl; exact rfl; (exact (by repeat' constructor))) | (apply x_assign; exact rfl; exact rfl; (exact (by repeat' constructor))) | (apply x_bin; exact rfl; exact rfl; exact rfl; (first | exact .z (.wrap (by omega)) | exact (by repeat' constructor))) | (apply x_pick; exact rfl; exact rfl; exact rfl; (exact (by repeat' constructor))) | (apply x_extract; exact rfl; exact rfl; exact rfl; (exact (by repeat' constructor))) | (apply x_conv; exact rfl; exact rfl; exact rfl; (first | exact .z (.wrap (by omega)) | exact (by repeat' constructor))) | (apply x_builtin; exact rfl; exact rfl; exact (fun _ => rfl); (exact (by repeat' constructor))) | (apply cw_false; exact rfl)))
  (first | refine q_retS (by assumption) rfl (by repeat (first | exact .nil | (apply RV.tmp; exact (by repeat' constructor)) | (apply RV.cell; exact rfl; exact (by repeat' constructor); exact rfl; exact rfl; exact (by repeat' constructor)))) ?_ | (simp only [thenQ, blockQ]; refine q_retS (by assumption) rfl (by repeat (first | exact .nil | (apply RV.tmp; exact (by repeat' constructor)) | (apply RV.cell; exact rfl; exact (by repeat' constructor); exact rfl; exact rfl; exact (by repeat' constructor)))) ?_))
  exact ⟨_, rfl, by assumption⟩
set_option maxRecDepth 8000 in
set_option maxHeartbeats 4000000 in
theorem Repeat_2 {bx : Nat} (w : World) (B : OldB w [] bx 3 [.int .i64 (-1)]) : Calls Tryz.prog 38 #[.slice (some ⟨bx, 0, none⟩) 1 1, .int .i64 2] w
    (RetP fun v w' => ∃ g, v = .slice (some ⟨g, 0, none⟩) 2 2 ∧ Sat w [] [.cl g 3 (List.replicate 2 (.int .i64 (-1)))] w') := by
  refine calls_of_cw (args := [.slice (some ⟨bx, 0, none⟩) 1 1, .int .i64 2]) Tryz.func38 rfl rfl ?_
  have S := Sat.start [] w
  (repeat' (first | apply cw_seq | apply cw_region | apply wl_nil | apply cw_block | apply cw_skip | apply cw_exit | apply cw_ret | (refine cw_rounds 5 ?_) | (apply x_callv; assumption; exact rfl; exact rfl; exact rfl; exact e_Mul; (exact (by repeat' constructor)); exact (Mul_c 2 (by decide) _); intro _ _ _) | (apply x_makeSliceC (m := 2); assumption; exact rfl; exact rfl; exact rfl; exact rfl; exact rfl; exact rfl; exact rfl; exact rfl; exact rfl; (exact by decide); intro _ _ _) | (apply x_copyOld; assumption; exact rfl; exact rfl; exact rfl; exact rfl; exact rfl; (exact (by repeat' constructor)); exact B; (constructor); (exact (by decide)); (exact (by decide)); exact rfl; exact NL.rfl_ _; intro _ _) | (apply y_sliceLoR; exact rfl; exact rfl; exact rfl; exact rfl; (constructor); (exact (by omega)); (exact (by omega)); (exact (by omega))) | (apply z2_copyIn; exact rfl; exact rfl; exact rfl; exact rfl; (exact (by repeat' constructor)); (exact (by repeat' constructor)); (constructor); (exact (by decide)); (exact (by decide)); exact rfl; exact NL.rfl_ _) | (apply cw_draw (id := 9) [(0, 0), (1, 0), (2, 0), (3, 0), (4, 0), (5, 0), (6, 0), (7, 2), (8, 0), (9, 0)]; assumption; exact mixed; kernel_rfl) | (apply x_move; exact rfl; exact rfl; (exact (by repeat' constructor))) | (apply x_assign; exact rfl; exact rfl; (exact (by repeat' constructor))) | (apply x_bin; exact rfl; exact rfl; exact rfl; (first | exact .z (.wrap (by omega)) | exact (by repeat' constructor))) | (apply x_pick; exact rfl; exact rfl; exact rfl; (exact (by repeat' constructor))) | (apply x_extract; exact rfl; exact rfl; exact rfl; (exact (by repeat' constructor))) | (apply x_conv; exact rfl; exact rfl; exact rfl; (first | exact .z (.wrap (by omega)) | exact (by repeat' constructor))) | (apply x_builtin; exact rfl; exact rfl; exact (fun _ => rfl); (exact (by repeat' constructor))) | (apply y_sliceHi; exact rfl; exact rfl; exact rfl; exact rfl; (exact (by omega)); (exact (by omega))) | (apply y_move; exact rfl; (exact (by repeat' constructor))) | (apply y_assign; exact rfl; (exact (by repeat' constructor))) | (apply y_bin; exact rfl; exact (fun _ => rfl); (first | exact .z (.wrap (by omega)) | exact (by repeat' constructor))) | (apply y_nil; intro _ _) | (apply cw_true; exact rfl) | (apply cw_false; exact rfl)))
  (first | refine q_retS (by assumption) rfl (by repeat (first | exact .nil | (apply RV.tmp; exact (by repeat' constructor)) | (apply RV.cell; exact rfl; exact (by repeat' constructor); exact rfl; exact rfl; exact (by repeat' constructor)))) ?_ | (simp only [thenQ, blockQ]; refine q_retS (by assumption) rfl (by repeat (first | exact .nil | (apply RV.tmp; exact (by repeat' constructor)) | (apply RV.cell; exact rfl; exact (by repeat' constructor); exact rfl; exact rfl; exact (by repeat' constructor)))) ?_))
  exact ⟨_, rfl, by assumption⟩
set_option maxRecDepth 8000 in
set_option maxHeartbeats 4000000 in
theorem Repeat_3 {bx : Nat} (w : World) (B : OldB w [] bx 3 [.int .i64 (-1)]) : Calls Tryz.prog 38 #[.slice (some ⟨bx, 0, none⟩) 1 1, .int .i64 3] w
    (RetP fun v w' => ∃ g, v = .slice (some ⟨g, 0, none⟩) 3 3 ∧ Sat w [] [.cl g 3 (List.replicate 3 (.int .i64 (-1)))] w') := by
  refine calls_of_cw (args := [.slice (some ⟨bx, 0, none⟩) 1 1, .int .i64 3]) Tryz.func38 rfl rfl ?_
  have S := Sat.start [] w
  (repeat' (first | apply cw_seq | apply cw_region | apply wl_nil | apply cw_block | apply cw_skip | apply cw_exit | apply cw_ret | (refine cw_rounds 5 ?_) | (apply x_callv; assumption; exact rfl; exact rfl; exact rfl; exact e_Mul; (exact (by repeat' constructor)); exact (Mul_c 3 (by decide) _); intro _ _ _) | (apply x_makeSliceC (m := 3); assumption; exact rfl; exact rfl; exact rfl; exact rfl; exact rfl; exact rfl; exact rfl; exact rfl; exact rfl; (exact by decide); intro _ _ _) | (apply x_copyOld; assumption; exact rfl; exact rfl; exact rfl; exact rfl; exact rfl; (exact (by repeat' constructor)); exact B; (constructor); (exact (by decide)); (exact (by decide)); exact rfl; exact NL.rfl_ _; intro _ _) | (apply y_sliceLoR; exact rfl; exact rfl; exact rfl; exact rfl; (constructor); (exact (by omega)); (exact (by omega)); (exact (by omega))) | (apply z2_copyIn; exact rfl; exact rfl; exact rfl; exact rfl; (exact (by repeat' constructor)); (exact (by repeat' constructor)); (constructor); (exact (by decide)); (exact (by decide)); exact rfl; exact NL.rfl_ _) | (apply cw_draw (id := 9) [(0, 0), (1, 0), (2, 0), (3, 0), (4, 0), (5, 0), (6, 0), (7, 2), (8, 0), (9, 0)]; assumption; exact mixed; kernel_rfl) | (apply x_move; exact rfl; exact rfl; (exact (by repeat' constructor))) | (apply x_assign; exact rfl; exact rfl; (exact (by repeat' constructor))) | (apply x_bin; exact rfl; exact rfl; exact rfl; (first | exact .z (.wrap (by omega)) | exact (by repeat' constructor))) | (apply x_pick; exact rfl; exact rfl; exact rfl; (exact (by repeat' constructor))) | (apply x_extract; exact rfl; exact rfl; exact rfl; (exact (by repeat' constructor))) | (apply x_conv; exact rfl; exact rfl; exact rfl; (first | exact .z (.wrap (by omega)) | exact (by repeat' constructor))) | (apply x_builtin; exact rfl; exact rfl; exact (fun _ => rfl); (exact (by repeat' constructor))) | (apply y_sliceHi; exact rfl; exact rfl; exact rfl; exact rfl; (exact (by omega)); (exact (by omega))) | (apply y_move; exact rfl; (exact (by repeat' constructor))) | (apply y_assign; exact rfl; (exact (by repeat' constructor))) | (apply y_bin; exact rfl; exact (fun _ => rfl); (first | exact .z (.wrap (by omega)) | exact (by repeat' constructor))) | (apply y_nil; intro _ _) | (apply cw_true; exact rfl) | (apply cw_false; exact rfl)))
  (first | refine q_retS (by assumption) rfl (by repeat (first | exact .nil | (apply RV.tmp; exact (by repeat' constructor)) | (apply RV.cell; exact rfl; exact (by repeat' constructor); exact rfl; exact rfl; exact (by repeat' constructor)))) ?_ | (simp only [thenQ, blockQ]; refine q_retS (by assumption) rfl (by repeat (first | exact .nil | (apply RV.tmp; exact (by repeat' constructor)) | (apply RV.cell; exact rfl; exact (by repeat' constructor); exact rfl; exact rfl; exact (by repeat' constructor)))) ?_))
  exact ⟨_, rfl, by assumption⟩
set_option maxRecDepth 8000 in
set_option maxHeartbeats 4000000 in
theorem Repeat_4 {bx : Nat} (w : World) (B : OldB w [] bx 3 [.int .i64 (-1)]) : Calls Tryz.prog 38 #[.slice (some ⟨bx, 0, none⟩) 1 1, .int .i64 4] w
    (RetP fun v w' => ∃ g, v = .slice (some ⟨g, 0, none⟩) 4 4 ∧ Sat w [] [.cl g 3 (List.replicate 4 (.int .i64 (-1)))] w') := by
  refine calls_of_cw (args := [.slice (some ⟨bx, 0, none⟩) 1 1, .int .i64 4]) Tryz.func38 rfl rfl ?_
  have S := Sat.start [] w
  (repeat' (first | apply cw_seq | apply cw_region | apply wl_nil | apply cw_block | apply cw_skip | apply cw_exit | apply cw_ret | (refine cw_rounds 5 ?_) | (apply x_callv; assumption; exact rfl; exact rfl; exact rfl; exact e_Mul; (exact (by repeat' constructor)); exact (Mul_c 4 (by decide) _); intro _ _ _) | (apply x_makeSliceC (m := 4); assumption; exact rfl; exact rfl; exact rfl; exact rfl; exact rfl; exact rfl; exact rfl; exact rfl; exact rfl; (exact by decide); intro _ _ _) | (apply x_copyOld; assumption; exact rfl; exact rfl; exact rfl; exact rfl; exact rfl; (exact (by repeat' constructor)); exact B; (constructor); (exact (by decide)); (exact (by decide)); exact rfl; exact NL.rfl_ _; intro _ _) | (apply y_sliceLoR; exact rfl; exact rfl; exact rfl; exact rfl; (constructor); (exact (by omega)); (exact (by omega)); (exact (by omega))) | (apply z2_copyIn; exact rfl; exact rfl; exact rfl; exact rfl; (exact (by repeat' constructor)); (exact (by repeat' constructor)); (constructor); (exact (by decide)); (exact (by decide)); exact rfl; exact NL.rfl_ _) | (apply cw_draw (id := 9) [(0, 0), (1, 0), (2, 0), (3, 0), (4, 0), (5, 0), (6, 0), (7, 2), (8, 0), (9, 0)]; assumption; exact mixed; kernel_rfl) | (apply x_move; exact rfl; exact rfl; (exact (by repeat' constructor))) | (apply x_assign; exact rfl; exact rfl; (exact (by repeat' constructor))) | (apply x_bin; exact rfl; exact rfl; exact rfl; (first | exact .z (.wrap (by omega)) | exact (by repeat' constructor))) | (apply x_pick; exact rfl; exact rfl; exact rfl; (exact (by repeat' constructor))) | (apply x_extract; exact rfl; exact rfl; exact rfl; (exact (by repeat' constructor))) | (apply x_conv; exact rfl; exact rfl; exact rfl; (first | exact .z (.wrap (by omega)) | exact (by repeat' constructor))) | (apply x_builtin; exact rfl; exact rfl; exact (fun _ => rfl); (exact (by repeat' constructor))) | (apply y_sliceHi; exact rfl; exact rfl; exact rfl; exact rfl; (exact (by omega)); (exact (by omega))) | (apply y_move; exact rfl; (exact (by repeat' constructor))) | (apply y_assign; exact rfl; (exact (by repeat' constructor))) | (apply y_bin; exact rfl; exact (fun _ => rfl); (first | exact .z (.wrap (by omega)) | exact (by repeat' constructor))) | (apply y_nil; intro _ _) | (apply cw_true; exact rfl) | (apply cw_false; exact rfl)))
  (first | refine q_retS (by assumption) rfl (by repeat (first | exact .nil | (apply RV.tmp; exact (by repeat' constructor)) | (apply RV.cell; exact rfl; exact (by repeat' constructor); exact rfl; exact rfl; exact (by repeat' constructor)))) ?_ | (simp only [thenQ, blockQ]; refine q_retS (by assumption) rfl (by repeat (first | exact .nil | (apply RV.tmp; exact (by repeat' constructor)) | (apply RV.cell; exact rfl; exact (by repeat' constructor); exact rfl; exact rfl; exact (by repeat' constructor)))) ?_))
  exact ⟨_, rfl, by assumption⟩
set_option maxRecDepth 8000 in
set_option maxHeartbeats 4000000 in
theorem Repeat_5 {bx : Nat} (w : World) (B : OldB w [] bx 3 [.int .i64 (-1)]) : Calls Tryz.prog 38 #[.slice (some ⟨bx, 0, none⟩) 1 1, .int .i64 5] w
    (RetP fun v w' => ∃ g, v = .slice (some ⟨g, 0, none⟩) 5 5 ∧ Sat w [] [.cl g 3 (List.replicate 5 (.int .i64 (-1)))] w') := by
  refine calls_of_cw (args := [.slice (some ⟨bx, 0, none⟩) 1 1, .int .i64 5]) Tryz.func38 rfl rfl ?_
  have S := Sat.start [] w
  (repeat' (first | apply cw_seq | apply cw_region | apply wl_nil | apply cw_block | apply cw_skip | apply cw_exit | apply cw_ret | (refine cw_rounds 5 ?_) | (apply x_callv; assumption; exact rfl; exact rfl; exact rfl; exact e_Mul; (exact (by repeat' constructor)); exact (Mul_c 5 (by decide) _); intro _ _ _) | (apply x_makeSliceC (m := 5); assumption; exact rfl; exact rfl; exact rfl; exact rfl; exact rfl; exact rfl; exact rfl; exact rfl; exact rfl; (exact by decide); intro _ _ _) | (apply x_copyOld; assumption; exact rfl; exact rfl; exact rfl; exact rfl; exact rfl; (exact (by repeat' constructor)); exact B; (constructor); (exact (by decide)); (exact (by decide)); exact rfl; exact NL.rfl_ _; intro _ _) | (apply y_sliceLoR; exact rfl; exact rfl; exact rfl; exact rfl; (constructor); (exact (by omega)); (exact (by omega)); (exact (by omega))) | (apply z2_copyIn; exact rfl; exact rfl; exact rfl; exact rfl; (exact (by repeat' constructor)); (exact (by repeat' constructor)); (constructor); (exact (by decide)); (exact (by decide)); exact rfl; exact NL.rfl_ _) | (apply cw_draw (id := 9) [(0, 0), (1, 0), (2, 0), (3, 0), (4, 0), (5, 0), (6, 0), (7, 2), (8, 0), (9, 0)]; assumption; exact mixed; kernel_rfl) | (apply x_move; exact rfl; exact rfl; (exact (by repeat' constructor))) | (apply x_assign; exact rfl; exact rfl; (exact (by repeat' constructor))) | (apply x_bin; exact rfl; exact rfl; exact rfl; (first | exact .z (.wrap (by omega)) | exact (by repeat' constructor))) | (apply x_pick; exact rfl; exact rfl; exact rfl; (exact (by repeat' constructor))) | (apply x_extract; exact rfl; exact rfl; exact rfl; (exact (by repeat' constructor))) | (apply x_conv; exact rfl; exact rfl; exact rfl; (first | exact .z (.wrap (by omega)) | exact (by repeat' constructor))) | (apply x_builtin; exact rfl; exact rfl; exact (fun _ => rfl); (exact (by repeat' constructor))) | (apply y_sliceHi; exact rfl; exact rfl; exact rfl; exact rfl; (exact (by omega)); (exact (by omega))) | (apply y_move; exact rfl; (exact (by repeat' constructor))) | (apply y_assign; exact rfl; (exact (by repeat' constructor))) | (apply y_bin; exact rfl; exact (fun _ => rfl); (first | exact .z (.wrap (by omega)) | exact (by repeat' constructor))) | (apply y_nil; intro _ _) | (apply cw_true; exact rfl) | (apply cw_false; exact rfl)))
  (first | refine q_retS (by assumption) rfl (by repeat (first | exact .nil | (apply RV.tmp; exact (by repeat' constructor)) | (apply RV.cell; exact rfl; exact (by repeat' constructor); exact rfl; exact rfl; exact (by repeat' constructor)))) ?_ | (simp only [thenQ, blockQ]; refine q_retS (by assumption) rfl (by repeat (first | exact .nil | (apply RV.tmp; exact (by repeat' constructor)) | (apply RV.cell; exact rfl; exact (by repeat' constructor); exact rfl; exact rfl; exact (by repeat' constructor)))) ?_))
  exact ⟨_, rfl, by assumption⟩
set_option maxRecDepth 8000 in
set_option maxHeartbeats 4000000 in
theorem Repeat_6 {bx : Nat} (w : World) (B : OldB w [] bx 3 [.int .i64 (-1)]) : Calls Tryz.prog 38 #[.slice (some ⟨bx, 0, none⟩) 1 1, .int .i64 6] w
    (RetP fun v w' => ∃ g, v = .slice (some ⟨g, 0, none⟩) 6 6 ∧ Sat w [] [.cl g 3 (List.replicate 6 (.int .i64 (-1)))] w') := by
  refine calls_of_cw (args := [.slice (some ⟨bx, 0, none⟩) 1 1, .int .i64 6]) Tryz.func38 rfl rfl ?_
  have S := Sat.start [] w
  (repeat' (first | apply cw_seq | apply cw_region | apply wl_nil | apply cw_block | apply cw_skip | apply cw_exit | apply cw_ret | (refine cw_rounds 5 ?_) | (apply x_callv; assumption; exact rfl; exact rfl; exact rfl; exact e_Mul; (exact (by repeat' constructor)); exact (Mul_c 6 (by decide) _); intro _ _ _) | (apply x_makeSliceC (m := 6); assumption; exact rfl; exact rfl; exact rfl; exact rfl; exact rfl; exact rfl; exact rfl; exact rfl; exact rfl; (exact by decide); intro _ _ _) | (apply x_copyOld; assumption; exact rfl; exact rfl; exact rfl; exact rfl; exact rfl; (exact (by repeat' constructor)); exact B; (constructor); (exact (by decide)); (exact (by decide)); exact rfl; exact NL.rfl_ _; intro _ _) | (apply y_sliceLoR; exact rfl; exact rfl; exact rfl; exact rfl; (constructor); (exact (by omega)); (exact (by omega)); (exact (by omega))) | (apply z2_copyIn; exact rfl; exact rfl; exact rfl; exact rfl; (exact (by repeat' constructor)); (exact (by repeat' constructor)); (constructor); (exact (by decide)); (exact (by decide)); exact rfl; exact NL.rfl_ _) | (apply cw_draw (id := 9) [(0, 0), (1, 0), (2, 0), (3, 0), (4, 0), (5, 0), (6, 0), (7, 2), (8, 0), (9, 0)]; assumption; exact mixed; kernel_rfl) | (apply x_move; exact rfl; exact rfl; (exact (by repeat' constructor))) | (apply x_assign; exact rfl; exact rfl; (exact (by repeat' constructor))) | (apply x_bin; exact rfl; exact rfl; exact rfl; (first | exact .z (.wrap (by omega)) | exact (by repeat' constructor))) | (apply x_pick; exact rfl; exact rfl; exact rfl; (exact (by repeat' constructor))) | (apply x_extract; exact rfl; exact rfl; exact rfl; (exact (by repeat' constructor))) | (apply x_conv; exact rfl; exact rfl; exact rfl; (first | exact .z (.wrap (by omega)) | exact (by repeat' constructor))) | (apply x_builtin; exact rfl; exact rfl; exact (fun _ => rfl); (exact (by repeat' constructor))) | (apply y_sliceHi; exact rfl; exact rfl; exact rfl; exact rfl; (exact (by omega)); (exact (by omega))) | (apply y_move; exact rfl; (exact (by repeat' constructor))) | (apply y_assign; exact rfl; (exact (by repeat' constructor))) | (apply y_bin; exact rfl; exact (fun _ => rfl); (first | exact .z (.wrap (by omega)) | exact (by repeat' constructor))) | (apply y_nil; intro _ _) | (apply cw_true; exact rfl) | (apply cw_false; exact rfl)))
  (first | refine q_retS (by assumption) rfl (by repeat (first | exact .nil | (apply RV.tmp; exact (by repeat' constructor)) | (apply RV.cell; exact rfl; exact (by repeat' constructor); exact rfl; exact rfl; exact (by repeat' constructor)))) ?_ | (simp only [thenQ, blockQ]; refine q_retS (by assumption) rfl (by repeat (first | exact .nil | (apply RV.tmp; exact (by repeat' constructor)) | (apply RV.cell; exact rfl; exact (by repeat' constructor); exact rfl; exact rfl; exact (by repeat' constructor)))) ?_))
  exact ⟨_, rfl, by assumption⟩
set_option maxRecDepth 8000 in
set_option maxHeartbeats 4000000 in
theorem Repeat_7 {bx : Nat} (w : World) (B : OldB w [] bx 3 [.int .i64 (-1)]) : Calls Tryz.prog 38 #[.slice (some ⟨bx, 0, none⟩) 1 1, .int .i64 7] w
    (RetP fun v w' => ∃ g, v = .slice (some ⟨g, 0, none⟩) 7 7 ∧ Sat w [] [.cl g 3 (List.replicate 7 (.int .i64 (-1)))] w') := by
  refine calls_of_cw (args := [.slice (some ⟨bx, 0, none⟩) 1 1, .int .i64 7]) Tryz.func38 rfl rfl ?_
  have S := Sat.start [] w
  (repeat' (first | apply cw_seq | apply cw_region | apply wl_nil | apply cw_block | apply cw_skip | apply cw_exit | apply cw_ret | (refine cw_rounds 5 ?_) | (apply x_callv; assumption; exact rfl; exact rfl; exact rfl; exact e_Mul; (exact (by repeat' constructor)); exact (Mul_c 7 (by decide) _); intro _ _ _) | (apply x_makeSliceC (m := 7); assumption; exact rfl; exact rfl; exact rfl; exact rfl; exact rfl; exact rfl; exact rfl; exact rfl; exact rfl; (exact by decide); intro _ _ _) | (apply x_copyOld; assumption; exact rfl; exact rfl; exact rfl; exact rfl; exact rfl; (exact (by repeat' constructor)); exact B; (constructor); (exact (by decide)); (exact (by decide)); exact rfl; exact NL.rfl_ _; intro _ _) | (apply y_sliceLoR; exact rfl; exact rfl; exact rfl; exact rfl; (constructor); (exact (by omega)); (exact (by omega)); (exact (by omega))) | (apply z2_copyIn; exact rfl; exact rfl; exact rfl; exact rfl; (exact (by repeat' constructor)); (exact (by repeat' constructor)); (constructor); (exact (by decide)); (exact (by decide)); exact rfl; exact NL.rfl_ _) | (apply cw_draw (id := 9) [(0, 0), (1, 0), (2, 0), (3, 0), (4, 0), (5, 0), (6, 0), (7, 2), (8, 0), (9, 0)]; assumption; exact mixed; kernel_rfl) | (apply x_move; exact rfl; exact rfl; (exact (by repeat' constructor))) | (apply x_assign; exact rfl; exact rfl; (exact (by repeat' constructor))) | (apply x_bin; exact rfl; exact rfl; exact rfl; (first | exact .z (.wrap (by omega)) | exact (by repeat' constructor))) | (apply x_pick; exact rfl; exact rfl; exact rfl; (exact (by repeat' constructor))) | (apply x_extract; exact rfl; exact rfl; exact rfl; (exact (by repeat' constructor))) | (apply x_conv; exact rfl; exact rfl; exact rfl; (first | exact .z (.wrap (by omega)) | exact (by repeat' constructor))) | (apply x_builtin; exact rfl; exact rfl; exact (fun _ => rfl); (exact (by repeat' constructor))) | (apply y_sliceHi; exact rfl; exact rfl; exact rfl; exact rfl; (exact (by omega)); (exact (by omega))) | (apply y_move; exact rfl; (exact (by repeat' constructor))) | (apply y_assign; exact rfl; (exact (by repeat' constructor))) | (apply y_bin; exact rfl; exact (fun _ => rfl); (first | exact .z (.wrap (by omega)) | exact (by repeat' constructor))) | (apply y_nil; intro _ _) | (apply cw_true; exact rfl) | (apply cw_false; exact rfl)))
  (first | refine q_retS (by assumption) rfl (by repeat (first | exact .nil | (apply RV.tmp; exact (by repeat' constructor)) | (apply RV.cell; exact rfl; exact (by repeat' constructor); exact rfl; exact rfl; exact (by repeat' constructor)))) ?_ | (simp only [thenQ, blockQ]; refine q_retS (by assumption) rfl (by repeat (first | exact .nil | (apply RV.tmp; exact (by repeat' constructor)) | (apply RV.cell; exact rfl; exact (by repeat' constructor); exact rfl; exact rfl; exact (by repeat' constructor)))) ?_))
  exact ⟨_, rfl, by assumption⟩
set_option maxRecDepth 8000 in
set_option maxHeartbeats 4000000 in
theorem Repeat_8 {bx : Nat} (w : World) (B : OldB w [] bx 3 [.int .i64 (-1)]) : Calls Tryz.prog 38 #[.slice (some ⟨bx, 0, none⟩) 1 1, .int .i64 8] w
    (RetP fun v w' => ∃ g, v = .slice (some ⟨g, 0, none⟩) 8 8 ∧ Sat w [] [.cl g 3 (List.replicate 8 (.int .i64 (-1)))] w') := by
  refine calls_of_cw (args := [.slice (some ⟨bx, 0, none⟩) 1 1, .int .i64 8]) Tryz.func38 rfl rfl ?_
  have S := Sat.start [] w
  (repeat' (first | apply cw_seq | apply cw_region | apply wl_nil | apply cw_block | apply cw_skip | apply cw_exit | apply cw_ret | (refine cw_rounds 5 ?_) | (apply x_callv; assumption; exact rfl; exact rfl; exact rfl; exact e_Mul; (exact (by repeat' constructor)); exact (Mul_c 8 (by decide) _); intro _ _ _) | (apply x_makeSliceC (m := 8); assumption; exact rfl; exact rfl; exact rfl; exact rfl; exact rfl; exact rfl; exact rfl; exact rfl; exact rfl; (exact by decide); intro _ _ _) | (apply x_copyOld; assumption; exact rfl; exact rfl; exact rfl; exact rfl; exact rfl; (exact (by repeat' constructor)); exact B; (constructor); (exact (by decide)); (exact (by decide)); exact rfl; exact NL.rfl_ _; intro _ _) | (apply y_sliceLoR; exact rfl; exact rfl; exact rfl; exact rfl; (constructor); (exact (by omega)); (exact (by omega)); (exact (by omega))) | (apply z2_copyIn; exact rfl; exact rfl; exact rfl; exact rfl; (exact (by repeat' constructor)); (exact (by repeat' constructor)); (constructor); (exact (by decide)); (exact (by decide)); exact rfl; exact NL.rfl_ _) | (apply cw_draw (id := 9) [(0, 0), (1, 0), (2, 0), (3, 0), (4, 0), (5, 0), (6, 0), (7, 2), (8, 0), (9, 0)]; assumption; exact mixed; kernel_rfl) | (apply x_move; exact rfl; exact rfl; (exact (by repeat' constructor))) | (apply x_assign; exact rfl; exact rfl; (exact (by repeat' constructor))) | (apply x_bin; exact rfl; exact rfl; exact rfl; (first | exact .z (.wrap (by omega)) | exact (by repeat' constructor))) | (apply x_pick; exact rfl; exact rfl; exact rfl; (exact (by repeat' constructor))) | (apply x_extract; exact rfl; exact rfl; exact rfl; (exact (by repeat' constructor))) | (apply x_conv; exact rfl; exact rfl; exact rfl; (first | exact .z (.wrap (by omega)) | exact (by repeat' constructor))) | (apply x_builtin; exact rfl; exact rfl; exact (fun _ => rfl); (exact (by repeat' constructor))) | (apply y_sliceHi; exact rfl; exact rfl; exact rfl; exact rfl; (exact (by omega)); (exact (by omega))) | (apply y_move; exact rfl; (exact (by repeat' constructor))) | (apply y_assign; exact rfl; (exact (by repeat' constructor))) | (apply y_bin; exact rfl; exact (fun _ => rfl); (first | exact .z (.wrap (by omega)) | exact (by repeat' constructor))) | (apply y_nil; intro _ _) | (apply cw_true; exact rfl) | (apply cw_false; exact rfl)))
  (first | refine q_retS (by assumption) rfl (by repeat (first | exact .nil | (apply RV.tmp; exact (by repeat' constructor)) | (apply RV.cell; exact rfl; exact (by repeat' constructor); exact rfl; exact rfl; exact (by repeat' constructor)))) ?_ | (simp only [thenQ, blockQ]; refine q_retS (by assumption) rfl (by repeat (first | exact .nil | (apply RV.tmp; exact (by repeat' constructor)) | (apply RV.cell; exact rfl; exact (by repeat' constructor); exact rfl; exact rfl; exact (by repeat' constructor)))) ?_))
  exact ⟨_, rfl, by assumption⟩
theorem Repeat_c (n : Nat) (hn : n ≤ 8) {bx : Nat} (w : World) (B : OldB w [] bx 3 [.int .i64 (-1)]) : Calls Tryz.prog 38 #[.slice (some ⟨bx, 0, none⟩) 1 1, .int .i64 (n : Int)] w
    (RetP fun v w' => ∃ g, v = .slice (some ⟨g, 0, none⟩) n n ∧ Sat w [] [.cl g 3 (List.replicate n (.int .i64 (-1)))] w') := by
  match n, hn with
  | 0, _ => exact Repeat_0 w B
  | 1, _ => exact Repeat_1 w B
  | 2, _ => exact Repeat_2 w B
  | 3, _ => exact Repeat_3 w B
  | 4, _ => exact Repeat_4 w B
  | 5, _ => exact Repeat_5 w B
  | 6, _ => exact Repeat_6 w B
  | 7, _ => exact Repeat_7 w B
  | 8, _ => exact Repeat_8 w B
  | n + 9, hn => exact absurd hn (by omega)
end Go.Proofs.YtdkknknebehkgaaGreatDoor.Sl
