/- Pairs of holes and pins: find, the walk. No statement of the seat is proved here. -/
import Derived.Test.YtdkknknebehkgaaGreatDoorSb
import Derived.Test.YtdkknknebehkgaaGreatDoorSa
namespace Go.Proofs.YtdkknknebehkgaaGreatDoor.Sl
set_option linter.unusedVariables false
set_option linter.unusedSimpArgs false
open Go Go.RowKit
abbrev bC (b : Bool) : List Value := [.bool b]
set_option maxRecDepth 100000 in
theorem e_find : Ent Tryz.prog 58 := fun _ _ => rfl
/-- what is known while a hole is grown -/
structure Gr where
  b2 : Nat
  b5 : Nat
  b6 : Nat
  bm : Nat
  F : Value
  FX : Value
  G : Option Addr
  cG : Nat
  H : Option Addr
  cH : Nat
  P : Option Addr
  cP : Nat
  N : Option Addr
  cN : Nat
abbrev Gr.cap (g : Gr) : List Value := [.pointer (some ⟨g.b2, 0, none⟩), .pointer (some ⟨g.b5, 0, none⟩), .pointer (some ⟨g.b6, 0, none⟩)]
abbrev Gr.fl (g : Gr) (nx ny : Nat) (oh op : List Int) (sn : List Bool) : List HO :=
  [.cl g.b2 79 [.pointer (some ⟨g.bm, 0, none⟩)], .cl g.b5 82 [.slice g.N ny g.cN], .cl g.b6 94 [.func (.func 58) #[] g.cap.toArray],
   .cl g.bm 84 [g.F, .slice g.H nx g.cH, .slice g.P ny g.cP, g.FX, .slice g.G ny g.cG],
   .rw 0 (.slice g.H nx g.cH) 3 1 (oh.map zC), .rw 0 (.slice g.P ny g.cP) 3 1 (op.map zC), .rw 0 (.slice g.N ny g.cN) 4 1 (sn.map bC)]
section
variable {P : Program} {ro : Option Nat} {n : Nat} {Q : Post} {D : List Deferred} {f : Fm} {w : World}
variable {ops : Array Oper} {rest : List Oper} {d ty : Nat} {ps : String} {af : Array Edge} {gd : Option (Nat × Bool)} {x : Operand}
variable {w0 w' : World} {M : List Nat} {h : List HO} {y : Operand}
theorem x_storeRowEA {T E size i off m c : Nat} {A : Option Addr} {v : Value} {xs ys : List (List Value)} {F : HO → List HO} (S : Sat w0 M h w) (hg : want ops f ⟨none, .store T x y, ty, ps, af, gd⟩ = true)
    (hx : fev f x = .pointer (some (ea A size i off))) (hy : Is (fev f y) v) (h1 : one v = true) (hs : (P.info? T).map (·.size) = some 1) (hr : RepF h (.rw 0 (.slice A m c) E size xs) F) (hi : i < xs.length) (ho : off < size) (he : xs.set i ((xs.getD i []).set off v) = ys)
    (k : ∀ w', Sat w0 M (F (.rw 0 (.slice A m c) E size ys)) w' → WL P ro n ops Q rest D f w') :
    WL P ro n ops Q (⟨none, .store T x y, ty, ps, af, gd⟩ :: rest) D f w := by
  subst he
  exact x_storeRow S hg hx hy h1 hs hr hi ho k
theorem x_loadV {α : Type} {en : α → Value} {z v : α} {T : TypeId} {A : Option Addr} {j m : Nat} {l : List α} {kk : Option Nat} (hg : want ops f ⟨some d, .load T x, ty, ps, af, gd⟩ = true) (hdn : Nat.blt d n = true)
    (hx : fev f x = .pointer (some (ea A 1 j 0))) (R : Rd w A 1 m (fun i => [en (l.getD i z)])) (hj : j < m) (hv : l.getD j z = v) (hk : ldk P T = some kk) (h0 : ldv kk [en (l.getD j z)] 0 = some (en (l.getD j z))) (hi : Is (en v) (en v))
    (k : WL P ro n ops Q rest D (upd f d (en v)) w) : WL P ro n ops Q (⟨some d, .load T x, ty, ps, af, gd⟩ :: rest) D f w := by
  subst hv
  exact x_loadR hg hdn hx R hj hk h0 hi k
end
theorem rset {l : List Int} {n i : Nat} {v : Int} (hl : l.length = n) (hi : i < n) : (l.map zC).set i (((l.map zC).getD i []).set 0 (.int .i64 v)) = (l.set i v).map zC := by
  have e : (l.map zC).getD i [] = zC (l.getD i 0) := by simp [List.getD_eq_getElem?_getD, hl, hi]
  rw [e, List.map_set]; rfl
theorem lt_neg {z : Int} (h : -1 ≤ z) (h2 : ¬ 0 ≤ z) : z = -1 := by omega
set_option maxRecDepth 8000 in
set_option maxHeartbeats 16000000 in
theorem find_c {w0 : World} {M : List Nat} {g : Gr} {nx ny b3 b4 b5 : Nat} {gv : List Bool} {AF : Prop} {ft : Nat → Nat → Bool} (hx : nx ≤ 1000) (hy : ny ≤ 1000)
    (hF : g.F = .func (.func 36) #[] #[.pointer (some ⟨b3, 0, none⟩), .pointer (some ⟨b4, 0, none⟩), .pointer (some ⟨b5, 0, none⟩)])
    (hft : ∀ i j, i < nx → j < ny → ∀ h w, Sat w0 M h w → Calls Tryz.prog 36 #[.int .i64 (i : Int), .int .i64 (j : Int), .pointer (some ⟨b3, 0, none⟩), .pointer (some ⟨b4, 0, none⟩), .pointer (some ⟨b5, 0, none⟩)] w (RetP (Val (.bool (ft i j)) w)))
    (hAF : AF → ∀ i j, i < nx → j < ny → ft i j = true) (hgl : gv.length = ny) (OG : Old w0 M g.G 1 ny (fun i => bC (gv.getD i false))) :
    ∀ (m hole : Nat) (oh op : List Int) (sn : List Bool) (h : List HO) (w : World), hole < nx → Cons nx ny oh op → sn.length = ny → (uns ny sn).length ≤ m → (∀ q, q < ny → gI op q = hole → gB sn q = true) → Sat w0 M (g.fl nx ny oh op sn ++ h) w →
    Calls Tryz.prog 58 #[.int .i64 (hole : Int), .pointer (some ⟨g.b2, 0, none⟩), .pointer (some ⟨g.b5, 0, none⟩), .pointer (some ⟨g.b6, 0, none⟩)] w (RetP fun v w' => ∃ r : FRes nx ny gv sn AF hole oh op, v = .bool r.b ∧ Sat w0 M (g.fl nx ny r.oh' r.op' r.sn' ++ h) w') := by
  obtain ⟨b2, b5', b6, bm, F, FX, G, cG, H, cH, P, cP, N, cN⟩ := g
  dsimp only at hF
  subst hF
  intro m
  induction m using Nat.strongRecOn with
  | ind m ih =>
  intro hole oh op sn h w hh C hl hm hn S
  refine calls_of_cw (args := [.int .i64 (hole : Int), .pointer (some ⟨b2, 0, none⟩), .pointer (some ⟨b5', 0, none⟩), .pointer (some ⟨b6, 0, none⟩)]) Tryz.func58 rfl rfl ?_
  replace S : Sat w0 M (_ :: _ :: _ :: _ :: _ :: _ :: _ :: h) w := S
  (repeat' (first | apply cw_seq | apply cw_region | apply wl_nil | apply cw_block | (apply x_nilP; exact rfl; exact rfl; exact rfl) | (apply x_move; exact rfl; exact rfl; (exact (by repeat' constructor))) | (apply x_assign; exact rfl; exact rfl; (exact (by repeat' constructor))) | (apply x_fieldB; exact rfl; exact rfl; exact rfl; exact rfl; (constructor)) | (apply x_load; assumption; exact rfl; exact rfl; exact rfl; (exact (by repeat' constructor)); exact rfl; exact rfl; (exact (by repeat' constructor))) | (apply x_builtin; exact rfl; exact rfl; exact (fun _ => rfl); (exact (by repeat' constructor)))))
  refine cw_loop [5, 6, 7, 13, 14, 15, 16, 17, 18, 19, 20, 21, 22, 23, 24, 25, 26, 27, 28, 29, 30, 31, 32, 33, 34, 35, 36, 37, 38, 39, 40, 41, 42, 43, 44, 45, 46, 47, 48, 49, 50, 51, 52, 53, 54, 55, 56, 57, 58, 59, 60, 61, 62, 63, 64, 65] [13] (fun us wr => ∃ (p : Nat) (s1 : List Bool), p ≤ ny ∧ us = [.int .i64 p] ∧ LI ny gv sn AF op p s1 ∧ Sat w0 M ([.cl b2 79 [.pointer (some ⟨bm, 0, none⟩)], .cl b5' 82 [.slice N ny cN], .cl b6 94 [.func (.func 58) #[] #[.pointer (some ⟨b2, 0, none⟩), .pointer (some ⟨b5', 0, none⟩), .pointer (some ⟨b6, 0, none⟩)]],
   .cl bm 84 [.func (.func 36) #[] #[.pointer (some ⟨b3, 0, none⟩), .pointer (some ⟨b4, 0, none⟩), .pointer (some ⟨b5, 0, none⟩)], .slice H nx cH, .slice P ny cP, FX, .slice G ny cG],
   .rw 0 (.slice H nx cH) 3 1 (oh.map zC), .rw 0 (.slice P ny cP) 3 1 ((op).map zC), .rw 0 (.slice N ny cN) 4 1 ((s1).map bC)] ++ h) wr) (fun us _ => ny - (intOf (us.getD 0 undef)).toNat) ?_ ?_
  · exact ⟨0, sn, Nat.zero_le _, rfl, LI.start hl, S⟩
  clear S
  rintro g us wr ⟨p, s1, hp', rfl, L, Sr⟩
  replace Sr : Sat w0 M (_ :: _ :: _ :: _ :: _ :: _ :: _ :: h) wr := Sr
  by_cases hp : p < ny
  · have hRP := Sat.rdmapN (0 : Int) Sr (.tail (.tail (.tail (.tail (.tail .head))))) C.lp.symm
    have hRN := Sat.rdmapN false Sr (.tail (.tail (.tail (.tail (.tail (.tail .head)))))) L.ln.symm
    have hRG := Old.now OG Sr
    obtain ⟨o, ho⟩ : ∃ o, op.getD p (-1) = o := ⟨_, rfl⟩
    cases hs : s1.getD p false with
    | true =>
      (repeat' (first | apply cw_seq | apply cw_region | apply wl_nil | apply cw_block | apply cw_skip | apply cw_exit | (apply x_loadV (en := fun z : Int => Value.int .i64 z) (z := (-1 : Int)) (l := op) (v := o); exact rfl; exact rfl; exact rfl; exact Sat.rdmapN (en := zC) (-1 : Int) (by assumption) (by exact (by repeat' constructor)) C.lp.symm; (exact (by rw [C.lp]; exact hp)); exact ho; exact rfl; exact rfl; exact .z .int) | (apply x_loadV (en := fun z : Bool => Value.bool z) (z := false) (l := s1); exact rfl; exact rfl; exact rfl; exact Sat.rdmapN (en := bC) false (by assumption) (by exact (by repeat' constructor)) L.ln.symm; (exact (by rw [L.ln]; exact hp)); exact hs; exact rfl; exact rfl; exact .z .bool) | (apply x_not; exact rfl; exact rfl) | (apply x_move; exact rfl; exact rfl; (exact (by repeat' constructor))) | (apply x_assign; exact rfl; exact rfl; (exact (by repeat' constructor))) | (apply x_load; assumption; exact rfl; exact rfl; exact rfl; (exact (by repeat' constructor)); exact rfl; exact rfl; (exact (by repeat' constructor))) | (apply x_bin; exact rfl; exact rfl; exact rfl; (first | exact .z (.wrap (by omega)) | exact (by repeat' constructor))) | (apply x_pick; exact rfl; exact rfl; exact rfl; (exact (by repeat' constructor))) | (apply x_index; exact rfl; exact rfl; exact rfl; exact rfl; exact rfl; (constructor); (first | omega | exact size_pos (by assumption) | assumption); (first | exact rfl | assumption | exact Rd.some_ (by assumption) (by omega) | exact Rd.some_ (Old.rd (by assumption)) (by omega) | exact (Sat.rd (by assumption) (by exact (by repeat' constructor))).some_ (by omega))) | (apply cw_true; exact rfl) | (apply x_dec; exact rfl; all_goals (intro _; try omega))))
      refine ⟨rfl, (by repeat (first | exact Agree.updl rfl (Agree.mask _ _ _) | refine Agree.upd rfl ?_)), ⟨p + 1, s1, hp, rfl, L.seen hp hs, by assumption⟩, ?_⟩
      show ny - (p + 1 : Int).toNat < ny - (p : Int).toNat
      omega
    | false =>
      cases hgv : gv.getD p false with
      | true =>
        (repeat' (first | apply cw_seq | apply cw_region | apply wl_nil | apply cw_block | apply cw_skip | apply cw_exit | (apply x_loadV (en := fun z : Int => Value.int .i64 z) (z := (-1 : Int)) (l := op) (v := o); exact rfl; exact rfl; exact rfl; exact Sat.rdmapN (en := zC) (-1 : Int) (by assumption) (by exact (by repeat' constructor)) C.lp.symm; (exact (by rw [C.lp]; exact hp)); exact ho; exact rfl; exact rfl; exact .z .int) | (apply x_loadV (en := fun z : Bool => Value.bool z) (z := false) (l := s1); exact rfl; exact rfl; exact rfl; exact Sat.rdmapN (en := bC) false (by assumption) (by exact (by repeat' constructor)) L.ln.symm; (exact (by rw [L.ln]; exact hp)); exact hs; exact rfl; exact rfl; exact .z .bool) | (apply x_loadV (en := fun z : Bool => Value.bool z) (z := false) (l := gv); exact rfl; exact rfl; exact rfl; exact Old.now OG (by assumption); exact hp; exact hgv; exact rfl; exact rfl; exact .z .bool) | (apply x_nilP; exact rfl; exact rfl; exact rfl) | (apply x_not; exact rfl; exact rfl) | (apply x_move; exact rfl; exact rfl; (exact (by repeat' constructor))) | (apply x_assign; exact rfl; exact rfl; (exact (by repeat' constructor))) | (apply x_fieldB; exact rfl; exact rfl; exact rfl; exact rfl; (constructor)) | (apply x_load; assumption; exact rfl; exact rfl; exact rfl; (exact (by repeat' constructor)); exact rfl; exact rfl; (exact (by repeat' constructor))) | (apply x_bin; exact rfl; exact rfl; exact rfl; (first | exact .z (.wrap (by omega)) | exact (by repeat' constructor))) | (apply x_pick; exact rfl; exact rfl; exact rfl; (exact (by repeat' constructor))) | (apply x_index; exact rfl; exact rfl; exact rfl; exact rfl; exact rfl; (constructor); (first | omega | exact size_pos (by assumption) | assumption); (first | exact rfl | assumption | exact Rd.some_ (by assumption) (by omega) | exact Rd.some_ (Old.rd (by assumption)) (by omega) | exact (Sat.rd (by assumption) (by exact (by repeat' constructor))).some_ (by omega))) | (apply cw_true; exact rfl) | (apply x_dec; exact rfl; all_goals (intro _; try omega))))
        refine ⟨rfl, (by repeat (first | exact Agree.updl rfl (Agree.mask _ _ _) | refine Agree.upd rfl ?_)), ⟨p + 1, s1, hp, rfl, L.given hgv, by assumption⟩, ?_⟩
        show ny - (p + 1 : Int).toNat < ny - (p : Int).toNat
        omega
      | false =>
        cases hf : ft hole p with
        | false =>
          (repeat' (first | apply cw_seq | apply cw_region | apply wl_nil | apply cw_block | apply cw_skip | apply cw_exit | (apply x_loadV (en := fun z : Int => Value.int .i64 z) (z := (-1 : Int)) (l := op) (v := o); exact rfl; exact rfl; exact rfl; exact Sat.rdmapN (en := zC) (-1 : Int) (by assumption) (by exact (by repeat' constructor)) C.lp.symm; (exact (by rw [C.lp]; exact hp)); exact ho; exact rfl; exact rfl; exact .z .int) | (apply x_loadV (en := fun z : Bool => Value.bool z) (z := false) (l := s1); exact rfl; exact rfl; exact rfl; exact Sat.rdmapN (en := bC) false (by assumption) (by exact (by repeat' constructor)) L.ln.symm; (exact (by rw [L.ln]; exact hp)); exact hs; exact rfl; exact rfl; exact .z .bool) | (apply x_loadV (en := fun z : Bool => Value.bool z) (z := false) (l := gv); exact rfl; exact rfl; exact rfl; exact Old.now OG (by assumption); exact hp; exact hgv; exact rfl; exact rfl; exact .z .bool) | (apply x_nilP; exact rfl; exact rfl; exact rfl) | (apply x_callv; assumption; exact rfl; exact rfl; exact rfl; exact e_most1; (exact (by repeat' constructor)); (exact (hf ▸ hft hole p hh hp _ _ (by assumption))); intro _ _ _) | (apply x_move; exact rfl; exact rfl; (exact (by repeat' constructor))) | (apply x_assign; exact rfl; exact rfl; (exact (by repeat' constructor))) | (apply x_fieldB; exact rfl; exact rfl; exact rfl; exact rfl; (constructor)) | (apply x_load; assumption; exact rfl; exact rfl; exact rfl; (exact (by repeat' constructor)); exact rfl; exact rfl; (exact (by repeat' constructor))) | (apply x_bin; exact rfl; exact rfl; exact rfl; (first | exact .z (.wrap (by omega)) | exact (by repeat' constructor))) | (apply x_pick; exact rfl; exact rfl; exact rfl; (exact (by repeat' constructor))) | (apply x_un; exact rfl; exact rfl; exact rfl; (first | exact .z (.wrap (by omega)) | exact (by repeat' constructor))) | (apply x_index; exact rfl; exact rfl; exact rfl; exact rfl; exact rfl; (constructor); (first | omega | exact size_pos (by assumption) | assumption); (first | exact rfl | assumption | exact Rd.some_ (by assumption) (by omega) | exact Rd.some_ (Old.rd (by assumption)) (by omega) | exact (Sat.rd (by assumption) (by exact (by repeat' constructor))).some_ (by omega))) | (apply cw_true; exact rfl) | (apply x_dec; exact rfl; all_goals (intro _; try omega))))
          refine ⟨rfl, (by repeat (first | exact Agree.updl rfl (Agree.mask _ _ _) | refine Agree.upd rfl ?_)), ⟨p + 1, s1, hp, rfl, L.unfit (fun a => by rw [hAF a hole p hh hp] at hf; cases hf), by assumption⟩, ?_⟩
          show ny - (p + 1 : Int).toNat < ny - (p : Int).toNat
          omega
        | true =>
          have hset : (s1.map bC).set p (((s1.map bC).getD p []).set 0 (.bool true)) = (s1.set p true).map bC := by
            have e : (s1.map bC).getD p [] = bC (s1.getD p false) := by simp [List.getD_eq_getElem?_getD, L.ln, hp]
            rw [e, List.map_set]; rfl
          have lh0 := C.lh
          have lp0 := C.lp
          have es : ∀ j, gB (s1.set p true) j = if p = j then true else gB s1 j := fun j => gB_set (by rw [L.ln]; exact hp)
          have grew : ∀ q, gB sn q = true → gB (s1.set p true) q = true := fun q hq => by rw [es]; split <;> first | rfl | exact L.grew q hq
          have hn1 : ∀ q, q < ny → gI op q = hole → gB s1 q = true := fun q hq e => L.grew q (hn q hq e)
          by_cases ho0 : o < 0
          · have hf0 : gI op p = -1 := by have := C.rp p hp; simp only [gI] at this ⊢; omega
            have NP := FPost.mono (FPost.free C hh hp hs hgv hf0 hn1) L hn C hh
            (repeat' (first | apply cw_seq | apply cw_region | apply wl_nil | apply cw_block | apply cw_skip | apply cw_ret | (apply x_loadV (en := fun z : Int => Value.int .i64 z) (z := (-1 : Int)) (l := op) (v := o); exact rfl; exact rfl; exact rfl; exact Sat.rdmapN (en := zC) (-1 : Int) (by assumption) (by exact (by repeat' constructor)) C.lp.symm; (exact (by rw [C.lp]; exact hp)); exact ho; exact rfl; exact rfl; exact .z .int) | (apply x_loadV (en := fun z : Bool => Value.bool z) (z := false) (l := s1); exact rfl; exact rfl; exact rfl; exact Sat.rdmapN (en := bC) false (by assumption) (by exact (by repeat' constructor)) L.ln.symm; (exact (by rw [L.ln]; exact hp)); exact hs; exact rfl; exact rfl; exact .z .bool) | (apply x_loadV (en := fun z : Bool => Value.bool z) (z := false) (l := gv); exact rfl; exact rfl; exact rfl; exact Old.now OG (by assumption); exact hp; exact hgv; exact rfl; exact rfl; exact .z .bool) | (apply x_nilP; exact rfl; exact rfl; exact rfl) | (apply x_gdec; exact rfl; exact rfl; all_goals (intro _; try omega)) | (apply x_callv; assumption; exact rfl; exact rfl; exact rfl; exact e_most1; (exact (by repeat' constructor)); (exact (hf ▸ hft hole p hh hp _ _ (by assumption))); intro _ _ _) | (apply x_storeRowEA; assumption; exact rfl; exact rfl; (exact (by repeat' constructor)); exact rfl; exact rfl; (exact (by repeat' constructor)); (exact (by rw [List.length_map, L.ln]; exact hp)); (exact (by decide)); exact hset; intro _ _) | (apply y_nilP; exact rfl; exact rfl) | (apply z2_storeRow; exact rfl; exact rfl; (exact (by repeat' constructor)); exact rfl; exact rfl; (exact (by repeat' constructor)); (exact (by simp only [List.length_map]; first | omega | (have NP := r.yes hb; have l1 := NP.lh; have l2 := NP.lp; omega))); (exact (by decide))) | (apply cw_draw (id := 7) [(0, 0), (1, 0), (2, 0), (3, 0), (4, 0), (5, 0), (6, 0), (7, 0), (8, 0), (9, 0), (10, 0), (11, 0), (12, 0), (13, 2), (14, 0), (15, 2)]; assumption; exact mixed; kernel_rfl) | (apply x_not; exact rfl; exact rfl) | (apply x_move; exact rfl; exact rfl; (exact (by repeat' constructor))) | (apply x_assign; exact rfl; exact rfl; (exact (by repeat' constructor))) | (apply x_fieldB; exact rfl; exact rfl; exact rfl; exact rfl; (constructor)) | (apply x_load; assumption; exact rfl; exact rfl; exact rfl; (exact (by repeat' constructor)); exact rfl; exact rfl; (exact (by repeat' constructor))) | (apply x_bin; exact rfl; exact rfl; exact rfl; (first | exact .z (.wrap (by omega)) | exact (by repeat' constructor))) | (apply x_pick; exact rfl; exact rfl; exact rfl; (exact (by repeat' constructor))) | (apply x_un; exact rfl; exact rfl; exact rfl; (first | exact .z (.wrap (by omega)) | exact (by repeat' constructor))) | (apply x_index; exact rfl; exact rfl; exact rfl; exact rfl; exact rfl; (constructor); (first | omega | exact size_pos (by assumption) | assumption); (first | exact rfl | assumption | exact Rd.some_ (by assumption) (by omega) | exact Rd.some_ (Old.rd (by assumption)) (by omega) | exact (Sat.rd (by assumption) (by exact (by repeat' constructor))).some_ (by omega))) | (apply y_move; exact rfl; (exact (by repeat' constructor))) | (apply y_fieldB; exact rfl; exact rfl; exact rfl; (constructor)) | (apply y_load; exact rfl; exact rfl; (exact (by repeat' constructor)); exact rfl; exact rfl; (exact (by repeat' constructor))) | (apply y_index; exact rfl; exact rfl; exact rfl; exact rfl; (constructor); (first | omega | exact size_pos (by assumption) | assumption); (first | exact rfl | assumption | exact Rd.some_ (by assumption) (by omega) | exact Rd.some_ (Old.rd (by assumption)) (by omega) | exact (Sat.rd (by assumption) (by exact (by repeat' constructor))).some_ (by omega))) | (apply y_nil; intro _ _) | (apply cw_true; exact rfl) | (apply cw_false; exact rfl) | (apply x_dec; exact rfl; all_goals (intro _; try omega))))
            (first | refine q_retS (by assumption) rfl (by repeat (first | exact .nil | (apply RV.tmp; exact (by repeat' constructor)) | (apply RV.cell; exact rfl; exact (by repeat' constructor); exact rfl; exact rfl; exact (by repeat' constructor)))) ?_ | (simp only [thenQ, blockQ]; refine q_retS (by assumption) rfl (by repeat (first | exact .nil | (apply RV.tmp; exact (by repeat' constructor)) | (apply RV.cell; exact rfl; exact (by repeat' constructor); exact rfl; exact rfl; exact (by repeat' constructor)))) ?_))
            refine ⟨⟨true, oh.set hole p, op.set p hole, s1.set p true, by rw [List.length_set]; exact L.ln, grew, fun _ => NP, fun e => (by cases e), fun e => (by cases e), fun e => (by cases e)⟩, rfl, ?_⟩
            show Sat w0 M (.cl b2 79 [.pointer (some ⟨bm, 0, none⟩)] :: .cl b5' 82 [.slice N ny cN] :: .cl b6 94 [.func (.func 58) #[] #[.pointer (some ⟨b2, 0, none⟩), .pointer (some ⟨b5', 0, none⟩), .pointer (some ⟨b6, 0, none⟩)]] ::
   .cl bm 84 [.func (.func 36) #[] #[.pointer (some ⟨b3, 0, none⟩), .pointer (some ⟨b4, 0, none⟩), .pointer (some ⟨b5, 0, none⟩)], .slice H nx cH, .slice P ny cP, FX, .slice G ny cG] ::
   .rw 0 (.slice H nx cH) 3 1 (((oh.set hole p)).map zC) :: .rw 0 (.slice P ny cP) 3 1 (((op.set p hole)).map zC) :: .rw 0 (.slice N ny cN) 4 1 (((s1.set p true)).map bC) :: h) _
            rw [← rset C.lh hh, ← rset C.lp hp]
            assumption
          · obtain ⟨k, hko⟩ : ∃ k : Nat, o = k := ⟨o.toNat, by omega⟩
            have hk : k < nx := by have := C.rp p hp; simp only [gI] at this; omega
            have hlt : (uns ny (s1.set p true)).length < m := by
              have a := uns_set L.ln hp hs
              have b := uns_le (ny := ny) L.grew
              omega
            have hnk : ∀ q, q < ny → gI op q = k → gB (s1.set p true) q = true := fun q hq e => by
              have a := (C.eq k q hk hq).2 e
              have b := (C.eq k p hk hp).2 (ho.trans hko)
              rw [es, if_pos (by omega)]
            have ihc : ∀ w, Sat w0 M (.cl b2 79 [.pointer (some ⟨bm, 0, none⟩)] :: .cl b5' 82 [.slice N ny cN] :: .cl b6 94 [.func (.func 58) #[] #[.pointer (some ⟨b2, 0, none⟩), .pointer (some ⟨b5', 0, none⟩), .pointer (some ⟨b6, 0, none⟩)]] ::
   .cl bm 84 [.func (.func 36) #[] #[.pointer (some ⟨b3, 0, none⟩), .pointer (some ⟨b4, 0, none⟩), .pointer (some ⟨b5, 0, none⟩)], .slice H nx cH, .slice P ny cP, FX, .slice G ny cG] ::
   .rw 0 (.slice H nx cH) 3 1 (oh.map zC) :: .rw 0 (.slice P ny cP) 3 1 ((op).map zC) :: .rw 0 (.slice N ny cN) 4 1 ((s1.set p true).map bC) :: h) w → Calls Tryz.prog 58 #[.int .i64 o, .pointer (some ⟨b2, 0, none⟩), .pointer (some ⟨b5', 0, none⟩), .pointer (some ⟨b6, 0, none⟩)] w (RetP fun v w' => ∃ r : FRes nx ny gv (s1.set p true) AF k oh op, v = .bool r.b ∧ Sat w0 M (.cl b2 79 [.pointer (some ⟨bm, 0, none⟩)] :: .cl b5' 82 [.slice N ny cN] :: .cl b6 94 [.func (.func 58) #[] #[.pointer (some ⟨b2, 0, none⟩), .pointer (some ⟨b5', 0, none⟩), .pointer (some ⟨b6, 0, none⟩)]] ::
   .cl bm 84 [.func (.func 36) #[] #[.pointer (some ⟨b3, 0, none⟩), .pointer (some ⟨b4, 0, none⟩), .pointer (some ⟨b5, 0, none⟩)], .slice H nx cH, .slice P ny cP, FX, .slice G ny cG] ::
   .rw 0 (.slice H nx cH) 3 1 ((r.oh').map zC) :: .rw 0 (.slice P ny cP) 3 1 ((r.op').map zC) :: .rw 0 (.slice N ny cN) 4 1 ((r.sn').map bC) :: h) w') := fun w S => by
              rw [hko]
              exact ih _ hlt k oh op (s1.set p true) h w hk C (by rw [List.length_set]; exact L.ln) (Nat.le_refl _) hnk S
            (repeat' (first | apply cw_seq | apply cw_region | apply wl_nil | apply cw_block | apply cw_skip | apply cw_ret | (apply x_loadV (en := fun z : Int => Value.int .i64 z) (z := (-1 : Int)) (l := op) (v := o); exact rfl; exact rfl; exact rfl; exact Sat.rdmapN (en := zC) (-1 : Int) (by assumption) (by exact (by repeat' constructor)) C.lp.symm; (exact (by rw [C.lp]; exact hp)); exact ho; exact rfl; exact rfl; exact .z .int) | (apply x_loadV (en := fun z : Bool => Value.bool z) (z := false) (l := s1); exact rfl; exact rfl; exact rfl; exact Sat.rdmapN (en := bC) false (by assumption) (by exact (by repeat' constructor)) L.ln.symm; (exact (by rw [L.ln]; exact hp)); exact hs; exact rfl; exact rfl; exact .z .bool) | (apply x_loadV (en := fun z : Bool => Value.bool z) (z := false) (l := gv); exact rfl; exact rfl; exact rfl; exact Old.now OG (by assumption); exact hp; exact hgv; exact rfl; exact rfl; exact .z .bool) | (apply x_nilP; exact rfl; exact rfl; exact rfl) | (apply x_gdec; exact rfl; exact rfl; all_goals (intro _; try omega)) | (apply x_callv; assumption; exact rfl; exact rfl; exact rfl; exact e_most1; (exact (by repeat' constructor)); (exact (hf ▸ hft hole p hh hp _ _ (by assumption))); intro _ _ _) | (apply x_storeRowEA; assumption; exact rfl; exact rfl; (exact (by repeat' constructor)); exact rfl; exact rfl; (exact (by repeat' constructor)); (exact (by rw [List.length_map, L.ln]; exact hp)); (exact (by decide)); exact hset; intro _ _) | (apply y_nilP; exact rfl; exact rfl) | (apply z2_storeRow; exact rfl; exact rfl; (exact (by repeat' constructor)); exact rfl; exact rfl; (exact (by repeat' constructor)); (exact (by simp only [List.length_map]; first | omega | (have NP := r.yes hb; have l1 := NP.lh; have l2 := NP.lp; omega))); (exact (by decide))) | (apply x_call; exact rfl; exact rfl; exact rfl; exact e_find; (exact (by repeat' constructor)); (exact ihc _ (by assumption)); (rintro _ _ ⟨r, rfl, S2⟩; cases hb : r.b); (obtain ⟨e1, e2⟩ := r.no hb; rw [e1, e2] at S2)) | (apply cw_draw (id := 7) [(0, 0), (1, 0), (2, 0), (3, 0), (4, 0), (5, 0), (6, 0), (7, 0), (8, 0), (9, 0), (10, 0), (11, 0), (12, 0), (13, 2), (14, 0), (15, 2)]; assumption; exact mixed; kernel_rfl) | (apply x_move; exact rfl; exact rfl; (exact (by repeat' constructor))) | (apply x_assign; exact rfl; exact rfl; (exact (by repeat' constructor))) | (apply x_fieldB; exact rfl; exact rfl; exact rfl; exact rfl; (constructor)) | (apply x_load; assumption; exact rfl; exact rfl; exact rfl; (exact (by repeat' constructor)); exact rfl; exact rfl; (exact (by repeat' constructor))) | (apply x_bin; exact rfl; exact rfl; exact rfl; (first | exact .z (.wrap (by omega)) | exact (by repeat' constructor))) | (apply x_pick; exact rfl; exact rfl; exact rfl; (exact (by repeat' constructor))) | (apply x_un; exact rfl; exact rfl; exact rfl; (first | exact .z (.wrap (by omega)) | exact (by repeat' constructor))) | (apply x_index; exact rfl; exact rfl; exact rfl; exact rfl; exact rfl; (constructor); (first | omega | exact size_pos (by assumption) | assumption); (first | exact rfl | assumption | exact Rd.some_ (by assumption) (by omega) | exact Rd.some_ (Old.rd (by assumption)) (by omega) | exact (Sat.rd (by assumption) (by exact (by repeat' constructor))).some_ (by omega))) | (apply y_move; exact rfl; (exact (by repeat' constructor))) | (apply y_fieldB; exact rfl; exact rfl; exact rfl; (constructor)) | (apply y_load; exact rfl; exact rfl; (exact (by repeat' constructor)); exact rfl; exact rfl; (exact (by repeat' constructor))) | (apply y_index; exact rfl; exact rfl; exact rfl; exact rfl; (constructor); (first | omega | exact size_pos (by assumption) | assumption); (first | exact rfl | assumption | exact Rd.some_ (by assumption) (by omega) | exact Rd.some_ (Old.rd (by assumption)) (by omega) | exact (Sat.rd (by assumption) (by exact (by repeat' constructor))).some_ (by omega))) | (apply y_nil; intro _ _) | (apply cw_true; exact rfl) | (apply cw_false; exact rfl) | (apply x_dec; exact rfl; all_goals (intro _; try omega))))
            · refine ⟨rfl, (by repeat (first | exact Agree.updl rfl (Agree.mask _ _ _) | refine Agree.upd rfl ?_)), ⟨p + 1, r.sn', hp, rfl, L.fail hp (ho.trans hko) r hb, by assumption⟩, ?_⟩
              show ny - (p + 1 : Int).toNat < ny - (p : Int).toNat
              omega
            · (first | refine q_retS (by assumption) rfl (by repeat (first | exact .nil | (apply RV.tmp; exact (by repeat' constructor)) | (apply RV.cell; exact rfl; exact (by repeat' constructor); exact rfl; exact rfl; exact (by repeat' constructor)))) ?_ | (simp only [thenQ, blockQ]; refine q_retS (by assumption) rfl (by repeat (first | exact .nil | (apply RV.tmp; exact (by repeat' constructor)) | (apply RV.cell; exact rfl; exact (by repeat' constructor); exact rfl; exact rfl; exact (by repeat' constructor)))) ?_))
              have NP := FPost.mono (FPost.step C hh hk hp hs hgv L.ln (ho.trans hko) hn1 (r.yes hb)) L hn C hh
              refine ⟨⟨true, r.oh'.set hole p, r.op'.set p hole, r.sn', r.ln, fun q hq => r.grew q (grew q hq), fun _ => NP, fun e => (by cases e), fun e => (by cases e), fun e => (by cases e)⟩, rfl, ?_⟩
              show Sat w0 M (.cl b2 79 [.pointer (some ⟨bm, 0, none⟩)] :: .cl b5' 82 [.slice N ny cN] :: .cl b6 94 [.func (.func 58) #[] #[.pointer (some ⟨b2, 0, none⟩), .pointer (some ⟨b5', 0, none⟩), .pointer (some ⟨b6, 0, none⟩)]] ::
   .cl bm 84 [.func (.func 36) #[] #[.pointer (some ⟨b3, 0, none⟩), .pointer (some ⟨b4, 0, none⟩), .pointer (some ⟨b5, 0, none⟩)], .slice H nx cH, .slice P ny cP, FX, .slice G ny cG] ::
   .rw 0 (.slice H nx cH) 3 1 (((r.oh'.set hole p)).map zC) :: .rw 0 (.slice P ny cP) 3 1 (((r.op'.set p hole)).map zC) :: .rw 0 (.slice N ny cN) 4 1 ((r.sn').map bC) :: h) _
              rw [← rset (r.yes hb).lh hh, ← rset (r.yes hb).lp hp]
              assumption
  · have hpe : p = ny := by omega
    subst hpe
    (repeat' (first | apply cw_seq | apply cw_region | apply wl_nil | apply cw_exit | apply cw_ret | (apply x_assign; exact rfl; exact rfl; (exact (by repeat' constructor))) | (apply x_bin; exact rfl; exact rfl; exact rfl; (first | exact .z (.wrap (by omega)) | exact (by repeat' constructor))) | (apply x_dec; exact rfl; all_goals (intro _; try omega))))
    (first | refine q_retS (by assumption) rfl (by repeat (first | exact .nil | (apply RV.tmp; exact (by repeat' constructor)) | (apply RV.cell; exact rfl; exact (by repeat' constructor); exact rfl; exact rfl; exact (by repeat' constructor)))) ?_ | (simp only [thenQ, blockQ]; refine q_retS (by assumption) rfl (by repeat (first | exact .nil | (apply RV.tmp; exact (by repeat' constructor)) | (apply RV.cell; exact rfl; exact (by repeat' constructor); exact rfl; exact rfl; exact (by repeat' constructor)))) ?_))
    exact ⟨L.none nx hole oh, rfl, by assumption⟩
end Go.Proofs.YtdkknknebehkgaaGreatDoor.Sl
