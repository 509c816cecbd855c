/- All chains between two features: the program's search. No statement of the seat is proved here. -/
import Derived.Test.YtagapiflfnbfiaaJg
namespace Go.Proofs.Ytagapiflfnbfiaa
set_option linter.unusedVariables false
set_option linter.unusedSimpArgs false
open Go Go.RowKit
set_option maxRecDepth 100000 in
theorem e_CloneL : Ent Try.prog 47 := fun _ _ => rfl
set_option maxRecDepth 8000 in
theorem CloneL_c (A : Option Addr) (cA : Nat) (c : List Lk) (hl : c.length < 1000000000) (hp : 0 < c.length) (w : World) (R : Rd w A 2 c.length (fun i => lkC (c.getD i lk0))) :
    Calls Try.prog 47 #[.slice A c.length cA] w (RetP (RowR (fun v => v) 59 2 (c.map lkC) w)) := by
  refine calls_of_cw (args := [.slice A c.length cA]) Try.func47 rfl rfl ?_
  have S := Sat.start [] w
  have O := R.old
  obtain ⟨a, rfl⟩ := Option.isSome_iff_exists.1 (R.some_ hp)
  (repeat' (first | apply cw_seq | apply cw_region | apply wl_nil | apply cw_skip | apply cw_ret | (apply x_appendAllB (l := c) (en := lkC) lk0 lkC_len (Old.now O (by assumption)) hl hp; assumption; exact rfl; exact rfl; exact rfl; exact rfl; exact rfl; exact .inr ⟨_, rfl⟩; exact rfl; intro _ _ _ _ _) | (apply x_buildSlice0; assumption; exact rfl; exact rfl; exact rfl; intro _ _ _ _ _) | (apply x_move; exact rfl; exact rfl; (exact (by repeat' constructor))) | (apply x_assign; exact rfl; exact rfl; (exact (by repeat' constructor))) | (apply x_bin; exact rfl; exact rfl; exact rfl; (first | exact .z (.wrap (by omega)) | exact (by repeat' constructor))) | (apply cw_false; exact rfl)))
  (first | refine q_retS (by assumption) rfl (by repeat (first | exact .nil | (apply RV.tmp; exact (by repeat' constructor)) | (apply RV.cell; exact rfl; exact (by repeat' constructor); exact rfl; exact rfl; exact (by repeat' constructor)))) ?_ | (simp only [thenQ, blockQ]; refine q_retS (by assumption) rfl (by repeat (first | exact .nil | (apply RV.tmp; exact (by repeat' constructor)) | (apply RV.cell; exact rfl; exact (by repeat' constructor); exact rfl; exact rfl; exact (by repeat' constructor)))) ?_))
  exact rowR_n (V := fun v => v) (List.length_map _).symm (by assumption) .head
/-- what the search may look at -/
structure EnvG (w : World) (M : List Nat) (A : Option Addr) (cA : Nat) (l : List Dm) (L : List Lk) (ax : Int) (fr to : ByteArray) (b2 b3 b7 b8 b9 b10 bn bp : Nat) : Prop where
  Ol : Old w M A 5 l.length (fun i => dmC (l.getD i dm0))
  O2 : OldB w M b2 22 [.slice A l.length cA]
  O3 : OldB w M b3 36 [.int .i64 ax, .string fr, .string to]
  O7 : OldB w M b7 80 [.map (some bn)]
  O9 : OldB w M b9 85 [.map (some bp)]
  O10 : OldB w M b10 86 [.func (.func 46) #[] #[.pointer (some ⟨b3, 0, none⟩), .pointer (some ⟨b8, 0, none⟩), .pointer (some ⟨b7, 0, none⟩), .pointer (some ⟨b2, 0, none⟩), .pointer (some ⟨b9, 0, none⟩), .pointer (some ⟨b10, 0, none⟩)]]
  ON : NetOld w M l bn L
theorem EnvG.next {w0 w : World} {M : List Nat} {hc frs : List HO} {A : Option Addr} {cA : Nat} {l : List Dm} {L : List Lk} {ax : Int} {fr to : ByteArray} {b2 b3 b7 b8 b9 b10 bn bp : Nat} (E : EnvG w0 M A cA l L ax fr to b2 b3 b7 b8 b9 b10 bn bp) (S : Sat w0 M (hc ++ frs) w) : EnvG w (blks hc) A cA l L ax fr to b2 b3 b7 b8 b9 b10 bn bp :=
  ⟨E.Ol.next (fun i _ => by simp) S, E.O2.next S, E.O3.next S, E.O7.next S, E.O9.next S, E.O10.next S, E.ON.next S⟩
structure GR where
  rs : List OR
  A : Option Addr
  c : Nat
  m : Lit → Option Value
def hcG (Ac : Option Addr) (cc : Nat) (c : List Lk) (bp : Nat) (Ks : List Lit) (b8 : Nat) (q : GR) : List HO :=
  .rw 0 (.slice Ac c.length cc) 59 2 (c.map lkC) :: .pr bp (MapV Try.prog 9 Ks.length q.m) :: outFs b8 q.A q.c q.rs
/-- what the search leaves -/
def GOk (pass : List ByteArray) (Ks : List Lit) (out : List (List Lk)) (q : GR) : Prop := q.rs.map OR.xs = out ∧ q.rs.length ≤ 16384 ∧ PassM q.m pass ∧ KeysIn q.m Ks
theorem grow_backR {w0 w : World} {M : List Nat} {frs : List HO} {gA cc bp b8 : Nat} {c : List Lk} {y : Lk} {Ks : List Lit} {q : GR} (S : Sat w0 M (hcG (some ⟨gA, 0, none⟩) cc (c ++ [y]) bp Ks b8 q ++ frs) w) : Sat w0 M (hcG (some ⟨gA, 0, none⟩) cc c bp Ks b8 q) w := by
  have S1 := S.drop (hcG (some ⟨gA, 0, none⟩) cc (c ++ [y]) bp Ks b8 q) (List.sublist_append_left _ _)
  have S2 := S1.shrink (k := c.length) .head (by simp)
  have e : ((c ++ [y]).map lkC).take c.length = c.map lkC := by rw [List.map_append, List.take_append_of_le_length (by simp), List.take_of_length_le (by simp)]
  rw [e] at S2
  exact S2
theorem grow_backN {w0 w : World} {M : List Nat} {A2 Ac : Option Addr} {c2 cc bp b8 : Nat} {c : List Lk} {y : Lk} {Ks : List Lit} {q : GR} {x1 x2 : HO} (S : Sat w0 M (hcG A2 c2 (c ++ [y]) bp Ks b8 q ++ [x1, x2, .rw 0 (.slice Ac c.length cc) 59 2 (c.map lkC)]) w) : Sat w0 M (hcG Ac cc c bp Ks b8 q) w := by
  have S1 : Sat w0 M (.pr bp (MapV Try.prog 9 Ks.length q.m) :: outFs b8 q.A q.c q.rs ++ [x1, x2, .rw 0 (.slice Ac c.length cc) 59 2 (c.map lkC)]) w := S.drop1
  exact (S1.perm' List.perm_append_comm).drop1.drop1
set_option maxRecDepth 100000 in
theorem e_grow : Ent Try.prog 46 := fun _ _ => rfl
set_option maxRecDepth 8000 in
set_option maxHeartbeats 8000000 in
theorem grow_c (A : Option Addr) (cA : Nat) (l : List Dm) (hl : l.length ≤ 9223372036854775807) (ho : ∀ i, i < l.length → (dat l i).ok) (L : List Lk) (H : NetOk l L) (ax : Int) (fr to : ByteArray) (b2 b3 b7 b8 b9 b10 bn bp : Nat) (Ks : List Lit) (hKs : ∀ s ∈ L.map (stoE l), sK s ∈ Ks) (hKl : Ks.length ≤ 10000) :
    ∀ (f : Nat) (a : ByteArray) (c : List Lk) (pass : List ByteArray) (Ac : Option Addr) (cc : Nat) (q : GR) (w : World), need (L.map (stoE l)) pass < f → a.size ≤ 9223372036854775807 → (a = to → 0 < c.length) → c.length + need (L.map (stoE l)) pass ≤ 100000 → q.rs.length ≤ 16384 → PassM q.m pass → KeysIn q.m Ks →
      Sat w (blks (hcG Ac cc c bp Ks b8 q)) (hcG Ac cc c bp Ks b8 q) w → EnvG w (blks (hcG Ac cc c bp Ks b8 q)) A cA l L ax fr to b2 b3 b7 b8 b9 b10 bn bp →
      Calls Try.prog 46 #[.string a, .slice Ac c.length cc, .pointer (some ⟨b3, 0, none⟩), .pointer (some ⟨b8, 0, none⟩), .pointer (some ⟨b7, 0, none⟩), .pointer (some ⟨b2, 0, none⟩), .pointer (some ⟨b9, 0, none⟩), .pointer (some ⟨b10, 0, none⟩)] w
        (RetP fun v w' => ∃ q' : { q' : GR // GOk pass Ks (growS l (atS l L) to f a c pass (q.rs.map OR.xs)).1 q' }, v = .bool (growS l (atS l L) to f a c pass (q.rs.map OR.xs)).2 ∧ Sat w (blks (hcG Ac cc c bp Ks b8 q)) (hcG Ac cc c bp Ks b8 q'.1) w') := by
  intro f
  induction f with
  | zero => intro _ _ _ _ _ _ _ h; omega
  | succ f ih =>
    intro a c pass Ac cc q w hneed hsa hcp hcb hrs hpm hki S E
    generalize hM : blks (hcG Ac cc c bp Ks b8 q) = M at *
    obtain ⟨rs, Ao, co, m⟩ := q
    dsimp only at hrs hpm hki
    have E' := E
    obtain ⟨Ol, O2, O3, O7, O9, O10, ON⟩ := E'
    obtain ⟨nn, mn, On, hnet⟩ := ON.at_
    replace S : Sat w M (.rw 0 (.slice Ac c.length cc) 59 2 (c.map lkC) :: .pr bp (MapV Try.prog 9 Ks.length m) :: .cl b8 41 [.slice Ao rs.length co] :: .rw 0 (.slice Ao rs.length co) 23 1 (rs.map orV) :: rs.map orH) w := S
    refine calls_of_cw (args := [.string a, .slice Ac c.length cc, .pointer (some ⟨b3, 0, none⟩), .pointer (some ⟨b8, 0, none⟩), .pointer (some ⟨b7, 0, none⟩), .pointer (some ⟨b2, 0, none⟩), .pointer (some ⟨b9, 0, none⟩), .pointer (some ⟨b10, 0, none⟩)]) Try.func46 rfl rfl ?_
    by_cases hat : a = to
    · have hc0 := hcp hat
      by_cases hfull : rs.length = 16384
      · have hg : growS l (atS l L) to (f + 1) a c pass (rs.map OR.xs) = (rs.map OR.xs, false) := by rw [growS, if_pos hat, if_pos (by rw [List.length_map]; exact hfull)]
        dsimp only
        rw [hg]
        (repeat' (first | apply cw_seq | apply cw_region | apply wl_nil | apply cw_skip | apply cw_ret | (apply x_move; exact rfl; exact rfl; (exact (by repeat' constructor))) | (apply x_assign; exact rfl; exact rfl; (exact (by repeat' constructor))) | (apply x_fieldB; exact rfl; exact rfl; exact rfl; exact rfl; (constructor)) | (apply x_load; assumption; exact rfl; exact rfl; exact rfl; (exact (by repeat' constructor)); exact rfl; exact rfl; (exact (by repeat' constructor))) | (apply x_eqStr; exact rfl; exact rfl; exact rfl; exact rfl) | (apply x_bin; exact rfl; exact rfl; exact rfl; (first | exact .z (.wrap (by omega)) | exact (by repeat' constructor))) | (apply x_builtin; exact rfl; exact rfl; exact (fun _ => rfl); (exact (by repeat' constructor))) | (apply x_loadB; assumption; exact rfl; exact rfl; exact rfl; assumption; exact rfl; exact rfl; (exact (by repeat' constructor))) | (apply x_dec; exact rfl; all_goals (intro _; try omega))))
        all_goals first
          | exact absurd hat (by assumption)
          | (exfalso; omega)
          | ((first | refine q_retS (by assumption) rfl (by repeat (first | exact .nil | (apply RV.tmp; exact (by repeat' constructor)) | (apply RV.cell; exact rfl; exact (by repeat' constructor); exact rfl; exact rfl; exact (by repeat' constructor)))) ?_ | (simp only [thenQ, blockQ]; refine q_retS (by assumption) rfl (by repeat (first | exact .nil | (apply RV.tmp; exact (by repeat' constructor)) | (apply RV.cell; exact rfl; exact (by repeat' constructor); exact rfl; exact rfl; exact (by repeat' constructor)))) ?_))
             exact ⟨⟨⟨rs, Ao, co, m⟩, rfl, hrs, hpm, hki⟩, rfl, by assumption⟩)
      · have hg : growS l (atS l L) to (f + 1) a c pass (rs.map OR.xs) = (rs.map OR.xs ++ [c], true) := by rw [growS, if_pos hat, if_neg (by rw [List.length_map]; exact hfull)]
        dsimp only
        rw [hg]
        have hc9 : c.length < 1000000000 := by omega
        have hr9 : (rs.map orV).length < 1000000000 := by rw [List.length_map]; omega
        (repeat' (first | apply cw_seq | apply cw_region | apply wl_nil | apply cw_skip | apply cw_ret | (apply z1_callrow; exact rfl; exact rfl; exact e_CloneL; (exact (by repeat' constructor)); (with_reducible exact (fun _ Sx => CloneL_c Ac cc c hc9 hc0 _ (Sat.rdmapN lk0 Sx (by exact (by repeat' constructor)) rfl))); intro _ _) | (apply cw_draw (id := 4) [(0, 0), (1, 0), (2, 1), (3, 1), (4, 2), (5, 2)]; assumption; exact mixed; kernel_rfl) | (apply x_move; exact rfl; exact rfl; (exact (by repeat' constructor))) | (apply x_assign; exact rfl; exact rfl; (exact (by repeat' constructor))) | (apply x_fieldB; exact rfl; exact rfl; exact rfl; exact rfl; (constructor)) | (apply x_load; assumption; exact rfl; exact rfl; exact rfl; (exact (by repeat' constructor)); exact rfl; exact rfl; (exact (by repeat' constructor))) | (apply x_eqStr; exact rfl; exact rfl; exact rfl; exact rfl) | (apply x_bin; exact rfl; exact rfl; exact rfl; (first | exact .z (.wrap (by omega)) | exact (by repeat' constructor))) | (apply x_builtin; exact rfl; exact rfl; exact (fun _ => rfl); (exact (by repeat' constructor))) | (apply x_loadB; assumption; exact rfl; exact rfl; exact rfl; assumption; exact rfl; exact rfl; (exact (by repeat' constructor))) | (apply z2_append1; exact rfl; exact rfl; exact rfl; exact rfl; exact (by repeat' constructor); exact (by repeat' constructor); exact rfl; exact rfl; exact rfl; (first | assumption | omega | (simp; omega)); intro _ _) | (apply y_move; exact rfl; (exact (by repeat' constructor))) | (apply y_load; exact rfl; exact rfl; (exact (by repeat' constructor)); exact rfl; exact rfl; (exact (by repeat' constructor))) | (apply z1_buildSlice; exact rfl; exact rfl; (exact (by repeat' constructor)); intro _) | (apply z2_store; exact rfl; exact rfl; (exact (by repeat' constructor)); (exact (by repeat' constructor)); exact rfl; exact rfl; exact rfl; (exact (by repeat' constructor))) | (apply y_nil; intro _ _) | (apply x_dec; exact rfl; all_goals (intro _; try omega))))
        all_goals first
          | exact absurd hat (by assumption)
          | skip
        rename_i A2 c2 bX g2 cap2 w5 S5
        (first | refine q_retS (by assumption) rfl (by repeat (first | exact .nil | (apply RV.tmp; exact (by repeat' constructor)) | (apply RV.cell; exact rfl; exact (by repeat' constructor); exact rfl; exact rfl; exact (by repeat' constructor)))) ?_ | (simp only [thenQ, blockQ]; refine q_retS (by assumption) rfl (by repeat (first | exact .nil | (apply RV.tmp; exact (by repeat' constructor)) | (apply RV.cell; exact rfl; exact (by repeat' constructor); exact rfl; exact rfl; exact (by repeat' constructor)))) ?_))
        have S7 := S5.drop1.perm' (List.perm_append_comm (l₁ := [_]) (l₂ := _))
        refine ⟨⟨⟨rs ++ [⟨A2, c2, c⟩], some ⟨g2, 0, none⟩, cap2, m⟩, by simp, by simp; omega, hpm, hki⟩, rfl, Sat.cast ?_ S7⟩
        simp [hcG, outFs, orV, orH]
        exact rfl
    · have hg : growS l (atS l L) to (f + 1) a c pass (rs.map OR.xs) = growLs l (growS l (atS l L) to f) c pass (atS l L a) (rs.map OR.xs) := by rw [growS, if_neg hat]
      dsimp only
      rw [hg]
      have hxl : (atS l L a).length ≤ 1000 := Nat.le_trans atS_len H.few
      obtain ⟨An, cn, hvn, On3⟩ := hnet a
      (repeat' (first | apply cw_seq | apply cw_region | apply wl_nil | apply cw_block | apply cw_skip | apply cw_ret | (apply x_lookV; exact rfl; exact rfl; exact rfl; exact kS; exact rfl; exact rfl; exact On.now (by assumption); exact keyS hsa; exact trivial; exact hvn) | (apply cw_draw (id := 4) [(0, 0), (1, 0), (2, 1), (3, 1), (4, 2), (5, 2)]; assumption; exact mixed; kernel_rfl) | (apply x_move; exact rfl; exact rfl; (exact (by repeat' constructor))) | (apply x_assign; exact rfl; exact rfl; (exact (by repeat' constructor))) | (apply x_fieldB; exact rfl; exact rfl; exact rfl; exact rfl; (constructor)) | (apply x_load; assumption; exact rfl; exact rfl; exact rfl; (exact (by repeat' constructor)); exact rfl; exact rfl; (exact (by repeat' constructor))) | (apply x_eqStr; exact rfl; exact rfl; exact rfl; exact rfl) | (apply x_bin; exact rfl; exact rfl; exact rfl; (first | exact .z (.wrap (by omega)) | exact (by repeat' constructor))) | (apply x_builtin; exact rfl; exact rfl; exact (fun _ => rfl); (exact (by repeat' constructor))) | (apply x_loadB; assumption; exact rfl; exact rfl; exact rfl; assumption; exact rfl; exact rfl; (exact (by repeat' constructor))) | (apply y_move; exact rfl; (exact (by repeat' constructor))) | (apply y_load; exact rfl; exact rfl; (exact (by repeat' constructor)); exact rfl; exact rfl; (exact (by repeat' constructor))) | (apply x_dec; exact rfl; all_goals (intro _; try omega))))
      all_goals first
        | exact absurd (by assumption) hat
        | skip
      refine cw_loop [10, 12, 13, 14, 15, 32, 33, 34, 35, 36, 37, 38, 39, 40, 41, 42, 43, 44, 45, 46, 47, 48, 49, 50, 51, 52, 53, 54, 55, 56, 57, 58] [32] (fun us wr => ∃ (j : Nat) (q : GR), j ≤ (atS l L a).length ∧ us = [.int .i64 (j : Int)] ∧ growLs l (growS l (atS l L) to f) c pass ((atS l L a).drop j) (q.rs.map OR.xs) = growLs l (growS l (atS l L) to f) c pass (atS l L a) (rs.map OR.xs) ∧ q.rs.length ≤ 16384 ∧ PassM q.m pass ∧ KeysIn q.m Ks ∧ Sat w M (hcG Ac cc c bp Ks b8 q) wr)
        (fun us _ => (atS l L a).length - (intOf (us.getD 0 undef)).toNat) ?_ ?_
      · exact ⟨0, ⟨rs, Ao, co, m⟩, Nat.zero_le _, rfl, rfl, hrs, hpm, hki, by assumption⟩
      clear S hpm hki hrs
      rintro g' us wr ⟨j, ⟨rs1, Ao1, co1, m1⟩, hj, rfl, hfe, hrs, hpm, hki, S⟩
      dsimp only at hfe hrs hpm hki
      by_cases hlt : j < (atS l L a).length
      · have hxm : (atS l L a).getD j lk0 ∈ atS l L a := by rw [List.getD_eq_getElem?_getD, List.getElem?_eq_getElem hlt]; exact List.getElem_mem hlt
        have hxin : inR l ((atS l L a).getD j lk0) := H.inr _ (atS_mem.1 hxm).1
        have hsx : (stoE l ((atS l L a).getD j lk0)).size ≤ 9223372036854775807 := sto_ok ho hxin
        have hxK := (H.at_ a _ hxm).1
        have hv1 := hpm (stoE l ((atS l L a).getD j lk0))
        rw [drop_getL hlt, growLs] at hfe
        replace S : Sat w M (.rw 0 (.slice Ac c.length cc) 59 2 (c.map lkC) :: .pr bp (MapV Try.prog 9 Ks.length m1) :: .cl b8 41 [.slice Ao1 rs1.length co1] :: .rw 0 (.slice Ao1 rs1.length co1) 23 1 (rs1.map orV) :: rs1.map orH) wr := S
        cases hps : hasB pass (stoE l ((atS l L a).getD j lk0)) with
        | true =>
          rw [hps] at hv1
          rw [if_pos hps] at hfe
          (repeat' (first | apply cw_seq | apply cw_region | apply wl_nil | apply cw_block | apply cw_skip | apply cw_exit | (apply x_callv; assumption; exact rfl; exact rfl; exact rfl; exact e_ends; (exact (by repeat' constructor)); with_reducible exact (ends_c A cA l hl ho _ hxin _ (Old.now Ol (by assumption))); intro _ _ _) | (apply x_lookV; exact rfl; exact rfl; exact rfl; exact kS; exact rfl; exact rfl; exact Sat.prAt (by assumption) (by exact (by repeat' constructor)); exact keyS hsx; exact trivial; exact hv1) | (apply x_move; exact rfl; exact rfl; (exact (by repeat' constructor))) | (apply x_assign; exact rfl; exact rfl; (exact (by repeat' constructor))) | (apply x_load; assumption; exact rfl; exact rfl; exact rfl; (exact (by repeat' constructor)); exact rfl; exact rfl; (exact (by repeat' constructor))) | (apply x_bin; exact rfl; exact rfl; exact rfl; (first | exact .z (.wrap (by omega)) | exact (by repeat' constructor))) | (apply x_alloc; assumption; exact rfl; exact rfl; exact rfl; (exact (by repeat' constructor)); intro _ _ _) | (apply x_store; assumption; exact rfl; exact rfl; (exact (by repeat' constructor)); (exact (by repeat' constructor)); exact rfl; exact rfl; exact rfl; (exact (by repeat' constructor)); intro _ _) | (apply x_extract; exact rfl; exact rfl; exact rfl; (exact (by repeat' constructor))) | (apply x_loadB; assumption; exact rfl; exact rfl; exact rfl; assumption; exact rfl; exact rfl; (exact (by repeat' constructor))) | (apply x_index; exact rfl; exact rfl; exact rfl; exact rfl; exact rfl; (constructor); (first | omega | exact size_pos (by assumption) | assumption); (first | exact rfl | assumption | exact Rd.some_ (by assumption) (by omega) | exact Rd.some_ (Old.rd (by assumption)) (by omega) | exact (Sat.rd (by assumption) (by exact (by repeat' constructor))).some_ (by omega))) | (apply x_loadR; exact rfl; exact rfl; exact rfl; (first | exact Old.now (by assumption) (by assumption) | exact Sat.rdpr (by assumption) (by exact (by repeat' constructor)) | exact Sat.rd (by assumption) (by exact (by repeat' constructor))); (first | omega | exact size_pos (by assumption) | assumption); exact rfl; exact rfl; (exact (by repeat' constructor))) | (apply cw_true; exact rfl) | (apply x_dec; exact rfl; all_goals (intro _; try omega))))
          refine ⟨rfl, (by repeat (first | exact Agree.updl rfl (Agree.mask _ _ _) | refine Agree.upd rfl ?_)), ⟨j + 1, ⟨rs1, Ao1, co1, m1⟩, hlt, rfl, hfe, hrs, hpm, hki, Sat.drop1 (by assumption)⟩, ?_⟩
          show (atS l L a).length - (j + 1 : Int).toNat < (atS l L a).length - (j : Int).toNat
          omega
        | false =>
          rw [hps] at hv1
          rw [if_neg (by rw [hps]; decide)] at hfe
          have hnl := need_lt hxK hps
          have hin := hKs _ hxK
          have hc9 : (c.map lkC).length < 1000000000 := by rw [List.length_map]; omega
          have hm1 : (c.map lkC).length + 1 = (c ++ [(atS l L a).getD j lk0]).length := by simp
          have hys : c.map lkC ++ [lkC ((atS l L a).getD j lk0)] = (c ++ [(atS l L a).getD j lk0]).map lkC := by simp
          have hcb2 : (c ++ [(atS l L a).getD j lk0]).length + need (L.map (stoE l)) (stoE l ((atS l L a).getD j lk0) :: pass) ≤ 100000 := by
            have h5 : (c ++ [(atS l L a).getD j lk0]).length = c.length + 1 := by simp
            omega
          have hpos : stoE l ((atS l L a).getD j lk0) = to → 0 < (c ++ [(atS l L a).getD j lk0]).length := fun _ => by simp
          by_cases hroom : c.length < cc
          · obtain ⟨gA, rfl⟩ : ∃ gA, Ac = some ⟨gA, 0, none⟩ := by
              rcases (S.ok _ List.mem_cons_self).2.2.2 with ⟨hv, _⟩ | ⟨g2, cap, cur, hv, _⟩
              · injection hv with h1 h2 h3; omega
              · injection hv with h1 h2 h3; exact ⟨g2, h1⟩
            (repeat' (first | apply cw_seq | apply cw_region | apply wl_nil | apply cw_block | apply cw_skip | apply cw_ret | (apply x_callv; assumption; exact rfl; exact rfl; exact rfl; exact e_ends; (exact (by repeat' constructor)); with_reducible exact (ends_c A cA l hl ho _ hxin _ (Old.now Ol (by assumption))); intro _ _ _) | (apply x_lookV; exact rfl; exact rfl; exact rfl; exact kS; exact rfl; exact rfl; exact Sat.prAt (by assumption) (by exact (by repeat' constructor)); exact keyS hsx; exact trivial; exact hv1) | (apply x_putVK; assumption; exact rfl; exact rfl; exact kS; exact rfl; exact rfl; (exact (by repeat' constructor)); (exact (by repeat' constructor)); (exact (by unfold maxLen; omega)); exact keyS hsx; exact hki; exact hin; intro _ _) | (apply z2_appendRoomE hroom hm1 hys; exact rfl; exact rfl; exact rfl; exact rfl; (exact (by repeat' constructor)); (exact (by repeat' constructor)); exact rfl; exact rfl; exact rfl; exact hc9) | (apply z2_callC (hc := hcG (some ⟨gA, 0, none⟩) (cc) (c ++ [(atS l L a).getD j lk0]) bp Ks b8 ⟨rs1, Ao1, co1, putV m1 (sK (stoE l ((atS l L a).getD j lk0))) (.bool true)⟩) (fr := [_, _]); exact rfl; exact rfl; exact e_grow; (exact (by repeat' constructor)); exact (List.perm_append_comm (l₁ := [_, _]) (l₂ := hcG _ _ _ _ _ _ ⟨rs1, Ao1, co1, _⟩)); exact (fun w Sx Sp => ih (stoE l ((atS l L a).getD j lk0)) (c ++ [(atS l L a).getD j lk0]) (stoE l ((atS l L a).getD j lk0) :: pass) (some ⟨gA, 0, none⟩) (cc) ⟨rs1, Ao1, co1, putV m1 (sK (stoE l ((atS l L a).getD j lk0))) (.bool true)⟩ w (by omega) hsx hpos hcb2 hrs (hpm.on _) (hki.put hin) Sp (E.next Sx)); rintro ⟨⟨rs2, Ao2, co2, m2⟩, hq1, hq2, hq3, hq4⟩; dsimp only at hq1 hq2 hq3 hq4) | (apply x_putVK; assumption; exact rfl; exact rfl; exact kS; exact rfl; exact rfl; (exact (by repeat' constructor)); (exact (by repeat' constructor)); (exact (by unfold maxLen; omega)); exact keyS hsx; exact hq4; exact hin; intro _ _) | (apply cw_draw (id := 12) [(0, 3), (1, 0), (2, 0), (3, 0), (4, 1), (5, 2), (6, 2), (7, 0)]; assumption; exact mixed; kernel_rfl) | (apply x_move; exact rfl; exact rfl; (exact (by repeat' constructor))) | (apply x_assign; exact rfl; exact rfl; (exact (by repeat' constructor))) | (apply x_load; assumption; exact rfl; exact rfl; exact rfl; (exact (by repeat' constructor)); exact rfl; exact rfl; (exact (by repeat' constructor))) | (apply x_bin; exact rfl; exact rfl; exact rfl; (first | exact .z (.wrap (by omega)) | exact (by repeat' constructor))) | (apply x_un; exact rfl; exact rfl; exact rfl; (first | exact .z (.wrap (by omega)) | exact (by repeat' constructor))) | (apply x_alloc; assumption; exact rfl; exact rfl; exact rfl; (exact (by repeat' constructor)); intro _ _ _) | (apply x_store; assumption; exact rfl; exact rfl; (exact (by repeat' constructor)); (exact (by repeat' constructor)); exact rfl; exact rfl; exact rfl; (exact (by repeat' constructor)); intro _ _) | (apply x_extract; exact rfl; exact rfl; exact rfl; (exact (by repeat' constructor))) | (apply x_loadB; assumption; exact rfl; exact rfl; exact rfl; assumption; exact rfl; exact rfl; (exact (by repeat' constructor))) | (apply x_index; exact rfl; exact rfl; exact rfl; exact rfl; exact rfl; (constructor); (first | omega | exact size_pos (by assumption) | assumption); (first | exact rfl | assumption | exact Rd.some_ (by assumption) (by omega) | exact Rd.some_ (Old.rd (by assumption)) (by omega) | exact (Sat.rd (by assumption) (by exact (by repeat' constructor))).some_ (by omega))) | (apply x_loadR; exact rfl; exact rfl; exact rfl; (first | exact Old.now (by assumption) (by assumption) | exact Sat.rdpr (by assumption) (by exact (by repeat' constructor)) | exact Sat.rd (by assumption) (by exact (by repeat' constructor))); (first | omega | exact size_pos (by assumption) | assumption); exact rfl; exact rfl; (exact (by repeat' constructor))) | (apply y_move; exact rfl; (exact (by repeat' constructor))) | (apply y_assign; exact rfl; (exact (by repeat' constructor))) | (apply y_load; exact rfl; exact rfl; (exact (by repeat' constructor)); exact rfl; exact rfl; (exact (by repeat' constructor))) | (apply y_loadB; exact rfl; exact rfl; assumption; exact rfl; exact rfl; (exact (by repeat' constructor))) | (apply z1_buildSlice; exact rfl; exact rfl; (exact (by repeat' constructor)); intro _) | (apply PV.up3) | (apply y_nil; intro _ _) | (apply cw_false; exact rfl) | (apply x_dec; exact rfl; all_goals (intro _; try omega)) | (apply cw_not; exact rfl; all_goals (intro _; try omega))))
            · have hr : (growS l (atS l L) to f (stoE l ((atS l L a).getD j lk0)) (c ++ [(atS l L a).getD j lk0]) (stoE l ((atS l L a).getD j lk0) :: pass) (rs1.map OR.xs)).2 = false := by assumption
              rw [if_neg (by rw [hr]; decide)] at hfe
              rename_i w9 S9 _
              (first | refine q_retS (by assumption) rfl (by repeat (first | exact .nil | (apply RV.tmp; exact (by repeat' constructor)) | (apply RV.cell; exact rfl; exact (by repeat' constructor); exact rfl; exact rfl; exact (by repeat' constructor)))) ?_ | (simp only [thenQ, blockQ]; refine q_retS (by assumption) rfl (by repeat (first | exact .nil | (apply RV.tmp; exact (by repeat' constructor)) | (apply RV.cell; exact rfl; exact (by repeat' constructor); exact rfl; exact rfl; exact (by repeat' constructor)))) ?_))
              rw [← hfe]
              exact ⟨⟨⟨rs2, Ao2, co2, putV m2 (sK (stoE l ((atS l L a).getD j lk0))) (.bool false)⟩, hq1, hq2, hq3.off hps, hq4.put hin⟩, rfl, grow_backR (q := ⟨rs2, Ao2, co2, putV m2 (sK (stoE l ((atS l L a).getD j lk0))) (.bool false)⟩) S9⟩
            · have hr : (growS l (atS l L) to f (stoE l ((atS l L a).getD j lk0)) (c ++ [(atS l L a).getD j lk0]) (stoE l ((atS l L a).getD j lk0) :: pass) (rs1.map OR.xs)).2 = true := by first | assumption | exact Bool.not_eq_false _ ▸ (by assumption)
              rw [if_pos hr, ← hq1] at hfe
              rename_i w9 S9 _
              refine ⟨rfl, (by repeat (first | exact Agree.updl rfl (Agree.mask _ _ _) | refine Agree.upd rfl ?_ | refine Agree.updl rfl ?_ | refine Agree.maskIn rfl ?_)), ⟨j + 1, ⟨rs2, Ao2, co2, putV m2 (sK (stoE l ((atS l L a).getD j lk0))) (.bool false)⟩, hlt, rfl, hfe, hq2, hq3.off hps, hq4.put hin, grow_backR (q := ⟨rs2, Ao2, co2, putV m2 (sK (stoE l ((atS l L a).getD j lk0))) (.bool false)⟩) S9⟩, ?_⟩
              show (atS l L a).length - (j + 1 : Int).toNat < (atS l L a).length - (j : Int).toNat
              omega
          · (repeat' (first | apply cw_seq | apply cw_region | apply wl_nil | apply cw_block | apply cw_skip | apply cw_ret | (apply x_callv; assumption; exact rfl; exact rfl; exact rfl; exact e_ends; (exact (by repeat' constructor)); with_reducible exact (ends_c A cA l hl ho _ hxin _ (Old.now Ol (by assumption))); intro _ _ _) | (apply x_lookV; exact rfl; exact rfl; exact rfl; exact kS; exact rfl; exact rfl; exact Sat.prAt (by assumption) (by exact (by repeat' constructor)); exact keyS hsx; exact trivial; exact hv1) | (apply x_putVK; assumption; exact rfl; exact rfl; exact kS; exact rfl; exact rfl; (exact (by repeat' constructor)); (exact (by repeat' constructor)); (exact (by unfold maxLen; omega)); exact keyS hsx; exact hki; exact hin; intro _ _) | (apply z2_appendNewE hroom hm1 hys; exact rfl; exact rfl; exact rfl; exact rfl; (exact (by repeat' constructor)); (exact (by repeat' constructor)); exact rfl; exact rfl; exact rfl; exact hc9; intro gA cA2) | (apply z2_callC (hc := hcG (some ⟨gA, 0, none⟩) (cA2) (c ++ [(atS l L a).getD j lk0]) bp Ks b8 ⟨rs1, Ao1, co1, putV m1 (sK (stoE l ((atS l L a).getD j lk0))) (.bool true)⟩) (fr := [_, _, _]); exact rfl; exact rfl; exact e_grow; (exact (by repeat' constructor)); exact (List.Perm.cons _ (List.perm_append_comm (l₁ := [_, _, _]) (l₂ := _ :: outFs _ _ _ rs1))); exact (fun w Sx Sp => ih (stoE l ((atS l L a).getD j lk0)) (c ++ [(atS l L a).getD j lk0]) (stoE l ((atS l L a).getD j lk0) :: pass) (some ⟨gA, 0, none⟩) (cA2) ⟨rs1, Ao1, co1, putV m1 (sK (stoE l ((atS l L a).getD j lk0))) (.bool true)⟩ w (by omega) hsx hpos hcb2 hrs (hpm.on _) (hki.put hin) Sp (E.next Sx)); rintro ⟨⟨rs2, Ao2, co2, m2⟩, hq1, hq2, hq3, hq4⟩; dsimp only at hq1 hq2 hq3 hq4) | (apply x_putVK; assumption; exact rfl; exact rfl; exact kS; exact rfl; exact rfl; (exact (by repeat' constructor)); (exact (by repeat' constructor)); (exact (by unfold maxLen; omega)); exact keyS hsx; exact hq4; exact hin; intro _ _) | (apply cw_draw (id := 12) [(0, 3), (1, 0), (2, 0), (3, 0), (4, 1), (5, 2), (6, 2), (7, 0)]; assumption; exact mixed; kernel_rfl) | (apply x_move; exact rfl; exact rfl; (exact (by repeat' constructor))) | (apply x_assign; exact rfl; exact rfl; (exact (by repeat' constructor))) | (apply x_load; assumption; exact rfl; exact rfl; exact rfl; (exact (by repeat' constructor)); exact rfl; exact rfl; (exact (by repeat' constructor))) | (apply x_bin; exact rfl; exact rfl; exact rfl; (first | exact .z (.wrap (by omega)) | exact (by repeat' constructor))) | (apply x_un; exact rfl; exact rfl; exact rfl; (first | exact .z (.wrap (by omega)) | exact (by repeat' constructor))) | (apply x_alloc; assumption; exact rfl; exact rfl; exact rfl; (exact (by repeat' constructor)); intro _ _ _) | (apply x_store; assumption; exact rfl; exact rfl; (exact (by repeat' constructor)); (exact (by repeat' constructor)); exact rfl; exact rfl; exact rfl; (exact (by repeat' constructor)); intro _ _) | (apply x_extract; exact rfl; exact rfl; exact rfl; (exact (by repeat' constructor))) | (apply x_loadB; assumption; exact rfl; exact rfl; exact rfl; assumption; exact rfl; exact rfl; (exact (by repeat' constructor))) | (apply x_index; exact rfl; exact rfl; exact rfl; exact rfl; exact rfl; (constructor); (first | omega | exact size_pos (by assumption) | assumption); (first | exact rfl | assumption | exact Rd.some_ (by assumption) (by omega) | exact Rd.some_ (Old.rd (by assumption)) (by omega) | exact (Sat.rd (by assumption) (by exact (by repeat' constructor))).some_ (by omega))) | (apply x_loadR; exact rfl; exact rfl; exact rfl; (first | exact Old.now (by assumption) (by assumption) | exact Sat.rdpr (by assumption) (by exact (by repeat' constructor)) | exact Sat.rd (by assumption) (by exact (by repeat' constructor))); (first | omega | exact size_pos (by assumption) | assumption); exact rfl; exact rfl; (exact (by repeat' constructor))) | (apply y_move; exact rfl; (exact (by repeat' constructor))) | (apply y_assign; exact rfl; (exact (by repeat' constructor))) | (apply y_load; exact rfl; exact rfl; (exact (by repeat' constructor)); exact rfl; exact rfl; (exact (by repeat' constructor))) | (apply y_loadB; exact rfl; exact rfl; assumption; exact rfl; exact rfl; (exact (by repeat' constructor))) | (apply z1_buildSlice; exact rfl; exact rfl; (exact (by repeat' constructor)); intro _) | (apply PV.up3) | (apply y_nil; intro _ _) | (apply cw_false; exact rfl) | (apply x_dec; exact rfl; all_goals (intro _; try omega)) | (apply cw_not; exact rfl; all_goals (intro _; try omega))))
            · have hr : (growS l (atS l L) to f (stoE l ((atS l L a).getD j lk0)) (c ++ [(atS l L a).getD j lk0]) (stoE l ((atS l L a).getD j lk0) :: pass) (rs1.map OR.xs)).2 = false := by assumption
              rw [if_neg (by rw [hr]; decide)] at hfe
              rename_i w9 S9 _
              (first | refine q_retS (by assumption) rfl (by repeat (first | exact .nil | (apply RV.tmp; exact (by repeat' constructor)) | (apply RV.cell; exact rfl; exact (by repeat' constructor); exact rfl; exact rfl; exact (by repeat' constructor)))) ?_ | (simp only [thenQ, blockQ]; refine q_retS (by assumption) rfl (by repeat (first | exact .nil | (apply RV.tmp; exact (by repeat' constructor)) | (apply RV.cell; exact rfl; exact (by repeat' constructor); exact rfl; exact rfl; exact (by repeat' constructor)))) ?_))
              rw [← hfe]
              exact ⟨⟨⟨rs2, Ao2, co2, putV m2 (sK (stoE l ((atS l L a).getD j lk0))) (.bool false)⟩, hq1, hq2, hq3.off hps, hq4.put hin⟩, rfl, grow_backN (q := ⟨rs2, Ao2, co2, putV m2 (sK (stoE l ((atS l L a).getD j lk0))) (.bool false)⟩) S9⟩
            · have hr : (growS l (atS l L) to f (stoE l ((atS l L a).getD j lk0)) (c ++ [(atS l L a).getD j lk0]) (stoE l ((atS l L a).getD j lk0) :: pass) (rs1.map OR.xs)).2 = true := by first | assumption | exact Bool.not_eq_false _ ▸ (by assumption)
              rw [if_pos hr, ← hq1] at hfe
              rename_i w9 S9 _
              refine ⟨rfl, (by repeat (first | exact Agree.updl rfl (Agree.mask _ _ _) | refine Agree.upd rfl ?_ | refine Agree.updl rfl ?_ | refine Agree.maskIn rfl ?_)), ⟨j + 1, ⟨rs2, Ao2, co2, putV m2 (sK (stoE l ((atS l L a).getD j lk0))) (.bool false)⟩, hlt, rfl, hfe, hq2, hq3.off hps, hq4.put hin, grow_backN (q := ⟨rs2, Ao2, co2, putV m2 (sK (stoE l ((atS l L a).getD j lk0))) (.bool false)⟩) S9⟩, ?_⟩
              show (atS l L a).length - (j + 1 : Int).toNat < (atS l L a).length - (j : Int).toNat
              omega
      · have hjl : j = (atS l L a).length := by omega
        subst hjl
        rw [List.drop_length] at hfe
        rw [← hfe]
        (repeat' (first | apply cw_seq | apply cw_region | apply wl_nil | apply cw_exit | apply cw_ret | (apply x_assign; exact rfl; exact rfl; (exact (by repeat' constructor))) | (apply x_bin; exact rfl; exact rfl; exact rfl; (first | exact .z (.wrap (by omega)) | exact (by repeat' constructor))) | (apply x_dec; exact rfl; all_goals (intro _; try omega))))
        (first | refine q_retS (by assumption) rfl (by repeat (first | exact .nil | (apply RV.tmp; exact (by repeat' constructor)) | (apply RV.cell; exact rfl; exact (by repeat' constructor); exact rfl; exact rfl; exact (by repeat' constructor)))) ?_ | (simp only [thenQ, blockQ]; refine q_retS (by assumption) rfl (by repeat (first | exact .nil | (apply RV.tmp; exact (by repeat' constructor)) | (apply RV.cell; exact rfl; exact (by repeat' constructor); exact rfl; exact rfl; exact (by repeat' constructor)))) ?_))
        exact ⟨⟨⟨rs1, Ao1, co1, m1⟩, rfl, hrs, hpm, hki⟩, rfl, S⟩
end Go.Proofs.Ytagapiflfnbfiaa
