/- Records of calibrations: the chain's iterator. No statement of the seat is proved here. -/
import Derived.Test.YtnndkdcciojpiaaKd
import Derived.Test.YtnndkdcciojpiaaEngW
namespace Go.Proofs.Ytnndkdcciojpiaa
set_option linter.unusedVariables false
set_option linter.unusedSimpArgs false
open Go Go.RowKit
abbrev bE (b : Bool) : List Value := [.bool b]
theorem set_bE {bs : List Bool} {i : Nat} (h : i < bs.length) : (bs.map bE).set i (((bs.map bE).getD i []).set 0 (.bool true)) = (bs.set i true).map bE := by
  rw [List.map_set]
  congr 1
  simp [List.getD_eq_getElem?_getD, h]
theorem Sat.two {w0 w : World} {M : List Nat} {r : List HO} {a b c d : HO} (S : Sat w0 M (a :: b :: c :: d :: r) w) : Sat w0 M ([c, d] ++ ([a, b] ++ r)) w := Sat.perm' (h := [a, b] ++ ([c, d] ++ r)) S (List.perm_append_comm_assoc _ _ _)
theorem Sat.otherB {w0 w : World} {M : List Nat} {hc fr : List HO} {b : Nat} {T : TypeId} {cs : List Value} (S : Sat w0 M (hc ++ fr) w) (hm : HO.cl b T cs ∈ fr) : OldB w (blks hc) b T cs := by
  obtain ⟨_, _, hap⟩ := List.pairwise_append.1 S.apart
  refine ⟨(S.ok _ (List.mem_append_right _ hm)).1, fun hin => ?_⟩
  obtain ⟨o2, h2, h3⟩ := blks_mem hin
  exact hap o2 h2 _ hm b h3 rfl
theorem Sat.c4 {w0 w : World} {M : List Nat} {h : List HO} {a b c d : HO} (S : Sat w0 M ([a, b, c, d] ++ h) w) : Sat w0 M (a :: b :: c :: d :: h) w := S
theorem is_bool {b t : Bool} (h : b = t) : Is (.bool b) (.bool t) := by rw [h]; exact .z .any
theorem valid_v {A : Option Addr} {c : Nat} {l : List Rc} (hl : l.length ≤ 9223372036854775807) (ho : ∀ i, i < l.length → (rat l i).ok) (hr : Right l) {name : ByteArray} {day : Int} {i : Nat} {e : Int} (hp : place l name day = (i, e)) {w : World} (R : Rd w A 6 l.length (fun i => rcC (l.getD i rc0))) :
    Calls Try.prog 35 #[.slice A l.length c, .string name, .int .i64 day] w (RetP (Val (.tuple #[.int .i64 (i : Int), .int .i64 e]) w)) :=
  val_of (valid_c A c l hl ho hr name day w R) (by rw [hp])
theorem e_chain1 : Ent Try.prog 69 := fun _ _ => rfl
/-- what the iterator knows between two rounds -/
structure ChI (l : List Rc) (name0 : ByteArray) (day0 : Int) (out : List Nat) (bs : List Bool) (name : ByteArray) (day : Int) : Prop where
  len : bs.length = l.length
  bit : ∀ i, i < l.length → bs.getD i false = decide (i ∈ out)
  nd : out.Nodup
  lt : ∀ i ∈ out, i < l.length
  eq_ : chy l (l.length + 1) [] name0 day0 = out.map (fun i => (i, (0 : Int))) ++ chy l (l.length + 1 - out.length) out name day
theorem ChI.start (l : List Rc) (name : ByteArray) (day : Int) : ChI l name day [] (List.replicate l.length false) name day :=
  ⟨by simp, fun i hi => by simp [List.getD_eq_getElem?_getD, hi], .nil, by simp, by simp⟩
theorem ChI.le {l : List Rc} {name0 : ByteArray} {day0 : Int} {out : List Nat} {bs : List Bool} {name : ByteArray} {day : Int} (h : ChI l name0 day0 out bs name day) : out.length ≤ l.length := nodup_bound _ _ h.nd h.lt
theorem ChI.more {l : List Rc} {name0 : ByteArray} {day0 : Int} {out : List Nat} {bs : List Bool} {name : ByteArray} {day : Int} (h : ChI l name0 day0 out bs name day) {i : Nat} (hi : i < l.length) (hp : place l name day = (i, 0)) (hm : ¬ i ∈ out) (hb : ¬ (rat l i).bn = nul) :
    ChI l name0 day0 (out ++ [i]) (bs.set i true) (rat l i).bn (rat l i).fr := by
  have hle := h.le
  refine ⟨by simp [h.len], fun j hj => ?_, ?_, ?_, ?_⟩
  · have hb := h.bit j hj
    rw [List.getD_eq_getElem?_getD, List.getElem?_set] at *
    by_cases hij : i = j
    · subst hij
      rw [if_pos rfl, if_pos (by rw [h.len]; exact hi)]
      simp
    · rw [if_neg hij, hb]
      have : j ≠ i := fun e => hij e.symm
      simp [this]
  · rw [List.nodup_append]
    exact ⟨h.nd, by simp, fun a ha b hb => by simp at hb; subst hb; exact fun e => hm (e ▸ ha)⟩
  · intro j hj
    rcases List.mem_append.1 hj with hj | hj
    · exact h.lt j hj
    · simp at hj; subst hj; exact hi
  · rw [h.eq_, show l.length + 1 - out.length = (l.length - out.length) + 1 by omega, chy_more (by rw [hp]) (by rw [hp]; exact hm) (by rw [hp]; exact hb), hp]
    simp only [List.map_append, List.map_cons, List.map_nil, List.append_assoc, List.cons_append, List.nil_append, List.length_append, List.length_cons, List.length_nil]
    rw [show l.length + 1 - (out.length + (0 + 1)) = l.length - out.length by omega]
theorem ChI.fin {l : List Rc} {name0 : ByteArray} {day0 : Int} {out : List Nat} {bs : List Bool} {name : ByteArray} {day : Int} (h : ChI l name0 day0 out bs name day) {x : Nat × Int} (hx : ∀ m, chy l (m + 1) out name day = [x]) :
    chy l (l.length + 1) [] name0 day0 = out.map (fun i => (i, (0 : Int))) ++ [x] := by
  have hle := h.le
  rw [h.eq_, show l.length + 1 - out.length = (l.length - out.length) + 1 by omega, hx]
set_option maxRecDepth 4000 in
set_option maxHeartbeats 2000000 in
theorem chain_it {w0 : World} {M : List Nat} {b1 b2 b3 : Nat} (A : Option Addr) (c : Nat) (l : List Rc) (hl : l.length ≤ 9223372036854775807) (ho : ∀ i, i < l.length → (rat l i).ok) (hr : Right l) (name0 : ByteArray) (day0 : Int) (O : Old w0 M A 6 l.length (fun i => rcC (l.getD i rc0))) :
    Iter Try.prog 69 [.pointer (some ⟨b1, 0, none⟩), .pointer (some ⟨b2, 0, none⟩), .pointer (some ⟨b3, 0, none⟩)] (fun p : Nat × Int => [.int .i64 (p.1 : Int), .int .i64 p.2]) (chy l (l.length + 1) [] name0 day0) w0 M [.cl b1 22 [.slice A l.length c], .cl b2 9 [.string name0], .cl b3 3 [.int .i64 (day0)]] := by
  intro l' J Jx hY h W h0 S
  have hL := hr.1
  refine calls_of_cw (args := [.func (.yield l') #[] #[], .pointer (some ⟨b1, 0, none⟩), .pointer (some ⟨b2, 0, none⟩), .pointer (some ⟨b3, 0, none⟩)]) Try.func69 rfl rfl ?_
  replace S : Sat w0 M (.cl b1 22 [.slice A l.length c] :: .cl b2 9 [.string name0] :: .cl b3 3 [.int .i64 (day0)] :: h) W := S
  (repeat' (first | apply cw_seq | apply cw_region | apply wl_nil | apply cw_block | (apply x_makeSlice1; assumption; exact rfl; exact rfl; exact rfl; exact rfl; exact rfl; exact rfl; exact rfl; exact rfl; omega; intro _ _ _) | (apply x_assign; exact rfl; exact rfl; (exact (by repeat' constructor))) | (apply x_load; assumption; exact rfl; exact rfl; exact rfl; (exact (by repeat' constructor)); exact rfl; exact rfl; (exact (by repeat' constructor))) | (apply x_builtin; exact rfl; exact rfl; exact (fun _ => rfl); (exact (by repeat' constructor)))))
  rename_i g w1 S1
  clear S
  refine cw_loopE [6, 7, 11, 12, 13, 14, 15, 16, 17, 18, 19, 20, 21, 22, 23, 24, 25, 26, 27, 28, 29, 30, 31, 32, 33, 34, 35, 36, 37, 38, 39, 40, 41, 42, 43, 44, 45, 46, 47, 48, 49, 50, 51, 52, 53, 54, 55] [] (fun m us wr => us = [] ∧ ∃ out bs name day hh, m = l.length - out.length ∧ ChI l name0 day0 out bs name day ∧ Sat w0 M (.rw 0 (.slice (some ⟨g, 0, none⟩) l.length l.length) 4 1 (bs.map bE) :: .cl b1 22 [.slice A l.length c] :: .cl b2 9 [.string name] :: .cl b3 3 [.int .i64 (day)] :: hh) wr ∧ J (out.map fun i => (i, (0 : Int))) hh) l.length ?_ ?_
  · exact ⟨rfl, [], _, name0, day0, h, by simp, ChI.start l name0 day0, by rw [List.map_replicate]; exact S1, h0⟩
  rintro g' m us wr ⟨rfl, out, bs, name, day, hh, rfl, hI, Sr, hJ⟩
  clear S1 h0
  rcases hp : place l name day with ⟨i, e⟩
  by_cases he : e = 0
  · subst he
    have hat : isAt l name day i := by have := place_at (l := l) (name := name) (day := day) (by rw [hp]); rwa [hp] at this
    have hil : i < l.length := hat.1
    have hbi := hI.bit i hil
    have hbl := hI.len
    by_cases hm : i ∈ out
    · have hsp := hI.fin (x := (i, 16)) (fun m => by rw [chy_met (by rw [hp]) (by rw [hp]; exact hm), hp])
      rw [decide_eq_true hm] at hbi
      (repeat' (first | apply cw_seq | apply cw_region | apply wl_nil | apply cw_block | apply cw_ret | (apply x_callv; assumption; exact rfl; exact rfl; exact rfl; exact e_valid0; (exact (by repeat' constructor)); with_reducible exact (valid_v hl ho hr hp (Old.now O (by assumption))); intro _ _ _) | (apply x_loadR; exact rfl; exact rfl; exact rfl; exact Sat.rdmapN false (by assumption) (by exact (by repeat' constructor)) hbl.symm; omega; exact rfl; exact rfl; exact is_bool hbi) | (apply x_yield; exact rfl; exact rfl; exact rfl; (exact (by repeat' constructor)); exact hY _ _ _ [_, _, _, _] _ _ hsp hJ (by assumption); rintro _ w2 ⟨h2, S2, ⟨rfl, hJ2⟩ | ⟨rfl, hJ2⟩⟩ <;> replace S2 := Sat.c4 S2) | (apply x_not; exact rfl; exact rfl) | (apply x_move; exact rfl; exact rfl; (exact (by repeat' constructor))) | (apply x_assign; exact rfl; exact rfl; (exact (by repeat' constructor))) | (apply x_load; assumption; exact rfl; exact rfl; exact rfl; (exact (by repeat' constructor)); exact rfl; exact rfl; (exact (by repeat' constructor))) | (apply x_bin; exact rfl; exact rfl; exact rfl; (first | exact .z (.wrap (by omega)) | exact (by repeat' constructor))) | (apply x_pick; exact rfl; exact rfl; exact rfl; (exact (by repeat' constructor))) | (apply x_un; exact rfl; exact rfl; exact rfl; (first | exact .z (.wrap (by omega)) | exact (by repeat' constructor))) | (apply x_extract; exact rfl; exact rfl; exact rfl; (exact (by repeat' constructor))) | (apply x_index; exact rfl; exact rfl; exact rfl; exact rfl; exact rfl; (constructor); (first | omega | exact size_pos (by assumption) | assumption); (first | exact rfl | assumption | exact Rd.some_ (by assumption) (by omega) | exact Rd.some_ (Old.rd (by assumption)) (by omega) | exact (Sat.rd (by assumption) (by exact (by repeat' constructor))).some_ (by omega))) | (apply cw_true; exact rfl)))
      all_goals first
        | ((first | (apply q_ret0; exact rfl) | (apply q_end0; exact rfl)); exact ⟨_, Sat.drop2 (Sat.drop2 S2), .inl (by rw [hsp]; exact hJ2)⟩)
        | ((first | (apply q_ret0; exact rfl) | (apply q_end0; exact rfl)); exact ⟨_, Sat.drop2 (Sat.drop2 S2), .inr ⟨_, by rw [hsp]; exact List.prefix_refl _, hJ2⟩⟩)
    · rw [decide_eq_false hm] at hbi
      by_cases hb : (l.getD i rc0).bn = nul
      · have hsp := hI.fin (x := (i, 0)) (fun m => by rw [chy_end (by rw [hp]) (by rw [hp]; exact hm) (by rw [hp]; exact hb), hp])
        (repeat' (first | apply cw_seq | apply cw_region | apply wl_nil | apply cw_block | apply cw_skip | apply cw_ret | (apply x_callv; assumption; exact rfl; exact rfl; exact rfl; exact e_valid0; (exact (by repeat' constructor)); with_reducible exact (valid_v hl ho hr hp (Old.now O (by assumption))); intro _ _ _) | (apply x_loadR; exact rfl; exact rfl; exact rfl; exact Sat.rdmapN false (by assumption) (by exact (by repeat' constructor)) hbl.symm; omega; exact rfl; exact rfl; exact is_bool hbi) | (apply x_yield; exact rfl; exact rfl; exact rfl; (exact (by repeat' constructor)); exact hY _ _ _ [_, _, _, _] _ _ hsp hJ (by assumption); rintro _ w2 ⟨h2, S2, ⟨rfl, hJ2⟩ | ⟨rfl, hJ2⟩⟩ <;> replace S2 := Sat.c4 S2) | (apply x_not; exact rfl; exact rfl) | (apply x_move; exact rfl; exact rfl; (exact (by repeat' constructor))) | (apply x_assign; exact rfl; exact rfl; (exact (by repeat' constructor))) | (apply x_load; assumption; exact rfl; exact rfl; exact rfl; (exact (by repeat' constructor)); exact rfl; exact rfl; (exact (by repeat' constructor))) | (apply x_eqStr; exact rfl; exact rfl; exact rfl; exact rfl) | (apply x_bin; exact rfl; exact rfl; exact rfl; (first | exact .z (.wrap (by omega)) | exact (by repeat' constructor))) | (apply x_pick; exact rfl; exact rfl; exact rfl; (exact (by repeat' constructor))) | (apply x_un; exact rfl; exact rfl; exact rfl; (first | exact .z (.wrap (by omega)) | exact (by repeat' constructor))) | (apply x_extract; exact rfl; exact rfl; exact rfl; (exact (by repeat' constructor))) | (apply x_fieldE; exact rfl; exact rfl; exact rfl; exact rfl; (constructor)) | (apply x_index; exact rfl; exact rfl; exact rfl; exact rfl; exact rfl; (constructor); (first | omega | exact size_pos (by assumption) | assumption); (first | exact rfl | assumption | exact Rd.some_ (by assumption) (by omega) | exact Rd.some_ (Old.rd (by assumption)) (by omega) | exact (Sat.rd (by assumption) (by exact (by repeat' constructor))).some_ (by omega))) | (apply x_loadR; exact rfl; exact rfl; exact rfl; (first | exact Old.now (by assumption) (by assumption) | exact Sat.rdpr (by assumption) (by exact (by repeat' constructor)) | exact Sat.rd (by assumption) (by exact (by repeat' constructor))); (first | omega | exact size_pos (by assumption) | assumption); exact rfl; exact rfl; (exact (by repeat' constructor))) | (apply cw_true; exact rfl) | (apply cw_false; exact rfl) | (apply x_dec; exact rfl; all_goals (intro _; try omega))))
        all_goals first
          | (exact absurd hb (by assumption))
          | first
        | ((first | (apply q_ret0; exact rfl) | (apply q_end0; exact rfl)); exact ⟨_, Sat.drop2 (Sat.drop2 S2), .inl (by rw [hsp]; exact hJ2)⟩)
        | ((first | (apply q_ret0; exact rfl) | (apply q_end0; exact rfl)); exact ⟨_, Sat.drop2 (Sat.drop2 S2), .inr ⟨_, by rw [hsp]; exact List.prefix_refl _, hJ2⟩⟩)
      · have hI2 := hI.more hil hp hm hb
        have hle := hI2.le
        have hsp : chy l (l.length + 1) [] name0 day0 = out.map (fun i => (i, (0 : Int))) ++ (i, 0) :: chy l (l.length + 1 - (out ++ [i]).length) (out ++ [i]) (rat l i).bn (rat l i).fr := by
          rw [hI2.eq_]; simp
        rw [List.length_append] at hle
        (repeat' (first | apply cw_seq | apply cw_region | apply wl_nil | apply cw_block | apply cw_skip | apply cw_ret | (have S4 := Sat.two S3; have OB := Sat.otherB S4 (List.mem_cons_of_mem _ List.mem_cons_self); have OR := Old.rebase O (fun _ => by simp) (S4.drop [_, _] (List.sublist_append_left _ _)); apply cw_draw (id := 6) [(0, 0), (1, 0), (2, 0), (3, 0), (4, 0), (5, 3), (6, 0), (7, 3), (8, 3), (9, 3), (10, 2), (11, 2)]; exact S4.part; exact mixed; kernel_rfl) | (apply x_callv; assumption; exact rfl; exact rfl; exact rfl; exact e_valid0; (exact (by repeat' constructor)); with_reducible exact (valid_v hl ho hr hp (Old.now O (by assumption))); intro _ _ _) | (apply x_loadR; exact rfl; exact rfl; exact rfl; exact Sat.rdmapN false (by assumption) (by exact (by repeat' constructor)) hbl.symm; omega; exact rfl; exact rfl; exact is_bool hbi) | (apply x_yield; exact rfl; exact rfl; exact rfl; (exact (by repeat' constructor)); exact hY _ _ _ [_, _, _, _] _ _ hsp hJ (by assumption); rintro _ w2 ⟨h2, S2, ⟨rfl, hJ2⟩ | ⟨rfl, hJ2⟩⟩ <;> replace S2 := Sat.c4 S2) | (apply x_storeRow; assumption; exact rfl; exact rfl; (exact (by repeat' constructor)); exact rfl; exact rfl; (exact (by repeat' constructor)); (exact (by rw [List.length_map, hbl]; exact hil)); decide; intro w3 S3; rw [set_bE (by omega)] at S3) | (apply x_not; exact rfl; exact rfl) | (apply x_move; exact rfl; exact rfl; (exact (by repeat' constructor))) | (apply x_assign; exact rfl; exact rfl; (exact (by repeat' constructor))) | (apply x_load; assumption; exact rfl; exact rfl; exact rfl; (exact (by repeat' constructor)); exact rfl; exact rfl; (exact (by repeat' constructor))) | (apply x_eqStr; exact rfl; exact rfl; exact rfl; exact rfl) | (apply x_bin; exact rfl; exact rfl; exact rfl; (first | exact .z (.wrap (by omega)) | exact (by repeat' constructor))) | (apply x_pick; exact rfl; exact rfl; exact rfl; (exact (by repeat' constructor))) | (apply x_un; exact rfl; exact rfl; exact rfl; (first | exact .z (.wrap (by omega)) | exact (by repeat' constructor))) | (apply x_extract; exact rfl; exact rfl; exact rfl; (exact (by repeat' constructor))) | (apply x_fieldE; exact rfl; exact rfl; exact rfl; exact rfl; (constructor)) | (apply x_index; exact rfl; exact rfl; exact rfl; exact rfl; exact rfl; (constructor); (first | omega | exact size_pos (by assumption) | assumption); (first | exact rfl | assumption | exact Rd.some_ (by assumption) (by omega) | exact Rd.some_ (Old.rd (by assumption)) (by omega) | exact (Sat.rd (by assumption) (by exact (by repeat' constructor))).some_ (by omega))) | (apply x_loadR; exact rfl; exact rfl; exact rfl; (first | exact Old.now (by assumption) (by assumption) | exact Sat.rdpr (by assumption) (by exact (by repeat' constructor)) | exact Sat.rd (by assumption) (by exact (by repeat' constructor))); (first | omega | exact size_pos (by assumption) | assumption); exact rfl; exact rfl; (exact (by repeat' constructor))) | (apply y_move; exact rfl; (exact (by repeat' constructor))) | (apply y_fieldE; exact rfl; exact rfl; exact rfl; (constructor)) | (apply y_loadB; exact rfl; exact rfl; assumption; exact rfl; exact rfl; (exact (by repeat' constructor))) | (apply y_index; exact rfl; exact rfl; exact rfl; exact rfl; (constructor); (first | omega | exact size_pos (by assumption) | assumption); (first | exact rfl | assumption | exact Rd.some_ (by assumption) (by omega) | exact Rd.some_ (Old.rd (by assumption)) (by omega) | exact (Sat.rd (by assumption) (by exact (by repeat' constructor))).some_ (by omega))) | (apply y_loadR; exact rfl; exact rfl; assumption; (first | omega | exact size_pos (by assumption) | assumption); exact rfl; exact rfl; (exact (by repeat' constructor))) | (apply z2_store; exact rfl; exact rfl; (exact (by repeat' constructor)); (exact (by repeat' constructor)); exact rfl; exact rfl; exact rfl; (exact (by repeat' constructor))) | (apply PV.up3) | (apply y_nil; intro _ _) | (apply cw_true; exact rfl) | (apply cw_false; exact rfl) | (apply x_dec; exact rfl; all_goals (intro _; try omega))))
        · exact absurd (by assumption) hb
        · rename_i S5
          refine ⟨rfl, (by repeat (first | exact Agree.updl rfl (Agree.mask _ _ _) | refine Agree.upd rfl ?_)), _, ?_, rfl, _, _, _, _, _, rfl, hI2, Sat.two (S4.merge S5), by rw [List.map_append]; exact hJ2⟩
          rw [List.length_append]; simp only [List.length_cons, List.length_nil] at hle ⊢; omega
        · (first | (apply q_ret0; exact rfl) | (apply q_end0; exact rfl))
          exact ⟨_, Sat.drop2 (Sat.drop2 S2), .inr ⟨_, by rw [hsp]; exact ⟨_, by rw [List.append_assoc]; rfl⟩, hJ2⟩⟩
  · obtain rfl : i = 0 := by have := place_err (l := l) (name := name) (day := day) (by rw [hp]; exact he); rwa [hp] at this
    have hsp := hI.fin (x := (0, e)) (fun m => by rw [chy_err (by rw [hp]; exact he), hp])
    (repeat' (first | apply cw_seq | apply cw_region | apply wl_nil | apply cw_block | apply cw_skip | apply cw_ret | (apply x_callv; assumption; exact rfl; exact rfl; exact rfl; exact e_valid0; (exact (by repeat' constructor)); with_reducible exact (valid_v hl ho hr hp (Old.now O (by assumption))); intro _ _ _) | (apply x_yield; exact rfl; exact rfl; exact rfl; (exact (by repeat' constructor)); exact hY _ _ _ [_, _, _, _] _ _ hsp hJ (by assumption); rintro _ w2 ⟨h2, S2, ⟨rfl, hJ2⟩ | ⟨rfl, hJ2⟩⟩ <;> replace S2 := Sat.c4 S2) | (apply x_not; exact rfl; exact rfl) | (apply x_move; exact rfl; exact rfl; (exact (by repeat' constructor))) | (apply x_assign; exact rfl; exact rfl; (exact (by repeat' constructor))) | (apply x_load; assumption; exact rfl; exact rfl; exact rfl; (exact (by repeat' constructor)); exact rfl; exact rfl; (exact (by repeat' constructor))) | (apply x_bin; exact rfl; exact rfl; exact rfl; (first | exact .z (.wrap (by omega)) | exact (by repeat' constructor))) | (apply x_pick; exact rfl; exact rfl; exact rfl; (exact (by repeat' constructor))) | (apply x_un; exact rfl; exact rfl; exact rfl; (first | exact .z (.wrap (by omega)) | exact (by repeat' constructor))) | (apply x_extract; exact rfl; exact rfl; exact rfl; (exact (by repeat' constructor))) | (apply cw_true; exact rfl) | (apply cw_false; exact rfl) | (apply x_gdec; exact rfl; exact rfl; all_goals (intro _; try omega)) | (apply x_gne; exact rfl; exact rfl; all_goals (intro _; try omega))))
    all_goals first
        | ((first | (apply q_ret0; exact rfl) | (apply q_end0; exact rfl)); exact ⟨_, Sat.drop2 (Sat.drop2 S2), .inl (by rw [hsp]; exact hJ2)⟩)
        | ((first | (apply q_ret0; exact rfl) | (apply q_end0; exact rfl)); exact ⟨_, Sat.drop2 (Sat.drop2 S2), .inr ⟨_, by rw [hsp]; exact List.prefix_refl _, hJ2⟩⟩)
end Go.Proofs.Ytnndkdcciojpiaa
