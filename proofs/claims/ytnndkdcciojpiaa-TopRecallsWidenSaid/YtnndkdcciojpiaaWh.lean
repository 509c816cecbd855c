/- States of measurements: all of a log. No statement of the seat is proved here. -/
import Derived.Test.YtnndkdcciojpiaaWg
namespace Go.Proofs.Ytnndkdcciojpiaa.Rl
set_option linter.unusedVariables false
set_option linter.unusedSimpArgs false
open Go Go.RowKit Go.Maps
/-! ### maps written where the order is drawn -/
section
variable {P : Program} {ro : Option Nat} {n : Nat} {Q : Post} {D : List Deferred} {f : Fm} {w w0 w' : World} {M : List Nat} {h : List HO}
variable {ops : Array Oper} {rest : List Oper} {prest : List (Nat × Oper)} {d ty : Nat} {ps : String} {af : Array Edge} {gd : Option (Nat × Bool)} {x y z : Operand}
theorem z2_putV {T k : TypeId} {zv v : Value} {b c : Nat} {m : Lit → Option Value} {key : Value} {kl : Lit} {F : HO → List HO} (hg : want ops f ⟨none, .mapUpdate T x y z, ty, ps, af, gd⟩ = true) (hk : mapZ P T = some (k, zv)) (K : Keyed P k)
    (hx : fev f x = .map (some b)) (hy : fev f y = key) (hz : Is (fev f z) v) (hr : RepF h (.pr b (MapV P k c m)) F) (hc : c < maxLen) (hkey : keyOf P k key = some kl)
    (kk : PV P ro ops Q w0 M (F (.pr b (MapV P k (c + 1) (putV m kl v)))) prest D f) : PV P ro ops Q w0 M h ((2, ⟨none, .mapUpdate T x y z, ty, ps, af, gd⟩) :: prest) D f :=
  PV.step2 fun w S => by
    obtain ⟨w', hrun, S', hgr⟩ := putV_run (P := P) (f := f) (ty := ty) (ps := ps) (af := af) (gd := gd) S hk K hx hy hz.eq hr hc hkey
    have hm := (hr.rep (.pr b (MapV P k (c + 1) (putV m kl v)))).mem
    refine beh_skip hg hrun ⟨_, S', ⟨hgr.os, hgr.tape, hgr.output, hgr.size, fun j hlt hn => hgr.block j hlt (fun e => hn _ hm (by rw [e]; rfl)), fun o ho j hok => ?_⟩, kk⟩
    rcases (hr.rep (.pr b (MapV P k (c + 1) (putV m kl v)))).mem' o ho with rfl | hm2
    · exact .inl ⟨_, hm, hok⟩
    · exact .inl ⟨o, hm2, hok⟩
end
/-! ### States -/
noncomputable def stO (l : List Ev) (d : Nat) : List (List Value) := (List.range l.length).map fun i => [.int .i64 (if l.length - 1 - i < d then (ckF l (l.length - 1 - i)).2 else 0)]
theorem stO_len (l : List Ev) (d : Nat) : (stO l d).length = l.length := by simp [stO]
theorem stO_0 (l : List Ev) : List.replicate l.length [Value.int .i64 0] = stO l 0 := by
  refine List.ext_getElem (by simp [stO]) fun i h1 h2 => ?_
  simp [stO]
theorem stO_set {l : List Ev} {d : Nat} (h : d < l.length) : (stO l d).set (l.length - 1 - d) (((stO l d).getD (l.length - 1 - d) []).set 0 (.int .i64 (ckF l d).2)) = stO l (d + 1) := by
  have e : ((stO l d).getD (l.length - 1 - d) []).set 0 (.int .i64 (ckF l d).2) = [.int .i64 (ckF l d).2] := by
    rw [List.getD_eq_getElem?_getD, stO, List.getElem?_map, List.getElem?_range (by omega)]; rfl
  rw [e]
  refine List.ext_getElem (by simp [stO]) fun i h1 h2 => ?_
  rw [List.getElem_set]
  have hi : i < l.length := by simpa [stO] using h2
  by_cases hid : l.length - 1 - d = i
  · subst hid
    have e2 : l.length - 1 - (l.length - 1 - d) = d := by omega
    simp [stO, e2]
  · rw [if_neg hid]
    have hne : (l.length - 1 - i < d) ↔ (l.length - 1 - i < d + 1) := by omega
    simp [stO, hne]
section
variable {P : Program} {ro : Option Nat} {n : Nat} {Q : Post} {D : List Deferred} {f : Fm} {w w0 w' : World} {M : List Nat} {h : List HO}
variable {ops : Array Oper} {rest : List Oper} {d ty : Nat} {ps : String} {af : Array Edge} {gd : Option (Nat × Bool)} {x y : Operand}
theorem x_storeRowEA {T E size i off m c : Nat} {A : Option Addr} {v : Value} {xs ys : List (List Value)} {F : HO → List HO} (S : Sat w0 M h w) (hg : want ops f ⟨none, .store T x y, ty, ps, af, gd⟩ = true)
    (hx : fev f x = .pointer (some (ea A size i off))) (hy : Is (fev f y) v) (h1 : one v = true) (hs : (P.info? T).map (·.size) = some 1) (hr : RepF h (.rw 0 (.slice A m c) E size xs) F) (hi : i < xs.length) (ho : off < size) (he : xs.set i ((xs.getD i []).set off v) = ys)
    (k : ∀ w', Sat w0 M (F (.rw 0 (.slice A m c) E size ys)) w' → WL P ro n ops Q rest D f w') :
    WL P ro n ops Q (⟨none, .store T x y, ty, ps, af, gd⟩ :: rest) D f w := by
  subst he
  exact x_storeRow S hg hx hy h1 hs hr hi ho k
end
set_option maxRecDepth 8000 in
theorem states_c (A : Option Addr) (c n : Nat) (w : World) : Calls Try.prog 27 #[.slice A n c] w (RetP (NewR (fun b => .func (.func 46) #[] #[.pointer (some ⟨b, 0, none⟩)]) 23 [.slice A n c] w)) := by
  refine calls_of_cw (args := [.slice A n c]) Try.func27 rfl rfl ?_
  have S := Sat.start [] w
  (repeat' (first | apply cw_seq | apply cw_region | apply wl_nil | apply cw_ret | (apply x_assign; exact rfl; exact rfl; (exact (by repeat' constructor))) | (apply x_box; assumption; exact rfl; exact rfl; (exact (by repeat' constructor)); (exact (by repeat' constructor)); intro _ _ _) | (apply x_makeFunc; exact rfl; exact rfl; (exact (by repeat' constructor)))))
  all_goals (first | refine q_retS (by assumption) rfl (by repeat (first | exact .nil | (apply RV.tmp; exact (by repeat' constructor)) | (apply RV.cell; exact rfl; exact (by repeat' constructor); exact rfl; exact rfl; exact (by repeat' constructor)))) ?_ | (simp only [thenQ, blockQ]; refine q_retS (by assumption) rfl (by repeat (first | exact .nil | (apply RV.tmp; exact (by repeat' constructor)) | (apply RV.cell; exact rfl; exact (by repeat' constructor); exact rfl; exact rfl; exact (by repeat' constructor)))) ?_))
  all_goals exact Sat.newR (by assumption) (by exact (by repeat' constructor))
theorem pCheckL_t {A : Option Addr} {c : Nat} {l : List Ev} (hl : l.length ≤ c) (ho : ∀ i, i < l.length → (l.getD i ev0).ok) (hR : RightL l) (w : World) (R : Rd w A 4 l.length (fun i => evC (l.getD i ev0))) : Calls Try.prog 26 #[.slice A l.length c] w (RetP (Val (.int .i64 0) w)) := pCheckL_c A c l ho hR w R
set_option maxRecDepth 100000 in
theorem e_States : Ent Try.prog 8 := fun _ _ => rfl
set_option maxRecDepth 8000 in
set_option maxHeartbeats 8000000 in
theorem States_c {A : Option Addr} {c : Nat} {l : List Ev} (hl : l.length ≤ c) (ho : ∀ i, i < l.length → (l.getD i ev0).ok) (hR : RightL l) (w : World) (R : Rd w A 4 l.length (fun i => evC (l.getD i ev0))) : Calls Try.prog 8 #[.slice A l.length c] w (RetP (RowR (fun s => .tuple #[s, .int .i64 0]) 3 1 (stO l l.length) w)) := by
  refine calls_of_cwM (args := [.slice A l.length c]) Try.func8 rfl rfl ?_
  have S := Sat.start [] w
  have O := R.old
  have hn := hR.n
  (repeat' (first | apply cw_seq | apply cw_region | apply wl_nil | apply cw_block | apply cw_skip | (apply x_callv; assumption; exact rfl; exact rfl; exact rfl; exact e_pCheckL; (exact (by repeat' constructor)); with_reducible exact (pCheckL_t hl ho hR _ (Old.now O (by assumption))); intro _ _ _) | (apply x_makeSlice1 (m := l.length); assumption; exact rfl; exact rfl; exact rfl; exact rfl; exact rfl; exact rfl; exact rfl; exact rfl; omega; intro gF _ _) | (apply x_calln; assumption; exact rfl; exact rfl; exact rfl; exact e_states; (exact (by repeat' constructor)); exact (states_c _ _ _ _); intro _ _ _) | (apply x_move; exact rfl; exact rfl; (exact (by repeat' constructor))) | (apply x_assign; exact rfl; exact rfl; (exact (by repeat' constructor))) | (apply x_bin; exact rfl; exact rfl; exact rfl; (first | exact .z (.wrap (by omega)) | exact (by repeat' constructor))) | (apply x_alloc; assumption; exact rfl; exact rfl; exact rfl; (exact (by repeat' constructor)); intro _ _ _) | (apply x_store; assumption; exact rfl; exact rfl; (exact (by repeat' constructor)); (exact (by repeat' constructor)); exact rfl; exact rfl; exact rfl; (exact (by repeat' constructor)); intro _ _) | (apply x_builtin; exact rfl; exact rfl; exact (fun _ => rfl); (exact (by repeat' constructor))) | (apply cw_false; exact rfl)))
  rename_i b5 _ _ _ _ b6 w3 S3
  rw [stO_0] at S3
  replace S3 : Sat w [] ([.cl b6 23 [.slice A l.length c]] ++ [.cl b5 24 [.slice (some ⟨gF, 0, none⟩) l.length l.length], .rw 0 (.slice (some ⟨gF, 0, none⟩) l.length l.length) 3 1 (stO l 0)]) w3 := S3
  refine cw_range (hi := [.cl b6 23 [.slice A l.length c]]) (h := [.cl b5 24 [.slice (some ⟨gF, 0, none⟩) l.length l.length], .rw 0 (.slice (some ⟨gF, 0, none⟩) l.length l.length) 3 1 (stO l 0)]) S3 rfl e_states1 (fun _ => rfl) rfl (states_it O ho hn)
    (fun pre h' => h' = [.cl b5 24 [.slice (some ⟨gF, 0, none⟩) l.length l.length], .rw 0 (.slice (some ⟨gF, 0, none⟩) l.length l.length) 3 1 (stO l pre.length)])
    (fun _ _ _ => False) rfl ?_ ?_ ?_
  all_goals clear S3 S
  · rintro l2 pre x rest fr _ W hx rfl S1
    have hlen : pre.length < l.length := by
      have h1 := congrArg List.length hx
      rw [stL_len] at h1
      simp only [List.length_append, List.length_cons] at h1
      omega
    have hxi : x = (((l.length - 1 - pre.length : Nat) : Int), ckF l pre.length) := by
      have h1 := stL_at hlen
      rw [hx, List.getD_eq_getElem?_getD, List.getElem?_append_right (Nat.le_refl _), Nat.sub_self] at h1
      exact h1
    subst hxi
    obtain ⟨d, hd⟩ : ∃ d, pre.length = d := ⟨_, rfl⟩
    have hd2 : ∀ y : Int × Int × Int, (pre ++ [y]).length = d + 1 := fun y => by simp [hd]
    rw [hd] at hlen S1
    rw [hd]
    replace S1 : Sat w [] (_ :: _ :: fr) W := S1
    have hset := stO_set hlen
    have hsl := stO_len l d
    (repeat' (first | apply cw_seq | apply cw_region | apply wl_nil | (apply x_assign; exact rfl; exact rfl; (exact (by repeat' constructor))) | (apply x_alloc; assumption; exact rfl; exact rfl; exact rfl; (exact (by repeat' constructor)); intro _ _ _) | (apply x_store; assumption; exact rfl; exact rfl; (exact (by repeat' constructor)); (exact (by repeat' constructor)); exact rfl; exact rfl; exact rfl; (exact (by repeat' constructor)); intro _ _)))
    rename_i b7 _ _ W2 S5
    refine ⟨_ :: _ :: _ :: [], S5, fun W2 fr' S2 => ?_⟩
    replace S2 : Sat w [] (.cl b7 72 [.int .i64 (ckF l d).1, .int .i64 (ckF l d).2] :: _ :: _ :: fr') W2 := S2
    clear S1 S5
    have hin : l.length - 1 - d < l.length := by omega
    (repeat' (first | apply cw_region | apply wl_nil | apply cw_block | (apply x_storeRowEA; assumption; exact rfl; exact rfl; (exact (by repeat' constructor)); exact rfl; exact rfl; (exact (by repeat' constructor)); (exact (by rw [stO_len]; exact hin)); (exact (by decide)); exact hset; intro _ _) | (apply x_move; exact rfl; exact rfl; (exact (by repeat' constructor))) | (apply x_fieldB; exact rfl; exact rfl; exact rfl; exact rfl; (constructor)) | (apply x_load; assumption; exact rfl; exact rfl; exact rfl; (exact (by repeat' constructor)); exact rfl; exact rfl; (exact (by repeat' constructor))) | (apply x_index; exact rfl; exact rfl; exact rfl; exact rfl; exact rfl; (constructor); (first | omega | exact size_pos (by assumption) | assumption); (first | exact rfl | assumption | exact Rd.some_ (by assumption) (by omega) | exact Rd.some_ (Old.rd (by assumption)) (by omega) | exact (Sat.rd (by assumption) (by exact (by repeat' constructor))).some_ (by omega)))))
    exact ⟨_, (by show _ = [_, HO.rw _ _ _ _ (stO l (List.length _))]; rw [hd2]), Sat.drop1 (by assumption)⟩
  · rintro D1 _ W rfl S1
    rw [stL_len] at S1
    replace S1 : Sat w [] (_ :: _ :: _ :: []) W := S1
    (repeat' (first | apply cw_seq | apply cw_region | apply wl_nil | apply cw_ret | (apply x_assign; exact rfl; exact rfl; (exact (by repeat' constructor))) | (apply x_load; assumption; exact rfl; exact rfl; exact rfl; (exact (by repeat' constructor)); exact rfl; exact rfl; (exact (by repeat' constructor)))))
    refine q_retM1 (by assumption) (by exact (by repeat' constructor)) rfl (by repeat (first | exact .nil | (apply RV.tmp; exact (by repeat' constructor)) | (apply RV.cell; exact rfl; exact (by repeat' constructor); exact rfl; exact rfl; exact (by repeat' constructor)))) ?_
    intro w' S2
    exact rowR_n (V := fun v => .tuple #[v, .int .i64 0]) (stO_len l l.length).symm S2 (by exact (by repeat' constructor))
  · rintro D1 _ pre _ W hf
    exact hf.elim
end Go.Proofs.Ytnndkdcciojpiaa.Rl
