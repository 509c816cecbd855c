/- Loops of dimensions, by the program. No statement of the seat is proved here. -/
import Derived.Test.YtagapiflfnbfiaaJi
namespace Go.Proofs.Ytagapiflfnbfiaa
set_option linter.unusedVariables false
set_option linter.unusedSimpArgs false
open Go Go.RowKit
section
variable {P : Program} {ro : Option Nat} {n : Nat} {Q : Post} {D : List Deferred} {f : Fm} {w w0 : World} {M : List Nat} {h : List HO}
variable {ops : Array Oper} {rest : List Oper} {d ty : Nat} {ps : String} {af : Array Edge} {gd : Option (Nat × Bool)} {x y : Operand}
/-- a block of the call's own as a row -/
theorem Sat.clRow {b E size : Nat} {xs : List (List Value)} {F : HO → List HO} (S : Sat w0 M h w) (hr : RepF h (.cl b E xs.flatten) F) (hs : ∀ r ∈ xs, r.length = size) (hm : xs.length ≤ maxLen) : Sat w0 M (F (.rw 0 (.slice (some ⟨b, 0, none⟩) xs.length xs.length) E size xs)) w := by
  obtain ⟨h1, h2⟩ := S.ok _ (hr.rep (.cl b E xs.flatten)).mem
  have hf : xs.flatten.length = xs.length * size := by
    clear hr h1 h2 hm S
    induction xs with
    | nil => simp
    | cons a t ih => rw [List.flatten_cons, List.length_append, ih (fun r hr => hs r (List.mem_cons_of_mem _ hr)), hs a List.mem_cons_self, List.length_cons, Nat.succ_mul]; omega
  refine S.rep (hr.rep _) ⟨rfl, rfl, rfl, Nat.le_refl _, fun _ _ _ => rfl⟩ ⟨fun b' hb' => ?_, hs, hf, ?_⟩ (fun b' hb' => .inl hb')
  · have e : b = b' := by injection hb'
    rw [← e]; exact h2
  · exact .inr ⟨b, xs.length, xs.flatten.toArray, rfl, Nat.zero_le _, h1, Nat.le_refl _, hm, by simpa using hf, by rw [← hf]; exact List.take_of_length_le (Nat.le_refl _)⟩
theorem x_append0b {T e size bytes k c c2 : Nat} {A A2 : Option Addr} (hg : want ops f ⟨some d, .call ⟨.builtin .append, #[x, y], #[T, T]⟩, ty, ps, af, gd⟩ = true) (hdn : Nat.blt d n = true) (hk : apk P T = some (e, size, bytes)) (hx : fev f x = .slice A k c) (hy : fev f y = .slice A2 0 c2) (hkc : k ≤ c)
    (kk : WL P ro n ops Q rest D (upd f d (.slice A k c)) w) : WL P ro n ops Q (⟨some d, .call ⟨.builtin .append, #[x, y], #[T, T]⟩, ty, ps, af, gd⟩ :: rest) D f w := by
  obtain ⟨hu, i, zv, hi, hz, hsize, hbyt, hzs, hsz⟩ := apk_parts hk
  refine wl_run (v := .slice A k c) (w' := w) hg hdn ?_ kk
  cases A <;> cases A2 <;> simp [execOp, resolve, invoke, builtin, hx, hy, Builtin.append_, run_underlying hu, sizeOf, typeInfo, hi, Builtin.lenOf, hkc, Result.andThen, Sem.run_bind, Sem.run_pure, Builtin.firstCells, storeCells, loadCells, loadCellsFrom]
theorem Sat.tail2 {r : HO} {hn t : List HO} (S : Sat w0 M (r :: (hn ++ t)) w) : Sat w0 M (r :: t) w := S.drop _ (List.Sublist.cons_cons _ (List.sublist_append_right _ _))
end
theorem bfs_FarI {l : List Dm} {L : List Lk} (H : NetOk l L) {to : ByteArray} : ∀ (f : Nat) (F : Far) (q : List ByteArray), FarI l (atS l L) (L.map (stoE l)) to F q → leftF (L.map (stoE l)) F q ≤ f → FarI l (atS l L) (L.map (stoE l)) to (bfsF l (atS l L) f F q) []
  | 0, F, q, I, h => by
    have hq : q = [] := List.length_eq_zero_iff.1 (by unfold leftF at h; omega)
    subst hq
    exact I
  | f + 1, F, [], I, h => I
  | f + 1, F, a :: q, I, h => by
    obtain ⟨d, hd⟩ := Option.isSome_iff_exists.1 (I.que a (by simp))
    have h1 := FarI.rel (atS l L a) F q I.pop hd (H.at_ a)
    have h2 := rel_left (atS l L a) F q I.pop hd (H.at_ a)
    have h3 : leftF (L.map (stoE l)) F (a :: q) = leftF (L.map (stoE l)) F q + 1 := rfl
    rw [bfsF, hd]
    exact bfs_FarI H f _ _ h1.1 (by show leftF _ (relF l d (atS l L a) (F, q)).1 (relF l d (atS l L a) (F, q)).2 ≤ f; omega)
theorem farT_I {l : List Dm} {L : List Lk} (H : NetOk l L) (to : ByteArray) : FarI l (atS l L) (L.map (stoE l)) to (farT l L to) [] := bfs_FarI H _ _ _ (FarI.start _ _ _ _) (Nat.le_refl _)
theorem wayF_len {l : List Dm} {N : ByteArray → List Lk} {F : Far} : ∀ (d : Nat) (s : ByteArray), (wayF l N F d s).length ≤ d
  | 0, s => Nat.le_refl _
  | d + 1, s => by
    rw [wayF]
    split
    · rename_i x _
      have := wayF_len (l := l) (N := N) (F := F) d (stoE l x)
      simp; omega
    · exact Nat.zero_le _
theorem shS_len {l : List Dm} {L : List Lk} (H : NetOk l L) (a to : ByteArray) : (shS l L a to).1.length ≤ 1001 := by
  cases h : farG (farT l L to) a with
  | none => rw [shS_no h]; exact Nat.zero_le _
  | some d =>
    rw [shS_yes h]
    have I := farT_I H to
    have h1 := I.le a d h
    have h2 := I.len
    have h3 := H.few
    rw [List.length_map] at h2
    have h4 := wayF_len (l := l) (N := atS l L) (F := farT l L to) d a
    show (wayF _ _ _ _ _).length ≤ 1001
    omega
set_option maxRecDepth 100000 in
theorem e_chosen : Ent Try.prog 51 := fun _ _ => rfl
set_option maxRecDepth 4000 in
set_option maxHeartbeats 2000000 in
theorem chosen_c (b : Nat) (A : Option Addr) (cA : Nat) (fs : List Bool) (i : Nat) (hi : i < fs.length) (w : World) (O5 : OldB w [] b 91 [.slice A fs.length cA]) (Rf : Rd w A 1 fs.length (fun i => [.bool (fs.getD i false)])) : Calls Try.prog 51 #[.int .i64 (i : Int), .pointer (some ⟨b, 0, none⟩)] w (RetP (Val (.bool (fs.getD i false)) w)) := by
  refine calls_of_cw (args := [.int .i64 (i : Int), .pointer (some ⟨b, 0, none⟩)]) Try.func51 rfl rfl ?_
  have S := Sat.start [] w
  have Of := (Rf).old
  (repeat' (first | apply cw_seq | apply cw_region | apply wl_nil | apply cw_ret | (apply x_move; exact rfl; exact rfl; (exact (by repeat' constructor))) | (apply x_assign; exact rfl; exact rfl; (exact (by repeat' constructor))) | (apply x_loadB; assumption; exact rfl; exact rfl; exact rfl; assumption; exact rfl; exact rfl; (exact (by repeat' constructor))) | (apply x_index; exact rfl; exact rfl; exact rfl; exact rfl; exact rfl; (constructor); (first | omega | exact size_pos (by assumption) | assumption); (first | exact rfl | assumption | exact Rd.some_ (by assumption) (by omega) | exact Rd.some_ (Old.rd (by assumption)) (by omega) | exact (Sat.rd (by assumption) (by exact (by repeat' constructor))).some_ (by omega))) | (apply x_loadR; exact rfl; exact rfl; exact rfl; (first | exact Old.now (by assumption) (by assumption) | exact Sat.rdpr (by assumption) (by exact (by repeat' constructor)) | exact Sat.rd (by assumption) (by exact (by repeat' constructor))); (first | omega | exact size_pos (by assumption) | assumption); exact rfl; exact rfl; (exact (by repeat' constructor)))))
  all_goals (first | refine q_retS (by assumption) rfl (by repeat (first | exact .nil | (apply RV.tmp; exact (by repeat' constructor)) | (apply RV.cell; exact rfl; exact (by repeat' constructor); exact rfl; exact rfl; exact (by repeat' constructor)))) ?_ | (simp only [thenQ, blockQ]; refine q_retS (by assumption) rfl (by repeat (first | exact .nil | (apply RV.tmp; exact (by repeat' constructor)) | (apply RV.cell; exact rfl; exact (by repeat' constructor); exact rfl; exact rfl; exact (by repeat' constructor)))) ?_))
  all_goals exact ⟨rfl, Sat.keeps (by assumption)⟩
end Go.Proofs.Ytagapiflfnbfiaa
