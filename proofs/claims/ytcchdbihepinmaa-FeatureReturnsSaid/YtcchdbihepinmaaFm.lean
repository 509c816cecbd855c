/- Features placed elsewhere: copies with frames of their own. No statement of the seat is proved here. -/
import Derived.Test.YtcchdbihepinmaaFl
namespace Go.Proofs.Ytcchdbihepinmaa
open Go Go.RowKit
theorem Sat.rdm {α : Type} {en : α → List Value} {w0 w : World} {M : List Nat} {h : List HO} {base m c : Nat} {A : Option Addr} {E size : Nat} {l : List α} (z : α) (hn : m = l.length) (S : Sat w0 M h w) (hh : Has h (.rw base (.slice A m c) E size (l.map en))) : Rd w A size m (fun i => en (l.getD i z)) :=
  (S.rd hh).congr fun i hi => by
    have : i < l.length := by omega
    simp [List.getD_eq_getElem?_getD, this]
theorem Sat.unbase {w0 w w' : World} {M : List Nat} {h h' : List HO} (S : Sat w0 M h w) (S' : Sat w (blks h) h' w') : Sat w0 M h' w' := by
  have hm : ∀ b, Mine w (blks h) b → Mine w0 M b := fun b hb => by
    rcases hb with hb | hb
    · exact .inl (Nat.le_trans S.le hb)
    · exact (S.blks_mine hb).1
  refine ⟨Keeps.join S S', fun o ho => ?_, S'.apart⟩
  have hk := S'.ok o ho
  cases o with
  | cl b T cs => exact ⟨hk.1, hm b hk.2⟩
  | rw base v E size xs => exact ⟨fun b hb => hm b (hk.1 b hb), hk.2⟩
  | pr b φ => exact ⟨hk.1, hk.2.1, hm b hk.2.2⟩
theorem Sat.head_not {w0 w : World} {M : List Nat} {h : List HO} {o : HO} (S : Sat w0 M (o :: h) w) {b : Nat} (hb : o.own = some b) : b ∉ blks h := fun hm => by
  obtain ⟨o', ho', he⟩ := blks_mem hm
  exact (List.pairwise_cons.1 S.apart).1 o' ho' b hb he
def Ft.fresh (f : Ft) (N : Nat) : Prop := (0 < f.fs.length → ∀ a, f.A = some a → N ≤ a.block) ∧ ∀ g ∈ f.fs, 0 < g.ds.length → ∀ a, g.A = some a → N ≤ a.block
/-- a frame without its place in memory -/
def sk (g : Fr') : Fr' := { g with A := none, cap := 0 }
def Ft.moved (f f' : Ft) (x y z : Int) : Prop := f'.nm = f.nm ∧ f'.kind = f.kind ∧ f'.ax = f.ax ∧ (f'.x = x ∧ f'.y = y ∧ f'.z = z) ∧ (f'.lo = f.lo ∧ f'.hi = f.hi) ∧ f'.fs.map sk = f.fs.map sk
def PlR (f : Ft) (x y z : Int) (w : World) : Value → World → Prop := fun v w' => ∃ f' : Ft, v = .agg #[.string (f').nm, .int .i64 (f').kind, .int .i64 (f').ax, .int .i64 (f').x, .int .i64 (f').y, .int .i64 (f').z, .int .i64 (f').lo, .int .i64 (f').hi, .slice (f').A (f').fs.length (f').cap] ∧ Keeps [] w w' ∧ f.moved f' x y z ∧ f'.ok w' ∧ f'.fresh w.heap.size
theorem set_map {gs : List Fr'} {k : Nat} (hk : k < gs.length) (A : Option Addr) (c : Nat) {m : Nat} (hm : m = (gs.getD k fr0).ds.length) :
    (gs.map frC).set k (((gs.map frC).getD k []).set 4 (.slice A m c)) = (gs.set k { gs.getD k fr0 with A := A, cap := c }).map frC := by
  subst hm
  rw [List.map_set]
  congr 1
  simp [List.getD_eq_getElem?_getD, hk]
theorem getD_set {gs : List Fr'} {k j : Nat} (g : Fr') (hk : k < gs.length) : (gs.set k g).getD j fr0 = if j = k then g else gs.getD j fr0 := by
  simp only [List.getD_eq_getElem?_getD, List.getElem?_set]
  by_cases h : k = j
  · subst h; simp [hk]
  · rw [if_neg h, if_neg (fun e => h e.symm)]
theorem sk_set {gs : List Fr'} {k : Nat} (hk : k < gs.length) (A : Option Addr) (c : Nat) : (gs.set k { gs.getD k fr0 with A := A, cap := c }).map sk = gs.map sk := by
  apply List.ext_getElem?
  intro i
  simp only [List.getElem?_map, List.getElem?_set]
  by_cases h : k = i
  · subst h; simp [hk, sk]
  · rw [if_neg h]
theorem sk_len {l m : List Fr'} (h : l.map sk = m.map sk) : l.length = m.length := by simpa using congrArg List.length h
theorem sk_get {l m : List Fr'} (h : l.map sk = m.map sk) (i : Nat) : sk (l.getD i fr0) = sk (m.getD i fr0) := by
  have hl := sk_len h
  have := congrArg (·[i]?) h
  simp only [List.getElem?_map] at this
  simp only [List.getD_eq_getElem?_getD]
  cases h1 : l[i]? <;> cases h2 : m[i]? <;> simp_all
theorem sk_ds {g g' : Fr'} (h : sk g = sk g') : g.ds = g'.ds := by
  have : (sk g).ds = (sk g').ds := congrArg Fr'.ds h
  exact this
theorem Sat.rw_cap {w0 w : World} {M : List Nat} {h : List HO} {base m c : Nat} {A : Option Addr} {E size : Nat} {xs : List (List Value)} (S : Sat w0 M h w) (hh : Has h (.rw base (.slice A m c) E size xs)) : xs.length ≤ c := by
  obtain ⟨_, _, h3⟩ := S.ok _ hh.mem
  rcases h3.2 with ⟨h4, h5⟩ | ⟨g, cap, cur, hv, hb, hgc, hnc, hcm, hcs, htake⟩
  · omega
  · simp only [Value.slice.injEq] at hv
    omega
theorem Old.less {w : World} {M M' : List Nat} {A : Option Addr} {size n : Nat} {cell : Nat → List Value} (O : Old w M A size n cell) (h : ∀ b ∈ M', b ∈ M) : Old w M' A size n cell :=
  ⟨O.rd, fun hn a ha hb => O.out hn a ha (h _ hb)⟩
theorem Sat.rw_mine {w0 w : World} {h : List HO} {m c : Nat} {a : Addr} {E size base : Nat} {xs : List (List Value)} (S : Sat w0 [] h w) (hh : Has h (.rw base (.slice (some a) m c) E size xs)) (hx : 0 < xs.length) : w0.heap.size ≤ a.block := by
  obtain ⟨h1, _, h3⟩ := S.ok _ hh.mem
  rcases h3.2 with ⟨h4, h5⟩ | ⟨g, cap, cur, hv, hb, hgc, hnc, hcm, hcs, htake⟩
  · omega
  · simp only [Value.slice.injEq, Option.some.injEq] at hv
    obtain ⟨rfl, _, _⟩ := hv
    exact (h1 g rfl).resolve_right (by simp)
theorem Sat.rw_own {w0 w : World} {M : List Nat} {h : List HO} {m c : Nat} {a : Addr} {E size base : Nat} {xs : List (List Value)} (S : Sat w0 M (.rw base (.slice (some a) m c) E size xs :: h) w) (hx : 0 < xs.length) : a.block ∉ blks h := by
  obtain ⟨h1, _, h3⟩ := S.ok _ List.mem_cons_self
  rcases h3.2 with ⟨h4, h5⟩ | ⟨g, cap, cur, hv, hb, hgc, hnc, hcm, hcs, htake⟩
  · omega
  · simp only [Value.slice.injEq, Option.some.injEq] at hv
    obtain ⟨rfl, _, _⟩ := hv
    exact S.head_not rfl
theorem e_placed : Ent Try.prog 52 := fun _ _ => rfl
set_option maxRecDepth 4000 in
set_option maxHeartbeats 2000000 in
theorem placed_c (f : Ft) (x' y' z' : Int) (K : FuncId) (cp : List Value) (hE : Ent Try.prog K) (hs1 : f.fs.length < 1000000000) (hs2 : ∀ g ∈ f.fs, g.ds.length < 1000000000) (w : World) (hf : f.ok w) (hK : ∀ w', Keeps [] w w' → Calls Try.prog K (([.agg #[.int .i64 f.x, .int .i64 f.y, .int .i64 f.z]] : List Value) ++ cp).toArray w' (RetP (Val (.agg #[.int .i64 x', .int .i64 y', .int .i64 z']) w'))) : Calls Try.prog 52 #[.agg #[.string (f).nm, .int .i64 (f).kind, .int .i64 (f).ax, .int .i64 (f).x, .int .i64 (f).y, .int .i64 (f).z, .int .i64 (f).lo, .int .i64 (f).hi, .slice (f).A (f).fs.length (f).cap], .func (.func K) #[] cp.toArray] w (RetP (PlR f x' y' z' w)) := by
  refine calls_of_cw (args := [.agg #[.string (f).nm, .int .i64 (f).kind, .int .i64 (f).ax, .int .i64 (f).x, .int .i64 (f).y, .int .i64 (f).z, .int .i64 (f).lo, .int .i64 (f).hi, .slice (f).A (f).fs.length (f).cap], .func (.func K) #[] cp.toArray]) Try.func52 rfl rfl ?_
  have S := Sat.start [] w
  (repeat' (first | apply cw_seq | apply cw_region | apply wl_nil | apply cw_block | apply cw_skip | apply cw_exit | apply cw_ret | (apply cw_draw (id := 6) [(0, 0), (1, 0), (2, 0), (3, 0), (4, 0), (5, 1), (6, 0), (7, 0), (8, 2)]; assumption; exact mixed; kernel_rfl) | (apply x_callv; assumption; exact rfl; exact rfl; exact rfl; exact hE; exact NA.rfl_ _; exact hK _ (Sat.keeps (by assumption)); intro _ _ _) | (apply x_callv; assumption; exact rfl; exact rfl; exact rfl; exact e_coordinates; (exact (by repeat' constructor)); exact (coordinates_c _ _ _ _); intro _ _ _) | (apply z1_callv; exact rfl; exact rfl; exact e_coordinates; (exact (by repeat' constructor)); exact (fun _ _ => coordinates_c _ _ _ _)) | (apply z2_callv; exact rfl; exact rfl; exact e_coordinates; (exact (by repeat' constructor)); exact (fun _ _ => coordinates_c _ _ _ _)) | (apply x_callv; assumption; exact rfl; exact rfl; exact rfl; exact e_spot; (exact (by repeat' constructor)); exact (spot_c _ _ _ _); intro _ _ _) | (apply z1_callv; exact rfl; exact rfl; exact e_spot; (exact (by repeat' constructor)); exact (fun _ _ => spot_c _ _ _ _)) | (apply z2_callv; exact rfl; exact rfl; exact e_spot; (exact (by repeat' constructor)); exact (fun _ _ => spot_c _ _ _ _)) | (apply x_callrow; assumption; exact rfl; exact rfl; exact rfl; exact e_cloneF; (exact (by repeat' constructor)); exact (cloneF_c f.A f.cap f.fs hs1 _ (Old.now (Ft.O hf) (by assumption))); intro _ _ _ _) | (apply z1_callrow; exact rfl; exact rfl; exact e_cloneF; (exact (by repeat' constructor)); exact (fun _ _ => cloneF_c f.A f.cap f.fs hs1 _ (Old.now (Ft.O hf) (by assumption))); intro _ _) | (apply z2_callrow; exact rfl; exact rfl; exact e_cloneF; (exact (by repeat' constructor)); exact (fun _ _ => cloneF_c f.A f.cap f.fs hs1 _ (Old.now (Ft.O hf) (by assumption))); intro _ _) | (apply x_move; exact rfl; exact rfl; (exact (by repeat' constructor))) | (apply x_assign; exact rfl; exact rfl; (exact (by repeat' constructor))) | (apply x_fieldB; exact rfl; exact rfl; exact rfl; exact rfl; (constructor)) | (apply x_load; assumption; exact rfl; exact rfl; exact rfl; (exact (by repeat' constructor)); exact rfl; exact rfl; (exact (by repeat' constructor))) | (apply x_bin; exact rfl; exact rfl; exact rfl; (first | exact .z (.wrap (by omega)) | exact (by repeat' constructor))) | (apply x_box; assumption; exact rfl; exact rfl; (exact (by repeat' constructor)); (exact (by repeat' constructor)); intro _ _ _) | (apply x_alloc; assumption; exact rfl; exact rfl; exact rfl; (exact (by repeat' constructor)); intro _ _ _) | (apply x_store; assumption; exact rfl; exact rfl; (exact (by repeat' constructor)); (exact (by repeat' constructor)); exact rfl; exact rfl; exact rfl; (exact (by repeat' constructor)); intro _ _) | (apply x_builtin; exact rfl; exact rfl; exact (fun _ => rfl); (exact (by repeat' constructor))) | (apply x_fieldE; exact rfl; exact rfl; exact rfl; exact rfl; (constructor)) | (apply x_loadB; assumption; exact rfl; exact rfl; exact rfl; assumption; exact rfl; exact rfl; (exact (by repeat' constructor))) | (apply x_index; exact rfl; exact rfl; exact rfl; exact rfl; exact rfl; (constructor); (first | omega | exact size_pos (by assumption) | assumption); (first | exact rfl | assumption | exact Rd.some_ (by assumption) (by omega) | exact Rd.some_ (Old.rd (by assumption)) (by omega))) | (apply x_loadR; exact rfl; exact rfl; exact rfl; (first | exact Old.now (by assumption) (by assumption) | exact Sat.rdpr (by assumption) (by exact (by repeat' constructor)) | exact Sat.rd (by assumption) (by exact (by repeat' constructor))); (first | omega | exact size_pos (by assumption) | assumption); exact rfl; exact rfl; (exact (by repeat' constructor))) | (apply y_loadRow; exact rfl; exact rfl; (exact (by repeat' constructor)); (first | omega | exact size_pos (by assumption) | assumption); exact rfl; exact rfl; (exact (by repeat' constructor))) | (apply z2_storeRow; exact rfl; exact rfl; (exact (by repeat' constructor)); exact rfl; exact rfl; (exact (by repeat' constructor)); (first | omega | exact size_pos (by assumption) | assumption); (first | decide | omega)) | (apply y_move; exact rfl; (exact (by repeat' constructor))) | (apply y_fieldB; exact rfl; exact rfl; exact rfl; (constructor)) | (apply y_load; exact rfl; exact rfl; (exact (by repeat' constructor)); exact rfl; exact rfl; (exact (by repeat' constructor))) | (apply y_fieldE; exact rfl; exact rfl; exact rfl; (constructor)) | (apply y_loadB; exact rfl; exact rfl; assumption; exact rfl; exact rfl; (exact (by repeat' constructor))) | (apply y_index; exact rfl; exact rfl; exact rfl; exact rfl; (constructor); (first | omega | exact size_pos (by assumption) | assumption); (first | exact rfl | assumption | exact Rd.some_ (by assumption) (by omega) | exact Rd.some_ (Old.rd (by assumption)) (by omega))) | (apply y_loadR; exact rfl; exact rfl; assumption; (first | omega | exact size_pos (by assumption) | assumption); exact rfl; exact rfl; (exact (by repeat' constructor))) | (apply z2_store; exact rfl; exact rfl; (exact (by repeat' constructor)); (exact (by repeat' constructor)); exact rfl; exact rfl; exact rfl; (exact (by repeat' constructor))) | (apply PV.up3) | (apply y_nil; intro _ _) | (apply cw_true; exact rfl) | (apply cw_false; exact rfl) | (apply x_ndec; exact rfl; with_reducible exact rfl; all_goals (intro _; try omega)) | (apply x_dec; exact rfl; all_goals (intro _; try omega)) | (apply cw_ne; exact rfl; all_goals (intro _; try omega)) | (apply cw_eq; exact rfl; all_goals (intro _; try omega)) | (apply cw_not; exact rfl; all_goals (intro _; try omega)) | (apply cw_cond; exact rfl; all_goals (intro _; try omega))))
  rename_i b2 _ _ b4 _ _ _ _ _ _ _ _ _ _ _ _ _ A' c' _ _ w1 S1
  have hL : (f.fs.map frC).length = f.fs.length := List.length_map _
  obtain ⟨B, hB⟩ : ∃ B, B = blks [.rw 0 (.slice A' (f.fs.map frC).length c') 61 5 [], .cl b4 28 [], .cl b2 28 []] := ⟨_, rfl⟩
  refine cw_loop [5, 6, 21, 22, 23, 24, 25, 26, 27, 28, 29, 30, 31, 32, 33, 34] [21] (fun us wr => ∃ k : Nat, k ≤ f.fs.length ∧ us = [.int .i64 k] ∧ ∃ gs : List Fr', gs.map sk = f.fs.map sk ∧
    Sat w [] [.rw 0 (.slice A' (f.fs.map frC).length c') 61 5 (gs.map frC), .cl b4 28 (ftC ft0), .cl b2 28 [.string f.nm, .int .i64 f.kind, .int .i64 f.ax, .int .i64 x', .int .i64 y', .int .i64 z', .int .i64 f.lo, .int .i64 f.hi, .slice A' (f.fs.map frC).length c']] wr ∧
    (∀ j, j < f.fs.length → (gs.getD j fr0).ds.length ≤ (gs.getD j fr0).cap) ∧ (∀ j, k ≤ j → j < f.fs.length → gs.getD j fr0 = f.fs.getD j fr0) ∧
    (∀ j, j < k → 0 < (gs.getD j fr0).ds.length → ∀ a, (gs.getD j fr0).A = some a → w.heap.size ≤ a.block) ∧
    (∀ j, j < f.fs.length → Old wr B (gs.getD j fr0).A 2 (gs.getD j fr0).ds.length (fun i => dtC ((gs.getD j fr0).ds.getD i dt0)))) (fun us _ => f.fs.length - (intOf (us.getD 0 undef)).toNat) ?_ ?_
  · refine ⟨0, by omega, rfl, f.fs, rfl, S1, fun j hj => (hf.2.2.2.2 _ (getD_mem fr0 hj)).2.1, fun _ _ _ => rfl, fun j hj => absurd hj (Nat.not_lt_zero j), fun j hj => ?_⟩
    have := Old.rebase (Fr'.O (hf.2.2.2.2 _ (getD_mem fr0 hj))) (fun _ => by simp [dtC]) S1
    rw [hB]
    exact this
  clear S S1
  rintro g us wr ⟨k, hk, rfl, gs, hsk, Sr, hcp, heq, hfr, hold⟩
  have hgl := sk_len hsk
  by_cases hlt : k < f.fs.length
  · have hkL : k < (f.fs.map frC).length := by omega
    have hkG : k < (gs.map frC).length := by rw [List.length_map]; omega
    have hgk := heq k (Nat.le_refl _) hlt
    have hds : (gs.getD k fr0).ds.length < 1000000000 := by rw [hgk]; exact hs2 _ (getD_mem fr0 hlt)
    have Sb := Sr.rebase
    have hmL : (f.fs.map frC).length = gs.length := by omega
    have hA : A'.isSome = true := (Sat.rdm (en := frC) (l := gs) fr0 hmL Sr .head).some_ (by omega)
    have Ok : Old wr (blks [HO.rw 0 (.slice A' (f.fs.map frC).length c') 61 5 (gs.map frC), .cl b4 28 (ftC ft0), .cl b2 28 [.string f.nm, .int .i64 f.kind, .int .i64 f.ax, .int .i64 x', .int .i64 y', .int .i64 z', .int .i64 f.lo, .int .i64 f.hi, .slice A' (f.fs.map frC).length c']]) (gs.getD k fr0).A 2 (gs.getD k fr0).ds.length (fun i => dtC ((gs.getD k fr0).ds.getD i dt0)) := by
      have := hold k hlt
      rw [hB] at this
      exact this
    have Sr' : True ∧ Sat w [] _ wr := ⟨trivial, Sr⟩
    clear Sr
    (repeat' (first | apply cw_seq | apply cw_region | apply wl_nil | apply cw_block | apply cw_skip | apply cw_exit | apply cw_ret | (apply cw_draw (id := 6) [(0, 0), (1, 0), (2, 0), (3, 0), (4, 0), (5, 1), (6, 0), (7, 0), (8, 2)]; assumption; exact mixed; kernel_rfl) | (apply x_loadR; exact rfl; exact rfl; exact rfl; exact Sat.rdm (en := frC) (l := gs) fr0 hmL (by assumption) (by exact (by repeat' constructor)); exact hkL; exact rfl; exact rfl; (exact (by repeat' constructor))) | (apply x_callrow; assumption; exact rfl; exact rfl; exact rfl; exact e_cloneD; (exact (by repeat' constructor)); exact (cloneD_c _ _ (gs.getD k fr0).ds hds _ (Old.now Ok (by assumption))); intro _ _ _ _) | (apply z1_callrow; exact rfl; exact rfl; exact e_cloneD; (exact (by repeat' constructor)); exact (fun _ _ => cloneD_c _ _ (gs.getD k fr0).ds hds _ (Old.now Ok (by assumption))); intro _ _) | (apply z2_callrow; exact rfl; exact rfl; exact e_cloneD; (exact (by repeat' constructor)); exact (fun _ _ => cloneD_c _ _ (gs.getD k fr0).ds hds _ (Old.now Ok (by assumption))); intro _ _) | (apply x_move; exact rfl; exact rfl; (exact (by repeat' constructor))) | (apply x_assign; exact rfl; exact rfl; (exact (by repeat' constructor))) | (apply x_fieldB; exact rfl; exact rfl; exact rfl; exact rfl; (constructor)) | (apply x_load; assumption; exact rfl; exact rfl; exact rfl; (exact (by repeat' constructor)); exact rfl; exact rfl; (exact (by repeat' constructor))) | (apply x_bin; exact rfl; exact rfl; exact rfl; (first | exact .z (.wrap (by omega)) | exact (by repeat' constructor))) | (apply x_box; assumption; exact rfl; exact rfl; (exact (by repeat' constructor)); (exact (by repeat' constructor)); intro _ _ _) | (apply x_alloc; assumption; exact rfl; exact rfl; exact rfl; (exact (by repeat' constructor)); intro _ _ _) | (apply x_store; assumption; exact rfl; exact rfl; (exact (by repeat' constructor)); (exact (by repeat' constructor)); exact rfl; exact rfl; exact rfl; (exact (by repeat' constructor)); intro _ _) | (apply x_builtin; exact rfl; exact rfl; exact (fun _ => rfl); (exact (by repeat' constructor))) | (apply x_fieldE; exact rfl; exact rfl; exact rfl; exact rfl; (constructor)) | (apply x_loadB; assumption; exact rfl; exact rfl; exact rfl; assumption; exact rfl; exact rfl; (exact (by repeat' constructor))) | (apply x_index; exact rfl; exact rfl; exact rfl; exact rfl; exact rfl; (constructor); (first | omega | exact size_pos (by assumption) | assumption); (first | exact rfl | assumption | exact Rd.some_ (by assumption) (by omega) | exact Rd.some_ (Old.rd (by assumption)) (by omega))) | (apply x_loadR; exact rfl; exact rfl; exact rfl; (first | exact Old.now (by assumption) (by assumption) | exact Sat.rdpr (by assumption) (by exact (by repeat' constructor)) | exact Sat.rd (by assumption) (by exact (by repeat' constructor))); (first | omega | exact size_pos (by assumption) | assumption); exact rfl; exact rfl; (exact (by repeat' constructor))) | (apply y_loadRow; exact rfl; exact rfl; (exact (by repeat' constructor)); (first | omega | exact size_pos (by assumption) | assumption); exact rfl; exact rfl; (exact (by repeat' constructor))) | (apply z2_storeRow; exact rfl; exact rfl; (exact (by repeat' constructor)); exact rfl; exact rfl; (exact (by repeat' constructor)); (first | omega | exact size_pos (by assumption) | assumption); (first | decide | omega)) | (apply y_move; exact rfl; (exact (by repeat' constructor))) | (apply y_fieldB; exact rfl; exact rfl; exact rfl; (constructor)) | (apply y_load; exact rfl; exact rfl; (exact (by repeat' constructor)); exact rfl; exact rfl; (exact (by repeat' constructor))) | (apply y_fieldE; exact rfl; exact rfl; exact rfl; (constructor)) | (apply y_loadB; exact rfl; exact rfl; assumption; exact rfl; exact rfl; (exact (by repeat' constructor))) | (apply y_index; exact rfl; exact rfl; exact rfl; exact rfl; (constructor); (first | omega | exact size_pos (by assumption) | assumption); (first | exact rfl | assumption | exact Rd.some_ (by assumption) (by omega) | exact Rd.some_ (Old.rd (by assumption)) (by omega))) | (apply y_loadR; exact rfl; exact rfl; assumption; (first | omega | exact size_pos (by assumption) | assumption); exact rfl; exact rfl; (exact (by repeat' constructor))) | (apply z2_store; exact rfl; exact rfl; (exact (by repeat' constructor)); (exact (by repeat' constructor)); exact rfl; exact rfl; exact rfl; (exact (by repeat' constructor))) | (apply PV.up3) | (apply y_nil; intro _ _) | (apply cw_true; exact rfl) | (apply cw_false; exact rfl) | (apply x_ndec; exact rfl; with_reducible exact rfl; all_goals (intro _; try omega)) | (apply x_dec; exact rfl; all_goals (intro _; try omega)) | (apply cw_ne; exact rfl; all_goals (intro _; try omega)) | (apply cw_eq; exact rfl; all_goals (intro _; try omega)) | (apply cw_not; exact rfl; all_goals (intro _; try omega)) | (apply cw_cond; exact rfl; all_goals (intro _; try omega))))
    rename_i A1 c1 wn Sn
    have S1 := (Sr'.2.unbase Sn).drop2
    have hcap := Sn.rw_cap .head
    rw [List.length_map] at hcap
    have hset := set_map (A := A1) (c := c1) (by omega : k < gs.length) (show (List.map dtC (gs.getD k fr0).ds).length = _ from List.length_map _)
    rw [hset] at S1
    have hB2 : ∀ b ∈ B, b ∈ blks [HO.rw 0 (.slice A' (f.fs.map frC).length c') 61 5 ((gs.map frC).set k (((gs.map frC).getD k []).set 4 (.slice A1 (List.map dtC (gs.getD k fr0).ds).length c1))), .cl b4 28 (ftC ft0), .cl b2 28 [.string f.nm, .int .i64 f.kind, .int .i64 f.ax, .int .i64 x', .int .i64 y', .int .i64 z', .int .i64 f.lo, .int .i64 f.hi, .slice A' (f.fs.map frC).length c']] := by
      intro b hb
      rw [hB] at hb
      exact hb
    refine ⟨rfl, (by repeat (first | exact Agree.updl rfl (Agree.mask _ _ _) | refine Agree.upd rfl ?_)), ⟨k + 1, hlt, rfl, _, (sk_set (by omega) A1 c1).trans hsk, S1, fun j hj => ?_, fun j hkj hj => ?_, fun j hj => ?_, fun j hj => ?_⟩, ?_⟩
    · rw [getD_set _ (by omega)]
      split
      · exact hcap
      · exact hcp j hj
    · rw [getD_set _ (by omega), if_neg (by omega)]
      exact heq j (by omega) hj
    · rw [getD_set _ (by omega)]
      split
      · intro hp a ha
        have ha' : A1 = some a := ha
        subst ha'
        exact (Sr'.2.unbase Sn).rw_mine .head (by simpa using hp)
      · exact hfr j (by omega)
    · rw [getD_set _ (by omega)]
      split
      · have R1 := Sat.rdm (en := dtC) dt0 (List.length_map _) Sn .head
        rw [List.length_map] at R1
        refine ⟨R1, fun hp a ha hb => ?_⟩
        have ha' : A1 = some a := ha
        subst ha'
        exact Sn.rw_own (by simpa using hp) (by rw [show ∀ (o : HO) (h : List HO), blks (o :: h) = (match o.own with | some b => [b] | none => []) ++ blks h from fun _ _ => rfl]; exact List.mem_append_right _ (hB2 _ hb))
      · have h0 := hold j hj
        rw [hB] at h0
        have h1 := Old.rebase h0 (fun _ => by simp [dtC]) Sn
        refine h1.less fun b hb => ?_
        rw [show ∀ (o : HO) (h : List HO), blks (o :: h) = (match o.own with | some b => [b] | none => []) ++ blks h from fun _ _ => rfl, show ∀ (o : HO) (h : List HO), blks (o :: h) = (match o.own with | some b => [b] | none => []) ++ blks h from fun _ _ => rfl]
        exact List.mem_append_right _ (List.mem_append_right _ (hB2 _ hb))
    · show f.fs.length - (k + 1 : Int).toNat < f.fs.length - (k : Int).toNat
      omega
  · have Sb := Sr.rebase
    have Sr' : True ∧ Sat w [] _ wr := ⟨trivial, Sr⟩
    clear Sr
    (repeat' (first | apply cw_seq | apply cw_region | apply wl_nil | apply cw_block | apply cw_skip | apply cw_exit | apply cw_ret | (apply cw_draw (id := 6) [(0, 0), (1, 0), (2, 0), (3, 0), (4, 0), (5, 1), (6, 0), (7, 0), (8, 2)]; assumption; exact mixed; kernel_rfl) | (apply x_move; exact rfl; exact rfl; (exact (by repeat' constructor))) | (apply x_assign; exact rfl; exact rfl; (exact (by repeat' constructor))) | (apply x_fieldB; exact rfl; exact rfl; exact rfl; exact rfl; (constructor)) | (apply x_load; assumption; exact rfl; exact rfl; exact rfl; (exact (by repeat' constructor)); exact rfl; exact rfl; (exact (by repeat' constructor))) | (apply x_bin; exact rfl; exact rfl; exact rfl; (first | exact .z (.wrap (by omega)) | exact (by repeat' constructor))) | (apply x_box; assumption; exact rfl; exact rfl; (exact (by repeat' constructor)); (exact (by repeat' constructor)); intro _ _ _) | (apply x_alloc; assumption; exact rfl; exact rfl; exact rfl; (exact (by repeat' constructor)); intro _ _ _) | (apply x_store; assumption; exact rfl; exact rfl; (exact (by repeat' constructor)); (exact (by repeat' constructor)); exact rfl; exact rfl; exact rfl; (exact (by repeat' constructor)); intro _ _) | (apply x_builtin; exact rfl; exact rfl; exact (fun _ => rfl); (exact (by repeat' constructor))) | (apply x_fieldE; exact rfl; exact rfl; exact rfl; exact rfl; (constructor)) | (apply x_loadB; assumption; exact rfl; exact rfl; exact rfl; assumption; exact rfl; exact rfl; (exact (by repeat' constructor))) | (apply x_index; exact rfl; exact rfl; exact rfl; exact rfl; exact rfl; (constructor); (first | omega | exact size_pos (by assumption) | assumption); (first | exact rfl | assumption | exact Rd.some_ (by assumption) (by omega) | exact Rd.some_ (Old.rd (by assumption)) (by omega))) | (apply x_loadR; exact rfl; exact rfl; exact rfl; (first | exact Old.now (by assumption) (by assumption) | exact Sat.rdpr (by assumption) (by exact (by repeat' constructor)) | exact Sat.rd (by assumption) (by exact (by repeat' constructor))); (first | omega | exact size_pos (by assumption) | assumption); exact rfl; exact rfl; (exact (by repeat' constructor))) | (apply y_loadRow; exact rfl; exact rfl; (exact (by repeat' constructor)); (first | omega | exact size_pos (by assumption) | assumption); exact rfl; exact rfl; (exact (by repeat' constructor))) | (apply z2_storeRow; exact rfl; exact rfl; (exact (by repeat' constructor)); exact rfl; exact rfl; (exact (by repeat' constructor)); (first | omega | exact size_pos (by assumption) | assumption); (first | decide | omega)) | (apply y_move; exact rfl; (exact (by repeat' constructor))) | (apply y_fieldB; exact rfl; exact rfl; exact rfl; (constructor)) | (apply y_load; exact rfl; exact rfl; (exact (by repeat' constructor)); exact rfl; exact rfl; (exact (by repeat' constructor))) | (apply y_fieldE; exact rfl; exact rfl; exact rfl; (constructor)) | (apply y_loadB; exact rfl; exact rfl; assumption; exact rfl; exact rfl; (exact (by repeat' constructor))) | (apply y_index; exact rfl; exact rfl; exact rfl; exact rfl; (constructor); (first | omega | exact size_pos (by assumption) | assumption); (first | exact rfl | assumption | exact Rd.some_ (by assumption) (by omega) | exact Rd.some_ (Old.rd (by assumption)) (by omega))) | (apply y_loadR; exact rfl; exact rfl; assumption; (first | omega | exact size_pos (by assumption) | assumption); exact rfl; exact rfl; (exact (by repeat' constructor))) | (apply z2_store; exact rfl; exact rfl; (exact (by repeat' constructor)); (exact (by repeat' constructor)); exact rfl; exact rfl; exact rfl; (exact (by repeat' constructor))) | (apply PV.up3) | (apply y_nil; intro _ _) | (apply cw_true; exact rfl) | (apply cw_false; exact rfl) | (apply x_ndec; exact rfl; with_reducible exact rfl; all_goals (intro _; try omega)) | (apply x_dec; exact rfl; all_goals (intro _; try omega)) | (apply cw_ne; exact rfl; all_goals (intro _; try omega)) | (apply cw_eq; exact rfl; all_goals (intro _; try omega)) | (apply cw_not; exact rfl; all_goals (intro _; try omega)) | (apply cw_cond; exact rfl; all_goals (intro _; try omega))))
    refine q_retS (by assumption) rfl (by repeat (first | exact .nil | (apply RV.tmp; exact (by repeat' constructor)) | (apply RV.cell; exact rfl; exact (by repeat' constructor); exact rfl; exact rfl; exact (by repeat' constructor)))) ?_
    rename_i S8
    have S9 := Sr'.2.unbase S8
    have hke : k = f.fs.length := by omega
    subst hke
    have h9 := S9.rw_cap .head
    rw [List.length_map] at h9
    have hj : ∀ g ∈ gs, ∃ j, j < f.fs.length ∧ gs.getD j fr0 = g := fun g hg => by
      obtain ⟨j, hj, e⟩ := List.getElem_of_mem hg
      exact ⟨j, by omega, by simp [List.getD_eq_getElem?_getD, hj, e]⟩
    refine ⟨{ f with x := x', y := y', z := z', A := A', cap := c', fs := gs }, ?_, S9.keeps, ⟨rfl, rfl, rfl, ⟨rfl, rfl, rfl⟩, ⟨rfl, rfl⟩, hsk⟩, ⟨hf.1, ?_, h9, ?_, fun g hg => ?_⟩, fun hp a ha => ?_, fun g hg => ?_⟩
    · simp [pack, hgl]
    · show gs.length ≤ _
      rw [hgl]; exact hf.2.1
    · have := Sat.rdm (en := frC) (l := gs) fr0 (by omega : (f.fs.map frC).length = gs.length) S9 .head
      rw [hL, ← hgl] at this
      exact this
    · obtain ⟨j, hj, rfl⟩ := hj g hg
      have hd := sk_ds (sk_get hsk j)
      have ho := hf.2.2.2.2 _ (getD_mem fr0 hj)
      have h0 := hold j hj
      rw [hB] at h0
      exact ⟨by rw [hd]; exact ho.1, hcp j hj, Old.now h0 S8, by rw [hd]; exact ho.2.2.2⟩
    · have ha' : A' = some a := ha
      subst ha'
      exact S9.rw_mine .head (by rw [List.length_map]; exact hp)
    · obtain ⟨j, hj, rfl⟩ := hj g hg
      exact hfr j hj
end Go.Proofs.Ytcchdbihepinmaa
