/-
  Pages (layer 11), the fifth part: holds more or fewer.
-/
import Derived.Test.YtgbgneiciabidaaGreatDoorStoreD
import Derived.StillTailTactics
namespace Go.Proofs.YtgbgneiciabidaaGreatDoor
open Go Go.RowKit
set_option linter.all false

theorem pool_split {T : List (Int × Sl)} {a : Int} {t : Sl} (hu : VMap.Up T) (h : VMap.get a T = some t) : (pool T).Perm (all t.rows :: pool (VMap.del a T)) := (VMap.get_split hu h).map _
theorem pool_put (T : List (Int × Sl)) (a : Int) (t : Sl) : (pool (VMap.put a t T)).Perm (all t.rows :: pool (VMap.del a T)) := (VMap.ins_perm (a, t) (VMap.del a T)).map _
theorem put_mem {α : Type} {a : Int} {v : α} {M : List (Int × α)} {p : Int × α} (h : p ∈ VMap.put a v M) : p = (a, v) ∨ p ∈ M := by
  rcases List.mem_cons.1 ((VMap.ins_perm _ _).mem_iff.1 h) with h | h
  · exact .inl h
  · exact .inr (List.mem_filter.1 h).1
theorem Has.pool_sl {w : World} : ∀ {l : List Say} {T : List (Int × Sl)}, Has w l → (∀ A ∈ pool T, A ∈ l) → SlSl T := by
  intro l T h hm p hp
  have h1 := h.only (hm _ (List.mem_map.2 ⟨p, hp, rfl⟩))
  have h2 := h1.split
  obtain ⟨a, c, e, _, _⟩ := h2.ints_read (v := p.2.kv) (xs := p.2.pg.n.keys) (by simp [Sl.rows])
  obtain ⟨a', c', e', _, _⟩ := h2.ints_read (v := p.2.vv) (xs := p.2.pg.n.vals) (by simp [Sl.rows])
  exact ⟨⟨_, _, _, e⟩, _, _, _, e'⟩

/-- A page gets other holds. -/
theorem Has.st_again {w : World} {l : List Say} {p bank sp n : Nat} {x : StAt} {a : Int} {t : Sl} {g' : Pg} {Q : Pgs} (ok : StOk Q x) (hg : VMap.get a x.T = some t) (hn : g'.n = t.pg.n)
    (h : Has w (storeCell p bank sp x.mb :: mapS x.mb n (VMap.put a (Sl.val { t with pg := g' }) (VMap.over Sl.val x.T)) :: (pool x.T ++ l))) : Has w (storeS p bank sp n (VMap.put a g' Q) :: l) := by
  refine Has.st_shut (x := ⟨x.mb, VMap.put a { t with pg := g' } x.T⟩) ⟨?_, ok.up.put _ _, ?_, ?_⟩ ?_
  · rw [VMap.over_put, ok.eq]
  · intro q hq
    rcases put_mem hq with rfl | hq
    · have := get_mem hg
      have hm : (a, t.pg) ∈ Q := by rw [← ok.eq]; exact List.mem_map.2 ⟨_, this, rfl⟩
      exact ok.bd (a, t.pg) hm
    · exact ok.bd q hq
  · intro q hq
    rcases put_mem hq with rfl | hq
    · have := get_mem hg
      have hm : (a, t.pg) ∈ Q := by rw [← ok.eq]; exact List.mem_map.2 ⟨_, this, rfl⟩
      show Nd.ok g'.n = true
      rw [hn]
      exact ok.ok (a, t.pg) hm
    · exact ok.ok q hq
  · unfold storeFlat
    rw [VMap.over_put]
    refine h.perm (List.Perm.cons _ (List.Perm.cons _ (List.Perm.append_right l ?_)))
    refine (pool_split ok.up hg).trans (List.Perm.trans ?_ (pool_put x.T a { t with pg := g' }).symm)
    have e : Sl.rows { t with pg := g' } = Sl.rows t := by simp [Sl.rows, hn]
    rw [e]

def AddPost2 (p bank sp n : Nat) (Q : Pgs) (l : List Say) (w : World) (r : Ending) (w' : World) : Prop := r = .returned (.tuple #[]) ∧ Kept w w' ∧ Has w' (storeS p bank sp n Q :: l)

set_option maxHeartbeats 1000000 in
set_option maxRecDepth 100000 in
theorem st_add {w : World} {l : List Say} {p bank sp n : Nat} {Q : Pgs} (h : Has w (storeS p bank sp n Q :: l)) (a more : Int) (g : Pg) (hg : VMap.get a Q = some g) (hn : n ≤ 1000000) (h0 : -1000000000 ≤ g.holds) (h1 : g.holds ≤ 1000000000) (m0 : -10 ≤ more) (m1 : more ≤ 10) :
    Calls Tryz.prog 83 #[.pointer (some ⟨p, 0, none⟩), .int .i64 a, .int .i64 more] w (AddPost2 p bank sp (n + 1) (VMap.put a { g with holds := g.holds + more } Q) l w) := by
  obtain ⟨x, ok, hh⟩ := h.st_open
  obtain ⟨t, ht, rfl⟩ : ∃ t, VMap.get a x.T = some t ∧ t.pg = g := by
    have e := hg
    rw [← ok.eq, VMap.get_over] at e
    obtain ⟨t, ht, e⟩ := Option.map_eq_some_iff.1 e
    exact ⟨t, ht, e⟩
  obtain ⟨⟨nd, H, E⟩, kv, vv⟩ := t
  simp only at hg h0 h1 ⊢
  have hbd := ok.bd (a, ⟨nd, H, E⟩) (get_mem hg)
  simp only at hbd
  have hsl := hh.pool_sl (T := x.T) (fun A hA => by simp [storeFlat, hA])
  obtain ⟨⟨ak, nk, ck, ek⟩, av, nv, cv, ev⟩ := hsl _ (get_mem ht)
  simp only at ek ev
  subst ek ev
  have hval : Sl.val ⟨⟨nd, H, E⟩, .slice ak nk ck, .slice av nv cv⟩ = .agg #[.int .i64 nd.level, .slice ak nk ck, .slice av nv cv, .int .i64 H, .int .i64 E] := rfl
  have hlk := map_look hh (b := x.mb) (n := n) (M := VMap.over Sl.val x.T) (by simp [storeFlat]) a (by omega) (by omega)
  rw [VMap.get_over, ht] at hlk
  simp only [Option.map_some, Option.getD_some, hval] at hlk
  have hp : w.heap[p]? = some (.cells #[.pointer (some ⟨bank, 0, none⟩), .pointer (some ⟨sp, 0, none⟩), .map (some x.mb), .map none] 147 (0, 0)) := hh.got
  have c2 : w.cell? ⟨p, 2, none⟩ = some (.map (some x.mb)) := cell_of hp 2 rfl
  have hA := hh.alloc (.cells #[.int .i64 nd.level, .slice ak nk ck, .slice av nv cv, .int .i64 H, .int .i64 E] 153)
  have k0 := cell_of hA.got 0 rfl
  have k1 := cell_of hA.got 1 rfl
  have k2 := cell_of hA.got 2 rfl
  have k3 := cell_of hA.got 3 rfl
  have k4 := cell_of hA.got 4 rfl
  have f3 := thaw_of hA.got 3
  have hA2 := (hA.setCell 3 (.int .i64 (H + more))).drew
  have hA3 := hA2.tail
  obtain ⟨w9, hrun, hK9, hh9⟩ := map_store (hA3.pull 1) (by simp [maxLen]; omega) a (by omega) (by omega) (.agg #[.int .i64 nd.level, .slice ak nk ck, .slice av nv cv, .int .i64 (H + more), .int .i64 E])
  have hwr : IntKind.i64.wrap (H + more) = H + more := by rw [IntKind.wrap_i64]; omega
  have HF : Hid (Kept w w9 ∧ Has w9 (storeS p bank sp (n + 1) (VMap.put a ⟨nd, H + more, E⟩ Q) :: l)) :=
    ⟨((((Kept.refl w).alloc _).setCell _ _).drew).trans hK9, Has.st_again (g' := ⟨nd, H + more, E⟩) ok ht rfl hh9.swap⟩
  have hlp : p < w.heap.size := World.block_lt_of_cell? _ _ c2
  have g2 := cell_of hA2.tail.got 2 rfl
  have g3 := cell_of hA2.got 0 rfl
  have g4 := cell_of hA2.got 1 rfl
  have g5 := cell_of hA2.got 2 rfl
  have g6 := cell_of hA2.got 3 rfl
  have g7 := cell_of hA2.got 4 rfl
  have c2w : (w.alloc (.cells #[.int .i64 nd.level, .slice ak nk ck, .slice av nv cv, .int .i64 H, .int .i64 E] 153)).cell? ⟨p, 2, none⟩ = some (.map (some x.mb)) := by rw [World.cell?_alloc_lt _ _ _ hlp]; exact c2
  have hne : w.heap.size ≠ p := by omega
  clear hK9 hh9 hA hA2 hA3 hh h ok hg hsl hp hval ht
  generalize nd.level = L at *
  go_enter Tryz.func83, Tryz.ntmps83
  go_upto_region 1 with fail
  generalize w.alloc (.cells #[.int .i64 L, .slice ak nk ck, .slice av nv cv, .int .i64 H, .int .i64 E] 153) = W at *
  have lb := World.block_lt_of_cell? _ _ k0
  generalize w.heap.size = b at *
  clear c2 hlk
  go_upto_region 2 with fail
  have G2 : (W.setCell ⟨b, 3, none⟩ (.int .i64 (H + more))).cell? ⟨p, 2, none⟩ = some (.map (some x.mb)) := g2
  have G3 : (W.setCell ⟨b, 3, none⟩ (.int .i64 (H + more))).cell? ⟨b, 0, none⟩ = some (.int .i64 L) := g3
  have G4 : (W.setCell ⟨b, 3, none⟩ (.int .i64 (H + more))).cell? ⟨b, 1, none⟩ = some (.slice ak nk ck) := g4
  have G5 : (W.setCell ⟨b, 3, none⟩ (.int .i64 (H + more))).cell? ⟨b, 2, none⟩ = some (.slice av nv cv) := g5
  have G6 : (W.setCell ⟨b, 3, none⟩ (.int .i64 (H + more))).cell? ⟨b, 3, none⟩ = some (.int .i64 (H + more)) := g6
  have G7 : (W.setCell ⟨b, 3, none⟩ (.int .i64 (H + more))).cell? ⟨b, 4, none⟩ = some (.int .i64 E) := g7
  clear g2 g3 g4 g5 g6 g7 k0 k1 k2 k3 k4 f3 c2w lb
  generalize W.setCell ⟨b, 3, none⟩ (.int .i64 (H + more)) = V at *
  have lb := World.block_lt_of_cell? _ _ G3
  have lp := World.block_lt_of_cell? _ _ G2
  go_still_tail 6, (by kernel_rfl)
  change wpList _ _ _ _ _ V.drew
  generalize V.drew = V8 at *
  go_wp2
  go_end0
  exact ⟨rfl, HF.out⟩

set_option maxHeartbeats 1000000 in
set_option maxRecDepth 100000 in
theorem st_own {w : World} {l : List Say} {p bank sp n : Nat} {Q : Pgs} (h : Has w (storeS p bank sp n Q :: l)) (a more : Int) (g : Pg) (hg : VMap.get a Q = some g) (hn : n ≤ 1000000) (h0 : -1000000000 ≤ g.held) (h1 : g.held ≤ 1000000000) (m0 : -10 ≤ more) (m1 : more ≤ 10) :
    Calls Tryz.prog 90 #[.pointer (some ⟨p, 0, none⟩), .int .i64 a, .int .i64 more] w (AddPost2 p bank sp (n + 1) (VMap.put a { g with held := g.held + more } Q) l w) := by
  obtain ⟨x, ok, hh⟩ := h.st_open
  obtain ⟨t, ht, rfl⟩ : ∃ t, VMap.get a x.T = some t ∧ t.pg = g := by
    have e := hg
    rw [← ok.eq, VMap.get_over] at e
    obtain ⟨t, ht, e⟩ := Option.map_eq_some_iff.1 e
    exact ⟨t, ht, e⟩
  obtain ⟨⟨nd, H, E⟩, kv, vv⟩ := t
  simp only at hg h0 h1 ⊢
  have hbd := ok.bd (a, ⟨nd, H, E⟩) (get_mem hg)
  simp only at hbd
  have hsl := hh.pool_sl (T := x.T) (fun A hA => by simp [storeFlat, hA])
  obtain ⟨⟨ak, nk, ck, ek⟩, av, nv, cv, ev⟩ := hsl _ (get_mem ht)
  simp only at ek ev
  subst ek ev
  have hval : Sl.val ⟨⟨nd, H, E⟩, .slice ak nk ck, .slice av nv cv⟩ = .agg #[.int .i64 nd.level, .slice ak nk ck, .slice av nv cv, .int .i64 H, .int .i64 E] := rfl
  have hlk := map_look hh (b := x.mb) (n := n) (M := VMap.over Sl.val x.T) (by simp [storeFlat]) a (by omega) (by omega)
  rw [VMap.get_over, ht] at hlk
  simp only [Option.map_some, Option.getD_some, hval] at hlk
  have hp : w.heap[p]? = some (.cells #[.pointer (some ⟨bank, 0, none⟩), .pointer (some ⟨sp, 0, none⟩), .map (some x.mb), .map none] 147 (0, 0)) := hh.got
  have c2 : w.cell? ⟨p, 2, none⟩ = some (.map (some x.mb)) := cell_of hp 2 rfl
  have hA := hh.alloc (.cells #[.int .i64 nd.level, .slice ak nk ck, .slice av nv cv, .int .i64 H, .int .i64 E] 153)
  have k0 := cell_of hA.got 0 rfl
  have k1 := cell_of hA.got 1 rfl
  have k2 := cell_of hA.got 2 rfl
  have k3 := cell_of hA.got 3 rfl
  have k4 := cell_of hA.got 4 rfl
  have f3 := thaw_of hA.got 4
  have hA2 := (hA.setCell 4 (.int .i64 (E + more))).drew
  have hA3 := hA2.tail
  obtain ⟨w9, hrun, hK9, hh9⟩ := map_store (hA3.pull 1) (by simp [maxLen]; omega) a (by omega) (by omega) (.agg #[.int .i64 nd.level, .slice ak nk ck, .slice av nv cv, .int .i64 H, .int .i64 (E + more)])
  have hwr : IntKind.i64.wrap (E + more) = E + more := by rw [IntKind.wrap_i64]; omega
  have HF : Hid (Kept w w9 ∧ Has w9 (storeS p bank sp (n + 1) (VMap.put a ⟨nd, H, E + more⟩ Q) :: l)) :=
    ⟨((((Kept.refl w).alloc _).setCell _ _).drew).trans hK9, Has.st_again (g' := ⟨nd, H, E + more⟩) ok ht rfl hh9.swap⟩
  have hlp : p < w.heap.size := World.block_lt_of_cell? _ _ c2
  have g2 := cell_of hA2.tail.got 2 rfl
  have g3 := cell_of hA2.got 0 rfl
  have g4 := cell_of hA2.got 1 rfl
  have g5 := cell_of hA2.got 2 rfl
  have g6 := cell_of hA2.got 3 rfl
  have g7 := cell_of hA2.got 4 rfl
  have c2w : (w.alloc (.cells #[.int .i64 nd.level, .slice ak nk ck, .slice av nv cv, .int .i64 H, .int .i64 E] 153)).cell? ⟨p, 2, none⟩ = some (.map (some x.mb)) := by rw [World.cell?_alloc_lt _ _ _ hlp]; exact c2
  have hne : w.heap.size ≠ p := by omega
  clear hK9 hh9 hA hA2 hA3 hh h ok hg hsl hp hval ht
  generalize nd.level = L at *
  go_enter Tryz.func90, Tryz.ntmps90
  go_upto_region 1 with fail
  generalize w.alloc (.cells #[.int .i64 L, .slice ak nk ck, .slice av nv cv, .int .i64 H, .int .i64 E] 153) = W at *
  have lb := World.block_lt_of_cell? _ _ k0
  generalize w.heap.size = b at *
  clear c2 hlk
  go_upto_region 2 with fail
  have G2 : (W.setCell ⟨b, 4, none⟩ (.int .i64 (E + more))).cell? ⟨p, 2, none⟩ = some (.map (some x.mb)) := g2
  have G3 : (W.setCell ⟨b, 4, none⟩ (.int .i64 (E + more))).cell? ⟨b, 0, none⟩ = some (.int .i64 L) := g3
  have G4 : (W.setCell ⟨b, 4, none⟩ (.int .i64 (E + more))).cell? ⟨b, 1, none⟩ = some (.slice ak nk ck) := g4
  have G5 : (W.setCell ⟨b, 4, none⟩ (.int .i64 (E + more))).cell? ⟨b, 2, none⟩ = some (.slice av nv cv) := g5
  have G6 : (W.setCell ⟨b, 4, none⟩ (.int .i64 (E + more))).cell? ⟨b, 3, none⟩ = some (.int .i64 H) := g6
  have G7 : (W.setCell ⟨b, 4, none⟩ (.int .i64 (E + more))).cell? ⟨b, 4, none⟩ = some (.int .i64 (E + more)) := g7
  clear g2 g3 g4 g5 g6 g7 k0 k1 k2 k3 k4 f3 c2w lb
  generalize W.setCell ⟨b, 4, none⟩ (.int .i64 (E + more)) = V at *
  have lb := World.block_lt_of_cell? _ _ G3
  have lp := World.block_lt_of_cell? _ _ G2
  go_still_tail 6, (by kernel_rfl)
  change wpList _ _ _ _ _ V.drew
  generalize V.drew = V8 at *
  go_wp2
  go_end0
  exact ⟨rfl, HF.out⟩

end Go.Proofs.YtgbgneiciabidaaGreatDoor
