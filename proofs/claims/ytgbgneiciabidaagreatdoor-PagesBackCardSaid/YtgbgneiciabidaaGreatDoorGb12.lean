/-
  Pages (layer 11), the fifth part: holds more or fewer.
-/
import Derived.Test.YtgbgneiciabidaaGreatDoorGb11
import Derived.StillTailTactics
import Derived.Test.YtgbgneiciabidaaGreatDoorGb9
import Derived.Test.YtgbgneiciabidaaGreatDoorGb7
import Derived.Test.YtgbgneiciabidaaGreatDoorGb5
namespace Go.Proofs.YtgbgneiciabidaaGreatDoor
open Go Go.RowKit
set_option linter.all false

theorem pool_split {T : List (Int × Sl)} {a : Int} {t : Sl} (hu : VMap.Up T) (h : VMap.get a T = some t) : (pool T).Perm (all t.rows :: pool (VMap.del a T)) := (VMap.get_split hu h).map _
theorem pool_put (T : List (Int × Sl)) (a : Int) (t : Sl) : (pool (VMap.put a t T)).Perm (all t.rows :: pool (VMap.del a T)) := (VMap.ins_perm (a, t) (VMap.del a T)).map _
theorem put_mem {α : Type} {a : Int} {v : α} {M : List (Int × α)} {p : Int × α} (h : p ∈ VMap.put a v M) : p = (a, v) ∨ p ∈ M := by
  rcases List.mem_cons.1 ((VMap.ins_perm _ _).mem_iff.1 h) with h | h
  · exact .inl h
  · exact .inr (List.mem_filter.1 h).1
theorem Has.pool_sl {w : World} : ∀ {l : List Say} {T : List (Int × Sl)}, Has w l → (∀ A ∈ pool T, A ∈ l) → SlSl T := by
  intro l T h hm p hp
  have h1 := h.only (hm _ (List.mem_map.2 ⟨p, hp, rfl⟩))
  have h2 := h1.split
  obtain ⟨a, c, e, _, _⟩ := h2.ints_read (v := p.2.kv) (xs := p.2.pg.n.keys) (by simp [Sl.rows])
  obtain ⟨a', c', e', _, _⟩ := h2.ints_read (v := p.2.vv) (xs := p.2.pg.n.vals) (by simp [Sl.rows])
  exact ⟨⟨_, _, _, e⟩, _, _, _, e'⟩

/-- A page gets other holds. -/
theorem Has.st_again {w : World} {l : List Say} {p bank sp n : Nat} {x : StAt} {a : Int} {t : Sl} {g' : Pg} {Q : Pgs} (ok : StOk Q x) (hg : VMap.get a x.T = some t) (hn : g'.n = t.pg.n)
    (h : Has w (storeCell p bank sp x.mb :: mapS x.mb n (VMap.put a (Sl.val { t with pg := g' }) (VMap.over Sl.val x.T)) :: (pool x.T ++ l))) : Has w (storeS p bank sp n (VMap.put a g' Q) :: l) := by
  refine Has.st_shut (x := ⟨x.mb, VMap.put a { t with pg := g' } x.T⟩) ⟨?_, ok.up.put _ _, ?_, ?_⟩ ?_
  · rw [VMap.over_put, ok.eq]
  · intro q hq
    rcases put_mem hq with rfl | hq
    · have := get_mem hg
      have hm : (a, t.pg) ∈ Q := by rw [← ok.eq]; exact List.mem_map.2 ⟨_, this, rfl⟩
      exact ok.bd (a, t.pg) hm
    · exact ok.bd q hq
  · intro q hq
    rcases put_mem hq with rfl | hq
    · have := get_mem hg
      have hm : (a, t.pg) ∈ Q := by rw [← ok.eq]; exact List.mem_map.2 ⟨_, this, rfl⟩
      show Nd.ok g'.n = true
      rw [hn]
      exact ok.ok (a, t.pg) hm
    · exact ok.ok q hq
  · unfold storeFlat
    rw [VMap.over_put]
    refine h.perm (List.Perm.cons _ (List.Perm.cons _ (List.Perm.append_right l ?_)))
    refine (pool_split ok.up hg).trans (List.Perm.trans ?_ (pool_put x.T a { t with pg := g' }).symm)
    have e : Sl.rows { t with pg := g' } = Sl.rows t := by simp [Sl.rows, hn]
    rw [e]

def AddPost2 (p bank sp n : Nat) (Q : Pgs) (l : List Say) (w : World) (r : Ending) (w' : World) : Prop := r = .returned (.tuple #[]) ∧ Kept w w' ∧ Has w' (storeS p bank sp n Q :: l)

set_option maxHeartbeats 1000000 in
set_option maxRecDepth 100000 in
theorem st_add {w : World} {l : List Say} {p bank sp n : Nat} {Q : Pgs} (h : Has w (storeS p bank sp n Q :: l)) (a more : Int) (g : Pg) (hg : VMap.get a Q = some g) (hn : n ≤ 1000000) (h0 : -1000000000 ≤ g.holds) (h1 : g.holds ≤ 1000000000) (m0 : -10 ≤ more) (m1 : more ≤ 10) :
    Calls Tryz.prog 83 #[.pointer (some ⟨p, 0, none⟩), .int .i64 a, .int .i64 more] w (AddPost2 p bank sp (n + 1) (VMap.put a { g with holds := g.holds + more } Q) l w) := by
  obtain ⟨x, ok, hh⟩ := h.st_open
  obtain ⟨t, ht, rfl⟩ : ∃ t, VMap.get a x.T = some t ∧ t.pg = g := by
    have e := hg
    rw [← ok.eq, VMap.get_over] at e
    obtain ⟨t, ht, e⟩ := Option.map_eq_some_iff.1 e
    exact ⟨t, ht, e⟩
  obtain ⟨⟨nd, H, E⟩, kv, vv⟩ := t
  simp only at hg h0 h1 ⊢
  have hbd := ok.bd (a, ⟨nd, H, E⟩) (get_mem hg)
  simp only at hbd
  have hsl := hh.pool_sl (T := x.T) (fun A hA => by simp [storeFlat, hA])
  obtain ⟨⟨ak, nk, ck, ek⟩, av, nv, cv, ev⟩ := hsl _ (get_mem ht)
  simp only at ek ev
  subst ek ev
  have hval : Sl.val ⟨⟨nd, H, E⟩, .slice ak nk ck, .slice av nv cv⟩ = .agg #[.int .i64 nd.level, .slice ak nk ck, .slice av nv cv, .int .i64 H, .int .i64 E] := rfl
  have hlk := map_look hh (b := x.mb) (n := n) (M := VMap.over Sl.val x.T) (by simp [storeFlat]) a (by omega) (by omega)
  rw [VMap.get_over, ht] at hlk
  simp only [Option.map_some, Option.getD_some, hval] at hlk
  have hp : w.heap[p]? = some (.cells #[.pointer (some ⟨bank, 0, none⟩), .pointer (some ⟨sp, 0, none⟩), .map (some x.mb), .map none] 147 (0, 0)) := hh.got
  have c2 : w.cell? ⟨p, 2, none⟩ = some (.map (some x.mb)) := cell_of hp 2 rfl
  have hA := hh.alloc (.cells #[.int .i64 nd.level, .slice ak nk ck, .slice av nv cv, .int .i64 H, .int .i64 E] 153)
  have k0 := cell_of hA.got 0 rfl
  have k1 := cell_of hA.got 1 rfl
  have k2 := cell_of hA.got 2 rfl
  have k3 := cell_of hA.got 3 rfl
  have k4 := cell_of hA.got 4 rfl
  have f3 := thaw_of hA.got 3
  have hA2 := (hA.setCell 3 (.int .i64 (H + more))).drew
  have hA3 := hA2.tail
  obtain ⟨w9, hrun, hK9, hh9⟩ := map_store (hA3.pull 1) (by simp [maxLen]; omega) a (by omega) (by omega) (.agg #[.int .i64 nd.level, .slice ak nk ck, .slice av nv cv, .int .i64 (H + more), .int .i64 E])
  have hwr : IntKind.i64.wrap (H + more) = H + more := by rw [IntKind.wrap_i64]; omega
  have HF : Hid (Kept w w9 ∧ Has w9 (storeS p bank sp (n + 1) (VMap.put a ⟨nd, H + more, E⟩ Q) :: l)) :=
    ⟨((((Kept.refl w).alloc _).setCell _ _).drew).trans hK9, Has.st_again (g' := ⟨nd, H + more, E⟩) ok ht rfl hh9.swap⟩
  have hlp : p < w.heap.size := World.block_lt_of_cell? _ _ c2
  have g2 := cell_of hA2.tail.got 2 rfl
  have g3 := cell_of hA2.got 0 rfl
  have g4 := cell_of hA2.got 1 rfl
  have g5 := cell_of hA2.got 2 rfl
  have g6 := cell_of hA2.got 3 rfl
  have g7 := cell_of hA2.got 4 rfl
  have c2w : (w.alloc (.cells #[.int .i64 nd.level, .slice ak nk ck, .slice av nv cv, .int .i64 H, .int .i64 E] 153)).cell? ⟨p, 2, none⟩ = some (.map (some x.mb)) := by rw [World.cell?_alloc_lt _ _ _ hlp]; exact c2
  have hne : w.heap.size ≠ p := by omega
  clear hK9 hh9 hA hA2 hA3 hh h ok hg hsl hp hval ht
  generalize nd.level = L at *
  go_enter Tryz.func83, Tryz.ntmps83
  go_upto_region 1 with fail
  generalize w.alloc (.cells #[.int .i64 L, .slice ak nk ck, .slice av nv cv, .int .i64 H, .int .i64 E] 153) = W at *
  have lb := World.block_lt_of_cell? _ _ k0
  generalize w.heap.size = b at *
  clear c2 hlk
  go_upto_region 2 with fail
  have G2 : (W.setCell ⟨b, 3, none⟩ (.int .i64 (H + more))).cell? ⟨p, 2, none⟩ = some (.map (some x.mb)) := g2
  have G3 : (W.setCell ⟨b, 3, none⟩ (.int .i64 (H + more))).cell? ⟨b, 0, none⟩ = some (.int .i64 L) := g3
  have G4 : (W.setCell ⟨b, 3, none⟩ (.int .i64 (H + more))).cell? ⟨b, 1, none⟩ = some (.slice ak nk ck) := g4
  have G5 : (W.setCell ⟨b, 3, none⟩ (.int .i64 (H + more))).cell? ⟨b, 2, none⟩ = some (.slice av nv cv) := g5
  have G6 : (W.setCell ⟨b, 3, none⟩ (.int .i64 (H + more))).cell? ⟨b, 3, none⟩ = some (.int .i64 (H + more)) := g6
  have G7 : (W.setCell ⟨b, 3, none⟩ (.int .i64 (H + more))).cell? ⟨b, 4, none⟩ = some (.int .i64 E) := g7
  clear g2 g3 g4 g5 g6 g7 k0 k1 k2 k3 k4 f3 c2w lb
  generalize W.setCell ⟨b, 3, none⟩ (.int .i64 (H + more)) = V at *
  have lb := World.block_lt_of_cell? _ _ G3
  have lp := World.block_lt_of_cell? _ _ G2
  go_still_tail 6, (by kernel_rfl)
  change wpList _ _ _ _ _ V.drew
  generalize V.drew = V8 at *
  go_wp2
  go_end0
  exact ⟨rfl, HF.out⟩

set_option maxHeartbeats 1000000 in
set_option maxRecDepth 100000 in
theorem st_own {w : World} {l : List Say} {p bank sp n : Nat} {Q : Pgs} (h : Has w (storeS p bank sp n Q :: l)) (a more : Int) (g : Pg) (hg : VMap.get a Q = some g) (hn : n ≤ 1000000) (h0 : -1000000000 ≤ g.held) (h1 : g.held ≤ 1000000000) (m0 : -10 ≤ more) (m1 : more ≤ 10) :
    Calls Tryz.prog 90 #[.pointer (some ⟨p, 0, none⟩), .int .i64 a, .int .i64 more] w (AddPost2 p bank sp (n + 1) (VMap.put a { g with held := g.held + more } Q) l w) := by
  obtain ⟨x, ok, hh⟩ := h.st_open
  obtain ⟨t, ht, rfl⟩ : ∃ t, VMap.get a x.T = some t ∧ t.pg = g := by
    have e := hg
    rw [← ok.eq, VMap.get_over] at e
    obtain ⟨t, ht, e⟩ := Option.map_eq_some_iff.1 e
    exact ⟨t, ht, e⟩
  obtain ⟨⟨nd, H, E⟩, kv, vv⟩ := t
  simp only at hg h0 h1 ⊢
  have hbd := ok.bd (a, ⟨nd, H, E⟩) (get_mem hg)
  simp only at hbd
  have hsl := hh.pool_sl (T := x.T) (fun A hA => by simp [storeFlat, hA])
  obtain ⟨⟨ak, nk, ck, ek⟩, av, nv, cv, ev⟩ := hsl _ (get_mem ht)
  simp only at ek ev
  subst ek ev
  have hval : Sl.val ⟨⟨nd, H, E⟩, .slice ak nk ck, .slice av nv cv⟩ = .agg #[.int .i64 nd.level, .slice ak nk ck, .slice av nv cv, .int .i64 H, .int .i64 E] := rfl
  have hlk := map_look hh (b := x.mb) (n := n) (M := VMap.over Sl.val x.T) (by simp [storeFlat]) a (by omega) (by omega)
  rw [VMap.get_over, ht] at hlk
  simp only [Option.map_some, Option.getD_some, hval] at hlk
  have hp : w.heap[p]? = some (.cells #[.pointer (some ⟨bank, 0, none⟩), .pointer (some ⟨sp, 0, none⟩), .map (some x.mb), .map none] 147 (0, 0)) := hh.got
  have c2 : w.cell? ⟨p, 2, none⟩ = some (.map (some x.mb)) := cell_of hp 2 rfl
  have hA := hh.alloc (.cells #[.int .i64 nd.level, .slice ak nk ck, .slice av nv cv, .int .i64 H, .int .i64 E] 153)
  have k0 := cell_of hA.got 0 rfl
  have k1 := cell_of hA.got 1 rfl
  have k2 := cell_of hA.got 2 rfl
  have k3 := cell_of hA.got 3 rfl
  have k4 := cell_of hA.got 4 rfl
  have f3 := thaw_of hA.got 4
  have hA2 := (hA.setCell 4 (.int .i64 (E + more))).drew
  have hA3 := hA2.tail
  obtain ⟨w9, hrun, hK9, hh9⟩ := map_store (hA3.pull 1) (by simp [maxLen]; omega) a (by omega) (by omega) (.agg #[.int .i64 nd.level, .slice ak nk ck, .slice av nv cv, .int .i64 H, .int .i64 (E + more)])
  have hwr : IntKind.i64.wrap (E + more) = E + more := by rw [IntKind.wrap_i64]; omega
  have HF : Hid (Kept w w9 ∧ Has w9 (storeS p bank sp (n + 1) (VMap.put a ⟨nd, H, E + more⟩ Q) :: l)) :=
    ⟨((((Kept.refl w).alloc _).setCell _ _).drew).trans hK9, Has.st_again (g' := ⟨nd, H, E + more⟩) ok ht rfl hh9.swap⟩
  have hlp : p < w.heap.size := World.block_lt_of_cell? _ _ c2
  have g2 := cell_of hA2.tail.got 2 rfl
  have g3 := cell_of hA2.got 0 rfl
  have g4 := cell_of hA2.got 1 rfl
  have g5 := cell_of hA2.got 2 rfl
  have g6 := cell_of hA2.got 3 rfl
  have g7 := cell_of hA2.got 4 rfl
  have c2w : (w.alloc (.cells #[.int .i64 nd.level, .slice ak nk ck, .slice av nv cv, .int .i64 H, .int .i64 E] 153)).cell? ⟨p, 2, none⟩ = some (.map (some x.mb)) := by rw [World.cell?_alloc_lt _ _ _ hlp]; exact c2
  have hne : w.heap.size ≠ p := by omega
  clear hK9 hh9 hA hA2 hA3 hh h ok hg hsl hp hval ht
  generalize nd.level = L at *
  go_enter Tryz.func90, Tryz.ntmps90
  go_upto_region 1 with fail
  generalize w.alloc (.cells #[.int .i64 L, .slice ak nk ck, .slice av nv cv, .int .i64 H, .int .i64 E] 153) = W at *
  have lb := World.block_lt_of_cell? _ _ k0
  generalize w.heap.size = b at *
  clear c2 hlk
  go_upto_region 2 with fail
  have G2 : (W.setCell ⟨b, 4, none⟩ (.int .i64 (E + more))).cell? ⟨p, 2, none⟩ = some (.map (some x.mb)) := g2
  have G3 : (W.setCell ⟨b, 4, none⟩ (.int .i64 (E + more))).cell? ⟨b, 0, none⟩ = some (.int .i64 L) := g3
  have G4 : (W.setCell ⟨b, 4, none⟩ (.int .i64 (E + more))).cell? ⟨b, 1, none⟩ = some (.slice ak nk ck) := g4
  have G5 : (W.setCell ⟨b, 4, none⟩ (.int .i64 (E + more))).cell? ⟨b, 2, none⟩ = some (.slice av nv cv) := g5
  have G6 : (W.setCell ⟨b, 4, none⟩ (.int .i64 (E + more))).cell? ⟨b, 3, none⟩ = some (.int .i64 H) := g6
  have G7 : (W.setCell ⟨b, 4, none⟩ (.int .i64 (E + more))).cell? ⟨b, 4, none⟩ = some (.int .i64 (E + more)) := g7
  clear g2 g3 g4 g5 g6 g7 k0 k1 k2 k3 k4 f3 c2w lb
  generalize W.setCell ⟨b, 4, none⟩ (.int .i64 (E + more)) = V at *
  have lb := World.block_lt_of_cell? _ _ G3
  have lp := World.block_lt_of_cell? _ _ G2
  go_still_tail 6, (by kernel_rfl)
  change wpList _ _ _ _ _ V.drew
  generalize V.drew = V8 at *
  go_wp2
  go_end0
  exact ⟨rfl, HF.out⟩

end Go.Proofs.YtgbgneiciabidaaGreatDoor
/-
  Pages (layer 11), the sixth part: Get.
-/
namespace Go.Proofs.YtgbgneiciabidaaGreatDoor
open Go Go.RowKit
set_option linter.all false

def nodeZero : Value := .agg #[.int .i64 0, .slice none 0 0, .slice none 0 0]
def GetPost (a : Int) (p bank sp n : Nat) (Q : Pgs) (l : List Say) (w : World) (r : Ending) (w' : World) : Prop :=
  (VMap.get a Q = none ∧ r = .returned (.tuple #[nodeZero, errV 81]) ∧ Kept w w' ∧ Has w' (storeS p bank sp n Q :: l)) ∨
  ∃ g kv vv, VMap.get a Q = some g ∧ r = .returned (.tuple #[g.n.val kv vv, .nilIface]) ∧ Kept w w' ∧ Has w' (intsS kv g.n.keys :: intsS vv g.n.vals :: storeS p bank sp n Q :: l)

/-- The rows of one page, taken out. -/
theorem Has.st_page {w : World} {l : List Say} {p bank sp n : Nat} {x : StAt} {a : Int} {t : Sl} (hu : VMap.Up x.T) (ht : VMap.get a x.T = some t) (h : Has w (storeFlat p bank sp n x ++ l)) :
    Has w (intsS t.kv t.pg.n.keys :: intsS t.vv t.pg.n.vals :: (storeCell p bank sp x.mb :: mapS x.mb n (VMap.over Sl.val x.T) :: (pool (VMap.del a x.T) ++ l))) := by
  have hp : (storeFlat p bank sp n x ++ l).Perm (all t.rows :: (storeCell p bank sp x.mb :: mapS x.mb n (VMap.over Sl.val x.T) :: (pool (VMap.del a x.T) ++ l))) := by
    unfold storeFlat
    refine List.Perm.trans (List.Perm.cons _ (List.Perm.cons _ (List.Perm.append_right l (pool_split hu ht)))) ?_
    exact (List.Perm.cons _ (List.Perm.swap _ _ _)).trans (List.Perm.swap _ _ _)
  exact (h.perm hp).split
theorem Has.st_page_back {w : World} {l : List Say} {p bank sp n : Nat} {x : StAt} {a : Int} {t : Sl} (hu : VMap.Up x.T) (ht : VMap.get a x.T = some t)
    (h : Has w (intsS t.kv t.pg.n.keys :: intsS t.vv t.pg.n.vals :: (storeCell p bank sp x.mb :: mapS x.mb n (VMap.over Sl.val x.T) :: (pool (VMap.del a x.T) ++ l)))) : Has w (storeFlat p bank sp n x ++ l) := by
  have hp : (storeFlat p bank sp n x ++ l).Perm (all t.rows :: (storeCell p bank sp x.mb :: mapS x.mb n (VMap.over Sl.val x.T) :: (pool (VMap.del a x.T) ++ l))) := by
    unfold storeFlat
    refine List.Perm.trans (List.Perm.cons _ (List.Perm.cons _ (List.Perm.append_right l (pool_split hu ht)))) ?_
    exact (List.Perm.cons _ (List.Perm.swap _ _ _)).trans (List.Perm.swap _ _ _)
  have h1 : Has w (t.rows ++ (storeCell p bank sp x.mb :: mapS x.mb n (VMap.over Sl.val x.T) :: (pool (VMap.del a x.T) ++ l))) := h
  exact h1.unite.perm hp.symm
theorem ok_lens {n : Nd} (h : n.ok = true) : 0 ≤ n.level ∧ n.level ≤ 20 ∧ n.keys.length = n.vals.length ∧ 1 ≤ n.keys.length ∧ n.keys.length ≤ 7 := by
  simp only [Nd.ok, Bool.and_eq_true, decide_eq_true_eq, beq_iff_eq] at h
  obtain ⟨⟨⟨⟨⟨o1, o2⟩, o3⟩, o4⟩, o5⟩, _⟩ := h
  exact ⟨o1, o2, o3, o4, o5⟩

set_option maxHeartbeats 1000000 in
set_option maxRecDepth 100000 in
theorem st_Get {w : World} {l : List Say} {p bank sp n : Nat} {Q : Pgs} (h : Has w (storeS p bank sp n Q :: l)) (a : Int) (b0 : -9223372036854775808 ≤ a) (b1 : a ≤ 9223372036854775807) :
    Calls Tryz.prog 20 #[.pointer (some ⟨p, 0, none⟩), .int .i64 a] w (GetPost a p bank sp n Q l w) := by
  obtain ⟨x, ok, hh⟩ := h.st_open
  have hr := hh.alloc (.cells #[.int .i64 0, .slice none 0 0, .slice none 0 0] 35)
  have hK : Kept w (w.alloc (.cells #[.int .i64 0, .slice none 0 0, .slice none 0 0] 35)) := (Kept.refl w).alloc _
  have hlk := map_look_ok hr (b := x.mb) (n := n) (M := VMap.over Sl.val x.T) (by simp [storeFlat]) a b0 b1
  have c2 : (w.alloc (.cells #[.int .i64 0, .slice none 0 0, .slice none 0 0] 35)).cell? ⟨p, 2, none⟩ = some (.map (some x.mb)) := cell_of (hr.at (b := p) (o := .cells #[.pointer (some ⟨bank, 0, none⟩), .pointer (some ⟨sp, 0, none⟩), .map (some x.mb), .map none] 147 (0, 0)) (by simp [storeFlat, storeCell])) 2 rfl
  have d0 : (w.alloc (.cells #[.int .i64 0, .slice none 0 0, .slice none 0 0] 35)).cell? ⟨w.heap.size, 0, none⟩ = some (.int .i64 0) := cell_of hr.got 0 rfl
  have d1 : (w.alloc (.cells #[.int .i64 0, .slice none 0 0, .slice none 0 0] 35)).cell? ⟨w.heap.size, 1, none⟩ = some (.slice none 0 0) := cell_of hr.got 1 rfl
  have d2 : (w.alloc (.cells #[.int .i64 0, .slice none 0 0, .slice none 0 0] 35)).cell? ⟨w.heap.size, 2, none⟩ = some (.slice none 0 0) := cell_of hr.got 2 rfl
  have f0 := thaw_of hr.got 0
  have f1 := thaw_of hr.got 1
  have f2 := thaw_of hr.got 2
  have hsl := hh.pool_sl (T := x.T) (fun A hA => by simp [storeFlat, hA])
  have HR := Lib.hid hr
  have HK := Lib.hid hK
  have Hok := Lib.hid ok
  have hrw : Hid (∀ w', Kept (w.alloc (.cells #[.int .i64 0, .slice none 0 0, .slice none 0 0] 35)) w' → Kept w w') := fun w' hk => hK.trans hk
  clear h hh hr hK
  go_enter Tryz.func20, Tryz.ntmps20
  go_upto_region 1 with fail
  generalize w.alloc (.cells #[.int .i64 0, .slice none 0 0, .slice none 0 0] 35) = W at *
  generalize w.heap.size = rb at *
  have lp := World.block_lt_of_cell? _ _ c2
  have lr := World.block_lt_of_cell? _ _ d0
  rw [VMap.get_over] at hlk
  have hgQ : VMap.get a Q = (VMap.get a x.T).map Sl.pg := by rw [← ok.eq, VMap.get_over]
  clear ok
  cases hg : VMap.get a x.T with
  | none =>
    rw [hg] at hlk hgQ
    simp only [Option.map_none, Option.getD_none, Option.isSome_none, pageZero] at hlk hgQ
    have HQ := Lib.hid hgQ
    have HG := Lib.hid hg
    clear hgQ hg hsl
    go_wp2
    have h5 := ((((HR.out.setCell 0 (.int .i64 0)).setCell 1 (.slice none 0 0)).setCell 2 (.slice none 0 0))).alloc_off (.cells #[.int .i64 0, .slice none 0 0, .slice none 0 0, .int .i64 0, .int .i64 0] 153)
    have hkf := (((HK.out.setCell ⟨rb, 0, none⟩ (.int .i64 0)).setCell ⟨rb, 1, none⟩ (.slice none 0 0)).setCell ⟨rb, 2, none⟩ (.slice none 0 0)).alloc (.cells #[.int .i64 0, .slice none 0 0, .slice none 0 0, .int .i64 0, .int .i64 0] 153)
    generalize (((W.setCell ⟨rb, 0, none⟩ (.int .i64 0)).setCell ⟨rb, 1, none⟩ (.slice none 0 0)).setCell ⟨rb, 2, none⟩ (.slice none 0 0)).alloc (.cells #[.int .i64 0, .slice none 0 0, .slice none 0 0, .int .i64 0, .int .i64 0] 153) = W3 at *
    have z0 : W3.cell? ⟨rb, 0, none⟩ = some (.int .i64 0) := cell_of h5.got 0 rfl
    have z1 : W3.cell? ⟨rb, 1, none⟩ = some (.slice none 0 0) := cell_of h5.got 1 rfl
    have z2 : W3.cell? ⟨rb, 2, none⟩ = some (.slice none 0 0) := cell_of h5.got 2 rfl
    refine bodyPost_ret (v := .tuple #[.agg #[.int .i64 0, .slice none 0 0, .slice none 0 0], .iface 157 (.int .i64 81)]) (by simp [results, Tryz.results20, go_sem, z0, z1, z2]) rfl (.inl ⟨HQ.out, rfl, hkf, ?_⟩)
    exact Has.st_shut Hok.out h5.tail
  | some t =>
    have hokp : t.pg.n.ok = true := Hok.out.ok (a, t.pg) (by rw [← Hok.out.eq]; exact List.mem_map.2 ⟨_, get_mem hg, rfl⟩)
    obtain ⟨q0, q1, q2, q3, q4⟩ := ok_lens hokp
    obtain ⟨⟨ak, nk, ck, ek⟩, av, nv, cv, ev⟩ := hsl _ (get_mem hg)
    have h1 := Has.st_page Hok.out.up hg (HR.out.perm List.perm_middle.symm)
    rw [hg] at hlk hgQ
    obtain ⟨⟨nd, H, E⟩, kv, vv⟩ := t
    simp only at ek ev q0 q1 q2 q3 q4 h1
    subst ek ev
    simp only [Option.map_some, Option.getD_some, Option.isSome_some, Sl.val] at hlk hgQ
    have hnc := node_copied nd (h1.alloc_off (.cells #[.int .i64 nd.level, .slice ak nk ck, .slice av nv cv, .int .i64 H, .int .i64 E] 153)) (.head _) (.tail _ (.head _)) (by omega) (by omega) (by omega) (by omega)
    have HNC := Lib.hid hnc
    have HQ := Lib.hid hgQ
    have HG := Lib.hid hg
    have HKa : Hid (Kept w (W.alloc (.cells #[.int .i64 nd.level, .slice ak nk ck, .slice av nv cv, .int .i64 H, .int .i64 E] 153))) := HK.out.alloc _
    simp only [Nd.val] at HNC
    clear hgQ hg hsl h1 hnc hokp q2
    go_wp2_with fail
    refine HNC.out.mono ?_
    rintro r w2 ⟨k2, v2, rfl, hK2, hh2⟩
    have h3 : Has w2 ((intsS k2 nd.keys :: intsS v2 nd.vals :: intsS (.slice ak nk ck) nd.keys :: intsS (.slice av nv cv) nd.vals :: storeCell p bank sp x.mb :: mapS x.mb n (VMap.over Sl.val x.T) :: pool (VMap.del a x.T)) ++ (pts rb (.cells #[.int .i64 0, .slice none 0 0, .slice none 0 0] 35 (0, 0)) :: l)) := hh2
    have h4 := h3.perm List.perm_middle
    obtain ⟨a5, c5, e5, _, _⟩ := h4.ints_read (v := k2) (xs := nd.keys) (by simp)
    obtain ⟨a6, c6, e6, _, _⟩ := h4.ints_read (v := v2) (xs := nd.vals) (by simp)
    subst e5 e6
    have e0 := cell_of h4.got 0 rfl
    have e1 := cell_of h4.got 1 rfl
    have e2 := cell_of h4.got 2 rfl
    have g0 := thaw_of h4.got 0
    have g1 := thaw_of h4.got 1
    have g2 := thaw_of h4.got 2
    have lw := World.block_lt_of_cell? _ _ e0
    have H4 := Lib.hid h4
    have HK2 := Lib.hid (HKa.out.trans hK2)
    simp only [Nd.val]
    clear hh2 h3 h4 hK2 HNC HKa d0 d1 d2 f0 f1 f2 c2 hlk
    go_wp2
    have h5 := ((H4.out.setCell 0 (.int .i64 nd.level)).setCell 1 (.slice a5 nd.keys.length c5)).setCell 2 (.slice a6 nd.vals.length c6)
    have hkf := ((HK2.out.setCell ⟨rb, 0, none⟩ (.int .i64 nd.level)).setCell ⟨rb, 1, none⟩ (.slice a5 nd.keys.length c5)).setCell ⟨rb, 2, none⟩ (.slice a6 nd.vals.length c6)
    generalize ((w2.setCell ⟨rb, 0, none⟩ (.int .i64 nd.level)).setCell ⟨rb, 1, none⟩ (.slice a5 nd.keys.length c5)).setCell ⟨rb, 2, none⟩ (.slice a6 nd.vals.length c6) = W3 at *
    have z0 : W3.cell? ⟨rb, 0, none⟩ = some (.int .i64 nd.level) := cell_of h5.got 0 rfl
    have z1 : W3.cell? ⟨rb, 1, none⟩ = some (.slice a5 nd.keys.length c5) := cell_of h5.got 1 rfl
    have z2 : W3.cell? ⟨rb, 2, none⟩ = some (.slice a6 nd.vals.length c6) := cell_of h5.got 2 rfl
    refine bodyPost_ret (v := .tuple #[.agg #[.int .i64 nd.level, .slice a5 nd.keys.length c5, .slice a6 nd.vals.length c6], .nilIface]) (by simp [results, Tryz.results20, go_sem, z0, z1, z2]) rfl (.inr ⟨⟨nd, H, E⟩, _, _, HQ.out, rfl, hkf, ?_⟩)
    have h6 : Has W3 ([intsS (.slice a5 nd.keys.length c5) nd.keys, intsS (.slice a6 nd.vals.length c6) nd.vals] ++ (([intsS (.slice ak nk ck) nd.keys, intsS (.slice av nv cv) nd.vals, storeCell p bank sp x.mb, mapS x.mb n (VMap.over Sl.val x.T)] ++ pool (VMap.del a x.T)) ++ l)) := h5.tail
    have h7 := h6.perm (List.perm_append_comm_assoc _ _ _)
    have h8 := Has.st_shut Hok.out (Has.st_page_back (t := ⟨⟨nd, H, E⟩, .slice ak nk ck, .slice av nv cv⟩) Hok.out.up HG.out h7)
    exact h8.push 2
end Go.Proofs.YtgbgneiciabidaaGreatDoor
/-
  Pages (layer 11), the seventh part: what Put does to the pages (plain).
-/
namespace Go.Proofs.YtgbgneiciabidaaGreatDoor
open Go Go.RowKit
set_option linter.all false

theorem get_ins {α : Type} (x : Int × α) (k : Int) : ∀ (M : List (Int × α)), (∀ p ∈ M, p.1 ≠ x.1) → VMap.get k (VMap.ins x M) = if k = x.1 then some x.2 else VMap.get k M
  | [], _ => by
    by_cases e : k = x.1
    · subst e; simp [VMap.ins, VMap.get]
    · rw [if_neg e]
      simp [VMap.ins, VMap.get]; omega
  | y :: r, h => by
    have hy := h y (by simp)
    have ih := get_ins x k r fun p hp => h p (by simp [hp])
    unfold VMap.ins
    split
    · by_cases e : k = x.1
      · subst e; simp [VMap.get]
      · rw [if_neg e]
        have e2 : (x.1 == k) = false := by simp; omega
        simp [VMap.get, e2]
    · by_cases e : y.1 = k
      · have e3 : k ≠ x.1 := by omega
        rw [if_neg e3]
        simp [VMap.get, e]
      · have e2 : (y.1 == k) = false := by simpa using e
        have h1 : VMap.get k (y :: VMap.ins x r) = VMap.get k (VMap.ins x r) := by simp [VMap.get, e2]
        have h2 : VMap.get k (y :: r) = VMap.get k r := by simp [VMap.get, e2]
        rw [h1, h2, ih]
theorem get_del {α : Type} (a k : Int) (M : List (Int × α)) : VMap.get k (VMap.del a M) = if k = a then none else VMap.get k M := by
  unfold VMap.get VMap.del
  rw [List.find?_filter]
  by_cases e : k = a
  · subst e
    rw [if_pos rfl]
    have : M.find? (fun a => decide ((!a.1 == k) = true ∧ (a.1 == k) = true)) = none := by
      rw [List.find?_eq_none]; intro p hp; simp
    rw [this]; rfl
  · rw [if_neg e]
    congr 2
    funext p
    by_cases h : p.1 = k
    · simp [h]; exact e
    · simp [h]
theorem get_put {α : Type} (a k : Int) (v : α) (M : List (Int × α)) : VMap.get k (VMap.put a v M) = if k = a then some v else VMap.get k M := by
  rw [VMap.put, get_ins]
  · by_cases e : k = a
    · simp [e]
    · simp only [if_neg e, get_del]
  · intro p hp
    have := (List.mem_filter.1 hp).2
    simpa using this
theorem del_none {α : Type} {a : Int} {M : List (Int × α)} (h : VMap.get a M = none) : VMap.del a M = M := by
  unfold VMap.del
  refine List.filter_eq_self.2 fun p hp => ?_
  unfold VMap.get at h
  rw [Option.map_eq_none_iff, List.find?_eq_none] at h
  simpa using h p hp

/-- One hold more on a page that there is. -/
def bump (Q : Pgs) (k : Int) : Pgs := match VMap.get k Q with | some g => VMap.put k { g with holds := g.holds + 1 } Q | none => Q
def bumpAll (Q : Pgs) (ks : List Int) : Pgs := ks.foldl bump Q
theorem bumpAll_succ (Q : Pgs) (ks : List Int) (k : Nat) (h : k < ks.length) : bumpAll Q (ks.take (k + 1)) = bump (bumpAll Q (ks.take k)) ks[k] := by
  unfold bumpAll
  rw [List.take_succ_eq_append_getElem h, List.foldl_append]; rfl
theorem bump_some (Q : Pgs) (j k : Int) : (VMap.get k (bump Q j)).isSome = (VMap.get k Q).isSome := by
  unfold bump
  cases h : VMap.get j Q with
  | none => rfl
  | some g =>
    simp only [get_put]
    by_cases e : k = j
    · subst e; simp [h]
    · simp [e]
theorem bumpAll_some (ks : List Int) : ∀ (Q : Pgs) (k : Int), (VMap.get k (bumpAll Q ks)).isSome = (VMap.get k Q).isSome := by
  induction ks with
  | nil => intro Q k; rfl
  | cons x ks ih => intro Q k; show (VMap.get k (bumpAll (bump Q x) ks)).isSome = _; rw [ih, bump_some]
/-- All holds lie between 0 and B. -/
def HoldsTo (Q : Pgs) (B : Int) : Prop := ∀ k g, VMap.get k Q = some g → 0 ≤ g.holds ∧ g.holds ≤ B
theorem HoldsTo.bump {Q : Pgs} {B : Int} (h : HoldsTo Q B) (j : Int) : HoldsTo (bump Q j) (B + 1) := by
  intro k g hg
  unfold Go.Proofs.YtgbgneiciabidaaGreatDoor.bump at hg
  cases hj : VMap.get j Q with
  | none => rw [hj] at hg; have := h k g hg; omega
  | some g0 =>
    rw [hj] at hg
    simp only [get_put] at hg
    by_cases e : k = j
    · rw [if_pos e] at hg
      cases hg
      have := h j g0 hj
      simp only
      omega
    · rw [if_neg e] at hg
      have := h k g hg; omega
theorem HoldsTo.all (ks : List Int) : ∀ {Q : Pgs} {B : Int}, HoldsTo Q B → HoldsTo (bumpAll Q ks) (B + ks.length) := by
  induction ks with
  | nil => intro Q B h; simpa [bumpAll] using h
  | cons x ks ih =>
    intro Q B h
    have := ih (h.bump x)
    intro k g hg
    have := this k g hg
    simp only [List.length_cons]
    omega
theorem HoldsTo.put {Q : Pgs} {B : Int} (h : HoldsTo Q B) (hB : 0 ≤ B) (a : Int) (n : Nd) : HoldsTo (VMap.put a ⟨n, 0, 0⟩ Q) B := by
  intro k g hg
  rw [get_put] at hg
  by_cases e : k = a
  · rw [if_pos e] at hg; cases hg; exact ⟨Int.le_refl _, hB⟩
  · rw [if_neg e] at hg; exact h k g hg
end Go.Proofs.YtgbgneiciabidaaGreatDoor
