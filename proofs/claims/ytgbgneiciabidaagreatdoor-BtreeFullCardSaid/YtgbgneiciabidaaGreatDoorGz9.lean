/-
  Pages (layer 11), the fourth part: may a node name what it names?
-/
import Derived.Test.YtgbgneiciabidaaGreatDoorGz8
import Derived.StillTailTactics
namespace Go.Proofs.YtgbgneiciabidaaGreatDoor
open Go Go.RowKit
set_option linter.all false

theorem below_drewN {B : Nat} {a w : World} (h : Below B a w) (n : Nat) : Below B a (w.drewN n) := h.trans ⟨rfl, rfl, rfl, Nat.le_refl _, fun _ _ => rfl⟩
def missing (Q : Pgs) (k : Int) : Bool := (VMap.get k Q).isNone
def offLevel (Q : Pgs) (lv k : Int) : Bool := !(lvOf Q k == lv - 1)
def namedErr (Q : Pgs) (n : Nd) : Value := if n.kids.any (missing Q) = true then errV 81 else if n.kids.any (offLevel Q n.level) = true then errV 70 else .nilIface
def NamedPost (Q : Pgs) (n : Nd) (w : World) (r : Ending) (w' : World) : Prop := r = .returned (namedErr Q n) ∧ Below w.heap.size w w'

theorem Has.kids_read {w : World} {l : List Say} (n : Nd) {vv : Value} (h : Has w l) (hv : intsS vv n.vals ∈ l) :
    ∃ a c, n.kidsV vv = .slice a n.kids.length c ∧ ∀ k (hk : k < n.kids.length), ∃ g, a = some ⟨g, 0, none⟩ ∧ w.cell? ⟨g, k, none⟩ = some (.int .i64 n.kids[k]) := by
  obtain ⟨a, c, e, _, hr⟩ := h.ints_read hv
  unfold Nd.kidsV Nd.kids
  by_cases h0 : n.level = 0
  · simp only [if_pos h0]
    exact ⟨none, 0, rfl, fun k hk => by simp at hk⟩
  · simp only [if_neg h0]
    exact ⟨a, c, e, fun k hk => by obtain ⟨g, h1, h2, _⟩ := hr k hk; exact ⟨g, h1, h2⟩⟩
def SlSl (T : List (Int × Sl)) : Prop := ∀ p ∈ T, (∃ a n c, p.2.kv = .slice a n c) ∧ ∃ a n c, p.2.vv = .slice a n c
theorem get_mem {α : Type} {k : Int} {v : α} {T : List (Int × α)} (h : VMap.get k T = some v) : (k, v) ∈ T := by
  unfold VMap.get at h
  obtain ⟨p, hp, rfl⟩ := Option.map_eq_some_iff.1 h
  have h1 := List.mem_of_find?_eq_some hp
  have h2 := List.find?_some hp
  have e : p.1 = k := by simpa using h2
  rw [← e]
  exact h1
theorem page_agg (T : List (Int × Sl)) (hT : SlSl T) (k : Int) : ∃ L a b c a' b' c' h e, (VMap.get k (VMap.over Sl.val T)).getD pageZero = .agg #[.int .i64 L, .slice a b c, .slice a' b' c', .int .i64 h, .int .i64 e] := by
  rw [VMap.get_over]
  cases hg : VMap.get k T with
  | none => exact ⟨_, _, _, _, _, _, _, _, _, rfl⟩
  | some t =>
    obtain ⟨⟨a, b, c, e1⟩, a', b', c', e2⟩ := hT _ (get_mem hg)
    refine ⟨t.pg.n.level, a, b, c, a', b', c', t.pg.holds, t.pg.held, ?_⟩
    show Sl.val t = _
    unfold Sl.val
    simp only at e1 e2
    rw [e1, e2]

set_option maxHeartbeats 1000000 in
set_option maxRecDepth 100000 in
theorem st_named {w : World} {l : List Say} {p bank sp mb m : Nat} {T : List (Int × Sl)} (n : Nd) {kv vv : Value} (h : Has w l) (hv : intsS vv n.vals ∈ l) (hs : storeCell p bank sp mb ∈ l) (hm : mapS mb m (VMap.over Sl.val T) ∈ l) (hT : SlSl T)
    (l0 : 0 ≤ n.level) (l1 : n.level ≤ 20) (hlen : n.kids.length ≤ 100) (hbd : ∀ k ∈ n.kids, -9223372036854775808 ≤ k ∧ k ≤ 9223372036854775807) :
    Calls Tryz.prog 76 #[.pointer (some ⟨p, 0, none⟩), n.val kv vv] w (NamedPost (VMap.over Sl.pg T) n w) := by
  have hW := (h.alloc_off (.cells #[.pointer (some ⟨p, 0, none⟩)] 27)).alloc_off (.cells #[.int .i64 n.level, kv, vv] 35)
  have hB : Below w.heap.size w ((w.alloc (.cells #[.pointer (some ⟨p, 0, none⟩)] 27)).alloc (.cells #[.int .i64 n.level, kv, vv] 35)) := ((Below.refl _ _).alloc (Nat.le_refl _) _).alloc (by simp) _
  have x2 : ((w.alloc (.cells #[.pointer (some ⟨p, 0, none⟩)] 27)).alloc (.cells #[.int .i64 n.level, kv, vv] 35)).cell? ⟨w.heap.size, 0, none⟩ = some (.pointer (some ⟨p, 0, none⟩)) := by
    rw [World.cell?_alloc_lt _ _ _ (by simp)]; exact World.cell?_alloc_new _ _ _ 0
  have hn3 := World.cell?_alloc_new (w.alloc (.cells #[.pointer (some ⟨p, 0, none⟩)] 27)) #[.int .i64 n.level, kv, vv] 35
  simp only [World.size_alloc] at hn3
  have x3 : ((w.alloc (.cells #[.pointer (some ⟨p, 0, none⟩)] 27)).alloc (.cells #[.int .i64 n.level, kv, vv] 35)).cell? ⟨w.heap.size + 1, 0, none⟩ = some (.int .i64 n.level) := hn3 0
  have y3 : ((w.alloc (.cells #[.pointer (some ⟨p, 0, none⟩)] 27)).alloc (.cells #[.int .i64 n.level, kv, vv] 35)).cell? ⟨w.heap.size + 1, 1, none⟩ = some kv := hn3 1
  have z3 : ((w.alloc (.cells #[.pointer (some ⟨p, 0, none⟩)] 27)).alloc (.cells #[.int .i64 n.level, kv, vv] 35)).cell? ⟨w.heap.size + 1, 2, none⟩ = some vv := hn3 2
  have HW := Lib.hid hW
  have HB := Lib.hid hB
  have Hs := Lib.hid hs
  have Hm := Lib.hid hm
  have Hv := Lib.hid hv
  have HBd := Lib.hid hbd
  have HT := Lib.hid hT
  clear h hW hB hs hm hv hbd hn3 hT
  go_enter Tryz.func76, Tryz.ntmps76
  simp only [Nd.val]
  go_upto_region 1 with fail
  generalize (w.alloc (.cells #[.pointer (some ⟨p, 0, none⟩)] 27)).alloc (.cells #[.int .i64 n.level, kv, vv] 35) = W at *
  generalize hb3 : w.heap.size + 1 = b3 at *
  have hbw : Hid (Below w.heap.size W W) := Below.refl _ _
  have lb2 := World.block_lt_of_cell? _ _ x2
  have lb3 := World.block_lt_of_cell? _ _ x3
  obtain ⟨ka, kc, hkv, hkr⟩ := HW.out.kids_read n Hv.out
  have cp : W.cell? ⟨p, 2, none⟩ = some (.map (some mb)) := cell_of (HW.out.at Hs.out) 2 rfl
  have lp := World.block_lt_of_cell? _ _ cp
  have HLt : Hid (∀ W', Below W.heap.size W W' → ∀ k, -9223372036854775808 ≤ k → k ≤ 9223372036854775807 → (Instr.lookup 145 (.map (some mb)) (.int .i64 k) true).run Tryz.prog W' = .ok (.tuple #[(VMap.get k (VMap.over Sl.val T)).getD pageZero, .bool (VMap.get k (VMap.over Sl.val T)).isSome]) W') :=
    fun W' hb k k0 k1 => map_look_ok (HW.out.below hb) Hm.out k k0 k1
  have HLf : Hid (∀ W', Below W.heap.size W W' → ∀ k, -9223372036854775808 ≤ k → k ≤ 9223372036854775807 → (Instr.lookup 145 (.map (some mb)) (.int .i64 k) false).run Tryz.prog W' = .ok ((VMap.get k (VMap.over Sl.val T)).getD pageZero) W') :=
    fun W' hb k k0 k1 => map_look (HW.out.below hb) Hm.out k k0 k1
  have HKd := Lib.hid (fun w => node_kids (w := w) n kv vv)
  have HNE : Hid (namedErr (VMap.over Sl.pg T) n = if n.kids.any (missing (VMap.over Sl.pg T)) = true then errV 81 else if n.kids.any (offLevel (VMap.over Sl.pg T) n.level) = true then errV 70 else .nilIface) := rfl
  simp only [Nd.val, hkv] at HKd
  generalize n.kids = ks at *
  generalize n.level = lv at *
  have HKr := Lib.hid hkr
  clear hkr hkv hbw HW hb3
  go_wp2_with fail
  refine (HKd.out W).mono ?_
  rintro r w1 ⟨rfl, hb1⟩
  have HB1 := Lib.hid hb1
  have a3 := bcell1 hb1 x3
  have a4 := bcell1 hb1 y3
  have a5 := bcell1 hb1 z3
  have a2 := bcell1 hb1 x2
  clear hb1
  go_wp2
  go_loopg [12] ks.length (fun gk i wr => ∃ k : Nat, k ≤ ks.length ∧ gk = ks.length - k ∧ i = .int .i64 k ∧ Hid (Below W.heap.size W wr) ∧ Hid (∀ j (h : j < ks.length), j < k → missing (VMap.over Sl.pg T) ks[j] = false))
  case atStart => exact ⟨0, Nat.zero_le _, rfl, rfl, HB1, fun _ _ h => absurd h (Nat.not_lt_zero _)⟩
  case round =>
    clear HB1 a2 a3 a4 a5
    obtain ⟨k, hk, rfl, rfl, HBr, Hj⟩ := hrel
    by_cases hlt : k < ks.length
    · obtain ⟨g, rfl, hc⟩ := HKr.out k hlt
      have hk1 : (k : Int) < (ks.length : Int) := by omega
      have hk0 : (0 : Int) ≤ k := by omega
      have c1 := bcell1 HBr.out hc
      have c2 := bcell1 HBr.out x2
      have c3 := bcell1 HBr.out cp
      have m1 := World.block_lt_of_cell? _ _ c2
      have m2 := World.block_lt_of_cell? _ _ c3
      have hbk := HBd.out ks[k] (List.getElem_mem hlt)
      have hlk := HLt.out wr HBr.out ks[k] hbk.1 hbk.2
      obtain ⟨q1, q2, q3, q4, q5, q6, q7, q8, q9, hq⟩ := page_agg T HT.out ks[k]
      rw [hq] at hlk
      have hmis : missing (VMap.over Sl.pg T) ks[k] = !(VMap.get ks[k] (VMap.over Sl.val T)).isSome := by
        unfold missing
        rw [VMap.get_over, VMap.get_over]
        cases VMap.get ks[k] T <;> rfl
      have HM := Lib.hid hmis
      clear hc hbk hq hmis
      cases hsm : (VMap.get ks[k] (VMap.over Sl.val T)).isSome with
      | false =>
        rw [hsm] at hlk
        have HA : Hid (namedErr (VMap.over Sl.pg T) n = errV 81) := by
          show _ = _
          rw [HNE.out, if_pos]
          exact List.any_eq_true.2 ⟨ks[k], List.getElem_mem hlt, by rw [HM.out, hsm]; rfl⟩
        clear hsm HM
        generalize ks[k] = x at *
        go_wp2
        go_ret
        exact ⟨by rw [HA.out]; rfl, HB.out.trans ((HBr.out.mono HB.out.size).alloc (Nat.le_trans HB.out.size HBr.out.size) _)⟩
      | true =>
        rw [hsm] at hlk
        have HA : Hid (∀ j (h : j < ks.length), j < k + 1 → missing (VMap.over Sl.pg T) ks[j] = false) := fun j h hjk => by
          by_cases e : j = k
          · subst e; rw [HM.out, hsm]; rfl
          · exact Hj.out j h (by omega)
        clear hsm HM
        generalize ks[k] = x at *
        go_wp2
        go_roundg (ks.length - (k + 1))
        case measure => omega
        case rel => exact ⟨k + 1, by omega, rfl, by simp, HBr.out.alloc HBr.out.size _, HA⟩
    · obtain rfl : k = ks.length := by omega
      have c2 := bcell1 HBr.out x2
      have c3 := bcell1 HBr.out x3
      have c4 := bcell1 HBr.out y3
      have c5 := bcell1 HBr.out z3
      have m1 := World.block_lt_of_cell? _ _ c2
      have m2 := World.block_lt_of_cell? _ _ c3
      have hmf : ∀ W : World, (Instr.makeFunc (.func 140) #[] #[.pointer (some ⟨w.heap.size, 0, none⟩), .pointer (some ⟨b3, 0, none⟩)]).run Tryz.prog W = .ok (.func (.func 140) #[] #[.pointer (some ⟨w.heap.size, 0, none⟩), .pointer (some ⟨b3, 0, none⟩)]) W := fun _ => rfl
      have HM0 : Hid (ks.any (missing (VMap.over Sl.pg T)) = false) := by
        show _ = _
        rw [List.any_eq_false]
        intro x hx
        obtain ⟨j, hj, rfl⟩ := List.getElem_of_mem hx
        rw [Hj.out j hj hj]; simp
      go_wp2_with fail
      refine (HKd.out wr).mono ?_
      rintro r w2 ⟨rfl, hb2⟩
      have HB2 : Hid (Below W.heap.size W w2) := HBr.out.trans (hb2.mono HBr.out.size)
      have HC := Lib.hid (ContainsFuncInt 140 may_named1 #[.pointer (some ⟨w.heap.size, 0, none⟩), .pointer (some ⟨b3, 0, none⟩)] (offLevel (VMap.over Sl.pg T) lv) ka kc ks w2 (by simp [maxLen]; omega)
        (fun k hk => by obtain ⟨g, hg, hc⟩ := HKr.out k hk; exact ⟨g, 0, hg, by rw [Nat.zero_add]; exact bcell1 HB2.out hc⟩)
        (fun k m hk => named_at T ks[k] l0 l1 (bcell1 HB2.out x2) (bcell1 HB2.out x3) (bcell1 HB2.out cp) (fun nn => HLf.out _ (below_drewN HB2.out nn) ks[k] (HBd.out ks[k] (List.getElem_mem hk)).1 (HBd.out ks[k] (List.getElem_mem hk)).2) m))
      clear hb2 c2 c3 c4 c5 m1 m2
      go_wp2_with fail
      refine HC.out.mono ?_
      rintro r w3 ⟨rfl, m3, rfl⟩
      have HFin : Hid (Below w.heap.size w (w2.drewN m3)) := HB.out.trans ((below_drewN HB2.out m3).mono HB.out.size)
      cases hof : ks.any (offLevel (VMap.over Sl.pg T) lv) with
      | false =>
        have HA : Hid (namedErr (VMap.over Sl.pg T) n = .nilIface) := by show _ = _; rw [HNE.out, if_neg (by rw [HM0.out]; simp), if_neg (by rw [hof]; simp)]
        clear hof HC
        go_wp2
        go_ret
        exact ⟨by rw [HA.out]; rfl, HFin.out⟩
      | true =>
        have HA : Hid (namedErr (VMap.over Sl.pg T) n = errV 70) := by show _ = _; rw [HNE.out, if_neg (by rw [HM0.out]; simp), if_pos hof]
        clear hof HC
        go_wp2
        go_ret
        exact ⟨by rw [HA.out]; rfl, HFin.out⟩
end Go.Proofs.YtgbgneiciabidaaGreatDoor
/-
  Pages (layer 11), the fifth part: holds more or fewer.
-/
namespace Go.Proofs.YtgbgneiciabidaaGreatDoor
open Go Go.RowKit
set_option linter.all false

theorem pool_split {T : List (Int × Sl)} {a : Int} {t : Sl} (hu : VMap.Up T) (h : VMap.get a T = some t) : (pool T).Perm (all t.rows :: pool (VMap.del a T)) := (VMap.get_split hu h).map _
theorem pool_put (T : List (Int × Sl)) (a : Int) (t : Sl) : (pool (VMap.put a t T)).Perm (all t.rows :: pool (VMap.del a T)) := (VMap.ins_perm (a, t) (VMap.del a T)).map _
theorem put_mem {α : Type} {a : Int} {v : α} {M : List (Int × α)} {p : Int × α} (h : p ∈ VMap.put a v M) : p = (a, v) ∨ p ∈ M := by
  rcases List.mem_cons.1 ((VMap.ins_perm _ _).mem_iff.1 h) with h | h
  · exact .inl h
  · exact .inr (List.mem_filter.1 h).1
theorem Has.pool_sl {w : World} : ∀ {l : List Say} {T : List (Int × Sl)}, Has w l → (∀ A ∈ pool T, A ∈ l) → SlSl T := by
  intro l T h hm p hp
  have h1 := h.only (hm _ (List.mem_map.2 ⟨p, hp, rfl⟩))
  have h2 := h1.split
  obtain ⟨a, c, e, _, _⟩ := h2.ints_read (v := p.2.kv) (xs := p.2.pg.n.keys) (by simp [Sl.rows])
  obtain ⟨a', c', e', _, _⟩ := h2.ints_read (v := p.2.vv) (xs := p.2.pg.n.vals) (by simp [Sl.rows])
  exact ⟨⟨_, _, _, e⟩, _, _, _, e'⟩

theorem Has.st_again {w : World} {l : List Say} {p bank sp n : Nat} {x : StAt} {a : Int} {t : Sl} {g' : Pg} {Q : Pgs} (ok : StOk Q x) (hg : VMap.get a x.T = some t) (hn : g'.n = t.pg.n)
    (h : Has w (storeCell p bank sp x.mb :: mapS x.mb n (VMap.put a (Sl.val { t with pg := g' }) (VMap.over Sl.val x.T)) :: (pool x.T ++ l))) : Has w (storeS p bank sp n (VMap.put a g' Q) :: l) := by
  refine Has.st_shut (x := ⟨x.mb, VMap.put a { t with pg := g' } x.T⟩) ⟨?_, ok.up.put _ _, ?_, ?_⟩ ?_
  · rw [VMap.over_put, ok.eq]
  · intro q hq
    rcases put_mem hq with rfl | hq
    · have := get_mem hg
      have hm : (a, t.pg) ∈ Q := by rw [← ok.eq]; exact List.mem_map.2 ⟨_, this, rfl⟩
      exact ok.bd (a, t.pg) hm
    · exact ok.bd q hq
  · intro q hq
    rcases put_mem hq with rfl | hq
    · have := get_mem hg
      have hm : (a, t.pg) ∈ Q := by rw [← ok.eq]; exact List.mem_map.2 ⟨_, this, rfl⟩
      show Nd.ok g'.n = true
      rw [hn]
      exact ok.ok (a, t.pg) hm
    · exact ok.ok q hq
  · unfold storeFlat
    rw [VMap.over_put]
    refine h.perm (List.Perm.cons _ (List.Perm.cons _ (List.Perm.append_right l ?_)))
    refine (pool_split ok.up hg).trans (List.Perm.trans ?_ (pool_put x.T a { t with pg := g' }).symm)
    have e : Sl.rows { t with pg := g' } = Sl.rows t := by simp [Sl.rows, hn]
    rw [e]

def AddPost2 (p bank sp n : Nat) (Q : Pgs) (l : List Say) (w : World) (r : Ending) (w' : World) : Prop := r = .returned (.tuple #[]) ∧ Kept w w' ∧ Has w' (storeS p bank sp n Q :: l)

set_option maxHeartbeats 1000000 in
set_option maxRecDepth 100000 in
theorem st_add {w : World} {l : List Say} {p bank sp n : Nat} {Q : Pgs} (h : Has w (storeS p bank sp n Q :: l)) (a more : Int) (g : Pg) (hg : VMap.get a Q = some g) (hn : n ≤ 1000000) (h0 : -1000000000 ≤ g.holds) (h1 : g.holds ≤ 1000000000) (m0 : -10 ≤ more) (m1 : more ≤ 10) :
    Calls Tryz.prog 83 #[.pointer (some ⟨p, 0, none⟩), .int .i64 a, .int .i64 more] w (AddPost2 p bank sp (n + 1) (VMap.put a { g with holds := g.holds + more } Q) l w) := by
  obtain ⟨x, ok, hh⟩ := h.st_open
  obtain ⟨t, ht, rfl⟩ : ∃ t, VMap.get a x.T = some t ∧ t.pg = g := by
    have e := hg
    rw [← ok.eq, VMap.get_over] at e
    obtain ⟨t, ht, e⟩ := Option.map_eq_some_iff.1 e
    exact ⟨t, ht, e⟩
  obtain ⟨⟨nd, H, E⟩, kv, vv⟩ := t
  simp only at hg h0 h1 ⊢
  have hbd := ok.bd (a, ⟨nd, H, E⟩) (get_mem hg)
  simp only at hbd
  have hsl := hh.pool_sl (T := x.T) (fun A hA => by simp [storeFlat, hA])
  obtain ⟨⟨ak, nk, ck, ek⟩, av, nv, cv, ev⟩ := hsl _ (get_mem ht)
  simp only at ek ev
  subst ek ev
  have hval : Sl.val ⟨⟨nd, H, E⟩, .slice ak nk ck, .slice av nv cv⟩ = .agg #[.int .i64 nd.level, .slice ak nk ck, .slice av nv cv, .int .i64 H, .int .i64 E] := rfl
  have hlk := map_look hh (b := x.mb) (n := n) (M := VMap.over Sl.val x.T) (by simp [storeFlat]) a (by omega) (by omega)
  rw [VMap.get_over, ht] at hlk
  simp only [Option.map_some, Option.getD_some, hval] at hlk
  have hp : w.heap[p]? = some (.cells #[.pointer (some ⟨bank, 0, none⟩), .pointer (some ⟨sp, 0, none⟩), .map (some x.mb), .map none] 147 (0, 0)) := hh.got
  have c2 : w.cell? ⟨p, 2, none⟩ = some (.map (some x.mb)) := cell_of hp 2 rfl
  have hA := hh.alloc (.cells #[.int .i64 nd.level, .slice ak nk ck, .slice av nv cv, .int .i64 H, .int .i64 E] 153)
  have k0 := cell_of hA.got 0 rfl
  have k1 := cell_of hA.got 1 rfl
  have k2 := cell_of hA.got 2 rfl
  have k3 := cell_of hA.got 3 rfl
  have k4 := cell_of hA.got 4 rfl
  have f3 := thaw_of hA.got 3
  have hA2 := (hA.setCell 3 (.int .i64 (H + more))).drew
  have hA3 := hA2.tail
  obtain ⟨w9, hrun, hK9, hh9⟩ := map_store (hA3.pull 1) (by simp [maxLen]; omega) a (by omega) (by omega) (.agg #[.int .i64 nd.level, .slice ak nk ck, .slice av nv cv, .int .i64 (H + more), .int .i64 E])
  have hwr : IntKind.i64.wrap (H + more) = H + more := by rw [IntKind.wrap_i64]; omega
  have HF : Hid (Kept w w9 ∧ Has w9 (storeS p bank sp (n + 1) (VMap.put a ⟨nd, H + more, E⟩ Q) :: l)) :=
    ⟨((((Kept.refl w).alloc _).setCell _ _).drew).trans hK9, Has.st_again (g' := ⟨nd, H + more, E⟩) ok ht rfl hh9.swap⟩
  have hlp : p < w.heap.size := World.block_lt_of_cell? _ _ c2
  have g2 := cell_of hA2.tail.got 2 rfl
  have g3 := cell_of hA2.got 0 rfl
  have g4 := cell_of hA2.got 1 rfl
  have g5 := cell_of hA2.got 2 rfl
  have g6 := cell_of hA2.got 3 rfl
  have g7 := cell_of hA2.got 4 rfl
  have c2w : (w.alloc (.cells #[.int .i64 nd.level, .slice ak nk ck, .slice av nv cv, .int .i64 H, .int .i64 E] 153)).cell? ⟨p, 2, none⟩ = some (.map (some x.mb)) := by rw [World.cell?_alloc_lt _ _ _ hlp]; exact c2
  have hne : w.heap.size ≠ p := by omega
  clear hK9 hh9 hA hA2 hA3 hh h ok hg hsl hp hval ht
  generalize nd.level = L at *
  go_enter Tryz.func83, Tryz.ntmps83
  go_upto_region 1 with fail
  generalize w.alloc (.cells #[.int .i64 L, .slice ak nk ck, .slice av nv cv, .int .i64 H, .int .i64 E] 153) = W at *
  have lb := World.block_lt_of_cell? _ _ k0
  generalize w.heap.size = b at *
  clear c2 hlk
  go_upto_region 2 with fail
  have G2 : (W.setCell ⟨b, 3, none⟩ (.int .i64 (H + more))).cell? ⟨p, 2, none⟩ = some (.map (some x.mb)) := g2
  have G3 : (W.setCell ⟨b, 3, none⟩ (.int .i64 (H + more))).cell? ⟨b, 0, none⟩ = some (.int .i64 L) := g3
  have G4 : (W.setCell ⟨b, 3, none⟩ (.int .i64 (H + more))).cell? ⟨b, 1, none⟩ = some (.slice ak nk ck) := g4
  have G5 : (W.setCell ⟨b, 3, none⟩ (.int .i64 (H + more))).cell? ⟨b, 2, none⟩ = some (.slice av nv cv) := g5
  have G6 : (W.setCell ⟨b, 3, none⟩ (.int .i64 (H + more))).cell? ⟨b, 3, none⟩ = some (.int .i64 (H + more)) := g6
  have G7 : (W.setCell ⟨b, 3, none⟩ (.int .i64 (H + more))).cell? ⟨b, 4, none⟩ = some (.int .i64 E) := g7
  clear g2 g3 g4 g5 g6 g7 k0 k1 k2 k3 k4 f3 c2w lb
  generalize W.setCell ⟨b, 3, none⟩ (.int .i64 (H + more)) = V at *
  have lb := World.block_lt_of_cell? _ _ G3
  have lp := World.block_lt_of_cell? _ _ G2
  go_still_tail 6, (by kernel_rfl)
  change wpList _ _ _ _ _ V.drew
  generalize V.drew = V8 at *
  go_wp2
  go_end0
  exact ⟨rfl, HF.out⟩

set_option maxHeartbeats 1000000 in
set_option maxRecDepth 100000 in
theorem st_own {w : World} {l : List Say} {p bank sp n : Nat} {Q : Pgs} (h : Has w (storeS p bank sp n Q :: l)) (a more : Int) (g : Pg) (hg : VMap.get a Q = some g) (hn : n ≤ 1000000) (h0 : -1000000000 ≤ g.held) (h1 : g.held ≤ 1000000000) (m0 : -10 ≤ more) (m1 : more ≤ 10) :
    Calls Tryz.prog 90 #[.pointer (some ⟨p, 0, none⟩), .int .i64 a, .int .i64 more] w (AddPost2 p bank sp (n + 1) (VMap.put a { g with held := g.held + more } Q) l w) := by
  obtain ⟨x, ok, hh⟩ := h.st_open
  obtain ⟨t, ht, rfl⟩ : ∃ t, VMap.get a x.T = some t ∧ t.pg = g := by
    have e := hg
    rw [← ok.eq, VMap.get_over] at e
    obtain ⟨t, ht, e⟩ := Option.map_eq_some_iff.1 e
    exact ⟨t, ht, e⟩
  obtain ⟨⟨nd, H, E⟩, kv, vv⟩ := t
  simp only at hg h0 h1 ⊢
  have hbd := ok.bd (a, ⟨nd, H, E⟩) (get_mem hg)
  simp only at hbd
  have hsl := hh.pool_sl (T := x.T) (fun A hA => by simp [storeFlat, hA])
  obtain ⟨⟨ak, nk, ck, ek⟩, av, nv, cv, ev⟩ := hsl _ (get_mem ht)
  simp only at ek ev
  subst ek ev
  have hval : Sl.val ⟨⟨nd, H, E⟩, .slice ak nk ck, .slice av nv cv⟩ = .agg #[.int .i64 nd.level, .slice ak nk ck, .slice av nv cv, .int .i64 H, .int .i64 E] := rfl
  have hlk := map_look hh (b := x.mb) (n := n) (M := VMap.over Sl.val x.T) (by simp [storeFlat]) a (by omega) (by omega)
  rw [VMap.get_over, ht] at hlk
  simp only [Option.map_some, Option.getD_some, hval] at hlk
  have hp : w.heap[p]? = some (.cells #[.pointer (some ⟨bank, 0, none⟩), .pointer (some ⟨sp, 0, none⟩), .map (some x.mb), .map none] 147 (0, 0)) := hh.got
  have c2 : w.cell? ⟨p, 2, none⟩ = some (.map (some x.mb)) := cell_of hp 2 rfl
  have hA := hh.alloc (.cells #[.int .i64 nd.level, .slice ak nk ck, .slice av nv cv, .int .i64 H, .int .i64 E] 153)
  have k0 := cell_of hA.got 0 rfl
  have k1 := cell_of hA.got 1 rfl
  have k2 := cell_of hA.got 2 rfl
  have k3 := cell_of hA.got 3 rfl
  have k4 := cell_of hA.got 4 rfl
  have f3 := thaw_of hA.got 4
  have hA2 := (hA.setCell 4 (.int .i64 (E + more))).drew
  have hA3 := hA2.tail
  obtain ⟨w9, hrun, hK9, hh9⟩ := map_store (hA3.pull 1) (by simp [maxLen]; omega) a (by omega) (by omega) (.agg #[.int .i64 nd.level, .slice ak nk ck, .slice av nv cv, .int .i64 H, .int .i64 (E + more)])
  have hwr : IntKind.i64.wrap (E + more) = E + more := by rw [IntKind.wrap_i64]; omega
  have HF : Hid (Kept w w9 ∧ Has w9 (storeS p bank sp (n + 1) (VMap.put a ⟨nd, H, E + more⟩ Q) :: l)) :=
    ⟨((((Kept.refl w).alloc _).setCell _ _).drew).trans hK9, Has.st_again (g' := ⟨nd, H, E + more⟩) ok ht rfl hh9.swap⟩
  have hlp : p < w.heap.size := World.block_lt_of_cell? _ _ c2
  have g2 := cell_of hA2.tail.got 2 rfl
  have g3 := cell_of hA2.got 0 rfl
  have g4 := cell_of hA2.got 1 rfl
  have g5 := cell_of hA2.got 2 rfl
  have g6 := cell_of hA2.got 3 rfl
  have g7 := cell_of hA2.got 4 rfl
  have c2w : (w.alloc (.cells #[.int .i64 nd.level, .slice ak nk ck, .slice av nv cv, .int .i64 H, .int .i64 E] 153)).cell? ⟨p, 2, none⟩ = some (.map (some x.mb)) := by rw [World.cell?_alloc_lt _ _ _ hlp]; exact c2
  have hne : w.heap.size ≠ p := by omega
  clear hK9 hh9 hA hA2 hA3 hh h ok hg hsl hp hval ht
  generalize nd.level = L at *
  go_enter Tryz.func90, Tryz.ntmps90
  go_upto_region 1 with fail
  generalize w.alloc (.cells #[.int .i64 L, .slice ak nk ck, .slice av nv cv, .int .i64 H, .int .i64 E] 153) = W at *
  have lb := World.block_lt_of_cell? _ _ k0
  generalize w.heap.size = b at *
  clear c2 hlk
  go_upto_region 2 with fail
  have G2 : (W.setCell ⟨b, 4, none⟩ (.int .i64 (E + more))).cell? ⟨p, 2, none⟩ = some (.map (some x.mb)) := g2
  have G3 : (W.setCell ⟨b, 4, none⟩ (.int .i64 (E + more))).cell? ⟨b, 0, none⟩ = some (.int .i64 L) := g3
  have G4 : (W.setCell ⟨b, 4, none⟩ (.int .i64 (E + more))).cell? ⟨b, 1, none⟩ = some (.slice ak nk ck) := g4
  have G5 : (W.setCell ⟨b, 4, none⟩ (.int .i64 (E + more))).cell? ⟨b, 2, none⟩ = some (.slice av nv cv) := g5
  have G6 : (W.setCell ⟨b, 4, none⟩ (.int .i64 (E + more))).cell? ⟨b, 3, none⟩ = some (.int .i64 H) := g6
  have G7 : (W.setCell ⟨b, 4, none⟩ (.int .i64 (E + more))).cell? ⟨b, 4, none⟩ = some (.int .i64 (E + more)) := g7
  clear g2 g3 g4 g5 g6 g7 k0 k1 k2 k3 k4 f3 c2w lb
  generalize W.setCell ⟨b, 4, none⟩ (.int .i64 (E + more)) = V at *
  have lb := World.block_lt_of_cell? _ _ G3
  have lp := World.block_lt_of_cell? _ _ G2
  go_still_tail 6, (by kernel_rfl)
  change wpList _ _ _ _ _ V.drew
  generalize V.drew = V8 at *
  go_wp2
  go_end0
  exact ⟨rfl, HF.out⟩

end Go.Proofs.YtgbgneiciabidaaGreatDoor
/-
  Pages (layer 11), the sixth part: Get.
-/
namespace Go.Proofs.YtgbgneiciabidaaGreatDoor
open Go Go.RowKit
set_option linter.all false

def nodeZero : Value := .agg #[.int .i64 0, .slice none 0 0, .slice none 0 0]
def GetPost (a : Int) (p bank sp n : Nat) (Q : Pgs) (l : List Say) (w : World) (r : Ending) (w' : World) : Prop :=
  (VMap.get a Q = none ∧ r = .returned (.tuple #[nodeZero, errV 81]) ∧ Kept w w' ∧ Has w' (storeS p bank sp n Q :: l)) ∨
  ∃ g kv vv, VMap.get a Q = some g ∧ r = .returned (.tuple #[g.n.val kv vv, .nilIface]) ∧ Kept w w' ∧ Has w' (intsS kv g.n.keys :: intsS vv g.n.vals :: storeS p bank sp n Q :: l)

theorem Has.st_page {w : World} {l : List Say} {p bank sp n : Nat} {x : StAt} {a : Int} {t : Sl} (hu : VMap.Up x.T) (ht : VMap.get a x.T = some t) (h : Has w (storeFlat p bank sp n x ++ l)) :
    Has w (intsS t.kv t.pg.n.keys :: intsS t.vv t.pg.n.vals :: (storeCell p bank sp x.mb :: mapS x.mb n (VMap.over Sl.val x.T) :: (pool (VMap.del a x.T) ++ l))) := by
  have hp : (storeFlat p bank sp n x ++ l).Perm (all t.rows :: (storeCell p bank sp x.mb :: mapS x.mb n (VMap.over Sl.val x.T) :: (pool (VMap.del a x.T) ++ l))) := by
    unfold storeFlat
    refine List.Perm.trans (List.Perm.cons _ (List.Perm.cons _ (List.Perm.append_right l (pool_split hu ht)))) ?_
    exact (List.Perm.cons _ (List.Perm.swap _ _ _)).trans (List.Perm.swap _ _ _)
  exact (h.perm hp).split
theorem Has.st_page_back {w : World} {l : List Say} {p bank sp n : Nat} {x : StAt} {a : Int} {t : Sl} (hu : VMap.Up x.T) (ht : VMap.get a x.T = some t)
    (h : Has w (intsS t.kv t.pg.n.keys :: intsS t.vv t.pg.n.vals :: (storeCell p bank sp x.mb :: mapS x.mb n (VMap.over Sl.val x.T) :: (pool (VMap.del a x.T) ++ l)))) : Has w (storeFlat p bank sp n x ++ l) := by
  have hp : (storeFlat p bank sp n x ++ l).Perm (all t.rows :: (storeCell p bank sp x.mb :: mapS x.mb n (VMap.over Sl.val x.T) :: (pool (VMap.del a x.T) ++ l))) := by
    unfold storeFlat
    refine List.Perm.trans (List.Perm.cons _ (List.Perm.cons _ (List.Perm.append_right l (pool_split hu ht)))) ?_
    exact (List.Perm.cons _ (List.Perm.swap _ _ _)).trans (List.Perm.swap _ _ _)
  have h1 : Has w (t.rows ++ (storeCell p bank sp x.mb :: mapS x.mb n (VMap.over Sl.val x.T) :: (pool (VMap.del a x.T) ++ l))) := h
  exact h1.unite.perm hp.symm
theorem ok_lens {n : Nd} (h : n.ok = true) : 0 ≤ n.level ∧ n.level ≤ 20 ∧ n.keys.length = n.vals.length ∧ 1 ≤ n.keys.length ∧ n.keys.length ≤ 7 := by
  simp only [Nd.ok, Bool.and_eq_true, decide_eq_true_eq, beq_iff_eq] at h
  obtain ⟨⟨⟨⟨⟨o1, o2⟩, o3⟩, o4⟩, o5⟩, _⟩ := h
  exact ⟨o1, o2, o3, o4, o5⟩

set_option maxHeartbeats 1000000 in
set_option maxRecDepth 100000 in
theorem st_Get {w : World} {l : List Say} {p bank sp n : Nat} {Q : Pgs} (h : Has w (storeS p bank sp n Q :: l)) (a : Int) (b0 : -9223372036854775808 ≤ a) (b1 : a ≤ 9223372036854775807) :
    Calls Tryz.prog 20 #[.pointer (some ⟨p, 0, none⟩), .int .i64 a] w (GetPost a p bank sp n Q l w) := by
  obtain ⟨x, ok, hh⟩ := h.st_open
  have hr := hh.alloc (.cells #[.int .i64 0, .slice none 0 0, .slice none 0 0] 35)
  have hK : Kept w (w.alloc (.cells #[.int .i64 0, .slice none 0 0, .slice none 0 0] 35)) := (Kept.refl w).alloc _
  have hlk := map_look_ok hr (b := x.mb) (n := n) (M := VMap.over Sl.val x.T) (by simp [storeFlat]) a b0 b1
  have c2 : (w.alloc (.cells #[.int .i64 0, .slice none 0 0, .slice none 0 0] 35)).cell? ⟨p, 2, none⟩ = some (.map (some x.mb)) := cell_of (hr.at (b := p) (o := .cells #[.pointer (some ⟨bank, 0, none⟩), .pointer (some ⟨sp, 0, none⟩), .map (some x.mb), .map none] 147 (0, 0)) (by simp [storeFlat, storeCell])) 2 rfl
  have d0 : (w.alloc (.cells #[.int .i64 0, .slice none 0 0, .slice none 0 0] 35)).cell? ⟨w.heap.size, 0, none⟩ = some (.int .i64 0) := cell_of hr.got 0 rfl
  have d1 : (w.alloc (.cells #[.int .i64 0, .slice none 0 0, .slice none 0 0] 35)).cell? ⟨w.heap.size, 1, none⟩ = some (.slice none 0 0) := cell_of hr.got 1 rfl
  have d2 : (w.alloc (.cells #[.int .i64 0, .slice none 0 0, .slice none 0 0] 35)).cell? ⟨w.heap.size, 2, none⟩ = some (.slice none 0 0) := cell_of hr.got 2 rfl
  have f0 := thaw_of hr.got 0
  have f1 := thaw_of hr.got 1
  have f2 := thaw_of hr.got 2
  have hsl := hh.pool_sl (T := x.T) (fun A hA => by simp [storeFlat, hA])
  have HR := Lib.hid hr
  have HK := Lib.hid hK
  have Hok := Lib.hid ok
  have hrw : Hid (∀ w', Kept (w.alloc (.cells #[.int .i64 0, .slice none 0 0, .slice none 0 0] 35)) w' → Kept w w') := fun w' hk => hK.trans hk
  clear h hh hr hK
  go_enter Tryz.func20, Tryz.ntmps20
  go_upto_region 1 with fail
  generalize w.alloc (.cells #[.int .i64 0, .slice none 0 0, .slice none 0 0] 35) = W at *
  generalize w.heap.size = rb at *
  have lp := World.block_lt_of_cell? _ _ c2
  have lr := World.block_lt_of_cell? _ _ d0
  rw [VMap.get_over] at hlk
  have hgQ : VMap.get a Q = (VMap.get a x.T).map Sl.pg := by rw [← ok.eq, VMap.get_over]
  clear ok
  cases hg : VMap.get a x.T with
  | none =>
    rw [hg] at hlk hgQ
    simp only [Option.map_none, Option.getD_none, Option.isSome_none, pageZero] at hlk hgQ
    have HQ := Lib.hid hgQ
    have HG := Lib.hid hg
    clear hgQ hg hsl
    go_wp2
    have h5 := ((((HR.out.setCell 0 (.int .i64 0)).setCell 1 (.slice none 0 0)).setCell 2 (.slice none 0 0))).alloc_off (.cells #[.int .i64 0, .slice none 0 0, .slice none 0 0, .int .i64 0, .int .i64 0] 153)
    have hkf := (((HK.out.setCell ⟨rb, 0, none⟩ (.int .i64 0)).setCell ⟨rb, 1, none⟩ (.slice none 0 0)).setCell ⟨rb, 2, none⟩ (.slice none 0 0)).alloc (.cells #[.int .i64 0, .slice none 0 0, .slice none 0 0, .int .i64 0, .int .i64 0] 153)
    generalize (((W.setCell ⟨rb, 0, none⟩ (.int .i64 0)).setCell ⟨rb, 1, none⟩ (.slice none 0 0)).setCell ⟨rb, 2, none⟩ (.slice none 0 0)).alloc (.cells #[.int .i64 0, .slice none 0 0, .slice none 0 0, .int .i64 0, .int .i64 0] 153) = W3 at *
    have z0 : W3.cell? ⟨rb, 0, none⟩ = some (.int .i64 0) := cell_of h5.got 0 rfl
    have z1 : W3.cell? ⟨rb, 1, none⟩ = some (.slice none 0 0) := cell_of h5.got 1 rfl
    have z2 : W3.cell? ⟨rb, 2, none⟩ = some (.slice none 0 0) := cell_of h5.got 2 rfl
    refine bodyPost_ret (v := .tuple #[.agg #[.int .i64 0, .slice none 0 0, .slice none 0 0], .iface 157 (.int .i64 81)]) (by simp [results, Tryz.results20, go_sem, z0, z1, z2]) rfl (.inl ⟨HQ.out, rfl, hkf, ?_⟩)
    exact Has.st_shut Hok.out h5.tail
  | some t =>
    have hokp : t.pg.n.ok = true := Hok.out.ok (a, t.pg) (by rw [← Hok.out.eq]; exact List.mem_map.2 ⟨_, get_mem hg, rfl⟩)
    obtain ⟨q0, q1, q2, q3, q4⟩ := ok_lens hokp
    obtain ⟨⟨ak, nk, ck, ek⟩, av, nv, cv, ev⟩ := hsl _ (get_mem hg)
    have h1 := Has.st_page Hok.out.up hg (HR.out.perm List.perm_middle.symm)
    rw [hg] at hlk hgQ
    obtain ⟨⟨nd, H, E⟩, kv, vv⟩ := t
    simp only at ek ev q0 q1 q2 q3 q4 h1
    subst ek ev
    simp only [Option.map_some, Option.getD_some, Option.isSome_some, Sl.val] at hlk hgQ
    have hnc := node_copied nd (h1.alloc_off (.cells #[.int .i64 nd.level, .slice ak nk ck, .slice av nv cv, .int .i64 H, .int .i64 E] 153)) (.head _) (.tail _ (.head _)) (by omega) (by omega) (by omega) (by omega)
    have HNC := Lib.hid hnc
    have HQ := Lib.hid hgQ
    have HG := Lib.hid hg
    have HKa : Hid (Kept w (W.alloc (.cells #[.int .i64 nd.level, .slice ak nk ck, .slice av nv cv, .int .i64 H, .int .i64 E] 153))) := HK.out.alloc _
    simp only [Nd.val] at HNC
    clear hgQ hg hsl h1 hnc hokp q2
    go_wp2_with fail
    refine HNC.out.mono ?_
    rintro r w2 ⟨k2, v2, rfl, hK2, hh2⟩
    have h3 : Has w2 ((intsS k2 nd.keys :: intsS v2 nd.vals :: intsS (.slice ak nk ck) nd.keys :: intsS (.slice av nv cv) nd.vals :: storeCell p bank sp x.mb :: mapS x.mb n (VMap.over Sl.val x.T) :: pool (VMap.del a x.T)) ++ (pts rb (.cells #[.int .i64 0, .slice none 0 0, .slice none 0 0] 35 (0, 0)) :: l)) := hh2
    have h4 := h3.perm List.perm_middle
    obtain ⟨a5, c5, e5, _, _⟩ := h4.ints_read (v := k2) (xs := nd.keys) (by simp)
    obtain ⟨a6, c6, e6, _, _⟩ := h4.ints_read (v := v2) (xs := nd.vals) (by simp)
    subst e5 e6
    have e0 := cell_of h4.got 0 rfl
    have e1 := cell_of h4.got 1 rfl
    have e2 := cell_of h4.got 2 rfl
    have g0 := thaw_of h4.got 0
    have g1 := thaw_of h4.got 1
    have g2 := thaw_of h4.got 2
    have lw := World.block_lt_of_cell? _ _ e0
    have H4 := Lib.hid h4
    have HK2 := Lib.hid (HKa.out.trans hK2)
    simp only [Nd.val]
    clear hh2 h3 h4 hK2 HNC HKa d0 d1 d2 f0 f1 f2 c2 hlk
    go_wp2
    have h5 := ((H4.out.setCell 0 (.int .i64 nd.level)).setCell 1 (.slice a5 nd.keys.length c5)).setCell 2 (.slice a6 nd.vals.length c6)
    have hkf := ((HK2.out.setCell ⟨rb, 0, none⟩ (.int .i64 nd.level)).setCell ⟨rb, 1, none⟩ (.slice a5 nd.keys.length c5)).setCell ⟨rb, 2, none⟩ (.slice a6 nd.vals.length c6)
    generalize ((w2.setCell ⟨rb, 0, none⟩ (.int .i64 nd.level)).setCell ⟨rb, 1, none⟩ (.slice a5 nd.keys.length c5)).setCell ⟨rb, 2, none⟩ (.slice a6 nd.vals.length c6) = W3 at *
    have z0 : W3.cell? ⟨rb, 0, none⟩ = some (.int .i64 nd.level) := cell_of h5.got 0 rfl
    have z1 : W3.cell? ⟨rb, 1, none⟩ = some (.slice a5 nd.keys.length c5) := cell_of h5.got 1 rfl
    have z2 : W3.cell? ⟨rb, 2, none⟩ = some (.slice a6 nd.vals.length c6) := cell_of h5.got 2 rfl
    refine bodyPost_ret (v := .tuple #[.agg #[.int .i64 nd.level, .slice a5 nd.keys.length c5, .slice a6 nd.vals.length c6], .nilIface]) (by simp [results, Tryz.results20, go_sem, z0, z1, z2]) rfl (.inr ⟨⟨nd, H, E⟩, _, _, HQ.out, rfl, hkf, ?_⟩)
    have h6 : Has W3 ([intsS (.slice a5 nd.keys.length c5) nd.keys, intsS (.slice a6 nd.vals.length c6) nd.vals] ++ (([intsS (.slice ak nk ck) nd.keys, intsS (.slice av nv cv) nd.vals, storeCell p bank sp x.mb, mapS x.mb n (VMap.over Sl.val x.T)] ++ pool (VMap.del a x.T)) ++ l)) := h5.tail
    have h7 := h6.perm (List.perm_append_comm_assoc _ _ _)
    have h8 := Has.st_shut Hok.out (Has.st_page_back (t := ⟨⟨nd, H, E⟩, .slice ak nk ck, .slice av nv cv⟩) Hok.out.up HG.out h7)
    exact h8.push 2
end Go.Proofs.YtgbgneiciabidaaGreatDoor
