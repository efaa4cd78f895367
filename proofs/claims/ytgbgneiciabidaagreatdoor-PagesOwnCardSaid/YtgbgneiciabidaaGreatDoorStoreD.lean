/-
  Pages (layer 11), the fourth part: may a node name what it names?
-/
import Derived.Test.YtgbgneiciabidaaGreatDoorStoreC
namespace Go.Proofs.YtgbgneiciabidaaGreatDoor
open Go Go.RowKit
set_option linter.all false

theorem below_drewN {B : Nat} {a w : World} (h : Below B a w) (n : Nat) : Below B a (w.drewN n) := h.trans ⟨rfl, rfl, rfl, Nat.le_refl _, fun _ _ => rfl⟩
def missing (Q : Pgs) (k : Int) : Bool := (VMap.get k Q).isNone
def offLevel (Q : Pgs) (lv k : Int) : Bool := !(lvOf Q k == lv - 1)
def namedErr (Q : Pgs) (n : Nd) : Value := if n.kids.any (missing Q) = true then errV 81 else if n.kids.any (offLevel Q n.level) = true then errV 70 else .nilIface
def NamedPost (Q : Pgs) (n : Nd) (w : World) (r : Ending) (w' : World) : Prop := r = .returned (namedErr Q n) ∧ Below w.heap.size w w'

theorem Has.kids_read {w : World} {l : List Say} (n : Nd) {vv : Value} (h : Has w l) (hv : intsS vv n.vals ∈ l) :
    ∃ a c, n.kidsV vv = .slice a n.kids.length c ∧ ∀ k (hk : k < n.kids.length), ∃ g, a = some ⟨g, 0, none⟩ ∧ w.cell? ⟨g, k, none⟩ = some (.int .i64 n.kids[k]) := by
  obtain ⟨a, c, e, _, hr⟩ := h.ints_read hv
  unfold Nd.kidsV Nd.kids
  by_cases h0 : n.level = 0
  · simp only [if_pos h0]
    exact ⟨none, 0, rfl, fun k hk => by simp at hk⟩
  · simp only [if_neg h0]
    exact ⟨a, c, e, fun k hk => by obtain ⟨g, h1, h2, _⟩ := hr k hk; exact ⟨g, h1, h2⟩⟩
/-- The rows of the pages are slices. -/
def SlSl (T : List (Int × Sl)) : Prop := ∀ p ∈ T, (∃ a n c, p.2.kv = .slice a n c) ∧ ∃ a n c, p.2.vv = .slice a n c
theorem get_mem {α : Type} {k : Int} {v : α} {T : List (Int × α)} (h : VMap.get k T = some v) : (k, v) ∈ T := by
  unfold VMap.get at h
  obtain ⟨p, hp, rfl⟩ := Option.map_eq_some_iff.1 h
  have h1 := List.mem_of_find?_eq_some hp
  have h2 := List.find?_some hp
  have e : p.1 = k := by simpa using h2
  rw [← e]
  exact h1
theorem page_agg (T : List (Int × Sl)) (hT : SlSl T) (k : Int) : ∃ L a b c a' b' c' h e, (VMap.get k (VMap.over Sl.val T)).getD pageZero = .agg #[.int .i64 L, .slice a b c, .slice a' b' c', .int .i64 h, .int .i64 e] := by
  rw [VMap.get_over]
  cases hg : VMap.get k T with
  | none => exact ⟨_, _, _, _, _, _, _, _, _, rfl⟩
  | some t =>
    obtain ⟨⟨a, b, c, e1⟩, a', b', c', e2⟩ := hT _ (get_mem hg)
    refine ⟨t.pg.n.level, a, b, c, a', b', c', t.pg.holds, t.pg.held, ?_⟩
    show Sl.val t = _
    unfold Sl.val
    simp only at e1 e2
    rw [e1, e2]

set_option maxHeartbeats 1000000 in
set_option maxRecDepth 100000 in
theorem st_named {w : World} {l : List Say} {p bank sp mb m : Nat} {T : List (Int × Sl)} (n : Nd) {kv vv : Value} (h : Has w l) (hv : intsS vv n.vals ∈ l) (hs : storeCell p bank sp mb ∈ l) (hm : mapS mb m (VMap.over Sl.val T) ∈ l) (hT : SlSl T)
    (l0 : 0 ≤ n.level) (l1 : n.level ≤ 20) (hlen : n.kids.length ≤ 100) (hbd : ∀ k ∈ n.kids, -9223372036854775808 ≤ k ∧ k ≤ 9223372036854775807) :
    Calls Tryz.prog 76 #[.pointer (some ⟨p, 0, none⟩), n.val kv vv] w (NamedPost (VMap.over Sl.pg T) n w) := by
  have hW := (h.alloc_off (.cells #[.pointer (some ⟨p, 0, none⟩)] 27)).alloc_off (.cells #[.int .i64 n.level, kv, vv] 35)
  have hB : Below w.heap.size w ((w.alloc (.cells #[.pointer (some ⟨p, 0, none⟩)] 27)).alloc (.cells #[.int .i64 n.level, kv, vv] 35)) := ((Below.refl _ _).alloc (Nat.le_refl _) _).alloc (by simp) _
  have x2 : ((w.alloc (.cells #[.pointer (some ⟨p, 0, none⟩)] 27)).alloc (.cells #[.int .i64 n.level, kv, vv] 35)).cell? ⟨w.heap.size, 0, none⟩ = some (.pointer (some ⟨p, 0, none⟩)) := by
    rw [World.cell?_alloc_lt _ _ _ (by simp)]; exact World.cell?_alloc_new _ _ _ 0
  have hn3 := World.cell?_alloc_new (w.alloc (.cells #[.pointer (some ⟨p, 0, none⟩)] 27)) #[.int .i64 n.level, kv, vv] 35
  simp only [World.size_alloc] at hn3
  have x3 : ((w.alloc (.cells #[.pointer (some ⟨p, 0, none⟩)] 27)).alloc (.cells #[.int .i64 n.level, kv, vv] 35)).cell? ⟨w.heap.size + 1, 0, none⟩ = some (.int .i64 n.level) := hn3 0
  have y3 : ((w.alloc (.cells #[.pointer (some ⟨p, 0, none⟩)] 27)).alloc (.cells #[.int .i64 n.level, kv, vv] 35)).cell? ⟨w.heap.size + 1, 1, none⟩ = some kv := hn3 1
  have z3 : ((w.alloc (.cells #[.pointer (some ⟨p, 0, none⟩)] 27)).alloc (.cells #[.int .i64 n.level, kv, vv] 35)).cell? ⟨w.heap.size + 1, 2, none⟩ = some vv := hn3 2
  have HW := Lib.hid hW
  have HB := Lib.hid hB
  have Hs := Lib.hid hs
  have Hm := Lib.hid hm
  have Hv := Lib.hid hv
  have HBd := Lib.hid hbd
  have HT := Lib.hid hT
  clear h hW hB hs hm hv hbd hn3 hT
  go_enter Tryz.func76, Tryz.ntmps76
  simp only [Nd.val]
  go_upto_region 1 with fail
  generalize (w.alloc (.cells #[.pointer (some ⟨p, 0, none⟩)] 27)).alloc (.cells #[.int .i64 n.level, kv, vv] 35) = W at *
  generalize hb3 : w.heap.size + 1 = b3 at *
  have hbw : Hid (Below w.heap.size W W) := Below.refl _ _
  have lb2 := World.block_lt_of_cell? _ _ x2
  have lb3 := World.block_lt_of_cell? _ _ x3
  obtain ⟨ka, kc, hkv, hkr⟩ := HW.out.kids_read n Hv.out
  have cp : W.cell? ⟨p, 2, none⟩ = some (.map (some mb)) := cell_of (HW.out.at Hs.out) 2 rfl
  have lp := World.block_lt_of_cell? _ _ cp
  have HLt : Hid (∀ W', Below W.heap.size W W' → ∀ k, -9223372036854775808 ≤ k → k ≤ 9223372036854775807 → (Instr.lookup 145 (.map (some mb)) (.int .i64 k) true).run Tryz.prog W' = .ok (.tuple #[(VMap.get k (VMap.over Sl.val T)).getD pageZero, .bool (VMap.get k (VMap.over Sl.val T)).isSome]) W') :=
    fun W' hb k k0 k1 => map_look_ok (HW.out.below hb) Hm.out k k0 k1
  have HLf : Hid (∀ W', Below W.heap.size W W' → ∀ k, -9223372036854775808 ≤ k → k ≤ 9223372036854775807 → (Instr.lookup 145 (.map (some mb)) (.int .i64 k) false).run Tryz.prog W' = .ok ((VMap.get k (VMap.over Sl.val T)).getD pageZero) W') :=
    fun W' hb k k0 k1 => map_look (HW.out.below hb) Hm.out k k0 k1
  have HKd := Lib.hid (fun w => node_kids (w := w) n kv vv)
  have HNE : Hid (namedErr (VMap.over Sl.pg T) n = if n.kids.any (missing (VMap.over Sl.pg T)) = true then errV 81 else if n.kids.any (offLevel (VMap.over Sl.pg T) n.level) = true then errV 70 else .nilIface) := rfl
  simp only [Nd.val, hkv] at HKd
  generalize n.kids = ks at *
  generalize n.level = lv at *
  have HKr := Lib.hid hkr
  clear hkr hkv hbw HW hb3
  go_wp2_with fail
  refine (HKd.out W).mono ?_
  rintro r w1 ⟨rfl, hb1⟩
  have HB1 := Lib.hid hb1
  have a3 := bcell1 hb1 x3
  have a4 := bcell1 hb1 y3
  have a5 := bcell1 hb1 z3
  have a2 := bcell1 hb1 x2
  clear hb1
  go_wp2
  go_loopg [12] ks.length (fun gk i wr => ∃ k : Nat, k ≤ ks.length ∧ gk = ks.length - k ∧ i = .int .i64 k ∧ Hid (Below W.heap.size W wr) ∧ Hid (∀ j (h : j < ks.length), j < k → missing (VMap.over Sl.pg T) ks[j] = false))
  case atStart => exact ⟨0, Nat.zero_le _, rfl, rfl, HB1, fun _ _ h => absurd h (Nat.not_lt_zero _)⟩
  case round =>
    clear HB1 a2 a3 a4 a5
    obtain ⟨k, hk, rfl, rfl, HBr, Hj⟩ := hrel
    by_cases hlt : k < ks.length
    · obtain ⟨g, rfl, hc⟩ := HKr.out k hlt
      have hk1 : (k : Int) < (ks.length : Int) := by omega
      have hk0 : (0 : Int) ≤ k := by omega
      have c1 := bcell1 HBr.out hc
      have c2 := bcell1 HBr.out x2
      have c3 := bcell1 HBr.out cp
      have m1 := World.block_lt_of_cell? _ _ c2
      have m2 := World.block_lt_of_cell? _ _ c3
      have hbk := HBd.out ks[k] (List.getElem_mem hlt)
      have hlk := HLt.out wr HBr.out ks[k] hbk.1 hbk.2
      obtain ⟨q1, q2, q3, q4, q5, q6, q7, q8, q9, hq⟩ := page_agg T HT.out ks[k]
      rw [hq] at hlk
      have hmis : missing (VMap.over Sl.pg T) ks[k] = !(VMap.get ks[k] (VMap.over Sl.val T)).isSome := by
        unfold missing
        rw [VMap.get_over, VMap.get_over]
        cases VMap.get ks[k] T <;> rfl
      have HM := Lib.hid hmis
      clear hc hbk hq hmis
      cases hsm : (VMap.get ks[k] (VMap.over Sl.val T)).isSome with
      | false =>
        rw [hsm] at hlk
        have HA : Hid (namedErr (VMap.over Sl.pg T) n = errV 81) := by
          show _ = _
          rw [HNE.out, if_pos]
          exact List.any_eq_true.2 ⟨ks[k], List.getElem_mem hlt, by rw [HM.out, hsm]; rfl⟩
        clear hsm HM
        generalize ks[k] = x at *
        go_wp2
        go_ret
        exact ⟨by rw [HA.out]; rfl, HB.out.trans ((HBr.out.mono HB.out.size).alloc (Nat.le_trans HB.out.size HBr.out.size) _)⟩
      | true =>
        rw [hsm] at hlk
        have HA : Hid (∀ j (h : j < ks.length), j < k + 1 → missing (VMap.over Sl.pg T) ks[j] = false) := fun j h hjk => by
          by_cases e : j = k
          · subst e; rw [HM.out, hsm]; rfl
          · exact Hj.out j h (by omega)
        clear hsm HM
        generalize ks[k] = x at *
        go_wp2
        go_roundg (ks.length - (k + 1))
        case measure => omega
        case rel => exact ⟨k + 1, by omega, rfl, by simp, HBr.out.alloc HBr.out.size _, HA⟩
    · obtain rfl : k = ks.length := by omega
      have c2 := bcell1 HBr.out x2
      have c3 := bcell1 HBr.out x3
      have c4 := bcell1 HBr.out y3
      have c5 := bcell1 HBr.out z3
      have m1 := World.block_lt_of_cell? _ _ c2
      have m2 := World.block_lt_of_cell? _ _ c3
      have hmf : ∀ W : World, (Instr.makeFunc (.func 140) #[] #[.pointer (some ⟨w.heap.size, 0, none⟩), .pointer (some ⟨b3, 0, none⟩)]).run Tryz.prog W = .ok (.func (.func 140) #[] #[.pointer (some ⟨w.heap.size, 0, none⟩), .pointer (some ⟨b3, 0, none⟩)]) W := fun _ => rfl
      have HM0 : Hid (ks.any (missing (VMap.over Sl.pg T)) = false) := by
        show _ = _
        rw [List.any_eq_false]
        intro x hx
        obtain ⟨j, hj, rfl⟩ := List.getElem_of_mem hx
        rw [Hj.out j hj hj]; simp
      go_wp2_with fail
      refine (HKd.out wr).mono ?_
      rintro r w2 ⟨rfl, hb2⟩
      have HB2 : Hid (Below W.heap.size W w2) := HBr.out.trans (hb2.mono HBr.out.size)
      have HC := Lib.hid (ContainsFuncInt 140 may_named1 #[.pointer (some ⟨w.heap.size, 0, none⟩), .pointer (some ⟨b3, 0, none⟩)] (offLevel (VMap.over Sl.pg T) lv) ka kc ks w2 (by simp [maxLen]; omega)
        (fun k hk => by obtain ⟨g, hg, hc⟩ := HKr.out k hk; exact ⟨g, 0, hg, by rw [Nat.zero_add]; exact bcell1 HB2.out hc⟩)
        (fun k m hk => named_at T ks[k] l0 l1 (bcell1 HB2.out x2) (bcell1 HB2.out x3) (bcell1 HB2.out cp) (fun nn => HLf.out _ (below_drewN HB2.out nn) ks[k] (HBd.out ks[k] (List.getElem_mem hk)).1 (HBd.out ks[k] (List.getElem_mem hk)).2) m))
      clear hb2 c2 c3 c4 c5 m1 m2
      go_wp2_with fail
      refine HC.out.mono ?_
      rintro r w3 ⟨rfl, m3, rfl⟩
      have HFin : Hid (Below w.heap.size w (w2.drewN m3)) := HB.out.trans ((below_drewN HB2.out m3).mono HB.out.size)
      cases hof : ks.any (offLevel (VMap.over Sl.pg T) lv) with
      | false =>
        have HA : Hid (namedErr (VMap.over Sl.pg T) n = .nilIface) := by show _ = _; rw [HNE.out, if_neg (by rw [HM0.out]; simp), if_neg (by rw [hof]; simp)]
        clear hof HC
        go_wp2
        go_ret
        exact ⟨by rw [HA.out]; rfl, HFin.out⟩
      | true =>
        have HA : Hid (namedErr (VMap.over Sl.pg T) n = errV 70) := by show _ = _; rw [HNE.out, if_neg (by rw [HM0.out]; simp), if_pos hof]
        clear hof HC
        go_wp2
        go_ret
        exact ⟨by rw [HA.out]; rfl, HFin.out⟩
end Go.Proofs.YtgbgneiciabidaaGreatDoor
