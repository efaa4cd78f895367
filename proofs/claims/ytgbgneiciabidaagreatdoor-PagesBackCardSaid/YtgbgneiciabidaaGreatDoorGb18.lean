/-
  Plain: the steps of a walk through a region that draws its order, at numbers.
-/
import Derived.Test.YtgbgneiciabidaaGreatDoorGb1
import Derived.Test.YtgbgneiciabidaaGreatDoorGb9
import Derived.Test.YtgbgneiciabidaaGreatDoorGb16
import Derived.Test.YtgbgneiciabidaaGreatDoorGbxMade
import Derived.Test.YtgbgneiciabidaaGreatDoorGb11
namespace Go.Proofs.YtgbgneiciabidaaGreatDoor
open Go Go.RowKit
set_option linter.all false

section
variable {ops : Array Oper} {S : Nat → World → Prop} {live : Nat → Nat → Prop} {kd : Nat → Kd} {k : Nat} {ord : List Nat} {a : Act} {L : List Say} {o : Oper} {w0 : World} {Q : Exit → Act → World → Prop}
/-- A number is appended that lies in a block of its own: in a plain region. -/
theorem wpList_append_int {w : World} {l : List Say} {ops : Array Oper} {rest : List Oper} {o : Oper} {a : Act} {Q : Exit → Act → World → Prop} (hgd : o.guard = none) (s x : Operand)
    (hop : o.op = .call { callee := .builtin .append, args := #[s, x], argTypes := #[22, 22] })
    {p : Option Addr} {n c : Nat} {xs : List Int} (hs : a.eval s = .slice p n c) {bx : Nat} {y : Int} (hx : a.eval x = .slice (some ⟨bx, 0, none⟩) 1 1) (hown : Has w (intsS (.slice p n c) xs :: l)) (hm : pts bx (.cells #[.int .i64 y] 3 (0, 0)) ∈ l)
    (hn : xs.length = n) (hlen : xs.length ≤ 1000000000000)
    (h : ∀ p' c' w', Kept w w' → Has w' (intsS (.slice p' (n + 1) c') (xs ++ [y]) :: l) → wpList Tryz.prog ops Q rest (a.put o.dst (.slice p' (n + 1) c')) w') : wpList Tryz.prog ops Q (o :: rest) a w := by
  obtain ⟨i0, I1, I2, I3, I4⟩ := info_parts info_int
  subst hn
  refine wpList_append_row hgd s x 22 hop 3 i0 (.int .i64 0) 1 8 Tryz.underlying22 I1 I2 I3 I4 rfl (by decide) _ _ (xs.map intVal) hs hown ⟨bx, 0, none⟩ 1 1 [.int .i64 y] hx rfl ?_ (by simp [Value.oneCell']) (by unfold maxLen; omega) (by omega) ?_
  · intro j u hu
    have hb := hown.at (b := bx) (o := .cells #[.int .i64 y] 3 (0, 0)) (List.mem_cons_of_mem _ hm)
    have : j = 0 := by
      have := (List.getElem?_eq_some_iff.1 hu).1
      simpa using this
    subst this
    rw [Addr.add_lit]
    exact cell_of hb 0 hu
  · intro v' w' hK hh
    have e1 : rowS 3 1 v' (xs.length + 1) (xs.map intVal ++ [.int .i64 y]) = intsS v' (xs ++ [y]) := by unfold intsS; rw [List.length_append, List.map_append]; rfl
    rw [e1] at hh
    obtain ⟨a', c', rfl, _, _⟩ := hh.ints_read (v := v') (xs := xs ++ [y]) (.head _)
    rw [List.length_append] at hh ⊢
    exact h a' c' w' hK hh
/-- A number is appended that lies in a block of its own. -/
theorem ws_append_int (ho : ops[k]? = some o) (hw : Region.wanted o (yielded ops a.tmps) = true) (hk : kd k = .mn) (s x : Operand) (hop : o.op = .call { callee := .builtin .append, args := #[s, x], argTypes := #[22, 22] })
    {p : Option Addr} {n c : Nat} {xs : List Int} {L2 : List Say} (hs : a.eval s = .slice p n c) {bx : Nat} {y : Int} (hx : a.eval x = .slice (some ⟨bx, 0, none⟩) 1 1) (hm : pts bx (.cells #[.int .i64 y] 3 (0, 0)) ∈ L2)
    (hn : xs.length = n) (hlen : xs.length ≤ 1000000000000)
    (hS : ∀ p' c' w F, Has w (intsS (.slice p' (n + 1) c') (xs ++ [y]) :: L2 ++ F) → ∀ j, live k j → S j w)
    (h : ∀ p' c', WS Tryz.prog ops S live kd Q w0 ord (a.put o.dst (.slice p' (n + 1) c')) (intsS (.slice p' (n + 1) c') (xs ++ [y]) :: L2)) :
    WS Tryz.prog ops S live kd Q w0 (k :: ord) a (intsS (.slice p n c) xs :: L2) := by
  obtain ⟨i0, I1, I2, I3, I4⟩ := info_parts info_int
  subst hn
  have e1 : ∀ v, intsS v (xs ++ [y]) = rowS 3 1 v (xs.length + 1) (xs.map intVal ++ [.int .i64 y]) := fun v => by unfold intsS; rw [List.length_append, List.map_append]; rfl
  refine ws_append ho hw hk s x 22 hop 3 i0 (.int .i64 0) 1 8 Tryz.underlying22 I1 I2 I3 I4 rfl (by decide) hs ⟨bx, 0, none⟩ 1 1 [.int .i64 y] hx rfl ?_ (by simp [Value.oneCell']) (by unfold maxLen; omega) (by omega) ?_ ?_
  · intro w F _ hh j u hu
    have hb := hh.at (b := bx) (o := .cells #[.int .i64 y] 3 (0, 0)) (List.mem_cons_of_mem _ (List.mem_append_left _ hm))
    have : j = 0 := by
      have := (List.getElem?_eq_some_iff.1 hu).1
      simpa using this
    subst this
    rw [Addr.add_lit]
    exact cell_of hb 0 hu
  · intro p' c' w F hh
    rw [← e1] at hh
    exact hS p' c' w F hh
  · intro p' c'
    rw [← e1]
    exact h p' c'
end
end Go.Proofs.YtgbgneiciabidaaGreatDoor
/-
  Law 11: a node over some pages of a store (above2).
-/
namespace Go.Proofs.YtgbgneiciabidaaGreatDoor
open Go Go.RowKit
set_option linter.all false

theorem Has.ints_one {w : World} {l : List Say} (h : Has w l) (x : Int) : Has (w.alloc (.cells #[.int .i64 x] 3)) (intsS (.slice (some ⟨w.heap.size, 0, none⟩) 1 1) [x] :: l) :=
  (h.alloc (.cells #[.int .i64 x] 3)).row_of_pts (by simp) (Nat.le_refl _) (by simp [maxLen]) (by simp) (by simp [intVal])
theorem Has.ints_at {w : World} {l : List Say} {g n c k : Nat} {xs : List Int} {x : Int} (h : Has w l) (hm : intsS (.slice (some ⟨g, 0, none⟩) n c) xs ∈ l) (hx : xs[k]? = some x) : w.cell? ⟨g, k, none⟩ = some (.int .i64 x) := by
  obtain ⟨_, _, e, _, hr⟩ := h.ints_read hm
  injection e with e1
  subst e1
  have hk := (List.getElem?_eq_some_iff.1 hx).1
  obtain ⟨_, e2, hc, _⟩ := hr k hk
  injection e2 with e3
  injection e3 with e4
  subst e4
  rw [hc]
  rw [List.getElem?_eq_getElem hk] at hx
  rw [Option.some.inj hx]
theorem Has.pts_ne {w : World} {l : List Say} {a b : Nat} {x y : Obj} (h : Has w (pts a x :: l)) (hm : pts b y ∈ l) : a ≠ b := by
  obtain ⟨h1, h2, hA, hl, d1, d2⟩ := h
  obtain ⟨p, hp, hk⟩ := Sep.mem hm hl
  rintro rfl
  have hA' : h1 a = some x := hA
  have hp' : p a = some y := hp
  have e1 := (d1 a (by rw [hA']; simp)).2
  have e2 := hk a (by rw [hp']; simp)
  rw [e1, hp'] at e2
  cases e2
theorem Has.pts_row_ne {w : World} {l : List Say} {e : TypeId} {size g n c m b : Nat} {xs : List Value} {o : Obj} (h : Has w (pts b o :: l)) (hm : rowS e size (.slice (some ⟨g, 0, none⟩) n c) m xs ∈ l) : b ≠ g := by
  obtain ⟨h1, h2, hA, hl, d1, d2⟩ := h
  obtain ⟨p, ⟨_, hc⟩, hk⟩ := Sep.mem hm hl
  rcases hc with ⟨hv, _⟩ | ⟨g', cap, cur, hv, hg, _⟩
  · cases hv
  · cases hv
    rintro rfl
    have hA' : h1 b = some o := hA
    have e1 := (d1 b (by rw [hA']; simp)).2
    have e2 := hk b (by rw [hg]; simp)
    rw [e1, hg] at e2
    cases e2
def SomePost (p bank sp : Nat) (Q : Pgs) (n : Nd) (l : List Say) (w : World) (r : Ending) (w' : World) : Prop :=
  ∃ ak ck av cv, r = .returned (.tuple #[.agg #[.int .i64 n.level, .slice ak n.keys.length ck, .slice av n.vals.length cv], .nilIface]) ∧ Kept w w' ∧ Has w' (intsS (.slice ak n.keys.length ck) n.keys :: intsS (.slice av n.vals.length cv) n.vals :: stS p bank sp Q :: l)
/-- A page that is there. -/
theorem st_Get_some {w : World} {l : List Say} {p bank sp : Nat} {Q : Pgs} (h : Has w (stS p bank sp Q :: l)) (a : Int) (b0 : -9223372036854775808 ≤ a) (b1 : a ≤ 9223372036854775807) {g : Pg} (hg : VMap.get a Q = some g) :
    Calls Tryz.prog 20 #[.pointer (some ⟨p, 0, none⟩), .int .i64 a] w (SomePost p bank sp Q g.n l w) := by
  refine (st_Get h a b0 b1).mono ?_
  rintro r w' (⟨hn, _⟩ | ⟨g', kv, vv, hg', rfl, hK, hh⟩)
  · rw [hg] at hn; cases hn
  · rw [hg] at hg'
    obtain rfl := Option.some.inj hg'
    obtain ⟨ak, ck, rfl, _, _⟩ := hh.ints_read (v := kv) (xs := g.n.keys) (.head _)
    obtain ⟨av, cv, rfl, _, _⟩ := hh.ints_read (v := vv) (xs := g.n.vals) (.tail _ (.head _))
    exact ⟨ak, ck, av, cv, rfl, hK, hh⟩
theorem get_at {α : Type} : ∀ {Q : List (Int × α)}, VMap.Up Q → ∀ (k : Nat) (hk : k < Q.length), VMap.get Q[k].1 Q = some Q[k].2
  | p :: Q, hu, 0, _ => by simp [VMap.get]
  | p :: Q, hu, k + 1, hk => by
    obtain ⟨h1, h2⟩ := List.pairwise_cons.1 hu
    have hm : Q[k]'(by simpa using hk) ∈ Q := List.getElem_mem _
    have hlt := h1 _ hm
    have ih := get_at h2 k (by simpa using hk)
    have hne : ¬ p.1 = (Q[k]'(by simpa using hk)).1 := by omega
    simp only [List.getElem_cons_succ]
    unfold VMap.get at ih ⊢
    rw [List.find?_cons]
    have : (p.1 == (Q[k]'(by simpa using hk)).1) = false := by simpa using hne
    rw [this]
    exact ih

def AbovePost (p bank sp : Nat) (Q : Pgs) (l : List Say) (w : World) (r : Ending) (w' : World) : Prop :=
  ∃ (n : Nd) (ak : Option Addr) (ck : Nat) (av : Option Addr) (cv : Nat), n.keys.length ≤ 3 ∧ n.vals.length = n.keys.length ∧ r = .returned (.agg #[.int .i64 n.level, .slice ak n.keys.length ck, .slice av n.vals.length cv]) ∧ Kept w w' ∧
    Has w' (intsS (.slice ak n.keys.length ck) n.keys :: intsS (.slice av n.vals.length cv) n.vals :: stS p bank sp Q :: l)
def AbMid (w : World) (r6 : Nat) (rest : List Say) (c : Nat) (iz : Int) (wr : World) : Prop :=
  ∃ (L : Int) (ks vs : List Int) (ak : Option Addr) (ck : Nat) (av : Option Addr) (cv : Nat), ks.length = c ∧ vs.length = c ∧ 0 ≤ L ∧ L ≤ 100 ∧ Kept w wr ∧
    Has wr (pts r6 (.cells #[.int .i64 L, .slice ak c ck, .slice av c cv] 24 (0, 0)) :: intsS (.slice ak c ck) ks :: intsS (.slice av c cv) vs :: rest)

set_option maxHeartbeats 8000000 in
set_option maxRecDepth 100000 in
theorem law_above2 {w : World} {l : List Say} {p bank sp : Nat} {Q : Pgs} (h : Has w (stS p bank sp Q :: l)) (b s x : Value) (n : Int) (n0 : -9223372036854775808 ≤ n) (n1 : n ≤ 9223372036854775807) :
    Calls Tryz.prog 26 #[.agg #[b, s, ptrV p, x], .int .i64 n] w (AbovePost p bank sp Q l w) := by
  have hup := h.st_up
  have hQb : ∀ q ∈ Q, 0 ≤ q.1 ∧ q.1 < 32768 := by
    obtain ⟨xx, ok, _⟩ := h.st_open
    exact ok.bd
  have hQo : ∀ q ∈ Q, q.2.n.ok = true := by
    obtain ⟨xx, ok, _⟩ := h.st_open
    exact ok.ok
  have hQl : Q.length ≤ 32768 := by
    have := up_len 32768 Q 0 hup hQb
    omega
  have h2 := (h.alloc (.cells #[b, s, ptrV p, x] 30)).alloc (.cells #[.int .i64 0, .slice none 0 0, .slice none 0 0] 24)
  simp only [World.size_alloc] at h2
  have c2 : (w.alloc (.cells #[b, s, ptrV p, x] 30)).cell? ⟨w.heap.size, 2, none⟩ = some (.pointer (some ⟨p, 0, none⟩)) := World.cell?_alloc_new _ _ _ 2
  have HPg := Lib.hid (st_Pages (h2.pull 2) (by omega))
  have HK0 := Lib.hid (((Kept.refl w).alloc (.cells #[b, s, ptrV p, x] 30)).alloc (.cells #[.int .i64 0, .slice none 0 0, .slice none 0 0] 24))
  have Hup := Lib.hid hup
  have HQb := Lib.hid hQb
  have HQo := Lib.hid hQo
  clear h h2 hup hQb hQo
  simp only [ptrV] at HPg HK0 c2 ⊢
  go_enter Tryz.func26, Tryz.ntmps26
  go_wp2_with fail
  refine HPg.out.mono ?_
  rintro r w1 ⟨v, rfl, hK1, h3⟩
  obtain ⟨al, cl, rfl, _, hrl⟩ := h3.ints_read (v := v) (xs := Q.map (·.1)) (.head _)
  rw [List.length_map] at h3 ⊢
  obtain ⟨ql, hql⟩ : ∃ ql, ql = Q.length := ⟨_, rfl⟩
  rw [← hql] at h3 hQl ⊢
  have Hql := Lib.hid hql
  have h4 := h3.alloc (.cells #[.int .i64 0, .slice none 0 0, .slice none 0 0] 24)
  have h5 : Has (w1.alloc (.cells #[.int .i64 0, .slice none 0 0, .slice none 0 0] 24)) (pts w1.heap.size (.cells #[.int .i64 0, .slice none 0 0, .slice none 0 0] 24 (0, 0)) :: intsS (.slice none 0 0) [] :: intsS (.slice none 0 0) [] ::
      intsS (.slice al ql cl) (Q.map (·.1)) :: stS p bank sp Q :: pts (w.heap.size + 1) (.cells #[.int .i64 0, .slice none 0 0, .slice none 0 0] 24 (0, 0)) :: world4 w.heap.size b s (.pointer (some ⟨p, 0, none⟩)) x :: l) := ((h4.row_nil 3 1).row_nil 3 1).pull 2
  have HM : Hid (AbMid w w1.heap.size (intsS (.slice al ql cl) (Q.map (·.1)) :: stS p bank sp Q :: pts (w.heap.size + 1) (.cells #[.int .i64 0, .slice none 0 0, .slice none 0 0] 24 (0, 0)) :: world4 w.heap.size b s (.pointer (some ⟨p, 0, none⟩)) x :: l) 0 n (w1.alloc (.cells #[.int .i64 0, .slice none 0 0, .slice none 0 0] 24))) :=
    ⟨0, [], [], none, 0, none, 0, rfl, rfl, by omega, by omega, (HK0.out.trans hK1).alloc _, h5⟩
  have hne4 : w.heap.size + 1 ≠ w.heap.size := by omega
  clear h3 h4 h5 hK1 HPg HK0 c2 hrl hql
  go_wp2
  generalize hq6 : w1.heap.size = r6 at *
  generalize hq4 : w.heap.size + 1 = r4 at *
  generalize hq2 : w.heap.size = r2 at *
  clear hq6 hq4 hq2
  go_loopg [7] 3 (fun gk i wr => ∃ (c : Nat) (iz : Int), c ≤ 3 ∧ gk = 3 - c ∧ i = .int .i64 iz ∧ (-9223372036854775808 ≤ iz ∧ iz ≤ 9223372036854775807) ∧ Hid (AbMid w r6 (intsS (.slice al ql cl) (Q.map (·.1)) :: stS p bank sp Q :: pts r4 (.cells #[.int .i64 0, .slice none 0 0, .slice none 0 0] 24 (0, 0)) :: world4 r2 b s (.pointer (some ⟨p, 0, none⟩)) x :: l) c iz wr))
  case atStart => exact ⟨0, n, by omega, rfl, rfl, ⟨n0, n1⟩, HM⟩
  case round =>
    clear HM
    obtain ⟨c, iz, hc, rfl, rfl, ⟨z0, z1⟩, HM⟩ := hrel
    by_cases hgo : 0 ≤ iz ∧ iz < (ql : Int) ∧ c < 3
    · obtain ⟨g0, g1, g2⟩ := hgo
      obtain ⟨k, rfl⟩ : ∃ k : Nat, iz = (k : Int) := ⟨iz.toNat, by omega⟩
      have hkQ : k < Q.length := by have := Hql.out; omega
      obtain ⟨L, ks, vs, ak, ck, av, cv, e1, e2, L0, L1, hK, hh⟩ := HM.out
      obtain ⟨al', cl', eal, _, hrl⟩ := hh.ints_read (v := .slice al ql cl) (xs := Q.map (·.1)) (by simp)
      injection eal with ea1 ea2 ea3
      clear ea2 ea3
      subst ea1
      obtain ⟨gl, rfl, hcl, _⟩ := hrl k (by simpa using hkQ)
      rw [List.getElem_map] at hcl
      have hmem := List.getElem_mem hkQ
      have hbd := HQb.out _ hmem
      have hok := HQo.out _ hmem
      have q0 := (ok_lens hok).1
      have q1 := (ok_lens hok).2.1
      clear hok
      have HG : Hid (∀ w l', Has w (stS p bank sp Q :: l') → Calls Tryz.prog 20 #[.pointer (some ⟨p, 0, none⟩), .int .i64 Q[k].1] w (SomePost p bank sp Q Q[k].2.n l' w)) := fun w l' h => st_Get_some h Q[k].1 (by omega) (by omega) (get_at Hup.out k hkQ)
      have hr2 := hh.at (b := r2) (o := .cells #[b, s, .pointer (some ⟨p, 0, none⟩), x] 30 (0, 0)) (by simp [world4])
      have x2 : wr.cell? ⟨r2, 2, none⟩ = some (.pointer (some ⟨p, 0, none⟩)) := cell_of hr2 2 rfl
      have x1 : wr.cell? ⟨r6, 1, none⟩ = some (.slice ak c ck) := cell_of hh.got 1 rfl
      have l2 : r2 < wr.heap.size := World.block_lt_of_cell? _ _ x2
      have l6 : r6 < wr.heap.size := World.block_lt_of_cell? _ _ x1
      have HK := Lib.hid hK
      have hcb : (c : Int) < 3 := by omega
      have hkb : (k : Int) < (ql : Int) := g1
      have hqm : (Q.map (·.1))[k]? = some Q[k].1 := by rw [List.getElem?_map, List.getElem?_eq_getElem hkQ]; rfl
      generalize Q[k] = qk at *
      have Hqk := Lib.hid hqm
      have He1 := Lib.hid e1
      have He2 := Lib.hid e2
      have HH := Lib.hid hh
      clear hkQ hqm hmem hr2 hK HM hrl hh e1 e2
      go_wp2
      have hh := HH.out
      clear HH
      obtain ⟨FA, HFA⟩ : ∃ FA : List (Nat × Addr × Value), Hid (FA = [(1, ⟨r2, 2, none⟩, .pointer (some ⟨p, 0, none⟩)), (5, ⟨gl, k, none⟩, .int .i64 qk.1)]) := ⟨_, rfl⟩
      have fa1 : ∀ n : In (factsOf FA 1), n.w.cell? ⟨r2, 2, none⟩ = some (.pointer (some ⟨p, 0, none⟩)) := fun n => factsOf.cell (by rw [HFA.out]; simp) n
      have fa5 : ∀ n : In (factsOf FA 5), n.w.cell? ⟨gl, k, none⟩ = some (.int .i64 qk.1) := fun n => factsOf.cell (by rw [HFA.out]; simp) n
      have hFA : ∀ p ∈ FA, wr.cell? p.2.1 = some p.2.2 := by rw [HFA.out]; exact (fcons x2 (fcons hcl fnil))
      haveI neFA : ∀ k, Nonempty (In (factsOf FA k)) := fun k => ⟨⟨_, factsOf.drew hFA k⟩⟩
      refine ws_begin [0, 1, 2, 3, 4, 5, 6, 7, 8, 9, 10, 11, 12] (factsOf FA) (pts r6 (.cells #[.int .i64 L, .slice ak c ck, .slice av c cv] 24 (0, 0)) :: intsS (.slice ak c ck) ks :: intsS (.slice av c cv) vs :: intsS (.slice (some ⟨gl, 0, none⟩) ql cl) (Q.map (·.1)) :: stS p bank sp Q :: pts r4 (.cells #[.int .i64 0, .slice none 0 0, .slice none 0 0] 24 (0, 0)) :: world4 r2 b s (.pointer (some ⟨p, 0, none⟩)) x :: l) #[0, 1, 0, 0, 12, 28, 63, 127, 255, 255, 0, 1535, 4095] (by kernel_rfl) (by kernel_rfl) (by kernel_rfl) factsOf.alloc (factsOf.drew hFA) hh ?_
      clear hFA
      refine ws_q (at_lit rfl) rfl rfl rfl ?_
      go_big_quiet_op
      show WS _ _ _ _ _ _ _ _ _ _
      refine ws_q (at_lit rfl) rfl rfl rfl ?_
      go_big_quiet_op
      show WS _ _ _ _ _ _ _ _ _ _
      refine ws_q (at_lit rfl) rfl rfl rfl ?_
      go_big_quiet_op
      show WS _ _ _ _ _ _ _ _ _ _
      refine ws_q (at_lit rfl) rfl rfl rfl ?_
      go_big_quiet_op
      show WS _ _ _ _ _ _ _ _ _ _
      refine ws_q (at_lit rfl) rfl rfl rfl ?_
      go_big_quiet_op
      show WS _ _ _ _ _ _ _ _ _ _
      refine ws_q (at_lit rfl) rfl rfl rfl ?_
      go_big_quiet_op
      show WS _ _ _ _ _ _ _ _ _ _
      refine ws_call (at_lit rfl) rfl rfl 20 #[.pointer (some ⟨p, 0, none⟩), .int .i64 qk.1] (fun w => by go_simp) (fun v L' => ∃ a5 c5 a6 c6, v = .tuple #[.agg #[.int .i64 qk.2.n.level, .slice a5 qk.2.n.keys.length c5, .slice a6 qk.2.n.vals.length c6], .nilIface] ∧ L' = intsS (.slice a5 qk.2.n.keys.length c5) qk.2.n.keys :: intsS (.slice a6 qk.2.n.vals.length c6) qk.2.n.vals :: stS p bank sp Q :: pts r6 (.cells #[.int .i64 L, .slice ak c ck, .slice av c cv] 24 (0, 0)) :: intsS (.slice ak c ck) ks :: intsS (.slice av c cv) vs :: intsS (.slice (some ⟨gl, 0, none⟩) ql cl) (Q.map (·.1)) :: pts r4 (.cells #[.int .i64 0, .slice none 0 0, .slice none 0 0] 24 (0, 0)) :: world4 r2 b s (.pointer (some ⟨p, 0, none⟩)) x :: l) (fun w F hS hh => ?_) ?_
      · refine (HG.out w _ (hh.pull 4)).mono ?_
        rintro r w' ⟨a5, c5, a6, c6, rfl, hK, hh'⟩
        exact ⟨_, _, rfl, hK, ⟨a5, c5, a6, c6, rfl, rfl⟩, hh'⟩
      rintro _ _ ⟨a5, c5, a6, c6, rfl, rfl⟩
      refine ⟨fun w F hh => lives (l' := []) (by rw [HFA.out]; simp [liveFacts, Nat.testBit]) (fnil), ?_⟩
      simp only [Act.put, List.setIfInBounds_toArray, List.set_cons_zero, List.set_cons_succ]
      show WS _ _ _ _ _ _ _ _ _ _
      refine ws_q (at_lit rfl) rfl rfl rfl ?_
      go_big_quiet_op
      show WS _ _ _ _ _ _ _ _ _ _
      refine ws_q (at_lit rfl) rfl rfl rfl ?_
      go_big_quiet_op
      show WS _ _ _ _ _ _ _ _ _ _
      refine ws_q (at_lit rfl) rfl rfl rfl ?_
      go_big_quiet_op
      show WS _ _ _ _ _ _ _ _ _ _
      refine ws_ptr (at_lit rfl) rfl rfl (.cells #[.int .i64 0, .slice none 0 0, .slice none 0 0] 35 (0, 0)) (fun w => by go_simp) ?_
      intro r8
      simp only [Act.put, List.setIfInBounds_toArray, List.set_cons_zero, List.set_cons_succ]
      show WS _ _ _ _ _ _ _ _ _ _
      refine ws_store (at_lit rfl) rfl rfl 35 (.tmp 8) (.tmp 38) rfl rfl (v := .agg #[.int .i64 qk.2.n.level, .slice a5 qk.2.n.keys.length c5, .slice a6 qk.2.n.vals.length c6]) rfl (by simp [Value.cells]) (by simp [Value.cells, Value.oneCell']) (by kernel_rfl) (by simp only [Value.cells, putCells, List.setIfInBounds_toArray, List.set_cons_zero, List.set_cons_succ]; rfl) (fun w F hh => lives (l' := []) (by rw [HFA.out]; simp [liveFacts, Nat.testBit]) (fnil)) ?_
      simp only [Act.put, List.setIfInBounds_toArray, List.set_cons_zero, List.set_cons_succ]
      show WS _ _ _ _ _ _ _ _ _ _
      refine ws_q (at_lit rfl) rfl rfl rfl ?_
      go_big_quiet_op
      show WS _ _ _ _ _ _ _ _ _ _
      refine ws_end ?_
      intro w7 hK7 h7
      have hr6 := h7.at (b := r6) (o := (.cells #[.int .i64 L, .slice ak c ck, .slice av c cv] 24 (0, 0))) (by simp)
      have hr8 := h7.at (b := r8) (o := (.cells #[.int .i64 qk.2.n.level, .slice a5 qk.2.n.keys.length c5, .slice a6 qk.2.n.vals.length c6] 35 (0, 0))) (by simp)
      have s11 : w7.cell? ⟨r6, 1, none⟩ = some (.slice ak c ck) := cell_of hr6 1 rfl
      have s12 : w7.cell? ⟨r6, 2, none⟩ = some (.slice av c cv) := cell_of hr6 2 rfl
      have s2 : w7.cell? ⟨r8, 0, none⟩ = some (.int .i64 qk.2.n.level) := cell_of hr8 0 rfl
      have s1 : w7.cell? ⟨gl, k, none⟩ = some (.int .i64 qk.1) := h7.ints_at (n := ql) (c := cl) (xs := Q.map (·.1)) (by simp) Hqk.out
      have HK7 := Lib.hid (HK.out.trans hK7)
      have hwl : IntKind.i64.wrap (qk.2.n.level + 1) = qk.2.n.level + 1 := by rw [IntKind.wrap_i64]; omega
      have He1l : ks.length ≤ 1000000000000 := by have := He1.out; omega
      have He2l : vs.length ≤ 1000000000000 := by have := He2.out; omega
      clear hK7 hr6 hr8 HFA neFA FA x1 x2 l2 l6 hcl HK fa1 fa5
      go_wp2
      obtain ⟨FA, HFA⟩ : ∃ FA : List (Nat × Addr × Value), Hid (FA = [(1, ⟨r6, 1, none⟩, .slice ak c ck), (6, ⟨r6, 2, none⟩, .slice av c cv), (10, ⟨gl, k, none⟩, .int .i64 qk.1), (14, ⟨r8, 0, none⟩, .int .i64 qk.2.n.level)]) := ⟨_, rfl⟩
      have fa1 : ∀ n : In (factsOf FA 1), n.w.cell? ⟨r6, 1, none⟩ = some (.slice ak c ck) := fun n => factsOf.cell (by rw [HFA.out]; simp) n
      have fa6 : ∀ n : In (factsOf FA 6), n.w.cell? ⟨r6, 2, none⟩ = some (.slice av c cv) := fun n => factsOf.cell (by rw [HFA.out]; simp) n
      have fa10 : ∀ n : In (factsOf FA 10), n.w.cell? ⟨gl, k, none⟩ = some (.int .i64 qk.1) := fun n => factsOf.cell (by rw [HFA.out]; simp) n
      have fa14 : ∀ n : In (factsOf FA 14), n.w.cell? ⟨r8, 0, none⟩ = some (.int .i64 qk.2.n.level) := fun n => factsOf.cell (by rw [HFA.out]; simp) n
      have hFA : ∀ p ∈ FA, w7.cell? p.2.1 = some p.2.2 := by rw [HFA.out]; exact (fcons s11 (fcons s12 (fcons s1 (fcons s2 fnil))))
      haveI neFA : ∀ k, Nonempty (In (factsOf FA k)) := fun k => ⟨⟨_, factsOf.drew hFA k⟩⟩
      refine ws_begin [0, 1, 2, 3, 4, 5, 6, 7, 8, 9, 10, 11, 12, 13, 14, 15, 16, 17, 18, 19, 20, 21] (factsOf FA) (pts r8 (.cells #[.int .i64 qk.2.n.level, .slice a5 qk.2.n.keys.length c5, .slice a6 qk.2.n.vals.length c6] 35 (0, 0)) :: intsS (.slice a5 qk.2.n.keys.length c5) qk.2.n.keys :: intsS (.slice a6 qk.2.n.vals.length c6) qk.2.n.vals :: stS p bank sp Q :: pts r6 (.cells #[.int .i64 L, .slice ak c ck, .slice av c cv] 24 (0, 0)) :: intsS (.slice ak c ck) ks :: intsS (.slice av c cv) vs :: intsS (.slice (some ⟨gl, 0, none⟩) ql cl) (Q.map (·.1)) :: pts r4 (.cells #[.int .i64 0, .slice none 0 0, .slice none 0 0] 24 (0, 0)) :: world4 r2 b s (.pointer (some ⟨p, 0, none⟩)) x :: l) #[0, 1, 0, 4, 15, 0, 32, 0, 0, 384, 896, 1920, 4095, 0, 8192, 24576, 127, 73727, 204799, 466943, 1048575, 2097151] (by kernel_rfl) (by kernel_rfl) (by kernel_rfl) factsOf.alloc (factsOf.drew hFA) h7 ?_
      clear hFA
      refine ws_q (at_lit rfl) rfl rfl rfl ?_
      go_big_quiet_op
      show WS _ _ _ _ _ _ _ _ _ _
      refine ws_q (at_lit rfl) rfl rfl rfl ?_
      go_big_quiet_op
      show WS _ _ _ _ _ _ _ _ _ _
      refine ws_q (at_lit rfl) rfl rfl rfl ?_
      go_big_quiet_op
      show WS _ _ _ _ _ _ _ _ _ _
      refine ws_slice (at_lit rfl) rfl rfl 1 (.cells #[.int .i64 (k : Int)] 3 (0, 0)) (fun w => by go_simp) ?_
      intro g1'
      simp only [Act.put, List.setIfInBounds_toArray, List.set_cons_zero, List.set_cons_succ]
      show WS _ _ _ _ _ _ _ _ _ _
      refine ws_reord [6] ?_
      simp only [reord, pull]
      refine ws_append_int (at_lit rfl) rfl rfl (.tmp 41) (.tmp 43) rfl (y := (k : Int)) rfl rfl (.head _) He1.out (by omega) (fun p' c' w F hh => lives (l' := [(6, ⟨r6, 2, none⟩, .slice av c cv), (10, ⟨gl, k, none⟩, .int .i64 qk.1), (14, ⟨r8, 0, none⟩, .int .i64 qk.2.n.level)]) (by rw [HFA.out]; simp [liveFacts, Nat.testBit]) (fcons (cell_of (hh.at (b := r6) (o := (.cells #[.int .i64 L, .slice ak c ck, .slice av c cv] 24 (0, 0))) (by simp)) 2 (v := .slice av c cv) rfl) <| fcons (hh.ints_at (n := ql) (c := cl) (xs := Q.map (·.1)) (by simp) Hqk.out) <| fcons (cell_of (hh.at (b := r8) (o := (.cells #[.int .i64 qk.2.n.level, .slice a5 qk.2.n.keys.length c5, .slice a6 qk.2.n.vals.length c6] 35 (0, 0))) (by simp)) 0 (v := .int .i64 qk.2.n.level) rfl) <| fnil)) ?_
      intro ak1 ck1
      simp only [Act.put, List.setIfInBounds_toArray, List.set_cons_zero, List.set_cons_succ]
      show WS _ _ _ _ _ _ _ _ _ _
      refine ws_q (at_lit rfl) rfl rfl rfl ?_
      go_big_quiet_op
      show WS _ _ _ _ _ _ _ _ _ _
      refine ws_q (at_lit rfl) rfl rfl rfl ?_
      go_big_quiet_op
      show WS _ _ _ _ _ _ _ _ _ _
      refine ws_q (at_lit rfl) rfl rfl rfl ?_
      go_big_quiet_op
      show WS _ _ _ _ _ _ _ _ _ _
      refine ws_q (at_lit rfl) rfl rfl rfl ?_
      go_big_quiet_op
      show WS _ _ _ _ _ _ _ _ _ _
      refine ws_q (at_lit rfl) rfl rfl rfl ?_
      go_big_quiet_op
      show WS _ _ _ _ _ _ _ _ _ _
      refine ws_q (at_lit rfl) rfl rfl rfl ?_
      go_big_quiet_op
      show WS _ _ _ _ _ _ _ _ _ _
      refine ws_slice (at_lit rfl) rfl rfl 1 (.cells #[.int .i64 qk.1] 3 (0, 0)) (fun w => by go_simp) ?_
      intro g2'
      simp only [Act.put, List.setIfInBounds_toArray, List.set_cons_zero, List.set_cons_succ]
      show WS _ _ _ _ _ _ _ _ _ _
      refine ws_reord [8] ?_
      simp only [reord, pull]
      refine ws_append_int (at_lit rfl) rfl rfl (.tmp 46) (.tmp 51) rfl (y := qk.1) rfl rfl (.head _) He2.out (by omega) (fun p' c' w F hh => lives (l' := [(14, ⟨r8, 0, none⟩, .int .i64 qk.2.n.level)]) (by rw [HFA.out]; simp [liveFacts, Nat.testBit]) (fcons (cell_of (hh.at (b := r8) (o := (.cells #[.int .i64 qk.2.n.level, .slice a5 qk.2.n.keys.length c5, .slice a6 qk.2.n.vals.length c6] 35 (0, 0))) (by simp)) 0 (v := .int .i64 qk.2.n.level) rfl) <| fnil)) ?_
      intro av1 cv1
      simp only [Act.put, List.setIfInBounds_toArray, List.set_cons_zero, List.set_cons_succ]
      show WS _ _ _ _ _ _ _ _ _ _
      refine ws_q (at_lit rfl) rfl rfl rfl ?_
      go_big_quiet_op
      show WS _ _ _ _ _ _ _ _ _ _
      refine ws_q (at_lit rfl) rfl rfl rfl ?_
      go_big_quiet_op
      show WS _ _ _ _ _ _ _ _ _ _
      refine ws_q (at_lit rfl) rfl rfl rfl ?_
      go_big_quiet_op
      show WS _ _ _ _ _ _ _ _ _ _
      refine ws_q (at_lit rfl) rfl rfl rfl ?_
      go_big_quiet_op
      show WS _ _ _ _ _ _ _ _ _ _
      refine ws_reord [8] ?_
      simp only [reord, pull]
      refine ws_store (at_lit rfl) rfl rfl 22 (.tmp 56) (.tmp 44) rfl rfl (v := .slice ak1 (c + 1) ck1) rfl (by simp [Value.cells]) (by simp [Value.cells, Value.oneCell']) (by kernel_rfl) (by simp only [Value.cells, putCells, List.setIfInBounds_toArray, List.set_cons_zero, List.set_cons_succ]; rfl) (fun w F hh => lives (l' := [(14, ⟨r8, 0, none⟩, .int .i64 qk.2.n.level)]) (by rw [HFA.out]; simp [liveFacts, Nat.testBit]) (fcons (cell_of (hh.at (b := r8) (o := (.cells #[.int .i64 qk.2.n.level, .slice a5 qk.2.n.keys.length c5, .slice a6 qk.2.n.vals.length c6] 35 (0, 0))) (by simp)) 0 (v := .int .i64 qk.2.n.level) rfl) <| fnil)) ?_
      simp only [Act.put, List.setIfInBounds_toArray, List.set_cons_zero, List.set_cons_succ]
      show WS _ _ _ _ _ _ _ _ _ _
      refine ws_q (at_lit rfl) rfl rfl rfl ?_
      go_big_quiet_op
      show WS _ _ _ _ _ _ _ _ _ _
      refine ws_store (at_lit rfl) rfl rfl 22 (.tmp 57) (.tmp 52) rfl rfl (v := .slice av1 (c + 1) cv1) rfl (by simp [Value.cells]) (by simp [Value.cells, Value.oneCell']) (by kernel_rfl) (by simp only [Value.cells, putCells, List.setIfInBounds_toArray, List.set_cons_zero, List.set_cons_succ]; rfl) (fun w F hh => lives (l' := [(14, ⟨r8, 0, none⟩, .int .i64 qk.2.n.level)]) (by rw [HFA.out]; simp [liveFacts, Nat.testBit]) (fcons (cell_of (hh.at (b := r8) (o := (.cells #[.int .i64 qk.2.n.level, .slice a5 qk.2.n.keys.length c5, .slice a6 qk.2.n.vals.length c6] 35 (0, 0))) (by simp)) 0 (v := .int .i64 qk.2.n.level) rfl) <| fnil)) ?_
      simp only [Act.put, List.setIfInBounds_toArray, List.set_cons_zero, List.set_cons_succ]
      show WS _ _ _ _ _ _ _ _ _ _
      refine ws_q (at_lit rfl) rfl rfl rfl ?_
      go_big_quiet_op
      show WS _ _ _ _ _ _ _ _ _ _
      refine ws_store (at_lit rfl) rfl rfl 3 (.tmp 58) (.tmp 55) rfl rfl (v := .int .i64 (qk.2.n.level + 1)) rfl (by simp [Value.cells]) (by simp [Value.cells, Value.oneCell']) (by kernel_rfl) (by simp only [Value.cells, putCells, List.setIfInBounds_toArray, List.set_cons_zero, List.set_cons_succ]; rfl) (fun w F hh => lives (l' := []) (by rw [HFA.out]; simp [liveFacts, Nat.testBit]) (fnil)) ?_
      simp only [Act.put, List.setIfInBounds_toArray, List.set_cons_zero, List.set_cons_succ]
      show WS _ _ _ _ _ _ _ _ _ _
      refine ws_end ?_
      intro w9 hK9 h9
      have HM2 : Hid (AbMid w r6 (intsS (.slice (some ⟨gl, 0, none⟩) ql cl) (Q.map (·.1)) :: stS p bank sp Q :: pts r4 (.cells #[.int .i64 0, .slice none 0 0, .slice none 0 0] 24 (0, 0)) :: world4 r2 b s (.pointer (some ⟨p, 0, none⟩)) x :: l) (c + 1) ((k : Int) + 1) w9) :=
        ⟨qk.2.n.level + 1, ks ++ [(k : Int)], vs ++ [qk.1], ak1, ck1, av1, cv1, by rw [List.length_append, He1.out]; rfl, by rw [List.length_append, He2.out]; rfl, by omega, by omega, HK7.out.trans hK9, (h9.reord [2, 3, 3, 3, 3, 0, 1, 0, 1]).tail.tail.tail.tail.tail⟩
      clear h9 hK9 h7 HFA neFA FA s11 s12 s1 s2 fa1 fa6 fa10 fa14 He1 He2 He1l He2l HK7 Hqk HG
      go_wp2
      go_roundg (3 - (c + 1))
      case measure => omega
      case rel => exact ⟨c + 1, (k : Int) + 1, by omega, rfl, by go_num, ⟨by omega, by omega⟩, HM2⟩
    · obtain ⟨L, ks, vs, ak, ck, av, cv, e1, e2, L0, L1, hK, hh⟩ := HM.out
      have hr6 := hh.got
      have x0 : wr.cell? ⟨r6, 0, none⟩ = some (.int .i64 L) := cell_of hr6 0 rfl
      have x1 : wr.cell? ⟨r6, 1, none⟩ = some (.slice ak c ck) := cell_of hr6 1 rfl
      have x2 : wr.cell? ⟨r6, 2, none⟩ = some (.slice av c cv) := cell_of hr6 2 rfl
      have hr4 := hh.at (b := r4) (o := .cells #[.int .i64 0, .slice none 0 0, .slice none 0 0] 24 (0, 0)) (by simp)
      have y0 : wr.cell? ⟨r4, 0, none⟩ = some (.int .i64 0) := cell_of hr4 0 rfl
      have y1 : wr.cell? ⟨r4, 1, none⟩ = some (.slice none 0 0) := cell_of hr4 1 rfl
      have y2 : wr.cell? ⟨r4, 2, none⟩ = some (.slice none 0 0) := cell_of hr4 2 rfl
      have f0 := thaw_of hr4 0
      have f1 := thaw_of hr4 1
      have f2 := thaw_of hr4 2
      have l6 : r6 < wr.heap.size := World.block_lt_of_cell? _ _ x1
      have l4 : r4 < wr.heap.size := World.block_lt_of_cell? _ _ y1
      have n46 : r6 ≠ r4 := hh.pts_ne (y := .cells #[.int .i64 0, .slice none 0 0, .slice none 0 0] 24 (0, 0)) (by simp)
      have h2 := (((hh.pull 5).setCell 0 (.int .i64 L)).setCell 1 (.slice ak c ck)).setCell 2 (.slice av c cv)
      have HF : Hid (AbovePost p bank sp Q l w (.returned (.agg #[.int .i64 L, .slice ak c ck, .slice av c cv])) (((wr.setCell ⟨r4, 0, none⟩ (.int .i64 L)).setCell ⟨r4, 1, none⟩ (.slice ak c ck)).setCell ⟨r4, 2, none⟩ (.slice av c cv))) := by
        subst e1
        refine ⟨⟨L, ks, vs⟩, ak, ck, av, cv, hc, e2, by rw [e2], ((hK.setCell _ _).setCell _ _).setCell _ _, ?_⟩
        rw [e2]
        exact (h2.reord [0, 0, 2, 3]).tail.tail.tail.tail
      have hg4 := h2.got
      have HZ := Lib.hid (cell_of hg4 0 (v := .int .i64 L) rfl)
      have HZ1 := Lib.hid (cell_of hg4 1 (v := .slice ak c ck) rfl)
      have HZ2 := Lib.hid (cell_of hg4 2 (v := .slice av c cv) rfl)
      clear hh h2 hK hr6 hr4 HM e1 e2 Hql HQb HQo Hup hg4
      go_wp2
      all_goals exact bodyPost_ret (v := .agg #[.int .i64 L, .slice ak c ck, .slice av c cv]) (by have z0 := HZ.out; have z1 := HZ1.out; have z2 := HZ2.out; simp [results, Tryz.results26, go_sem, z0, z1, z2]) rfl HF.out
end Go.Proofs.YtgbgneiciabidaaGreatDoor
