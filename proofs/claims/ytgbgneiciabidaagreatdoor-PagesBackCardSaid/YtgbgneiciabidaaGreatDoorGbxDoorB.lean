/-
  The door of a law: a slice of operations that came in (law 11).
-/
import Derived.Test.YtgbgneiciabidaaGreatDoorGbxDoor
import Derived.Test.YtgbgneiciabidaaGreatDoorGb23
import Derived.Deep.Slices
import Derived.SizedLaws
namespace Go.Proofs.YtgbgneiciabidaaGreatDoor
open Go Go.ChangeShapes Go.WideShapes Go.ChangeAt Go.RowKit
set_option linter.all false

theorem bytes_int : Tryz.prog.bytesOf 3 = 8 := by kernel_rfl
theorem weights_all_mem {H : Type} {P : Program} {e : TypeId} : ∀ {l : List (DataW H)} {d : DataW H}, d ∈ l → ∀ n ∈ d.weights P e, n ∈ DataW.weightsAll P e l
  | x :: l, d, hd, n, hn => by
    unfold DataW.weightsAll
    rcases List.mem_cons.1 hd with rfl | hd
    · exact List.mem_append_left _ hn
    · exact List.mem_append_right _ (weights_all_mem hd n hn)
/-- A slice of numbers that came in, and how long it may be. -/
theorem ints_of_trod {H : Type} {enc : TypeId × Value → H} {W : World} {base fuel : Nat} {spare : Nat → Bool} {held : Bool} {v : Value} {x : DataW H × List MemPlace} (h : DataW.trod enc Tryz.prog W base spare held fuel 22 [v] = some x) :
    ∃ (xs : List Int) (a : Option Addr) (c : Nat), v = .slice a xs.length c ∧ Src W v xs ∧ ((∀ n ∈ x.1.weights Tryz.prog 22, n ≤ reachBytes) → xs.length * 8 ≤ 140737488355328) := by
  rcases open_ints Tryz.underlying22 Tryz.underlying3 cells_int h with ⟨hv, _⟩ | ⟨a, len, cap, zs, hv, _, hlc, _, hlen, hx, hc, _⟩
  · obtain rfl : v = .slice none 0 0 := by simpa using hv
    exact ⟨[], none, 0, rfl, .inl ⟨rfl, rfl⟩, fun _ => by simp⟩
  · have hle : len ≤ zs.length := by rw [hlen]; split <;> omega
    obtain rfl : v = .slice (some a) len cap := by simpa using hv
    have hl : (zs.take len).length = len := by rw [List.length_take, Nat.min_eq_left hle]
    refine ⟨zs.take len, some a, cap, by rw [hl], .inr ⟨a, cap, by rw [hl], fun k hk => ?_⟩, fun hw => ?_⟩
    · rw [hl] at hk
      have := hc k (by omega)
      rw [this, List.getElem_take, List.getD_eq_getElem?_getD, List.getElem?_eq_getElem (by omega)]
      rfl
    · have h1 : zs.length * 8 ≤ reachBytes := by
        refine hw _ ?_
        rw [hx]
        unfold DataW.weights
        rw [Tryz.underlying22]
        simp only [lits, List.length_map, List.length_take, List.length_drop, bytes_int]
        refine List.mem_cons.2 (.inl ?_)
        rw [Nat.min_eq_left hle]
        omega
      have h2 : reachBytes ≤ 140737488355328 := by decide
      rw [hl]
      omega

set_option maxRecDepth 100000 in
theorem op_fields : ∃ f0 f1 f2 f3 : Field, Tryz.prog.underlying 51 = some (.struct #[f0, f1, f2, f3]) ∧
    (f0.type = 3 ∧ f0.offset = 0) ∧ (f1.type = 3 ∧ f1.offset = 1) ∧ (f2.type = 3 ∧ f2.offset = 2) ∧ f3.type = 24 ∧ f3.offset = 3 :=
  by
  refine ⟨_, _, _, _, Tryz.underlying51, ?_⟩
  exact ⟨⟨rfl, rfl⟩, ⟨rfl, rfl⟩, ⟨rfl, rfl⟩, rfl, rfl⟩
set_option maxRecDepth 100000 in
theorem node_fields : ∃ f0 f1 f2 : Field, Tryz.prog.underlying 24 = some (.struct #[f0, f1, f2]) ∧
    (f0.type = 3 ∧ f0.offset = 0) ∧ (f1.type = 22 ∧ f1.offset = 1) ∧ f2.type = 22 ∧ f2.offset = 2 :=
  by
  refine ⟨_, _, _, Tryz.underlying24, ?_⟩
  exact ⟨⟨rfl, rfl⟩, ⟨rfl, rfl⟩, rfl, rfl⟩
theorem cells_op : Tryz.prog.cellsOf 51 = 6 := by kernel_rfl
theorem cells_node : Tryz.prog.cellsOf 24 = 3 := by kernel_rfl
theorem cells_ints : Tryz.prog.cellsOf 22 = 1 := by kernel_rfl

set_option maxRecDepth 100000 in
/-- An operation, out of its cells. -/
theorem op_of_trod {H : Type} {enc : TypeId × Value → H} {W : World} {base fuel : Nat} {spare : Nat → Bool} {held : Bool} {cs : List Value} {x : DataW H × List MemPlace} (h : DataW.trod enc Tryz.prog W base spare held fuel 51 cs = some x) :
    ∃ o : OpV, cs = [.int .i64 o.kind, .int .i64 o.addr, .int .i64 o.n, .int .i64 o.level, .slice o.ka o.ks.length o.kc, .slice o.va o.vs.length o.vc] ∧ Src W (.slice o.ka o.ks.length o.kc) o.ks ∧ Src W (.slice o.va o.vs.length o.vc) o.vs ∧
      (-9223372036854775808 ≤ o.n ∧ o.n ≤ 9223372036854775807) ∧ ((∀ n ∈ x.1.weights Tryz.prog 51, n ≤ reachBytes) → o.ks.length * 8 ≤ 140737488355328 ∧ o.vs.length * 8 ≤ 140737488355328) := by
  obtain ⟨f0, f1, f2, f3, hu, ⟨t0, o0⟩, ⟨t1, o1⟩, ⟨t2, o2⟩, t3, o3⟩ := op_fields
  obtain ⟨xs, n, _, hx, hlen, hxl, hf⟩ := DataW.trod_struct hu h
  rw [cells_op] at hlen
  match cs, hlen with
  | [c0, c1, c2, c3, c4, c5], _ =>
    have g0 := hf 0 f0 rfl
    have g1 := hf 1 f1 rfl
    have g2 := hf 2 f2 rfl
    have g3 := hf 3 f3 rfl
    rw [t0, o0, cells_int] at g0
    rw [t1, o1, cells_int] at g1
    rw [t2, o2, cells_int] at g2
    rw [t3, o3, cells_node] at g3
    match xs, hxl with
    | [x0, x1, x2, x3], _ =>
      obtain ⟨n0, e0, _, _⟩ := DataW.trod_int Tryz.underlying3 (show DataW.trod enc Tryz.prog W base spare held n 3 [c0] = some x0 from g0)
      obtain ⟨n1, e1, _, _⟩ := DataW.trod_int Tryz.underlying3 (show DataW.trod enc Tryz.prog W base spare held n 3 [c1] = some x1 from g1)
      obtain ⟨n2, e2, _, w2⟩ := DataW.trod_int Tryz.underlying3 (show DataW.trod enc Tryz.prog W base spare held n 3 [c2] = some x2 from g2)
      obtain rfl : c0 = .int .i64 n0 := by simpa using e0
      obtain rfl : c1 = .int .i64 n1 := by simpa using e1
      obtain rfl : c2 = .int .i64 n2 := by simpa using e2
      obtain ⟨k0, k1, k2, hu3, ⟨s0, p0⟩, ⟨s1, p1⟩, s2, p2⟩ := node_fields
      obtain ⟨ys, m, _, hy, _, hyl, hg⟩ := DataW.trod_struct hu3 (show DataW.trod enc Tryz.prog W base spare held n 24 [c3, c4, c5] = some x3 from g3)
      have q0 := hg 0 k0 rfl
      have q1 := hg 1 k1 rfl
      have q2 := hg 2 k2 rfl
      rw [s0, p0, cells_int] at q0
      rw [s1, p1, cells_ints] at q1
      rw [s2, p2, cells_ints] at q2
      match ys, hyl with
      | [y0, y1, y2], _ =>
        obtain ⟨n3, e3, _, _⟩ := DataW.trod_int Tryz.underlying3 (show DataW.trod enc Tryz.prog W base spare held m 3 [c3] = some y0 from q0)
        obtain rfl : c3 = .int .i64 n3 := by simpa using e3
        obtain ⟨ks, ka, kc, rfl, hk, hkw⟩ := ints_of_trod (show DataW.trod enc Tryz.prog W base spare held m 22 [c4] = some y1 from q1)
        obtain ⟨vs, va, vc, rfl, hv, hvw⟩ := ints_of_trod (show DataW.trod enc Tryz.prog W base spare held m 22 [c5] = some y2 from q2)
        have hb : -9223372036854775808 ≤ n2 ∧ n2 ≤ 9223372036854775807 := by
          simp only [Lit.wf, Bool.and_eq_true, decide_eq_true_eq] at w2
          have e1 : IntKind.i64.min = -9223372036854775808 := by decide
          have e2 : IntKind.i64.max = 9223372036854775807 := by decide
          rw [e1, e2] at w2
          exact w2
        refine ⟨⟨n0, n1, n2, n3, ks, vs, ka, kc, va, vc⟩, rfl, hk, hv, hb, fun hw => ?_⟩
        have key : ∀ z ∈ [(22, y1), (22, y2)], ∀ n ∈ z.2.1.weights Tryz.prog z.1, n ≤ reachBytes := by
          intro z hz n hn
          refine hw n ?_
          rw [hx]
          unfold DataW.weights
          rw [hu]
          refine DataW.weights_mem_each (j := 3) (t := 24) (d := x3.1) (by simp [t3]) rfl n ?_
          rw [hy]
          unfold DataW.weights
          rw [hu3]
          rcases List.mem_cons.1 hz with rfl | hz
          · exact DataW.weights_mem_each (j := 1) (t := 22) (d := y1.1) (by simp [s1]) rfl n hn
          · obtain rfl : z = (22, y2) := by simpa using hz
            exact DataW.weights_mem_each (j := 2) (t := 22) (d := y2.1) (by simp [s2]) rfl n hn
        exact ⟨hkw (key (22, y1) (.head _)), hvw (key (22, y2) (.tail _ (.head _)))⟩

set_option maxRecDepth 100000 in
/-- Operations that came in. -/
theorem ops_of_trod {H : Type} {enc : TypeId × Value → H} {W : World} {base fuel : Nat} {spare : Nat → Bool} {held : Bool} {v : Value} {x : DataW H × List MemPlace} (h : DataW.trod enc Tryz.prog W base spare held fuel 49 [v] = some x)
    (hw : ∀ n ∈ x.1.weights Tryz.prog 49, n ≤ reachBytes) : ∃ os : List OpV, OpsSrcs [old W] v os := by
  rcases Go.Deep.open_slice Tryz.underlying49 h with ⟨hv, _⟩ | ⟨a, len, cap, m, n, D, Pl, hv, _, hlc, _, hm, hx, hi⟩
  · obtain rfl : v = .slice none 0 0 := by simpa using hv
    exact ⟨[], ⟨fun w _ => ⟨none, 0, rfl, fun k hk => absurd hk (Nat.not_lt_zero _)⟩, fun o ho => by cases ho⟩⟩
  · obtain rfl : v = .slice (some a) len cap := by simpa using hv
    have hlm : len ≤ m := by rw [hm]; split <;> omega
    have each : ∀ i, i < len → ∃ o : OpV, W.cells? base (a.add (i * 6)) 6 = some [.int .i64 o.kind, .int .i64 o.addr, .int .i64 o.n, .int .i64 o.level, .slice o.ka o.ks.length o.kc, .slice o.va o.vs.length o.vc] ∧ Src W (.slice o.ka o.ks.length o.kc) o.ks ∧ Src W (.slice o.va o.vs.length o.vc) o.vs ∧
        (-9223372036854775808 ≤ o.n ∧ o.n ≤ 9223372036854775807) ∧ o.ks.length * 8 ≤ 140737488355328 ∧ o.vs.length * 8 ≤ 140737488355328 := by
      intro i hil
      obtain ⟨cs', hc, ht⟩ := hi i (by omega)
      rw [cells_op] at hc
      obtain ⟨o, rfl, h1, h2, h3, h4⟩ := op_of_trod ht
      refine ⟨o, hc, h1, h2, h3, h4 fun n hn => hw n ?_⟩
      rw [hx]
      unfold DataW.weights
      rw [Tryz.underlying49]
      refine List.mem_cons_of_mem _ (List.mem_append_left _ (weights_all_mem (d := D i) (List.mem_map.2 ⟨i, List.mem_range.2 hil, rfl⟩) n hn))
    let os : List OpV := List.ofFn fun i : Fin len => (each i.1 i.2).choose
    have hol : os.length = len := by simp [os]
    have hos : ∀ k (hk : k < os.length), os[k] = (each k (by omega)).choose := fun k hk => by simp [os]
    refine ⟨os, ⟨fun w hh => ⟨some a, cap, by rw [hol], fun k hk => ?_⟩, fun o ho => ?_⟩⟩
    · have hs := (each k (by omega)).choose_spec
      rw [← hos k hk] at hs
      obtain ⟨_, hl, hat⟩ := World.cells?_some hs.1
      obtain ⟨b, off, sp⟩ := a
      have hsp : sp = none := by
        obtain ⟨_, _, hat0⟩ := World.cells?_some (each 0 (by omega)).choose_spec.1
        have := hat0 0 (by omega)
        rw [Go.Deep.add_add, show 0 * 6 + 0 = 0 from rfl] at this
        cases sp with
        | none => rfl
        | some z =>
          exfalso
          unfold World.cell? Addr.add at this
          simp at this
          split at this <;> simp at this
      subst hsp
      refine ⟨b, off, rfl, ?_⟩
      have cell : ∀ j v, j < 6 → [Value.int .i64 os[k].kind, .int .i64 os[k].addr, .int .i64 os[k].n, .int .i64 os[k].level, .slice os[k].ka os[k].ks.length os[k].kc, .slice os[k].va os[k].vs.length os[k].vc][j]? = some v → w.cell? ⟨b, off + k * 6 + j, none⟩ = some v := by
        intro j v hj hv
        have h1 := hat j hj
        rw [hv, Addr.add_lit, Addr.add_lit] at h1
        exact hh.old_cell (.head _) h1
      exact ⟨cell 0 _ (by omega) rfl, cell 1 _ (by omega) rfl, cell 2 _ (by omega) rfl, cell 3 _ (by omega) rfl, cell 4 _ (by omega) rfl, cell 5 _ (by omega) rfl⟩
    · obtain ⟨k, hk, rfl⟩ := List.mem_iff_getElem.1 ho
      have hs := (each k (by omega)).choose_spec
      rw [← hos k hk] at hs
      exact ⟨Srcs.of_old hs.2.1 (.head _), Srcs.of_old hs.2.2.1 (.head _), hs.2.2.2.2.1, hs.2.2.2.2.2, hs.2.2.2.1.1, hs.2.2.2.1.2⟩
end Go.Proofs.YtgbgneiciabidaaGreatDoor
