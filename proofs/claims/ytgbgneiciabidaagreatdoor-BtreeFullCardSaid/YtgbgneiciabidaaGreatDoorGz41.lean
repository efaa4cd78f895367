/-
  The statements of layer 12: a call on a tree (step), of no kind.
-/
import Derived.Test.YtgbgneiciabidaaGreatDoorGz37
import Derived.Test.YtgbgneiciabidaaGreatDoorGz38
import Derived.Test.YtgbgneiciabidaaGreatDoorGz39
import Derived.Test.YtgbgneiciabidaaGreatDoorGz40
import Derived.Test.YtgbgneiciabidaaGreatDoorGz3
namespace Go.Proofs.YtgbgneiciabidaaGreatDoor
open Go Go.RowKit
set_option linter.all false

set_option maxHeartbeats 8000000 in
set_option maxRecDepth 100000 in
theorem step_other {w : World} {l : List Say} {t sp p bank N : Nat} {es : List Ent} {Q : Pgs} {ts : List Tre} {vs : List Value} {rs : List (Value × List KV)} (kd tr key val : Int) (h : Has w (treesT t sp p (ts.map (·.a)) vs :: btS p bank sp N es Q :: (rs.map kvR ++ l))) (ht : Tab l) (hT : Grove Q ts) (h4 : Rows4 ts vs rs) (hN : N ≤ 150000) (hs : ∀ u ∈ ts, u.s ≤ 800000 ∧ u.L.length ≤ 90000) (hp : kd ≠ 1 ∧ kd ≠ 2 ∧ kd ≠ 3 ∧ kd ≠ 4) :
    Calls Tryz.prog 46 #[.pointer (some ⟨t, 0, none⟩), .agg #[.int .i64 kd, .int .i64 tr, .int .i64 key, .int .i64 val]] w (StepOk es t sp p bank N ts l kd tr key val w) := by
  obtain ⟨u, v, hu, hv, hr⟩ := h4.at (mod4_lt tr)
  have hua : (ts.map (·.a))[mod4 tr]? = some u.a := by rw [List.getElem?_map, hu]; rfl
  have hml : (ts.map (·.a)).length = 4 := by rw [List.length_map]; exact h4.four
  have hA := (h.alloc (.cells #[.int .i64 kd, .int .i64 tr, .int .i64 key, .int .i64 val] 83)).swap
  have HK : Hid (Kept w (w.alloc (.cells #[.int .i64 kd, .int .i64 tr, .int .i64 key, .int .i64 val] 83))) := (Kept.refl w).alloc _
  have HMod : Hid (∀ w' : World, Calls Tryz.prog 52 #[.int .i64 tr] w' fun r w'' => r = .returned (.int .i64 (mod4 tr : Int)) ∧ w' = w'') := fun w' => law_mod tr w'
  generalize hi : mod4 tr = i at *
  have hi4 : i < 4 := by rw [← hi]; exact mod4_lt tr
  have Hi := Lib.hid hi
  have HX := Lib.hid (And.intro ht (And.intro hT (And.intro h4 (And.intro hN (And.intro hs (And.intro hu (And.intro hv (And.intro hr (And.intro hua hml)))))))))
  have HH := Lib.hid hA
  have iI : (i : Int) < 4 := by omega
  have i0 : (0 : Int) ≤ i := by omega
  clear h ht hT h4 hN hs hu hv hr hua hml hA hi
  go_enter Tryz.func46, Tryz.ntmps46
  go_upto_region 1 with fail
  generalize w.alloc (.cells #[.int .i64 kd, .int .i64 tr, .int .i64 key, .int .i64 val] 83) = W at *
  generalize w.heap.size = b3 at *
  have hh := HH.out
  have hb := hh.tail.got
  have o0 : W.cell? ⟨b3, 0, none⟩ = some (.int .i64 kd) := cell_of hb 0 rfl
  have o1 : W.cell? ⟨b3, 1, none⟩ = some (.int .i64 tr) := cell_of hb 1 rfl
  have o2 : W.cell? ⟨b3, 2, none⟩ = some (.int .i64 key) := cell_of hb 2 rfl
  have o3 : W.cell? ⟨b3, 3, none⟩ = some (.int .i64 val) := cell_of hb 3 rfl
  have lb := World.block_lt_of_cell? _ _ o0
  have t1 : W.cell? ⟨t, 1, none⟩ = some (.pointer (some ⟨p, 0, none⟩)) := cell_of hh.got 1 rfl
  have tr1 : W.cell? ⟨t, 2 + i, none⟩ = some (.int .i64 u.a) := cell_of hh.got _ (treesC_root HX.out.2.2.2.2.2.2.2.2.1)
  have lt := World.block_lt_of_cell? _ _ t1
  obtain ⟨a, ha⟩ : ∃ a, u.a = a := ⟨_, rfl⟩
  have Ha := Lib.hid ha
  rw [ha] at tr1
  clear hh hb ha

  have hb1 : (kd == 1) = false := by simpa using hp.1
  have hb2 : (kd == 2) = false := by simpa using hp.2.1
  have hb3 : (kd == 3) = false := by simpa using hp.2.2.1
  have hb4 : (kd == 4) = false := by simpa using hp.2.2.2
  have HF : Hid (StepOk es t sp p bank N ts l kd tr key val w (.returned (.tuple #[.bool true, .bool false])) W) := by
    obtain ⟨htab, hT, h4, hN, hs, hu, hv, hr, hua, hml⟩ := HX.out
    refine ⟨rfl, HK.out, Q, ts, vs, rs, ⟨u, by rw [Hi.out]; exact hu, .inr (.inr (.inr (.inr ⟨.inr (.inr hp), rfl⟩)))⟩, hT, h4, ?_⟩
    exact (Has.bt_more (Nat.le_add_right N 100) ((HH.out.reord [2, 0]) |> fun h => Has.skip (A := [_, _]) (M := [_]) h)).swap
  clear HX HH HK Hi Ha hp
  go_wp2_with (refine (HMod.out _).mono ?_; rintro r w1 ⟨rfl, rfl⟩)
  go_ret2
  exact HF.out
end Go.Proofs.YtgbgneiciabidaaGreatDoor
/-
  The statements of layer 12: a call on a tree (step).
-/
namespace Go.Proofs.YtgbgneiciabidaaGreatDoor
open Go Go.RowKit
set_option linter.all false

theorem law_step {w : World} {l : List Say} {t sp p bank N : Nat} {es : List Ent} {Q : Pgs} {ts : List Tre} {vs : List Value} {rs : List (Value × List KV)} (kd tr key val : Int) (h : Has w (treesT t sp p (ts.map (·.a)) vs :: btS p bank sp N es Q :: (rs.map kvR ++ l))) (ht : Tab l) (hT : Grove Q ts) (h4 : Rows4 ts vs rs) (hN : N ≤ 150000) (hs : ∀ u ∈ ts, u.s ≤ 800000 ∧ u.L.length ≤ 90000) :
    Calls Tryz.prog 46 #[.pointer (some ⟨t, 0, none⟩), .agg #[.int .i64 kd, .int .i64 tr, .int .i64 key, .int .i64 val]] w (fun r w' => StepOk es t sp p bank N ts l kd tr key val w r w' ∨ StepFull es Q t sp p bank N ts vs rs l w r w') := by
  by_cases h1 : kd = 1
  · subst h1
    cases hp : pairOk key val with
    | false => exact (step_bad tr key val h ht hT h4 hN hs hp).mono fun _ _ => .inl
    | true => exact step_set tr key val h ht hT h4 hN hs hp
  by_cases h2 : kd = 2
  · subst h2
    obtain ⟨u, v, hu, _, _⟩ := h4.at (mod4_lt tr)
    cases hp : getK u.L key with
    | none => exact (step_none tr key val h ht hT h4 hN hs fun u' hu' => by rw [hu] at hu'; obtain rfl := Option.some.inj hu'; exact hp).mono fun _ _ => .inl
    | some x => exact step_del tr key val h ht hT h4 hN hs fun u' hu' => by rw [hu] at hu'; obtain rfl := Option.some.inj hu'; exact ⟨x, hp⟩
  by_cases h3 : kd = 3
  · subst h3
    exact (step_three tr key val h ht hT h4 hN hs).mono fun _ _ => .inl
  by_cases h4' : kd = 4
  · subst h4'
    exact (step_four tr key val h ht hT h4 hN hs).mono fun _ _ => .inl
  exact (step_other kd tr key val h ht hT h4 hN hs ⟨h1, h2, h3, h4'⟩).mono fun _ _ => .inl
theorem StepTo.grow {kd tr key val : Int} {ts ts' : List Tre} {B : Nat} (h : StepTo kd tr key val ts ts') (hb : ∀ u ∈ ts, u.s ≤ 2 * B ∧ u.L.length ≤ B) : ∀ u ∈ ts', u.s ≤ 2 * (B + 1) ∧ u.L.length ≤ B + 1 := by
  obtain ⟨t, ht, h⟩ := h
  have htm := hb t (List.mem_of_getElem? ht)
  have hset : ∀ x : Tre, x.s ≤ 2 * (B + 1) ∧ x.L.length ≤ B + 1 → ∀ u ∈ ts.set (mod4 tr) x, u.s ≤ 2 * (B + 1) ∧ u.L.length ≤ B + 1 := fun x hx u hu => by
    rcases List.mem_or_eq_of_mem_set hu with hu | rfl
    · have := hb u hu; omega
    · exact hx
  have hput : (putL t.L key val).length ≤ t.L.length + 1 := by
    have h1 : ∀ L : List KV, (L.filter fun p => decide (p.1 < key)).length + (L.filter fun p => decide (key < p.1)).length ≤ L.length := by
      intro L
      induction L with
      | nil => exact Nat.le_refl _
      | cons p L ih =>
        rw [List.filter_cons, List.filter_cons, List.length_cons]
        split <;> split
        · rename_i a b
          simp only [decide_eq_true_eq] at a b
          omega
        all_goals (try simp only [List.length_cons]); omega
    unfold putL
    rw [List.length_append, List.length_cons]
    exact Nat.succ_le_succ (h1 t.L)
  rcases h with ⟨_, _, ta, s', hs, rfl⟩ | ⟨_, _, ta, s', hs, rfl⟩ | ⟨_, u, hu, rfl⟩ | ⟨_, rfl⟩ | ⟨_, rfl⟩
  · refine hset _ ⟨?_, ?_⟩
    · show s' ≤ _; omega
    · show (putL t.L key val).length ≤ _; omega
  · refine hset _ ⟨?_, ?_⟩
    · show s' ≤ _; omega
    · have : (delL t.L key).length ≤ t.L.length := by unfold delL; exact List.length_filter_le _ _
      show (delL t.L key).length ≤ _; omega
  · have := hb u (List.mem_of_getElem? hu)
    exact hset _ ⟨by omega, by omega⟩
  · exact hset _ ⟨Nat.zero_le _, Nat.zero_le _⟩
  · intro u hu
    have := hb u hu
    omega
theorem weighs_le {B : Nat} : ∀ {ts : List Tre}, (∀ u ∈ ts, u.s ≤ B) → weighs ts ≤ ts.length * B
  | [], _ => Nat.zero_le _
  | t :: ts, h => by
    have h1 := h t (.head _)
    have h2 := weighs_le (ts := ts) fun u hu => h u (.tail _ hu)
    show t.s + weighs ts ≤ (ts.length + 1) * B
    rw [Nat.add_mul]
    omega
theorem StepFull.never {es : List Ent} {Q : Pgs} {t sp p bank N : Nat} {ts : List Tre} {vs : List Value} {rs : List (Value × List KV)} {l : List Say} {w w' : World} {r : Ending} (h : StepFull es Q t sp p bank N ts vs rs l w r w') (hI : FInv es Q (fun _ => 0)) (hT : Grove Q ts) (h0 : es[0]? = some ⟨1, 400⟩) (h1 : es[1]? = some ⟨1, 400⟩) (hw : weighs ts ≤ 1400) : False := by
  obtain ⟨_, _, Q', _, _, ⟨Q1, news, hp, hn, hf⟩, _⟩ := h
  have a1 := full_two hf h0 h1
  have a2 := hp.len hI.up (hp.inv hI).up
  have a3 := hT.pages hI
  omega
end Go.Proofs.YtgbgneiciabidaaGreatDoor
/-
  The statements of layer 12: pairs that are told, and the document's.
-/
namespace Go.Proofs.YtgbgneiciabidaaGreatDoor
open Go Go.RowKit
set_option linter.all false

def PrM (w : World) (l : List Say) (ps qs : List KV) (k : Nat) (wr : World) : Prop := Kept w wr ∧ Has wr l ∧ ps.take k = qs.take k
set_option maxHeartbeats 4000000 in
set_option maxRecDepth 100000 in
theorem law_pairs {w : World} {l : List Say} {v1 v2 : Value} {ps qs : List KV} (h : Has w l) (h1 : pairsS v1 ps ∈ l) (h2 : kvS v2 qs ∈ l) (hp : ps.length ≤ 100000) :
    Calls Tryz.prog 50 #[v1, v2] w (EqPost ps qs l w) := by
  obtain ⟨a1, q1, rfl, _, _⟩ := h.pairs_read h1
  obtain ⟨a2, q2, rfl, _⟩ := h.kv_read h2
  by_cases hl : ps.length = qs.length
  · obtain ⟨n, hn⟩ : ∃ n, ps.length = n := ⟨_, rfl⟩
    rw [← hl] at h2 ⊢
    rw [hn] at h1 h2 hp hl ⊢
    have HM0 : Hid (PrM w l ps qs 0 w) := ⟨Kept.refl w, h, rfl⟩
    have HH := Lib.hid (And.intro h1 (And.intro h2 (And.intro hn hl.symm)))
    clear h h1 h2 hn hl
    go_enter Tryz.func50, Tryz.ntmps50
    go_wp2
    go_loopg [13] n (fun gk i wr => ∃ k : Nat, k ≤ n ∧ gk = n - k ∧ i = .int .i64 k ∧ Hid (PrM w l ps qs k wr))
    case atStart => exact ⟨0, Nat.zero_le _, rfl, rfl, HM0⟩
    case round =>
      clear HM0
      obtain ⟨k, hk, rfl, rfl, HM⟩ := hrel
      obtain ⟨hK, hh, ht⟩ := HM.out
      clear HM
      obtain ⟨m1, m2, hn1, hn2⟩ := HH.out
      by_cases hlt : k < n
      · obtain ⟨b1, c1, e1, _, r1⟩ := hh.pairs_read m1
        injection e1 with e1 e1b e1c
        subst e1
        obtain ⟨b2, c2, e2, r2⟩ := hh.kv_read m2
        injection e2 with e2 e2b e2c
        subst e2
        obtain ⟨x, hx⟩ : ∃ x, ps[k]? = some x := ⟨_, List.getElem?_eq_getElem (by omega)⟩
        obtain ⟨y, hy⟩ : ∃ y, qs[k]? = some y := ⟨_, List.getElem?_eq_getElem (by omega)⟩
        obtain ⟨g1, rfl, x0, x1⟩ := r1 k x hx
        obtain ⟨g2, rfl, y0, y1⟩ := r2 k y hy
        obtain ⟨xk, xv⟩ := x
        obtain ⟨yk, yv⟩ := y
        simp only at x0 x1 y0 y1
        have lx := World.block_lt_of_cell? _ _ x0
        have ly := World.block_lt_of_cell? _ _ y0
        have kI : (k : Int) < (n : Int) := by omega
        have k0 : (0 : Int) ≤ k := by omega
        have Hx := Lib.hid (And.intro hx (And.intro hy ht))
        have HK := Lib.hid (And.intro hK hh)
        clear hK hh ht m1 m2 hn1 hn2 r1 r2 hx hy e1b e1c e2b e2c
        go_upto_region 6 with fail
        by_cases he : xk = yk
        · have hb1 : (xk == yk) = true := by simp [he]
          by_cases hf : xv = yv
          · have hb2 : (xv == yv) = true := by simp [hf]
            have hc2 : (xv != yv) = false := by simp [hf]
            go_quiet (fail)
            have HM2 : Hid (PrM w l ps qs (k + 1) (wr.drewN nq)) := by
              refine ⟨HK.out.1.drewN nq, HK.out.2.drewN nq, ?_⟩
              rw [(take_succ Hx.out.1).1, (take_succ Hx.out.2.1).1, Hx.out.2.2, he, hf]
            generalize wr.drewN nq = wn at *
            clear HK Hx x0 x1 y0 y1 lx ly he hf hb1 hb2
            go_wp2
            go_roundg (n - (k + 1))
            case measure => omega
            case rel => exact ⟨k + 1, by omega, rfl, by go_num, HM2⟩
          · have hb2 : (xv == yv) = false := by simp [hf]
            have hc2 : (xv != yv) = true := by simp [hf]
            go_quiet (fail)
            have HF : Hid (EqPost ps qs l w (.returned (.bool false)) (wr.drewN nq)) := by
              refine ⟨?_, HK.out.1.drewN nq, HK.out.2.drewN nq⟩
              rw [decide_eq_false]
              intro hpq
              have q1 := Hx.out.1
              rw [hpq, Hx.out.2.1] at q1
              have q2 := Option.some.inj q1
              injection q2 with q2 q3
              exact hf q3.symm
            generalize wr.drewN nq = wn at *
            clear HK Hx x0 x1 y0 y1 lx ly he hf hb1 hb2
            go_wp2
            go_ret
            exact HF.out
        · have hb1 : (xk == yk) = false := by simp [he]
          have hc1 : (xk != yk) = true := by simp [he]
          go_quiet (fail)
          have HF : Hid (EqPost ps qs l w (.returned (.bool false)) (wr.drewN nq)) := by
            refine ⟨?_, HK.out.1.drewN nq, HK.out.2.drewN nq⟩
            rw [decide_eq_false]
            intro hpq
            have q1 := Hx.out.1
            rw [hpq, Hx.out.2.1] at q1
            have q2 := Option.some.inj q1
            injection q2 with q2 q3
            exact he q2.symm
          generalize wr.drewN nq = wn at *
          clear HK Hx x0 x1 y0 y1 lx ly he hb1
          go_wp2
          go_ret
          exact HF.out
      · have hke : k = n := by omega
        have HF : Hid (EqPost ps qs l w (.returned (.bool true)) wr) := by
          refine ⟨?_, hK, hh⟩
          rw [List.take_of_length_le (by omega), List.take_of_length_le (by omega)] at ht
          rw [decide_eq_true ht]
        clear hK hh ht m1 m2 hn1 hn2 HH
        subst hke
        go_wp2
        go_ret
        exact HF.out
  · have HF : Hid (EqPost ps qs l w (.returned (.bool false)) w) := by
      refine ⟨?_, Kept.refl w, h⟩
      rw [decide_eq_false]
      intro hpq
      exact hl (by rw [hpq])
    have hlb : ((ps.length : Int) == (qs.length : Int)) = false := by simp; omega
    clear h h1 h2 hl hp
    go_enter Tryz.func50, Tryz.ntmps50
    go_wp2
    go_ret
    exact HF.out
end Go.Proofs.YtgbgneiciabidaaGreatDoor
/-
  A map from numbers to numbers.
-/
namespace Go.Proofs.YtgbgneiciabidaaGreatDoor
open Go Go.RowKit Go.ChangeMaps Go.Maps
open Go.WideElems (Fit rd rg pl)
set_option linter.all false

def imapS (b : Nat) (M : List (Int × Int)) : Say := mapS b M.length (VMap.over intVal M)
theorem int_zero (w : World) : (zeroValue 3).run Tryz.prog w = .ok (.int .i64 0) w := by
  obtain ⟨i0, I1, I2, I3, I4⟩ := info_parts info_int
  simp [zeroValue, typeInfo, I1, I2, go_sem]
theorem imap_made {w : World} {l : List Say} (h : Has w l) : Has (w.alloc (.map #[] 0)) (imapS w.heap.size [] :: l) := map_made h
theorem imap_look {w : World} {l : List Say} {b : Nat} {M : List (Int × Int)} (h : Has w l) (hm : imapS b M ∈ l) (a : Int) (h0 : -9223372036854775808 ≤ a) (h1 : a ≤ 9223372036854775807) :
    (Instr.lookup 113 (.map (some b)) (.int .i64 a) false).run Tryz.prog w = .ok (.int .i64 ((VMap.get a M).getD 0)) w := by
  obtain ⟨es, clock, hb, F, hs, hD⟩ := h.map_own hm
  have hD' : (VMap.over intVal M).map litE = (es.toList.map (rg Tryz.prog 3 heldR)).foldr DataW.insert [] := by injection hD
  have hg0 := VMap.get_over intVal a M
  rcases Maps.fit_look false (int_keyed Tryz.underlying3) Tryz.underlying113 (int_zero w) hb F (map_key a h0 h1) with ⟨hrun, _, hat⟩ | ⟨e0, y, _, _, hrun, hRv, hat, _⟩
  · rw [hrun]
    have h2 := hat .nil
    rw [← hD', atKey_lit, hg0] at h2
    cases hg : VMap.get a M with
    | none => rfl
    | some v => rw [hg] at h2; cases h2
  · rw [hrun]
    have h2 := hat .nil
    rw [← hD', atKey_lit, hg0] at h2
    cases hRv
    cases hg : VMap.get a M with
    | none => rw [hg] at h2; cases h2
    | some v =>
      rw [hg] at h2
      have h3 : (DataW.held (intVal v) : DataW Value) = .held e0.2 := h2
      have h4 : intVal v = e0.2 := DataW.held.inj h3
      rw [← h4]
      rfl
theorem imap_store {w : World} {l : List Say} {b : Nat} {M : List (Int × Int)} (h : Has w (imapS b M :: l)) (hn : M.length < maxLen) (a : Int) (h0 : -9223372036854775808 ≤ a) (h1 : a ≤ 9223372036854775807) (v : Int) (hnew : VMap.get a M = none) :
    ∃ w', (Instr.mapUpdate 113 (.map (some b)) (.int .i64 a) (.int .i64 v)).run Tryz.prog w = .ok () w' ∧ Kept w w' ∧ Has w' (imapS b (VMap.put a v M) :: l) := by
  obtain ⟨es, clock, F, hs, hD, hh⟩ := Has.map_open h
  obtain ⟨es', clock', hrun, F', hput, _⟩ := Maps.fit_store (R' := heldR) (int_keyed Tryz.underlying3) Tryz.underlying113 hh.got F (Nat.lt_of_le_of_lt hs hn) (fun _ _ _ _ hz => hz) (map_key a h0 h1) (val := .int .i64 v) rfl
  refine ⟨_, hrun, ⟨rfl, rfl, rfl, by simp [setBlock]⟩, ?_⟩
  have h2 : Has (setBlock w b (.map es' clock')) (pts b (.map es' clock') :: l) := Sep.put hh (heap_setBlock_same hh.got _) fun k hk => heap_setBlock_other hh.got _ hk
  have hlen : (VMap.put a v M).length = M.length + 1 := by
    have e1 := (VMap.ins_perm (a, v) (VMap.del a M)).length_eq
    have e2 : VMap.del a M = M := by
      unfold VMap.del
      refine List.filter_eq_self.2 fun p hp => ?_
      unfold VMap.get at hnew
      have := List.find?_eq_none.1 (Option.map_eq_none_iff.1 hnew) p hp
      simpa using this
    rw [e2] at e1
    unfold VMap.put
    rw [e2]
    exact e1
  refine h2.head fun g hg => ⟨es', clock', hg, F', ?_, ?_⟩
  · have e1 : es'.size = ((es'.toList.map (rg Tryz.prog 3 heldR)).foldr DataW.insert []).length := by rw [length_sorted]; simp
    rw [e1, hput]
    unfold putKey
    rw [length_insert, hlen]
    have e2 := List.length_filter_le (notKey (.int .i64 a)) ((es.toList.map (rg Tryz.prog 3 heldR)).foldr DataW.insert [])
    rw [length_sorted] at e2
    simp at e2
    omega
  · show (VMap.over intVal (VMap.put a v M)).map litE = _
    rw [VMap.over_put, litE_put, hput, hD]
    rfl

/-! A range over the map, under way: the map's block and the iterator's. -/
abbrev dataI (M : List (Int × Int)) : DataW Value := .map ((VMap.over intVal M).map litE)
def iterS (b r n : Nat) (D : DataW Value) (left : Lit → Bool) (cnt : Nat) : Say := fun h =>
  ∃ es clock since seen c0, h b = some (.map es clock) ∧ Fit Tryz.prog 3 heldR es clock ∧ es.size ≤ n ∧ D = .map ((es.toList.map (rg Tryz.prog 3 heldR)).foldr DataW.insert []) ∧
    h r = some (.mapIter (some b) since seen c0) ∧ (∀ x ∈ es.toList, x.born < since) ∧ (leftOf es seen).size = cnt ∧
    (∀ x ∈ es.toList, left (rg Tryz.prog 3 heldR x).1 = !seen.contains x.born) ∧ (∀ kl, left kl = true → ∃ x ∈ es.toList, (rg Tryz.prog 3 heldR x).1 = kl) ∧ since ≤ c0 ∧ since ≤ clock
theorem Has.iter {w : World} {l : List Say} {b r n : Nat} {D : DataW Value} {left : Lit → Bool} {cnt : Nat} (h : Has w l) (hm : iterS b r n D left cnt ∈ l) : w.ranges Tryz.prog 3 heldR b r n D left cnt := by
  obtain ⟨g, ⟨es, clock, since, seen, c0, hb, F, hs, hD, hr, rest⟩, hk⟩ := h.mem hm
  exact ⟨es, clock, since, seen, c0, by rw [hk b (by rw [hb]; simp), hb], F, hs, hD, by rw [hk r (by rw [hr]; simp), hr], rest⟩
theorem Has.iter_next {w w' : World} {l : List Say} {b r n : Nat} {D : DataW Value} {left left' : Lit → Bool} {cnt cnt' : Nat} (h : Has w (iterS b r n D left cnt :: l)) (hg : w.grownBy w' (some r)) (hr : w'.ranges Tryz.prog 3 heldR b r n D left' cnt') : Has w' (iterS b r n D left' cnt' :: l) := by
  obtain ⟨h1, h2, ⟨es0, clock0, since0, seen0, c00, hb0, _, _, _, hr0, _⟩, hl, d1, d2⟩ := h
  obtain ⟨es, clock, since, seen, c0, hb, F, hs, hD, hr', rest⟩ := hr
  have nb : h2 b = none := (d1 b (by rw [hb0]; simp)).2
  have nr : h2 r = none := (d1 r (by rw [hr0]; simp)).2
  refine ⟨fun k => if k = b ∨ k = r then w'.heap[k]? else none, h2, ⟨es, clock, since, seen, c0, (if_pos (.inl rfl)).trans hb, F, hs, hD, (if_pos (.inr rfl)).trans hr', rest⟩, hl, fun k hk => ?_, fun k hk => ?_⟩
  · by_cases e : k = b ∨ k = r
    · refine ⟨(if_pos e).symm, ?_⟩
      rcases e with rfl | rfl
      · exact nb
      · exact nr
    · exact absurd (if_neg e) hk
  · have e1 := d2 k hk
    have hlt : k < w.heap.size := by
      rcases Nat.lt_or_ge k w.heap.size with h | h
      · exact h
      · have : w.heap[k]? = none := Array.getElem?_eq_none h
        simp only at e1
        rw [this] at e1
        exact absurd e1.symm hk
    have hne : some k ≠ some r := fun e => by
      have e2 : k = r := Option.some.inj e
      rw [e2] at hk
      exact hk nr
    show w'.heap[k]? = h2 k
    rw [hg.block k hlt hne]
    exact e1
theorem Has.iter_start {w w' : World} {l : List Say} {b : Nat} {M : List (Int × Int)} {left : Lit → Bool} {cnt : Nat} (h : Has w (imapS b M :: l)) (hg : w.grownBy w' none) (hr : w'.ranges Tryz.prog 3 heldR b w.heap.size M.length (dataI M) left cnt) : Has w' (iterS b w.heap.size M.length (dataI M) left cnt :: l) := by
  obtain ⟨h1, h2, ⟨es0, clock0, hb0, _⟩, hl, d1, d2⟩ := h
  obtain ⟨es, clock, since, seen, c0, hb, F, hs, hD, hr', rest⟩ := hr
  have nb : h2 b = none := (d1 b (by rw [hb0]; simp)).2
  have nr : h2 w.heap.size = none := by
    cases hx : h2 w.heap.size with
    | none => rfl
    | some o =>
      have e2 := d2 w.heap.size (by rw [hx]; simp)
      have e3 : w.heap[w.heap.size]? = none := Array.getElem?_eq_none (Nat.le_refl _)
      rw [hx] at e2
      exact absurd (e3.symm.trans e2) (by simp)
  refine ⟨fun k => if k = b ∨ k = w.heap.size then w'.heap[k]? else none, h2, ⟨es, clock, since, seen, c0, (if_pos (.inl rfl)).trans hb, F, hs, hD, (if_pos (.inr rfl)).trans hr', rest⟩, hl, fun k hk => ?_, fun k hk => ?_⟩
  · by_cases e : k = b ∨ k = w.heap.size
    · refine ⟨(if_pos e).symm, ?_⟩
      rcases e with rfl | rfl
      · exact nb
      · exact nr
    · exact absurd (if_neg e) hk
  · have e1 := d2 k hk
    have hlt : k < w.heap.size := by
      rcases Nat.lt_or_ge k w.heap.size with h | h
      · exact h
      · have : w.heap[k]? = none := Array.getElem?_eq_none h
        simp only at e1
        rw [this] at e1
        exact absurd e1.symm hk
    show w'.heap[k]? = h2 k
    rw [hg.block k hlt (by simp)]
    exact e1
end Go.Proofs.YtgbgneiciabidaaGreatDoor
/-
  Trees (layer 12): the pages below a page, in plain Lean.
-/
namespace Go.Proofs.YtgbgneiciabidaaGreatDoor
open Go Go.RowKit
set_option linter.all false

inductive Reach (Q : Pgs) : Int → Int → Prop
  | here {a : Int} : (VMap.get a Q).isSome = true → Reach Q a a
  | kid {a c b : Int} {g : Pg} : VMap.get a Q = some g → c ∈ g.n.kids → Reach Q c b → Reach Q a b
theorem Reach.some {Q : Pgs} {a b : Int} (h : Reach Q a b) : (VMap.get b Q).isSome = true := by
  induction h with
  | here h => exact h
  | kid _ _ _ ih => exact ih
theorem Reach.lv {es : List Ent} {Q : Pgs} {D : Int → Nat} (hI : FInv es Q D) {a b : Int} (h : Reach Q a b) : ∀ {g gb : Pg}, VMap.get a Q = .some g → VMap.get b Q = .some gb → gb.n.level ≤ g.n.level := by
  induction h with
  | here h =>
    intro g gb h1 h2
    rw [h1] at h2
    obtain rfl := Option.some.inj h2
    exact Int.le_refl _
  | kid hg hc _ ih =>
    intro g' gb h1 h2
    rw [hg] at h1
    obtain rfl := Option.some.inj h1
    obtain ⟨gc, hgc, hlc⟩ := hI.kid _ _ hg _ hc
    have := ih hgc h2
    omega
def inM (M : List (Int × Int)) (x : Int) : Prop := (VMap.get x M).isSome = true
structure GaOk (Q : Pgs) (M : List (Int × Int)) : Prop where
  up : VMap.Up M
  one : ∀ x v, VMap.get x M = some v → v = 1 ∧ (VMap.get x Q).isSome = true
def Clos (Q : Pgs) (lv : Int) (M : List (Int × Int)) : Prop := ∀ x g, inM M x → VMap.get x Q = some g → g.n.level ≤ lv → ∀ c ∈ g.n.kids, inM M c
theorem Clos.less {Q : Pgs} {lv lv' : Int} {M : List (Int × Int)} (h : Clos Q lv M) (hl : lv' ≤ lv) : Clos Q lv' M := fun x g hx hg h1 => h x g hx hg (by omega)
theorem Clos.reach {es : List Ent} {Q : Pgs} {D : Int → Nat} (hI : FInv es Q D) {lv : Int} {M : List (Int × Int)} (hC : Clos Q lv M) {a b : Int} (h : Reach Q a b) : ∀ {g : Pg}, VMap.get a Q = some g → g.n.level ≤ lv → inM M a → inM M b := by
  induction h with
  | here _ => exact fun _ _ h => h
  | kid hg hc _ ih =>
    intro g' h1 hl ha
    rw [hg] at h1
    obtain rfl := Option.some.inj h1
    obtain ⟨gc, hgc, hlc⟩ := hI.kid _ _ hg _ hc
    exact ih hgc (by omega) (hC _ _ ha hg hl _ hc)
theorem GaOk.nil (Q : Pgs) : GaOk Q [] := ⟨List.Pairwise.nil, fun x v h => by cases h⟩
theorem Clos.nil (Q : Pgs) (lv : Int) : Clos Q lv [] := fun x g h => by cases h
theorem GaOk.len {Q : Pgs} {M : List (Int × Int)} (h : GaOk Q M) (hu : VMap.Up Q) : M.length ≤ Q.length := by
  have hnd : (M.map (·.1)).Nodup := List.pairwise_map.2 (h.up.imp fun {a b} hab => by omega)
  have hsub : ∀ x ∈ M.map (·.1), x ∈ Q.map (·.1) := fun x hx => by
    obtain ⟨p, hp, rfl⟩ := List.mem_map.1 hx
    have hg := mem_get h.up hp
    obtain ⟨g, hg'⟩ := Option.isSome_iff_exists.1 (h.one _ _ hg).2
    exact List.mem_map.2 ⟨(p.1, g), get_mem hg', rfl⟩
  have := List.Nodup.length_le_of_subset hnd hsub
  rwa [List.length_map, List.length_map] at this
theorem GaOk.put {Q : Pgs} {M : List (Int × Int)} (h : GaOk Q M) {a : Int} (ha : (VMap.get a Q).isSome = true) : GaOk Q (VMap.put a 1 M) := by
  refine ⟨h.up.put a 1, fun x v hx => ?_⟩
  rw [get_put] at hx
  by_cases e : x = a
  · rw [if_pos e] at hx
    subst e
    exact ⟨(Option.some.inj hx).symm, ha⟩
  · rw [if_neg e] at hx
    exact h.one x v hx
theorem inM_put {M : List (Int × Int)} {a x : Int} : inM (VMap.put a 1 M) x ↔ inM M x ∨ x = a := by
  unfold inM
  rw [get_put]
  by_cases e : x = a
  · rw [if_pos e]; simp [e]
  · rw [if_neg e]; simp [e]
structure GaMid (Q : Pgs) (M : List (Int × Int)) (addr : Int) (lv : Int) (ks : List Int) (M1 : List (Int × Int)) : Prop where
  ok : GaOk Q M1
  clos : Clos Q (lv - 1) M1
  iff : ∀ x, inM M1 x ↔ (inM M x ∨ x = addr ∨ ∃ c ∈ ks, Reach Q c x)
theorem GaMid.start {Q : Pgs} {M : List (Int × Int)} {addr lv : Int} {g : Pg} (hg : VMap.get addr Q = some g) (hl : g.n.level = lv) (hok : GaOk Q M) (hc : Clos Q lv M) : GaMid Q M addr lv [] (VMap.put addr 1 M) := by
  refine ⟨hok.put (by rw [hg]; rfl), fun x gx hx hgx hlx c hcx => ?_, fun x => ?_⟩
  · rcases inM_put.1 hx with hx | rfl
    · exact inM_put.2 (.inl (hc x gx hx hgx (by omega) c hcx))
    · rw [hg] at hgx
      obtain rfl := Option.some.inj hgx
      omega
  · rw [inM_put]
    simp
theorem GaMid.next {Q : Pgs} {M M1 M2 : List (Int × Int)} {addr lv : Int} {ks : List Int} {c : Int} (h : GaMid Q M addr lv ks M1) (hok : GaOk Q M2) (hc : Clos Q (lv - 1) M2) (hi : ∀ x, inM M2 x ↔ (inM M1 x ∨ Reach Q c x)) : GaMid Q M addr lv (ks ++ [c]) M2 := by
  refine ⟨hok, hc, fun x => ?_⟩
  rw [hi, h.iff]
  constructor
  · rintro ((h1 | h1 | ⟨d, hd, h1⟩) | h1)
    · exact .inl h1
    · exact .inr (.inl h1)
    · exact .inr (.inr ⟨d, List.mem_append_left _ hd, h1⟩)
    · exact .inr (.inr ⟨c, by simp, h1⟩)
  · rintro (h1 | h1 | ⟨d, hd, h1⟩)
    · exact .inl (.inl h1)
    · exact .inl (.inr (.inl h1))
    · rcases List.mem_append.1 hd with hd | hd
      · exact .inl (.inr (.inr ⟨d, hd, h1⟩))
      · obtain rfl : d = c := by simpa using hd
        exact .inr h1
theorem GaMid.fin {es : List Ent} {Q : Pgs} {D : Int → Nat} (hI : FInv es Q D) {M M1 : List (Int × Int)} {addr lv : Int} {g : Pg} (hg : VMap.get addr Q = some g) (hl : g.n.level = lv) (hc : Clos Q lv M) (h : GaMid Q M addr lv g.n.kids M1) : Clos Q lv M1 ∧ ∀ x, inM M1 x ↔ (inM M x ∨ Reach Q addr x) := by
  refine ⟨fun x gx hx hgx hlx c hcx => ?_, fun x => ?_⟩
  · rcases Int.lt_or_le gx.n.level lv with h1 | h1
    · exact h.clos x gx hx hgx (by omega) c hcx
    · rcases (h.iff x).1 hx with h2 | rfl | ⟨d, hd, h2⟩
      · exact (h.iff c).2 (.inl (hc x gx h2 hgx hlx c hcx))
      · rw [hg] at hgx
        obtain rfl := Option.some.inj hgx
        obtain ⟨gc, hgc, _⟩ := hI.kid _ _ hg _ hcx
        exact (h.iff c).2 (.inr (.inr ⟨c, hcx, .here (by rw [hgc]; rfl)⟩))
      · obtain ⟨gd, hgd, hld⟩ := hI.kid _ _ hg _ hd
        have := h2.lv hI hgd hgx
        omega
  · rw [h.iff]
    constructor
    · rintro (h1 | rfl | ⟨c, hc, h1⟩)
      · exact .inl h1
      · exact .inr (.here (by rw [hg]; rfl))
      · exact .inr (.kid hg hc h1)
    · rintro (h1 | h1)
      · exact .inl h1
      · cases h1 with
        | here _ => exact .inr (.inl rfl)
        | kid hg' hc' h2 =>
          rw [hg] at hg'
          obtain rfl := Option.some.inj hg'
          exact .inr (.inr ⟨_, hc', h2⟩)
end Go.Proofs.YtgbgneiciabidaaGreatDoor
