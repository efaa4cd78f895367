/-
  Trees (layer 12): the pages of a tree (btree.Pages).
-/
import Derived.Test.YtgbgneiciabidaaGreatDoorGs36
import Derived.Test.YtgbgneiciabidaaGreatDoorGs35
namespace Go.Proofs.YtgbgneiciabidaaGreatDoor
open Go Go.RowKit Go.Maps
set_option linter.all false
set_option maxHeartbeats 8000000
theorem gather_none {w : World} {l : List Say} {b p bank sp N : Nat} {es : List Ent} {Q : Pgs} {M : List (Int × Int)} (addr : Int) (h : Has w (imapS b M :: btS p bank sp N es Q :: l)) (hg : VMap.get addr Q = none) (hb : -9223372036854775808 <= addr /\ addr <= 9223372036854775807) :
  Calls Tryz.prog 170 #[.pointer (some ⟨p, 0, none⟩), .int .i64 addr, .map (some b)] w (fun r w' => r = .returned (.tuple #[]) /\ Kept w w' /\ Has w' (imapS b M :: btS p bank sp N es Q :: l)) := by
 have HG := Lib.hid (bt_Get h.swap addr hb.1 hb.2)
 have Hg := Lib.hid hg
 clear h hg hb
 go_enter Tryz.func170, Tryz.ntmps170
 go_wp2_with fail
 refine HG.out.mono ?_
 rintro r w1 ⟨hK1, (⟨_, rfl, h3⟩ | ⟨g', ak, ck, av, cv, h1, rfl, h3⟩)⟩
 ·have HF : Hid (∀ ob, Kept w (w1.alloc ob) /\ Has (w1.alloc ob) (imapS b M :: btS p bank sp N es Q :: l)) := fun ob => ⟨hK1.alloc ob, (h3.alloc_off ob).swap⟩
  clear h3 hK1 HG
  simp only [nodeZero, errV]
  go_wp2
  refine bodyPost_ret (v := .tuple #[]) (results_none rfl _ _ _) rfl ?_
  exact ⟨rfl, HF.out _⟩
 ·rw [Hg.out] at h1; cases h1
theorem gather_root {w : World} {l : List Say} {b p bank sp N : Nat} {es : List Ent} {Q : Pgs} (addr : Int) (h : Has w (imapS b [] :: btS p bank sp N es Q :: l)) (hb : -9223372036854775808 <= addr /\ addr <= 9223372036854775807) (hql : Q.length <= 100000) :
  Calls Tryz.prog 170 #[.pointer (some ⟨p, 0, none⟩), .int .i64 addr, .map (some b)] w (fun r w' => r = .returned (.tuple #[]) /\ Kept w w' /\ ∃ M, GaOk Q M /\ (∀ x, inM M x ↔ Reach Q addr x) /\ Has w' (imapS b M :: btS p bank sp N es Q :: l)) := by
 cases hg : VMap.get addr Q with
 | none =>
  refine (gather_none addr h hg hb).mono ?_
  rintro r w' ⟨rfl, hK, hh⟩
  refine ⟨rfl, hK, [], GaOk.nil Q, fun x => ⟨fun h => (nomatch h), fun h => ?_⟩, hh⟩
  cases h with
  | here h => rw [hg] at h; cases h
  | kid h _ _ => rw [hg] at h; cases h
 | some g =>
  have hI := h.tail.bt_inv.1
  have hlv := hI.lv hg
  refine (gather_lv g.n.level.toNat addr h hg (by omega) (GaOk.nil Q) (Clos.nil Q _) hql).mono ?_
  rintro r w' ⟨hK, rfl, M', h1, _, h2, h3⟩
  refine ⟨rfl, hK, M', h1, fun x => ?_, h3⟩
  rw [h2]
  constructor
  ·rintro (h | h)
   ·cases h
   ·exact h
  ·exact .inr
def BpM (w : World) (l : List Say) (b r p bank sp N : Nat) (es : List Ent) (Q : Pgs) (M : List (Int × Int)) (ov : Value) (wr : World) : Prop :=
 ∃ left cnt ss, Met M left ss /\ ss.length + cnt <= 100000 /\ Kept w wr /\ Has wr (intsS ov ss :: iterS b r M.length (dataI M) left cnt :: btS p bank sp N es Q :: l)
set_option maxRecDepth 100000 in
theorem bt_TreePages {w : World} {l : List Say} {p bank sp N : Nat} {es : List Ent} {Q : Pgs} (root : Int) (h : Has w (btS p bank sp N es Q :: l)) (hb : -9223372036854775808 <= root /\ root <= 9223372036854775807) (hql : Q.length <= 100000) :
  Calls Tryz.prog 109 #[.pointer (some ⟨p, 0, none⟩), .int .i64 root] w (BpPost p bank sp N es Q (Reach Q root) l w) := by
 have hmm := @run_makeMap Tryz.prog
 have h1 := imap_made h
 have HG := Lib.hid (gather_root root h1 hb hql)
 have HK := Lib.hid ((Kept.refl w).alloc (.map #[] 0))
 have hup := h.bt_inv.1.up
 clear h h1 hb
 go_enter Tryz.func109, Tryz.ntmps109
 go_wp2_with fail
 refine HG.out.mono ?_
 rintro r w1 ⟨rfl, hK1, M, hok, hM, h2⟩
 have HK1 := Lib.hid (HK.out.trans hK1)
 have hml := hok.len hup
 have HM := Lib.hid (And.intro hM hml)
 have H2 := Lib.hid h2
 have hown := h2.map_own (b := w.heap.size) (n := M.length) (M := VMap.over intVal M) (.head _)
 have Hown := Lib.hid hown
 clear hM hK1 HG HK hok hml h2 hown hmm
 generalize w.heap.size = b at *
 have hsz : Maps.size (dataI M) <= 100000 := by
  have := HM.out.2
  simp only [Maps.size, dataI, VMap.over, List.length_map]
  omega
 have Hsz := Lib.hid hsz
 clear hsz
 go_wp2_with (at_range; refine wpList_range_own _ rfl _ 113 rfl 3 3 (int_keyed Tryz.underlying3) Tryz.underlying113 heldR b _ _ rfl Hown.out ?_; intro w0 hrg0 hg0 hs0)
 have HM0 : Hid (BpM w l b w1.heap.size p bank sp N es Q M (.slice none 0 0) w0) := ⟨_, _, [], Met.start, by have := Hsz.out; simpa using this, HK1.out.trans (.grown hg0), (Has.iter_start H2.out hg0 hrg0).row_nil _ _⟩
 clear hrg0 hg0 hs0 H2 HK1 Hown Hsz
 go_frame
 generalize w1.heap.size = r1 at *
 go_loopw [6] (fun ov wr => Hid (BpM w l b r1 p bank sp N es Q M ov wr)) (fun _ wr => wr.rangeLeft b r1)
 case atStart => exact HM0
 case round =>
  clear HM0
  obtain ⟨left, cnt, ss, hmet, hcs, hK, hh⟩ := hrel.out
  clear hrel
  obtain ⟨oa, oc, rfl, _, _⟩ := hh.ints_read (xs := ss) (.head _)
  have hrg := hh.iter (b := b) (r := r1) (n := M.length) (D := dataI M) (left := left) (cnt := cnt) (.tail _ (.head _))
  have Hrg := Lib.hid hrg
  have HX := Lib.hid (And.intro hmet (And.intro hcs hK))
  have HH := Lib.hid hh
  have Hle := hrg.left_eq
  have HLe := Lib.hid Hle
  clear hmet hcs hK hh hrg Hle
  go_wp2_with (at_next; refine wpList_next_ranges _ rfl _ rfl 3 (int_keyed Tryz.underlying3) heldR (Value.int .i64) (fun v : Value => v) (fun key kl hkey => by obtain ⟨x, rfl, _⟩ := Maps.keyOf_int_inv Tryz.underlying3 hkey; exact ⟨x, rfl⟩) (fun v y _ => ⟨v, rfl⟩) b r1 M.length _ _ _ rfl Hrg.out ?_ ?_)
  ·intro hc0 hl0
   have hmm := HX.out.1.fin hl0
   have HS := Lib.hid (sort_ints HH.out (by have := HX.out.2.1; omega))
   have hK := HX.out.2.2
   have HF : Hid ((ss.mergeSort leZ).Pairwise (fun a b : Int => a < b) /\ (∀ x, x ∈ ss.mergeSort leZ ↔ Reach Q root x) /\ Kept w wr) := ⟨hmm.1, fun x => (hmm.2 x).trans (HM.out.1 x), hK⟩
   clear hmm hc0 hl0 HX HH Hrg HLe hK
   go_wp2_with fail
   refine HS.out.mono ?_
   rintro r w5 ⟨rfl, hK5, h5⟩
   have HE : Hid (BpPost p bank sp N es Q (Reach Q root) l w (.returned (.slice oa ss.length oc)) w5) := ⟨_, _, rfl, HF.out.2.2.trans hK5, HF.out.1, HF.out.2.1, h5.swap.tail⟩
   clear hK5 h5 HS HF
   go_wp2
   go_ret
   exact HE.out
  ·intro x c kl yd yp w2 cnt2 hkey hlk hv hat hrg2 hlt hg2 hs2 hen
   obtain ⟨x', ex, rfl, _⟩ := Maps.keyOf_int_inv Tryz.underlying3 hkey
   injection ex with _ ex
   subst ex
   have hin : inM M x := by
    have h1 := hat .nil
    rw [atKey_lit, VMap.get_over] at h1
    unfold inM
    cases hgx : VMap.get x M with
    | some v => rfl
    | none =>
     rw [hgx] at h1
     have h2 : heldR c = some (yd, yp) := hv
     injection h2 with h2
     injection h2 with h2 _
     rw [<- h2] at h1
     cases h1
   have hmet2 := HX.out.1.step hlk hin
   have h3 := Has.iter_next HH.out.swap hg2 hrg2
   have hm3 : cnt2 < cnt := hlt
   have hK3 := HX.out.2.2.trans (.grown hg2)
   have h4 := (h3.swap.alloc (.cells #[.int .i64 x] 3)).swap
   have HM3 := Lib.hid (And.intro hmet2 (And.intro hm3 (And.intro (hK3.alloc (.cells #[.int .i64 x] 3)) HX.out.2.1)))
   have H4 := Lib.hid h4
   have Hl : Hid (ss.length <= 1000000) := by show _ <= _; have := HX.out.2.1; omega
   clear hkey hlk hv hat hrg2 hlt hg2 hs2 hin hmet2 h3 hm3 hK3 h4 HX HH Hrg
   go_wp2_with (at_builtin; refine wpList_append_int rfl (.tmp 19) (.tmp 21) rfl rfl rfl H4.out (.head _) rfl (by have := Hl.out; omega) ?_; intro p' c' w6 hK6 h6)
   have h7 := Has.skip (A := [_]) (M := [_]) h6
   have Hrg2 := (Has.iter h7 (b := b) (r := r1) (n := M.length) (D := dataI M) (cnt := cnt2) (.tail _ (.head _))).left_eq
   have HE : Hid (BpM w l b r1 p bank sp N es Q M (.slice p' (ss.length + 1) c') w6) := ⟨_, cnt2, ss ++ [x], HM3.out.1, by rw [List.length_append, List.length_singleton]; have h8 := HM3.out.2.1; have h9 := HM3.out.2.2.2; omega, HM3.out.2.2.1.trans hK6, h7⟩
   have Hm : Hid (w6.rangeLeft b r1 < wr.rangeLeft b r1) := by
    show _ < _
    rw [Hrg2, HLe.out]
    exact HM3.out.2.1
   clear hK6 h6 h7 Hrg2 H4 HM3 HLe hen
   go_wp2
   go_roundw
   case rel => exact HE
   case measure => exact Hm.out
end Go.Proofs.YtgbgneiciabidaaGreatDoor
/-
  The statements of layer 12: how many pages of a level a tree has; a root is none just if it has no pairs.
-/
namespace Go.Proofs.YtgbgneiciabidaaGreatDoor
open Go Go.RowKit
set_option linter.all false
set_option maxHeartbeats 8000000
theorem Reach.self_or {es : List Ent} {Q : Pgs} {D : Int -> Nat} (hI : FInv es Q D) {a b : Int} {g gb : Pg} (h : Reach Q a b) (hg : VMap.get a Q = .some g) (hb : VMap.get b Q = .some gb) : b = a \/ gb.n.level < g.n.level := by
 cases h with
 | here _ => exact .inl rfl
 | kid hg' hc h2 =>
  rw [hg] at hg'
  obtain rfl := Option.some.inj hg'
  obtain ⟨gc, hgc, hlc⟩ := hI.kid _ _ hg _ hc
  have := h2.lv hI hgc hb
  exact .inr (by omega)
def LvZ (Q : Pgs) (a : Int) (k : Int) (n : Nat) : Prop := ∃ Z : List Int, Z.length <= n /\ ∀ b g, Reach Q a b -> VMap.get b Q = some g -> g.n.level = k -> b ∈ Z
theorem TrG.levels {Q : Pgs} {T : Int -> List KV -> Nat -> Prop} {k : Int} (hT : ∀ a L s, T a L s -> LvZ Q a k L.length) {ps L : List KV} {s : Nat} (h : TrG T ps L s) :
  ∃ Z : List Int, Z.length <= L.length /\ ∀ p ∈ ps, ∀ b g, Reach Q p.2 b -> VMap.get b Q = some g -> g.n.level = k -> b ∈ Z := by
 induction h with
 | nil => exact ⟨[], Nat.le_refl _, fun p hp => by cases hp⟩
 | cons h1 _ _ ih =>
  obtain ⟨Z, z1, z2⟩ := ih
  obtain ⟨Y, y1, y2⟩ := hT _ _ _ h1
  refine ⟨Y ++ Z, by rw [List.length_append, List.length_append]; omega, fun p hp b g hr hg hk => ?_⟩
  rcases List.mem_cons.1 hp with rfl | hp
  ·exact List.mem_append_left _ (y2 b g hr hg hk)
  ·exact List.mem_append_right _ (z2 p hp b g hr hg hk)
theorem Tr.levels {es : List Ent} {Q : Pgs} {D : Int -> Nat} (hI : FInv es Q D) (k : Int) : ∀ {lv : Nat} {a : Int} {L : List KV} {s : Nat}, Tr Q lv a L s -> LvZ Q a k L.length
 | 0, a, L, s, ⟨g, h1, h2, h3, h4⟩ => by
  have hL : 1 <= L.length := by
   obtain ⟨ok, _, _⟩ := hI.pg a g h1
   have o := ok_lens ok
   rw [h3]
   unfold Nd.pairs
   rw [List.length_zip]
   omega
  refine ⟨[a], hL, fun b gb hr hb hk => ?_⟩
  rcases hr.self_or hI h1 hb with rfl | h5
  ·exact .head _
  ·have := (hI.lv hb).1
   omega
 | lv + 1, a, L, s, ⟨g, s', h1, h2, h3, h4⟩ => by
  have ok := (hI.pg a g h1).1
  have o := ok_lens ok
  by_cases hk0 : k = ((lv + 1 : Nat) : Int)
  ·have hL : 1 <= L.length := by
    have hps : 1 <= g.n.pairs.length := by
     unfold Nd.pairs
     rw [List.length_zip]
     omega
    have := h3.len
    omega
   refine ⟨[a], hL, fun b gb hr hb hk => ?_⟩
   rcases hr.self_or hI h1 hb with rfl | h5
   ·exact .head _
   ·omega
  ·obtain ⟨Z, z1, z2⟩ := TrG.levels (Q := Q) (k := k) (fun a L s h => Tr.levels hI k h) h3
   refine ⟨Z, z1, fun b gb hr hb hk => ?_⟩
   cases hr with
   | here _ =>
    rw [h1] at hb
    obtain rfl := Option.some.inj hb
    exact absurd (hk.symm.trans h2) hk0
   | kid hg' hc h5 =>
    rw [h1] at hg'
    obtain rfl := Option.some.inj hg'
    obtain ⟨p, hp, rfl⟩ := kid_pair ok hc
    exact z2 p hp b gb h5 hb hk
theorem Tr.some_pair {es : List Ent} {Q : Pgs} {D : Int -> Nat} (hI : FInv es Q D) {lv : Nat} {a : Int} {L : List KV} {s : Nat} (h : Tr Q lv a L s) : L ≠ [] := fun e => by
 obtain ⟨g, hg, hlv⟩ := h.get
 obtain ⟨Z, z1, z2⟩ := h.levels hI g.n.level
 have := z2 a g (.here (by rw [hg]; rfl)) hg rfl
 rw [e] at z1
 rw [List.eq_nil_of_length_eq_zero (Nat.le_zero.1 z1)] at this
 cases this
theorem Root.zero {es : List Ent} {Q : Pgs} {D : Int -> Nat} (hI : FInv es Q D) {a : Int} {L : List KV} {s : Nat} (h : Root Q a L s) : (a = 0 ↔ L = []) /\ ∀ k, LvZ Q a k L.length := by
 rcases h.it with ⟨rfl, rfl, _⟩ | ⟨lv, hT, _, hp⟩
 ·refine ⟨⟨fun _ => rfl, fun _ => rfl⟩, fun k => ⟨[], Nat.le_refl _, fun b g hr hb _ => ?_⟩⟩
  have h0 := root_none hI
  cases hr with
  | here h => rw [h0] at h; cases h
  | kid h _ _ => rw [h0] at h; cases h
 ·obtain ⟨g, hg, _⟩ := hT.get
  have hbd := (hI.adr a (by rw [hg]; rfl)).bd
  exact ⟨⟨fun h => by omega, fun h => absurd h (hT.some_pair hI)⟩, fun k => hT.levels hI k⟩
theorem LvZ.count {Q : Pgs} {a k : Int} {n : Nat} (h : LvZ Q a k n) {Z : List Int} (hn : Z.Nodup) (hz : ∀ x ∈ Z, Reach Q a x /\ ∃ g, VMap.get x Q = some g /\ g.n.level = k) : Z.length <= n := by
 obtain ⟨Y, y1, y2⟩ := h
 have := List.Nodup.length_le_of_subset hn (l₂ := Y) fun x hx => by
  obtain ⟨hr, g, hg, hk⟩ := hz x hx
  exact y2 x g hr hg hk
 omega
/-
  The statements of layer 12: which addresses were seen; how many pages of each level.
-/
def seenS (v : Value) (Z : List Int) : Say := fun h => ∃ g C, v = .slice (some ⟨g, 0, none⟩) 32768 32768 /\ h g = some (.cells C 4 (0, 0)) /\ C.size = 32768 /\ ∀ k, k < 32768 -> C[k]? = some (.bool (decide ((k : Int) ∈ Z)))
theorem Has.seen_read {w : World} {l : List Say} {v : Value} {Z : List Int} (h : Has w l) (hm : seenS v Z ∈ l) : ∃ g, v = .slice (some ⟨g, 0, none⟩) 32768 32768 /\ ∀ k, k < 32768 -> w.cell? ⟨g, k, none⟩ = some (.bool (decide ((k : Int) ∈ Z))) := by
 obtain ⟨q, ⟨g, C, hv, hg, hs, hc⟩, hk⟩ := h.mem hm
 have hb : w.heap[g]? = some (.cells C 4 (0, 0)) := by rw [hk g (by rw [hg]; simp), hg]
 exact ⟨g, hv, fun k hkk => cell_of hb k (hc k hkk)⟩
theorem Has.seen_thaw {w : World} {l : List Say} {g : Nat} {Z : List Int} (h : Has w l) (hm : seenS (.slice (some ⟨g, 0, none⟩) 32768 32768) Z ∈ l) (k : Nat) : w.frozen? ⟨g, k, none⟩ = false := by
 obtain ⟨q, ⟨g', C, hv, hg, hs, hc⟩, hk⟩ := h.mem hm
 cases hv
 have hb : w.heap[g]? = some (.cells C 4 (0, 0)) := by rw [hk g (by rw [hg]; simp), hg]
 exact thaw_of hb k
theorem Has.seen_new {w : World} {l : List Say} {C : Array Value} (h : Has w l) (hs : C.size = 32768) (hc : ∀ k, k < 32768 -> C[k]? = some (.bool false)) : Has (w.alloc (.cells C 4)) (seenS (.slice (some ⟨w.heap.size, 0, none⟩) 32768 32768) [] :: l) :=
 (h.alloc (.cells C 4)).head fun q hq => ⟨w.heap.size, C, rfl, hq, hs, fun k hk => by rw [hc k hk]; simp⟩
theorem Has.seen_set {w : World} {l : List Say} {g : Nat} {Z : List Int} (h : Has w (seenS (.slice (some ⟨g, 0, none⟩) 32768 32768) Z :: l)) {k : Nat} (hk : k < 32768) : Has (w.setCell ⟨g, k, none⟩ (.bool true)) (seenS (.slice (some ⟨g, 0, none⟩) 32768 32768) ((k : Int) :: Z) :: l) := by
 obtain ⟨h1, h2, ⟨g', C, hv, hg, hs, hc⟩, hl, d1, d2⟩ := h
 cases hv
 have hp : Has w (pts g (.cells C 4 (0, 0)) :: l) := ⟨h1, h2, hg, hl, d1, d2⟩
 refine (hp.setCell k (.bool true)).head fun q hq => ⟨g, _, rfl, hq, by simpa using hs, fun j hj => ?_⟩
 rw [Array.getElem?_setIfInBounds]
 by_cases e : k = j
 ·subst e
  rw [if_pos rfl, if_pos (by omega)]
  simp
 ·rw [if_neg e, hc j hj]
  have e2 : ¬ (j : Int) = (k : Int) := by omega
  simp [List.mem_cons, e2]
theorem Has.seen_dup {w : World} {l : List Say} {v : Value} {Z : List Int} {z : Int} (h : Has w (seenS v (z :: Z) :: l)) (hz : z ∈ Z) : Has w (seenS v Z :: l) :=
 h.head fun q ⟨g, C, hv, hg, hs, hc⟩ => ⟨g, C, hv, hg, hs, fun k hk => by
  rw [hc k hk]
  have : (k : Int) ∈ z :: Z ↔ (k : Int) ∈ Z := ⟨fun h => (List.mem_cons.1 h).elim (fun e => by rw [e]; exact hz) id, .tail _⟩
  rw [decide_eq_decide.2 this]⟩
def levS (b : Nat) (c : Nat -> Nat) : Say := fun h => ∃ C, h b = some (.cells C 192 (0, 0)) /\ C.size = 21 /\ ∀ k, k < 21 -> C[k]? = some (.int .i64 (c k))
theorem Has.lev_read {w : World} {l : List Say} {b : Nat} {c : Nat -> Nat} (h : Has w l) (hm : levS b c ∈ l) {k : Nat} (hk : k < 21) : w.cell? ⟨b, k, none⟩ = some (.int .i64 (c k)) /\ w.frozen? ⟨b, k, none⟩ = false := by
 obtain ⟨q, ⟨C, hg, hs, hc⟩, hq⟩ := h.mem hm
 have hb : w.heap[b]? = some (.cells C 192 (0, 0)) := by rw [hq b (by rw [hg]; simp), hg]
 exact ⟨cell_of hb k (hc k hk), thaw_of hb k⟩
theorem Has.lev_set {w : World} {l : List Say} {b : Nat} {c : Nat -> Nat} (h : Has w (levS b c :: l)) {k : Nat} (hk : k < 21) : Has (w.setCell ⟨b, k, none⟩ (.int .i64 ((c k + 1 : Nat) : Int))) (levS b (fun j => if j = k then c k + 1 else c j) :: l) := by
 obtain ⟨h1, h2, ⟨C, hg, hs, hc⟩, hl, d1, d2⟩ := h
 have hp : Has w (pts b (.cells C 192 (0, 0)) :: l) := ⟨h1, h2, hg, hl, d1, d2⟩
 refine (hp.setCell k _).head fun q hq => ⟨_, hq, by simpa using hs, fun j hj => ?_⟩
 rw [Array.getElem?_setIfInBounds]
 by_cases e : k = j
 ·subst e
  rw [if_pos rfl, if_pos (by omega)]
  simp
 ·rw [if_neg e, hc j hj]
  have e2 : ¬ j = k := fun x => e x.symm
  simp [e2]
theorem Has.lev_new {w : World} {l : List Say} {C : Array Value} {b : Nat} (h : Has w (pts b (.cells C 192 (0, 0)) :: l)) (hs : C.size = 21) (hc : ∀ k, k < 21 -> C[k]? = some (.int .i64 0)) : Has w (levS b (fun _ => 0) :: l) :=
 h.head fun q hq => ⟨C, hq, hs, hc⟩
def cntLv (Q : Pgs) (Z : List Int) (k : Nat) : Nat := (Z.filter fun z => decide (lvOf Q z = (k : Int))).length
theorem cntLv_snoc (Q : Pgs) (Z : List Int) (z : Int) {lv : Nat} (h : lvOf Q z = (lv : Int)) : cntLv Q (Z ++ [z]) = fun j => if j = lv then cntLv Q Z lv + 1 else cntLv Q Z j := by
 funext j
 unfold cntLv
 rw [List.filter_append, List.length_append]
 by_cases e : j = lv
 ·subst e
  simp [h]
 ·have : ¬ (lv : Int) = (j : Int) := by omega
  simp [h, this, e]
def seenTo (Z0 Z : List Int) : List Int := Z.foldl (fun A z => if z ∈ A then A else z :: A) Z0
theorem seenTo_snoc (Z0 Z : List Int) (z : Int) : seenTo Z0 (Z ++ [z]) = if z ∈ seenTo Z0 Z then seenTo Z0 Z else z :: seenTo Z0 Z := by
 unfold seenTo
 rw [List.foldl_append]
 rfl
theorem seenTo_mem : ∀ (Z Z0 : List Int) (x : Int), x ∈ seenTo Z0 Z ↔ x ∈ Z0 \/ x ∈ Z
 | [], Z0, x => by simp [seenTo]
 | z :: Z, Z0, x => by
  show x ∈ seenTo (if z ∈ Z0 then Z0 else z :: Z0) Z ↔ _
  rw [seenTo_mem Z]
  by_cases h : z ∈ Z0
  ·rw [if_pos h]
   constructor
   ·rintro (h1 | h1)
    ·exact .inl h1
    ·exact .inr (.tail _ h1)
   ·rintro (h1 | h1)
    ·exact .inl h1
    ·rcases List.mem_cons.1 h1 with rfl | h1
     ·exact .inl h
     ·exact .inr h1
  ·rw [if_neg h]
   simp only [List.mem_cons]
   constructor
   ·rintro ((h1 | h1) | h1)
    ·exact .inr (.inl h1)
    ·exact .inl h1
    ·exact .inr (.inr h1)
   ·rintro (h1 | h1 | h1)
    ·exact .inl (.inr h1)
    ·exact .inl (.inl h1)
    ·exact .inr h1
theorem seenTo_two : ∀ (Z Z0 : List Int), Z0.Nodup -> (seenTo Z0 Z).Nodup
 | [], Z0, h => h
 | z :: Z, Z0, h => by
  show (seenTo (if z ∈ Z0 then Z0 else z :: Z0) Z).Nodup
  refine seenTo_two Z _ ?_
  split
  ·exact h
  ·rename_i h1
   exact List.nodup_cons.2 ⟨h1, h⟩
/-
  The statements of layer 12: scripts that lie wherever they lie; pairs appended to pairs; pages of items, in plain Lean.
-/
structure O4 where
 kd : Int
 tr : Int
 key : Int
 val : Int
def O4At (w : World) (g i : Nat) (o : O4) : Prop := w.cell? ⟨g, i, none⟩ = some (.int .i64 o.kd) /\ w.cell? ⟨g, i + 1, none⟩ = some (.int .i64 o.tr) /\ w.cell? ⟨g, i + 2, none⟩ = some (.int .i64 o.key) /\ w.cell? ⟨g, i + 3, none⟩ = some (.int .i64 o.val)
def O4Rd (w : World) (v : Value) (os : List O4) : Prop := ∃ a c, v = .slice a os.length c /\ ∀ k (hk : k < os.length), ∃ g o, a = some ⟨g, o, none⟩ /\ O4At w g (o + k * 4) os[k]
def O4Srcs (l : List Say) (v : Value) (os : List O4) : Prop := ∀ w, Has w l -> O4Rd w v os
/-
  BtreeFinds: the walk.
-/
theorem bt_Pages {w : World} {l : List Say} {p bank sp N : Nat} {es : List Ent} {Q : Pgs} (h : Has w (btS p bank sp N es Q :: l)) (hn : Q.length <= 100000) :
  Calls Tryz.prog 25 #[.pointer (some ⟨p, 0, none⟩)] w (PagesPost Q (btS p bank sp N es Q :: l) w) := by
 obtain ⟨disks, X, hI, hR, hH, hh⟩ := h.bt_open
 refine (st_Pages hh hn).mono ?_
 rintro r w' ⟨v, rfl, hK, h1⟩
 have h2 : Has w' (trio p bank sp N Q disks X (intsS v (Q.map (·.1)) :: l)) := h1.reord [1, 1, 1]
 exact ⟨v, rfl, hK, (Has.bt_shut hI hR hH h2).swap⟩
end Go.Proofs.YtgbgneiciabidaaGreatDoor
