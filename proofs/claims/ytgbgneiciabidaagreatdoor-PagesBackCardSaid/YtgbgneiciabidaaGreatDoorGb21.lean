/-
  Pages (layer 11): what Adopt is made of: Mark, read; nodes that are the same; a map's copy.
-/
import Derived.Test.YtgbgneiciabidaaGreatDoorGb20
import Derived.Test.YtgbgneiciabidaaGreatDoorGb5
import Derived.Test.YtgbgneiciabidaaGreatDoorGb16
import Derived.Test.YtgbgneiciabidaaGreatDoorGb14
import Derived.Shelf.SlMaps.Clone
namespace Go.Proofs.YtgbgneiciabidaaGreatDoor
open Go Go.RowKit
set_option linter.all false

/-- A shelf of which sector k was marked. -/
def Shelf.mark (y : Shelf) (k : Nat) : Shelf := { y with taken := fun j => j == k || y.taken j }
theorem ShelfOk.mark {y : Shelf} (h : ShelfOk y) {k : Nat} (h2 : 2 ≤ k) (hg : y.given k = false) : ShelfOk (y.mark k) := by
  refine ⟨fun j hj => ?_, h.g2, fun j hj => ?_⟩
  · simp only [Shelf.mark, Bool.or_eq_true, beq_iff_eq] at hj
    rcases hj with rfl | hj
    · exact h2
    · exact h.t2 j hj
  · simp only [Shelf.mark, Bool.or_eq_true, beq_iff_eq] at hj
    rcases hj with rfl | hj
    · exact hg
    · exact h.ne j hj
set_option maxHeartbeats 1000000 in
set_option maxRecDepth 100000 in
theorem sp_Mark {w : World} {l : List Say} {s : Nat} {X : Spc} (h : Has w (spaceS s X :: l)) (d k : Nat) (e : Ent) (y : Shelf) (r : InRoom X d k e y) (hk : y.taken k = false) (hg : y.given k = false) (hd : d < 8) (hk4 : k < 4096) :
    Calls Tryz.prog 158 #[.pointer (some ⟨s, 0, none⟩), .int .i64 ((d * 4096 + k : Nat) : Int)] w (GivePost s (X.put d (y.mark k)) l w) := by
  obtain ⟨x, ok, hh⟩ := h.sp_open
  have hy := r.shelf
  obtain ⟨a, c, sa, sc, R⟩ := hh.sp_read (fun A hA => List.mem_append_left _ hA) ok
  obtain ⟨q, b, _, _, hmem, hb⟩ := R.shelf d y hy
  have HF := Lib.hid (sp_find hh (fun A hA => List.mem_append_left _ hA) ok d k e y r b hb)
  obtain ⟨rest, hp1, hp2⟩ := shelves_focus x.bs X.sh d b y hb hy
  have hperm : (spFlat s X x ++ l).Perm (shelfS b y :: (spHead s X.es x ++ rest ++ l)) := by
    have h1 : (spFlat s X x).Perm (shelfS b y :: (spHead s X.es x ++ rest)) := (hp1.append_left _).trans List.perm_middle
    exact h1.append_right l
  have h3 := hh.perm hperm
  have hsz := ok.size d y e hy r.ent
  have Hyok := Lib.hid (ok.ok d y hy)
  have Hy := Lib.hid hy
  have Hp2 := Lib.hid hp2
  have Ok := Lib.hid ok
  have gn : k < y.n := by rw [hsz]; exact r.hi
  have g2 := r.lo
  have H3 := Lib.hid h3
  have Hk := Lib.hid hk
  have Hg := Lib.hid hg
  clear R hh h ok hmem hb hy r h3 hperm hp1 hp2 hsz hk hg
  go_enter Tryz.func158, Tryz.ntmps158
  go_wp2_with fail
  refine HF.out.mono ?_
  rintro r W ⟨rfl, hbW⟩
  obtain ⟨⟨tx, fx, gx⟩, h4⟩ := (H3.out.below hbW).shelf_open
  have HKW := Lib.hid (Kept.below hbW)
  have hgb := h4.got (b := b)
  have b0 : W.cell? ⟨b, 0, none⟩ = some (.pointer (some ⟨tx, 0, none⟩)) := cell_of hgb 0 rfl
  have b2 : W.cell? ⟨b, 2, none⟩ = some (.pointer (some ⟨gx, 0, none⟩)) := cell_of hgb 2 rfl
  have lb := World.block_lt_of_cell? _ _ b0
  have hT := bm_Has h4 (b := tx) (n := y.n) (S := y.taken) (by simp [shelfParts]) k
  rw [Hk.out] at hT
  have HT := Lib.hid hT
  have hG := bm_Has h4 (b := gx) (n := y.n) (S := y.given) (by simp [shelfParts]) k
  rw [Hg.out] at hG
  have HG := Lib.hid hG
  have hset := (h4.pull 1).alloc_off (.cells #[.int .i64 (k : Int)] 3)
  have HC := Lib.hid (bm_Set1 hset W.heap.size 1 k (by simp) gn)
  clear h4 hbW hgb H3 HF hT hG hset
  go_wp2_with fail
  refine HT.out.mono ?_
  rintro r W' ⟨rfl, rfl⟩
  go_wp2_with fail
  refine HG.out.mono ?_
  rintro r W' ⟨rfl, rfl⟩
  go_wp2_with fail
  refine HC.out.mono ?_
  rintro r V1 ⟨rfl, hk1, hv1⟩
  have HF : Hid (GivePost s (X.put d (y.mark k)) l w (.returned .nilIface) V1) := by
    refine ⟨rfl, (HKW.out.alloc _).trans hk1, Has.sp_shut (x := x) (Ok.out.put (y' := y.mark k) Hy.out rfl (Hyok.out.mark g2 Hg.out)) ?_⟩
    have h6 : Has V1 (shelfS b (y.mark k) :: (spHead s X.es x ++ rest ++ l)) := Has.shelf_shut (x := (tx, fx, gx)) (hv1.push 1)
    refine h6.perm ?_
    have h7 : (spFlat s (X.put d (y.mark k)) x).Perm (shelfS b (y.mark k) :: (spHead s X.es x ++ rest)) := ((Hp2.out (y.mark k)).append_left _).trans List.perm_middle
    exact (h7.append_right l).symm
  clear hk1 hv1 HC HT HG HKW b0
  go_wp2
  go_ret
  exact HF.out

set_option maxRecDepth 100000 in
/-- A map's copy. -/
theorem maps_Clone {w : World} (b : Nat) (es : Array MapEntry) (clock : Nat) (hb : w.heap[b]? = some (.map es clock)) :
    Calls Tryz.prog 92 #[.map (some b)] w fun r w' => r = .returned (.map (some w.heap.size)) ∧ w' = w.alloc (.map es clock) := by
  have hq := fun w => run_eql_map_nil_sl (P := Tryz.prog) w 145 _ _ (some b) Tryz.underlying145
  go_enter Tryz.func92, Tryz.ntmps92
  go_wp2
  rw [run_callFunc_extern Tryz.func156 (by kernel_rfl) (by kernel_rfl) (by kernel_rfl) (e := Extern.MapsClone.clone) (by kernel_rfl), run_maps_clone_sl w 145 hb]
  simp only [Result.andThen]
  rw [Oper.upon_value]
  go_wp2
  rw [run_typeAssert_map_sl _ 145 20 _ _ _ Tryz.underlying145]
  simp only [Result.andThen]
  rw [Oper.upon_value]
  go_wp2
  go_ret
  exact ⟨rfl, rfl⟩

set_option maxRecDepth 100000 in
theorem slices_Equal_yes {w : World} {va vb : Value} {xs : List Int} (ha : Rd w va xs) (hb : Rd w vb xs) (hl : xs.length ≤ 1000000) :
    Calls Tryz.prog 95 #[va, vb] w fun r w' => r = .returned (.bool true) ∧ ∃ m, w' = w.drewN m := by
  obtain ⟨a, c, rfl, hra⟩ := ha
  obtain ⟨b, d, rfl, hrb⟩ := hb
  have HA : Hid (∀ (k : Nat) (x : Int), xs[k]? = some x → ∃ g o, a = some ⟨g, o, none⟩ ∧ w.cell? ⟨g, o + k, none⟩ = some (.int .i64 x)) := fun k x hx => by
    have hk := (List.getElem?_eq_some_iff.1 hx).1
    rw [List.getElem?_eq_getElem hk] at hx
    rw [← Option.some.inj hx]; exact hra k hk
  have HB : Hid (∀ (k : Nat) (x : Int), xs[k]? = some x → ∃ g o, b = some ⟨g, o, none⟩ ∧ w.cell? ⟨g, o + k, none⟩ = some (.int .i64 x)) := fun k x hx => by
    have hk := (List.getElem?_eq_some_iff.1 hx).1
    rw [List.getElem?_eq_getElem hk] at hx
    rw [← Option.some.inj hx]; exact hrb k hk
  clear hra hrb
  generalize hn : xs.length = n at *
  have Hn := Lib.hid hn
  have hnI : (n : Int) ≤ 1000000 := by omega
  clear hn
  go_enter Tryz.func95, Tryz.ntmps95
  go_wp2
  go_loopw [13] (fun i wr => ∃ k : Nat, k ≤ n ∧ i = .int .i64 k ∧ ∃ m, wr = w.drewN m) (fun i _ => n - (intOf i).toNat)
  case atStart => exact ⟨0, Nat.zero_le _, rfl, 0, rfl⟩
  case round =>
    obtain ⟨k, hk, rfl, m, rfl⟩ := hrel
    by_cases hlt : k < n
    · have hkl : k < xs.length := by have := Hn.out; omega
      obtain ⟨g1, o1, rfl, c1⟩ := HA.out k xs[k] (List.getElem?_eq_getElem hkl)
      obtain ⟨g2, o2, rfl, c2⟩ := HB.out k xs[k] (List.getElem?_eq_getElem hkl)
      generalize xs[k] = x at *
      have l1 := World.block_lt_of_cell? _ _ c1
      have l2 := World.block_lt_of_cell? _ _ c2
      have hkI : (k : Int) < (n : Int) := by omega
      have hk0 : (0 : Int) ≤ (k : Int) := by omega
      go_wp2
      go_quiet (fail)
      go_wp2
      go_roundw
      case rel => exact ⟨k + 1, by omega, by go_num, _, rfl⟩
      case measure => simp [intOf]; omega
    · have hge : (n : Int) ≤ (k : Int) := by omega
      go_wp2
      go_ret
      exact ⟨rfl, m, rfl⟩
end Go.Proofs.YtgbgneiciabidaaGreatDoor
/-
  Pages (layer 11): what stands on a device (read); nodes that are the same.
-/
namespace Go.Proofs.YtgbgneiciabidaaGreatDoor
open Go Go.RowKit
set_option linter.all false

def PReadPost (SS : Say) (bank N : Nat) (disks : List Dsk) (nd : Nd) (l : List Say) (w : World) (r : Ending) (w' : World) : Prop :=
  ∃ kv vv, r = .returned (.tuple #[nd.val kv vv, .nilIface]) ∧ Kept w w' ∧ Has w' (intsS kv nd.keys :: intsS vv nd.vals :: SS :: bankS N bank disks :: l)
theorem Has.st_cell {w : World} {l : List Say} {p bank sp n : Nat} {Q : Pgs} (h : Has w (storeS p bank sp n Q :: l)) : w.cell? ⟨p, 0, none⟩ = some (.pointer (some ⟨bank, 0, none⟩)) ∧ w.cell? ⟨p, 1, none⟩ = some (.pointer (some ⟨sp, 0, none⟩)) := by
  obtain ⟨x, ok, hh⟩ := h.st_open
  have hp : w.heap[p]? = some (.cells #[.pointer (some ⟨bank, 0, none⟩), .pointer (some ⟨sp, 0, none⟩), .map (some x.mb), .map none] 147 (0, 0)) := hh.got
  exact ⟨cell_of hp 0 rfl, cell_of hp 1 rfl⟩
set_option maxHeartbeats 4000000 in
set_option maxRecDepth 100000 in
theorem st_read {w : World} {l : List Say} {p bank N : Nat} {SS : Say} {disks : List Dsk} (nd : Nd) (ok : nd.ok = true) (h : Has w (SS :: bankS N bank disks :: l)) (c0 : w.cell? ⟨p, 0, none⟩ = some (.pointer (some ⟨bank, 0, none⟩))) (d k : Nat) (hd : d < 8) (hk : k < 4096) (secs : Dsk) (hs : disks[d]? = some secs) (hc : secs[k]? = some (frameOf 2 (nodeBytes nd))) (hN : N ≤ 1000000) :
    Calls Tryz.prog 157 #[.pointer (some ⟨p, 0, none⟩), .int .i64 ((d * 4096 + k : Nat) : Int)] w (PReadPost SS bank N disks nd l w) := by
  have lp := World.block_lt_of_cell? _ _ c0
  have HA := Lib.hid (space_At (w := w.alloc (.cells #[.int .i64 0, .slice none 0 0, .slice none 0 0] 35)) (d * 4096 + k) (by omega))
  have e1 : (d * 4096 + k) / 4096 = d := by omega
  have e2 : (d * 4096 + k) % 4096 = k := by omega
  rw [e1, e2] at HA
  have h1 := (h.swap.alloc (.cells #[.int .i64 0, .slice none 0 0, .slice none 0 0] 35)).swap
  have HR := Lib.hid (bank_Read h1 d k secs (frameOf 2 (nodeBytes nd)) hs hc hN)
  have HK : Hid (Kept w (w.alloc (.cells #[.int .i64 0, .slice none 0 0, .slice none 0 0] 35))) := (Kept.refl w).alloc _
  have Hok := Lib.hid ok
  clear h h1 hs hc ok e1 e2
  generalize ((d * 4096 + k : Nat) : Int) = A at *
  go_enter Tryz.func157, Tryz.ntmps157
  go_wp2_with fail
  refine HA.out.mono ?_
  rintro r w1 ⟨rfl, rfl⟩
  go_wp2_with fail
  refine HR.out.mono ?_
  rintro r w2 ⟨v, rfl, hK, h2⟩
  have hl128 := frame_len 2 (nodeBytes nd) (nodeBytes_len Hok.out).2
  obtain ⟨gb, c, rfl, hcl, _⟩ := h2.bytes_read (v := v) (cur := frameOf 2 (nodeBytes nd)) (.head _) (by omega)
  obtain ⟨_, _, _, ev, _, hcm, _⟩ := h2.row_read (.head _)
  injection ev with ev1 ev2 ev3
  rw [← ev3] at hcm
  clear ev1 ev2 ev3
  rw [hl128] at h2 hcl ⊢
  have HP := Lib.hid (node_Parse nd Hok.out h2 hcl hcm)
  have hk1 := HK.out.trans hK
  clear HK
  have HK := Lib.hid hk1
  clear hk1 hK h2 HR HA hcl hcm hl128 c0 lp
  go_wp2_with fail
  refine HP.out.mono ?_
  rintro r w3 ⟨kv, vv, rfl, hK, h3⟩
  obtain ⟨lv, ks, vs⟩ := nd
  obtain ⟨ak, ck, rfl, _⟩ := h3.ints_read (v := kv) (xs := ks) (.head _)
  obtain ⟨av, cv, rfl, _⟩ := h3.ints_read (v := vv) (xs := vs) (.tail _ (.head _))
  simp only [Nd.val]
  have h4 := h3.alloc (.cells #[.int .i64 lv, .slice ak ks.length ck, .slice av vs.length cv] 35)
  have hk1 := (HK.out.trans hK).alloc (.cells #[.int .i64 lv, .slice ak ks.length ck, .slice av vs.length cv] 35)
  clear HK
  have HK := Lib.hid hk1
  clear hk1 hK h3 HP
  obtain ⟨w4, hw4⟩ : ∃ w4, w4 = w3.alloc (.cells #[.int .i64 lv, .slice ak ks.length ck, .slice av vs.length cv] 35) := ⟨_, rfl⟩
  have Hw4 := Lib.hid hw4
  rw [← hw4] at h4 HK
  have HH := Lib.hid h4
  clear h4 hw4
  go_wp2
  rw [← Hw4.out]
  generalize hr10 : w3.heap.size = r10 at *
  generalize hr4 : w.heap.size = r4 at *
  clear hr10 hr4 Hw4
  have hh : Has w4 (pts r10 (.cells #[.int .i64 lv, .slice ak ks.length ck, .slice av vs.length cv] 35 (0, 0)) :: intsS (.slice ak ks.length ck) ks :: intsS (.slice av vs.length cv) vs :: bytesS (.slice (some ⟨gb, 0, none⟩) 128 c) (frameOf 2 (nodeBytes ⟨lv, ks, vs⟩)) :: bankS N bank disks :: pts r4 (.cells #[.int .i64 0, .slice none 0 0, .slice none 0 0] 35 (0, 0)) :: SS :: l) := HH.out
  have hpt := hh.got
  have t0 : w4.cell? ⟨r10, 0, none⟩ = some (.int .i64 lv) := cell_of hpt 0 rfl
  have t1 : w4.cell? ⟨r10, 1, none⟩ = some (.slice ak ks.length ck) := cell_of hpt 1 rfl
  have t2 : w4.cell? ⟨r10, 2, none⟩ = some (.slice av vs.length cv) := cell_of hpt 2 rfl
  clear HH hpt
  obtain ⟨FA, HFA⟩ : ∃ FA : List (Nat × Addr × Value), Hid (FA = [(0, ⟨r10, 0, none⟩, .int .i64 lv), (0, ⟨r10, 1, none⟩, .slice ak ks.length ck), (0, ⟨r10, 2, none⟩, .slice av vs.length cv)]) := ⟨_, rfl⟩
  have fa0_0 : ∀ n : In (factsOf FA 0), n.w.cell? ⟨r10, 0, none⟩ = some (.int .i64 lv) := fun n => factsOf.cell (by rw [HFA.out]; simp) n
  have fa0_1 : ∀ n : In (factsOf FA 0), n.w.cell? ⟨r10, 1, none⟩ = some (.slice ak ks.length ck) := fun n => factsOf.cell (by rw [HFA.out]; simp) n
  have fa0_2 : ∀ n : In (factsOf FA 0), n.w.cell? ⟨r10, 2, none⟩ = some (.slice av vs.length cv) := fun n => factsOf.cell (by rw [HFA.out]; simp) n
  have hFA : ∀ p ∈ FA, w4.cell? p.2.1 = some p.2.2 := by rw [HFA.out]; exact (fcons t0 (fcons t1 (fcons t2 fnil)))
  haveI neFA : ∀ k, Nonempty (In (factsOf FA k)) := fun k => ⟨⟨_, factsOf.drew hFA k⟩⟩
  refine ws_begin [0, 1, 2, 3, 4, 5, 6] (factsOf FA) (pts r10 (.cells #[.int .i64 lv, .slice ak ks.length ck, .slice av vs.length cv] 35 (0, 0)) :: intsS (.slice ak ks.length ck) ks :: intsS (.slice av vs.length cv) vs :: bytesS (.slice (some ⟨gb, 0, none⟩) 128 c) (frameOf 2 (nodeBytes ⟨lv, ks, vs⟩)) :: bankS N bank disks :: pts r4 (.cells #[.int .i64 0, .slice none 0 0, .slice none 0 0] 35 (0, 0)) :: SS :: l) #[0, 0, 0, 0, 14, 31, 63] (by kernel_rfl) (by kernel_rfl) (by kernel_rfl) factsOf.alloc (factsOf.drew hFA) hh ?_
  clear hFA
  refine ws_q (at_lit rfl) rfl rfl rfl ?_
  go_big_quiet_op
  show WS _ _ _ _ _ _ _ _ _ _
  refine ws_q (at_lit rfl) rfl rfl rfl ?_
  go_big_quiet_op
  show WS _ _ _ _ _ _ _ _ _ _
  refine ws_q (at_lit rfl) rfl rfl rfl ?_
  go_big_quiet_op
  show WS _ _ _ _ _ _ _ _ _ _
  refine ws_q (at_lit rfl) rfl rfl rfl ?_
  go_big_quiet_op
  show WS _ _ _ _ _ _ _ _ _ _
  refine ws_call (at_lit rfl) rfl rfl 80 #[.string ⟨#[112, 97, 103, 101]⟩, .int .i64 d, .int .i64 k, .nilIface] (fun w => by go_simp) (fun v L' => v = .nilIface ∧ L' = pts r10 (.cells #[.int .i64 lv, .slice ak ks.length ck, .slice av vs.length cv] 35 (0, 0)) :: intsS (.slice ak ks.length ck) ks :: intsS (.slice av vs.length cv) vs :: bytesS (.slice (some ⟨gb, 0, none⟩) 128 c) (frameOf 2 (nodeBytes ⟨lv, ks, vs⟩)) :: bankS N bank disks :: pts r4 (.cells #[.int .i64 0, .slice none 0 0, .slice none 0 0] 35 (0, 0)) :: SS :: l) (fun w' F hS hh => ?_) ?_
  · refine (wrap_nil _ _ _).mono ?_
    rintro r w2' ⟨rfl, rfl⟩
    exact ⟨_, _, rfl, Kept.refl _, ⟨rfl, rfl⟩, hh⟩
  rintro _ _ ⟨rfl, rfl⟩
  refine ⟨fun w F hh => lives (l' := [(0, ⟨r10, 0, none⟩, .int .i64 lv), (0, ⟨r10, 1, none⟩, .slice ak ks.length ck), (0, ⟨r10, 2, none⟩, .slice av vs.length cv)]) (by rw [HFA.out]; simp [liveFacts, Nat.testBit]) (fcons (cell_of (hh.at (b := r10) (o := (.cells #[.int .i64 lv, .slice ak ks.length ck, .slice av vs.length cv] 35 (0, 0))) (by simp)) 0 (v := .int .i64 lv) rfl) <| fcons (cell_of (hh.at (b := r10) (o := (.cells #[.int .i64 lv, .slice ak ks.length ck, .slice av vs.length cv] 35 (0, 0))) (by simp)) 1 (v := .slice ak ks.length ck) rfl) <| fcons (cell_of (hh.at (b := r10) (o := (.cells #[.int .i64 lv, .slice ak ks.length ck, .slice av vs.length cv] 35 (0, 0))) (by simp)) 2 (v := .slice av vs.length cv) rfl) <| fnil), ?_⟩
  simp only [Act.put, List.setIfInBounds_toArray, List.set_cons_zero, List.set_cons_succ]
  show WS _ _ _ _ _ _ _ _ _ _
  refine ws_reord [5] ?_
  simp only [reord, pull]
  refine ws_store (at_lit rfl) rfl rfl 35 (.tmp 4) (.tmp 38) rfl rfl (v := .agg #[.int .i64 lv, .slice ak ks.length ck, .slice av vs.length cv]) rfl (by simp [Value.cells]) (by simp [Value.cells, Value.oneCell']) (by kernel_rfl) (by simp only [Value.cells, putCells, List.setIfInBounds_toArray, List.set_cons_zero, List.set_cons_succ]; rfl) (fun w F hh => lives (l' := []) (by rw [HFA.out]; simp [liveFacts, Nat.testBit]) (fnil)) ?_
  simp only [Act.put, List.setIfInBounds_toArray, List.set_cons_zero, List.set_cons_succ]
  show WS _ _ _ _ _ _ _ _ _ _
  refine ws_q (at_lit rfl) rfl rfl rfl ?_
  go_big_quiet_op
  show WS _ _ _ _ _ _ _ _ _ _
  refine ws_end ?_
  intro w9 hK9 h9
  have hg := h9.got
  have HF : Hid (PReadPost SS bank N disks ⟨lv, ks, vs⟩ l w (.returned (.tuple #[.agg #[.int .i64 lv, .slice ak ks.length ck, .slice av vs.length cv], .nilIface])) w9) := by
    refine ⟨.slice ak ks.length ck, .slice av vs.length cv, rfl, HK.out.trans hK9, ?_⟩
    exact (h9.reord [0, 0, 2, 0, 0, 1]).tail.tail.tail
  have Z0 := Lib.hid (cell_of hg 0 (v := .int .i64 lv) rfl)
  have Z1 := Lib.hid (cell_of hg 1 (v := .slice ak ks.length ck) rfl)
  have Z2 := Lib.hid (cell_of hg 2 (v := .slice av vs.length cv) rfl)
  clear h9 hK9 hg HK HFA neFA FA fa0_0 fa0_1 fa0_2 t0 t1 t2 hh
  go_wp2
  exact bodyPost_ret (v := .tuple #[.agg #[.int .i64 lv, .slice ak ks.length ck, .slice av vs.length cv], .nilIface]) (by have z0 := Z0.out; have z1 := Z1.out; have z2 := Z2.out; simp [results, Tryz.results157, go_sem, z0, z1, z2]) rfl HF.out

theorem Below.drews {B : Nat} {a w : World} (h : Below B a w) (n : Nat) : Below B a (w.drewN n) := ⟨h.os, h.tape, h.output, h.size, h.block⟩
set_option maxRecDepth 100000 in
theorem node_Same_yes {w : World} (nd : Nd) {kv vv kv2 vv2 : Value} (h1 : Rd w kv nd.keys) (h2 : Rd w vv nd.vals) (h3 : Rd w kv2 nd.keys) (h4 : Rd w vv2 nd.vals) (hk : nd.keys.length ≤ 1000000) (hv : nd.vals.length ≤ 1000000) :
    Calls Tryz.prog 33 #[nd.val kv vv, nd.val kv2 vv2] w fun r w' => r = .returned (.bool true) ∧ Below w.heap.size w w' := by
  obtain ⟨lv, ks, vs⟩ := nd
  have hb : Below w.heap.size w ((w.alloc (.cells #[.int .i64 lv, kv, vv] 35)).alloc (.cells #[.int .i64 lv, kv2, vv2] 35)) := ((Below.refl _ _).alloc (Nat.le_refl _) _).alloc (by simp) _
  have HE1 := Lib.hid (slices_Equal_yes (h1.below hb) (h3.below hb) hk)
  have HE2 : Hid (∀ m, Calls Tryz.prog 95 #[vv, vv2] (((w.alloc (.cells #[.int .i64 lv, kv, vv] 35)).alloc (.cells #[.int .i64 lv, kv2, vv2] 35)).drewN m) fun r w' => r = .returned (.bool true) ∧ ∃ m', w' = (((w.alloc (.cells #[.int .i64 lv, kv, vv] 35)).alloc (.cells #[.int .i64 lv, kv2, vv2] 35)).drewN m).drewN m') :=
    fun m => slices_Equal_yes (h2.below (Below.drews hb m)) (h4.below (Below.drews hb m)) hv
  have Hb : Hid (∀ m, Below w.heap.size w (((w.alloc (.cells #[.int .i64 lv, kv, vv] 35)).alloc (.cells #[.int .i64 lv, kv2, vv2] 35)).drewN m)) := fun m => Below.drews hb m
  obtain ⟨a1, c1, e1, _⟩ := h1
  obtain ⟨a2, c2, e2, _⟩ := h2
  obtain ⟨a3, c3, e3, _⟩ := h3
  obtain ⟨a4, c4, e4, _⟩ := h4
  simp only at e1 e2 e3 e4
  subst e1 e2 e3 e4
  clear hb hk hv
  simp only [Nd.val]
  go_enter Tryz.func33, Tryz.ntmps33
  go_wp2_with fail
  refine HE1.out.mono ?_
  rintro r w1 ⟨rfl, m, rfl⟩
  go_wp2_with fail
  refine (HE2.out m).mono ?_
  rintro r w1 ⟨rfl, n, rfl⟩
  go_wp2
  go_ret
  exact ⟨rfl, Hb.out (m + n)⟩
end Go.Proofs.YtgbgneiciabidaaGreatDoor
