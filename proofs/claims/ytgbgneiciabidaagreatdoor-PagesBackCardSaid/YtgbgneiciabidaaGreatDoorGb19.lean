/-
  Disks and banks: what is read.
-/
import Derived.Test.YtgbgneiciabidaaGreatDoorGb7
import Derived.Test.YtgbgneiciabidaaGreatDoorGb8
import Derived.Test.YtgbgneiciabidaaGreatDoorGb1
import Derived.Laws.BytesArg
namespace Go.Proofs.YtgbgneiciabidaaGreatDoor
open Go Go.RowKit
set_option linter.all false

set_option maxRecDepth 100000 in
theorem sec_last {w : World} {l : List Say} {N b : Nat} {cur : List Int} {y : SecAt} (ok : SecOk N cur y) (hN : N ≤ 1000000) (h : Has w (secParts b cur y ++ l)) :
    Calls Tryz.prog 246 #[.pointer (some ⟨b, 0, none⟩)] w fun r w' => r = .returned y.lv ∧ w = w' := by
  have hp := Has.got h
  obtain ⟨_, a, c, hwv, _, _, hr⟩ := h.row_read (e := 141) (v := y.wv) (n := y.ws.length) (xs := y.ws) (by simp [secParts])
  obtain ⟨gv, wv, ws, lv⟩ := y
  simp only at hwv hp hr
  subst hwv
  have s0 : w.cell? ⟨b, 0, none⟩ = some gv := cell_of hp 0 rfl
  have s1 : w.cell? ⟨b, 1, none⟩ = some (.slice a ws.length c) := cell_of hp 1 rfl
  have l0 := World.block_lt_of_cell? _ _ s0
  have hn := ok.n
  simp only at hn
  rcases ok.last with ⟨h1, h2⟩ | ⟨h1, h2⟩
  · simp only at h1 h2
    subst h1 h2
    clear h hp hr ok
    simp only [List.length_nil] at s1
    go_enter Tryz.func246, Tryz.ntmps246
    go_wp2
    go_ret
    exact ⟨rfl, rfl⟩
  · simp only at h1 h2
    obtain ⟨m, hm⟩ : ∃ m, ws.length = m + 1 := ⟨ws.length - 1, by have := List.length_pos_iff.2 h1; omega⟩
    rw [hm] at h2 s1
    simp only [Nat.add_sub_cancel] at h2
    obtain ⟨g, rfl, hc, _⟩ := hr m lv h2
    have lg := World.block_lt_of_cell? _ _ hc
    have hmb : (m : Int) ≤ 1000000 := by omega
    clear h hp hr ok h1 h2 hm hn
    go_enter Tryz.func246, Tryz.ntmps246
    go_wp2
    go_ret
    exact ⟨rfl, rfl⟩

def ReadPost (N d : Nat) (secs : List (List Int)) (cur : List Int) (l : List Say) (w : World) (r : Ending) (w' : World) : Prop :=
  ∃ v, r = .returned (.tuple #[v, .nilIface]) ∧ Kept w w' ∧ Has w' (bytesS v cur :: diskS N d secs :: l)
set_option maxRecDepth 100000 in
set_option maxHeartbeats 1000000 in
theorem disk_Read {w : World} {l : List Say} {N d : Nat} {secs : List (List Int)} (h : Has w (diskS N d secs :: l)) (i : Nat) (cur : List Int) (hi : secs[i]? = some cur) (hN : N ≤ 1000000) :
    Calls Tryz.prog 232 #[.pointer (some ⟨d, 0, none⟩), .int .i64 (i : Int)] w (ReadPost N d secs cur l w) := by
  obtain ⟨x, b, y, a, c, hb, hn, hxb, hy, R, hh⟩ := h.disk_sec i cur hi
  obtain ⟨gd, cd, hlv, hcd, hdat, _⟩ := hh.bytes_read (v := y.lv) (cur := cur) (by simp [secParts]) (by have := hy.cur; omega)
  obtain ⟨g, rfl, p0⟩ := R.p0
  have c0 := R.c0
  have s2 := R.s2
  have hlt := (List.getElem?_eq_some_iff.1 hi).1
  have HHas := Lib.hid (disk_has c0 i hlt hn)
  have HL := Lib.hid (sec_last hy hN hh)
  have hcl := hy.cur
  have HC := Lib.hid (clone_u8 h gd 0 cur.length cd (cur.map byteVal) (by simp) (fun j u hu => by rw [Nat.zero_add]; exact hdat j u hu) (bytes_one cur) (by simp [maxLen]; omega) (by omega))
  rw [hlv] at HL
  have hi2 : (i : Int) < (secs.length : Int) := by omega
  have hi0 : (0 : Int) ≤ i := by omega
  have l0 := World.block_lt_of_cell? _ _ c0
  have l1 := World.block_lt_of_cell? _ _ p0
  have l2 := World.block_lt_of_cell? _ _ s2
  clear h hh R hdat hy hlv hb hn hxb hi hlt hcl
  go_enter Tryz.func232, Tryz.ntmps232
  go_wp2_with fail
  refine HHas.out.mono ?_
  rintro r w1 ⟨rfl, rfl⟩
  go_wp2_with fail
  refine HL.out.mono ?_
  rintro r w1 ⟨rfl, rfl⟩
  go_wp2_with fail
  refine HC.out.mono ?_
  rintro r w1 ⟨v, rfl, hK, h1⟩
  have HP : Hid (Kept w w1 ∧ Has w1 (bytesS v cur :: diskS N d secs :: l)) := ⟨hK, h1⟩
  clear hK h1 HC HL HHas
  go_wp2
  go_ret2
  exact ⟨v, rfl, HP.out⟩

def BReadPost (N b : Nat) (X : List Dsk) (cur : List Int) (l : List Say) (w : World) (r : Ending) (w' : World) : Prop :=
  ∃ v, r = .returned (.tuple #[v, .nilIface]) ∧ Kept w w' ∧ Has w' (bytesS v cur :: bankS N b X :: l)
set_option maxRecDepth 100000 in
set_option maxHeartbeats 1000000 in
theorem bank_Read {w : World} {l : List Say} {N b : Nat} {X : List Dsk} (h : Has w (bankS N b X :: l)) (i k : Nat) (secs : Dsk) (cur : List Int) (hi : X[i]? = some secs) (hk : secs[k]? = some cur) (hN : N ≤ 1000000) :
    Calls Tryz.prog 204 #[.pointer (some ⟨b, 0, none⟩), .int .i64 (i : Int), .int .i64 (k : Int)] w (BReadPost N b X cur l w) := by
  obtain ⟨x, hb, hX, hh⟩ := h.bank_open
  have hlt := (List.getElem?_eq_some_iff.1 hi).1
  obtain ⟨d, hxd⟩ : ∃ d, x.ds[i]? = some d := ⟨x.ds[i]'(by omega), List.getElem?_eq_getElem (by omega)⟩
  obtain ⟨a, c, R⟩ := hh.bank_read hb i d hxd
  have HL := Lib.hid (bank_live R hlt hX)
  have h3 := hh.zip_behind.zip_take hxd hi
  have HR := Lib.hid (disk_Read h3 k cur hk hN)
  have HF : Hid (∀ w' v, Has w' (bytesS v cur :: diskS N d secs :: (zipL (diskS N) (x.ds.eraseIdx i) (X.eraseIdx i) ++ (bankHead b x ++ l))) → Has w' (bytesS v cur :: bankS N b X :: l)) := by
    intro w' v h'
    have h4 : Has w' (diskS N d secs :: (zipL (diskS N) (x.ds.eraseIdx i) (X.eraseIdx i) ++ (bankHead b x ++ (bytesS v cur :: l)))) := by
      refine (h'.swap).perm (List.Perm.cons _ ?_)
      have e : ∀ (A : Say) (m n : List Say), (A :: (m ++ n)).Perm (m ++ A :: n) := fun A m n => List.perm_middle.symm
      exact (e _ _ _).trans (List.Perm.append_left _ (e _ _ _))
    have h5 := h4.zip_give hxd hlt
    have e2 : X.set i secs = X := by
      refine List.ext_getElem? fun j => ?_
      by_cases hj : j = i
      · subst hj; rw [List.getElem?_set_self hlt, hi]
      · rw [List.getElem?_set_ne (Ne.symm hj)]
    rw [e2] at h5
    exact (Has.bank_shut (x := x) hb hX h5.zip_ahead).swap
  clear h hh h3 R hi hk hxd hb hX hlt
  go_enter Tryz.func204, Tryz.ntmps204
  go_wp2_with fail
  refine HL.out.mono ?_
  rintro r w1 ⟨rfl, rfl⟩
  go_wp2_with fail
  refine HR.out.mono ?_
  rintro r w1 ⟨v, rfl, hK, h4⟩
  have HP : Hid (Kept w w1 ∧ Has w1 (bytesS v cur :: bankS N b X :: l)) := ⟨hK, HF.out _ _ h4⟩
  clear hK h4 HR HL HF
  go_wp2_with fail
  refine (wrap_nil _ _ _).mono ?_
  rintro r w2 ⟨rfl, rfl⟩
  go_wp2
  go_ret2
  exact ⟨v, rfl, HP.out⟩
end Go.Proofs.YtgbgneiciabidaaGreatDoor
/-
  Frames (layer 2): what was put is told again.
-/
namespace Go.Proofs.YtgbgneiciabidaaGreatDoor
open Go Go.RowKit
set_option linter.all false

/-- Bytes that lie from some place on. -/
def ByteRd (w : World) (b o : Nat) (xs : List Int) : Prop := ∀ k (hk : k < xs.length), w.cell? ⟨b, o + k, none⟩ = some (.int .u8 xs[k])
theorem bytes_Equal_yes {w : World} {b1 o1 c1 b2 o2 c2 : Nat} {xs : List Int} (h1 : ByteRd w b1 o1 xs) (h2 : ByteRd w b2 o2 xs) :
    Calls Tryz.prog 237 #[.slice (some ⟨b1, o1, none⟩) xs.length c1, .slice (some ⟨b2, o2, none⟩) xs.length c2] w fun r w' => r = .returned (.bool true) ∧ w = w' := by
  have e : ∀ (b o : Nat), ByteRd w b o xs → ∀ i, i < xs.length → w.cell? ⟨b, o + i, none⟩ = some (.int .u8 (xs.getD i 0)) := fun b o h i hi => by
    rw [h i hi, List.getD_eq_getElem?_getD, List.getElem?_eq_getElem hi]; rfl
  have r1 := run_convert_bytes_arg (P := Tryz.prog) w 141 5 Tryz.underlying141 Tryz.underlying5 b1 o1 xs.length c1 xs rfl (e b1 o1 h1) 9 Tryz.underlying9
  have r2 := run_convert_bytes_arg (P := Tryz.prog) w 141 5 Tryz.underlying141 Tryz.underlying5 b2 o2 xs.length c2 xs rfl (e b2 o2 h2) 9 Tryz.underlying9
  clear e h1 h2
  generalize strOfNums xs = s at *
  generalize xs.length = n at *
  go_enter Tryz.func237, Tryz.ntmps237
  go_wp2
  go_ret
  exact ⟨rfl, rfl⟩

theorem body_zero {w : World} : Calls Tryz.prog 254 #[.int .u8 0] w fun r w' => r = .returned (.bool false) ∧ w = w' := by
  go_enter Tryz.func254, Tryz.ntmps254
  go_wp2
  go_ret
  exact ⟨rfl, rfl⟩
set_option maxRecDepth 100000 in
theorem index_zero {w : World} {b o n c : Nat} (hn : n ≤ 1000) (h : ∀ k, k < n → w.cell? ⟨b, o + k, none⟩ = some (.int .u8 0)) :
    Calls Tryz.prog 255 #[.slice (some ⟨b, o, none⟩) n c, .func (.func 254) #[] #[]] w fun r w' => r = .returned (.int .i64 (-1)) ∧ w = w' := by
  have Hh := Lib.hid h
  have hnI : (n : Int) ≤ 1000 := by omega
  clear h
  go_enter Tryz.func255, Tryz.ntmps255
  go_wp2
  go_loop [8] (fun i => ∃ k : Nat, k ≤ n ∧ i = .int .i64 k) (fun i => n - (intOf i).toNat)
  case atStart => exact ⟨0, Nat.zero_le _, rfl⟩
  case round =>
    obtain ⟨k, hk, rfl⟩ := hrel
    by_cases hlt : k < n
    · have hc := Hh.out k hlt
      have hb := World.block_lt_of_cell? _ _ hc
      have hltI : (k : Int) < (n : Int) := by omega
      go_wp2_with fail
      refine body_zero.mono ?_
      rintro r w1 ⟨rfl, rfl⟩
      go_wp2
      go_round
      case rel => exact ⟨k + 1, by omega, by go_num⟩
      case measure => simp [intOf]; omega
    · have hge : (n : Int) ≤ (k : Int) := by omega
      go_wp2
      go_ret
      exact ⟨rfl, rfl⟩
theorem contains_zero {w : World} {b o n c : Nat} (hn : n ≤ 1000) (h : ∀ k, k < n → w.cell? ⟨b, o + k, none⟩ = some (.int .u8 0)) :
    Calls Tryz.prog 253 #[.slice (some ⟨b, o, none⟩) n c, .func (.func 254) #[] #[]] w fun r w' => r = .returned (.bool false) ∧ w = w' := by
  have H := Lib.hid (index_zero (c := c) hn h)
  clear h
  go_enter Tryz.func253, Tryz.ntmps253
  go_wp2_with fail
  refine H.out.mono ?_
  rintro r w1 ⟨rfl, rfl⟩
  go_wp2
  go_ret
  exact ⟨rfl, rfl⟩

/-- A row's beginning is a row. -/
theorem Has.row_prefix {w : World} {l : List Say} {e : TypeId} {size n m c : Nat} {a : Addr} {xs : List Value} (h : Has w (rowS e size (.slice (some a) n c) n xs :: l)) (hm : m ≤ n) :
    Has w (rowS e size (.slice (some a) m c) m (xs.take (m * size)) :: l) := by
  refine h.head fun g hg => ?_
  obtain ⟨h1, h2⟩ := hg
  rcases h2 with ⟨hv, _⟩ | ⟨b, cap, cur, hv, hb, hn, hcm, hs, ht⟩
  · cases hv
  · cases hv
    refine ⟨?_, .inr ⟨b, _, cur, rfl, hb, by omega, hcm, hs, ?_⟩⟩
    · rw [List.length_take, h1, Nat.min_eq_left (Nat.mul_le_mul_right _ hm)]
    · rw [← ht, List.take_take, Nat.min_eq_left (Nat.mul_le_mul_right _ hm)]

theorem Has.bytes_at {w : World} {l : List Say} {gb n c : Nat} {sec : List Int} (h : Has w l) (hm : bytesS (.slice (some ⟨gb, 0, none⟩) n c) sec ∈ l) : ByteRd w gb 0 sec := by
  intro k hk
  obtain ⟨_, a, c', hv, _, _, hr⟩ := h.row_read hm
  injection hv with e1 e2 e3
  obtain ⟨g, hg, hc, _⟩ := hr k (byteVal sec[k]) (by rw [List.getElem?_map, List.getElem?_eq_getElem hk]; rfl)
  rw [← e1] at hg
  cases hg
  rw [Nat.zero_add]; exact hc
theorem frame_tail {kind : Int} {cur : List Int} (h : cur.length ≤ 122) : (frameOf kind cur).take 124 = frameBody kind cur ∧ (frameOf kind cur).drop 124 = word4 (sumOf (frameBody kind cur)) := by
  have := body_len kind cur h
  unfold frameOf
  exact ⟨List.take_left' this, List.drop_left' this⟩

def SamePost (l : List Say) (w : World) (v : Value) (r : Ending) (w' : World) : Prop := r = .returned v ∧ Kept w w' ∧ Has w' l
set_option maxRecDepth 100000 in
set_option maxHeartbeats 1000000 in
theorem frame_check {w : World} {l : List Say} {gb c : Nat} {sec : List Int} (h : Has w (bytesS (.slice (some ⟨gb, 0, none⟩) 128 c) sec :: l)) (hc : 128 ≤ c) (hcm : c ≤ maxLen) (hl : sec.length = 128) (hs : sec.drop 124 = word4 (sumOf (sec.take 124))) :
    Calls Tryz.prog 247 #[(.slice (some ⟨gb, 0, none⟩) 128 c)] w (SamePost (bytesS (.slice (some ⟨gb, 0, none⟩) 128 c) sec :: l) w .nilIface) := by
  unfold maxLen at hcm
  have hcI : (128 : Int) ≤ (c : Int) := by omega
  have hcM : (c : Int) ≤ 9223372036854775807 := by omega
  have HSum : Hid (∀ (w' : World) (g1 : Nat) (F : List Say), Has w' (pts g1 (.cells #[.slice (some ⟨gb, 0, none⟩) 124 c] 141 (0, 0)) :: bytesS (.slice (some ⟨gb, 0, none⟩) 128 c) sec :: (l ++ F)) → Calls Tryz.prog 193 #[.slice (some ⟨g1, 0, none⟩) 1 1] w' fun r w2 => r = .returned (.int .u32 (sumOf (sec.take 124))) ∧ w' = w2) := by
    intro w' g1 F hh
    have h1 : Has w' (rowS 5 1 (.slice (some ⟨gb, 0, none⟩) 128 c) 128 (sec.map byteVal) :: pts g1 (.cells #[.slice (some ⟨gb, 0, none⟩) 124 c] 141 (0, 0)) :: (l ++ F)) := by
      have := hh.swap
      unfold bytesS at this
      rwa [hl] at this
    have h2 := h1.row_prefix (m := 124) (by omega)
    have h3 : Has w' (bytesS (.slice (some ⟨gb, 0, none⟩) 124 c) (sec.take 124) :: pts g1 (.cells #[.slice (some ⟨gb, 0, none⟩) 124 c] 141 (0, 0)) :: (l ++ F)) := by
      unfold bytesS
      rw [List.length_take, hl, List.map_take]
      exact h2
    exact frame_Sum h3 (.head _) (by rw [List.length_take, hl]; decide) (by rw [List.length_take, hl]; decide) g1 1 (cell_of hh.got 0 rfl)
  have HEq : Hid (∀ (w' : World) (g1 g2 : Nat) (F : List Say), Has w' (pts g2 (.cells ((word4 (sumOf (sec.take 124))).map byteVal).toArray 5 (0, 0)) :: pts g1 (.cells #[.slice (some ⟨gb, 0, none⟩) 124 c] 141 (0, 0)) :: bytesS (.slice (some ⟨gb, 0, none⟩) 128 c) sec :: (l ++ F)) →
      Calls Tryz.prog 237 #[.slice (some ⟨gb, 124, none⟩) 4 (c - 124), .slice (some ⟨g2, 0, none⟩) 4 4] w' fun r w2 => r = .returned (.bool true) ∧ w' = w2) := by
    intro w' g1 g2 F hh
    have hb := hh.bytes_at (gb := gb) (n := 128) (c := c) (sec := sec) (by simp)
    have hg := hh.got
    have h1 : ByteRd w' gb 124 (word4 (sumOf (sec.take 124))) := by
      intro k hk
      have hk4 : k < 4 := hk
      have := hb (124 + k) (by omega)
      rw [Nat.zero_add] at this
      rw [this, ← List.getElem_drop (h := by rw [hs]; exact hk)]
      simp only [hs]
    have h2 : ByteRd w' g2 0 (word4 (sumOf (sec.take 124))) := by
      intro k hk
      rw [Nat.zero_add]
      refine cell_of hg k ?_
      rw [List.getElem?_toArray, List.getElem?_map, List.getElem?_eq_getElem hk]; rfl
    exact bytes_Equal_yes (xs := word4 (sumOf (sec.take 124))) h1 h2
  have HH := Lib.hid h
  clear h hs hl
  go_enter Tryz.func247, Tryz.ntmps247
  go_wp2
  have hh := HH.out
  clear HH
  obtain ⟨FA, HFA⟩ : ∃ FA : List (Nat × Addr × Value), Hid (FA = []) := ⟨_, rfl⟩
  have hFA : ∀ p ∈ FA, w.cell? p.2.1 = some p.2.2 := by rw [HFA.out]; exact fnil
  haveI neFA : ∀ k, Nonempty (In (factsOf FA k)) := fun k => ⟨⟨_, factsOf.drew hFA k⟩⟩
  refine ws_begin [0, 1, 2, 3, 4, 5, 6, 7, 8, 9] (factsOf FA) (bytesS (.slice (some ⟨gb, 0, none⟩) 128 c) sec :: l) #[0, 1, 0, 4, 12, 28, 60, 127, 255, 511] (by kernel_rfl) (by kernel_rfl) (by kernel_rfl) factsOf.alloc (factsOf.drew hFA) hh ?_
  clear hFA
  refine ws_q (at_lit rfl) rfl rfl rfl ?_
  go_big_quiet_op
  show WS _ _ _ _ _ _ _ _ _ _
  refine ws_q (at_lit rfl) rfl rfl rfl ?_
  go_big_quiet_op
  show WS _ _ _ _ _ _ _ _ _ _
  refine ws_q (at_lit rfl) rfl rfl rfl ?_
  go_big_quiet_op
  show WS _ _ _ _ _ _ _ _ _ _
  refine ws_q (at_lit rfl) rfl rfl rfl ?_
  go_big_quiet_op
  show WS _ _ _ _ _ _ _ _ _ _
  refine ws_slice (at_lit rfl) rfl rfl 1 (.cells #[.slice (some ⟨gb, 0, none⟩) 124 c] 141 (0, 0)) (fun w => by go_simp) ?_
  intro g1
  simp only [Act.put, List.setIfInBounds_toArray, List.set_cons_zero, List.set_cons_succ]
  show WS _ _ _ _ _ _ _ _ _ _
  refine ws_call (at_lit rfl) rfl rfl 193 #[.slice (some ⟨g1, 0, none⟩) 1 1] (fun w => by go_simp) (fun v L' => v = .int .u32 (sumOf (sec.take 124)) ∧ L' = pts g1 (.cells #[.slice (some ⟨gb, 0, none⟩) 124 c] 141 (0, 0)) :: bytesS (.slice (some ⟨gb, 0, none⟩) 128 c) sec :: l) (fun w' F hS hh => ?_) ?_
  · refine (HSum.out w' g1 F (by simpa using hh)).mono ?_
    rintro r w2 ⟨rfl, rfl⟩
    exact ⟨_, _, rfl, Kept.refl _, ⟨rfl, rfl⟩, hh⟩
  rintro _ _ ⟨rfl, rfl⟩
  refine ⟨fun w F hh => lives (l' := []) (by rw [HFA.out]; simp [liveFacts, Nat.testBit]) (fnil), ?_⟩
  simp only [Act.put, List.setIfInBounds_toArray, List.set_cons_zero, List.set_cons_succ]
  show WS _ _ _ _ _ _ _ _ _ _
  refine ws_call (at_lit rfl) rfl rfl 192 #[.int .u32 (sumOf (sec.take 124))] (fun w => by go_simp) (fun v L' => ∃ g2 : Nat, v = .slice (some ⟨g2, 0, none⟩) 4 4 ∧ L' = pts g2 (.cells ((word4 (sumOf (sec.take 124))).map byteVal).toArray 5 (0, 0)) :: pts g1 (.cells #[.slice (some ⟨gb, 0, none⟩) 124 c] 141 (0, 0)) :: bytesS (.slice (some ⟨gb, 0, none⟩) 128 c) sec :: l) (fun w' F hS hh => ?_) ?_
  · refine (frame_word _).mono ?_
    rintro r w2 ⟨rfl, rfl⟩
    exact ⟨_, _, rfl, (Kept.refl _).alloc _, ⟨_, rfl, rfl⟩, hh.alloc _⟩
  rintro _ _ ⟨g2, rfl, rfl⟩
  refine ⟨fun w F hh => lives (l' := []) (by rw [HFA.out]; simp [liveFacts, Nat.testBit]) (fnil), ?_⟩
  simp only [Act.put, List.setIfInBounds_toArray, List.set_cons_zero, List.set_cons_succ]
  show WS _ _ _ _ _ _ _ _ _ _
  refine ws_call (at_lit rfl) rfl rfl 237 #[.slice (some ⟨gb, 124, none⟩) 4 (c - 124), .slice (some ⟨g2, 0, none⟩) 4 4] (fun w => by go_simp) (fun v L' => v = .bool true ∧ L' = pts g2 (.cells ((word4 (sumOf (sec.take 124))).map byteVal).toArray 5 (0, 0)) :: pts g1 (.cells #[.slice (some ⟨gb, 0, none⟩) 124 c] 141 (0, 0)) :: bytesS (.slice (some ⟨gb, 0, none⟩) 128 c) sec :: l) (fun w' F hS hh => ?_) ?_
  · refine (HEq.out w' g1 g2 F (by simpa using hh)).mono ?_
    rintro r w2 ⟨rfl, rfl⟩
    exact ⟨_, _, rfl, Kept.refl _, ⟨rfl, rfl⟩, hh⟩
  rintro _ _ ⟨rfl, rfl⟩
  refine ⟨fun w F hh => lives (l' := []) (by rw [HFA.out]; simp [liveFacts, Nat.testBit]) (fnil), ?_⟩
  simp only [Act.put, List.setIfInBounds_toArray, List.set_cons_zero, List.set_cons_succ]
  show WS _ _ _ _ _ _ _ _ _ _
  refine ws_q (at_lit rfl) rfl rfl rfl ?_
  go_big_quiet_op
  show WS _ _ _ _ _ _ _ _ _ _
  refine ws_q (at_lit rfl) rfl rfl rfl ?_
  go_big_quiet_op
  show WS _ _ _ _ _ _ _ _ _ _
  refine ws_end ?_
  intro w9 hK9 h9
  have HF : Hid (Kept w w9 ∧ Has w9 (bytesS (.slice (some ⟨gb, 0, none⟩) 128 c) sec :: l)) := ⟨hK9, h9.tail.tail⟩
  clear hK9 h9 HFA neFA FA HSum HEq hh
  go_wp2
  go_ret
  exact ⟨rfl, HF.out⟩

def BodyPost (gb c : Nat) (kind : Int) (cur : List Int) (l : List Say) (w : World) (r : Ending) (w' : World) : Prop := ∃ v, r = .returned (.tuple #[v, .nilIface]) ∧ Kept w w' ∧ Has w' (bytesS v cur :: bytesS (.slice (some ⟨gb, 0, none⟩) 128 c) (frameOf kind cur) :: l)
theorem frame_at {kind : Int} {cur : List Int} (h : cur.length ≤ 122) : (frameOf kind cur)[0]? = some kind ∧ (frameOf kind cur)[1]? = some (cur.length : Int) ∧ (∀ k (hk : k < cur.length), (frameOf kind cur)[2 + k]? = some cur[k]) ∧ (∀ k, 2 + cur.length + k < 124 → (frameOf kind cur)[2 + cur.length + k]? = some 0) := by
  have hb := body_len kind cur h
  have e : ∀ i, i < 124 → (frameOf kind cur)[i]? = (frameBody kind cur)[i]? := fun i hi => by
    unfold frameOf
    rw [List.getElem?_append_left (by omega)]
  refine ⟨by rw [e 0 (by omega)]; rfl, by rw [e 1 (by omega)]; rfl, fun k hk => ?_, fun k hk => ?_⟩
  · rw [e (2 + k) (by omega), show 2 + k = k + 1 + 1 by omega]
    show (cur ++ List.replicate (122 - cur.length) 0)[k]? = _
    rw [List.getElem?_append_left hk, List.getElem?_eq_getElem hk]
  · rw [e _ hk, show 2 + cur.length + k = cur.length + k + 1 + 1 by omega]
    show (cur ++ List.replicate (122 - cur.length) 0)[cur.length + k]? = _
    rw [List.getElem?_append_right (by omega), List.getElem?_replicate, if_pos (by omega)]
theorem ByteRd.get {w : World} {b o k : Nat} {xs : List Int} {x : Int} (h : ByteRd w b o xs) (hx : xs[k]? = some x) : w.cell? ⟨b, o + k, none⟩ = some (.int .u8 x) := by
  have hk := (List.getElem?_eq_some_iff.1 hx).1
  rw [h k hk]
  rw [List.getElem?_eq_getElem hk] at hx
  rw [Option.some.inj hx]
set_option maxRecDepth 100000 in
set_option maxHeartbeats 1000000 in
theorem frame_body {w : World} {l : List Say} {gb c : Nat} {kind : Int} {cur : List Int} (h : Has w (bytesS (.slice (some ⟨gb, 0, none⟩) 128 c) (frameOf kind cur) :: l)) (hc : 128 ≤ c) (hcm : c ≤ maxLen) (h1 : cur.length ≤ 122) :
    Calls Tryz.prog 248 #[(.slice (some ⟨gb, 0, none⟩) 128 c)] w (BodyPost gb c kind cur l w) := by
  unfold maxLen at hcm
  obtain ⟨f0, f1, f2, f3⟩ := frame_at (kind := kind) h1
  have hb := h.bytes_at (gb := gb) (n := 128) (c := c) (sec := frameOf kind cur) (.head _)
  have b1 : w.cell? ⟨gb, 1, none⟩ = some (.int .u8 (cur.length : Int)) := by have := hb.get f1; rwa [Nat.zero_add] at this
  have lb := World.block_lt_of_cell? _ _ b1
  have hcI : (128 : Int) ≤ (c : Int) := by omega
  have hcM : (c : Int) ≤ 9223372036854775807 := by omega
  have hlI : (cur.length : Int) ≤ 122 := by omega
  have HZ : Hid (∀ m c', m ≤ 122 - cur.length → Calls Tryz.prog 253 #[.slice (some ⟨gb, 2 + cur.length, none⟩) m c', .func (.func 254) #[] #[]] w fun r w' => r = .returned (.bool false) ∧ w = w') :=
    fun m c' hm => contains_zero (by omega) fun k hk => by
      have := hb.get (f3 k (by omega))
      rwa [Nat.zero_add] at this
  have HC : Hid (∀ c', Calls Tryz.prog 191 #[.slice (some ⟨gb, 2, none⟩) cur.length c'] w (ClonePost w 5 1 cur.length (cur.map byteVal) (bytesS (.slice (some ⟨gb, 0, none⟩) 128 c) (frameOf kind cur) :: l))) := fun c' =>
    clone_u8 h gb 2 cur.length c' (cur.map byteVal) (by simp) (fun j u hu => by
      have hj : j < cur.length := by have := (List.getElem?_eq_some_iff.1 hu).1; simpa using this
      rw [List.getElem?_map, List.getElem?_eq_getElem hj] at hu
      obtain rfl := Option.some.inj hu
      have := hb.get (f2 j hj)
      rwa [Nat.zero_add] at this) (bytes_one cur) (by simp [maxLen]; omega) (by omega)
  have H1 := Lib.hid h1
  clear h hb f0 f1 f2 f3 h1
  generalize hn : cur.length = n at *
  have Hn := Lib.hid hn
  clear hn
  go_enter Tryz.func248, Tryz.ntmps248
  go_wp2_with fail
  refine (HZ.out _ _ (by omega)).mono ?_
  rintro r w1 ⟨rfl, rfl⟩
  go_wp2_with fail
  refine (HC.out _).mono ?_
  rintro r w1 ⟨v, rfl, hK, h2⟩
  have HP : Hid (Kept w w1 ∧ Has w1 (bytesS v cur :: bytesS (.slice (some ⟨gb, 0, none⟩) 128 c) (frameOf kind cur) :: l)) := ⟨hK, by unfold bytesS; rw [Hn.out]; exact h2⟩
  clear hK h2 HC HZ
  go_wp2
  go_ret2
  exact ⟨v, rfl, HP.out⟩

set_option maxRecDepth 100000 in
set_option maxHeartbeats 1000000 in
theorem frame_Get {w : World} {l : List Say} {gb c : Nat} {kind : Int} {cur : List Int} (h : Has w (bytesS (.slice (some ⟨gb, 0, none⟩) 128 c) (frameOf kind cur) :: l)) (hc : 128 ≤ c) (hcm : c ≤ maxLen) (h1 : cur.length ≤ 122) :
    Calls Tryz.prog 233 #[.int .u8 kind, (.slice (some ⟨gb, 0, none⟩) 128 c)] w (BodyPost gb c kind cur l w) := by
  obtain ⟨t1, t2⟩ := frame_tail (kind := kind) h1
  have HC := Lib.hid (frame_check h hc hcm (frame_len kind cur h1) (by rw [t1, t2]))
  clear t1 t2
  have hcm' := hcm
  unfold maxLen at hcm'
  have hcI : (128 : Int) ≤ (c : Int) := by omega
  have H1 := Lib.hid h1
  have Hc := Lib.hid hc
  have Hcm := Lib.hid hcm
  clear h h1 hc hcm hcm'
  go_enter Tryz.func233, Tryz.ntmps233
  go_wp2_with fail
  refine HC.out.mono ?_
  rintro r w1 ⟨rfl, hK, hh⟩
  have b0 : w1.cell? ⟨gb, 0, none⟩ = some (.int .u8 kind) := by
    have := (hh.bytes_at (gb := gb) (n := 128) (c := c) (sec := frameOf kind cur) (.head _)).get (frame_at (kind := kind) H1.out).1
    rwa [Nat.zero_add] at this
  have lb := World.block_lt_of_cell? _ _ b0
  have HB := Lib.hid (frame_body hh Hc.out Hcm.out H1.out)
  have HK := Lib.hid hK
  clear hK hh HC
  go_wp2_with fail
  refine HB.out.mono ?_
  rintro r w2 ⟨v, rfl, hK, h2⟩
  have HP : Hid (Kept w w2 ∧ Has w2 (bytesS v cur :: bytesS (.slice (some ⟨gb, 0, none⟩) 128 c) (frameOf kind cur) :: l)) := ⟨HK.out.trans hK, h2⟩
  clear hK h2 HB HK
  go_wp2
  go_ret2
  exact ⟨v, rfl, HP.out⟩
end Go.Proofs.YtgbgneiciabidaaGreatDoor
