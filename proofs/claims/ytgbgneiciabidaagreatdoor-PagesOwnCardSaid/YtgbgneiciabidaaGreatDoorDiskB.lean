/-
  Disks (layer 3), the second part: a write.
-/
import Derived.Test.YtgbgneiciabidaaGreatDoorDisk
namespace Go.Proofs.YtgbgneiciabidaaGreatDoor
open Go Go.RowKit
set_option linter.unusedVariables false
set_option linter.unusedSimpArgs false

/-- What whoever reads a row of bytes finds. -/
theorem Has.bytes_read {w : World} {l : List Say} {v : Value} {cur : List Int} (h : Has w l) (hm : bytesS v cur ∈ l) (hne : 0 < cur.length) :
    ∃ g c, v = .slice (some ⟨g, 0, none⟩) cur.length c ∧ cur.length ≤ c ∧ (∀ j u, (cur.map byteVal)[j]? = some u → w.cell? ⟨g, j, none⟩ = some u) ∧ ∀ j, w.frozen? ⟨g, j, none⟩ = false := by
  obtain ⟨_, a, c, hv, hc, _, hr⟩ := h.row_read hm
  obtain ⟨g, rfl, _, hf⟩ := hr 0 (byteVal cur[0]) (by simp [hne])
  refine ⟨g, c, hv, hc, fun j u hu => ?_, hf⟩
  obtain ⟨g', hg, hc', _⟩ := hr j u hu
  cases hg
  exact hc'
theorem bytes_one (cur : List Int) : ∀ u ∈ cur.map byteVal, u.oneCell' = true := by
  intro u hu
  obtain ⟨n, _, rfl⟩ := List.mem_map.1 hu
  rfl

structure DiskRead (w : World) (d i b n : Nat) (a : Option Addr) (c : Nat) (x : SecAt) : Prop where
  c0 : w.cell? ⟨d, 0, none⟩ = some (.slice a n c)
  p0 : ∃ g, a = some ⟨g, 0, none⟩ ∧ w.cell? ⟨g, i, none⟩ = some (.pointer (some ⟨b, 0, none⟩))
  s1 : w.cell? ⟨b, 1, none⟩ = some x.wv
  f1 : w.frozen? ⟨b, 1, none⟩ = false
  s0 : w.cell? ⟨b, 0, none⟩ = some x.gv
  s2 : w.cell? ⟨b, 2, none⟩ = some (.bool false)
/-- A sector taken out of its disk. -/
theorem Has.disk_sec {w : World} {l : List Say} {N d : Nat} {secs : List (List Int)} (h : Has w (diskS N d secs :: l)) (i : Nat) (cur : List Int) (hi : secs[i]? = some cur) :
    ∃ (x : DiskAt) (b : Nat) (y : SecAt) (a : Option Addr) (c : Nat), x.bs.length = secs.length ∧ secs.length ≤ 4096 ∧ x.bs[i]? = some b ∧ SecOk N cur y ∧ DiskRead w d i b secs.length a c y ∧
      Has w (secParts b cur y ++ (zipL (sectorS N) (x.bs.eraseIdx i) (secs.eraseIdx i) ++ (pts d (.cells #[x.v] 278 (0, 0)) :: rowS 315 1 x.v x.bs.length (x.bs.map ptrOf) :: l))) := by
  obtain ⟨x, hb, hn, hh⟩ := h.disk_open
  have hlt := (List.getElem?_eq_some_iff.1 hi).1
  obtain ⟨b, hxb⟩ : ∃ b, x.bs[i]? = some b := ⟨x.bs[i]'(by omega), List.getElem?_eq_getElem (by omega)⟩
  obtain ⟨_, a, c, hv, _, _, hr⟩ := hh.row_read (e := 315) (v := x.v) (n := x.bs.length) (xs := x.bs.map ptrOf) (by simp [diskFlat])
  obtain ⟨g, hg, hcg, _⟩ := hr i (ptrOf b) (by rw [List.getElem?_map, hxb]; rfl)
  have hd : w.cell? ⟨d, 0, none⟩ = some (.slice a secs.length c) := by
    have := hh.at (b := d) (o := .cells #[x.v] 278 (0, 0)) (by simp [diskFlat])
    rw [hv, hb] at this
    exact cell_of this 0 rfl
  have h1 := (hh.zip_behind).zip_take hxb hi
  obtain ⟨y, hy, h2⟩ := h1.sec_open
  have hp := h2.got
  exact ⟨x, b, y, a, c, hb, hn, hxb, hy, ⟨hd, ⟨g, hg, hcg⟩, cell_of hp 1 rfl, thaw_of hp 1, cell_of hp 0 rfl, cell_of hp 2 rfl⟩, h2⟩
/-- .. and back. -/
theorem Has.disk_back {w : World} {l : List Say} {N M d : Nat} {secs : List (List Int)} {x : DiskAt} {i b : Nat} {cur : List Int} {y : SecAt} (hNM : N ≤ M) (hb : x.bs.length = secs.length) (hn : secs.length ≤ 4096) (hxb : x.bs[i]? = some b) (hy : SecOk M cur y)
    (h : Has w (secParts b cur y ++ (zipL (sectorS N) (x.bs.eraseIdx i) (secs.eraseIdx i) ++ (pts d (.cells #[x.v] 278 (0, 0)) :: rowS 315 1 x.v x.bs.length (x.bs.map ptrOf) :: l)))) :
    Has w (diskS M d (secs.set i cur) :: l) := by
  have hlt := (List.getElem?_eq_some_iff.1 hxb).1
  have h1 := h.sec_shut hy
  have h2 : Has w (sectorS M b cur :: (zipL (sectorS M) (x.bs.eraseIdx i) (secs.eraseIdx i) ++ (pts d (.cells #[x.v] 278 (0, 0)) :: rowS 315 1 x.v x.bs.length (x.bs.map ptrOf) :: l))) :=
    Sep.cons_mono (fun _ => Sep.zip_mono (fun b x h => sector_mono hNM b x h) _ _) h1
  have h3 := (h2.zip_give hxb (by omega)).zip_ahead
  exact Has.disk_shut (x := x) (by simp [hb]) (by simpa using hn) h3

def WritePost (w : World) (N d i : Nat) (secs : List (List Int)) (data : List Int) (l : List Say) (r : Ending) (w' : World) : Prop :=
  r = .returned .nilIface ∧ Kept w w' ∧ Has w' (diskS (N + 1) d (secs.set i data) :: l)

set_option maxRecDepth 100000 in
set_option maxHeartbeats 1000000 in
theorem disk_Write {w : World} {l : List Say} {N d : Nat} {secs : List (List Int)} (h : Has w (diskS N d secs :: l)) (i : Nat) (hi : i < secs.length) (v : Value) (data : List Int) (hd : bytesS v data ∈ l) (hdl : data.length = 128) (hN : N ≤ 1000000) :
    Calls Tryz.prog 199 #[.pointer (some ⟨d, 0, none⟩), .int .i64 (i : Int), v] w (WritePost w N d i secs data l) := by
  obtain ⟨x, b, y, a, c, hb, hn, hxb, hy, R, hh⟩ := h.disk_sec i secs[i] (List.getElem?_eq_getElem hi)
  obtain ⟨gd, cd, rfl, hcd, hdat, _⟩ := hh.bytes_read (v := v) (cur := data) (by simp [hd]) (by omega)
  obtain ⟨g, rfl, p0⟩ := R.p0
  have c0 := R.c0
  have s1 := R.s1
  have f1 := R.f1
  obtain ⟨aw, cw, hwv, _⟩ := hh.row_val (e := 141) (size := 1) (v := y.wv) (n := y.ws.length) (xs := y.ws) (by simp [secParts])
  obtain ⟨gv, wv, ws, lv⟩ := y
  simp only at hwv
  subst hwv
  simp only [secParts, List.cons_append, List.nil_append] at hh s1
  have HHas := Lib.hid (disk_has c0 i hi hn)
  have hi2 : (i : Int) < (secs.length : Int) := by omega
  have hi0 : (0 : Int) ≤ i := by omega
  have l0 := World.block_lt_of_cell? _ _ c0
  have l1 := World.block_lt_of_cell? _ _ p0
  have l2 := World.block_lt_of_cell? _ _ s1
  have hd0 : ((data.length : Int) == 128) = true := by rw [hdl]; rfl
  have hws : ws.length ≤ N := hy.n
  obtain ⟨i0, I1, I2, I3, I4⟩ := info_parts info_wait
  obtain ⟨L, hL⟩ : ∃ L, L = (zipL (sectorS N) (x.bs.eraseIdx i) (secs.eraseIdx i) ++ (pts d (.cells #[x.v] 278 (0, 0)) :: rowS 315 1 x.v x.bs.length (x.bs.map ptrOf) :: l)) := ⟨_, rfl⟩
  rw [← hL] at hh
  have HC := Lib.hid (clone_u8 (w := w.drew) hh.drew gd 0 data.length cd (data.map byteVal) (by simp) (fun j u hu => by rw [Nat.zero_add]; exact hdat j u hu) (bytes_one data) (by simp [maxLen]; omega) (by omega))
  have Hk : Hid (Kept w w.drew) := (Kept.refl w).drew
  have HF : Hid (∀ w' v' cv, Has w' (pts b (.cells #[gv, v', .bool false] 318 (0, 0)) :: rowS 141 1 v' (ws.length + 1) (ws ++ [cv]) :: rowS 5 1 cv data.length (data.map byteVal) :: bytesS lv secs[i] :: L) → Has w' (diskS (N + 1) d (secs.set i data) :: l)) := by
    intro w' v' cv h'
    rw [hL] at h'
    have h2 := (h'.pull 3).tail
    refine Has.disk_back (x := x) (b := b) (y := ⟨gv, v', ws ++ [cv], cv⟩) (Nat.le_succ N) hb hn hxb ⟨by simp; omega, hdl, .inr ⟨by simp, by simp⟩⟩ ?_
    have e : (ws ++ [cv]).length = ws.length + 1 := by simp
    simp only [secParts, e]
    exact h2
  clear R hh h hdat hy hb hn hxb hd hL
  have Hdl := Lib.hid hdl
  clear hdl
  go_enter Tryz.func199, Tryz.ntmps199
  go_wp2_with fail
  refine HHas.out.mono ?_
  rintro r w1 ⟨rfl, rfl⟩
  go_upto_region 6 with fail
  go_region_law (first
    | (go_loud (refine step_append_row rfl (.tmp 30) (.tmp 33) 316 rfl 141 i0 (.slice none 0 0) 1 24 Tryz.underlying316 I1 I2 I3 I4 rfl (by decide) (.slice aw ws.length cw) ws.length ws rfl (HRow.out.alloc_off _) ⟨_, 0, none⟩ 1 1 [.slice ac data.length kc] rfl rfl (one_new _ _ _) (by intro u hu; simp at hu; subst hu; rfl) (by simp [maxLen]; omega) (by omega) ?_)
       intro v2 V2 hK2 h2; obtain ⟨a2, c2, rfl, _⟩ := h2.row_val (e := 141) (size := 1) (n := ws.length + 1) (v := v2) (xs := ws ++ [.slice ac data.length kc]) (.head _); have hp2 := (h2.pull 2).got; have s1'' := cell_of hp2 1 rfl; have f1'' := thaw_of hp2 1; have H5 := Lib.hid h2; have HK5 := Lib.hid hK2; clear h2 hK2 hp2)
    | (go_simp; go_at_call 191; refine HC.out.mono ?_; rintro r V ⟨cv, rfl, hk, hv⟩; obtain ⟨ac, kc, rfl, _⟩ := hv.row_val (e := 5) (size := 1) (n := data.length) (v := cv) (xs := data.map byteVal) (.head _); have hp1 := (hv.pull 1).got; have s1' := cell_of hp1 1 rfl; have l2' := World.block_lt_of_cell? _ _ s1'; have HRow : Hid (Has V (rowS 141 1 (.slice aw ws.length cw) ws.length ws :: rowS 5 1 (.slice ac data.length kc) data.length (data.map byteVal) :: pts b (.cells #[gv, .slice aw ws.length cw, .bool false] 318 (0, 0)) :: bytesS lv secs[i] :: L)) := hv.pull 2; have HK4 := Lib.hid hk; clear hv hk hp1))
  all_goals
    go_wp2
    go_ret
    refine ⟨rfl, (((Hk.out.trans HK4.out).alloc _).trans HK5.out).setCell _ _, HF.out _ (.slice a2 (ws.length + 1) c2) (.slice ac data.length kc) ?_⟩
    exact (((H5.out.pull 2).setCell 1 (.slice a2 (ws.length + 1) c2)))
end Go.Proofs.YtgbgneiciabidaaGreatDoor
