/-
  Disks (layer 3): what a sector tells last.
-/
import Derived.Test.YtgbgneiciabidaaGreatDoorGs2
import Derived.Deep.RegionLaw
import Derived.Deep.DeepCutAuto
import Derived.StillTailTactics
import Derived.Deep.OwnRows
namespace Go.Proofs.YtgbgneiciabidaaGreatDoor
open Go Go.RowKit
set_option linter.all false
set_option maxHeartbeats 8000000
def byteVal (n : Int) : Value := .int .u8 n
def bytesS (v : Value) (cur : List Int) : Say := rowS 5 1 v cur.length (cur.map byteVal)
def ptrOf (b : Nat) : Value := .pointer (some ⟨b, 0, none⟩)
structure SecAt where
 gv : Value
 wv : Value
 ws : List Value
 lv : Value
structure SecOk (N : Nat) (cur : List Int) (x : SecAt) : Prop where
 n : x.ws.length <= N
 cur : cur.length = 128
 last : (x.ws = [] /\ x.lv = x.gv) \/ (x.ws ≠ [] /\ x.ws[x.ws.length - 1]? = some x.lv)
def secParts (b : Nat) (cur : List Int) (x : SecAt) : List Say :=
 [pts b (.cells #[x.gv, x.wv, .bool false] 318 (0, 0)), rowS 141 1 x.wv x.ws.length x.ws, bytesS x.lv cur]
def sectorS (N b : Nat) (cur : List Int) : Say := ex fun x : SecAt => fact (SecOk N cur x) (all (secParts b cur x))
theorem Has.sec_open {w : World} {l : List Say} {N b : Nat} {cur : List Int} (h : Has w (sectorS N b cur :: l)) : ∃ x, SecOk N cur x /\ Has w (secParts b cur x ++ l) := by
 obtain ⟨x, h⟩ := h.opened
 obtain ⟨ok, h⟩ := h.unfact
 exact ⟨x, ok, h.split⟩
theorem Has.sec_shut {w : World} {l : List Say} {N b : Nat} {cur : List Int} {x : SecAt} (ok : SecOk N cur x) (h : Has w (secParts b cur x ++ l)) : Has w (sectorS N b cur :: l) := Has.chosen x (Has.tofact ok h.unite)
def zipL {β : Type} (f : Nat -> β -> Say) (bs : List Nat) (xs : List β) : List Say := (bs.zip xs).map fun y => f y.1 y.2
theorem zip_focus {β : Type} (f : Nat -> β -> Say) : ∀ (bs : List Nat) (xs : List β) (d b : Nat) (y : β), bs[d]? = some b -> xs[d]? = some y ->
  (zipL f bs xs).Perm (f b y :: zipL f (bs.eraseIdx d) (xs.eraseIdx d))
 | [], _, _, _, _, h, _ => by simp at h
 | _ :: _, [], _, _, _, _, h => by simp at h
 | b0 :: bs, y0 :: xs, 0, b, y, hb, hy => by
  simp at hb hy
  subst hb hy
  exact .refl _
 | b0 :: bs, y0 :: xs, d + 1, b, y, hb, hy => by
  have h1 := zip_focus f bs xs d b y (by simpa using hb) (by simpa using hy)
  exact (h1.cons (f b0 y0)).trans (.swap _ _ _)
theorem Has.zip_take {β : Type} {f : Nat -> β -> Say} {w : World} {l : List Say} {bs : List Nat} {xs : List β} {d b : Nat} {y : β} (h : Has w (zipL f bs xs ++ l)) (hb : bs[d]? = some b) (hy : xs[d]? = some y) :
  Has w (f b y :: (zipL f (bs.eraseIdx d) (xs.eraseIdx d) ++ l)) := h.perm ((zip_focus f bs xs d b y hb hy).append_right l)
theorem Has.zip_give {β : Type} {f : Nat -> β -> Say} {w : World} {l : List Say} {bs : List Nat} {xs : List β} {d b : Nat} {y' : β} (h : Has w (f b y' :: (zipL f (bs.eraseIdx d) (xs.eraseIdx d) ++ l))) (hb : bs[d]? = some b) (hd : d < xs.length) :
  Has w (zipL f bs (xs.set d y') ++ l) := by
 have hp := zip_focus f bs (xs.set d y') d b y' hb (by simp [hd])
 have e : (xs.set d y').eraseIdx d = xs.eraseIdx d := by
  apply List.ext_getElem?
  intro i
  simp only [List.getElem?_eraseIdx, List.getElem?_set]
  by_cases h1 : i < d
  ·rw [if_pos h1, if_pos h1, if_neg (by omega)]
  ·rw [if_neg h1, if_neg h1, if_neg (by omega)]
 rw [e] at hp
 exact h.perm (hp.symm.append_right l)
theorem Sep.zip_mono {β : Type} {f g : Nat -> β -> Say} (hfg : ∀ b x h, f b x h -> g b x h) {l : List Say} : ∀ (bs : List Nat) (xs : List β) {h : Part}, Sep h (zipL f bs xs ++ l) -> Sep h (zipL g bs xs ++ l)
 | [], _, _, h => h
 | _ :: _, [], _, h => h
 | b :: bs, x :: xs, _, h => Sep.head_mono (fun _ => hfg b x _) (Sep.cons_mono (fun _ => Sep.zip_mono hfg bs xs) h)
theorem Has.zip_behind {β : Type} {f : Nat -> β -> Say} {w : World} {A B : Say} {l : List Say} {bs : List Nat} {xs : List β} (h : Has w ([A, B] ++ zipL f bs xs ++ l)) : Has w (zipL f bs xs ++ (A :: B :: l)) := by
 refine h.perm ?_
 rw [List.append_assoc]
 exact List.perm_append_comm_assoc [A, B] (zipL f bs xs) l
theorem Has.zip_ahead {β : Type} {f : Nat -> β -> Say} {w : World} {A B : Say} {l : List Say} {bs : List Nat} {xs : List β} (h : Has w (zipL f bs xs ++ (A :: B :: l))) : Has w ([A, B] ++ zipL f bs xs ++ l) := by
 refine h.perm ?_
 rw [List.append_assoc]
 exact (List.perm_append_comm_assoc [A, B] (zipL f bs xs) l).symm
theorem sector_mono {N M : Nat} (hN : N <= M) (b : Nat) (cur : List Int) (h : Part) : sectorS N b cur h -> sectorS M b cur h := by
 rintro ⟨x, ok, hx⟩
 exact ⟨x, ⟨Nat.le_trans ok.n hN, ok.cur, ok.last⟩, hx⟩
def sectorsL (N : Nat) (bs : List Nat) (secs : List (List Int)) : List Say := zipL (sectorS N) bs secs
structure DiskAt where
 v : Value
 bs : List Nat
def diskFlat (N d : Nat) (secs : List (List Int)) (x : DiskAt) : List Say :=
 [pts d (.cells #[x.v] 278 (0, 0)), rowS 315 1 x.v x.bs.length (x.bs.map ptrOf)] ++ sectorsL N x.bs secs
def diskS (N d : Nat) (secs : List (List Int)) : Say := ex fun x : DiskAt => fact (x.bs.length = secs.length /\ secs.length <= 4096) (all (diskFlat N d secs x))
theorem Has.disk_open {w : World} {l : List Say} {N d : Nat} {secs : List (List Int)} (h : Has w (diskS N d secs :: l)) : ∃ x : DiskAt, x.bs.length = secs.length /\ secs.length <= 4096 /\ Has w (diskFlat N d secs x ++ l) := by
 obtain ⟨x, h⟩ := h.opened
 obtain ⟨ok, h⟩ := h.unfact
 exact ⟨x, ok.1, ok.2, h.split⟩
theorem Has.disk_shut {w : World} {l : List Say} {N d : Nat} {secs : List (List Int)} {x : DiskAt} (ok : x.bs.length = secs.length) (h2 : secs.length <= 4096) (h : Has w (diskFlat N d secs x ++ l)) : Has w (diskS N d secs :: l) :=
 Has.chosen x (Has.tofact ⟨ok, h2⟩ h.unite)
def zeros : List Int := List.replicate 128 0
theorem info_sector : (Tryz.prog.info? 315).map (fun i => (i.zero, i.size, i.bytes)) = some (some (.pointer none), 1, 8) := by kernel_rfl
theorem made_zeros : (madeCells #[Value.int .u8 0] 128).toList.take (128 * 1) = zeros.map byteVal := by kernel_rfl
theorem fresh_sector {w : World} {l : List Say} (N : Nat) {b g : Nat} (h : Has w (pts b (.cells #[.slice (some ⟨g, 0, none⟩) 128 128, .slice none 0 0, .bool false] 318 (0, 0)) :: pts g (.cells (madeCells #[.int .u8 0] 128) 5 (0, 0)) :: l)) :
  Has w (sectorS N b zeros :: l) := by
 have h1 := (h.swap.row_of_pts (size := 1) (n := 128) (cap := 128) (xs := zeros.map byteVal) (by simp [zeros]) (Nat.le_refl _) (by simp [maxLen]) (by simp [size_madeCells]) made_zeros).swap
 have h2 := ((h1.row_nil 141 1).swap)
 exact Has.sec_shut (x := ⟨.slice (some ⟨g, 0, none⟩) 128 128, .slice none 0 0, [], .slice (some ⟨g, 0, none⟩) 128 128⟩) ⟨Nat.zero_le _, by simp [zeros], .inl ⟨rfl, rfl⟩⟩ h2
theorem fresh_more {w : World} {l : List Say} {A : Say} {N : Nat} {bs : List Nat} {k b : Nat} (hb : bs.length = k) (h : Has w (A :: sectorS N b zeros :: (sectorsL N bs (List.replicate k zeros) ++ l))) :
  Has w (A :: (sectorsL N (bs ++ [b]) (List.replicate (k + 1) zeros) ++ l)) := by
 refine h.perm (List.Perm.cons _ ?_)
 have e : sectorsL N (bs ++ [b]) (List.replicate (k + 1) zeros) = sectorsL N bs (List.replicate k zeros) ++ [sectorS N b zeros] := by
  rw [List.replicate_succ', sectorsL, zipL, List.zip_append (by simp [hb]), List.map_append]; rfl
 rw [e, List.append_assoc]
 exact List.perm_middle.symm
def FreshMid (w : World) (N : Nat) (l : List Say) (k : Nat) (o : Value) (wx : World) : Prop :=
 ∃ bs, bs.length = k /\ Kept w wx /\ Has wx (rowS 315 1 o k (bs.map ptrOf) :: (sectorsL N bs (List.replicate k zeros) ++ l))
def FreshPost (w : World) (N : Nat) (l : List Say) (n : Nat) (r : Ending) (wx : World) : Prop := ∃ o, r = .returned o /\ FreshMid w N l n o wx
set_option maxRecDepth 100000 in
theorem disk_fresh {w : World} {l : List Say} (h : Has w l) (N n : Nat) (hn : n <= 4096) :
  Calls Tryz.prog 188 #[.int .i64 (n : Int)] w (FreshPost w N l n) := by
 obtain ⟨i0, I1, I2, I3, I4⟩ := info_parts info_sector
 have hmk : ∀ w : World, (Instr.makeSlice 141 (.int .i64 128) (.int .i64 128)).run Tryz.prog w = .ok (.slice (some ⟨w.heap.size, 0, none⟩) 128 128) (w.alloc (.cells (madeCells #[.int .u8 0] 128) 5)) :=
  run_make_row' (P := Tryz.prog) 141 5 (.int .u8 0) 1 Tryz.underlying141 info_u8 rfl .i64 .i64 128 (by omega) (by omega)
 have H0 : Hid (FreshMid w N l 0 (.slice none 0 0) w) := ⟨[], rfl, Kept.refl w, h.row_nil _ _⟩
 clear h
 go_enter Tryz.func188, Tryz.ntmps188
 go_wp2
 go_loopg [3, 5] n (fun gk o i wr => ∃ k : Nat, k <= n /\ gk = n - k /\ i = .int .i64 k /\ Hid (FreshMid w N l k o wr))
 case atStart => exact ⟨0, Nat.zero_le _, rfl, rfl, H0⟩
 case round =>
  clear H0
  obtain ⟨k, hk, rfl, rfl, HM⟩ := hrel
  by_cases hlt : k < n
  ·obtain ⟨bs, hbs, hK, hh⟩ := HM.out
   have h1 := hh.alloc (.cells (madeCells #[.int .u8 0] 128) 5)
   have h2 := h1.alloc (.cells #[.slice (some ⟨wr.heap.size, 0, none⟩) 128 128, .slice none 0 0, .bool false] 318)
   simp only [World.size_alloc] at h2
   have h3 := fresh_sector N h2
   have H3 := Lib.hid h3
   have HK3 : Hid (Kept w ((wr.alloc (.cells (madeCells #[.int .u8 0] 128) 5)).alloc (.cells #[.slice (some ⟨wr.heap.size, 0, none⟩) 128 128, .slice none 0 0, .bool false] 318))) := (hK.alloc _).alloc _
   have Hbs := Lib.hid hbs
   clear hh h1 h2 h3 hbs hK HM
   go_wp2_with (at_builtin; go_loud (refine wpList_append_row (l := sectorS N (wr.heap.size + 1) zeros :: (sectorsL N bs (List.replicate k zeros) ++ l)) rfl (.tmp 7) (.tmp 11) 275 rfl 315 i0 (.pointer none) 1 8 Tryz.underlying275 I1 I2 I3 I4 rfl (by decide) _ k (bs.map ptrOf) rfl ?hown ⟨_, 0, none⟩ 1 1 [ptrOf (wr.heap.size + 1)] rfl rfl ?hnews ?hone ?h63 ?hby ?next))
   case hown => exact (H3.out.alloc_off _).swap
   case hnews =>
    have hn1 := one_new ((wr.alloc (.cells (madeCells #[.int .u8 0] 128) 5)).alloc (.cells #[.slice (some ⟨wr.heap.size, 0, none⟩) 128 128, .slice none 0 0, .bool false] 318)) (ptrOf (wr.heap.size + 1)) 315
    simp only [World.size_alloc] at hn1
    exact hn1
   case hone => intro u hu; simp at hu; subst hu; rfl
   case h63 => simp [maxLen]; omega
   case hby => omega
   case next =>
    intro v2 w4 hK4 h4
    have HK4 := Lib.hid hK4
    have H4 := Lib.hid h4
    clear hK4 h4
    go_wp2
    go_roundg (n - (k + 1))
    case measure => omega
    case rel =>
     refine ⟨k + 1, by omega, rfl, by simp, bs ++ [wr.heap.size + 1], by simp [Hbs.out], (HK3.out.alloc _).trans HK4.out, ?_⟩
     rw [List.map_append]
     exact fresh_more Hbs.out H4.out
  ·obtain rfl : k = n := by omega
   go_wp2
   go_ret
   exact ⟨_, rfl, HM.out⟩
theorem info_wait : (Tryz.prog.info? 141).map (fun i => (i.zero, i.size, i.bytes)) = some (some (.slice none 0 0), 1, 24) := by kernel_rfl
def DiskPost (w : World) (N : Nat) (l : List Say) (n : Nat) (r : Ending) (wx : World) : Prop := ∃ d, r = .returned (.tuple #[.pointer (some ⟨d, 0, none⟩), .nilIface]) /\ Kept w wx /\ Has wx (diskS N d (List.replicate n zeros) :: l)
set_option maxRecDepth 100000 in
theorem disk_New {w : World} {l : List Say} (h : Has w l) (N n : Nat) (h1 : 1 <= n) (hn : n <= 4096) :
  Calls Tryz.prog 130 #[.int .i64 (n : Int)] w (DiskPost w N l n) := by
 have HF := Lib.hid (disk_fresh h N n hn)
 have d1 : decide ((n : Int) < 1) = false := by simp; omega
 have d2 : decide ((4096 : Int) < n) = false := by simp; omega
 clear h
 go_enter Tryz.func130, Tryz.ntmps130
 go_wp2_with fail
 refine HF.out.mono ?_
 rintro r w1 ⟨o, rfl, bs, hbs, hK, hh⟩
 obtain ⟨a, c, rfl, _⟩ := hh.row_val (e := 315) (size := 1) (v := o) (n := n) (xs := bs.map ptrOf) (.head _)
 have h2 := hh.alloc (.cells #[.slice a n c] 278)
 have HD : Hid (Kept w (w1.alloc (.cells #[.slice a n c] 278)) /\ Has (w1.alloc (.cells #[.slice a n c] 278)) (diskS N w1.heap.size (List.replicate n zeros) :: l)) := by
  refine ⟨hK.alloc _, Has.disk_shut (x := ⟨.slice a n c, bs⟩) (by simp [hbs]) (by simpa using hn) ?_⟩
  unfold diskFlat
  rw [hbs]
  exact h2
 clear hh h2 hK
 go_wp2
 go_ret2
 exact ⟨_, rfl, HD.out.1, HD.out.2⟩
theorem disk_has {w : World} {d n c : Nat} {a : Option Addr} (c0 : w.cell? ⟨d, 0, none⟩ = some (.slice a n c)) (i : Nat) (hi : i < n) (hn : n <= 4096) :
  Calls Tryz.prog 220 #[.pointer (some ⟨d, 0, none⟩), .int .i64 (i : Int)] w fun r w' => r = .returned (.bool true) /\ w = w' := by
 have d1 : decide ((i : Int) < (n : Int)) = true := by simp; omega
 have l0 := World.block_lt_of_cell? _ _ c0
 go_enter Tryz.func220, Tryz.ntmps220
 go_wp2
 go_ret
 exact ⟨rfl, rfl⟩
theorem disk_Size {w : World} {d n c : Nat} {a : Option Addr} (c0 : w.cell? ⟨d, 0, none⟩ = some (.slice a n c)) :
  Calls Tryz.prog 197 #[.pointer (some ⟨d, 0, none⟩)] w fun r w' => r = .returned (.int .i64 (n : Int)) /\ w = w' := by
 have l0 := World.block_lt_of_cell? _ _ c0
 go_enter Tryz.func197, Tryz.ntmps197
 go_wp2
 go_ret
 exact ⟨rfl, rfl⟩
/-
  Disks (layer 3), the second part: a write.
-/
theorem Has.bytes_read {w : World} {l : List Say} {v : Value} {cur : List Int} (h : Has w l) (hm : bytesS v cur ∈ l) (hne : 0 < cur.length) :
  ∃ g c, v = .slice (some ⟨g, 0, none⟩) cur.length c /\ cur.length <= c /\ (∀ j u, (cur.map byteVal)[j]? = some u -> w.cell? ⟨g, j, none⟩ = some u) /\ ∀ j, w.frozen? ⟨g, j, none⟩ = false := by
 obtain ⟨_, a, c, hv, hc, _, hr⟩ := h.row_read hm
 obtain ⟨g, rfl, _, hf⟩ := hr 0 (byteVal cur[0]) (by simp [hne])
 refine ⟨g, c, hv, hc, fun j u hu => ?_, hf⟩
 obtain ⟨g', hg, hc', _⟩ := hr j u hu
 cases hg
 exact hc'
theorem bytes_one (cur : List Int) : ∀ u ∈ cur.map byteVal, u.oneCell' = true := by
 intro u hu
 obtain ⟨n, _, rfl⟩ := List.mem_map.1 hu
 rfl
structure DiskRead (w : World) (d i b n : Nat) (a : Option Addr) (c : Nat) (x : SecAt) : Prop where
 c0 : w.cell? ⟨d, 0, none⟩ = some (.slice a n c)
 p0 : ∃ g, a = some ⟨g, 0, none⟩ /\ w.cell? ⟨g, i, none⟩ = some (.pointer (some ⟨b, 0, none⟩))
 s1 : w.cell? ⟨b, 1, none⟩ = some x.wv
 f1 : w.frozen? ⟨b, 1, none⟩ = false
 s0 : w.cell? ⟨b, 0, none⟩ = some x.gv
 s2 : w.cell? ⟨b, 2, none⟩ = some (.bool false)
theorem Has.disk_sec {w : World} {l : List Say} {N d : Nat} {secs : List (List Int)} (h : Has w (diskS N d secs :: l)) (i : Nat) (cur : List Int) (hi : secs[i]? = some cur) :
  ∃ (x : DiskAt) (b : Nat) (y : SecAt) (a : Option Addr) (c : Nat), x.bs.length = secs.length /\ secs.length <= 4096 /\ x.bs[i]? = some b /\ SecOk N cur y /\ DiskRead w d i b secs.length a c y /\
   Has w (secParts b cur y ++ (zipL (sectorS N) (x.bs.eraseIdx i) (secs.eraseIdx i) ++ (pts d (.cells #[x.v] 278 (0, 0)) :: rowS 315 1 x.v x.bs.length (x.bs.map ptrOf) :: l))) := by
 obtain ⟨x, hb, hn, hh⟩ := h.disk_open
 have hlt := (List.getElem?_eq_some_iff.1 hi).1
 obtain ⟨b, hxb⟩ : ∃ b, x.bs[i]? = some b := ⟨x.bs[i]'(by omega), List.getElem?_eq_getElem (by omega)⟩
 obtain ⟨_, a, c, hv, _, _, hr⟩ := hh.row_read (e := 315) (v := x.v) (n := x.bs.length) (xs := x.bs.map ptrOf) (by simp [diskFlat])
 obtain ⟨g, hg, hcg, _⟩ := hr i (ptrOf b) (by rw [List.getElem?_map, hxb]; rfl)
 have hd : w.cell? ⟨d, 0, none⟩ = some (.slice a secs.length c) := by
  have := hh.at (b := d) (o := .cells #[x.v] 278 (0, 0)) (by simp [diskFlat])
  rw [hv, hb] at this
  exact cell_of this 0 rfl
 have h1 := (hh.zip_behind).zip_take hxb hi
 obtain ⟨y, hy, h2⟩ := h1.sec_open
 have hp := h2.got
 exact ⟨x, b, y, a, c, hb, hn, hxb, hy, ⟨hd, ⟨g, hg, hcg⟩, cell_of hp 1 rfl, thaw_of hp 1, cell_of hp 0 rfl, cell_of hp 2 rfl⟩, h2⟩
theorem Has.disk_back {w : World} {l : List Say} {N M d : Nat} {secs : List (List Int)} {x : DiskAt} {i b : Nat} {cur : List Int} {y : SecAt} (hNM : N <= M) (hb : x.bs.length = secs.length) (hn : secs.length <= 4096) (hxb : x.bs[i]? = some b) (hy : SecOk M cur y)
  (h : Has w (secParts b cur y ++ (zipL (sectorS N) (x.bs.eraseIdx i) (secs.eraseIdx i) ++ (pts d (.cells #[x.v] 278 (0, 0)) :: rowS 315 1 x.v x.bs.length (x.bs.map ptrOf) :: l)))) :
  Has w (diskS M d (secs.set i cur) :: l) := by
 have hlt := (List.getElem?_eq_some_iff.1 hxb).1
 have h1 := h.sec_shut hy
 have h2 : Has w (sectorS M b cur :: (zipL (sectorS M) (x.bs.eraseIdx i) (secs.eraseIdx i) ++ (pts d (.cells #[x.v] 278 (0, 0)) :: rowS 315 1 x.v x.bs.length (x.bs.map ptrOf) :: l))) :=
  Sep.cons_mono (fun _ => Sep.zip_mono (fun b x h => sector_mono hNM b x h) _ _) h1
 have h3 := (h2.zip_give hxb (by omega)).zip_ahead
 exact Has.disk_shut (x := x) (by simp [hb]) (by simpa using hn) h3
def WritePost (w : World) (N d i : Nat) (secs : List (List Int)) (data : List Int) (l : List Say) (r : Ending) (w' : World) : Prop :=
 r = .returned .nilIface /\ Kept w w' /\ Has w' (diskS (N + 1) d (secs.set i data) :: l)
set_option maxRecDepth 100000 in
theorem disk_Write {w : World} {l : List Say} {N d : Nat} {secs : List (List Int)} (h : Has w (diskS N d secs :: l)) (i : Nat) (hi : i < secs.length) (v : Value) (data : List Int) (hd : bytesS v data ∈ l) (hdl : data.length = 128) (hN : N <= 1000000) :
    Calls Tryz.prog 199 #[.pointer (some ⟨d, 0, none⟩), .int .i64 (i : Int), v] w (WritePost w N d i secs data l) := by
  obtain ⟨x, b, y, a, c, hb, hn, hxb, hy, R, hh⟩ := h.disk_sec i secs[i] (List.getElem?_eq_getElem hi)
  obtain ⟨gd, cd, rfl, hcd, hdat, _⟩ := hh.bytes_read (v := v) (cur := data) (by simp [hd]) (by omega)
  obtain ⟨g, rfl, p0⟩ := R.p0
  have c0 := R.c0
  have s1 := R.s1
  have f1 := R.f1
  obtain ⟨aw, cw, hwv, _⟩ := hh.row_val (e := 141) (size := 1) (v := y.wv) (n := y.ws.length) (xs := y.ws) (by simp [secParts])
  obtain ⟨gv, wv, ws, lv⟩ := y
  simp only at hwv
  subst hwv
  simp only [secParts, List.cons_append, List.nil_append] at hh s1
  have HHas := Lib.hid (disk_has c0 i hi hn)
  have hi2 : (i : Int) < (secs.length : Int) := by omega
  have hi0 : (0 : Int) <= i := by omega
  have l0 := World.block_lt_of_cell? _ _ c0
  have l1 := World.block_lt_of_cell? _ _ p0
  have l2 := World.block_lt_of_cell? _ _ s1
  have hd0 : ((data.length : Int) == 128) = true := by rw [hdl]; rfl
  have hws : ws.length <= N := hy.n
  obtain ⟨i0, I1, I2, I3, I4⟩ := info_parts info_wait
  obtain ⟨L, hL⟩ : ∃ L, L = (zipL (sectorS N) (x.bs.eraseIdx i) (secs.eraseIdx i) ++ (pts d (.cells #[x.v] 278 (0, 0)) :: rowS 315 1 x.v x.bs.length (x.bs.map ptrOf) :: l)) := ⟨_, rfl⟩
  rw [<- hL] at hh
  have HC := Lib.hid (clone_u8 (w := w.drew) hh.drew gd 0 data.length cd (data.map byteVal) (by simp) (fun j u hu => by rw [Nat.zero_add]; exact hdat j u hu) (bytes_one data) (by simp [maxLen]; omega) (by omega))
  have Hk : Hid (Kept w w.drew) := (Kept.refl w).drew
  have HF : Hid (∀ w' v' cv, Has w' (pts b (.cells #[gv, v', .bool false] 318 (0, 0)) :: rowS 141 1 v' (ws.length + 1) (ws ++ [cv]) :: rowS 5 1 cv data.length (data.map byteVal) :: bytesS lv secs[i] :: L) -> Has w' (diskS (N + 1) d (secs.set i data) :: l)) := by
    intro w' v' cv h'
    rw [hL] at h'
    have h2 := (h'.pull 3).tail
    refine Has.disk_back (x := x) (b := b) (y := ⟨gv, v', ws ++ [cv], cv⟩) (Nat.le_succ N) hb hn hxb ⟨by simp; omega, hdl, .inr ⟨by simp, by simp⟩⟩ ?_
    have e : (ws ++ [cv]).length = ws.length + 1 := by simp
    simp only [secParts, e]
    exact h2
  clear R hh h hdat hy hb hn hxb hd hL
  have Hdl := Lib.hid hdl
  clear hdl
  go_enter Tryz.func199, Tryz.ntmps199
  go_wp2_with fail
  refine HHas.out.mono ?_
  rintro r w1 ⟨rfl, rfl⟩
  go_upto_region 6 with fail
  go_region_law (first
    | (go_loud (refine step_append_row rfl (.tmp 30) (.tmp 33) 316 rfl 141 i0 (.slice none 0 0) 1 24 Tryz.underlying316 I1 I2 I3 I4 rfl (by decide) (.slice aw ws.length cw) ws.length ws rfl (HRow.out.alloc_off _) ⟨_, 0, none⟩ 1 1 [.slice ac data.length kc] rfl rfl (one_new _ _ _) (by intro u hu; simp at hu; subst hu; rfl) (by simp [maxLen]; omega) (by omega) ?_)
       intro v2 V2 hK2 h2; obtain ⟨a2, c2, rfl, _⟩ := h2.row_val (e := 141) (size := 1) (n := ws.length + 1) (v := v2) (xs := ws ++ [.slice ac data.length kc]) (.head _); have hp2 := (h2.pull 2).got; have s1'' := cell_of hp2 1 rfl; have f1'' := thaw_of hp2 1; have H5 := Lib.hid h2; have HK5 := Lib.hid hK2; clear h2 hK2 hp2)
    | (go_simp; go_at_call 191; refine HC.out.mono ?_; rintro r V ⟨cv, rfl, hk, hv⟩; obtain ⟨ac, kc, rfl, _⟩ := hv.row_val (e := 5) (size := 1) (n := data.length) (v := cv) (xs := data.map byteVal) (.head _); have hp1 := (hv.pull 1).got; have s1' := cell_of hp1 1 rfl; have l2' := World.block_lt_of_cell? _ _ s1'; have HRow : Hid (Has V (rowS 141 1 (.slice aw ws.length cw) ws.length ws :: rowS 5 1 (.slice ac data.length kc) data.length (data.map byteVal) :: pts b (.cells #[gv, .slice aw ws.length cw, .bool false] 318 (0, 0)) :: bytesS lv secs[i] :: L)) := hv.pull 2; have HK4 := Lib.hid hk; clear hv hk hp1))
  all_goals
    go_wp2
    go_ret
    refine ⟨rfl, (((Hk.out.trans HK4.out).alloc _).trans HK5.out).setCell _ _, HF.out _ (.slice a2 (ws.length + 1) c2) (.slice ac data.length kc) ?_⟩
    exact (((H5.out.pull 2).setCell 1 (.slice a2 (ws.length + 1) c2)))
/-
  Frames (layer 2): the sum of bytes, words, packers.
-/
def crcBit (s : Int) : Int := if bits BinOp.and .u32 s 1 == 1 then bits BinOp.xor .u32 (s / 2) 3988292384 else s / 2
def crcBits : Nat -> Int -> Int
 | 0, s => s
 | n + 1, s => crcBit (crcBits n s)
def crcByte (s c : Int) : Int := crcBits 8 (bits BinOp.xor .u32 s (c % 4294967296))
def crcTo (cur : List Int) (k : Nat) : Int := (cur.take k).foldl crcByte 4294967295
theorem crcTo_succ (cur : List Int) (k : Nat) (h : k < cur.length) : crcTo cur (k + 1) = crcByte (crcTo cur k) cur[k] := by
 unfold crcTo
 rw [List.take_succ_eq_append_getElem h, List.foldl_append]; rfl
def sumOf (cur : List Int) : Int := bits BinOp.xor .u32 IntKind.u32.max (crcTo cur cur.length)
set_option maxRecDepth 100000 in
theorem frame_Sum {w : World} {l : List Say} {v : Value} {cur : List Int} (h : Has w l) (hm : bytesS v cur ∈ l) (hne : 0 < cur.length) (hlen : cur.length <= 128) (g c : Nat) (hg : w.cell? ⟨g, 0, none⟩ = some v) :
  Calls Tryz.prog 193 #[.slice (some ⟨g, 0, none⟩) 1 c] w fun r w' => r = .returned (.int .u32 (sumOf cur)) /\ w = w' := by
 obtain ⟨gd, cd, rfl, hcd, hdat, _⟩ := h.bytes_read (v := v) (cur := cur) hm hne
 have HD := Lib.hid hdat
 have l0 := World.block_lt_of_cell? _ _ hg
 clear hdat h hm
 go_enter Tryz.func193, Tryz.ntmps193
 go_wp2
 refine wp_loop_rounds 2 ?_
 rw [rounds_succ]
 go_wp2
 go_loopg [3, 17] cur.length (fun gk s i wr => ∃ (k : Nat), k <= cur.length /\ gk = cur.length - k /\ i = .int .i64 k /\ s = .int .u32 (crcTo cur k) /\ wr = w)
 case atStart => exact ⟨0, Nat.zero_le _, rfl, rfl, rfl, rfl⟩
 case round =>
  obtain ⟨k, hk, rfl, rfl, rfl, rfl⟩ := hrel
  by_cases hlt : k < cur.length
  ·have hc := HD.out k (byteVal cur[k]) (by simp [hlt])
   unfold byteVal at hc
   have hk1 : (k : Int) < (cur.length : Int) := by omega
   have hk0 : (0 : Int) <= k := by omega
   have hS := Lib.hid (crcTo_succ cur k hlt)
   generalize crcTo cur k = S at *
   generalize cur[k] = x at *
   go_wp2
   go_loopg [3, 25] 8 (fun gk s i wx => ∃ (j : Nat), j <= 8 /\ gk = 8 - j /\ i = .int .i64 j /\ s = .int .u32 (crcBits j (bits BinOp.xor .u32 S (x % 4294967296))) /\ wx = wr)
   case atStart => exact ⟨0, Nat.zero_le _, rfl, rfl, rfl, rfl⟩
   case round =>
    obtain ⟨j, hj, rfl, rfl, rfl, rfl⟩ := hrel
    by_cases hlj : j < 8
    ·have hB : Hid (crcBits (j + 1) (bits BinOp.xor .u32 S (x % 4294967296)) = crcBit (crcBits j (bits BinOp.xor .u32 S (x % 4294967296)))) := rfl
     generalize crcBits j (bits BinOp.xor .u32 S (x % 4294967296)) = T at *
     by_cases hb : (bits BinOp.and .u32 T 1 == 1) = true
     ·go_wp2
      go_roundg (8 - (j + 1))
      case measure => omega
      case rel =>
       refine ⟨j + 1, by omega, rfl, by simp, ?_, rfl⟩
       rw [hB.out, crcBit, if_pos hb]
     ·have hb' : (bits BinOp.and .u32 T 1 == 1) = false := by simpa using hb
      go_wp2
      go_roundg (8 - (j + 1))
      case measure => omega
      case rel =>
       refine ⟨j + 1, by omega, rfl, by simp, ?_, rfl⟩
       rw [hB.out, crcBit, if_neg hb]
    ·obtain rfl : j = 8 := by omega
     have hB : Hid (crcByte S x = crcBits 8 (bits BinOp.xor .u32 S (x % 4294967296))) := rfl
     go_wp2
     go_roundg (cur.length - (k + 1))
     case measure => omega
     case rel =>
      exact ⟨k + 1, by omega, rfl, by simp, by rw [hS.out, hB.out], rfl⟩
  ·obtain rfl : k = cur.length := by omega
   go_wp2
   rw [rounds_succ]
   go_wp2
   go_ret
   exact ⟨rfl, rfl⟩
def bytes8 (x : Int) : List Int := [x / 72057594037927936, x / 281474976710656 % 256, x / 1099511627776 % 256, x / 4294967296 % 256, x / 16777216 % 256, x / 65536 % 256, x / 256 % 256, x % 256]
theorem many_new (w : World) (vs : List Value) (t : TypeId) {b : Nat} (hb : w.heap.size = b) : ∀ j u, vs[j]? = some u -> (w.alloc (.cells vs.toArray t)).cell? ((⟨b, 0, none⟩ : Addr).add j) = some u := by
 intro j u hu
 subst hb
 rw [Addr.add_lit, World.cell?_alloc_new]
 simpa using hu
theorem flat8_len (ns : List Int) : (ns.flatMap bytes8).length = 8 * ns.length := by
 induction ns with
 | nil => rfl
 | cons x ns ih => rw [List.flatMap_cons, List.length_append, ih, List.length_cons]; simp [bytes8]; omega
def packParts (p : Nat) (cur : List Int) (bv : Value) : List Say := [pts p (.cells #[bv, .bool false] 283 (0, 0)), bytesS bv cur]
def packS (p : Nat) (cur : List Int) : Say := ex fun bv : Value => all (packParts p cur bv)
theorem Has.pack_open {w : World} {l : List Say} {p : Nat} {cur : List Int} (h : Has w (packS p cur :: l)) : ∃ bv, Has w (packParts p cur bv ++ l) := by
 obtain ⟨x, h⟩ := h.opened
 exact ⟨x, h.split⟩
theorem Has.pack_shut {w : World} {l : List Say} {p : Nat} {cur : List Int} {bv : Value} (h : Has w (packParts p cur bv ++ l)) : Has w (packS p cur :: l) := Has.chosen bv h.unite
def PackMid (w : World) (p : Nat) (cur : List Int) (l : List Say) (wx : World) : Prop := Kept w wx /\ Has wx (packS p cur :: l)
def PutPost (w : World) (p : Nat) (cur : List Int) (l : List Say) (r : Ending) (wx : World) : Prop := r = .returned (.pointer (some ⟨p, 0, none⟩)) /\ PackMid w p cur l wx
set_option maxRecDepth 100000 in
theorem pack_put8 {w : World} {L : List Say} {p : Nat} {cur : List Int} (h : Has w (packS p cur :: L)) (g c : Nat) (ns : List Int)
  (hm : rowS 3 1 (.slice (some ⟨g, 0, none⟩) ns.length c) ns.length (ns.map (Value.int .i64 ·)) ∈ L) (hns : ∀ x ∈ ns, 0 <= x /\ x <= 4611686018427387903) (hlen : cur.length + 8 * ns.length <= 1000) :
  Calls Tryz.prog 190 #[.pointer (some ⟨p, 0, none⟩), .int .i64 8, .slice (some ⟨g, 0, none⟩) ns.length c] w (PutPost w p (cur ++ ns.flatMap bytes8) L) := by
 obtain ⟨i0, I1, I2, I3, I4⟩ := info_parts info_u8
 have hns' := Lib.hid hns
 have Hm := Lib.hid hm
 have H0 : Hid (PackMid w p (cur ++ (ns.take 0).flatMap bytes8) L w) := ⟨Kept.refl w, by simpa using h⟩
 clear hm h hns
 go_enter Tryz.func190, Tryz.ntmps190
 go_wp2
 go_loopg [11] ns.length (fun gk i wr => ∃ (k : Nat), k <= ns.length /\ gk = ns.length - k /\ i = .int .i64 k /\ Hid (PackMid w p (cur ++ (ns.take k).flatMap bytes8) L wr))
 case atStart => exact ⟨0, Nat.zero_le _, rfl, rfl, H0⟩
 case round =>
  clear H0
  obtain ⟨k, hk, rfl, rfl, HM⟩ := hrel
  by_cases hlt : k < ns.length
  ·obtain ⟨hK, hh⟩ := HM.out
   obtain ⟨bv, hh⟩ := hh.pack_open
   simp only [packParts, List.cons_append, List.nil_append] at hh
   obtain ⟨_, a', c', hv', _, _, hr⟩ := hh.row_read (v := .slice (some ⟨g, 0, none⟩) ns.length c) (n := ns.length) (xs := ns.map (Value.int .i64 ·)) (.tail _ (.tail _ Hm.out))
   cases hv'
   obtain ⟨g', hg', hc, _⟩ := hr k (.int .i64 ns[k]) (by simp [hlt])
   cases hg'
   have hb := hns'.out ns[k] (List.getElem_mem hlt)
   have hcl : (cur ++ (ns.take k).flatMap bytes8).length + 8 <= 1000 := by
    rw [List.length_append, flat8_len, List.length_take, Nat.min_eq_left hk]; omega
   have hnext : Hid (cur ++ (ns.take (k + 1)).flatMap bytes8 = (cur ++ (ns.take k).flatMap bytes8) ++ bytes8 ns[k]) := by
    show _ = _
    rw [List.take_succ_eq_append_getElem hlt, List.flatMap_append, List.append_assoc]; simp
   generalize ns[k] = x at *
   generalize cur ++ (ns.take k).flatMap bytes8 = cur' at *
   obtain ⟨hx0, hx1⟩ := hb
   obtain ⟨a0, c0, rfl, _⟩ := hh.row_val (e := 5) (size := 1) (v := bv) (n := cur'.length) (xs := cur'.map byteVal) (.tail _ (.head _))
   have hH0 : Has wr (pts p (.cells #[.slice a0 cur'.length c0, .bool false] 283 (0, 0)) :: rowS 5 1 (.slice a0 cur'.length c0) cur'.length (cur'.map byteVal) :: L) := hh
   obtain ⟨N0, hN0⟩ : ∃ N0, N0 = cur'.length := ⟨_, rfl⟩
   obtain ⟨xs0, hxs0⟩ : ∃ xs, xs = cur'.map byteVal := ⟨_, rfl⟩
   rw [<- hN0, <- hxs0] at hH0
   rw [<- hN0] at hcl
   have HN0 := Lib.hid hN0
   have HX0 := Lib.hid hxs0
   have H0 := Lib.hid hH0
   have HK0 := Lib.hid hK
   have p0 := cell_of hH0.got 0 rfl
   have p1 := cell_of hH0.got 1 rfl
   have f0 := thaw_of hH0.got 0
   have f1 := thaw_of hH0.got 1
   have hk1 : (k : Int) < (ns.length : Int) := by omega
   have hk0 : (0 : Int) <= k := by omega
   have hx2 : decide (x < 0) = false := by simp; omega
   have hx3 : decide (4611686018427387903 < x) = false := by simp; omega
   have l0 := World.block_lt_of_cell? _ _ p0
   clear hr hh hK HM hH0 hN0 hxs0
   go_wp2_with (at_builtin; go_loud (refine wpList_append_row (l := pts p (.cells #[.slice a0 N0 c0, .bool false] 283 (0, 0)) :: L) rfl (.tmp 41) (.tmp 54) 141 rfl 5 i0 (.int .u8 0) 1 1 Tryz.underlying141 I1 I2 I3 I4 rfl (by decide) _ N0 xs0 rfl ?hown ⟨_, 0, none⟩ 4 4 [byteVal (x / 72057594037927936), byteVal (x / 281474976710656 % 256), byteVal (x / 1099511627776 % 256), byteVal (x / 4294967296 % 256)] rfl rfl (many_new _ [byteVal (x / 72057594037927936), byteVal (x / 281474976710656 % 256), byteVal (x / 1099511627776 % 256), byteVal (x / 4294967296 % 256)] _ (by simp [World.setCell])) (by intro u hu; simp at hu; rcases hu with rfl | rfl | rfl | rfl <;> rfl) ?h63 ?hby ?next))
   case hown => exact ((H0.out.setCell 1 (.bool false)).swap).alloc_off _
   case h63 => simp [maxLen]; omega
   case hby => omega
   case next =>
    intro v1 w1 hK1 h1
    obtain ⟨xs1, hxs1⟩ : ∃ y, y = xs0 ++ [byteVal (x / 72057594037927936), byteVal (x / 281474976710656 % 256), byteVal (x / 1099511627776 % 256), byteVal (x / 4294967296 % 256)] := ⟨_, rfl⟩
    obtain ⟨N1, hN1⟩ : ∃ y, y = N0 + 4 := ⟨_, rfl⟩
    rw [<- hxs1, <- hN1] at h1
    obtain ⟨a1, c1, rfl, _⟩ := h1.row_val (e := 5) (size := 1) (v := v1) (n := N1) (xs := xs1) (.head _)
    have hp1 := h1.swap.got
    have p0 := cell_of hp1 0 rfl
    have p1 := cell_of hp1 1 rfl
    have f0 := thaw_of hp1 0
    have f1 := thaw_of hp1 1
    have l0 := World.block_lt_of_cell? _ _ p0
    have hB1 : N1 <= 996 := by omega
    have H1 := Lib.hid (h1.swap.setCell 0 (.slice a1 N1 c1))
    have HK1 : Hid (Kept w (w1.setCell ⟨p, 0, none⟩ (.slice a1 N1 c1))) := (((HK0.out.setCell _ _).alloc _).trans hK1).setCell _ _
    have HN1 := Lib.hid hN1
    have HX1 := Lib.hid hxs1
    clear hK1 h1 hp1 HK0 H0 hN1 hxs1
    go_wp2_with (at_builtin; go_loud (refine wpList_append_row (l := pts p (.cells #[.slice a1 N1 c1, .bool false] 283 (0, 0)) :: L) rfl (.tmp 82) (.tmp 89) 141 rfl 5 i0 (.int .u8 0) 1 1 Tryz.underlying141 I1 I2 I3 I4 rfl (by decide) _ N1 xs1 rfl ?hown ⟨_, 0, none⟩ 2 2 [byteVal (x / 16777216 % 256), byteVal (x / 65536 % 256)] rfl rfl (many_new _ [byteVal (x / 16777216 % 256), byteVal (x / 65536 % 256)] _ (by simp [World.setCell])) (by intro u hu; simp at hu; rcases hu with rfl | rfl <;> rfl) ?h63 ?hby ?next))
    case hown => exact ((H1.out.setCell 1 (.bool false)).swap).alloc_off _
    case h63 => simp [maxLen]; omega
    case hby => omega
    case next =>
     intro v2 w2 hK2 h2
     obtain ⟨xs2, hxs2⟩ : ∃ y, y = xs1 ++ [byteVal (x / 16777216 % 256), byteVal (x / 65536 % 256)] := ⟨_, rfl⟩
     obtain ⟨N2, hN2⟩ : ∃ y, y = N1 + 2 := ⟨_, rfl⟩
     rw [<- hxs2, <- hN2] at h2
     obtain ⟨a2, c2, rfl, _⟩ := h2.row_val (e := 5) (size := 1) (v := v2) (n := N2) (xs := xs2) (.head _)
     have hp2 := h2.swap.got
     have p0 := cell_of hp2 0 rfl
     have p1 := cell_of hp2 1 rfl
     have f0 := thaw_of hp2 0
     have f1 := thaw_of hp2 1
     have l0 := World.block_lt_of_cell? _ _ p0
     have hB2 : N2 <= 998 := by omega
     have H2 := Lib.hid (h2.swap.setCell 0 (.slice a2 N2 c2))
     have HK2 : Hid (Kept w (w2.setCell ⟨p, 0, none⟩ (.slice a2 N2 c2))) := (((HK1.out.setCell _ _).alloc _).trans hK2).setCell _ _
     have HN2 := Lib.hid hN2
     have HX2 := Lib.hid hxs2
     clear hK2 h2 hp2 HK1 H1 hN2 hxs2
     go_wp2_with (at_builtin; go_loud (refine wpList_append_row (l := pts p (.cells #[.slice a2 N2 c2, .bool false] 283 (0, 0)) :: L) rfl (.tmp 117) (.tmp 121) 141 rfl 5 i0 (.int .u8 0) 1 1 Tryz.underlying141 I1 I2 I3 I4 rfl (by decide) _ N2 xs2 rfl ?hown ⟨_, 0, none⟩ 1 1 [byteVal (x / 256 % 256)] rfl rfl (many_new _ [byteVal (x / 256 % 256)] _ (by simp [World.setCell])) (by intro u hu; simp at hu; rcases hu with rfl <;> rfl) ?h63 ?hby ?next))
     case hown => exact ((H2.out.setCell 1 (.bool false)).swap).alloc_off _
     case h63 => simp [maxLen]; omega
     case hby => omega
     case next =>
      intro v3 w3 hK3 h3
      obtain ⟨xs3, hxs3⟩ : ∃ y, y = xs2 ++ [byteVal (x / 256 % 256)] := ⟨_, rfl⟩
      obtain ⟨N3, hN3⟩ : ∃ y, y = N2 + 1 := ⟨_, rfl⟩
      rw [<- hxs3, <- hN3] at h3
      obtain ⟨a3, c3, rfl, _⟩ := h3.row_val (e := 5) (size := 1) (v := v3) (n := N3) (xs := xs3) (.head _)
      have hp3 := h3.swap.got
      have p0 := cell_of hp3 0 rfl
      have p1 := cell_of hp3 1 rfl
      have f0 := thaw_of hp3 0
      have f1 := thaw_of hp3 1
      have l0 := World.block_lt_of_cell? _ _ p0
      have hB3 : N3 <= 999 := by omega
      have H3 := Lib.hid (h3.swap.setCell 0 (.slice a3 N3 c3))
      have HK3 : Hid (Kept w (w3.setCell ⟨p, 0, none⟩ (.slice a3 N3 c3))) := (((HK2.out.setCell _ _).alloc _).trans hK3).setCell _ _
      have HN3 := Lib.hid hN3
      have HX3 := Lib.hid hxs3
      clear hK3 h3 hp3 HK2 H2 hN3 hxs3
      go_wp2_with (at_builtin; go_loud (refine wpList_append_row (l := pts p (.cells #[.slice a3 N3 c3, .bool false] 283 (0, 0)) :: L) rfl (.tmp 149) (.tmp 152) 141 rfl 5 i0 (.int .u8 0) 1 1 Tryz.underlying141 I1 I2 I3 I4 rfl (by decide) _ N3 xs3 rfl ?hown ⟨_, 0, none⟩ 1 1 [byteVal (x % 256)] rfl rfl (many_new _ [byteVal (x % 256)] _ (by simp [World.setCell])) (by intro u hu; simp at hu; rcases hu with rfl <;> rfl) ?h63 ?hby ?next))
      case hown => exact ((H3.out.setCell 1 (.bool false)).swap).alloc_off _
      case h63 => simp [maxLen]; omega
      case hby => omega
      case next =>
       intro v4 w4 hK4 h4
       obtain ⟨xs4, hxs4⟩ : ∃ y, y = xs3 ++ [byteVal (x % 256)] := ⟨_, rfl⟩
       obtain ⟨N4, hN4⟩ : ∃ y, y = N3 + 1 := ⟨_, rfl⟩
       rw [<- hxs4, <- hN4] at h4
       obtain ⟨a4, c4, rfl, _⟩ := h4.row_val (e := 5) (size := 1) (v := v4) (n := N4) (xs := xs4) (.head _)
       have hp4 := h4.swap.got
       have p0 := cell_of hp4 0 rfl
       have p1 := cell_of hp4 1 rfl
       have f0 := thaw_of hp4 0
       have f1 := thaw_of hp4 1
       have l0 := World.block_lt_of_cell? _ _ p0
       have hB4 : N4 <= 1000 := by omega
       have H4 := Lib.hid (h4.swap.setCell 0 (.slice a4 N4 c4))
       have HK4 : Hid (Kept w (w4.setCell ⟨p, 0, none⟩ (.slice a4 N4 c4))) := (((HK3.out.setCell _ _).alloc _).trans hK4).setCell _ _
       have HN4 := Lib.hid hN4
       have HX4 := Lib.hid hxs4
       clear hK4 h4 hp4 HK3 H3 hN4 hxs4
       go_wp2
       go_roundg (ns.length - (k + 1))
       case measure => omega
       case rel =>
        refine ⟨k + 1, by omega, rfl, by simp, HK4.out, ?_⟩
        rw [hnext.out]
        refine Has.pack_shut (bv := .slice a4 N4 c4) ?_
        have h9 := H4.out
        have e1 : (cur' ++ bytes8 x).length = N4 := by rw [HN4.out, HN3.out, HN2.out, HN1.out, HN0.out]; simp [bytes8]
        have e2 : (cur' ++ bytes8 x).map byteVal = xs4 := by rw [HX4.out, HX3.out, HX2.out, HX1.out, HX0.out]; simp [bytes8]
        simp only [packParts, bytesS]
        rw [e1, e2]
        exact h9
  ·obtain rfl : k = ns.length := by omega
   have HM' : Hid (PackMid w p (cur ++ ns.flatMap bytes8) L wr) := by have := HM.out; rw [List.take_length] at this; exact this
   clear HM
   go_wp2
   go_ret
   exact ⟨rfl, HM'.out⟩
end Go.Proofs.YtgbgneiciabidaaGreatDoor
