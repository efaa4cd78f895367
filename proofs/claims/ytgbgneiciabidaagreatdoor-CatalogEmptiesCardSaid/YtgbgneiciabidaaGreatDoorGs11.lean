/-
  The document's side of nodes: Fits, Rising, Right.
-/
import Derived.Test.YtgbgneiciabidaaGreatDoorGs3
import Derived.Deep.OwnRows
import Derived.Deep.RegionLaw
import Derived.Test.YtgbgneiciabidaaGreatDoorGs7
import Derived.Deep.DeepCutAuto
import Derived.StillTailTactics
import Derived.Test.YtgbgneiciabidaaGreatDoorGs10
import Derived.Deep.RegionHeld3
import Derived.Test.YtgbgneiciabidaaGreatDoorCards
import Derived.Test.YtgbgneiciabidaaGreatDoorTie
import Derived.ProofKit
import Derived.OpenShut
import Derived.Carry
import Derived.Lib.SmallJoins
import Derived.Deep.DeepHandedRow
import Derived.Lib.LaidTab
import Derived.LaidEql
import Derived.Stop.Asserts
import Derived.RowKitTokens
namespace Go.Proofs.YtgbgneiciabidaaGreatDoor
open Go Go.RowKit
set_option linter.all false
set_option maxHeartbeats 8000000
def Rd (w : World) (v : Value) (xs : List Int) : Prop := ∃ a c, v = .slice a xs.length c /\ ∀ k (hk : k < xs.length), ∃ b off, a = some ⟨b, off, none⟩ /\ w.cell? ⟨b, off + k, none⟩ = some (.int .i64 xs[k])
theorem Rd.below {w w' : World} {v : Value} {xs : List Int} (h : Rd w v xs) (hb : Below w.heap.size w w') : Rd w' v xs := by
 obtain ⟨a, c, e, hr⟩ := h
 exact ⟨a, c, e, fun k hk => by obtain ⟨b, off, ea, hc⟩ := hr k hk; exact ⟨b, off, ea, bcell1 hb hc⟩⟩
theorem Has.rd {w : World} {l : List Say} {v : Value} {xs : List Int} (h : Has w l) (hm : intsS v xs ∈ l) : Rd w v xs := by
 obtain ⟨a, c, e, _, hr⟩ := h.ints_read hm
 exact ⟨a, c, e, fun k hk => by obtain ⟨g, ea, hc, _⟩ := hr k hk; exact ⟨g, 0, ea, by rw [Nat.zero_add]; exact hc⟩⟩
/-
  Spaces (layer 8), the fifth part: a new space.
-/
set_option maxRecDepth 100000 in
theorem sp_fits0 {w : World} {l : List Say} {s : Nat} {x : SpAt} {v : Value} {es : List Ent} (h : Has w l) (hs : ∀ A ∈ spHead s [] x, A ∈ l) (hm : entS v es ∈ l) (hes : es.length <= 8) :
  Calls Tryz.prog 119 #[.pointer (some ⟨s, 0, none⟩), .agg #[v]] w fun r w' => r = .returned (.bool true) /\ Below w.heap.size w w' := by
 have m0 := h.at (hs _ (by simp [spHead]) : pts s (.cells #[.pointer (some ⟨x.st, 0, none⟩), .pointer none] 160 (0, 0)) ∈ l)
 have m1 := h.at (hs _ (by simp [spHead]) : pts x.st (.cells #[x.lv, x.sv] 163 (0, 0)) ∈ l)
 obtain ⟨a, c, rfl, hc, hr⟩ := h.ent_read hm
 obtain ⟨a0, c0, hv0, _, _⟩ := h.ent_read (hs _ (by simp [spHead]) : entS x.lv [] ∈ l)
 have s0 : w.cell? ⟨s, 0, none⟩ = some (.pointer (some ⟨x.st, 0, none⟩)) := cell_of m0 0 rfl
 have t0 : w.cell? ⟨x.st, 0, none⟩ = some (.slice a0 0 c0) := by rw [hv0] at m1; exact cell_of m1 0 rfl
 have l0 := World.block_lt_of_cell? _ _ s0
 have l1 := World.block_lt_of_cell? _ _ t0
 have hd : decide ((es.length : Int) < ((0 : Nat) : Int)) = false := by simp
 have hd0 : decide ((es.length : Int) < 0) = false := by simp
 clear hr h hs hm m0 m1 hv0
 go_enter Tryz.func119, Tryz.ntmps119
 go_wp2
 go_quiet (fail)
 go_wp2
 refine wp_loop_rounds 1 ?_
 rw [rounds_succ]
 go_wp2
 go_ret
 exact ⟨rfl, (((Below.refl _ _).alloc (Nat.le_refl _) _).trans (by exact ⟨rfl, rfl, rfl, Nat.le_refl _, fun _ _ => rfl⟩))⟩
theorem Has.own_cells2 {w : World} {l : List Say} {b : Nat} {u v : Value} {e : TypeId} (h : Has w l) (hm : pts b (.cells #[u, v] e (0, 0)) ∈ l) :
  w.cell? ⟨b, 0, none⟩ = some u /\ w.cell? ⟨b, 1, none⟩ = some v /\ w.frozen? ⟨b, 0, none⟩ = false /\ w.frozen? ⟨b, 1, none⟩ = false :=
 ⟨cell_of (h.at hm) 0 rfl, cell_of (h.at hm) 1 rfl, thaw_of (h.at hm) 0, thaw_of (h.at hm) 1⟩
def TurnPost (s : Nat) (X : Spc) (l : List Say) (w : World) (r : Ending) (w' : World) : Prop := r = .returned .nilIface /\ Kept w w' /\ Has w' (spaceS s X :: l)
def freshSpc (es : List Ent) : Spc := ⟨es, es.map fun e => emptyShelf e.size⟩
def TurnMid (w : World) (s : Nat) (st : Nat) (v : Value) (es : List Ent) (l : List Say) (k : Nat) (wx : World) : Prop :=
 ∃ lv sv bs sh, bs.length = k /\ sh = (es.take k).map (fun e => emptyShelf e.size) /\ sh.length = k /\ Kept w wx /\
  Has wx (pts w.heap.size (.cells #[v] 58 (0, 0)) :: pts s (.cells #[.pointer (some ⟨st, 0, none⟩), .pointer none] 160 (0, 0)) ::
   pts st (.cells #[lv, sv] 163 (0, 0)) :: entS lv es :: rowS 175 1 sv k (bs.map ptr) :: (shelvesL bs sh ++ l))
def TurnHas (w : World) (s : Nat) (st zb : Nat) (z : Ent) (v : Value) (es : List Ent) (l : List Say) (lv sv : Value) (bs : List Nat) (sh : List Shelf) (b k : Nat) (wx : World) : Prop :=
 Kept w wx /\ Has wx (pts zb (.cells #[.int .i64 (z.st : Int), .int .i64 (z.size : Int)] 139 (0, 0)) :: pts w.heap.size (.cells #[v] 58 (0, 0)) ::
   pts s (.cells #[.pointer (some ⟨st, 0, none⟩), .pointer none] 160 (0, 0)) ::
   pts st (.cells #[lv, sv] 163 (0, 0)) :: entS lv es :: rowS 175 1 sv (k + 1) ((bs ++ [b]).map ptr) :: shelfS b (emptyShelf 0) :: (shelvesL bs sh ++ l))
theorem info_shelf : (Tryz.prog.info? 175).map (fun i => (i.zero, i.size, i.bytes)) = some (some (.pointer none), 1, 8) := by kernel_rfl
theorem turn_more {w : World} {l : List Say} {A B C D E F : Say} {bs : List Nat} {sh : List Shelf} {b : Nat} {x : Shelf} (he : bs.length = sh.length)
  (h : Has w (shelfS b x :: A :: B :: C :: D :: E :: F :: (shelvesL bs sh ++ l))) : Has w (B :: C :: D :: E :: F :: (shelvesL (bs ++ [b]) (sh ++ [x]) ++ l)) := by
 have h1 := (h.pull 1).tail
 refine h1.perm ?_
 have e : shelvesL (bs ++ [b]) (sh ++ [x]) = shelvesL bs sh ++ [shelfS b x] := by
  simp only [shelvesL, List.zip_append he, List.map_append]; rfl
 rw [e, List.append_assoc]
 refine (List.perm_middle (l₁ := [B, C, D, E, F] ++ shelvesL bs sh) (l₂ := l)).symm.trans ?_
 simp
theorem turn_done {w : World} {l : List Say} {A : Say} {s st : Nat} {lv sv : Value} {es : List Ent} {bs : List Nat} {sh : List Shelf} (hok : OkEnts es) (hne : es ≠ []) (hb : bs.length = es.length) (hs : sh = es.map fun e => emptyShelf e.size)
  (h : Has w (A :: pts s (.cells #[.pointer (some ⟨st, 0, none⟩), .pointer none] 160 (0, 0)) ::
   pts st (.cells #[lv, sv] 163 (0, 0)) :: entS lv es :: rowS 175 1 sv es.length (bs.map ptr) :: (shelvesL bs sh ++ l))) : Has w (spaceS s (freshSpc es) :: l) := by
 refine Has.sp_shut (x := ⟨st, lv, sv, bs⟩) ⟨hok, hne, ?_, ?_, ?_, ?_⟩ ?_
 ·simp [freshSpc, hb]
 ·simp [freshSpc]
 ·intro i y e hy he
  have hy' : (es.map fun e => emptyShelf e.size)[i]? = some y := hy
  rw [List.getElem?_map, show es[i]? = some e from he] at hy'
  cases hy'; rfl
 ·intro i y hy
  have hy' : (es.map fun e => emptyShelf e.size)[i]? = some y := hy
  rw [List.getElem?_map] at hy'
  cases hq : es[i]? with
  | none => rw [hq] at hy'; cases hy'
  | some e => rw [hq] at hy'; cases hy'; exact ⟨fun _ h => by simp [emptyShelf] at h, fun _ h => by simp [emptyShelf] at h, fun _ _ => rfl⟩
 ·have h1 := h.tail
  rw [<- hb] at h1
  subst hs
  exact h1
set_option maxRecDepth 100000 in
theorem sp_Turn0 {w : World} {l : List Say} {s : Nat} {x : SpAt} {v : Value} {es : List Ent} (h : Has w (spHead s [] x ++ l)) (hx : x.bs = []) (hm : entS v es ∈ l) (hok : OkEnts es) (hne : es ≠ []) :
    Calls Tryz.prog 63 #[.pointer (some ⟨s, 0, none⟩), .agg #[v]] w (TurnPost s (freshSpc es) l w) := by
  have hbox := h.alloc (.cells #[v] 58)
  have HCk := Lib.hid (ros_Check (v := v) (es := es) hbox (.tail _ (List.mem_append_right _ hm)) hok)
  have HK1 : Hid (Kept w (w.alloc (.cells #[v] 58))) := (Kept.refl w).alloc _
  obtain ⟨a, c, hv, hc, _⟩ := h.ent_read (List.mem_append_right _ hm)
  have hlen := hok.len
  have Hbox := Lib.hid hbox
  have Hm := Lib.hid hm
  have Hok := Lib.hid hok
  have Hne := Lib.hid hne
  have hHas : x = ⟨x.st, x.lv, x.sv, x.bs⟩ := rfl
  clear h hbox hm hok hne hHas
  subst hv
  go_enter Tryz.func63, Tryz.ntmps63
  go_wp2_with fail
  refine HCk.out.mono ?_
  rintro r w1 ⟨rfl, hb1⟩
  have h1 := Hbox.out.below hb1
  have HK2 := Lib.hid (HK1.out.trans (Kept.below hb1))
  have cb : w1.cell? ⟨w.heap.size, 0, none⟩ = some (.slice a es.length c) := cell_of h1.got 0 rfl
  have HF := Lib.hid (sp_fits0 h1 (s := s) (x := x) (fun A hA => .tail _ (List.mem_append_left _ hA)) (.tail _ (List.mem_append_right _ Hm.out)) hlen)
  have H1 := Lib.hid h1
  clear h1 hb1 Hbox HCk HK1
  go_wp2_with fail
  refine HF.out.mono ?_
  rintro r w2 ⟨rfl, hb2⟩
  have h2 := H1.out.below hb2
  have HK3 := Lib.hid (HK2.out.trans (Kept.below hb2))
  have cb2 : w2.cell? ⟨w.heap.size, 0, none⟩ = some (.slice a es.length c) := cell_of h2.got 0 rfl
  obtain ⟨s0, _, _, _⟩ := h2.own_cells2 (b := s) (u := .pointer (some ⟨x.st, 0, none⟩)) (v := .pointer none) (e := 160) (by simp [spHead])
  have HC := Lib.hid (space_copied (w := w2.drew) h2.drew (v := .slice a es.length c) (es := es) (.tail _ (List.mem_append_right _ Hm.out)) Hok.out Hne.out)
  have H2 := Lib.hid h2
  clear h2 hb2 H1 HK2 cb HF
  have Hx := Lib.hid hx
  clear hx
  go_upto_region 5 with fail
  go_cut [] (fun wx => TurnMid w s x.st (.slice a es.length c) es l 0 wx)
  case first =>
    go_region_with (go_at_call 91; refine HC.out.mono ?_; rintro r V ⟨v1, rfl, hk, hv⟩; obtain ⟨a1, c1, rfl, _⟩ := hv.row_val (v := v1) (.head _); obtain ⟨s0', _, _, _⟩ := hv.own_cells2 (b := s) (u := .pointer (some ⟨x.st, 0, none⟩)) (v := .pointer none) (e := 160) (by simp [spHead]); obtain ⟨t0', _, f0', _⟩ := hv.own_cells2 (b := x.st) (u := x.lv) (v := x.sv) (e := 163) (by simp [spHead]); have HV := Lib.hid hv; have H3 := Lib.hid ((((hv.pull 3).setCell 0 (.slice a1 es.length c1)).pull 4).tail.pull 3 |>.pull 3); have HK4 := Lib.hid hk; clear hv hk)
    all_goals
      go_wp2_with fail
      go_meet
      refine ⟨.slice a1 es.length c1, x.sv, [], [], rfl, rfl, rfl, (HK3.out.drew.trans HK4.out).setCell _ _, ?_⟩
      have h4 := H3.out
      rw [Hx.out] at h4
      exact h4
  case rest =>
    have HM := Lib.hid hcut
    clear hcut HC H2 HK3 cb2 s0 Hx
    obtain ⟨lv0, sv0, bs0, sh0, _, _, _, _, hm0⟩ := HM.out
    have cb : wc.cell? ⟨w.heap.size, 0, none⟩ = some (.slice a es.length c) := cell_of hm0.got 0 rfl
    clear hm0
    go_wp2
    go_loopg [29] es.length (fun gk i wr => ∃ k : Nat, k <= es.length /\ gk = es.length - k /\ i = .int .i64 k /\ Hid (TurnMid w s x.st (.slice a es.length c) es l k wr))
    case atStart => exact ⟨0, Nat.zero_le _, rfl, rfl, HM.out⟩
    case round =>
      clear HM cb
      obtain ⟨k, hk, rfl, rfl, HM⟩ := hrel
      by_cases hlt : k < es.length
      · obtain ⟨lv, sv, bs, sh, hbs, hsh, hshl, hK, hM⟩ := HM.out
        obtain ⟨a', c', hv', _, hr⟩ := hM.ent_read (v := .slice a es.length c) (es := es) (by simp [Hm.out])
        cases hv'
        obtain ⟨g, rfl, e0, e1⟩ := hr k es[k] (List.getElem?_eq_getElem hlt)
        obtain ⟨sa, sc, rfl, _⟩ := hM.row_val (e := 175) (size := 1) (v := sv) (n := k) (xs := bs.map ptr) (by simp)
        obtain ⟨s0, _, _, _⟩ := hM.own_cells2 (b := s) (u := .pointer (some ⟨x.st, 0, none⟩)) (v := .pointer none) (e := 160) (by simp)
        obtain ⟨_, t1, _, _⟩ := hM.own_cells2 (b := x.st) (u := lv) (v := .slice sa k sc) (e := 163) (by simp)
        have hsz := (Hok.out.ok es[k] (List.getElem_mem hlt)).1
        generalize hxk : es[k] = z at *
        have gl : ∀ {p : Addr} {v : Value}, wr.cell? p = some v -> p.block < wr.heap.size := fun h => World.block_lt_of_cell? _ _ h
        have l1 := gl s0
        have l2 := gl t1
        have l3 := gl e0
        have HW := hM.alloc (.cells #[.int .i64 (z.st : Int), .int .i64 (z.size : Int)] 139)
        have hKW : Kept w (wr.alloc (.cells #[.int .i64 (z.st : Int), .int .i64 (z.size : Int)] 139)) := hK.alloc _
        have hM2 := Lib.hid hM
        clear gl hr hM
        go_upto_region 10 with fail
        generalize wr.alloc (.cells #[.int .i64 (z.st : Int), .int .i64 (z.size : Int)] 139) = W at *
        generalize wr.heap.size = zb at *
        clear s0 t1 e0 e1 l1 l2 l3 hM2
        obtain ⟨s0, _, _, _⟩ := HW.own_cells2 (b := s) (u := .pointer (some ⟨x.st, 0, none⟩)) (v := .pointer none) (e := 160) (by simp)
        obtain ⟨_, t1, _, _⟩ := HW.own_cells2 (b := x.st) (u := lv) (v := .slice sa k sc) (e := 163) (by simp)
        have HN := Lib.hid (newShelf (w := W.drew) HW.drew 0 (by omega))
        have HKW := Lib.hid hKW
        have HHW := Lib.hid HW
        obtain ⟨i0, I1, I2, I3, I4⟩ := info_parts info_shelf
        clear HW hKW
        go_cut [] (fun wx => ∃ sv' b, Hid (TurnHas w s x.st zb z (.slice (some ⟨g, 0, none⟩) es.length c) es l lv sv' bs sh b k wx))
        case first =>
          go_region_law (first
            | (go_loud (refine step_append_row rfl (.tmp 54) (.tmp 56) 161 rfl 175 i0 (.pointer none) 1 8 Tryz.underlying161 I1 I2 I3 I4 rfl (by decide) (.slice sa k sc) k (bs.map ptr) rfl (HRow.out.alloc_off _) ⟨_, 0, none⟩ 1 1 [.pointer (some ⟨b, 0, none⟩)] rfl rfl (one_new _ _ _) (by intro u hu; simp at hu; subst hu; rfl) (by simp [maxLen]; omega) (by omega) ?_)
               intro v2 V2 hK2 h2; obtain ⟨a2, c2, rfl, _⟩ := h2.row_val (e := 175) (size := 1) (n := k + 1) (v := v2) (xs := bs.map ptr ++ [.pointer (some ⟨b, 0, none⟩)]) (.head _); obtain ⟨s0'', _, _, _⟩ := h2.own_cells2 (b := s) (u := .pointer (some ⟨x.st, 0, none⟩)) (v := .pointer none) (e := 160) (by simp); obtain ⟨_, t1'', _, f1''⟩ := h2.own_cells2 (b := x.st) (u := lv) (v := .slice sa k sc) (e := 163) (by simp); have H5 := Lib.hid h2; have HK5 := Lib.hid hK2; clear h2 hK2)
            | (go_simp; go_at_call 120; refine HN.out.mono ?_; rintro r V ⟨b, rfl, hk, hv⟩; obtain ⟨s0', _, _, _⟩ := hv.own_cells2 (b := s) (u := .pointer (some ⟨x.st, 0, none⟩)) (v := .pointer none) (e := 160) (by simp); obtain ⟨_, t1', _, f1'⟩ := hv.own_cells2 (b := x.st) (u := lv) (v := .slice sa k sc) (e := 163) (by simp); have HRow : Hid (Has V (rowS 175 1 (.slice sa k sc) k (bs.map ptr) :: shelfS b (emptyShelf 0) :: pts zb (.cells #[.int .i64 (z.st : Int), .int .i64 (z.size : Int)] 139 (0, 0)) :: pts w.heap.size (.cells #[.slice (some ⟨g, 0, none⟩) es.length c] 58 (0, 0)) :: pts s (.cells #[.pointer (some ⟨x.st, 0, none⟩), .pointer none] 160 (0, 0)) :: pts x.st (.cells #[lv, .slice sa k sc] 163 (0, 0)) :: entS lv es :: (shelvesL bs sh ++ l))) := hv.pull 6; have HK4 := Lib.hid hk; have l0' := World.block_lt_of_cell? _ _ s0'; have l1' := World.block_lt_of_cell? _ _ t1'; clear hv hk))
          all_goals
            go_wp2_with fail
            go_meet
            refine ⟨.slice a2 (k + 1) c2, b, ((((HKW.out.drew.trans HK4.out).alloc _).trans HK5.out).setCell _ _), ?_⟩
            have h6 := ((((((((H5.out.pull 5).setCell 1 (.slice a2 (k + 1) c2)).pull 2).pull 2).pull 6).pull 3).pull 6).pull 6).pull 6
            simp only [List.map_append, List.map_cons, List.map_nil]
            exact h6
        case rest =>
          clear HN HHW HKW s0 t1
          obtain ⟨sv', b, HT⟩ := hcut
          obtain ⟨hK3, hH3⟩ := HT.out
          obtain ⟨s0, _, _, _⟩ := hH3.own_cells2 (b := s) (u := .pointer (some ⟨x.st, 0, none⟩)) (v := .pointer none) (e := 160) (by simp)
          obtain ⟨sa3, sc3, rfl, _⟩ := hH3.row_val (e := 175) (size := 1) (v := sv') (n := k + 1) (xs := (bs ++ [b]).map ptr) (by simp)
          obtain ⟨_, t1, _, _⟩ := hH3.own_cells2 (b := x.st) (u := lv) (v := .slice sa3 (k + 1) sc3) (e := 163) (by simp)
          obtain ⟨_, z1, _, _⟩ := hH3.own_cells2 (b := zb) (u := .int .i64 (z.st : Int)) (v := .int .i64 (z.size : Int)) (e := 139) (by simp)
          obtain ⟨_, _, _, hsv3, _, _, hrr⟩ := hH3.row_read (e := 175) (v := .slice sa3 (k + 1) sc3) (n := k + 1) (xs := (bs ++ [b]).map ptr) (by simp)
          cases hsv3
          obtain ⟨q, rfl, p0, _⟩ := hrr k (ptr b) (by rw [List.map_append, List.getElem?_append_right (by simp [hbs])]; simp [hbs])
          unfold ptr at p0
          have HK8 : Hid (Kept w wc.drew) := hK3.drew
          have HG := Lib.hid (shelf_grow (w := wc.drew) ((hH3.pull 6).drew) z.size (by simp [emptyShelf]) hsz)
          have Hbs := Lib.hid hbs
          have Hsh := Lib.hid hsh
          have Hshl := Lib.hid hshl
          have Hxk := Lib.hid hxk
          have hk1 : (k : Int) < ((k + 1 : Nat) : Int) := by omega
          have hk0 : (0 : Int) <= k := by omega
          generalize hkm : k + 1 = m at t1 hk1
          have Hkm := Lib.hid hkm
          clear hrr hH3 hK3 HT hbs hsh hshl hxk hkm
          go_wp2_with fail
          go_still_tail 12, (by kernel_rfl)
          change wpList _ _ _ _ _ wc.drew
          generalize wc.drew = w2 at *
          go_wp2_with fail
          refine HG.out.mono ?_
          rintro r w3 ⟨rfl, hk3, hh3⟩
          have HK7 := Lib.hid hk3
          have HH7 := Lib.hid hh3
          clear hk3 hh3 HG
          go_wp2
          go_roundg (es.length - (k + 1))
          case measure => omega
          case rel =>
            refine ⟨k + 1, by omega, by omega, ?_, ?_⟩
            · simp
            · have hb := Hbs.out
              have hl := Hshl.out
              refine ⟨lv, .slice (some ⟨q, 0, none⟩) m sc3, bs ++ [b], sh ++ [emptyShelf z.size], by simp [hb], ?_, by simp [hl], ?_, ?_⟩
              · rw [List.take_add_one, List.map_append, <- Hsh.out, List.getElem?_eq_getElem hlt, Hxk.out]; rfl
              · exact HK8.out.trans HK7.out
              · have e := Hkm.out
                subst e
                exact turn_more (by rw [hb, hl]) HH7.out
      · obtain rfl : k = es.length := by omega
        obtain ⟨lv, sv, bs, sh, hbs, hsh, hshl, hK, hM⟩ := HM.out
        have Hfin : Hid (Kept w wr /\ Has wr (spaceS s (freshSpc es) :: l)) := ⟨hK, turn_done Hok.out Hne.out hbs (by rw [hsh, List.take_length]) hM⟩
        clear hM hK hbs hsh hshl HM
        go_wp2
        go_ret
        exact ⟨rfl, Hfin.out⟩
/-
  Spaces (layer 8), the sixth part: New, Roster, Taken.
-/
def NewPost (es : List Ent) (l : List Say) (w : World) (r : Ending) (w' : World) : Prop := ∃ s, r = .returned (.tuple #[.pointer (some ⟨s, 0, none⟩), .nilIface]) /\ Kept w w' /\ Has w' (spaceS s (freshSpc es) :: l)
set_option maxRecDepth 100000 in
theorem sp_New {w : World} {l : List Say} {v : Value} {es : List Ent} (h : Has w l) (hm : entS v es ∈ l) (hok : OkEnts es) (hne : es ≠ []) :
  Calls Tryz.prog 29 #[.agg #[v]] w (NewPost es l w) := by
 have h1 := h.alloc_off (.cells #[v] 58)
 have c1 := (h.alloc (.cells #[v] 58)).got
 have h2 := h1.alloc (.cells #[.slice none 0 0, .slice none 0 0] 163)
 have h3 := h2.alloc (.cells #[.pointer (some ⟨w.heap.size + 1, 0, none⟩), .pointer none] 160)
 have k1 : Kept w (((w.alloc (.cells #[v] 58)).alloc (.cells #[.slice none 0 0, .slice none 0 0] 163)).alloc (.cells #[.pointer (some ⟨w.heap.size + 1, 0, none⟩), .pointer none] 160)) := (((Kept.refl w).alloc _).alloc _).alloc _
 have cb : (w.alloc (.cells #[v] 58)).cell? ⟨w.heap.size, 0, none⟩ = some v := cell_of c1 0 rfl
 simp only [World.size_alloc] at h2 h3
 obtain ⟨a, c, hv, hc, _⟩ := h.ent_read hm
 subst hv
 have h4 := (((h3.row_nil 175 1).row_nil 139 2).pull 3).pull 3
 have HT := Lib.hid (sp_Turn0 (s := w.heap.size + 1 + 1) (x := ⟨w.heap.size + 1, .slice none 0 0, .slice none 0 0, []⟩) (v := .slice a es.length c) (es := es) (l := l) h4 rfl hm hok hne)
 have K1 := Lib.hid k1
 clear h h1 h2 h3 k1 hm hok hne c1 h4
 go_enter Tryz.func29, Tryz.ntmps29
 go_wp2_with fail
 refine HT.out.mono ?_
 rintro r w1 ⟨rfl, hk, hh⟩
 have HP : Hid (Kept w w1 /\ Has w1 (spaceS (w.heap.size + 1 + 1) (freshSpc es) :: l)) := ⟨K1.out.trans hk, hh⟩
 clear hk hh HT K1
 go_wp2
 go_ret2
 exact ⟨_, rfl, HP.out.1, HP.out.2⟩
set_option maxRecDepth 100000 in
theorem sp_Roster {w : World} {l : List Say} {s : Nat} {X : Spc} (h : Has w (spaceS s X :: l)) :
  Calls Tryz.prog 30 #[.pointer (some ⟨s, 0, none⟩)] w (EntPost w X.es (spaceS s X :: l)) := by
 obtain ⟨x, ok, hh⟩ := h.sp_open
 have h1 := hh.alloc (.cells #[.slice none 0 0] 58)
 obtain ⟨a, c, sa, sc, R⟩ := h1.sp_read (s := s) (X := X) (x := x) (fun A hA => .tail _ (List.mem_append_left _ hA)) ok
 have HC := Lib.hid (space_copied h1 (v := x.lv) (es := X.es) (by simp [spFlat, spHead]) ok.ents ok.ne)
 rw [R.lv] at HC
 have s0 : (w.alloc (.cells #[.slice none 0 0] 58)).cell? ⟨s, 0, none⟩ = some (.pointer (some ⟨x.st, 0, none⟩)) := R.s0
 have t0 : (w.alloc (.cells #[.slice none 0 0] 58)).cell? ⟨x.st, 0, none⟩ = some (.slice a X.es.length c) := R.t0
 have HK : Hid (Kept w (w.alloc (.cells #[.slice none 0 0] 58))) := (Kept.refl w).alloc _
 have l0 := World.block_lt_of_cell? _ _ s0
 have l1 := World.block_lt_of_cell? _ _ t0
 have Hok := Lib.hid ok
 have Hh := Lib.hid hh
 clear R h1 hh h ok
 go_enter Tryz.func30, Tryz.ntmps30
 generalize hW : w.alloc (.cells #[.slice none 0 0] 58) = W at *
 go_wp2_with fail
 refine HC.out.mono ?_
 rintro r w1 ⟨v1, rfl, hK, h2⟩
 obtain ⟨a1, k1, rfl, _⟩ := h2.row_val (e := 139) (size := 2) (v := v1) (n := X.es.length) (xs := X.es.flatMap Ent.cells) (.head _)
 have hp := h2.swap.got
 have f1 := thaw_of hp 0
 have c1 : w1.cell? ⟨w.heap.size, 0, none⟩ = some (.slice none 0 0) := cell_of hp 0 rfl
 have hz : w.heap.size < w1.heap.size := World.block_lt_of_cell? _ _ c1
 have H2 := Lib.hid ((h2.swap.setCell 0 (.slice a1 X.es.length k1)).tail)
 have HK1 := Lib.hid (HK.out.trans hK)
 clear h2 hK hp HC
 go_wp2
 refine bodyPost_ret (v := .agg #[.slice a1 X.es.length k1]) (by simp [results, Tryz.results30, go_sem, c1]) rfl ⟨.slice a1 X.es.length k1, rfl, HK1.out.setCell _ _, ?_⟩
 exact (Has.swap (Has.sp_shut Hok.out (H2.out.perm List.perm_middle.symm)))
/-
  Law 11, plain: what a fresh space gives first.
-/
theorem fits_fresh (sizes : List Nat) (hb : ∀ n ∈ sizes, n <= 4096) : Fits (freshSpc (sizes.map fun n => ⟨1, n⟩)) (sizes.map fun n => List.replicate n zeros) [] := by
 refine ⟨by simp [freshSpc], ?_, ?_, ?_⟩
 ·intro d y secs hy hs
  simp only [freshSpc, List.map_map, List.getElem?_map] at hy hs
  cases hq : sizes[d]? with
  | none => rw [hq] at hy; cases hy
  | some n => rw [hq] at hy hs; cases hy; cases hs; simp [emptyShelf]
 ·intro d k y _ _ _; simp [VMap.get]
 ·intro d y hy
  simp only [freshSpc, List.map_map, List.getElem?_map] at hy
  cases hq : sizes[d]? with
  | none => rw [hq] at hy; cases hy
  | some n => rw [hq] at hy; cases hy; exact hb n (List.mem_of_getElem? hq)
/-
  Law 11: numbers that came in; the copy of a node that came in ('of').
-/
def Src (w : World) (v : Value) (xs : List Int) : Prop := (v = .slice none 0 0 /\ xs = []) \/ ∃ (a : Addr) (c : Nat), v = .slice (some a) xs.length c /\ ∀ k (hk : k < xs.length), w.cell? (a.add k) = some (.int .i64 xs[k])
theorem Src.rd {w : World} {v : Value} {xs : List Int} (h : Src w v xs) : Rd w v xs := by
 rcases h with ⟨rfl, rfl⟩ | ⟨⟨b, off, sp⟩, c, rfl, hr⟩
 ·exact ⟨none, 0, rfl, fun k hk => absurd hk (Nat.not_lt_zero _)⟩
 ·refine ⟨_, c, rfl, fun k hk => ?_⟩
  have h0 := hr 0 (by omega)
  have hs : sp = none := by
   cases sp with
   | none => rfl
   | some x =>
    exfalso
    unfold World.cell? Addr.add at h0
    simp at h0
    split at h0 <;> simp at h0
  subst hs
  refine ⟨b, off, rfl, ?_⟩
  have := hr k hk
  rwa [Addr.add_lit] at this
theorem Src.of_old {W w : World} {l : List Say} {v : Value} {xs : List Int} (h : Src W v xs) (hw : Has w l) (hm : old W ∈ l) : Src w v xs := by
 rcases h with h | ⟨a, c, rfl, hr⟩
 ·exact .inl h
 ·exact .inr ⟨a, c, rfl, fun k hk => hw.old_cell hm (hr k hk)⟩
def Srcs (l : List Say) (v : Value) (xs : List Int) : Prop := ∀ w, Has w l -> Src w v xs
theorem Srcs.of_old {W : World} {l : List Say} {v : Value} {xs : List Int} (h : Src W v xs) (hm : old W ∈ l) : Srcs l v xs := fun w hw => h.of_old hw hm
theorem Srcs.of_ints {l : List Say} {v : Value} {xs : List Int} (hm : intsS v xs ∈ l) : Srcs l v xs := by
 intro w h
 obtain ⟨h1, h2⟩ := h.row_own hm
 rcases h2 with ⟨rfl, h0⟩ | ⟨g, cap, cur, rfl, _, hg, hn, hc, hs, ht⟩
 ·obtain rfl := List.eq_nil_of_length_eq_zero h0
  exact .inl ⟨rfl, rfl⟩
 ·refine .inr ⟨⟨g, 0, none⟩, cap, rfl, fun k hk => ?_⟩
  rw [Addr.add_lit, Nat.zero_add]
  refine cell_of hg k ?_
  have e : (xs.map intVal)[k]? = some (intVal xs[k]) := by rw [List.getElem?_map, List.getElem?_eq_getElem hk]; rfl
  rw [<- ht, List.getElem?_take_of_lt (by omega)] at e
  simpa [intVal] using e
end Go.Proofs.YtgbgneiciabidaaGreatDoor
/-
  The door of a law: what the listed table gives; arguments that read as they did.
-/
namespace Go.Proofs.YtgbgneiciabidaaGreatDoor
open Go Go.ChangeShapes Go.WideShapes Go.ChangeAt Go.RowKit
set_option linter.all false
set_option maxHeartbeats 8000000
theorem Tryz.own : ownKnob Tryz.prog.godebug = none := by kernel_rfl
theorem gTab : Tryz.prog.globalNamed "math/bits.deBruijn64tab" = some 0 := by kernel_rfl
theorem gTabType : (Tryz.prog.globals[0]?).map (·.type) = some 335 := by kernel_rfl
theorem cells_tab : Tryz.prog.cellsOf 335 = 64 := by kernel_rfl
theorem cells_u8 : Tryz.prog.cellsOf 5 = 1 := by kernel_rfl
theorem cells_int : Tryz.prog.cellsOf 3 = 1 := by kernel_rfl
theorem Tryz.laidOut : laidOutB Tryz.prog = true := by kernel_rfl
def tabNums : List Int := (List.range 64).map fun j => ((Lib.deBruijn64tab.getD j 0 : Nat) : Int)
theorem laid_tab : (Rows.laid_math_bits_deBruijn64tab : DataW Unit) = Lib.tabData .u8 tabNums := by kernel_rfl
theorem table_at {W : World} (h : laidMet Tryz.prog [("math/bits.deBruijn64tab", Rows.laid_math_bits_deBruijn64tab)] W) : ∀ j, j < 64 -> W.cell? ⟨0, j, none⟩ = some (.int .u8 (Lib.deBruijn64tab.getD j 0 : Nat)) := by
 rw [laid_tab] at h
 have ht := Lib.tabIs_of_head (rest := []) gTab gTabType Tryz.underlying335 Tryz.underlying5 cells_u8 cells_tab h
 intro j hj
 have hl : j < tabNums.length := by simpa [tabNums] using hj
 have := ht.cell gTab j hl
 rw [this]
 simp [tabNums, List.getElem?_range hj]
theorem src_of_trod {H : Type} {enc : TypeId × Value -> H} {W : World} {base fuel : Nat} {spare : Nat -> Bool} {held : Bool} {v : Value} {x : DataW H × List MemPlace} (h : DataW.trod enc Tryz.prog W base spare held fuel 22 [v] = some x) :
  ∃ xs : List Int, Src W v xs := by
 rcases open_ints Tryz.underlying22 Tryz.underlying3 cells_int h with ⟨hv, _⟩ | ⟨a, len, cap, zs, hv, _, hlc, _, hlen, _, hc, _⟩
 ·exact ⟨[], .inl ⟨by simpa using hv, rfl⟩⟩
 ·have hle : len <= zs.length := by rw [hlen]; split <;> omega
  refine ⟨zs.take len, .inr ⟨a, cap, ?_, fun k hk => ?_⟩⟩
  ·rw [List.length_take, Nat.min_eq_left hle]; simpa using hv
  ·rw [List.length_take] at hk
   have := hc k (by omega)
   rw [this, List.getElem_take, List.getD_eq_getElem?_getD, List.getElem?_eq_getElem (by omega)]
   rfl
noncomputable def laidWorld (os : Os) : World :=
 { World.holding Tryz.prog os ⟨#[], #[], []⟩ with heap := (World.holding Tryz.prog os ⟨#[], #[], []⟩).heap.modify 0 fun
   | .cells _ t frozen => .cells (tabNums.map fun z => Value.int .u8 z).toArray t frozen
   | o => o }
theorem post_of_below {H : Type} {enc : TypeId × Value -> H} {P : Program} {f : Func} {s : ChangeSpec} {apart fresh handsOn again : Bool} {W W' : World} {args : Array Value} {v : Value} {ds gs : List (DataW H)} {before pa pv : List MemPlace}
  (hW : DataW.Whole enc P f.params.toList s.vars apart W args.toList ds gs before)
  (hres : ∀ (b : Nat) (sp : Nat -> Bool) (hd : Bool), DataW.TrodAll enc P W' b sp hd f.resultTypes.toList (v.resultList f.resultTypes.size) (s.fn H (ds ++ gs)).results [])
  (hargs : ∀ sp : Nat -> Bool, (∀ p ∈ before, sp p.block = true) -> DataW.TrodAll enc P W' 0 sp true f.params.toList args.toList (s.fn H (ds ++ gs)).args pa)
  (hvars : ∀ sp : Nat -> Bool, (∀ p ∈ before, sp p.block = true) -> DataW.TrodVars enc P W' sp s.vars (s.fn H (ds ++ gs)).vars pv)
  (hps : before = pa ++ pv) (hb : Below W.heap.size W W')
  (hok : ∀ (j : Nat) (t : TypeId) (r : Value), f.resultTypes[j]? = some t -> (v.resultList f.resultTypes.size)[j]? = some r -> Value.okWide P W' .any 0 t r) :
  s.post enc P f apart fresh handsOn again W args v W' := by
 have hlt : ∀ p ∈ before, p.block < W.heap.size := fun p hp => hW.lt p hp
 have hold : ∀ p ∈ before, (fun b => decide (b < W.heap.size)) p.block = true := fun p hp => by simpa using hlt p hp
 refine ⟨ds, gs, before, [], pa, pv, hW, hres _ _ _, hargs _ hold, hvars _ hold, World.keptBut_mono (fun p hp => ⟨hp, ?_⟩) (hb.frame (· ∈ before)), fun _ => ?_⟩
 ·rw [hps, List.mem_append] at hp
  exact Or.inr hp
 ·obtain ⟨_, _, _, _, _, hz, hn⟩ := hW
  refine ⟨hok, _, _, ([] ++ pa) ++ pv, ⟨[] ++ pa, pv, trodAll_append (hargs _ (fun _ _ => rfl)) (hres _ _ _), hvars _ (fun _ _ => rfl), rfl, ?_, ?_⟩, ?_⟩
  ·intro b off hp
   have hin : MemPlace.cell b off ∈ before := by rw [hps]; simpa using hp
   rw [hb.frozen (hlt _ hin)]
   exact hz b off hin
  ·intro ha
   have := hn ha
   rw [hps] at this
   simpa using this
  ·intro p hp _
   rw [hps]
   simpa using hp
theorem args_again {H : Type} {enc : TypeId × Value -> H} {W W' : World} (hb : Below W.heap.size W W') {sp : Nat -> Bool} : ∀ {ts : List TypeId} {vs : List Value} {ds : List (DataW H)} {ps : List MemPlace}, (∀ t ∈ ts, t < Tryz.prog.types.size /\ Tryz.prog.readableRec t = true) ->
  DataW.TrodAll enc Tryz.prog W 0 (fun _ => true) true ts vs ds ps -> (∀ p ∈ ps, p.block < W.heap.size) -> (∀ p ∈ ps, sp p.block = true) -> DataW.TrodAll enc Tryz.prog W' 0 sp true ts vs ds ps
 | [], [], [], _, _, h, _, _ => h
 | t :: ts, v :: vs, d :: ds, ps, ht, ⟨p, q, h1, h2, e⟩, hlt, hs =>
  ⟨p, q, WideElems.Trod_stays Tryz.laidOut (ht t (.head _)).2 (ht t (.head _)).1 h1 (fun x hx => hb.same (hlt x (by rw [e]; exact List.mem_append_left _ hx))) (fun x hx => hs x (by rw [e]; exact List.mem_append_left _ hx)),
   args_again hb (fun u hu => ht u (.tail _ hu)) h2 (fun x hx => hlt x (by rw [e]; exact List.mem_append_right _ hx)) (fun x hx => hs x (by rw [e]; exact List.mem_append_right _ hx)), e⟩
theorem and2 {a b : Bool} (h : a = true) (k : b = true) : (a && b) = true := by rw [h, k]; rfl
end Go.Proofs.YtgbgneiciabidaaGreatDoor
/-
  Law 11: is (errors.Is between codes).
-/
namespace Go.Proofs.YtgbgneiciabidaaGreatDoor
open Go Go.RowKit Go.Extern.Stop Go.Stop Go.Extern
set_option linter.all false
set_option maxHeartbeats 8000000
theorem run_equalIn_iface_int {P : Program} (w : World) (d : Nat) {ti tn : TypeId} {ms : Array (String × TypeId)} {i : TypeInfo} {k : IntKind} (a b : Int)
  (hi : P.underlying ti = some (.interface ms)) (hn : P.underlying tn = some (.int k)) (hinfo : P.info? tn = some i) (hcomp : i.comparable = true) :
  (Op.equalIn (d + 2) ti (.iface tn (.int k a)) (.iface tn (.int k b))).run P w = .ok (a == b) w := by
 simp [Op.equalIn, run_underlying hi, run_underlying hn, typeInfo, hinfo, hcomp]
theorem run_eql_iface_int {P : Program} (w : World) {ti tn : TypeId} {ms : Array (String × TypeId)} {i : TypeInfo} {k : IntKind} (a b : Int)
  (hi : P.underlying ti = some (.interface ms)) (hn : P.underlying tn = some (.int k)) (hinfo : P.info? tn = some i) (hcomp : i.comparable = true) :
  (binOp .eql ti (.iface tn (.int k a)) (.iface tn (.int k b))).run P w = .ok (.bool (a == b)) w := by
 simp only [binOp]
 simp [Op.equal, Op.maxDepth, run_equalIn_iface_int w 9998 a b hi hn hinfo hcomp]
def codeCmp : TypeId -> Sem Value := fun t => do Extern.Rtype.noPackHeld "Comparable" t; pure (.bool (<- typeInfo t).comparable)
def codeCall : Array Value -> Sem Value := Extern.ReflectliteType.method codeCmp
theorem code_typeOf (v : Value) (w : World) : (Extern.ReflectliteType.typeOf #[.iface 157 v]).run Tryz.prog w = .ok (.iface 293 (.agg #[.pointer (some ⟨1, 157, none⟩)])) w := by kernel_rfl
theorem code_comparable (w : World) : (codeCall #[.agg #[.pointer (some ⟨1, 157, none⟩)]]).run Tryz.prog w = .ok (.bool true) w := by kernel_rfl
theorem code_method (v : Value) (w : World) : (Go.method 241 293 v "Comparable").run Tryz.prog w = .ok (288, v) w := by kernel_rfl
theorem code_comp : (Tryz.prog.info? 157).map (·.comparable) = some true := by kernel_rfl
theorem code_noIs (v : Value) (xT : TypeId) (w : World) : (Instr.typeAssert (.iface 157 v) xT 295 true).run Tryz.prog w = .ok (.tuple #[.nilIface, .bool false]) w := run_typeAssert_lacksB Tryz.underlying295 (by kernel_rfl) (by kernel_rfl) v xT w
theorem code_noUnwrap (v : Value) (xT : TypeId) (w : World) : (Instr.typeAssert (.iface 157 v) xT 298 true).run Tryz.prog w = .ok (.tuple #[.nilIface, .bool false]) w := run_typeAssert_lacksB Tryz.underlying298 (by kernel_rfl) (by kernel_rfl) v xT w
theorem code_noUnwraps (v : Value) (xT : TypeId) (w : World) : (Instr.typeAssert (.iface 157 v) xT 299 true).run Tryz.prog w = .ok (.tuple #[.nilIface, .bool false]) w := run_typeAssert_lacksB Tryz.underlying299 (by kernel_rfl) (by kernel_rfl) v xT w
set_option maxRecDepth 100000 in
theorem errors_Is (a b : Int) (w : World) : Calls Tryz.prog 86 #[errV a, errV b] w fun e w' => e = .returned (.bool (a == b)) /\ w = w' := by
 obtain ⟨i, hi, hcmp⟩ := Option.map_eq_some_iff.1 code_comp
 have h8 := @run_callFunc_extern Tryz.prog 150 _ Extern.ReflectliteType.typeOf Tryz.func150 (by kernel_rfl) (by kernel_rfl) (by kernel_rfl) (by kernel_rfl)
 have h32 := @run_callFunc_extern Tryz.prog 288 _ codeCall Tryz.func288 (by kernel_rfl) (by kernel_rfl) (by kernel_rfl) (by kernel_rfl)
 have tT := code_typeOf
 have cT := code_comparable
 have mR := code_method
 have nE := code_noIs
 have uE := code_noUnwrap
 have vE := code_noUnwraps
 have heq := run_eql_iface_int (P := Tryz.prog) w a b Tryz.underlying38 Tryz.underlying157 hi hcmp
 simp only [errV]
 cases hab : (a == b) with
 | true =>
  rw [hab] at heq
  go_enter Tryz.func86, Tryz.ntmps86
  go_wp2
  refine wp_loop_rounds 1 ?_
  rw [rounds_succ]
  go_wp2
  go_ret
  exact ⟨rfl, rfl⟩
 | false =>
  rw [hab] at heq
  go_enter Tryz.func86, Tryz.ntmps86
  go_wp2
  refine wp_loop_rounds 1 ?_
  rw [rounds_succ]
  go_wp2
  go_ret
  exact ⟨rfl, rfl⟩
def errE : Option Int -> Value
 | none => .nilIface
 | some c => errV c
def isE : Option Int -> Int -> Bool
 | none, want => want == 0
 | some c, want => !(want == 0) && c == want
end Go.Proofs.YtgbgneiciabidaaGreatDoor
