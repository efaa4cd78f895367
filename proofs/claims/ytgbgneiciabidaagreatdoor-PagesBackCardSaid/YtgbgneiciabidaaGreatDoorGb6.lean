/-
  Spaces (layer 8), the fifth part: a new space.
-/
import Derived.Test.YtgbgneiciabidaaGreatDoorGb4
import Derived.Deep.RegionLaw
import Derived.Deep.DeepCutAuto
import Derived.StillTailTactics
namespace Go.Proofs.YtgbgneiciabidaaGreatDoor
open Go Go.RowKit
set_option linter.unusedVariables false
set_option linter.unusedSimpArgs false

set_option maxRecDepth 100000 in
/-- Any roster may come behind none. -/
theorem sp_fits0 {w : World} {l : List Say} {s : Nat} {x : SpAt} {v : Value} {es : List Ent} (h : Has w l) (hs : ∀ A ∈ spHead s [] x, A ∈ l) (hm : entS v es ∈ l) (hes : es.length ≤ 8) :
    Calls Tryz.prog 119 #[.pointer (some ⟨s, 0, none⟩), .agg #[v]] w fun r w' => r = .returned (.bool true) ∧ Below w.heap.size w w' := by
  have m0 := h.at (hs _ (by simp [spHead]) : pts s (.cells #[.pointer (some ⟨x.st, 0, none⟩), .pointer none] 160 (0, 0)) ∈ l)
  have m1 := h.at (hs _ (by simp [spHead]) : pts x.st (.cells #[x.lv, x.sv] 163 (0, 0)) ∈ l)
  obtain ⟨a, c, rfl, hc, hr⟩ := h.ent_read hm
  obtain ⟨a0, c0, hv0, _, _⟩ := h.ent_read (hs _ (by simp [spHead]) : entS x.lv [] ∈ l)
  have s0 : w.cell? ⟨s, 0, none⟩ = some (.pointer (some ⟨x.st, 0, none⟩)) := cell_of m0 0 rfl
  have t0 : w.cell? ⟨x.st, 0, none⟩ = some (.slice a0 0 c0) := by rw [hv0] at m1; exact cell_of m1 0 rfl
  have l0 := World.block_lt_of_cell? _ _ s0
  have l1 := World.block_lt_of_cell? _ _ t0
  have hd : decide ((es.length : Int) < ((0 : Nat) : Int)) = false := by simp
  have hd0 : decide ((es.length : Int) < 0) = false := by simp
  clear hr h hs hm m0 m1 hv0
  go_enter Tryz.func119, Tryz.ntmps119
  go_wp2
  go_quiet (fail)
  go_wp2
  refine wp_loop_rounds 1 ?_
  rw [rounds_succ]
  go_wp2
  go_ret
  exact ⟨rfl, (((Below.refl _ _).alloc (Nat.le_refl _) _).trans (by exact ⟨rfl, rfl, rfl, Nat.le_refl _, fun _ _ => rfl⟩))⟩

theorem Has.own_cells2 {w : World} {l : List Say} {b : Nat} {u v : Value} {e : TypeId} (h : Has w l) (hm : pts b (.cells #[u, v] e (0, 0)) ∈ l) :
    w.cell? ⟨b, 0, none⟩ = some u ∧ w.cell? ⟨b, 1, none⟩ = some v ∧ w.frozen? ⟨b, 0, none⟩ = false ∧ w.frozen? ⟨b, 1, none⟩ = false :=
  ⟨cell_of (h.at hm) 0 rfl, cell_of (h.at hm) 1 rfl, thaw_of (h.at hm) 0, thaw_of (h.at hm) 1⟩

def TurnPost (s : Nat) (X : Spc) (l : List Say) (w : World) (r : Ending) (w' : World) : Prop := r = .returned .nilIface ∧ Kept w w' ∧ Has w' (spaceS s X :: l)
/-- A space in which all is free. -/
def freshSpc (es : List Ent) : Spc := ⟨es, es.map fun e => emptyShelf e.size⟩

/-- The new roster is laid; k of its devices have a shelf. -/
def TurnMid (w : World) (s : Nat) (st : Nat) (v : Value) (es : List Ent) (l : List Say) (k : Nat) (wx : World) : Prop :=
  ∃ lv sv bs sh, bs.length = k ∧ sh = (es.take k).map (fun e => emptyShelf e.size) ∧ sh.length = k ∧ Kept w wx ∧
    Has wx (pts w.heap.size (.cells #[v] 58 (0, 0)) :: pts s (.cells #[.pointer (some ⟨st, 0, none⟩), .pointer none] 160 (0, 0)) ::
      pts st (.cells #[lv, sv] 163 (0, 0)) :: entS lv es :: rowS 175 1 sv k (bs.map ptr) :: (shelvesL bs sh ++ l))

/-- .. and one more has an empty one; its entry lies at zb. -/
def TurnHas (w : World) (s : Nat) (st zb : Nat) (z : Ent) (v : Value) (es : List Ent) (l : List Say) (lv sv : Value) (bs : List Nat) (sh : List Shelf) (b k : Nat) (wx : World) : Prop :=
  Kept w wx ∧ Has wx (pts zb (.cells #[.int .i64 (z.st : Int), .int .i64 (z.size : Int)] 139 (0, 0)) :: pts w.heap.size (.cells #[v] 58 (0, 0)) ::
      pts s (.cells #[.pointer (some ⟨st, 0, none⟩), .pointer none] 160 (0, 0)) ::
      pts st (.cells #[lv, sv] 163 (0, 0)) :: entS lv es :: rowS 175 1 sv (k + 1) ((bs ++ [b]).map ptr) :: shelfS b (emptyShelf 0) :: (shelvesL bs sh ++ l))
theorem info_shelf : (Tryz.prog.info? 175).map (fun i => (i.zero, i.size, i.bytes)) = some (some (.pointer none), 1, 8) := by kernel_rfl

theorem turn_more {w : World} {l : List Say} {A B C D E F : Say} {bs : List Nat} {sh : List Shelf} {b : Nat} {x : Shelf} (he : bs.length = sh.length)
    (h : Has w (shelfS b x :: A :: B :: C :: D :: E :: F :: (shelvesL bs sh ++ l))) : Has w (B :: C :: D :: E :: F :: (shelvesL (bs ++ [b]) (sh ++ [x]) ++ l)) := by
  have h1 := (h.pull 1).tail
  refine h1.perm ?_
  have e : shelvesL (bs ++ [b]) (sh ++ [x]) = shelvesL bs sh ++ [shelfS b x] := by
    simp only [shelvesL, List.zip_append he, List.map_append]; rfl
  rw [e, List.append_assoc]
  refine (List.perm_middle (l₁ := [B, C, D, E, F] ++ shelvesL bs sh) (l₂ := l)).symm.trans ?_
  simp

theorem turn_done {w : World} {l : List Say} {A : Say} {s st : Nat} {lv sv : Value} {es : List Ent} {bs : List Nat} {sh : List Shelf} (hok : OkEnts es) (hne : es ≠ []) (hb : bs.length = es.length) (hs : sh = es.map fun e => emptyShelf e.size)
    (h : Has w (A :: pts s (.cells #[.pointer (some ⟨st, 0, none⟩), .pointer none] 160 (0, 0)) ::
      pts st (.cells #[lv, sv] 163 (0, 0)) :: entS lv es :: rowS 175 1 sv es.length (bs.map ptr) :: (shelvesL bs sh ++ l))) : Has w (spaceS s (freshSpc es) :: l) := by
  refine Has.sp_shut (x := ⟨st, lv, sv, bs⟩) ⟨hok, hne, ?_, ?_, ?_, ?_⟩ ?_
  · simp [freshSpc, hb]
  · simp [freshSpc]
  · intro i y e hy he
    have hy' : (es.map fun e => emptyShelf e.size)[i]? = some y := hy
    rw [List.getElem?_map, show es[i]? = some e from he] at hy'
    cases hy'; rfl
  · intro i y hy
    have hy' : (es.map fun e => emptyShelf e.size)[i]? = some y := hy
    rw [List.getElem?_map] at hy'
    cases hq : es[i]? with
    | none => rw [hq] at hy'; cases hy'
    | some e => rw [hq] at hy'; cases hy'; exact ⟨fun _ h => by simp [emptyShelf] at h, fun _ h => by simp [emptyShelf] at h, fun _ _ => rfl⟩
  · have h1 := h.tail
    rw [← hb] at h1
    subst hs
    exact h1

set_option maxHeartbeats 4000000 in
set_option maxRecDepth 100000 in
theorem sp_Turn0 {w : World} {l : List Say} {s : Nat} {x : SpAt} {v : Value} {es : List Ent} (h : Has w (spHead s [] x ++ l)) (hx : x.bs = []) (hm : entS v es ∈ l) (hok : OkEnts es) (hne : es ≠ []) :
    Calls Tryz.prog 63 #[.pointer (some ⟨s, 0, none⟩), .agg #[v]] w (TurnPost s (freshSpc es) l w) := by
  have hbox := h.alloc (.cells #[v] 58)
  have HCk := Lib.hid (ros_Check (v := v) (es := es) hbox (.tail _ (List.mem_append_right _ hm)) hok)
  have HK1 : Hid (Kept w (w.alloc (.cells #[v] 58))) := (Kept.refl w).alloc _
  obtain ⟨a, c, hv, hc, _⟩ := h.ent_read (List.mem_append_right _ hm)
  have hlen := hok.len
  have Hbox := Lib.hid hbox
  have Hm := Lib.hid hm
  have Hok := Lib.hid hok
  have Hne := Lib.hid hne
  have hHas : x = ⟨x.st, x.lv, x.sv, x.bs⟩ := rfl
  clear h hbox hm hok hne hHas
  subst hv
  go_enter Tryz.func63, Tryz.ntmps63
  go_wp2_with fail
  refine HCk.out.mono ?_
  rintro r w1 ⟨rfl, hb1⟩
  have h1 := Hbox.out.below hb1
  have HK2 := Lib.hid (HK1.out.trans (Kept.below hb1))
  have cb : w1.cell? ⟨w.heap.size, 0, none⟩ = some (.slice a es.length c) := cell_of h1.got 0 rfl
  have HF := Lib.hid (sp_fits0 h1 (s := s) (x := x) (fun A hA => .tail _ (List.mem_append_left _ hA)) (.tail _ (List.mem_append_right _ Hm.out)) hlen)
  have H1 := Lib.hid h1
  clear h1 hb1 Hbox HCk HK1
  go_wp2_with fail
  refine HF.out.mono ?_
  rintro r w2 ⟨rfl, hb2⟩
  have h2 := H1.out.below hb2
  have HK3 := Lib.hid (HK2.out.trans (Kept.below hb2))
  have cb2 : w2.cell? ⟨w.heap.size, 0, none⟩ = some (.slice a es.length c) := cell_of h2.got 0 rfl
  obtain ⟨s0, _, _, _⟩ := h2.own_cells2 (b := s) (u := .pointer (some ⟨x.st, 0, none⟩)) (v := .pointer none) (e := 160) (by simp [spHead])
  have HC := Lib.hid (space_copied (w := w2.drew) h2.drew (v := .slice a es.length c) (es := es) (.tail _ (List.mem_append_right _ Hm.out)) Hok.out Hne.out)
  have H2 := Lib.hid h2
  clear h2 hb2 H1 HK2 cb HF
  have Hx := Lib.hid hx
  clear hx
  go_upto_region 5 with fail
  go_cut [] (fun wx => TurnMid w s x.st (.slice a es.length c) es l 0 wx)
  case first =>
    go_region_with (go_at_call 91; refine HC.out.mono ?_; rintro r V ⟨v1, rfl, hk, hv⟩; obtain ⟨a1, c1, rfl, _⟩ := hv.row_val (v := v1) (.head _); obtain ⟨s0', _, _, _⟩ := hv.own_cells2 (b := s) (u := .pointer (some ⟨x.st, 0, none⟩)) (v := .pointer none) (e := 160) (by simp [spHead]); obtain ⟨t0', _, f0', _⟩ := hv.own_cells2 (b := x.st) (u := x.lv) (v := x.sv) (e := 163) (by simp [spHead]); have HV := Lib.hid hv; have H3 := Lib.hid ((((hv.pull 3).setCell 0 (.slice a1 es.length c1)).pull 4).tail.pull 3 |>.pull 3); have HK4 := Lib.hid hk; clear hv hk)
    all_goals
      go_wp2_with fail
      go_meet
      refine ⟨.slice a1 es.length c1, x.sv, [], [], rfl, rfl, rfl, (HK3.out.drew.trans HK4.out).setCell _ _, ?_⟩
      have h4 := H3.out
      rw [Hx.out] at h4
      exact h4
  case rest =>
    have HM := Lib.hid hcut
    clear hcut HC H2 HK3 cb2 s0 Hx
    obtain ⟨lv0, sv0, bs0, sh0, _, _, _, _, hm0⟩ := HM.out
    have cb : wc.cell? ⟨w.heap.size, 0, none⟩ = some (.slice a es.length c) := cell_of hm0.got 0 rfl
    clear hm0
    go_wp2
    go_loopg [29] es.length (fun gk i wr => ∃ k : Nat, k ≤ es.length ∧ gk = es.length - k ∧ i = .int .i64 k ∧ Hid (TurnMid w s x.st (.slice a es.length c) es l k wr))
    case atStart => exact ⟨0, Nat.zero_le _, rfl, rfl, HM.out⟩
    case round =>
      clear HM cb
      obtain ⟨k, hk, rfl, rfl, HM⟩ := hrel
      by_cases hlt : k < es.length
      · obtain ⟨lv, sv, bs, sh, hbs, hsh, hshl, hK, hM⟩ := HM.out
        obtain ⟨a', c', hv', _, hr⟩ := hM.ent_read (v := .slice a es.length c) (es := es) (by simp [Hm.out])
        cases hv'
        obtain ⟨g, rfl, e0, e1⟩ := hr k es[k] (List.getElem?_eq_getElem hlt)
        obtain ⟨sa, sc, rfl, _⟩ := hM.row_val (e := 175) (size := 1) (v := sv) (n := k) (xs := bs.map ptr) (by simp)
        obtain ⟨s0, _, _, _⟩ := hM.own_cells2 (b := s) (u := .pointer (some ⟨x.st, 0, none⟩)) (v := .pointer none) (e := 160) (by simp)
        obtain ⟨_, t1, _, _⟩ := hM.own_cells2 (b := x.st) (u := lv) (v := .slice sa k sc) (e := 163) (by simp)
        have hsz := (Hok.out.ok es[k] (List.getElem_mem hlt)).1
        generalize hxk : es[k] = z at *
        have gl : ∀ {p : Addr} {v : Value}, wr.cell? p = some v → p.block < wr.heap.size := fun h => World.block_lt_of_cell? _ _ h
        have l1 := gl s0
        have l2 := gl t1
        have l3 := gl e0
        have HW := hM.alloc (.cells #[.int .i64 (z.st : Int), .int .i64 (z.size : Int)] 139)
        have hKW : Kept w (wr.alloc (.cells #[.int .i64 (z.st : Int), .int .i64 (z.size : Int)] 139)) := hK.alloc _
        have hM2 := Lib.hid hM
        clear gl hr hM
        go_upto_region 10 with fail
        generalize wr.alloc (.cells #[.int .i64 (z.st : Int), .int .i64 (z.size : Int)] 139) = W at *
        generalize wr.heap.size = zb at *
        clear s0 t1 e0 e1 l1 l2 l3 hM2
        obtain ⟨s0, _, _, _⟩ := HW.own_cells2 (b := s) (u := .pointer (some ⟨x.st, 0, none⟩)) (v := .pointer none) (e := 160) (by simp)
        obtain ⟨_, t1, _, _⟩ := HW.own_cells2 (b := x.st) (u := lv) (v := .slice sa k sc) (e := 163) (by simp)
        have HN := Lib.hid (newShelf (w := W.drew) HW.drew 0 (by omega))
        have HKW := Lib.hid hKW
        have HHW := Lib.hid HW
        obtain ⟨i0, I1, I2, I3, I4⟩ := info_parts info_shelf
        clear HW hKW
        go_cut [] (fun wx => ∃ sv' b, Hid (TurnHas w s x.st zb z (.slice (some ⟨g, 0, none⟩) es.length c) es l lv sv' bs sh b k wx))
        case first =>
          go_region_law (first
            | (go_loud (refine step_append_row rfl (.tmp 54) (.tmp 56) 161 rfl 175 i0 (.pointer none) 1 8 Tryz.underlying161 I1 I2 I3 I4 rfl (by decide) (.slice sa k sc) k (bs.map ptr) rfl (HRow.out.alloc_off _) ⟨_, 0, none⟩ 1 1 [.pointer (some ⟨b, 0, none⟩)] rfl rfl (one_new _ _ _) (by intro u hu; simp at hu; subst hu; rfl) (by simp [maxLen]; omega) (by omega) ?_)
               intro v2 V2 hK2 h2; obtain ⟨a2, c2, rfl, _⟩ := h2.row_val (e := 175) (size := 1) (n := k + 1) (v := v2) (xs := bs.map ptr ++ [.pointer (some ⟨b, 0, none⟩)]) (.head _); obtain ⟨s0'', _, _, _⟩ := h2.own_cells2 (b := s) (u := .pointer (some ⟨x.st, 0, none⟩)) (v := .pointer none) (e := 160) (by simp); obtain ⟨_, t1'', _, f1''⟩ := h2.own_cells2 (b := x.st) (u := lv) (v := .slice sa k sc) (e := 163) (by simp); have H5 := Lib.hid h2; have HK5 := Lib.hid hK2; clear h2 hK2)
            | (go_simp; go_at_call 120; refine HN.out.mono ?_; rintro r V ⟨b, rfl, hk, hv⟩; obtain ⟨s0', _, _, _⟩ := hv.own_cells2 (b := s) (u := .pointer (some ⟨x.st, 0, none⟩)) (v := .pointer none) (e := 160) (by simp); obtain ⟨_, t1', _, f1'⟩ := hv.own_cells2 (b := x.st) (u := lv) (v := .slice sa k sc) (e := 163) (by simp); have HRow : Hid (Has V (rowS 175 1 (.slice sa k sc) k (bs.map ptr) :: shelfS b (emptyShelf 0) :: pts zb (.cells #[.int .i64 (z.st : Int), .int .i64 (z.size : Int)] 139 (0, 0)) :: pts w.heap.size (.cells #[.slice (some ⟨g, 0, none⟩) es.length c] 58 (0, 0)) :: pts s (.cells #[.pointer (some ⟨x.st, 0, none⟩), .pointer none] 160 (0, 0)) :: pts x.st (.cells #[lv, .slice sa k sc] 163 (0, 0)) :: entS lv es :: (shelvesL bs sh ++ l))) := hv.pull 6; have HK4 := Lib.hid hk; have l0' := World.block_lt_of_cell? _ _ s0'; have l1' := World.block_lt_of_cell? _ _ t1'; clear hv hk))
          all_goals
            go_wp2_with fail
            go_meet
            refine ⟨.slice a2 (k + 1) c2, b, ((((HKW.out.drew.trans HK4.out).alloc _).trans HK5.out).setCell _ _), ?_⟩
            have h6 := ((((((((H5.out.pull 5).setCell 1 (.slice a2 (k + 1) c2)).pull 2).pull 2).pull 6).pull 3).pull 6).pull 6).pull 6
            simp only [List.map_append, List.map_cons, List.map_nil]
            exact h6
        case rest =>
          clear HN HHW HKW s0 t1
          obtain ⟨sv', b, HT⟩ := hcut
          obtain ⟨hK3, hH3⟩ := HT.out
          obtain ⟨s0, _, _, _⟩ := hH3.own_cells2 (b := s) (u := .pointer (some ⟨x.st, 0, none⟩)) (v := .pointer none) (e := 160) (by simp)
          obtain ⟨sa3, sc3, rfl, _⟩ := hH3.row_val (e := 175) (size := 1) (v := sv') (n := k + 1) (xs := (bs ++ [b]).map ptr) (by simp)
          obtain ⟨_, t1, _, _⟩ := hH3.own_cells2 (b := x.st) (u := lv) (v := .slice sa3 (k + 1) sc3) (e := 163) (by simp)
          obtain ⟨_, z1, _, _⟩ := hH3.own_cells2 (b := zb) (u := .int .i64 (z.st : Int)) (v := .int .i64 (z.size : Int)) (e := 139) (by simp)
          obtain ⟨_, _, _, hsv3, _, _, hrr⟩ := hH3.row_read (e := 175) (v := .slice sa3 (k + 1) sc3) (n := k + 1) (xs := (bs ++ [b]).map ptr) (by simp)
          cases hsv3
          obtain ⟨q, rfl, p0, _⟩ := hrr k (ptr b) (by rw [List.map_append, List.getElem?_append_right (by simp [hbs])]; simp [hbs])
          unfold ptr at p0
          have HK8 : Hid (Kept w wc.drew) := hK3.drew
          have HG := Lib.hid (shelf_grow (w := wc.drew) ((hH3.pull 6).drew) z.size (by simp [emptyShelf]) hsz)
          have Hbs := Lib.hid hbs
          have Hsh := Lib.hid hsh
          have Hshl := Lib.hid hshl
          have Hxk := Lib.hid hxk
          have hk1 : (k : Int) < ((k + 1 : Nat) : Int) := by omega
          have hk0 : (0 : Int) ≤ k := by omega
          generalize hkm : k + 1 = m at t1 hk1
          have Hkm := Lib.hid hkm
          clear hrr hH3 hK3 HT hbs hsh hshl hxk hkm
          go_wp2_with fail
          go_still_tail 12, (by kernel_rfl)
          change wpList _ _ _ _ _ wc.drew
          generalize wc.drew = w2 at *
          go_wp2_with fail
          refine HG.out.mono ?_
          rintro r w3 ⟨rfl, hk3, hh3⟩
          have HK7 := Lib.hid hk3
          have HH7 := Lib.hid hh3
          clear hk3 hh3 HG
          go_wp2
          go_roundg (es.length - (k + 1))
          case measure => omega
          case rel =>
            refine ⟨k + 1, by omega, by omega, ?_, ?_⟩
            · simp
            · have hb := Hbs.out
              have hl := Hshl.out
              refine ⟨lv, .slice (some ⟨q, 0, none⟩) m sc3, bs ++ [b], sh ++ [emptyShelf z.size], by simp [hb], ?_, by simp [hl], ?_, ?_⟩
              · rw [List.take_add_one, List.map_append, ← Hsh.out, List.getElem?_eq_getElem hlt, Hxk.out]; rfl
              · exact HK8.out.trans HK7.out
              · have e := Hkm.out
                subst e
                exact turn_more (by rw [hb, hl]) HH7.out
      · obtain rfl : k = es.length := by omega
        obtain ⟨lv, sv, bs, sh, hbs, hsh, hshl, hK, hM⟩ := HM.out
        have Hfin : Hid (Kept w wr ∧ Has wr (spaceS s (freshSpc es) :: l)) := ⟨hK, turn_done Hok.out Hne.out hbs (by rw [hsh, List.take_length]) hM⟩
        clear hM hK hbs hsh hshl HM
        go_wp2
        go_ret
        exact ⟨rfl, Hfin.out⟩
end Go.Proofs.YtgbgneiciabidaaGreatDoor
/-
  Spaces (layer 8), the sixth part: New, Roster, Taken.
-/
namespace Go.Proofs.YtgbgneiciabidaaGreatDoor
open Go Go.RowKit
set_option linter.unusedVariables false
set_option linter.unusedSimpArgs false

def NewPost (es : List Ent) (l : List Say) (w : World) (r : Ending) (w' : World) : Prop := ∃ s, r = .returned (.tuple #[.pointer (some ⟨s, 0, none⟩), .nilIface]) ∧ Kept w w' ∧ Has w' (spaceS s (freshSpc es) :: l)

set_option maxRecDepth 100000 in
theorem sp_New {w : World} {l : List Say} {v : Value} {es : List Ent} (h : Has w l) (hm : entS v es ∈ l) (hok : OkEnts es) (hne : es ≠ []) :
    Calls Tryz.prog 29 #[.agg #[v]] w (NewPost es l w) := by
  have h1 := h.alloc_off (.cells #[v] 58)
  have c1 := (h.alloc (.cells #[v] 58)).got
  have h2 := h1.alloc (.cells #[.slice none 0 0, .slice none 0 0] 163)
  have h3 := h2.alloc (.cells #[.pointer (some ⟨w.heap.size + 1, 0, none⟩), .pointer none] 160)
  have k1 : Kept w (((w.alloc (.cells #[v] 58)).alloc (.cells #[.slice none 0 0, .slice none 0 0] 163)).alloc (.cells #[.pointer (some ⟨w.heap.size + 1, 0, none⟩), .pointer none] 160)) := (((Kept.refl w).alloc _).alloc _).alloc _
  have cb : (w.alloc (.cells #[v] 58)).cell? ⟨w.heap.size, 0, none⟩ = some v := cell_of c1 0 rfl
  simp only [World.size_alloc] at h2 h3
  obtain ⟨a, c, hv, hc, _⟩ := h.ent_read hm
  subst hv
  have h4 := (((h3.row_nil 175 1).row_nil 139 2).pull 3).pull 3
  have HT := Lib.hid (sp_Turn0 (s := w.heap.size + 1 + 1) (x := ⟨w.heap.size + 1, .slice none 0 0, .slice none 0 0, []⟩) (v := .slice a es.length c) (es := es) (l := l) h4 rfl hm hok hne)
  have K1 := Lib.hid k1
  clear h h1 h2 h3 k1 hm hok hne c1 h4
  go_enter Tryz.func29, Tryz.ntmps29
  go_wp2_with fail
  refine HT.out.mono ?_
  rintro r w1 ⟨rfl, hk, hh⟩
  have HP : Hid (Kept w w1 ∧ Has w1 (spaceS (w.heap.size + 1 + 1) (freshSpc es) :: l)) := ⟨K1.out.trans hk, hh⟩
  clear hk hh HT K1
  go_wp2
  go_ret2
  exact ⟨_, rfl, HP.out.1, HP.out.2⟩

set_option maxRecDepth 100000 in
theorem sp_Roster {w : World} {l : List Say} {s : Nat} {X : Spc} (h : Has w (spaceS s X :: l)) :
    Calls Tryz.prog 30 #[.pointer (some ⟨s, 0, none⟩)] w (EntPost w X.es (spaceS s X :: l)) := by
  obtain ⟨x, ok, hh⟩ := h.sp_open
  have h1 := hh.alloc (.cells #[.slice none 0 0] 58)
  obtain ⟨a, c, sa, sc, R⟩ := h1.sp_read (s := s) (X := X) (x := x) (fun A hA => .tail _ (List.mem_append_left _ hA)) ok
  have HC := Lib.hid (space_copied h1 (v := x.lv) (es := X.es) (by simp [spFlat, spHead]) ok.ents ok.ne)
  rw [R.lv] at HC
  have s0 : (w.alloc (.cells #[.slice none 0 0] 58)).cell? ⟨s, 0, none⟩ = some (.pointer (some ⟨x.st, 0, none⟩)) := R.s0
  have t0 : (w.alloc (.cells #[.slice none 0 0] 58)).cell? ⟨x.st, 0, none⟩ = some (.slice a X.es.length c) := R.t0
  have HK : Hid (Kept w (w.alloc (.cells #[.slice none 0 0] 58))) := (Kept.refl w).alloc _
  have l0 := World.block_lt_of_cell? _ _ s0
  have l1 := World.block_lt_of_cell? _ _ t0
  have Hok := Lib.hid ok
  have Hh := Lib.hid hh
  clear R h1 hh h ok
  go_enter Tryz.func30, Tryz.ntmps30
  generalize hW : w.alloc (.cells #[.slice none 0 0] 58) = W at *
  go_wp2_with fail
  refine HC.out.mono ?_
  rintro r w1 ⟨v1, rfl, hK, h2⟩
  obtain ⟨a1, k1, rfl, _⟩ := h2.row_val (e := 139) (size := 2) (v := v1) (n := X.es.length) (xs := X.es.flatMap Ent.cells) (.head _)
  have hp := h2.swap.got
  have f1 := thaw_of hp 0
  have c1 : w1.cell? ⟨w.heap.size, 0, none⟩ = some (.slice none 0 0) := cell_of hp 0 rfl
  have hz : w.heap.size < w1.heap.size := World.block_lt_of_cell? _ _ c1
  have H2 := Lib.hid ((h2.swap.setCell 0 (.slice a1 X.es.length k1)).tail)
  have HK1 := Lib.hid (HK.out.trans hK)
  clear h2 hK hp HC
  go_wp2
  refine bodyPost_ret (v := .agg #[.slice a1 X.es.length k1]) (by simp [results, Tryz.results30, go_sem, c1]) rfl ⟨.slice a1 X.es.length k1, rfl, HK1.out.setCell _ _, ?_⟩
  exact (Has.swap (Has.sp_shut Hok.out (H2.out.perm List.perm_middle.symm)))

set_option maxRecDepth 100000 in
theorem sp_Taken {w : World} {l : List Say} {s : Nat} {X : Spc} (h : Has w (spaceS s X :: l)) (d k : Nat) (e : Ent) (y : Shelf) (r : InRoom X d k e y) :
    Calls Tryz.prog 35 #[.pointer (some ⟨s, 0, none⟩), .int .i64 ((d * 4096 + k : Nat) : Int)] w fun r w' => r = .returned (.bool (y.taken k)) ∧ Kept w w' ∧ Has w' (spaceS s X :: l) := by
  obtain ⟨x, ok, hh⟩ := h.sp_open
  have hy := r.shelf
  obtain ⟨a, c, sa, sc, R⟩ := hh.sp_read (fun A hA => List.mem_append_left _ hA) ok
  obtain ⟨q, b, _, _, hmem, hb⟩ := R.shelf d y hy
  have HF := Lib.hid (sp_find hh (fun A hA => List.mem_append_left _ hA) ok d k e y r b hb)
  have Hmem : Hid (shelfS b y ∈ spFlat s X x ++ l) := List.mem_append_left _ (List.mem_append_right _ hmem)
  have Hh := Lib.hid hh
  have Hok := Lib.hid ok
  clear R h hh ok hmem hb hy r
  go_enter Tryz.func35, Tryz.ntmps35
  go_wp2_with fail
  refine HF.out.mono ?_
  rintro r w1 ⟨rfl, hb1⟩
  have h1 := Hh.out.below hb1
  obtain ⟨x1, y1, z1, c0, c1, c2, hbm⟩ := h1.shelf_read Hmem.out
  have HH := Lib.hid (bm_Has hbm (b := x1) (.head _) k)
  have H1 := Lib.hid h1
  have HB := Lib.hid hb1
  clear h1 hb1 hbm Hh HF
  go_wp2_with fail
  refine HH.out.mono ?_
  rintro r w2 ⟨rfl, rfl⟩
  go_wp2
  go_ret
  exact ⟨rfl, Kept.below HB.out, H1.out.sp_shut Hok.out⟩
end Go.Proofs.YtgbgneiciabidaaGreatDoor
