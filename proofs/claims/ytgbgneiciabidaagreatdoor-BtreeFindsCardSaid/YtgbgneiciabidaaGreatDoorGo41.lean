/-
  Trees (layer 12): the value of a key (Find).
-/
import Derived.Test.YtgbgneiciabidaaGreatDoorGo40
import Derived.ScopeJumps
namespace Go.Proofs.YtgbgneiciabidaaGreatDoor
open Go Go.RowKit
set_option linter.all false

def FoundPost (p bank sp N : Nat) (es : List Ent) (Q : Pgs) (L : List KV) (key : Int) (l : List Say) (w : World) (r : Ending) (w' : World) : Prop :=
  Kept w w' ∧ r = .returned (foundV L key) ∧ Has w' (btS p bank sp N es Q :: l)
def FindAt (p : Nat) (key addr : Int) (a : Act) : Prop :=
  ∃ u1 u3 u4 u5 u6 u7 u9 u10 u11 u12 u13 u14 u15 u16 u17 u18 u19 u20 u21 u22 u23 u24 u25 u26 u27 u28 u29 u30 u31 u32 u33 u34 u35 u36 u37 u38 u39 u40 u41 u42 u43 u44 u45 u46 u47 u48 u49 : Value, a = { tmps := #[.pointer (some ⟨p, 0, none⟩), u1, .int .i64 key, u3, u4, u5, u6, u7, .int .i64 addr, u9, u10, u11, u12, u13, u14, u15, u16, u17, u18, u19, u20, u21, u22, u23, u24, u25, u26, u27, u28, u29, u30, u31, u32, u33, u34, u35, u36, u37, u38, u39, u40, u41, u42, u43, u44, u45, u46, u47, u48, u49], defers := [] }
def FindJ (p bank sp N : Nat) (es : List Ent) (Q : Pgs) (L : List KV) (key : Int) (l : List Say) (w : World) (a : Act) (w' : World) : Prop :=
  ∃ (addr : Int) (lv : Nat) (LM : List KV) (sM : Nat), FindAt p key addr a ∧ Tr Q lv addr LM sM ∧ Srt LM ∧ getK L key = getK LM key ∧ Kept w w' ∧ Has w' (btS p bank sp N es Q :: l)
def intOf8 : Value → Int | .int _ q => q | _ => 0
def lvAt (Q : Pgs) (a : Int) : Nat := ((VMap.get a Q).map fun g => g.n.level.toNat).getD 0
set_option maxHeartbeats 4000000 in
set_option maxRecDepth 100000 in
theorem bt_Find {w : World} {l : List Say} {p bank sp N : Nat} {es : List Ent} {Q : Pgs} (root key : Int) {L : List KV} {lv s : Nat} (h : Has w (btS p bank sp N es Q :: l)) (hT : Tr Q lv root L s) (hs : Srt L) :
    Calls Tryz.prog 47 #[.pointer (some ⟨p, 0, none⟩), .int .i64 root, .int .i64 key] w (FoundPost p bank sp N es Q L key l w) := by
  go_enter Tryz.func47, Tryz.ntmps47
  go_wp2
  refine wp_scope_jumps 0 (FindJ p bank sp N es Q L key l w) (fun a' _ => lvAt Q (intOf8 (a'.tmps.getD 8 undef))) rfl ?_ ?_
  · have hK := Kept.refl w
    obtain ⟨LM, hTM, hsM, hgk⟩ : ∃ LM, Tr Q lv root LM s ∧ Srt LM ∧ getK L key = getK LM key := ⟨L, hT, hs, rfl⟩
    clear hT hs
    have hT := hTM
    have hs := hsM
    clear hTM hsM
    have hh := h
    obtain ⟨addr, hra⟩ : ∃ addr : Int, addr = root := ⟨_, rfl⟩
    subst hra
    clear h
    go_wp2
    go_step3
    obtain ⟨g, hg, hlv⟩ := hT.get
    obtain ⟨hI, _⟩ := hh.bt_inv
    obtain ⟨ok, _, _⟩ := hI.pg addr g hg
    have hbd := (hI.adr addr (by rw [hg]; rfl)).bd
    obtain ⟨o0, o1, o2, o3, o4⟩ := ok_lens ok
    have hpn := ok_pairs ok
    have HG := Lib.hid (bt_Get hh addr (by omega) (by omega))
    have hfa := find_at hpn.1 key (fr := (if g.n.keys[lowB g.n.keys key]? = some key then Value.tuple #[.int .i64 (lowB g.n.keys key : Nat), .bool true] else .tuple #[.int .i64 ((lowB g.n.keys key : Nat) - 1), .bool false])) (by rw [pairs_keys ok])
    obtain ⟨fr, hfr⟩ : ∃ fr : Value, (if g.n.keys[lowB g.n.keys key]? = some key then Value.tuple #[.int .i64 (lowB g.n.keys key : Nat), .bool true] else .tuple #[.int .i64 ((lowB g.n.keys key : Nat) - 1), .bool false]) = fr := ⟨_, rfl⟩
    rw [hfr] at hfa
    have HX := Lib.hid (And.intro hT (And.intro hs (And.intro hgk (And.intro hg ok))))
    have HKW := Lib.hid hK
    have HLn := Lib.hid (And.intro hpn (And.intro o2 (And.intro o3 o4)))
    have Hlv := Lib.hid hlv
    have Hfr := Lib.hid hfr
    have Hfa := Lib.hid hfa
    clear hT hs hgk hg ok hK hh hI hbd hpn o0 o1 o2 o3 o4 hlv hfr hfa
    obtain ⟨⟨lvI, keys, vals⟩, ho, he⟩ := g
    simp only at HG Hfr HLn Hlv
    go_wp2_with fail
    refine HG.out.mono ?_
    rintro r w1 ⟨hK1, (⟨h1, _⟩ | ⟨g', ak, ck, av, cv, h1, rfl, h3⟩)⟩
    · rw [HX.out.2.2.2.1] at h1; cases h1
    rw [HX.out.2.2.2.1] at h1
    obtain rfl := Option.some.inj h1
    clear h1 HG
    simp only [Nd.val]
    have h4 := h3.alloc (.cells #[.int .i64 lvI, .slice ak keys.length ck, .slice av vals.length cv] 35)
    have hk4 := hK1.alloc (.cells #[.int .i64 lvI, .slice ak keys.length ck, .slice av vals.length cv] 35)
    have HFd := Lib.hid (node_Find ⟨lvI, keys, vals⟩ (w := w1.alloc (.cells #[.int .i64 lvI, .slice ak keys.length ck, .slice av vals.length cv] 35)) (kv := .slice ak keys.length ck) (vv := .slice av vals.length cv) (h4.rd (by simp)) (ok_rising HX.out.2.2.2.2) (by have := HLn.out.2.2.2; simp only at this ⊢; omega) key)
    simp only at HFd
    rw [Hfr.out] at HFd
    have H4 := Lib.hid h4
    have HK4 := Lib.hid hk4
    clear h3 h4 hK1 hk4 Hfr
    simp only [Nd.val] at HFd
    go_wp2_with fail
    refine HFd.out.mono ?_
    rintro r w2 ⟨rfl, hb2⟩
    have h5 := H4.out.below hb2
    have HK5 := Lib.hid (HKW.out.trans (HK4.out.trans (Kept.below hb2)))
    clear hb2 HFd H4 HK4 HKW
    generalize w1.heap.size = r12 at *
    have hg12 := h5.got
    have n0 : w2.cell? ⟨r12, 0, none⟩ = some (.int .i64 lvI) := cell_of hg12 0 rfl
    have n2 : w2.cell? ⟨r12, 2, none⟩ = some (.slice av vals.length cv) := cell_of hg12 2 rfl
    have l12 := World.block_lt_of_cell? _ _ n0
    have h6 : Has w2 (btS p bank sp N es Q :: l) := (h5.reord [3]).strip (M := [_, _, _])
    have hfa := Hfa.out
    clear Hfa
    rcases hfa with ⟨rfl, hlow⟩ | ⟨i, kv, ex, hp, rfl, hle, hdr, hex⟩
    · have HF : Hid (FoundPost p bank sp N es Q L key l w (.returned (.tuple #[.int .i64 0, .bool false])) w2) := by
        refine ⟨HK5.out, ?_, h6⟩
        have h0 : (⟨lvI, keys, vals⟩ : Nd).pairs ≠ [] := fun h => by
          have q1 := HLn.out.1.2.2
          rw [h] at q1
          have := HLn.out.2.2.1
          simp at q1 this
          omega
        rw [foundV, HX.out.2.2.1, find_low HX.out.1 HX.out.2.1 HX.out.2.2.2.1 hlow h0]
      clear hlow h5 h6 hg12 HX HLn Hlv HK5
      go_wp2
      try simp only [Exit.jump]
      go_ret2
      exact HF.out
    · obtain ⟨kv, vv⟩ := kv
      obtain ⟨va, vc, e1, _, hrv⟩ := h5.ints_read (v := .slice av vals.length cv) (xs := vals) (by simp)
      injection e1 with e1 e2 e3
      subst e1
      clear e2 e3
      have hpz := hp
      unfold Nd.pairs at hpz
      rw [List.getElem?_zip_eq_some] at hpz
      obtain ⟨hlv', hev⟩ := List.getElem?_eq_some_iff.1 hpz.2
      obtain ⟨gv, rfl, vc0, _⟩ := hrv i hlv'
      rw [hev] at vc0
      have lgv := World.block_lt_of_cell? _ _ vc0
      have ixI : (i : Int) < (vals.length : Int) := Int.ofNat_lt.2 hlv'
      have ix0 : (0 : Int) ≤ i := by omega
      have HPp := Lib.hid (And.intro hp (And.intro hle (And.intro hdr hex)))
      have H6 := Lib.hid h6
      have Hcnt : Hid (vals.length = vals.length) := rfl
      clear hp hle hdr hpz hlv' hev h5 h6 hg12 hrv
      generalize vals.length = nv at n2 ixI
      cases lv with
      | succ lv =>
        have hlI : (0 : Int) < lvI := by rw [Hlv.out]; omega
        obtain ⟨LM, sM, q1, q2, q3⟩ := find_mid HX.out.1 HX.out.2.1 HX.out.2.2.2.1 HPp.out.1 HPp.out.2.1 HPp.out.2.2.1
        have hlv2 := Hlv.out
        obtain ⟨gk, hgk1, hgk2⟩ := q1.get
        have HJ := Lib.hid (And.intro q1 (And.intro q2 (And.intro (HX.out.2.2.1.trans q3) (And.intro HK5.out (And.intro H6.out (And.intro HX.out.2.2.2.1 (And.intro hlv2 (And.intro hgk1 hgk2))))))))
        clear q1 q2 q3 hlv2 hgk1 hgk2 HX HLn Hlv HK5 HPp H6 Hcnt hex
        go_wp2
        go_step3
        simp +zetaDelta only [Exit.inBlock, Exit.then, Exit.jump]
        refine ⟨trivial, ⟨vv, lv, LM, sM, ⟨_, _, _, _, _, _, _, _, _, _, _, _, _, _, _, _, _, _, _, _, _, _, _, _, _, _, _, _, _, _, _, _, _, _, _, _, _, _, _, _, _, _, _, _, _, _, _, rfl⟩, HJ.out.1, HJ.out.2.1, HJ.out.2.2.1, HJ.out.2.2.2.1, HJ.out.2.2.2.2.1⟩⟩
      | zero =>
        have hlI : lvI = 0 := Hlv.out
        subst hlI
        rcases hex with ⟨rfl, rfl⟩ | ⟨rfl, hlt⟩
        · have HF : Hid (FoundPost p bank sp N es Q L kv l w (.returned (.tuple #[.int .i64 vv, .bool true])) w2) := by
            refine ⟨HK5.out, ?_, H6.out⟩
            obtain ⟨g', e1, _, rfl, _⟩ := HX.out.1
            rw [HX.out.2.2.2.1] at e1
            obtain rfl := Option.some.inj e1
            rw [foundV, HX.out.2.2.1, getK_at HX.out.2.1 (List.mem_of_getElem? HPp.out.1)]
          clear HX HLn Hlv HK5 HPp H6 Hcnt
          go_wp2
          try simp only [Exit.jump]
          go_ret2
          exact HF.out
        · have HF : Hid (FoundPost p bank sp N es Q L key l w (.returned (.tuple #[.int .i64 0, .bool false])) w2) := by
            refine ⟨HK5.out, ?_, H6.out⟩
            obtain ⟨g', e1, _, rfl, _⟩ := HX.out.1
            rw [HX.out.2.2.2.1] at e1
            obtain rfl := Option.some.inj e1
            rw [foundV, HX.out.2.2.1, find_no HX.out.2.1 HPp.out.1 hlt HPp.out.2.2.1]
          clear HX HLn Hlv HK5 HPp H6 Hcnt hlt
          go_wp2
          try simp only [Exit.jump]
          go_ret2
          exact HF.out
  · rintro a' w0 ⟨addr, lv, LM, sM, ⟨u1, u3, u4, u5, u6, u7, u9, u10, u11, u12, u13, u14, u15, u16, u17, u18, u19, u20, u21, u22, u23, u24, u25, u26, u27, u28, u29, u30, u31, u32, u33, u34, u35, u36, u37, u38, u39, u40, u41, u42, u43, u44, u45, u46, u47, u48, u49, rfl⟩, hT, hs, hgk, hK, hh⟩
    clear h
    obtain ⟨g, hg, hlv⟩ := hT.get
    obtain ⟨hI, _⟩ := hh.bt_inv
    obtain ⟨ok, _, _⟩ := hI.pg addr g hg
    have hbd := (hI.adr addr (by rw [hg]; rfl)).bd
    obtain ⟨o0, o1, o2, o3, o4⟩ := ok_lens ok
    have hpn := ok_pairs ok
    have HG := Lib.hid (bt_Get hh addr (by omega) (by omega))
    have hfa := find_at hpn.1 key (fr := (if g.n.keys[lowB g.n.keys key]? = some key then Value.tuple #[.int .i64 (lowB g.n.keys key : Nat), .bool true] else .tuple #[.int .i64 ((lowB g.n.keys key : Nat) - 1), .bool false])) (by rw [pairs_keys ok])
    obtain ⟨fr, hfr⟩ : ∃ fr : Value, (if g.n.keys[lowB g.n.keys key]? = some key then Value.tuple #[.int .i64 (lowB g.n.keys key : Nat), .bool true] else .tuple #[.int .i64 ((lowB g.n.keys key : Nat) - 1), .bool false]) = fr := ⟨_, rfl⟩
    rw [hfr] at hfa
    have HX := Lib.hid (And.intro hT (And.intro hs (And.intro hgk (And.intro hg ok))))
    have HKW := Lib.hid hK
    have HLn := Lib.hid (And.intro hpn (And.intro o2 (And.intro o3 o4)))
    have Hlv := Lib.hid hlv
    have Hfr := Lib.hid hfr
    have Hfa := Lib.hid hfa
    clear hT hs hgk hg ok hK hh hI hbd hpn o0 o1 o2 o3 o4 hlv hfr hfa
    obtain ⟨⟨lvI, keys, vals⟩, ho, he⟩ := g
    simp only at HG Hfr HLn Hlv
    go_wp2_with fail
    refine HG.out.mono ?_
    rintro r w1 ⟨hK1, (⟨h1, _⟩ | ⟨g', ak, ck, av, cv, h1, rfl, h3⟩)⟩
    · rw [HX.out.2.2.2.1] at h1; cases h1
    rw [HX.out.2.2.2.1] at h1
    obtain rfl := Option.some.inj h1
    clear h1 HG
    simp only [Nd.val]
    have h4 := h3.alloc (.cells #[.int .i64 lvI, .slice ak keys.length ck, .slice av vals.length cv] 35)
    have hk4 := hK1.alloc (.cells #[.int .i64 lvI, .slice ak keys.length ck, .slice av vals.length cv] 35)
    have HFd := Lib.hid (node_Find ⟨lvI, keys, vals⟩ (w := w1.alloc (.cells #[.int .i64 lvI, .slice ak keys.length ck, .slice av vals.length cv] 35)) (kv := .slice ak keys.length ck) (vv := .slice av vals.length cv) (h4.rd (by simp)) (ok_rising HX.out.2.2.2.2) (by have := HLn.out.2.2.2; simp only at this ⊢; omega) key)
    simp only at HFd
    rw [Hfr.out] at HFd
    have H4 := Lib.hid h4
    have HK4 := Lib.hid hk4
    clear h3 h4 hK1 hk4 Hfr
    simp only [Nd.val] at HFd
    go_wp2_with fail
    refine HFd.out.mono ?_
    rintro r w2 ⟨rfl, hb2⟩
    have h5 := H4.out.below hb2
    have HK5 := Lib.hid (HKW.out.trans (HK4.out.trans (Kept.below hb2)))
    clear hb2 HFd H4 HK4 HKW
    generalize w1.heap.size = r12 at *
    have hg12 := h5.got
    have n0 : w2.cell? ⟨r12, 0, none⟩ = some (.int .i64 lvI) := cell_of hg12 0 rfl
    have n2 : w2.cell? ⟨r12, 2, none⟩ = some (.slice av vals.length cv) := cell_of hg12 2 rfl
    have l12 := World.block_lt_of_cell? _ _ n0
    have h6 : Has w2 (btS p bank sp N es Q :: l) := (h5.reord [3]).strip (M := [_, _, _])
    have hfa := Hfa.out
    clear Hfa
    rcases hfa with ⟨rfl, hlow⟩ | ⟨i, kv, ex, hp, rfl, hle, hdr, hex⟩
    · have HF : Hid (FoundPost p bank sp N es Q L key l w (.returned (.tuple #[.int .i64 0, .bool false])) w2) := by
        refine ⟨HK5.out, ?_, h6⟩
        have h0 : (⟨lvI, keys, vals⟩ : Nd).pairs ≠ [] := fun h => by
          have q1 := HLn.out.1.2.2
          rw [h] at q1
          have := HLn.out.2.2.1
          simp at q1 this
          omega
        rw [foundV, HX.out.2.2.1, find_low HX.out.1 HX.out.2.1 HX.out.2.2.2.1 hlow h0]
      clear hlow h5 h6 hg12 HX HLn Hlv HK5
      go_wp2
      try simp only [Exit.jump]
      go_ret2
      exact HF.out
    · obtain ⟨kv, vv⟩ := kv
      obtain ⟨va, vc, e1, _, hrv⟩ := h5.ints_read (v := .slice av vals.length cv) (xs := vals) (by simp)
      injection e1 with e1 e2 e3
      subst e1
      clear e2 e3
      have hpz := hp
      unfold Nd.pairs at hpz
      rw [List.getElem?_zip_eq_some] at hpz
      obtain ⟨hlv', hev⟩ := List.getElem?_eq_some_iff.1 hpz.2
      obtain ⟨gv, rfl, vc0, _⟩ := hrv i hlv'
      rw [hev] at vc0
      have lgv := World.block_lt_of_cell? _ _ vc0
      have ixI : (i : Int) < (vals.length : Int) := Int.ofNat_lt.2 hlv'
      have ix0 : (0 : Int) ≤ i := by omega
      have HPp := Lib.hid (And.intro hp (And.intro hle (And.intro hdr hex)))
      have H6 := Lib.hid h6
      have Hcnt : Hid (vals.length = vals.length) := rfl
      clear hp hle hdr hpz hlv' hev h5 h6 hg12 hrv
      generalize vals.length = nv at n2 ixI
      cases lv with
      | succ lv =>
        have hlI : (0 : Int) < lvI := by rw [Hlv.out]; omega
        obtain ⟨LM, sM, q1, q2, q3⟩ := find_mid HX.out.1 HX.out.2.1 HX.out.2.2.2.1 HPp.out.1 HPp.out.2.1 HPp.out.2.2.1
        have hlv2 := Hlv.out
        obtain ⟨gk, hgk1, hgk2⟩ := q1.get
        have HJ := Lib.hid (And.intro q1 (And.intro q2 (And.intro (HX.out.2.2.1.trans q3) (And.intro HK5.out (And.intro H6.out (And.intro HX.out.2.2.2.1 (And.intro hlv2 (And.intro hgk1 hgk2))))))))
        clear q1 q2 q3 hlv2 hgk1 hgk2 HX HLn Hlv HK5 HPp H6 Hcnt hex
        go_wp2
        go_step3
        simp +zetaDelta only [Exit.inBlock, Exit.then, Exit.jump]
        refine ⟨trivial, ⟨vv, lv, LM, sM, ⟨_, _, _, _, _, _, _, _, _, _, _, _, _, _, _, _, _, _, _, _, _, _, _, _, _, _, _, _, _, _, _, _, _, _, _, _, _, _, _, _, _, _, _, _, _, _, _, rfl⟩, HJ.out.1, HJ.out.2.1, HJ.out.2.2.1, HJ.out.2.2.2.1, HJ.out.2.2.2.2.1⟩, ?_⟩
        show lvAt Q vv < lvAt Q addr
        obtain ⟨_, _, _, _, _, j1, j2, j3, j4⟩ := HJ.out
        unfold lvAt
        rw [j1, j3]
        simp only [Option.map_some, Option.getD_some]
        omega
      | zero =>
        have hlI : lvI = 0 := Hlv.out
        subst hlI
        rcases hex with ⟨rfl, rfl⟩ | ⟨rfl, hlt⟩
        · have HF : Hid (FoundPost p bank sp N es Q L kv l w (.returned (.tuple #[.int .i64 vv, .bool true])) w2) := by
            refine ⟨HK5.out, ?_, H6.out⟩
            obtain ⟨g', e1, _, rfl, _⟩ := HX.out.1
            rw [HX.out.2.2.2.1] at e1
            obtain rfl := Option.some.inj e1
            rw [foundV, HX.out.2.2.1, getK_at HX.out.2.1 (List.mem_of_getElem? HPp.out.1)]
          clear HX HLn Hlv HK5 HPp H6 Hcnt
          go_wp2
          try simp only [Exit.jump]
          go_ret2
          exact HF.out
        · have HF : Hid (FoundPost p bank sp N es Q L key l w (.returned (.tuple #[.int .i64 0, .bool false])) w2) := by
            refine ⟨HK5.out, ?_, H6.out⟩
            obtain ⟨g', e1, _, rfl, _⟩ := HX.out.1
            rw [HX.out.2.2.2.1] at e1
            obtain rfl := Option.some.inj e1
            rw [foundV, HX.out.2.2.1, find_no HX.out.2.1 HPp.out.1 hlt HPp.out.2.2.1]
          clear HX HLn Hlv HK5 HPp H6 Hcnt hlt
          go_wp2
          try simp only [Exit.jump]
          go_ret2
          exact HF.out
end Go.Proofs.YtgbgneiciabidaaGreatDoor
/-
  Trees (layer 12): a key goes (Delete).
-/
namespace Go.Proofs.YtgbgneiciabidaaGreatDoor
open Go Go.RowKit
set_option linter.all false

set_option maxHeartbeats 4000000 in
set_option maxRecDepth 100000 in
theorem bt_Find0 {w : World} {l : List Say} {p bank sp N : Nat} {es : List Ent} {Q : Pgs} (key : Int) (h : Has w (btS p bank sp N es Q :: l)) :
    Calls Tryz.prog 47 #[.pointer (some ⟨p, 0, none⟩), .int .i64 0, .int .i64 key] w (FoundPost p bank sp N es Q [] key l w) := by
  obtain ⟨hI, _⟩ := h.bt_inv
  have HG := Lib.hid (bt_Get h 0 (by omega) (by omega))
  have H0 : Hid (VMap.get 0 Q = none) := by
    show _ = _
    cases hg : VMap.get 0 Q with
    | none => rfl
    | some g => have := (hI.adr 0 (by rw [hg]; rfl)).bd; omega
  clear h hI
  go_enter Tryz.func47, Tryz.ntmps47
  go_wp2
  go_step3
  go_wp2
  go_step3
  go_wp2_with fail
  refine HG.out.mono ?_
  rintro r w1 ⟨hK1, (⟨_, rfl, h3⟩ | ⟨g', ak, ck, av, cv, h1, rfl, h3⟩)⟩
  · have h4 := h3.alloc (.cells #[.int .i64 0, .slice none 0 0, .slice none 0 0] 35)
    have hk4 := hK1.alloc (.cells #[.int .i64 0, .slice none 0 0, .slice none 0 0] 35)
    have HFd := Lib.hid (node_Find ⟨0, [], []⟩ (w := w1.alloc (.cells #[.int .i64 0, .slice none 0 0, .slice none 0 0] 35)) (kv := .slice none 0 0) (vv := .slice none 0 0) ((h4.row_nil 3 1).rd (xs := []) (.head _)) List.Pairwise.nil (by simp) key)
    have H4 := Lib.hid h4
    have HK4 := Lib.hid hk4
    clear h3 h4 hK1 hk4 HG
    simp only [Nd.val, nodeZero, errV] at HFd ⊢
    rw [show ([] : List Int)[lowB [] key]? = none from rfl, if_neg (by simp)] at HFd
    go_wp2_with fail
    refine HFd.out.mono ?_
    rintro r w2 ⟨rfl, hb2⟩
    have h5 := H4.out.below hb2
    have HF : Hid (FoundPost p bank sp N es Q [] key l w (.returned (.tuple #[.int .i64 0, .bool false])) w2) := ⟨HK4.out.trans (Kept.below hb2), rfl, h5.tail⟩
    clear hb2 HFd H4 HK4 h5 H0
    go_wp2
    rw [Exit.noGoto_ret]
    go_ret2
    exact HF.out
  · rw [H0.out] at h1; cases h1
theorem bt_FindR {w : World} {l : List Say} {p bank sp N : Nat} {es : List Ent} {Q : Pgs} (root key : Int) {L : List KV} {s : Nat} (h : Has w (btS p bank sp N es Q :: l)) (hR : Root Q root L s) :
    Calls Tryz.prog 47 #[.pointer (some ⟨p, 0, none⟩), .int .i64 root, .int .i64 key] w (FoundPost p bank sp N es Q L key l w) := by
  rcases hR.it with ⟨rfl, rfl, rfl⟩ | ⟨lv, hT, hs, _⟩
  · exact bt_Find0 key h
  · exact bt_Find root key h hT hs
def DelPost (p bank sp N : Nat) (es : List Ent) (Q : Pgs) (root key : Int) (L : List KV) (s : Nat) (l : List Say) (w : World) (r : Ending) (w' : World) : Prop :=
  (getK L key = none ∧ r = .returned (.tuple #[.int .i64 0, errV 81]) ∧ Kept w w' ∧ Has w' (btS p bank sp N es Q :: l)) ∨
  ((∃ v, getK L key = some v) ∧ TreePost p bank sp N es Q root (delL L key) s l w r w')
theorem getK_mem {L : List KV} {k v : Int} (h : getK L k = some v) : ∃ x ∈ L, x.1 = k := by
  unfold getK at h
  obtain ⟨x, hx, _⟩ := Option.map_eq_some_iff.1 h
  exact ⟨x, List.mem_of_find?_eq_some hx, by simpa using List.find?_some hx⟩
set_option maxHeartbeats 4000000 in
set_option maxRecDepth 100000 in
theorem bt_Delete {w : World} {l : List Say} {p bank sp N : Nat} {es : List Ent} {Q : Pgs} (root key : Int) {L : List KV} {s : Nat} (h : Has w (btS p bank sp N es Q :: l)) (ht : Tab l) (hR : Root Q root L s) (hL : Live Q) (hN : N ≤ 200000) (hs : s ≤ 900000) :
    Calls Tryz.prog 44 #[.pointer (some ⟨p, 0, none⟩), .int .i64 root, .int .i64 key] w (DelPost p bank sp N es Q root key L s l w) := by
  have hA := h.alloc (.cells #[.int .i64 key] 3)
  have hKA := (Kept.refl w).alloc (.cells #[.int .i64 key] 3)
  have HF := Lib.hid (bt_FindR root key hA.swap hR)
  have HKA := Lib.hid hKA
  have H0 := Lib.hid (And.intro ht (And.intro hR (And.intro hL (And.intro hN hs))))
  have b1 : (w.alloc (.cells #[.int .i64 key] 3)).cell? ⟨w.heap.size, 0, none⟩ = some (.int .i64 key) := cell_of hA.got 0 rfl
  clear h ht hR hL hN hs hA hKA
  go_enter Tryz.func44, Tryz.ntmps44
  go_wp2_with fail
  generalize w.alloc (.cells #[.int .i64 key] 3) = W at *
  generalize w.heap.size = bk at *
  refine HF.out.mono ?_
  rintro r w1 ⟨hK1, rfl, h1⟩
  have hK := HKA.out.trans hK1
  have b2 : w1.cell? ⟨bk, 0, none⟩ = some (.int .i64 key) := cell_of (h1.at (b := bk) (o := .cells #[.int .i64 key] 3 (0, 0)) (by simp)) 0 rfl
  have l2 := World.block_lt_of_cell? _ _ b2
  clear b1 HF HKA hK1
  unfold foundV
  cases hk : getK L key with
  | none =>
    have HX : Hid (DelPost p bank sp N es Q root key L s l w (.returned (.tuple #[.int .i64 0, errV 81])) w1) := .inl ⟨hk, rfl, hK, h1.swap.tail⟩
    clear hk hK h1 H0
    simp only [errV] at HX ⊢
    go_wp2
    go_ret2
    exact HX.out
  | some v =>
    obtain ⟨ht, hR, hL, hN, hs⟩ := H0.out
    rcases hR.it with ⟨rfl, rfl, rfl⟩ | ⟨lv, hT, hsr, hheld⟩
    · cases hk
    · have hlv := lv_lt hT.weighs.2 (by omega)
      obtain ⟨g0, hg0, _⟩ := heldOf_some hheld
      have hbd0 := (h1.bt_inv.1.adr root (by rw [hg0]; rfl)).bd
      have HR := Lib.hid (bt_run root key (ChgOk.del key) (del_leaf key bk) (by
        intro A hA
        simp only [List.mem_cons, List.not_mem_nil, or_false] at hA
        subst hA
        exact .head _) h1 ht.cons hT hsr (fun _ => getK_mem hk) hL hheld hN (by omega))
      have HX : Hid (∀ r w3, RunPost p bank sp N es Q root (delL L key) lv (s + 0) (boxS bk key :: l) w1 r w3 → DelPost p bank sp N es Q root key L s l w r w3) := fun r w3 hr => .inr ⟨⟨v, hk⟩, RunPost.tree (m := [boxS bk key]) hr (by omega) (by omega) hK (by omega)⟩
      clear hk hK h1 H0 ht hR hL hN hs hT hsr hheld hlv hg0 hbd0
      go_wp2_with fail
      refine HR.out.mono ?_
      rintro r w3 hpost
      have HE := Lib.hid (HX.out r w3 hpost)
      obtain ⟨x, y, rfl⟩ : ∃ x y, r = .returned (.tuple #[x, y]) := by
        obtain ⟨_, _, _, _, (⟨h, _⟩ | ⟨_, _, h, _⟩)⟩ := hpost <;> exact ⟨_, _, h⟩
      clear hpost HX HR
      go_wp2
      go_ret2
      exact HE.out
end Go.Proofs.YtgbgneiciabidaaGreatDoor
/-
  Trees (layer 12): the closure that gathers items.
-/
namespace Go.Proofs.YtgbgneiciabidaaGreatDoor
open Go Go.RowKit
set_option linter.all false

theorem may_items1 : May 103 := ⟨Tryz.f103, Tryz.func103, by kernel_rfl, by kernel_rfl⟩
def wkL (ob lb : Nat) (ov : Value) (acc : List KV) (lim : Int) (l : List Say) : List Say := pts ob (.cells #[ov] 75 (0, 0)) :: pairsS ov acc :: boxS lb lim :: l
def ItPost (ob lb : Nat) (acc : List KV) (lim : Int) (b : Bool) (l : List Say) (w : World) (r : Ending) (w' : World) : Prop :=
  Kept w w' ∧ r = .returned (.bool b) ∧ ∃ ov, Has w' (wkL ob lb ov acc lim l)
set_option maxHeartbeats 4000000 in
set_option maxRecDepth 100000 in
theorem items1 {w : World} {l : List Say} {ob lb : Nat} {ov : Value} {acc : List KV} (lim k v : Int) (h : Has w (wkL ob lb ov acc lim l)) (hn : acc.length ≤ 100000) :
    Calls Tryz.prog 103 #[.agg #[.int .i64 k, .int .i64 v], .pointer (some ⟨ob, 0, none⟩), .pointer (some ⟨lb, 0, none⟩)] w (ItPost ob lb (acc ++ [(k, v)]) lim (!((acc.length : Int) + 1 == lim)) l w) := by
  obtain ⟨i0, I1, I2, I3, I4⟩ := info_parts info_pair
  unfold wkL at h
  obtain ⟨oa, oc, rfl, _⟩ := h.row_val (v := ov) (.tail _ (.head _))
  have hA := (h.alloc (.cells #[.int .i64 k, .int .i64 v] 87)).alloc (.cells #[.int .i64 k, .int .i64 v] 87)
  have hKA := ((Kept.refl w).alloc (.cells #[.int .i64 k, .int .i64 v] 87)).alloc (.cells #[.int .i64 k, .int .i64 v] 87)
  simp only [World.size_alloc] at hA
  have z0 : w.cell? ⟨ob, 0, none⟩ = some (.slice oa acc.length oc) := cell_of h.got 0 rfl
  have zl : w.cell? ⟨lb, 0, none⟩ = some (.int .i64 lim) := cell_of (h.at (b := lb) (o := .cells #[.int .i64 lim] 3 (0, 0)) (by simp [boxS])) 0 rfl
  have lz := World.block_lt_of_cell? _ _ z0
  have ll := World.block_lt_of_cell? _ _ zl
  have hsrc : ∀ j u, ([Value.int .i64 k, Value.int .i64 v])[j]? = some u → ((w.alloc (.cells #[.int .i64 k, .int .i64 v] 87)).alloc (.cells #[.int .i64 k, .int .i64 v] 87)).cell? ((⟨w.heap.size + 1, 0, none⟩ : Addr).add j) = some u := fun j u hu => by
    rw [Addr.add_lit, Nat.zero_add]
    exact cell_of hA.got j (by simpa using hu)
  have h6 : Has ((w.alloc (.cells #[.int .i64 k, .int .i64 v] 87)).alloc (.cells #[.int .i64 k, .int .i64 v] 87)) (rowS 87 2 (.slice oa acc.length oc) acc.length (acc.flatMap pairCells) :: pts ob (.cells #[.slice oa acc.length oc] 75 (0, 0)) :: boxS lb lim :: l) := (hA.tail.tail).swap
  have H6 := Lib.hid h6
  have HK := Lib.hid hKA
  have Hsrc := Lib.hid hsrc
  obtain ⟨na, hna⟩ : ∃ na, na = acc.length := ⟨_, rfl⟩
  rw [← hna] at z0 H6 hn
  have Hna := Lib.hid hna
  have hgoal : Hid (((acc.length : Int) + 1 == lim) = (((na + 1 : Nat) : Int) == lim)) := by show _ = _; rw [hna]; rfl
  rw [hgoal.out]
  clear h hA hKA hsrc h6 hna hgoal
  go_enter Tryz.func103, Tryz.ntmps103
  go_upto_region 2 with (at_builtin; refine wpList_append_row rfl (.tmp 5) (.tmp 7) 75 rfl 87 i0 (.agg #[.int .i64 0, .int .i64 0]) 2 16 Tryz.underlying75 I1 I2 I3 I4 rfl (by decide) _ _ (acc.flatMap pairCells) rfl H6.out ⟨w.heap.size + 1, 0, none⟩ 1 1 [.int .i64 k, .int .i64 v] rfl rfl Hsrc.out (by simp [Value.oneCell']) (by simp [maxLen]; omega) (by omega) ?_; intro v' w' hK2 hh; obtain ⟨oa', oc', rfl, hx'⟩ := hh.row_val (v := v') (.head _); clear hx'; have hob := hh.at (b := ob) (o := .cells #[.slice oa na oc] 75 (0, 0)) (by simp); have z1 : w'.cell? ⟨ob, 0, none⟩ = some (.slice oa na oc) := cell_of hob 0 rfl; have f1 := thaw_of hob 0; have l1 := World.block_lt_of_cell? _ _ z1; have HK2 := Lib.hid hK2; have Hz := Lib.hid hh; clear hK2 hh hob)
  have h7 := (Hz.out.reord [1]).setCell 0 (.slice oa' (na + 1) oc')
  have hk7 := (HK.out.trans HK2.out).setCell ⟨ob, 0, none⟩ (.slice oa' (na + 1) oc')
  simp only [List.setIfInBounds_toArray, List.set_cons_zero] at h7
  clear Hz HK2 HK Hsrc H6 z1 f1 l1
  generalize w'.setCell ⟨ob, 0, none⟩ (.slice oa' (na + 1) oc') = V2 at *
  have y0 : V2.cell? ⟨ob, 0, none⟩ = some (.slice oa' (na + 1) oc') := cell_of h7.got 0 rfl
  have yl : V2.cell? ⟨lb, 0, none⟩ = some (.int .i64 lim) := cell_of (h7.at (b := lb) (o := .cells #[.int .i64 lim] 3 (0, 0)) (by simp [boxS, reord])) 0 rfl
  have m0 := World.block_lt_of_cell? _ _ y0
  have ml := World.block_lt_of_cell? _ _ yl
  have HF : Hid (ItPost ob lb (acc ++ [(k, v)]) lim (!((na : Int) + 1 == lim)) l w (.returned (.bool (!((na : Int) + 1 == lim)))) V2) := by
    refine ⟨hk7, rfl, .slice oa' (na + 1) oc', ?_⟩
    have e1 : acc.flatMap pairCells ++ [Value.int .i64 k, Value.int .i64 v] = (acc ++ [(k, v)]).flatMap pairCells := by
      rw [List.flatMap_append]
      simp [pairCells]
    rw [e1] at h7
    unfold wkL pairsS
    rw [List.length_append, List.length_singleton, ← Hna.out]
    exact h7
  clear h7 hk7 Hna
  go_wp2
  go_ret
  exact HF.out
end Go.Proofs.YtgbgneiciabidaaGreatDoor
/-
  Trees (layer 12): items from a key on, in plain Lean.
-/
namespace Go.Proofs.YtgbgneiciabidaaGreatDoor
open Go Go.RowKit
set_option linter.all false

/-- Pairs go to a gatherer until it has so many. -/
def feed (lim : Int) : List KV → List KV → List KV × Bool
  | acc, [] => (acc, true)
  | acc, x :: T => if (acc.length : Int) + 1 = lim then (acc ++ [x], false) else feed lim (acc ++ [x]) T
theorem feed_cons (lim : Int) (acc : List KV) (x : KV) (T : List KV) : feed lim acc (x :: T) = if (acc.length : Int) + 1 = lim then (acc ++ [x], false) else feed lim (acc ++ [x]) T := rfl
theorem feed_app (lim : Int) : ∀ (acc A B : List KV), feed lim acc (A ++ B) = if (feed lim acc A).2 = true then feed lim (feed lim acc A).1 B else feed lim acc A
  | acc, [], B => by simp [feed]
  | acc, x :: A, B => by
    rw [List.cons_append, feed_cons, feed_cons]
    by_cases h : (acc.length : Int) + 1 = lim
    · simp [h]
    · rw [if_neg h, if_neg h]
      exact feed_app lim _ A B
theorem feed_len (lim : Int) : ∀ (acc A : List KV), (feed lim acc A).1.length ≤ acc.length + A.length
  | acc, [] => by simp [feed]
  | acc, x :: A => by
    unfold feed
    split
    · simp
    · have := feed_len lim (acc ++ [x]) A
      simp at this ⊢
      omega
theorem feed_all {lim : Int} (h : lim < 0) : ∀ (acc A : List KV), feed lim acc A = (acc ++ A, true)
  | acc, [] => by simp [feed]
  | acc, x :: A => by
    unfold feed
    rw [if_neg (by omega), feed_all h]
    simp
def fromL (k : Int) (L : List KV) : List KV := L.filter fun p => decide (k ≤ p.1)
theorem fromL_app (k : Int) (A B : List KV) : fromL k (A ++ B) = fromL k A ++ fromL k B := List.filter_append ..
theorem fromL_len (k : Int) (A : List KV) : (fromL k A).length ≤ A.length := List.length_filter_le ..
theorem fromL_one (k : Int) (x : KV) (T : List KV) : fromL k (x :: T) = if k ≤ x.1 then x :: fromL k T else fromL k T := by
  unfold fromL
  rw [List.filter_cons]
  by_cases h : k ≤ x.1 <;> simp [h]
theorem fromL_none {k : Int} {A : List KV} (h : ∀ p ∈ A, p.1 < k) : fromL k A = [] := List.filter_eq_nil_iff.2 fun p hp => by have := h p hp; simp; omega
/-- One pair more. -/
theorem take_succ {α : Type} {l : List α} {i : Nat} {x : α} (h : l[i]? = some x) : l.take (i + 1) = l.take i ++ [x] ∧ l = l.take i ++ x :: l.drop (i + 1) := by
  obtain ⟨hlt, e⟩ := List.getElem?_eq_some_iff.1 h
  refine ⟨by rw [List.take_succ_eq_append_getElem hlt, e], ?_⟩
  conv => lhs; rw [← List.take_append_drop i l]
  rw [List.drop_eq_getElem_cons hlt, e]
/-- The next page: the lists ahead of it, of it, behind it. -/
theorem TrG.next {T : Int → List KV → Nat → Prop} {ps L LA LB : List KV} {sA sB : Nat} {i : Nat} {p : KV} (hp : ps[i]? = some p) (hA : TrG T (ps.take i) LA sA) (hB : TrG T (ps.drop i) LB sB) (hL : L = LA ++ LB) (hs : Srt L) :
    ∃ LM sM LC sC, T p.2 LM sM ∧ Srt LM ∧ LB = LM ++ LC ∧ TrG T (ps.take (i + 1)) (LA ++ LM) (sA + sM) ∧ TrG T (ps.drop (i + 1)) LC sC ∧ ∀ q, ps[i + 1]? = some q → ∀ x ∈ LM, x.1 < q.1 := by
  obtain ⟨hlt, e⟩ := List.getElem?_eq_some_iff.1 hp
  rw [List.drop_eq_getElem_cons hlt, e] at hB
  obtain ⟨LM, LC, sM, sC, q1, q2, q3, rfl, rfl⟩ := hB.one
  subst hL
  refine ⟨LM, sM, LC, sC, q1, hs.right.left, rfl, ?_, q3, fun q hq x hx => ?_⟩
  · rw [(take_succ hp).1]
    exact hA.app (TrG.single (k := p.1) q1 q2)
  · obtain ⟨hlt2, e2⟩ := List.getElem?_eq_some_iff.1 hq
    rw [List.drop_eq_getElem_cons hlt2, e2] at q3
    obtain ⟨y, hy, hyk⟩ := head_mem (TrG.head q3)
    have := hs.right.lt hx hy
    omega
end Go.Proofs.YtgbgneiciabidaaGreatDoor
