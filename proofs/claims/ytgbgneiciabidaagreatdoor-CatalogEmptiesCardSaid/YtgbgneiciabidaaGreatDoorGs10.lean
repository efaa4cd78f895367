/-
  Spaces (layer 8), the fourth part: the walk of Take.
-/
import Derived.Test.YtgbgneiciabidaaGreatDoorGs7
import Derived.Test.YtgbgneiciabidaaGreatDoorGs9
import Derived.Deep.RegionHeld3
import Derived.Deep.DeepCutAuto
namespace Go.Proofs.YtgbgneiciabidaaGreatDoor
open Go Go.RowKit
set_option linter.all false
set_option maxHeartbeats 8000000
theorem Found.hit {n f k : Nat} {ok : Bool} {T : Nat -> Bool} (h : Found n f T k ok) {g : Nat} (h1 : f <= g) (h2 : g < n) (h3 : T g = true) : ok = true /\ f <= k /\ k <= g /\ k < n /\ T k = true /\ ∀ j, f <= j -> j < k -> T j = false := by
 unfold Found at h
 cases ok with
 | false =>
  simp only [Bool.false_eq_true, if_false] at h
  have := h.2 g h1 h2
  rw [h3] at this; cases this
 | true =>
  simp only [if_true] at h
  obtain ⟨a, b, c, d⟩ := h
  refine ⟨rfl, a, ?_, b, c, d⟩
  apply Nat.le_of_not_lt
  intro hlt
  have := d g h1 hlt
  rw [h3] at this; cases this
set_option maxRecDepth 100000 in
theorem sp_Take {w : World} {l : List Say} {s : Nat} {X : Spc} (h : Has w (spaceS s X :: l)) (ht : Tab l) :
  Calls Tryz.prog 77 #[.pointer (some ⟨s, 0, none⟩)] w (TakePost s X l w) := by
 obtain ⟨x, ok, hh⟩ := h.sp_open
 obtain ⟨a, c, sa, sc, R⟩ := hh.sp_read (fun A hA => List.mem_append_left _ hA) ok
 have HA := Lib.hid (ros_Actives hh (v := x.lv) (es := X.es) (by simp [spFlat, spHead]) ok.ents)
 rw [R.lv] at HA
 have s0 := R.s0
 have t0 := R.t0
 have hal := idxTo_len (fun e => e.st == 1) X.es X.es.length
 have hes := ok.ents.len
 have Ok := Lib.hid ok
 have Ht := Lib.hid ht
 clear R hh h ok ht
 go_enter Tryz.func77, Tryz.ntmps77
 go_wp2_with fail
 refine HA.out.mono ?_
 rintro r w1 ⟨o, rfl, hK, h1⟩
 obtain ⟨_, oa, oc, rfl, _, _, hor⟩ := h1.row_read (v := o) (e := 3) (.head _)
 have HK := Lib.hid hK
 have H1 := Lib.hid h1
 have Hor := Lib.hid hor
 have hact : (actives X.es).length <= 8 := by
  have : actives X.es = idxTo (fun e => e.st == 1) X.es X.es.length := rfl
  rw [this]; omega
 clear hK h1 hor s0 t0 hal
 go_wp2
 go_loopg [4, 5, 21] (actives X.es).length (fun gk b m i wr => BestRel X w1 gk b m i wr)
 case atStart => exact ⟨0, Nat.zero_le _, rfl, rfl, rfl, rfl, 0, rfl⟩
 case round =>
  obtain ⟨k, hk, rfl, rfl, rfl, rfl, m, rfl⟩ := hrel
  by_cases hlt : k < (actives X.es).length
  ·obtain ⟨d, hd⟩ : ∃ d, (actives X.es)[k]? = some d := ⟨_, List.getElem?_eq_getElem hlt⟩
   obtain ⟨g, rfl, hg, _⟩ := Hor.out k (natVal d) (by simp [hd])
   obtain ⟨e, y, he, hy, _, _, hu, hez⟩ := Ok.out.active (List.mem_of_getElem? hd)
   have HF := Lib.hid (sp_free (w := w1.drewN m) (H1.out.drewN m) (s := s) (x := x) (fun A hA => .tail _ (List.mem_append_left _ hA)) Ok.out d e y he hy hu)
   have hstep := bestOf_take X.free (actives X.es) k d hd (0, 0)
   generalize X.free d = fd at *
   generalize bestOf X.free ((actives X.es).take k) (0, 0) = bm at *
   obtain ⟨b0, m0⟩ := bm
   simp only at hstep
   unfold natVal at hg
   clear he hy hd
   by_cases hmore : m0 < fd
   ·rw [if_pos hmore] at hstep
    have Hstep := Lib.hid hstep
    clear hstep
    go_wp2_with fail
    refine HF.out.mono ?_
    rintro r w2 ⟨rfl, m2, rfl⟩
    go_wp2
    go_roundg ((actives X.es).length - (k + 1))
    case measure => omega
    case rel => exact ⟨k + 1, by omega, rfl, by go_num, by rw [Hstep.out], by rw [Hstep.out], m + m2, by simp⟩
   ·rw [if_neg hmore] at hstep
    have Hstep := Lib.hid hstep
    clear hstep
    go_wp2_with fail
    refine HF.out.mono ?_
    rintro r w2 ⟨rfl, m2, rfl⟩
    go_wp2
    go_roundg ((actives X.es).length - (k + 1))
    case measure => omega
    case rel => exact ⟨k + 1, by omega, rfl, by go_num, by rw [Hstep.out], by rw [Hstep.out], m + m2, by simp⟩
  ·obtain rfl : k = (actives X.es).length := by omega
   rw [List.take_length]
   have H2 := Lib.hid (H1.out.tail.drewN m)
   have HK2 := Lib.hid (HK.out.drewN m)
   generalize w1.drewN m = W at *
   clear H1 HK Hor HA
   have hspec := bestOf_spec X.free (actives X.es)
   by_cases h0 : (bestOf X.free (actives X.es) (0, 0)).2 = 0
   ·have hall : ∀ d ∈ actives X.es, X.free d = 0 := by
     rcases hspec with ⟨_, h⟩ | ⟨h, hb⟩
     ·exact h
     ·have := hb.2.1; omega
    have Hall := Lib.hid hall
    generalize bestOf X.free (actives X.es) (0, 0) = bm at *
    obtain ⟨b0, m0⟩ := bm
    simp only at h0
    subst h0
    clear hspec hall
    go_wp2
    go_ret2
    exact .inl ⟨Hall.out, rfl, HK2.out, Has.sp_shut Ok.out H2.out⟩
   ·have hspec : (bestOf X.free (actives X.es) (0, 0)).2 = X.free (bestOf X.free (actives X.es) (0, 0)).1 /\ Best X.free (actives X.es) (bestOf X.free (actives X.es) (0, 0)).1 := by
     rcases hspec with ⟨h, _⟩ | h
     ·exact absurd h h0
     ·exact h
    obtain ⟨hm, hbest⟩ := hspec
    generalize hbm : bestOf X.free (actives X.es) (0, 0) = bm at *
    obtain ⟨d, m0⟩ := bm
    simp only at h0 hm hbest
    have hm0 : ((m0 : Int) == 0) = false := by simp; omega
    obtain ⟨e, y, he, hy, hst, hne, hu, hez⟩ := Ok.out.active hbest.1
    have hfd : X.free d = e.size - 2 - y.used := by simp [Spc.free, he, hy]
    have hyok := Ok.out.ok d y hy
    obtain ⟨f, f2, fn, fb⟩ := hyok.some_free (by rw [hne]; omega)
    obtain ⟨a', c', sa', sc', R⟩ := H2.out.sp_read (fun A hA => List.mem_append_left _ hA) Ok.out
    obtain ⟨q, b, rfl, p0, _, hb⟩ := R.shelf d y hy
    obtain ⟨rest, hp1, hp2⟩ := shelves_focus x.bs X.sh d b y hb hy
    have s0 := R.s0
    have t1 := R.t1
    have hperm : (spFlat s X x ++ l).Perm (shelfS b y :: (spHead s X.es x ++ rest ++ l)) := by
     have h1 : (spFlat s X x).Perm (shelfS b y :: (spHead s X.es x ++ rest)) := (hp1.append_left _).trans List.perm_middle
     exact h1.append_right l
    have h3 := H2.out.perm hperm
    obtain ⟨⟨tx, fx, gx⟩, h3⟩ := h3.shelf_open
    have hgb := h3.got (b := b)
    have b0 : W.cell? ⟨b, 0, none⟩ = some (.pointer (some ⟨tx, 0, none⟩)) := cell_of hgb 0 rfl
    have b1 : W.cell? ⟨b, 1, none⟩ = some (.pointer (some ⟨fx, 0, none⟩)) := cell_of hgb 1 rfl
    have b2 : W.cell? ⟨b, 2, none⟩ = some (.pointer (some ⟨gx, 0, none⟩)) := cell_of hgb 2 rfl
    have hd8 := (List.getElem?_eq_some_iff.1 he).1
    have hd9 := (List.getElem?_eq_some_iff.1 hy).1
    have htab : Tab (shelfParts b y (tx, fx, gx) ++ (spHead s X.es x ++ rest ++ l)) := (Ht.out.app _).app _
    have HFree := Lib.hid (fun (k : Nat) (hk : k <= 4096) => bm_Free h3 (b := tx) (n := y.n) (S := y.taken) (by simp [shelfParts]) htab k hk)
    have HHas := Lib.hid (fun (k : Nat) => bm_Has h3 (b := gx) (n := y.n) (S := y.given) (by simp [shelfParts]) k)
    have H3 := Lib.hid h3
    have Fb := Lib.hid fb
    have Best' := Lib.hid hbest
    have Hbm := Lib.hid hbm
    have Hy := Lib.hid hy
    have Hp2 := Lib.hid hp2
    have Hyok := Lib.hid hyok
    have hyn : y.n <= 4096 := by omega
    clear hperm h3 hgb htab R hp1 hp2 hm hfd fb he hy hbest hbm H2 hyok hb
    go_wp2_with fail
    refine (HFree.out 2 (by omega)).mono ?_
    rintro r w' ⟨k0, okk, hfound, rfl, rfl⟩
    have hfree : (!y.taken f) = true := by
     have := Fb.out; simp only [Shelf.busy, Bool.or_eq_false_iff] at this; simp [this.1]
    obtain ⟨rfl, k1, k2, k3, k4, k5⟩ := hfound.hit f2 fn hfree
    have K4 : Hid (y.taken k0 = false) := by simpa [Hid] using k4
    have K5 : Hid (∀ j, 2 <= j -> j < k0 -> y.busy j = true) := fun j j2 jk => by
     have := k5 j j2 jk
     simp only [Bool.not_eq_false'] at this
     simp [Shelf.busy, this]
    clear hfound k4 k5 hfree
    go_wp2
    go_loopg [10] (y.n - k0) (fun gk kv wr => SeekRel y W gk kv wr)
    case atStart => exact ⟨k0, rfl, rfl, k1, k3, K4.out, K5.out, rfl⟩
    case round =>
     obtain ⟨k, rfl, rfl, g2, gn, gt, gb, rfl⟩ := hrel
     clear K4 K5 k1 k2 k3
     have hkf : k <= f := by
      apply Nat.le_of_not_lt
      intro hlt
      have := gb f f2 hlt
      rw [Fb.out] at this; cases this
     have Gb := Lib.hid gb
     have Gt := Lib.hid gt
     have HH2 := HHas.out k
     clear gb gt
     by_cases hgk : y.given k = true
     ·rw [hgk] at HH2
      have HH3 := Lib.hid HH2
      have hne : k ≠ f := by
       rintro rfl
       have := Fb.out
       simp [Shelf.busy, hgk] at this
      have HF2 := HFree.out (k + 1) (by omega)
      rw [show ((k + 1 : Nat) : Int) = (k : Int) + 1 from by omega] at HF2
      have HF3 := Lib.hid HF2
      have Hgk := Lib.hid hgk
      clear HH2 HF2 hgk
      go_wp2_with fail
      refine HH3.out.mono ?_
      rintro r w' ⟨rfl, rfl⟩
      go_wp2_with fail
      refine HF3.out.mono ?_
      rintro r w' ⟨kn, okk, hfound, rfl, rfl⟩
      have hfree : (!y.taken f) = true := by
       have := Fb.out; simp only [Shelf.busy, Bool.or_eq_false_iff] at this; simp [this.1]
      obtain ⟨rfl, k1, k2, k3, k4, k5⟩ := hfound.hit (g := f) (by omega) fn hfree
      have K4 : Hid (y.taken kn = false) := by simpa [Hid] using k4
      have K5 : Hid (∀ j, 2 <= j -> j < kn -> y.busy j = true) := fun j j2 jk => by
       rcases Nat.lt_trichotomy j k with h | h | h
       ·exact Gb.out j j2 h
       ·subst h; simp [Shelf.busy, Hgk.out]
       ·have := k5 j h jk
        simp only [Bool.not_eq_false'] at this
        simp [Shelf.busy, this]
      clear hfound k4 k5 hfree
      go_wp2
      go_roundg (y.n - kn)
      case measure => omega
      case rel => exact ⟨kn, rfl, rfl, by omega, k3, K4.out, K5.out, rfl⟩
     ·have hgk : y.given k = false := by simpa using hgk
      rw [hgk] at HH2
      have HH3 := Lib.hid HH2
      have Hgk := Lib.hid hgk
      have hset1 := (H3.out.pull 1).alloc_off (.cells #[.int .i64 (k : Int)] 3)
      have HS1 := Lib.hid (bm_Set1 hset1 wr.heap.size 1 k (by simp) gn)
      clear HH2 hgk hset1
      go_wp2_with fail
      refine HH3.out.mono ?_
      rintro r w' ⟨rfl, rfl⟩
      go_wp2_with fail
      refine HS1.out.mono ?_
      rintro r V1 ⟨rfl, hk1, hv1⟩
      have hv1' : Has V1 (shelfParts b { y with taken := fun j => j == k || y.taken j } (tx, fx, gx) ++ (spHead s X.es x ++ rest ++ l)) := hv1.push 1
      have hgb := hv1'.got (b := b)
      have b1' : V1.cell? ⟨b, 1, none⟩ = some (.pointer (some ⟨fx, 0, none⟩)) := cell_of hgb 1 rfl
      have hset2 := (hv1'.pull 2).alloc_off (.cells #[.int .i64 (k : Int)] 3)
      have HS2 := Lib.hid (bm_Set1 hset2 V1.heap.size 1 k (by simp) gn)
      have HK3 : Hid (Kept w V1) := (HK2.out.alloc _).trans hk1
      have HAd := Lib.hid (fun (W' : World) => space_Addr (w := W') d k (by omega) (by omega))
      clear hv1 hv1' hgb hset2 hk1 b0 b1 b2 s0 t1 p0
      go_wp2_with fail
      refine HS2.out.mono ?_
      rintro r V2 ⟨rfl, hk2, hv2⟩
      have HV2 : Hid (Has V2 (shelfParts b (y.took k) (tx, fx, gx) ++ (spHead s X.es x ++ rest ++ l))) := hv2.push 2
      have HK4 : Hid (Kept w V2) := (HK3.out.alloc _).trans hk2
      clear hv2 hk2
      go_wp2_with fail
      refine (HAd.out V2).mono ?_
      rintro r w' ⟨rfl, rfl⟩
      go_wp2
      go_ret2
      refine .inr ⟨d, k, y, ⟨Best'.out, by rw [Hbm.out], Hy.out, g2, gn, by simp [Shelf.busy, Gt.out, Hgk.out], Gb.out⟩, rfl, HK4.out, ?_⟩
      refine Has.sp_shut (x := x) (Ok.out.put (y' := y.took k) Hy.out rfl (Hyok.out.took g2 Hgk.out)) ?_
      have h5 : Has V2 (shelfS b (y.took k) :: (spHead s X.es x ++ rest ++ l)) := Has.shelf_shut HV2.out
      refine h5.perm ?_
      have h6 : (spFlat s (X.put d (y.took k)) x).Perm (shelfS b (y.took k) :: (spHead s X.es x ++ rest)) := ((Hp2.out (y.took k)).append_left _).trans List.perm_middle
      exact (h6.append_right l).symm
/-
  Pages (layer 11), the seventh part: what Put does to the pages (plain).
-/
theorem get_ins {α : Type} (x : Int × α) (k : Int) : ∀ (M : List (Int × α)), (∀ p ∈ M, p.1 ≠ x.1) -> VMap.get k (VMap.ins x M) = if k = x.1 then some x.2 else VMap.get k M
 | [], _ => by
  by_cases e : k = x.1
  ·subst e; simp [VMap.ins, VMap.get]
  ·rw [if_neg e]
   simp [VMap.ins, VMap.get]; omega
 | y :: r, h => by
  have hy := h y (by simp)
  have ih := get_ins x k r fun p hp => h p (by simp [hp])
  unfold VMap.ins
  split
  ·by_cases e : k = x.1
   ·subst e; simp [VMap.get]
   ·rw [if_neg e]
    have e2 : (x.1 == k) = false := by simp; omega
    simp [VMap.get, e2]
  ·by_cases e : y.1 = k
   ·have e3 : k ≠ x.1 := by omega
    rw [if_neg e3]
    simp [VMap.get, e]
   ·have e2 : (y.1 == k) = false := by simpa using e
    have h1 : VMap.get k (y :: VMap.ins x r) = VMap.get k (VMap.ins x r) := by simp [VMap.get, e2]
    have h2 : VMap.get k (y :: r) = VMap.get k r := by simp [VMap.get, e2]
    rw [h1, h2, ih]
theorem get_del {α : Type} (a k : Int) (M : List (Int × α)) : VMap.get k (VMap.del a M) = if k = a then none else VMap.get k M := by
 unfold VMap.get VMap.del
 rw [List.find?_filter]
 by_cases e : k = a
 ·subst e
  rw [if_pos rfl]
  have : M.find? (fun a => decide ((!a.1 == k) = true /\ (a.1 == k) = true)) = none := by
   rw [List.find?_eq_none]; intro p hp; simp
  rw [this]; rfl
 ·rw [if_neg e]
  congr 2
  funext p
  by_cases h : p.1 = k
  ·simp [h]; exact e
  ·simp [h]
theorem get_put {α : Type} (a k : Int) (v : α) (M : List (Int × α)) : VMap.get k (VMap.put a v M) = if k = a then some v else VMap.get k M := by
 rw [VMap.put, get_ins]
 ·by_cases e : k = a
  ·simp [e]
  ·simp only [if_neg e, get_del]
 ·intro p hp
  have := (List.mem_filter.1 hp).2
  simpa using this
theorem del_none {α : Type} {a : Int} {M : List (Int × α)} (h : VMap.get a M = none) : VMap.del a M = M := by
 unfold VMap.del
 refine List.filter_eq_self.2 fun p hp => ?_
 unfold VMap.get at h
 rw [Option.map_eq_none_iff, List.find?_eq_none] at h
 simpa using h p hp
def bump (Q : Pgs) (k : Int) : Pgs := match VMap.get k Q with | some g => VMap.put k { g with holds := g.holds + 1 } Q | none => Q
def bumpAll (Q : Pgs) (ks : List Int) : Pgs := ks.foldl bump Q
theorem bumpAll_succ (Q : Pgs) (ks : List Int) (k : Nat) (h : k < ks.length) : bumpAll Q (ks.take (k + 1)) = bump (bumpAll Q (ks.take k)) ks[k] := by
 unfold bumpAll
 rw [List.take_succ_eq_append_getElem h, List.foldl_append]; rfl
theorem bump_some (Q : Pgs) (j k : Int) : (VMap.get k (bump Q j)).isSome = (VMap.get k Q).isSome := by
 unfold bump
 cases h : VMap.get j Q with
 | none => rfl
 | some g =>
  simp only [get_put]
  by_cases e : k = j
  ·subst e; simp [h]
  ·simp [e]
theorem bumpAll_some (ks : List Int) : ∀ (Q : Pgs) (k : Int), (VMap.get k (bumpAll Q ks)).isSome = (VMap.get k Q).isSome := by
 induction ks with
 | nil => intro Q k; rfl
 | cons x ks ih => intro Q k; show (VMap.get k (bumpAll (bump Q x) ks)).isSome = _; rw [ih, bump_some]
def HoldsTo (Q : Pgs) (B : Int) : Prop := ∀ k g, VMap.get k Q = some g -> 0 <= g.holds /\ g.holds <= B
theorem HoldsTo.bump {Q : Pgs} {B : Int} (h : HoldsTo Q B) (j : Int) : HoldsTo (bump Q j) (B + 1) := by
 intro k g hg
 unfold Go.Proofs.YtgbgneiciabidaaGreatDoor.bump at hg
 cases hj : VMap.get j Q with
 | none => rw [hj] at hg; have := h k g hg; omega
 | some g0 =>
  rw [hj] at hg
  simp only [get_put] at hg
  by_cases e : k = j
  ·rw [if_pos e] at hg
   cases hg
   have := h j g0 hj
   simp only
   omega
  ·rw [if_neg e] at hg
   have := h k g hg; omega
theorem HoldsTo.all (ks : List Int) : ∀ {Q : Pgs} {B : Int}, HoldsTo Q B -> HoldsTo (bumpAll Q ks) (B + ks.length) := by
 induction ks with
 | nil => intro Q B h; simpa [bumpAll] using h
 | cons x ks ih =>
  intro Q B h
  have := ih (h.bump x)
  intro k g hg
  have := this k g hg
  simp only [List.length_cons]
  omega
theorem HoldsTo.put {Q : Pgs} {B : Int} (h : HoldsTo Q B) (hB : 0 <= B) (a : Int) (n : Nd) : HoldsTo (VMap.put a ⟨n, 0, 0⟩ Q) B := by
 intro k g hg
 rw [get_put] at hg
 by_cases e : k = a
 ·rw [if_pos e] at hg; cases hg; exact ⟨Int.le_refl _, hB⟩
 ·rw [if_neg e] at hg; exact h k g hg
/-
  Pages (layer 11), the eighth part: Put.
-/
def lenV (d k : Nat) : Int := ((d * 4096 + k : Nat) : Int)
def put1 (Q : Pgs) (a : Int) (n : Nd) : Pgs := bumpAll (VMap.put a ⟨n, 0, 0⟩ Q) n.kids
structure Fits (X : Spc) (disks : List Dsk) (Q : Pgs) : Prop where
 len : X.sh.length = disks.length
 size : ∀ (d : Nat) (y : Shelf) (secs : Dsk), X.sh[d]? = some y -> disks[d]? = some secs -> y.n = secs.length
 free : ∀ (d k : Nat) (y : Shelf), X.sh[d]? = some y -> k < y.n -> y.busy k = false -> VMap.get (lenV d k) Q = none
 big : ∀ (d : Nat) (y : Shelf), X.sh[d]? = some y -> y.n <= 4096
def world3 (p bank sp m N : Nat) (Q : Pgs) (disks : List Dsk) (X : Spc) (l : List Say) : List Say := storeS p bank sp m Q :: bankS N bank disks :: spaceS sp X :: l
def StPut (p bank sp m N : Nat) (Q : Pgs) (disks : List Dsk) (X : Spc) (n : Nd) (l : List Say) (w : World) (r : Ending) (w' : World) : Prop :=
  Kept w w' /\
  ((n.ok = false /\ r = .returned (.tuple #[.int .i64 0, errV 70]) /\ Has w' (world3 p bank sp m N Q disks X l)) \/
   (n.ok = true /\ namedErr Q n ≠ .nilIface /\ r = .returned (.tuple #[.int .i64 0, namedErr Q n]) /\ Has w' (world3 p bank sp m N Q disks X l)) \/
   (n.ok = true /\ namedErr Q n = .nilIface /\ (∀ d ∈ actives X.es, X.free d = 0) /\ r = .returned (.tuple #[.int .i64 0, errV 50]) /\ Has w' (world3 p bank sp m N Q disks X l)) \/
   ∃ d k y secs, n.ok = true /\ namedErr Q n = .nilIface /\ Takes X d k y /\ disks[d]? = some secs /\ r = .returned (.tuple #[.int .i64 (lenV d k), .nilIface]) /\
     Has w' (world3 p bank sp (m + 1 + n.kids.length) (N + 1) (put1 Q (lenV d k) n) (disks.set d (secs.set k (frameOf 2 (nodeBytes n)))) (X.put d (y.took k)) l))
theorem nb_len {n : Nd} (h : n.ok = true) : (nodeBytes n).length <= 122 := by
 obtain ⟨_, _, o3, o4, o5⟩ := ok_lens h
 have e : n.pairs.length = n.keys.length := by simp [Nd.pairs, o3]
 rw [nodeBytes, List.length_append, flatP_len, e]; simp; omega
theorem named_cases (Q : Pgs) (n : Nd) : namedErr Q n = errV 81 \/ namedErr Q n = errV 70 \/ namedErr Q n = .nilIface := by
 unfold namedErr
 split
 ·exact .inl rfl
 ·split
  ·exact .inr (.inl rfl)
  ·exact .inr (.inr rfl)
theorem ok_vals {n : Nd} (h : n.ok = true) : ∀ v ∈ n.vals, 1 <= v /\ v <= 2305843009213693952 := by
 have hl := ok_lens h
 simp only [Nd.ok, Bool.and_eq_true] at h
 have ho := h.2
 intro v hv
 obtain ⟨i, hi, rfl⟩ := List.getElem_of_mem hv
 have hik : i < n.keys.length := by omega
 have hz : n.pairs[i]? = some (n.keys[i], n.vals[i]) := by
  unfold Nd.pairs
  rw [List.getElem?_zip_eq_some]
  exact ⟨List.getElem?_eq_getElem hik, List.getElem?_eq_getElem hi⟩
 have := ordTo_all _ _ ho i _ (List.getElem?_eq_some_iff.1 hz).1 hz
 simp only [pairOk, Bool.and_eq_true, decide_eq_true_eq] at this
 exact ⟨this.1.2, this.2⟩
theorem kids_sub (n : Nd) : ∀ v ∈ n.kids, v ∈ n.vals := by
 unfold Nd.kids
 split
 ·intro v hv; cases hv
 ·exact fun v hv => hv
theorem kids_len {n : Nd} (h : n.ok = true) : n.kids.length <= 7 := by
 have hl := ok_lens h
 unfold Nd.kids
 split
 ·simp
 ·omega
theorem Has.st_newpage {w : World} {l : List Say} {p bank sp n : Nat} {x : StAt} {a : Int} {t : Sl} {Q : Pgs} (ok : StOk Q x) (hg : VMap.get a Q = none) (b0 : 0 <= a) (b1 : a < 32768) (hn : t.pg.n.ok = true)
  (h : Has w (mapS x.mb n (VMap.put a t.val (VMap.over Sl.val x.T)) :: intsS t.kv t.pg.n.keys :: intsS t.vv t.pg.n.vals :: storeCell p bank sp x.mb :: (pool x.T ++ l))) : Has w (storeS p bank sp n (VMap.put a t.pg Q) :: l) := by
 have hT : VMap.get a x.T = none := by
  have e := hg
  rw [<- ok.eq, VMap.get_over, Option.map_eq_none_iff] at e
  exact e
 refine Has.st_shut (x := ⟨x.mb, VMap.put a t x.T⟩) ⟨?_, ok.up.put _ _, ?_, ?_⟩ ?_
 ·rw [VMap.over_put, ok.eq]
 ·intro q hq
  rcases put_mem hq with rfl | hq
  ·exact ⟨b0, b1⟩
  ·exact ok.bd q hq
 ·intro q hq
  rcases put_mem hq with rfl | hq
  ·exact hn
  ·exact ok.ok q hq
 ·unfold storeFlat
  rw [VMap.over_put]
  have h1 : Has w (t.rows ++ (storeCell p bank sp x.mb :: mapS x.mb n (VMap.put a t.val (VMap.over Sl.val x.T)) :: (pool x.T ++ l))) := h.push 3
  have h2 := h1.unite
  refine h2.perm ?_
  refine (List.Perm.swap _ _ _).trans (List.Perm.cons _ ((List.Perm.swap _ _ _).trans (List.Perm.cons _ ?_)))
  have hp := pool_put x.T a t
  rw [del_none hT] at hp
  exact (hp.append_right l).symm
def CopyPost (lv : Int) (ks vs : List Int) (L : List Say) (w : World) (r : Ending) (w' : World) : Prop :=
 ∃ a5 c5 a6 c6, r = .returned (.agg #[.int .i64 lv, .slice a5 ks.length c5, .slice a6 vs.length c6]) /\ Kept w w' /\ Has w' (intsS (.slice a5 ks.length c5) ks :: intsS (.slice a6 vs.length c6) vs :: L)
theorem node_copy2 {w : World} {l : List Say} (lv : Int) (ks vs : List Int) {kv vv : Value} (h : Has w l) (hk : intsS kv ks ∈ l) (hv : intsS vv vs ∈ l) (k0 : 0 < ks.length) (k1 : ks.length <= 100) (v0 : 0 < vs.length) (v1 : vs.length <= 100) :
  Calls Tryz.prog 81 #[.agg #[.int .i64 lv, kv, vv]] w (CopyPost lv ks vs l w) := by
 refine (node_copied ⟨lv, ks, vs⟩ h hk hv k0 k1 v0 v1).mono ?_
 rintro r w' ⟨k2, v2, rfl, hK, hh⟩
 obtain ⟨a5, c5, e5, _, _⟩ := hh.ints_read (v := k2) (xs := ks) (.head _)
 obtain ⟨a6, c6, e6, _, _⟩ := hh.ints_read (v := v2) (xs := vs) (.tail _ (.head _))
 subst e5 e6
 exact ⟨a5, c5, a6, c6, rfl, hK, hh⟩
theorem takes_in {w : World} {l : List Say} {s : Nat} {X : Spc} (h : Has w (spaceS s X :: l)) {d k : Nat} {y : Shelf} (t : Takes X d k y) : d < 8 /\ k < 4096 /\ d < X.sh.length := by
 obtain ⟨x, ok, _⟩ := h.sp_open
 have hd := (List.getElem?_eq_some_iff.1 t.shelf).1
 have hlen := ok.ents.len
 have he : X.es[d]? = some (X.es[d]'(by have := ok.sh; omega)) := List.getElem?_eq_getElem (by have := ok.sh; omega)
 have hs := ok.size d y _ t.shelf he
 have hz := (ok.ents.ok _ (List.mem_of_getElem? he)).1
 have := t.hi
 have := ok.sh
 exact ⟨by omega, by omega, hd⟩
set_option maxRecDepth 100000 in
theorem st_Put {w : World} {l : List Say} {p bank sp m N : Nat} {Q : Pgs} {disks : List Dsk} {X : Spc} (n : Nd) {kv vv : Value} (h : Has w (world3 p bank sp m N Q disks X l)) (ht : Tab l) (hk : intsS kv n.keys ∈ l) (hv : intsS vv n.vals ∈ l)
  (hf : Fits X disks Q) (hh : HoldsTo Q 1000000) (hm : m <= 500000) (hN : N <= 500000) :
  Calls Tryz.prog 19 #[.pointer (some ⟨p, 0, none⟩), n.val kv vv] w (StPut p bank sp m N Q disks X n l w) := by
 obtain ⟨ak, ck, rfl, _, _⟩ := h.ints_read (v := kv) (xs := n.keys) (by simp [world3, hk])
 obtain ⟨av, cv, rfl, _, _⟩ := h.ints_read (v := vv) (xs := n.vals) (by simp [world3, hv])
 have hbox := h.alloc (.cells #[.int .i64 n.level, .slice ak n.keys.length ck, .slice av n.vals.length cv] 35)
 have HB := Lib.hid (node_Bytes n hbox (kv := .slice ak n.keys.length ck) (vv := .slice av n.vals.length cv) (by simp [world3, hk]) (by simp [world3, hv]))
 have HK0 : Hid (Kept w (w.alloc (.cells #[.int .i64 n.level, .slice ak n.keys.length ck, .slice av n.vals.length cv] 35))) := (Kept.refl w).alloc _
 have c0 : (w.alloc (.cells #[.int .i64 n.level, .slice ak n.keys.length ck, .slice av n.vals.length cv] 35)).cell? ⟨w.heap.size, 0, none⟩ = some (.int .i64 n.level) := cell_of hbox.got 0 rfl
 have c1 : (w.alloc (.cells #[.int .i64 n.level, .slice ak n.keys.length ck, .slice av n.vals.length cv] 35)).cell? ⟨w.heap.size, 1, none⟩ = some (.slice ak n.keys.length ck) := cell_of hbox.got 1 rfl
 have c2 : (w.alloc (.cells #[.int .i64 n.level, .slice ak n.keys.length ck, .slice av n.vals.length cv] 35)).cell? ⟨w.heap.size, 2, none⟩ = some (.slice av n.vals.length cv) := cell_of hbox.got 2 rfl
 have lb := World.block_lt_of_cell? _ _ c0
 have Ht := Lib.hid ht
 have Hk := Lib.hid hk
 have Hv := Lib.hid hv
 have Hf := Lib.hid hf
 have Hh := Lib.hid hh
 clear h hbox ht hk hv hf hh
 obtain ⟨lv, ks, vs⟩ := n
 simp only [Nd.val] at *
 go_enter Tryz.func19, Tryz.ntmps19
 go_upto_region 1 with fail
 generalize w.alloc (.cells #[.int .i64 lv, .slice ak ks.length ck, .slice av vs.length cv] 35) = W at *
 generalize w.heap.size = bx at *
 go_wp2_with fail
 refine HB.out.mono ?_
 rintro r w1 (⟨hok, rfl, hK1, h1⟩ | ⟨hok, v, rfl, hK1, h1⟩)
 ·have HF : Hid (Kept w w1 /\ Has w1 (world3 p bank sp m N Q disks X l)) := ⟨HK0.out.trans hK1, h1.tail⟩
  have Hok := Lib.hid hok
  clear hok hK1 h1 HB HK0 c0 c1 c2 lb
  simp only [errV]
  go_wp2
  go_ret2
  exact ⟨HF.out.1, .inl ⟨Hok.out, rfl, HF.out.2⟩⟩
 ·have HK1 := Lib.hid (HK0.out.trans hK1)
  have c0 : w1.cell? ⟨bx, 0, none⟩ = some (.int .i64 lv) := cell_of h1.tail.got 0 rfl
  have c1 : w1.cell? ⟨bx, 1, none⟩ = some (.slice ak ks.length ck) := cell_of h1.tail.got 1 rfl
  have c2 : w1.cell? ⟨bx, 2, none⟩ = some (.slice av vs.length cv) := cell_of h1.tail.got 2 rfl
  have lb := World.block_lt_of_cell? _ _ c0
  obtain ⟨g, cb, rfl, _, _, _⟩ := h1.bytes_read (v := v) (.head _) (by rw [frame_len _ _ (nb_len hok)]; omega)
  obtain ⟨x, okx, hs⟩ := (show Has w1 (storeS p bank sp m Q :: bytesS (.slice (some ⟨g, 0, none⟩) (frameOf 2 (nodeBytes ⟨lv, ks, vs⟩)).length cb) (frameOf 2 (nodeBytes ⟨lv, ks, vs⟩)) :: pts bx (.cells #[.int .i64 lv, .slice ak ks.length ck, .slice av vs.length cv] 35 (0, 0)) :: bankS N bank disks :: spaceS sp X :: l) from h1.pull 2).st_open
  have hlens := ok_lens hok
  have HNm := Lib.hid (st_named (p := p) (bank := bank) (sp := sp) (mb := x.mb) (m := m) (T := x.T) ⟨lv, ks, vs⟩ (kv := .slice ak ks.length ck) (vv := .slice av vs.length cv) hs (by have hq := Hv.out; simp [hq]) (by simp [storeFlat]) (by simp [storeFlat]) (hs.pool_sl (fun A hA => by simp [storeFlat, hA])) hlens.1 hlens.2.1 (by have := kids_len hok; omega) (fun k hk => by have := ok_vals hok k (kids_sub _ k hk); omega))
  rw [okx.eq] at HNm
  have s0 : w1.cell? ⟨p, 0, none⟩ = some (.pointer (some ⟨bank, 0, none⟩)) := cell_of hs.got 0 rfl
  have s1 : w1.cell? ⟨p, 1, none⟩ = some (.pointer (some ⟨sp, 0, none⟩)) := cell_of hs.got 1 rfl
  have lp := World.block_lt_of_cell? _ _ s0
  have H1 := Lib.hid h1
  have Hok := Lib.hid hok
  clear h1 hs okx hK1 hok hlens HB HK0
  simp only [Nd.val] at HNm
  go_wp2_with fail
  refine HNm.out.mono ?_
  rintro r w2 ⟨rfl, hb2⟩
  have h2 := H1.out.below hb2
  have HK2 := Lib.hid (HK1.out.trans (Kept.below hb2))
  have t0 := bcell1 hb2 s0
  have t1 := bcell1 hb2 s1
  have u0 := bcell1 hb2 c0
  have u1 := bcell1 hb2 c1
  have u2 := bcell1 hb2 c2
  have lp2 := World.block_lt_of_cell? _ _ t0
  have lb2 := World.block_lt_of_cell? _ _ u0
  have H2 := Lib.hid h2
  clear hb2 h2 H1 HK1 HNm s0 s1 c0 c1 c2 lp lb
  have hbad : ∀ (c : Int), namedErr Q ⟨lv, ks, vs⟩ = errV c -> Hid (StPut p bank sp m N Q disks X ⟨lv, ks, vs⟩ l w (.returned (.tuple #[.int .i64 0, errV c])) w2) := fun c he =>
   ⟨HK2.out, .inr (.inl ⟨Hok.out, by rw [he]; simp [errV], by rw [he], H2.out.tail.tail⟩)⟩
  rcases named_cases Q ⟨lv, ks, vs⟩ with he | he | he
  ·have HX := hbad 81 he
   clear hbad
   rw [he]
   clear he
   simp only [errV]
   go_wp2
   go_ret2
   exact HX.out
  ·have HX := hbad 70 he
   clear hbad
   rw [he]
   clear he
   simp only [errV]
   go_wp2
   go_ret2
   exact HX.out
  ·clear hbad
   rw [he]
   have He := Lib.hid he
   clear he
   have HTk := Lib.hid (sp_Take (show Has w2 (spaceS sp X :: bytesS (.slice (some ⟨g, 0, none⟩) (frameOf 2 (nodeBytes ⟨lv, ks, vs⟩)).length cb) (frameOf 2 (nodeBytes ⟨lv, ks, vs⟩)) :: pts bx (.cells #[.int .i64 lv, .slice ak ks.length ck, .slice av vs.length cv] 35 (0, 0)) :: storeS p bank sp m Q :: bankS N bank disks :: l) from H2.out.pull 4) Ht.out.cons.cons.cons.cons)
   have HTi : Hid (∀ d k y, Takes X d k y -> d < 8 /\ k < 4096 /\ d < X.sh.length) := fun d k y t => takes_in (H2.out.pull 4) t
   have hfl := Lib.hid (frame_len 2 (nodeBytes ⟨lv, ks, vs⟩) (nb_len Hok.out))
   generalize hfr : frameOf 2 (nodeBytes ⟨lv, ks, vs⟩) = fr at *
   have Hfr := Lib.hid hfr
   clear hfr
   go_wp2_with fail
   refine HTk.out.mono ?_
   rintro r w3 (⟨hno, rfl, hK3, h3⟩ | ⟨d, k, y, htk, rfl, hK3, h3⟩)
   ·have HF : Hid (Kept w w3 /\ Has w3 (world3 p bank sp m N Q disks X l)) := ⟨HK2.out.trans hK3, ((h3.pull 1).tail.pull 1).tail.push 2⟩
    have Hno := Lib.hid hno
    clear hno hK3 h3 HTk H2 HK2 t0 t1 u0 u1 u2
    simp only [errV]
    go_wp2
    go_ret2
    exact ⟨HF.out.1, .inr (.inr (.inl ⟨Hok.out, He.out, Hno.out, rfl, HF.out.2⟩))⟩
   ·obtain ⟨hd8, hk4, hds⟩ := HTi.out d k y htk
    have hdd : d < disks.length := by rw [<- Hf.out.len]; exact hds
    obtain ⟨secs, hsec⟩ : ∃ secs, disks[d]? = some secs := ⟨_, List.getElem?_eq_getElem hdd⟩
    have hks : k < secs.length := by rw [<- Hf.out.size d y _ htk.shelf hsec]; exact htk.hi
    have hAt := space_At (w := w3) (d * 4096 + k) (by omega)
    rw [show (d * 4096 + k) / 4096 = d by omega, show (d * 4096 + k) % 4096 = k by omega] at hAt
    have HAt := Lib.hid hAt
    have HW := Lib.hid (bank_Write (show Has w3 (bankS N bank disks :: spaceS sp (X.put d (y.took k)) :: bytesS (.slice (some ⟨g, 0, none⟩) fr.length cb) fr :: pts bx (.cells #[.int .i64 lv, .slice ak ks.length ck, .slice av vs.length cv] 35 (0, 0)) :: storeS p bank sp m Q :: l) from h3.pull 4) d k secs hsec hks (.slice (some ⟨g, 0, none⟩) fr.length cb) fr (.tail _ (.head _)) hfl.out (by omega))
    have hst := (h3.pull 3).st_open
    have s0 : w3.cell? ⟨p, 0, none⟩ = some (.pointer (some ⟨bank, 0, none⟩)) := by
     obtain ⟨x, _, hs⟩ := hst
     exact cell_of hs.got 0 rfl
    have lp3 := World.block_lt_of_cell? _ _ s0
    have HK3 := Lib.hid (HK2.out.trans hK3)
    have Htk := Lib.hid htk
    have Hsec := Lib.hid hsec
    have hlv : Hid (lenV d k = ((d * 4096 + k : Nat) : Int)) := rfl
    have hva : ((d * 4096 + k : Nat) : Int) < 32768 := by omega
    have hva0 : (0 : Int) <= ((d * 4096 + k : Nat) : Int) := by omega
    clear htk hK3 h3 HTk H2 HK2 t0 t1 u0 u1 u2 hAt hst hsec lp2 lb2 hks hdd
    generalize ((d * 4096 + k : Nat) : Int) = A at *
    go_wp2_with fail
    refine HAt.out.mono ?_
    rintro r w4 ⟨rfl, rfl⟩
    go_wp2_with fail
    refine HW.out.mono ?_
    rintro r w5 ⟨rfl, hK5, h5⟩
    have HK5 := Lib.hid (HK3.out.trans hK5)
    obtain ⟨x, okx, hs⟩ := (show Has w5 (storeS p bank sp m Q :: bankS (N + 1) bank (disks.set d (secs.set k fr)) :: spaceS sp (X.put d (y.took k)) :: bytesS (.slice (some ⟨g, 0, none⟩) fr.length cb) fr :: pts bx (.cells #[.int .i64 lv, .slice ak ks.length ck, .slice av vs.length cv] 35 (0, 0)) :: l) from h5.pull 4).st_open
    obtain ⟨q0, q1, q2, q3, q4⟩ := ok_lens Hok.out
    simp only at q0 q1 q2 q3 q4
    have HC := Lib.hid (node_copy2 lv ks vs hs.drew (kv := .slice ak ks.length ck) (vv := .slice av vs.length cv) (by have hq := Hk.out; simp [hq]) (by have hq := Hv.out; simp [hq]) (by omega) (by omega) (by omega) (by omega))
    have s2 : w5.cell? ⟨p, 2, none⟩ = some (.map (some x.mb)) := cell_of hs.got 2 rfl
    have hbx := hs.at (b := bx) (o := .cells #[.int .i64 lv, .slice ak ks.length ck, .slice av vs.length cv] 35 (0, 0)) (by simp)
    have u0 : w5.cell? ⟨bx, 0, none⟩ = some (.int .i64 lv) := cell_of hbx 0 rfl
    have u1 : w5.cell? ⟨bx, 1, none⟩ = some (.slice ak ks.length ck) := cell_of hbx 1 rfl
    have u2 : w5.cell? ⟨bx, 2, none⟩ = some (.slice av vs.length cv) := cell_of hbx 2 rfl
    have lp5 := World.block_lt_of_cell? _ _ s2
    have lb5 := World.block_lt_of_cell? _ _ u0
    have Okx := Lib.hid okx
    have hno : Hid (VMap.get A Q = none) := by have := Hf.out.free d k y Htk.out.shelf Htk.out.hi Htk.out.free; rw [hlv.out] at this; exact this
    clear hK5 h5 hs okx hbx q2 s0 lp3 HAt HW
    go_upto_region 15 with fail
    go_cut [] (fun wx => Hid (Kept w wx /\ Has wx (storeS p bank sp (m + 1) (VMap.put A ⟨⟨lv, ks, vs⟩, 0, 0⟩ Q) :: bankS (N + 1) bank (disks.set d (secs.set k fr)) :: spaceS sp (X.put d (y.took k)) :: pts bx (.cells #[.int .i64 lv, .slice ak ks.length ck, .slice av vs.length cv] 35 (0, 0)) :: l)))
    case first =>
     go_region_held3 (fun w' => w'.cell? ⟨p, 2, none⟩ = some (.map (some x.mb)) /\ w'.cell? ⟨bx, 0, none⟩ = some (.int .i64 lv) /\ w'.cell? ⟨bx, 1, none⟩ = some (.slice ak ks.length ck) /\ w'.cell? ⟨bx, 2, none⟩ = some (.slice av vs.length cv)) (first | exact ⟨e0, e1, e2, e3⟩ | exact ⟨d0, d1, d2, d3⟩ | exact ⟨s2, u0, u1, u2⟩)
      (first | (go_at_call 81; refine HC.out.mono ?_; rintro r V ⟨a5, c5, a6, c6, rfl, hK6, hh6⟩; obtain ⟨w9, hrun, hK9, hh9⟩ := map_store (hh6.pull 3) (by simp [maxLen]; omega) A (by omega) (by omega) (.agg #[.int .i64 lv, .slice a5 ks.length c5, .slice a6 vs.length c6, .int .i64 0, .int .i64 0]); have hb6 := hh6.at (b := bx) (o := .cells #[.int .i64 lv, .slice ak ks.length ck, .slice av vs.length cv] 35 (0, 0)) (by simp [storeFlat]); have hb9 := hh9.at (b := bx) (o := .cells #[.int .i64 lv, .slice ak ks.length ck, .slice av vs.length cv] 35 (0, 0)) (by simp); have hp6 := (hh6.pull 2).got; have hp9 := (hh9.pull 3).got; have d0 := cell_of hp6 2 rfl; have d1 := cell_of hb6 0 rfl; have d2 := cell_of hb6 1 rfl; have d3 := cell_of hb6 2 rfl; have e0 := cell_of hp9 2 rfl; have e1 := cell_of hb9 0 rfl; have e2 := cell_of hb9 1 rfl; have e3 := cell_of hb9 2 rfl; have HK6 := Lib.hid hK6; have HK9 := Lib.hid hK9; have H9 := Lib.hid hh9; clear hK6 hh6 hK9 hh9 hb6 hb9 hp6 hp9))
     all_goals
      go_wp2_with fail
      go_meet
      case rel =>
       refine ⟨(HK5.out.drew.trans HK6.out).trans HK9.out, ?_⟩
       have h9 := Has.st_newpage (t := ⟨⟨⟨lv, ks, vs⟩, 0, 0⟩, .slice a5 ks.length c5, .slice a6 vs.length c6⟩) Okx.out hno.out hva0 hva Hok.out H9.out
       exact (h9.pull 3).tail
    case rest =>
     clear HC HK5 HK3 s2 u0 u1 u2 lp5 lb5
     obtain ⟨hK, hh⟩ := hcut.out
     have hbx := hh.at (b := bx) (o := .cells #[.int .i64 lv, .slice ak ks.length ck, .slice av vs.length cv] 35 (0, 0)) (by simp)
     have u0 : wc.cell? ⟨bx, 0, none⟩ = some (.int .i64 lv) := cell_of hbx 0 rfl
     have u1 : wc.cell? ⟨bx, 1, none⟩ = some (.slice ak ks.length ck) := cell_of hbx 1 rfl
     have u2 : wc.cell? ⟨bx, 2, none⟩ = some (.slice av vs.length cv) := cell_of hbx 2 rfl
     have lb := World.block_lt_of_cell? _ _ u0
     obtain ⟨ka, kc, hkv, hkr⟩ := hh.kids_read ⟨lv, ks, vs⟩ (vv := .slice av vs.length cv) (by have hq := Hv.out; simp [hq])
     have HKd := Lib.hid (node_kids (w := wc) ⟨lv, ks, vs⟩ (.slice ak ks.length ck) (.slice av vs.length cv))
     simp only [Nd.val, hkv] at HKd
     have hpres : ∀ k, k ∈ Nd.kids ⟨lv, ks, vs⟩ -> (VMap.get k Q).isSome = true := by
      intro k hk
      have he := He.out
      unfold namedErr at he
      by_cases hm : (Nd.kids ⟨lv, ks, vs⟩).any (missing Q) = true
      ·rw [if_pos hm] at he; simp [errV] at he
      ·have : missing Q k = false := by
        cases hc : missing Q k with
        | false => rfl
        | true => exact absurd (List.any_eq_true.2 ⟨k, hk, hc⟩) hm
       unfold missing at this
       cases hg : VMap.get k Q with
       | none => rw [hg] at this; simp at this
       | some g => rfl
     have HPr := Lib.hid hpres
     have hkl := kids_len Hok.out
     have HHo := Lib.hid (Hh.out.put (by omega) A ⟨lv, ks, vs⟩)
     have hkdef : Hid (Nd.kids ⟨lv, ks, vs⟩ = Nd.kids ⟨lv, ks, vs⟩) := rfl
     obtain ⟨kk, hkk⟩ : ∃ kk, kk = Nd.kids ⟨lv, ks, vs⟩ := ⟨_, rfl⟩
     rw [<- hkk] at HKd hkl hkr
     have Hkk := Lib.hid hkk
     have Hkv : Hid (Nd.kidsV ⟨lv, ks, vs⟩ (.slice av vs.length cv) = .slice ka kk.length kc) := by rw [hkk]; exact hkv
     have HK := Lib.hid hK
     have HH := Lib.hid hh
     clear hpres hK hh hbx hcut hkdef hkk hkv
     go_wp2_with fail
     refine HKd.out.mono ?_
     rintro r w6 ⟨rfl, hb6⟩
     have HM : Hid (Kept w w6 /\ Has w6 (storeS p bank sp (m + 1 + 0) (bumpAll (VMap.put A ⟨⟨lv, ks, vs⟩, 0, 0⟩ Q) (kk.take 0)) :: bankS (N + 1) bank (disks.set d (secs.set k fr)) :: spaceS sp (X.put d (y.took k)) :: pts bx (.cells #[.int .i64 lv, .slice ak ks.length ck, .slice av vs.length cv] 35 (0, 0)) :: l)) :=
      ⟨HK.out.trans (Kept.below hb6), HH.out.below hb6⟩
     clear hb6 HKd HK HH u0 u1 u2 lb hkr
     go_wp2
     go_loopg [76] kk.length (fun gk i wr => ∃ j : Nat, j <= kk.length /\ gk = kk.length - j /\ i = .int .i64 j /\ Hid (Kept w wr /\ Has wr (storeS p bank sp (m + 1 + j) (bumpAll (VMap.put A ⟨⟨lv, ks, vs⟩, 0, 0⟩ Q) (kk.take j)) :: bankS (N + 1) bank (disks.set d (secs.set k fr)) :: spaceS sp (X.put d (y.took k)) :: pts bx (.cells #[.int .i64 lv, .slice ak ks.length ck, .slice av vs.length cv] 35 (0, 0)) :: l)))
     case atStart => exact ⟨0, Nat.zero_le _, rfl, rfl, HM⟩
     case round =>
      clear HM
      obtain ⟨j, hj, rfl, rfl, HM⟩ := hrel
      by_cases hlt : j < kk.length
      ·obtain ⟨hK7, h7⟩ := HM.out
       obtain ⟨ka', kc', hkv', hkr'⟩ := h7.kids_read ⟨lv, ks, vs⟩ (vv := .slice av vs.length cv) (by have hq := Hv.out; simp [hq])
       rw [<- Hkk.out] at hkv' hkr'
       rw [Hkv.out] at hkv'
       injection hkv' with z1 z2 z3
       subst z1 z3
       obtain ⟨gg, rfl, hc⟩ := hkr' j hlt
       have hs1 : (VMap.get kk[j] (bumpAll (VMap.put A ⟨⟨lv, ks, vs⟩, 0, 0⟩ Q) (kk.take j))).isSome = true := by
        rw [bumpAll_some, get_put]
        split
        ·rfl
        ·exact HPr.out _ (by rw [<- Hkk.out]; exact List.getElem_mem hlt)
       obtain ⟨gp, hgp⟩ := Option.isSome_iff_exists.1 hs1
       have hhb := (HHo.out.all (kk.take j)) _ _ hgp
       have hbk := (List.length_take_le j kk)
       have HAd := Lib.hid (st_add h7 kk[j] 1 gp hgp (by omega) (by omega) (by omega) (by omega) (by omega))
       have HNx : Hid (bumpAll (VMap.put A ⟨⟨lv, ks, vs⟩, 0, 0⟩ Q) (kk.take (j + 1)) = VMap.put kk[j] { gp with holds := gp.holds + 1 } (bumpAll (VMap.put A ⟨⟨lv, ks, vs⟩, 0, 0⟩ Q) (kk.take j))) := by
        show _ = _
        rw [bumpAll_succ _ _ _ hlt, bump, hgp]
       have hk1 : (j : Int) < (kk.length : Int) := by omega
       have hk0 : (0 : Int) <= j := by omega
       have HK7 := Lib.hid hK7
       generalize kk[j] = xx at *
       have lg := World.block_lt_of_cell? _ _ hc
       clear hK7 h7 hkr' hs1 hgp hhb HM
       go_wp2_with fail
       refine HAd.out.mono ?_
       rintro r w8 ⟨rfl, hK8, h8⟩
       have HM8 : Hid (Kept w w8 /\ Has w8 (storeS p bank sp (m + 1 + (j + 1)) (bumpAll (VMap.put A ⟨⟨lv, ks, vs⟩, 0, 0⟩ Q) (kk.take (j + 1))) :: bankS (N + 1) bank (disks.set d (secs.set k fr)) :: spaceS sp (X.put d (y.took k)) :: pts bx (.cells #[.int .i64 lv, .slice ak ks.length ck, .slice av vs.length cv] 35 (0, 0)) :: l)) := by
        refine ⟨HK7.out.trans hK8, ?_⟩
        rw [HNx.out, <- Nat.add_assoc]
        exact h8
       clear hK8 h8 HAd HNx HK7
       go_wp2
       go_roundg (kk.length - (j + 1))
       case measure => omega
       case rel => exact ⟨j + 1, by omega, rfl, by simp, HM8⟩
      ·obtain rfl : j = kk.length := by omega
       have HF : Hid (StPut p bank sp m N Q disks X ⟨lv, ks, vs⟩ l w (.returned (.tuple #[.int .i64 A, .nilIface])) wr) := by
        obtain ⟨hK7, h7⟩ := HM.out
        refine ⟨hK7, .inr (.inr (.inr ⟨d, k, y, secs, Hok.out, He.out, Htk.out, Hsec.out, by rw [hlv.out], ?_⟩))⟩
        have h9 := (h7.pull 3).tail
        rw [List.take_length] at h9
        unfold world3 put1
        rw [hlv.out, Hfr.out, <- Hkk.out]
        exact h9
       clear HM
       go_wp2
       go_ret2
       exact HF.out
end Go.Proofs.YtgbgneiciabidaaGreatDoor
