/-
  Spaces (layer 8), the fourth part: the walk of Take.
-/
import Derived.Test.YtgbgneiciabidaaGreatDoorGz7
import Derived.Test.YtgbgneiciabidaaGreatDoorGz9
import Derived.Test.YtgbgneiciabidaaGreatDoorGz10
namespace Go.Proofs.YtgbgneiciabidaaGreatDoor
open Go Go.RowKit
set_option linter.unusedVariables false
set_option linter.unusedSimpArgs false

theorem Found.hit {n f k : Nat} {ok : Bool} {T : Nat → Bool} (h : Found n f T k ok) {g : Nat} (h1 : f ≤ g) (h2 : g < n) (h3 : T g = true) : ok = true ∧ f ≤ k ∧ k ≤ g ∧ k < n ∧ T k = true ∧ ∀ j, f ≤ j → j < k → T j = false := by
  unfold Found at h
  cases ok with
  | false =>
    simp only [Bool.false_eq_true, if_false] at h
    have := h.2 g h1 h2
    rw [h3] at this; cases this
  | true =>
    simp only [if_true] at h
    obtain ⟨a, b, c, d⟩ := h
    refine ⟨rfl, a, ?_, b, c, d⟩
    apply Nat.le_of_not_lt
    intro hlt
    have := d g h1 hlt
    rw [h3] at this; cases this

set_option maxHeartbeats 1000000 in
set_option maxRecDepth 100000 in
theorem sp_Take {w : World} {l : List Say} {s : Nat} {X : Spc} (h : Has w (spaceS s X :: l)) (ht : Tab l) :
    Calls Tryz.prog 77 #[.pointer (some ⟨s, 0, none⟩)] w (TakePost s X l w) := by
  obtain ⟨x, ok, hh⟩ := h.sp_open
  obtain ⟨a, c, sa, sc, R⟩ := hh.sp_read (fun A hA => List.mem_append_left _ hA) ok
  have HA := Lib.hid (ros_Actives hh (v := x.lv) (es := X.es) (by simp [spFlat, spHead]) ok.ents)
  rw [R.lv] at HA
  have s0 := R.s0
  have t0 := R.t0
  have hal := idxTo_len (fun e => e.st == 1) X.es X.es.length
  have hes := ok.ents.len
  have Ok := Lib.hid ok
  have Ht := Lib.hid ht
  clear R hh h ok ht
  go_enter Tryz.func77, Tryz.ntmps77
  go_wp2_with fail
  refine HA.out.mono ?_
  rintro r w1 ⟨o, rfl, hK, h1⟩
  obtain ⟨_, oa, oc, rfl, _, _, hor⟩ := h1.row_read (v := o) (e := 3) (.head _)
  have HK := Lib.hid hK
  have H1 := Lib.hid h1
  have Hor := Lib.hid hor
  have hact : (actives X.es).length ≤ 8 := by
    have : actives X.es = idxTo (fun e => e.st == 1) X.es X.es.length := rfl
    rw [this]; omega
  clear hK h1 hor s0 t0 hal
  go_wp2
  go_loopg [4, 5, 21] (actives X.es).length (fun gk b m i wr => BestRel X w1 gk b m i wr)
  case atStart => exact ⟨0, Nat.zero_le _, rfl, rfl, rfl, rfl, 0, rfl⟩
  case round =>
    obtain ⟨k, hk, rfl, rfl, rfl, rfl, m, rfl⟩ := hrel
    by_cases hlt : k < (actives X.es).length
    · obtain ⟨d, hd⟩ : ∃ d, (actives X.es)[k]? = some d := ⟨_, List.getElem?_eq_getElem hlt⟩
      obtain ⟨g, rfl, hg, _⟩ := Hor.out k (natVal d) (by simp [hd])
      obtain ⟨e, y, he, hy, _, _, hu, hez⟩ := Ok.out.active (List.mem_of_getElem? hd)
      have HF := Lib.hid (sp_free (w := w1.drewN m) (H1.out.drewN m) (s := s) (x := x) (fun A hA => .tail _ (List.mem_append_left _ hA)) Ok.out d e y he hy hu)
      have hstep := bestOf_take X.free (actives X.es) k d hd (0, 0)
      generalize X.free d = fd at *
      generalize bestOf X.free ((actives X.es).take k) (0, 0) = bm at *
      obtain ⟨b0, m0⟩ := bm
      simp only at hstep
      unfold natVal at hg
      clear he hy hd
      by_cases hmore : m0 < fd
      · rw [if_pos hmore] at hstep
        have Hstep := Lib.hid hstep
        clear hstep
        go_wp2_with fail
        refine HF.out.mono ?_
        rintro r w2 ⟨rfl, m2, rfl⟩
        go_wp2
        go_roundg ((actives X.es).length - (k + 1))
        case measure => omega
        case rel => exact ⟨k + 1, by omega, rfl, by go_num, by rw [Hstep.out], by rw [Hstep.out], m + m2, by simp⟩
      · rw [if_neg hmore] at hstep
        have Hstep := Lib.hid hstep
        clear hstep
        go_wp2_with fail
        refine HF.out.mono ?_
        rintro r w2 ⟨rfl, m2, rfl⟩
        go_wp2
        go_roundg ((actives X.es).length - (k + 1))
        case measure => omega
        case rel => exact ⟨k + 1, by omega, rfl, by go_num, by rw [Hstep.out], by rw [Hstep.out], m + m2, by simp⟩
    · obtain rfl : k = (actives X.es).length := by omega
      rw [List.take_length]
      have H2 := Lib.hid (H1.out.tail.drewN m)
      have HK2 := Lib.hid (HK.out.drewN m)
      generalize w1.drewN m = W at *
      clear H1 HK Hor HA
      have hspec := bestOf_spec X.free (actives X.es)
      by_cases h0 : (bestOf X.free (actives X.es) (0, 0)).2 = 0
      · have hall : ∀ d ∈ actives X.es, X.free d = 0 := by
          rcases hspec with ⟨_, h⟩ | ⟨h, hb⟩
          · exact h
          · have := hb.2.1; omega
        have Hall := Lib.hid hall
        generalize bestOf X.free (actives X.es) (0, 0) = bm at *
        obtain ⟨b0, m0⟩ := bm
        simp only at h0
        subst h0
        clear hspec hall
        go_wp2
        go_ret2
        exact .inl ⟨Hall.out, rfl, HK2.out, Has.sp_shut Ok.out H2.out⟩
      · have hspec : (bestOf X.free (actives X.es) (0, 0)).2 = X.free (bestOf X.free (actives X.es) (0, 0)).1 ∧ Best X.free (actives X.es) (bestOf X.free (actives X.es) (0, 0)).1 := by
          rcases hspec with ⟨h, _⟩ | h
          · exact absurd h h0
          · exact h
        obtain ⟨hm, hbest⟩ := hspec
        generalize hbm : bestOf X.free (actives X.es) (0, 0) = bm at *
        obtain ⟨d, m0⟩ := bm
        simp only at h0 hm hbest
        have hm0 : ((m0 : Int) == 0) = false := by simp; omega
        obtain ⟨e, y, he, hy, hst, hne, hu, hez⟩ := Ok.out.active hbest.1
        have hfd : X.free d = e.size - 2 - y.used := by simp [Spc.free, he, hy]
        have hyok := Ok.out.ok d y hy
        obtain ⟨f, f2, fn, fb⟩ := hyok.some_free (by rw [hne]; omega)
        obtain ⟨a', c', sa', sc', R⟩ := H2.out.sp_read (fun A hA => List.mem_append_left _ hA) Ok.out
        obtain ⟨q, b, rfl, p0, _, hb⟩ := R.shelf d y hy
        obtain ⟨rest, hp1, hp2⟩ := shelves_focus x.bs X.sh d b y hb hy
        have s0 := R.s0
        have t1 := R.t1
        have hperm : (spFlat s X x ++ l).Perm (shelfS b y :: (spHead s X.es x ++ rest ++ l)) := by
          have h1 : (spFlat s X x).Perm (shelfS b y :: (spHead s X.es x ++ rest)) := (hp1.append_left _).trans List.perm_middle
          exact h1.append_right l
        have h3 := H2.out.perm hperm
        obtain ⟨⟨tx, fx, gx⟩, h3⟩ := h3.shelf_open
        have hgb := h3.got (b := b)
        have b0 : W.cell? ⟨b, 0, none⟩ = some (.pointer (some ⟨tx, 0, none⟩)) := cell_of hgb 0 rfl
        have b1 : W.cell? ⟨b, 1, none⟩ = some (.pointer (some ⟨fx, 0, none⟩)) := cell_of hgb 1 rfl
        have b2 : W.cell? ⟨b, 2, none⟩ = some (.pointer (some ⟨gx, 0, none⟩)) := cell_of hgb 2 rfl
        have hd8 := (List.getElem?_eq_some_iff.1 he).1
        have hd9 := (List.getElem?_eq_some_iff.1 hy).1
        have htab : Tab (shelfParts b y (tx, fx, gx) ++ (spHead s X.es x ++ rest ++ l)) := (Ht.out.app _).app _
        have HFree := Lib.hid (fun (k : Nat) (hk : k ≤ 4096) => bm_Free h3 (b := tx) (n := y.n) (S := y.taken) (by simp [shelfParts]) htab k hk)
        have HHas := Lib.hid (fun (k : Nat) => bm_Has h3 (b := gx) (n := y.n) (S := y.given) (by simp [shelfParts]) k)
        have H3 := Lib.hid h3
        have Fb := Lib.hid fb
        have Best' := Lib.hid hbest
        have Hbm := Lib.hid hbm
        have Hy := Lib.hid hy
        have Hp2 := Lib.hid hp2
        have Hyok := Lib.hid hyok
        have hyn : y.n ≤ 4096 := by omega
        clear hperm h3 hgb htab R hp1 hp2 hm hfd fb he hy hbest hbm H2 hyok hb
        go_wp2_with fail
        refine (HFree.out 2 (by omega)).mono ?_
        rintro r w' ⟨k0, okk, hfound, rfl, rfl⟩
        have hfree : (!y.taken f) = true := by
          have := Fb.out; simp only [Shelf.busy, Bool.or_eq_false_iff] at this; simp [this.1]
        obtain ⟨rfl, k1, k2, k3, k4, k5⟩ := hfound.hit f2 fn hfree
        have K4 : Hid (y.taken k0 = false) := by simpa [Hid] using k4
        have K5 : Hid (∀ j, 2 ≤ j → j < k0 → y.busy j = true) := fun j j2 jk => by
          have := k5 j j2 jk
          simp only [Bool.not_eq_false'] at this
          simp [Shelf.busy, this]
        clear hfound k4 k5 hfree
        go_wp2
        go_loopg [10] (y.n - k0) (fun gk kv wr => SeekRel y W gk kv wr)
        case atStart => exact ⟨k0, rfl, rfl, k1, k3, K4.out, K5.out, rfl⟩
        case round =>
          obtain ⟨k, rfl, rfl, g2, gn, gt, gb, rfl⟩ := hrel
          clear K4 K5 k1 k2 k3
          have hkf : k ≤ f := by
            apply Nat.le_of_not_lt
            intro hlt
            have := gb f f2 hlt
            rw [Fb.out] at this; cases this
          have Gb := Lib.hid gb
          have Gt := Lib.hid gt
          have HH2 := HHas.out k
          clear gb gt
          by_cases hgk : y.given k = true
          · rw [hgk] at HH2
            have HH3 := Lib.hid HH2
            have hne : k ≠ f := by
              rintro rfl
              have := Fb.out
              simp [Shelf.busy, hgk] at this
            have HF2 := HFree.out (k + 1) (by omega)
            rw [show ((k + 1 : Nat) : Int) = (k : Int) + 1 from by omega] at HF2
            have HF3 := Lib.hid HF2
            have Hgk := Lib.hid hgk
            clear HH2 HF2 hgk
            go_wp2_with fail
            refine HH3.out.mono ?_
            rintro r w' ⟨rfl, rfl⟩
            go_wp2_with fail
            refine HF3.out.mono ?_
            rintro r w' ⟨kn, okk, hfound, rfl, rfl⟩
            have hfree : (!y.taken f) = true := by
              have := Fb.out; simp only [Shelf.busy, Bool.or_eq_false_iff] at this; simp [this.1]
            obtain ⟨rfl, k1, k2, k3, k4, k5⟩ := hfound.hit (g := f) (by omega) fn hfree
            have K4 : Hid (y.taken kn = false) := by simpa [Hid] using k4
            have K5 : Hid (∀ j, 2 ≤ j → j < kn → y.busy j = true) := fun j j2 jk => by
              rcases Nat.lt_trichotomy j k with h | h | h
              · exact Gb.out j j2 h
              · subst h; simp [Shelf.busy, Hgk.out]
              · have := k5 j h jk
                simp only [Bool.not_eq_false'] at this
                simp [Shelf.busy, this]
            clear hfound k4 k5 hfree
            go_wp2
            go_roundg (y.n - kn)
            case measure => omega
            case rel => exact ⟨kn, rfl, rfl, by omega, k3, K4.out, K5.out, rfl⟩
          · have hgk : y.given k = false := by simpa using hgk
            rw [hgk] at HH2
            have HH3 := Lib.hid HH2
            have Hgk := Lib.hid hgk
            have hset1 := (H3.out.pull 1).alloc_off (.cells #[.int .i64 (k : Int)] 3)
            have HS1 := Lib.hid (bm_Set1 hset1 wr.heap.size 1 k (by simp) gn)
            clear HH2 hgk hset1
            go_wp2_with fail
            refine HH3.out.mono ?_
            rintro r w' ⟨rfl, rfl⟩
            go_wp2_with fail
            refine HS1.out.mono ?_
            rintro r V1 ⟨rfl, hk1, hv1⟩
            have hv1' : Has V1 (shelfParts b { y with taken := fun j => j == k || y.taken j } (tx, fx, gx) ++ (spHead s X.es x ++ rest ++ l)) := hv1.push 1
            have hgb := hv1'.got (b := b)
            have b1' : V1.cell? ⟨b, 1, none⟩ = some (.pointer (some ⟨fx, 0, none⟩)) := cell_of hgb 1 rfl
            have hset2 := (hv1'.pull 2).alloc_off (.cells #[.int .i64 (k : Int)] 3)
            have HS2 := Lib.hid (bm_Set1 hset2 V1.heap.size 1 k (by simp) gn)
            have HK3 : Hid (Kept w V1) := (HK2.out.alloc _).trans hk1
            have HAd := Lib.hid (fun (W' : World) => space_Addr (w := W') d k (by omega) (by omega))
            clear hv1 hv1' hgb hset2 hk1 b0 b1 b2 s0 t1 p0
            go_wp2_with fail
            refine HS2.out.mono ?_
            rintro r V2 ⟨rfl, hk2, hv2⟩
            have HV2 : Hid (Has V2 (shelfParts b (y.took k) (tx, fx, gx) ++ (spHead s X.es x ++ rest ++ l))) := hv2.push 2
            have HK4 : Hid (Kept w V2) := (HK3.out.alloc _).trans hk2
            clear hv2 hk2
            go_wp2_with fail
            refine (HAd.out V2).mono ?_
            rintro r w' ⟨rfl, rfl⟩
            go_wp2
            go_ret2
            refine .inr ⟨d, k, y, ⟨Best'.out, by rw [Hbm.out], Hy.out, g2, gn, by simp [Shelf.busy, Gt.out, Hgk.out], Gb.out⟩, rfl, HK4.out, ?_⟩
            refine Has.sp_shut (x := x) (Ok.out.put (y' := y.took k) Hy.out rfl (Hyok.out.took g2 Hgk.out)) ?_
            have h5 : Has V2 (shelfS b (y.took k) :: (spHead s X.es x ++ rest ++ l)) := Has.shelf_shut HV2.out
            refine h5.perm ?_
            have h6 : (spFlat s (X.put d (y.took k)) x).Perm (shelfS b (y.took k) :: (spHead s X.es x ++ rest)) := ((Hp2.out (y.took k)).append_left _).trans List.perm_middle
            exact (h6.append_right l).symm
end Go.Proofs.YtgbgneiciabidaaGreatDoor
/-
  Pages (layer 11), the seventh part: what Put does to the pages (plain).
-/
namespace Go.Proofs.YtgbgneiciabidaaGreatDoor
open Go Go.RowKit
set_option linter.all false

theorem get_ins {α : Type} (x : Int × α) (k : Int) : ∀ (M : List (Int × α)), (∀ p ∈ M, p.1 ≠ x.1) → VMap.get k (VMap.ins x M) = if k = x.1 then some x.2 else VMap.get k M
  | [], _ => by
    by_cases e : k = x.1
    · subst e; simp [VMap.ins, VMap.get]
    · rw [if_neg e]
      simp [VMap.ins, VMap.get]; omega
  | y :: r, h => by
    have hy := h y (by simp)
    have ih := get_ins x k r fun p hp => h p (by simp [hp])
    unfold VMap.ins
    split
    · by_cases e : k = x.1
      · subst e; simp [VMap.get]
      · rw [if_neg e]
        have e2 : (x.1 == k) = false := by simp; omega
        simp [VMap.get, e2]
    · by_cases e : y.1 = k
      · have e3 : k ≠ x.1 := by omega
        rw [if_neg e3]
        simp [VMap.get, e]
      · have e2 : (y.1 == k) = false := by simpa using e
        have h1 : VMap.get k (y :: VMap.ins x r) = VMap.get k (VMap.ins x r) := by simp [VMap.get, e2]
        have h2 : VMap.get k (y :: r) = VMap.get k r := by simp [VMap.get, e2]
        rw [h1, h2, ih]
theorem get_del {α : Type} (a k : Int) (M : List (Int × α)) : VMap.get k (VMap.del a M) = if k = a then none else VMap.get k M := by
  unfold VMap.get VMap.del
  rw [List.find?_filter]
  by_cases e : k = a
  · subst e
    rw [if_pos rfl]
    have : M.find? (fun a => decide ((!a.1 == k) = true ∧ (a.1 == k) = true)) = none := by
      rw [List.find?_eq_none]; intro p hp; simp
    rw [this]; rfl
  · rw [if_neg e]
    congr 2
    funext p
    by_cases h : p.1 = k
    · simp [h]; exact e
    · simp [h]
theorem get_put {α : Type} (a k : Int) (v : α) (M : List (Int × α)) : VMap.get k (VMap.put a v M) = if k = a then some v else VMap.get k M := by
  rw [VMap.put, get_ins]
  · by_cases e : k = a
    · simp [e]
    · simp only [if_neg e, get_del]
  · intro p hp
    have := (List.mem_filter.1 hp).2
    simpa using this
theorem del_none {α : Type} {a : Int} {M : List (Int × α)} (h : VMap.get a M = none) : VMap.del a M = M := by
  unfold VMap.del
  refine List.filter_eq_self.2 fun p hp => ?_
  unfold VMap.get at h
  rw [Option.map_eq_none_iff, List.find?_eq_none] at h
  simpa using h p hp

def bump (Q : Pgs) (k : Int) : Pgs := match VMap.get k Q with | some g => VMap.put k { g with holds := g.holds + 1 } Q | none => Q
def bumpAll (Q : Pgs) (ks : List Int) : Pgs := ks.foldl bump Q
theorem bumpAll_succ (Q : Pgs) (ks : List Int) (k : Nat) (h : k < ks.length) : bumpAll Q (ks.take (k + 1)) = bump (bumpAll Q (ks.take k)) ks[k] := by
  unfold bumpAll
  rw [List.take_succ_eq_append_getElem h, List.foldl_append]; rfl
theorem bump_some (Q : Pgs) (j k : Int) : (VMap.get k (bump Q j)).isSome = (VMap.get k Q).isSome := by
  unfold bump
  cases h : VMap.get j Q with
  | none => rfl
  | some g =>
    simp only [get_put]
    by_cases e : k = j
    · subst e; simp [h]
    · simp [e]
theorem bumpAll_some (ks : List Int) : ∀ (Q : Pgs) (k : Int), (VMap.get k (bumpAll Q ks)).isSome = (VMap.get k Q).isSome := by
  induction ks with
  | nil => intro Q k; rfl
  | cons x ks ih => intro Q k; show (VMap.get k (bumpAll (bump Q x) ks)).isSome = _; rw [ih, bump_some]
def HoldsTo (Q : Pgs) (B : Int) : Prop := ∀ k g, VMap.get k Q = some g → 0 ≤ g.holds ∧ g.holds ≤ B
theorem HoldsTo.bump {Q : Pgs} {B : Int} (h : HoldsTo Q B) (j : Int) : HoldsTo (bump Q j) (B + 1) := by
  intro k g hg
  unfold Go.Proofs.YtgbgneiciabidaaGreatDoor.bump at hg
  cases hj : VMap.get j Q with
  | none => rw [hj] at hg; have := h k g hg; omega
  | some g0 =>
    rw [hj] at hg
    simp only [get_put] at hg
    by_cases e : k = j
    · rw [if_pos e] at hg
      cases hg
      have := h j g0 hj
      simp only
      omega
    · rw [if_neg e] at hg
      have := h k g hg; omega
theorem HoldsTo.all (ks : List Int) : ∀ {Q : Pgs} {B : Int}, HoldsTo Q B → HoldsTo (bumpAll Q ks) (B + ks.length) := by
  induction ks with
  | nil => intro Q B h; simpa [bumpAll] using h
  | cons x ks ih =>
    intro Q B h
    have := ih (h.bump x)
    intro k g hg
    have := this k g hg
    simp only [List.length_cons]
    omega
theorem HoldsTo.put {Q : Pgs} {B : Int} (h : HoldsTo Q B) (hB : 0 ≤ B) (a : Int) (n : Nd) : HoldsTo (VMap.put a ⟨n, 0, 0⟩ Q) B := by
  intro k g hg
  rw [get_put] at hg
  by_cases e : k = a
  · rw [if_pos e] at hg; cases hg; exact ⟨Int.le_refl _, hB⟩
  · rw [if_neg e] at hg; exact h k g hg
end Go.Proofs.YtgbgneiciabidaaGreatDoor
