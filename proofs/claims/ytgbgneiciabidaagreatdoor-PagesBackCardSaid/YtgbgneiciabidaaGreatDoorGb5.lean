/-
  Spaces (layer 8), the third part: Take.
-/
import Derived.Test.YtgbgneiciabidaaGreatDoorGb4
namespace Go.Proofs.YtgbgneiciabidaaGreatDoor
open Go Go.RowKit
set_option linter.unusedVariables false
set_option linter.unusedSimpArgs false

/-- A code as an error. -/
def errV (c : Int) : Value := .iface 157 (.int .i64 c)

theorem shelves_focus : ∀ (bs : List Nat) (sh : List Shelf) (d b : Nat) (y : Shelf), bs[d]? = some b → sh[d]? = some y →
    ∃ rest, (shelvesL bs sh).Perm (shelfS b y :: rest) ∧ ∀ y', (shelvesL bs (sh.set d y')).Perm (shelfS b y' :: rest)
  | [], _, _, _, _, h, _ => by simp at h
  | _ :: _, [], _, _, _, _, h => by simp at h
  | b0 :: bs, y0 :: sh, 0, b, y, hb, hy => by
    simp at hb hy
    subst hb hy
    exact ⟨shelvesL bs sh, .refl _, fun y' => .refl _⟩
  | b0 :: bs, y0 :: sh, d + 1, b, y, hb, hy => by
    obtain ⟨rest, h1, h2⟩ := shelves_focus bs sh d b y (by simpa using hb) (by simpa using hy)
    refine ⟨shelfS b0 y0 :: rest, (h1.cons _).trans (.swap _ _ _), fun y' => ?_⟩
    exact ((h2 y').cons (shelfS b0 y0)).trans (.swap _ _ _)

/-- The first of the devices with most room. -/
def bestOf (f : Nat → Nat) : List Nat → Nat × Nat → Nat × Nat
  | [], r => r
  | d :: ds, r => bestOf f ds (if r.2 < f d then (d, f d) else r)
theorem bestOf_snoc (f : Nat → Nat) : ∀ (ds : List Nat) (d : Nat) (r : Nat × Nat), bestOf f (ds ++ [d]) r = if (bestOf f ds r).2 < f d then (d, f d) else bestOf f ds r
  | [], d, r => rfl
  | x :: ds, d, r => by simp only [List.cons_append, bestOf]; exact bestOf_snoc f ds d _
theorem bestOf_take (f : Nat → Nat) (ds : List Nat) (k d : Nat) (h : ds[k]? = some d) (r : Nat × Nat) : bestOf f (ds.take (k + 1)) r = if (bestOf f (ds.take k) r).2 < f d then (d, f d) else bestOf f (ds.take k) r := by
  rw [List.take_add_one, h]; exact bestOf_snoc f _ d r
/-- The first of those that have most. -/
def Best (f : Nat → Nat) (ds : List Nat) (b : Nat) : Prop := b ∈ ds ∧ 0 < f b ∧ (∀ d ∈ ds, f d ≤ f b)
theorem bestOf_spec (f : Nat → Nat) : ∀ (ds : List Nat), ((bestOf f ds (0, 0)).2 = 0 ∧ ∀ d ∈ ds, f d = 0) ∨ ((bestOf f ds (0, 0)).2 = f (bestOf f ds (0, 0)).1 ∧ Best f ds (bestOf f ds (0, 0)).1) := by
  intro ds
  have key : ∀ n, n ≤ ds.length → ((bestOf f (ds.take n) (0, 0)).2 = 0 ∧ ∀ d ∈ ds.take n, f d = 0) ∨ ((bestOf f (ds.take n) (0, 0)).2 = f (bestOf f (ds.take n) (0, 0)).1 ∧ Best f (ds.take n) (bestOf f (ds.take n) (0, 0)).1) := by
    intro n
    induction n with
    | zero => intro _; exact .inl ⟨rfl, by simp⟩
    | succ n ih =>
      intro hn
      obtain ⟨d, hd⟩ : ∃ d, ds[n]? = some d := ⟨_, List.getElem?_eq_getElem (by omega)⟩
      have ih := ih (by omega)
      rw [bestOf_take f ds n d hd]
      have hmem : ∀ x, x ∈ ds.take (n + 1) ↔ x ∈ ds.take n ∨ x = d := fun x => by rw [List.take_add_one, hd]; simp
      rcases ih with ⟨h0, hall⟩ | ⟨h1, hb⟩
      · by_cases hlt : 0 < f d
        · rw [h0, if_pos hlt]
          refine .inr ⟨rfl, (hmem d).2 (.inr rfl), hlt, fun x hx => ?_⟩
          rcases (hmem x).1 hx with h | rfl
          · rw [hall x h]; omega
          · exact Nat.le_refl _
        · rw [h0, if_neg hlt]
          refine .inl ⟨h0, fun x hx => ?_⟩
          rcases (hmem x).1 hx with h | rfl
          · exact hall x h
          · omega
      · rw [h1]
        by_cases hlt : f (bestOf f (ds.take n) (0, 0)).1 < f d
        · rw [if_pos hlt]
          refine .inr ⟨rfl, (hmem d).2 (.inr rfl), (by show 0 < f d; omega), fun x hx => ?_⟩
          rcases (hmem x).1 hx with h | rfl
          · have := hb.2.2 x h; simp only; omega
          · exact Nat.le_refl _
        · rw [if_neg hlt]
          refine .inr ⟨h1, (hmem _).2 (.inl hb.1), hb.2.1, fun x hx => ?_⟩
          rcases (hmem x).1 hx with h | rfl
          · exact hb.2.2 x h
          · omega
  have := key ds.length (Nat.le_refl _)
  rw [List.take_length] at this
  exact this

def Shelf.took (y : Shelf) (k : Nat) : Shelf := { y with taken := fun j => j == k || y.taken j, fresh := fun j => j == k || y.fresh j }
def Spc.put (X : Spc) (d : Nat) (y : Shelf) : Spc := { X with sh := X.sh.set d y }
/-- The sector that Take takes: of the first device with most room the least one that is free. -/
structure Takes (X : Spc) (d k : Nat) (y : Shelf) : Prop where
  best : Best X.free (actives X.es) d
  first : d = (bestOf X.free (actives X.es) (0, 0)).1
  shelf : X.sh[d]? = some y
  lo : 2 ≤ k
  hi : k < y.n
  free : y.busy k = false
  least : ∀ j, 2 ≤ j → j < k → y.busy j = true
def TakePost (s : Nat) (X : Spc) (l : List Say) (w : World) (r : Ending) (w' : World) : Prop :=
  ((∀ d ∈ actives X.es, X.free d = 0) ∧ r = .returned (.tuple #[.int .i64 0, errV 50]) ∧ Kept w w' ∧ Has w' (spaceS s X :: l)) ∨
  ∃ d k y, Takes X d k y ∧ r = .returned (.tuple #[.int .i64 ((d * 4096 + k : Nat) : Int), .nilIface]) ∧ Kept w w' ∧ Has w' (spaceS s (X.put d (y.took k)) :: l)

theorem ShelfOk.took {y : Shelf} (h : ShelfOk y) {k : Nat} (h2 : 2 ≤ k) (hg : y.given k = false) : ShelfOk (y.took k) := by
  refine ⟨fun j hj => ?_, h.g2, fun j hj => ?_⟩
  · simp only [Shelf.took, Bool.or_eq_true, beq_iff_eq] at hj
    rcases hj with rfl | hj
    · exact h2
    · exact h.t2 j hj
  · simp only [Shelf.took, Bool.or_eq_true, beq_iff_eq] at hj ⊢
    rcases hj with rfl | hj
    · exact hg
    · exact h.ne j hj
theorem SpcOk.put {X : Spc} {bs : List Nat} (ok : SpcOk X bs) {d : Nat} {y y' : Shelf} (hy : X.sh[d]? = some y) (hn : y'.n = y.n) (h : ShelfOk y') : SpcOk (X.put d y') bs := by
  refine ⟨ok.ents, ok.ne, by simpa [Spc.put] using ok.bs, by simpa [Spc.put] using ok.sh, fun i z e hz he => ?_, fun i z hz => ?_⟩
  · by_cases hid : i = d
    · subst hid
      have hlt := (List.getElem?_eq_some_iff.1 hy).1
      simp only [Spc.put, List.getElem?_set_self hlt, Option.some.injEq] at hz
      subst hz
      rw [hn]; exact ok.size i y e hy he
    · simp only [Spc.put, List.getElem?_set_ne (Ne.symm hid)] at hz
      exact ok.size i z e hz he
  · by_cases hid : i = d
    · subst hid
      have hlt := (List.getElem?_eq_some_iff.1 hy).1
      simp only [Spc.put, List.getElem?_set_self hlt, Option.some.injEq] at hz
      subst hz
      exact h
    · simp only [Spc.put, List.getElem?_set_ne (Ne.symm hid)] at hz
      exact ok.ok i z hz

def BestRel (X : Spc) (W : World) (gk : Nat) (b m i : Value) (wr : World) : Prop :=
  ∃ k : Nat, k ≤ (actives X.es).length ∧ gk = (actives X.es).length - k ∧ i = .int .i64 k ∧ b = .int .i64 ((bestOf X.free ((actives X.es).take k) (0, 0)).1 : Nat) ∧ m = .int .i64 ((bestOf X.free ((actives X.es).take k) (0, 0)).2 : Nat) ∧ ∃ q, wr = W.drewN q
/-- The loop that goes by what was given back. -/
def SeekRel (y : Shelf) (W : World) (gk : Nat) (kv : Value) (wr : World) : Prop :=
  ∃ k : Nat, kv = .int .i64 k ∧ gk = y.n - k ∧ 2 ≤ k ∧ k < y.n ∧ y.taken k = false ∧ (∀ j, 2 ≤ j → j < k → y.busy j = true) ∧ wr = W

theorem bestOf_mem (f : Nat → Nat) (ds : List Nat) : (bestOf f ds (0, 0)).1 = 0 ∧ (bestOf f ds (0, 0)).2 = 0 ∨ ((bestOf f ds (0, 0)).1 ∈ ds ∧ (bestOf f ds (0, 0)).2 = f (bestOf f ds (0, 0)).1) := by
  have key : ∀ (ds : List Nat) (r : Nat × Nat), (bestOf f ds r) = r ∨ ((bestOf f ds r).1 ∈ ds ∧ (bestOf f ds r).2 = f (bestOf f ds r).1) := by
    intro ds
    induction ds with
    | nil => intro r; exact .inl rfl
    | cons d ds ih =>
      intro r
      simp only [bestOf]
      rcases ih (if r.2 < f d then (d, f d) else r) with h | ⟨h1, h2⟩
      · by_cases hlt : r.2 < f d
        · rw [if_pos hlt] at h ⊢
          rw [h]; exact .inr ⟨.head _, rfl⟩
        · rw [if_neg hlt] at h ⊢
          exact .inl h
      · exact .inr ⟨.tail _ h1, h2⟩
  rcases key ds (0, 0) with h | h
  · rw [h]; exact .inl ⟨rfl, rfl⟩
  · exact .inr h
end Go.Proofs.YtgbgneiciabidaaGreatDoor
/-
  Spaces (layer 8), the fourth part: the walk of Take.
-/
namespace Go.Proofs.YtgbgneiciabidaaGreatDoor
open Go Go.RowKit
set_option linter.unusedVariables false
set_option linter.unusedSimpArgs false

theorem Found.hit {n f k : Nat} {ok : Bool} {T : Nat → Bool} (h : Found n f T k ok) {g : Nat} (h1 : f ≤ g) (h2 : g < n) (h3 : T g = true) : ok = true ∧ f ≤ k ∧ k ≤ g ∧ k < n ∧ T k = true ∧ ∀ j, f ≤ j → j < k → T j = false := by
  unfold Found at h
  cases ok with
  | false =>
    simp only [Bool.false_eq_true, if_false] at h
    have := h.2 g h1 h2
    rw [h3] at this; cases this
  | true =>
    simp only [if_true] at h
    obtain ⟨a, b, c, d⟩ := h
    refine ⟨rfl, a, ?_, b, c, d⟩
    apply Nat.le_of_not_lt
    intro hlt
    have := d g h1 hlt
    rw [h3] at this; cases this

/-- The world behind the choice of a device: the chosen shelf laid open. -/
def tookParts (s : Nat) (X : Spc) (x : SpAt) (b : Nat) (y : Shelf) (z : Nat × Nat × Nat) (rest l : List Say) : List Say := shelfParts b y z ++ (spHead s X.es x ++ rest ++ l)

set_option maxHeartbeats 1000000 in
set_option maxRecDepth 100000 in
theorem sp_Take {w : World} {l : List Say} {s : Nat} {X : Spc} (h : Has w (spaceS s X :: l)) (ht : Tab l) :
    Calls Tryz.prog 77 #[.pointer (some ⟨s, 0, none⟩)] w (TakePost s X l w) := by
  obtain ⟨x, ok, hh⟩ := h.sp_open
  obtain ⟨a, c, sa, sc, R⟩ := hh.sp_read (fun A hA => List.mem_append_left _ hA) ok
  have HA := Lib.hid (ros_Actives hh (v := x.lv) (es := X.es) (by simp [spFlat, spHead]) ok.ents)
  rw [R.lv] at HA
  have s0 := R.s0
  have t0 := R.t0
  have hal := idxTo_len (fun e => e.st == 1) X.es X.es.length
  have hes := ok.ents.len
  have Ok := Lib.hid ok
  have Ht := Lib.hid ht
  clear R hh h ok ht
  go_enter Tryz.func77, Tryz.ntmps77
  go_wp2_with fail
  refine HA.out.mono ?_
  rintro r w1 ⟨o, rfl, hK, h1⟩
  obtain ⟨_, oa, oc, rfl, _, _, hor⟩ := h1.row_read (v := o) (e := 3) (.head _)
  have HK := Lib.hid hK
  have H1 := Lib.hid h1
  have Hor := Lib.hid hor
  have hact : (actives X.es).length ≤ 8 := by
    have : actives X.es = idxTo (fun e => e.st == 1) X.es X.es.length := rfl
    rw [this]; omega
  clear hK h1 hor s0 t0 hal
  go_wp2
  go_loopg [4, 5, 21] (actives X.es).length (fun gk b m i wr => BestRel X w1 gk b m i wr)
  case atStart => exact ⟨0, Nat.zero_le _, rfl, rfl, rfl, rfl, 0, rfl⟩
  case round =>
    obtain ⟨k, hk, rfl, rfl, rfl, rfl, m, rfl⟩ := hrel
    by_cases hlt : k < (actives X.es).length
    · obtain ⟨d, hd⟩ : ∃ d, (actives X.es)[k]? = some d := ⟨_, List.getElem?_eq_getElem hlt⟩
      obtain ⟨g, rfl, hg, _⟩ := Hor.out k (natVal d) (by simp [hd])
      obtain ⟨e, y, he, hy, _, _, hu, hez⟩ := Ok.out.active (List.mem_of_getElem? hd)
      have HF := Lib.hid (sp_free (w := w1.drewN m) (H1.out.drewN m) (s := s) (x := x) (fun A hA => .tail _ (List.mem_append_left _ hA)) Ok.out d e y he hy hu)
      have hstep := bestOf_take X.free (actives X.es) k d hd (0, 0)
      generalize X.free d = fd at *
      generalize bestOf X.free ((actives X.es).take k) (0, 0) = bm at *
      obtain ⟨b0, m0⟩ := bm
      simp only at hstep
      unfold natVal at hg
      clear he hy hd
      by_cases hmore : m0 < fd
      · rw [if_pos hmore] at hstep
        have Hstep := Lib.hid hstep
        clear hstep
        go_wp2_with fail
        refine HF.out.mono ?_
        rintro r w2 ⟨rfl, m2, rfl⟩
        go_wp2
        go_roundg ((actives X.es).length - (k + 1))
        case measure => omega
        case rel => exact ⟨k + 1, by omega, rfl, by go_num, by rw [Hstep.out], by rw [Hstep.out], m + m2, by simp⟩
      · rw [if_neg hmore] at hstep
        have Hstep := Lib.hid hstep
        clear hstep
        go_wp2_with fail
        refine HF.out.mono ?_
        rintro r w2 ⟨rfl, m2, rfl⟩
        go_wp2
        go_roundg ((actives X.es).length - (k + 1))
        case measure => omega
        case rel => exact ⟨k + 1, by omega, rfl, by go_num, by rw [Hstep.out], by rw [Hstep.out], m + m2, by simp⟩
    · obtain rfl : k = (actives X.es).length := by omega
      rw [List.take_length]
      have H2 := Lib.hid (H1.out.tail.drewN m)
      have HK2 := Lib.hid (HK.out.drewN m)
      generalize w1.drewN m = W at *
      clear H1 HK Hor HA
      have hspec := bestOf_spec X.free (actives X.es)
      by_cases h0 : (bestOf X.free (actives X.es) (0, 0)).2 = 0
      · have hall : ∀ d ∈ actives X.es, X.free d = 0 := by
          rcases hspec with ⟨_, h⟩ | ⟨h, hb⟩
          · exact h
          · have := hb.2.1; omega
        have Hall := Lib.hid hall
        generalize bestOf X.free (actives X.es) (0, 0) = bm at *
        obtain ⟨b0, m0⟩ := bm
        simp only at h0
        subst h0
        clear hspec hall
        go_wp2
        go_ret2
        exact .inl ⟨Hall.out, rfl, HK2.out, Has.sp_shut Ok.out H2.out⟩
      · have hspec : (bestOf X.free (actives X.es) (0, 0)).2 = X.free (bestOf X.free (actives X.es) (0, 0)).1 ∧ Best X.free (actives X.es) (bestOf X.free (actives X.es) (0, 0)).1 := by
          rcases hspec with ⟨h, _⟩ | h
          · exact absurd h h0
          · exact h
        obtain ⟨hm, hbest⟩ := hspec
        generalize hbm : bestOf X.free (actives X.es) (0, 0) = bm at *
        obtain ⟨d, m0⟩ := bm
        simp only at h0 hm hbest
        have hm0 : ((m0 : Int) == 0) = false := by simp; omega
        obtain ⟨e, y, he, hy, hst, hne, hu, hez⟩ := Ok.out.active hbest.1
        have hfd : X.free d = e.size - 2 - y.used := by simp [Spc.free, he, hy]
        have hyok := Ok.out.ok d y hy
        obtain ⟨f, f2, fn, fb⟩ := hyok.some_free (by rw [hne]; omega)
        obtain ⟨a', c', sa', sc', R⟩ := H2.out.sp_read (fun A hA => List.mem_append_left _ hA) Ok.out
        obtain ⟨q, b, rfl, p0, _, hb⟩ := R.shelf d y hy
        obtain ⟨rest, hp1, hp2⟩ := shelves_focus x.bs X.sh d b y hb hy
        have s0 := R.s0
        have t1 := R.t1
        have hperm : (spFlat s X x ++ l).Perm (shelfS b y :: (spHead s X.es x ++ rest ++ l)) := by
          have h1 : (spFlat s X x).Perm (shelfS b y :: (spHead s X.es x ++ rest)) := (hp1.append_left _).trans List.perm_middle
          exact h1.append_right l
        have h3 := H2.out.perm hperm
        obtain ⟨⟨tx, fx, gx⟩, h3⟩ := h3.shelf_open
        have hgb := h3.got (b := b)
        have b0 : W.cell? ⟨b, 0, none⟩ = some (.pointer (some ⟨tx, 0, none⟩)) := cell_of hgb 0 rfl
        have b1 : W.cell? ⟨b, 1, none⟩ = some (.pointer (some ⟨fx, 0, none⟩)) := cell_of hgb 1 rfl
        have b2 : W.cell? ⟨b, 2, none⟩ = some (.pointer (some ⟨gx, 0, none⟩)) := cell_of hgb 2 rfl
        have hd8 := (List.getElem?_eq_some_iff.1 he).1
        have hd9 := (List.getElem?_eq_some_iff.1 hy).1
        have htab : Tab (shelfParts b y (tx, fx, gx) ++ (spHead s X.es x ++ rest ++ l)) := (Ht.out.app _).app _
        have HFree := Lib.hid (fun (k : Nat) (hk : k ≤ 4096) => bm_Free h3 (b := tx) (n := y.n) (S := y.taken) (by simp [shelfParts]) htab k hk)
        have HHas := Lib.hid (fun (k : Nat) => bm_Has h3 (b := gx) (n := y.n) (S := y.given) (by simp [shelfParts]) k)
        have H3 := Lib.hid h3
        have Fb := Lib.hid fb
        have Best' := Lib.hid hbest
        have Hbm := Lib.hid hbm
        have Hy := Lib.hid hy
        have Hp2 := Lib.hid hp2
        have Hyok := Lib.hid hyok
        have hyn : y.n ≤ 4096 := by omega
        clear hperm h3 hgb htab R hp1 hp2 hm hfd fb he hy hbest hbm H2 hyok hb
        go_wp2_with fail
        refine (HFree.out 2 (by omega)).mono ?_
        rintro r w' ⟨k0, okk, hfound, rfl, rfl⟩
        have hfree : (!y.taken f) = true := by
          have := Fb.out; simp only [Shelf.busy, Bool.or_eq_false_iff] at this; simp [this.1]
        obtain ⟨rfl, k1, k2, k3, k4, k5⟩ := hfound.hit f2 fn hfree
        have K4 : Hid (y.taken k0 = false) := by simpa [Hid] using k4
        have K5 : Hid (∀ j, 2 ≤ j → j < k0 → y.busy j = true) := fun j j2 jk => by
          have := k5 j j2 jk
          simp only [Bool.not_eq_false'] at this
          simp [Shelf.busy, this]
        clear hfound k4 k5 hfree
        go_wp2
        go_loopg [10] (y.n - k0) (fun gk kv wr => SeekRel y W gk kv wr)
        case atStart => exact ⟨k0, rfl, rfl, k1, k3, K4.out, K5.out, rfl⟩
        case round =>
          obtain ⟨k, rfl, rfl, g2, gn, gt, gb, rfl⟩ := hrel
          clear K4 K5 k1 k2 k3
          have hkf : k ≤ f := by
            apply Nat.le_of_not_lt
            intro hlt
            have := gb f f2 hlt
            rw [Fb.out] at this; cases this
          have Gb := Lib.hid gb
          have Gt := Lib.hid gt
          have HH2 := HHas.out k
          clear gb gt
          by_cases hgk : y.given k = true
          · rw [hgk] at HH2
            have HH3 := Lib.hid HH2
            have hne : k ≠ f := by
              rintro rfl
              have := Fb.out
              simp [Shelf.busy, hgk] at this
            have HF2 := HFree.out (k + 1) (by omega)
            rw [show ((k + 1 : Nat) : Int) = (k : Int) + 1 from by omega] at HF2
            have HF3 := Lib.hid HF2
            have Hgk := Lib.hid hgk
            clear HH2 HF2 hgk
            go_wp2_with fail
            refine HH3.out.mono ?_
            rintro r w' ⟨rfl, rfl⟩
            go_wp2_with fail
            refine HF3.out.mono ?_
            rintro r w' ⟨kn, okk, hfound, rfl, rfl⟩
            have hfree : (!y.taken f) = true := by
              have := Fb.out; simp only [Shelf.busy, Bool.or_eq_false_iff] at this; simp [this.1]
            obtain ⟨rfl, k1, k2, k3, k4, k5⟩ := hfound.hit (g := f) (by omega) fn hfree
            have K4 : Hid (y.taken kn = false) := by simpa [Hid] using k4
            have K5 : Hid (∀ j, 2 ≤ j → j < kn → y.busy j = true) := fun j j2 jk => by
              rcases Nat.lt_trichotomy j k with h | h | h
              · exact Gb.out j j2 h
              · subst h; simp [Shelf.busy, Hgk.out]
              · have := k5 j h jk
                simp only [Bool.not_eq_false'] at this
                simp [Shelf.busy, this]
            clear hfound k4 k5 hfree
            go_wp2
            go_roundg (y.n - kn)
            case measure => omega
            case rel => exact ⟨kn, rfl, rfl, by omega, k3, K4.out, K5.out, rfl⟩
          · have hgk : y.given k = false := by simpa using hgk
            rw [hgk] at HH2
            have HH3 := Lib.hid HH2
            have Hgk := Lib.hid hgk
            have hset1 := (H3.out.pull 1).alloc_off (.cells #[.int .i64 (k : Int)] 3)
            have HS1 := Lib.hid (bm_Set1 hset1 wr.heap.size 1 k (by simp) gn)
            clear HH2 hgk hset1
            go_wp2_with fail
            refine HH3.out.mono ?_
            rintro r w' ⟨rfl, rfl⟩
            go_wp2_with fail
            refine HS1.out.mono ?_
            rintro r V1 ⟨rfl, hk1, hv1⟩
            have hv1' : Has V1 (shelfParts b { y with taken := fun j => j == k || y.taken j } (tx, fx, gx) ++ (spHead s X.es x ++ rest ++ l)) := hv1.push 1
            have hgb := hv1'.got (b := b)
            have b1' : V1.cell? ⟨b, 1, none⟩ = some (.pointer (some ⟨fx, 0, none⟩)) := cell_of hgb 1 rfl
            have hset2 := (hv1'.pull 2).alloc_off (.cells #[.int .i64 (k : Int)] 3)
            have HS2 := Lib.hid (bm_Set1 hset2 V1.heap.size 1 k (by simp) gn)
            have HK3 : Hid (Kept w V1) := (HK2.out.alloc _).trans hk1
            have HAd := Lib.hid (fun (W' : World) => space_Addr (w := W') d k (by omega) (by omega))
            clear hv1 hv1' hgb hset2 hk1 b0 b1 b2 s0 t1 p0
            go_wp2_with fail
            refine HS2.out.mono ?_
            rintro r V2 ⟨rfl, hk2, hv2⟩
            have HV2 : Hid (Has V2 (shelfParts b (y.took k) (tx, fx, gx) ++ (spHead s X.es x ++ rest ++ l))) := hv2.push 2
            have HK4 : Hid (Kept w V2) := (HK3.out.alloc _).trans hk2
            clear hv2 hk2
            go_wp2_with fail
            refine (HAd.out V2).mono ?_
            rintro r w' ⟨rfl, rfl⟩
            go_wp2
            go_ret2
            refine .inr ⟨d, k, y, ⟨Best'.out, by rw [Hbm.out], Hy.out, g2, gn, by simp [Shelf.busy, Gt.out, Hgk.out], Gb.out⟩, rfl, HK4.out, ?_⟩
            refine Has.sp_shut (x := x) (Ok.out.put (y' := y.took k) Hy.out rfl (Hyok.out.took g2 Hgk.out)) ?_
            have h5 : Has V2 (shelfS b (y.took k) :: (spHead s X.es x ++ rest ++ l)) := Has.shelf_shut HV2.out
            refine h5.perm ?_
            have h6 : (spFlat s (X.put d (y.took k)) x).Perm (shelfS b (y.took k) :: (spHead s X.es x ++ rest)) := ((Hp2.out (y.took k)).append_left _).trans List.perm_middle
            exact (h6.append_right l).symm
end Go.Proofs.YtgbgneiciabidaaGreatDoor
/-
  Spaces (layer 8), the seventh part: Give.
-/
namespace Go.Proofs.YtgbgneiciabidaaGreatDoor
open Go Go.RowKit
set_option linter.all false

/-- A shelf whose sector k was given back. -/
def Shelf.gave (y : Shelf) (k : Nat) : Shelf :=
  { y with taken := fun j => !(j == k) && y.taken j, fresh := if y.fresh k = true then (fun j => !(j == k) && y.fresh j) else y.fresh, given := if y.fresh k = true then y.given else fun j => j == k || y.given j }
theorem ShelfOk.gave {y : Shelf} (h : ShelfOk y) {k : Nat} (h2 : 2 ≤ k) : ShelfOk (y.gave k) := by
  refine ⟨fun j hj => ?_, fun j hj => ?_, fun j hj => ?_⟩
  · simp only [Shelf.gave, Bool.and_eq_true] at hj
    exact h.t2 j hj.2
  · simp only [Shelf.gave] at hj
    split at hj
    · exact h.g2 j hj
    · simp only [Bool.or_eq_true, beq_iff_eq] at hj
      rcases hj with rfl | hj
      · exact h2
      · exact h.g2 j hj
  · simp only [Shelf.gave, Bool.and_eq_true, Bool.not_eq_true'] at hj ⊢
    obtain ⟨h1, h3⟩ := hj
    split
    · exact h.ne j h3
    · show (j == k || y.given j) = false
      rw [h1, Bool.false_or]; exact h.ne j h3

theorem sp_elder {w : World} {s st a : Nat} (h0 : w.cell? ⟨s, 1, none⟩ = some (.pointer none)) (ha : a < 32768) : Calls Tryz.prog 145 #[.pointer (some ⟨s, 0, none⟩), .int .i64 (a : Int)] w fun r w' => r = .returned (.bool false) ∧ w = w' := by
  have HAt := Lib.hid (space_At (w := w) a ha)
  have lt := World.block_lt_of_cell? _ _ h0
  go_enter Tryz.func145, Tryz.ntmps145
  go_wp2_with fail
  refine HAt.out.mono ?_
  rintro r w1 ⟨rfl, rfl⟩
  go_wp2
  go_ret
  exact ⟨rfl, rfl⟩

def GivePost (s : Nat) (X : Spc) (l : List Say) (w : World) (r : Ending) (w' : World) : Prop := r = .returned .nilIface ∧ Kept w w' ∧ Has w' (spaceS s X :: l)
set_option maxHeartbeats 1000000 in
set_option maxRecDepth 100000 in
theorem sp_Give {w : World} {l : List Say} {s : Nat} {X : Spc} (h : Has w (spaceS s X :: l)) (d k : Nat) (e : Ent) (y : Shelf) (r : InRoom X d k e y) (hk : y.taken k = true) (hd : d < 8) (hk4 : k < 4096) :
    Calls Tryz.prog 79 #[.pointer (some ⟨s, 0, none⟩), .int .i64 ((d * 4096 + k : Nat) : Int)] w (GivePost s (X.put d (y.gave k)) l w) := by
  obtain ⟨x, ok, hh⟩ := h.sp_open
  have hy := r.shelf
  obtain ⟨a, c, sa, sc, R⟩ := hh.sp_read (fun A hA => List.mem_append_left _ hA) ok
  obtain ⟨q, b, _, _, hmem, hb⟩ := R.shelf d y hy
  have HF := Lib.hid (sp_find hh (fun A hA => List.mem_append_left _ hA) ok d k e y r b hb)
  obtain ⟨rest, hp1, hp2⟩ := shelves_focus x.bs X.sh d b y hb hy
  have hperm : (spFlat s X x ++ l).Perm (shelfS b y :: (spHead s X.es x ++ rest ++ l)) := by
    have h1 : (spFlat s X x).Perm (shelfS b y :: (spHead s X.es x ++ rest)) := (hp1.append_left _).trans List.perm_middle
    exact h1.append_right l
  have h3 := hh.perm hperm
  have hsz := ok.size d y e hy r.ent
  have Hyok := Lib.hid (ok.ok d y hy)
  have Hy := Lib.hid hy
  have Hp2 := Lib.hid hp2
  have Ok := Lib.hid ok
  have gn : k < y.n := by rw [hsz]; exact r.hi
  have g2 := r.lo
  have H3 := Lib.hid h3
  have Hk := Lib.hid hk
  clear R hh h ok hmem hb hy r h3 hperm hp1 hp2 hsz hk
  go_enter Tryz.func79, Tryz.ntmps79
  go_wp2_with fail
  refine HF.out.mono ?_
  rintro r W ⟨rfl, hbW⟩
  obtain ⟨⟨tx, fx, gx⟩, h4⟩ := (H3.out.below hbW).shelf_open
  have HKW := Lib.hid (Kept.below hbW)
  have hgb := h4.got (b := b)
  have b0 : W.cell? ⟨b, 0, none⟩ = some (.pointer (some ⟨tx, 0, none⟩)) := cell_of hgb 0 rfl
  have b1 : W.cell? ⟨b, 1, none⟩ = some (.pointer (some ⟨fx, 0, none⟩)) := cell_of hgb 1 rfl
  have lb := World.block_lt_of_cell? _ _ b0
  have hT := bm_Has h4 (b := tx) (n := y.n) (S := y.taken) (by simp [shelfParts]) k
  rw [Hk.out] at hT
  have HT := Lib.hid hT
  have hset := (h4.pull 1).alloc_off (.cells #[.int .i64 (k : Int)] 3)
  have HC := Lib.hid (bm_Clear1 hset W.heap.size 1 k (by simp) gn)
  clear h4 hbW hgb H3 HF hT hset
  go_wp2_with fail
  refine HT.out.mono ?_
  rintro r W' ⟨rfl, rfl⟩
  go_wp2_with fail
  refine HC.out.mono ?_
  rintro r V1 ⟨rfl, hk1, hv1⟩
  have h5 : Has V1 (shelfParts b { y with taken := fun j => !(j == k) && y.taken j } (tx, fx, gx) ++ (spHead s X.es x ++ rest ++ l)) := hv1.push 1
  have hgb := h5.got (b := b)
  have b1 : V1.cell? ⟨b, 1, none⟩ = some (.pointer (some ⟨fx, 0, none⟩)) := cell_of hgb 1 rfl
  have b2 : V1.cell? ⟨b, 2, none⟩ = some (.pointer (some ⟨gx, 0, none⟩)) := cell_of hgb 2 rfl
  have lb := World.block_lt_of_cell? _ _ b1
  have hs := h5.at (b := s) (o := .cells #[.pointer (some ⟨x.st, 0, none⟩), .pointer none] 160 (0, 0)) (by simp [spHead])
  have s1 : V1.cell? ⟨s, 1, none⟩ = some (.pointer none) := cell_of hs 1 rfl
  have HE := Lib.hid (sp_elder (st := 0) s1 (show d * 4096 + k < 32768 by omega))
  have hFr := bm_Has h5 (b := fx) (n := y.n) (S := y.fresh) (by simp [shelfParts]) k
  have hc2 := (h5.pull 2).alloc_off (.cells #[.int .i64 (k : Int)] 3)
  have HC2 := Lib.hid (bm_Clear1 hc2 V1.heap.size 1 k (by simp) gn)
  have hc3 := (h5.pull 3).alloc_off (.cells #[.int .i64 (k : Int)] 3)
  have HS3 := Lib.hid (bm_Set1 hc3 V1.heap.size 1 k (by simp) gn)
  have HK1 : Hid (Kept w V1) := (HKW.out.alloc _).trans hk1
  clear hv1 h5 hgb hs hc2 hc3 hk1 HC HT HKW b0
  cases hf : y.fresh k with
  | true =>
    rw [hf] at hFr
    have HFr := Lib.hid hFr
    have Hf := Lib.hid hf
    clear hFr hf
    go_wp2_with fail
    refine HFr.out.mono ?_
    rintro r W' ⟨rfl, rfl⟩
    go_wp2_with fail
    refine HE.out.mono ?_
    rintro r W' ⟨rfl, rfl⟩
    go_wp2_with fail
    refine HC2.out.mono ?_
    rintro r V2 ⟨rfl, hk2, hv2⟩
    have HF : Hid (GivePost s (X.put d (y.gave k)) l w (.returned .nilIface) V2) := by
      refine ⟨rfl, (HK1.out.alloc _).trans hk2, Has.sp_shut (x := x) (Ok.out.put (y' := y.gave k) Hy.out rfl (Hyok.out.gave g2)) ?_⟩
      have e1 : y.gave k = { y with taken := fun j => !(j == k) && y.taken j, fresh := fun j => !(j == k) && y.fresh j } := by simp [Shelf.gave, Hf.out]
      have h6 : Has V2 (shelfS b (y.gave k) :: (spHead s X.es x ++ rest ++ l)) := Has.shelf_shut (x := (tx, fx, gx)) (by rw [e1]; exact hv2.push 2)
      refine h6.perm ?_
      have h7 : (spFlat s (X.put d (y.gave k)) x).Perm (shelfS b (y.gave k) :: (spHead s X.es x ++ rest)) := ((Hp2.out (y.gave k)).append_left _).trans List.perm_middle
      exact (h7.append_right l).symm
    clear hk2 hv2 HC2 HS3 HE HFr
    go_wp2
    go_ret
    exact HF.out
  | false =>
    rw [hf] at hFr
    have HFr := Lib.hid hFr
    have Hf := Lib.hid hf
    clear hFr hf
    go_wp2_with fail
    refine HFr.out.mono ?_
    rintro r W' ⟨rfl, rfl⟩
    go_wp2_with fail
    refine HS3.out.mono ?_
    rintro r V2 ⟨rfl, hk2, hv2⟩
    have HF : Hid (GivePost s (X.put d (y.gave k)) l w (.returned .nilIface) V2) := by
      refine ⟨rfl, (HK1.out.alloc _).trans hk2, Has.sp_shut (x := x) (Ok.out.put (y' := y.gave k) Hy.out rfl (Hyok.out.gave g2)) ?_⟩
      have e1 : y.gave k = { y with taken := fun j => !(j == k) && y.taken j, given := fun j => j == k || y.given j } := by simp [Shelf.gave, Hf.out]
      have h6 : Has V2 (shelfS b (y.gave k) :: (spHead s X.es x ++ rest ++ l)) := Has.shelf_shut (x := (tx, fx, gx)) (by rw [e1]; exact hv2.push 3)
      refine h6.perm ?_
      have h7 : (spFlat s (X.put d (y.gave k)) x).Perm (shelfS b (y.gave k) :: (spHead s X.es x ++ rest)) := ((Hp2.out (y.gave k)).append_left _).trans List.perm_middle
      exact (h7.append_right l).symm
    clear hk2 hv2 HC2 HS3 HE HFr
    go_wp2
    go_ret
    exact HF.out
end Go.Proofs.YtgbgneiciabidaaGreatDoor
