/-
  Spaces (layer 8), the second part: find, Taken, Give, Free.
-/
import Derived.Test.YtgbgneiciabidaaGreatDoorSpace
namespace Go.Proofs.YtgbgneiciabidaaGreatDoor
open Go Go.RowKit
set_option linter.unusedVariables false
set_option linter.unusedSimpArgs false

/-- An address in the room: device d, sector k. -/
structure InRoom (X : Spc) (d k : Nat) (e : Ent) (y : Shelf) : Prop where
  ent : X.es[d]? = some e
  shelf : X.sh[d]? = some y
  st : e.st ≠ 3
  lo : 2 ≤ k
  hi : k < e.size

def FindPost2 (w : World) (b k : Nat) (r : Ending) (w' : World) : Prop := r = .returned (.tuple #[.pointer (some ⟨b, 0, none⟩), .int .i64 (k : Int)]) ∧ Below w.heap.size w w'

set_option maxRecDepth 100000 in
theorem sp_find {w : World} {l : List Say} {s : Nat} {X : Spc} {x : SpAt} (h : Has w l) (hs : ∀ A ∈ spFlat s X x, A ∈ l) (ok : SpcOk X x.bs) (d k : Nat) (e : Ent) (y : Shelf) (r : InRoom X d k e y) (b : Nat) (hb : x.bs[d]? = some b) :
    Calls Tryz.prog 96 #[.pointer (some ⟨s, 0, none⟩), .int .i64 ((d * 4096 + k : Nat) : Int)] w (FindPost2 w b k) := by
  obtain ⟨he, hy, hst, hlo, hhi⟩ := r
  obtain ⟨a, c, sa, sc, R⟩ := h.sp_read hs ok
  obtain ⟨g, rfl, e0, e1⟩ := R.ent d e he
  obtain ⟨q, b', rfl, p0, hmem, hb'⟩ := R.shelf d y hy
  obtain rfl : b' = b := by rw [hb] at hb'; exact (Option.some.inj hb').symm
  have hd := (List.getElem?_eq_some_iff.1 he).1
  have hd2 := (List.getElem?_eq_some_iff.1 hy).1
  have hlen := ok.ents.len
  have hesz := (ok.ents.ok e (List.mem_of_getElem? he)).1
  have HA := Lib.hid (space_At (w := w) (d * 4096 + k) (by omega))
  rw [show (d * 4096 + k) / 4096 = d by omega, show (d * 4096 + k) % 4096 = k by omega] at HA
  have hm := space_member (w := w) e
  have hst' : (!(e.st == 3)) = true := by simp [hst]
  rw [hst'] at hm
  simp only [Ent.val] at hm
  have HM := Lib.hid hm
  have s0 := R.s0
  have t0 := R.t0
  have t1 := R.t1
  have gl : ∀ {p : Addr} {v : Value}, w.cell? p = some v → p.block < w.heap.size := fun h => World.block_lt_of_cell? _ _ h
  have l1 := gl s0
  have l2 := gl t0
  have l3 := gl e0
  have l4 := gl p0
  clear gl R hmem he hy h hs hm hst' hst hb hb'
  go_enter Tryz.func96, Tryz.ntmps96
  go_wp2_with fail
  refine HA.out.mono ?_
  rintro r w' ⟨rfl, rfl⟩
  go_wp2_with fail
  refine HM.out.mono ?_
  rintro r w1 ⟨rfl, hb1⟩
  obtain ⟨hc, hf⟩ := bcell hb1
  have s0' := (hc s 0 l1).trans s0
  have t0' := (hc x.st 0 l2).trans t0
  have t1' := (hc x.st 1 l2).trans t1
  have e1' := (hc g (d * 2 + 1) l3).trans e1
  have p0' := (hc q d l4).trans p0
  have HB := Lib.hid hb1
  clear hc hf hb1 s0 t0 t1 e0 e1 p0
  go_wp2
  go_ret2
  exact ⟨rfl, HB.out⟩

theorem mem_idxTo (p : Ent → Bool) (es : List Ent) (d : Nat) : ∀ k, d ∈ idxTo p es k → d < k ∧ ∃ e, es[d]? = some e ∧ p e = true
  | 0, h => by cases h
  | k + 1, h => by
    rw [idxTo, List.mem_append] at h
    rcases h with h | h
    · obtain ⟨h1, h2⟩ := mem_idxTo p es d k h
      exact ⟨by omega, h2⟩
    · cases he : es[k]? with
      | none => simp [he] at h
      | some e =>
        simp only [he] at h
        split at h
        · rename_i hp
          obtain rfl : d = k := by simpa using h
          exact ⟨by omega, e, he, hp⟩
        · cases h
/-- An Active device. -/
theorem SpcOk.active {X : Spc} {bs : List Nat} (ok : SpcOk X bs) {d : Nat} (hd : d ∈ actives X.es) : ∃ e y, X.es[d]? = some e ∧ X.sh[d]? = some y ∧ e.st = 1 ∧ y.n = e.size ∧ y.used + 2 ≤ e.size ∧ e.size ≤ 4096 := by
  obtain ⟨hlt, e, he, hp⟩ := mem_idxTo _ _ _ _ hd
  have hlt2 : d < X.sh.length := by rw [← ok.sh]; exact hlt
  have hy : X.sh[d]? = some X.sh[d] := List.getElem?_eq_getElem hlt2
  have hst : e.st = 1 := by simpa using hp
  obtain ⟨h1, h2⟩ := ok.ents.ok e (List.mem_of_getElem? he)
  have hsz := ok.size d _ e hy he
  refine ⟨e, _, he, hy, hst, hsz, ?_, h1⟩
  have h3 : 2 < e.size := by
    rcases h2 with ⟨_, h⟩ | h
    · exact h
    · omega
  have := (ok.ok d _ hy).used_le (by rw [hsz]; omega)
  omega

/-- How many are free of all. -/
def sumTo (f : Nat → Nat) (ds : List Nat) : Nat := (ds.map f).sum
def Spc.freeAll (X : Spc) : Nat := sumTo X.free (actives X.es)
theorem sumTo_take (f : Nat → Nat) (ds : List Nat) (k d : Nat) (h : ds[k]? = some d) : sumTo f (ds.take (k + 1)) = sumTo f (ds.take k) + f d := by
  rw [List.take_add_one, h]; simp [sumTo]
theorem sumTo_le (f : Nat → Nat) (B : Nat) : ∀ (ds : List Nat), (∀ d ∈ ds, f d ≤ B) → sumTo f ds ≤ B * ds.length
  | [], _ => by simp [sumTo]
  | d :: ds, h => by
    have h1 := sumTo_le f B ds fun x hx => h x (by simp [hx])
    have h2 := h d (by simp)
    simp only [sumTo, List.map_cons, List.sum_cons, List.length_cons] at *
    rw [Nat.mul_add]; omega

def FreeRel (X : Spc) (W : World) (gk : Nat) (n i : Value) (wr : World) : Prop :=
  ∃ k : Nat, k ≤ (actives X.es).length ∧ gk = (actives X.es).length - k ∧ i = .int .i64 k ∧ n = .int .i64 (sumTo X.free ((actives X.es).take k) : Nat) ∧ ∃ m, wr = W.drewN m

set_option maxRecDepth 100000 in
theorem sp_FreeAll {w : World} {l : List Say} {s : Nat} {X : Spc} (h : Has w (spaceS s X :: l)) :
    Calls Tryz.prog 22 #[.pointer (some ⟨s, 0, none⟩)] w fun r w' => r = .returned (.int .i64 (X.freeAll : Nat)) ∧ Kept w w' ∧ Has w' (spaceS s X :: l) := by
  obtain ⟨x, ok, hh⟩ := h.sp_open
  obtain ⟨a, c, sa, sc, R⟩ := hh.sp_read (fun A hA => List.mem_append_left _ hA) ok
  have HA := Lib.hid (ros_Actives hh (v := x.lv) (es := X.es) (by simp [spFlat, spHead]) ok.ents)
  rw [R.lv] at HA
  have s0 := R.s0
  have t0 := R.t0
  have hal := idxTo_len (fun e => e.st == 1) X.es X.es.length
  have hes := ok.ents.len
  have Ok := Lib.hid ok
  have Hend : Hid (X.freeAll = sumTo X.free ((actives X.es).take (actives X.es).length)) := by rw [List.take_length]; rfl
  clear R hh h ok
  go_enter Tryz.func22, Tryz.ntmps22
  go_wp2_with fail
  refine HA.out.mono ?_
  rintro r w1 ⟨o, rfl, hK, h1⟩
  obtain ⟨_, oa, oc, rfl, _, _, hor⟩ := h1.row_read (v := o) (e := 3) (.head _)
  have HK := Lib.hid hK
  have H1 := Lib.hid h1
  have Hor := Lib.hid hor
  have hact : (actives X.es).length ≤ 8 := by
    have : actives X.es = idxTo (fun e => e.st == 1) X.es X.es.length := rfl
    rw [this]; omega
  clear hK h1 hor s0 t0 hal
  go_wp2
  go_loopg [3, 15] (actives X.es).length (fun gk n i wr => FreeRel X w1 gk n i wr)
  case atStart => exact ⟨0, Nat.zero_le _, rfl, rfl, rfl, 0, rfl⟩
  case round =>
    obtain ⟨k, hk, rfl, rfl, rfl, m, rfl⟩ := hrel
    by_cases hlt : k < (actives X.es).length
    · obtain ⟨d, hd⟩ : ∃ d, (actives X.es)[k]? = some d := ⟨_, List.getElem?_eq_getElem hlt⟩
      obtain ⟨g, rfl, hg, _⟩ := Hor.out k (natVal d) (by simp [hd])
      obtain ⟨e, y, he, hy, _, _, hu, hez⟩ := Ok.out.active (List.mem_of_getElem? hd)
      have HF := Lib.hid (sp_free (w := w1.drewN m) (H1.out.drewN m) (s := s) (x := x) (fun A hA => .tail _ (List.mem_append_left _ hA)) Ok.out d e y he hy hu)
      have hstep := sumTo_take X.free (actives X.es) k d hd
      have hb1 : X.free d ≤ 4096 := by simp [Spc.free, he, hy]; omega
      have hb2 : sumTo X.free ((actives X.es).take k) ≤ 4096 * ((actives X.es).take k).length := sumTo_le X.free 4096 _ fun d' hd' => by
        obtain ⟨e', y', he', hy', _, _, _, h'⟩ := Ok.out.active (List.mem_of_mem_take hd')
        simp [Spc.free, he', hy']; omega
      have hb3 : ((actives X.es).take k).length ≤ k := List.length_take_le _ _
      have Hstep := Lib.hid hstep
      generalize X.free d = fd at *
      generalize sumTo X.free ((actives X.es).take k) = sm at *
      unfold natVal at hg
      clear he hy hd hstep
      go_wp2_with fail
      refine HF.out.mono ?_
      rintro r w2 ⟨rfl, m2, rfl⟩
      go_wp2
      go_roundg ((actives X.es).length - (k + 1))
      case measure => omega
      case rel => exact ⟨k + 1, by omega, rfl, by go_num, int_eq (by rw [Hstep.out]; omega), m + m2, by simp⟩
    · obtain rfl : k = (actives X.es).length := by omega
      go_wp2
      go_ret
      exact ⟨by rw [Hend.out]; rfl, HK.out.drewN m, Has.sp_shut Ok.out (H1.out.tail.drewN m)⟩
end Go.Proofs.YtgbgneiciabidaaGreatDoor
