/-
  The door of a law: what the listed table gives; arguments that read as they did.
-/
import Derived.Test.YtgbgneiciabidaaGreatDoorGz1
import Derived.Test.YtgbgneiciabidaaGreatDoorGz2
import Derived.Test.YtgbgneiciabidaaGreatDoorGz3
import Derived.Test.YtgbgneiciabidaaGreatDoorGz4
import Derived.Test.YtgbgneiciabidaaGreatDoorGz5
import Derived.Test.YtgbgneiciabidaaGreatDoorGz6
import Derived.Test.YtgbgneiciabidaaGreatDoorGz7
import Derived.Test.YtgbgneiciabidaaGreatDoorGz8
import Derived.Test.YtgbgneiciabidaaGreatDoorGz9
import Derived.Test.YtgbgneiciabidaaGreatDoorGz10
import Derived.Test.YtgbgneiciabidaaGreatDoorGz11
import Derived.Test.YtgbgneiciabidaaGreatDoorGz12
import Derived.Test.YtgbgneiciabidaaGreatDoorGz13
import Derived.Test.YtgbgneiciabidaaGreatDoorGz14
import Derived.Test.YtgbgneiciabidaaGreatDoorGz15
import Derived.Test.YtgbgneiciabidaaGreatDoorGz16
import Derived.Test.YtgbgneiciabidaaGreatDoorGz17
import Derived.Test.YtgbgneiciabidaaGreatDoorGz18
import Derived.Test.YtgbgneiciabidaaGreatDoorGz19
import Derived.Test.YtgbgneiciabidaaGreatDoorGz20
import Derived.Test.YtgbgneiciabidaaGreatDoorGz21
import Derived.Test.YtgbgneiciabidaaGreatDoorGz22
import Derived.Test.YtgbgneiciabidaaGreatDoorGz23
import Derived.Test.YtgbgneiciabidaaGreatDoorGz24
import Derived.Test.YtgbgneiciabidaaGreatDoorGz25
import Derived.Test.YtgbgneiciabidaaGreatDoorGz26
import Derived.Test.YtgbgneiciabidaaGreatDoorGz27
import Derived.Test.YtgbgneiciabidaaGreatDoorGz28
import Derived.Test.YtgbgneiciabidaaGreatDoorGz29
import Derived.Test.YtgbgneiciabidaaGreatDoorGz30
import Derived.Test.YtgbgneiciabidaaGreatDoorGz31
import Derived.Test.YtgbgneiciabidaaGreatDoorGz32
import Derived.Test.YtgbgneiciabidaaGreatDoorGz33
import Derived.Test.YtgbgneiciabidaaGreatDoorGz34
import Derived.Test.YtgbgneiciabidaaGreatDoorGz35
import Derived.Test.YtgbgneiciabidaaGreatDoorGz36
import Derived.Test.YtgbgneiciabidaaGreatDoorGz37
import Derived.Test.YtgbgneiciabidaaGreatDoorGz38
import Derived.Test.YtgbgneiciabidaaGreatDoorGz39
import Derived.Test.YtgbgneiciabidaaGreatDoorGz40
import Derived.Test.YtgbgneiciabidaaGreatDoorGz41
import Derived.Test.YtgbgneiciabidaaGreatDoorGz42
import Derived.Test.YtgbgneiciabidaaGreatDoorGz43
import Derived.Test.YtgbgneiciabidaaGreatDoorGz44
import Derived.Test.YtgbgneiciabidaaGreatDoorGz46
import Derived.Test.YtgbgneiciabidaaGreatDoorCards
import Derived.Test.YtgbgneiciabidaaGreatDoorTie
import Derived.ProofKit
import Derived.OpenShut
import Derived.Carry
import Derived.Lib.SmallJoins
import Derived.Deep.DeepHandedRow
import Derived.Lib.LaidTab
namespace Go.Proofs.YtgbgneiciabidaaGreatDoor
open Go Go.ChangeShapes Go.WideShapes Go.ChangeAt Go.RowKit
set_option linter.all false

theorem cells_int : Tryz.prog.cellsOf 3 = 1 := by kernel_rfl
theorem src_of_trod {H : Type} {enc : TypeId × Value → H} {W : World} {base fuel : Nat} {spare : Nat → Bool} {held : Bool} {v : Value} {x : DataW H × List MemPlace} (h : DataW.trod enc Tryz.prog W base spare held fuel 22 [v] = some x) :
    ∃ xs : List Int, Src W v xs := by
  rcases open_ints Tryz.underlying22 Tryz.underlying3 cells_int h with ⟨hv, _⟩ | ⟨a, len, cap, zs, hv, _, hlc, _, hlen, _, hc, _⟩
  · exact ⟨[], .inl ⟨by simpa using hv, rfl⟩⟩
  · have hle : len ≤ zs.length := by rw [hlen]; split <;> omega
    refine ⟨zs.take len, .inr ⟨a, cap, ?_, fun k hk => ?_⟩⟩
    · rw [List.length_take, Nat.min_eq_left hle]; simpa using hv
    · rw [List.length_take] at hk
      have := hc k (by omega)
      rw [this, List.getElem_take, List.getD_eq_getElem?_getD, List.getElem?_eq_getElem (by omega)]
      rfl
end Go.Proofs.YtgbgneiciabidaaGreatDoor
/-
  BtreeFull: the walk.
-/
namespace Go.Proofs.YtgbgneiciabidaaGreatDoor
open Go Go.RowKit
set_option linter.all false

theorem bt_FreeQ {w : World} {l : List Say} {p bank sp N : Nat} {es : List Ent} {Q : Pgs} (h : Has w (btS p bank sp N es Q :: l)) : ∃ fv : Int, ∀ (w' : World) (l' : List Say) (N' : Nat), Has w' (btS p bank sp N' es Q :: l') →
    Calls Tryz.prog 22 #[.pointer (some ⟨sp, 0, none⟩)] w' fun r w'' => r = .returned (.int .i64 fv) ∧ Kept w' w'' ∧ Has w'' (btS p bank sp N' es Q :: l') := by
  obtain ⟨disks, X, hI, hR, hH, hh⟩ := h.bt_open
  refine ⟨(X.freeAll : Nat), fun w' l' N' h' => ?_⟩
  obtain ⟨disks', X', hI', hR', hH', hh'⟩ := h'.bt_open
  have h2 : Has w' (spaceS sp X' :: stS p bank sp Q :: bankS N' bank disks' :: l') := Has.pull 2 hh'
  refine (sp_FreeAll h2).mono ?_
  rintro r w'' ⟨rfl, hK, h3⟩
  rw [hR'.xis.free hR.xis]
  refine ⟨rfl, hK, ?_⟩
  have h4 : Has w'' (trio p bank sp N' Q disks' X' l') := h3.reord [1, 1]
  exact Has.bt_shut hI' hR' hH' h4
def FuM (w : World) (l : List Say) (t sp p bank : Nat) (es : List Ent) (k : Nat) (wr : World) : Prop :=
  ∃ (Q : Pgs) (ts : List Tre) (vs : List Value) (rs : List (Value × List KV)), Grove Q ts ∧ Rows4 ts vs rs ∧ (∀ u ∈ ts, u.s ≤ 2 * k ∧ u.L.length ≤ k) ∧ Kept w wr ∧ Has wr (treesT t sp p (ts.map (·.a)) vs :: btS p bank sp (100 * k) es Q :: (rs.map kvR ++ l))
theorem FuM.start {w wr : World} {l : List Say} {t sp p bank : Nat} {es : List Ent} (hK : Kept w wr) (h : Has wr (treesS t sp p :: btS p bank sp 0 es [] :: l)) : FuM w l t sp p bank es 0 wr := by
  refine ⟨[], [noTre, noTre, noTre, noTre], [.slice none 0 0, .slice none 0 0, .slice none 0 0, .slice none 0 0], [(.slice none 0 0, [])], Grove.nil.more.more.more.more, ⟨rfl, rfl, fun i t v h1 h2 => ?_⟩, fun u hu => ?_, hK, ?_⟩
  · have e1 : t = noTre := by
      have := List.mem_of_getElem? h1
      simpa using this
    have e2 : v = .slice none 0 0 := by
      have := List.mem_of_getElem? h2
      simpa using this
    rw [e1, e2]
    exact .head _
  · have e1 : u = noTre := by simpa using hu
    rw [e1]
    exact ⟨Nat.zero_le _, Nat.zero_le _⟩
  · have h2 : Has wr (kvS (.slice none 0 0) [] :: treesS t sp p :: btS p bank sp 0 es [] :: l) := h.row_nil _ _
    exact h2.reord [1, 1]
theorem FuM.hasl {w wr : World} {l : List Say} {t sp p bank k : Nat} {es : List Ent} (h : FuM w l t sp p bank es k wr) : Has wr l := by
  obtain ⟨Q, ts, vs, rs, hT, h4, hb, hK, hh⟩ := h
  exact Has.right (m := rs.map kvR) hh.tail.tail
def FcM (w : World) (p bank sp N b9 t : Nat) (kd tr key val : Int) (es : List Ent) (Q : Pgs) (ts : List Tre) (vs : List Value) (rs : List (Value × List KV)) (l : List Say) (wv cv : Value) (i : Nat) (wr : World) : Prop :=
  Kept w wr ∧ ∃ ca cc, cv = .slice ca i cc ∧ Has wr (intsS cv ((Q.map (·.1)).take i |>.map (holdsOf Q)) :: intsS wv (Q.map (·.1)) :: pts b9 (.cells #[.int .i64 kd, .int .i64 tr, .int .i64 key, .int .i64 val] 83 (0, 0)) :: treesT t sp p (ts.map (·.a)) vs :: btS p bank sp N es Q :: (rs.map kvR ++ l))
theorem sink3 {w : World} {A B C D E : Say} {R l : List Say} (h : Has w (A :: B :: C :: D :: E :: (R ++ l))) : Has w (D :: E :: (R ++ (A :: B :: C :: l))) := by
  have h1 : Has w (D :: E :: A :: B :: C :: (R ++ l)) := h.reord [3, 3]
  exact h1.perm (((List.perm_append_comm_assoc [A, B, C] R l).cons _).cons _)
theorem float3 {w : World} {A B C D E : Say} {R l : List Say} (h : Has w (D :: E :: (R ++ (A :: B :: C :: l)))) : Has w (A :: B :: C :: D :: E :: (R ++ l)) := by
  have h1 : Has w (D :: E :: A :: B :: C :: (R ++ l)) := h.perm (((List.perm_append_comm_assoc [A, B, C] R l).symm.cons _).cons _)
  exact h1.reord [2, 2, 2]
theorem holdsU {w : World} {l : List Say} {t sp p bank N k : Nat} {es : List Ent} {Q : Pgs} {ts : List Tre} {vs : List Value} {rs : List (Value × List KV)} (h : Has w (treesT t sp p (ts.map (·.a)) vs :: btS p bank sp N es Q :: (rs.map kvR ++ l))) (ht : Tab l) (hT : Grove Q ts) (h4 : Rows4 ts vs rs) (hb : ∀ u ∈ ts, u.s ≤ 2 * k ∧ u.L.length ≤ k) (hk : k ≤ 160) :
    Calls Tryz.prog 51 #[.pointer (some ⟨t, 0, none⟩)] w (HtPost t sp p bank N es Q ts vs rs l w) := by
  have hql : Q.length ≤ 50000 := by
    have h1 := hT.pages h.tail.bt_inv.1
    have h2 := weighs_le (ts := ts) (B := 2 * k) fun u hu => (hb u hu).1
    rw [h4.four] at h2
    omega
  exact law_holdsT h ht hT h4 (fun u hu => by have := (hb u hu).2; omega) hql
set_option maxHeartbeats 8000000 in
set_option maxRecDepth 100000 in
theorem law_full {w : World} {l : List Say} (zs : List Int) (os : List O4) {zv sv : Value} (h : Has w l) (ht : Tab l) (hz : Srcs l zv zs) (hs : O4Srcs l sv os) :
    Calls Tryz.prog 11 #[zv, sv] w (fun r w' => r = .returned (.bool true) ∧ Kept w w' ∧ Has w' l) := by
  obtain ⟨za, zc, rfl, _⟩ := (hz w h).rd
  obtain ⟨sa, sc, rfl, _⟩ := hs w h
  have Ht := Lib.hid ht
  have Hz := Lib.hid hz
  have Hs := Lib.hid hs
  have H := Lib.hid h
  obtain ⟨nz, hnz⟩ : ∃ n, zs.length = n := ⟨_, rfl⟩
  obtain ⟨n, hn⟩ : ∃ n, os.length = n := ⟨_, rfl⟩
  have Hn := Lib.hid (And.intro hnz hn)
  rw [hnz, hn]
  clear h ht hz hs hnz hn
  go_enter Tryz.func11, Tryz.ntmps11
  by_cases hbad : nz < 1 ∨ 3 < nz ∨ 120 < n
  · skip
    have HA := Lib.hid (awake12 H.out Ht.out)
    have hbI : (nz : Int) < 1 ∨ (¬ (nz : Int) < 1 ∧ (3 : Int) < nz) ∨ (¬ (nz : Int) < 1 ∧ ¬ (3 : Int) < nz ∧ (120 : Int) < n) := by omega
    clear H hbad
    rcases hbI with hb | ⟨hb, hb2⟩ | ⟨hb, hb2, hb3⟩
    all_goals
      go_wp2_with fail
      refine HA.out.mono ?_
      rintro r w2 ⟨rfl, hK2, h5⟩
      have HF : Hid (Kept w w2 ∧ Has w2 l) := ⟨hK2, h5⟩
      clear hK2 h5 HA
      go_wp2
      go_ret
      exact ⟨rfl, HF.out.1, HF.out.2⟩
  have d1 : decide ((nz : Int) < 1) = false := by simp; omega
  have d2 : decide ((3 : Int) < nz) = false := by simp; omega
  have d3 : decide ((120 : Int) < n) = false := by simp; omega
  have d4 : decide (3 < nz) = false := by simp; omega
  have d5 : decide (120 < n) = false := by simp; omega
  have d6 : decide (nz < 1) = false := by simp; omega
  have d7 : ¬ (nz : Int) < 1 := by omega
  have d8 : ¬ (3 : Int) < nz := by omega
  have d9 : ¬ (120 : Int) < n := by omega
  have n120 : n ≤ 120 := by omega
  have hz0 : 1 ≤ nz ∧ nz ≤ 3 := by omega
  have HZ0 := Lib.hid hz0
  clear hbad hz0
  go_wp2
  have HS0 : Hid ((∀ j (hj : j < nz), j < 0 → 3 ≤ zs[j]'(by have := Hn.out.1; omega) ∧ zs[j]'(by have := Hn.out.1; omega) ≤ 60) ∧ Kept w w ∧ Has w l) := ⟨fun j _ hj => absurd hj (Nat.not_lt_zero _), Kept.refl w, H.out⟩
  clear H
  go_loopg [36] nz (fun gk iv wr => ∃ k : Nat, k ≤ nz ∧ gk = nz - k ∧ iv = .int .i64 k ∧ Hid ((∀ j (hj : j < nz), j < k → 3 ≤ zs[j]'(by have := Hn.out.1; omega) ∧ zs[j]'(by have := Hn.out.1; omega) ≤ 60) ∧ Kept w wr ∧ Has wr l))
  case atStart => exact ⟨0, Nat.zero_le _, rfl, rfl, HS0⟩
  case round =>
    clear HS0
    obtain ⟨k, hk, rfl, rfl, HM⟩ := hrel
    obtain ⟨hgood, hK, hh⟩ := HM.out
    clear HM
    by_cases hlt : k < nz
    · skip
      obtain ⟨a', c', hv', hrd⟩ := (Hz.out wr hh).rd
      injection hv' with j1 j2 j3
      subst j1 j3
      obtain ⟨gb, go, rfl, hc⟩ := hrd k (by have := Hn.out.1; omega)
      have lz := World.block_lt_of_cell? _ _ hc
      have Hgood := Lib.hid hgood
      have HH := Lib.hid hh
      have HK := Lib.hid hK
      have kI : (k : Int) < (nz : Int) := by omega
      have k0 : (0 : Int) ≤ k := by omega
      obtain ⟨x, hx⟩ : ∃ x, zs[k]'(by have := Hn.out.1; omega) = x := ⟨_, rfl⟩
      have Hx : Hid (zs[k]'(by have := Hn.out.1; omega) = x) := hx
      rw [hx] at hc
      clear hrd hh hK hgood hx
      by_cases hbx : x < 3 ∨ 60 < x
      · skip
        have HA := Lib.hid (awake12 HH.out Ht.out)
        have hbI : x < 3 ∨ (¬ x < 3 ∧ 60 < x) := by omega
        clear HH hbx Hx Hgood
        rcases hbI with hb | ⟨hb, hb2⟩
        all_goals
          go_wp2_with fail
          refine HA.out.mono ?_
          rintro r w2 ⟨rfl, hK2, h5⟩
          have HF : Hid (Kept w w2 ∧ Has w2 l) := ⟨HK.out.trans hK2, h5⟩
          clear hK2 h5 HA
          go_wp2
          go_ret
          exact ⟨rfl, HF.out.1, HF.out.2⟩
      have e1 : decide (x < 3) = false := by simp; omega
      have e2 : decide (60 < x) = false := by simp; omega
      have e3 : ¬ x < 3 := by omega
      have e4 : ¬ 60 < x := by omega
      have HM2 : Hid ((∀ j (hj : j < nz), j < k + 1 → 3 ≤ zs[j]'(by have := Hn.out.1; omega) ∧ zs[j]'(by have := Hn.out.1; omega) ≤ 60) ∧ Kept w wr ∧ Has wr l) := by
        refine ⟨fun j hj hjk => ?_, HK.out, HH.out⟩
        by_cases e : j = k
        · subst e
          rw [Hx.out]
          omega
        · exact Hgood.out j hj (by omega)
      clear HK HH Hx Hgood hbx
      go_wp2
      go_roundg (nz - (k + 1))
      case measure => omega
      case rel => exact ⟨k + 1, by omega, rfl, by go_num, HM2⟩
    · skip
      obtain rfl : k = nz := by omega
      have hsz : sizesT zs = true := by
        simp only [sizesT, Bool.and_eq_true, List.all_eq_true, decide_eq_true_eq]
        refine ⟨⟨by have := HZ0.out; have := Hn.out.1; omega, by have := HZ0.out; have := Hn.out.1; omega⟩, fun z hz => ?_⟩
        obtain ⟨j, hj, rfl⟩ := List.getElem_of_mem hz
        have := hgood j (by have := Hn.out.1; omega) (by have := Hn.out.1; omega)
        omega
      have HM := made12 zs hh (Hz.out) hsz
      rw [Hn.out.1] at HM
      have HM := Lib.hid HM
      have HK := Lib.hid hK
      clear hgood hh hK hsz hlt
      go_wp2_with fail
      refine HM.out.mono ?_
      rintro r w1 ⟨t, sp, p, bank, rfl, hK1, h3⟩
      obtain ⟨es, hes⟩ : ∃ es, eSizes zs = es := ⟨_, rfl⟩
      rw [hes] at h3
      have t1 : w1.cell? ⟨t, 1, none⟩ = some (.pointer (some ⟨p, 0, none⟩)) := cell_of h3.got 1 rfl
      have lt1 := World.block_lt_of_cell? _ _ t1
      have HM0 : Hid (FuM w l t sp p bank es 0 w1) := FuM.start (HK.out.trans hK1) h3
      clear hK1 h3 HM HK hes
      go_wp2
      go_loopg [61] n (fun gk iv wr => ∃ k : Nat, k ≤ n ∧ gk = n - k ∧ iv = .int .i64 k ∧ Hid (FuM w l t sp p bank es k wr))
      case atStart => exact ⟨0, Nat.zero_le _, rfl, rfl, HM0⟩
      case round =>
        clear HM0 t1 lt1
        obtain ⟨k, hk, rfl, rfl, HM⟩ := hrel
        by_cases hlt : k < n
        · skip
          obtain ⟨_, _, hv', hrd⟩ := Hs.out wr HM.out.hasl
          injection hv' with j1 j2 j3
          subst j1
          clear j2 j3
          obtain ⟨gb, go, rfl, hat⟩ := hrd k (by have := Hn.out.2; omega)
          generalize os[k]'_ = o at hat
          obtain ⟨kd, tr, key, val⟩ := o
          obtain ⟨c0, c1', c2, c3⟩ := hat
          simp only at c0 c1' c2 c3
          have lz := World.block_lt_of_cell? _ _ c0
          have kI : (k : Int) < (n : Int) := by omega
          have k0 : (0 : Int) ≤ k := by omega
          obtain ⟨Q, ts, vs, rs, hT, h4, hb, hK, hh⟩ := HM.out
          have h1 : Has (wr.alloc (.cells #[.int .i64 kd, .int .i64 tr, .int .i64 key, .int .i64 val] 83)) (pts wr.heap.size (.cells #[.int .i64 kd, .int .i64 tr, .int .i64 key, .int .i64 val] 83 (0, 0)) :: treesT t sp p (ts.map (·.a)) vs :: btS p bank sp (100 * k) es Q :: (rs.map kvR ++ l)) := hh.alloc _
          have hK1 := hK.alloc (.cells #[.int .i64 kd, .int .i64 tr, .int .i64 key, .int .i64 val] 83)
          have hql : Q.length ≤ 50000 := by
            have h1 := hT.pages hh.tail.bt_inv.1
            have h2 := weighs_le (ts := ts) (B := 2 * k) fun u hu => (hb u hu).1
            rw [h4.four] at h2
            omega
          obtain ⟨fv, hfv⟩ := bt_FreeQ hh.tail
          have hfv2 : Hid (∀ (w' : World) (l' : List Say) (N' : Nat), Has w' (btS p bank sp N' es Q :: l') → Calls Tryz.prog 22 #[.pointer (some ⟨sp, 0, none⟩)] w' fun r w'' => r = .returned (.int .i64 fv) ∧ Kept w' w'' ∧ Has w'' (btS p bank sp N' es Q :: l')) := hfv
          have HPg : Hid (∀ w' l' N', Has w' (btS p bank sp N' es Q :: l') → Calls Tryz.prog 25 #[.pointer (some ⟨p, 0, none⟩)] w' (PagesPost Q (btS p bank sp N' es Q :: l') w')) := fun w' l' N' h => bt_Pages h (by omega)
          have hbp : ∀ x ∈ Q.map (·.1), 0 ≤ x ∧ x < 32768 := by
            have := hh.tail.bt_inv.1.bd
            intro x hx
            obtain ⟨q, hq, rfl⟩ := List.mem_map.1 hx
            exact this q hq
          have Hbp := Lib.hid hbp
          have Hql := Lib.hid hql
          have HX := Lib.hid (And.intro hT (And.intro h4 hb))
          have HK := Lib.hid hK1
          obtain ⟨N, hN⟩ : ∃ N, 100 * k = N := ⟨_, rfl⟩
          rw [hN] at h1
          have HN := Lib.hid hN
          have HH := Lib.hid h1
          clear HM hrd hT h4 hb hK hh h1 hK1 hfv hbp hql hN
          go_upto_region 15 with fail
          generalize wr.alloc (.cells #[.int .i64 kd, .int .i64 tr, .int .i64 key, .int .i64 val] 83) = w5 at *
          generalize wr.heap.size = b9 at *
          have hh := HH.out
          have t0 : w5.cell? ⟨t, 0, none⟩ = some (.pointer (some ⟨sp, 0, none⟩)) := cell_of (hh.at (b := t) (o := (.cells (treesC sp p (ts.map (·.a)) vs) 70 (0, 0))) (by simp [treesT])) 0 rfl
          have t1 : w5.cell? ⟨t, 1, none⟩ = some (.pointer (some ⟨p, 0, none⟩)) := cell_of (hh.at (b := t) (o := (.cells (treesC sp p (ts.map (·.a)) vs) 70 (0, 0))) (by simp [treesT])) 1 rfl
          have lt1 := World.block_lt_of_cell? _ _ t1
          clear HH c0 c1' c2 c3 lz
          obtain ⟨FA, HFA⟩ : ∃ FA : List (Nat × Addr × Value), Hid (FA = [(3, ⟨t, 1, none⟩, .pointer (some ⟨p, 0, none⟩)), (8, ⟨t, 0, none⟩, .pointer (some ⟨sp, 0, none⟩))]) := ⟨_, rfl⟩
          have fa3 : ∀ n : In (factsOf FA 3), n.w.cell? ⟨t, 1, none⟩ = some (.pointer (some ⟨p, 0, none⟩)) := fun n => factsOf.cell (by rw [HFA.out]; simp) n
          have fa8 : ∀ n : In (factsOf FA 8), n.w.cell? ⟨t, 0, none⟩ = some (.pointer (some ⟨sp, 0, none⟩)) := fun n => factsOf.cell (by rw [HFA.out]; simp) n
          have hFA : ∀ p ∈ FA, w5.cell? p.2.1 = some p.2.2 := by rw [HFA.out]; exact (fcons t1 (fcons t0 fnil))
          haveI neFA : ∀ k, Nonempty (In (factsOf FA k)) := fun k => ⟨⟨_, factsOf.drew hFA k⟩⟩
          refine ws_begin [0, 1, 2, 3, 4, 5, 6, 7, 8, 9, 10, 11] (factsOf FA) (pts b9 (.cells #[.int .i64 kd, .int .i64 tr, .int .i64 key, .int .i64 val] 83 (0, 0)) :: treesT t sp p (ts.map (·.a)) vs :: btS p bank sp N es Q :: (rs.map kvR ++ l)) #[0, 1, 3, 7, 15, 0, 32, 96, 224, 511, 1023, 2047] (by kernel_rfl) (by kernel_rfl) (by kernel_rfl) factsOf.alloc (factsOf.drew hFA) hh ?_
          clear hFA
          iterate 4 (refine ws_q (at_lit rfl) rfl rfl rfl ?_; go_big_quiet_op; show WS _ _ _ _ _ _ _ _ _ _)
          refine ws_call (at_lit rfl) rfl rfl 25 #[.pointer (some ⟨p, 0, none⟩)] (fun w => by go_simp) (fun v L' => L' = intsS v (Q.map (·.1)) :: pts b9 (.cells #[.int .i64 kd, .int .i64 tr, .int .i64 key, .int .i64 val] 83 (0, 0)) :: treesT t sp p (ts.map (·.a)) vs :: btS p bank sp N es Q :: (rs.map kvR ++ l)) (fun w' F hS hh => ?_) ?_
          · refine (HPg.out w' _ _ (hh.pull 2)).mono ?_
            rintro r w'' ⟨va, rfl, hK, hh'⟩
            exact ⟨_, _, rfl, hK, rfl, hh'.reord [0, 1, 1]⟩
          rintro wv _ rfl
          refine ⟨fun w F hh => lives (l' := [(8, ⟨t, 0, none⟩, .pointer (some ⟨sp, 0, none⟩))]) (by rw [HFA.out]; simp [liveFacts, Nat.testBit]) (fcons (cell_of (hh.at (b := t) (o := (.cells (treesC sp p (ts.map (·.a)) vs) 70 (0, 0))) (by simp [treesT])) 0 rfl) <| fnil), ?_⟩
          simp only [Act.put, List.setIfInBounds_toArray, List.set_cons_zero, List.set_cons_succ]
          show WS _ _ _ _ _ _ _ _ _ _
          iterate 4 (refine ws_q (at_lit rfl) rfl rfl rfl ?_; go_big_quiet_op; show WS _ _ _ _ _ _ _ _ _ _)
          refine ws_call (at_lit rfl) rfl rfl 22 #[.pointer (some ⟨sp, 0, none⟩)] (fun w => by go_simp) (fun v L' => v = .int .i64 fv ∧ L' = intsS wv (Q.map (·.1)) :: pts b9 (.cells #[.int .i64 kd, .int .i64 tr, .int .i64 key, .int .i64 val] 83 (0, 0)) :: treesT t sp p (ts.map (·.a)) vs :: btS p bank sp N es Q :: (rs.map kvR ++ l)) (fun w' F hS hh => ?_) ?_
          · refine (hfv2.out w' _ _ (hh.pull 3)).mono ?_
            rintro r w'' ⟨rfl, hK, hh'⟩
            exact ⟨_, _, rfl, hK, ⟨rfl, rfl⟩, hh'.reord [1, 1, 1]⟩
          rintro _ _ ⟨rfl, rfl⟩
          refine ⟨fun w F hh => lives (l' := []) (by rw [HFA.out]; simp [liveFacts, Nat.testBit]) (fnil), ?_⟩
          simp only [Act.put, List.setIfInBounds_toArray, List.set_cons_zero, List.set_cons_succ]
          show WS _ _ _ _ _ _ _ _ _ _
          iterate 2 (refine ws_q (at_lit rfl) rfl rfl rfl ?_; go_big_quiet_op; show WS _ _ _ _ _ _ _ _ _ _)
          refine ws_end ?_
          intro w6 hK6 h6
          have HK6 := Lib.hid (HK.out.trans hK6)
          obtain ⟨wa, wc, rfl, _, _⟩ := h6.ints_read (v := wv) (xs := Q.map (·.1)) (.head _)
          obtain ⟨m, hm⟩ : ∃ m, (Q.map (·.1)).length = m := ⟨_, rfl⟩
          have Hm := Lib.hid hm
          rw [hm] at h6 ⊢
          have t1' : w6.cell? ⟨t, 1, none⟩ = some (.pointer (some ⟨p, 0, none⟩)) := cell_of (h6.at (b := t) (o := (.cells (treesC sp p (ts.map (·.a)) vs) 70 (0, 0))) (by simp [treesT])) 1 rfl
          have lt1' := World.block_lt_of_cell? _ _ t1'
          have hm5 : m ≤ 50000 := by rw [← hm, List.length_map]; exact Hql.out
          have HM0 : Hid (FcM w p bank sp N b9 t kd tr key val es Q ts vs rs l (.slice wa m wc) (.slice none 0 0) 0 w6) := ⟨HK6.out, none, 0, rfl, h6.row_nil 3 1⟩
          clear hK6 h6 hh HFA neFA FA fa3 fa8 t0 t1 lt1 HK hm HK6 Hql
          go_wp2
          go_loopg [77, 12] m (fun gk iv cv wr => ∃ i : Nat, i ≤ m ∧ gk = m - i ∧ iv = .int .i64 i ∧ Hid (FcM w p bank sp N b9 t kd tr key val es Q ts vs rs l (.slice wa m wc) cv i wr))
          case atStart => exact ⟨0, Nat.zero_le _, rfl, rfl, HM0⟩
          case round =>
            clear HM0 t1' lt1'
            obtain ⟨i, hi, rfl, rfl, HM⟩ := hrel
            obtain ⟨hK, ca, cc, rfl, hh⟩ := HM.out
            clear HM
            by_cases hlt2 : i < m
            · skip
              obtain ⟨_, _, e1, _, hrd⟩ := hh.ints_read (v := .slice wa m wc) (xs := Q.map (·.1)) (by simp)
              injection e1 with e1 e2 e3
              subst e1
              obtain ⟨g, rfl, cz, _⟩ := hrd i (by have := Hm.out; omega)
              have lz := World.block_lt_of_cell? _ _ cz
              obtain ⟨x, hx⟩ : ∃ x, (Q.map (·.1))[i]'(by have := Hm.out; omega) = x := ⟨_, rfl⟩
              have hxm : x ∈ Q.map (·.1) := by rw [← hx]; exact List.getElem_mem _
              obtain ⟨x0, x1⟩ := Hbp.out x hxm
              have htk : ((Q.map (·.1)).take (i + 1)).map (holdsOf Q) = ((Q.map (·.1)).take i).map (holdsOf Q) ++ [holdsOf Q x] := by
                rw [List.take_succ_eq_append_getElem (by have := Hm.out; omega), List.map_append, hx]; rfl
              have Htk := Lib.hid htk
              rw [hx] at cz
              have t1 : wr.cell? ⟨t, 1, none⟩ = some (.pointer (some ⟨p, 0, none⟩)) := cell_of (hh.at (b := t) (o := (.cells (treesC sp p (ts.map (·.a)) vs) 70 (0, 0))) (by simp [treesT])) 1 rfl
              have lt1 := World.block_lt_of_cell? _ _ t1
              have HHo := Lib.hid (bt_Holds (hh.pull 4) x (by omega) (by omega))
              obtain ⟨hv, hhv⟩ : ∃ hv, holdsOf Q x = hv := ⟨_, rfl⟩
              rw [hhv] at HHo Htk
              have hcl : (((Q.map (·.1)).take i).map (holdsOf Q)).length = i := by rw [List.length_map, List.length_take]; have := Hm.out; omega
              have Hcl := Lib.hid hcl
              have HA := Lib.hid (hh.alloc (.cells #[.int .i64 hv] 3)).swap
              have HKA := Lib.hid (hK.alloc (.cells #[.int .i64 hv] 3))
              have iI : (i : Int) < (m : Int) := by omega
              have i0 : (0 : Int) ≤ i := by omega
              clear hK hh hrd e2 e3 hx hxm htk hhv hcl
              go_wp2_with fail
              refine HHo.out.mono ?_
              rintro r w2 ⟨rfl, rfl⟩
              clear HHo
              go_upto_region 21 with (at_builtin; refine wpList_append_int rfl (.tmp 81) (.tmp 88) rfl rfl rfl HA.out (.head _) Hcl.out (by have := Hcl.out; omega) ?_; intro p1 q1 w3 hK3 hz)
              have HM2 : Hid (FcM w p bank sp N b9 t kd tr key val es Q ts vs rs l (.slice (some ⟨g, 0, none⟩) m wc) (.slice p1 (i + 1) q1) (i + 1) w3) := by
                refine ⟨HKA.out.trans hK3, p1, q1, rfl, ?_⟩
                rw [Htk.out]
                exact Has.skip (A := [_]) (M := [_]) hz
              clear hz hK3 HA HKA Htk Hcl
              go_wp2
              go_roundg (m - (i + 1))
              case measure => omega
              case rel => exact ⟨i + 1, by omega, rfl, by go_num, HM2⟩
            · skip
              obtain rfl : i = m := by omega
              rw [List.take_of_length_le (by have := Hm.out; omega)] at hh
              have h7 := hh.reord [2, 2, 2]
              obtain ⟨hT, h4, hb⟩ := HX.out
              have q0 : wr.cell? ⟨b9, 0, none⟩ = some (.int .i64 kd) := cell_of h7.got 0 rfl
              have q1 : wr.cell? ⟨b9, 1, none⟩ = some (.int .i64 tr) := cell_of h7.got 1 rfl
              have q2 : wr.cell? ⟨b9, 2, none⟩ = some (.int .i64 key) := cell_of h7.got 2 rfl
              have q3 : wr.cell? ⟨b9, 3, none⟩ = some (.int .i64 val) := cell_of h7.got 3 rfl
              have lq := World.block_lt_of_cell? _ _ q0
              have h8 := sink3 hh
              have HC := Lib.hid (law_step kd tr key val h8 Ht.out.cons.cons.cons hT h4 (by have := HN.out; omega) (fun u hu => by have := hb u hu; omega))
              have HK := Lib.hid hK
              have HLi : Hid (FuM w l t sp p bank es k wr) := by
                obtain ⟨⟩ := HN.out
                exact ⟨Q, ts, vs, rs, hT, h4, hb, hK, Has.skip (A := [_, _]) (M := [_, _, _]) (hh.reord [3, 3])⟩
              clear hh h7 h8 hT h4 hb hK hlt2 HLi
              go_wp2_with fail
              refine HC.out.mono ?_
              rintro r w7 (⟨rfl, hK7, Q', ts', vs', rs', hst, hT', h4', hh'⟩ | ⟨rfl, hK7, Q', hT', hmv, _, hh'⟩)
              · skip
                have hb' := hst.grow (B := k) HX.out.2.2
                have HHo := Lib.hid (holdsU hh' Ht.out.cons.cons.cons hT' h4' hb' (by omega))
                have HK7 := Lib.hid (HK.out.trans hK7)
                have HX' := Lib.hid (And.intro hT' (And.intro h4' hb'))
                clear hst hT' h4' hh' hb' hK7 HC HK HX
                go_wp2_with fail
                refine HHo.out.mono ?_
                rintro r w8 ⟨rfl, hK8, h9⟩
                have HM2 : Hid (FuM w l t sp p bank es (k + 1) w8) := by
                  obtain ⟨a1, a2, a3⟩ := HX'.out
                  obtain rfl := HN.out
                  exact ⟨Q', ts', vs', rs', a1, a2, a3, HK7.out.trans hK8, Has.skip (A := [_, _]) (M := [_, _, _]) ((float3 h9).reord [3, 3])⟩
                clear hK8 h9 HHo HK7 HX' HN
                go_wp2
                go_roundg (n - (k + 1))
                case measure => omega
                case rel => exact ⟨k + 1, by omega, rfl, by go_num, HM2⟩
              · skip
                obtain rfl := hmv.same rfl rfl
                obtain ⟨hT, h4, hb⟩ := HX.out
                have HHo := Lib.hid (holdsU hh' Ht.out.cons.cons.cons hT h4 hb (by omega))
                have HK7 := Lib.hid (HK.out.trans hK7)
                clear hT h4 hb hmv hT' hh' hK7 HC HK
                go_wp2_with fail
                refine HHo.out.mono ?_
                rintro r w8 ⟨rfl, hK8, h9⟩
                have h10 := float3 h9
                have t1 : w8.cell? ⟨t, 1, none⟩ = some (.pointer (some ⟨p, 0, none⟩)) := cell_of h9.got 1 rfl
                have lt1 := World.block_lt_of_cell? _ _ t1
                have HP2 := Lib.hid (HPg.out w8 _ _ (h10.pull 4))
                have HK8 := Lib.hid (HK7.out.trans hK8)
                clear hK8 h9 h10 HHo HK7
                go_wp2_with fail
                refine HP2.out.mono ?_
                rintro r w9 ⟨nv, rfl, hK9, h11⟩
                obtain ⟨na, nc, rfl, _, _⟩ := h11.ints_read (v := nv) (xs := Q'.map (·.1)) (.head _)
                rw [Hm.out] at h11 ⊢
                have t0 : w9.cell? ⟨t, 0, none⟩ = some (.pointer (some ⟨sp, 0, none⟩)) := cell_of (h11.at (b := t) (o := (.cells (treesC sp p (ts.map (·.a)) vs) 70 (0, 0))) (by simp [treesT])) 0 rfl
                have lt0 := World.block_lt_of_cell? _ _ t0
                have HF2 := Lib.hid (hfv2.out w9 _ _ (h11.pull 1))
                have HK9 := Lib.hid (HK8.out.trans hK9)
                have hmm : (i != i) = false := by simp
                have hff : (fv != fv) = false := by simp
                clear hK9 h11 HP2 HK8 t1 lt1
                go_wp2_with fail
                refine HF2.out.mono ?_
                rintro r w10 ⟨rfl, hK10, h12⟩
                have HM0 : Hid (Kept w w10 ∧ Has w10 (btS p bank sp (N + 100) es Q' :: intsS (.slice na i nc) (Q'.map (·.1)) :: intsS (.slice ca i cc) ((Q'.map (·.1)).map (holdsOf Q')) :: intsS (.slice wa i wc) (Q'.map (·.1)) :: pts b9 (.cells #[.int .i64 kd, .int .i64 tr, .int .i64 key, .int .i64 val] 83 (0, 0)) :: treesT t sp p (ts.map (·.a)) vs :: (rs.map kvR ++ l))) := ⟨HK9.out.trans hK10, h12⟩
                clear hK10 h12 HF2 HK9 t0 lt0
                go_wp2
                go_loopg [127] i (fun gk iv wr => ∃ j : Nat, j ≤ i ∧ gk = i - j ∧ iv = .int .i64 j ∧ Hid (Kept w wr ∧ Has wr (btS p bank sp (N + 100) es Q' :: intsS (.slice na i nc) (Q'.map (·.1)) :: intsS (.slice ca i cc) ((Q'.map (·.1)).map (holdsOf Q')) :: intsS (.slice wa i wc) (Q'.map (·.1)) :: pts b9 (.cells #[.int .i64 kd, .int .i64 tr, .int .i64 key, .int .i64 val] 83 (0, 0)) :: treesT t sp p (ts.map (·.a)) vs :: (rs.map kvR ++ l))))
                case atStart => exact ⟨0, Nat.zero_le _, rfl, rfl, HM0⟩
                case round =>
                  clear HM0
                  obtain ⟨j, hj, rfl, rfl, HM⟩ := hrel
                  obtain ⟨hK, hh⟩ := HM.out
                  clear HM
                  by_cases hlt3 : j < i
                  · skip
                    obtain ⟨x, hx⟩ : ∃ x, (Q'.map (·.1))[j]'(by have := Hm.out; omega) = x := ⟨_, rfl⟩
                    have hxm : x ∈ Q'.map (·.1) := by rw [← hx]; exact List.getElem_mem _
                    obtain ⟨x0, x1⟩ := Hbp.out x hxm
                    obtain ⟨_, _, e1, _, hrd⟩ := hh.ints_read (v := .slice na i nc) (xs := Q'.map (·.1)) (by simp)
                    injection e1 with e1 e2 e3
                    subst e1
                    obtain ⟨g1, rfl, cz1, _⟩ := hrd j (by have := Hm.out; omega)
                    obtain ⟨_, _, e1, _, hrd2⟩ := hh.ints_read (v := .slice wa i wc) (xs := Q'.map (·.1)) (by simp)
                    injection e1 with e1 e2' e3'
                    subst e1
                    obtain ⟨g2, rfl, cz2, _⟩ := hrd2 j (by have := Hm.out; omega)
                    obtain ⟨_, _, e1, _, hrd3⟩ := hh.ints_read (v := .slice ca i cc) (xs := (Q'.map (·.1)).map (holdsOf Q')) (by simp)
                    injection e1 with e1 e2'' e3''
                    subst e1
                    obtain ⟨g3, rfl, cz3, _⟩ := hrd3 j (by rw [List.length_map]; have := Hm.out; omega)
                    rw [List.getElem_map, hx] at cz3
                    rw [hx] at cz1 cz2
                    have l1 := World.block_lt_of_cell? _ _ cz1
                    have l2 := World.block_lt_of_cell? _ _ cz2
                    have l3 := World.block_lt_of_cell? _ _ cz3
                    have t1 : wr.cell? ⟨t, 1, none⟩ = some (.pointer (some ⟨p, 0, none⟩)) := cell_of (hh.at (b := t) (o := (.cells (treesC sp p (ts.map (·.a)) vs) 70 (0, 0))) (by simp [treesT])) 1 rfl
                    have lt1 := World.block_lt_of_cell? _ _ t1
                    have hb4 := hh.pull 0
                    have HHo : Hid (∀ q, Calls Tryz.prog 34 #[.pointer (some ⟨p, 0, none⟩), .int .i64 x] (wr.drewN q) fun e w'' => e = .returned (.int .i64 (holdsOf Q' x)) ∧ ∃ q', w'' = wr.drewN q') := fun q => quiet_same (bt_Holds (hb4.drewN q) x (by omega) (by omega))
                    obtain ⟨hv, hhv⟩ : ∃ hv, holdsOf Q' x = hv := ⟨_, rfl⟩
                    rw [hhv] at HHo cz3
                    have hxx : (x != x) = false := by simp
                    have hvv : (hv != hv) = false := by simp
                    have hxx' : decide (x ≠ x) = false := by simp
                    have hvv' : decide (hv ≠ hv) = false := by simp
                    have jI : (j : Int) < (i : Int) := by omega
                    have j0 : (0 : Int) ≤ j := by omega
                    have HH := Lib.hid hh
                    have HK := Lib.hid hK
                    clear hh hb4 hK hrd hrd2 hrd3 e2 e3 e2' e3' e2'' e3'' hx hxm hhv
                    go_upto_region 32 with fail
                    go_quiet ((go_at_call 34; exact HHo.out _))
                    have HM2 : Hid (Kept w (wr.drewN nq) ∧ Has (wr.drewN nq) (btS p bank sp (N + 100) es Q' :: intsS (.slice (some ⟨g1, 0, none⟩) i nc) (Q'.map (·.1)) :: intsS (.slice (some ⟨g3, 0, none⟩) i cc) ((Q'.map (·.1)).map (holdsOf Q')) :: intsS (.slice (some ⟨g2, 0, none⟩) i wc) (Q'.map (·.1)) :: pts b9 (.cells #[.int .i64 kd, .int .i64 tr, .int .i64 key, .int .i64 val] 83 (0, 0)) :: treesT t sp p (ts.map (·.a)) vs :: (rs.map kvR ++ l))) := ⟨HK.out.drewN nq, HH.out.drewN nq⟩
                    generalize wr.drewN nq = V at *
                    clear HH HK HHo cz1 cz2 cz3 l1 l2 l3 t1 lt1
                    go_wp2
                    go_roundg (i - (j + 1))
                    case measure => omega
                    case rel => exact ⟨j + 1, by omega, rfl, by go_num, HM2⟩
                  · skip
                    have HM2 : Hid (FuM w l t sp p bank es (k + 1) wr) := by
                      obtain ⟨a1, a2, a3⟩ := HX.out
                      obtain rfl := HN.out
                      refine ⟨Q', ts, vs, rs, a1, a2, fun u hu => by have := a3 u hu; omega, hK, ?_⟩
                      exact Has.skip (A := [_, _]) (M := [_, _, _, _]) (hh.reord [5])
                    clear hh hK HX HN
                    go_wp2
                    go_roundg (n - (k + 1))
                    case measure => omega
                    case rel => exact ⟨k + 1, by omega, rfl, by go_num, HM2⟩
        · skip
          have HA := Lib.hid (awake12 HM.out.hasl Ht.out)
          have HK : Hid (Kept w wr) := by
            obtain ⟨Q, ts, vs, rs, _, _, _, hK, _⟩ := HM.out
            exact hK
          clear HM
          go_wp2_with fail
          refine HA.out.mono ?_
          rintro r w2 ⟨rfl, hK2, h5⟩
          have HF : Hid (Kept w w2 ∧ Has w2 l) := ⟨HK.out.trans hK2, h5⟩
          clear hK2 h5 HA
          go_wp2
          go_ret
          exact ⟨rfl, HF.out.1, HF.out.2⟩
end Go.Proofs.YtgbgneiciabidaaGreatDoor
