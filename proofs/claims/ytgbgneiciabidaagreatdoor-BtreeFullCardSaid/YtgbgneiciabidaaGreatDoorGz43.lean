/-
  The statements of layer 12: which addresses were seen; how many pages of each level.
-/
import Derived.Test.YtgbgneiciabidaaGreatDoorGz42
import Derived.Test.YtgbgneiciabidaaGreatDoorGz41
namespace Go.Proofs.YtgbgneiciabidaaGreatDoor
open Go Go.RowKit
set_option linter.all false

def seenS (v : Value) (Z : List Int) : Say := fun h => ∃ g C, v = .slice (some ⟨g, 0, none⟩) 32768 32768 ∧ h g = some (.cells C 4 (0, 0)) ∧ C.size = 32768 ∧ ∀ k, k < 32768 → C[k]? = some (.bool (decide ((k : Int) ∈ Z)))
theorem Has.seen_read {w : World} {l : List Say} {v : Value} {Z : List Int} (h : Has w l) (hm : seenS v Z ∈ l) : ∃ g, v = .slice (some ⟨g, 0, none⟩) 32768 32768 ∧ ∀ k, k < 32768 → w.cell? ⟨g, k, none⟩ = some (.bool (decide ((k : Int) ∈ Z))) := by
  obtain ⟨q, ⟨g, C, hv, hg, hs, hc⟩, hk⟩ := h.mem hm
  have hb : w.heap[g]? = some (.cells C 4 (0, 0)) := by rw [hk g (by rw [hg]; simp), hg]
  exact ⟨g, hv, fun k hkk => cell_of hb k (hc k hkk)⟩
theorem Has.seen_thaw {w : World} {l : List Say} {g : Nat} {Z : List Int} (h : Has w l) (hm : seenS (.slice (some ⟨g, 0, none⟩) 32768 32768) Z ∈ l) (k : Nat) : w.frozen? ⟨g, k, none⟩ = false := by
  obtain ⟨q, ⟨g', C, hv, hg, hs, hc⟩, hk⟩ := h.mem hm
  cases hv
  have hb : w.heap[g]? = some (.cells C 4 (0, 0)) := by rw [hk g (by rw [hg]; simp), hg]
  exact thaw_of hb k
theorem Has.seen_new {w : World} {l : List Say} {C : Array Value} (h : Has w l) (hs : C.size = 32768) (hc : ∀ k, k < 32768 → C[k]? = some (.bool false)) : Has (w.alloc (.cells C 4)) (seenS (.slice (some ⟨w.heap.size, 0, none⟩) 32768 32768) [] :: l) :=
  (h.alloc (.cells C 4)).head fun q hq => ⟨w.heap.size, C, rfl, hq, hs, fun k hk => by rw [hc k hk]; simp⟩
theorem Has.seen_set {w : World} {l : List Say} {g : Nat} {Z : List Int} (h : Has w (seenS (.slice (some ⟨g, 0, none⟩) 32768 32768) Z :: l)) {k : Nat} (hk : k < 32768) : Has (w.setCell ⟨g, k, none⟩ (.bool true)) (seenS (.slice (some ⟨g, 0, none⟩) 32768 32768) ((k : Int) :: Z) :: l) := by
  obtain ⟨h1, h2, ⟨g', C, hv, hg, hs, hc⟩, hl, d1, d2⟩ := h
  cases hv
  have hp : Has w (pts g (.cells C 4 (0, 0)) :: l) := ⟨h1, h2, hg, hl, d1, d2⟩
  refine (hp.setCell k (.bool true)).head fun q hq => ⟨g, _, rfl, hq, by simpa using hs, fun j hj => ?_⟩
  rw [Array.getElem?_setIfInBounds]
  by_cases e : k = j
  · subst e
    rw [if_pos rfl, if_pos (by omega)]
    simp
  · rw [if_neg e, hc j hj]
    have e2 : ¬ (j : Int) = (k : Int) := by omega
    simp [List.mem_cons, e2]
theorem Has.seen_dup {w : World} {l : List Say} {v : Value} {Z : List Int} {z : Int} (h : Has w (seenS v (z :: Z) :: l)) (hz : z ∈ Z) : Has w (seenS v Z :: l) :=
  h.head fun q ⟨g, C, hv, hg, hs, hc⟩ => ⟨g, C, hv, hg, hs, fun k hk => by
    rw [hc k hk]
    have : (k : Int) ∈ z :: Z ↔ (k : Int) ∈ Z := ⟨fun h => (List.mem_cons.1 h).elim (fun e => by rw [e]; exact hz) id, .tail _⟩
    rw [decide_eq_decide.2 this]⟩
def levS (b : Nat) (c : Nat → Nat) : Say := fun h => ∃ C, h b = some (.cells C 192 (0, 0)) ∧ C.size = 21 ∧ ∀ k, k < 21 → C[k]? = some (.int .i64 (c k))
theorem Has.lev_read {w : World} {l : List Say} {b : Nat} {c : Nat → Nat} (h : Has w l) (hm : levS b c ∈ l) {k : Nat} (hk : k < 21) : w.cell? ⟨b, k, none⟩ = some (.int .i64 (c k)) ∧ w.frozen? ⟨b, k, none⟩ = false := by
  obtain ⟨q, ⟨C, hg, hs, hc⟩, hq⟩ := h.mem hm
  have hb : w.heap[b]? = some (.cells C 192 (0, 0)) := by rw [hq b (by rw [hg]; simp), hg]
  exact ⟨cell_of hb k (hc k hk), thaw_of hb k⟩
theorem Has.lev_set {w : World} {l : List Say} {b : Nat} {c : Nat → Nat} (h : Has w (levS b c :: l)) {k : Nat} (hk : k < 21) : Has (w.setCell ⟨b, k, none⟩ (.int .i64 ((c k + 1 : Nat) : Int))) (levS b (fun j => if j = k then c k + 1 else c j) :: l) := by
  obtain ⟨h1, h2, ⟨C, hg, hs, hc⟩, hl, d1, d2⟩ := h
  have hp : Has w (pts b (.cells C 192 (0, 0)) :: l) := ⟨h1, h2, hg, hl, d1, d2⟩
  refine (hp.setCell k _).head fun q hq => ⟨_, hq, by simpa using hs, fun j hj => ?_⟩
  rw [Array.getElem?_setIfInBounds]
  by_cases e : k = j
  · subst e
    rw [if_pos rfl, if_pos (by omega)]
    simp
  · rw [if_neg e, hc j hj]
    have e2 : ¬ j = k := fun x => e x.symm
    simp [e2]
theorem Has.lev_new {w : World} {l : List Say} {C : Array Value} {b : Nat} (h : Has w (pts b (.cells C 192 (0, 0)) :: l)) (hs : C.size = 21) (hc : ∀ k, k < 21 → C[k]? = some (.int .i64 0)) : Has w (levS b (fun _ => 0) :: l) :=
  h.head fun q hq => ⟨C, hq, hs, hc⟩

def cntLv (Q : Pgs) (Z : List Int) (k : Nat) : Nat := (Z.filter fun z => decide (lvOf Q z = (k : Int))).length
theorem cntLv_snoc (Q : Pgs) (Z : List Int) (z : Int) {lv : Nat} (h : lvOf Q z = (lv : Int)) : cntLv Q (Z ++ [z]) = fun j => if j = lv then cntLv Q Z lv + 1 else cntLv Q Z j := by
  funext j
  unfold cntLv
  rw [List.filter_append, List.length_append]
  by_cases e : j = lv
  · subst e
    simp [h]
  · have : ¬ (lv : Int) = (j : Int) := by omega
    simp [h, this, e]
def seenTo (Z0 Z : List Int) : List Int := Z.foldl (fun A z => if z ∈ A then A else z :: A) Z0
theorem seenTo_snoc (Z0 Z : List Int) (z : Int) : seenTo Z0 (Z ++ [z]) = if z ∈ seenTo Z0 Z then seenTo Z0 Z else z :: seenTo Z0 Z := by
  unfold seenTo
  rw [List.foldl_append]
  rfl
theorem seenTo_mem : ∀ (Z Z0 : List Int) (x : Int), x ∈ seenTo Z0 Z ↔ x ∈ Z0 ∨ x ∈ Z
  | [], Z0, x => by simp [seenTo]
  | z :: Z, Z0, x => by
    show x ∈ seenTo (if z ∈ Z0 then Z0 else z :: Z0) Z ↔ _
    rw [seenTo_mem Z]
    by_cases h : z ∈ Z0
    · rw [if_pos h]
      constructor
      · rintro (h1 | h1)
        · exact .inl h1
        · exact .inr (.tail _ h1)
      · rintro (h1 | h1)
        · exact .inl h1
        · rcases List.mem_cons.1 h1 with rfl | h1
          · exact .inl h
          · exact .inr h1
    · rw [if_neg h]
      simp only [List.mem_cons]
      constructor
      · rintro ((h1 | h1) | h1)
        · exact .inr (.inl h1)
        · exact .inl h1
        · exact .inr (.inr h1)
      · rintro (h1 | h1 | h1)
        · exact .inl (.inr h1)
        · exact .inl (.inl h1)
        · exact .inr h1
theorem seenTo_two : ∀ (Z Z0 : List Int), Z0.Nodup → (seenTo Z0 Z).Nodup
  | [], Z0, h => h
  | z :: Z, Z0, h => by
    show (seenTo (if z ∈ Z0 then Z0 else z :: Z0) Z).Nodup
    refine seenTo_two Z _ ?_
    split
    · exact h
    · rename_i h1
      exact List.nodup_cons.2 ⟨h1, h⟩
end Go.Proofs.YtgbgneiciabidaaGreatDoor
/-
  The statements of layer 12: scripts that lie wherever they lie; pairs appended to pairs; pages of items, in plain Lean.
-/
namespace Go.Proofs.YtgbgneiciabidaaGreatDoor
open Go Go.RowKit
set_option linter.all false

structure O4 where
  kd : Int
  tr : Int
  key : Int
  val : Int
def O4At (w : World) (g i : Nat) (o : O4) : Prop := w.cell? ⟨g, i, none⟩ = some (.int .i64 o.kd) ∧ w.cell? ⟨g, i + 1, none⟩ = some (.int .i64 o.tr) ∧ w.cell? ⟨g, i + 2, none⟩ = some (.int .i64 o.key) ∧ w.cell? ⟨g, i + 3, none⟩ = some (.int .i64 o.val)
def O4Rd (w : World) (v : Value) (os : List O4) : Prop := ∃ a c, v = .slice a os.length c ∧ ∀ k (hk : k < os.length), ∃ g o, a = some ⟨g, o, none⟩ ∧ O4At w g (o + k * 4) os[k]
def O4Srcs (l : List Say) (v : Value) (os : List O4) : Prop := ∀ w, Has w l → O4Rd w v os

theorem feed_take {lim : Nat} : ∀ (acc T : List KV), acc.length < lim → (feed (lim : Int) acc T).1 = acc ++ T.take (lim - acc.length)
  | acc, [], _ => by simp [feed]
  | acc, x :: T, h => by
    unfold feed
    by_cases e : (acc.length : Int) + 1 = (lim : Int)
    · rw [if_pos e, show lim - acc.length = 0 + 1 by omega]
      rfl
    · rw [if_neg e, feed_take (acc ++ [x]) T (by rw [List.length_append, List.length_singleton]; omega)]
      rw [show lim - acc.length = (lim - (acc ++ [x]).length) + 1 by rw [List.length_append, List.length_singleton]; omega, List.take_succ_cons, List.append_assoc]
      rfl
theorem items_take {fr : Int} {lim : Nat} {L : List KV} (h : 1 ≤ lim) : itemsL fr (lim : Int) L = (fromL fr L).take lim := by
  unfold itemsL
  rw [if_neg (by omega), feed_take [] _ (by show 0 < lim; omega)]
  rfl
structure PgAt (L A B : List KV) (fr : Int) : Prop where
  all : L = A ++ B
  lo : ∀ p ∈ A, p.1 < fr
  hi : ∀ p ∈ B, fr ≤ p.1
theorem PgAt.from {L A B : List KV} {fr : Int} (h : PgAt L A B fr) : fromL fr L = B := by
  rw [h.all, fromL_app, fromL_none h.lo]
  unfold fromL
  rw [List.filter_eq_self.2 (fun p hp => by simpa using h.hi p hp)]
  rfl
theorem PgAt.next {L A B : List KV} {fr : Int} (h : PgAt L A B fr) (hs : Srt L) {n : Nat} (h1 : 1 ≤ n) (hn : n ≤ B.length) {x : KV} (hx : B[n - 1]? = some x) : PgAt L (A ++ B.take n) (B.drop n) (x.1 + 1) := by
  have hs2 := hs
  rw [h.all] at hs2
  have hsB := hs2.right
  have hts := take_succ hx
  rw [show n - 1 + 1 = n by omega] at hts
  refine ⟨by rw [List.append_assoc, List.take_append_drop]; exact h.all, fun p hp => ?_, fun p hp => ?_⟩
  · rcases List.mem_append.1 hp with hp | hp
    · have h2 := h.lo p hp
      have h3 := h.hi x (List.mem_of_getElem? hx)
      omega
    · rw [hts.1] at hp
      rcases List.mem_append.1 hp with hp | hp
      · have h4 : Srt (B.take (n - 1) ++ x :: B.drop n) := by rw [← hts.2]; exact hsB
        have := (List.pairwise_append.1 h4).2.2 p hp x (.head _)
        omega
      · have : p = x := by simpa using hp
        rw [this]
        omega
  · have h4 : Srt (B.take (n - 1) ++ x :: B.drop n) := by rw [← hts.2]; exact hsB
    have := (List.pairwise_cons.1 (List.pairwise_append.1 h4).2.1).1 p hp
    omega
end Go.Proofs.YtgbgneiciabidaaGreatDoor
/-
  BtreePages: the walk.
-/
namespace Go.Proofs.YtgbgneiciabidaaGreatDoor
open Go Go.RowKit
set_option linter.all false

def ScrM (w : World) (l : List Say) (t sp p bank k : Nat) (wr : World) : Prop :=
  ∃ (Q : Pgs) (ts : List Tre) (vs : List Value) (rs : List (Value × List KV)), Grove Q ts ∧ Rows4 ts vs rs ∧ (∀ u ∈ ts, u.s ≤ 2 * k ∧ u.L.length ≤ k) ∧ Kept w wr ∧ Has wr (treesT t sp p (ts.map (·.a)) vs :: btS p bank sp (100 * k) (eSizes [400, 400]) Q :: (rs.map kvR ++ l))
theorem ScrM.start {w wr : World} {l : List Say} {t sp p bank : Nat} (hK : Kept w wr) (h : Has wr (treesS t sp p :: btS p bank sp 0 (eSizes [400, 400]) [] :: l)) : ScrM w l t sp p bank 0 wr := by
  refine ⟨[], [noTre, noTre, noTre, noTre], [.slice none 0 0, .slice none 0 0, .slice none 0 0, .slice none 0 0], [(.slice none 0 0, [])], Grove.nil.more.more.more.more, ⟨rfl, rfl, fun i t v h1 h2 => ?_⟩, fun u hu => ?_, hK, ?_⟩
  · have e1 : t = noTre := by
      have := List.mem_of_getElem? h1
      simpa using this
    have e2 : v = .slice none 0 0 := by
      have := List.mem_of_getElem? h2
      simpa using this
    rw [e1, e2]
    exact .head _
  · have e1 : u = noTre := by simpa using hu
    rw [e1]
    exact ⟨Nat.zero_le _, Nat.zero_le _⟩
  · have h2 : Has wr (kvS (.slice none 0 0) [] :: treesS t sp p :: btS p bank sp 0 (eSizes [400, 400]) [] :: l) := h.row_nil _ _
    exact h2.reord [1, 1]
theorem ScrM.more {w wr : World} {l : List Say} {t sp p bank k : Nat} (h : ScrM w l t sp p bank k wr) : ScrM w l t sp p bank (k + 1) wr := by
  obtain ⟨Q, ts, vs, rs, hT, h4, hb, hK, hh⟩ := h
  exact ⟨Q, ts, vs, rs, hT, h4, fun u hu => by have := hb u hu; omega, hK, (Has.bt_more (show 100 * k ≤ 100 * (k + 1) by omega) hh.swap).swap⟩
theorem ScrM.hasl {w wr : World} {l : List Say} {t sp p bank k : Nat} (h : ScrM w l t sp p bank k wr) : Has wr l := by
  obtain ⟨Q, ts, vs, rs, hT, h4, hb, hK, hh⟩ := h
  exact Has.right (m := rs.map kvR) hh.tail.tail
theorem ScrM.keptw {w wr : World} {l : List Say} {t sp p bank k : Nat} (h : ScrM w l t sp p bank k wr) : Kept w wr := by
  obtain ⟨Q, ts, vs, rs, hT, h4, hb, hK, hh⟩ := h
  exact hK
def StepRes (w : World) (l : List Say) (t sp p bank k : Nat) (r : Ending) (wr : World) : Prop := r = .returned (.tuple #[.bool true, .bool false]) ∧ ScrM w l t sp p bank (k + 1) wr
theorem ScrM.step {w wr : World} {l : List Say} {t sp p bank k : Nat} (h : ScrM w l t sp p bank k wr) (ht : Tab l) (hk : k ≤ 160) (kd tr key val : Int) :
    Calls Tryz.prog 46 #[.pointer (some ⟨t, 0, none⟩), .agg #[.int .i64 kd, .int .i64 tr, .int .i64 key, .int .i64 val]] wr (StepRes w l t sp p bank k) := by
  obtain ⟨Q, ts, vs, rs, hT, h4, hb, hK, hh⟩ := h
  refine (law_step kd tr key val hh ht hT h4 (by omega) (fun u hu => by have := hb u hu; omega)).mono ?_
  rintro r w' (⟨rfl, hK2, Q', ts', vs', rs', hst, hT', h4', hh'⟩ | hf)
  · refine ⟨rfl, Q', ts', vs', rs', hT', h4', hst.grow hb, hK.trans hK2, ?_⟩
    rw [show 100 * (k + 1) = 100 * k + 100 by omega]
    exact hh'
  · refine (hf.never hh.tail.bt_inv.1 hT rfl rfl ?_).elim
    have := weighs_le (ts := ts) (B := 2 * k) fun u hu => (hb u hu).1
    rw [h4.four] at this
    omega
end Go.Proofs.YtgbgneiciabidaaGreatDoor
/-
  BtreeFinds: the walk.
-/
namespace Go.Proofs.YtgbgneiciabidaaGreatDoor
open Go Go.RowKit
set_option linter.all false

theorem bt_Pages {w : World} {l : List Say} {p bank sp N : Nat} {es : List Ent} {Q : Pgs} (h : Has w (btS p bank sp N es Q :: l)) (hn : Q.length ≤ 100000) :
    Calls Tryz.prog 25 #[.pointer (some ⟨p, 0, none⟩)] w (PagesPost Q (btS p bank sp N es Q :: l) w) := by
  obtain ⟨disks, X, hI, hR, hH, hh⟩ := h.bt_open
  refine (st_Pages hh hn).mono ?_
  rintro r w' ⟨v, rfl, hK, h1⟩
  have h2 : Has w' (trio p bank sp N Q disks X (intsS v (Q.map (·.1)) :: l)) := h1.reord [1, 1, 1]
  exact ⟨v, rfl, hK, (Has.bt_shut hI hR hH h2).swap⟩
end Go.Proofs.YtgbgneiciabidaaGreatDoor
