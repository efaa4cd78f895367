/-
  BtreeOrders, in plain Lean: the same pairs in two orders.
-/
import Derived.Test.YtgbgneiciabidaaGreatDoorGo45
import Derived.Test.YtgbgneiciabidaaGreatDoorGo19
namespace Go.Proofs.YtgbgneiciabidaaGreatDoor
open Go Go.RowKit
set_option linter.all false

/-- Pairs that rise strictly are told by their members. -/
theorem srt_ext : ∀ {A B : List KV}, Srt A → Srt B → (∀ p, p ∈ A ↔ p ∈ B) → A = B
  | [], [], _, _, _ => rfl
  | [], y :: B, _, _, h => by have := (h y).2 (.head _); cases this
  | x :: A, [], _, _, h => by have := (h x).1 (.head _); cases this
  | x :: A, y :: B, hA, hB, h => by
    have a1 := List.pairwise_cons.1 hA
    have b1 := List.pairwise_cons.1 hB
    have hxy : x = y := by
      rcases List.mem_cons.1 ((h x).1 (.head _)) with e | hx
      · exact e
      · rcases List.mem_cons.1 ((h y).2 (.head _)) with e | hy
        · exact e.symm
        · have := a1.1 y hy
          have := b1.1 x hx
          omega
    subst hxy
    refine congrArg (x :: ·) (srt_ext a1.2 b1.2 fun p => ⟨fun hp => ?_, fun hp => ?_⟩)
    · rcases List.mem_cons.1 ((h p).1 (.tail _ hp)) with rfl | hm
      · have := a1.1 p hp; omega
      · exact hm
    · rcases List.mem_cons.1 ((h p).2 (.tail _ hp)) with rfl | hm
      · have := b1.1 p hp; omega
      · exact hm
theorem putL_iff {L : List KV} {k v : Int} {p : KV} : p ∈ putL L k v ↔ p = (k, v) ∨ (p ∈ L ∧ p.1 ≠ k) := by
  unfold putL
  simp only [List.mem_append, List.mem_cons, List.mem_filter, decide_eq_true_eq]
  constructor
  · rintro (⟨h, h2⟩ | rfl | ⟨h, h2⟩)
    · exact .inr ⟨h, by omega⟩
    · exact .inl rfl
    · exact .inr ⟨h, by omega⟩
  · rintro (rfl | ⟨h, h2⟩)
    · exact .inr (.inl rfl)
    · rcases Int.lt_or_gt_of_ne h2 with h3 | h3
      · exact .inl ⟨h, h3⟩
      · exact .inr (.inr ⟨h, h3⟩)
theorem delL_iff {L : List KV} {k : Int} {p : KV} : p ∈ delL L k ↔ p ∈ L ∧ p.1 ≠ k := by
  unfold delL
  simp [List.mem_filter]
/-- Sets, one behind the other; deletes. -/
def setsL (ks : List KV) : List KV := ks.foldl (fun L p => putL L p.1 p.2) []
def delsL (L : List KV) (ks : List Int) : List KV := ks.foldl delL L
theorem setsL_snoc (ks : List KV) (p : KV) : setsL (ks ++ [p]) = putL (setsL ks) p.1 p.2 := by simp [setsL]
theorem delsL_snoc (L : List KV) (ks : List Int) (k : Int) : delsL L (ks ++ [k]) = delL (delsL L ks) k := by simp [delsL]
theorem sets_srt_go : ∀ (ks : List KV) {L : List KV}, Srt L → Srt (ks.foldl (fun L p => putL L p.1 p.2) L)
  | [], _, h => h
  | p :: ks, _, h => sets_srt_go ks (putL_srt h p.1 p.2)
theorem setsL_srt (ks : List KV) : Srt (setsL ks) := sets_srt_go ks List.Pairwise.nil
theorem delsL_srt : ∀ (ks : List Int) {L : List KV}, Srt L → Srt (delsL L ks)
  | [], _, h => h
  | k :: ks, _, h => delsL_srt ks (delL_srt h k)
theorem delsL_iff : ∀ (ks : List Int) {L : List KV} {p : KV}, p ∈ delsL L ks ↔ p ∈ L ∧ p.1 ∉ ks
  | [], L, p => by simp [delsL]
  | k :: ks, L, p => by
    show p ∈ delsL (delL L k) ks ↔ _
    rw [delsL_iff ks, delL_iff]
    simp only [List.mem_cons, not_or]
    exact ⟨fun ⟨⟨a, b⟩, c⟩ => ⟨a, b, c⟩, fun ⟨a, b, c⟩ => ⟨⟨a, b⟩, c⟩⟩
theorem sets_iff_go : ∀ (ks : List KV) {L : List KV} {p : KV}, (ks.map (·.1)).Nodup → (∀ q ∈ L, q.1 ∉ ks.map (·.1)) → (p ∈ ks.foldl (fun L p => putL L p.1 p.2) L ↔ p ∈ L ∨ p ∈ ks)
  | [], L, p, _, _ => by simp
  | q :: ks, L, p, hn, hL => by
    have hn' := List.nodup_cons.1 (show (q.1 :: ks.map (·.1)).Nodup from hn)
    show p ∈ ks.foldl (fun L p => putL L p.1 p.2) (putL L q.1 q.2) ↔ _
    rw [sets_iff_go ks hn'.2 (fun x hx => ?_), putL_iff, List.mem_cons]
    · constructor
      · rintro ((rfl | ⟨h, _⟩) | h)
        · exact .inr (.inl rfl)
        · exact .inl h
        · exact .inr (.inr h)
      · rintro (h | rfl | h)
        · exact .inl (.inr ⟨h, fun e => hL p h (by rw [e]; exact .head _)⟩)
        · exact .inl (.inl rfl)
        · exact .inr h
    · rcases putL_iff.1 hx with rfl | ⟨h, _⟩
      · exact hn'.1
      · exact fun hm => hL x h (.tail _ hm)
theorem setsL_iff {ks : List KV} (hn : (ks.map (·.1)).Nodup) {p : KV} : p ∈ setsL ks ↔ p ∈ ks := by
  unfold setsL
  rw [sets_iff_go ks hn (fun q hq => by cases hq)]
  simp
/-- The pairs that BtreeOrders puts, in some order of the keys. -/
def keyed (l xs : List Int) : List KV := xs.map fun k => (k, plc l k + 1)
theorem keyed_keys (l xs : List Int) : (keyed l xs).map (·.1) = xs := by
  unfold keyed
  rw [List.map_map]
  exact List.map_id' xs
theorem orders_same {l xs ys : List Int} (hx : xs.Nodup) (h : xs.Perm ys) : setsL (keyed l xs) = setsL (keyed l ys) := by
  have hy : ys.Nodup := h.nodup_iff.1 hx
  refine srt_ext (setsL_srt _) (setsL_srt _) fun p => ?_
  rw [setsL_iff (by rw [keyed_keys]; exact hx), setsL_iff (by rw [keyed_keys]; exact hy)]
  unfold keyed
  exact (h.map _).mem_iff
theorem dels_same {L : List KV} (hL : Srt L) {xs ys : List Int} (h : ∀ k, k ∈ xs ↔ k ∈ ys) : delsL L xs = delsL L ys := by
  refine srt_ext (delsL_srt _ hL) (delsL_srt _ hL) fun p => ?_
  rw [delsL_iff, delsL_iff, h]
end Go.Proofs.YtgbgneiciabidaaGreatDoor
/-
  BtreeOrders, in plain Lean: how many pairs; never full.
-/
namespace Go.Proofs.YtgbgneiciabidaaGreatDoor
open Go Go.RowKit
set_option linter.all false

theorem parts_len {k : Int} : ∀ {L : List KV}, (∀ p ∈ L, p.1 ≠ k) → (L.filter fun p => decide (p.1 < k)).length + (L.filter fun p => decide (k < p.1)).length = L.length
  | [], _ => rfl
  | p :: L, h => by
    have ih := parts_len (L := L) fun q hq => h q (.tail _ hq)
    have hp := h p (.head _)
    rw [List.filter_cons, List.filter_cons]
    rcases Int.lt_or_gt_of_ne hp with h1 | h1
    · have h2 : ¬ k < p.1 := by omega
      simp only [h1, h2, decide_true, decide_false, if_true, Bool.false_eq_true, if_false, List.length_cons]
      omega
    · have h2 : ¬ p.1 < k := by omega
      have h3 : k < p.1 := h1
      simp only [h2, h3, decide_true, decide_false, if_true, Bool.false_eq_true, if_false, List.length_cons]
      omega
theorem putL_new {L : List KV} {k v : Int} (h : ∀ p ∈ L, p.1 ≠ k) : (putL L k v).length = L.length + 1 := by
  have := parts_len h
  unfold putL
  rw [List.length_append, List.length_cons, ← Nat.add_assoc]
  exact congrArg (· + 1) this
theorem delL_len : ∀ {L : List KV} {k : Int}, Srt L → (∃ x ∈ L, x.1 = k) → (delL L k).length + 1 = L.length
  | [], k, _, ⟨x, hx, _⟩ => by cases hx
  | p :: L, k, hs, ⟨x, hx, hk⟩ => by
    have h1 := List.pairwise_cons.1 hs
    unfold delL
    rw [List.filter_cons]
    rcases List.mem_cons.1 hx with rfl | hm
    · have e : L.filter (fun q => !(q.1 == k)) = L := List.filter_eq_self.2 fun q hq => by have := h1.1 q hq; simp; omega
      rw [show (!(x.1 == k)) = false by simp [hk]]
      simp only [Bool.false_eq_true, if_false, List.length_cons]
      rw [e]
    · have hne : p.1 ≠ k := by have := h1.1 x hm; omega
      rw [show (!(p.1 == k)) = true by simp [hne]]
      simp only [if_true, List.length_cons]
      have := delL_len h1.2 ⟨x, hm, hk⟩
      unfold delL at this
      omega
theorem setsL_len : ∀ (ks : List KV), (ks.map (·.1)).Nodup → (setsL ks).length = ks.length := fun ks => by
  have go : ∀ n, n ≤ ks.length → (ks.map (·.1)).Nodup → (setsL (ks.take n)).length = n := fun n => by
    induction n with
    | zero => intro _ _; rfl
    | succ n ih =>
      intro hn hd
      have hx : ks[n]? = some ks[n] := List.getElem?_eq_getElem (by omega)
      rw [(take_succ hx).1, setsL_snoc, putL_new, ih (by omega) hd]
      intro p hp e
      have hd1 : ((ks.take n).map (·.1)).Nodup := by
        rw [List.map_take]
        exact hd.sublist (List.take_sublist _ _)
      have hp' := (setsL_iff hd1).1 hp
      have hd2 : ((ks.take (n + 1)).map (·.1)).Nodup := by
        rw [List.map_take]
        exact hd.sublist (List.take_sublist _ _)
      rw [(take_succ hx).1, List.map_append, List.nodup_append] at hd2
      exact hd2.2.2 p.1 (List.mem_map.2 ⟨p, hp', rfl⟩) ks[n].1 (by simp) e
  intro hd
  have := go ks.length (Nat.le_refl _) hd
  rwa [List.take_length] at this
theorem getK_has {L : List KV} (hs : Srt L) {k : Int} (h : ∃ x ∈ L, x.1 = k) : ∃ v, getK L k = some v := by
  obtain ⟨⟨a, v⟩, hx, rfl⟩ := h
  exact ⟨v, getK_at hs hx⟩
/-- A device of 400 that is full has 398 pages. -/
theorem full_len {es : List Ent} {Q : Pgs} (h : FullQ es Q) (he : es[0]? = some ⟨1, 400⟩) : 398 ≤ Q.length := by
  have hup : VMap.Up ((List.range 398).map fun i => (lenV 0 (i + 2), (⟨⟨0, [], []⟩, 0, 0⟩ : Pg))) := by
    refine List.pairwise_map.2 (List.Pairwise.imp ?_ List.pairwise_lt_range)
    intro a b hab
    show lenV 0 (a + 2) < lenV 0 (b + 2)
    unfold lenV
    omega
  have := len_in hup (Z := Q.map (·.1)) fun a g hg => by
    obtain ⟨i, hi, e⟩ := List.mem_map.1 (get_mem hg)
    injection e with e _
    have hi := List.mem_range.1 hi
    have h1 := h 0 ⟨1, 400⟩ he rfl (i + 2) (by omega) (by show i + 2 < 400; omega)
    rw [e] at h1
    obtain ⟨g', hg'⟩ := Option.isSome_iff_exists.1 h1
    exact List.mem_map.2 ⟨(a, g'), get_mem hg', rfl⟩
  rw [List.length_map, List.length_map, List.length_range] at this
  exact this
theorem Root.pages {es : List Ent} {Q : Pgs} (hI : FInv es Q (fun _ => 0)) {a : Int} {L : List KV} {s : Nat} (h : Root Q a L s) : ∃ Z : List Int, 2 * Z.length ≤ s ∧ (0 < heldOf Q a → a ∈ Z) ∧ ∀ b ∈ Z, ∀ g, VMap.get b Q = some g → ∀ c ∈ g.n.kids, c ∈ Z := by
  rcases h.it with ⟨rfl, _, rfl⟩ | ⟨lv, hT, _, _⟩
  · refine ⟨[], by simp, fun hp => ?_, fun b hb => by cases hb⟩
    obtain ⟨g, hg, _⟩ := heldOf_some hp
    rw [root_none hI] at hg
    cases hg
  · obtain ⟨Z, h1, h2, h3⟩ := hT.pages hI
    exact ⟨Z, h1, fun _ => h2, h3⟩
theorem never_full {es : List Ent} {Q Q1 : Pgs} {news : List (Int × Nd)} {a b : Int} {La Lb : List KV} {sa sb : Nat} (he : es[0]? = some ⟨1, 400⟩) (hI : FInv es Q (fun _ => 0)) (hL : Live Q) (hheld : ∀ x, 0 < heldOf Q x → x = a ∨ x = b) (ha : Root Q a La sa) (hb : Root Q b Lb sb) (hs : sa + sb ≤ 600) (hp : Puts es Q news Q1) (hn : news.length ≤ 50) (hf : FullQ es Q1) : False := by
  obtain ⟨Za, a1, a2, a3⟩ := ha.pages hI
  obtain ⟨Zb, b1, b2, b3⟩ := hb.pages hI
  have hall := hL.all hI (Z := Za ++ Zb) (fun x g hg hpos => by
    have h1 : 0 < heldOf Q x := by unfold heldOf; rw [hg]; exact hpos
    rcases hheld x h1 with rfl | rfl
    · exact List.mem_append_left _ (a2 h1)
    · exact List.mem_append_right _ (b2 h1)) (fun x hx g hg c hc => by
    rcases List.mem_append.1 hx with h | h
    · exact List.mem_append_left _ (a3 x h g hg c hc)
    · exact List.mem_append_right _ (b3 x h g hg c hc))
  have h1 := len_in hI.up hall
  have h2 := hp.len hI.up (hp.inv hI).up
  have h3 := full_len hf he
  rw [List.length_append] at h1
  omega
end Go.Proofs.YtgbgneiciabidaaGreatDoor
/-
  Twin trees in one store that is never full.
-/
namespace Go.Proofs.YtgbgneiciabidaaGreatDoor
open Go Go.RowKit
set_option linter.all false

structure Twin (Q : Pgs) (a : Int) (La : List KV) (sa : Nat) (b : Int) (Lb : List KV) (sb : Nat) : Prop where
  live : Live Q
  ra : Root Q a La sa
  rb : Root Q b Lb sb
  held : ∀ x, heldOf Q x = oneAt a x + oneAt b x
theorem Twin.swap {Q : Pgs} {a b : Int} {La Lb : List KV} {sa sb : Nat} (h : Twin Q a La sa b Lb sb) : Twin Q b Lb sb a La sa := ⟨h.live, h.rb, h.ra, fun x => by rw [h.held, Int.add_comm]⟩
theorem Twin.nil : Twin [] 0 [] 0 0 [] 0 := by
  refine ⟨fun a g h => ?_, .nil _, .nil _, fun x => ?_⟩
  · cases h
  · unfold oneAt
    rw [if_neg (fun x => x.2 rfl)]
    rfl
theorem oneAt_nn (a x : Int) : 0 ≤ oneAt a x := by
  unfold oneAt
  split <;> decide
theorem oneAt_pos {a x : Int} (h : 0 < oneAt a x) : x = a := by
  unfold oneAt at h
  split at h
  · rename_i e; exact e.1
  · cases h
theorem Twin.who {Q : Pgs} {a b : Int} {La Lb : List KV} {sa sb : Nat} (h : Twin Q a La sa b Lb sb) : ∀ x, 0 < heldOf Q x → x = a ∨ x = b := fun x hx => by
  rw [h.held] at hx
  by_cases h1 : 0 < oneAt a x
  · exact .inl (oneAt_pos h1)
  · have := oneAt_nn a x
    exact .inr (oneAt_pos (by omega))
theorem Twin.moved {Q Q' : Pgs} {a b ta : Int} {La Lb L' : List KV} {sa sb s' : Nat} (h : Twin Q a La sa b Lb sb) (hL : Live Q') (hm : Moved Q Q' a ta) (hR : Root Q' ta L' s') : Twin Q' ta L' s' b Lb sb := by
  have hheld : ∀ x, heldOf Q' x = oneAt ta x + oneAt b x := fun x => by
    have h1 := hm.held x
    have h2 := h.held x
    omega
  refine ⟨hL, hR, ?_, hheld⟩
  rcases h.rb.it with ⟨rfl, rfl, rfl⟩ | ⟨lv, hT, hs, hp⟩
  · exact .nil _
  · have hb : 0 < heldOf Q' b := by
      have h2 := h.held b
      have h3 := hheld b
      have h4 := oneAt_nn ta b
      by_cases hb0 : b = 0
      · subst hb0
        exfalso
        have e : oneAt 0 0 = 0 := rfl
        have h5 : 0 < oneAt a 0 := by omega
        have e2 := oneAt_pos h5
        subst e2
        have h6 : oneAt 0 0 = 0 := rfl
        omega
      · have : oneAt b b = 1 := by unfold oneAt; rw [if_pos ⟨rfl, hb0⟩]
        omega
    exact ⟨.inr ⟨lv, hm.tree b lv Lb sb hb hT, hs, hb⟩⟩
/-- A change of the first of two trees, in a store that is never full. -/
def TwoPost (p bank sp N : Nat) (es : List Ent) (L' : List KV) (B : Nat) (b : Int) (Lb : List KV) (sb : Nat) (l : List Say) (w : World) (r : Ending) (w' : World) : Prop :=
  ∃ ta Q' s', r = .returned (.tuple #[.int .i64 ta, .nilIface]) ∧ Kept w w' ∧ s' ≤ B ∧ Twin Q' ta L' s' b Lb sb ∧ Has w' (btS p bank sp (N + 50) es Q' :: l)
theorem TreePost.two {p bank sp N : Nat} {es : List Ent} {Q : Pgs} {a b : Int} {La Lb L' : List KV} {sa sb B : Nat} {l : List Say} {w w' : World} {r : Ending} (h : TreePost p bank sp N es Q a L' B l w r w') (hI : FInv es Q (fun _ => 0)) (he : es[0]? = some ⟨1, 400⟩) (h2 : Twin Q a La sa b Lb sb) (hs : sa + sb ≤ 600) : TwoPost p bank sp N es L' B b Lb sb l w r w' := by
  obtain ⟨hK, Q', hL, hh, (⟨_, ⟨Q1, news, hp, hn, hf, _⟩, _⟩ | ⟨ta, s', hr, hm, hB, hR, _⟩)⟩ := h
  · exact (never_full he hI h2.live h2.who h2.ra h2.rb hs hp hn hf).elim
  · exact ⟨ta, Q', s', hr, hK, hB, h2.moved hL hm hR, hh⟩
theorem two_Set {w : World} {l : List Say} {p bank sp N : Nat} {es : List Ent} {Q : Pgs} (a key val : Int) {b : Int} {La Lb : List KV} {sa sb : Nat} (h : Has w (btS p bank sp N es Q :: l)) (ht : Tab l) (he : es[0]? = some ⟨1, 400⟩) (h2 : Twin Q a La sa b Lb sb) (hs : sa + sb ≤ 600) (hN : N ≤ 200000) (hp : pairOk key val = true) :
    Calls Tryz.prog 39 #[.pointer (some ⟨p, 0, none⟩), .int .i64 a, .int .i64 key, .int .i64 val] w (TwoPost p bank sp N es (putL La key val) (sa + 2) b Lb sb l w) := by
  refine (bt_Set a key val h ht h2.ra h2.live hN (by omega)).mono ?_
  rintro r w' (⟨hno, _⟩ | ⟨_, ht⟩)
  · rw [hp] at hno; cases hno
  · exact ht.two h.bt_inv.1 he h2 hs
theorem two_Delete {w : World} {l : List Say} {p bank sp N : Nat} {es : List Ent} {Q : Pgs} (a key : Int) {b : Int} {La Lb : List KV} {sa sb : Nat} (h : Has w (btS p bank sp N es Q :: l)) (ht : Tab l) (he : es[0]? = some ⟨1, 400⟩) (h2 : Twin Q a La sa b Lb sb) (hs : sa + sb ≤ 600) (hN : N ≤ 200000) (hk : ∃ x ∈ La, x.1 = key) :
    Calls Tryz.prog 44 #[.pointer (some ⟨p, 0, none⟩), .int .i64 a, .int .i64 key] w (TwoPost p bank sp N es (delL La key) sa b Lb sb l w) := by
  refine (bt_Delete a key h ht h2.ra h2.live hN (by omega)).mono ?_
  rintro r w' (⟨hno, _⟩ | ⟨_, ht⟩)
  · obtain ⟨v, hv⟩ := getK_has h2.ra.srt hk
    rw [hv] at hno; cases hno
  · exact ht.two h.bt_inv.1 he h2 hs
end Go.Proofs.YtgbgneiciabidaaGreatDoor
/-
  Is it a right tree, of any root.
-/
namespace Go.Proofs.YtgbgneiciabidaaGreatDoor
open Go Go.RowKit
set_option linter.all false

set_option maxRecDepth 100000 in
theorem check_none {w : World} {l : List Say} {p bank sp N : Nat} {es : List Ent} {Q : Pgs} (h : Has w (btS p bank sp N es Q :: l)) :
    Calls Tryz.prog 45 #[.pointer (some ⟨p, 0, none⟩), .int .i64 0] w (CkPost p bank sp N es Q l w) := by
  have H := Lib.hid h
  clear h
  go_enter Tryz.func45, Tryz.ntmps45
  go_wp2
  go_ret
  exact ⟨rfl, Kept.refl w, H.out⟩
theorem bt_CheckR {w : World} {l : List Say} {p bank sp N : Nat} {es : List Ent} {Q : Pgs} (root : Int) {L : List KV} {s : Nat} (h : Has w (btS p bank sp N es Q :: l)) (hR : Root Q root L s) (hlen : L.length ≤ 100000) :
    Calls Tryz.prog 45 #[.pointer (some ⟨p, 0, none⟩), .int .i64 root] w (CkPost p bank sp N es Q l w) := by
  rcases hR.it with ⟨rfl, rfl, rfl⟩ | ⟨lv, hT, hs, _⟩
  · exact check_none h
  · exact bt_check lv root h hT hs hlen
end Go.Proofs.YtgbgneiciabidaaGreatDoor
/-
  BtreeOrders, in plain Lean: the keys that are kept; deletes' lengths.
-/
namespace Go.Proofs.YtgbgneiciabidaaGreatDoor
open Go Go.RowKit
set_option linter.all false

def gath (ks : List Int) : List Int := ks.foldl (fun l k => if 0 ≤ k ∧ k ≤ 1099511627776 ∧ k ∉ l then l ++ [k] else l) []
theorem gath_snoc (ks : List Int) (k : Int) : gath (ks ++ [k]) = if 0 ≤ k ∧ k ≤ 1099511627776 ∧ k ∉ gath ks then gath ks ++ [k] else gath ks := by
  unfold gath
  rw [List.foldl_append]
  rfl
theorem gath_len (ks : List Int) : ∀ n, (gath (ks.take n)).length ≤ n
  | 0 => by simp [gath]
  | n + 1 => by
    have ih := gath_len ks n
    by_cases h : n < ks.length
    · rw [List.take_succ_eq_append_getElem h, gath_snoc]
      split
      · rw [List.length_append, List.length_singleton]; omega
      · omega
    · rw [List.take_of_length_le (by omega)]
      rw [List.take_of_length_le (by omega)] at ih
      omega
theorem gath_go : ∀ (ks l : List Int), l.Nodup → (∀ x ∈ l, 0 ≤ x ∧ x ≤ 1099511627776) → (ks.foldl (fun l k => if 0 ≤ k ∧ k ≤ 1099511627776 ∧ k ∉ l then l ++ [k] else l) l).Nodup ∧ ∀ x ∈ ks.foldl (fun l k => if 0 ≤ k ∧ k ≤ 1099511627776 ∧ k ∉ l then l ++ [k] else l) l, 0 ≤ x ∧ x ≤ 1099511627776
  | [], l, h1, h2 => ⟨h1, h2⟩
  | k :: ks, l, h1, h2 => by
    show (ks.foldl _ (if 0 ≤ k ∧ k ≤ 1099511627776 ∧ k ∉ l then l ++ [k] else l)).Nodup ∧ _
    by_cases h : 0 ≤ k ∧ k ≤ 1099511627776 ∧ k ∉ l
    · rw [List.foldl_cons, if_pos h]
      refine gath_go ks (l ++ [k]) ?_ fun x hx => ?_
      · refine List.nodup_append.2 ⟨h1, by simp, fun a ha b hb => ?_⟩
        have : b = k := by simpa using hb
        subst this
        exact fun e => h.2.2 (e ▸ ha)
      · rcases List.mem_append.1 hx with hx | hx
        · exact h2 x hx
        · have : x = k := by simpa using hx
          subst this
          exact ⟨h.1, h.2.1⟩
    · rw [List.foldl_cons, if_neg h]
      exact gath_go ks l h1 h2
theorem gath_ok (ks : List Int) : (gath ks).Nodup ∧ ∀ x ∈ gath ks, 0 ≤ x ∧ x ≤ 1099511627776 := gath_go ks [] List.nodup_nil fun x hx => by cases hx
theorem plc_at {G : List Int} (h : G.Nodup) {i : Nat} {x : Int} (hi : G[i]? = some x) : plc G x = (i : Int) := by
  have hin : x ∈ G := List.mem_of_getElem? hi
  have hsp := (take_succ hi).2
  have hno : x ∉ G.take i := fun hm => by
    rw [hsp, List.nodup_append] at h
    exact h.2.2 x hm x (.head _) rfl
  unfold plc
  rw [if_pos hin]
  have hlt := (List.getElem?_eq_some_iff.1 hi).1
  conv => lhs; rw [hsp]
  rw [List.idxOf_append, if_neg hno]
  simp
  omega
theorem delsL_len : ∀ (xs : List Int) {L : List KV}, Srt L → xs.Nodup → (∀ k ∈ xs, ∃ x ∈ L, x.1 = k) → (delsL L xs).length + xs.length = L.length
  | [], L, _, _, _ => rfl
  | k :: xs, L, hs, hn, h => by
    have hn' := List.nodup_cons.1 hn
    have h1 := delL_len hs (h k (.head _))
    have h2 := delsL_len xs (delL_srt hs k) hn'.2 fun j hj => by
      obtain ⟨x, hx, hk⟩ := h j (.tail _ hj)
      exact ⟨x, delL_iff.2 ⟨hx, fun e => hn'.1 (by rw [← e, hk]; exact hj)⟩, hk⟩
    show (delsL (delL L k) xs).length + (xs.length + 1) = L.length
    omega
end Go.Proofs.YtgbgneiciabidaaGreatDoor
/-
  BtreeOrders, in plain Lean: where the shuffle points.
-/
namespace Go.Proofs.YtgbgneiciabidaaGreatDoor
open Go Go.RowKit
set_option linter.all false

theorem shuffle_at (x : Int) {j m : Nat} (h : j < m) (hm : m ≤ 80) : ∃ q : Nat, j ≤ q ∧ q < m ∧ wrap64 ((j : Int) + (wrap64 (x.tmod ((m : Int) - j) + ((m : Int) - j))).tmod ((m : Int) - j)) = (q : Int) := by
  have hd : (0 : Int) < (m : Int) - j := by omega
  have hd2 : (m : Int) - j ≤ 80 := by omega
  generalize hde : (m : Int) - j = d at *
  have h1 : x.tmod d < d := Int.tmod_lt_of_pos x hd
  have h2 : -d < x.tmod d := Int.lt_tmod_of_pos x hd
  have e1 : wrap64 (x.tmod d + d) = x.tmod d + d := by unfold wrap64; omega
  rw [e1]
  have h3 : (x.tmod d + d).tmod d < d := Int.tmod_lt_of_pos _ hd
  have h4 : 0 ≤ (x.tmod d + d).tmod d := Int.tmod_nonneg _ (by omega)
  refine ⟨((j : Int) + (x.tmod d + d).tmod d).toNat, by omega, by omega, ?_⟩
  unfold wrap64
  omega
end Go.Proofs.YtgbgneiciabidaaGreatDoor
/-
  BtreeOrders, in plain Lean: what its last two loops do; a number stored in a row, in a region that draws its order.
-/
namespace Go.Proofs.YtgbgneiciabidaaGreatDoor
open Go Go.RowKit
set_option linter.all false

theorem sets_next {G xs : List Int} {i : Nat} {x : Int} (hx : xs[i]? = some x) : putL (setsL (keyed G (xs.take i))) x (plc G x + 1) = setsL (keyed G (xs.take (i + 1))) := by
  rw [(take_succ hx).1]
  unfold keyed
  rw [List.map_append, List.map_cons, List.map_nil, setsL_snoc]
theorem dels_next {L : List KV} {xs : List Int} {i : Nat} {x : Int} (hx : xs[i]? = some x) : delL (delsL L (xs.take i)) x = delsL L (xs.take (i + 1)) := by
  rw [(take_succ hx).1]
  exact (delsL_snoc _ _ _).symm
theorem swap_perm {M : List Int} {i j : Nat} {x y : Int} (hi : M[i]? = some x) (hj : M[j]? = some y) : M.Perm ((M.set i y).set j x) := by
  obtain ⟨h1, rfl⟩ := List.getElem?_eq_some_iff.1 hi
  obtain ⟨h2, rfl⟩ := List.getElem?_eq_some_iff.1 hj
  exact (List.set_set_perm h1 h2).symm
theorem keyed_ok {G : List Int} (hn : G.Nodup) (h : ∀ x ∈ G, 0 ≤ x ∧ x ≤ 1099511627776) (hl : G.length ≤ 80) {x : Int} (hx : x ∈ G) : pairOk x (plc G x + 1) = true := by
  have h1 := h x hx
  have h2 : 0 ≤ plc G x ∧ plc G x < G.length := by
    unfold plc
    rw [if_pos hx]
    have := List.idxOf_lt_length_iff.2 hx
    omega
  unfold pairOk
  simp only [Bool.and_eq_true, decide_eq_true_eq]
  omega
/-- A key that was put, and is not yet deleted, is there. -/
theorem dels_has {G M : List Int} (hn : G.Nodup) (hp : G.Perm M) {xs : List Int} {k : Int} (hk : k ∈ M) (hx : k ∉ xs) : ∃ x ∈ delsL (setsL (keyed G M)) xs, x.1 = k := by
  refine ⟨(k, plc G k + 1), (delsL_iff xs).2 ⟨(setsL_iff (by rw [keyed_keys]; exact hp.nodup_iff.1 hn)).2 ?_, hx⟩, rfl⟩
  unfold keyed
  exact List.mem_map.2 ⟨k, hk, rfl⟩
theorem not_take {M : List Int} (hn : M.Nodup) {i : Nat} {x : Int} (hx : M[i]? = some x) : x ∉ M.take i := fun hm => by
  have hsp := (take_succ hx).2
  rw [hsp, List.nodup_append] at hn
  exact hn.2.2 x hm x (.head _) rfl
theorem rev_at {M : List Int} {n i : Nat} (hi : i < n) (hn : n ≤ M.length) : (M.take n).reverse[i]? = M[n - 1 - i]? := by
  rw [List.getElem?_reverse (by simp; omega), List.getElem?_take, if_pos (by simp; omega)]
  congr 1
  simp; omega
/-- What the two trees are at last. -/
theorem dels_end {G M : List Int} (hn : G.Nodup) (hp : G.Perm M) {n : Nat} (hl : n ≤ G.length) :
    delsL (setsL (keyed G G)) (M.take n) = delsL (setsL (keyed G M)) ((M.take n).reverse.take n) ∧ (delsL (setsL (keyed G G)) (M.take n)).length + n = G.length := by
  have hlen := hp.length_eq
  have e1 : (M.take n).reverse.take n = (M.take n).reverse := List.take_of_length_le (by simp; omega)
  have e2 := orders_same (l := G) hn hp
  refine ⟨?_, ?_⟩
  · rw [e1, e2]
    exact dels_same (setsL_srt _) fun k => List.mem_reverse.symm
  · have hM := hp.nodup_iff.1 hn
    have h1 := delsL_len (M.take n) (setsL_srt (keyed G G)) (hM.sublist (List.take_sublist _ _)) fun k hk => by
      rw [e2]
      exact dels_has (xs := []) hn hp (List.mem_of_mem_take hk) (by simp)
    rw [setsL_len _ (by rw [keyed_keys]; exact hn)] at h1
    unfold keyed at h1 ⊢
    rw [List.length_map, List.length_take] at h1
    omega

theorem Has.front {w : World} {l F : List Say} (h : Has w (l ++ F)) : Has w l := Has.right (m := F) (h.perm List.perm_append_comm)
theorem Tab.fr {l : List Say} (h : Tab l) (F : List Say) : Tab (l ++ F) := fun w hw => h w hw.front
theorem run_store_row {P : Program} {w : World} {l : List Say} {g n c j : Nat} {xs : List Value} {e : TypeId} (h : Has w (rowS e 1 (.slice (some ⟨g, 0, none⟩) n c) n xs :: l)) (t : TypeId) (v : Value) (hj : j < n) (hv : v.cells = #[v]) (h1 : v.oneCell' = true)
    (hsz : (P.info? t).map (·.size) = some v.cells.size) : (Instr.storeAt t (.pointer (some ⟨g, j, none⟩)) v).run P w = .ok () (w.setCell ⟨g, j, none⟩ v) := by
  obtain ⟨a1, a2, ⟨hl, hc⟩, hrest, d1, d2⟩ := h
  rcases hc with ⟨hv, _⟩ | ⟨g', cap, cur, hv', hg, hn, hcm, hs, ht⟩
  · cases hv
  · cases hv'
    have hp : Has w (pts g (.cells cur e (0, 0)) :: l) := ⟨a1, a2, hg, hrest, d1, d2⟩
    have := run_store_pts (P := P) hp t v (i := j) (by rw [hv]; simp; omega) (by rw [hv]; simpa using h1) hsz
    rw [this, hv]
    rfl
section
variable {ops : Array Oper} {S : Nat → World → Prop} {live : Nat → Nat → Prop} {kd : Nat → Kd} {k : Nat} {ord : List Nat} {a : Act} {L : List Say} {o : Oper} {w0 : World} {Q : Exit → Act → World → Prop}
/-- A number is stored into the first row. -/
theorem ws_store_int (ho : ops[k]? = some o) (hw : Region.wanted o (yielded ops a.tmps) = true) (hk : kd k = .mn) (x y : Operand) (hop : o.op = .store 3 x y)
    {g n c j : Nat} {xs : List Int} {L2 : List Say} {z : Int} (hx : a.eval x = .pointer (some ⟨g, j, none⟩)) (hy : a.eval y = .int .i64 z) (hn : xs.length = n) (hj : j < n)
    (hS : ∀ w F, Has w (intsS (.slice (some ⟨g, 0, none⟩) n c) (xs.set j z) :: L2 ++ F) → ∀ j, live k j → S j w) (h : WS Tryz.prog ops S live kd Q w0 ord (a.put o.dst undef) (intsS (.slice (some ⟨g, 0, none⟩) n c) (xs.set j z) :: L2)) :
    WS Tryz.prog ops S live kd Q w0 (k :: ord) a (intsS (.slice (some ⟨g, 0, none⟩) n c) xs :: L2) :=
  ws_mn ho hw hk (fun u L' => u = undef ∧ L' = intsS (.slice (some ⟨g, 0, none⟩) n c) (xs.set j z) :: L2) (fun w F _ hh => by
    subst hn
    have hsz : (Tryz.prog.info? 3).map (·.size) = some (Value.int .i64 z).cells.size := by kernel_rfl
    have hh' : Has w (rowS 3 1 (.slice (some ⟨g, 0, none⟩) xs.length c) xs.length (xs.map intVal) :: (L2 ++ F)) := hh
    have hrun : (execOp a.eval o).run Tryz.prog w = .ok .skip (w.setCell ⟨g, j, none⟩ (.int .i64 z)) := by
      unfold execOp
      simp only [hop, hx, hy, Sem.run_bind, run_store_row hh' 3 (.int .i64 z) hj rfl rfl hsz, Result.andThen_ok, Sem.run_pure]
    rw [hrun]
    refine ⟨(Kept.refl w).setCell _ _, _, ⟨rfl, rfl⟩, ?_⟩
    have h2 := hh'.row_set j (.int .i64 z)
    unfold intsS
    rw [List.length_set, List.map_set]
    exact h2) fun v' L' hp => by
      obtain ⟨rfl, rfl⟩ := hp
      exact ⟨hS, h⟩
end
end Go.Proofs.YtgbgneiciabidaaGreatDoor
