/-
  Plain: rising pairs in lists; trees of pages; their pairs and their weight.
-/
import Derived.Test.YtgbgneiciabidaaGreatDoorGs18
namespace Go.Proofs.YtgbgneiciabidaaGreatDoor
open Go Go.RowKit
set_option linter.all false
set_option maxHeartbeats 8000000
abbrev KV := Int × Int
def Srt (L : List KV) : Prop := L.Pairwise fun p q => p.1 < q.1
def putL (L : List KV) (k v : Int) : List KV := L.filter (fun p => decide (p.1 < k)) ++ (k, v) :: L.filter (fun p => decide (k < p.1))
def delL (L : List KV) (k : Int) : List KV := L.filter fun p => !(p.1 == k)
theorem Srt.left {A B : List KV} (h : Srt (A ++ B)) : Srt A := (List.pairwise_append.1 h).1
theorem Srt.right {A B : List KV} (h : Srt (A ++ B)) : Srt B := (List.pairwise_append.1 h).2.1
theorem Srt.lt {A B : List KV} (h : Srt (A ++ B)) {p q : KV} (hp : p ∈ A) (hq : q ∈ B) : p.1 < q.1 := (List.pairwise_append.1 h).2.2 p hp q hq
theorem Srt.app {A B : List KV} (h1 : Srt A) (h2 : Srt B) (h : ∀ p ∈ A, ∀ q ∈ B, p.1 < q.1) : Srt (A ++ B) := List.pairwise_append.2 ⟨h1, h2, h⟩
theorem Srt.filter {L : List KV} (h : Srt L) (f : KV -> Bool) : Srt (L.filter f) := List.Pairwise.filter _ h
theorem mem_putL {L : List KV} {k v : Int} {p : KV} (h : p ∈ putL L k v) : p = (k, v) \/ p ∈ L := by
 unfold putL at h
 rcases List.mem_append.1 h with h | h
 ·exact .inr (List.mem_filter.1 h).1
 ·rcases List.mem_cons.1 h with h | h
  ·exact .inl h
  ·exact .inr (List.mem_filter.1 h).1
theorem putL_srt {L : List KV} (h : Srt L) (k v : Int) : Srt (putL L k v) := by
 unfold putL
 refine (h.filter _).app (List.pairwise_cons.2 ⟨fun q hq => ?_, h.filter _⟩) fun p hp q hq => ?_
 ·simpa using (List.mem_filter.1 hq).2
 ·have h1 : p.1 < k := by simpa using (List.mem_filter.1 hp).2
  rcases List.mem_cons.1 hq with rfl | hq
  ·exact h1
  ·have h2 : k < q.1 := by simpa using (List.mem_filter.1 hq).2
   omega
theorem delL_srt {L : List KV} (h : Srt L) (k : Int) : Srt (delL L k) := h.filter _
theorem filter_all {α : Type} {f : α -> Bool} {L : List α} (h : ∀ p ∈ L, f p = true) : L.filter f = L := List.filter_eq_self.2 h
theorem filter_no {α : Type} {f : α -> Bool} {L : List α} (h : ∀ p ∈ L, f p = false) : L.filter f = [] := by
 rw [List.filter_eq_nil_iff]; intro p hp; rw [h p hp]; decide
theorem putL_mid {A M B : List KV} {k v : Int} (hA : ∀ p ∈ A, p.1 < k) (hB : ∀ p ∈ B, k < p.1) : putL (A ++ M ++ B) k v = A ++ putL M k v ++ B := by
 unfold putL
 simp only [List.filter_append]
 rw [filter_all (f := fun p : KV => decide (p.1 < k)) (fun p hp => by simpa using hA p hp), filter_no (f := fun p : KV => decide (k < p.1)) (L := A) (fun p hp => by have := hA p hp; simp; omega),
  filter_no (f := fun p : KV => decide (p.1 < k)) (L := B) (fun p hp => by have := hB p hp; simp; omega), filter_all (f := fun p : KV => decide (k < p.1)) (L := B) (fun p hp => by have := hB p hp; simp; omega)]
 simp
theorem delL_mid {A M B : List KV} {k : Int} (hA : ∀ p ∈ A, p.1 < k) (hB : ∀ p ∈ B, k < p.1) : delL (A ++ M ++ B) k = A ++ delL M k ++ B := by
 unfold delL
 simp only [List.filter_append]
 rw [filter_all (L := A) (fun p hp => by have := hA p hp; simp; omega), filter_all (L := B) (fun p hp => by have := hB p hp; simp; omega)]
/-! What a node's place is. -/
theorem lowB_cons (x y : Int) (xs : List Int) : lowB (y :: xs) x = if y < x then lowB xs x + 1 else 0 := by
 unfold lowB
 rw [List.takeWhile_cons]
 by_cases h : y < x
 ·rw [if_pos (by simpa using h), if_pos h]; rfl
 ·rw [if_neg (by simpa using h), if_neg h]; rfl
theorem low_take (k : Int) : ∀ {L : List KV}, Srt L -> L.filter (fun p => decide (p.1 < k)) = L.take (lowB (L.map (·.1)) k)
 | [], _ => rfl
 | p :: L, h => by
  obtain ⟨h1, h2⟩ := List.pairwise_cons.1 h
  rw [List.map_cons, lowB_cons]
  by_cases e : p.1 < k
  ·rw [List.filter_cons_of_pos (by simpa using e), if_pos e, List.take_succ_cons, low_take k h2]
  ·rw [List.filter_cons_of_neg (by simpa using e), if_neg e, List.take_zero]
   exact filter_no fun q hq => by have := h1 q hq; simp; omega
theorem high_drop (k : Int) : ∀ {L : List KV}, Srt L -> L.filter (fun p => decide (k <= p.1)) = L.drop (lowB (L.map (·.1)) k)
 | [], _ => rfl
 | p :: L, h => by
  obtain ⟨h1, h2⟩ := List.pairwise_cons.1 h
  rw [List.map_cons, lowB_cons]
  by_cases e : p.1 < k
  ·rw [List.filter_cons_of_neg (by simp; omega), if_pos e, List.drop_succ_cons, high_drop k h2]
  ·rw [List.filter_cons_of_pos (by simp; omega), if_neg e, List.drop_zero]
   congr 1
   exact filter_all fun q hq => by have := h1 q hq; simp; omega
theorem low_len (k : Int) (L : List KV) : lowB (L.map (·.1)) k <= L.length := by
 have := (List.takeWhile_sublist (fun y => decide (y < k)) (l := L.map (·.1))).length_le
 rw [List.length_map] at this
 exact this
theorem putP_eq {L : List KV} (h : Srt L) (k v : Int) : putP L k v = putL L k v := by
 unfold putP putL
 rw [low_take k h]
 have hd := high_drop k h
 have hl := low_len k L
 generalize lowB (L.map (·.1)) k = i at *
 by_cases hx : (L.map (·.1))[i]? = some k
 ·rw [if_pos hx]
  rw [List.getElem?_map, Option.map_eq_some_iff] at hx
  obtain ⟨p, hp, hk⟩ := hx
  have hi := (List.getElem?_eq_some_iff.1 hp).1
  have hdr : L.drop i = p :: L.drop (i + 1) := by
   rw [List.drop_eq_getElem_cons hi]
   rw [List.getElem?_eq_getElem hi] at hp
   rw [Option.some.inj hp]
  have e1 : L.filter (fun q => decide (k < q.1)) = (L.filter fun q => decide (k <= q.1)).filter fun q => decide (k < q.1) := by
   rw [List.filter_filter]
   apply List.filter_congr
   intro q _
   rw [Bool.eq_iff_iff]; simp; omega
  rw [e1, hd, hdr, List.filter_cons_of_neg (by simp; omega)]
  have hs2 : Srt (p :: L.drop (i + 1)) := by rw [<- hdr]; exact List.Pairwise.drop h
  rw [filter_all fun q hq => by have := (List.pairwise_cons.1 hs2).1 q hq; simp; omega]
  rw [List.set_eq_take_append_cons_drop, if_pos hi]
 ·rw [if_neg hx]
  unfold insP
  have e1 : L.filter (fun q => decide (k < q.1)) = L.filter (fun q => decide (k <= q.1)) := by
   apply List.filter_congr
   intro q hq
   have hne : q.1 ≠ k := by
    intro e
    have hm : q ∈ L.filter (fun q => decide (k <= q.1)) := List.mem_filter.2 ⟨hq, by simp; omega⟩
    rw [hd] at hm
    cases hdr : L.drop i with
    | nil => rw [hdr] at hm; cases hm
    | cons p r =>
     have hs2 : Srt (p :: r) := by rw [<- hdr]; exact List.Pairwise.drop h
     have hp : L[i]? = some p := by
      have := congrArg (·[0]?) hdr
      simp only [List.getElem?_drop] at this
      simpa using this
     have hkp : k <= p.1 := by
      have : p ∈ L.drop i := by rw [hdr]; exact .head _
      rw [<- hd] at this
      simpa using (List.mem_filter.1 this).2
     have hpk : p.1 ≠ k := fun e2 => hx (by rw [List.getElem?_map, hp]; simp [e2])
     rw [hdr] at hm
     rcases List.mem_cons.1 hm with rfl | hm
     ·exact hpk e
     ·have := (List.pairwise_cons.1 hs2).1 q hm
      omega
   rw [Bool.eq_iff_iff]; simp; omega
  rw [e1, hd]
theorem erase_eq {L : List KV} (h : Srt L) {k : Int} (hx : (L.map (·.1))[lowB (L.map (·.1)) k]? = some k) : L.eraseIdx (lowB (L.map (·.1)) k) = delL L k := by
 have h1 := low_take k h
 have h2 := high_drop k h
 generalize lowB (L.map (·.1)) k = i at *
 rw [List.getElem?_map, Option.map_eq_some_iff] at hx
 obtain ⟨p, hp, hk⟩ := hx
 have hi := (List.getElem?_eq_some_iff.1 hp).1
 have hdr : L.drop i = p :: L.drop (i + 1) := by
  rw [List.drop_eq_getElem_cons hi]
  rw [List.getElem?_eq_getElem hi] at hp
  rw [Option.some.inj hp]
 have hs2 : Srt (p :: L.drop (i + 1)) := by rw [<- hdr]; exact List.Pairwise.drop h
 rw [List.eraseIdx_eq_take_drop_succ]
 have e : delL L k = delL (L.take i) k ++ delL (L.drop i) k := by
  unfold delL; rw [<- List.filter_append, List.take_append_drop]
 rw [e, hdr]
 unfold delL
 rw [List.filter_cons_of_neg (by simp [hk]), filter_all (L := L.take i) fun q hq => by rw [<- h1] at hq; have := (List.mem_filter.1 hq).2; simp at this ⊢; omega,
  filter_all fun q hq => by have := (List.pairwise_cons.1 hs2).1 q hq; simp; omega]
/-! Trees. -/
def wt (lv m : Nat) : Nat := 2 ^ lv * (m - 4) + if lv = 0 then 2 else 2 ^ lv
inductive TrG (T : Int -> List KV -> Nat -> Prop) : List KV -> List KV -> Nat -> Prop
 | nil : TrG T [] [] 0
 | cons {k v : Int} {L1 : List KV} {s1 : Nat} {ps L2 : List KV} {s2 : Nat} : T v L1 s1 -> (L1.map (·.1)).head? = some k -> TrG T ps L2 s2 -> TrG T ((k, v) :: ps) (L1 ++ L2) (s1 + s2)
def Tr (Q : Pgs) : Nat -> Int -> List KV -> Nat -> Prop
 | 0, a, L, s => ∃ g, VMap.get a Q = some g /\ g.n.level = 0 /\ L = g.n.pairs /\ s = wt 0 g.n.keys.length
 | lv + 1, a, L, s => ∃ g s', VMap.get a Q = some g /\ g.n.level = ((lv + 1 : Nat) : Int) /\ TrG (Tr Q lv) g.n.pairs L s' /\ s = wt (lv + 1) g.n.keys.length + s'
abbrev TrL (Q : Pgs) (lv : Nat) : List KV -> List KV -> Nat -> Prop := TrG (Tr Q lv)
theorem TrG.mono {T T' : Int -> List KV -> Nat -> Prop} {ps L : List KV} {s : Nat} (h : TrG T ps L s) (hm : ∀ p ∈ ps, ∀ L s, T p.2 L s -> T' p.2 L s) : TrG T' ps L s := by
 induction h with
 | nil => exact .nil
 | cons h1 h2 _ ih => exact .cons (hm _ (.head _) _ _ h1) h2 (ih fun p hp => hm p (.tail _ hp))
theorem TrG.app {T : Int -> List KV -> Nat -> Prop} {A LA : List KV} {sA : Nat} (h : TrG T A LA sA) {B LB : List KV} {sB : Nat} (h2 : TrG T B LB sB) : TrG T (A ++ B) (LA ++ LB) (sA + sB) := by
 induction h with
 | nil => simpa using h2
 | cons a b _ ih => rw [List.cons_append, List.append_assoc, Nat.add_assoc]; exact .cons a b ih
theorem TrG.split {T : Int -> List KV -> Nat -> Prop} : ∀ {A B L : List KV} {s : Nat}, TrG T (A ++ B) L s -> ∃ LA LB sA sB, TrG T A LA sA /\ TrG T B LB sB /\ L = LA ++ LB /\ s = sA + sB
 | [], B, L, s, h => ⟨[], L, 0, s, .nil, h, rfl, by omega⟩
 | p :: A, B, L, s, h => by
  cases h with
  | cons a b c =>
   obtain ⟨LA, LB, sA, sB, h1, h2, rfl, rfl⟩ := TrG.split c
   exact ⟨_, LB, _, sB, .cons a b h1, h2, by rw [List.append_assoc], by omega⟩
theorem TrG.one {T : Int -> List KV -> Nat -> Prop} {p : KV} {B L : List KV} {s : Nat} (h : TrG T (p :: B) L s) : ∃ LM LB sM sB, T p.2 LM sM /\ (LM.map (·.1)).head? = some p.1 /\ TrG T B LB sB /\ L = LM ++ LB /\ s = sM + sB := by
 cases h with
 | cons a b c => exact ⟨_, _, _, _, a, b, c, rfl, rfl⟩
theorem TrG.single {T : Int -> List KV -> Nat -> Prop} {k v : Int} {L : List KV} {s : Nat} (h : T v L s) (hk : (L.map (·.1)).head? = some k) : TrG T [(k, v)] L s := by
 have := TrG.cons h hk (TrG.nil (T := T))
 simpa using this
theorem head_mem {L : List KV} {k : Int} (h : (L.map (·.1)).head? = some k) : ∃ x ∈ L, x.1 = k := by
 cases L with
 | nil => cases h
 | cons x r => exact ⟨x, .head _, by simpa using h⟩
theorem TrG.keys {T : Int -> List KV -> Nat -> Prop} {ps L : List KV} {s : Nat} (h : TrG T ps L s) : ∀ p ∈ ps, ∃ x ∈ L, x.1 = p.1 := by
 induction h with
 | nil => intro p hp; cases hp
 | cons a b _ ih =>
  intro p hp
  rcases List.mem_cons.1 hp with rfl | hp
  ·obtain ⟨x, hx, e⟩ := head_mem b
   exact ⟨x, List.mem_append_left _ hx, e⟩
  ·obtain ⟨x, hx, e⟩ := ih p hp
   exact ⟨x, List.mem_append_right _ hx, e⟩
theorem TrG.srt {T : Int -> List KV -> Nat -> Prop} {ps L : List KV} {s : Nat} (h : TrG T ps L s) : Srt L -> Srt ps := by
 induction h with
 | nil => intro _; exact List.Pairwise.nil
 | cons a b c ih =>
  intro hs
  refine List.pairwise_cons.2 ⟨fun q hq => ?_, ih hs.right⟩
  obtain ⟨x, hx, e⟩ := c.keys q hq
  obtain ⟨y, hy, e2⟩ := head_mem b
  have := hs.lt hy hx
  show _ < q.1
  omega
theorem TrG.head {T : Int -> List KV -> Nat -> Prop} {p : KV} {B L : List KV} {s : Nat} (h : TrG T (p :: B) L s) : (L.map (·.1)).head? = some p.1 := by
 cases h with
 | cons a b c =>
  rename_i k v L1 s1 L2 s2
  cases L1 with
  | nil => cases b
  | cons x r => simpa using b
theorem head_le {L : List KV} (hs : Srt L) {k : Int} (h : (L.map (·.1)).head? = some k) : ∀ x ∈ L, k <= x.1 := by
 cases L with
 | nil => cases h
 | cons y r =>
  intro x hx
  have e : y.1 = k := by simpa using h
  rcases List.mem_cons.1 hx with rfl | hx
  ·omega
  ·have := (List.pairwise_cons.1 hs).1 x hx; omega
theorem TrG.len {T : Int -> List KV -> Nat -> Prop} {ps L : List KV} {s : Nat} (h : TrG T ps L s) : ps.length <= L.length := by
 induction h with
 | nil => exact Nat.le_refl _
 | cons a b _ ih =>
  rename_i k v L1 s1 ps L2 s2 _
  cases L1 with
  | nil => cases b
  | cons x r => simp only [List.length_cons, List.length_append]; omega
theorem TrG.place {T : Int -> List KV -> Nat -> Prop} {A B L : List KV} {p : KV} {s : Nat} {key : Int} (h : TrG T (A ++ p :: B) L s) (hs : Srt L) (hA : A ≠ [] -> p.1 <= key) (hB : ∀ q ∈ B, key < q.1) :
  ∃ LA LM LB sA sM sB, TrG T A LA sA /\ T p.2 LM sM /\ (LM.map (·.1)).head? = some p.1 /\ TrG T B LB sB /\ L = LA ++ LM ++ LB /\ s = sA + sM + sB /\ (∀ x ∈ LA, x.1 < key) /\ (∀ x ∈ LB, key < x.1) := by
 obtain ⟨LA, LR, sA, sR, hA1, hR, rfl, rfl⟩ := h.split
 obtain ⟨LM, LB, sM, sB, hM, hk, hB1, rfl, rfl⟩ := hR.one
 refine ⟨LA, LM, LB, sA, sM, sB, hA1, hM, hk, hB1, by rw [List.append_assoc], by omega, ?_, ?_⟩
 ·intro x hx
  cases A with
  | nil => cases hA1; cases hx
  | cons a A' =>
   obtain ⟨y, hy, e⟩ := head_mem hk
   have h1 := hs.lt hx (List.mem_append_left _ hy)
   have h2 := hA (by simp)
   omega
 ·intro x hx
  cases B with
  | nil => cases hB1; cases hx
  | cons b B' =>
   have h1 := head_le hs.right.right hB1.head x hx
   have h2 := hB b (.head _)
   omega
theorem Tr.get {Q : Pgs} {lv : Nat} {a : Int} {L : List KV} {s : Nat} (h : Tr Q lv a L s) : ∃ g, VMap.get a Q = some g /\ g.n.level = (lv : Int) := by
 cases lv with
 | zero => obtain ⟨g, h1, h2, _⟩ := h; exact ⟨g, h1, h2⟩
 | succ lv => obtain ⟨g, s', h1, h2, _⟩ := h; exact ⟨g, h1, h2⟩
def Same (Q Q' : Pgs) : Prop := ∀ a g, VMap.get a Q = some g -> ∃ g', VMap.get a Q' = some g' /\ g'.n = g.n
theorem Tr.mono {Q Q' : Pgs} (hm : Same Q Q') : ∀ {lv : Nat} {a : Int} {L : List KV} {s : Nat}, Tr Q lv a L s -> Tr Q' lv a L s
 | 0, a, L, s, ⟨g, h1, h2, h3, h4⟩ => by
  obtain ⟨g', e1, e2⟩ := hm a g h1
  exact ⟨g', e1, by rw [e2]; exact h2, by rw [e2]; exact h3, by rw [e2]; exact h4⟩
 | lv + 1, a, L, s, ⟨g, s', h1, h2, h3, h4⟩ => by
  obtain ⟨g', e1, e2⟩ := hm a g h1
  exact ⟨g', s', e1, by rw [e2]; exact h2, by rw [e2]; exact h3.mono fun _ _ _ _ h => Tr.mono hm h, by rw [e2]; exact h4⟩
/-
  Plain: pages whose holds are told by who names them; what goes with a page that nobody holds.
-/
def Stand (es : List Ent) (a : Int) : Prop := ∃ d k e, a = lenV d k /\ es[d]? = some e /\ e.st ≠ 3 /\ 2 <= k /\ k < e.size /\ k < 4096 /\ d < 8
theorem Stand.bd {es : List Ent} {a : Int} (h : Stand es a) : 2 <= a /\ a < 32768 := by
 obtain ⟨d, k, e, rfl, _, _, h1, _, h2, h3⟩ := h
 unfold lenV
 omega
structure FInv (es : List Ent) (Q : Pgs) (D : Int -> Nat) : Prop where
 up : VMap.Up Q
 pg : ∀ a g, VMap.get a Q = some g -> g.n.ok = true /\ 0 <= g.held /\ g.holds = ((refs Q a + D a : Nat) : Int) + g.held
 kid : ∀ a g, VMap.get a Q = some g -> ∀ c ∈ g.n.kids, ∃ gc, VMap.get c Q = some gc /\ gc.n.level = g.n.level - 1
 deb : ∀ a, 0 < D a -> (VMap.get a Q).isSome = true
 adr : ∀ a, (VMap.get a Q).isSome = true -> Stand es a
theorem refs_pos {a : Int} : ∀ {Q : Pgs}, 0 < refs Q a -> ∃ p ∈ Q, a ∈ p.2.n.kids
 | [], h => absurd h (by simp [refs])
 | p :: Q, h => by
  by_cases hc : 0 < p.2.n.kids.count a
  ·exact ⟨p, .head _, List.count_pos_iff.1 hc⟩
  ·obtain ⟨q, hq, hm⟩ := refs_pos (Q := Q) (a := a) (by simp only [refs] at h; omega)
   exact ⟨q, .tail _ hq, hm⟩
theorem mem_get {α : Type} {Q : List (Int × α)} (hu : VMap.Up Q) {p : Int × α} (h : p ∈ Q) : VMap.get p.1 Q = some p.2 := by
 obtain ⟨i, hi, rfl⟩ := List.getElem_of_mem h
 exact get_at hu i hi
theorem refs_who {Q : Pgs} (hu : VMap.Up Q) {a : Int} (h : 0 < refs Q a) : ∃ b g, VMap.get b Q = some g /\ a ∈ g.n.kids := by
 obtain ⟨p, hp, hm⟩ := refs_pos h
 exact ⟨p.1, p.2, mem_get hu hp, hm⟩
theorem refs_ge {Q : Pgs} {a b : Int} {g : Pg} (h : VMap.get b Q = some g) : g.n.kids.count a <= refs Q a := by
 have hm := get_mem h
 clear h
 induction Q with
 | nil => cases hm
 | cons p Q ih =>
  simp only [refs]
  rcases List.mem_cons.1 hm with rfl | hm
  ·simp only; omega
  ·have := ih hm; omega
theorem FInv.unknown {es : List Ent} {Q : Pgs} {D : Int -> Nat} (h : FInv es Q D) {a : Int} (ha : VMap.get a Q = none) : refs Q a = 0 /\ D a = 0 := by
 constructor
 ·cases hr : refs Q a with
  | zero => rfl
  | succ n =>
   obtain ⟨b, g, hb, hc⟩ := refs_who h.up (a := a) (by omega)
   obtain ⟨gc, hg, _⟩ := h.kid b g hb a hc
   rw [ha] at hg; cases hg
 ·cases hr : D a with
  | zero => rfl
  | succ n => have := h.deb a (by omega); rw [ha] at this; cases this
theorem FInv.lv {es : List Ent} {Q : Pgs} {D : Int -> Nat} (h : FInv es Q D) {a : Int} {g : Pg} (hg : VMap.get a Q = some g) : 0 <= g.n.level /\ g.n.level <= 20 := by
 have := ok_lens (h.pg a g hg).1
 exact ⟨this.1, this.2.1⟩
theorem FInv.bd {es : List Ent} {Q : Pgs} {D : Int -> Nat} (h : FInv es Q D) : ∀ p ∈ Q, 0 <= p.1 /\ p.1 < 32768 := fun p hp => by
 have := (h.adr p.1 (by rw [mem_get h.up hp]; rfl)).bd
 omega
theorem FInv.refs_le {es : List Ent} {Q : Pgs} {D : Int -> Nat} (h : FInv es Q D) (a : Int) : refs Q a <= 229376 := by
 have h1 := Go.Proofs.YtgbgneiciabidaaGreatDoor.refs_le a (R := Q) fun p hp => (h.pg p.1 p.2 (mem_get h.up hp)).1
 have h2 := up_len 32768 Q 0 h.up h.bd
 omega
theorem kids_count {n : Nd} {a : Int} (hl : ∀ c ∈ n.kids, c ≠ a) : n.kids.count a = 0 := by
 rw [List.count_eq_zero]
 intro hm
 exact hl a hm rfl
/-! A page is put. -/
theorem get_put1 (Q : Pgs) (a : Int) (n : Nd) (b : Int) : VMap.get b (put1 Q a n) = (if b = a then some ⟨n, 0, 0⟩ else VMap.get b Q).map fun g => { g with holds := g.holds + (n.kids.count b : Nat) } := by
 unfold put1; rw [get_bumpAll, get_put]
theorem refs_put1 {Q : Pgs} (hu : VMap.Up Q) {a : Int} {n : Nd} (ha : VMap.get a Q = none) (b : Int) : refs (put1 Q a n) b = n.kids.count b + refs Q b := by
 unfold put1
 rw [refs_ext (bumpAll_up _ (hu.put _ _)) (hu.put a ⟨n, 0, 0⟩) fun k => by rw [get_bumpAll, Option.map_map]; rfl, refs_put_new ha]
theorem named_count {Q : Pgs} {n : Nd} (nm : namedErr Q n = .nilIface) {b : Int} (hb : VMap.get b Q = none) : n.kids.count b = 0 := count_none (named_some nm) hb
theorem FInv.put {es : List Ent} {Q : Pgs} {D : Int -> Nat} (h : FInv es Q D) {a : Int} {n : Nd} (ha : VMap.get a Q = none) (ok : n.ok = true) (nm : namedErr Q n = .nilIface) (hs : Stand es a) : FInv es (put1 Q a n) D := by
 have hks := named_some nm
 have hkeep : ∀ c gc, VMap.get c Q = some gc -> ∃ gc', VMap.get c (put1 Q a n) = some gc' /\ gc'.n = gc.n := fun c gc hc => by
  have e : ¬ c = a := fun e => by subst e; rw [ha] at hc; cases hc
  exact ⟨{ gc with holds := gc.holds + (n.kids.count c : Nat) }, by rw [get_put1, if_neg e, hc]; rfl, rfl⟩
 refine ⟨bumpAll_up _ (h.up.put _ _), fun b g hg => ?_, fun b g hg => ?_, fun b hb => ?_, fun b hb => ?_⟩
 ·rw [get_put1] at hg
  rw [refs_put1 h.up ha]
  by_cases e : b = a
  ·subst e
   rw [if_pos rfl] at hg
   obtain rfl := Option.some.inj hg
   obtain ⟨r0, d0⟩ := h.unknown ha
   rw [r0, d0, named_count nm ha]
   exact ⟨ok, Int.le_refl _, rfl⟩
  ·rw [if_neg e] at hg
   obtain ⟨g0, hg0, rfl⟩ := Option.map_eq_some_iff.1 hg
   obtain ⟨p1, p2, p3⟩ := h.pg b g0 hg0
   refine ⟨p1, p2, ?_⟩
   show g0.holds + _ = _ + g0.held
   rw [p3]; omega
 ·rw [get_put1] at hg
  by_cases e : b = a
  ·subst e
   rw [if_pos rfl] at hg
   obtain rfl := Option.some.inj hg
   intro c hc
   obtain ⟨gc, hgc⟩ := Option.isSome_iff_exists.1 (hks c hc)
   have hl := named_lv nm c hc
   unfold lvOf at hl
   rw [hgc] at hl
   obtain ⟨gc', h1, h2⟩ := hkeep c gc hgc
   exact ⟨gc', h1, by rw [h2]; exact hl⟩
  ·rw [if_neg e] at hg
   obtain ⟨g0, hg0, rfl⟩ := Option.map_eq_some_iff.1 hg
   intro c hc
   obtain ⟨gc, hgc, hl⟩ := h.kid b g0 hg0 c hc
   obtain ⟨gc', h1, h2⟩ := hkeep c gc hgc
   exact ⟨gc', h1, by rw [h2]; exact hl⟩
 ·rw [put1_some, h.deb b hb, Bool.or_true]
 ·rw [put1_some] at hb
  by_cases e : b = a
  ·subst e; exact hs
  ·simp only [e, decide_false, Bool.false_or] at hb
   exact h.adr b hb
theorem put1_same {Q : Pgs} {a : Int} {n : Nd} (ha : VMap.get a Q = none) : Same Q (put1 Q a n) := fun c gc hc => by
 have e : ¬ c = a := fun e => by subst e; rw [ha] at hc; cases hc
 exact ⟨{ gc with holds := gc.holds + (n.kids.count c : Nat) }, by rw [get_put1, if_neg e, hc]; rfl, rfl⟩
theorem put1_new {Q : Pgs} {a : Int} {n : Nd} (nm : namedErr Q n = .nilIface) (ha : VMap.get a Q = none) : VMap.get a (put1 Q a n) = some ⟨n, 0, 0⟩ := by
 rw [get_put1, if_pos rfl, named_count nm ha]; rfl
/-! One hold more, or fewer. -/
theorem FInv.more {es : List Ent} {Q : Pgs} {D : Int -> Nat} (h : FInv es Q D) {a : Int} {g : Pg} (hg : VMap.get a Q = some g) (c : Int) (hc : 0 <= g.held + c) : FInv es (VMap.put a (g.more c) Q) D := by
 have hex : ∀ b, (VMap.get b (VMap.put a (g.more c) Q)).map Pg.n = (VMap.get b Q).map Pg.n := fun b => by
  rw [get_put]
  by_cases e : b = a
  ·subst e; rw [if_pos rfl, hg]; rfl
  ·rw [if_neg e]
 have hsm : ∀ b, (VMap.get b (VMap.put a (g.more c) Q)).isSome = (VMap.get b Q).isSome := fun b => by
  have := congrArg Option.isSome (hex b)
  simpa using this
 refine ⟨h.up.put _ _, fun b g' hg' => ?_, fun b g' hg' k hk => ?_, fun b hb => by rw [hsm]; exact h.deb b hb, fun b hb => h.adr b (by rw [<- hsm]; exact hb)⟩
 ·rw [refs_put_same (g' := g.more c) h.up hg rfl]
  rw [get_put] at hg'
  by_cases e : b = a
  ·subst e
   rw [if_pos rfl] at hg'
   obtain rfl := Option.some.inj hg'
   obtain ⟨p1, p2, p3⟩ := h.pg b g hg
   refine ⟨p1, hc, ?_⟩
   show g.holds + c = _ + (g.held + c)
   rw [p3]; omega
  ·rw [if_neg e] at hg'
   exact h.pg b g' hg'
 ·have h1 := hex b
  rw [hg'] at h1
  obtain ⟨g0, hg0, e0⟩ := Option.map_eq_some_iff.1 h1.symm
  rw [<- e0] at hk ⊢
  obtain ⟨gc, hgc, hl⟩ := h.kid b g0 hg0 k hk
  have h2 := hex k
  rw [hgc] at h2
  obtain ⟨gc', hgc', e2⟩ := Option.map_eq_some_iff.1 h2
  exact ⟨gc', hgc', by rw [e2]; exact hl⟩
theorem more_same {Q : Pgs} {a : Int} {g : Pg} (hg : VMap.get a Q = some g) (c : Int) : Same Q (VMap.put a (g.more c) Q) := fun b gb hb => by
 rw [get_put]
 by_cases e : b = a
 ·subst e; rw [if_pos rfl]; rw [hg] at hb; obtain rfl := Option.some.inj hb; exact ⟨_, rfl, rfl⟩
 ·rw [if_neg e]; exact ⟨gb, hb, rfl⟩
/-! A page goes. -/
theorem refs_del {Q : Pgs} (hu : VMap.Up Q) {a : Int} {g : Pg} (hg : VMap.get a Q = some g) (b : Int) : refs Q b = g.n.kids.count b + refs (VMap.del a Q) b := refs_perm b (VMap.get_split hu hg)
theorem FInv.cut {es : List Ent} {Q : Pgs} {D D' : Int -> Nat} (h : FInv es Q D) {a : Int} {g : Pg} (hg : VMap.get a Q = some g) (hr : refs Q a = 0) (h0 : D' a = 0) (hD : ∀ b, b ≠ a -> D' b = g.n.kids.count b + D b) : FInv es (VMap.del a Q) D' := by
 have hks : ∀ b gb, VMap.get b Q = some gb -> ∀ c ∈ gb.n.kids, c ≠ a := fun b gb hb c hc e => by
  subst e
  have h1 := refs_ge (a := c) hb
  have h2 : 0 < gb.n.kids.count c := List.count_pos_iff.2 hc
  omega
 refine ⟨h.up.del a, fun b gb hb => ?_, fun b gb hb c hc => ?_, fun b hb => ?_, fun b hb => ?_⟩
 ·rw [get_del] at hb
  by_cases e : b = a
  ·rw [if_pos e] at hb; cases hb
  ·rw [if_neg e] at hb
   obtain ⟨p1, p2, p3⟩ := h.pg b gb hb
   refine ⟨p1, p2, ?_⟩
   rw [p3, hD b e, refs_del h.up hg b]
   omega
 ·rw [get_del] at hb
  by_cases e : b = a
  ·rw [if_pos e] at hb; cases hb
  ·rw [if_neg e] at hb
   obtain ⟨gc, hgc, hl⟩ := h.kid b gb hb c hc
   exact ⟨gc, by rw [get_del, if_neg (hks b gb hb c hc)]; exact hgc, hl⟩
 ·by_cases e : b = a
  ·subst e; omega
  ·rw [get_del, if_neg e]
   rw [hD b e] at hb
   by_cases hk : 0 < g.n.kids.count b
   ·obtain ⟨gc, hgc, _⟩ := h.kid a g hg b (List.count_pos_iff.1 hk)
    rw [hgc]; rfl
   ·exact h.deb b (by omega)
 ·rw [get_del] at hb
  by_cases e : b = a
  ·rw [if_pos e] at hb; cases hb
  ·rw [if_neg e] at hb; exact h.adr b hb
/-! The devices and the space, as the pages are. -/
structure Room (es : List Ent) (Q : Pgs) (disks : List Dsk) (X : Spc) : Prop where
 fits : Fits X disks Q
 xis : XIs es Q X
 fr : ∀ (d : Nat) (y : Shelf), X.sh[d]? = some y -> ∀ k, y.fresh k = y.taken k
 h8 : es.length <= 8
 big : ∀ e ∈ es, e.size <= 4096
theorem Room.same {es : List Ent} {Q Q' : Pgs} {disks : List Dsk} {X : Spc} (h : Room es Q disks X) (hQ : ∀ b, (VMap.get b Q').isSome = (VMap.get b Q).isSome) : Room es Q' disks X :=
 ⟨h.fits.sub fun k hk => by rw [<- hQ]; exact hk, h.xis.same hQ, h.fr, h.h8, h.big⟩
theorem Room.give {es : List Ent} {Q : Pgs} {disks : List Dsk} {X : Spc} (h : Room es Q disks X) {a : Int} (ha : (VMap.get a Q).isSome = true) (hs : Stand es a) : ∃ X1, Gives X a X1 /\ Room es (VMap.del a Q) disks X1 := by
 obtain ⟨d, k, e, rfl, he, hst, h2, hk, hk4, hd8⟩ := hs
 have hdl : d < X.sh.length := by rw [h.xis.len]; exact (List.getElem?_eq_some_iff.1 he).1
 obtain ⟨y, hy⟩ : ∃ y, X.sh[d]? = some y := ⟨_, List.getElem?_eq_getElem hdl⟩
 obtain ⟨⟨e', he', hyn⟩, hb⟩ := h.xis.sh d y hy
 rw [he] at he'
 obtain rfl := Option.some.inj he'
 have htk : y.taken k = true := by rw [(hb k).2, ha]; simp [hk4]
 have hfr : y.fresh k = true := by rw [h.fr d y hy]; exact htk
 refine ⟨X.put d (y.gave k), ⟨d, k, e, y, rfl, ⟨by rw [h.xis.ent]; exact he, hy, hst, h2, hk⟩, htk, hd8, hk4, rfl⟩, ?_, ?_, ?_, h.h8, h.big⟩
 ·refine ⟨by simp [Spc.put, h.fits.len], fun d' y' secs hy' hs' => ?_, fun d' k' y' hy' hk' hb' => ?_, fun d' y' hy' => ?_⟩
  ·by_cases e1 : d' = d
   ·subst e1
    simp only [Spc.put, List.getElem?_set_self hdl, Option.some.injEq] at hy'
    subst hy'
    exact h.fits.size d' y secs hy hs'
   ·simp only [Spc.put, List.getElem?_set_ne (Ne.symm e1)] at hy'
    exact h.fits.size d' y' secs hy' hs'
  ·rw [get_del]
   by_cases e1 : d' = d
   ·subst e1
    simp only [Spc.put, List.getElem?_set_self hdl, Option.some.injEq] at hy'
    subst hy'
    by_cases e2 : k' = k
    ·subst e2; rw [if_pos rfl]
    ·split
     ·rfl
     ·refine h.fits.free d' k' y hy hk' ?_
      have e3 : (k' == k) = false := by simpa using e2
      simp only [Shelf.busy, Shelf.gave, hfr, if_true, e3, Bool.not_false, Bool.true_and] at hb' ⊢
      exact hb'
   ·simp only [Spc.put, List.getElem?_set_ne (Ne.symm e1)] at hy'
    split
    ·rfl
    ·exact h.fits.free d' k' y' hy' hk' hb'
  ·by_cases e1 : d' = d
   ·subst e1
    simp only [Spc.put, List.getElem?_set_self hdl, Option.some.injEq] at hy'
    subst hy'
    exact h.fits.big d' y hy
   ·simp only [Spc.put, List.getElem?_set_ne (Ne.symm e1)] at hy'
    exact h.fits.big d' y' hy'
 ·refine ⟨h.xis.ent, by simp [Spc.put, h.xis.len], fun d' z hz => ?_⟩
  by_cases e1 : d' = d
  ·subst e1
   simp only [Spc.put, List.getElem?_set_self hdl, Option.some.injEq] at hz
   subst hz
   refine ⟨⟨e, he, hyn⟩, fun j => ⟨?_, ?_⟩⟩
   ·simp only [Shelf.gave, hfr, if_true]; exact (hb j).1
   ·show (!(j == k) && y.taken j) = _
    rw [(hb j).2, get_del]
    by_cases hj : j = k
    ·subst hj; simp
    ·have h1 : (j == k) = false := by simpa using hj
     rw [h1]
     by_cases hj4 : j < 4096
     ·have : ¬ lenV d' j = lenV d' k := fun e => hj (lenV_inj hj4 hk4 e).2
      simp [this]
     ·simp [hj4]
  ·simp only [Spc.put, List.getElem?_set_ne (Ne.symm e1)] at hz
   obtain ⟨q1, q2⟩ := h.xis.sh d' z hz
   refine ⟨q1, fun j => ⟨(q2 j).1, ?_⟩⟩
   rw [(q2 j).2, get_del]
   by_cases hj4 : j < 4096
   ·have : ¬ lenV d' j = lenV d k := fun e => e1 (lenV_inj hj4 hk4 e).1
    simp [this]
   ·simp [hj4]
 ·intro d' z hz j
  by_cases e1 : d' = d
  ·subst e1
   simp only [Spc.put, List.getElem?_set_self hdl, Option.some.injEq] at hz
   subst hz
   simp only [Shelf.gave, hfr, if_true]
   rw [h.fr d' y hy]
  ·simp only [Spc.put, List.getElem?_set_ne (Ne.symm e1)] at hz
   exact h.fr d' z hz j
structure Shr (Q Q' : Pgs) : Prop where
 sub : ∀ b g', VMap.get b Q' = some g' -> ∃ g, VMap.get b Q = some g /\ g'.n = g.n /\ g'.held = g.held
 kep : ∀ b g, VMap.get b Q = some g -> 0 < g.held -> (VMap.get b Q').isSome = true
 loo : ∀ b g', VMap.get b Q' = some g' -> g'.holds <= 0 -> ∃ g, VMap.get b Q = some g /\ g.holds <= 0
 low : ∀ b g' g, VMap.get b Q' = some g' -> VMap.get b Q = some g -> g'.holds <= g.holds
theorem Shr.refl (Q : Pgs) : Shr Q Q := ⟨fun b g h => ⟨g, h, rfl, rfl⟩, fun b g h _ => by rw [h]; rfl, fun b g h hl => ⟨g, h, hl⟩, fun b g g' h h' => by rw [h] at h'; obtain rfl := Option.some.inj h'; exact Int.le_refl _⟩
theorem Shr.trans {A B C : Pgs} (h : Shr A B) (k : Shr B C) : Shr A C := by
 refine ⟨fun b g' hg => ?_, fun b g hg h0 => ?_, fun b g' hg hl => ?_, fun b g' g hg' hg => ?_⟩
 ·obtain ⟨g1, e1, n1, h1⟩ := k.sub b g' hg
  obtain ⟨g2, e2, n2, h2⟩ := h.sub b g1 e1
  exact ⟨g2, e2, n1.trans n2, h1.trans h2⟩
 ·obtain ⟨g1, e1⟩ := Option.isSome_iff_exists.1 (h.kep b g hg h0)
  obtain ⟨g2, e2, _, h2⟩ := h.sub b g1 e1
  rw [hg] at e2
  obtain rfl := Option.some.inj e2
  exact k.kep b g1 e1 (by omega)
 ·obtain ⟨g1, e1, l1⟩ := k.loo b g' hg hl
  exact h.loo b g1 e1 l1
 ·obtain ⟨g1, e1, _, _⟩ := k.sub b g' hg'
  have h1 := k.low b g' g1 hg' e1
  have h2 := h.low b g1 g e1 hg
  omega
theorem gone_ex {es : List Ent} {disks : List Dsk} : ∀ (d : Nat) (ks : List Int) (Q : Pgs) (X : Spc) (pend : Int -> Nat), FInv es Q (fun a => ks.count a + pend a) -> Room es Q disks X -> (∀ a g, VMap.get a Q = some g -> g.holds <= 1000000) ->
  (∀ k ∈ ks, ∃ g, VMap.get k Q = some g /\ g.n.level < d) -> ∃ Q' X', GoneK d ks Q X Q' X' /\ FInv es Q' pend /\ Room es Q' disks X' /\ Shr Q Q' := by
 intro d
 induction d with
 | zero =>
  intro ks Q X pend hI hR _ hk
  cases ks with
  | nil =>
   have e : (fun a => List.count a ([] : List Int) + pend a) = pend := by funext a; simp
   rw [e] at hI
   exact ⟨Q, X, .nil _ _ _, hI, hR, .refl Q⟩
  | cons k ks =>
   obtain ⟨g, hg, hl⟩ := hk k (.head _)
   have := (hI.lv hg).1
   omega
 | succ d ihd =>
  intro ks
  induction ks with
  | nil =>
   intro Q X pend hI hR _ _
   have e : (fun a => List.count a ([] : List Int) + pend a) = pend := by funext a; simp
   rw [e] at hI
   exact ⟨Q, X, .nil _ _ _, hI, hR, .refl Q⟩
  | cons k ks ihk =>
   intro Q X pend hI hR hB hk
   obtain ⟨g, hg, hl⟩ := hk k (.head _)
   obtain ⟨p1, p2, p3⟩ := hI.pg k g hg
   have hcc : ∀ a, (k :: ks).count a = ks.count a + if a = k then 1 else 0 := fun a => by
    rw [List.count_cons]
    by_cases e : a = k
    ·subst e; simp
    ·have : ¬ k = a := fun x => e x.symm
     simp [e, this]
   have hck : (k :: ks).count k = ks.count k + 1 := by rw [hcc, if_pos rfl]
   simp only [hck] at p3
   have hst := hI.adr k (by rw [hg]; rfl)
   by_cases h1 : g.holds = 1
   ·-- it goes
    have hr0 : refs Q k = 0 := by omega
    have hp0 : pend k = 0 := by omega
    have hc0 : ks.count k = 0 := by omega
    have hh0 : g.held = 0 := by omega
    obtain ⟨X1, hgv, hR1⟩ := hR.give (by rw [hg]; rfl) hst
    have hkk : g.n.kids.count k = 0 := kids_count fun c hc e => by
     subst e
     obtain ⟨gc, hgc, hlc⟩ := hI.kid c g hg c hc
     rw [hg] at hgc
     obtain rfl := Option.some.inj hgc
     omega
    have hI1 : FInv es (VMap.del k Q) (fun a => g.n.kids.count a + (ks.count a + pend a)) := by
     refine hI.cut hg hr0 (by simp only [hkk, hc0, hp0]) fun b hb => ?_
     simp only [hcc, if_neg hb]
     omega
    have hB1 : ∀ a g', VMap.get a (VMap.del k Q) = some g' -> g'.holds <= 1000000 := fun a g' ha => by
     rw [get_del] at ha
     split at ha
     ·cases ha
     ·exact hB a g' ha
    have hS1 : Shr Q (VMap.del k Q) := by
     refine ⟨fun b g' hb => ?_, fun b gb hb h0 => ?_, fun b g' hb hl0 => ?_, fun b g' gb hb hb' => ?_⟩
     ·rw [get_del] at hb
      split at hb
      ·cases hb
      ·exact ⟨g', hb, rfl, rfl⟩
     ·rw [get_del]
      split
      ·rename_i e; subst e; rw [hg] at hb; obtain rfl := Option.some.inj hb; omega
      ·rw [hb]; rfl
     ·rw [get_del] at hb
      split at hb
      ·cases hb
      ·exact ⟨g', hb, hl0⟩
     ·rw [get_del] at hb
      split at hb
      ·cases hb
      ·rw [hb] at hb'; obtain rfl := Option.some.inj hb'; exact Int.le_refl _
    obtain ⟨Q2, X2, a1, a2, a3, a4⟩ := ihd g.n.kids _ X1 (fun a => ks.count a + pend a) hI1 hR1 hB1 fun c hc => by
     obtain ⟨gc, hgc, hlc⟩ := hI.kid k g hg c hc
     refine ⟨gc, ?_, by omega⟩
     rw [get_del, if_neg]
     ·exact hgc
     ·rintro rfl
      rw [hg] at hgc
      obtain rfl := Option.some.inj hgc
      omega
    have hB2 : ∀ a g', VMap.get a Q2 = some g' -> g'.holds <= 1000000 := fun a g' ha => by
     obtain ⟨g1, e1, _, _⟩ := a4.sub a g' ha
     have := a4.low a g' g1 ha e1
     have := hB1 a g1 e1
     omega
    obtain ⟨Q', X', b1, b2, b3, b4⟩ := ihk Q2 X2 pend a2 a3 hB2 fun j hj => by
     obtain ⟨gj, hgj, hlj⟩ := hk j (.tail _ hj)
     obtain ⟨g2, hg2⟩ := Option.isSome_iff_exists.1 (a2.deb j (by have := List.count_pos_iff.2 hj; omega))
     obtain ⟨g1, e1, n1, _⟩ := (hS1.trans a4).sub j g2 hg2
     rw [hgj] at e1
     obtain rfl := Option.some.inj e1
     exact ⟨g2, hg2, by rw [n1]; exact hlj⟩
    exact ⟨Q', X', .drop hg h1 hgv a1 b1, b2, b3, (hS1.trans a4).trans b4⟩
   ·-- it stays
    have h2 : 1 < g.holds := by omega
    have hB0 := hB k g hg
    have hgn : ∀ b, (VMap.get b (VMap.put k { g with holds := g.holds + -1 } Q)).map Pg.n = (VMap.get b Q).map Pg.n := fun b => by
     rw [get_put]
     by_cases e : b = k
     ·subst e; rw [if_pos rfl, hg]; rfl
     ·rw [if_neg e]
    have hsm : ∀ b, (VMap.get b (VMap.put k { g with holds := g.holds + -1 } Q)).isSome = (VMap.get b Q).isSome := fun b => by
     have := congrArg Option.isSome (hgn b)
     simpa using this
    have hI1 : FInv es (VMap.put k { g with holds := g.holds + -1 } Q) (fun a => ks.count a + pend a) := by
     refine ⟨hI.up.put _ _, fun b g' hb => ?_, fun b g' hb c hc => ?_, fun b hb => ?_, fun b hb => hI.adr b (by rw [<- hsm]; exact hb)⟩
     ·rw [refs_put_same (g' := { g with holds := g.holds + -1 }) hI.up hg rfl]
      rw [get_put] at hb
      by_cases e : b = k
      ·subst e
       rw [if_pos rfl] at hb
       obtain rfl := Option.some.inj hb
       refine ⟨p1, p2, ?_⟩
       show g.holds + -1 = _ + g.held
       omega
      ·rw [if_neg e] at hb
       have := hI.pg b g' hb
       simp only [hcc, if_neg e] at this
       exact this
     ·have h3 := hgn b
      rw [hb] at h3
      obtain ⟨g0, hg0, e0⟩ := Option.map_eq_some_iff.1 h3.symm
      rw [<- e0] at hc ⊢
      obtain ⟨gc, hgc, hlc⟩ := hI.kid b g0 hg0 c hc
      have h4 := hgn c
      rw [hgc] at h4
      obtain ⟨gc', hgc', e4⟩ := Option.map_eq_some_iff.1 h4
      exact ⟨gc', hgc', by rw [e4]; exact hlc⟩
     ·rw [hsm]; exact hI.deb b (by rw [hcc]; omega)
    have hS1 : Shr Q (VMap.put k { g with holds := g.holds + -1 } Q) := by
     refine ⟨fun b g' hb => ?_, fun b gb hb h0 => by rw [hsm, hb]; rfl, fun b g' hb hl0 => ?_, fun b g' gb hb hb' => ?_⟩
     ·rw [get_put] at hb
      by_cases e : b = k
      ·subst e; rw [if_pos rfl] at hb; obtain rfl := Option.some.inj hb; exact ⟨g, hg, rfl, rfl⟩
      ·rw [if_neg e] at hb; exact ⟨g', hb, rfl, rfl⟩
     ·rw [get_put] at hb
      by_cases e : b = k
      ·subst e; rw [if_pos rfl] at hb; obtain rfl := Option.some.inj hb
       have h5 : g.holds + -1 <= 0 := hl0
       omega
      ·rw [if_neg e] at hb; exact ⟨g', hb, hl0⟩
     ·rw [get_put] at hb
      by_cases e : b = k
      ·subst e; rw [if_pos rfl] at hb; obtain rfl := Option.some.inj hb
       rw [hg] at hb'; obtain rfl := Option.some.inj hb'
       show g.holds + -1 <= g.holds
       omega
      ·rw [if_neg e] at hb; rw [hb] at hb'; obtain rfl := Option.some.inj hb'; exact Int.le_refl _
    obtain ⟨Q', X', b1, b2, b3, b4⟩ := ihk _ X pend hI1 (hR.same hsm) (fun a g' ha => by
     obtain ⟨g1, e1, _, _⟩ := hS1.sub a g' ha
     have := hS1.low a g' g1 ha e1
     have := hB a g1 e1
     omega) fun j hj => by
     obtain ⟨gj, hgj, hlj⟩ := hk j (.tail _ hj)
     have h4 := hgn j
     rw [hgj] at h4
     obtain ⟨g', hg', e4⟩ := Option.map_eq_some_iff.1 h4
     exact ⟨g', hg', by rw [e4]; exact hlj⟩
    exact ⟨Q', X', .keep hg h2 (by omega) b1, b2, b3, hS1.trans b4⟩
end Go.Proofs.YtgbgneiciabidaaGreatDoor
