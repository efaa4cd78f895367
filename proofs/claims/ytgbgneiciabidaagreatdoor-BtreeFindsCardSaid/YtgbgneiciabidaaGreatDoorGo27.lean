/-
  Plain: rising pairs in lists; trees of pages; their pairs and their weight.
-/
import Derived.Test.YtgbgneiciabidaaGreatDoorGo24
import Derived.Test.YtgbgneiciabidaaGreatDoorGo26
namespace Go.Proofs.YtgbgneiciabidaaGreatDoor
open Go Go.RowKit
set_option linter.all false

abbrev KV := Int × Int
/-- Keys rise. -/
def Srt (L : List KV) : Prop := L.Pairwise fun p q => p.1 < q.1
def putL (L : List KV) (k v : Int) : List KV := L.filter (fun p => decide (p.1 < k)) ++ (k, v) :: L.filter (fun p => decide (k < p.1))
def delL (L : List KV) (k : Int) : List KV := L.filter fun p => !(p.1 == k)

theorem Srt.left {A B : List KV} (h : Srt (A ++ B)) : Srt A := (List.pairwise_append.1 h).1
theorem Srt.right {A B : List KV} (h : Srt (A ++ B)) : Srt B := (List.pairwise_append.1 h).2.1
theorem Srt.lt {A B : List KV} (h : Srt (A ++ B)) {p q : KV} (hp : p ∈ A) (hq : q ∈ B) : p.1 < q.1 := (List.pairwise_append.1 h).2.2 p hp q hq
theorem Srt.app {A B : List KV} (h1 : Srt A) (h2 : Srt B) (h : ∀ p ∈ A, ∀ q ∈ B, p.1 < q.1) : Srt (A ++ B) := List.pairwise_append.2 ⟨h1, h2, h⟩
theorem Srt.filter {L : List KV} (h : Srt L) (f : KV → Bool) : Srt (L.filter f) := List.Pairwise.filter _ h
theorem mem_putL {L : List KV} {k v : Int} {p : KV} (h : p ∈ putL L k v) : p = (k, v) ∨ p ∈ L := by
  unfold putL at h
  rcases List.mem_append.1 h with h | h
  · exact .inr (List.mem_filter.1 h).1
  · rcases List.mem_cons.1 h with h | h
    · exact .inl h
    · exact .inr (List.mem_filter.1 h).1
theorem putL_srt {L : List KV} (h : Srt L) (k v : Int) : Srt (putL L k v) := by
  unfold putL
  refine (h.filter _).app (List.pairwise_cons.2 ⟨fun q hq => ?_, h.filter _⟩) fun p hp q hq => ?_
  · simpa using (List.mem_filter.1 hq).2
  · have h1 : p.1 < k := by simpa using (List.mem_filter.1 hp).2
    rcases List.mem_cons.1 hq with rfl | hq
    · exact h1
    · have h2 : k < q.1 := by simpa using (List.mem_filter.1 hq).2
      omega
theorem delL_srt {L : List KV} (h : Srt L) (k : Int) : Srt (delL L k) := h.filter _
theorem filter_all {α : Type} {f : α → Bool} {L : List α} (h : ∀ p ∈ L, f p = true) : L.filter f = L := List.filter_eq_self.2 h
theorem filter_no {α : Type} {f : α → Bool} {L : List α} (h : ∀ p ∈ L, f p = false) : L.filter f = [] := by
  rw [List.filter_eq_nil_iff]; intro p hp; rw [h p hp]; decide
theorem putL_mid {A M B : List KV} {k v : Int} (hA : ∀ p ∈ A, p.1 < k) (hB : ∀ p ∈ B, k < p.1) : putL (A ++ M ++ B) k v = A ++ putL M k v ++ B := by
  unfold putL
  simp only [List.filter_append]
  rw [filter_all (f := fun p : KV => decide (p.1 < k)) (fun p hp => by simpa using hA p hp), filter_no (f := fun p : KV => decide (k < p.1)) (L := A) (fun p hp => by have := hA p hp; simp; omega),
    filter_no (f := fun p : KV => decide (p.1 < k)) (L := B) (fun p hp => by have := hB p hp; simp; omega), filter_all (f := fun p : KV => decide (k < p.1)) (L := B) (fun p hp => by have := hB p hp; simp; omega)]
  simp
theorem delL_mid {A M B : List KV} {k : Int} (hA : ∀ p ∈ A, p.1 < k) (hB : ∀ p ∈ B, k < p.1) : delL (A ++ M ++ B) k = A ++ delL M k ++ B := by
  unfold delL
  simp only [List.filter_append]
  rw [filter_all (L := A) (fun p hp => by have := hA p hp; simp; omega), filter_all (L := B) (fun p hp => by have := hB p hp; simp; omega)]

/-! What a node's place is. -/
theorem lowB_cons (x y : Int) (xs : List Int) : lowB (y :: xs) x = if y < x then lowB xs x + 1 else 0 := by
  unfold lowB
  rw [List.takeWhile_cons]
  by_cases h : y < x
  · rw [if_pos (by simpa using h), if_pos h]; rfl
  · rw [if_neg (by simpa using h), if_neg h]; rfl
theorem low_take (k : Int) : ∀ {L : List KV}, Srt L → L.filter (fun p => decide (p.1 < k)) = L.take (lowB (L.map (·.1)) k)
  | [], _ => rfl
  | p :: L, h => by
    obtain ⟨h1, h2⟩ := List.pairwise_cons.1 h
    rw [List.map_cons, lowB_cons]
    by_cases e : p.1 < k
    · rw [List.filter_cons_of_pos (by simpa using e), if_pos e, List.take_succ_cons, low_take k h2]
    · rw [List.filter_cons_of_neg (by simpa using e), if_neg e, List.take_zero]
      exact filter_no fun q hq => by have := h1 q hq; simp; omega
theorem high_drop (k : Int) : ∀ {L : List KV}, Srt L → L.filter (fun p => decide (k ≤ p.1)) = L.drop (lowB (L.map (·.1)) k)
  | [], _ => rfl
  | p :: L, h => by
    obtain ⟨h1, h2⟩ := List.pairwise_cons.1 h
    rw [List.map_cons, lowB_cons]
    by_cases e : p.1 < k
    · rw [List.filter_cons_of_neg (by simp; omega), if_pos e, List.drop_succ_cons, high_drop k h2]
    · rw [List.filter_cons_of_pos (by simp; omega), if_neg e, List.drop_zero]
      congr 1
      exact filter_all fun q hq => by have := h1 q hq; simp; omega
theorem low_len (k : Int) (L : List KV) : lowB (L.map (·.1)) k ≤ L.length := by
  have := (List.takeWhile_sublist (fun y => decide (y < k)) (l := L.map (·.1))).length_le
  rw [List.length_map] at this
  exact this
theorem putP_eq {L : List KV} (h : Srt L) (k v : Int) : putP L k v = putL L k v := by
  unfold putP putL
  rw [low_take k h]
  have hd := high_drop k h
  have hl := low_len k L
  generalize lowB (L.map (·.1)) k = i at *
  by_cases hx : (L.map (·.1))[i]? = some k
  · rw [if_pos hx]
    rw [List.getElem?_map, Option.map_eq_some_iff] at hx
    obtain ⟨p, hp, hk⟩ := hx
    have hi := (List.getElem?_eq_some_iff.1 hp).1
    have hdr : L.drop i = p :: L.drop (i + 1) := by
      rw [List.drop_eq_getElem_cons hi]
      rw [List.getElem?_eq_getElem hi] at hp
      rw [Option.some.inj hp]
    have e1 : L.filter (fun q => decide (k < q.1)) = (L.filter fun q => decide (k ≤ q.1)).filter fun q => decide (k < q.1) := by
      rw [List.filter_filter]
      apply List.filter_congr
      intro q _
      rw [Bool.eq_iff_iff]; simp; omega
    rw [e1, hd, hdr, List.filter_cons_of_neg (by simp; omega)]
    have hs2 : Srt (p :: L.drop (i + 1)) := by rw [← hdr]; exact List.Pairwise.drop h
    rw [filter_all fun q hq => by have := (List.pairwise_cons.1 hs2).1 q hq; simp; omega]
    rw [List.set_eq_take_append_cons_drop, if_pos hi]
  · rw [if_neg hx]
    unfold insP
    have e1 : L.filter (fun q => decide (k < q.1)) = L.filter (fun q => decide (k ≤ q.1)) := by
      apply List.filter_congr
      intro q hq
      have hne : q.1 ≠ k := by
        intro e
        have hm : q ∈ L.filter (fun q => decide (k ≤ q.1)) := List.mem_filter.2 ⟨hq, by simp; omega⟩
        rw [hd] at hm
        cases hdr : L.drop i with
        | nil => rw [hdr] at hm; cases hm
        | cons p r =>
          have hs2 : Srt (p :: r) := by rw [← hdr]; exact List.Pairwise.drop h
          have hp : L[i]? = some p := by
            have := congrArg (·[0]?) hdr
            simp only [List.getElem?_drop] at this
            simpa using this
          have hkp : k ≤ p.1 := by
            have : p ∈ L.drop i := by rw [hdr]; exact .head _
            rw [← hd] at this
            simpa using (List.mem_filter.1 this).2
          have hpk : p.1 ≠ k := fun e2 => hx (by rw [List.getElem?_map, hp]; simp [e2])
          rw [hdr] at hm
          rcases List.mem_cons.1 hm with rfl | hm
          · exact hpk e
          · have := (List.pairwise_cons.1 hs2).1 q hm
            omega
      rw [Bool.eq_iff_iff]; simp; omega
    rw [e1, hd]
theorem erase_eq {L : List KV} (h : Srt L) {k : Int} (hx : (L.map (·.1))[lowB (L.map (·.1)) k]? = some k) : L.eraseIdx (lowB (L.map (·.1)) k) = delL L k := by
  have h1 := low_take k h
  have h2 := high_drop k h
  generalize lowB (L.map (·.1)) k = i at *
  rw [List.getElem?_map, Option.map_eq_some_iff] at hx
  obtain ⟨p, hp, hk⟩ := hx
  have hi := (List.getElem?_eq_some_iff.1 hp).1
  have hdr : L.drop i = p :: L.drop (i + 1) := by
    rw [List.drop_eq_getElem_cons hi]
    rw [List.getElem?_eq_getElem hi] at hp
    rw [Option.some.inj hp]
  have hs2 : Srt (p :: L.drop (i + 1)) := by rw [← hdr]; exact List.Pairwise.drop h
  rw [List.eraseIdx_eq_take_drop_succ]
  have e : delL L k = delL (L.take i) k ++ delL (L.drop i) k := by
    unfold delL; rw [← List.filter_append, List.take_append_drop]
  rw [e, hdr]
  unfold delL
  rw [List.filter_cons_of_neg (by simp [hk]), filter_all (L := L.take i) fun q hq => by rw [← h1] at hq; have := (List.mem_filter.1 hq).2; simp at this ⊢; omega,
    filter_all fun q hq => by have := (List.pairwise_cons.1 hs2).1 q hq; simp; omega]

/-! Trees. -/
/-- What a page weighs: twice as much as it counts, and as much as its level tells. -/
def wt (lv m : Nat) : Nat := 2 ^ lv * (m - 4) + if lv = 0 then 2 else 2 ^ lv
inductive TrG (T : Int → List KV → Nat → Prop) : List KV → List KV → Nat → Prop
  | nil : TrG T [] [] 0
  | cons {k v : Int} {L1 : List KV} {s1 : Nat} {ps L2 : List KV} {s2 : Nat} : T v L1 s1 → (L1.map (·.1)).head? = some k → TrG T ps L2 s2 → TrG T ((k, v) :: ps) (L1 ++ L2) (s1 + s2)
/-- Page a, of a level, has these pairs below it; it and what is below it weighs s. -/
def Tr (Q : Pgs) : Nat → Int → List KV → Nat → Prop
  | 0, a, L, s => ∃ g, VMap.get a Q = some g ∧ g.n.level = 0 ∧ L = g.n.pairs ∧ s = wt 0 g.n.keys.length
  | lv + 1, a, L, s => ∃ g s', VMap.get a Q = some g ∧ g.n.level = ((lv + 1 : Nat) : Int) ∧ TrG (Tr Q lv) g.n.pairs L s' ∧ s = wt (lv + 1) g.n.keys.length + s'
abbrev TrL (Q : Pgs) (lv : Nat) : List KV → List KV → Nat → Prop := TrG (Tr Q lv)

theorem TrG.mono {T T' : Int → List KV → Nat → Prop} {ps L : List KV} {s : Nat} (h : TrG T ps L s) (hm : ∀ p ∈ ps, ∀ L s, T p.2 L s → T' p.2 L s) : TrG T' ps L s := by
  induction h with
  | nil => exact .nil
  | cons h1 h2 _ ih => exact .cons (hm _ (.head _) _ _ h1) h2 (ih fun p hp => hm p (.tail _ hp))
theorem TrG.app {T : Int → List KV → Nat → Prop} {A LA : List KV} {sA : Nat} (h : TrG T A LA sA) {B LB : List KV} {sB : Nat} (h2 : TrG T B LB sB) : TrG T (A ++ B) (LA ++ LB) (sA + sB) := by
  induction h with
  | nil => simpa using h2
  | cons a b _ ih => rw [List.cons_append, List.append_assoc, Nat.add_assoc]; exact .cons a b ih
theorem TrG.split {T : Int → List KV → Nat → Prop} : ∀ {A B L : List KV} {s : Nat}, TrG T (A ++ B) L s → ∃ LA LB sA sB, TrG T A LA sA ∧ TrG T B LB sB ∧ L = LA ++ LB ∧ s = sA + sB
  | [], B, L, s, h => ⟨[], L, 0, s, .nil, h, rfl, by omega⟩
  | p :: A, B, L, s, h => by
    cases h with
    | cons a b c =>
      obtain ⟨LA, LB, sA, sB, h1, h2, rfl, rfl⟩ := TrG.split c
      exact ⟨_, LB, _, sB, .cons a b h1, h2, by rw [List.append_assoc], by omega⟩
theorem TrG.one {T : Int → List KV → Nat → Prop} {p : KV} {B L : List KV} {s : Nat} (h : TrG T (p :: B) L s) : ∃ LM LB sM sB, T p.2 LM sM ∧ (LM.map (·.1)).head? = some p.1 ∧ TrG T B LB sB ∧ L = LM ++ LB ∧ s = sM + sB := by
  cases h with
  | cons a b c => exact ⟨_, _, _, _, a, b, c, rfl, rfl⟩
theorem TrG.single {T : Int → List KV → Nat → Prop} {k v : Int} {L : List KV} {s : Nat} (h : T v L s) (hk : (L.map (·.1)).head? = some k) : TrG T [(k, v)] L s := by
  have := TrG.cons h hk (TrG.nil (T := T))
  simpa using this
theorem head_mem {L : List KV} {k : Int} (h : (L.map (·.1)).head? = some k) : ∃ x ∈ L, x.1 = k := by
  cases L with
  | nil => cases h
  | cons x r => exact ⟨x, .head _, by simpa using h⟩
theorem TrG.keys {T : Int → List KV → Nat → Prop} {ps L : List KV} {s : Nat} (h : TrG T ps L s) : ∀ p ∈ ps, ∃ x ∈ L, x.1 = p.1 := by
  induction h with
  | nil => intro p hp; cases hp
  | cons a b _ ih =>
    intro p hp
    rcases List.mem_cons.1 hp with rfl | hp
    · obtain ⟨x, hx, e⟩ := head_mem b
      exact ⟨x, List.mem_append_left _ hx, e⟩
    · obtain ⟨x, hx, e⟩ := ih p hp
      exact ⟨x, List.mem_append_right _ hx, e⟩
theorem TrG.srt {T : Int → List KV → Nat → Prop} {ps L : List KV} {s : Nat} (h : TrG T ps L s) : Srt L → Srt ps := by
  induction h with
  | nil => intro _; exact List.Pairwise.nil
  | cons a b c ih =>
    intro hs
    refine List.pairwise_cons.2 ⟨fun q hq => ?_, ih hs.right⟩
    obtain ⟨x, hx, e⟩ := c.keys q hq
    obtain ⟨y, hy, e2⟩ := head_mem b
    have := hs.lt hy hx
    show _ < q.1
    omega
theorem TrG.head {T : Int → List KV → Nat → Prop} {p : KV} {B L : List KV} {s : Nat} (h : TrG T (p :: B) L s) : (L.map (·.1)).head? = some p.1 := by
  cases h with
  | cons a b c =>
    rename_i k v L1 s1 L2 s2
    cases L1 with
    | nil => cases b
    | cons x r => simpa using b
theorem head_le {L : List KV} (hs : Srt L) {k : Int} (h : (L.map (·.1)).head? = some k) : ∀ x ∈ L, k ≤ x.1 := by
  cases L with
  | nil => cases h
  | cons y r =>
    intro x hx
    have e : y.1 = k := by simpa using h
    rcases List.mem_cons.1 hx with rfl | hx
    · omega
    · have := (List.pairwise_cons.1 hs).1 x hx; omega
theorem TrG.len {T : Int → List KV → Nat → Prop} {ps L : List KV} {s : Nat} (h : TrG T ps L s) : ps.length ≤ L.length := by
  induction h with
  | nil => exact Nat.le_refl _
  | cons a b _ ih =>
    rename_i k v L1 s1 ps L2 s2 _
    cases L1 with
    | nil => cases b
    | cons x r => simp only [List.length_cons, List.length_append]; omega

/-- Where a key belongs among the pairs that name the pages below. -/
theorem TrG.place {T : Int → List KV → Nat → Prop} {A B L : List KV} {p : KV} {s : Nat} {key : Int} (h : TrG T (A ++ p :: B) L s) (hs : Srt L) (hA : A ≠ [] → p.1 ≤ key) (hB : ∀ q ∈ B, key < q.1) :
    ∃ LA LM LB sA sM sB, TrG T A LA sA ∧ T p.2 LM sM ∧ (LM.map (·.1)).head? = some p.1 ∧ TrG T B LB sB ∧ L = LA ++ LM ++ LB ∧ s = sA + sM + sB ∧ (∀ x ∈ LA, x.1 < key) ∧ (∀ x ∈ LB, key < x.1) := by
  obtain ⟨LA, LR, sA, sR, hA1, hR, rfl, rfl⟩ := h.split
  obtain ⟨LM, LB, sM, sB, hM, hk, hB1, rfl, rfl⟩ := hR.one
  refine ⟨LA, LM, LB, sA, sM, sB, hA1, hM, hk, hB1, by rw [List.append_assoc], by omega, ?_, ?_⟩
  · intro x hx
    cases A with
    | nil => cases hA1; cases hx
    | cons a A' =>
      obtain ⟨y, hy, e⟩ := head_mem hk
      have h1 := hs.lt hx (List.mem_append_left _ hy)
      have h2 := hA (by simp)
      omega
  · intro x hx
    cases B with
    | nil => cases hB1; cases hx
    | cons b B' =>
      have h1 := head_le hs.right.right hB1.head x hx
      have h2 := hB b (.head _)
      omega

theorem Tr.get {Q : Pgs} {lv : Nat} {a : Int} {L : List KV} {s : Nat} (h : Tr Q lv a L s) : ∃ g, VMap.get a Q = some g ∧ g.n.level = (lv : Int) := by
  cases lv with
  | zero => obtain ⟨g, h1, h2, _⟩ := h; exact ⟨g, h1, h2⟩
  | succ lv => obtain ⟨g, s', h1, h2, _⟩ := h; exact ⟨g, h1, h2⟩
/-- Pages that stay as they are. -/
def Same (Q Q' : Pgs) : Prop := ∀ a g, VMap.get a Q = some g → ∃ g', VMap.get a Q' = some g' ∧ g'.n = g.n
theorem Tr.mono {Q Q' : Pgs} (hm : Same Q Q') : ∀ {lv : Nat} {a : Int} {L : List KV} {s : Nat}, Tr Q lv a L s → Tr Q' lv a L s
  | 0, a, L, s, ⟨g, h1, h2, h3, h4⟩ => by
    obtain ⟨g', e1, e2⟩ := hm a g h1
    exact ⟨g', e1, by rw [e2]; exact h2, by rw [e2]; exact h3, by rw [e2]; exact h4⟩
  | lv + 1, a, L, s, ⟨g, s', h1, h2, h3, h4⟩ => by
    obtain ⟨g', e1, e2⟩ := hm a g h1
    exact ⟨g', s', e1, by rw [e2]; exact h2, by rw [e2]; exact h3.mono fun _ _ _ _ h => Tr.mono hm h, by rw [e2]; exact h4⟩
end Go.Proofs.YtgbgneiciabidaaGreatDoor
