/-
  Plain: what a world holds, said part by part: parts of memory that have no block in common ('Sep', 'Has').
-/
import Derived.WalkKit
import Derived.ArgAppend
import Derived.Deep.QuietTactic
import Derived.BigQuiet
import Derived.Test.YtgbgneiciabidaaGreatDoorProg
import Derived.Outline
import Derived.Lib.Hide
import Derived.Laws.Bits64b
import Derived.Laws.BitsAllLaws
import Derived.Lib.TrailingZeros
import Derived.Laws.Bits128
import Derived.Deep.MidRow
set_option linter.unusedVariables false
set_option linter.unusedSimpArgs false
namespace Go.Proofs.YtgbgneiciabidaaGreatDoor
open Go Go.RowKit

/-- A part of memory: which blocks it has, and what they hold. -/
abbrev Part := Nat → Option Obj
/-- What is said of a part of memory. -/
abbrev Say := Part → Prop

/-- 'o' lies in block 'b'. -/
def pts (b : Nat) (o : Obj) : Say := fun h => h b = some o

/-- The sayings hold of parts that have no block in common (what is left over plays no part). -/
def Sep : Part → List Say → Prop
  | _, [] => True
  | h, A :: l => ∃ h1 h2 : Part, A h1 ∧ Sep h2 l ∧ (∀ k, h1 k ≠ none → h k = h1 k ∧ h2 k = none) ∧ (∀ k, h2 k ≠ none → h k = h2 k)

theorem Sep.up : ∀ {l : List Say} {h h' : Part}, Sep h l → (∀ k, h k ≠ none → h' k = h k) → Sep h' l
  | [], _, _, _, _ => trivial
  | A :: l, h, h', ⟨h1, h2, hA, hl, d1, d2⟩, hk => by
    refine ⟨h1, h2, hA, hl, fun k hk1 => ?_, fun k hk2 => ?_⟩
    · obtain ⟨e1, e2⟩ := d1 k hk1
      exact ⟨by rw [hk k (by rw [e1]; exact hk1), e1], e2⟩
    · have e := d2 k hk2
      rw [hk k (by rw [e]; exact hk2), e]

theorem Sep.swap {A B : Say} {l : List Say} {h : Part} : Sep h (A :: B :: l) → Sep h (B :: A :: l) := by
  rintro ⟨h1, h2, hA, ⟨h3, h4, hB, hl, e1, e2⟩, d1, d2⟩
  refine ⟨h3, fun k => if h3 k = none then h k else none, hB, ⟨h1, h4, hA, hl, ?_, ?_⟩, ?_, ?_⟩
  · intro k hk
    obtain ⟨a, b⟩ := d1 k hk
    have h3k : h3 k = none := by
      cases hx : h3 k with
      | none => rfl
      | some o => have := (e1 k (by simp [hx])).1; rw [b] at this; simp [hx] at this
    refine ⟨by simp [h3k, a], ?_⟩
    cases hx : h4 k with
    | none => rfl
    | some o => have := e2 k (by simp [hx]); rw [b] at this; simp [hx] at this
  · intro k hk
    have h3k : h3 k = none := by
      cases hx : h3 k with
      | none => rfl
      | some o => exact absurd (e1 k (by simp [hx])).2 hk
    have := e2 k hk
    have h2k : h2 k ≠ none := by rw [this]; exact hk
    simp [h3k, d2 k h2k, this]
  · intro k hk
    obtain ⟨a, b⟩ := e1 k hk
    have h2k : h2 k ≠ none := by rw [a]; exact hk
    exact ⟨by rw [d2 k h2k, a], by simp [hk]⟩
  · intro k hk
    by_cases h3k : h3 k = none
    · simp [h3k] 
    · simp [h3k] at hk

theorem Sep.tail {A : Say} {l : List Say} {h : Part} : Sep h (A :: l) → Sep h l := by
  rintro ⟨h1, h2, hA, hl, d1, d2⟩
  exact hl.up d2

theorem Sep.cons_mono {A : Say} {l l' : List Say} {h : Part} (hm : ∀ h, Sep h l → Sep h l') : Sep h (A :: l) → Sep h (A :: l') := by
  rintro ⟨h1, h2, hA, hl, d1, d2⟩
  exact ⟨h1, h2, hA, hm _ hl, d1, d2⟩

theorem Sep.head_mono {A B : Say} {l : List Say} {h : Part} (hm : ∀ h, A h → B h) : Sep h (A :: l) → Sep h (B :: l) := by
  rintro ⟨h1, h2, hA, hl, d1, d2⟩
  exact ⟨h1, h2, hm _ hA, hl, d1, d2⟩

theorem Sep.perm {l l' : List Say} (hp : l.Perm l') : ∀ {h : Part}, Sep h l → Sep h l' := by
  induction hp with
  | nil => exact fun h => h
  | cons A _ ih => exact fun h => h.cons_mono fun _ => ih
  | swap A B l => exact fun h => h.swap
  | trans _ _ i1 i2 => exact fun h => i2 (i1 h)

theorem Sep.got {b : Nat} {o : Obj} {l : List Say} {h : Part} : Sep h (pts b o :: l) → h b = some o := by
  rintro ⟨h1, h2, hA, hl, d1, d2⟩
  have hA' : h1 b = some o := hA
  rw [(d1 b (by rw [hA']; simp)).1, hA']

/-- A block is written. -/
theorem Sep.put {b : Nat} {o o' : Obj} {l : List Say} {h h' : Part} (hs : Sep h (pts b o :: l)) (hb : h' b = some o') (hk : ∀ k, k ≠ b → h' k = h k) :
    Sep h' (pts b o' :: l) := by
  obtain ⟨h1, h2, hA, hl, d1, d2⟩ := hs
  have hA' : h1 b = some o := hA
  have h2b : h2 b = none := (d1 b (by rw [hA']; simp)).2
  refine ⟨fun k => if k = b then some o' else none, h2, by simp [pts], hl, fun k hk1 => ?_, fun k hk2 => ?_⟩
  · by_cases e : k = b
    · subst e; simp [hb, h2b]
    · simp [e] at hk1
  · have e : k ≠ b := by rintro rfl; exact hk2 h2b
    rw [hk k e, d2 k hk2]

/-- A block is new. -/
theorem Sep.new {b : Nat} {o : Obj} {l : List Say} {h h' : Part} (hs : Sep h l) (hn : h b = none) (hb : h' b = some o) (hk : ∀ k, k ≠ b → h' k = h k) :
    Sep h' (pts b o :: l) := by
  refine ⟨fun k => if k = b then some o else none, h, by simp [pts], hs, fun k hk1 => ?_, fun k hk2 => ?_⟩
  · by_cases e : k = b
    · subst e; simp [hb, hn]
    · simp [e] at hk1
  · have e : k ≠ b := by rintro rfl; exact hk2 hn
    rw [hk k e]

theorem Sep.join {A B : Say} {l : List Say} {h : Part} :
    Sep h (A :: B :: l) → Sep h ((fun h => Sep h [A, B]) :: l) := by
  rintro ⟨h1, h2, hA, ⟨h3, h4, hB, hl, e1, e2⟩, d1, d2⟩
  refine ⟨fun k => if h1 k = none then h3 k else h1 k, h4, ⟨h1, h3, hA, ⟨h3, fun _ => none, hB, trivial, by simp, by simp⟩, ?_, ?_⟩, hl, ?_, ?_⟩
  · intro k hk
    refine ⟨by simp [hk], ?_⟩
    cases hx : h3 k with
    | none => rfl
    | some o => have := (e1 k (by simp [hx])).1; rw [(d1 k hk).2] at this; simp [hx] at this
  · intro k hk
    have : h1 k = none := by
      cases hx : h1 k with
      | none => rfl
      | some o => have := (e1 k hk).1; rw [(d1 k (by simp [hx])).2] at this; exact absurd this.symm hk
    simp [this]
  · intro k hk
    by_cases h1k : h1 k = none
    · simp only [h1k, if_true] at hk ⊢
      obtain ⟨a, b⟩ := e1 k hk
      exact ⟨by rw [d2 k (by rw [a]; exact hk), a], b⟩
    · simp only [h1k, if_false]
      obtain ⟨a, b⟩ := d1 k h1k
      refine ⟨a, ?_⟩
      cases hx : h4 k with
      | none => rfl
      | some o => have := e2 k (by simp [hx]); rw [b] at this; simp [hx] at this
  · intro k hk
    have a := e2 k hk
    rw [d2 k (by rw [a]; exact hk), a]

theorem Sep.append_out : ∀ {m l : List Say} {h : Part}, Sep h ((fun h => Sep h m) :: l) → Sep h (m ++ l)
  | [], l, h, hs => hs.tail
  | A :: m, l, h, ⟨g, h4, ⟨h1, h3, hA, hm, e1, e2⟩, hl, d1, d2⟩ => by
    refine ⟨h1, fun k => if h1 k = none then h k else none, hA, Sep.append_out ⟨h3, h4, hm, hl, ?_, ?_⟩, ?_, ?_⟩
    · intro k hk
      have a := e2 k hk
      have b := d1 k (by rw [a]; exact hk)
      have c : h1 k = none := by
        cases hx : h1 k with
        | none => rfl
        | some o => exact absurd (e1 k (by simp [hx])).2 hk
      exact ⟨by simp [c, b.1, a], b.2⟩
    · intro k hk
      have c : h1 k = none := by
        cases hx : h1 k with
        | none => rfl
        | some o =>
          have a := (e1 k (by simp [hx])).1
          have := (d1 k (by rw [a]; simp [hx])).2
          exact absurd this hk
      simp [c, d2 k hk]
    · intro k hk
      have a := e1 k hk
      have b := d1 k (by rw [a.1]; exact hk)
      exact ⟨by rw [b.1, a.1], by simp [hk]⟩
    · intro k hk
      by_cases c : h1 k = none
      · simp [c]
      · simp [c] at hk

theorem Sep.append_in : ∀ {m l : List Say} {h : Part}, Sep h (m ++ l) → Sep h ((fun h => Sep h m) :: l)
  | [], l, h, hs => ⟨fun _ => none, h, trivial, hs, by simp, by simp⟩
  | A :: m, l, h, hs => by
    have h1 : Sep h (A :: (fun h => Sep h m) :: l) := Sep.cons_mono (fun _ => Sep.append_in) hs
    refine Sep.head_mono ?_ (Sep.join h1)
    rintro g ⟨g1, g2, hA, ⟨g3, g4, hm, _, e1, _⟩, d1, d2⟩
    refine ⟨g1, g2, hA, hm.up fun k hk => (e1 k hk).1, d1, d2⟩

/-- The world is of these parts. -/
def Has (w : World) (l : List Say) : Prop := Sep (fun k => w.heap[k]?) l


theorem Has.perm {w : World} {l l' : List Say} (h : Has w l) (hp : l.Perm l') : Has w l' := Sep.perm hp h
theorem Has.tail {w : World} {A : Say} {l : List Say} (h : Has w (A :: l)) : Has w l := Sep.tail h
theorem Has.swap {w : World} {A B : Say} {l : List Say} (h : Has w (A :: B :: l)) : Has w (B :: A :: l) := Sep.swap h
theorem Has.got {w : World} {b : Nat} {o : Obj} {l : List Say} (h : Has w (pts b o :: l)) : w.heap[b]? = some o := Sep.got h

/-- The sayings with the n-th one ahead. -/
def pull : Nat → List Say → List Say
  | 0, l => l
  | n + 1, A :: l => match pull n l with
    | B :: l' => B :: A :: l'
    | [] => [A]
  | _ + 1, [] => []
/-- The sayings with the first one laid at the n-th place. -/
def push : Nat → List Say → List Say
  | 0, l => l
  | n + 1, A :: B :: l => B :: push n (A :: l)
  | _ + 1, l => l

theorem Sep.pull : ∀ (n : Nat) {l : List Say} {h : Part}, Sep h l → Sep h (pull n l)
  | 0, _, _, hs => hs
  | n + 1, [], _, hs => hs
  | n + 1, A :: l, h, hs => by
    have h2 : Sep h (A :: Go.Proofs.YtgbgneiciabidaaGreatDoor.pull n l) := Sep.cons_mono (fun _ hl => Sep.pull n hl) hs
    unfold Go.Proofs.YtgbgneiciabidaaGreatDoor.pull
    generalize Go.Proofs.YtgbgneiciabidaaGreatDoor.pull n l = q at h2
    cases q with
    | nil => exact h2
    | cons B l' => exact h2.swap
theorem Sep.push : ∀ (n : Nat) {l : List Say} {h : Part}, Sep h l → Sep h (push n l)
  | 0, _, _, hs => hs
  | n + 1, [], _, hs => hs
  | n + 1, [A], _, hs => hs
  | n + 1, A :: B :: l, h, hs => Sep.cons_mono (fun _ hl => Sep.push n hl) hs.swap
theorem Has.pull {w : World} (n : Nat) {l : List Say} (h : Has w l) : Has w (pull n l) := Sep.pull n h
theorem Has.push {w : World} (n : Nat) {l : List Say} (h : Has w l) : Has w (push n l) := Sep.push n h
theorem Has.head {w : World} {A B : Say} {l : List Say} (h : Has w (A :: l)) (hm : ∀ h, A h → B h) : Has w (B :: l) := Sep.head_mono hm h
theorem Has.out {w : World} {m l : List Say} (h : Has w ((fun h => Sep h m) :: l)) : Has w (m ++ l) := Sep.append_out h
theorem Has.into {w : World} {m l : List Say} (h : Has w (m ++ l)) : Has w ((fun h => Sep h m) :: l) := Sep.append_in h

/-- A saying that stands somewhere in the list holds of a part of the world. -/
theorem Sep.mem : ∀ {l : List Say} {h : Part} {A : Say}, A ∈ l → Sep h l → ∃ g, A g ∧ ∀ k, g k ≠ none → h k = g k
  | [], _, _, hm, _ => by cases hm
  | B :: l, h, A, hm, ⟨h1, h2, hB, hl, d1, d2⟩ => by
    rcases List.mem_cons.1 hm with rfl | hm
    · exact ⟨h1, hB, fun k hk => (d1 k hk).1⟩
    · obtain ⟨g, hA, hg⟩ := Sep.mem hm hl
      exact ⟨g, hA, fun k hk => by
        have e := hg k hk
        rw [d2 k (by rw [e]; exact hk), e]⟩
theorem Has.mem {w : World} {l : List Say} {A : Say} (h : Has w l) (hm : A ∈ l) : ∃ g : Part, A g ∧ ∀ k, g k ≠ none → w.heap[k]? = g k := Sep.mem hm h
theorem Has.at {w : World} {l : List Say} {b : Nat} {o : Obj} (h : Has w l) (hm : pts b o ∈ l) : w.heap[b]? = some o := by
  obtain ⟨g, hg, hk⟩ := h.mem hm
  have hg' : g b = some o := hg
  rw [hk b (by rw [hg']; simp), hg']

/-! A saying with something chosen; a saying with a fact beside it. -/
def ex {α : Type} (A : α → Say) : Say := fun h => ∃ x, A x h
theorem Has.opened {α : Type} {w : World} {A : α → Say} {l : List Say} (h : Has w (ex A :: l)) : ∃ x, Has w (A x :: l) := by
  obtain ⟨h1, h2, ⟨x, hA⟩, hl, d1, d2⟩ := h
  exact ⟨x, h1, h2, hA, hl, d1, d2⟩
theorem Has.chosen {α : Type} {w : World} {A : α → Say} {l : List Say} (x : α) (h : Has w (A x :: l)) : Has w (ex A :: l) := h.head fun _ ha => ⟨x, ha⟩
def fact (p : Prop) (A : Say) : Say := fun h => p ∧ A h
theorem Has.unfact {w : World} {p : Prop} {A : Say} {l : List Say} (h : Has w (fact p A :: l)) : p ∧ Has w (A :: l) := by
  obtain ⟨h1, h2, ⟨hp, hA⟩, hl, d1, d2⟩ := h
  exact ⟨hp, h1, h2, hA, hl, d1, d2⟩
theorem Has.tofact {w : World} {p : Prop} {A : Say} {l : List Say} (hp : p) (h : Has w (A :: l)) : Has w (fact p A :: l) := h.head fun _ ha => ⟨hp, ha⟩
/-- Several sayings as one. -/
def all (m : List Say) : Say := fun h => Sep h m
theorem Has.split {w : World} {m l : List Say} (h : Has w (all m :: l)) : Has w (m ++ l) := h.out
theorem Has.unite {w : World} {m l : List Say} (h : Has w (m ++ l)) : Has w (all m :: l) := h.into

/-! How the world goes on. -/
theorem Has.of_heap {w w' : World} {l : List Say} (h : Has w l) (he : w'.heap = w.heap) : Has w' l := by unfold Has at *; rw [he]; exact h
theorem Has.drew {w : World} {l : List Say} (h : Has w l) : Has w.drew l := h
theorem Has.drewN {w : World} {l : List Say} (h : Has w l) (n : Nat) : Has (w.drewN n) l := h
theorem Has.same {w w' : World} {l : List Say} (h : Has w l) (hk : ∀ k, k < w.heap.size → w'.heap[k]? = w.heap[k]?) : Has w' l := by
  refine Sep.up h fun k hk' => ?_
  rcases Nat.lt_or_ge k w.heap.size with hlt | hge
  · exact hk k hlt
  · exact absurd (Array.getElem?_eq_none hge) hk'
theorem Has.below {w w' : World} {l : List Say} (h : Has w l) (hb : Below w.heap.size w w') : Has w' l := h.same hb.block
theorem Has.alloc {w : World} {l : List Say} (h : Has w l) (o : Obj) : Has (w.alloc o) (pts w.heap.size o :: l) := by
  refine Sep.new h (Array.getElem?_eq_none (Nat.le_refl _)) ?_ fun k hk => ?_
  · show (w.heap.push o)[w.heap.size]? = _
    simp
  · show (w.heap.push o)[k]? = _
    rw [Array.getElem?_push, if_neg hk]
theorem Has.alloc_off {w : World} {l : List Say} (h : Has w l) (o : Obj) : Has (w.alloc o) l := (h.alloc o).tail
theorem Has.setCell {w : World} {l : List Say} {b : Nat} {c : Array Value} {e : TypeId} {f : Nat × Nat} (h : Has w (pts b (.cells c e f) :: l)) (i : Nat) (v : Value) :
    Has (w.setCell ⟨b, i, none⟩ v) (pts b (.cells (c.setIfInBounds i v) e f) :: l) := by
  have hb := h.got
  refine Sep.put h ?_ fun k hk => ?_
  · simp [World.setCell, Array.getElem?_modify, hb]
  · simp only [World.setCell, Array.getElem?_modify]
    rw [if_neg (Ne.symm hk)]
theorem Has.setObj {w : World} {l : List Say} {b : Nat} {o : Obj} (h : Has w (pts b o :: l)) (o' : Obj) :
    Has { w with heap := w.heap.setIfInBounds b o' } (pts b o' :: l) := by
  have hb := h.got
  have hlt : b < w.heap.size := (Array.getElem?_eq_some_iff.1 hb).1
  refine Sep.put h ?_ fun k hk => ?_
  · show (w.heap.setIfInBounds b o')[b]? = _
    simp [hlt]
  · show (w.heap.setIfInBounds b o')[k]? = _
    rw [Array.getElem?_setIfInBounds, if_neg (Ne.symm hk)]

/-- The streams are as they were, and no block has gone. -/
structure Kept (w w' : World) : Prop where
  os : w'.os = w.os
  tape : w'.tape = w.tape
  output : w'.output = w.output
  size : w.heap.size ≤ w'.heap.size
theorem Kept.refl (w : World) : Kept w w := ⟨rfl, rfl, rfl, Nat.le_refl _⟩
theorem Kept.trans {a b c : World} (h : Kept a b) (k : Kept b c) : Kept a c := ⟨k.os.trans h.os, k.tape.trans h.tape, k.output.trans h.output, Nat.le_trans h.size k.size⟩
theorem Kept.drew {a w : World} (h : Kept a w) : Kept a w.drew := ⟨h.os, h.tape, h.output, h.size⟩
theorem Kept.drewN {a w : World} (h : Kept a w) (n : Nat) : Kept a (w.drewN n) := ⟨h.os, h.tape, h.output, h.size⟩
theorem Kept.alloc {a w : World} (h : Kept a w) (o : Obj) : Kept a (w.alloc o) := ⟨h.os, h.tape, h.output, by have := h.size; simp; omega⟩
theorem Kept.setCell {a w : World} (h : Kept a w) (p : Addr) (v : Value) : Kept a (w.setCell p v) := ⟨h.os, h.tape, h.output, by have := h.size; simpa [World.setCell] using this⟩
theorem Kept.setObj {a w : World} (h : Kept a w) (b : Nat) (o : Obj) : Kept a { w with heap := w.heap.setIfInBounds b o } := ⟨h.os, h.tape, h.output, by have := h.size; simpa using this⟩
theorem Kept.below {a w : World} {B : Nat} (h : Below B a w) : Kept a w := ⟨h.os, h.tape, h.output, h.size⟩
theorem Kept.grown {a w : World} {r : Option Nat} (h : a.grownBy w r) : Kept a w := ⟨h.os, h.tape, h.output, h.size⟩

/-- All that was there when the call began. -/
def old (W : World) : Say := fun h => ∀ k, k < W.heap.size → h k = W.heap[k]?
theorem Has.start (W : World) : Has W [old W] := ⟨fun k => W.heap[k]?, fun _ => none, fun _ _ => rfl, trivial, by simp, by simp⟩
theorem below_of_old {W w : World} {l : List Say} (h : Has w l) (hm : old W ∈ l) (hk : Kept W w) : Below W.heap.size W w := by
  refine ⟨hk.os, hk.tape, hk.output, hk.size, fun k hlt => ?_⟩
  obtain ⟨g, hg, hgk⟩ := h.mem hm
  have e := hg k hlt
  rw [hgk k (by rw [e]; simp [Array.getElem?_eq_getElem hlt]), e]

/-- What was there at the start is there. -/
theorem Has.old_cell {W w : World} {l : List Say} (h : Has w l) (hm : old W ∈ l) {p : Addr} {v : Value} (hc : W.cell? p = some v) : w.cell? p = some v := by
  have hlt := World.block_lt_of_cell? _ _ hc
  obtain ⟨g, hg, hgk⟩ := h.mem hm
  have e := hg p.block hlt
  have e2 : w.heap[p.block]? = W.heap[p.block]? := by
    rw [hgk p.block (by rw [e]; simp [Array.getElem?_eq_getElem hlt]), e]
  unfold World.cell? at hc ⊢
  rw [e2]; exact hc
/-! Cells out of a block. -/
theorem cell_of {w : World} {b : Nat} {c : Array Value} {e : TypeId} {f : Nat × Nat} (h : w.heap[b]? = some (.cells c e f)) (i : Nat) {v : Value} (hv : c[i]? = some v) :
    w.cell? ⟨b, i, none⟩ = some v := by simp [World.cell?, h, hv]
theorem thaw_of {w : World} {b : Nat} {c : Array Value} {e : TypeId} (h : w.heap[b]? = some (.cells c e (0, 0))) (i : Nat) :
    w.frozen? ⟨b, i, none⟩ = false := by simp [World.frozen?, h]
theorem map_of {w : World} {b : Nat} {es : Array MapEntry} {clock : Nat} (h : w.heap[b]? = some (.map es clock)) : w.heap[b]? = some (.map es clock) := h

/-! A row that a slice value has to itself. -/
def rowS (e : TypeId) (size : Nat) (v : Value) (n : Nat) (xs : List Value) : Say := fun h =>
  xs.length = n * size ∧ ((v = .slice none 0 0 ∧ n = 0) ∨
    ∃ g cap cur, v = .slice (some ⟨g, 0, none⟩) n cap ∧ h g = some (.cells cur e (0, 0)) ∧ n ≤ cap ∧ cap ≤ maxLen ∧ cur.size = cap * size ∧ cur.toList.take (n * size) = xs)

theorem rowS_nil (e : TypeId) (size : Nat) (h : Part) : rowS e size (.slice none 0 0) 0 [] h := ⟨by simp, .inl ⟨rfl, rfl⟩⟩
theorem Has.row_nil {w : World} {l : List Say} (h : Has w l) (e : TypeId) (size : Nat) : Has w (rowS e size (.slice none 0 0) 0 [] :: l) :=
  ⟨fun _ => none, fun k => w.heap[k]?, rowS_nil _ _ _, h, by simp, by simp⟩

theorem Has.row_own {w : World} {l : List Say} {e : TypeId} {size : Nat} {v : Value} {n : Nat} {xs : List Value} (h : Has w l) (hm : rowS e size v n xs ∈ l) : w.ownsRow 0 e size v n xs := by
  obtain ⟨g, ⟨h1, h2⟩, hk⟩ := h.mem hm
  refine ⟨h1, ?_⟩
  rcases h2 with h2 | ⟨b, cap, cur, hv, hb, r⟩
  · exact .inl h2
  · exact .inr ⟨b, cap, cur, hv, Nat.zero_le _, by rw [hk b (by rw [hb]; simp), hb], r⟩

/-- An owned row out of a block known whole. -/
theorem Has.row_of_pts {w : World} {l : List Say} {b : Nat} {cur : Array Value} {e : TypeId} (h : Has w (pts b (.cells cur e (0, 0)) :: l)) {size n cap : Nat} {xs : List Value}
    (h1 : xs.length = n * size) (h2 : n ≤ cap) (h3 : cap ≤ maxLen) (h4 : cur.size = cap * size) (h5 : cur.toList.take (n * size) = xs) :
    Has w (rowS e size (.slice (some ⟨b, 0, none⟩) n cap) n xs :: l) :=
  h.head fun _ ha => ⟨h1, .inr ⟨b, cap, cur, rfl, ha, h2, h3, h4, h5⟩⟩

/-- One of the sayings alone. -/
theorem Has.only {w : World} {l : List Say} {A : Say} (h : Has w l) (hm : A ∈ l) : Has w [A] := by
  obtain ⟨g, hA, hk⟩ := h.mem hm
  exact ⟨g, fun _ => none, hA, trivial, fun k hk1 => ⟨hk k hk1, rfl⟩, by simp⟩

/-- What a row tells whoever reads it. -/
theorem Has.row_read {w : World} {l : List Say} {e : TypeId} {v : Value} {n : Nat} {xs : List Value} (h : Has w l) (hm : rowS e 1 v n xs ∈ l) :
    xs.length = n ∧ ∃ a c, v = .slice a n c ∧ n ≤ c ∧ c ≤ maxLen ∧ ∀ k u, xs[k]? = some u → ∃ g, a = some ⟨g, 0, none⟩ ∧ w.cell? ⟨g, k, none⟩ = some u ∧ ∀ j, w.frozen? ⟨g, j, none⟩ = false := by
  obtain ⟨h1, h2⟩ := h.row_own hm
  have hl : xs.length = n := by simpa using h1
  refine ⟨hl, ?_⟩
  rcases h2 with ⟨rfl, rfl⟩ | ⟨g, cap, cur, rfl, _, hg, hn, hc, hs, ht⟩
  · obtain rfl : xs = [] := List.eq_nil_of_length_eq_zero hl
    exact ⟨none, 0, rfl, Nat.le_refl _, Nat.zero_le _, fun k u hu => by simp at hu⟩
  · refine ⟨_, cap, rfl, hn, hc, fun k u hu => ⟨g, rfl, cell_of hg k ?_, fun j => thaw_of hg j⟩⟩
    rw [← ht, List.getElem?_take] at hu
    split at hu
    · simpa using hu
    · cases hu

theorem Has.row_val {w : World} {l : List Say} {e : TypeId} {size : Nat} {v : Value} {n : Nat} {xs : List Value} (h : Has w l) (hm : rowS e size v n xs ∈ l) : ∃ a c, v = .slice a n c ∧ (0 < n → ∃ g, a = some ⟨g, 0, none⟩) := by
  obtain ⟨_, h2⟩ := h.row_own hm
  rcases h2 with ⟨rfl, rfl⟩ | ⟨g, cap, cur, rfl, _⟩
  · exact ⟨none, 0, rfl, fun h => by omega⟩
  · exact ⟨_, cap, rfl, fun _ => ⟨g, rfl⟩⟩

/-- A store into a row. -/
theorem Has.row_set {w : World} {l : List Say} {e : TypeId} {g n c : Nat} {xs : List Value} (h : Has w (rowS e 1 (.slice (some ⟨g, 0, none⟩) n c) n xs :: l)) (j : Nat) (u : Value) :
    Has (w.setCell ⟨g, j, none⟩ u) (rowS e 1 (.slice (some ⟨g, 0, none⟩) n c) n (xs.set j u) :: l) := by
  obtain ⟨h1, h2, ⟨hl, hc⟩, hrest, d1, d2⟩ := h
  rcases hc with ⟨hv, _⟩ | ⟨g', cap, cur, hv, hg, hn, hcm, hs, ht⟩
  · cases hv
  · cases hv
    have hp : Has w (pts g (.cells cur e (0, 0)) :: l) := ⟨h1, h2, hg, hrest, d1, d2⟩
    refine (hp.setCell j u).row_of_pts (by simpa using hl) hn hcm (by simpa using hs) ?_
    rw [Array.toList_setIfInBounds, List.take_set, ht]

/-- 'append' onto a row of one's own: one more row of one's own, in whatever memory. -/
theorem run_append_row {P : Program} {w : World} {l : List Say} (t ty e : TypeId) (i : TypeInfo) (z : Value) (size bytes : Nat) (ht : P.underlying t = some (.slice e)) (hi : P.info? e = some i) (hz : i.zero = some z)
    (hsize : i.size = size) (hby : i.bytes = bytes) (hzs : z.cells.size = size) (hsz : 0 < size)
    (v : Value) (n : Nat) (xs : List Value) (hown : Has w (rowS e size v n xs :: l))
    (a : Addr) (m c : Nat) (news : List Value) (hl : news.length = m * size) (hnews : ∀ j u, news[j]? = some u → w.cell? (a.add j) = some u) (h1 : ∀ u ∈ news, u.oneCell' = true)
    (h63 : n + m ≤ maxLen) (hbytes : (n + m) * bytes ≤ 140737488355328) :
    ∃ v' w', (Builtin.append_ #[t, t] ty #[v, .slice (some a) m c]).run P w = .ok v' w' ∧ Kept w w' ∧ Has w' (rowS e size v' (n + m) (xs ++ news) :: l) := by
  obtain ⟨hp1, hp2, ⟨hlen, hcase⟩, hl2, d1, d2⟩ := hown
  have hl2' : Has w l := Sep.up hl2 d2
  have fresh : ∀ {v' : Value} {w' : World}, w'.ownsRow w.heap.size e size v' (n + m) (xs ++ news) → w.grownBy w' none → Has w' (rowS e size v' (n + m) (xs ++ news) :: l) := by
    intro v' w' ho hg
    have hl3 : Has w' l := hl2'.same fun k hk => hg.block k hk (by simp)
    rcases ho.2 with ⟨rfl, hn⟩ | ⟨g, cap, cur, rfl, hbg, hgg, r⟩
    · exact ⟨fun _ => none, fun k => w'.heap[k]?, ⟨ho.1, .inl ⟨rfl, hn⟩⟩, hl3, by simp, by simp⟩
    · have h4 : Sep (fun k => if k < w.heap.size then w.heap[k]? else none) l := Sep.up hl2' fun k hk => by
        rcases Nat.lt_or_ge k w.heap.size with hlt | hge
        · simp [hlt]
        · exact absurd (Array.getElem?_eq_none hge) hk
      refine ⟨fun k => if k = g then w'.heap[g]? else none, _, ⟨ho.1, .inr ⟨g, cap, cur, rfl, by simp [hgg], r⟩⟩, h4, fun k hk => ?_, fun k hk => ?_⟩
      · by_cases e1 : k = g
        · subst e1; exact ⟨by simp, by simp; omega⟩
        · simp [e1] at hk
      · by_cases hlt : k < w.heap.size
        · simp only [hlt, if_true]; exact hg.block k hlt (by simp)
        · simp [hlt] at hk
  rcases hcase with ⟨rfl, rfl⟩ | ⟨g, cap, cur, rfl, hg, hnc, hcm, hcs, htake⟩
  · obtain rfl : xs = [] := List.eq_nil_of_length_eq_zero (by simpa using hlen)
    obtain ⟨v', w', hr, h2, h3, _⟩ := run_append_own (P := P) w w.heap.size t ty e i z size bytes ht hi hz hsize hby hzs hsz (.slice none 0 0) 0 [] (World.ownsRow_nil w _ e size) a m c news hl hnews h1 h63 hbytes (Nat.le_refl _)
    exact ⟨v', w', hr, .grown h3, fresh h2 h3⟩
  · have hg1 : w.heap[g]? = some (.cells cur e (0, 0)) := by
      have this : w.heap[g]? = hp1 g := (d1 g (by rw [hg]; simp)).1
      rw [this, hg]
    have hpts : Has w (pts g (.cells cur e (0, 0)) :: l) := ⟨hp1, hp2, hg, hl2, d1, d2⟩
    by_cases hroom : n + m ≤ cap
    · subst hsize
      have hfit : n * i.size + news.length ≤ cur.size := by rw [hl, hcs, ← Nat.add_mul]; exact Nat.mul_le_mul_right _ hroom
      have hr := run_append_room (P := P) w t ty e i ht hi g n cap cur hg1 a m c news hl hnews h1 hroom hfit
      refine ⟨_, _, hr, ⟨rfl, rfl, rfl, by simp⟩, ?_⟩
      have hput : Has (w.setRow g (cur.toList.take (n * i.size) ++ news ++ cur.toList.drop (n * i.size + news.length)).toArray) (pts g (.cells (cur.toList.take (n * i.size) ++ news ++ cur.toList.drop (n * i.size + news.length)).toArray e (0, 0)) :: l) :=
        Sep.put hpts (setRow_heap w g cur _ e _ hg1) fun k hk => setRow_other w g k _ hk
      refine hput.row_of_pts (by rw [List.length_append, hlen, hl, Nat.add_mul]) hroom hcm ?_ ?_
      · simp only [List.size_toArray, List.length_append, List.length_take, List.length_drop, Array.length_toList]
        omega
      · rw [htake]
        have e1 : (xs ++ news).length = (n + m) * i.size := by rw [List.length_append, hlen, hl, Nat.add_mul]
        rw [← e1]; exact List.take_left
    · have holds : ∀ j u, xs[j]? = some u → w.cell? ((⟨g, 0, none⟩ : Addr).add j) = some u := by
        intro j u hu
        rw [Addr.add_lit, Nat.zero_add]
        refine cell_of hg1 j ?_
        rw [← htake, List.getElem?_take] at hu
        split at hu
        · simpa using hu
        · cases hu
      obtain ⟨v', w', hr, h2, h3⟩ := run_append_arg_grows (P := P) w t ty e i z size bytes ht hi hz hsize hby hzs hsz ⟨g, 0, none⟩ n cap xs hlen holds a m c news hl hnews (by omega) h63 hbytes
      exact ⟨v', w', hr, .grown h3, fresh h2 h3⟩

/-- The same, at the walk's operation. -/
theorem wpList_append_row {P : Program} {w : World} {l : List Say} {ops : Array Oper} {rest : List Oper} {o : Oper} {a : Act} {Q : Exit → Act → World → Prop} (hgd : o.guard = none) (s x : Operand) (t : TypeId)
    (ho : o.op = .call { callee := .builtin .append, args := #[s, x], argTypes := #[t, t] })
    (e : TypeId) (i : TypeInfo) (z : Value) (size bytes : Nat) (ht : P.underlying t = some (.slice e)) (hi : P.info? e = some i) (hz : i.zero = some z)
    (hsize : i.size = size) (hby : i.bytes = bytes) (hzs : z.cells.size = size) (hsz : 0 < size)
    (v : Value) (n : Nat) (xs : List Value) (hs : a.eval s = v) (hown : Has w (rowS e size v n xs :: l))
    (ad : Addr) (m c : Nat) (news : List Value) (hx : a.eval x = .slice (some ad) m c) (hl : news.length = m * size) (hnews : ∀ j u, news[j]? = some u → w.cell? (ad.add j) = some u) (h1 : ∀ u ∈ news, u.oneCell' = true)
    (h63 : n + m ≤ maxLen) (hbytes : (n + m) * bytes ≤ 140737488355328)
    (h : ∀ v' w', Kept w w' → Has w' (rowS e size v' (n + m) (xs ++ news) :: l) → wpList P ops Q rest (a.put o.dst v') w') : wpList P ops Q (o :: rest) a w := by
  refine wpList_plain hgd fun K hK => ?_
  obtain ⟨v', w', hr, h2, h3⟩ := run_append_row (P := P) t o.type e i z size bytes ht hi hz hsize hby hzs hsz v n xs hown ad m c news hl hnews h1 h63 hbytes
  unfold Oper.wp execOp
  simp only [ho, resolve, invoke, builtin, Sem.run_bind, Sem.run_pure, Result.andThen_ok, List.map_toArray, List.map_cons, List.map_nil, hs, hx, hr]
  exact hK _ _ (h v' w' h2 h3)

/-- The same, as a step of a region that draws its order. -/
theorem step_append_row {P : Program} {w : World} {l : List Say} {ops : Array Oper} {o : Oper} {a : Act} {K : Act → World → Prop} {Q : Exit → Act → World → Prop} {E : Prop} (hgd : o.guard = none) (s x : Operand) (t : TypeId)
    (ho : o.op = .call { callee := .builtin .append, args := #[s, x], argTypes := #[t, t] })
    (e : TypeId) (i : TypeInfo) (z : Value) (size bytes : Nat) (ht : P.underlying t = some (.slice e)) (hi : P.info? e = some i) (hz : i.zero = some z)
    (hsize : i.size = size) (hby : i.bytes = bytes) (hzs : z.cells.size = size) (hsz : 0 < size)
    (v : Value) (n : Nat) (xs : List Value) (hs : a.eval s = v) (hown : Has w (rowS e size v n xs :: l))
    (ad : Addr) (m c : Nat) (news : List Value) (hx : a.eval x = .slice (some ad) m c) (hl : news.length = m * size) (hnews : ∀ j u, news[j]? = some u → w.cell? (ad.add j) = some u) (h1 : ∀ u ∈ news, u.oneCell' = true)
    (h63 : n + m ≤ maxLen) (hbytes : (n + m) * bytes ≤ 140737488355328)
    (h : ∀ v' w', Kept w w' → Has w' (rowS e size v' (n + m) (xs ++ news) :: l) → K (a.put o.dst v') w') : if Region.wanted o (yielded ops a.tmps) = true then Oper.wp P o a w K Q else E := by
  have hw : Region.wanted o (yielded ops a.tmps) = true := by simp [Region.wanted, hgd]
  rw [if_pos hw]
  obtain ⟨v', w', hr, h2, h3⟩ := run_append_row (P := P) t o.type e i z size bytes ht hi hz hsize hby hzs hsz v n xs hown ad m c news hl hnews h1 h63 hbytes
  unfold Oper.wp execOp
  simp only [ho, resolve, invoke, builtin, Sem.run_bind, Sem.run_pure, Result.andThen_ok, List.map_toArray, List.map_cons, List.map_nil, hs, hx, hr]
  exact h v' w' h2 h3

theorem one_new (w : World) (x : Value) (t : TypeId) : ∀ j u, [x][j]? = some u → (w.alloc (.cells #[x] t)).cell? ((⟨w.heap.size, 0, none⟩ : Addr).add j) = some u := by
  intro j u hu
  have : j = 0 := by
    have := (List.getElem?_eq_some_iff.1 hu).1
    simpa using this
  subst this
  rw [Addr.add_lit, World.cell?_alloc_new]
  simpa using hu

/-- The sayings in another order: each number tells the place among those that are left. -/
def reord : List Nat → List Say → List Say
  | [], l => l
  | i :: is, l => match pull i l with
    | A :: l' => A :: reord is l'
    | [] => []
theorem Sep.reord : ∀ (is : List Nat) {l : List Say} {h : Part}, Sep h l → Sep h (reord is l)
  | [], _, _, hs => hs
  | i :: is, l, h, hs => by
    have h2 := hs.pull i
    unfold Go.Proofs.YtgbgneiciabidaaGreatDoor.reord
    generalize Go.Proofs.YtgbgneiciabidaaGreatDoor.pull i l = q at h2
    cases q with
    | nil => exact h2
    | cons A l' => exact Sep.cons_mono (fun _ hl => Sep.reord is hl) h2
theorem Has.reord {w : World} (is : List Nat) {l : List Say} (h : Has w l) : Has w (reord is l) := Sep.reord is h

theorem pull_perm : ∀ (n : Nat) (l : List Say), (pull n l).Perm l
  | 0, _ => .refl _
  | _ + 1, [] => .refl _
  | n + 1, A :: l => by
    have h := pull_perm n l
    unfold pull
    generalize pull n l = q at h
    cases q with
    | nil => rw [List.nil_perm.1 h]
    | cons B l' => exact (List.Perm.swap _ _ _).trans (h.cons A)
theorem reord_perm : ∀ (is : List Nat) (l : List Say), (reord is l).Perm l
  | [], _ => .refl _
  | i :: is, l => by
    have h := pull_perm i l
    unfold reord
    generalize pull i l = q at h
    cases q with
    | nil => rw [List.nil_perm.1 h]
    | cons A l' => exact ((reord_perm is l').cons A).trans h
end Go.Proofs.YtgbgneiciabidaaGreatDoor
/-
  Slices searched by a function: slices.IndexFunc, slices.ContainsFunc at whole numbers.
-/
namespace Go.Proofs.YtgbgneiciabidaaGreatDoor
open Go Go.RowKit
set_option linter.unusedVariables false
set_option linter.unusedSimpArgs false

/-- A function that may be called by its number. -/
structure May (K : FuncId) : Prop where
  it : ∃ fn, Tryz.prog.funcs[K]? = some fn ∧ (fn.name == "runtime.NumGoroutine") = false ∧ fn.body.isNone = false

theorem May.run {K : FuncId} (h : May K) (vs : Array Value) (w : World) : (callFunc K vs).run Tryz.prog w = .ok (.enter K vs) w := by
  obtain ⟨fn, hf, hn, hb⟩ := h.it
  have hn' : ¬ fn.name = "runtime.NumGoroutine" := by simpa using hn
  have hb' : ¬ fn.body = none := by intro e; rw [e] at hb; cases hb
  simp [callFunc, program, Sem.run, bind, Sem.bind, hf, hn', hb']

/-- Where the first one stands that meets p; -1: none. -/
def firstAt (p : Int → Bool) (xs : List Int) : Int := match xs.findIdx? p with | some i => i | none => -1

theorem firstAt_hit (p : Int → Bool) (xs : List Int) (k : Nat) (hk : k < xs.length) (hb : ∀ j (h : j < k), p (xs[j]'(by omega)) = false) (hp : p xs[k] = true) : firstAt p xs = k := by
  have : xs.findIdx? p = some k := by
    rw [List.findIdx?_eq_some_iff_getElem]
    exact ⟨hk, hp, fun j hj => by simp [hb j hj]⟩
  simp [firstAt, this]
theorem firstAt_none (p : Int → Bool) (xs : List Int) (hb : ∀ j (h : j < xs.length), p xs[j] = false) : firstAt p xs = -1 := by
  have : xs.findIdx? p = none := by
    rw [List.findIdx?_eq_none_iff]
    intro x hx
    obtain ⟨j, hj, rfl⟩ := List.getElem_of_mem hx
    exact hb j hj
  simp [firstAt, this]
theorem firstAt_any (p : Int → Bool) (xs : List Int) : decide (0 ≤ firstAt p xs) = xs.any p := by
  unfold firstAt
  cases h : xs.findIdx? p with
  | none =>
    rw [List.findIdx?_eq_none_iff] at h
    have : xs.any p = false := by simpa using h
    rw [this]; rfl
  | some i =>
    rw [List.findIdx?_eq_some_iff_getElem] at h
    obtain ⟨hi, hp, _⟩ := h
    have : xs.any p = true := List.any_eq_true.2 ⟨_, List.getElem_mem hi, hp⟩
    rw [this]; simp

set_option maxRecDepth 100000 in
set_option maxHeartbeats 1000000 in
theorem IndexFuncInt (K : FuncId) (hK : May K) (caps : Array Value) (p : Int → Bool) (a : Option Addr) (c : Nat) (xs : List Int) (w : World) (hm : xs.length ≤ maxLen)
    (hx : ∀ (k : Nat) (h : k < xs.length), ∃ b off, a = some ⟨b, off, none⟩ ∧ w.cell? ⟨b, off + k, none⟩ = some (.int .i64 xs[k]))
    (hp : ∀ (k m : Nat) (h : k < xs.length), Calls Tryz.prog K (#[.int .i64 xs[k]] ++ caps) (w.drewN m) fun e w' => e = .returned (.bool (p xs[k])) ∧ ∃ m', w' = w.drewN m') :
    Calls Tryz.prog 194 #[.slice a xs.length c, .func (.func K) #[] caps] w fun e w' => e = .returned (.int .i64 (firstAt p xs)) ∧ ∃ m, w' = w.drewN m := by
  have hcall := fun (vs : Array Value) (w : World) => hK.run vs w
  have hm2 : xs.length ≤ 9223372036854775807 := by simpa [maxLen] using hm
  clear hm
  have Hx := Lib.hid hx; clear hx
  have Hp := Lib.hid hp; clear hp
  go_enter Tryz.func194, Tryz.ntmps194
  go_wp2
  go_loopw [8] (fun i wr => ∃ k : Nat, k ≤ xs.length ∧ i = .int .i64 k ∧ (∃ m, wr = w.drewN m) ∧ Hid (∀ j (h : j < xs.length), j < k → p xs[j] = false)) (fun i _ => xs.length - (intOf i).toNat)
  case atStart => exact ⟨0, Nat.zero_le _, rfl, ⟨0, rfl⟩, fun _ _ h => absurd h (Nat.not_lt_zero _)⟩
  case round =>
    obtain ⟨k, hk, rfl, ⟨m, rfl⟩, Hb⟩ := hrel
    by_cases hlt : k < xs.length
    · obtain ⟨b, off, rfl, hc⟩ := Hx.out k hlt
      have hq := Hp.out k m hlt
      generalize hxk : xs[k] = x at hc hq
      have hxk := Lib.hid hxk
      by_cases hpx : p x = true
      · rw [hpx] at hq
        have hq := Lib.hid hq
        have Hhit := Lib.hid (firstAt_hit p xs k hlt (fun j h => Hb.out j (by omega) h) (by rw [hxk.out]; exact hpx))
        clear hpx
        go_wp2_with fail
        refine hq.out.mono ?_
        rintro e w' ⟨rfl, m', rfl⟩
        go_wp2
        go_ret
        exact ⟨by rw [Hhit.out]; rfl, m', rfl⟩
      · have hpx : p x = false := by simpa using hpx
        rw [hpx] at hq
        have hq := Lib.hid hq
        have Hpx := Lib.hid hpx; clear hpx
        go_wp2_with fail
        refine hq.out.mono ?_
        rintro e w' ⟨rfl, m', rfl⟩
        go_wp2
        go_roundw
        case rel =>
          refine ⟨k + 1, by omega, by go_num, ⟨m', rfl⟩, fun j h hj => ?_⟩
          by_cases hjk : j = k
          · subst hjk; rw [hxk.out]; exact Hpx.out
          · exact Hb.out j h (by omega)
        case measure => simp [intOf]; omega
    · have e := firstAt_none p xs fun j h => Hb.out j h (by omega)
      have He := Lib.hid e; clear e
      go_wp2
      go_ret
      exact ⟨by rw [He.out]; rfl, m, rfl⟩

theorem ContainsFuncInt (K : FuncId) (hK : May K) (caps : Array Value) (p : Int → Bool) (a : Option Addr) (c : Nat) (xs : List Int) (w : World) (hm : xs.length ≤ maxLen)
    (hx : ∀ (k : Nat) (h : k < xs.length), ∃ b off, a = some ⟨b, off, none⟩ ∧ w.cell? ⟨b, off + k, none⟩ = some (.int .i64 xs[k]))
    (hp : ∀ (k m : Nat) (h : k < xs.length), Calls Tryz.prog K (#[.int .i64 xs[k]] ++ caps) (w.drewN m) fun e w' => e = .returned (.bool (p xs[k])) ∧ ∃ m', w' = w.drewN m') :
    Calls Tryz.prog 139 #[.slice a xs.length c, .func (.func K) #[] caps] w fun e w' => e = .returned (.bool (xs.any p)) ∧ ∃ m, w' = w.drewN m := by
  have H := Lib.hid (IndexFuncInt K hK caps p a c xs w hm hx hp)
  have He := Lib.hid (firstAt_any p xs)
  clear hx hp hm
  go_enter Tryz.func139, Tryz.ntmps139
  go_wp2_with (go_at_call 194; refine H.out.mono ?_; rintro e w' ⟨rfl, m, rfl⟩)
  go_ret
  exact ⟨by rw [← He.out]; rfl, m, rfl⟩
end Go.Proofs.YtgbgneiciabidaaGreatDoor
/-
  Plain: how many bits of a word are set, as bits.OnesCount64 counts them.
-/
namespace Go.Proofs.YtgbgneiciabidaaGreatDoor
open Go
set_option linter.unusedVariables false
set_option linter.unusedSimpArgs false

/-- How many of the first n bits are set. -/
def pop : Nat → Nat → Nat
  | 0, _ => 0
  | n + 1, x => x % 2 + pop n (x / 2)

theorem pop_zero : ∀ n, pop n 0 = 0
  | 0 => rfl
  | n + 1 => by simp [pop, pop_zero n]
theorem pop_le : ∀ n x, pop n x ≤ n
  | 0, _ => Nat.le_refl _
  | n + 1, x => by have := pop_le n (x / 2); simp only [pop]; omega

theorem and_lane (b c q M : Nat) (hb : b < 256) (hc : c < 256) : (b + 256 * q) &&& (c + 256 * M) = (b &&& c) + 256 * (q &&& M) := by
  have hlt : b &&& c < 2 ^ 8 := Nat.and_lt_two_pow _ (by omega)
  have h1 : ((b + 256 * q) &&& (c + 256 * M)) % 2 ^ 8 = b &&& c := by
    rw [Nat.and_mod_two_pow, show (b + 256 * q) % 2 ^ 8 = b by omega, show (c + 256 * M) % 2 ^ 8 = c by omega]
  have h2 : ((b + 256 * q) &&& (c + 256 * M)) >>> 8 = q &&& M := by
    rw [Nat.shiftRight_and_distrib, Nat.shiftRight_eq_div_pow, Nat.shiftRight_eq_div_pow, show (b + 256 * q) / 2 ^ 8 = q by omega, show (c + 256 * M) / 2 ^ 8 = M by omega]
  rw [Nat.shiftRight_eq_div_pow] at h2
  omega

theorem fin2 : ∀ b : Fin 256, ∀ r : Fin 2, (b.val / 2 + 128 * r.val) &&& 85 = (b.val / 2) &&& 85 := by decide +kernel
theorem fin4 : ∀ b : Fin 256, ∀ r : Fin 4, (b.val / 4 + 64 * r.val) &&& 51 = (b.val / 4) &&& 51 := by decide +kernel

/-- The three steps at one byte. -/
def s1 (b : Nat) : Nat := (b / 2 &&& 85) + (b &&& 85)
def s2 (b : Nat) : Nat := (b / 4 &&& 51) + (b &&& 51)
def s3 (b : Nat) : Nat := (b / 16 + b) &&& 15
theorem s_pop : ∀ b : Fin 256, s1 b.val < 256 ∧ s2 (s1 b.val) < 256 ∧ s2 (s1 b.val) % 16 ≤ 4 ∧ s2 (s1 b.val) / 16 ≤ 4 ∧ s3 (s2 (s1 b.val)) = pop 8 b.val := by decide +kernel

theorem step1 (b q M : Nat) (hb : b < 256) : ((b + 256 * q) / 2 &&& (85 + 256 * M)) + ((b + 256 * q) &&& (85 + 256 * M)) = s1 b + 256 * ((q / 2 &&& M) + (q &&& M)) := by
  have e : (b + 256 * q) / 2 = (b / 2 + 128 * (q % 2)) + 256 * (q / 2) := by omega
  rw [e, and_lane _ _ _ _ (by omega) (by omega), and_lane _ _ _ _ hb (by omega), fin2 ⟨b, hb⟩ ⟨q % 2, by omega⟩]
  simp only [s1]
  omega
theorem step2 (b q M : Nat) (hb : b < 256) : ((b + 256 * q) / 4 &&& (51 + 256 * M)) + ((b + 256 * q) &&& (51 + 256 * M)) = s2 b + 256 * ((q / 4 &&& M) + (q &&& M)) := by
  have e : (b + 256 * q) / 4 = (b / 4 + 64 * (q % 4)) + 256 * (q / 4) := by omega
  rw [e, and_lane _ _ _ _ (by omega) (by omega), and_lane _ _ _ _ hb (by omega), fin4 ⟨b, hb⟩ ⟨q % 4, by omega⟩]
  simp only [s2]
  omega
theorem and15 (x : Nat) : x &&& 15 = x % 16 := Nat.and_two_pow_sub_one_eq_mod x 4
theorem step3 (b q M : Nat) (h1 : b % 16 ≤ 4) (h2 : b / 16 ≤ 4) (h3 : q % 16 ≤ 4) : ((b + 256 * q) / 16 + (b + 256 * q)) &&& (15 + 256 * M) = s3 b + 256 * ((q / 16 + q) &&& M) := by
  have e : (b + 256 * q) / 16 + (b + 256 * q) = (b / 16 + b + 16 * (q % 16)) + 256 * (q / 16 + q) := by omega
  rw [e, and_lane _ _ _ _ (by omega) (by omega), and15]
  simp only [s3, and15]
  omega

/-- The word out of its bytes. -/
def join : List Nat → Nat
  | [] => 0
  | b :: l => b + 256 * join l
def mask (c : Nat) : Nat → Nat
  | 0 => 0
  | n + 1 => c + 256 * mask c n

theorem join1 : ∀ l : List Nat, (∀ b ∈ l, b < 256) → (join l / 2 &&& mask 85 l.length) + (join l &&& mask 85 l.length) = join (l.map s1)
  | [], _ => rfl
  | b :: l, h => by
    simp only [join, List.length_cons, mask, List.map_cons]
    rw [step1 b _ _ (h b (by simp)), join1 l fun x hx => h x (by simp [hx])]
theorem join2 : ∀ l : List Nat, (∀ b ∈ l, b < 256) → (join l / 4 &&& mask 51 l.length) + (join l &&& mask 51 l.length) = join (l.map s2)
  | [], _ => rfl
  | b :: l, h => by
    simp only [join, List.length_cons, mask, List.map_cons]
    rw [step2 b _ _ (h b (by simp)), join2 l fun x hx => h x (by simp [hx])]
theorem join_low : ∀ l : List Nat, (∀ b ∈ l, b % 16 ≤ 4) → join l % 16 ≤ 4
  | [], _ => by simp [join]
  | b :: l, h => by have := h b (by simp); simp only [join]; omega
theorem join3 : ∀ l : List Nat, (∀ b ∈ l, b % 16 ≤ 4 ∧ b / 16 ≤ 4) → (join l / 16 + join l) &&& mask 15 l.length = join (l.map s3)
  | [], _ => rfl
  | b :: l, h => by
    simp only [join, List.length_cons, mask, List.map_cons]
    rw [step3 b _ _ (h b (by simp)).1 (h b (by simp)).2 (join_low l fun x hx => (h x (by simp [hx])).1), join3 l fun x hx => h x (by simp [hx])]

/-- What bits.OnesCount64 reckons, in natural numbers. -/
def swar (x : Nat) : Nat :=
  let a1 := (x / 2 &&& 6148914691236517205) + (x &&& 6148914691236517205)
  let a2 := (a1 / 4 &&& 3689348814741910323) + (a1 &&& 3689348814741910323)
  let a3 := (a2 / 16 + a2) &&& 1085102592571150095
  let a4 := a3 + a3 / 256
  let a5 := a4 + a4 / 65536
  let a6 := a5 + a5 / 4294967296
  a6 % 128

theorem pop_split : ∀ (m n x : Nat), pop (m + n) x = pop m x + pop n (x / 2 ^ m)
  | 0, n, x => by simp [pop]
  | m + 1, n, x => by
    rw [show m + 1 + n = (m + n) + 1 by omega, pop, pop, pop_split m n (x / 2), Nat.div_div_eq_div_mul, Nat.pow_succ, Nat.mul_comm (2 ^ m) 2]
    omega
theorem pop_mod : ∀ (m x : Nat), pop m (x % 2 ^ m) = pop m x
  | 0, x => by simp [pop]
  | m + 1, x => by
    have e1 : x % 2 ^ (m + 1) % 2 = x % 2 := by rw [Nat.pow_succ, Nat.mul_comm]; exact Nat.mod_mul_right_mod x 2 (2 ^ m)
    have e2 : x % 2 ^ (m + 1) / 2 = (x / 2) % 2 ^ m := by
      rw [Nat.pow_succ, Nat.mul_comm, Nat.mod_mul, Nat.add_mul_div_left _ _ (by omega)]
      omega
    rw [pop, pop, e1, e2, pop_mod m]

theorem div_at (r q m : Nat) (hm : 0 < m) (h : r < m) : (r + m * q) / m = q := by
  rw [Nat.add_mul_div_left _ _ hm, Nat.div_eq_of_lt h, Nat.zero_add]
theorem fold8 (c0 c1 c2 c3 c4 c5 c6 c7 : Nat) (l0 : c0 ≤ 8) (l1 : c1 ≤ 8) (l2 : c2 ≤ 8) (l3 : c3 ≤ 8) (l4 : c4 ≤ 8) (l5 : c5 ≤ 8) (l6 : c6 ≤ 8) (l7 : c7 ≤ 8) :
    (join [c0, c1, c2, c3, c4, c5, c6, c7] + join [c0, c1, c2, c3, c4, c5, c6, c7] / 256 + (join [c0, c1, c2, c3, c4, c5, c6, c7] + join [c0, c1, c2, c3, c4, c5, c6, c7] / 256) / 65536 +
      (join [c0, c1, c2, c3, c4, c5, c6, c7] + join [c0, c1, c2, c3, c4, c5, c6, c7] / 256 + (join [c0, c1, c2, c3, c4, c5, c6, c7] + join [c0, c1, c2, c3, c4, c5, c6, c7] / 256) / 65536) / 4294967296) % 128 =
    c0 + (c1 + (c2 + (c3 + (c4 + (c5 + (c6 + c7)))))) := by
  have q1 : join [c0, c1, c2, c3, c4, c5, c6, c7] / 256 = join [c1, c2, c3, c4, c5, c6, c7] := div_at c0 _ 256 (by decide) (by omega)
  have r4 : join [c0, c1, c2, c3, c4, c5, c6, c7] + join [c1, c2, c3, c4, c5, c6, c7] = join [c0 + c1, c1 + c2, c2 + c3, c3 + c4, c4 + c5, c5 + c6, c6 + c7, c7] := by simp only [join]; omega
  rw [q1, r4]
  have q2 : join [c0 + c1, c1 + c2, c2 + c3, c3 + c4, c4 + c5, c5 + c6, c6 + c7, c7] / 65536 = join [c2 + c3, c3 + c4, c4 + c5, c5 + c6, c6 + c7, c7] := by
    have e : join [c0 + c1, c1 + c2, c2 + c3, c3 + c4, c4 + c5, c5 + c6, c6 + c7, c7] = ((c0 + c1) + 256 * (c1 + c2)) + 65536 * join [c2 + c3, c3 + c4, c4 + c5, c5 + c6, c6 + c7, c7] := by
      show (c0 + c1) + 256 * ((c1 + c2) + 256 * join [c2 + c3, c3 + c4, c4 + c5, c5 + c6, c6 + c7, c7]) = _
      omega
    rw [e]; exact div_at _ _ 65536 (by decide) (by omega)
  have r5 : join [c0 + c1, c1 + c2, c2 + c3, c3 + c4, c4 + c5, c5 + c6, c6 + c7, c7] + join [c2 + c3, c3 + c4, c4 + c5, c5 + c6, c6 + c7, c7] =
      join [c0 + c1 + (c2 + c3), c1 + c2 + (c3 + c4), c2 + c3 + (c4 + c5), c3 + c4 + (c5 + c6), c4 + c5 + (c6 + c7), c5 + c6 + c7, c6 + c7, c7] := by simp only [join]; omega
  rw [q2, r5]
  have q3 : join [c0 + c1 + (c2 + c3), c1 + c2 + (c3 + c4), c2 + c3 + (c4 + c5), c3 + c4 + (c5 + c6), c4 + c5 + (c6 + c7), c5 + c6 + c7, c6 + c7, c7] / 4294967296 = join [c4 + c5 + (c6 + c7), c5 + c6 + c7, c6 + c7, c7] := by
    have e : join [c0 + c1 + (c2 + c3), c1 + c2 + (c3 + c4), c2 + c3 + (c4 + c5), c3 + c4 + (c5 + c6), c4 + c5 + (c6 + c7), c5 + c6 + c7, c6 + c7, c7] =
        ((c0 + c1 + (c2 + c3)) + 256 * (c1 + c2 + (c3 + c4)) + 65536 * (c2 + c3 + (c4 + c5)) + 16777216 * (c3 + c4 + (c5 + c6))) + 4294967296 * join [c4 + c5 + (c6 + c7), c5 + c6 + c7, c6 + c7, c7] := by
      show (c0 + c1 + (c2 + c3)) + 256 * ((c1 + c2 + (c3 + c4)) + 256 * ((c2 + c3 + (c4 + c5)) + 256 * ((c3 + c4 + (c5 + c6)) + 256 * join [c4 + c5 + (c6 + c7), c5 + c6 + c7, c6 + c7, c7]))) = _
      omega
    rw [e]; exact div_at _ _ 4294967296 (by decide) (by omega)
  rw [q3]
  have e6 : join [c0 + c1 + (c2 + c3), c1 + c2 + (c3 + c4), c2 + c3 + (c4 + c5), c3 + c4 + (c5 + c6), c4 + c5 + (c6 + c7), c5 + c6 + c7, c6 + c7, c7] + join [c4 + c5 + (c6 + c7), c5 + c6 + c7, c6 + c7, c7] =
      (c0 + (c1 + (c2 + (c3 + (c4 + (c5 + (c6 + c7))))))) + 128 * (2 * (join [c1 + c2 + (c3 + c4), c2 + c3 + (c4 + c5), c3 + c4 + (c5 + c6), c4 + c5 + (c6 + c7), c5 + c6 + c7, c6 + c7, c7] + join [c5 + c6 + c7, c6 + c7, c7])) := by
    show (c0 + c1 + (c2 + c3)) + 256 * join [c1 + c2 + (c3 + c4), c2 + c3 + (c4 + c5), c3 + c4 + (c5 + c6), c4 + c5 + (c6 + c7), c5 + c6 + c7, c6 + c7, c7] + ((c4 + c5 + (c6 + c7)) + 256 * join [c5 + c6 + c7, c6 + c7, c7]) = _
    omega
  rw [e6, Nat.add_mul_mod_self_left, Nat.mod_eq_of_lt (by omega)]

set_option maxHeartbeats 1000000 in
theorem swar_eq (x : Nat) (hx : x < 18446744073709551616) : swar x = pop 64 x := by
  obtain ⟨b0, b1, b2, b3, b4, b5, b6, b7, h0, h1, h2, h3, h4, h5, h6, h7, rfl⟩ : ∃ b0 b1 b2 b3 b4 b5 b6 b7 : Nat, b0 < 256 ∧ b1 < 256 ∧ b2 < 256 ∧ b3 < 256 ∧ b4 < 256 ∧ b5 < 256 ∧ b6 < 256 ∧ b7 < 256 ∧ x = join [b0, b1, b2, b3, b4, b5, b6, b7] := by
    have d : ∀ y : Nat, y = y % 256 + 256 * (y / 256) := fun y => by omega
    have z : x / 256 / 256 / 256 / 256 / 256 / 256 / 256 / 256 = 0 := by simp only [Nat.div_div_eq_div_mul, Nat.reduceMul]; exact Nat.div_eq_of_lt hx
    refine ⟨x % 256, x / 256 % 256, x / 256 / 256 % 256, x / 256 / 256 / 256 % 256, x / 256 / 256 / 256 / 256 % 256, x / 256 / 256 / 256 / 256 / 256 % 256, x / 256 / 256 / 256 / 256 / 256 / 256 % 256,
      x / 256 / 256 / 256 / 256 / 256 / 256 / 256 % 256, Nat.mod_lt _ (by decide), Nat.mod_lt _ (by decide), Nat.mod_lt _ (by decide), Nat.mod_lt _ (by decide), Nat.mod_lt _ (by decide), Nat.mod_lt _ (by decide), Nat.mod_lt _ (by decide), Nat.mod_lt _ (by decide), ?_⟩
    simp only [join]
    have e7 := d (x / 256 / 256 / 256 / 256 / 256 / 256 / 256)
    rw [z] at e7
    rw [← e7, ← d, ← d, ← d, ← d, ← d, ← d, ← d]
  have hall : ∀ b ∈ [b0, b1, b2, b3, b4, b5, b6, b7], b < 256 := by simp [h0, h1, h2, h3, h4, h5, h6, h7]
  have k1 := join1 [b0, b1, b2, b3, b4, b5, b6, b7] hall
  have k2 := join2 ([b0, b1, b2, b3, b4, b5, b6, b7].map s1) fun b hb => by
    obtain ⟨a, ha, rfl⟩ := List.mem_map.1 hb
    exact (s_pop ⟨a, hall a ha⟩).1
  have k3 := join3 (([b0, b1, b2, b3, b4, b5, b6, b7].map s1).map s2) fun b hb => by
    obtain ⟨a, ha, rfl⟩ := List.mem_map.1 hb
    obtain ⟨c, hc, rfl⟩ := List.mem_map.1 ha
    exact ⟨(s_pop ⟨c, hall c hc⟩).2.2.1, (s_pop ⟨c, hall c hc⟩).2.2.2.1⟩
  have m1 : mask 85 8 = 6148914691236517205 := by decide
  have m2 : mask 51 8 = 3689348814741910323 := by decide
  have m3 : mask 15 8 = 1085102592571150095 := by decide
  simp only [List.length_cons, List.length_nil, List.length_map, Nat.reduceAdd, m1, m2, m3] at k1 k2 k3
  simp only [swar]
  rw [k1, k2, k3]
  simp only [List.map_cons, List.map_nil]
  have e0 := (s_pop ⟨b0, h0⟩).2.2.2.2
  have e1 := (s_pop ⟨b1, h1⟩).2.2.2.2
  have e2 := (s_pop ⟨b2, h2⟩).2.2.2.2
  have e3 := (s_pop ⟨b3, h3⟩).2.2.2.2
  have e4 := (s_pop ⟨b4, h4⟩).2.2.2.2
  have e5 := (s_pop ⟨b5, h5⟩).2.2.2.2
  have e6 := (s_pop ⟨b6, h6⟩).2.2.2.2
  have e7 := (s_pop ⟨b7, h7⟩).2.2.2.2
  simp only at e0 e1 e2 e3 e4 e5 e6 e7
  rw [e0, e1, e2, e3, e4, e5, e6, e7]
  have p8 : ∀ (b q n : Nat), b < 256 → pop (8 + n) (b + 256 * q) = pop 8 b + pop n q := by
    intro b q n hb
    rw [pop_split, ← pop_mod 8 (b + 256 * q), show (b + 256 * q) % 2 ^ 8 = b by omega, show (b + 256 * q) / 2 ^ 8 = q by omega]
  have hp : pop 64 (join [b0, b1, b2, b3, b4, b5, b6, b7]) = pop 8 b0 + (pop 8 b1 + (pop 8 b2 + (pop 8 b3 + (pop 8 b4 + (pop 8 b5 + (pop 8 b6 + pop 8 b7)))))) := by
    simp only [join]
    rw [show (64 : Nat) = 8 + (8 + (8 + (8 + (8 + (8 + (8 + (8 + 0))))))) from rfl, p8 _ _ _ h0, p8 _ _ _ h1, p8 _ _ _ h2, p8 _ _ _ h3, p8 _ _ _ h4, p8 _ _ _ h5, p8 _ _ _ h6, p8 _ _ _ h7]
    simp [pop]
  rw [hp]
  have l0 := pop_le 8 b0
  have l1 := pop_le 8 b1
  have l2 := pop_le 8 b2
  have l3 := pop_le 8 b3
  have l4 := pop_le 8 b4
  have l5 := pop_le 8 b5
  have l6 := pop_le 8 b6
  have l7 := pop_le 8 b7
  generalize pop 8 b0 = c0 at *
  generalize pop 8 b1 = c1 at *
  generalize pop 8 b2 = c2 at *
  generalize pop 8 b3 = c3 at *
  generalize pop 8 b4 = c4 at *
  generalize pop 8 b5 = c5 at *
  generalize pop 8 b6 = c6 at *
  generalize pop 8 b7 = c7 at *
  exact fold8 c0 c1 c2 c3 c4 c5 c6 c7 l0 l1 l2 l3 l4 l5 l6 l7
end Go.Proofs.YtgbgneiciabidaaGreatDoor
/-
  Words of bits: what bits.OnesCount64 and bits.TrailingZeros64 answer.
-/
namespace Go.Proofs.YtgbgneiciabidaaGreatDoor
open Go Go.RowKit
set_option linter.unusedVariables false
set_option linter.unusedSimpArgs false

theorem ones_core (x p1 p2 a1 p3 p4 a2 s3 a3 a4 a5 a6 r : Nat) (w : World)
    (h1 : bits BinOp.and IntKind.u64 ((x : Int) / 2) 6148914691236517205 = (p1 : Int)) (h2 : bits BinOp.and IntKind.u64 (x : Int) 6148914691236517205 = (p2 : Int))
    (h3 : IntKind.u64.wrap ((p1 : Int) + p2) = (a1 : Int))
    (h4 : bits BinOp.and IntKind.u64 ((a1 : Int) / 4) 3689348814741910323 = (p3 : Int)) (h5 : bits BinOp.and IntKind.u64 (a1 : Int) 3689348814741910323 = (p4 : Int))
    (h6 : IntKind.u64.wrap ((p3 : Int) + p4) = (a2 : Int)) (h7 : IntKind.u64.wrap ((a2 : Int) / 16 + a2) = (s3 : Int))
    (h8 : bits BinOp.and IntKind.u64 (s3 : Int) 1085102592571150095 = (a3 : Int))
    (h9 : IntKind.u64.wrap ((a3 : Int) + (a3 : Int) / 256) = (a4 : Int)) (h10 : IntKind.u64.wrap ((a4 : Int) + (a4 : Int) / 65536) = (a5 : Int)) (h11 : IntKind.u64.wrap ((a5 : Int) + (a5 : Int) / 4294967296) = (a6 : Int))
    (h12 : a6 < 9223372036854775808) (h13 : bits BinOp.and IntKind.i64 (a6 : Int) 127 = (r : Int)) :
    Calls Tryz.prog 221 #[.int .u64 (x : Int)] w fun e w' => e = .returned (.int .i64 (r : Int)) ∧ w' = w := by
  go_enter Tryz.func221, Tryz.ntmps221
  go_wp2
  go_ret
  exact ⟨rfl, rfl⟩

theorem wrap_u64_of (n : Nat) (h : n < 18446744073709551616) : IntKind.u64.wrap (n : Int) = (n : Int) := by rw [IntKind.wrap_u64]; omega

theorem OnesCount64 (x : Nat) (hx : x < 18446744073709551616) (w : World) :
    Calls Tryz.prog 221 #[.int .u64 (x : Int)] w fun e w' => e = .returned (.int .i64 (pop 64 x : Nat)) ∧ w' = w := by
  have hs := swar_eq x hx
  simp only [swar] at hs
  have b1 : x / 2 &&& 6148914691236517205 ≤ 6148914691236517205 := Nat.and_le_right
  have b2 : x &&& 6148914691236517205 ≤ 6148914691236517205 := Nat.and_le_right
  have h1 := bits_and_u64_nat (x / 2) 6148914691236517205 (by omega) (by decide)
  have h2 := bits_and_u64_nat x 6148914691236517205 hx (by decide)
  generalize x / 2 &&& 6148914691236517205 = p1 at *
  generalize x &&& 6148914691236517205 = p2 at *
  have b3 : (p1 + p2) / 4 &&& 3689348814741910323 ≤ 3689348814741910323 := Nat.and_le_right
  have b4 : (p1 + p2) &&& 3689348814741910323 ≤ 3689348814741910323 := Nat.and_le_right
  have h3 := wrap_u64_of (p1 + p2) (by omega)
  have h4 := bits_and_u64_nat ((p1 + p2) / 4) 3689348814741910323 (by omega) (by decide)
  have h5 := bits_and_u64_nat (p1 + p2) 3689348814741910323 (by omega) (by decide)
  generalize (p1 + p2) / 4 &&& 3689348814741910323 = p3 at *
  generalize (p1 + p2) &&& 3689348814741910323 = p4 at *
  have h6 := wrap_u64_of (p3 + p4) (by omega)
  have h7 := wrap_u64_of ((p3 + p4) / 16 + (p3 + p4)) (by omega)
  have b5 : ((p3 + p4) / 16 + (p3 + p4)) &&& 1085102592571150095 ≤ 1085102592571150095 := Nat.and_le_right
  have h8 := bits_and_u64_nat ((p3 + p4) / 16 + (p3 + p4)) 1085102592571150095 (by omega) (by decide)
  generalize ((p3 + p4) / 16 + (p3 + p4)) &&& 1085102592571150095 = a3 at *
  have h9 := wrap_u64_of (a3 + a3 / 256) (by omega)
  have h10 := wrap_u64_of ((a3 + a3 / 256) + (a3 + a3 / 256) / 65536) (by omega)
  have h11 := wrap_u64_of (((a3 + a3 / 256) + (a3 + a3 / 256) / 65536) + ((a3 + a3 / 256) + (a3 + a3 / 256) / 65536) / 4294967296) (by omega)
  have h12 : ((a3 + a3 / 256) + (a3 + a3 / 256) / 65536) + ((a3 + a3 / 256) + (a3 + a3 / 256) / 65536) / 4294967296 < 9223372036854775808 := by omega
  refine ones_core x p1 p2 (p1 + p2) p3 p4 (p3 + p4) ((p3 + p4) / 16 + (p3 + p4)) a3 (a3 + a3 / 256) ((a3 + a3 / 256) + (a3 + a3 / 256) / 65536)
    (((a3 + a3 / 256) + (a3 + a3 / 256) / 65536) + ((a3 + a3 / 256) + (a3 + a3 / 256) / 65536) / 4294967296) (pop 64 x) w ?_ ?_ ?_ ?_ ?_ ?_ ?_ ?_ ?_ ?_ ?_ h12 ?_
  · simpa using h1
  · simpa using h2
  · simpa using h3
  · simpa using h4
  · simpa using h5
  · simpa using h6
  · simpa using h7
  · simpa using h8
  · simpa using h9
  · simpa using h10
  · simpa using h11
  · rw [← hs, i64_and127]
    omega
end Go.Proofs.YtgbgneiciabidaaGreatDoor
/-
  Plain: a region that draws its order, walked once, in the order of the text: what each operation needs is owned, so that it is no matter who comes first.
-/
namespace Go.Proofs.YtgbgneiciabidaaGreatDoor
open Go Go.RowKit
set_option linter.all false

section
variable {P : Program} {ops : Array Oper} {S : Nat → World → Prop} {live : Nat → Nat → Prop}

/-- What is asked of what an operation has come to: a value and a world. -/
def SepUpon (P : Program) (C : Value → World → Prop) : Result Next → Prop
  | .ok (.value u) w' => C u w'
  | .ok .skip w' => C undef w'
  | .ok (.enter f args) w' => Calls P f args w' fun e w'' => ∃ v, e = .returned v ∧ C v w''
  | .ok (.row row args) w' => Rows P row args w' C
  | _ => False
theorem SepUpon.mono {C D : Value → World → Prop} (h : ∀ v w, C v w → D v w) {r : Result Next} (hr : SepUpon P C r) : SepUpon P D r := by
  cases r with
  | halt x w => exact hr.elim
  | ok n w =>
    cases n <;> first
      | exact h _ _ hr
      | exact Calls.mono hr fun e w'' ⟨v, he, hc⟩ => ⟨v, he, h _ _ hc⟩
      | exact Rows.mono hr h
      | exact False.elim hr
theorem SepUpon.ex {C : Value → World → Prop} {r : Result Next} (hr : SepUpon P C r) : ∃ v w, C v w := by
  cases r with
  | halt x w => exact hr.elim
  | ok n w =>
    cases n with
    | value u => exact ⟨_, _, hr⟩
    | skip => exact ⟨_, _, hr⟩
    | enter f args =>
      obtain ⟨e, w'', fr, ⟨v, _, hc⟩, _⟩ := hr []
      exact ⟨v, w'', hc⟩
    | row row args =>
      obtain ⟨v, w'', hc, _⟩ := hr default []
      exact ⟨v, w'', hc⟩
    | _ => exact False.elim hr

/-- What an operation is: one that reads; one that makes a block; one that does more. -/
inductive Kd where
  | rd | nw | mn
  deriving DecidableEq

def RdUpon (w : World) (v : Value) : Result Next → Prop
  | .ok (.value u) w' => w' = w ∧ u = v
  | .ok .skip w' => w' = w ∧ v = undef
  | _ => False
theorem RdUpon.one {w : World} {u v : Value} {r : Result Next} (h1 : RdUpon w u r) (h2 : RdUpon w v r) : u = v := by
  cases r with
  | halt x w => exact h1.elim
  | ok n w =>
    cases n <;> first
      | exact h1.2.symm.trans h2.2
      | exact h1.2.trans h2.2.symm
      | exact False.elim h1
theorem RdUpon.upon {w : World} {v : Value} {o : Oper} {a : Act} {K : Act → World → Prop} {Q : Exit → Act → World → Prop} {r : Result Next} (h : RdUpon w v r) (hk : K (a.put o.dst v) w) : o.upon P a K Q r := by
  cases r with
  | halt x w => exact h.elim
  | ok n w =>
    cases n with
    | value u => obtain ⟨rfl, rfl⟩ := h; exact hk
    | skip => obtain ⟨rfl, rfl⟩ := h; exact hk
    | _ => exact False.elim h
def RunsRd (P : Program) (S : World → Prop) (o : Oper) (a : Act) (v : Value) : Prop := ∀ w, S w → RdUpon w v ((execOp a.eval o).run P w)
def RunsNw (P : Program) (o : Oper) (a : Act) (f : Nat → Value) (ob : Obj) : Prop := ∀ w, (execOp a.eval o).run P w = .ok (.value (f w.heap.size)) (w.alloc ob)
def RunsMn (P : Program) (S : World → Prop) (o : Oper) (a : Act) (L : List Say) (Post : Value → List Say → Prop) : Prop :=
  ∀ w F, S w → Has w (L ++ F) → SepUpon P (fun v w' => Kept w w' ∧ ∃ L', Post v L' ∧ Has w' (L' ++ F)) ((execOp a.eval o).run P w)

/-- The walk, in the order 'ord'. What an operation reads is told by 'S' of its number; 'live m j': one that does more, m, must leave S of j. -/
def WSep (P : Program) (ops : Array Oper) (S : Nat → World → Prop) (live : Nat → Nat → Prop) (kd : Nat → Kd) (Q : Act → List Say → Prop) : List Nat → Act → List Say → Prop
  | [], a, L => Q a L
  | k :: ord, a, L => ∃ o, ops[k]? = some o ∧
    if Region.wanted o (yielded ops a.tmps) = true then
      match kd k with
      | .rd => ∃ v, RunsRd P (S k) o a v ∧ WSep P ops S live kd Q ord (a.put o.dst v) L
      | .nw => ∃ f ob, RunsNw P o a f ob ∧ ∀ b, WSep P ops S live kd Q ord (a.put o.dst (f b)) (pts b ob :: L)
      | .mn => ∃ Post, RunsMn P (S k) o a L Post ∧ ∀ v L', Post v L' → (∀ w F, Has w (L' ++ F) → ∀ j, live k j → S j w) ∧ WSep P ops S live kd Q ord (a.put o.dst v) L'
    else WSep P ops S live kd Q ord (a.put o.dst undef) L

theorem Has.perm_app {w : World} {L L2 F : List Say} (h : Has w (L ++ F)) (hp : L.Perm L2) : Has w (L2 ++ F) := h.perm (hp.append_right F)

theorem WSep.perm {kd : Nat → Kd} {Q : Act → List Say → Prop} (hQ : ∀ a L L2, List.Perm L L2 → Q a L → Q a L2) : ∀ {ord : List Nat} {a : Act} {L L2 : List Say}, List.Perm L L2 → WSep P ops S live kd Q ord a L → WSep P ops S live kd Q ord a L2
  | [], a, L, L2, hp, h => hQ a L L2 hp h
  | k :: ord, a, L, L2, hp, h => by
    obtain ⟨o, ho, h⟩ := h
    refine ⟨o, ho, ?_⟩
    split
    · rename_i hw
      simp only [hw, if_true] at h
      cases hk : kd k with
      | rd =>
        simp only [hk] at h ⊢
        obtain ⟨v, h1, h2⟩ := h
        exact ⟨v, h1, WSep.perm hQ hp h2⟩
      | nw =>
        simp only [hk] at h ⊢
        obtain ⟨f, ob, h1, h2⟩ := h
        exact ⟨f, ob, h1, fun b => WSep.perm hQ (hp.cons _) (h2 b)⟩
      | mn =>
        simp only [hk] at h ⊢
        obtain ⟨Post, h1, h2⟩ := h
        exact ⟨Post, fun w F hS hh => h1 w F hS (hh.perm_app hp.symm), h2⟩
    · rename_i hw
      simp only [hw] at h
      exact WSep.perm hQ hp h

/-- What two operations must be to one another, the first one ahead of the second in the walk, and the second one may come first. -/
structure Aparts (ops : Array Oper) (x y : Oper) : Prop where
  x1 : ∀ d, x.dst = some d → d ∉ y.looksAt ops
  x2 : ∀ d, x.dst = some d → y.dst ≠ some d
  y1 : ∀ d, y.dst = some d → d ∉ x.looksAt ops

section
variable {kd : Nat → Kd} {Q : Act → List Say → Prop}

theorem RunsRd.put {S : World → Prop} {x o : Oper} {a : Act} {u v : Value} (hs : ∀ cs b, o.op ≠ .select cs b) (hx : ∀ d, x.dst = some d → d ∉ o.looksAt ops) : RunsRd P S o (a.put x.dst u) v ↔ RunsRd P S o a v := by
  unfold RunsRd; rw [execOp_put (ops := ops) o hs a x.dst u hx]
theorem RunsNw.put {x o : Oper} {a : Act} {u : Value} {f : Nat → Value} {ob : Obj} (hs : ∀ cs b, o.op ≠ .select cs b) (hx : ∀ d, x.dst = some d → d ∉ o.looksAt ops) : RunsNw P o (a.put x.dst u) f ob ↔ RunsNw P o a f ob := by
  unfold RunsNw; rw [execOp_put (ops := ops) o hs a x.dst u hx]
theorem RunsMn.put {S : World → Prop} {x o : Oper} {a : Act} {u : Value} {L : List Say} {Post : Value → List Say → Prop} (hs : ∀ cs b, o.op ≠ .select cs b) (hx : ∀ d, x.dst = some d → d ∉ o.looksAt ops) : RunsMn P S o (a.put x.dst u) L Post ↔ RunsMn P S o a L Post := by
  unfold RunsMn; rw [execOp_put (ops := ops) o hs a x.dst u hx]

/-- One that is passed over comes first. -/
theorem WSep.skip_first {j : Nat} {o : Oper} {l2 : List Nat} (hj : ops[j]? = some o) (hs : ∀ (k : Nat) (x : Oper) cs b, ops[k]? = some x → x.op ≠ .select cs b) :
    ∀ {l1 : List Nat} {a : Act} {L : List Say}, (∀ k ∈ l1, ∀ x, ops[k]? = some x → Aparts ops x o) → Region.wanted o (yielded ops a.tmps) = false →
      WSep P ops S live kd Q (l1 ++ j :: l2) a L → WSep P ops S live kd Q (l1 ++ l2) (a.put o.dst undef) L
  | [], a, L, _, hw, h => by
    obtain ⟨o', ho', h⟩ := h
    obtain rfl : o = o' := Option.some.inj (hj.symm.trans ho')
    simp only [hw, Bool.false_eq_true, if_false] at h
    exact h
  | k :: l1, a, L, hap, hw, h => by
    obtain ⟨x, hx, h⟩ := h
    have hxo := hap k (.head _) x hx
    have hap' : ∀ k ∈ l1, ∀ x, ops[k]? = some x → Aparts ops x o := fun k hk => hap k (.tail _ hk)
    have hwx : Region.wanted x (yielded ops (a.put o.dst undef).tmps) = Region.wanted x (yielded ops a.tmps) := wanted_put x a o.dst undef hxo.y1
    have hwo : ∀ u, Region.wanted o (yielded ops (a.put x.dst u).tmps) = false := fun u => by rw [wanted_put o a x.dst u hxo.x1]; exact hw
    have hcm : ∀ u, (a.put o.dst undef).put x.dst u = (a.put x.dst u).put o.dst undef := fun u => (Act.put_comm a u undef hxo.x2).symm
    have hsx := fun cs b => hs k x cs b hx
    refine ⟨x, hx, ?_⟩
    rw [hwx]
    split
    · rename_i hw1
      simp only [hw1, if_true] at h
      cases hk : kd k with
      | rd =>
        simp only [hk] at h ⊢
        obtain ⟨v, h1, h2⟩ := h
        exact ⟨v, (RunsRd.put hsx hxo.y1).2 h1, by rw [hcm]; exact WSep.skip_first hj hs hap' (hwo _) h2⟩
      | nw =>
        simp only [hk] at h ⊢
        obtain ⟨f, ob, h1, h2⟩ := h
        exact ⟨f, ob, (RunsNw.put hsx hxo.y1).2 h1, fun b => by rw [hcm]; exact WSep.skip_first hj hs hap' (hwo _) (h2 b)⟩
      | mn =>
        simp only [hk] at h ⊢
        obtain ⟨Post, h1, h2⟩ := h
        exact ⟨Post, (RunsMn.put hsx hxo.y1).2 h1, fun v L' hp => ⟨(h2 v L' hp).1, by rw [hcm]; exact WSep.skip_first hj hs hap' (hwo _) (h2 v L' hp).2⟩⟩
    · rename_i hw1
      simp only [hw1] at h
      rw [hcm]; exact WSep.skip_first hj hs hap' (hwo _) h

/-- What is read is read whenever it comes up. -/
theorem WSep.rd_runs {j : Nat} {o : Oper} {l2 : List Nat} (hj : ops[j]? = some o) (hs : ∀ (k : Nat) (x : Oper) cs b, ops[k]? = some x → x.op ≠ .select cs b) (hkj : kd j = .rd) (hSA : ∀ k w ob, S k w → S k (w.alloc ob)) :
    ∀ {l1 : List Nat} {a : Act} {L F : List Say} {w : World}, (∀ k ∈ l1, ∀ x, ops[k]? = some x → Aparts ops x o) → (∀ k ∈ l1, live k j) → l1.Pairwise live → Region.wanted o (yielded ops a.tmps) = true → (∀ k, k ∈ l1 ∨ k = j → S k w) → Has w (L ++ F) →
      WSep P ops S live kd Q (l1 ++ j :: l2) a L → ∃ v, RunsRd P (S j) o a v
  | [], a, L, F, w, _, _, _, hw, _, _, h => by
    obtain ⟨o', ho', h⟩ := h
    obtain rfl : o = o' := Option.some.inj (hj.symm.trans ho')
    simp only [hw, if_true, hkj] at h
    obtain ⟨v, h1, _⟩ := h
    exact ⟨v, h1⟩
  | k :: l1, a, L, F, w, hap, hlv, hpw, hw, hSw, hh, h => by
    obtain ⟨x, hx, h⟩ := h
    have hxo := hap k (.head _) x hx
    have hap' : ∀ k ∈ l1, ∀ x, ops[k]? = some x → Aparts ops x o := fun k hk => hap k (.tail _ hk)
    have hlv' : ∀ k ∈ l1, live k j := fun k hk => hlv k (.tail _ hk)
    obtain ⟨hpw0, hpw'⟩ := List.pairwise_cons.1 hpw
    have hSw' : ∀ i, i ∈ l1 ∨ i = j → S i w := fun i hi => hSw i (hi.imp (fun h => .tail _ h) id)
    have hlk : ∀ i, i ∈ l1 ∨ i = j → live k i := fun i hi => by
      rcases hi with hi | rfl
      · exact hpw0 i hi
      · exact hlv k (.head _)
    have hwo : ∀ u, Region.wanted o (yielded ops (a.put x.dst u).tmps) = true := fun u => by rw [wanted_put o a x.dst u hxo.x1]; exact hw
    have hso := fun cs b => hs j o cs b hj
    by_cases hw1 : Region.wanted x (yielded ops a.tmps) = true
    · simp only [hw1, if_true] at h
      cases hk : kd k with
      | rd =>
        simp only [hk] at h
        obtain ⟨u, h1, h2⟩ := h
        obtain ⟨v, hv⟩ := WSep.rd_runs hj hs hkj hSA hap' hlv' hpw' (hwo u) hSw' hh h2
        exact ⟨v, (RunsRd.put hso hxo.x1).1 hv⟩
      | nw =>
        simp only [hk] at h
        obtain ⟨f, ob, h1, h2⟩ := h
        obtain ⟨v, hv⟩ := WSep.rd_runs hj hs hkj hSA hap' hlv' hpw' (hwo _) (fun i hi => hSA i w ob (hSw' i hi)) (F := F) (show Has (w.alloc ob) (pts w.heap.size ob :: (L ++ F)) from hh.alloc ob) (h2 w.heap.size)
        exact ⟨v, (RunsRd.put hso hxo.x1).1 hv⟩
      | mn =>
        simp only [hk] at h
        obtain ⟨Post, h1, h2⟩ := h
        obtain ⟨u, w', _, L', hp, hh'⟩ := (h1 w F (hSw k (.inl (.head _))) hh).ex
        obtain ⟨v, hv⟩ := WSep.rd_runs hj hs hkj hSA hap' hlv' hpw' (hwo u) (fun i hi => (h2 u L' hp).1 w' F hh' i (hlk i hi)) hh' (h2 u L' hp).2
        exact ⟨v, (RunsRd.put hso hxo.x1).1 hv⟩
    · simp only [hw1] at h
      obtain ⟨v, hv⟩ := WSep.rd_runs hj hs hkj hSA hap' hlv' hpw' (hwo undef) hSw' hh h
      exact ⟨v, (RunsRd.put hso hxo.x1).1 hv⟩

theorem WSep.rd_first {j : Nat} {o : Oper} {l2 : List Nat} (hj : ops[j]? = some o) (hs : ∀ (k : Nat) (x : Oper) cs b, ops[k]? = some x → x.op ≠ .select cs b) (hkj : kd j = .rd) {w : World} (hSw : S j w) {v : Value} :
    ∀ {l1 : List Nat} {a : Act} {L : List Say}, (∀ k ∈ l1, ∀ x, ops[k]? = some x → Aparts ops x o) → Region.wanted o (yielded ops a.tmps) = true → RunsRd P (S j) o a v →
      WSep P ops S live kd Q (l1 ++ j :: l2) a L → WSep P ops S live kd Q (l1 ++ l2) (a.put o.dst v) L
  | [], a, L, _, hw, hr, h => by
    obtain ⟨o', ho', h⟩ := h
    obtain rfl : o = o' := Option.some.inj (hj.symm.trans ho')
    simp only [hw, if_true, hkj] at h
    obtain ⟨v', h1, h2⟩ := h
    rw [← (h1 w hSw).one (hr w hSw)]; exact h2
  | k :: l1, a, L, hap, hw, hr, h => by
    obtain ⟨x, hx, h⟩ := h
    have hxo := hap k (.head _) x hx
    have hap' : ∀ k ∈ l1, ∀ x, ops[k]? = some x → Aparts ops x o := fun k hk => hap k (.tail _ hk)
    have hwx : Region.wanted x (yielded ops (a.put o.dst v).tmps) = Region.wanted x (yielded ops a.tmps) := wanted_put x a o.dst v hxo.y1
    have hwo : ∀ u, Region.wanted o (yielded ops (a.put x.dst u).tmps) = true := fun u => by rw [wanted_put o a x.dst u hxo.x1]; exact hw
    have hcm : ∀ u, (a.put o.dst v).put x.dst u = (a.put x.dst u).put o.dst v := fun u => (Act.put_comm a u v hxo.x2).symm
    have hsx := fun cs b => hs k x cs b hx
    have hro : ∀ u, RunsRd P (S j) o (a.put x.dst u) v := fun u => (RunsRd.put (fun cs b => hs j o cs b hj) hxo.x1).2 hr
    refine ⟨x, hx, ?_⟩
    rw [hwx]
    split
    · rename_i hw1
      simp only [hw1, if_true] at h
      cases hk : kd k with
      | rd =>
        simp only [hk] at h ⊢
        obtain ⟨u, h1, h2⟩ := h
        exact ⟨u, (RunsRd.put hsx hxo.y1).2 h1, by rw [hcm]; exact WSep.rd_first hj hs hkj hSw hap' (hwo _) (hro _) h2⟩
      | nw =>
        simp only [hk] at h ⊢
        obtain ⟨f, ob, h1, h2⟩ := h
        exact ⟨f, ob, (RunsNw.put hsx hxo.y1).2 h1, fun b => by rw [hcm]; exact WSep.rd_first hj hs hkj hSw hap' (hwo _) (hro _) (h2 b)⟩
      | mn =>
        simp only [hk] at h ⊢
        obtain ⟨Post, h1, h2⟩ := h
        exact ⟨Post, (RunsMn.put hsx hxo.y1).2 h1, fun u L' hp => ⟨(h2 u L' hp).1, by rw [hcm]; exact WSep.rd_first hj hs hkj hSw hap' (hwo _) (hro _) (h2 u L' hp).2⟩⟩
    · rename_i hw1
      simp only [hw1] at h
      rw [hcm]; exact WSep.rd_first hj hs hkj hSw hap' (hwo _) (hro _) h

/-- What is made is made whenever it comes up. -/
theorem WSep.nw_runs {j : Nat} {o : Oper} {l2 : List Nat} (hj : ops[j]? = some o) (hs : ∀ (k : Nat) (x : Oper) cs b, ops[k]? = some x → x.op ≠ .select cs b) (hkj : kd j = .nw) (hSA : ∀ k w ob, S k w → S k (w.alloc ob)) :
    ∀ {l1 : List Nat} {a : Act} {L F : List Say} {w : World}, (∀ k ∈ l1, ∀ x, ops[k]? = some x → Aparts ops x o) → (∀ k ∈ l1, live k j) → l1.Pairwise live → Region.wanted o (yielded ops a.tmps) = true → (∀ k, k ∈ l1 ∨ k = j → S k w) → Has w (L ++ F) →
      WSep P ops S live kd Q (l1 ++ j :: l2) a L → ∃ f ob, RunsNw P o a f ob
  | [], a, L, F, w, _, _, _, hw, _, _, h => by
    obtain ⟨o', ho', h⟩ := h
    obtain rfl : o = o' := Option.some.inj (hj.symm.trans ho')
    simp only [hw, if_true, hkj] at h
    obtain ⟨f, ob, h1, _⟩ := h
    exact ⟨f, ob, h1⟩
  | k :: l1, a, L, F, w, hap, hlv, hpw, hw, hSw, hh, h => by
    obtain ⟨x, hx, h⟩ := h
    have hxo := hap k (.head _) x hx
    have hap' : ∀ k ∈ l1, ∀ x, ops[k]? = some x → Aparts ops x o := fun k hk => hap k (.tail _ hk)
    have hlv' : ∀ k ∈ l1, live k j := fun k hk => hlv k (.tail _ hk)
    obtain ⟨hpw0, hpw'⟩ := List.pairwise_cons.1 hpw
    have hSw' : ∀ i, i ∈ l1 ∨ i = j → S i w := fun i hi => hSw i (hi.imp (fun h => .tail _ h) id)
    have hlk : ∀ i, i ∈ l1 ∨ i = j → live k i := fun i hi => by
      rcases hi with hi | rfl
      · exact hpw0 i hi
      · exact hlv k (.head _)
    have hwo : ∀ u, Region.wanted o (yielded ops (a.put x.dst u).tmps) = true := fun u => by rw [wanted_put o a x.dst u hxo.x1]; exact hw
    have hso := fun cs b => hs j o cs b hj
    by_cases hw1 : Region.wanted x (yielded ops a.tmps) = true
    · simp only [hw1, if_true] at h
      cases hk : kd k with
      | rd =>
        simp only [hk] at h
        obtain ⟨u, h1, h2⟩ := h
        obtain ⟨f, ob, hv⟩ := WSep.nw_runs hj hs hkj hSA hap' hlv' hpw' (hwo u) hSw' hh h2
        exact ⟨f, ob, (RunsNw.put hso hxo.x1).1 hv⟩
      | nw =>
        simp only [hk] at h
        obtain ⟨f, ob, h1, h2⟩ := h
        obtain ⟨f, ob, hv⟩ := WSep.nw_runs hj hs hkj hSA hap' hlv' hpw' (hwo _) (fun i hi => hSA i w ob (hSw' i hi)) (F := F) (show Has (w.alloc ob) (pts w.heap.size ob :: (L ++ F)) from hh.alloc ob) (h2 w.heap.size)
        exact ⟨f, ob, (RunsNw.put hso hxo.x1).1 hv⟩
      | mn =>
        simp only [hk] at h
        obtain ⟨Post, h1, h2⟩ := h
        obtain ⟨u, w', _, L', hp, hh'⟩ := (h1 w F (hSw k (.inl (.head _))) hh).ex
        obtain ⟨f, ob, hv⟩ := WSep.nw_runs hj hs hkj hSA hap' hlv' hpw' (hwo u) (fun i hi => (h2 u L' hp).1 w' F hh' i (hlk i hi)) hh' (h2 u L' hp).2
        exact ⟨f, ob, (RunsNw.put hso hxo.x1).1 hv⟩
    · simp only [hw1] at h
      obtain ⟨f, ob, hv⟩ := WSep.nw_runs hj hs hkj hSA hap' hlv' hpw' (hwo undef) hSw' hh h
      exact ⟨f, ob, (RunsNw.put hso hxo.x1).1 hv⟩

theorem alloc_inj {w : World} {x y : Obj} (h : w.alloc x = w.alloc y) : x = y := by
  have h1 : (w.heap.push x)[w.heap.size]? = (w.heap.push y)[w.heap.size]? := congrArg (fun v : World => v.heap[w.heap.size]?) h
  simpa using h1

theorem WSep.nw_first {j : Nat} {o : Oper} {l2 : List Nat} (hj : ops[j]? = some o) (hs : ∀ (k : Nat) (x : Oper) cs b, ops[k]? = some x → x.op ≠ .select cs b) (hkj : kd j = .nw)
    (hQ : ∀ a L L2, List.Perm L L2 → Q a L → Q a L2) (w : World) {f : Nat → Value} {ob : Obj} :
    ∀ {l1 : List Nat} {a : Act} {L : List Say}, (∀ k ∈ l1, ∀ x, ops[k]? = some x → Aparts ops x o) → Region.wanted o (yielded ops a.tmps) = true → RunsNw P o a f ob →
      WSep P ops S live kd Q (l1 ++ j :: l2) a L → WSep P ops S live kd Q (l1 ++ l2) (a.put o.dst (f w.heap.size)) (pts w.heap.size ob :: L)
  | [], a, L, _, hw, hr, h => by
    obtain ⟨o', ho', h⟩ := h
    obtain rfl : o = o' := Option.some.inj (hj.symm.trans ho')
    simp only [hw, if_true, hkj] at h
    obtain ⟨f', ob', h1, h2⟩ := h
    have e := (h1 w).symm.trans (hr w)
    simp only [Result.ok.injEq, Next.value.injEq] at e
    have e2 := alloc_inj e.2
    subst e2
    rw [← e.1]; exact h2 w.heap.size
  | k :: l1, a, L, hap, hw, hr, h => by
    obtain ⟨x, hx, h⟩ := h
    have hxo := hap k (.head _) x hx
    have hap' : ∀ k ∈ l1, ∀ x, ops[k]? = some x → Aparts ops x o := fun k hk => hap k (.tail _ hk)
    have hwx : Region.wanted x (yielded ops (a.put o.dst (f w.heap.size)).tmps) = Region.wanted x (yielded ops a.tmps) := wanted_put x a o.dst _ hxo.y1
    have hwo : ∀ u, Region.wanted o (yielded ops (a.put x.dst u).tmps) = true := fun u => by rw [wanted_put o a x.dst u hxo.x1]; exact hw
    have hcm : ∀ u, (a.put o.dst (f w.heap.size)).put x.dst u = (a.put x.dst u).put o.dst (f w.heap.size) := fun u => (Act.put_comm a u _ hxo.x2).symm
    have hsx := fun cs b => hs k x cs b hx
    have hro : ∀ u, RunsNw P o (a.put x.dst u) f ob := fun u => (RunsNw.put (fun cs b => hs j o cs b hj) hxo.x1).2 hr
    refine ⟨x, hx, ?_⟩
    rw [hwx]
    split
    · rename_i hw1
      simp only [hw1, if_true] at h
      cases hk : kd k with
      | rd =>
        simp only [hk] at h ⊢
        obtain ⟨u, h1, h2⟩ := h
        exact ⟨u, (RunsRd.put hsx hxo.y1).2 h1, by rw [hcm]; exact WSep.nw_first hj hs hkj hQ w hap' (hwo _) (hro _) h2⟩
      | nw =>
        simp only [hk] at h ⊢
        obtain ⟨g, og, h1, h2⟩ := h
        exact ⟨g, og, (RunsNw.put hsx hxo.y1).2 h1, fun b => by rw [hcm]; exact WSep.perm hQ (List.Perm.swap _ _ _) (WSep.nw_first hj hs hkj hQ w hap' (hwo _) (hro _) (h2 b))⟩
      | mn =>
        simp only [hk] at h ⊢
        obtain ⟨Post, h1, h2⟩ := h
        refine ⟨fun v L'' => ∃ L', Post v L' ∧ L'' = pts w.heap.size ob :: L', (RunsMn.put hsx hxo.y1).2 fun w1 F hS hh => ?_, ?_⟩
        · refine (h1 w1 (pts w.heap.size ob :: F) hS (hh.perm List.perm_middle.symm)).mono ?_
          rintro v w' ⟨hK, L', hp, hh'⟩
          exact ⟨hK, _, ⟨L', hp, rfl⟩, hh'.perm List.perm_middle⟩
        · rintro v _ ⟨L', hp, rfl⟩
          refine ⟨fun w1 F hh => (h2 v L' hp).1 w1 F hh.tail, ?_⟩
          rw [hcm]; exact WSep.nw_first hj hs hkj hQ w hap' (hwo _) (hro _) (h2 v L' hp).2
    · rename_i hw1
      simp only [hw1] at h
      rw [hcm]; exact WSep.nw_first hj hs hkj hQ w hap' (hwo _) (hro _) h

/-- One that does more comes ahead of some that read. -/
theorem WSep.mn_first {j : Nat} {o : Oper} {l2 : List Nat} (hj : ops[j]? = some o) (hs : ∀ (k : Nat) (x : Oper) cs b, ops[k]? = some x → x.op ≠ .select cs b) (hkj : kd j = .mn) :
    ∀ {l1 : List Nat} {a : Act} {L : List Say}, (∀ k ∈ l1, kd k = .rd ∧ ∀ x, ops[k]? = some x → Aparts ops x o) → Region.wanted o (yielded ops a.tmps) = true →
      WSep P ops S live kd Q (l1 ++ j :: l2) a L → ∃ Post, RunsMn P (S j) o a L Post ∧ ∀ v L', Post v L' → (∀ w F, Has w (L' ++ F) → ∀ i, live j i → S i w) ∧ WSep P ops S live kd Q (l1 ++ l2) (a.put o.dst v) L'
  | [], a, L, _, hw, h => by
    obtain ⟨o', ho', h⟩ := h
    obtain rfl : o = o' := Option.some.inj (hj.symm.trans ho')
    simp only [hw, if_true, hkj] at h
    exact h
  | k :: l1, a, L, hap, hw, h => by
    obtain ⟨x, hx, h⟩ := h
    obtain ⟨hk, hxo⟩ := hap k (.head _)
    have hxo := hxo x hx
    have hap' : ∀ k ∈ l1, kd k = .rd ∧ ∀ x, ops[k]? = some x → Aparts ops x o := fun k hk => hap k (.tail _ hk)
    have hwo : ∀ u, Region.wanted o (yielded ops (a.put x.dst u).tmps) = true := fun u => by rw [wanted_put o a x.dst u hxo.x1]; exact hw
    have hso := fun cs b => hs j o cs b hj
    have hsx := fun cs b => hs k x cs b hx
    have hcm : ∀ u v, (a.put o.dst v).put x.dst u = (a.put x.dst u).put o.dst v := fun u v => (Act.put_comm a u v hxo.x2).symm
    have hwx : ∀ v, Region.wanted x (yielded ops (a.put o.dst v).tmps) = Region.wanted x (yielded ops a.tmps) := fun v => wanted_put x a o.dst v hxo.y1
    by_cases hw1 : Region.wanted x (yielded ops a.tmps) = true
    · simp only [hw1, if_true, hk] at h
      obtain ⟨u, h1, h2⟩ := h
      obtain ⟨Post, h3, h4⟩ := WSep.mn_first hj hs hkj hap' (hwo u) h2
      refine ⟨Post, (RunsMn.put hso hxo.x1).1 h3, fun v L' hp => ⟨(h4 v L' hp).1, x, hx, ?_⟩⟩
      rw [hwx]
      simp only [hw1, if_true, hk]
      exact ⟨u, (RunsRd.put hsx hxo.y1).2 h1, by rw [hcm]; exact (h4 v L' hp).2⟩
    · simp only [hw1] at h
      obtain ⟨Post, h3, h4⟩ := WSep.mn_first hj hs hkj hap' (hwo undef) h
      refine ⟨Post, (RunsMn.put hso hxo.x1).1 h3, fun v L' hp => ⟨(h4 v L' hp).1, x, hx, ?_⟩⟩
      rw [hwx]
      simp only [hw1]
      rw [if_neg (by simp)]
      rw [hcm]; exact (h4 v L' hp).2
end

/-! Who must come ahead of whom. -/
/-- A table: who comes ahead of each, as the bits of a number. -/
structure AncOk (ops : Array Oper) (A : Nat → Nat) : Prop where
  step : ∀ k o, ops[k]? = some o → ∀ i, (A k).testBit i = true → ∃ e ∈ o.after, Region.binds .any e = true ∧ (e.on = i ∨ (A e.on).testBit i = true)

def Closed (A : Nat → Nat) (listed : Array Bool) : Prop := ∀ k, listed.getD k false = true → ∀ i, (A k).testBit i = true → listed.getD i false = true

/-- What is asked of the order: of two, the first one ahead. -/
def Two (ops : Array Oper) (A : Nat → Nat) (kd : Nat → Kd) (i j : Nat) : Prop :=
  ((A j).testBit i = true ∨ ((∀ x y, ops[i]? = some x → ops[j]? = some y → Aparts ops x y) ∧ (kd j = .mn → kd i = .rd))) ∧
  (∀ x, ops[i]? = some x → ∀ e ∈ x.after, Region.binds .any e = true → e.on ≠ j) ∧ (A i).testBit j = false
/-- Who must bear it that i is carried out: those that do not come ahead of it. -/
def liveOf (A : Nat → Nat) (i j : Nat) : Prop := (A i).testBit j = false

theorem getD_true_false {l : Array Bool} {k : Nat} (h : l.getD k false = true) : l.getD k true = true := by
  by_cases hk : k < l.size
  · simp [hk] at h ⊢; exact h
  · simp [hk] at h
theorem getD_lt {l : Array Bool} {k : Nat} (hk : k < l.size) (h : l.getD k true = true) : l.getD k false = true := by
  simp [hk] at h ⊢; exact h

structure RemOk (ops : Array Oper) (A : Nat → Nat) (kd : Nat → Kd) (rem : List Nat) (listed : Array Bool) : Prop where
  closed : Closed A listed
  size : listed.size = ops.size
  mem : ∀ k, k < ops.size → (k ∈ rem ↔ listed.getD k true = false)
  lt : ∀ k ∈ rem, k < ops.size
  once : rem.Nodup
  two : rem.Pairwise (Two ops A kd)
  own : ∀ i ∈ rem, ∀ x, ops[i]? = some x → ∀ e ∈ x.after, Region.binds .any e = true → e.on < ops.size ∧ e.on ≠ i

theorem RemOk.next {A : Nat → Nat} {kd : Nat → Kd} {l1 l2 : List Nat} {j : Nat} {listed : Array Bool} (h : RemOk ops A kd (l1 ++ j :: l2) listed) (hanc : ∀ i, (A j).testBit i = true → listed.getD i false = true) :
    RemOk ops A kd (l1 ++ l2) (listed.setIfInBounds j true) := by
  have hsub : (l1 ++ l2).Sublist (l1 ++ j :: l2) := List.Sublist.append_left (List.sublist_cons_self _ _) _
  have hjlt : j < ops.size := h.lt j (by simp)
  have hjn : j ∉ l1 ++ l2 := by
    have := h.once
    rw [List.nodup_append] at this
    obtain ⟨_, h2, h3⟩ := this
    intro hm
    rcases List.mem_append.1 hm with hm | hm
    · exact h3 j hm j (.head _) rfl
    · exact (List.nodup_cons.1 h2).1 hm
  refine ⟨?_, by simp [h.size], ?_, fun k hk => h.lt k (hsub.mem hk), h.once.sublist hsub, h.two.sublist hsub, fun i hi => h.own i (hsub.mem hi)⟩
  · intro k hk i hi
    refine getD_set_true ?_
    by_cases e : j = k
    · subst e; exact hanc i hi
    · rw [getD_set_ne false e] at hk; exact h.closed k hk i hi
  · intro k hk
    by_cases e : j = k
    · subst e
      have : j < listed.size := by rw [h.size]; exact hk
      simp [hjn, this]
    · rw [getD_set_ne true e, ← h.mem k hk]
      simp [Ne.symm e]

theorem wsep_sound {A : Nat → Nat} {kd : Nat → Kd} {Q : Act → List Say → Prop} {Q' : Exit → Act → World → Prop} {w0 : World} (hA : AncOk ops A)
    (hs : ∀ (k : Nat) (x : Oper) cs b, ops[k]? = some x → x.op ≠ .select cs b) (hSA : ∀ k w ob, S k w → S k (w.alloc ob))
    (hQp : ∀ a L L2, List.Perm L L2 → Q a L → Q a L2) (hQ : ∀ a L w, Kept w0 w → Has w L → Q a L → Q' .normal a w) :
    ∀ (n : Nat) (rem : List Nat) (listed : Array Bool) (a : Act) (L : List Say) (w : World), rem.length = n → RemOk ops A kd rem listed →
      (∀ k ∈ rem, S k w) → Kept w0 w → Has w L → WSep P ops S (liveOf A) kd Q rem a L → wpAny P .any ops Q' n listed a w := by
  intro n
  induction n with
  | zero =>
    intro rem listed a L w hn hok hS hK hh h
    obtain rfl : rem = [] := List.eq_nil_of_length_eq_zero hn
    refine ⟨List.eq_nil_iff_forall_not_mem.2 fun j hj => ?_, hQ a L w hK hh h⟩
    obtain ⟨h0, o, ho, _⟩ := mem_ready.1 hj
    have := (hok.mem j (Array.getElem?_eq_some_iff.1 ho).1).2 h0
    cases this
  | succ n ih =>
    intro rem listed a L w hn hok hS hK hh h
    refine ⟨fun hr => ?_, fun j hj => ?_⟩
    · exfalso
      cases rem with
      | nil => simp at hn
      | cons i rest =>
        have hi := hok.lt i (.head _)
        have hmem : i ∈ Region.ready .any ops listed := by
          refine mem_ready.2 ⟨(hok.mem i hi).1 (.head _), ops[i], Array.getElem?_eq_getElem hi, fun e he hb => ?_⟩
          obtain ⟨h1, h2⟩ := hok.own i (.head _) _ (Array.getElem?_eq_getElem hi) e he hb
          have h3 : e.on ∉ i :: rest := by
            intro hm
            rcases List.mem_cons.1 hm with hm | hm
            · exact h2 hm
            · exact ((List.pairwise_cons.1 hok.two).1 _ hm).2.1 _ (Array.getElem?_eq_getElem hi) e he hb rfl
          have h4 := fun h => h3 ((hok.mem e.on h1).2 h)
          exact getD_lt (by rw [hok.size]; exact h1) (by simpa using h4)
        rw [hr] at hmem; cases hmem
    · obtain ⟨h0, o, ho, hall⟩ := mem_ready.1 hj
      have hjlt := (Array.getElem?_eq_some_iff.1 ho).1
      have hjm := (hok.mem j hjlt).2 h0
      obtain ⟨l1, l2, rfl⟩ := List.append_of_mem hjm
      have hanc : ∀ i, (A j).testBit i = true → listed.getD i false = true := by
        intro i hi
        obtain ⟨e, he, hb, h1 | h1⟩ := hA.step j o ho i hi
        · subst h1; exact hall e he hb
        · exact hok.closed e.on (hall e he hb) i h1
      have htwo : ∀ k ∈ l1, (∀ x, ops[k]? = some x → Aparts ops x o) ∧ (kd j = .mn → kd k = .rd) := by
        intro k hk
        have h1 := (List.pairwise_append.1 hok.two).2.2 k hk j (.head _)
        rcases h1.1 with h2 | ⟨h2, h3⟩
        · exfalso
          have h4 := hanc k h2
          have h5 := (hok.mem k (hok.lt k (by simp [hk]))).1 (by simp [hk])
          have h6 := getD_true_false h4
          rw [h6] at h5; cases h5
        · exact ⟨fun x hx => h2 x o hx ho, h3⟩
      have hap : ∀ k ∈ l1, ∀ x, ops[k]? = some x → Aparts ops x o := fun k hk => (htwo k hk).1
      have hnext := hok.next hanc
      have hlv : ∀ k ∈ l1, liveOf A k j := fun k hk => ((List.pairwise_append.1 hok.two).2.2 k hk j (.head _)).2.2
      have hpw : l1.Pairwise (liveOf A) := (List.pairwise_append.1 hok.two).1.imp fun h => h.2.2
      have hS1 : ∀ k, k ∈ l1 ∨ k = j → S k w := fun k hk => hS k (by rcases hk with hk | rfl <;> simp [*])
      have hSr : ∀ k ∈ l1 ++ l2, S k w := fun k hk => hS k (by rcases List.mem_append.1 hk with hk | hk <;> simp [hk])
      have hun : ∀ k ∈ l1 ++ l2, liveOf A j k := by
        intro k hk
        unfold liveOf
        cases hb : (A j).testBit k with
        | false => rfl
        | true =>
          have h4 := getD_true_false (hanc k hb)
          have hm : k ∈ l1 ++ j :: l2 := by rcases List.mem_append.1 hk with hk | hk <;> simp [hk]
          have h5 := (hok.mem k (hok.lt k hm)).1 hm
          rw [h4] at h5; cases h5
      have hlen : (l1 ++ l2).length = n := by simp at hn ⊢; omega
      unfold wpOp
      simp only [ho]
      split
      · rename_i hw
        left
        cases hk : kd j with
        | rd =>
          have hSj := hS j (by simp)
          obtain ⟨v, hv⟩ := WSep.rd_runs ho hs hk hSA hap hlv hpw hw hS1 (F := []) (by simpa using hh) h
          exact (hv w hSj).upon (ih _ _ _ L w hlen hnext hSr hK hh (WSep.rd_first ho hs hk hSj hap hw hv h))
        | nw =>
          obtain ⟨f, ob, hv⟩ := WSep.nw_runs ho hs hk hSA hap hlv hpw hw hS1 (F := []) (by simpa using hh) h
          unfold Oper.wp
          rw [hv w]
          exact ih _ _ _ _ _ hlen hnext (fun k hk => hSA k w ob (hSr k hk)) (hK.alloc ob) (hh.alloc ob) (WSep.nw_first ho hs hk hQp w hap hw hv h)
        | mn =>
          obtain ⟨Post, h1, h2⟩ := WSep.mn_first ho hs hk (fun k hk' => ⟨(htwo k hk').2 hk, (htwo k hk').1⟩) hw h
          have h3 := h1 w [] (hS j (by simp)) (by simpa using hh)
          have key : ∀ v w', (Kept w w' ∧ ∃ L', Post v L' ∧ Has w' (L' ++ [])) → wpAny P .any ops Q' n (listed.setIfInBounds j true) (a.put o.dst v) w' := by
            rintro v w' ⟨hK1, L', hp, hh'⟩
            exact ih _ _ _ L' w' hlen hnext (fun k hk => (h2 v L' hp).1 w' [] hh' k (hun k hk)) (hK.trans hK1) (by simpa using hh') (h2 v L' hp).2
          unfold Oper.wp
          generalize (execOp a.eval o).run P w = r at h3 ⊢
          cases r with
          | halt x w' => exact h3.elim
          | ok nx w' =>
            cases nx with
            | value u => exact key _ _ h3
            | skip => exact key _ _ h3
            | enter f args =>
              refine Calls.mono h3 ?_
              rintro e w'' ⟨v, rfl, hc⟩
              exact key _ _ hc
            | row row args => exact Rows.mono h3 key
            | _ => exact False.elim h3
      · rename_i hw
        exact ih _ _ _ L w hlen hnext hSr hK hh (WSep.skip_first ho hs hap (by simpa using hw) h)

/-! The same as Bools. -/
def apartsB (ops : Array Oper) (x y : Oper) : Bool := Oper.apart ops x y
theorem aparts_of {x y : Oper} (h : Oper.apart ops x y = true) : Aparts ops x y := by
  obtain ⟨h1, h2, h3⟩ := Oper.apart_spec h
  exact ⟨h1, h2, h3⟩
def ancRow (T : Array Nat) (o : Oper) : Nat := o.after.foldl (fun m e => if Region.binds .any e then m ||| (1 <<< e.on) ||| T.getD e.on 0 else m) 0
def ancTab : List Oper → Array Nat → Array Nat
  | [], T => T
  | o :: l, T => ancTab l (T.push (ancRow T o))
def ancOkB (ops : List Oper) (T : Array Nat) : Bool := ((List.range ops.length).zip ops).all fun (k, o) => T.getD k 0 == ancRow T o
theorem anc_fold {T : Array Nat} {i : Nat} : ∀ (l : List Edge) (m : Nat), (l.foldl (fun m e => if Region.binds .any e then m ||| (1 <<< e.on) ||| T.getD e.on 0 else m) m).testBit i = true →
    m.testBit i = true ∨ ∃ e ∈ l, Region.binds .any e = true ∧ (e.on = i ∨ (T.getD e.on 0).testBit i = true)
  | [], m, h => .inl h
  | e :: l, m, h => by
    rcases anc_fold l _ h with h1 | ⟨e', he', h1⟩
    · simp only at h1
      split at h1
      · rename_i hb
        rw [Nat.testBit_or, Nat.testBit_or, Bool.or_eq_true, Bool.or_eq_true] at h1
        rcases h1 with (h1 | h1) | h1
        · exact .inl h1
        · refine .inr ⟨e, .head _, hb, .inl ?_⟩
          rw [Nat.one_shiftLeft, Nat.testBit_two_pow] at h1
          simpa using h1
        · exact .inr ⟨e, .head _, hb, .inr h1⟩
      · exact .inl h1
    · exact .inr ⟨e', .tail _ he', h1⟩
theorem ancOk_of {l : List Oper} {T : Array Nat} (h : ancOkB l T = true) (hT : T.size ≤ l.length) : AncOk l.toArray (fun k => T.getD k 0) := by
  refine ⟨fun k o ho i hi => ?_⟩
  have ho' : l[k]? = some o := by simpa using ho
  have hm : (k, o) ∈ (List.range l.length).zip l := by
    rw [List.mem_iff_getElem?]
    refine ⟨k, ?_⟩
    rw [List.getElem?_zip_eq_some]
    exact ⟨by simp [(List.getElem?_eq_some_iff.1 ho').1], ho'⟩
  have h1 := List.all_eq_true.1 h _ hm
  simp only [beq_iff_eq] at h1
  rw [h1] at hi
  unfold ancRow at hi
  rw [← Array.foldl_toList] at hi
  rcases anc_fold _ _ hi with h2 | ⟨e, he, h2⟩
  · simp at h2
  · exact ⟨e, by simpa using he, h2⟩

def kdOf (l : List Oper) (k : Nat) : Kd :=
  match l[k]? with
  | some o => match o.op with
    | .store .. | .mapUpdate .. | .insert .. | .entryStore .. | .range .. | .next .. | .go .. | .defer .. | .panic .. | .send .. | .recv .. | .select .. | .makeChan .. => .mn
    | .call c => match c.callee with
      | .builtin .len | .builtin .cap | .builtin .min | .builtin .max => .rd
      | _ => .mn
    | .alloc .. | .box .. | .buildSlice .. | .makeMap .. | .makeSlice .. => .nw
    | _ => .rd
  | none => .rd
def twoB (l : List Oper) (T : Array Nat) (kd : Nat → Kd) (i j : Nat) : Bool :=
  match l[i]?, l[j]? with
  | some x, some y => ((T.getD j 0).testBit i || (Oper.apart l.toArray x y && (!decide (kd j = .mn) || decide (kd i = .rd)))) && (x.after.all fun e => !(Region.binds .any e) || !(e.on == j)) && !((T.getD i 0).testBit j)
  | _, _ => false
def pairsB (f : Nat → Nat → Bool) : List Nat → Bool
  | [] => true
  | i :: rest => rest.all (f i) && pairsB f rest
theorem pairs_of {f : Nat → Nat → Bool} {R : Nat → Nat → Prop} (h : ∀ i j, f i j = true → R i j) : ∀ {l : List Nat}, pairsB f l = true → l.Pairwise R
  | [], _ => .nil
  | i :: rest, hp => by
    simp only [pairsB, Bool.and_eq_true, List.all_eq_true] at hp
    exact .cons (fun j hj => h i j (hp.1 j hj)) (pairs_of h hp.2)
def sepB (l : List Oper) (kd : Nat → Kd) (ord : List Nat) : Bool :=
  let T := ancTab l #[]
  Region.noSelect l.toArray && ancOkB l T && decide (T.size ≤ l.length) && (ord.length == l.length) && ((List.range l.length).all fun k => ord.contains k) && (ord.all fun k => decide (k < l.length)) && pairsB (fun i j => !(i == j)) ord &&
    (l.zipIdx.all fun (x, i) => x.after.all fun e => !(Region.binds .any e) || (decide (e.on < l.length) && !(e.on == i))) && pairsB (twoB l T kd) ord

/-- **A region that draws its order, by one walk.** -/
theorem wp_region_sep {id : Nat} {Q : Exit → Act → World → Prop} {a : Act} {w : World} {l : List Oper} {L : List Say} (ord : List Nat) (S : Nat → World → Prop) (hm : P.follows .mixedOrders = true) (hB : sepB l (kdOf l) ord = true)
    (hSA : ∀ k w ob, S k w → S k (w.alloc ob)) (hS : ∀ k, S k w.drew) (hh : Has w L)
    (h : WSep P l.toArray S (liveOf fun k => (ancTab l #[]).getD k 0) (kdOf l) (fun a' L' => ∀ w', Kept w w' → Has w' L' → Q .normal a' w') ord a L) : (Code.region id l.toArray true).wp P Q a w := by
  unfold sepB at hB
  simp only [Bool.and_eq_true, decide_eq_true_eq, beq_iff_eq, List.all_eq_true, List.mem_range] at hB
  obtain ⟨⟨⟨⟨⟨⟨⟨⟨h1, h2⟩, h3⟩, h4⟩, h5⟩, h8⟩, h9⟩, h6⟩, h7⟩ := hB
  have h5' : ∀ k, k < l.length → k ∈ ord := fun k hk => by simpa using h5 k hk
  have hnd : ord.Nodup := pairs_of (R := fun i j => i ≠ j) (fun i j hij => by simpa using hij) h9
  refine wp_region_any hm ?_
  have hsz : l.toArray.size = ord.length := by simp [h4]
  rw [hsz]
  refine wsep_sound (P := P) (S := S) (kd := kdOf l) (w0 := w) (ancOk_of h2 h3) (Region.noSelect_spec h1) hSA ?_ ?_ ord.length ord _ a L _ rfl ?_ (fun k _ => hS k) (Kept.refl w).drew hh.drew h
  · intro a L L2 hp hq w' hK hh'
    exact hq w' hK (hh'.perm hp.symm)
  · intro a L w' hK hh' hq
    exact hq w' hK hh'
  · refine ⟨?_, by simp [h4], ?_, ?_, hnd, ?_, ?_⟩
    · intro k hk
      rw [Array.getD_eq_getD_getElem?, Array.getElem?_replicate] at hk
      split at hk <;> simp at hk
    · intro k hk
      have hk' : k < ord.length := by simpa [h4] using hk
      have : k ∈ ord := h5' k (by simpa using hk)
      simp [this, hk']
    · intro k hk
      simpa using h8 k hk
    · refine pairs_of (fun i j hij => ?_) h7
      unfold twoB at hij
      cases hx : l[i]? with
      | none => simp [hx] at hij
      | some x =>
        cases hy : l[j]? with
        | none => simp [hx, hy] at hij
        | some y =>
          simp only [hx, hy, Bool.and_eq_true, Bool.or_eq_true, Bool.not_eq_true', decide_eq_false_iff_not, decide_eq_true_eq] at hij
          obtain ⟨⟨k1, k2⟩, k4⟩ := hij
          refine ⟨?_, ?_, k4⟩
          · rcases k1 with k1 | ⟨k1, k3⟩
            · exact .inl k1
            · refine .inr ⟨fun x' y' hx' hy' => ?_, fun hj => ?_⟩
              · have ex : x = x' := Option.some.inj (hx.symm.trans (by simpa using hx'))
                have ey : y = y' := Option.some.inj (hy.symm.trans (by simpa using hy'))
                subst ex ey
                exact aparts_of k1
              · exact k3.resolve_left fun h => h hj
          · intro x' hx' e he hb
            have ex : x = x' := Option.some.inj (hx.symm.trans (by simpa using hx'))
            subst ex
            have := Array.all_eq_true_iff_forall_mem.1 k2 e he
            simpa [hb] using this
    · intro i hi x hx e he hb
      have hx' : l[i]? = some x := by simpa using hx
      have hm : (x, i) ∈ l.zipIdx := by
        rw [List.mem_iff_getElem?]
        exact ⟨i, by simp [List.getElem?_zipIdx, hx']⟩
      have := Array.all_eq_true_iff_forall_mem.1 (h6 _ hm) e he
      simpa [hb] using this
end

/-! The steps of a walk. -/
section
variable {P : Program} {ops : Array Oper} {S : Nat → World → Prop} {live : Nat → Nat → Prop} {kd : Nat → Kd} {Q : Act → List Say → Prop} {k : Nat} {ord : List Nat} {a : Act} {L : List Say} {o : Oper}
theorem ws_rd (ho : ops[k]? = some o) (hw : Region.wanted o (yielded ops a.tmps) = true) (hk : kd k = .rd) {v : Value} (h1 : RunsRd P (S k) o a v) (h2 : WSep P ops S live kd Q ord (a.put o.dst v) L) : WSep P ops S live kd Q (k :: ord) a L :=
  ⟨o, ho, by rw [if_pos hw]; simp only [hk]; exact ⟨v, h1, h2⟩⟩
theorem ws_nw (ho : ops[k]? = some o) (hw : Region.wanted o (yielded ops a.tmps) = true) (hk : kd k = .nw) {f : Nat → Value} {ob : Obj} (h1 : RunsNw P o a f ob) (h2 : ∀ b, WSep P ops S live kd Q ord (a.put o.dst (f b)) (pts b ob :: L)) : WSep P ops S live kd Q (k :: ord) a L :=
  ⟨o, ho, by rw [if_pos hw]; simp only [hk]; exact ⟨f, ob, h1, h2⟩⟩
theorem ws_mn (ho : ops[k]? = some o) (hw : Region.wanted o (yielded ops a.tmps) = true) (hk : kd k = .mn) (Post : Value → List Say → Prop) (h1 : RunsMn P (S k) o a L Post) (h2 : ∀ v L', Post v L' → (∀ w F, Has w (L' ++ F) → ∀ j, live k j → S j w) ∧ WSep P ops S live kd Q ord (a.put o.dst v) L') : WSep P ops S live kd Q (k :: ord) a L :=
  ⟨o, ho, by rw [if_pos hw]; simp only [hk]; exact ⟨Post, h1, h2⟩⟩
theorem ws_skip (ho : ops[k]? = some o) (hw : Region.wanted o (yielded ops a.tmps) = false) (h2 : WSep P ops S live kd Q ord (a.put o.dst undef) L) : WSep P ops S live kd Q (k :: ord) a L :=
  ⟨o, ho, by rw [if_neg (by rw [hw]; simp)]; exact h2⟩
theorem rd_ok {w : World} {v : Value} {r : Result Next} (h : r = .ok (.value v) w) : RdUpon w v r := by rw [h]; exact ⟨rfl, rfl⟩
theorem rd_skip {w : World} {r : Result Next} (h : r = .ok .skip w) : RdUpon w undef r := by rw [h]; exact ⟨rfl, rfl⟩
def calls : Op → Bool
  | .call .. | .go .. | .defer .. | .send .. | .recv .. | .select .. | .panic .. => true
  | _ => false
theorem ne_v (s : Sem Value) {P : Program} {w w' : World} {f : FuncId} {args : Array Value} : (do pure (Next.value (← s)) : Sem Next).run P w ≠ .ok (.enter f args) w' := by
  rw [Sem.run_bind]
  cases s.run P w <;> simp [Result.andThen, Sem.run_pure]
theorem ne_u (s : Sem Unit) {P : Program} {w w' : World} {f : FuncId} {args : Array Value} : (do s; pure Next.skip : Sem Next).run P w ≠ .ok (.enter f args) w' := by
  rw [Sem.run_bind]
  cases s.run P w <;> simp [Result.andThen, Sem.run_pure]
/-- By the walk of quiet operations: no call. -/
theorem no_enter {P : Program} {ρ : Operand → Value} {o : Oper} {w w' : World} {f : FuncId} {args : Array Value} (h : calls o.op = false) : (execOp ρ o).run P w ≠ .ok (.enter f args) w' := by
  intro he
  obtain ⟨dst, op, type, pos, after, guard⟩ := o
  cases op <;> simp only [calls, Bool.true_eq_false] at h <;> simp only [execOp] at he
  all_goals first
    | exact absurd he (ne_v _)
    | exact absurd he (ne_u _)
    | (simp [Sem.run_pure] at he; done)
    | skip
  · rw [Sem.run_bind] at he
    revert he
    cases (asBool _).run P w <;> simp [Result.andThen, Sem.run_pure]
  · split at he
    all_goals first
      | (simp [go_sem, runtimePanic] at he; done)
      | (rw [Sem.run_pure] at he; cases he; done)
      | skip
    split at he
    · simp [go_sem, runtimePanic] at he
    · rw [Sem.run_bind] at he
      revert he
      cases (program : Sem Program).run P w with
      | halt x w1 => simp [Result.andThen]
      | ok p w1 =>
        simp only [Result.andThen]
        rw [Sem.run_bind]
        cases Sem.run P (nilAhead (p.types.size + Made.depth) _ _ _) w1 with
        | halt x w2 => simp [Result.andThen]
        | ok b w2 =>
          simp only [Result.andThen]
          split
          · simp [go_sem]
          · rw [Sem.run_pure]; simp
    · rw [Sem.run_pure] at he; cases he
theorem ws_nil (h : Q a L) : WSep P ops S live kd Q [] a L := h
end
end Go.Proofs.YtgbgneiciabidaaGreatDoor
/-
  Plain: the steps of a walk through a region that draws its order.
-/
namespace Go.Proofs.YtgbgneiciabidaaGreatDoor
open Go Go.RowKit
set_option linter.all false

/-- A world in which S holds. -/
structure In (S : World → Prop) where
  w : World
  ok : S w
/-- Cells that hold what they held. -/
def CellsAt : List (Addr × Value) → World → Prop
  | [], _ => True
  | p :: l, w => w.cell? p.1 = some p.2 ∧ CellsAt l w
theorem CellsAt.alloc : ∀ {l : List (Addr × Value)} (w : World) (ob : Obj), CellsAt l w → CellsAt l (w.alloc ob)
  | [], _, _, _ => trivial
  | p :: l, w, ob, h => ⟨by rw [World.cell?_alloc_lt _ _ _ (World.block_lt_of_cell? _ _ h.1)]; exact h.1, h.2.alloc w ob⟩

section
variable {P : Program} {ops : Array Oper} {S : Nat → World → Prop} {live : Nat → Nat → Prop} {kd : Nat → Kd} {k : Nat} {ord : List Nat} {a : Act} {L : List Say} {o : Oper} {w0 : World} {Q : Exit → Act → World → Prop}

/-- What stands behind the region. -/
def QSep (Q : Exit → Act → World → Prop) (w0 : World) (a : Act) (L : List Say) : Prop := ∀ w', Kept w0 w' → Has w' L → Q .normal a w'
abbrev WS (P : Program) (ops : Array Oper) (S : Nat → World → Prop) (live : Nat → Nat → Prop) (kd : Nat → Kd) (Q : Exit → Act → World → Prop) (w0 : World) : List Nat → Act → List Say → Prop := WSep P ops S live kd (QSep Q w0)

/-- What each operation reads: the cells that are told of its number. -/
def factsOf (l : List (Nat × Addr × Value)) (k : Nat) (w : World) : Prop := ∀ p ∈ l, p.1 = k → w.cell? p.2.1 = some p.2.2
theorem factsOf.alloc {l : List (Nat × Addr × Value)} (k : Nat) (w : World) (ob : Obj) (h : factsOf l k w) : factsOf l k (w.alloc ob) := fun p hp e => by
  have := h p hp e
  rw [World.cell?_alloc_lt _ _ _ (World.block_lt_of_cell? _ _ this)]; exact this
theorem factsOf.drew {l : List (Nat × Addr × Value)} {w : World} (h : ∀ p ∈ l, w.cell? p.2.1 = some p.2.2) (k : Nat) : factsOf l k w.drew := fun p hp _ => h p hp
theorem factsOf.cell {l : List (Nat × Addr × Value)} {k : Nat} {a : Addr} {v : Value} (hm : (k, a, v) ∈ l) (n : In (factsOf l k)) : n.w.cell? a = some v := n.ok (k, a, v) hm rfl
/-- Those that are to be borne. -/
def liveFacts (T : Array Nat) (m : Nat) : List (Nat × Addr × Value) → List (Nat × Addr × Value)
  | [] => []
  | p :: l => bif (T.getD m 0).testBit p.1 then liveFacts T m l else p :: liveFacts T m l
theorem mem_live {T : Array Nat} {m : Nat} {p : Nat × Addr × Value} (h : (T.getD m 0).testBit p.1 = false) : ∀ {l : List (Nat × Addr × Value)}, p ∈ l → p ∈ liveFacts T m l
  | q :: l, hp => by
    unfold liveFacts
    rcases List.mem_cons.1 hp with rfl | hp
    · rw [h]; exact .head _
    · cases (T.getD m 0).testBit q.1 with
      | true => exact mem_live h hp
      | false => exact .tail _ (mem_live h hp)
theorem live_facts {T : Array Nat} {m : Nat} {l : List (Nat × Addr × Value)} {w : World} (h : ∀ p ∈ liveFacts T m l, w.cell? p.2.1 = some p.2.2) : ∀ j, liveOf (fun k => T.getD k 0) m j → factsOf l j w := by
  intro j hj p hp e
  unfold liveOf at hj
  exact h p (mem_live (by rw [e]; exact hj) hp)

theorem fcons {p : Nat × Addr × Value} {l : List (Nat × Addr × Value)} {w : World} (h : w.cell? p.2.1 = some p.2.2) (hl : ∀ q ∈ l, w.cell? q.2.1 = some q.2.2) : ∀ q ∈ p :: l, w.cell? q.2.1 = some q.2.2 := fun q hq => by
  rcases List.mem_cons.1 hq with rfl | hq
  · exact h
  · exact hl q hq
theorem fnil {w : World} : ∀ q ∈ ([] : List (Nat × Addr × Value)), w.cell? q.2.1 = some q.2.2 := fun _ h => nomatch h
def liveT (T : Array Nat) (i j : Nat) : Prop := liveOf (fun k => T.getD k 0) i j
theorem lives {T : Array Nat} {m : Nat} {l l' : List (Nat × Addr × Value)} {w : World} (hl : liveFacts T m l = l') (h : ∀ p ∈ l', w.cell? p.2.1 = some p.2.2) : ∀ j, liveT T m j → factsOf l j w := by
  subst hl; exact live_facts h

theorem ws_begin {id : Nat} {l : List Oper} (ord : List Nat) (S : Nat → World → Prop) (L : List Say) (T : Array Nat) (hT : T = ancTab l #[]) (hm : P.follows .mixedOrders = true) (hB : sepB l (kdOf l) ord = true)
    (hSA : ∀ k w ob, S k w → S k (w.alloc ob)) (hS : ∀ k, S k w0.drew) (hh : Has w0 L) (h : WS P l.toArray S (liveT T) (kdOf l) Q w0 ord a L) : (Code.region id l.toArray true).wp P Q a w0 := by
  subst hT
  exact wp_region_sep ord S hm hB hSA hS hh h
theorem ws_end (h : ∀ w', Kept w0 w' → Has w' L → Q .normal a w') : WS P ops S live kd Q w0 [] a L := h
theorem ws_reord (is : List Nat) (h : WS P ops S live kd Q w0 ord a (reord is L)) : WS P ops S live kd Q w0 ord a L :=
  WSep.perm (fun _ _ _ hp hq w' hK hh => hq w' hK (hh.perm hp.symm)) (reord_perm is L) h

end
theorem at_lit {l : List Oper} {k : Nat} {o : Oper} (h : l[k]? = some o) : l.toArray[k]? = some o := by simpa using h
section
variable {P : Program} {ops : Array Oper} {S : Nat → World → Prop} {live : Nat → Nat → Prop} {kd : Nat → Kd} {k : Nat} {ord : List Nat} {a : Act} {L : List Say} {o : Oper} {w0 : World} {Q : Exit → Act → World → Prop}
/-- A step by the kit's own walk of quiet operations. -/
theorem ws_q (ho : ops[k]? = some o) (hw : Region.wanted o (yielded ops a.tmps) = true) (hk : kd k = .rd) (hc : calls o.op = false)
    (h : o.quiet P a (fun w => ∃ n : In (S k), w = n.w) (fun a' => WS P ops S live kd Q w0 ord a' L)) : WS P ops S live kd Q w0 (k :: ord) a L := by
  obtain ⟨v, h1, h2⟩ := h
  refine ws_rd ho hw hk (v := v) (fun w hS => ?_) h2
  have h3 := h1 w ⟨⟨w, hS⟩, rfl⟩
  unfold Oper.quietAt at h3
  have h4 := fun f args w' => no_enter (P := P) (ρ := a.eval) (o := o) (w := w) (w' := w') (f := f) (args := args) hc
  generalize (execOp a.eval o).run P w = r at h3 h4
  cases r with
  | halt x w' => exact False.elim h3
  | ok n w' =>
    cases n with
    | value u => exact h3
    | skip => exact h3
    | enter f args => exact absurd rfl (h4 f args w')
    | _ => exact False.elim h3
/-- What reads, its value known: len and the like. -/
theorem ws_v (ho : ops[k]? = some o) (hw : Region.wanted o (yielded ops a.tmps) = true) (hk : kd k = .rd) (v : Value) (h1 : ∀ w, S k w → (execOp a.eval o).run P w = .ok (.value v) w)
    (h : WS P ops S live kd Q w0 ord (a.put o.dst v) L) : WS P ops S live kd Q w0 (k :: ord) a L :=
  ws_rd ho hw hk (fun w hS => rd_ok (h1 w hS)) h
theorem ws_len (ho : ops[k]? = some o) (hw : Region.wanted o (yielded ops a.tmps) = true) (hk : kd k = .rd) (x : Operand) (t : TypeId) (hop : o.op = .call { callee := .builtin .len, args := #[x], argTypes := #[t] })
    (hu : P.underlying t = some (.slice (P.elem t))) (b : Option Addr) (n c : Nat) (hx : a.eval x = .slice b n c) (h : WS P ops S live kd Q w0 ord (a.put o.dst (.int .i64 n)) L) : WS P ops S live kd Q w0 (k :: ord) a L :=
  ws_v ho hw hk (.int .i64 n) (fun w _ => by
    unfold execOp
    simp only [hop, resolve, invoke, builtin, Sem.run_bind, Sem.run_pure, Result.andThen_ok, List.map_toArray, List.map_cons, List.map_nil, hx]
    rw [run_len_slice _ t o.type b n c hu]
    rfl) h

/-- A block is made. -/
theorem ws_ptr (ho : ops[k]? = some o) (hw : Region.wanted o (yielded ops a.tmps) = true) (hk : kd k = .nw) (ob : Obj) (h1 : ∀ w, (execOp a.eval o).run P w = .ok (.value (.pointer (some ⟨w.heap.size, 0, none⟩))) (w.alloc ob))
    (h : ∀ b : Nat, WS P ops S live kd Q w0 ord (a.put o.dst (.pointer (some ⟨b, 0, none⟩))) (pts b ob :: L)) : WS P ops S live kd Q w0 (k :: ord) a L :=
  ws_nw ho hw hk (f := fun b => .pointer (some ⟨b, 0, none⟩)) (ob := ob) h1 h
theorem ws_slice (ho : ops[k]? = some o) (hw : Region.wanted o (yielded ops a.tmps) = true) (hk : kd k = .nw) (n : Nat) (ob : Obj) (h1 : ∀ w, (execOp a.eval o).run P w = .ok (.value (.slice (some ⟨w.heap.size, 0, none⟩) n n)) (w.alloc ob))
    (h : ∀ b : Nat, WS P ops S live kd Q w0 ord (a.put o.dst (.slice (some ⟨b, 0, none⟩) n n)) (pts b ob :: L)) : WS P ops S live kd Q w0 (k :: ord) a L :=
  ws_nw ho hw hk (f := fun b => .slice (some ⟨b, 0, none⟩) n n) (ob := ob) h1 h

/-- A call. -/
def CallPost (Post : Value → List Say → Prop) (w : World) (F : List Say) (e : Ending) (w' : World) : Prop := ∃ v L', e = .returned v ∧ Kept w w' ∧ Post v L' ∧ Has w' (L' ++ F)
theorem ws_call (ho : ops[k]? = some o) (hw : Region.wanted o (yielded ops a.tmps) = true) (hk : kd k = .mn) (f : FuncId) (args : Array Value) (h1 : ∀ w, (execOp a.eval o).run P w = .ok (.enter f args) w)
    (Post : Value → List Say → Prop) (hc : ∀ w F, S k w → Has w (L ++ F) → Calls P f args w (CallPost Post w F))
    (h : ∀ v L', Post v L' → (∀ w F, Has w (L' ++ F) → ∀ j, live k j → S j w) ∧ WS P ops S live kd Q w0 ord (a.put o.dst v) L') : WS P ops S live kd Q w0 (k :: ord) a L :=
  ws_mn ho hw hk Post (fun w F hS hh => by
    rw [h1]
    exact (hc w F hS hh).mono fun e w' ⟨v, L', he, hK, hp, hh'⟩ => ⟨v, he, hK, L', hp, hh'⟩) h

end

/-- A block with cells written into it. -/
def putCells : Array Value → Nat → List Value → Array Value
  | c, _, [] => c
  | c, i, v :: r => putCells (c.setIfInBounds i v) (i + 1) r
theorem Has.setCells {b : Nat} {e : TypeId} {f : Nat × Nat} {l : List Say} : ∀ (vs : List Value) (i : Nat) {w : World} {c : Array Value}, Has w (pts b (.cells c e f) :: l) → Has (w.setCells b i vs) (pts b (.cells (putCells c i vs) e f) :: l)
  | [], _, _, _, h => h
  | v :: r, i, _, _, h => Has.setCells r (i + 1) (h.setCell i v)
theorem Kept.setCells {a : World} {b : Nat} : ∀ (vs : List Value) (i : Nat) {w : World}, Kept a w → Kept a (w.setCells b i vs)
  | [], _, _, h => h
  | v :: r, i, _, h => Kept.setCells r (i + 1) (h.setCell _ v)
theorem run_store_pts {P : Program} {w : World} {l : List Say} {b i : Nat} {c : Array Value} {e : TypeId} (h : Has w (pts b (.cells c e (0, 0)) :: l)) (t : TypeId) (v : Value) (hi : i + v.cells.size ≤ c.size) (h1 : ∀ u ∈ v.cells.toList, u.oneCell' = true)
    (hsz : (P.info? t).map (·.size) = some v.cells.size) : (Instr.storeAt t (.pointer (some ⟨b, i, none⟩)) v).run P w = .ok () (w.setCells b i v.cells.toList) := by
  have hb := h.got
  have := run_storeCells_cells (P := P) b i v.cells.toList 0 w (fun j hj => by
      have hj' : i + 0 + j < c.size := by simp at hj; omega
      rw [cell_of hb (i + 0 + j) (v := c[i + 0 + j]) (Array.getElem?_eq_getElem hj')]; rfl) (fun j hj => thaw_of hb _) h1
  simp only [Nat.add_zero] at this
  cases hq : P.info? t with
  | none => simp [hq] at hsz
  | some inf =>
    have hs : v.cells.size = inf.size := by simp [hq] at hsz; omega
    simp only [Instr.storeAt, Instr.sureAddr, Sem.run_bind, Sem.run_pure, Result.andThen_ok]
    simp [storeVar, sizeOf, typeInfo, hq, hs, this]

section
variable {P : Program} {ops : Array Oper} {S : Nat → World → Prop} {live : Nat → Nat → Prop} {kd : Nat → Kd} {k : Nat} {ord : List Nat} {a : Act} {L : List Say} {o : Oper} {w0 : World} {Q : Exit → Act → World → Prop}
/-- A store into the first block. -/
theorem ws_store (ho : ops[k]? = some o) (hw : Region.wanted o (yielded ops a.tmps) = true) (hk : kd k = .mn) (t : TypeId) (x y : Operand) (hop : o.op = .store t x y)
    {b i : Nat} {c : Array Value} {e : TypeId} {L2 : List Say} (hx : a.eval x = .pointer (some ⟨b, i, none⟩)) {v : Value} (hy : a.eval y = v) (hi : i + v.cells.size ≤ c.size) (h1 : ∀ u ∈ v.cells.toList, u.oneCell' = true)
    (hsz : (P.info? t).map (·.size) = some v.cells.size) {c' : Array Value} (hc' : putCells c i v.cells.toList = c')
    (hS : ∀ w F, Has w (pts b (.cells c' e (0, 0)) :: L2 ++ F) → ∀ j, live k j → S j w) (h : WS P ops S live kd Q w0 ord (a.put o.dst undef) (pts b (.cells c' e (0, 0)) :: L2)) :
    WS P ops S live kd Q w0 (k :: ord) a (pts b (.cells c e (0, 0)) :: L2) :=
  ws_mn ho hw hk (fun u L' => u = undef ∧ L' = pts b (.cells c' e (0, 0)) :: L2) (fun w F _ hh => by
    have hrun : (execOp a.eval o).run P w = .ok .skip (w.setCells b i v.cells.toList) := by
      unfold execOp
      simp only [hop, hx, hy, Sem.run_bind, run_store_pts hh t v hi h1 hsz, Result.andThen_ok, Sem.run_pure]
    rw [hrun]
    exact ⟨(Kept.refl w).setCells _ _, _, ⟨rfl, rfl⟩, by rw [← hc']; exact Has.setCells (l := L2 ++ F) _ _ hh⟩) fun v' L' hp => by
      obtain ⟨rfl, rfl⟩ := hp
      exact ⟨hS, h⟩

/-- An append onto the first row, of cells that lie in a block. -/
theorem ws_append (ho : ops[k]? = some o) (hw : Region.wanted o (yielded ops a.tmps) = true) (hk : kd k = .mn) (s x : Operand) (t : TypeId) (hop : o.op = .call { callee := .builtin .append, args := #[s, x], argTypes := #[t, t] })
    (e : TypeId) (i : TypeInfo) (z : Value) (size bytes : Nat) (ht : P.underlying t = some (.slice e)) (hi : P.info? e = some i) (hz : i.zero = some z)
    (hsize : i.size = size) (hby : i.bytes = bytes) (hzs : z.cells.size = size) (hsz : 0 < size)
    {v : Value} {n : Nat} {xs : List Value} {L2 : List Say} (hs : a.eval s = v)
    (ad : Addr) (m c : Nat) (news : List Value) (hx : a.eval x = .slice (some ad) m c) (hl : news.length = m * size)
    (hnews : ∀ w F, S k w → Has w (rowS e size v n xs :: L2 ++ F) → ∀ j u, news[j]? = some u → w.cell? (ad.add j) = some u) (h1 : ∀ u ∈ news, u.oneCell' = true)
    (h63 : n + m ≤ maxLen) (hbytes : (n + m) * bytes ≤ 140737488355328)
    (hS : ∀ p' c' w F, Has w (rowS e size (.slice p' (n + m) c') (n + m) (xs ++ news) :: L2 ++ F) → ∀ j, live k j → S j w)
    (h : ∀ p' c', WS P ops S live kd Q w0 ord (a.put o.dst (.slice p' (n + m) c')) (rowS e size (.slice p' (n + m) c') (n + m) (xs ++ news) :: L2)) :
    WS P ops S live kd Q w0 (k :: ord) a (rowS e size v n xs :: L2) :=
  ws_mn ho hw hk (fun u L' => ∃ p' c', u = .slice p' (n + m) c' ∧ L' = rowS e size u (n + m) (xs ++ news) :: L2) (fun w F hSw hh => by
    obtain ⟨v', w', hr, h2, h3⟩ := run_append_row (P := P) t o.type e i z size bytes ht hi hz hsize hby hzs hsz v n xs (l := L2 ++ F) hh ad m c news hl (hnews w F hSw hh) h1 h63 hbytes
    have hrun : (execOp a.eval o).run P w = .ok (.value v') w' := by
      unfold execOp
      simp only [hop, resolve, invoke, builtin, Sem.run_bind, Sem.run_pure, Result.andThen_ok, List.map_toArray, List.map_cons, List.map_nil, hs, hx, hr]
    rw [hrun]
    obtain ⟨p', c', hv, _⟩ := h3.row_val (e := e) (size := size) (v := v') (n := n + m) (xs := xs ++ news) (.head _)
    exact ⟨h2, _, ⟨p', c', hv, rfl⟩, h3⟩) fun v' L' hp => by
      obtain ⟨p', c', rfl, rfl⟩ := hp
      exact ⟨hS p' c', h p' c'⟩
end
end Go.Proofs.YtgbgneiciabidaaGreatDoor
