/-
  Plain: what a world holds, said part by part: parts of memory that have no block in common ('Sep', 'Has').
-/
import Derived.WalkKit
import Derived.ArgAppend
import Derived.Deep.QuietTactic
import Derived.BigQuiet
import Derived.Test.YtgbgneiciabidaaGreatDoorProg
import Derived.Outline
import Derived.Lib.Hide
set_option linter.unusedVariables false
set_option linter.unusedSimpArgs false
namespace Go.Proofs.YtgbgneiciabidaaGreatDoor
open Go Go.RowKit
set_option linter.all false
set_option maxHeartbeats 8000000
abbrev Part := Nat -> Option Obj
abbrev Say := Part -> Prop
def pts (b : Nat) (o : Obj) : Say := fun h => h b = some o
def Sep : Part -> List Say -> Prop
 | _, [] => True
 | h, A :: l => ∃ h1 h2 : Part, A h1 /\ Sep h2 l /\ (∀ k, h1 k ≠ none -> h k = h1 k /\ h2 k = none) /\ (∀ k, h2 k ≠ none -> h k = h2 k)
theorem Sep.up : ∀ {l : List Say} {h h' : Part}, Sep h l -> (∀ k, h k ≠ none -> h' k = h k) -> Sep h' l
 | [], _, _, _, _ => trivial
 | A :: l, h, h', ⟨h1, h2, hA, hl, d1, d2⟩, hk => by
  refine ⟨h1, h2, hA, hl, fun k hk1 => ?_, fun k hk2 => ?_⟩
  ·obtain ⟨e1, e2⟩ := d1 k hk1
   exact ⟨by rw [hk k (by rw [e1]; exact hk1), e1], e2⟩
  ·have e := d2 k hk2
   rw [hk k (by rw [e]; exact hk2), e]
theorem Sep.swap {A B : Say} {l : List Say} {h : Part} : Sep h (A :: B :: l) -> Sep h (B :: A :: l) := by
 rintro ⟨h1, h2, hA, ⟨h3, h4, hB, hl, e1, e2⟩, d1, d2⟩
 refine ⟨h3, fun k => if h3 k = none then h k else none, hB, ⟨h1, h4, hA, hl, ?_, ?_⟩, ?_, ?_⟩
 ·intro k hk
  obtain ⟨a, b⟩ := d1 k hk
  have h3k : h3 k = none := by
   cases hx : h3 k with
   | none => rfl
   | some o => have := (e1 k (by simp [hx])).1; rw [b] at this; simp [hx] at this
  refine ⟨by simp [h3k, a], ?_⟩
  cases hx : h4 k with
  | none => rfl
  | some o => have := e2 k (by simp [hx]); rw [b] at this; simp [hx] at this
 ·intro k hk
  have h3k : h3 k = none := by
   cases hx : h3 k with
   | none => rfl
   | some o => exact absurd (e1 k (by simp [hx])).2 hk
  have := e2 k hk
  have h2k : h2 k ≠ none := by rw [this]; exact hk
  simp [h3k, d2 k h2k, this]
 ·intro k hk
  obtain ⟨a, b⟩ := e1 k hk
  have h2k : h2 k ≠ none := by rw [a]; exact hk
  exact ⟨by rw [d2 k h2k, a], by simp [hk]⟩
 ·intro k hk
  by_cases h3k : h3 k = none
  ·simp [h3k] 
  ·simp [h3k] at hk
theorem Sep.tail {A : Say} {l : List Say} {h : Part} : Sep h (A :: l) -> Sep h l := by
 rintro ⟨h1, h2, hA, hl, d1, d2⟩
 exact hl.up d2
theorem Sep.cons_mono {A : Say} {l l' : List Say} {h : Part} (hm : ∀ h, Sep h l -> Sep h l') : Sep h (A :: l) -> Sep h (A :: l') := by
 rintro ⟨h1, h2, hA, hl, d1, d2⟩
 exact ⟨h1, h2, hA, hm _ hl, d1, d2⟩
theorem Sep.head_mono {A B : Say} {l : List Say} {h : Part} (hm : ∀ h, A h -> B h) : Sep h (A :: l) -> Sep h (B :: l) := by
 rintro ⟨h1, h2, hA, hl, d1, d2⟩
 exact ⟨h1, h2, hm _ hA, hl, d1, d2⟩
theorem Sep.perm {l l' : List Say} (hp : l.Perm l') : ∀ {h : Part}, Sep h l -> Sep h l' := by
 induction hp with
 | nil => exact fun h => h
 | cons A _ ih => exact fun h => h.cons_mono fun _ => ih
 | swap A B l => exact fun h => h.swap
 | trans _ _ i1 i2 => exact fun h => i2 (i1 h)
theorem Sep.got {b : Nat} {o : Obj} {l : List Say} {h : Part} : Sep h (pts b o :: l) -> h b = some o := by
 rintro ⟨h1, h2, hA, hl, d1, d2⟩
 have hA' : h1 b = some o := hA
 rw [(d1 b (by rw [hA']; simp)).1, hA']
theorem Sep.put {b : Nat} {o o' : Obj} {l : List Say} {h h' : Part} (hs : Sep h (pts b o :: l)) (hb : h' b = some o') (hk : ∀ k, k ≠ b -> h' k = h k) :
  Sep h' (pts b o' :: l) := by
 obtain ⟨h1, h2, hA, hl, d1, d2⟩ := hs
 have hA' : h1 b = some o := hA
 have h2b : h2 b = none := (d1 b (by rw [hA']; simp)).2
 refine ⟨fun k => if k = b then some o' else none, h2, by simp [pts], hl, fun k hk1 => ?_, fun k hk2 => ?_⟩
 ·by_cases e : k = b
  ·subst e; simp [hb, h2b]
  ·simp [e] at hk1
 ·have e : k ≠ b := by rintro rfl; exact hk2 h2b
  rw [hk k e, d2 k hk2]
theorem Sep.new {b : Nat} {o : Obj} {l : List Say} {h h' : Part} (hs : Sep h l) (hn : h b = none) (hb : h' b = some o) (hk : ∀ k, k ≠ b -> h' k = h k) :
  Sep h' (pts b o :: l) := by
 refine ⟨fun k => if k = b then some o else none, h, by simp [pts], hs, fun k hk1 => ?_, fun k hk2 => ?_⟩
 ·by_cases e : k = b
  ·subst e; simp [hb, hn]
  ·simp [e] at hk1
 ·have e : k ≠ b := by rintro rfl; exact hk2 hn
  rw [hk k e]
theorem Sep.join {A B : Say} {l : List Say} {h : Part} :
  Sep h (A :: B :: l) -> Sep h ((fun h => Sep h [A, B]) :: l) := by
 rintro ⟨h1, h2, hA, ⟨h3, h4, hB, hl, e1, e2⟩, d1, d2⟩
 refine ⟨fun k => if h1 k = none then h3 k else h1 k, h4, ⟨h1, h3, hA, ⟨h3, fun _ => none, hB, trivial, by simp, by simp⟩, ?_, ?_⟩, hl, ?_, ?_⟩
 ·intro k hk
  refine ⟨by simp [hk], ?_⟩
  cases hx : h3 k with
  | none => rfl
  | some o => have := (e1 k (by simp [hx])).1; rw [(d1 k hk).2] at this; simp [hx] at this
 ·intro k hk
  have : h1 k = none := by
   cases hx : h1 k with
   | none => rfl
   | some o => have := (e1 k hk).1; rw [(d1 k (by simp [hx])).2] at this; exact absurd this.symm hk
  simp [this]
 ·intro k hk
  by_cases h1k : h1 k = none
  ·simp only [h1k, if_true] at hk ⊢
   obtain ⟨a, b⟩ := e1 k hk
   exact ⟨by rw [d2 k (by rw [a]; exact hk), a], b⟩
  ·simp only [h1k, if_false]
   obtain ⟨a, b⟩ := d1 k h1k
   refine ⟨a, ?_⟩
   cases hx : h4 k with
   | none => rfl
   | some o => have := e2 k (by simp [hx]); rw [b] at this; simp [hx] at this
 ·intro k hk
  have a := e2 k hk
  rw [d2 k (by rw [a]; exact hk), a]
theorem Sep.append_out : ∀ {m l : List Say} {h : Part}, Sep h ((fun h => Sep h m) :: l) -> Sep h (m ++ l)
 | [], l, h, hs => hs.tail
 | A :: m, l, h, ⟨g, h4, ⟨h1, h3, hA, hm, e1, e2⟩, hl, d1, d2⟩ => by
  refine ⟨h1, fun k => if h1 k = none then h k else none, hA, Sep.append_out ⟨h3, h4, hm, hl, ?_, ?_⟩, ?_, ?_⟩
  ·intro k hk
   have a := e2 k hk
   have b := d1 k (by rw [a]; exact hk)
   have c : h1 k = none := by
    cases hx : h1 k with
    | none => rfl
    | some o => exact absurd (e1 k (by simp [hx])).2 hk
   exact ⟨by simp [c, b.1, a], b.2⟩
  ·intro k hk
   have c : h1 k = none := by
    cases hx : h1 k with
    | none => rfl
    | some o =>
     have a := (e1 k (by simp [hx])).1
     have := (d1 k (by rw [a]; simp [hx])).2
     exact absurd this hk
   simp [c, d2 k hk]
  ·intro k hk
   have a := e1 k hk
   have b := d1 k (by rw [a.1]; exact hk)
   exact ⟨by rw [b.1, a.1], by simp [hk]⟩
  ·intro k hk
   by_cases c : h1 k = none
   ·simp [c]
   ·simp [c] at hk
theorem Sep.append_in : ∀ {m l : List Say} {h : Part}, Sep h (m ++ l) -> Sep h ((fun h => Sep h m) :: l)
 | [], l, h, hs => ⟨fun _ => none, h, trivial, hs, by simp, by simp⟩
 | A :: m, l, h, hs => by
  have h1 : Sep h (A :: (fun h => Sep h m) :: l) := Sep.cons_mono (fun _ => Sep.append_in) hs
  refine Sep.head_mono ?_ (Sep.join h1)
  rintro g ⟨g1, g2, hA, ⟨g3, g4, hm, _, e1, _⟩, d1, d2⟩
  refine ⟨g1, g2, hA, hm.up fun k hk => (e1 k hk).1, d1, d2⟩
def Has (w : World) (l : List Say) : Prop := Sep (fun k => w.heap[k]?) l
theorem Has.perm {w : World} {l l' : List Say} (h : Has w l) (hp : l.Perm l') : Has w l' := Sep.perm hp h
theorem Has.tail {w : World} {A : Say} {l : List Say} (h : Has w (A :: l)) : Has w l := Sep.tail h
theorem Has.swap {w : World} {A B : Say} {l : List Say} (h : Has w (A :: B :: l)) : Has w (B :: A :: l) := Sep.swap h
theorem Has.got {w : World} {b : Nat} {o : Obj} {l : List Say} (h : Has w (pts b o :: l)) : w.heap[b]? = some o := Sep.got h
def pull : Nat -> List Say -> List Say
 | 0, l => l
 | n + 1, A :: l => match pull n l with
  | B :: l' => B :: A :: l'
  | [] => [A]
 | _ + 1, [] => []
def push : Nat -> List Say -> List Say
 | 0, l => l
 | n + 1, A :: B :: l => B :: push n (A :: l)
 | _ + 1, l => l
theorem Sep.pull : ∀ (n : Nat) {l : List Say} {h : Part}, Sep h l -> Sep h (pull n l)
 | 0, _, _, hs => hs
 | n + 1, [], _, hs => hs
 | n + 1, A :: l, h, hs => by
  have h2 : Sep h (A :: Go.Proofs.YtgbgneiciabidaaGreatDoor.pull n l) := Sep.cons_mono (fun _ hl => Sep.pull n hl) hs
  unfold Go.Proofs.YtgbgneiciabidaaGreatDoor.pull
  generalize Go.Proofs.YtgbgneiciabidaaGreatDoor.pull n l = q at h2
  cases q with
  | nil => exact h2
  | cons B l' => exact h2.swap
theorem Sep.push : ∀ (n : Nat) {l : List Say} {h : Part}, Sep h l -> Sep h (push n l)
 | 0, _, _, hs => hs
 | n + 1, [], _, hs => hs
 | n + 1, [A], _, hs => hs
 | n + 1, A :: B :: l, h, hs => Sep.cons_mono (fun _ hl => Sep.push n hl) hs.swap
theorem Has.pull {w : World} (n : Nat) {l : List Say} (h : Has w l) : Has w (pull n l) := Sep.pull n h
theorem Has.push {w : World} (n : Nat) {l : List Say} (h : Has w l) : Has w (push n l) := Sep.push n h
theorem Has.head {w : World} {A B : Say} {l : List Say} (h : Has w (A :: l)) (hm : ∀ h, A h -> B h) : Has w (B :: l) := Sep.head_mono hm h
theorem Has.out {w : World} {m l : List Say} (h : Has w ((fun h => Sep h m) :: l)) : Has w (m ++ l) := Sep.append_out h
theorem Has.into {w : World} {m l : List Say} (h : Has w (m ++ l)) : Has w ((fun h => Sep h m) :: l) := Sep.append_in h
theorem Sep.mem : ∀ {l : List Say} {h : Part} {A : Say}, A ∈ l -> Sep h l -> ∃ g, A g /\ ∀ k, g k ≠ none -> h k = g k
 | [], _, _, hm, _ => by cases hm
 | B :: l, h, A, hm, ⟨h1, h2, hB, hl, d1, d2⟩ => by
  rcases List.mem_cons.1 hm with rfl | hm
  ·exact ⟨h1, hB, fun k hk => (d1 k hk).1⟩
  ·obtain ⟨g, hA, hg⟩ := Sep.mem hm hl
   exact ⟨g, hA, fun k hk => by
    have e := hg k hk
    rw [d2 k (by rw [e]; exact hk), e]⟩
theorem Has.mem {w : World} {l : List Say} {A : Say} (h : Has w l) (hm : A ∈ l) : ∃ g : Part, A g /\ ∀ k, g k ≠ none -> w.heap[k]? = g k := Sep.mem hm h
theorem Has.at {w : World} {l : List Say} {b : Nat} {o : Obj} (h : Has w l) (hm : pts b o ∈ l) : w.heap[b]? = some o := by
 obtain ⟨g, hg, hk⟩ := h.mem hm
 have hg' : g b = some o := hg
 rw [hk b (by rw [hg']; simp), hg']
/-! A saying with something chosen; a saying with a fact beside it. -/
def ex {α : Type} (A : α -> Say) : Say := fun h => ∃ x, A x h
theorem Has.opened {α : Type} {w : World} {A : α -> Say} {l : List Say} (h : Has w (ex A :: l)) : ∃ x, Has w (A x :: l) := by
 obtain ⟨h1, h2, ⟨x, hA⟩, hl, d1, d2⟩ := h
 exact ⟨x, h1, h2, hA, hl, d1, d2⟩
theorem Has.chosen {α : Type} {w : World} {A : α -> Say} {l : List Say} (x : α) (h : Has w (A x :: l)) : Has w (ex A :: l) := h.head fun _ ha => ⟨x, ha⟩
def fact (p : Prop) (A : Say) : Say := fun h => p /\ A h
theorem Has.unfact {w : World} {p : Prop} {A : Say} {l : List Say} (h : Has w (fact p A :: l)) : p /\ Has w (A :: l) := by
 obtain ⟨h1, h2, ⟨hp, hA⟩, hl, d1, d2⟩ := h
 exact ⟨hp, h1, h2, hA, hl, d1, d2⟩
theorem Has.tofact {w : World} {p : Prop} {A : Say} {l : List Say} (hp : p) (h : Has w (A :: l)) : Has w (fact p A :: l) := h.head fun _ ha => ⟨hp, ha⟩
def all (m : List Say) : Say := fun h => Sep h m
theorem Has.split {w : World} {m l : List Say} (h : Has w (all m :: l)) : Has w (m ++ l) := h.out
theorem Has.unite {w : World} {m l : List Say} (h : Has w (m ++ l)) : Has w (all m :: l) := h.into
/-! How the world goes on. -/
theorem Has.drew {w : World} {l : List Say} (h : Has w l) : Has w.drew l := h
theorem Has.drewN {w : World} {l : List Say} (h : Has w l) (n : Nat) : Has (w.drewN n) l := h
theorem Has.same {w w' : World} {l : List Say} (h : Has w l) (hk : ∀ k, k < w.heap.size -> w'.heap[k]? = w.heap[k]?) : Has w' l := by
 refine Sep.up h fun k hk' => ?_
 rcases Nat.lt_or_ge k w.heap.size with hlt | hge
 ·exact hk k hlt
 ·exact absurd (Array.getElem?_eq_none hge) hk'
theorem Has.below {w w' : World} {l : List Say} (h : Has w l) (hb : Below w.heap.size w w') : Has w' l := h.same hb.block
theorem Has.alloc {w : World} {l : List Say} (h : Has w l) (o : Obj) : Has (w.alloc o) (pts w.heap.size o :: l) := by
 refine Sep.new h (Array.getElem?_eq_none (Nat.le_refl _)) ?_ fun k hk => ?_
 ·show (w.heap.push o)[w.heap.size]? = _
  simp
 ·show (w.heap.push o)[k]? = _
  rw [Array.getElem?_push, if_neg hk]
theorem Has.alloc_off {w : World} {l : List Say} (h : Has w l) (o : Obj) : Has (w.alloc o) l := (h.alloc o).tail
theorem Has.setCell {w : World} {l : List Say} {b : Nat} {c : Array Value} {e : TypeId} {f : Nat × Nat} (h : Has w (pts b (.cells c e f) :: l)) (i : Nat) (v : Value) :
  Has (w.setCell ⟨b, i, none⟩ v) (pts b (.cells (c.setIfInBounds i v) e f) :: l) := by
 have hb := h.got
 refine Sep.put h ?_ fun k hk => ?_
 ·simp [World.setCell, Array.getElem?_modify, hb]
 ·simp only [World.setCell, Array.getElem?_modify]
  rw [if_neg (Ne.symm hk)]
theorem Has.setObj {w : World} {l : List Say} {b : Nat} {o : Obj} (h : Has w (pts b o :: l)) (o' : Obj) :
  Has { w with heap := w.heap.setIfInBounds b o' } (pts b o' :: l) := by
 have hb := h.got
 have hlt : b < w.heap.size := (Array.getElem?_eq_some_iff.1 hb).1
 refine Sep.put h ?_ fun k hk => ?_
 ·show (w.heap.setIfInBounds b o')[b]? = _
  simp [hlt]
 ·show (w.heap.setIfInBounds b o')[k]? = _
  rw [Array.getElem?_setIfInBounds, if_neg (Ne.symm hk)]
structure Kept (w w' : World) : Prop where
 os : w'.os = w.os
 tape : w'.tape = w.tape
 output : w'.output = w.output
 size : w.heap.size <= w'.heap.size
theorem Kept.refl (w : World) : Kept w w := ⟨rfl, rfl, rfl, Nat.le_refl _⟩
theorem Kept.trans {a b c : World} (h : Kept a b) (k : Kept b c) : Kept a c := ⟨k.os.trans h.os, k.tape.trans h.tape, k.output.trans h.output, Nat.le_trans h.size k.size⟩
theorem Kept.drew {a w : World} (h : Kept a w) : Kept a w.drew := ⟨h.os, h.tape, h.output, h.size⟩
theorem Kept.drewN {a w : World} (h : Kept a w) (n : Nat) : Kept a (w.drewN n) := ⟨h.os, h.tape, h.output, h.size⟩
theorem Kept.alloc {a w : World} (h : Kept a w) (o : Obj) : Kept a (w.alloc o) := ⟨h.os, h.tape, h.output, by have := h.size; simp; omega⟩
theorem Kept.setCell {a w : World} (h : Kept a w) (p : Addr) (v : Value) : Kept a (w.setCell p v) := ⟨h.os, h.tape, h.output, by have := h.size; simpa [World.setCell] using this⟩
theorem Kept.setObj {a w : World} (h : Kept a w) (b : Nat) (o : Obj) : Kept a { w with heap := w.heap.setIfInBounds b o } := ⟨h.os, h.tape, h.output, by have := h.size; simpa using this⟩
theorem Kept.below {a w : World} {B : Nat} (h : Below B a w) : Kept a w := ⟨h.os, h.tape, h.output, h.size⟩
theorem Kept.grown {a w : World} {r : Option Nat} (h : a.grownBy w r) : Kept a w := ⟨h.os, h.tape, h.output, h.size⟩
def old (W : World) : Say := fun h => ∀ k, k < W.heap.size -> h k = W.heap[k]?
theorem Has.start (W : World) : Has W [old W] := ⟨fun k => W.heap[k]?, fun _ => none, fun _ _ => rfl, trivial, by simp, by simp⟩
theorem below_of_old {W w : World} {l : List Say} (h : Has w l) (hm : old W ∈ l) (hk : Kept W w) : Below W.heap.size W w := by
 refine ⟨hk.os, hk.tape, hk.output, hk.size, fun k hlt => ?_⟩
 obtain ⟨g, hg, hgk⟩ := h.mem hm
 have e := hg k hlt
 rw [hgk k (by rw [e]; simp [Array.getElem?_eq_getElem hlt]), e]
theorem Has.old_cell {W w : World} {l : List Say} (h : Has w l) (hm : old W ∈ l) {p : Addr} {v : Value} (hc : W.cell? p = some v) : w.cell? p = some v := by
 have hlt := World.block_lt_of_cell? _ _ hc
 obtain ⟨g, hg, hgk⟩ := h.mem hm
 have e := hg p.block hlt
 have e2 : w.heap[p.block]? = W.heap[p.block]? := by
  rw [hgk p.block (by rw [e]; simp [Array.getElem?_eq_getElem hlt]), e]
 unfold World.cell? at hc ⊢
 rw [e2]; exact hc
/-! Cells out of a block. -/
theorem cell_of {w : World} {b : Nat} {c : Array Value} {e : TypeId} {f : Nat × Nat} (h : w.heap[b]? = some (.cells c e f)) (i : Nat) {v : Value} (hv : c[i]? = some v) :
  w.cell? ⟨b, i, none⟩ = some v := by simp [World.cell?, h, hv]
theorem thaw_of {w : World} {b : Nat} {c : Array Value} {e : TypeId} (h : w.heap[b]? = some (.cells c e (0, 0))) (i : Nat) :
  w.frozen? ⟨b, i, none⟩ = false := by simp [World.frozen?, h]
/-! A row that a slice value has to itself. -/
def rowS (e : TypeId) (size : Nat) (v : Value) (n : Nat) (xs : List Value) : Say := fun h =>
 xs.length = n * size /\ ((v = .slice none 0 0 /\ n = 0) \/
  ∃ g cap cur, v = .slice (some ⟨g, 0, none⟩) n cap /\ h g = some (.cells cur e (0, 0)) /\ n <= cap /\ cap <= maxLen /\ cur.size = cap * size /\ cur.toList.take (n * size) = xs)
theorem rowS_nil (e : TypeId) (size : Nat) (h : Part) : rowS e size (.slice none 0 0) 0 [] h := ⟨by simp, .inl ⟨rfl, rfl⟩⟩
theorem Has.row_nil {w : World} {l : List Say} (h : Has w l) (e : TypeId) (size : Nat) : Has w (rowS e size (.slice none 0 0) 0 [] :: l) :=
 ⟨fun _ => none, fun k => w.heap[k]?, rowS_nil _ _ _, h, by simp, by simp⟩
theorem Has.row_own {w : World} {l : List Say} {e : TypeId} {size : Nat} {v : Value} {n : Nat} {xs : List Value} (h : Has w l) (hm : rowS e size v n xs ∈ l) : w.ownsRow 0 e size v n xs := by
 obtain ⟨g, ⟨h1, h2⟩, hk⟩ := h.mem hm
 refine ⟨h1, ?_⟩
 rcases h2 with h2 | ⟨b, cap, cur, hv, hb, r⟩
 ·exact .inl h2
 ·exact .inr ⟨b, cap, cur, hv, Nat.zero_le _, by rw [hk b (by rw [hb]; simp), hb], r⟩
theorem Has.row_of_pts {w : World} {l : List Say} {b : Nat} {cur : Array Value} {e : TypeId} (h : Has w (pts b (.cells cur e (0, 0)) :: l)) {size n cap : Nat} {xs : List Value}
  (h1 : xs.length = n * size) (h2 : n <= cap) (h3 : cap <= maxLen) (h4 : cur.size = cap * size) (h5 : cur.toList.take (n * size) = xs) :
  Has w (rowS e size (.slice (some ⟨b, 0, none⟩) n cap) n xs :: l) :=
 h.head fun _ ha => ⟨h1, .inr ⟨b, cap, cur, rfl, ha, h2, h3, h4, h5⟩⟩
theorem Has.only {w : World} {l : List Say} {A : Say} (h : Has w l) (hm : A ∈ l) : Has w [A] := by
 obtain ⟨g, hA, hk⟩ := h.mem hm
 exact ⟨g, fun _ => none, hA, trivial, fun k hk1 => ⟨hk k hk1, rfl⟩, by simp⟩
theorem Has.row_read {w : World} {l : List Say} {e : TypeId} {v : Value} {n : Nat} {xs : List Value} (h : Has w l) (hm : rowS e 1 v n xs ∈ l) :
  xs.length = n /\ ∃ a c, v = .slice a n c /\ n <= c /\ c <= maxLen /\ ∀ k u, xs[k]? = some u -> ∃ g, a = some ⟨g, 0, none⟩ /\ w.cell? ⟨g, k, none⟩ = some u /\ ∀ j, w.frozen? ⟨g, j, none⟩ = false := by
 obtain ⟨h1, h2⟩ := h.row_own hm
 have hl : xs.length = n := by simpa using h1
 refine ⟨hl, ?_⟩
 rcases h2 with ⟨rfl, rfl⟩ | ⟨g, cap, cur, rfl, _, hg, hn, hc, hs, ht⟩
 ·obtain rfl : xs = [] := List.eq_nil_of_length_eq_zero hl
  exact ⟨none, 0, rfl, Nat.le_refl _, Nat.zero_le _, fun k u hu => by simp at hu⟩
 ·refine ⟨_, cap, rfl, hn, hc, fun k u hu => ⟨g, rfl, cell_of hg k ?_, fun j => thaw_of hg j⟩⟩
  rw [<- ht, List.getElem?_take] at hu
  split at hu
  ·simpa using hu
  ·cases hu
theorem Has.row_val {w : World} {l : List Say} {e : TypeId} {size : Nat} {v : Value} {n : Nat} {xs : List Value} (h : Has w l) (hm : rowS e size v n xs ∈ l) : ∃ a c, v = .slice a n c /\ (0 < n -> ∃ g, a = some ⟨g, 0, none⟩) := by
 obtain ⟨_, h2⟩ := h.row_own hm
 rcases h2 with ⟨rfl, rfl⟩ | ⟨g, cap, cur, rfl, _⟩
 ·exact ⟨none, 0, rfl, fun h => by omega⟩
 ·exact ⟨_, cap, rfl, fun _ => ⟨g, rfl⟩⟩
theorem Has.row_set {w : World} {l : List Say} {e : TypeId} {g n c : Nat} {xs : List Value} (h : Has w (rowS e 1 (.slice (some ⟨g, 0, none⟩) n c) n xs :: l)) (j : Nat) (u : Value) :
  Has (w.setCell ⟨g, j, none⟩ u) (rowS e 1 (.slice (some ⟨g, 0, none⟩) n c) n (xs.set j u) :: l) := by
 obtain ⟨h1, h2, ⟨hl, hc⟩, hrest, d1, d2⟩ := h
 rcases hc with ⟨hv, _⟩ | ⟨g', cap, cur, hv, hg, hn, hcm, hs, ht⟩
 ·cases hv
 ·cases hv
  have hp : Has w (pts g (.cells cur e (0, 0)) :: l) := ⟨h1, h2, hg, hrest, d1, d2⟩
  refine (hp.setCell j u).row_of_pts (by simpa using hl) hn hcm (by simpa using hs) ?_
  rw [Array.toList_setIfInBounds, List.take_set, ht]
theorem run_append_row {P : Program} {w : World} {l : List Say} (t ty e : TypeId) (i : TypeInfo) (z : Value) (size bytes : Nat) (ht : P.underlying t = some (.slice e)) (hi : P.info? e = some i) (hz : i.zero = some z)
  (hsize : i.size = size) (hby : i.bytes = bytes) (hzs : z.cells.size = size) (hsz : 0 < size)
  (v : Value) (n : Nat) (xs : List Value) (hown : Has w (rowS e size v n xs :: l))
  (a : Addr) (m c : Nat) (news : List Value) (hl : news.length = m * size) (hnews : ∀ j u, news[j]? = some u -> w.cell? (a.add j) = some u) (h1 : ∀ u ∈ news, u.oneCell' = true)
  (h63 : n + m <= maxLen) (hbytes : (n + m) * bytes <= 140737488355328) :
  ∃ v' w', (Builtin.append_ #[t, t] ty #[v, .slice (some a) m c]).run P w = .ok v' w' /\ Kept w w' /\ Has w' (rowS e size v' (n + m) (xs ++ news) :: l) := by
 obtain ⟨hp1, hp2, ⟨hlen, hcase⟩, hl2, d1, d2⟩ := hown
 have hl2' : Has w l := Sep.up hl2 d2
 have fresh : ∀ {v' : Value} {w' : World}, w'.ownsRow w.heap.size e size v' (n + m) (xs ++ news) -> w.grownBy w' none -> Has w' (rowS e size v' (n + m) (xs ++ news) :: l) := by
  intro v' w' ho hg
  have hl3 : Has w' l := hl2'.same fun k hk => hg.block k hk (by simp)
  rcases ho.2 with ⟨rfl, hn⟩ | ⟨g, cap, cur, rfl, hbg, hgg, r⟩
  ·exact ⟨fun _ => none, fun k => w'.heap[k]?, ⟨ho.1, .inl ⟨rfl, hn⟩⟩, hl3, by simp, by simp⟩
  ·have h4 : Sep (fun k => if k < w.heap.size then w.heap[k]? else none) l := Sep.up hl2' fun k hk => by
    rcases Nat.lt_or_ge k w.heap.size with hlt | hge
    ·simp [hlt]
    ·exact absurd (Array.getElem?_eq_none hge) hk
   refine ⟨fun k => if k = g then w'.heap[g]? else none, _, ⟨ho.1, .inr ⟨g, cap, cur, rfl, by simp [hgg], r⟩⟩, h4, fun k hk => ?_, fun k hk => ?_⟩
   ·by_cases e1 : k = g
    ·subst e1; exact ⟨by simp, by simp; omega⟩
    ·simp [e1] at hk
   ·by_cases hlt : k < w.heap.size
    ·simp only [hlt, if_true]; exact hg.block k hlt (by simp)
    ·simp [hlt] at hk
 rcases hcase with ⟨rfl, rfl⟩ | ⟨g, cap, cur, rfl, hg, hnc, hcm, hcs, htake⟩
 ·obtain rfl : xs = [] := List.eq_nil_of_length_eq_zero (by simpa using hlen)
  obtain ⟨v', w', hr, h2, h3, _⟩ := run_append_own (P := P) w w.heap.size t ty e i z size bytes ht hi hz hsize hby hzs hsz (.slice none 0 0) 0 [] (World.ownsRow_nil w _ e size) a m c news hl hnews h1 h63 hbytes (Nat.le_refl _)
  exact ⟨v', w', hr, .grown h3, fresh h2 h3⟩
 ·have hg1 : w.heap[g]? = some (.cells cur e (0, 0)) := by
   have this : w.heap[g]? = hp1 g := (d1 g (by rw [hg]; simp)).1
   rw [this, hg]
  have hpts : Has w (pts g (.cells cur e (0, 0)) :: l) := ⟨hp1, hp2, hg, hl2, d1, d2⟩
  by_cases hroom : n + m <= cap
  ·subst hsize
   have hfit : n * i.size + news.length <= cur.size := by rw [hl, hcs, <- Nat.add_mul]; exact Nat.mul_le_mul_right _ hroom
   have hr := run_append_room (P := P) w t ty e i ht hi g n cap cur hg1 a m c news hl hnews h1 hroom hfit
   refine ⟨_, _, hr, ⟨rfl, rfl, rfl, by simp⟩, ?_⟩
   have hput : Has (w.setRow g (cur.toList.take (n * i.size) ++ news ++ cur.toList.drop (n * i.size + news.length)).toArray) (pts g (.cells (cur.toList.take (n * i.size) ++ news ++ cur.toList.drop (n * i.size + news.length)).toArray e (0, 0)) :: l) :=
    Sep.put hpts (setRow_heap w g cur _ e _ hg1) fun k hk => setRow_other w g k _ hk
   refine hput.row_of_pts (by rw [List.length_append, hlen, hl, Nat.add_mul]) hroom hcm ?_ ?_
   ·simp only [List.size_toArray, List.length_append, List.length_take, List.length_drop, Array.length_toList]
    omega
   ·rw [htake]
    have e1 : (xs ++ news).length = (n + m) * i.size := by rw [List.length_append, hlen, hl, Nat.add_mul]
    rw [<- e1]; exact List.take_left
  ·have holds : ∀ j u, xs[j]? = some u -> w.cell? ((⟨g, 0, none⟩ : Addr).add j) = some u := by
    intro j u hu
    rw [Addr.add_lit, Nat.zero_add]
    refine cell_of hg1 j ?_
    rw [<- htake, List.getElem?_take] at hu
    split at hu
    ·simpa using hu
    ·cases hu
   obtain ⟨v', w', hr, h2, h3⟩ := run_append_arg_grows (P := P) w t ty e i z size bytes ht hi hz hsize hby hzs hsz ⟨g, 0, none⟩ n cap xs hlen holds a m c news hl hnews (by omega) h63 hbytes
   exact ⟨v', w', hr, .grown h3, fresh h2 h3⟩
theorem wpList_append_row {P : Program} {w : World} {l : List Say} {ops : Array Oper} {rest : List Oper} {o : Oper} {a : Act} {Q : Exit -> Act -> World -> Prop} (hgd : o.guard = none) (s x : Operand) (t : TypeId)
  (ho : o.op = .call { callee := .builtin .append, args := #[s, x], argTypes := #[t, t] })
  (e : TypeId) (i : TypeInfo) (z : Value) (size bytes : Nat) (ht : P.underlying t = some (.slice e)) (hi : P.info? e = some i) (hz : i.zero = some z)
  (hsize : i.size = size) (hby : i.bytes = bytes) (hzs : z.cells.size = size) (hsz : 0 < size)
  (v : Value) (n : Nat) (xs : List Value) (hs : a.eval s = v) (hown : Has w (rowS e size v n xs :: l))
  (ad : Addr) (m c : Nat) (news : List Value) (hx : a.eval x = .slice (some ad) m c) (hl : news.length = m * size) (hnews : ∀ j u, news[j]? = some u -> w.cell? (ad.add j) = some u) (h1 : ∀ u ∈ news, u.oneCell' = true)
  (h63 : n + m <= maxLen) (hbytes : (n + m) * bytes <= 140737488355328)
  (h : ∀ v' w', Kept w w' -> Has w' (rowS e size v' (n + m) (xs ++ news) :: l) -> wpList P ops Q rest (a.put o.dst v') w') : wpList P ops Q (o :: rest) a w := by
 refine wpList_plain hgd fun K hK => ?_
 obtain ⟨v', w', hr, h2, h3⟩ := run_append_row (P := P) t o.type e i z size bytes ht hi hz hsize hby hzs hsz v n xs hown ad m c news hl hnews h1 h63 hbytes
 unfold Oper.wp execOp
 simp only [ho, resolve, invoke, builtin, Sem.run_bind, Sem.run_pure, Result.andThen_ok, List.map_toArray, List.map_cons, List.map_nil, hs, hx, hr]
 exact hK _ _ (h v' w' h2 h3)
theorem step_append_row {P : Program} {w : World} {l : List Say} {ops : Array Oper} {o : Oper} {a : Act} {K : Act -> World -> Prop} {Q : Exit -> Act -> World -> Prop} {E : Prop} (hgd : o.guard = none) (s x : Operand) (t : TypeId)
  (ho : o.op = .call { callee := .builtin .append, args := #[s, x], argTypes := #[t, t] })
  (e : TypeId) (i : TypeInfo) (z : Value) (size bytes : Nat) (ht : P.underlying t = some (.slice e)) (hi : P.info? e = some i) (hz : i.zero = some z)
  (hsize : i.size = size) (hby : i.bytes = bytes) (hzs : z.cells.size = size) (hsz : 0 < size)
  (v : Value) (n : Nat) (xs : List Value) (hs : a.eval s = v) (hown : Has w (rowS e size v n xs :: l))
  (ad : Addr) (m c : Nat) (news : List Value) (hx : a.eval x = .slice (some ad) m c) (hl : news.length = m * size) (hnews : ∀ j u, news[j]? = some u -> w.cell? (ad.add j) = some u) (h1 : ∀ u ∈ news, u.oneCell' = true)
  (h63 : n + m <= maxLen) (hbytes : (n + m) * bytes <= 140737488355328)
  (h : ∀ v' w', Kept w w' -> Has w' (rowS e size v' (n + m) (xs ++ news) :: l) -> K (a.put o.dst v') w') : if Region.wanted o (yielded ops a.tmps) = true then Oper.wp P o a w K Q else E := by
 have hw : Region.wanted o (yielded ops a.tmps) = true := by simp [Region.wanted, hgd]
 rw [if_pos hw]
 obtain ⟨v', w', hr, h2, h3⟩ := run_append_row (P := P) t o.type e i z size bytes ht hi hz hsize hby hzs hsz v n xs hown ad m c news hl hnews h1 h63 hbytes
 unfold Oper.wp execOp
 simp only [ho, resolve, invoke, builtin, Sem.run_bind, Sem.run_pure, Result.andThen_ok, List.map_toArray, List.map_cons, List.map_nil, hs, hx, hr]
 exact h v' w' h2 h3
theorem one_new (w : World) (x : Value) (t : TypeId) : ∀ j u, [x][j]? = some u -> (w.alloc (.cells #[x] t)).cell? ((⟨w.heap.size, 0, none⟩ : Addr).add j) = some u := by
 intro j u hu
 have : j = 0 := by
  have := (List.getElem?_eq_some_iff.1 hu).1
  simpa using this
 subst this
 rw [Addr.add_lit, World.cell?_alloc_new]
 simpa using hu
def reord : List Nat -> List Say -> List Say
 | [], l => l
 | i :: is, l => match pull i l with
  | A :: l' => A :: reord is l'
  | [] => []
theorem Sep.reord : ∀ (is : List Nat) {l : List Say} {h : Part}, Sep h l -> Sep h (reord is l)
 | [], _, _, hs => hs
 | i :: is, l, h, hs => by
  have h2 := hs.pull i
  unfold Go.Proofs.YtgbgneiciabidaaGreatDoor.reord
  generalize Go.Proofs.YtgbgneiciabidaaGreatDoor.pull i l = q at h2
  cases q with
  | nil => exact h2
  | cons A l' => exact Sep.cons_mono (fun _ hl => Sep.reord is hl) h2
theorem Has.reord {w : World} (is : List Nat) {l : List Say} (h : Has w l) : Has w (reord is l) := Sep.reord is h
theorem pull_perm : ∀ (n : Nat) (l : List Say), (pull n l).Perm l
 | 0, _ => .refl _
 | _ + 1, [] => .refl _
 | n + 1, A :: l => by
  have h := pull_perm n l
  unfold pull
  generalize pull n l = q at h
  cases q with
  | nil => rw [List.nil_perm.1 h]
  | cons B l' => exact (List.Perm.swap _ _ _).trans (h.cons A)
theorem reord_perm : ∀ (is : List Nat) (l : List Say), (reord is l).Perm l
 | [], _ => .refl _
 | i :: is, l => by
  have h := pull_perm i l
  unfold reord
  generalize pull i l = q at h
  cases q with
  | nil => rw [List.nil_perm.1 h]
  | cons A l' => exact ((reord_perm is l').cons A).trans h
/-
  Slices searched by a function: slices.IndexFunc, slices.ContainsFunc at whole numbers.
-/
structure May (K : FuncId) : Prop where
 it : ∃ fn, Tryz.prog.funcs[K]? = some fn /\ (fn.name == "runtime.NumGoroutine") = false /\ fn.body.isNone = false
theorem May.run {K : FuncId} (h : May K) (vs : Array Value) (w : World) : (callFunc K vs).run Tryz.prog w = .ok (.enter K vs) w := by
 obtain ⟨fn, hf, hn, hb⟩ := h.it
 have hn' : ¬ fn.name = "runtime.NumGoroutine" := by simpa using hn
 have hb' : ¬ fn.body = none := by intro e; rw [e] at hb; cases hb
 simp [callFunc, program, Sem.run, bind, Sem.bind, hf, hn', hb']
def firstAt (p : Int -> Bool) (xs : List Int) : Int := match xs.findIdx? p with | some i => i | none => -1
theorem firstAt_hit (p : Int -> Bool) (xs : List Int) (k : Nat) (hk : k < xs.length) (hb : ∀ j (h : j < k), p (xs[j]'(by omega)) = false) (hp : p xs[k] = true) : firstAt p xs = k := by
 have : xs.findIdx? p = some k := by
  rw [List.findIdx?_eq_some_iff_getElem]
  exact ⟨hk, hp, fun j hj => by simp [hb j hj]⟩
 simp [firstAt, this]
theorem firstAt_none (p : Int -> Bool) (xs : List Int) (hb : ∀ j (h : j < xs.length), p xs[j] = false) : firstAt p xs = -1 := by
 have : xs.findIdx? p = none := by
  rw [List.findIdx?_eq_none_iff]
  intro x hx
  obtain ⟨j, hj, rfl⟩ := List.getElem_of_mem hx
  exact hb j hj
 simp [firstAt, this]
theorem firstAt_any (p : Int -> Bool) (xs : List Int) : decide (0 <= firstAt p xs) = xs.any p := by
 unfold firstAt
 cases h : xs.findIdx? p with
 | none =>
  rw [List.findIdx?_eq_none_iff] at h
  have : xs.any p = false := by simpa using h
  rw [this]; rfl
 | some i =>
  rw [List.findIdx?_eq_some_iff_getElem] at h
  obtain ⟨hi, hp, _⟩ := h
  have : xs.any p = true := List.any_eq_true.2 ⟨_, List.getElem_mem hi, hp⟩
  rw [this]; simp
set_option maxRecDepth 100000 in
theorem IndexFuncInt (K : FuncId) (hK : May K) (caps : Array Value) (p : Int -> Bool) (a : Option Addr) (c : Nat) (xs : List Int) (w : World) (hm : xs.length <= maxLen)
  (hx : ∀ (k : Nat) (h : k < xs.length), ∃ b off, a = some ⟨b, off, none⟩ /\ w.cell? ⟨b, off + k, none⟩ = some (.int .i64 xs[k]))
  (hp : ∀ (k m : Nat) (h : k < xs.length), Calls Tryz.prog K (#[.int .i64 xs[k]] ++ caps) (w.drewN m) fun e w' => e = .returned (.bool (p xs[k])) /\ ∃ m', w' = w.drewN m') :
  Calls Tryz.prog 194 #[.slice a xs.length c, .func (.func K) #[] caps] w fun e w' => e = .returned (.int .i64 (firstAt p xs)) /\ ∃ m, w' = w.drewN m := by
 have hcall := fun (vs : Array Value) (w : World) => hK.run vs w
 have hm2 : xs.length <= 9223372036854775807 := by simpa [maxLen] using hm
 clear hm
 have Hx := Lib.hid hx; clear hx
 have Hp := Lib.hid hp; clear hp
 go_enter Tryz.func194, Tryz.ntmps194
 go_wp2
 go_loopw [8] (fun i wr => ∃ k : Nat, k <= xs.length /\ i = .int .i64 k /\ (∃ m, wr = w.drewN m) /\ Hid (∀ j (h : j < xs.length), j < k -> p xs[j] = false)) (fun i _ => xs.length - (intOf i).toNat)
 case atStart => exact ⟨0, Nat.zero_le _, rfl, ⟨0, rfl⟩, fun _ _ h => absurd h (Nat.not_lt_zero _)⟩
 case round =>
  obtain ⟨k, hk, rfl, ⟨m, rfl⟩, Hb⟩ := hrel
  by_cases hlt : k < xs.length
  ·obtain ⟨b, off, rfl, hc⟩ := Hx.out k hlt
   have hq := Hp.out k m hlt
   generalize hxk : xs[k] = x at hc hq
   have hxk := Lib.hid hxk
   by_cases hpx : p x = true
   ·rw [hpx] at hq
    have hq := Lib.hid hq
    have Hhit := Lib.hid (firstAt_hit p xs k hlt (fun j h => Hb.out j (by omega) h) (by rw [hxk.out]; exact hpx))
    clear hpx
    go_wp2_with fail
    refine hq.out.mono ?_
    rintro e w' ⟨rfl, m', rfl⟩
    go_wp2
    go_ret
    exact ⟨by rw [Hhit.out]; rfl, m', rfl⟩
   ·have hpx : p x = false := by simpa using hpx
    rw [hpx] at hq
    have hq := Lib.hid hq
    have Hpx := Lib.hid hpx; clear hpx
    go_wp2_with fail
    refine hq.out.mono ?_
    rintro e w' ⟨rfl, m', rfl⟩
    go_wp2
    go_roundw
    case rel =>
     refine ⟨k + 1, by omega, by go_num, ⟨m', rfl⟩, fun j h hj => ?_⟩
     by_cases hjk : j = k
     ·subst hjk; rw [hxk.out]; exact Hpx.out
     ·exact Hb.out j h (by omega)
    case measure => simp [intOf]; omega
  ·have e := firstAt_none p xs fun j h => Hb.out j h (by omega)
   have He := Lib.hid e; clear e
   go_wp2
   go_ret
   exact ⟨by rw [He.out]; rfl, m, rfl⟩
theorem ContainsFuncInt (K : FuncId) (hK : May K) (caps : Array Value) (p : Int -> Bool) (a : Option Addr) (c : Nat) (xs : List Int) (w : World) (hm : xs.length <= maxLen)
  (hx : ∀ (k : Nat) (h : k < xs.length), ∃ b off, a = some ⟨b, off, none⟩ /\ w.cell? ⟨b, off + k, none⟩ = some (.int .i64 xs[k]))
  (hp : ∀ (k m : Nat) (h : k < xs.length), Calls Tryz.prog K (#[.int .i64 xs[k]] ++ caps) (w.drewN m) fun e w' => e = .returned (.bool (p xs[k])) /\ ∃ m', w' = w.drewN m') :
  Calls Tryz.prog 139 #[.slice a xs.length c, .func (.func K) #[] caps] w fun e w' => e = .returned (.bool (xs.any p)) /\ ∃ m, w' = w.drewN m := by
 have H := Lib.hid (IndexFuncInt K hK caps p a c xs w hm hx hp)
 have He := Lib.hid (firstAt_any p xs)
 clear hx hp hm
 go_enter Tryz.func139, Tryz.ntmps139
 go_wp2_with (go_at_call 194; refine H.out.mono ?_; rintro e w' ⟨rfl, m, rfl⟩)
 go_ret
 exact ⟨by rw [<- He.out]; rfl, m, rfl⟩
end Go.Proofs.YtgbgneiciabidaaGreatDoor
