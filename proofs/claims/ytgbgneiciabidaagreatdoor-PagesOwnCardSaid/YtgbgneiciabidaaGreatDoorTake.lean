/-
  Spaces (layer 8), the third part: Take.
-/
import Derived.Test.YtgbgneiciabidaaGreatDoorSpaceB
namespace Go.Proofs.YtgbgneiciabidaaGreatDoor
open Go Go.RowKit
set_option linter.unusedVariables false
set_option linter.unusedSimpArgs false

/-- A code as an error. -/
def errV (c : Int) : Value := .iface 157 (.int .i64 c)

theorem shelves_focus : ∀ (bs : List Nat) (sh : List Shelf) (d b : Nat) (y : Shelf), bs[d]? = some b → sh[d]? = some y →
    ∃ rest, (shelvesL bs sh).Perm (shelfS b y :: rest) ∧ ∀ y', (shelvesL bs (sh.set d y')).Perm (shelfS b y' :: rest)
  | [], _, _, _, _, h, _ => by simp at h
  | _ :: _, [], _, _, _, _, h => by simp at h
  | b0 :: bs, y0 :: sh, 0, b, y, hb, hy => by
    simp at hb hy
    subst hb hy
    exact ⟨shelvesL bs sh, .refl _, fun y' => .refl _⟩
  | b0 :: bs, y0 :: sh, d + 1, b, y, hb, hy => by
    obtain ⟨rest, h1, h2⟩ := shelves_focus bs sh d b y (by simpa using hb) (by simpa using hy)
    refine ⟨shelfS b0 y0 :: rest, (h1.cons _).trans (.swap _ _ _), fun y' => ?_⟩
    exact ((h2 y').cons (shelfS b0 y0)).trans (.swap _ _ _)

/-- The first of the devices with most room. -/
def bestOf (f : Nat → Nat) : List Nat → Nat × Nat → Nat × Nat
  | [], r => r
  | d :: ds, r => bestOf f ds (if r.2 < f d then (d, f d) else r)
theorem bestOf_snoc (f : Nat → Nat) : ∀ (ds : List Nat) (d : Nat) (r : Nat × Nat), bestOf f (ds ++ [d]) r = if (bestOf f ds r).2 < f d then (d, f d) else bestOf f ds r
  | [], d, r => rfl
  | x :: ds, d, r => by simp only [List.cons_append, bestOf]; exact bestOf_snoc f ds d _
theorem bestOf_take (f : Nat → Nat) (ds : List Nat) (k d : Nat) (h : ds[k]? = some d) (r : Nat × Nat) : bestOf f (ds.take (k + 1)) r = if (bestOf f (ds.take k) r).2 < f d then (d, f d) else bestOf f (ds.take k) r := by
  rw [List.take_add_one, h]; exact bestOf_snoc f _ d r
/-- The first of those that have most. -/
def Best (f : Nat → Nat) (ds : List Nat) (b : Nat) : Prop := b ∈ ds ∧ 0 < f b ∧ (∀ d ∈ ds, f d ≤ f b)
theorem bestOf_spec (f : Nat → Nat) : ∀ (ds : List Nat), ((bestOf f ds (0, 0)).2 = 0 ∧ ∀ d ∈ ds, f d = 0) ∨ ((bestOf f ds (0, 0)).2 = f (bestOf f ds (0, 0)).1 ∧ Best f ds (bestOf f ds (0, 0)).1) := by
  intro ds
  have key : ∀ n, n ≤ ds.length → ((bestOf f (ds.take n) (0, 0)).2 = 0 ∧ ∀ d ∈ ds.take n, f d = 0) ∨ ((bestOf f (ds.take n) (0, 0)).2 = f (bestOf f (ds.take n) (0, 0)).1 ∧ Best f (ds.take n) (bestOf f (ds.take n) (0, 0)).1) := by
    intro n
    induction n with
    | zero => intro _; exact .inl ⟨rfl, by simp⟩
    | succ n ih =>
      intro hn
      obtain ⟨d, hd⟩ : ∃ d, ds[n]? = some d := ⟨_, List.getElem?_eq_getElem (by omega)⟩
      have ih := ih (by omega)
      rw [bestOf_take f ds n d hd]
      have hmem : ∀ x, x ∈ ds.take (n + 1) ↔ x ∈ ds.take n ∨ x = d := fun x => by rw [List.take_add_one, hd]; simp
      rcases ih with ⟨h0, hall⟩ | ⟨h1, hb⟩
      · by_cases hlt : 0 < f d
        · rw [h0, if_pos hlt]
          refine .inr ⟨rfl, (hmem d).2 (.inr rfl), hlt, fun x hx => ?_⟩
          rcases (hmem x).1 hx with h | rfl
          · rw [hall x h]; omega
          · exact Nat.le_refl _
        · rw [h0, if_neg hlt]
          refine .inl ⟨h0, fun x hx => ?_⟩
          rcases (hmem x).1 hx with h | rfl
          · exact hall x h
          · omega
      · rw [h1]
        by_cases hlt : f (bestOf f (ds.take n) (0, 0)).1 < f d
        · rw [if_pos hlt]
          refine .inr ⟨rfl, (hmem d).2 (.inr rfl), (by show 0 < f d; omega), fun x hx => ?_⟩
          rcases (hmem x).1 hx with h | rfl
          · have := hb.2.2 x h; simp only; omega
          · exact Nat.le_refl _
        · rw [if_neg hlt]
          refine .inr ⟨h1, (hmem _).2 (.inl hb.1), hb.2.1, fun x hx => ?_⟩
          rcases (hmem x).1 hx with h | rfl
          · exact hb.2.2 x h
          · omega
  have := key ds.length (Nat.le_refl _)
  rw [List.take_length] at this
  exact this

def Shelf.took (y : Shelf) (k : Nat) : Shelf := { y with taken := fun j => j == k || y.taken j, fresh := fun j => j == k || y.fresh j }
def Spc.put (X : Spc) (d : Nat) (y : Shelf) : Spc := { X with sh := X.sh.set d y }
/-- The sector that Take takes: of the first device with most room the least one that is free. -/
structure Takes (X : Spc) (d k : Nat) (y : Shelf) : Prop where
  best : Best X.free (actives X.es) d
  first : d = (bestOf X.free (actives X.es) (0, 0)).1
  shelf : X.sh[d]? = some y
  lo : 2 ≤ k
  hi : k < y.n
  free : y.busy k = false
  least : ∀ j, 2 ≤ j → j < k → y.busy j = true
def TakePost (s : Nat) (X : Spc) (l : List Say) (w : World) (r : Ending) (w' : World) : Prop :=
  ((∀ d ∈ actives X.es, X.free d = 0) ∧ r = .returned (.tuple #[.int .i64 0, errV 50]) ∧ Kept w w' ∧ Has w' (spaceS s X :: l)) ∨
  ∃ d k y, Takes X d k y ∧ r = .returned (.tuple #[.int .i64 ((d * 4096 + k : Nat) : Int), .nilIface]) ∧ Kept w w' ∧ Has w' (spaceS s (X.put d (y.took k)) :: l)

theorem ShelfOk.took {y : Shelf} (h : ShelfOk y) {k : Nat} (h2 : 2 ≤ k) (hg : y.given k = false) : ShelfOk (y.took k) := by
  refine ⟨fun j hj => ?_, h.g2, fun j hj => ?_⟩
  · simp only [Shelf.took, Bool.or_eq_true, beq_iff_eq] at hj
    rcases hj with rfl | hj
    · exact h2
    · exact h.t2 j hj
  · simp only [Shelf.took, Bool.or_eq_true, beq_iff_eq] at hj ⊢
    rcases hj with rfl | hj
    · exact hg
    · exact h.ne j hj
theorem SpcOk.put {X : Spc} {bs : List Nat} (ok : SpcOk X bs) {d : Nat} {y y' : Shelf} (hy : X.sh[d]? = some y) (hn : y'.n = y.n) (h : ShelfOk y') : SpcOk (X.put d y') bs := by
  refine ⟨ok.ents, ok.ne, by simpa [Spc.put] using ok.bs, by simpa [Spc.put] using ok.sh, fun i z e hz he => ?_, fun i z hz => ?_⟩
  · by_cases hid : i = d
    · subst hid
      have hlt := (List.getElem?_eq_some_iff.1 hy).1
      simp only [Spc.put, List.getElem?_set_self hlt, Option.some.injEq] at hz
      subst hz
      rw [hn]; exact ok.size i y e hy he
    · simp only [Spc.put, List.getElem?_set_ne (Ne.symm hid)] at hz
      exact ok.size i z e hz he
  · by_cases hid : i = d
    · subst hid
      have hlt := (List.getElem?_eq_some_iff.1 hy).1
      simp only [Spc.put, List.getElem?_set_self hlt, Option.some.injEq] at hz
      subst hz
      exact h
    · simp only [Spc.put, List.getElem?_set_ne (Ne.symm hid)] at hz
      exact ok.ok i z hz

def BestRel (X : Spc) (W : World) (gk : Nat) (b m i : Value) (wr : World) : Prop :=
  ∃ k : Nat, k ≤ (actives X.es).length ∧ gk = (actives X.es).length - k ∧ i = .int .i64 k ∧ b = .int .i64 ((bestOf X.free ((actives X.es).take k) (0, 0)).1 : Nat) ∧ m = .int .i64 ((bestOf X.free ((actives X.es).take k) (0, 0)).2 : Nat) ∧ ∃ q, wr = W.drewN q
/-- The loop that goes by what was given back. -/
def SeekRel (y : Shelf) (W : World) (gk : Nat) (kv : Value) (wr : World) : Prop :=
  ∃ k : Nat, kv = .int .i64 k ∧ gk = y.n - k ∧ 2 ≤ k ∧ k < y.n ∧ y.taken k = false ∧ (∀ j, 2 ≤ j → j < k → y.busy j = true) ∧ wr = W

theorem bestOf_mem (f : Nat → Nat) (ds : List Nat) : (bestOf f ds (0, 0)).1 = 0 ∧ (bestOf f ds (0, 0)).2 = 0 ∨ ((bestOf f ds (0, 0)).1 ∈ ds ∧ (bestOf f ds (0, 0)).2 = f (bestOf f ds (0, 0)).1) := by
  have key : ∀ (ds : List Nat) (r : Nat × Nat), (bestOf f ds r) = r ∨ ((bestOf f ds r).1 ∈ ds ∧ (bestOf f ds r).2 = f (bestOf f ds r).1) := by
    intro ds
    induction ds with
    | nil => intro r; exact .inl rfl
    | cons d ds ih =>
      intro r
      simp only [bestOf]
      rcases ih (if r.2 < f d then (d, f d) else r) with h | ⟨h1, h2⟩
      · by_cases hlt : r.2 < f d
        · rw [if_pos hlt] at h ⊢
          rw [h]; exact .inr ⟨.head _, rfl⟩
        · rw [if_neg hlt] at h ⊢
          exact .inl h
      · exact .inr ⟨.tail _ h1, h2⟩
  rcases key ds (0, 0) with h | h
  · rw [h]; exact .inl ⟨rfl, rfl⟩
  · exact .inr h
end Go.Proofs.YtgbgneiciabidaaGreatDoor
