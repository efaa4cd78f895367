/-
  Spaces (layer 8): a space in memory; addresses; find, free.
-/
import Derived.Test.YtgbgneiciabidaaGreatDoorShelf
namespace Go.Proofs.YtgbgneiciabidaaGreatDoor
open Go Go.RowKit
set_option linter.unusedVariables false
set_option linter.unusedSimpArgs false

/-- What a space stands for: its devices, and the shelf of each. -/
structure Spc where
  es : List Ent
  sh : List Shelf
/-- Where a space's parts lie. -/
structure SpAt where
  st : Nat
  lv : Value
  sv : Value
  bs : List Nat
/-- Nothing below sector 2 is taken or given back, and nothing is both. -/
structure ShelfOk (s : Shelf) : Prop where
  t2 : ∀ k, s.taken k = true → 2 ≤ k
  g2 : ∀ k, s.given k = true → 2 ≤ k
  ne : ∀ k, s.taken k = true → s.given k = false
structure SpcOk (X : Spc) (bs : List Nat) : Prop where
  ents : OkEnts X.es
  ne : X.es ≠ []
  bs : bs.length = X.sh.length
  sh : X.es.length = X.sh.length
  size : ∀ (i : Nat) (s : Shelf) (e : Ent), X.sh[i]? = some s → X.es[i]? = some e → s.n = e.size
  ok : ∀ (i : Nat) (s : Shelf), X.sh[i]? = some s → ShelfOk s
def spHead (s : Nat) (es : List Ent) (x : SpAt) : List Say :=
  [pts s (.cells #[.pointer (some ⟨x.st, 0, none⟩), .pointer none] 160 (0, 0)), pts x.st (.cells #[x.lv, x.sv] 163 (0, 0)), entS x.lv es,
    rowS 175 1 x.sv x.bs.length (x.bs.map ptr)]
def shelvesL (bs : List Nat) (sh : List Shelf) : List Say := (bs.zip sh).map fun y => shelfS y.1 y.2
def spFlat (s : Nat) (X : Spc) (x : SpAt) : List Say := spHead s X.es x ++ shelvesL x.bs X.sh
def spaceS (s : Nat) (X : Spc) : Say := ex fun x : SpAt => fact (SpcOk X x.bs) (all (spFlat s X x))
theorem Has.sp_open {w : World} {l : List Say} {s : Nat} {X : Spc} (h : Has w (spaceS s X :: l)) : ∃ x, SpcOk X x.bs ∧ Has w (spFlat s X x ++ l) := by
  obtain ⟨x, h⟩ := h.opened
  obtain ⟨ok, h⟩ := h.unfact
  exact ⟨x, ok, h.split⟩
theorem Has.sp_shut {w : World} {l : List Say} {s : Nat} {X : Spc} {x : SpAt} (ok : SpcOk X x.bs) (h : Has w (spFlat s X x ++ l)) : Has w (spaceS s X :: l) := Has.chosen x (Has.tofact ok h.unite)

/-- What whoever reads a space finds. -/
structure SpRead (w : World) (s : Nat) (X : Spc) (x : SpAt) (a : Option Addr) (c : Nat) (sa : Option Addr) (sc : Nat) : Prop where
  s0 : w.cell? ⟨s, 0, none⟩ = some (.pointer (some ⟨x.st, 0, none⟩))
  s1 : w.cell? ⟨s, 1, none⟩ = some (.pointer none)
  t0 : w.cell? ⟨x.st, 0, none⟩ = some (.slice a X.es.length c)
  t1 : w.cell? ⟨x.st, 1, none⟩ = some (.slice sa X.sh.length sc)
  lv : x.lv = .slice a X.es.length c
  sv : x.sv = .slice sa X.sh.length sc
  ent : ∀ k e, X.es[k]? = some e → ∃ g, a = some ⟨g, 0, none⟩ ∧ w.cell? ⟨g, k * 2, none⟩ = some (.int .i64 (e.st : Int)) ∧ w.cell? ⟨g, k * 2 + 1, none⟩ = some (.int .i64 (e.size : Int))
  shelf : ∀ k y, X.sh[k]? = some y → ∃ g b, sa = some ⟨g, 0, none⟩ ∧ w.cell? ⟨g, k, none⟩ = some (.pointer (some ⟨b, 0, none⟩)) ∧ shelfS b y ∈ shelvesL x.bs X.sh ∧ x.bs[k]? = some b
theorem Has.sp_read {w : World} {l : List Say} {s : Nat} {X : Spc} {x : SpAt} (h : Has w l) (hs : ∀ A ∈ spFlat s X x, A ∈ l) (ok : SpcOk X x.bs) : ∃ a c sa sc, SpRead w s X x a c sa sc := by
  have m0 := h.at (hs _ (by simp [spFlat, spHead]) : pts s (.cells #[.pointer (some ⟨x.st, 0, none⟩), .pointer none] 160 (0, 0)) ∈ l)
  have m1 := h.at (hs _ (by simp [spFlat, spHead]) : pts x.st (.cells #[x.lv, x.sv] 163 (0, 0)) ∈ l)
  obtain ⟨a, c, hv, hc, hr⟩ := h.ent_read (hs _ (by simp [spFlat, spHead]) : entS x.lv X.es ∈ l)
  obtain ⟨hl, sa, sc, hsv, _, _, hsr⟩ := h.row_read (hs _ (by simp [spFlat, spHead]) : rowS 175 1 x.sv x.bs.length (x.bs.map ptr) ∈ l)
  rw [hv, hsv, ok.bs] at m1
  refine ⟨a, c, sa, sc, cell_of m0 0 rfl, cell_of m0 1 rfl, cell_of m1 0 rfl, cell_of m1 1 rfl, hv, by rw [hsv, ok.bs], hr, fun k y hy => ?_⟩
  have hk := (List.getElem?_eq_some_iff.1 hy).1
  have hkb : k < x.bs.length := by rw [ok.bs]; exact hk
  obtain ⟨g, e1, e2, _⟩ := hsr k (ptr x.bs[k]) (by simp [List.getElem?_eq_getElem hkb])
  refine ⟨g, x.bs[k], e1, e2, ?_, List.getElem?_eq_getElem hkb⟩
  refine List.mem_map.2 ⟨(x.bs[k], y), ?_, rfl⟩
  have hz : (x.bs.zip X.sh)[k]? = some (x.bs[k], y) := by rw [List.getElem?_zip_eq_some]; exact ⟨List.getElem?_eq_getElem hkb, hy⟩
  exact List.mem_of_getElem? hz

theorem cntTo_or {S T : Nat → Bool} : ∀ n, (∀ k, S k = true → T k = false) → cntTo S n + cntTo T n = cntTo (fun k => S k || T k) n
  | 0, _ => rfl
  | n + 1, h => by
    have ih := cntTo_or n h
    have hn := h n
    simp only [cntTo]
    by_cases hs : S n = true
    · have ht := hn hs
      simp [hs, ht]; omega
    · by_cases ht : T n = true
      · simp [hs, ht]; omega
      · simp [hs, ht]; omega
theorem cntTo_not (S : Nat → Bool) : ∀ n, cntTo S n + cntTo (fun k => !S k) n = n
  | 0 => rfl
  | n + 1 => by
    have ih := cntTo_not S n
    simp only [cntTo]
    by_cases hs : S n = true
    · simp [hs]; omega
    · simp [hs]; omega
theorem cntTo_mono (S : Nat → Bool) : ∀ {m n : Nat}, m ≤ n → cntTo S m ≤ cntTo S n := by
  intro m n h
  obtain ⟨d, rfl⟩ : ∃ d, n = m + d := ⟨n - m, by omega⟩
  rw [cntTo_add]; omega
theorem cntTo_two {S : Nat → Bool} (h0 : S 0 = true) (h1 : S 1 = true) {n : Nat} (hn : 2 ≤ n) : 2 ≤ cntTo S n := by
  have := cntTo_mono S hn
  simpa [cntTo, h0, h1] using this
/-- Which sectors are not free. -/
def Shelf.busy (s : Shelf) (k : Nat) : Bool := s.taken k || s.given k
theorem ShelfOk.used {s : Shelf} (h : ShelfOk s) : s.used = cntTo s.busy s.n := cntTo_or s.n h.ne
theorem ShelfOk.used_le {s : Shelf} (h : ShelfOk s) (hn : 2 ≤ s.n) : s.used + 2 ≤ s.n := by
  have e0 : (!s.busy 0) = true := by
    simp only [Shelf.busy]
    cases a : s.taken 0 with
    | true => have := h.t2 0 a; omega
    | false => cases b : s.given 0 with
      | true => have := h.g2 0 b; omega
      | false => rfl
  have e1 : (!s.busy 1) = true := by
    simp only [Shelf.busy]
    cases a : s.taken 1 with
    | true => have := h.t2 1 a; omega
    | false => cases b : s.given 1 with
      | true => have := h.g2 1 b; omega
      | false => rfl
  have := cntTo_two (S := fun k => !s.busy k) e0 e1 hn
  have := cntTo_not s.busy s.n
  rw [h.used]; omega
theorem cntTo_full {S : Nat → Bool} : ∀ n, (∀ k, 2 ≤ k → k < n → S k = true) → n ≤ cntTo S n + 2
  | 0, _ => by omega
  | n + 1, h => by
    have ih := cntTo_full n fun k h2 hk => h k h2 (by omega)
    simp only [cntTo]
    by_cases h2 : 2 ≤ n
    · rw [h n h2 (by omega)]; simp; omega
    · omega
/-- Where something is free there is a sector. -/
theorem ShelfOk.some_free {s : Shelf} (h : ShelfOk s) (hu : s.used + 2 < s.n) : ∃ f, 2 ≤ f ∧ f < s.n ∧ s.busy f = false := by
  apply Classical.byContradiction
  intro hno
  have := cntTo_full (S := s.busy) s.n fun k h2 hk => by
    cases hb : s.busy k with
    | true => rfl
    | false => exact absurd ⟨k, h2, hk, hb⟩ hno
  rw [← h.used] at this
  omega

/-! Addresses. -/
theorem space_At {w : World} (a : Nat) (h : a < 32768) : Calls Tryz.prog 66 #[.int .i64 (a : Int)] w fun e w' => e = .returned (.tuple #[.int .i64 ((a / 4096 : Nat) : Int), .int .i64 ((a % 4096 : Nat) : Int)]) ∧ w = w' := by
  go_enter Tryz.func66, Tryz.ntmps66
  go_wp2
  go_ret2
  exact ⟨by simp, rfl⟩
theorem space_At_off {w : World} (a : Int) (h : a < 0 ∨ 32768 ≤ a) : Calls Tryz.prog 66 #[.int .i64 a] w fun e w' => e = .returned (.tuple #[.int .i64 (-1), .int .i64 (-1)]) ∧ w = w' := by
  by_cases h1 : a < 0
  · clear h
    go_enter Tryz.func66, Tryz.ntmps66
    go_wp2
    go_ret2
    exact ⟨rfl, rfl⟩
  · have h2 : 32768 ≤ a := by omega
    clear h
    go_enter Tryz.func66, Tryz.ntmps66
    go_wp2
    go_ret2
    exact ⟨rfl, rfl⟩
theorem space_Addr {w : World} (d k : Nat) (hd : d < 8) (hk : k < 4096) : Calls Tryz.prog 128 #[.int .i64 (d : Int), .int .i64 (k : Int)] w fun e w' => e = .returned (.int .i64 ((d * 4096 + k : Nat) : Int)) ∧ w = w' := by
  go_enter Tryz.func128, Tryz.ntmps128
  go_wp2
  go_ret
  exact ⟨by simp, rfl⟩
theorem space_member {w : World} (e : Ent) : Calls Tryz.prog 159 #[e.val] w fun r w' => r = .returned (.bool (!(e.st == 3))) ∧ Below w.heap.size w w' := by
  have hs : ((e.st : Int) == 3) = (e.st == 3) := by rw [Bool.eq_iff_iff]; simp; omega
  simp only [Ent.val] at *
  go_enter Tryz.func159, Tryz.ntmps159
  go_wp2
  go_ret
  exact ⟨by rw [← hs]; rfl, (Below.refl _ _).alloc (Nat.le_refl _) _⟩

/-- How many of a device are free. -/
def Spc.free (X : Spc) (d : Nat) : Nat := match X.es[d]?, X.sh[d]? with | some e, some y => e.size - 2 - y.used | _, _ => 0

theorem sp_free {w : World} {l : List Say} {s : Nat} {X : Spc} {x : SpAt} (h : Has w l) (hs : ∀ A ∈ spFlat s X x, A ∈ l) (ok : SpcOk X x.bs) (d : Nat) (e : Ent) (y : Shelf) (he : X.es[d]? = some e) (hy : X.sh[d]? = some y) (hu : y.used + 2 ≤ e.size) :
    Calls Tryz.prog 85 #[.pointer (some ⟨s, 0, none⟩), .int .i64 (d : Int)] w fun r w' => r = .returned (.int .i64 (X.free d : Nat)) ∧ ∃ m, w' = w.drewN m := by
  obtain ⟨a, c, sa, sc, R⟩ := h.sp_read hs ok
  obtain ⟨g, rfl, e0, e1⟩ := R.ent d e he
  obtain ⟨q, b, rfl, p0, hmem, _⟩ := R.shelf d y hy
  have hd := (List.getElem?_eq_some_iff.1 he).1
  have hd2 := (List.getElem?_eq_some_iff.1 hy).1
  have hlen := ok.ents.len
  have hesz := (ok.ents.ok e (List.mem_of_getElem? he)).1
  have hn : y.n ≤ 4096 := by rw [ok.size d y e hy he]; exact hesz
  have HU := Lib.hid (fun n => quiet_drew (shelf_used (w := w.drewN n) (h.drewN n) (hs _ (List.mem_append_right _ hmem)) hn))
  have hf : X.free d = e.size - 2 - y.used := by simp [Spc.free, he, hy]
  have Hf := Lib.hid hf
  have s0 := R.s0
  have t0 := R.t0
  have t1 := R.t1
  have hw1 : IntKind.i64.wrap ((e.size : Int) - 2) = (e.size : Int) - 2 := IntWalk.i64_in _ (by omega)
  have hw2 : IntKind.i64.wrap ((e.size : Int) - 2 - (y.used : Int)) = (e.size : Int) - 2 - (y.used : Int) := IntWalk.i64_in _ (by omega)
  generalize hyu : y.used = u at *
  clear R hmem hf he hy h hs hyu
  go_enter Tryz.func85, Tryz.ntmps85
  go_wp2
  go_quiet ((go_at_call 149; exact HU.out _))
  go_wp2
  go_ret
  exact ⟨by rw [Hf.out]; show Ending.returned (.int .i64 ((e.size : Int) - 2 - u)) = _; congr 2; omega, nq, rfl⟩
end Go.Proofs.YtgbgneiciabidaaGreatDoor
