/-
  Spaces (layer 8): a space in memory; addresses; find, free.
-/
import Derived.Test.YtgbgneiciabidaaGreatDoorGs6
import Derived.Test.YtgbgneiciabidaaGreatDoorGs4
import Derived.Test.YtgbgneiciabidaaGreatDoorGs2
import Derived.Deep.RegionHeld3
import Derived.Shelf.SlIterI.Nil
import Derived.Shelf.SortM.Plain
import Derived.Shelf.SortM.SortNone
import Derived.Ground.GgzProg
import Derived.Ground.SlgmProg
import Derived.Test.YtgbgneiciabidaaGreatDoorProg
namespace Go.Proofs.YtgbgneiciabidaaGreatDoor
open Go Go.RowKit
set_option linter.all false
set_option maxHeartbeats 8000000
structure Spc where
 es : List Ent
 sh : List Shelf
structure SpAt where
 st : Nat
 lv : Value
 sv : Value
 bs : List Nat
structure ShelfOk (s : Shelf) : Prop where
 t2 : ∀ k, s.taken k = true -> 2 <= k
 g2 : ∀ k, s.given k = true -> 2 <= k
 ne : ∀ k, s.taken k = true -> s.given k = false
structure SpcOk (X : Spc) (bs : List Nat) : Prop where
 ents : OkEnts X.es
 ne : X.es ≠ []
 bs : bs.length = X.sh.length
 sh : X.es.length = X.sh.length
 size : ∀ (i : Nat) (s : Shelf) (e : Ent), X.sh[i]? = some s -> X.es[i]? = some e -> s.n = e.size
 ok : ∀ (i : Nat) (s : Shelf), X.sh[i]? = some s -> ShelfOk s
def spHead (s : Nat) (es : List Ent) (x : SpAt) : List Say :=
 [pts s (.cells #[.pointer (some ⟨x.st, 0, none⟩), .pointer none] 160 (0, 0)), pts x.st (.cells #[x.lv, x.sv] 163 (0, 0)), entS x.lv es,
  rowS 175 1 x.sv x.bs.length (x.bs.map ptr)]
def shelvesL (bs : List Nat) (sh : List Shelf) : List Say := (bs.zip sh).map fun y => shelfS y.1 y.2
def spFlat (s : Nat) (X : Spc) (x : SpAt) : List Say := spHead s X.es x ++ shelvesL x.bs X.sh
def spaceS (s : Nat) (X : Spc) : Say := ex fun x : SpAt => fact (SpcOk X x.bs) (all (spFlat s X x))
theorem Has.sp_open {w : World} {l : List Say} {s : Nat} {X : Spc} (h : Has w (spaceS s X :: l)) : ∃ x, SpcOk X x.bs /\ Has w (spFlat s X x ++ l) := by
 obtain ⟨x, h⟩ := h.opened
 obtain ⟨ok, h⟩ := h.unfact
 exact ⟨x, ok, h.split⟩
theorem Has.sp_shut {w : World} {l : List Say} {s : Nat} {X : Spc} {x : SpAt} (ok : SpcOk X x.bs) (h : Has w (spFlat s X x ++ l)) : Has w (spaceS s X :: l) := Has.chosen x (Has.tofact ok h.unite)
structure SpRead (w : World) (s : Nat) (X : Spc) (x : SpAt) (a : Option Addr) (c : Nat) (sa : Option Addr) (sc : Nat) : Prop where
 s0 : w.cell? ⟨s, 0, none⟩ = some (.pointer (some ⟨x.st, 0, none⟩))
 s1 : w.cell? ⟨s, 1, none⟩ = some (.pointer none)
 t0 : w.cell? ⟨x.st, 0, none⟩ = some (.slice a X.es.length c)
 t1 : w.cell? ⟨x.st, 1, none⟩ = some (.slice sa X.sh.length sc)
 lv : x.lv = .slice a X.es.length c
 sv : x.sv = .slice sa X.sh.length sc
 ent : ∀ k e, X.es[k]? = some e -> ∃ g, a = some ⟨g, 0, none⟩ /\ w.cell? ⟨g, k * 2, none⟩ = some (.int .i64 (e.st : Int)) /\ w.cell? ⟨g, k * 2 + 1, none⟩ = some (.int .i64 (e.size : Int))
 shelf : ∀ k y, X.sh[k]? = some y -> ∃ g b, sa = some ⟨g, 0, none⟩ /\ w.cell? ⟨g, k, none⟩ = some (.pointer (some ⟨b, 0, none⟩)) /\ shelfS b y ∈ shelvesL x.bs X.sh /\ x.bs[k]? = some b
theorem Has.sp_read {w : World} {l : List Say} {s : Nat} {X : Spc} {x : SpAt} (h : Has w l) (hs : ∀ A ∈ spFlat s X x, A ∈ l) (ok : SpcOk X x.bs) : ∃ a c sa sc, SpRead w s X x a c sa sc := by
 have m0 := h.at (hs _ (by simp [spFlat, spHead]) : pts s (.cells #[.pointer (some ⟨x.st, 0, none⟩), .pointer none] 160 (0, 0)) ∈ l)
 have m1 := h.at (hs _ (by simp [spFlat, spHead]) : pts x.st (.cells #[x.lv, x.sv] 163 (0, 0)) ∈ l)
 obtain ⟨a, c, hv, hc, hr⟩ := h.ent_read (hs _ (by simp [spFlat, spHead]) : entS x.lv X.es ∈ l)
 obtain ⟨hl, sa, sc, hsv, _, _, hsr⟩ := h.row_read (hs _ (by simp [spFlat, spHead]) : rowS 175 1 x.sv x.bs.length (x.bs.map ptr) ∈ l)
 rw [hv, hsv, ok.bs] at m1
 refine ⟨a, c, sa, sc, cell_of m0 0 rfl, cell_of m0 1 rfl, cell_of m1 0 rfl, cell_of m1 1 rfl, hv, by rw [hsv, ok.bs], hr, fun k y hy => ?_⟩
 have hk := (List.getElem?_eq_some_iff.1 hy).1
 have hkb : k < x.bs.length := by rw [ok.bs]; exact hk
 obtain ⟨g, e1, e2, _⟩ := hsr k (ptr x.bs[k]) (by simp [List.getElem?_eq_getElem hkb])
 refine ⟨g, x.bs[k], e1, e2, ?_, List.getElem?_eq_getElem hkb⟩
 refine List.mem_map.2 ⟨(x.bs[k], y), ?_, rfl⟩
 have hz : (x.bs.zip X.sh)[k]? = some (x.bs[k], y) := by rw [List.getElem?_zip_eq_some]; exact ⟨List.getElem?_eq_getElem hkb, hy⟩
 exact List.mem_of_getElem? hz
theorem cntTo_or {S T : Nat -> Bool} : ∀ n, (∀ k, S k = true -> T k = false) -> cntTo S n + cntTo T n = cntTo (fun k => S k || T k) n
 | 0, _ => rfl
 | n + 1, h => by
  have ih := cntTo_or n h
  have hn := h n
  simp only [cntTo]
  by_cases hs : S n = true
  ·have ht := hn hs
   simp [hs, ht]; omega
  ·by_cases ht : T n = true
   ·simp [hs, ht]; omega
   ·simp [hs, ht]; omega
theorem cntTo_not (S : Nat -> Bool) : ∀ n, cntTo S n + cntTo (fun k => !S k) n = n
 | 0 => rfl
 | n + 1 => by
  have ih := cntTo_not S n
  simp only [cntTo]
  by_cases hs : S n = true
  ·simp [hs]; omega
  ·simp [hs]; omega
theorem cntTo_mono (S : Nat -> Bool) : ∀ {m n : Nat}, m <= n -> cntTo S m <= cntTo S n := by
 intro m n h
 obtain ⟨d, rfl⟩ : ∃ d, n = m + d := ⟨n - m, by omega⟩
 rw [cntTo_add]; omega
theorem cntTo_two {S : Nat -> Bool} (h0 : S 0 = true) (h1 : S 1 = true) {n : Nat} (hn : 2 <= n) : 2 <= cntTo S n := by
 have := cntTo_mono S hn
 simpa [cntTo, h0, h1] using this
def Shelf.busy (s : Shelf) (k : Nat) : Bool := s.taken k || s.given k
theorem ShelfOk.used {s : Shelf} (h : ShelfOk s) : s.used = cntTo s.busy s.n := cntTo_or s.n h.ne
theorem ShelfOk.used_le {s : Shelf} (h : ShelfOk s) (hn : 2 <= s.n) : s.used + 2 <= s.n := by
 have e0 : (!s.busy 0) = true := by
  simp only [Shelf.busy]
  cases a : s.taken 0 with
  | true => have := h.t2 0 a; omega
  | false => cases b : s.given 0 with
   | true => have := h.g2 0 b; omega
   | false => rfl
 have e1 : (!s.busy 1) = true := by
  simp only [Shelf.busy]
  cases a : s.taken 1 with
  | true => have := h.t2 1 a; omega
  | false => cases b : s.given 1 with
   | true => have := h.g2 1 b; omega
   | false => rfl
 have := cntTo_two (S := fun k => !s.busy k) e0 e1 hn
 have := cntTo_not s.busy s.n
 rw [h.used]; omega
theorem cntTo_full {S : Nat -> Bool} : ∀ n, (∀ k, 2 <= k -> k < n -> S k = true) -> n <= cntTo S n + 2
 | 0, _ => by omega
 | n + 1, h => by
  have ih := cntTo_full n fun k h2 hk => h k h2 (by omega)
  simp only [cntTo]
  by_cases h2 : 2 <= n
  ·rw [h n h2 (by omega)]; simp; omega
  ·omega
theorem ShelfOk.some_free {s : Shelf} (h : ShelfOk s) (hu : s.used + 2 < s.n) : ∃ f, 2 <= f /\ f < s.n /\ s.busy f = false := by
 apply Classical.byContradiction
 intro hno
 have := cntTo_full (S := s.busy) s.n fun k h2 hk => by
  cases hb : s.busy k with
  | true => rfl
  | false => exact absurd ⟨k, h2, hk, hb⟩ hno
 rw [<- h.used] at this
 omega
/-! Addresses. -/
theorem space_At {w : World} (a : Nat) (h : a < 32768) : Calls Tryz.prog 66 #[.int .i64 (a : Int)] w fun e w' => e = .returned (.tuple #[.int .i64 ((a / 4096 : Nat) : Int), .int .i64 ((a % 4096 : Nat) : Int)]) /\ w = w' := by
 go_enter Tryz.func66, Tryz.ntmps66
 go_wp2
 go_ret2
 exact ⟨by simp, rfl⟩
theorem space_Addr {w : World} (d k : Nat) (hd : d < 8) (hk : k < 4096) : Calls Tryz.prog 128 #[.int .i64 (d : Int), .int .i64 (k : Int)] w fun e w' => e = .returned (.int .i64 ((d * 4096 + k : Nat) : Int)) /\ w = w' := by
 go_enter Tryz.func128, Tryz.ntmps128
 go_wp2
 go_ret
 exact ⟨by simp, rfl⟩
theorem space_member {w : World} (e : Ent) : Calls Tryz.prog 159 #[e.val] w fun r w' => r = .returned (.bool (!(e.st == 3))) /\ Below w.heap.size w w' := by
 have hs : ((e.st : Int) == 3) = (e.st == 3) := by rw [Bool.eq_iff_iff]; simp; omega
 simp only [Ent.val] at *
 go_enter Tryz.func159, Tryz.ntmps159
 go_wp2
 go_ret
 exact ⟨by rw [<- hs]; rfl, (Below.refl _ _).alloc (Nat.le_refl _) _⟩
def Spc.free (X : Spc) (d : Nat) : Nat := match X.es[d]?, X.sh[d]? with | some e, some y => e.size - 2 - y.used | _, _ => 0
theorem sp_free {w : World} {l : List Say} {s : Nat} {X : Spc} {x : SpAt} (h : Has w l) (hs : ∀ A ∈ spFlat s X x, A ∈ l) (ok : SpcOk X x.bs) (d : Nat) (e : Ent) (y : Shelf) (he : X.es[d]? = some e) (hy : X.sh[d]? = some y) (hu : y.used + 2 <= e.size) :
  Calls Tryz.prog 85 #[.pointer (some ⟨s, 0, none⟩), .int .i64 (d : Int)] w fun r w' => r = .returned (.int .i64 (X.free d : Nat)) /\ ∃ m, w' = w.drewN m := by
 obtain ⟨a, c, sa, sc, R⟩ := h.sp_read hs ok
 obtain ⟨g, rfl, e0, e1⟩ := R.ent d e he
 obtain ⟨q, b, rfl, p0, hmem, _⟩ := R.shelf d y hy
 have hd := (List.getElem?_eq_some_iff.1 he).1
 have hd2 := (List.getElem?_eq_some_iff.1 hy).1
 have hlen := ok.ents.len
 have hesz := (ok.ents.ok e (List.mem_of_getElem? he)).1
 have hn : y.n <= 4096 := by rw [ok.size d y e hy he]; exact hesz
 have HU := Lib.hid (fun n => quiet_drew (shelf_used (w := w.drewN n) (h.drewN n) (hs _ (List.mem_append_right _ hmem)) hn))
 have hf : X.free d = e.size - 2 - y.used := by simp [Spc.free, he, hy]
 have Hf := Lib.hid hf
 have s0 := R.s0
 have t0 := R.t0
 have t1 := R.t1
 have hw1 : IntKind.i64.wrap ((e.size : Int) - 2) = (e.size : Int) - 2 := IntWalk.i64_in _ (by omega)
 have hw2 : IntKind.i64.wrap ((e.size : Int) - 2 - (y.used : Int)) = (e.size : Int) - 2 - (y.used : Int) := IntWalk.i64_in _ (by omega)
 generalize hyu : y.used = u at *
 clear R hmem hf he hy h hs hyu
 go_enter Tryz.func85, Tryz.ntmps85
 go_wp2
 go_quiet ((go_at_call 149; exact HU.out _))
 go_wp2
 go_ret
 exact ⟨by rw [Hf.out]; show Ending.returned (.int .i64 ((e.size : Int) - 2 - u)) = _; congr 2; omega, nq, rfl⟩
/-
  Spaces (layer 8), the second part: find, Taken, Give, Free.
-/
structure InRoom (X : Spc) (d k : Nat) (e : Ent) (y : Shelf) : Prop where
 ent : X.es[d]? = some e
 shelf : X.sh[d]? = some y
 st : e.st ≠ 3
 lo : 2 <= k
 hi : k < e.size
def FindPost2 (w : World) (b k : Nat) (r : Ending) (w' : World) : Prop := r = .returned (.tuple #[.pointer (some ⟨b, 0, none⟩), .int .i64 (k : Int)]) /\ Below w.heap.size w w'
set_option maxRecDepth 100000 in
theorem sp_find {w : World} {l : List Say} {s : Nat} {X : Spc} {x : SpAt} (h : Has w l) (hs : ∀ A ∈ spFlat s X x, A ∈ l) (ok : SpcOk X x.bs) (d k : Nat) (e : Ent) (y : Shelf) (r : InRoom X d k e y) (b : Nat) (hb : x.bs[d]? = some b) :
  Calls Tryz.prog 96 #[.pointer (some ⟨s, 0, none⟩), .int .i64 ((d * 4096 + k : Nat) : Int)] w (FindPost2 w b k) := by
 obtain ⟨he, hy, hst, hlo, hhi⟩ := r
 obtain ⟨a, c, sa, sc, R⟩ := h.sp_read hs ok
 obtain ⟨g, rfl, e0, e1⟩ := R.ent d e he
 obtain ⟨q, b', rfl, p0, hmem, hb'⟩ := R.shelf d y hy
 obtain rfl : b' = b := by rw [hb] at hb'; exact (Option.some.inj hb').symm
 have hd := (List.getElem?_eq_some_iff.1 he).1
 have hd2 := (List.getElem?_eq_some_iff.1 hy).1
 have hlen := ok.ents.len
 have hesz := (ok.ents.ok e (List.mem_of_getElem? he)).1
 have HA := Lib.hid (space_At (w := w) (d * 4096 + k) (by omega))
 rw [show (d * 4096 + k) / 4096 = d by omega, show (d * 4096 + k) % 4096 = k by omega] at HA
 have hm := space_member (w := w) e
 have hst' : (!(e.st == 3)) = true := by simp [hst]
 rw [hst'] at hm
 simp only [Ent.val] at hm
 have HM := Lib.hid hm
 have s0 := R.s0
 have t0 := R.t0
 have t1 := R.t1
 have gl : ∀ {p : Addr} {v : Value}, w.cell? p = some v -> p.block < w.heap.size := fun h => World.block_lt_of_cell? _ _ h
 have l1 := gl s0
 have l2 := gl t0
 have l3 := gl e0
 have l4 := gl p0
 clear gl R hmem he hy h hs hm hst' hst hb hb'
 go_enter Tryz.func96, Tryz.ntmps96
 go_wp2_with fail
 refine HA.out.mono ?_
 rintro r w' ⟨rfl, rfl⟩
 go_wp2_with fail
 refine HM.out.mono ?_
 rintro r w1 ⟨rfl, hb1⟩
 obtain ⟨hc, hf⟩ := bcell hb1
 have s0' := (hc s 0 l1).trans s0
 have t0' := (hc x.st 0 l2).trans t0
 have t1' := (hc x.st 1 l2).trans t1
 have e1' := (hc g (d * 2 + 1) l3).trans e1
 have p0' := (hc q d l4).trans p0
 have HB := Lib.hid hb1
 clear hc hf hb1 s0 t0 t1 e0 e1 p0
 go_wp2
 go_ret2
 exact ⟨rfl, HB.out⟩
theorem mem_idxTo (p : Ent -> Bool) (es : List Ent) (d : Nat) : ∀ k, d ∈ idxTo p es k -> d < k /\ ∃ e, es[d]? = some e /\ p e = true
 | 0, h => by cases h
 | k + 1, h => by
  rw [idxTo, List.mem_append] at h
  rcases h with h | h
  ·obtain ⟨h1, h2⟩ := mem_idxTo p es d k h
   exact ⟨by omega, h2⟩
  ·cases he : es[k]? with
   | none => simp [he] at h
   | some e =>
    simp only [he] at h
    split at h
    ·rename_i hp
     obtain rfl : d = k := by simpa using h
     exact ⟨by omega, e, he, hp⟩
    ·cases h
theorem SpcOk.active {X : Spc} {bs : List Nat} (ok : SpcOk X bs) {d : Nat} (hd : d ∈ actives X.es) : ∃ e y, X.es[d]? = some e /\ X.sh[d]? = some y /\ e.st = 1 /\ y.n = e.size /\ y.used + 2 <= e.size /\ e.size <= 4096 := by
 obtain ⟨hlt, e, he, hp⟩ := mem_idxTo _ _ _ _ hd
 have hlt2 : d < X.sh.length := by rw [<- ok.sh]; exact hlt
 have hy : X.sh[d]? = some X.sh[d] := List.getElem?_eq_getElem hlt2
 have hst : e.st = 1 := by simpa using hp
 obtain ⟨h1, h2⟩ := ok.ents.ok e (List.mem_of_getElem? he)
 have hsz := ok.size d _ e hy he
 refine ⟨e, _, he, hy, hst, hsz, ?_, h1⟩
 have h3 : 2 < e.size := by
  rcases h2 with ⟨_, h⟩ | h
  ·exact h
  ·omega
 have := (ok.ok d _ hy).used_le (by rw [hsz]; omega)
 omega
/-
  Spaces (layer 8), the third part: Take.
-/
def errV (c : Int) : Value := .iface 157 (.int .i64 c)
theorem shelves_focus : ∀ (bs : List Nat) (sh : List Shelf) (d b : Nat) (y : Shelf), bs[d]? = some b -> sh[d]? = some y ->
  ∃ rest, (shelvesL bs sh).Perm (shelfS b y :: rest) /\ ∀ y', (shelvesL bs (sh.set d y')).Perm (shelfS b y' :: rest)
 | [], _, _, _, _, h, _ => by simp at h
 | _ :: _, [], _, _, _, _, h => by simp at h
 | b0 :: bs, y0 :: sh, 0, b, y, hb, hy => by
  simp at hb hy
  subst hb hy
  exact ⟨shelvesL bs sh, .refl _, fun y' => .refl _⟩
 | b0 :: bs, y0 :: sh, d + 1, b, y, hb, hy => by
  obtain ⟨rest, h1, h2⟩ := shelves_focus bs sh d b y (by simpa using hb) (by simpa using hy)
  refine ⟨shelfS b0 y0 :: rest, (h1.cons _).trans (.swap _ _ _), fun y' => ?_⟩
  exact ((h2 y').cons (shelfS b0 y0)).trans (.swap _ _ _)
def bestOf (f : Nat -> Nat) : List Nat -> Nat × Nat -> Nat × Nat
 | [], r => r
 | d :: ds, r => bestOf f ds (if r.2 < f d then (d, f d) else r)
theorem bestOf_snoc (f : Nat -> Nat) : ∀ (ds : List Nat) (d : Nat) (r : Nat × Nat), bestOf f (ds ++ [d]) r = if (bestOf f ds r).2 < f d then (d, f d) else bestOf f ds r
 | [], d, r => rfl
 | x :: ds, d, r => by simp only [List.cons_append, bestOf]; exact bestOf_snoc f ds d _
theorem bestOf_take (f : Nat -> Nat) (ds : List Nat) (k d : Nat) (h : ds[k]? = some d) (r : Nat × Nat) : bestOf f (ds.take (k + 1)) r = if (bestOf f (ds.take k) r).2 < f d then (d, f d) else bestOf f (ds.take k) r := by
 rw [List.take_add_one, h]; exact bestOf_snoc f _ d r
def Best (f : Nat -> Nat) (ds : List Nat) (b : Nat) : Prop := b ∈ ds /\ 0 < f b /\ (∀ d ∈ ds, f d <= f b)
theorem bestOf_spec (f : Nat -> Nat) : ∀ (ds : List Nat), ((bestOf f ds (0, 0)).2 = 0 /\ ∀ d ∈ ds, f d = 0) \/ ((bestOf f ds (0, 0)).2 = f (bestOf f ds (0, 0)).1 /\ Best f ds (bestOf f ds (0, 0)).1) := by
 intro ds
 have key : ∀ n, n <= ds.length -> ((bestOf f (ds.take n) (0, 0)).2 = 0 /\ ∀ d ∈ ds.take n, f d = 0) \/ ((bestOf f (ds.take n) (0, 0)).2 = f (bestOf f (ds.take n) (0, 0)).1 /\ Best f (ds.take n) (bestOf f (ds.take n) (0, 0)).1) := by
  intro n
  induction n with
  | zero => intro _; exact .inl ⟨rfl, by simp⟩
  | succ n ih =>
   intro hn
   obtain ⟨d, hd⟩ : ∃ d, ds[n]? = some d := ⟨_, List.getElem?_eq_getElem (by omega)⟩
   have ih := ih (by omega)
   rw [bestOf_take f ds n d hd]
   have hmem : ∀ x, x ∈ ds.take (n + 1) ↔ x ∈ ds.take n \/ x = d := fun x => by rw [List.take_add_one, hd]; simp
   rcases ih with ⟨h0, hall⟩ | ⟨h1, hb⟩
   ·by_cases hlt : 0 < f d
    ·rw [h0, if_pos hlt]
     refine .inr ⟨rfl, (hmem d).2 (.inr rfl), hlt, fun x hx => ?_⟩
     rcases (hmem x).1 hx with h | rfl
     ·rw [hall x h]; omega
     ·exact Nat.le_refl _
    ·rw [h0, if_neg hlt]
     refine .inl ⟨h0, fun x hx => ?_⟩
     rcases (hmem x).1 hx with h | rfl
     ·exact hall x h
     ·omega
   ·rw [h1]
    by_cases hlt : f (bestOf f (ds.take n) (0, 0)).1 < f d
    ·rw [if_pos hlt]
     refine .inr ⟨rfl, (hmem d).2 (.inr rfl), (by show 0 < f d; omega), fun x hx => ?_⟩
     rcases (hmem x).1 hx with h | rfl
     ·have := hb.2.2 x h; simp only; omega
     ·exact Nat.le_refl _
    ·rw [if_neg hlt]
     refine .inr ⟨h1, (hmem _).2 (.inl hb.1), hb.2.1, fun x hx => ?_⟩
     rcases (hmem x).1 hx with h | rfl
     ·exact hb.2.2 x h
     ·omega
 have := key ds.length (Nat.le_refl _)
 rw [List.take_length] at this
 exact this
def Shelf.took (y : Shelf) (k : Nat) : Shelf := { y with taken := fun j => j == k || y.taken j, fresh := fun j => j == k || y.fresh j }
def Spc.put (X : Spc) (d : Nat) (y : Shelf) : Spc := { X with sh := X.sh.set d y }
structure Takes (X : Spc) (d k : Nat) (y : Shelf) : Prop where
 best : Best X.free (actives X.es) d
 first : d = (bestOf X.free (actives X.es) (0, 0)).1
 shelf : X.sh[d]? = some y
 lo : 2 <= k
 hi : k < y.n
 free : y.busy k = false
 least : ∀ j, 2 <= j -> j < k -> y.busy j = true
def TakePost (s : Nat) (X : Spc) (l : List Say) (w : World) (r : Ending) (w' : World) : Prop :=
 ((∀ d ∈ actives X.es, X.free d = 0) /\ r = .returned (.tuple #[.int .i64 0, errV 50]) /\ Kept w w' /\ Has w' (spaceS s X :: l)) \/
 ∃ d k y, Takes X d k y /\ r = .returned (.tuple #[.int .i64 ((d * 4096 + k : Nat) : Int), .nilIface]) /\ Kept w w' /\ Has w' (spaceS s (X.put d (y.took k)) :: l)
theorem ShelfOk.took {y : Shelf} (h : ShelfOk y) {k : Nat} (h2 : 2 <= k) (hg : y.given k = false) : ShelfOk (y.took k) := by
 refine ⟨fun j hj => ?_, h.g2, fun j hj => ?_⟩
 ·simp only [Shelf.took, Bool.or_eq_true, beq_iff_eq] at hj
  rcases hj with rfl | hj
  ·exact h2
  ·exact h.t2 j hj
 ·simp only [Shelf.took, Bool.or_eq_true, beq_iff_eq] at hj ⊢
  rcases hj with rfl | hj
  ·exact hg
  ·exact h.ne j hj
theorem SpcOk.put {X : Spc} {bs : List Nat} (ok : SpcOk X bs) {d : Nat} {y y' : Shelf} (hy : X.sh[d]? = some y) (hn : y'.n = y.n) (h : ShelfOk y') : SpcOk (X.put d y') bs := by
 refine ⟨ok.ents, ok.ne, by simpa [Spc.put] using ok.bs, by simpa [Spc.put] using ok.sh, fun i z e hz he => ?_, fun i z hz => ?_⟩
 ·by_cases hid : i = d
  ·subst hid
   have hlt := (List.getElem?_eq_some_iff.1 hy).1
   simp only [Spc.put, List.getElem?_set_self hlt, Option.some.injEq] at hz
   subst hz
   rw [hn]; exact ok.size i y e hy he
  ·simp only [Spc.put, List.getElem?_set_ne (Ne.symm hid)] at hz
   exact ok.size i z e hz he
 ·by_cases hid : i = d
  ·subst hid
   have hlt := (List.getElem?_eq_some_iff.1 hy).1
   simp only [Spc.put, List.getElem?_set_self hlt, Option.some.injEq] at hz
   subst hz
   exact h
  ·simp only [Spc.put, List.getElem?_set_ne (Ne.symm hid)] at hz
   exact ok.ok i z hz
def BestRel (X : Spc) (W : World) (gk : Nat) (b m i : Value) (wr : World) : Prop :=
 ∃ k : Nat, k <= (actives X.es).length /\ gk = (actives X.es).length - k /\ i = .int .i64 k /\ b = .int .i64 ((bestOf X.free ((actives X.es).take k) (0, 0)).1 : Nat) /\ m = .int .i64 ((bestOf X.free ((actives X.es).take k) (0, 0)).2 : Nat) /\ ∃ q, wr = W.drewN q
def SeekRel (y : Shelf) (W : World) (gk : Nat) (kv : Value) (wr : World) : Prop :=
 ∃ k : Nat, kv = .int .i64 k /\ gk = y.n - k /\ 2 <= k /\ k < y.n /\ y.taken k = false /\ (∀ j, 2 <= j -> j < k -> y.busy j = true) /\ wr = W
/-
  Nodes (layer 10), the third part: Check, Bytes.
-/
def Nd.pairs (n : Nd) : List (Int × Int) := n.keys.zip n.vals
def Nd.ok (n : Nd) : Bool := decide (0 <= n.level) && decide (n.level <= 20) && (n.keys.length == n.vals.length) && decide (1 <= n.keys.length) && decide (n.keys.length <= 7) && ordTo n.pairs n.pairs.length
def CheckPost (n : Nd) (l : List Say) (w : World) (r : Ending) (w' : World) : Prop := r = .returned (if n.ok = true then .nilIface else errV 70) /\ Kept w w' /\ Has w' l
theorem check_bad {n : Nd} {l : List Say} {w w' : World} {r : Ending} (h1 : Hid (n.ok = false)) (h2 : r = .returned (errV 70)) (h3 : Kept w w' /\ Has w' l) : CheckPost n l w r w' := ⟨by rw [h1.out]; exact h2, h3⟩
set_option maxRecDepth 100000 in
theorem node_Check {w : World} {l : List Say} (n : Nd) {kv vv : Value} (h : Has w l) (hk : intsS kv n.keys ∈ l) (hv : intsS vv n.vals ∈ l) :
  Calls Tryz.prog 98 #[n.val kv vv] w (CheckPost n l w) := by
 have hbox := h.alloc (.cells #[.int .i64 n.level, kv, vv] 35)
 have HW : Hid (Kept w (w.alloc (.cells #[.int .i64 n.level, kv, vv] 35)) /\ Has (w.alloc (.cells #[.int .i64 n.level, kv, vv] 35)) l) := ⟨(Kept.refl w).alloc _, hbox.tail⟩
 have HP : Hid (n.keys.length = n.vals.length -> n.keys.length <= 7 -> Calls Tryz.prog 135 #[n.val kv vv] (w.alloc (.cells #[.int .i64 n.level, kv, vv] 35)) (PairsPost n.pairs l (w.alloc (.cells #[.int .i64 n.level, kv, vv] 35)))) := fun h1 h2 => node_pairs n hbox.tail hk hv h1 (by omega)
 have c0 := cell_of hbox.got 0 rfl
 have c1 := cell_of hbox.got 1 rfl
 have c2 := cell_of hbox.got 2 rfl
 obtain ⟨ak, ck, rfl, _, _⟩ := h.ints_read hk
 obtain ⟨av, cv, rfl, _, _⟩ := h.ints_read hv
 clear h hk hv hbox
 have lb := World.block_lt_of_cell? _ _ c0
 obtain ⟨lv, ks, vs⟩ := n
 simp only [Nd.val] at *
 go_enter Tryz.func98, Tryz.ntmps98
 go_upto_region 1 with fail
 generalize w.alloc (.cells #[.int .i64 lv, .slice ak ks.length ck, .slice av vs.length cv] 35) = W at *
 generalize w.heap.size = bx at *
 by_cases g1 : lv < 0
 ·have hb : Hid (Nd.ok ⟨lv, ks, vs⟩ = false) := by show _ = _; simp [Nd.ok]; omega
  go_wp2
  go_ret
  exact check_bad hb rfl HW.out
 by_cases g2 : 20 < lv
 ·have hb : Hid (Nd.ok ⟨lv, ks, vs⟩ = false) := by show _ = _; simp [Nd.ok]; omega
  have g1' : decide (lv < 0) = false := by simp; omega
  go_wp2
  go_ret
  exact check_bad hb rfl HW.out
 have g1' : decide (lv < 0) = false := by simp; omega
 have g2' : decide (20 < lv) = false := by simp; omega
 by_cases g3 : ks.length = vs.length
 ·by_cases g4 : ks.length < 1
  ·have hb : Hid (Nd.ok ⟨lv, ks, vs⟩ = false) := by show _ = _; simp [Nd.ok]; omega
   have g3' : ((ks.length : Int) == (vs.length : Int)) = true := by simp; omega
   have g4' : decide ((ks.length : Int) < 1) = true := by simp; omega
   clear g3 g4
   go_wp2
   go_ret
   exact check_bad hb rfl HW.out
  have g4' : decide ((ks.length : Int) < 1) = false := by simp; omega
  by_cases g5 : 7 < ks.length
  ·have hb : Hid (Nd.ok ⟨lv, ks, vs⟩ = false) := by show _ = _; simp [Nd.ok]; omega
   have g3' : ((ks.length : Int) == (vs.length : Int)) = true := by simp; omega
   have g5' : decide (7 < (ks.length : Int)) = true := by simp; omega
   clear g3 g4 g5
   go_wp2
   go_ret
   exact check_bad hb rfl HW.out
  have g5' : decide (7 < (ks.length : Int)) = false := by simp; omega
  have g3' : ((ks.length : Int) == (vs.length : Int)) = true := by simp; omega
  have HQ := Lib.hid (HP.out g3 (by omega))
  have hok : Hid (Nd.ok ⟨lv, ks, vs⟩ = ordTo (Nd.pairs ⟨lv, ks, vs⟩) (Nd.pairs ⟨lv, ks, vs⟩).length) := by
   show _ = _
   have e1 : decide (0 <= lv) = true := by simp; omega
   have e2 : decide (lv <= 20) = true := by simp; omega
   have e3 : (ks.length == vs.length) = true := by simp; omega
   have e4 : decide (1 <= ks.length) = true := by simp; omega
   have e5 : decide (ks.length <= 7) = true := by simp; omega
   simp only [Nd.ok, e1, e2, e3, e4, e5, Bool.true_and]
  have hlp : (Nd.pairs ⟨lv, ks, vs⟩).length <= 100 := by simp [Nd.pairs]; omega
  clear g3 g4 g5 HP
  go_wp2_with fail
  refine HQ.out.mono ?_
  rintro r w1 ⟨v1, rfl, hK, h1⟩
  have HO := Lib.hid (node_ordered h1 (.head _) hlp)
  have HK1 : Hid (Kept w w1 /\ Has w1 l) := ⟨HW.out.1.trans hK, h1.tail⟩
  clear hK h1 HQ HW
  go_wp2_with fail
  refine HO.out.mono ?_
  rintro r w2 ⟨rfl, hb2⟩
  have HK2 : Hid (Kept w w2 /\ Has w2 l) := ⟨HK1.out.1.trans (Kept.below hb2), HK1.out.2.below hb2⟩
  clear hb2 HO HK1
  cases ho : ordTo (Nd.pairs ⟨lv, ks, vs⟩) (Nd.pairs ⟨lv, ks, vs⟩).length with
  | false =>
   rw [ho] at hok
   have HX := Lib.hid ho
   clear ho
   go_wp2
   go_ret
   exact check_bad hok rfl HK2.out
  | true =>
   rw [ho] at hok
   have HX := Lib.hid ho
   clear ho
   go_wp2
   go_ret
   exact ⟨by rw [hok.out]; rfl, HK2.out⟩
 ·have hb : Hid (Nd.ok ⟨lv, ks, vs⟩ = false) := by show _ = _; simp [Nd.ok]; omega
  have g3' : ((ks.length : Int) == (vs.length : Int)) = false := by simp; omega
  clear g3
  go_wp2
  go_ret
  exact check_bad hb rfl HW.out
/-
  Pages (layer 11): what a store holds; copies of nodes.
-/
theorem ints_one (xs : List Int) : ∀ u ∈ xs.map intVal, u.oneCell' = true := by
 intro u hu
 obtain ⟨n, _, rfl⟩ := List.mem_map.1 hu
 rfl
theorem Has.ints_clone {w : World} {l : List Say} {v : Value} {xs : List Int} (h : Has w l) (hm : intsS v xs ∈ l) (h0 : 0 < xs.length) (h1 : xs.length <= 1000) :
  ∃ g c, v = .slice (some ⟨g, 0, none⟩) xs.length c /\ Calls Tryz.prog 146 #[v] w (ClonePost w 3 1 xs.length (xs.map intVal) l) := by
 obtain ⟨a, c, hv, hc, hr⟩ := h.ints_read hm
 obtain ⟨g, rfl, _, _⟩ := hr 0 h0
 refine ⟨g, c, hv, ?_⟩
 rw [hv]
 refine clone_int h g 0 xs.length c (xs.map intVal) (by simp) (fun j u hu => ?_) (ints_one xs) (by simp [maxLen]; omega) (by omega)
 have hj : j < xs.length := by have := (List.getElem?_eq_some_iff.1 hu).1; simpa using this
 obtain ⟨g', hg', hc', _⟩ := hr j hj
 cases hg'
 rw [Nat.zero_add, hc']
 rw [List.getElem?_map, List.getElem?_eq_getElem hj] at hu
 exact hu
theorem far3 {w : World} {p a : Nat} (h : p ≠ a) (x y z : Value) (o : Nat) {v : Option Value} (hw : w.cell? ⟨a, o, none⟩ = v) :
  (((w.setCell ⟨p, 0, none⟩ x).setCell ⟨p, 1, none⟩ y).setCell ⟨p, 2, none⟩ z).cell? ⟨a, o, none⟩ = v := by
 rw [World.cell?_setCell_far _ _ _ _ h, World.cell?_setCell_far _ _ _ _ h, World.cell?_setCell_far _ _ _ _ h]; exact hw
def NodePost (n : Nd) (l : List Say) (w : World) (r : Ending) (w' : World) : Prop :=
 ∃ kv vv, r = .returned (n.val kv vv) /\ Kept w w' /\ Has w' (intsS kv n.keys :: intsS vv n.vals :: l)
set_option maxRecDepth 100000 in
theorem node_copied {w : World} {l : List Say} (n : Nd) {kv vv : Value} (h : Has w l) (hk : intsS kv n.keys ∈ l) (hv : intsS vv n.vals ∈ l) (k0 : 0 < n.keys.length) (k1 : n.keys.length <= 100) (v0 : 0 < n.vals.length) (v1 : n.vals.length <= 100) :
  Calls Tryz.prog 81 #[n.val kv vv] w (NodePost n l w) := by
 have hW := (h.alloc (.cells #[.int .i64 n.level, kv, vv] 35)).alloc (.cells #[.int .i64 0, .slice none 0 0, .slice none 0 0] 35)
 have HK0 : Hid (Kept w ((w.alloc (.cells #[.int .i64 n.level, kv, vv] 35)).alloc (.cells #[.int .i64 0, .slice none 0 0, .slice none 0 0] 35))) := ((Kept.refl w).alloc _).alloc _
 simp only [World.size_alloc] at hW
 obtain ⟨gk, ck, ek, HKk⟩ := hW.drew.ints_clone (.tail _ (.tail _ hk)) k0 (by omega)
 obtain ⟨gv, cv, ev, HVv⟩ := hW.drew.ints_clone (.tail _ (.tail _ hv)) v0 (by omega)
 subst ek ev
 have HCK := Lib.hid HKk
 have HCV := Lib.hid HVv
 have hb1 := hW.tail.got
 have d0 := cell_of hb1 0 rfl
 have d1 := cell_of hb1 1 rfl
 have d2 := cell_of hb1 2 rfl
 have ld := World.block_lt_of_cell? _ _ d0
 have Hk := Lib.hid hk
 have Hv := Lib.hid hv
 clear h hk hv hW HKk HVv hb1
 obtain ⟨lv, ks, vs⟩ := n
 simp only [Nd.val] at *
 go_enter Tryz.func81, Tryz.ntmps81
 go_upto_region 1 with fail
 generalize hWW : (w.alloc (.cells #[.int .i64 lv, .slice (some ⟨gk, 0, none⟩) ks.length ck, .slice (some ⟨gv, 0, none⟩) vs.length cv] 35)).alloc (.cells #[.int .i64 0, .slice none 0 0, .slice none 0 0] 35) = W at *
 clear hWW
 have hne : w.heap.size + 1 ≠ w.heap.size := by omega
 generalize hbx1 : w.heap.size + 1 = bz at *
 generalize w.heap.size = bx at *
 go_region_held3 (fun w' => w'.cell? ⟨bx, 0, none⟩ = some (.int .i64 lv) /\ w'.cell? ⟨bx, 1, none⟩ = some (.slice (some ⟨gk, 0, none⟩) ks.length ck) /\ w'.cell? ⟨bx, 2, none⟩ = some (.slice (some ⟨gv, 0, none⟩) vs.length cv)) (first | exact ⟨m0, m1, m2⟩ | exact ⟨d0', d1', d2'⟩ | exact ⟨d0, d1, d2⟩ | exact ⟨far3 hne _ _ _ _ m0, far3 hne _ _ _ _ m1, far3 hne _ _ _ _ m2⟩)
  (first | (go_at_call 146; first
    | (refine HCK.out.mono ?_; rintro r V ⟨k1', rfl, hk1, hv1⟩; obtain ⟨ak, kk, rfl, _⟩ := hv1.row_val (e := 3) (size := 1) (v := k1') (n := ks.length) (xs := ks.map intVal) (.head _); have hq1 := (hv1.pull 2).got; have d0' := cell_of hq1 0 rfl; have d1' := cell_of hq1 1 rfl; have d2' := cell_of hq1 2 rfl; obtain ⟨gv2, cv2, ev2, HN0⟩ := hv1.ints_clone (xs := vs) (.tail _ (.tail _ (.tail _ Hv.out))) v0 (by omega); cases ev2; have HN := Lib.hid HN0; have HK1 := Lib.hid hk1; clear hk1 hv1 hq1 HN0)
    | (refine HCV.out.mono ?_; rintro r V ⟨k1', rfl, hk1, hv1⟩; obtain ⟨av, kv, rfl, _⟩ := hv1.row_val (e := 3) (size := 1) (v := k1') (n := vs.length) (xs := vs.map intVal) (.head _); have hq1 := (hv1.pull 2).got; have d0' := cell_of hq1 0 rfl; have d1' := cell_of hq1 1 rfl; have d2' := cell_of hq1 2 rfl; obtain ⟨gv2, cv2, ev2, HN0⟩ := hv1.ints_clone (xs := ks) (.tail _ (.tail _ (.tail _ Hk.out))) k0 (by omega); cases ev2; have HN' := Lib.hid HN0; have HK1 := Lib.hid hk1; clear hk1 hv1 hq1 HN0)
    | (refine HN.out.mono ?_; rintro r V2 ⟨k2', rfl, hk2, hv2⟩; obtain ⟨av, kv, rfl, _⟩ := hv2.row_val (e := 3) (size := 1) (v := k2') (n := vs.length) (xs := vs.map intVal) (.head _); have hq2 := (hv2.pull 2).got; have e0 := cell_of hq2 0 rfl; have e1 := cell_of hq2 1 rfl; have e2 := cell_of hq2 2 rfl; have f0 := thaw_of hq2 0; have f1 := thaw_of hq2 1; have f2 := thaw_of hq2 2; have le := World.block_lt_of_cell? _ _ e0; have hq3 := (hv2.pull 3).got; have m0 := cell_of hq3 0 rfl; have m1 := cell_of hq3 1 rfl; have m2 := cell_of hq3 2 rfl; have HK2 := Lib.hid hk2; have HR := Lib.hid (hv2.pull 1); clear hk2 hv2 hq2 hq3)
    | (refine HN'.out.mono ?_; rintro r V2 ⟨k2', rfl, hk2, hv2⟩; obtain ⟨ak, kk, rfl, _⟩ := hv2.row_val (e := 3) (size := 1) (v := k2') (n := ks.length) (xs := ks.map intVal) (.head _); have hq2 := (hv2.pull 2).got; have e0 := cell_of hq2 0 rfl; have e1 := cell_of hq2 1 rfl; have e2 := cell_of hq2 2 rfl; have f0 := thaw_of hq2 0; have f1 := thaw_of hq2 1; have f2 := thaw_of hq2 2; have le := World.block_lt_of_cell? _ _ e0; have hq3 := (hv2.pull 3).got; have m0 := cell_of hq3 0 rfl; have m1 := cell_of hq3 1 rfl; have m2 := cell_of hq3 2 rfl; have HK2 := Lib.hid hk2; have HR := Lib.hid hv2; clear hk2 hv2 hq2 hq3)))
 all_goals
  go_wp2
  have h5 := ((((HR.out.pull 2).setCell 0 (.int .i64 lv)).setCell 1 (.slice ak ks.length kk)).setCell 2 (.slice av vs.length kv))
  have hkf := (((HK0.out.drew.trans (HK1.out.trans HK2.out)).setCell ⟨bz, 0, none⟩ (.int .i64 lv)).setCell ⟨bz, 1, none⟩ (.slice ak ks.length kk)).setCell ⟨bz, 2, none⟩ (.slice av vs.length kv)
  generalize ((V2.setCell ⟨bz, 0, none⟩ (.int .i64 lv)).setCell ⟨bz, 1, none⟩ (.slice ak ks.length kk)).setCell ⟨bz, 2, none⟩ (.slice av vs.length kv) = W3 at *
  have z0 : W3.cell? ⟨bz, 0, none⟩ = some (.int .i64 lv) := cell_of h5.got 0 rfl
  have z1 : W3.cell? ⟨bz, 1, none⟩ = some (.slice ak ks.length kk) := cell_of h5.got 1 rfl
  have z2 : W3.cell? ⟨bz, 2, none⟩ = some (.slice av vs.length kv) := cell_of h5.got 2 rfl
  have h6 := (h5.tail.pull 2).tail
  refine bodyPost_ret (v := .agg #[.int .i64 lv, .slice ak ks.length kk, .slice av vs.length kv]) (by simp [results, Tryz.results81, go_sem, z0, z1, z2]) rfl ⟨_, _, rfl, ?_, h6⟩
  exact hkf
end Go.Proofs.YtgbgneiciabidaaGreatDoor
/-
  DERIVED: THE SHELF's CONTRACTS AT THIS DUMP, IN PLAIN WORDS (tools/lay-plain.mjs out of 'YtgbgneiciabidaaGreatDoorKeysL.lean', which tools/lay-shelf.mjs wrote): THE SAME DECLARATIONS UNDER THE SAME NAMES: 'import', 'namespace', 'open', 'def', 'theorem' AND NOTHING ELSE: no command of the shelf's: FOR A HAND-IN. Each laying: the table of numbers ('.._ren') and one theorem, a field a fact of the dump's own or the kernel's comparison; each contract: ONE APPLICATION.
-/
namespace Go.Proofs
open Go.Shelf
set_option linter.all false
set_option maxHeartbeats 8000000
def Tryz.keysA_ren : Go.Shelf.Ren := ⟨fun | 7 => 89 | 10 => 154 | n => n, fun | 23 => 145 | 26 => 3 | 3 => 153 | 28 => 168 | 0 => 0 | 27 => 167 | 33 => 63 | 4 => 4 | n => n, fun | n => n⟩
theorem Tryz.keysA : Go.Proofs.SlLaysZI.n7 Tryz.prog Tryz.keysA_ren := {
 mixed := by kernel_rfl
 f7 := ⟨Tryz.f89.name, by decide, Tryz.func89.trans (congrArg some (by kernel_rfl))⟩
 f10 := ⟨Tryz.f154.name, by decide, Tryz.func154.trans (congrArg some (by kernel_rfl))⟩
 t0 := Tryz.underlying0
 a0 := Tryz.isAgg0
 z0 := Tryz.sizeOf0
 v0 := Tryz.zeroValue0
 t4 := Tryz.underlying4
 a4 := Tryz.isAgg4
 z4 := Tryz.sizeOf4
 v4 := Tryz.zeroValue4
 t23 := Tryz.underlying145
 a23 := Tryz.isAgg145
 z23 := Tryz.sizeOf145
 v23 := Tryz.zeroValue145
 t26 := Tryz.underlying3
 a26 := Tryz.isAgg3
 z26 := Tryz.sizeOf3
 v26 := Tryz.zeroValue3
 t27 := Tryz.underlying167
 a27 := Tryz.isAgg167
 z27 := Tryz.sizeOf167
 v27 := Tryz.zeroValue167
 t28 := Tryz.underlying168
 a28 := Tryz.isAgg168
 z28 := Tryz.sizeOf168
 v28 := Tryz.zeroValue168
 t33 := Tryz.underlying63
 a33 := Tryz.isAgg63
 z33 := Tryz.sizeOf63
 v33 := Tryz.zeroValue63 }
def Tryz.sortedA_ren : Go.Shelf.Ren := ⟨fun | 6 => 88 | 8 => 152 | 9 => 153 | 11 => 201 | 13 => 203 | 12 => 202 | 23 => 230 | 24 => 231 | 14 => 222 | 15 => 223 | 16 => 224 | 17 => 225 | 18 => 226 | 19 => 227 | 20 => 211 | 21 => 228 | 22 => 229 | 25 => 241 | 26 => 242 | 27 => 243 | 28 => 244 | 29 => 245 | 30 => 240 | 31 => 252 | n => n, fun | 26 => 3 | 28 => 168 | 24 => 22 | 0 => 0 | 3 => 3 | 37 => 305 | 48 => 287 | 50 => 247 | 4 => 4 | 40 => 324 | 39 => 323 | 45 => 89 | 5 => 5 | 9 => 9 | 51 => 336 | 55 => 340 | 57 => 348 | 58 => 119 | 33 => 63 | n => n, fun | n => n⟩
theorem Tryz.sortedA : Go.Proofs.SlLaysZI.n6 Tryz.prog Tryz.sortedA_ren := {
 mixed := by kernel_rfl
 f6 := ⟨Tryz.f88.name, by decide, Tryz.func88.trans (congrArg some (by kernel_rfl))⟩
 f8 := ⟨Tryz.f152.name, by decide, Tryz.func152.trans (congrArg some (by kernel_rfl))⟩
 f11 := ⟨Tryz.f201.name, by decide, Tryz.func201.trans (congrArg some (by kernel_rfl))⟩
 t0 := Tryz.underlying0
 a0 := Tryz.isAgg0
 z0 := Tryz.sizeOf0
 v0 := Tryz.zeroValue0
 t24 := Tryz.underlying22
 a24 := Tryz.isAgg22
 z24 := Tryz.sizeOf22
 v24 := Tryz.zeroValue22
 t26 := Tryz.underlying3
 a26 := Tryz.isAgg3
 z26 := Tryz.sizeOf3
 v26 := Tryz.zeroValue3
 t28 := Tryz.underlying168
 a28 := Tryz.isAgg168
 z28 := Tryz.sizeOf168
 v28 := Tryz.zeroValue168
 i26 := by kernel_rfl }
def Tryz.sortA_ren : Go.Shelf.Ren := ⟨fun | 5 => 153 | 8 => 203 | 7 => 202 | 19 => 230 | 20 => 231 | 10 => 222 | 11 => 223 | 12 => 224 | 13 => 225 | 14 => 226 | 15 => 227 | 16 => 211 | 17 => 228 | 18 => 229 | 30 => 241 | 31 => 242 | 32 => 243 | 33 => 244 | 34 => 245 | 35 => 240 | 40 => 252 | n => n, fun | 23 => 22 | 25 => 3 | 3 => 3 | 32 => 305 | 22 => 22 | 0 => 0 | 44 => 287 | 46 => 247 | 4 => 4 | 36 => 324 | 35 => 323 | 41 => 89 | 5 => 5 | 9 => 9 | 53 => 336 | 57 => 340 | 63 => 348 | 64 => 119 | n => n, fun | n => n⟩
theorem Tryz.sortA : Go.Proofs.SlLaysM.n5 Tryz.prog Tryz.sortA_ren := {
 mixed := by kernel_rfl
 f5 := ⟨Tryz.f153.name, by decide, Tryz.func153.trans (congrArg some (by kernel_rfl))⟩
 f7 := ⟨Tryz.f202.name, by decide, Tryz.func202.trans (congrArg some (by kernel_rfl))⟩
 f8 := Tryz.func203.trans (congrArg some (by kernel_rfl))
 f10 := ⟨Tryz.f222.name, by decide, Tryz.func222.trans (congrArg some (by kernel_rfl))⟩
 f11 := ⟨Tryz.f223.name, by decide, Tryz.func223.trans (congrArg some (by kernel_rfl))⟩
 f12 := ⟨Tryz.f224.name, by decide, Tryz.func224.trans (congrArg some (by kernel_rfl))⟩
 f13 := ⟨Tryz.f225.name, by decide, Tryz.func225.trans (congrArg some (by kernel_rfl))⟩
 f14 := ⟨Tryz.f226.name, by decide, Tryz.func226.trans (congrArg some (by kernel_rfl))⟩
 f15 := ⟨Tryz.f227.name, by decide, Tryz.func227.trans (congrArg some (by kernel_rfl))⟩
 f16 := ⟨Tryz.f211.name, by decide, Tryz.func211.trans (congrArg some (by kernel_rfl))⟩
 f17 := ⟨Tryz.f228.name, by decide, Tryz.func228.trans (congrArg some (by kernel_rfl))⟩
 f18 := ⟨Tryz.f229.name, by decide, Tryz.func229.trans (congrArg some (by kernel_rfl))⟩
 f19 := Tryz.func230.trans (congrArg some (by kernel_rfl))
 f20 := Tryz.func231.trans (congrArg some (by kernel_rfl))
 f30 := ⟨Tryz.f241.name, by decide, Tryz.func241.trans (congrArg some (by kernel_rfl))⟩
 f31 := Tryz.func242.trans (congrArg some (by kernel_rfl))
 f32 := Tryz.func243.trans (congrArg some (by kernel_rfl))
 f33 := ⟨Tryz.f244.name, by decide, Tryz.func244.trans (congrArg some (by kernel_rfl))⟩
 f34 := ⟨Tryz.f245.name, by decide, Tryz.func245.trans (congrArg some (by kernel_rfl))⟩
 f35 := ⟨Tryz.f240.name, by decide, Tryz.func240.trans (congrArg some (by kernel_rfl))⟩
 f40 := ⟨Tryz.f252.name, by decide, Tryz.func252.trans (congrArg some (by kernel_rfl))⟩
 t0 := Tryz.underlying0
 a0 := Tryz.isAgg0
 z0 := Tryz.sizeOf0
 v0 := Tryz.zeroValue0
 t3 := Tryz.underlying3
 a3 := Tryz.isAgg3
 z3 := Tryz.sizeOf3
 v3 := Tryz.zeroValue3
 t4 := Tryz.underlying4
 a4 := Tryz.isAgg4
 z4 := Tryz.sizeOf4
 v4 := Tryz.zeroValue4
 t5 := Tryz.underlying5
 a5 := Tryz.isAgg5
 z5 := Tryz.sizeOf5
 v5 := Tryz.zeroValue5
 t9 := Tryz.underlying9
 a9 := Tryz.isAgg9
 z9 := Tryz.sizeOf9
 v9 := Tryz.zeroValue9
 t22 := Tryz.underlying22
 a22 := Tryz.isAgg22
 z22 := Tryz.sizeOf22
 v22 := Tryz.zeroValue22
 t23 := Tryz.underlying22
 a23 := Tryz.isAgg22
 z23 := Tryz.sizeOf22
 v23 := Tryz.zeroValue22
 t25 := Tryz.underlying3
 a25 := Tryz.isAgg3
 z25 := Tryz.sizeOf3
 v25 := Tryz.zeroValue3
 t32 := Tryz.underlying305
 a32 := Tryz.isAgg305
 z32 := Tryz.sizeOf305
 v32 := Tryz.zeroValue305
 t35 := Tryz.underlying323
 a35 := Tryz.isAgg323
 z35 := Tryz.sizeOf323
 v35 := Tryz.zeroValue323
 t36 := Tryz.underlying324
 a36 := Tryz.isAgg324
 z36 := Tryz.sizeOf324
 v36 := Tryz.zeroValue324
 t41 := Tryz.underlying89
 a41 := Tryz.isAgg89
 z41 := Tryz.sizeOf89
 v41 := Tryz.zeroValue89
 t44 := Tryz.underlying287
 a44 := Tryz.isAgg287
 z44 := Tryz.sizeOf287
 v44 := Tryz.zeroValue287
 t46 := Tryz.underlying247
 a46 := Tryz.isAgg247
 z46 := Tryz.sizeOf247
 v46 := Tryz.zeroValue247
 t53 := Tryz.underlying336
 a53 := Tryz.isAgg336
 z53 := Tryz.sizeOf336
 v53 := Tryz.zeroValue336
 t57 := Tryz.underlying340
 a57 := Tryz.isAgg340
 z57 := Tryz.sizeOf340
 v57 := Tryz.zeroValue340
 t63 := Tryz.underlying348
 a63 := Tryz.isAgg348
 z63 := Tryz.sizeOf348
 v63 := Tryz.zeroValue348
 t64 := Tryz.underlying119
 a64 := Tryz.isAgg119
 z64 := Tryz.sizeOf119
 v64 := Tryz.zeroValue119 }
end Go.Proofs
