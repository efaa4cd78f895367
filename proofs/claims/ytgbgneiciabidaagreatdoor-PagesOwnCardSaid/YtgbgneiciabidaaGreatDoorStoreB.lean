/-
  Pages (layer 11), the second part: the store; New, kids, Pages.
-/
import Derived.Test.YtgbgneiciabidaaGreatDoorStore
import Derived.Test.YtgbgneiciabidaaGreatDoorKeys
namespace Go.Proofs.YtgbgneiciabidaaGreatDoor
open Go Go.RowKit
set_option linter.all false

structure Pg where
  n : Nd
  holds : Int
  held : Int
structure Sl where
  pg : Pg
  kv : Value
  vv : Value
def Sl.val (t : Sl) : Value := .agg #[.int .i64 t.pg.n.level, t.kv, t.vv, .int .i64 t.pg.holds, .int .i64 t.pg.held]
def Sl.rows (t : Sl) : List Say := [intsS t.kv t.pg.n.keys, intsS t.vv t.pg.n.vals]
def pool (T : List (Int × Sl)) : List Say := T.map fun p => all p.2.rows
structure StAt where
  mb : Nat
  T : List (Int × Sl)
abbrev Pgs := List (Int × Pg)
structure StOk (Q : Pgs) (x : StAt) : Prop where
  eq : VMap.over Sl.pg x.T = Q
  up : VMap.Up x.T
  bd : ∀ p ∈ Q, 0 ≤ p.1 ∧ p.1 < 32768
  ok : ∀ p ∈ Q, p.2.n.ok = true
def storeCell (p bank sp mb : Nat) : Say := pts p (.cells #[.pointer (some ⟨bank, 0, none⟩), .pointer (some ⟨sp, 0, none⟩), .map (some mb), .map none] 147 (0, 0))
def storeFlat (p bank sp n : Nat) (x : StAt) : List Say := storeCell p bank sp x.mb :: mapS x.mb n (VMap.over Sl.val x.T) :: pool x.T
/-- A store with the pages Q; its map has at most n entries. -/
def storeS (p bank sp n : Nat) (Q : Pgs) : Say := ex fun x : StAt => fact (StOk Q x) (all (storeFlat p bank sp n x))
theorem Has.st_open {w : World} {l : List Say} {p bank sp n : Nat} {Q : Pgs} (h : Has w (storeS p bank sp n Q :: l)) : ∃ x, StOk Q x ∧ Has w (storeFlat p bank sp n x ++ l) := by
  obtain ⟨x, h⟩ := h.opened
  obtain ⟨ok, h⟩ := h.unfact
  exact ⟨x, ok, h.split⟩
theorem Has.st_shut {w : World} {l : List Say} {p bank sp n : Nat} {Q : Pgs} {x : StAt} (ok : StOk Q x) (h : Has w (storeFlat p bank sp n x ++ l)) : Has w (storeS p bank sp n Q :: l) := Has.chosen x (Has.tofact ok h.unite)

def StNew (bank sp : Nat) (l : List Say) (w : World) (r : Ending) (w' : World) : Prop := ∃ p, r = .returned (.pointer (some ⟨p, 0, none⟩)) ∧ Kept w w' ∧ Has w' (storeS p bank sp 0 [] :: l)
theorem st_New {w : World} {l : List Say} (h : Has w l) (bank sp : Nat) : Calls Tryz.prog 31 #[.pointer (some ⟨bank, 0, none⟩), .pointer (some ⟨sp, 0, none⟩)] w (StNew bank sp l w) := by
  have h1 := map_made h
  have h2 := h1.alloc (.cells #[.pointer (some ⟨bank, 0, none⟩), .pointer (some ⟨sp, 0, none⟩), .map (some w.heap.size), .map none] 147)
  simp only [World.size_alloc] at h2
  have HB := Lib.hid (Has.st_shut (p := w.heap.size + 1) (bank := bank) (sp := sp) (n := 0) (Q := []) (x := ⟨w.heap.size, []⟩) ⟨rfl, List.Pairwise.nil, by simp, by simp⟩ h2)
  have hmm := @run_makeMap Tryz.prog
  clear h h1 h2
  go_enter Tryz.func31, Tryz.ntmps31
  go_wp2
  go_ret
  exact ⟨_, rfl, ((Kept.refl w).alloc _).alloc _, HB.out⟩

/-- A new row beside what was there. -/
theorem Has.fresh_row {w w' : World} {l : List Say} (h : Has w l) (hb : Below w.heap.size w w') {e : TypeId} {size : Nat} {v : Value} {n : Nat} {xs : List Value} (ho : w'.ownsRow w.heap.size e size v n xs) : Has w' (rowS e size v n xs :: l) := by
  have hl3 : Has w' l := h.below hb
  rcases ho.2 with ⟨rfl, hn⟩ | ⟨g, cap, cur, rfl, hbg, hgg, r⟩
  · exact ⟨fun _ => none, fun k => w'.heap[k]?, ⟨ho.1, .inl ⟨rfl, hn⟩⟩, hl3, by simp, by simp⟩
  · have h4 : Sep (fun k => if k < w.heap.size then w.heap[k]? else none) l := Sep.up h fun k hk => by
      rcases Nat.lt_or_ge k w.heap.size with hlt | hge
      · simp [hlt]
      · exact absurd (Array.getElem?_eq_none hge) hk
    refine ⟨fun k => if k = g then w'.heap[g]? else none, _, ⟨ho.1, .inr ⟨g, cap, cur, rfl, by simp [hgg], r⟩⟩, h4, fun k hk => ?_, fun k hk => ?_⟩
    · by_cases e1 : k = g
      · subst e1; exact ⟨by simp, by simp; omega⟩
      · simp [e1] at hk
    · by_cases hlt : k < w.heap.size
      · simp only [hlt, if_true]; exact hb.block k hlt
      · simp [hlt] at hk

theorem sorted_unique : ∀ {a b : List Int}, a.Perm b → a.Pairwise (· ≤ ·) → b.Pairwise (· ≤ ·) → a = b
  | [], b, hp, _, _ => (List.nil_perm.1 hp).symm
  | x :: a, [], hp, _, _ => by simp at hp
  | x :: a, y :: b, hp, ha, hb => by
    obtain ⟨a1, a2⟩ := List.pairwise_cons.1 ha
    obtain ⟨b1, b2⟩ := List.pairwise_cons.1 hb
    have hx : x ∈ y :: b := hp.mem_iff.1 (by simp)
    have hy : y ∈ x :: a := hp.mem_iff.2 (by simp)
    have e : x = y := by
      rcases List.mem_cons.1 hx with h | h
      · exact h
      · rcases List.mem_cons.1 hy with h' | h'
        · exact h'.symm
        · have := b1 x h; have := a1 y h'; omega
    subst e
    rw [sorted_unique (List.Perm.cons_inv hp) a2 b2]
theorem sorted_is {ss ks : List Int} (hp : ss.Perm ks) (hk : ks.Pairwise (· < ·)) : ss.mergeSort (fun x y => decide (x ≤ y)) = ks := by
  refine sorted_unique ((List.mergeSort_perm ss _).trans hp) ?_ (hk.imp fun h => Int.le_of_lt h)
  have := List.pairwise_mergeSort (le := fun x y : Int => decide (x ≤ y)) (by intro a b c; simp; omega) (by intro a b; simp; omega) ss
  exact this.imp fun h => by simpa using h

def PagesPost (Q : Pgs) (l : List Say) (w : World) (r : Ending) (w' : World) : Prop := ∃ v, r = .returned v ∧ Kept w w' ∧ Has w' (intsS v (Q.map (·.1)) :: l)
theorem st_Pages {w : World} {l : List Say} {p bank sp n : Nat} {Q : Pgs} (h : Has w (storeS p bank sp n Q :: l)) (hn : Q.length ≤ 100000) :
    Calls Tryz.prog 25 #[.pointer (some ⟨p, 0, none⟩)] w (PagesPost Q (storeS p bank sp n Q :: l) w) := by
  obtain ⟨x, ok, hh⟩ := h.st_open
  have hp : w.heap[p]? = some (.cells #[.pointer (some ⟨bank, 0, none⟩), .pointer (some ⟨sp, 0, none⟩), .map (some x.mb), .map none] 147 (0, 0)) := hh.got
  have c2 : w.cell? ⟨p, 2, none⟩ = some (.map (some x.mb)) := cell_of hp 2 rfl
  have l0 := World.block_lt_of_cell? _ _ c2
  have hown := hh.map_own (b := x.mb) (n := n) (M := VMap.over Sl.val x.T) (by simp [storeFlat])
  have hkeys : intKeys (DataW.map ((VMap.over Sl.val x.T).map litE)) = Q.map (·.1) := by
    rw [← ok.eq]
    simp [intKeys, VMap.over, litE, List.map_map, Function.comp]
    intros; rfl
  have hsz : Maps.size (DataW.map ((VMap.over Sl.val x.T).map litE)) ≤ 100000 := by
    have e : Maps.size (DataW.map ((VMap.over Sl.val x.T).map litE)) = Q.length := by rw [← ok.eq]; simp [Maps.size, VMap.over]
    rw [e]; exact hn
  have HS := Lib.hid (Tryz.sorted_call x.mb n _ heldR w hown (by simp [maxLen]; omega) (by omega))
  have hup : (Q.map (·.1)).Pairwise (· < ·) := by
    rw [← ok.eq]
    simp only [VMap.over, List.map_map]
    exact List.pairwise_map.2 ok.up
  have HU : Hid ((∀ ss : List Int, ss.Perm (intKeys (DataW.map ((VMap.over Sl.val x.T).map litE))) → ss.mergeSort (fun x y => decide (x ≤ y)) = Q.map (·.1)) ∧ ∀ ss : List Int, ss.Perm (intKeys (DataW.map ((VMap.over Sl.val x.T).map litE))) → ss.length = (Q.map (·.1)).length) :=
    ⟨fun ss hs => sorted_is (hkeys ▸ hs) hup, fun ss hs => by rw [← hkeys]; exact hs.length_eq⟩
  have H0 := Lib.hid h
  clear h hh hp hown hkeys hsz hup hn ok
  go_enter Tryz.func25, Tryz.ntmps25
  go_wp2_with fail
  refine (Tryz.keys_call _ _).mono ?_
  rintro r w1 ⟨rfl, rfl⟩
  go_wp2_with fail
  refine HS.out.mono ?_
  rintro r w2 ⟨v, ss, rfl, hs, hrow, hb⟩
  have HF : Hid (Kept w w2 ∧ Has w2 (intsS v (Q.map (·.1)) :: storeS p bank sp n Q :: l)) := by
    refine ⟨((Kept.refl w).alloc _).trans (Kept.below hb), ?_⟩
    rw [HU.out.1 ss hs, HU.out.2 ss hs] at hrow
    exact (H0.out.alloc_off _).fresh_row hb hrow
  clear hrow hb hs HS H0 HU
  go_wp2
  go_ret
  exact ⟨_, rfl, HF.out.1, HF.out.2⟩
end Go.Proofs.YtgbgneiciabidaaGreatDoor
