/-
  Law 11: what a fresh world does first (awake).
-/
import Derived.Test.YtgbgneiciabidaaGreatDoorGbxMade
import Derived.Test.YtgbgneiciabidaaGreatDoorGb5
import Derived.LaidEql
import Derived.Stop.Asserts
import Derived.RowKitTokens
namespace Go.Proofs.YtgbgneiciabidaaGreatDoor
open Go Go.RowKit
set_option linter.all false

theorem Has.ints_new {w : World} {l : List Say} (h : Has w l) (xs : List Int) (hx : xs.length ≤ 1000) : Has (w.alloc (.cells (xs.map intVal).toArray 3)) (intsS (.slice (some ⟨w.heap.size, 0, none⟩) xs.length xs.length) xs :: l) :=
  (h.alloc (.cells (xs.map intVal).toArray 3)).row_of_pts (by simp) (Nat.le_refl _) (by simp [maxLen]; omega) (by simp) (by simp only [Nat.mul_one]; exact List.take_of_length_le (by simp))
def YesPost (l : List Say) (w : World) (r : Ending) (w' : World) : Prop := r = .returned (.bool true) ∧ Kept w w' ∧ Has w' l

/-- A leaf of one pair, put into a fresh world of one device. -/
theorem fresh_put {w w' : World} {l : List Say} {p bank sp n : Nat} {nd : Nd} {r : Ending} (hn : 3 ≤ n) (ok : nd.ok = true) (lv : nd.level = 0)
    (h : StPut p bank sp 0 0 [] [List.replicate n zeros] (freshSpc [⟨1, n⟩]) nd l w r w') :
    r = .returned (.tuple #[.int .i64 2, .nilIface]) ∧ Kept w w' ∧ ∃ secs, Has w' (world3 p bank sp 1 1 [(2, ⟨nd, 0, 0⟩)] secs ((freshSpc [⟨1, n⟩]).put 0 ((emptyShelf n).took 2)) l) := by
  have hk : nd.kids = [] := by simp [Nd.kids, lv]
  have hne : namedErr [] nd = .nilIface := by simp [namedErr, hk]
  obtain ⟨hK, (⟨h1, _⟩ | ⟨_, h2, _⟩ | ⟨_, _, h3, _⟩ | ⟨d, k, y, secs, _, _, ht, hs, hr, hh⟩)⟩ := h
  · rw [ok] at h1; cases h1
  · exact absurd hne h2
  · exact absurd h3 (fresh_room hn)
  · obtain ⟨rfl, rfl⟩ := fresh_takes ht
    have hy : y = emptyShelf n := by simpa [freshSpc] using ht.shelf.symm
    subst hy
    rw [hk] at hh
    have e : put1 [] (lenV 0 2) nd = [(2, ⟨nd, 0, 0⟩)] := by simp [put1, hk, bumpAll]; rfl
    rw [e] at hh
    exact ⟨hr, hK, _, hh⟩

set_option maxHeartbeats 1000000 in
set_option maxRecDepth 100000 in
theorem law_awake {w : World} {l : List Say} (h : Has w l) (ht : Tab l) : Calls Tryz.prog 17 #[] w (YesPost l w) := by
  have h1 := h.ints_new [10] (by simp)
  have HM := Lib.hid (law_made [10] h1 (Srcs.of_ints (.head _)))
  have HK0 : Hid (Kept w (w.alloc (.cells ([10].map intVal).toArray 3))) := (Kept.refl w).alloc _
  have Ht := Lib.hid ht
  clear h h1 ht
  simp only [List.map_cons, List.map_nil, intVal, List.length_cons, List.length_nil, Nat.zero_add] at HM HK0
  go_enter Tryz.func17, Tryz.ntmps17
  go_wp2_with fail
  refine HM.out.mono ?_
  rintro r w1 ⟨hK1, (⟨hno, _⟩ | ⟨_, bank, sp, p, x, rfl, h1⟩)⟩
  · exact absurd hno (by decide)
  · have h2 := ((h1.alloc (.cells #[ptrV bank, ptrV sp, ptrV p, ptrV x] 30)).ints_new [1] (by simp)).ints_new [5] (by simp)
    simp only [World.size_alloc, List.map_cons, List.map_nil, intVal, List.length_cons, List.length_nil, Nat.zero_add] at h2
    have h3 := h2.reord [3, 3, 3]
    have HP := Lib.hid (st_Put (p := p) (bank := bank) (sp := sp) (m := 0) (N := 0) (Q := []) (disks := [List.replicate 10 zeros]) (X := freshSpc [⟨1, 10⟩]) ⟨0, [1], [5]⟩ (kv := .slice (some ⟨w1.heap.size + 1, 0, none⟩) 1 1) (vv := .slice (some ⟨w1.heap.size + 1 + 1, 0, none⟩) 1 1) h3 Ht.out.cons.cons.cons.cons (.tail _ (.head _)) (.head _) (fits_fresh [10] (by simp)) (holds_none _) (by omega) (by omega))
    have HK1 := Lib.hid (((HK0.out.trans hK1).alloc (.cells #[ptrV bank, ptrV sp, ptrV p, ptrV x] 30) |>.alloc (.cells #[.int .i64 1] 3)).alloc (.cells #[.int .i64 5] 3))
    clear h1 h2 h3 hK1 HM HK0
    simp only [Nd.val, ptrV] at HP HK1 ⊢
    go_wp2_with fail
    refine HP.out.mono ?_
    rintro r w2 hpost
    obtain ⟨rfl, hK2, secs, h4⟩ := fresh_put (by omega) (by decide) rfl hpost
    have hr1 := h4.at (b := w1.heap.size) (o := .cells #[.pointer (some ⟨bank, 0, none⟩), .pointer (some ⟨sp, 0, none⟩), .pointer (some ⟨p, 0, none⟩), .pointer (some ⟨x, 0, none⟩)] 30 (0, 0)) (by simp [world3, reord])
    have c1 : w2.cell? ⟨w1.heap.size, 1, none⟩ = some (.pointer (some ⟨sp, 0, none⟩)) := cell_of hr1 1 rfl
    have c2 : w2.cell? ⟨w1.heap.size, 2, none⟩ = some (.pointer (some ⟨p, 0, none⟩)) := cell_of hr1 2 rfl
    have l1 := World.block_lt_of_cell? _ _ c1
    have HPg := Lib.hid (st_Pages h4 (by simp))
    have HK2 := Lib.hid (HK1.out.trans hK2)
    clear hK2 h4 hpost HP HK1 hr1
    go_wp2_with fail
    refine HPg.out.mono ?_
    rintro r w3 ⟨v, rfl, hK3, h5⟩
    obtain ⟨a5, c5, rfl, _, _⟩ := h5.ints_read (v := v) (xs := [2]) (.head _)
    have hr1 := h5.at (b := w1.heap.size) (o := .cells #[.pointer (some ⟨bank, 0, none⟩), .pointer (some ⟨sp, 0, none⟩), .pointer (some ⟨p, 0, none⟩), .pointer (some ⟨x, 0, none⟩)] 30 (0, 0)) (by simp [world3, reord])
    have c1 : w3.cell? ⟨w1.heap.size, 1, none⟩ = some (.pointer (some ⟨sp, 0, none⟩)) := cell_of hr1 1 rfl
    have l1 := World.block_lt_of_cell? _ _ c1
    have h6 := h5.pull 3
    have HT : Hid (Calls Tryz.prog 35 #[.pointer (some ⟨sp, 0, none⟩), .int .i64 2] w3 _) := sp_Taken h6 0 2 ⟨1, 10⟩ ((emptyShelf 10).took 2) ⟨rfl, rfl, by decide, by omega, by decide⟩
    have HK3 := Lib.hid (HK2.out.trans hK3)
    clear hK3 h5 h6 HPg HK2 hr1
    go_wp2_with fail
    refine HT.out.mono ?_
    rintro r w4 ⟨rfl, hK4, h7⟩
    have HF : Hid (Kept w w4 ∧ Has w4 l) := ⟨HK3.out.trans hK4, h7.tail.tail.tail.tail.tail.tail.tail.tail⟩
    have e : ((emptyShelf 10).took 2).taken 2 = true := rfl
    rw [e]
    clear hK4 h7 HT HK3
    go_wp2
    go_ret
    exact ⟨rfl, HF.out.1, HF.out.2⟩
end Go.Proofs.YtgbgneiciabidaaGreatDoor
/-
  Law 11: is (errors.Is between codes).
-/
namespace Go.Proofs.YtgbgneiciabidaaGreatDoor
open Go Go.RowKit Go.Extern.Stop Go.Stop Go.Extern
set_option linter.all false

theorem run_equalIn_iface_int {P : Program} (w : World) (d : Nat) {ti tn : TypeId} {ms : Array (String × TypeId)} {i : TypeInfo} {k : IntKind} (a b : Int)
    (hi : P.underlying ti = some (.interface ms)) (hn : P.underlying tn = some (.int k)) (hinfo : P.info? tn = some i) (hcomp : i.comparable = true) :
    (Op.equalIn (d + 2) ti (.iface tn (.int k a)) (.iface tn (.int k b))).run P w = .ok (a == b) w := by
  simp [Op.equalIn, run_underlying hi, run_underlying hn, typeInfo, hinfo, hcomp]
theorem run_eql_iface_int {P : Program} (w : World) {ti tn : TypeId} {ms : Array (String × TypeId)} {i : TypeInfo} {k : IntKind} (a b : Int)
    (hi : P.underlying ti = some (.interface ms)) (hn : P.underlying tn = some (.int k)) (hinfo : P.info? tn = some i) (hcomp : i.comparable = true) :
    (binOp .eql ti (.iface tn (.int k a)) (.iface tn (.int k b))).run P w = .ok (.bool (a == b)) w := by
  simp only [binOp]
  simp [Op.equal, Op.maxDepth, run_equalIn_iface_int w 9998 a b hi hn hinfo hcomp]

def codeCmp : TypeId → Sem Value := fun t => do Extern.Rtype.noPackHeld "Comparable" t; pure (.bool (← typeInfo t).comparable)
def codeCall : Array Value → Sem Value := Extern.ReflectliteType.method codeCmp
theorem code_typeOf (v : Value) (w : World) : (Extern.ReflectliteType.typeOf #[.iface 157 v]).run Tryz.prog w = .ok (.iface 293 (.agg #[.pointer (some ⟨1, 157, none⟩)])) w := by kernel_rfl
theorem code_comparable (w : World) : (codeCall #[.agg #[.pointer (some ⟨1, 157, none⟩)]]).run Tryz.prog w = .ok (.bool true) w := by kernel_rfl
theorem code_method (v : Value) (w : World) : (Go.method 241 293 v "Comparable").run Tryz.prog w = .ok (288, v) w := by kernel_rfl
theorem code_comp : (Tryz.prog.info? 157).map (·.comparable) = some true := by kernel_rfl
theorem code_noIs (v : Value) (xT : TypeId) (w : World) : (Instr.typeAssert (.iface 157 v) xT 295 true).run Tryz.prog w = .ok (.tuple #[.nilIface, .bool false]) w := run_typeAssert_lacksB Tryz.underlying295 (by kernel_rfl) (by kernel_rfl) v xT w
theorem code_noUnwrap (v : Value) (xT : TypeId) (w : World) : (Instr.typeAssert (.iface 157 v) xT 298 true).run Tryz.prog w = .ok (.tuple #[.nilIface, .bool false]) w := run_typeAssert_lacksB Tryz.underlying298 (by kernel_rfl) (by kernel_rfl) v xT w
theorem code_noUnwraps (v : Value) (xT : TypeId) (w : World) : (Instr.typeAssert (.iface 157 v) xT 299 true).run Tryz.prog w = .ok (.tuple #[.nilIface, .bool false]) w := run_typeAssert_lacksB Tryz.underlying299 (by kernel_rfl) (by kernel_rfl) v xT w

set_option maxHeartbeats 1000000 in
set_option maxRecDepth 100000 in
/-- errors.Is between two codes. -/
theorem errors_Is (a b : Int) (w : World) : Calls Tryz.prog 86 #[errV a, errV b] w fun e w' => e = .returned (.bool (a == b)) ∧ w = w' := by
  obtain ⟨i, hi, hcmp⟩ := Option.map_eq_some_iff.1 code_comp
  have h8 := @run_callFunc_extern Tryz.prog 150 _ Extern.ReflectliteType.typeOf Tryz.func150 (by kernel_rfl) (by kernel_rfl) (by kernel_rfl) (by kernel_rfl)
  have h32 := @run_callFunc_extern Tryz.prog 288 _ codeCall Tryz.func288 (by kernel_rfl) (by kernel_rfl) (by kernel_rfl) (by kernel_rfl)
  have tT := code_typeOf
  have cT := code_comparable
  have mR := code_method
  have nE := code_noIs
  have uE := code_noUnwrap
  have vE := code_noUnwraps
  have heq := run_eql_iface_int (P := Tryz.prog) w a b Tryz.underlying38 Tryz.underlying157 hi hcmp
  simp only [errV]
  cases hab : (a == b) with
  | true =>
    rw [hab] at heq
    go_enter Tryz.func86, Tryz.ntmps86
    go_wp2
    refine wp_loop_rounds 1 ?_
    rw [rounds_succ]
    go_wp2
    go_ret
    exact ⟨rfl, rfl⟩
  | false =>
    rw [hab] at heq
    go_enter Tryz.func86, Tryz.ntmps86
    go_wp2
    refine wp_loop_rounds 1 ?_
    rw [rounds_succ]
    go_wp2
    go_ret
    exact ⟨rfl, rfl⟩

/-- An error of ours, or none. -/
def errE : Option Int → Value
  | none => .nilIface
  | some c => errV c
def isE : Option Int → Int → Bool
  | none, want => want == 0
  | some c, want => !(want == 0) && c == want
set_option maxRecDepth 100000 in
theorem law_is (e : Option Int) (want : Int) (w : World) (b0 : -9223372036854775808 ≤ want) (b1 : want ≤ 9223372036854775807) : Calls Tryz.prog 23 #[errE e, .int .i64 want] w fun r w' => r = .returned (.bool (isE e want)) ∧ w = w' := by
  cases hw : (want == 0) with
  | true =>
    cases e with
    | none =>
      simp only [errE, isE, hw]
      go_enter Tryz.func23, Tryz.ntmps23
      go_wp2
      go_ret
      exact ⟨rfl, rfl⟩
    | some c =>
      simp only [errE, isE, hw, errV]
      go_enter Tryz.func23, Tryz.ntmps23
      go_wp2
      go_ret
      exact ⟨rfl, rfl⟩
  | false =>
    cases e with
    | none =>
      simp only [errE, isE, hw]
      go_enter Tryz.func23, Tryz.ntmps23
      go_wp2
      go_ret
      exact ⟨rfl, rfl⟩
    | some c =>
      have HI := Lib.hid (errors_Is c want w)
      simp only [errE, isE, hw, errV] at HI ⊢
      go_enter Tryz.func23, Tryz.ntmps23
      go_wp2_with fail
      refine HI.out.mono ?_
      rintro r w1 ⟨rfl, rfl⟩
      go_wp2
      go_ret
      exact ⟨rfl, rfl⟩
end Go.Proofs.YtgbgneiciabidaaGreatDoor
