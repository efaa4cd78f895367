/-
  Law 11: is (errors.Is between codes).
-/
import Derived.Test.YtgbgneiciabidaaGreatDoorGo1
import Derived.Test.YtgbgneiciabidaaGreatDoorGo2
import Derived.Test.YtgbgneiciabidaaGreatDoorGo3
import Derived.Test.YtgbgneiciabidaaGreatDoorGo4
import Derived.Test.YtgbgneiciabidaaGreatDoorGo5
import Derived.Test.YtgbgneiciabidaaGreatDoorGo6
import Derived.Test.YtgbgneiciabidaaGreatDoorGo7
import Derived.Test.YtgbgneiciabidaaGreatDoorGo8
import Derived.Test.YtgbgneiciabidaaGreatDoorGo9
import Derived.Test.YtgbgneiciabidaaGreatDoorGo10
import Derived.Test.YtgbgneiciabidaaGreatDoorGo11
import Derived.Test.YtgbgneiciabidaaGreatDoorGo12
import Derived.Test.YtgbgneiciabidaaGreatDoorGo13
import Derived.Test.YtgbgneiciabidaaGreatDoorGo14
import Derived.Test.YtgbgneiciabidaaGreatDoorGo15
import Derived.Test.YtgbgneiciabidaaGreatDoorGo16
import Derived.Test.YtgbgneiciabidaaGreatDoorGo17
import Derived.Test.YtgbgneiciabidaaGreatDoorGo18
import Derived.Test.YtgbgneiciabidaaGreatDoorGo19
import Derived.Test.YtgbgneiciabidaaGreatDoorGo20
import Derived.Test.YtgbgneiciabidaaGreatDoorGo21
import Derived.Test.YtgbgneiciabidaaGreatDoorGo22
import Derived.Test.YtgbgneiciabidaaGreatDoorGo23
import Derived.Test.YtgbgneiciabidaaGreatDoorGo24
import Derived.Test.YtgbgneiciabidaaGreatDoorGo25
import Derived.Test.YtgbgneiciabidaaGreatDoorGo26
import Derived.Test.YtgbgneiciabidaaGreatDoorGo27
import Derived.Test.YtgbgneiciabidaaGreatDoorGo28
import Derived.Test.YtgbgneiciabidaaGreatDoorGo29
import Derived.Test.YtgbgneiciabidaaGreatDoorGo30
import Derived.Test.YtgbgneiciabidaaGreatDoorGo31
import Derived.Test.YtgbgneiciabidaaGreatDoorGo32
import Derived.Test.YtgbgneiciabidaaGreatDoorGo33
import Derived.Test.YtgbgneiciabidaaGreatDoorGo34
import Derived.Test.YtgbgneiciabidaaGreatDoorGo35
import Derived.Test.YtgbgneiciabidaaGreatDoorGo36
import Derived.Test.YtgbgneiciabidaaGreatDoorGo37
import Derived.Test.YtgbgneiciabidaaGreatDoorGo38
import Derived.Test.YtgbgneiciabidaaGreatDoorGo39
import Derived.Test.YtgbgneiciabidaaGreatDoorGo40
import Derived.Test.YtgbgneiciabidaaGreatDoorGo41
import Derived.Test.YtgbgneiciabidaaGreatDoorGo42
import Derived.Test.YtgbgneiciabidaaGreatDoorGo43
import Derived.Test.YtgbgneiciabidaaGreatDoorGo44
import Derived.Test.YtgbgneiciabidaaGreatDoorGo45
import Derived.Test.YtgbgneiciabidaaGreatDoorGo46
import Derived.LaidEql
import Derived.Stop.Asserts
import Derived.RowKitTokens
namespace Go.Proofs.YtgbgneiciabidaaGreatDoor
open Go Go.RowKit Go.Extern.Stop Go.Stop Go.Extern
set_option linter.all false

theorem run_equalIn_iface_int {P : Program} (w : World) (d : Nat) {ti tn : TypeId} {ms : Array (String × TypeId)} {i : TypeInfo} {k : IntKind} (a b : Int)
    (hi : P.underlying ti = some (.interface ms)) (hn : P.underlying tn = some (.int k)) (hinfo : P.info? tn = some i) (hcomp : i.comparable = true) :
    (Op.equalIn (d + 2) ti (.iface tn (.int k a)) (.iface tn (.int k b))).run P w = .ok (a == b) w := by
  simp [Op.equalIn, run_underlying hi, run_underlying hn, typeInfo, hinfo, hcomp]
theorem run_eql_iface_int {P : Program} (w : World) {ti tn : TypeId} {ms : Array (String × TypeId)} {i : TypeInfo} {k : IntKind} (a b : Int)
    (hi : P.underlying ti = some (.interface ms)) (hn : P.underlying tn = some (.int k)) (hinfo : P.info? tn = some i) (hcomp : i.comparable = true) :
    (binOp .eql ti (.iface tn (.int k a)) (.iface tn (.int k b))).run P w = .ok (.bool (a == b)) w := by
  simp only [binOp]
  simp [Op.equal, Op.maxDepth, run_equalIn_iface_int w 9998 a b hi hn hinfo hcomp]

def codeCmp : TypeId → Sem Value := fun t => do Extern.Rtype.noPackHeld "Comparable" t; pure (.bool (← typeInfo t).comparable)
def codeCall : Array Value → Sem Value := Extern.ReflectliteType.method codeCmp
theorem code_typeOf (v : Value) (w : World) : (Extern.ReflectliteType.typeOf #[.iface 157 v]).run Tryz.prog w = .ok (.iface 293 (.agg #[.pointer (some ⟨1, 157, none⟩)])) w := by kernel_rfl
theorem code_comparable (w : World) : (codeCall #[.agg #[.pointer (some ⟨1, 157, none⟩)]]).run Tryz.prog w = .ok (.bool true) w := by kernel_rfl
theorem code_method (v : Value) (w : World) : (Go.method 241 293 v "Comparable").run Tryz.prog w = .ok (288, v) w := by kernel_rfl
theorem code_comp : (Tryz.prog.info? 157).map (·.comparable) = some true := by kernel_rfl
theorem code_noIs (v : Value) (xT : TypeId) (w : World) : (Instr.typeAssert (.iface 157 v) xT 295 true).run Tryz.prog w = .ok (.tuple #[.nilIface, .bool false]) w := run_typeAssert_lacksB Tryz.underlying295 (by kernel_rfl) (by kernel_rfl) v xT w
theorem code_noUnwrap (v : Value) (xT : TypeId) (w : World) : (Instr.typeAssert (.iface 157 v) xT 298 true).run Tryz.prog w = .ok (.tuple #[.nilIface, .bool false]) w := run_typeAssert_lacksB Tryz.underlying298 (by kernel_rfl) (by kernel_rfl) v xT w
theorem code_noUnwraps (v : Value) (xT : TypeId) (w : World) : (Instr.typeAssert (.iface 157 v) xT 299 true).run Tryz.prog w = .ok (.tuple #[.nilIface, .bool false]) w := run_typeAssert_lacksB Tryz.underlying299 (by kernel_rfl) (by kernel_rfl) v xT w

set_option maxHeartbeats 1000000 in
set_option maxRecDepth 100000 in
/-- errors.Is between two codes. -/
theorem errors_Is (a b : Int) (w : World) : Calls Tryz.prog 86 #[errV a, errV b] w fun e w' => e = .returned (.bool (a == b)) ∧ w = w' := by
  obtain ⟨i, hi, hcmp⟩ := Option.map_eq_some_iff.1 code_comp
  have h8 := @run_callFunc_extern Tryz.prog 150 _ Extern.ReflectliteType.typeOf Tryz.func150 (by kernel_rfl) (by kernel_rfl) (by kernel_rfl) (by kernel_rfl)
  have h32 := @run_callFunc_extern Tryz.prog 288 _ codeCall Tryz.func288 (by kernel_rfl) (by kernel_rfl) (by kernel_rfl) (by kernel_rfl)
  have tT := code_typeOf
  have cT := code_comparable
  have mR := code_method
  have nE := code_noIs
  have uE := code_noUnwrap
  have vE := code_noUnwraps
  have heq := run_eql_iface_int (P := Tryz.prog) w a b Tryz.underlying38 Tryz.underlying157 hi hcmp
  simp only [errV]
  cases hab : (a == b) with
  | true =>
    rw [hab] at heq
    go_enter Tryz.func86, Tryz.ntmps86
    go_wp2
    refine wp_loop_rounds 1 ?_
    rw [rounds_succ]
    go_wp2
    go_ret
    exact ⟨rfl, rfl⟩
  | false =>
    rw [hab] at heq
    go_enter Tryz.func86, Tryz.ntmps86
    go_wp2
    refine wp_loop_rounds 1 ?_
    rw [rounds_succ]
    go_wp2
    go_ret
    exact ⟨rfl, rfl⟩

/-- An error of ours, or none. -/
def errE : Option Int → Value
  | none => .nilIface
  | some c => errV c
def isE : Option Int → Int → Bool
  | none, want => want == 0
  | some c, want => !(want == 0) && c == want
end Go.Proofs.YtgbgneiciabidaaGreatDoor
/-
  Trees (layer 12): several trees in one store, in plain Lean.
-/
namespace Go.Proofs.YtgbgneiciabidaaGreatDoor
open Go Go.RowKit
set_option linter.all false

/-- A tree: its root, its pairs, its weight. -/
structure Tre where
  a : Int
  L : List KV
  s : Nat
def noTre : Tre := ⟨0, [], 0⟩
def heldBy : List Tre → Int → Int
  | [], _ => 0
  | t :: ts, x => oneAt t.a x + heldBy ts x
def weighs : List Tre → Nat
  | [] => 0
  | t :: ts => t.s + weighs ts
structure Grove (Q : Pgs) (ts : List Tre) : Prop where
  live : Live Q
  root : ∀ t ∈ ts, Root Q t.a t.L t.s
  held : ∀ x, heldOf Q x = heldBy ts x
theorem heldBy_nn : ∀ (ts : List Tre) (x : Int), 0 ≤ heldBy ts x
  | [], _ => Int.le_refl 0
  | t :: ts, x => by
    have h1 := oneAt_nn t.a x
    have h2 := heldBy_nn ts x
    show 0 ≤ oneAt t.a x + heldBy ts x
    omega
theorem heldBy_mem {t : Tre} : ∀ {ts : List Tre}, t ∈ ts → ∀ x, oneAt t.a x ≤ heldBy ts x
  | u :: ts, h, x => by
    have h1 := oneAt_nn u.a x
    have h2 := heldBy_nn ts x
    show _ ≤ oneAt u.a x + heldBy ts x
    rcases List.mem_cons.1 h with rfl | h
    · omega
    · have := heldBy_mem h x
      omega
theorem heldBy_zero : ∀ (ts : List Tre), heldBy ts 0 = 0
  | [] => rfl
  | t :: ts => by
    have h2 := heldBy_zero ts
    have h1 : oneAt t.a 0 = 0 := by
      unfold oneAt
      rw [if_neg]
      rintro ⟨h, h'⟩
      exact h' h.symm
    show oneAt t.a 0 + heldBy ts 0 = 0
    omega
theorem heldBy_perm {ts us : List Tre} (h : ts.Perm us) (x : Int) : heldBy ts x = heldBy us x := by
  induction h with
  | nil => rfl
  | cons t _ ih => show oneAt t.a x + _ = oneAt t.a x + _; rw [ih]
  | swap t u l => show oneAt u.a x + (oneAt t.a x + heldBy l x) = oneAt t.a x + (oneAt u.a x + heldBy l x); omega
  | trans _ _ i1 i2 => exact i1.trans i2
theorem oneAt_self {a : Int} (h : a ≠ 0) : oneAt a a = 1 := by unfold oneAt; rw [if_pos ⟨rfl, h⟩]
theorem oneAt_none (x : Int) : oneAt 0 x = 0 := by unfold oneAt; rw [if_neg fun h => h.2 rfl]
theorem Root.stay {Q Q' : Pgs} {a : Int} {L : List KV} {s : Nat} (h : Root Q a L s) (hz : heldOf Q 0 = 0) (h0 : a ≠ 0 → 0 < heldOf Q' a) (ht : ∀ lv, 0 < heldOf Q' a → Tr Q lv a L s → Tr Q' lv a L s) : Root Q' a L s := by
  rcases h.it with ⟨rfl, rfl, rfl⟩ | ⟨lv, hT, hs, hp⟩
  · exact .nil _
  · have ha : a ≠ 0 := by rintro rfl; omega
    exact ⟨.inr ⟨lv, ht lv (h0 ha) hT, hs, h0 ha⟩⟩
theorem Grove.perm {Q : Pgs} {ts us : List Tre} (h : Grove Q ts) (hp : ts.Perm us) : Grove Q us :=
  ⟨h.live, fun t ht => h.root t (hp.mem_iff.2 ht), fun x => by rw [h.held, heldBy_perm hp]⟩
theorem Grove.nil : Grove [] [] := ⟨fun a g h => (nomatch h), fun t h => (nomatch h), fun _ => rfl⟩
theorem Grove.more {Q : Pgs} {ts : List Tre} (h : Grove Q ts) : Grove Q (noTre :: ts) :=
  ⟨h.live, fun t ht => by
    rcases List.mem_cons.1 ht with rfl | ht
    · exact .nil _
    · exact h.root t ht, fun x => by rw [h.held]; show _ = oneAt 0 x + _; rw [oneAt_none, Int.zero_add]⟩
theorem Grove.less {Q : Pgs} {t : Tre} {ts : List Tre} (h : Grove Q (t :: ts)) (h0 : t.a = 0) : Grove Q ts :=
  ⟨h.live, fun t ht => h.root t (.tail _ ht), fun x => by rw [h.held]; show oneAt t.a x + _ = _; rw [h0, oneAt_none, Int.zero_add]⟩
theorem Grove.zero {Q : Pgs} {ts : List Tre} (h : Grove Q ts) : heldOf Q 0 = 0 := by rw [h.held, heldBy_zero]
theorem Grove.has {Q : Pgs} {ts : List Tre} (h : Grove Q ts) {t : Tre} (ht : t ∈ ts) (h0 : t.a ≠ 0) : ∃ g, VMap.get t.a Q = some g ∧ 1 ≤ g.held := by
  have h1 := heldBy_mem ht t.a
  rw [oneAt_self h0, ← h.held] at h1
  obtain ⟨g, hg, e⟩ := heldOf_some (Q := Q) (a := t.a) (by omega)
  exact ⟨g, hg, by omega⟩
/-- One tree is changed. -/
theorem Grove.moved {Q Q' : Pgs} {t : Tre} {ts : List Tre} {ta : Int} {L' : List KV} {s' : Nat} (h : Grove Q (t :: ts)) (hL : Live Q') (hm : Moved Q Q' t.a ta) (hR : Root Q' ta L' s') : Grove Q' (⟨ta, L', s'⟩ :: ts) := by
  have hh : ∀ x, heldOf Q' x = oneAt ta x + heldBy ts x := fun x => by
    have h1 := hm.held x
    have h2 : heldOf Q x = oneAt t.a x + heldBy ts x := h.held x
    omega
  refine ⟨hL, fun u hu => ?_, hh⟩
  rcases List.mem_cons.1 hu with rfl | hu
  · exact hR
  · refine (h.root u (.tail _ hu)).stay h.zero (fun h0 => ?_) fun lv hp hT => hm.tree _ _ _ _ hp hT
    have h1 := heldBy_mem hu u.a
    have h2 := oneAt_nn ta u.a
    rw [oneAt_self h0] at h1
    rw [hh]
    omega
/-- Nothing came of it. -/
theorem Grove.same {Q Q' : Pgs} {ts : List Tre} (h : Grove Q ts) (hL : Live Q') (hm : Moved Q Q' 0 0) : Grove Q' ts :=
  (Grove.moved (t := noTre) h.more hL hm (.nil _)).less rfl
theorem Grove.hold {Q : Pgs} {ts : List Tre} (h : Grove Q ts) {t : Tre} (ht : t ∈ ts) {g : Pg} (hg : VMap.get t.a Q = some g) (h0 : t.a ≠ 0) : Grove (VMap.put t.a (g.more 1) Q) (t :: ts) := by
  have hh : ∀ x, heldOf (VMap.put t.a (g.more 1) Q) x = oneAt t.a x + heldBy ts x := fun x => by
    rw [heldOf_put, ← h.held]
    by_cases e : x = t.a
    · subst e
      rw [if_pos rfl, oneAt_self h0]
      unfold heldOf
      rw [hg]
      exact Int.add_comm _ _
    · rw [if_neg e]
      unfold oneAt
      rw [if_neg fun x => e x.1, Int.zero_add]
  refine ⟨fun a g' hg' => ?_, fun u hu => ?_, hh⟩
  · rw [get_put] at hg'
    by_cases e : a = t.a
    · rw [if_pos e] at hg'
      obtain rfl := Option.some.inj hg'
      have := h.live t.a g hg
      show 0 < g.holds + 1
      omega
    · rw [if_neg e] at hg'
      exact h.live a g' hg'
  · have hu' : u ∈ ts := by
      rcases List.mem_cons.1 hu with rfl | hu
      · exact ht
      · exact hu
    refine (h.root u hu').stay h.zero (fun h1 => ?_) fun lv _ hT => hT.mono (more_same hg 1)
    have h2 := heldBy_mem hu' u.a
    have h3 := oneAt_nn t.a u.a
    rw [oneAt_self h1] at h2
    rw [hh]
    omega
theorem Grove.drop {es : List Ent} {Q Q' : Pgs} {t : Tre} {ts : List Tre} (h : Grove Q (t :: ts)) (h0 : t.a ≠ 0) (hd : Dropd t.a Q Q') (hI : FInv es Q (fun _ => 0)) (hI' : FInv es Q' (fun _ => 0)) : Grove Q' ts := by
  have hp : 0 < heldOf Q t.a := by
    have := heldBy_mem (t := t) (ts := t :: ts) (.head _) t.a
    rw [oneAt_self h0, ← h.held] at this
    omega
  have hh : ∀ x, heldOf Q' x = heldBy ts x := fun x => by
    have h1 := dropd_held hI hd hp x
    have h2 : heldOf Q x = oneAt t.a x + heldBy ts x := h.held x
    omega
  refine ⟨fun a g hg => ?_, fun u hu => ?_, hh⟩
  · rcases Int.lt_or_le 0 g.holds with h1 | h1
    · exact h1
    · obtain ⟨g0, hg0, h2⟩ := hd.loo a g hg h1
      have := h.live a g0 hg0
      omega
  · refine (h.root u (.tail _ hu)).stay h.zero (fun h1 => ?_) fun lv hp hT => hd.agree.trees hI' hp hT
    have h2 := heldBy_mem hu u.a
    rw [oneAt_self h1] at h2
    rw [hh]
    omega
/-- All pages are in few numbers. -/
theorem Grove.pages {es : List Ent} {Q : Pgs} {ts : List Tre} (hI : FInv es Q (fun _ => 0)) (h : Grove Q ts) : 2 * Q.length ≤ weighs ts := by
  have key : ∀ us : List Tre, (∀ t ∈ us, Root Q t.a t.L t.s) → ∃ Z : List Int, 2 * Z.length ≤ weighs us ∧ (∀ t ∈ us, 0 < heldOf Q t.a → t.a ∈ Z) ∧ ∀ b ∈ Z, ∀ g, VMap.get b Q = some g → ∀ c ∈ g.n.kids, c ∈ Z := by
    intro us
    induction us with
    | nil => exact fun _ => ⟨[], Nat.le_refl _, fun t h => (nomatch h), fun b h => (nomatch h)⟩
    | cons t us ih =>
      intro hr
      obtain ⟨Z, z1, z2, z3⟩ := ih fun u hu => hr u (.tail _ hu)
      obtain ⟨Y, y1, y2, y3⟩ := (hr t (.head _)).pages hI
      refine ⟨Y ++ Z, by rw [List.length_append]; show _ ≤ t.s + weighs us; omega, fun u hu hp => ?_, fun b hb g hg c hc => ?_⟩
      · rcases List.mem_cons.1 hu with rfl | hu
        · exact List.mem_append_left _ (y2 hp)
        · exact List.mem_append_right _ (z2 u hu hp)
      · rcases List.mem_append.1 hb with hb | hb
        · exact List.mem_append_left _ (y3 b hb g hg c hc)
        · exact List.mem_append_right _ (z3 b hb g hg c hc)
  obtain ⟨Z, z1, z2, z3⟩ := key ts h.root
  have hall := h.live.all hI (Z := Z) (fun x g hg hpos => by
    have h1 : 0 < heldOf Q x := by unfold heldOf; rw [hg]; exact hpos
    have h2 : 0 < heldBy ts x := by rw [← h.held]; exact h1
    have who : ∀ us : List Tre, 0 < heldBy us x → ∃ t ∈ us, t.a = x := by
      intro us
      induction us with
      | nil => intro h; exact absurd h (by simp [heldBy])
      | cons t us ih =>
        intro hp
        by_cases h1 : 0 < oneAt t.a x
        · exact ⟨t, .head _, (oneAt_pos h1).symm⟩
        · have h2 : 0 < oneAt t.a x + heldBy us x := hp
          obtain ⟨u, hu, e⟩ := ih (by omega)
          exact ⟨u, .tail _ hu, e⟩
    obtain ⟨t, ht, rfl⟩ := who ts h2
    exact z2 t ht h1) z3
  have := len_in hI.up hall
  omega
/-- Two devices of 400 that are full have 796 pages. -/
theorem full_two {es : List Ent} {Q : Pgs} (h : FullQ es Q) (h0 : es[0]? = some ⟨1, 400⟩) (h1 : es[1]? = some ⟨1, 400⟩) : 796 ≤ Q.length := by
  have hup : VMap.Up ((List.range 796).map fun i => ((if i < 398 then lenV 0 (i + 2) else lenV 1 (i - 396)), (⟨⟨0, [], []⟩, 0, 0⟩ : Pg))) := by
    refine List.pairwise_map.2 (List.Pairwise.imp_of_mem (R := fun a b => a < b) ?_ List.pairwise_lt_range)
    intro a b ha hb hab
    have hb := List.mem_range.1 hb
    show (if a < 398 then lenV 0 (a + 2) else lenV 1 (a - 396)) < (if b < 398 then lenV 0 (b + 2) else lenV 1 (b - 396))
    unfold lenV
    split <;> split <;> omega
  have := len_in hup (Z := Q.map (·.1)) fun a g hg => by
    obtain ⟨i, hi, e⟩ := List.mem_map.1 (get_mem hg)
    injection e with e _
    have hi := List.mem_range.1 hi
    have h2 : (VMap.get a Q).isSome = true := by
      rw [← e]
      split
      · exact h 0 ⟨1, 400⟩ h0 rfl (i + 2) (by omega) (by show i + 2 < 400; omega)
      · exact h 1 ⟨1, 400⟩ h1 rfl (i - 396) (by omega) (by show i - 396 < 400; omega)
    obtain ⟨g', hg'⟩ := Option.isSome_iff_exists.1 h2
    exact List.mem_map.2 ⟨(a, g'), get_mem hg', rfl⟩
  rw [List.length_map, List.length_map, List.length_range] at this
  exact this
end Go.Proofs.YtgbgneiciabidaaGreatDoor
/-
  The statements of layer 12: is; a number modulo 4.
-/
namespace Go.Proofs.YtgbgneiciabidaaGreatDoor
open Go Go.RowKit Go.Extern.Stop Go.Stop Go.Extern
set_option linter.all false

def mod4 (n : Int) : Nat := ((n.tmod 4 + 4).tmod 4).toNat
theorem mod4_lt (n : Int) : mod4 n < 4 := by unfold mod4; have := Int.tmod_lt_of_pos (n.tmod 4 + 4) (b := 4) (by decide); omega
theorem mod4_int (n : Int) : (n.tmod 4 + 4).tmod 4 = (mod4 n : Int) := by
  unfold mod4
  have h1 := Int.lt_tmod_of_pos n (b := 4) (by decide)
  have := Int.tmod_nonneg (a := n.tmod 4 + 4) 4 (by omega)
  omega
set_option maxRecDepth 100000 in
theorem law_mod (n : Int) (w : World) : Calls Tryz.prog 52 #[.int .i64 n] w fun r w' => r = .returned (.int .i64 (mod4 n : Int)) ∧ w = w' := by
  have h1 : IntKind.i64.wrap (n.tmod 4 + 4) = n.tmod 4 + 4 := by
    have h1 := Int.lt_tmod_of_pos n (b := 4) (by decide)
    have h2 := Int.tmod_lt_of_pos n (b := 4) (by decide)
    exact IntWalk.i64_in _ (by omega)
  have h2 := mod4_int n
  go_enter Tryz.func52, Tryz.ntmps52
  go_wp2
  go_ret
  exact ⟨by simp only [← h2]; go_num, rfl⟩
set_option maxRecDepth 100000 in
theorem law_is12 (e : Option Int) (want : Int) (w : World) (b0 : -9223372036854775808 ≤ want) (b1 : want ≤ 9223372036854775807) : Calls Tryz.prog 49 #[errE e, .int .i64 want] w fun r w' => r = .returned (.bool (isE e want)) ∧ w = w' := by
  cases hw : (want == 0) with
  | true =>
    cases e with
    | none =>
      simp only [errE, isE, hw]
      go_enter Tryz.func49, Tryz.ntmps49
      go_wp2
      go_ret
      exact ⟨rfl, rfl⟩
    | some c =>
      simp only [errE, isE, hw, errV]
      go_enter Tryz.func49, Tryz.ntmps49
      go_wp2
      go_ret
      exact ⟨rfl, rfl⟩
  | false =>
    cases e with
    | none =>
      simp only [errE, isE, hw]
      go_enter Tryz.func49, Tryz.ntmps49
      go_wp2
      go_ret
      exact ⟨rfl, rfl⟩
    | some c =>
      have HI := Lib.hid (errors_Is c want w)
      simp only [errE, isE, hw, errV] at HI ⊢
      go_enter Tryz.func49, Tryz.ntmps49
      go_wp2_with fail
      refine HI.out.mono ?_
      rintro r w1 ⟨rfl, rfl⟩
      go_wp2
      go_ret
      exact ⟨rfl, rfl⟩
end Go.Proofs.YtgbgneiciabidaaGreatDoor
/-
  The document's answer of layer 12 (portageref12): Find, Without, Set.
-/
namespace Go.Proofs.YtgbgneiciabidaaGreatDoor
open Go Go.RowKit
set_option linter.all false

/-- The document's pairs as a row. -/
def kvS (v : Value) (L : List KV) : Say := rowS 190 2 v L.length (L.flatMap pairCells)
theorem info_kv : (Tryz.prog.info? 190).map (fun i => (i.zero, i.size, i.bytes)) = some (some (.agg #[.int .i64 0, .int .i64 0]), 2, 16) := by kernel_rfl
theorem Has.kv_read {w : World} {l : List Say} {v : Value} {L : List KV} (h : Has w l) (hm : kvS v L ∈ l) :
    ∃ a c, v = .slice a L.length c ∧ ∀ k p, L[k]? = some p → ∃ g, a = some ⟨g, 0, none⟩ ∧ w.cell? ⟨g, k * 2, none⟩ = some (.int .i64 p.1) ∧ w.cell? ⟨g, k * 2 + 1, none⟩ = some (.int .i64 p.2) := by
  obtain ⟨h1, h2⟩ := h.row_own hm
  rcases h2 with ⟨rfl, h0⟩ | ⟨g, cap, cur, rfl, _, hg, hn, hc, hs, ht⟩
  · refine ⟨none, 0, by rw [h0], fun k p hp => ?_⟩
    have := (List.getElem?_eq_some_iff.1 hp).1
    omega
  · refine ⟨_, cap, rfl, fun k p hp => ⟨g, rfl, ?_⟩⟩
    have hx : ∀ (ps : List (Int × Int)) (k : Nat) (p : Int × Int), ps[k]? = some p → (ps.flatMap pairCells)[k * 2]? = some (.int .i64 p.1) ∧ (ps.flatMap pairCells)[k * 2 + 1]? = some (.int .i64 p.2) := by
      intro ps
      induction ps with
      | nil => intro k p hp; simp at hp
      | cons q ps ih =>
        intro k p hp
        cases k with
        | zero => simp at hp; subst hp; simp [pairCells]
        | succ k =>
          have := ih k p (by simpa using hp)
          have e : (q :: ps).flatMap pairCells = [.int .i64 q.1, .int .i64 q.2] ++ ps.flatMap pairCells := rfl
          rw [e]
          constructor
          · rw [List.getElem?_append_right (by simp; omega)]; simpa [show (k + 1) * 2 - 2 = k * 2 by omega] using this.1
          · rw [List.getElem?_append_right (by simp; omega)]; simpa [show (k + 1) * 2 + 1 - 2 = k * 2 + 1 by omega] using this.2
    obtain ⟨e1, e2⟩ := hx L k p hp
    have take : ∀ (j : Nat) (u : Value), (L.flatMap pairCells)[j]? = some u → cur[j]? = some u := by
      intro j u hu
      rw [← ht, List.getElem?_take] at hu
      split at hu
      · simpa using hu
      · cases hu
    exact ⟨cell_of hg _ (take _ _ e1), cell_of hg _ (take _ _ e2)⟩
/-- A pair is appended that lies in a block of its own. -/
theorem wpList_append_kv {w : World} {l : List Say} {ops : Array Oper} {rest : List Oper} {o : Oper} {a : Act} {Q : Exit → Act → World → Prop} (hgd : o.guard = none) (s x : Operand)
    (hop : o.op = .call { callee := .builtin .append, args := #[s, x], argTypes := #[67, 67] })
    {v : Value} {L : List KV} (hs : a.eval s = v) {bx : Nat} {y1 y2 : Int} (hx : a.eval x = .slice (some ⟨bx, 0, none⟩) 1 1) (hown : Has w (kvS v L :: l)) (hm : pts bx (.cells #[.int .i64 y1, .int .i64 y2] 190 (0, 0)) ∈ l)
    (hlen : L.length ≤ 1000000)
    (h : ∀ v' w', Kept w w' → Has w' (kvS v' (L ++ [(y1, y2)]) :: l) → wpList Tryz.prog ops Q rest (a.put o.dst v') w') : wpList Tryz.prog ops Q (o :: rest) a w := by
  obtain ⟨i0, I1, I2, I3, I4⟩ := info_parts info_kv
  refine wpList_append_row hgd s x 67 hop 190 i0 (.agg #[.int .i64 0, .int .i64 0]) 2 16 Tryz.underlying67 I1 I2 I3 I4 rfl (by decide) _ _ (L.flatMap pairCells) hs hown ⟨bx, 0, none⟩ 1 1 [.int .i64 y1, .int .i64 y2] hx rfl ?_ (by simp [Value.oneCell']) (by unfold maxLen; omega) (by omega) ?_
  · intro j u hu
    have hb := hown.at (b := bx) (o := .cells #[.int .i64 y1, .int .i64 y2] 190 (0, 0)) (List.mem_cons_of_mem _ hm)
    rw [Addr.add_lit, Nat.zero_add]
    refine cell_of hb j ?_
    simpa using hu
  · intro v' w' hK hh
    have e1 : rowS 190 2 v' (L.length + 1) (L.flatMap pairCells ++ [.int .i64 y1, .int .i64 y2]) = kvS v' (L ++ [(y1, y2)]) := by unfold kvS; rw [List.length_append, List.flatMap_append]; rfl
    rw [e1] at hh
    exact h v' w' hK hh

theorem delL_snoc (A : List KV) (x : KV) (key : Int) : delL (A ++ [x]) key = if x.1 = key then delL A key else delL A key ++ [x] := by
  unfold delL
  rw [List.filter_append]
  by_cases h : x.1 = key
  · rw [if_pos h, List.filter_cons, if_neg (by simp [h])]; simp
  · rw [if_neg h, List.filter_cons, if_pos (by simp [h])]; simp
def WoM (w : World) (l : List Say) (L : List KV) (key : Int) (k : Nat) (ov : Value) (wr : World) : Prop := Kept w wr ∧ Has wr (kvS ov (delL (L.take k) key) :: l)
def KvPost (L : List KV) (l : List Say) (w : World) (r : Ending) (w' : World) : Prop := ∃ v, r = .returned v ∧ Kept w w' ∧ Has w' (kvS v L :: l)
set_option maxHeartbeats 4000000 in
set_option maxRecDepth 100000 in
theorem ref_Without {w : World} {l : List Say} {v : Value} {L : List KV} (key : Int) (h : Has w l) (hm : kvS v L ∈ l) (hl : L.length ≤ 100000) :
    Calls Tryz.prog 107 #[v, .int .i64 key] w (KvPost (delL L key) l w) := by
  obtain ⟨a, c, rfl, _⟩ := h.kv_read hm
  obtain ⟨n, hn⟩ : ∃ n, L.length = n := ⟨_, rfl⟩
  rw [hn] at hm hl ⊢
  have HM0 : Hid (WoM w l L key 0 (.slice none 0 0) w) := ⟨Kept.refl w, h.row_nil _ _⟩
  have Hm := Lib.hid (And.intro hm hn)
  clear h hm hn
  go_enter Tryz.func107, Tryz.ntmps107
  go_wp2
  go_loopg [5, 6] n (fun gk ov i wr => ∃ k : Nat, k ≤ n ∧ gk = n - k ∧ i = .int .i64 k ∧ Hid (WoM w l L key k ov wr))
  case atStart => exact ⟨0, Nat.zero_le _, rfl, rfl, HM0⟩
  case round =>
    clear HM0
    obtain ⟨k, hk, rfl, rfl, HM⟩ := hrel
    obtain ⟨hK, hh⟩ := HM.out
    clear HM
    by_cases hlt : k < n
    · obtain ⟨b1, c1, e1, r1⟩ := hh.kv_read (.tail _ Hm.out.1)
      injection e1 with e1 e2 e3
      subst e1
      clear e2 e3
      obtain ⟨x, hx⟩ : ∃ x, L[k]? = some x := ⟨_, List.getElem?_eq_getElem (by have := Hm.out.2; omega)⟩
      obtain ⟨g, rfl, x0, x1⟩ := r1 k x hx
      obtain ⟨xk, xv⟩ := x
      simp only at x0 x1
      have lx := World.block_lt_of_cell? _ _ x0
      have kI : (k : Int) < (n : Int) := by omega
      have k0 : (0 : Int) ≤ k := by omega
      have nI : (n : Int) ≤ 100000 := by omega
      have hsn := delL_snoc (L.take k) (xk, xv) key
      rw [← (take_succ hx).1] at hsn
      simp only at hsn
      have hdl : (delL (L.take k) key).length ≤ 1000000 := by
        unfold delL
        have := List.length_filter_le (fun p : KV => !(p.1 == key)) (L.take k)
        rw [List.length_take] at this
        omega
      by_cases he : xk = key
      · rw [if_pos he] at hsn
        have HM2 : Hid (WoM w l L key (k + 1) u5 wr) := ⟨hK, by rw [hsn]; exact hh⟩
        have hb : (!xk == key) = false := by simp [he]
        clear hK hh r1 hx hsn hdl
        go_wp2
        go_roundg (n - (k + 1))
        case measure => omega
        case rel => exact ⟨k + 1, by omega, rfl, by go_num, HM2⟩
      · rw [if_neg he] at hsn
        have Hsn := Lib.hid hsn
        have hA := hh.alloc (.cells #[.int .i64 xk, .int .i64 xv] 190)
        have HA := Lib.hid hA.swap
        have HK := Lib.hid (hK.alloc (.cells #[.int .i64 xk, .int .i64 xv] 190))
        have Hdl := Lib.hid hdl
        have hb : (!xk == key) = true := by simp [he]
        clear hK hh r1 hx hsn hA hdl
        go_upto_region 4 with (at_builtin; refine wpList_append_kv rfl (.tmp 20) (.tmp 25) rfl rfl rfl HA.out (.head _) Hdl.out ?_; intro v2 w2 hK2 h2)
        have HM2 : Hid (WoM w l L key (k + 1) v2 w2) := ⟨HK.out.trans hK2, by rw [Hsn.out]; exact Has.skip (A := [_]) (M := [_]) h2⟩
        clear hK2 h2 HA HK Hsn x0 x1
        go_wp2
        go_roundg (n - (k + 1))
        case measure => omega
        case rel => exact ⟨k + 1, by omega, rfl, by go_num, HM2⟩
    · have hke : k = n := by omega
      rw [List.take_of_length_le (by have := Hm.out.2; omega)] at hh
      have HF : Hid (KvPost (delL L key) l w (.returned u5) wr) := ⟨_, rfl, hK, hh⟩
      clear hK hh
      subst hke
      go_wp2
      go_ret
      exact HF.out
end Go.Proofs.YtgbgneiciabidaaGreatDoor
/-
  The document's answer of layer 12 (portageref12): Set.
-/
namespace Go.Proofs.YtgbgneiciabidaaGreatDoor
open Go Go.RowKit
set_option linter.all false

theorem flt_all {A : List KV} {p : KV → Bool} (h : ∀ x ∈ A, p x = true) : A.filter p = A := List.filter_eq_self.2 h
theorem flt_none {A : List KV} {p : KV → Bool} (h : ∀ x ∈ A, p x = false) : A.filter p = [] := List.filter_eq_nil_iff.2 fun x hx => by rw [h x hx]; exact Bool.false_ne_true
/-- Nothing at or behind the key yet. -/
theorem putL_end {A : List KV} {k v : Int} (h : ∀ x ∈ A, x.1 < k) : putL A k v = A ++ [(k, v)] := by
  unfold putL
  rw [flt_all (fun x hx => by simpa using h x hx), flt_none (fun x hx => by have := h x hx; simp; omega)]
theorem putL_app {A : List KV} {x : KV} {k v : Int} (h : k < x.1) : putL (A ++ [x]) k v = putL A k v ++ [x] := by
  unfold putL
  have h1 : ¬ x.1 < k := by omega
  simp [List.filter_append, List.filter_cons, h, h1]
theorem putL_eq1 {A : List KV} {x : KV} {k v : Int} (h : x.1 = k) : putL (A ++ [x]) k v = putL A k v := by
  unfold putL
  have h1 : ¬ x.1 < k := by omega
  have h2 : ¬ k < x.1 := by omega
  simp [List.filter_append, List.filter_cons, h1, h2]
def seO (A : List KV) (key val : Int) (put : Bool) : List KV := if put then putL A key val else A
def SeM (w : World) (l : List Say) (L : List KV) (key val : Int) (k : Nat) (put : Bool) (ov : Value) (wr : World) : Prop :=
  (if put then ∃ x ∈ L.take k, key ≤ x.1 else ∀ x ∈ L.take k, x.1 < key) ∧ Kept w wr ∧ Has wr (kvS ov (seO (L.take k) key val put) :: l)
theorem seO_len (A : List KV) (key val : Int) (put : Bool) : (seO A key val put).length ≤ A.length + A.length + 1 := by
  unfold seO
  split
  · unfold putL
    rw [List.length_append, List.length_cons]
    refine Nat.le_trans (Nat.add_le_add (List.length_filter_le _ _) (Nat.succ_le_succ (List.length_filter_le _ _))) ?_
    omega
  · omega
set_option maxHeartbeats 8000000 in
set_option maxRecDepth 100000 in
theorem ref_Set {w : World} {l : List Say} {v : Value} {L : List KV} (key val : Int) (h : Has w l) (hm : kvS v L ∈ l) (hs : Srt L) (hl : L.length ≤ 100000) :
    Calls Tryz.prog 106 #[v, .int .i64 key, .int .i64 val] w (KvPost (putL L key val) l w) := by
  obtain ⟨a, c, rfl, _⟩ := h.kv_read hm
  obtain ⟨n, hn⟩ : ∃ n, L.length = n := ⟨_, rfl⟩
  rw [hn] at hm hl ⊢
  have HM0 : Hid (SeM w l L key val 0 false (.slice none 0 0) w) := ⟨by simp, Kept.refl w, h.row_nil _ _⟩
  have Hm := Lib.hid (And.intro hm (And.intro hn hs))
  clear h hm hn hs
  go_enter Tryz.func106, Tryz.ntmps106
  go_wp2
  go_loopg [7, 8, 9] n (fun gk ov pv i wr => ∃ (k : Nat) (put : Bool), k ≤ n ∧ gk = n - k ∧ pv = .bool put ∧ i = .int .i64 k ∧ Hid (SeM w l L key val k put ov wr))
  case atStart => exact ⟨0, false, Nat.zero_le _, rfl, rfl, rfl, HM0⟩
  case round =>
    clear HM0
    obtain ⟨k, put, hk, rfl, rfl, rfl, HM⟩ := hrel
    obtain ⟨hput, hK, hh⟩ := HM.out
    clear HM
    by_cases hlt : k < n
    · obtain ⟨b1, c1, e1, r1⟩ := hh.kv_read (.tail _ Hm.out.1)
      injection e1 with e1 e2 e3
      subst e1
      clear e2 e3
      obtain ⟨x, hx⟩ : ∃ x, L[k]? = some x := ⟨_, List.getElem?_eq_getElem (by have := Hm.out.2.1; omega)⟩
      obtain ⟨g, rfl, x0, x1⟩ := r1 k x hx
      have hts := (take_succ hx).1
      have hsx : ∀ y ∈ L.take k, y.1 < x.1 := fun y hy => by
        have h1 := Hm.out.2.2
        rw [(take_succ hx).2] at h1
        exact (List.pairwise_append.1 h1).2.2 y hy x (.head _)
      obtain ⟨xk, xv⟩ := x
      simp only at x0 x1 hsx
      have lx := World.block_lt_of_cell? _ _ x0
      have kI : (k : Int) < (n : Int) := by omega
      have k0 : (0 : Int) ≤ k := by omega
      have nI : (n : Int) ≤ 100000 := by omega
      have hol := seO_len (L.take k) key val put
      have htl : (L.take k).length ≤ 100000 := by rw [List.length_take]; omega
      have Hol : Hid ((seO (L.take k) key val put).length ≤ 300000) := by show _ ≤ _; omega
      clear hol htl
      have HAp : Hid (∀ (y1 y2 : Int) (w1 : World) (v1 : Value) (A : List KV), Kept w w1 → True) := fun _ _ _ _ _ _ => trivial
      clear HAp
      cases put with
      | true =>
        have hput : ∃ y ∈ L.take k, key ≤ y.1 := hput
        have hgt : key < xk := by
          obtain ⟨y, hy, h1⟩ := hput
          have := hsx y hy
          omega
        have hnew : SeM w l L key val (k + 1) true = fun ov wr => (∃ y ∈ L.take (k + 1), key ≤ y.1) ∧ Kept w wr ∧ Has wr (kvS ov (seO (L.take k) key val true ++ [(xk, xv)]) :: l) := by
          funext ov wr
          unfold SeM seO
          rw [hts]
          simp only [if_true]
          rw [putL_app (show key < (xk, xv).1 from hgt)]
        have hex : ∃ y ∈ L.take (k + 1), key ≤ y.1 := ⟨(xk, xv), by rw [hts]; simp, by show key ≤ xk; omega⟩
        have HN := Lib.hid (And.intro hnew hex)
        have hA := hh.alloc (.cells #[.int .i64 xk, .int .i64 xv] 190)
        have HA := Lib.hid hA.swap
        have HK := Lib.hid (hK.alloc (.cells #[.int .i64 xk, .int .i64 xv] 190))
        have hb : (!xk == key) = true := by simp; omega
        clear hK hh r1 hx hA hput hts hsx hnew hex
        go_upto_region 5 with (at_builtin; refine wpList_append_kv rfl (.tmp 40) (.tmp 45) rfl rfl rfl HA.out (.head _) (by have := Hol.out; omega) ?_; intro v2 w2 hK2 h2)
        have HM2 : Hid (SeM w l L key val (k + 1) true v2 w2) := by
          show SeM _ _ _ _ _ _ _ _ _
          rw [HN.out.1]
          exact ⟨HN.out.2, HK.out.trans hK2, Has.skip (A := [_]) (M := [_]) h2⟩
        clear hK2 h2 HA HK HN x0 x1 Hol
        go_wp2
        go_roundg (n - (k + 1))
        case measure => omega
        case rel => exact ⟨k + 1, true, by omega, rfl, rfl, by go_num, HM2⟩
      | false =>
        have hput : ∀ y ∈ L.take k, y.1 < key := hput
        have hseo : seO (L.take k) key val false = L.take k := rfl
        rw [hseo] at hh Hol
        by_cases hge : key ≤ xk
        · have hA := hh.alloc (.cells #[.int .i64 key, .int .i64 val] 190)
          have HA := Lib.hid hA.swap
          have HK := Lib.hid (hK.alloc (.cells #[.int .i64 key, .int .i64 val] 190))
          have hend := putL_end (v := val) hput
          have hex : ∃ y ∈ L.take (k + 1), key ≤ y.1 := ⟨(xk, xv), by rw [hts]; simp, hge⟩
          have HN := Lib.hid (And.intro hex (And.intro hend hts))
          have Hkv := Lib.hid (And.intro Hm.out.1 hx)
          clear hK hh r1 hx hA hput hts hsx hseo hex hend
          go_upto_region 8 with (at_builtin; refine wpList_append_kv rfl (.tmp 27) (.tmp 31) rfl rfl rfl HA.out (.head _) (by have := Hol.out; omega) ?_; intro v2 w2 hK2 h2)
          have h3 : Has w2 (kvS v2 (L.take k ++ [(key, val)]) :: l) := Has.skip (A := [_]) (M := [_]) h2
          obtain ⟨_, _, e2, r2⟩ := h3.kv_read (.tail _ Hkv.out.1)
          injection e2 with e2 e2b e2c
          subst e2
          clear e2b e2c
          obtain ⟨_, e3, x0', x1'⟩ := r2 k _ Hkv.out.2
          injection e3 with e3
          injection e3 with e3
          subst e3
          simp only at x0' x1'
          have lx' := World.block_lt_of_cell? _ _ x0'
          have HK2 := Lib.hid (HK.out.trans hK2)
          have H3 := Lib.hid h3
          clear h2 h3 hK2 HK HA r2 Hkv x0 x1 lx
          by_cases he : xk = key
          · have hb : (!xk == key) = false := by simp [he]
            have HM2 : Hid (SeM w l L key val (k + 1) true v2 w2) := by
              refine ⟨HN.out.1, HK2.out, ?_⟩
              unfold seO
              rw [if_pos rfl, HN.out.2.2, putL_eq1 (show (xk, xv).1 = key from he), HN.out.2.1]
              exact H3.out
            clear H3 HK2 HN Hol
            go_wp2
            go_roundg (n - (k + 1))
            case measure => omega
            case rel => exact ⟨k + 1, true, by omega, rfl, rfl, by go_num, HM2⟩
          · have hb : (!xk == key) = true := by simp [he]
            have hA := H3.out.alloc (.cells #[.int .i64 xk, .int .i64 xv] 190)
            have HA := Lib.hid hA.swap
            have HK := Lib.hid (HK2.out.alloc (.cells #[.int .i64 xk, .int .i64 xv] 190))
            clear H3 HK2 hA
            go_upto_region 5 with (at_builtin; refine wpList_append_kv rfl (.tmp 40) (.tmp 45) rfl rfl rfl HA.out (.head _) (by have := Hol.out; rw [List.length_append, List.length_singleton]; omega) ?_; intro v3 w3 hK3 h4)
            have HM2 : Hid (SeM w l L key val (k + 1) true v3 w3) := by
              refine ⟨HN.out.1, HK.out.trans hK3, ?_⟩
              unfold seO
              rw [if_pos rfl, HN.out.2.2, putL_app (show key < (xk, xv).1 from by show key < xk; omega), HN.out.2.1]
              exact Has.skip (A := [_]) (M := [_]) h4
            clear hK3 h4 HA HK HN x0' x1' lx' Hol
            go_wp2
            go_roundg (n - (k + 1))
            case measure => omega
            case rel => exact ⟨k + 1, true, by omega, rfl, rfl, by go_num, HM2⟩
        · have hb : (!xk == key) = true := by simp; omega
          have hlt2 : ∀ y ∈ L.take (k + 1), y.1 < key := fun y hy => by
            rw [hts] at hy
            rcases List.mem_append.1 hy with hy | hy
            · exact hput y hy
            · have : y = (xk, xv) := by simpa using hy
              rw [this]
              show xk < key
              omega
          have HN := Lib.hid (And.intro hlt2 hts)
          have hA := hh.alloc (.cells #[.int .i64 xk, .int .i64 xv] 190)
          have HA := Lib.hid hA.swap
          have HK := Lib.hid (hK.alloc (.cells #[.int .i64 xk, .int .i64 xv] 190))
          clear hK hh r1 hx hA hput hts hsx hseo hlt2
          go_upto_region 5 with (at_builtin; refine wpList_append_kv rfl (.tmp 40) (.tmp 45) rfl rfl rfl HA.out (.head _) (by have := Hol.out; omega) ?_; intro v2 w2 hK2 h2)
          have HM2 : Hid (SeM w l L key val (k + 1) false v2 w2) := by
            refine ⟨HN.out.1, HK.out.trans hK2, ?_⟩
            show Has w2 (kvS v2 (L.take (k + 1)) :: l)
            rw [HN.out.2]
            exact Has.skip (A := [_]) (M := [_]) h2
          clear hK2 h2 HA HK HN x0 x1 Hol
          go_wp2
          go_roundg (n - (k + 1))
          case measure => omega
          case rel => exact ⟨k + 1, false, by omega, rfl, rfl, by go_num, HM2⟩
    · have hke : k = n := by omega
      rw [List.take_of_length_le (by have := Hm.out.2.1; omega)] at hh hput
      cases put with
      | true =>
        have HF : Hid (KvPost (putL L key val) l w (.returned u7) wr) := ⟨_, rfl, hK, hh⟩
        clear hK hh hput
        subst hke
        go_wp2
        go_ret
        exact HF.out
      | false =>
        have hput : ∀ y ∈ L, y.1 < key := hput
        have hh : Has wr (kvS u7 L :: l) := hh
        have hA := hh.alloc (.cells #[.int .i64 key, .int .i64 val] 190)
        have HA := Lib.hid hA.swap
        have HK := Lib.hid (hK.alloc (.cells #[.int .i64 key, .int .i64 val] 190))
        have Hend := Lib.hid (putL_end (v := val) hput)
        have Hl : Hid (L.length ≤ 1000000) := by show _ ≤ _; have := Hm.out.2.1; omega
        clear hK hh hA hput
        subst hke
        go_upto_region 13 with (at_builtin; refine wpList_append_kv rfl (.tmp 49) (.tmp 53) rfl rfl rfl HA.out (.head _) Hl.out ?_; intro v2 w2 hK2 h2)
        have HF : Hid (KvPost (putL L key val) l w (.returned v2) w2) := ⟨_, rfl, HK.out.trans hK2, by rw [Hend.out]; exact Has.skip (A := [_]) (M := [_]) h2⟩
        clear hK2 h2 HA HK Hend
        go_wp2
        go_ret
        exact HF.out
end Go.Proofs.YtgbgneiciabidaaGreatDoor
/-
  The document's answer of layer 12 (portageref12): Find; pairs that are told, and the document's.
-/
namespace Go.Proofs.YtgbgneiciabidaaGreatDoor
open Go Go.RowKit
set_option linter.all false

def fdV (L : List KV) (key : Int) : Value := match getK L key with
  | some v => .tuple #[.int .i64 v, .bool true]
  | none => .tuple #[.int .i64 0, .bool false]
set_option maxHeartbeats 4000000 in
set_option maxRecDepth 100000 in
theorem ref_Find {w : World} {l : List Say} {v : Value} {L : List KV} (key : Int) (h : Has w l) (hm : kvS v L ∈ l) (hs : Srt L) (hl : L.length ≤ 100000) :
    Calls Tryz.prog 48 #[v, .int .i64 key] w (fun r w' => r = .returned (fdV L key) ∧ w = w') := by
  obtain ⟨a, c, rfl, hr⟩ := h.kv_read hm
  obtain ⟨n, hn⟩ : ∃ n, L.length = n := ⟨_, rfl⟩
  rw [hn] at hl ⊢
  have Hr := Lib.hid (And.intro hr (And.intro hn hs))
  clear h hm hn hs hr
  go_enter Tryz.func48, Tryz.ntmps48
  go_wp2
  go_loopg [6] n (fun gk i wr => ∃ k : Nat, k ≤ n ∧ gk = n - k ∧ i = .int .i64 k ∧ wr = w ∧ Hid (∀ x ∈ L.take k, x.1 ≠ key))
  case atStart => exact ⟨0, Nat.zero_le _, rfl, rfl, rfl, by show ∀ x ∈ L.take 0, _; simp⟩
  case round =>
    obtain ⟨k, hk, rfl, rfl, rfl, HM⟩ := hrel
    by_cases hlt : k < n
    · obtain ⟨x, hx⟩ : ∃ x, L[k]? = some x := ⟨_, List.getElem?_eq_getElem (by have := Hr.out.2.1; omega)⟩
      obtain ⟨g, rfl, x0, x1⟩ := Hr.out.1 k x hx
      have hts := (take_succ hx).1
      have hxm : x ∈ L := List.mem_of_getElem? hx
      obtain ⟨xk, xv⟩ := x
      simp only at x0 x1
      have lx := World.block_lt_of_cell? _ _ x0
      have kI : (k : Int) < (n : Int) := by omega
      have k0 : (0 : Int) ≤ k := by omega
      have nI : (n : Int) ≤ 100000 := by omega
      by_cases he : xk = key
      · have hb : (xk == key) = true := by simp [he]
        have HF : Hid (fdV L key = .tuple #[.int .i64 xv, .bool true]) := by
          show _ = _
          unfold fdV
          rw [← he, getK_at Hr.out.2.2 hxm]
        clear hx hts hxm HM
        go_wp2
        go_ret2
        exact ⟨by rw [HF.out]; rfl, rfl⟩
      · have hb : (xk == key) = false := by simp [he]
        have HM2 : Hid (∀ x ∈ L.take (k + 1), x.1 ≠ key) := by
          show ∀ x ∈ _, _
          rw [hts]
          intro y hy
          rcases List.mem_append.1 hy with hy | hy
          · exact HM.out y hy
          · have : y = (xk, xv) := by simpa using hy
            rw [this]
            exact he
        clear hx hts hxm HM
        go_wp2
        go_roundg (n - (k + 1))
        case measure => omega
        case rel => exact ⟨k + 1, by omega, rfl, by go_num, rfl, HM2⟩
    · have hke : k = n := by omega
      have hno := HM.out
      rw [List.take_of_length_le (by have := Hr.out.2.1; omega)] at hno
      have HF : Hid (fdV L key = .tuple #[.int .i64 0, .bool false]) := by
        show _ = _
        unfold fdV
        rw [getK_none hno]
      clear hno HM
      subst hke
      go_wp2
      go_ret2
      exact ⟨by rw [HF.out]; rfl, rfl⟩
end Go.Proofs.YtgbgneiciabidaaGreatDoor
/-
  The statements of layer 12: the trees of a statement, their lists, and a call on one of them.
-/
namespace Go.Proofs.YtgbgneiciabidaaGreatDoor
open Go Go.RowKit
set_option linter.all false

def treesC (sp p : Nat) (az : List Int) (vs : List Value) : Array Value := (.pointer (some ⟨sp, 0, none⟩) :: .pointer (some ⟨p, 0, none⟩) :: (az.map intVal ++ vs)).toArray
/-- The trees' roots and lists. -/
def treesT (t sp p : Nat) (az : List Int) (vs : List Value) : Say := pts t (.cells (treesC sp p az vs) 70 (0, 0))
def kvR (r : Value × List KV) : Say := kvS r.1 r.2
theorem kvR_mem {v : Value} {L : List KV} {rs : List (Value × List KV)} (h : (v, L) ∈ rs) : kvS v L ∈ rs.map kvR := List.mem_map.2 ⟨_, h, rfl⟩
theorem treesC_root {sp p : Nat} {az : List Int} {vs : List Value} {i : Nat} {a : Int} (h : az[i]? = some a) : (treesC sp p az vs)[2 + i]? = some (.int .i64 a) := by
  have hi := (List.getElem?_eq_some_iff.1 h).1
  unfold treesC
  rw [List.getElem?_toArray, Nat.add_comm, List.getElem?_cons_succ, List.getElem?_cons_succ, List.getElem?_append_left (by simpa using hi), List.getElem?_map, h]
  rfl
theorem treesC_list {sp p : Nat} {az : List Int} {vs : List Value} {i : Nat} {v : Value} (h4 : az.length = 4) (h : vs[i]? = some v) : (treesC sp p az vs)[6 + i]? = some v := by
  unfold treesC
  rw [List.getElem?_toArray, show 6 + i = (i + 4) + 1 + 1 by omega, List.getElem?_cons_succ, List.getElem?_cons_succ, List.getElem?_append_right (by simp [h4]), List.length_map, h4, Nat.add_sub_cancel]
  exact h
theorem treesC_size {sp p : Nat} {az : List Int} {vs : List Value} (h4 : az.length = 4) (h5 : vs.length = 4) : (treesC sp p az vs).size = 10 := by simp [treesC, h4, h5]
theorem treesC_setA {sp p : Nat} {az : List Int} {vs : List Value} {i : Nat} (a : Int) (hi : i < az.length) : (treesC sp p az vs).setIfInBounds (2 + i) (.int .i64 a) = treesC sp p (az.set i a) vs := by
  unfold treesC
  rw [List.setIfInBounds_toArray, Nat.add_comm, List.set_cons_succ, List.set_cons_succ, List.set_append_left _ _ (by simpa using hi), List.map_set]
  rfl
theorem treesC_setV {sp p : Nat} {az : List Int} {vs : List Value} {i : Nat} (v : Value) (h4 : az.length = 4) : (treesC sp p az vs).setIfInBounds (6 + i) v = treesC sp p az (vs.set i v) := by
  unfold treesC
  rw [List.setIfInBounds_toArray, show 6 + i = (i + 4) + 1 + 1 by omega, List.set_cons_succ, List.set_cons_succ, List.set_append_right _ _ (by simp [h4]), List.length_map, h4, Nat.add_sub_cancel]
section
variable {ops : Array Oper} {S : Nat → World → Prop} {live : Nat → Nat → Prop} {kd : Nat → Kd} {k : Nat} {ord : List Nat} {a : Act} {L : List Say} {o : Oper} {w0 : World} {Q : Exit → Act → World → Prop}
theorem ws_store_root (ho : ops[k]? = some o) (hw : Region.wanted o (yielded ops a.tmps) = true) (hk : kd k = .mn) (x y : Operand) (hop : o.op = .store 3 x y)
    {t sp p i : Nat} {az : List Int} {vs : List Value} {b : Int} {L2 : List Say} (hx : a.eval x = .pointer (some ⟨t, 2 + i, none⟩)) (hy : a.eval y = .int .i64 b) (h4 : az.length = 4) (h5 : vs.length = 4) (hi : i < 4)
    (hS : ∀ w F, Has w (treesT t sp p (az.set i b) vs :: L2 ++ F) → ∀ j, live k j → S j w) (h : WS Tryz.prog ops S live kd Q w0 ord (a.put o.dst undef) (treesT t sp p (az.set i b) vs :: L2)) :
    WS Tryz.prog ops S live kd Q w0 (k :: ord) a (treesT t sp p az vs :: L2) := by
  have hsz : (Tryz.prog.info? 3).map (·.size) = some (Value.int .i64 b).cells.size := by kernel_rfl
  exact ws_store ho hw hk 3 x y hop hx hy (by rw [treesC_size h4 h5]; simp [Value.cells]; omega) (by simp [Value.cells, Value.oneCell']) hsz (by simp only [Value.cells, putCells]; exact treesC_setA b (by omega)) hS h
theorem ws_store_list (ho : ops[k]? = some o) (hw : Region.wanted o (yielded ops a.tmps) = true) (hk : kd k = .mn) (x y : Operand) (hop : o.op = .store 67 x y)
    {t sp p i : Nat} {az : List Int} {vs : List Value} {q : Option Addr} {n c : Nat} {L2 : List Say} (hx : a.eval x = .pointer (some ⟨t, 6 + i, none⟩)) (hy : a.eval y = .slice q n c) (h4 : az.length = 4) (h5 : vs.length = 4) (hi : i < 4)
    (hS : ∀ w F, Has w (treesT t sp p az (vs.set i (.slice q n c)) :: L2 ++ F) → ∀ j, live k j → S j w) (h : WS Tryz.prog ops S live kd Q w0 ord (a.put o.dst undef) (treesT t sp p az (vs.set i (.slice q n c)) :: L2)) :
    WS Tryz.prog ops S live kd Q w0 (k :: ord) a (treesT t sp p az vs :: L2) := by
  have hsz : (Tryz.prog.info? 67).map (·.size) = some (Value.slice q n c).cells.size := by
    have : (Tryz.prog.info? 67).map (·.size) = some 1 := by kernel_rfl
    exact this
  exact ws_store ho hw hk 67 x y hop hx hy (by rw [treesC_size h4 h5]; simp [Value.cells]; omega) (by simp [Value.cells, Value.oneCell']) hsz (by simp only [Value.cells, putCells]; exact treesC_setV _ h4) hS h
end

/-- What a statement's call on a tree makes of the trees. -/
def StepTo (kd tr key val : Int) (ts ts' : List Tre) : Prop := ∃ t, ts[mod4 tr]? = some t ∧
  ((kd = 1 ∧ pairOk key val = true ∧ ∃ ta s', s' ≤ t.s + 2 ∧ ts' = ts.set (mod4 tr) ⟨ta, putL t.L key val, s'⟩) ∨
   (kd = 2 ∧ (∃ v, getK t.L key = some v) ∧ ∃ ta s', s' ≤ t.s ∧ ts' = ts.set (mod4 tr) ⟨ta, delL t.L key, s'⟩) ∨
   (kd = 3 ∧ ∃ u, ts[mod4 key]? = some u ∧ ts' = ts.set (mod4 tr) u) ∨
   (kd = 4 ∧ ts' = ts.set (mod4 tr) noTre) ∨
   (((kd = 1 ∧ pairOk key val = false) ∨ (kd = 2 ∧ getK t.L key = none) ∨ (kd ≠ 1 ∧ kd ≠ 2 ∧ kd ≠ 3 ∧ kd ≠ 4)) ∧ ts' = ts))
/-- The trees as they stand: their lists lie in rows that nobody writes. -/
structure Rows4 (ts : List Tre) (vs : List Value) (rs : List (Value × List KV)) : Prop where
  four : ts.length = 4
  vals : vs.length = 4
  row : ∀ (i : Nat) (t : Tre) (v : Value), ts[i]? = some t → vs[i]? = some v → (v, t.L) ∈ rs
theorem Rows4.at {ts : List Tre} {vs : List Value} {rs : List (Value × List KV)} (h : Rows4 ts vs rs) {i : Nat} (hi : i < 4) : ∃ t v, ts[i]? = some t ∧ vs[i]? = some v ∧ (v, t.L) ∈ rs := by
  obtain ⟨t, h1⟩ : ∃ t, ts[i]? = some t := ⟨_, List.getElem?_eq_getElem (by rw [h.four]; exact hi)⟩
  obtain ⟨v, h2⟩ : ∃ v, vs[i]? = some v := ⟨_, List.getElem?_eq_getElem (by rw [h.vals]; exact hi)⟩
  exact ⟨_, _, h1, h2, h.row i _ _ h1 h2⟩
theorem Rows4.set {ts : List Tre} {vs : List Value} {rs : List (Value × List KV)} (h : Rows4 ts vs rs) (i : Nat) {t : Tre} {v : Value} {rs' : List (Value × List KV)} (hs : ∀ r ∈ rs, r ∈ rs') (hr : (v, t.L) ∈ rs') : Rows4 (ts.set i t) (vs.set i v) rs' := by
  refine ⟨by rw [List.length_set]; exact h.four, by rw [List.length_set]; exact h.vals, fun j t' v' h1 h2 => ?_⟩
  rw [List.getElem?_set] at h1 h2
  by_cases e : i = j
  · subst e
    rw [if_pos rfl] at h1 h2
    split at h1
    · rename_i e1
      obtain rfl := Option.some.inj h1
      split at h2
      · obtain rfl := Option.some.inj h2
        exact hr
      · cases h2
    · cases h1
  · rw [if_neg e] at h1 h2
    exact hs _ (h.row j _ _ h1 h2)
theorem roots_set (ts : List Tre) (i : Nat) (t : Tre) : (ts.set i t).map (·.a) = (ts.map (·.a)).set i t.a := List.map_set
/-- One tree ahead, and the others. -/
theorem set_perm {ts : List Tre} {i : Nat} {t : Tre} (h : ts[i]? = some t) : ∃ us, ts.Perm (t :: us) ∧ ∀ u, (ts.set i u).Perm (u :: us) := by
  obtain ⟨hi, rfl⟩ := List.getElem?_eq_some_iff.1 h
  refine ⟨ts.take i ++ ts.drop (i + 1), ?_, fun u => ?_⟩
  · have : ts = ts.take i ++ ts[i] :: ts.drop (i + 1) := by rw [← List.drop_eq_getElem_cons hi, List.take_append_drop]
    conv => lhs; rw [this]
    exact List.perm_middle
  · rw [List.set_eq_take_append_cons_drop, if_pos hi]
    exact List.perm_middle
/-- Behind a call on a tree. -/
def StepOk (es : List Ent) (t sp p bank N : Nat) (ts : List Tre) (l : List Say) (kd tr key val : Int) (w : World) (r : Ending) (w' : World) : Prop :=
  r = .returned (.tuple #[.bool true, .bool false]) ∧ Kept w w' ∧ ∃ Q' ts' vs' rs', StepTo kd tr key val ts ts' ∧ Grove Q' ts' ∧ Rows4 ts' vs' rs' ∧ Has w' (treesT t sp p (ts'.map (·.a)) vs' :: btS p bank sp (N + 100) es Q' :: (rs'.map kvR ++ l))
/-- There was no room. -/
def StepFull (es : List Ent) (Q : Pgs) (t sp p bank N : Nat) (ts : List Tre) (vs : List Value) (rs : List (Value × List KV)) (l : List Say) (w : World) (r : Ending) (w' : World) : Prop :=
  r = .returned (.tuple #[.bool true, .bool true]) ∧ Kept w w' ∧ ∃ Q', Grove Q' ts ∧ Moved Q Q' 0 0 ∧ (∃ Q1 news, Puts es Q news Q1 ∧ news.length ≤ 50 ∧ FullQ es Q1) ∧ Has w' (treesT t sp p (ts.map (·.a)) vs :: btS p bank sp (N + 100) es Q' :: (rs.map kvR ++ l))
end Go.Proofs.YtgbgneiciabidaaGreatDoor
/-
  The statements of layer 12: a call on a tree (step), of kind 1, with what is no pair.
-/
namespace Go.Proofs.YtgbgneiciabidaaGreatDoor
open Go Go.RowKit
set_option linter.all false

set_option maxHeartbeats 8000000 in
set_option maxRecDepth 100000 in
theorem step_bad {w : World} {l : List Say} {t sp p bank N : Nat} {es : List Ent} {Q : Pgs} {ts : List Tre} {vs : List Value} {rs : List (Value × List KV)} (tr key val : Int) (h : Has w (treesT t sp p (ts.map (·.a)) vs :: btS p bank sp N es Q :: (rs.map kvR ++ l))) (ht : Tab l) (hT : Grove Q ts) (h4 : Rows4 ts vs rs) (hN : N ≤ 150000) (hs : ∀ u ∈ ts, u.s ≤ 800000 ∧ u.L.length ≤ 90000) (hp : pairOk key val = false) :
    Calls Tryz.prog 46 #[.pointer (some ⟨t, 0, none⟩), .agg #[.int .i64 1, .int .i64 tr, .int .i64 key, .int .i64 val]] w (StepOk es t sp p bank N ts l 1 tr key val w) := by
  obtain ⟨u, v, hu, hv, hr⟩ := h4.at (mod4_lt tr)
  have hua : (ts.map (·.a))[mod4 tr]? = some u.a := by rw [List.getElem?_map, hu]; rfl
  have hml : (ts.map (·.a)).length = 4 := by rw [List.length_map]; exact h4.four
  have hA := (h.alloc (.cells #[.int .i64 1, .int .i64 tr, .int .i64 key, .int .i64 val] 83)).swap
  have HK : Hid (Kept w (w.alloc (.cells #[.int .i64 1, .int .i64 tr, .int .i64 key, .int .i64 val] 83))) := (Kept.refl w).alloc _
  have HMod : Hid (∀ w' : World, Calls Tryz.prog 52 #[.int .i64 tr] w' fun r w'' => r = .returned (.int .i64 (mod4 tr : Int)) ∧ w' = w'') := fun w' => law_mod tr w'
  generalize hi : mod4 tr = i at *
  have hi4 : i < 4 := by rw [← hi]; exact mod4_lt tr
  have Hi := Lib.hid hi
  have HX := Lib.hid (And.intro ht (And.intro hT (And.intro h4 (And.intro hN (And.intro hs (And.intro hu (And.intro hv (And.intro hr (And.intro hua hml)))))))))
  have HH := Lib.hid hA
  have iI : (i : Int) < 4 := by omega
  have i0 : (0 : Int) ≤ i := by omega
  clear h ht hT h4 hN hs hu hv hr hua hml hA hi
  go_enter Tryz.func46, Tryz.ntmps46
  go_upto_region 1 with fail
  generalize w.alloc (.cells #[.int .i64 1, .int .i64 tr, .int .i64 key, .int .i64 val] 83) = W at *
  generalize w.heap.size = b3 at *
  have hh := HH.out
  have hb := hh.tail.got
  have o0 : W.cell? ⟨b3, 0, none⟩ = some (.int .i64 1) := cell_of hb 0 rfl
  have o1 : W.cell? ⟨b3, 1, none⟩ = some (.int .i64 tr) := cell_of hb 1 rfl
  have o2 : W.cell? ⟨b3, 2, none⟩ = some (.int .i64 key) := cell_of hb 2 rfl
  have o3 : W.cell? ⟨b3, 3, none⟩ = some (.int .i64 val) := cell_of hb 3 rfl
  have lb := World.block_lt_of_cell? _ _ o0
  have t1 : W.cell? ⟨t, 1, none⟩ = some (.pointer (some ⟨p, 0, none⟩)) := cell_of hh.got 1 rfl
  have tr1 : W.cell? ⟨t, 2 + i, none⟩ = some (.int .i64 u.a) := cell_of hh.got _ (treesC_root HX.out.2.2.2.2.2.2.2.2.1)
  have lt := World.block_lt_of_cell? _ _ t1
  obtain ⟨a, ha⟩ : ∃ a, u.a = a := ⟨_, rfl⟩
  have Ha := Lib.hid ha
  rw [ha] at tr1
  clear hh hb ha
  go_wp2_with (refine (HMod.out _).mono ?_; rintro r w1 ⟨rfl, rfl⟩)
  obtain ⟨htab, hT, h4, hN, hs, hu, hv, hr, hua, hml⟩ := HX.out
  have HS : Hid (∀ w' l', Has w' (btS p bank sp N es Q :: l') → Tab l' → Calls Tryz.prog 39 #[.pointer (some ⟨p, 0, none⟩), .int .i64 a, .int .i64 key, .int .i64 val] w' (fun r w'' => r = .returned (.tuple #[.int .i64 0, errV 80]) ∧ Kept w' w'' ∧ Has w'' (btS p bank sp N es Q :: l'))) := fun w' l' h htb => by
    rw [← Ha.out]
    refine (bt_Set u.a key val h htb (hT.root u (List.mem_of_getElem? hu)) hT.live (by omega) (by have := (hs u (List.mem_of_getElem? hu)).1; omega)).mono ?_
    rintro r w' (⟨_, h1, h2, h3⟩ | ⟨h1, _⟩)
    · exact ⟨h1, h2, h3⟩
    · rw [hp] at h1; cases h1
  have HI : Hid (∀ w' : World, Calls Tryz.prog 49 #[errV 80, .int .i64 80] w' fun r w'' => r = .returned (.bool true) ∧ w' = w'') := fun w' => law_is12 (some 80) 80 w' (by decide) (by decide)
  have hpc : key < 0 ∨ (0 ≤ key ∧ 1099511627776 < key) ∨ (0 ≤ key ∧ key ≤ 1099511627776 ∧ val < 1) ∨ (0 ≤ key ∧ key ≤ 1099511627776 ∧ 1 ≤ val ∧ 2305843009213693952 < val) := by
    have hq : ¬ (0 ≤ key ∧ key ≤ 1099511627776 ∧ 1 ≤ val ∧ val ≤ 2305843009213693952) := by
      rintro ⟨q1, q2, q3, q4⟩
      unfold pairOk at hp
      simp [q1, q2, q3, q4] at hp
    omega
  have Hp := Lib.hid hp
  have Hpc := Lib.hid hpc
  clear htab hT h4 hN hs hu hv hr hua hml hp hpc
  have hh := HH.out
  clear HH
  obtain ⟨FA, HFA⟩ : ∃ FA : List (Nat × Addr × Value), Hid (FA = [(3, ⟨t, 1, none⟩, .pointer (some ⟨p, 0, none⟩)), (6, ⟨b3, 2, none⟩, .int .i64 key), (8, ⟨b3, 3, none⟩, .int .i64 val)]) := ⟨_, rfl⟩
  have fa3 : ∀ n : In (factsOf FA 3), n.w.cell? ⟨t, 1, none⟩ = some (.pointer (some ⟨p, 0, none⟩)) := fun n => factsOf.cell (by rw [HFA.out]; simp) n
  have fa6 : ∀ n : In (factsOf FA 6), n.w.cell? ⟨b3, 2, none⟩ = some (.int .i64 key) := fun n => factsOf.cell (by rw [HFA.out]; simp) n
  have fa8 : ∀ n : In (factsOf FA 8), n.w.cell? ⟨b3, 3, none⟩ = some (.int .i64 val) := fun n => factsOf.cell (by rw [HFA.out]; simp) n
  have hFA : ∀ p ∈ FA, W.cell? p.2.1 = some p.2.2 := by rw [HFA.out]; exact (fcons t1 (fcons o2 (fcons o3 fnil)))
  haveI neFA : ∀ k, Nonempty (In (factsOf FA k)) := fun k => ⟨⟨_, factsOf.drew hFA k⟩⟩
  refine ws_begin [0, 1, 2, 3, 4, 5, 6, 7, 8, 9, 10, 11, 12, 13, 14] (factsOf FA) (treesT t sp p (ts.map (·.a)) vs :: pts b3 (.cells #[.int .i64 1, .int .i64 tr, .int .i64 key, .int .i64 val] 83 (0, 0)) :: btS p bank sp N es Q :: (rs.map kvR ++ l)) #[0, 1, 3, 7, 0, 0, 32, 0, 128, 511, 1023, 2047, 2047, 4095, 16383] (by kernel_rfl) (by kernel_rfl) (by kernel_rfl) factsOf.alloc (factsOf.drew hFA) hh ?_
  clear hFA
  refine ws_q (at_lit rfl) rfl rfl rfl ?_
  go_big_quiet_op
  show WS _ _ _ _ _ _ _ _ _ _
  refine ws_q (at_lit rfl) rfl rfl rfl ?_
  go_big_quiet_op
  show WS _ _ _ _ _ _ _ _ _ _
  refine ws_q (at_lit rfl) rfl rfl rfl ?_
  go_big_quiet_op
  show WS _ _ _ _ _ _ _ _ _ _
  refine ws_q (at_lit rfl) rfl rfl rfl ?_
  go_big_quiet_op
  show WS _ _ _ _ _ _ _ _ _ _
  refine ws_q (at_lit rfl) rfl rfl rfl ?_
  go_big_quiet_op
  show WS _ _ _ _ _ _ _ _ _ _
  refine ws_q (at_lit rfl) rfl rfl rfl ?_
  go_big_quiet_op
  show WS _ _ _ _ _ _ _ _ _ _
  refine ws_q (at_lit rfl) rfl rfl rfl ?_
  go_big_quiet_op
  show WS _ _ _ _ _ _ _ _ _ _
  refine ws_q (at_lit rfl) rfl rfl rfl ?_
  go_big_quiet_op
  show WS _ _ _ _ _ _ _ _ _ _
  refine ws_q (at_lit rfl) rfl rfl rfl ?_
  go_big_quiet_op
  show WS _ _ _ _ _ _ _ _ _ _
  refine ws_call (at_lit rfl) rfl rfl 39 #[.pointer (some ⟨p, 0, none⟩), .int .i64 a, .int .i64 key, .int .i64 val] (fun w => by go_simp) (fun v L' => v = .tuple #[.int .i64 0, errV 80] ∧ L' = treesT t sp p (ts.map (·.a)) vs :: pts b3 (.cells #[.int .i64 1, .int .i64 tr, .int .i64 key, .int .i64 val] 83 (0, 0)) :: btS p bank sp N es Q :: (rs.map kvR ++ l)) (fun w' F hS hh => ?_) ?_
  · refine (HS.out w' _ (hh.reord [2]) ((((HX.out.1.app _).fr F).cons).cons)).mono ?_
    rintro r w'' ⟨rfl, hK, hh'⟩
    exact ⟨_, _, rfl, hK, ⟨rfl, rfl⟩, hh'.reord [1, 1]⟩
  rintro _ _ ⟨rfl, rfl⟩
  refine ⟨fun w F hh => lives (l' := []) (by rw [HFA.out]; simp [liveFacts, Nat.testBit]) (fnil), ?_⟩
  simp only [Act.put, List.setIfInBounds_toArray, List.set_cons_zero, List.set_cons_succ]
  show WS _ _ _ _ _ _ _ _ _ _
  refine ws_q (at_lit rfl) rfl rfl rfl ?_
  go_big_quiet_op
  show WS _ _ _ _ _ _ _ _ _ _
  refine ws_q (at_lit rfl) rfl rfl rfl ?_
  go_big_quiet_op
  show WS _ _ _ _ _ _ _ _ _ _
  refine ws_q (at_lit rfl) rfl rfl rfl ?_
  go_big_quiet_op
  show WS _ _ _ _ _ _ _ _ _ _
  refine ws_q (at_lit rfl) rfl rfl rfl ?_
  go_big_quiet_op
  show WS _ _ _ _ _ _ _ _ _ _
  refine ws_q (at_lit rfl) rfl rfl rfl ?_
  go_big_quiet_op
  show WS _ _ _ _ _ _ _ _ _ _
  refine ws_end ?_
  intro w5 hK5 h5
  have hb := h5.at (b := b3) (o := .cells #[.int .i64 1, .int .i64 tr, .int .i64 key, .int .i64 val] 83 (0, 0)) (by simp)
  have q2 : w5.cell? ⟨b3, 2, none⟩ = some (.int .i64 key) := cell_of hb 2 rfl
  have q3 : w5.cell? ⟨b3, 3, none⟩ = some (.int .i64 val) := cell_of hb 3 rfl
  have lq := World.block_lt_of_cell? _ _ q2
  have HF : Hid (StepOk es t sp p bank N ts l 1 tr key val w (.returned (.tuple #[.bool true, .bool false])) w5) := by
    obtain ⟨htab, hT, h4, hN, hs, hu, hv, hr, hua, hml⟩ := HX.out
    refine ⟨rfl, HK.out.trans hK5, Q, ts, vs, rs, ⟨u, by rw [Hi.out]; exact hu, .inr (.inr (.inr (.inr ⟨.inl ⟨rfl, Hp.out⟩, rfl⟩)))⟩, hT, h4, ?_⟩
    exact ((Has.bt_more (Nat.le_add_right N 100) ((h5.reord [2, 0]) |> fun h => Has.skip (A := [_, _]) (M := [_]) h)).swap)
  clear hK5 h5 hh HFA neFA FA fa3 fa6 fa8 o0 o1 o2 o3 t1 tr1 lb lt hb HS HX Ha HK Hi HMod
  have hpc := Hpc.out
  clear Hpc
  simp only [errV] at HI ⊢
  rcases hpc with q | ⟨q, qa⟩ | ⟨q, qa, qb⟩ | ⟨q, qa, qb, qc⟩
  all_goals
    go_wp2_with (refine (HI.out _).mono ?_; rintro r w6 ⟨rfl, rfl⟩)
    go_ret2
    exact HF.out
end Go.Proofs.YtgbgneiciabidaaGreatDoor
