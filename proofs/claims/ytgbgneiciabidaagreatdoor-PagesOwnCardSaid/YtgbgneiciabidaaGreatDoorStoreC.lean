/-
  Pages (layer 11), the third part: what a node names.
-/
import Derived.Test.YtgbgneiciabidaaGreatDoorStoreB
import Derived.Test.YtgbgneiciabidaaGreatDoorFn
namespace Go.Proofs.YtgbgneiciabidaaGreatDoor
open Go Go.RowKit
set_option linter.all false

def Nd.kids (n : Nd) : List Int := if n.level = 0 then [] else n.vals
def Nd.kidsV (n : Nd) (vv : Value) : Value := if n.level = 0 then .slice none 0 0 else vv
theorem node_kids {w : World} (n : Nd) (kv vv : Value) : Calls Tryz.prog 82 #[n.val kv vv] w fun r w' => r = .returned (n.kidsV vv) ∧ Below w.heap.size w w' := by
  obtain ⟨lv, ks, vs⟩ := n
  have hbox : Below w.heap.size w (w.alloc (.cells #[.int .i64 lv, kv, vv] 35)) := (Below.refl _ _).alloc (Nat.le_refl _) _
  have c0 : (w.alloc (.cells #[.int .i64 lv, kv, vv] 35)).cell? ⟨w.heap.size, 0, none⟩ = some (.int .i64 lv) := World.cell?_alloc_new _ _ _ 0
  have c2 : (w.alloc (.cells #[.int .i64 lv, kv, vv] 35)).cell? ⟨w.heap.size, 2, none⟩ = some vv := World.cell?_alloc_new _ _ _ 2
  have HB := Lib.hid hbox
  clear hbox
  simp only [Nd.val, Nd.kidsV]
  go_enter Tryz.func82, Tryz.ntmps82
  go_upto_region 1 with fail
  generalize w.alloc (.cells #[.int .i64 lv, kv, vv] 35) = W at *
  by_cases h0 : lv = 0
  · subst h0
    go_wp2
    go_ret
    exact ⟨by simp, HB.out⟩
  · have hb : (lv == 0) = false := by simpa using h0
    have H0 := Lib.hid h0
    clear h0
    go_wp2
    go_ret
    exact ⟨rfl, HB.out⟩

theorem may_named1 : May 140 := ⟨Tryz.f140, Tryz.func140, by kernel_rfl, by kernel_rfl⟩
theorem info_node : (Tryz.prog.info? 35).map (fun i => (i.zero, i.size, i.bytes)) = some (some (.agg #[.int .i64 0, .slice none 0 0, .slice none 0 0]), 3, 56) := by kernel_rfl
theorem field_node (L : Int) (a b c d : Value) (W : World) : (Instr.field 153 (.agg #[.int .i64 L, a, b, c, d]) 0).run Tryz.prog W = .ok (.agg #[.int .i64 L, a, b]) W := by
  obtain ⟨i0, I1, I2, I3, I4⟩ := info_parts info_node
  simp [Instr.field, run_underlying Tryz.underlying153, part, typeInfo, sizeOf, I1, I3, asAgg, Result.andThen, go_sem]
theorem field_lv (L : Int) (a b : Value) (W : World) : (Instr.field 35 (.agg #[.int .i64 L, a, b]) 0).run Tryz.prog W = .ok (.int .i64 L) W := by
  simp [Instr.field, run_underlying Tryz.underlying35, part, typeInfo, sizeOf, asAgg, Result.andThen, go_sem]

/-- The level of a page; of none: 0. -/
def lvOf (Q : Pgs) (k : Int) : Int := ((VMap.get k Q).map fun g => g.n.level).getD 0
theorem page_lv (T : List (Int × Sl)) (k : Int) : ∃ a b c d, (VMap.get k (VMap.over Sl.val T)).getD pageZero = .agg #[.int .i64 (lvOf (VMap.over Sl.pg T) k), a, b, c, d] := by
  unfold lvOf
  rw [VMap.get_over, VMap.get_over]
  cases VMap.get k T with
  | none => exact ⟨_, _, _, _, rfl⟩
  | some t => exact ⟨_, _, _, _, rfl⟩

theorem named_at {W : World} {b2 b3 p mb : Nat} {lv : Int} (T : List (Int × Sl)) (k : Int) (h0 : 0 ≤ lv) (h1 : lv ≤ 20)
    (c2 : W.cell? ⟨b2, 0, none⟩ = some (.pointer (some ⟨p, 0, none⟩))) (c3 : W.cell? ⟨b3, 0, none⟩ = some (.int .i64 lv)) (cp : W.cell? ⟨p, 2, none⟩ = some (.map (some mb)))
    (hl : ∀ n, (Instr.lookup 145 (.map (some mb)) (.int .i64 k) false).run Tryz.prog (W.drewN n) = .ok ((VMap.get k (VMap.over Sl.val T)).getD pageZero) (W.drewN n)) (m : Nat) :
    Calls Tryz.prog 140 #[.int .i64 k, .pointer (some ⟨b2, 0, none⟩), .pointer (some ⟨b3, 0, none⟩)] (W.drewN m) fun e w' => e = .returned (.bool (!(lvOf (VMap.over Sl.pg T) k == lv - 1))) ∧ ∃ m', w' = W.drewN m' := by
  obtain ⟨a, b, c, d, he⟩ := page_lv T k
  rw [he] at hl
  have hl' : ∀ n, (Instr.lookup 145 (.map (some mb)) (.int .i64 k) false).run Tryz.prog ((W.drewN m).drewN n) = .ok (.agg #[.int .i64 (lvOf (VMap.over Sl.pg T) k), a, b, c, d]) ((W.drewN m).drewN n) := fun n => by
    rw [World.drewN_drewN]; exact hl _
  have c2' : (W.drewN m).cell? ⟨b2, 0, none⟩ = some (.pointer (some ⟨p, 0, none⟩)) := c2
  have c3' : (W.drewN m).cell? ⟨b3, 0, none⟩ = some (.int .i64 lv) := c3
  have cp' : (W.drewN m).cell? ⟨p, 2, none⟩ = some (.map (some mb)) := cp
  have HW : Hid (∀ n, (W.drewN m).drewN n = W.drewN (m + n)) := fun n => World.drewN_drewN _ _ _
  have hf1 := field_node (lvOf (VMap.over Sl.pg T) k) a b c d
  have hf2 := field_lv (lvOf (VMap.over Sl.pg T) k) a b
  have l0 := World.block_lt_of_cell? _ _ cp'
  have hs : IntKind.i64.wrap (lv - 1) = lv - 1 := by rw [IntKind.wrap_i64]; omega
  generalize lvOf (VMap.over Sl.pg T) k = L at *
  clear hl c2 c3 cp he
  generalize hWm : W.drewN m = V at *
  go_enter Tryz.func140, Tryz.ntmps140
  go_wp2_with (go_quiet (fail))
  go_ret
  exact ⟨rfl, _, HW.out _⟩
end Go.Proofs.YtgbgneiciabidaaGreatDoor
