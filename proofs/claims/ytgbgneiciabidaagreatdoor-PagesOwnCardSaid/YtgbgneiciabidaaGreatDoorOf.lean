/-
  Law 11: numbers that came in; the copy of a node that came in ('of').
-/
import Derived.Test.YtgbgneiciabidaaGreatDoorLaw
import Derived.Deep.RegionHeld3
namespace Go.Proofs.YtgbgneiciabidaaGreatDoor
open Go Go.RowKit
set_option linter.all false

/-- Numbers that came in: nil, or they lie somewhere. -/
def Src (w : World) (v : Value) (xs : List Int) : Prop := (v = .slice none 0 0 ∧ xs = []) ∨ ∃ (a : Addr) (c : Nat), v = .slice (some a) xs.length c ∧ ∀ k (hk : k < xs.length), w.cell? (a.add k) = some (.int .i64 xs[k])
theorem Src.rd {w : World} {v : Value} {xs : List Int} (h : Src w v xs) : Rd w v xs := by
  rcases h with ⟨rfl, rfl⟩ | ⟨⟨b, off, sp⟩, c, rfl, hr⟩
  · exact ⟨none, 0, rfl, fun k hk => absurd hk (Nat.not_lt_zero _)⟩
  · refine ⟨_, c, rfl, fun k hk => ?_⟩
    have h0 := hr 0 (by omega)
    have hs : sp = none := by
      cases sp with
      | none => rfl
      | some x =>
        exfalso
        unfold World.cell? Addr.add at h0
        simp at h0
        split at h0 <;> simp at h0
    subst hs
    refine ⟨b, off, rfl, ?_⟩
    have := hr k hk
    rwa [Addr.add_lit] at this
theorem Src.below {w w' : World} {v : Value} {xs : List Int} (h : Src w v xs) (hb : Below w.heap.size w w') : Src w' v xs := by
  rcases h with h | ⟨a, c, rfl, hr⟩
  · exact .inl h
  · exact .inr ⟨a, c, rfl, fun k hk => by
      have h1 := hr k hk
      have hlt := World.block_lt_of_cell? _ _ h1
      rw [hb.cell hlt]; exact h1⟩
theorem Src.of_old {W w : World} {l : List Say} {v : Value} {xs : List Int} (h : Src W v xs) (hw : Has w l) (hm : old W ∈ l) : Src w v xs := by
  rcases h with h | ⟨a, c, rfl, hr⟩
  · exact .inl h
  · exact .inr ⟨a, c, rfl, fun k hk => hw.old_cell hm (hr k hk)⟩

theorem run_append_src {w : World} {l : List Say} (ty : TypeId) {v x : Value} {xs ns : List Int} (h : Has w (intsS v xs :: l)) (hs : Src w x ns) (hb : (xs.length + ns.length) * 8 ≤ 140737488355328) :
    ∃ v' w', (Builtin.append_ #[22, 22] ty #[v, x]).run Tryz.prog w = .ok v' w' ∧ Kept w w' ∧ Has w' (intsS v' (xs ++ ns) :: l) := by
  obtain ⟨i0, I1, I2, I3, I4⟩ := info_parts info_int
  rcases hs with ⟨rfl, rfl⟩ | ⟨a, c, rfl, hr⟩
  · refine ⟨v, w, run_append_owned_none (P := Tryz.prog) (w := w) 0 22 ty 3 i0 1 Tryz.underlying22 I1 v xs.length (xs.map intVal) (h.row_own (.head _)), Kept.refl _, ?_⟩
    rw [List.append_nil]; exact h
  · obtain ⟨v', w', hr2, hK, hh⟩ := run_append_row (P := Tryz.prog) 22 ty 3 i0 (.int .i64 0) 1 8 Tryz.underlying22 I1 I2 I3 I4 rfl (by decide) v xs.length (xs.map intVal) h a ns.length c (ns.map intVal) (by simp)
      (fun j u hu => by
        have hj : j < ns.length := by have := (List.getElem?_eq_some_iff.1 hu).1; simpa using this
        rw [hr j hj]
        rw [List.getElem?_map, List.getElem?_eq_getElem hj] at hu
        exact hu) (ints_one ns) (by simp [maxLen]; omega) hb
    refine ⟨v', w', hr2, hK, ?_⟩
    rw [intsS, List.length_append, List.map_append]; exact hh
theorem step_append_src {w : World} {l : List Say} {ops : Array Oper} {o : Oper} {a : Act} {K : Act → World → Prop} {Q : Exit → Act → World → Prop} {E : Prop} (hgd : o.guard = none) (s x : Operand)
    (ho : o.op = .call { callee := .builtin .append, args := #[s, x], argTypes := #[22, 22] })
    {v vx : Value} {xs ns : List Int} (hv : a.eval s = v) (hx : a.eval x = vx) (h : Has w (intsS v xs :: l)) (hs : Src w vx ns) (hb : (xs.length + ns.length) * 8 ≤ 140737488355328)
    (hk : ∀ v' w', Kept w w' → Has w' (intsS v' (xs ++ ns) :: l) → K (a.put o.dst v') w') : if Region.wanted o (yielded ops a.tmps) = true then Oper.wp Tryz.prog o a w K Q else E := by
  have hw : Region.wanted o (yielded ops a.tmps) = true := by simp [Region.wanted, hgd]
  rw [if_pos hw]
  obtain ⟨v', w', hr, h2, h3⟩ := run_append_src o.type h hs hb
  unfold Oper.wp execOp
  simp only [ho, resolve, invoke, builtin, Sem.run_bind, Sem.run_pure, Result.andThen_ok, List.map_toArray, List.map_cons, List.map_nil, hv, hx, hr]
  exact hk v' w' h2 h3
theorem wpList_append_src {w : World} {l : List Say} {ops : Array Oper} {rest : List Oper} {o : Oper} {a : Act} {Q : Exit → Act → World → Prop} (hgd : o.guard = none) (s x : Operand)
    (ho : o.op = .call { callee := .builtin .append, args := #[s, x], argTypes := #[22, 22] })
    {v vx : Value} {xs ns : List Int} (hv : a.eval s = v) (hx : a.eval x = vx) (h : Has w (intsS v xs :: l)) (hs : Src w vx ns) (hb : (xs.length + ns.length) * 8 ≤ 140737488355328)
    (hk : ∀ v' w', Kept w w' → Has w' (intsS v' (xs ++ ns) :: l) → wpList Tryz.prog ops Q rest (a.put o.dst v') w') : wpList Tryz.prog ops Q (o :: rest) a w := by
  refine wpList_plain hgd fun K hK => ?_
  obtain ⟨v', w', hr, h2, h3⟩ := run_append_src o.type h hs hb
  unfold Oper.wp execOp
  simp only [ho, resolve, invoke, builtin, Sem.run_bind, Sem.run_pure, Result.andThen_ok, List.map_toArray, List.map_cons, List.map_nil, hv, hx, hr]
  exact hK _ _ (hk v' w' h2 h3)
/-- An empty row that is new. -/
theorem Has.empty {w : World} {l : List Say} (h : Has w l) : Has (w.alloc (.cells #[] 3)) (intsS (.slice (some ⟨w.heap.size, 0, none⟩) 0 0) [] :: l) :=
  (h.alloc (.cells #[] 3)).row_of_pts (by simp) (by simp) (by simp [maxLen]) (by simp) (by simp)

/-- Numbers that can be read wherever l holds. -/
def Srcs (l : List Say) (v : Value) (xs : List Int) : Prop := ∀ w, Has w l → Src w v xs
theorem Srcs.of_old {W : World} {l : List Say} {v : Value} {xs : List Int} (h : Src W v xs) (hm : old W ∈ l) : Srcs l v xs := fun w hw => h.of_old hw hm
theorem Srcs.of_ints {l : List Say} {v : Value} {xs : List Int} (hm : intsS v xs ∈ l) : Srcs l v xs := by
  intro w h
  obtain ⟨h1, h2⟩ := h.row_own hm
  rcases h2 with ⟨rfl, h0⟩ | ⟨g, cap, cur, rfl, _, hg, hn, hc, hs, ht⟩
  · obtain rfl := List.eq_nil_of_length_eq_zero h0
    exact .inl ⟨rfl, rfl⟩
  · refine .inr ⟨⟨g, 0, none⟩, cap, rfl, fun k hk => ?_⟩
    rw [Addr.add_lit, Nat.zero_add]
    refine cell_of hg k ?_
    have e : (xs.map intVal)[k]? = some (intVal xs[k]) := by rw [List.getElem?_map, List.getElem?_eq_getElem hk]; rfl
    rw [← ht, List.getElem?_take_of_lt (by omega)] at e
    simpa [intVal] using e
theorem Srcs.cons {A : Say} {l : List Say} {v : Value} {xs : List Int} (h : Srcs l v xs) : Srcs (A :: l) v xs := fun w hw => h w hw.tail

def OfPost (n : Nd) (l : List Say) (w : World) (r : Ending) (w' : World) : Prop :=
  ∃ kv vv, r = .returned (n.val kv vv) ∧ Kept w w' ∧ Has w' (intsS kv n.keys :: intsS vv n.vals :: l)

theorem step_append_srcs {w : World} {l : List Say} {ops : Array Oper} {o : Oper} {a : Act} {K : Act → World → Prop} {Q : Exit → Act → World → Prop} {E : Prop} (hgd : o.guard = none) (s x : Operand)
    (ho : o.op = .call { callee := .builtin .append, args := #[s, x], argTypes := #[22, 22] })
    {v vx : Value} {xs ns : List Int} (h : Has w (intsS v xs :: l)) (hs : Srcs l vx ns) (hv : a.eval s = v) (hx : a.eval x = vx) (hb : (xs.length + ns.length) * 8 ≤ 140737488355328)
    (hk : ∀ v' w', Kept w w' → Has w' (intsS v' (xs ++ ns) :: l) → K (a.put o.dst v') w') : if Region.wanted o (yielded ops a.tmps) = true then Oper.wp Tryz.prog o a w K Q else E :=
  step_append_src hgd s x ho hv hx h (hs w h.tail) hb hk

set_option maxHeartbeats 1000000 in
set_option maxRecDepth 100000 in
theorem law_of {w : World} {l : List Say} (n : Nd) {kv vv : Value} (h : Has w l) (hk : Srcs l kv n.keys) (hv : Srcs l vv n.vals) (k1 : n.keys.length * 8 ≤ 140737488355328) (v1 : n.vals.length * 8 ≤ 140737488355328) :
    Calls Tryz.prog 18 #[n.val kv vv] w (OfPost n l w) := by
  have hW := (h.alloc (.cells #[.int .i64 n.level, kv, vv] 24)).alloc (.cells #[.int .i64 0, .slice none 0 0, .slice none 0 0] 35)
  have HK0 : Hid (Kept w ((w.alloc (.cells #[.int .i64 n.level, kv, vv] 24)).alloc (.cells #[.int .i64 0, .slice none 0 0, .slice none 0 0] 35))) := ((Kept.refl w).alloc _).alloc _
  simp only [World.size_alloc] at hW
  have hb1 := hW.tail.got
  have hb0 := hW.got
  have d0 := cell_of hb1 0 rfl
  have d1 := cell_of hb1 1 rfl
  have d2 := cell_of hb1 2 rfl
  have ld := World.block_lt_of_cell? _ _ d0
  have H0 := Lib.hid hW
  have Hk := Lib.hid hk
  have Hv := Lib.hid hv
  have Hk1 : Hid ((([] : List Int).length + n.keys.length) * 8 ≤ 140737488355328) := by show _ ≤ _; simpa using k1
  have Hv1 : Hid ((([] : List Int).length + n.vals.length) * 8 ≤ 140737488355328) := by show _ ≤ _; simpa using v1
  clear h hk hv hb1 hb0 hW k1 v1
  obtain ⟨lv, ks, vs⟩ := n
  simp only [Nd.val] at *
  go_enter Tryz.func18, Tryz.ntmps18
  go_upto_region 1 with fail
  generalize hWW : (w.alloc (.cells #[.int .i64 lv, kv, vv] 24)).alloc (.cells #[.int .i64 0, .slice none 0 0, .slice none 0 0] 35) = W at *
  clear hWW
  have hne : w.heap.size + 1 ≠ w.heap.size := by omega
  generalize hbx1 : w.heap.size + 1 = bz at *
  generalize w.heap.size = bx at *
  have h2 := H0.out.empty.empty
  simp only [World.size_alloc] at h2
  have HE := Lib.hid h2
  have HE' := Lib.hid h2.swap
  clear h2
  go_region_held3 (fun w' => w'.cell? ⟨bx, 0, none⟩ = some (.int .i64 lv) ∧ w'.cell? ⟨bx, 1, none⟩ = some kv ∧ w'.cell? ⟨bx, 2, none⟩ = some vv) (first | with_reducible exact ⟨m0, m1, m2⟩ | with_reducible exact ⟨d0', d1', d2'⟩ | with_reducible exact ⟨d0, d1, d2⟩ | with_reducible exact ⟨far3 hne _ _ _ _ m0, far3 hne _ _ _ _ m1, far3 hne _ _ _ _ m2⟩ | go_keep)
    (first
      | ((with_reducible refine step_append_srcs ?_ (.tmp 5) (.tmp 7) ?_ H0.out.empty.drew Hk.out.cons.cons ?_ ?_ Hk1.out ?_); rfl; rfl; rfl; rfl; intro v1 V1 hK1 hh1; rw [List.nil_append] at hh1; obtain ⟨aK, cK, rfl, _⟩ := hh1.row_val (e := 3) (size := 1) (v := v1) (n := ks.length) (xs := ks.map intVal) (.head _); have hq1 := (hh1.pull 2).got; have d0' := cell_of hq1 0 rfl; have d1' := cell_of hq1 1 rfl; have d2' := cell_of hq1 2 rfl; have ld' := World.block_lt_of_cell? _ _ d0'; have HasK := Lib.hid hh1; have HK1 := Lib.hid hK1; clear hh1 hK1 hq1)
      | ((with_reducible refine step_append_srcs ?_ (.tmp 5) (.tmp 7) ?_ HE'.out.drew Hk.out.cons.cons.cons ?_ ?_ Hk1.out ?_); rfl; rfl; rfl; rfl; intro v1 V1 hK1 hh1; rw [List.nil_append] at hh1; obtain ⟨aK, cK, rfl, _⟩ := hh1.row_val (e := 3) (size := 1) (v := v1) (n := ks.length) (xs := ks.map intVal) (.head _); have hq1 := (hh1.pull 3).got; have d0' := cell_of hq1 0 rfl; have d1' := cell_of hq1 1 rfl; have d2' := cell_of hq1 2 rfl; have ld' := World.block_lt_of_cell? _ _ d0'; have HasK := Lib.hid hh1; have HK1 := Lib.hid hK1; clear hh1 hK1 hq1)
      | ((with_reducible refine step_append_srcs ?_ (.tmp 5) (.tmp 7) ?_ HE.out.drew Hk.out.cons.cons.cons ?_ ?_ Hk1.out ?_); rfl; rfl; rfl; rfl; intro v1 V1 hK1 hh1; rw [List.nil_append] at hh1; obtain ⟨aK, cK, rfl, _⟩ := hh1.row_val (e := 3) (size := 1) (v := v1) (n := ks.length) (xs := ks.map intVal) (.head _); have hq1 := (hh1.pull 3).got; have d0' := cell_of hq1 0 rfl; have d1' := cell_of hq1 1 rfl; have d2' := cell_of hq1 2 rfl; have ld' := World.block_lt_of_cell? _ _ d0'; have HasK := Lib.hid hh1; have HK1 := Lib.hid hK1; clear hh1 hK1 hq1)
      | ((with_reducible refine step_append_srcs ?_ (.tmp 9) (.tmp 11) ?_ HasK.out.empty Hv.out.cons.cons.cons ?_ ?_ Hv1.out ?_); rfl; rfl; rfl; rfl; intro v2 V2 hK2 hh2; rw [List.nil_append] at hh2; obtain ⟨aV, cV, rfl, _⟩ := hh2.row_val (e := 3) (size := 1) (v := v2) (n := vs.length) (xs := vs.map intVal) (.head _); have hq2 := (hh2.pull 2).got; have e0 := cell_of hq2 0 rfl; have e1 := cell_of hq2 1 rfl; have e2 := cell_of hq2 2 rfl; have f0 := thaw_of hq2 0; have f1 := thaw_of hq2 1; have f2 := thaw_of hq2 2; have le := World.block_lt_of_cell? _ _ e0; have hq3 := (hh2.pull 3).got; have m0 := cell_of hq3 0 rfl; have m1 := cell_of hq3 1 rfl; have m2 := cell_of hq3 2 rfl; have HR := Lib.hid hh2.swap; have HK2 := Lib.hid hK2; clear hh2 hK2 hq2 hq3)
      | ((with_reducible refine step_append_srcs ?_ (.tmp 9) (.tmp 11) ?_ HasK.out.swap Hv.out.cons.cons.cons ?_ ?_ Hv1.out ?_); rfl; rfl; rfl; rfl; intro v2 V2 hK2 hh2; rw [List.nil_append] at hh2; obtain ⟨aV, cV, rfl, _⟩ := hh2.row_val (e := 3) (size := 1) (v := v2) (n := vs.length) (xs := vs.map intVal) (.head _); have hq2 := (hh2.pull 2).got; have e0 := cell_of hq2 0 rfl; have e1 := cell_of hq2 1 rfl; have e2 := cell_of hq2 2 rfl; have f0 := thaw_of hq2 0; have f1 := thaw_of hq2 1; have f2 := thaw_of hq2 2; have le := World.block_lt_of_cell? _ _ e0; have hq3 := (hh2.pull 3).got; have m0 := cell_of hq3 0 rfl; have m1 := cell_of hq3 1 rfl; have m2 := cell_of hq3 2 rfl; have HR := Lib.hid hh2.swap; have HK2 := Lib.hid hK2; clear hh2 hK2 hq2 hq3))
  all_goals
    go_wp2
    have h5 := ((((HR.out.pull 2).setCell 0 (.int .i64 lv)).setCell 1 (.slice aK ks.length cK)).setCell 2 (.slice aV vs.length cV))
    have hk2 : Kept w V2 := by first | exact (((HK0.out.alloc _).drew.trans HK1.out).alloc _).trans HK2.out | exact (((HK0.out.alloc _).alloc _).drew.trans HK1.out).trans HK2.out
    have hkf := ((hk2.setCell ⟨bz, 0, none⟩ (.int .i64 lv)).setCell ⟨bz, 1, none⟩ (.slice aK ks.length cK)).setCell ⟨bz, 2, none⟩ (.slice aV vs.length cV)
    generalize ((V2.setCell ⟨bz, 0, none⟩ (.int .i64 lv)).setCell ⟨bz, 1, none⟩ (.slice aK ks.length cK)).setCell ⟨bz, 2, none⟩ (.slice aV vs.length cV) = W3 at *
    have z0 : W3.cell? ⟨bz, 0, none⟩ = some (.int .i64 lv) := cell_of h5.got 0 rfl
    have z1 : W3.cell? ⟨bz, 1, none⟩ = some (.slice aK ks.length cK) := cell_of h5.got 1 rfl
    have z2 : W3.cell? ⟨bz, 2, none⟩ = some (.slice aV vs.length cV) := cell_of h5.got 2 rfl
    have h6 := (h5.tail.pull 2).tail
    refine bodyPost_ret (v := .agg #[.int .i64 lv, .slice aK ks.length cK, .slice aV vs.length cV]) (by simp [results, Tryz.results18, go_sem, z0, z1, z2]) rfl ⟨_, _, rfl, ?_, h6⟩
    exact hkf
end Go.Proofs.YtgbgneiciabidaaGreatDoor
