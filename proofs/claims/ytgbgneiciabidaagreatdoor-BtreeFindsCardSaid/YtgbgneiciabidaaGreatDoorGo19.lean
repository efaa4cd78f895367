/-
  Plain: the steps of a walk through a region that draws its order.
-/
import Derived.Test.YtgbgneiciabidaaGreatDoorGo18
import Derived.Deep.MidRow
import Derived.Test.YtgbgneiciabidaaGreatDoorGo6
namespace Go.Proofs.YtgbgneiciabidaaGreatDoor
open Go Go.RowKit
set_option linter.all false

/-- A world in which S holds. -/
structure In (S : World → Prop) where
  w : World
  ok : S w
/-- Cells that hold what they held. -/
def CellsAt : List (Addr × Value) → World → Prop
  | [], _ => True
  | p :: l, w => w.cell? p.1 = some p.2 ∧ CellsAt l w
theorem CellsAt.alloc : ∀ {l : List (Addr × Value)} (w : World) (ob : Obj), CellsAt l w → CellsAt l (w.alloc ob)
  | [], _, _, _ => trivial
  | p :: l, w, ob, h => ⟨by rw [World.cell?_alloc_lt _ _ _ (World.block_lt_of_cell? _ _ h.1)]; exact h.1, h.2.alloc w ob⟩

section
variable {P : Program} {ops : Array Oper} {S : Nat → World → Prop} {live : Nat → Nat → Prop} {kd : Nat → Kd} {k : Nat} {ord : List Nat} {a : Act} {L : List Say} {o : Oper} {w0 : World} {Q : Exit → Act → World → Prop}

/-- What stands behind the region. -/
def QSep (Q : Exit → Act → World → Prop) (w0 : World) (a : Act) (L : List Say) : Prop := ∀ w', Kept w0 w' → Has w' L → Q .normal a w'
abbrev WS (P : Program) (ops : Array Oper) (S : Nat → World → Prop) (live : Nat → Nat → Prop) (kd : Nat → Kd) (Q : Exit → Act → World → Prop) (w0 : World) : List Nat → Act → List Say → Prop := WSep P ops S live kd (QSep Q w0)

/-- What each operation reads: the cells that are told of its number. -/
def factsOf (l : List (Nat × Addr × Value)) (k : Nat) (w : World) : Prop := ∀ p ∈ l, p.1 = k → w.cell? p.2.1 = some p.2.2
theorem factsOf.alloc {l : List (Nat × Addr × Value)} (k : Nat) (w : World) (ob : Obj) (h : factsOf l k w) : factsOf l k (w.alloc ob) := fun p hp e => by
  have := h p hp e
  rw [World.cell?_alloc_lt _ _ _ (World.block_lt_of_cell? _ _ this)]; exact this
theorem factsOf.drew {l : List (Nat × Addr × Value)} {w : World} (h : ∀ p ∈ l, w.cell? p.2.1 = some p.2.2) (k : Nat) : factsOf l k w.drew := fun p hp _ => h p hp
theorem factsOf.cell {l : List (Nat × Addr × Value)} {k : Nat} {a : Addr} {v : Value} (hm : (k, a, v) ∈ l) (n : In (factsOf l k)) : n.w.cell? a = some v := n.ok (k, a, v) hm rfl
/-- Those that are to be borne. -/
def liveFacts (T : Array Nat) (m : Nat) : List (Nat × Addr × Value) → List (Nat × Addr × Value)
  | [] => []
  | p :: l => bif (T.getD m 0).testBit p.1 then liveFacts T m l else p :: liveFacts T m l
theorem mem_live {T : Array Nat} {m : Nat} {p : Nat × Addr × Value} (h : (T.getD m 0).testBit p.1 = false) : ∀ {l : List (Nat × Addr × Value)}, p ∈ l → p ∈ liveFacts T m l
  | q :: l, hp => by
    unfold liveFacts
    rcases List.mem_cons.1 hp with rfl | hp
    · rw [h]; exact .head _
    · cases (T.getD m 0).testBit q.1 with
      | true => exact mem_live h hp
      | false => exact .tail _ (mem_live h hp)
theorem live_facts {T : Array Nat} {m : Nat} {l : List (Nat × Addr × Value)} {w : World} (h : ∀ p ∈ liveFacts T m l, w.cell? p.2.1 = some p.2.2) : ∀ j, liveOf (fun k => T.getD k 0) m j → factsOf l j w := by
  intro j hj p hp e
  unfold liveOf at hj
  exact h p (mem_live (by rw [e]; exact hj) hp)

theorem fcons {p : Nat × Addr × Value} {l : List (Nat × Addr × Value)} {w : World} (h : w.cell? p.2.1 = some p.2.2) (hl : ∀ q ∈ l, w.cell? q.2.1 = some q.2.2) : ∀ q ∈ p :: l, w.cell? q.2.1 = some q.2.2 := fun q hq => by
  rcases List.mem_cons.1 hq with rfl | hq
  · exact h
  · exact hl q hq
theorem fnil {w : World} : ∀ q ∈ ([] : List (Nat × Addr × Value)), w.cell? q.2.1 = some q.2.2 := fun _ h => nomatch h
def liveT (T : Array Nat) (i j : Nat) : Prop := liveOf (fun k => T.getD k 0) i j
theorem lives {T : Array Nat} {m : Nat} {l l' : List (Nat × Addr × Value)} {w : World} (hl : liveFacts T m l = l') (h : ∀ p ∈ l', w.cell? p.2.1 = some p.2.2) : ∀ j, liveT T m j → factsOf l j w := by
  subst hl; exact live_facts h

theorem ws_begin {id : Nat} {l : List Oper} (ord : List Nat) (S : Nat → World → Prop) (L : List Say) (T : Array Nat) (hT : T = ancTab l #[]) (hm : P.follows .mixedOrders = true) (hB : sepB l (kdOf l) ord = true)
    (hSA : ∀ k w ob, S k w → S k (w.alloc ob)) (hS : ∀ k, S k w0.drew) (hh : Has w0 L) (h : WS P l.toArray S (liveT T) (kdOf l) Q w0 ord a L) : (Code.region id l.toArray true).wp P Q a w0 := by
  subst hT
  exact wp_region_sep ord S hm hB hSA hS hh h
theorem ws_end (h : ∀ w', Kept w0 w' → Has w' L → Q .normal a w') : WS P ops S live kd Q w0 [] a L := h
theorem ws_reord (is : List Nat) (h : WS P ops S live kd Q w0 ord a (reord is L)) : WS P ops S live kd Q w0 ord a L :=
  WSep.perm (fun _ _ _ hp hq w' hK hh => hq w' hK (hh.perm hp.symm)) (reord_perm is L) h

end
theorem at_lit {l : List Oper} {k : Nat} {o : Oper} (h : l[k]? = some o) : l.toArray[k]? = some o := by simpa using h
section
variable {P : Program} {ops : Array Oper} {S : Nat → World → Prop} {live : Nat → Nat → Prop} {kd : Nat → Kd} {k : Nat} {ord : List Nat} {a : Act} {L : List Say} {o : Oper} {w0 : World} {Q : Exit → Act → World → Prop}
/-- A step by the kit's own walk of quiet operations. -/
theorem ws_q (ho : ops[k]? = some o) (hw : Region.wanted o (yielded ops a.tmps) = true) (hk : kd k = .rd) (hc : calls o.op = false)
    (h : o.quiet P a (fun w => ∃ n : In (S k), w = n.w) (fun a' => WS P ops S live kd Q w0 ord a' L)) : WS P ops S live kd Q w0 (k :: ord) a L := by
  obtain ⟨v, h1, h2⟩ := h
  refine ws_rd ho hw hk (v := v) (fun w hS => ?_) h2
  have h3 := h1 w ⟨⟨w, hS⟩, rfl⟩
  unfold Oper.quietAt at h3
  have h4 := fun f args w' => no_enter (P := P) (ρ := a.eval) (o := o) (w := w) (w' := w') (f := f) (args := args) hc
  generalize (execOp a.eval o).run P w = r at h3 h4
  cases r with
  | halt x w' => exact False.elim h3
  | ok n w' =>
    cases n with
    | value u => exact h3
    | skip => exact h3
    | enter f args => exact absurd rfl (h4 f args w')
    | _ => exact False.elim h3
/-- What reads, its value known: len and the like. -/
theorem ws_v (ho : ops[k]? = some o) (hw : Region.wanted o (yielded ops a.tmps) = true) (hk : kd k = .rd) (v : Value) (h1 : ∀ w, S k w → (execOp a.eval o).run P w = .ok (.value v) w)
    (h : WS P ops S live kd Q w0 ord (a.put o.dst v) L) : WS P ops S live kd Q w0 (k :: ord) a L :=
  ws_rd ho hw hk (fun w hS => rd_ok (h1 w hS)) h
theorem ws_len (ho : ops[k]? = some o) (hw : Region.wanted o (yielded ops a.tmps) = true) (hk : kd k = .rd) (x : Operand) (t : TypeId) (hop : o.op = .call { callee := .builtin .len, args := #[x], argTypes := #[t] })
    (hu : P.underlying t = some (.slice (P.elem t))) (b : Option Addr) (n c : Nat) (hx : a.eval x = .slice b n c) (h : WS P ops S live kd Q w0 ord (a.put o.dst (.int .i64 n)) L) : WS P ops S live kd Q w0 (k :: ord) a L :=
  ws_v ho hw hk (.int .i64 n) (fun w _ => by
    unfold execOp
    simp only [hop, resolve, invoke, builtin, Sem.run_bind, Sem.run_pure, Result.andThen_ok, List.map_toArray, List.map_cons, List.map_nil, hx]
    rw [run_len_slice _ t o.type b n c hu]
    rfl) h

/-- A block is made. -/
theorem ws_ptr (ho : ops[k]? = some o) (hw : Region.wanted o (yielded ops a.tmps) = true) (hk : kd k = .nw) (ob : Obj) (h1 : ∀ w, (execOp a.eval o).run P w = .ok (.value (.pointer (some ⟨w.heap.size, 0, none⟩))) (w.alloc ob))
    (h : ∀ b : Nat, WS P ops S live kd Q w0 ord (a.put o.dst (.pointer (some ⟨b, 0, none⟩))) (pts b ob :: L)) : WS P ops S live kd Q w0 (k :: ord) a L :=
  ws_nw ho hw hk (f := fun b => .pointer (some ⟨b, 0, none⟩)) (ob := ob) h1 h
theorem ws_slice (ho : ops[k]? = some o) (hw : Region.wanted o (yielded ops a.tmps) = true) (hk : kd k = .nw) (n : Nat) (ob : Obj) (h1 : ∀ w, (execOp a.eval o).run P w = .ok (.value (.slice (some ⟨w.heap.size, 0, none⟩) n n)) (w.alloc ob))
    (h : ∀ b : Nat, WS P ops S live kd Q w0 ord (a.put o.dst (.slice (some ⟨b, 0, none⟩) n n)) (pts b ob :: L)) : WS P ops S live kd Q w0 (k :: ord) a L :=
  ws_nw ho hw hk (f := fun b => .slice (some ⟨b, 0, none⟩) n n) (ob := ob) h1 h

/-- A call. -/
def CallPost (Post : Value → List Say → Prop) (w : World) (F : List Say) (e : Ending) (w' : World) : Prop := ∃ v L', e = .returned v ∧ Kept w w' ∧ Post v L' ∧ Has w' (L' ++ F)
theorem ws_call (ho : ops[k]? = some o) (hw : Region.wanted o (yielded ops a.tmps) = true) (hk : kd k = .mn) (f : FuncId) (args : Array Value) (h1 : ∀ w, (execOp a.eval o).run P w = .ok (.enter f args) w)
    (Post : Value → List Say → Prop) (hc : ∀ w F, S k w → Has w (L ++ F) → Calls P f args w (CallPost Post w F))
    (h : ∀ v L', Post v L' → (∀ w F, Has w (L' ++ F) → ∀ j, live k j → S j w) ∧ WS P ops S live kd Q w0 ord (a.put o.dst v) L') : WS P ops S live kd Q w0 (k :: ord) a L :=
  ws_mn ho hw hk Post (fun w F hS hh => by
    rw [h1]
    exact (hc w F hS hh).mono fun e w' ⟨v, L', he, hK, hp, hh'⟩ => ⟨v, he, hK, L', hp, hh'⟩) h

end

/-- A block with cells written into it. -/
def putCells : Array Value → Nat → List Value → Array Value
  | c, _, [] => c
  | c, i, v :: r => putCells (c.setIfInBounds i v) (i + 1) r
theorem Has.setCells {b : Nat} {e : TypeId} {f : Nat × Nat} {l : List Say} : ∀ (vs : List Value) (i : Nat) {w : World} {c : Array Value}, Has w (pts b (.cells c e f) :: l) → Has (w.setCells b i vs) (pts b (.cells (putCells c i vs) e f) :: l)
  | [], _, _, _, h => h
  | v :: r, i, _, _, h => Has.setCells r (i + 1) (h.setCell i v)
theorem Kept.setCells {a : World} {b : Nat} : ∀ (vs : List Value) (i : Nat) {w : World}, Kept a w → Kept a (w.setCells b i vs)
  | [], _, _, h => h
  | v :: r, i, _, h => Kept.setCells r (i + 1) (h.setCell _ v)
theorem run_store_pts {P : Program} {w : World} {l : List Say} {b i : Nat} {c : Array Value} {e : TypeId} (h : Has w (pts b (.cells c e (0, 0)) :: l)) (t : TypeId) (v : Value) (hi : i + v.cells.size ≤ c.size) (h1 : ∀ u ∈ v.cells.toList, u.oneCell' = true)
    (hsz : (P.info? t).map (·.size) = some v.cells.size) : (Instr.storeAt t (.pointer (some ⟨b, i, none⟩)) v).run P w = .ok () (w.setCells b i v.cells.toList) := by
  have hb := h.got
  have := run_storeCells_cells (P := P) b i v.cells.toList 0 w (fun j hj => by
      have hj' : i + 0 + j < c.size := by simp at hj; omega
      rw [cell_of hb (i + 0 + j) (v := c[i + 0 + j]) (Array.getElem?_eq_getElem hj')]; rfl) (fun j hj => thaw_of hb _) h1
  simp only [Nat.add_zero] at this
  cases hq : P.info? t with
  | none => simp [hq] at hsz
  | some inf =>
    have hs : v.cells.size = inf.size := by simp [hq] at hsz; omega
    simp only [Instr.storeAt, Instr.sureAddr, Sem.run_bind, Sem.run_pure, Result.andThen_ok]
    simp [storeVar, sizeOf, typeInfo, hq, hs, this]

section
variable {P : Program} {ops : Array Oper} {S : Nat → World → Prop} {live : Nat → Nat → Prop} {kd : Nat → Kd} {k : Nat} {ord : List Nat} {a : Act} {L : List Say} {o : Oper} {w0 : World} {Q : Exit → Act → World → Prop}
/-- A store into the first block. -/
theorem ws_store (ho : ops[k]? = some o) (hw : Region.wanted o (yielded ops a.tmps) = true) (hk : kd k = .mn) (t : TypeId) (x y : Operand) (hop : o.op = .store t x y)
    {b i : Nat} {c : Array Value} {e : TypeId} {L2 : List Say} (hx : a.eval x = .pointer (some ⟨b, i, none⟩)) {v : Value} (hy : a.eval y = v) (hi : i + v.cells.size ≤ c.size) (h1 : ∀ u ∈ v.cells.toList, u.oneCell' = true)
    (hsz : (P.info? t).map (·.size) = some v.cells.size) {c' : Array Value} (hc' : putCells c i v.cells.toList = c')
    (hS : ∀ w F, Has w (pts b (.cells c' e (0, 0)) :: L2 ++ F) → ∀ j, live k j → S j w) (h : WS P ops S live kd Q w0 ord (a.put o.dst undef) (pts b (.cells c' e (0, 0)) :: L2)) :
    WS P ops S live kd Q w0 (k :: ord) a (pts b (.cells c e (0, 0)) :: L2) :=
  ws_mn ho hw hk (fun u L' => u = undef ∧ L' = pts b (.cells c' e (0, 0)) :: L2) (fun w F _ hh => by
    have hrun : (execOp a.eval o).run P w = .ok .skip (w.setCells b i v.cells.toList) := by
      unfold execOp
      simp only [hop, hx, hy, Sem.run_bind, run_store_pts hh t v hi h1 hsz, Result.andThen_ok, Sem.run_pure]
    rw [hrun]
    exact ⟨(Kept.refl w).setCells _ _, _, ⟨rfl, rfl⟩, by rw [← hc']; exact Has.setCells (l := L2 ++ F) _ _ hh⟩) fun v' L' hp => by
      obtain ⟨rfl, rfl⟩ := hp
      exact ⟨hS, h⟩

end
end Go.Proofs.YtgbgneiciabidaaGreatDoor
/-
  Plain: the steps of a walk through a region that draws its order, at numbers.
-/
namespace Go.Proofs.YtgbgneiciabidaaGreatDoor
open Go Go.RowKit
set_option linter.all false

section
variable {ops : Array Oper} {S : Nat → World → Prop} {live : Nat → Nat → Prop} {kd : Nat → Kd} {k : Nat} {ord : List Nat} {a : Act} {L : List Say} {o : Oper} {w0 : World} {Q : Exit → Act → World → Prop}
/-- A number is appended that lies in a block of its own: in a plain region. -/
theorem wpList_append_int {w : World} {l : List Say} {ops : Array Oper} {rest : List Oper} {o : Oper} {a : Act} {Q : Exit → Act → World → Prop} (hgd : o.guard = none) (s x : Operand)
    (hop : o.op = .call { callee := .builtin .append, args := #[s, x], argTypes := #[22, 22] })
    {p : Option Addr} {n c : Nat} {xs : List Int} (hs : a.eval s = .slice p n c) {bx : Nat} {y : Int} (hx : a.eval x = .slice (some ⟨bx, 0, none⟩) 1 1) (hown : Has w (intsS (.slice p n c) xs :: l)) (hm : pts bx (.cells #[.int .i64 y] 3 (0, 0)) ∈ l)
    (hn : xs.length = n) (hlen : xs.length ≤ 1000000000000)
    (h : ∀ p' c' w', Kept w w' → Has w' (intsS (.slice p' (n + 1) c') (xs ++ [y]) :: l) → wpList Tryz.prog ops Q rest (a.put o.dst (.slice p' (n + 1) c')) w') : wpList Tryz.prog ops Q (o :: rest) a w := by
  obtain ⟨i0, I1, I2, I3, I4⟩ := info_parts info_int
  subst hn
  refine wpList_append_row hgd s x 22 hop 3 i0 (.int .i64 0) 1 8 Tryz.underlying22 I1 I2 I3 I4 rfl (by decide) _ _ (xs.map intVal) hs hown ⟨bx, 0, none⟩ 1 1 [.int .i64 y] hx rfl ?_ (by simp [Value.oneCell']) (by unfold maxLen; omega) (by omega) ?_
  · intro j u hu
    have hb := hown.at (b := bx) (o := .cells #[.int .i64 y] 3 (0, 0)) (List.mem_cons_of_mem _ hm)
    have : j = 0 := by
      have := (List.getElem?_eq_some_iff.1 hu).1
      simpa using this
    subst this
    rw [Addr.add_lit]
    exact cell_of hb 0 hu
  · intro v' w' hK hh
    have e1 : rowS 3 1 v' (xs.length + 1) (xs.map intVal ++ [.int .i64 y]) = intsS v' (xs ++ [y]) := by unfold intsS; rw [List.length_append, List.map_append]; rfl
    rw [e1] at hh
    obtain ⟨a', c', rfl, _, _⟩ := hh.ints_read (v := v') (xs := xs ++ [y]) (.head _)
    rw [List.length_append] at hh ⊢
    exact h a' c' w' hK hh
end
end Go.Proofs.YtgbgneiciabidaaGreatDoor
