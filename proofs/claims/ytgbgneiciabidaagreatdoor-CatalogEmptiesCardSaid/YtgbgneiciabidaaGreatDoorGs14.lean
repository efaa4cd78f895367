/-
  Plain: the steps of a walk through a region that draws its order.
-/
import Derived.Test.YtgbgneiciabidaaGreatDoorGs13
import Derived.Deep.MidRow
import Derived.Test.YtgbgneiciabidaaGreatDoorGs4
import Derived.Test.YtgbgneiciabidaaGreatDoorGs12
import Derived.Test.YtgbgneiciabidaaGreatDoorGs11
namespace Go.Proofs.YtgbgneiciabidaaGreatDoor
open Go Go.RowKit
set_option linter.all false
set_option maxHeartbeats 8000000
structure In (S : World -> Prop) where
 w : World
 ok : S w
section
variable {P : Program} {ops : Array Oper} {S : Nat -> World -> Prop} {live : Nat -> Nat -> Prop} {kd : Nat -> Kd} {k : Nat} {ord : List Nat} {a : Act} {L : List Say} {o : Oper} {w0 : World} {Q : Exit -> Act -> World -> Prop}
def QSep (Q : Exit -> Act -> World -> Prop) (w0 : World) (a : Act) (L : List Say) : Prop := ∀ w', Kept w0 w' -> Has w' L -> Q .normal a w'
abbrev WS (P : Program) (ops : Array Oper) (S : Nat -> World -> Prop) (live : Nat -> Nat -> Prop) (kd : Nat -> Kd) (Q : Exit -> Act -> World -> Prop) (w0 : World) : List Nat -> Act -> List Say -> Prop := WSep P ops S live kd (QSep Q w0)
def factsOf (l : List (Nat × Addr × Value)) (k : Nat) (w : World) : Prop := ∀ p ∈ l, p.1 = k -> w.cell? p.2.1 = some p.2.2
theorem factsOf.alloc {l : List (Nat × Addr × Value)} (k : Nat) (w : World) (ob : Obj) (h : factsOf l k w) : factsOf l k (w.alloc ob) := fun p hp e => by
 have := h p hp e
 rw [World.cell?_alloc_lt _ _ _ (World.block_lt_of_cell? _ _ this)]; exact this
theorem factsOf.drew {l : List (Nat × Addr × Value)} {w : World} (h : ∀ p ∈ l, w.cell? p.2.1 = some p.2.2) (k : Nat) : factsOf l k w.drew := fun p hp _ => h p hp
theorem factsOf.cell {l : List (Nat × Addr × Value)} {k : Nat} {a : Addr} {v : Value} (hm : (k, a, v) ∈ l) (n : In (factsOf l k)) : n.w.cell? a = some v := n.ok (k, a, v) hm rfl
def liveFacts (T : Array Nat) (m : Nat) : List (Nat × Addr × Value) -> List (Nat × Addr × Value)
 | [] => []
 | p :: l => bif (T.getD m 0).testBit p.1 then liveFacts T m l else p :: liveFacts T m l
theorem mem_live {T : Array Nat} {m : Nat} {p : Nat × Addr × Value} (h : (T.getD m 0).testBit p.1 = false) : ∀ {l : List (Nat × Addr × Value)}, p ∈ l -> p ∈ liveFacts T m l
 | q :: l, hp => by
  unfold liveFacts
  rcases List.mem_cons.1 hp with rfl | hp
  ·rw [h]; exact .head _
  ·cases (T.getD m 0).testBit q.1 with
   | true => exact mem_live h hp
   | false => exact .tail _ (mem_live h hp)
theorem live_facts {T : Array Nat} {m : Nat} {l : List (Nat × Addr × Value)} {w : World} (h : ∀ p ∈ liveFacts T m l, w.cell? p.2.1 = some p.2.2) : ∀ j, liveOf (fun k => T.getD k 0) m j -> factsOf l j w := by
 intro j hj p hp e
 unfold liveOf at hj
 exact h p (mem_live (by rw [e]; exact hj) hp)
theorem fcons {p : Nat × Addr × Value} {l : List (Nat × Addr × Value)} {w : World} (h : w.cell? p.2.1 = some p.2.2) (hl : ∀ q ∈ l, w.cell? q.2.1 = some q.2.2) : ∀ q ∈ p :: l, w.cell? q.2.1 = some q.2.2 := fun q hq => by
 rcases List.mem_cons.1 hq with rfl | hq
 ·exact h
 ·exact hl q hq
theorem fnil {w : World} : ∀ q ∈ ([] : List (Nat × Addr × Value)), w.cell? q.2.1 = some q.2.2 := fun _ h => nomatch h
def liveT (T : Array Nat) (i j : Nat) : Prop := liveOf (fun k => T.getD k 0) i j
theorem lives {T : Array Nat} {m : Nat} {l l' : List (Nat × Addr × Value)} {w : World} (hl : liveFacts T m l = l') (h : ∀ p ∈ l', w.cell? p.2.1 = some p.2.2) : ∀ j, liveT T m j -> factsOf l j w := by
 subst hl; exact live_facts h
theorem ws_begin {id : Nat} {l : List Oper} (ord : List Nat) (S : Nat -> World -> Prop) (L : List Say) (T : Array Nat) (hT : T = ancTab l #[]) (hm : P.follows .mixedOrders = true) (hB : sepB l (kdOf l) ord = true)
  (hSA : ∀ k w ob, S k w -> S k (w.alloc ob)) (hS : ∀ k, S k w0.drew) (hh : Has w0 L) (h : WS P l.toArray S (liveT T) (kdOf l) Q w0 ord a L) : (Code.region id l.toArray true).wp P Q a w0 := by
 subst hT
 exact wp_region_sep ord S hm hB hSA hS hh h
theorem ws_end (h : ∀ w', Kept w0 w' -> Has w' L -> Q .normal a w') : WS P ops S live kd Q w0 [] a L := h
theorem ws_reord (is : List Nat) (h : WS P ops S live kd Q w0 ord a (reord is L)) : WS P ops S live kd Q w0 ord a L :=
 WSep.perm (fun _ _ _ hp hq w' hK hh => hq w' hK (hh.perm hp.symm)) (reord_perm is L) h
end
theorem at_lit {l : List Oper} {k : Nat} {o : Oper} (h : l[k]? = some o) : l.toArray[k]? = some o := by simpa using h
section
variable {P : Program} {ops : Array Oper} {S : Nat -> World -> Prop} {live : Nat -> Nat -> Prop} {kd : Nat -> Kd} {k : Nat} {ord : List Nat} {a : Act} {L : List Say} {o : Oper} {w0 : World} {Q : Exit -> Act -> World -> Prop}
theorem ws_q (ho : ops[k]? = some o) (hw : Region.wanted o (yielded ops a.tmps) = true) (hk : kd k = .rd) (hc : calls o.op = false)
  (h : o.quiet P a (fun w => ∃ n : In (S k), w = n.w) (fun a' => WS P ops S live kd Q w0 ord a' L)) : WS P ops S live kd Q w0 (k :: ord) a L := by
 obtain ⟨v, h1, h2⟩ := h
 refine ws_rd ho hw hk (v := v) (fun w hS => ?_) h2
 have h3 := h1 w ⟨⟨w, hS⟩, rfl⟩
 unfold Oper.quietAt at h3
 have h4 := fun f args w' => no_enter (P := P) (ρ := a.eval) (o := o) (w := w) (w' := w') (f := f) (args := args) hc
 generalize (execOp a.eval o).run P w = r at h3 h4
 cases r with
 | halt x w' => exact False.elim h3
 | ok n w' =>
  cases n with
  | value u => exact h3
  | skip => exact h3
  | enter f args => exact absurd rfl (h4 f args w')
  | _ => exact False.elim h3
theorem ws_v (ho : ops[k]? = some o) (hw : Region.wanted o (yielded ops a.tmps) = true) (hk : kd k = .rd) (v : Value) (h1 : ∀ w, S k w -> (execOp a.eval o).run P w = .ok (.value v) w)
  (h : WS P ops S live kd Q w0 ord (a.put o.dst v) L) : WS P ops S live kd Q w0 (k :: ord) a L :=
 ws_rd ho hw hk (fun w hS => rd_ok (h1 w hS)) h
theorem ws_len (ho : ops[k]? = some o) (hw : Region.wanted o (yielded ops a.tmps) = true) (hk : kd k = .rd) (x : Operand) (t : TypeId) (hop : o.op = .call { callee := .builtin .len, args := #[x], argTypes := #[t] })
  (hu : P.underlying t = some (.slice (P.elem t))) (b : Option Addr) (n c : Nat) (hx : a.eval x = .slice b n c) (h : WS P ops S live kd Q w0 ord (a.put o.dst (.int .i64 n)) L) : WS P ops S live kd Q w0 (k :: ord) a L :=
 ws_v ho hw hk (.int .i64 n) (fun w _ => by
  unfold execOp
  simp only [hop, resolve, invoke, builtin, Sem.run_bind, Sem.run_pure, Result.andThen_ok, List.map_toArray, List.map_cons, List.map_nil, hx]
  rw [run_len_slice _ t o.type b n c hu]
  rfl) h
theorem ws_ptr (ho : ops[k]? = some o) (hw : Region.wanted o (yielded ops a.tmps) = true) (hk : kd k = .nw) (ob : Obj) (h1 : ∀ w, (execOp a.eval o).run P w = .ok (.value (.pointer (some ⟨w.heap.size, 0, none⟩))) (w.alloc ob))
  (h : ∀ b : Nat, WS P ops S live kd Q w0 ord (a.put o.dst (.pointer (some ⟨b, 0, none⟩))) (pts b ob :: L)) : WS P ops S live kd Q w0 (k :: ord) a L :=
 ws_nw ho hw hk (f := fun b => .pointer (some ⟨b, 0, none⟩)) (ob := ob) h1 h
theorem ws_slice (ho : ops[k]? = some o) (hw : Region.wanted o (yielded ops a.tmps) = true) (hk : kd k = .nw) (n : Nat) (ob : Obj) (h1 : ∀ w, (execOp a.eval o).run P w = .ok (.value (.slice (some ⟨w.heap.size, 0, none⟩) n n)) (w.alloc ob))
  (h : ∀ b : Nat, WS P ops S live kd Q w0 ord (a.put o.dst (.slice (some ⟨b, 0, none⟩) n n)) (pts b ob :: L)) : WS P ops S live kd Q w0 (k :: ord) a L :=
 ws_nw ho hw hk (f := fun b => .slice (some ⟨b, 0, none⟩) n n) (ob := ob) h1 h
def CallPost (Post : Value -> List Say -> Prop) (w : World) (F : List Say) (e : Ending) (w' : World) : Prop := ∃ v L', e = .returned v /\ Kept w w' /\ Post v L' /\ Has w' (L' ++ F)
theorem ws_call (ho : ops[k]? = some o) (hw : Region.wanted o (yielded ops a.tmps) = true) (hk : kd k = .mn) (f : FuncId) (args : Array Value) (h1 : ∀ w, (execOp a.eval o).run P w = .ok (.enter f args) w)
  (Post : Value -> List Say -> Prop) (hc : ∀ w F, S k w -> Has w (L ++ F) -> Calls P f args w (CallPost Post w F))
  (h : ∀ v L', Post v L' -> (∀ w F, Has w (L' ++ F) -> ∀ j, live k j -> S j w) /\ WS P ops S live kd Q w0 ord (a.put o.dst v) L') : WS P ops S live kd Q w0 (k :: ord) a L :=
 ws_mn ho hw hk Post (fun w F hS hh => by
  rw [h1]
  exact (hc w F hS hh).mono fun e w' ⟨v, L', he, hK, hp, hh'⟩ => ⟨v, he, hK, L', hp, hh'⟩) h
end
def putCells : Array Value -> Nat -> List Value -> Array Value
 | c, _, [] => c
 | c, i, v :: r => putCells (c.setIfInBounds i v) (i + 1) r
theorem Has.setCells {b : Nat} {e : TypeId} {f : Nat × Nat} {l : List Say} : ∀ (vs : List Value) (i : Nat) {w : World} {c : Array Value}, Has w (pts b (.cells c e f) :: l) -> Has (w.setCells b i vs) (pts b (.cells (putCells c i vs) e f) :: l)
 | [], _, _, _, h => h
 | v :: r, i, _, _, h => Has.setCells r (i + 1) (h.setCell i v)
theorem Kept.setCells {a : World} {b : Nat} : ∀ (vs : List Value) (i : Nat) {w : World}, Kept a w -> Kept a (w.setCells b i vs)
 | [], _, _, h => h
 | v :: r, i, _, h => Kept.setCells r (i + 1) (h.setCell _ v)
theorem run_store_pts {P : Program} {w : World} {l : List Say} {b i : Nat} {c : Array Value} {e : TypeId} (h : Has w (pts b (.cells c e (0, 0)) :: l)) (t : TypeId) (v : Value) (hi : i + v.cells.size <= c.size) (h1 : ∀ u ∈ v.cells.toList, u.oneCell' = true)
  (hsz : (P.info? t).map (·.size) = some v.cells.size) : (Instr.storeAt t (.pointer (some ⟨b, i, none⟩)) v).run P w = .ok () (w.setCells b i v.cells.toList) := by
 have hb := h.got
 have := run_storeCells_cells (P := P) b i v.cells.toList 0 w (fun j hj => by
   have hj' : i + 0 + j < c.size := by simp at hj; omega
   rw [cell_of hb (i + 0 + j) (v := c[i + 0 + j]) (Array.getElem?_eq_getElem hj')]; rfl) (fun j hj => thaw_of hb _) h1
 simp only [Nat.add_zero] at this
 cases hq : P.info? t with
 | none => simp [hq] at hsz
 | some inf =>
  have hs : v.cells.size = inf.size := by simp [hq] at hsz; omega
  simp only [Instr.storeAt, Instr.sureAddr, Sem.run_bind, Sem.run_pure, Result.andThen_ok]
  simp [storeVar, sizeOf, typeInfo, hq, hs, this]
section
variable {P : Program} {ops : Array Oper} {S : Nat -> World -> Prop} {live : Nat -> Nat -> Prop} {kd : Nat -> Kd} {k : Nat} {ord : List Nat} {a : Act} {L : List Say} {o : Oper} {w0 : World} {Q : Exit -> Act -> World -> Prop}
theorem ws_store (ho : ops[k]? = some o) (hw : Region.wanted o (yielded ops a.tmps) = true) (hk : kd k = .mn) (t : TypeId) (x y : Operand) (hop : o.op = .store t x y)
  {b i : Nat} {c : Array Value} {e : TypeId} {L2 : List Say} (hx : a.eval x = .pointer (some ⟨b, i, none⟩)) {v : Value} (hy : a.eval y = v) (hi : i + v.cells.size <= c.size) (h1 : ∀ u ∈ v.cells.toList, u.oneCell' = true)
  (hsz : (P.info? t).map (·.size) = some v.cells.size) {c' : Array Value} (hc' : putCells c i v.cells.toList = c')
  (hS : ∀ w F, Has w (pts b (.cells c' e (0, 0)) :: L2 ++ F) -> ∀ j, live k j -> S j w) (h : WS P ops S live kd Q w0 ord (a.put o.dst undef) (pts b (.cells c' e (0, 0)) :: L2)) :
  WS P ops S live kd Q w0 (k :: ord) a (pts b (.cells c e (0, 0)) :: L2) :=
 ws_mn ho hw hk (fun u L' => u = undef /\ L' = pts b (.cells c' e (0, 0)) :: L2) (fun w F _ hh => by
  have hrun : (execOp a.eval o).run P w = .ok .skip (w.setCells b i v.cells.toList) := by
   unfold execOp
   simp only [hop, hx, hy, Sem.run_bind, run_store_pts hh t v hi h1 hsz, Result.andThen_ok, Sem.run_pure]
  rw [hrun]
  exact ⟨(Kept.refl w).setCells _ _, _, ⟨rfl, rfl⟩, by rw [<- hc']; exact Has.setCells (l := L2 ++ F) _ _ hh⟩) fun v' L' hp => by
   obtain ⟨rfl, rfl⟩ := hp
   exact ⟨hS, h⟩
end
/-
  Plain: the steps of a walk through a region that draws its order, at numbers.
-/
section
variable {ops : Array Oper} {S : Nat -> World -> Prop} {live : Nat -> Nat -> Prop} {kd : Nat -> Kd} {k : Nat} {ord : List Nat} {a : Act} {L : List Say} {o : Oper} {w0 : World} {Q : Exit -> Act -> World -> Prop}
theorem wpList_append_int {w : World} {l : List Say} {ops : Array Oper} {rest : List Oper} {o : Oper} {a : Act} {Q : Exit -> Act -> World -> Prop} (hgd : o.guard = none) (s x : Operand)
  (hop : o.op = .call { callee := .builtin .append, args := #[s, x], argTypes := #[22, 22] })
  {p : Option Addr} {n c : Nat} {xs : List Int} (hs : a.eval s = .slice p n c) {bx : Nat} {y : Int} (hx : a.eval x = .slice (some ⟨bx, 0, none⟩) 1 1) (hown : Has w (intsS (.slice p n c) xs :: l)) (hm : pts bx (.cells #[.int .i64 y] 3 (0, 0)) ∈ l)
  (hn : xs.length = n) (hlen : xs.length <= 1000000000000)
  (h : ∀ p' c' w', Kept w w' -> Has w' (intsS (.slice p' (n + 1) c') (xs ++ [y]) :: l) -> wpList Tryz.prog ops Q rest (a.put o.dst (.slice p' (n + 1) c')) w') : wpList Tryz.prog ops Q (o :: rest) a w := by
 obtain ⟨i0, I1, I2, I3, I4⟩ := info_parts info_int
 subst hn
 refine wpList_append_row hgd s x 22 hop 3 i0 (.int .i64 0) 1 8 Tryz.underlying22 I1 I2 I3 I4 rfl (by decide) _ _ (xs.map intVal) hs hown ⟨bx, 0, none⟩ 1 1 [.int .i64 y] hx rfl ?_ (by simp [Value.oneCell']) (by unfold maxLen; omega) (by omega) ?_
 ·intro j u hu
  have hb := hown.at (b := bx) (o := .cells #[.int .i64 y] 3 (0, 0)) (List.mem_cons_of_mem _ hm)
  have : j = 0 := by
   have := (List.getElem?_eq_some_iff.1 hu).1
   simpa using this
  subst this
  rw [Addr.add_lit]
  exact cell_of hb 0 hu
 ·intro v' w' hK hh
  have e1 : rowS 3 1 v' (xs.length + 1) (xs.map intVal ++ [.int .i64 y]) = intsS v' (xs ++ [y]) := by unfold intsS; rw [List.length_append, List.map_append]; rfl
  rw [e1] at hh
  obtain ⟨a', c', rfl, _, _⟩ := hh.ints_read (v := v') (xs := xs ++ [y]) (.head _)
  rw [List.length_append] at hh ⊢
  exact h a' c' w' hK hh
end
/-
  Nodes (layer 10): pairs as nodes (of, cut).
-/
def PRd (w : World) (v : Value) (ps : List (Int × Int)) : Prop := ∃ a c, v = .slice a ps.length c /\ ps.length <= c /\ ∀ (k : Nat) p, ps[k]? = some p -> ∃ g off, a = some ⟨g, off, none⟩ /\ w.cell? ⟨g, off + k * 2, none⟩ = some (.int .i64 p.1) /\ w.cell? ⟨g, off + k * 2 + 1, none⟩ = some (.int .i64 p.2)
def PSrcs (l : List Say) (v : Value) (ps : List (Int × Int)) : Prop := ∀ w, Has w l -> PRd w v ps
theorem Has.left {w : World} {m l : List Say} (h : Has w (m ++ l)) : Has w m := by
 have h2 := (h.unite.only (.head _)).split
 rw [List.append_nil] at h2
 exact h2
theorem PSrcs.app {l : List Say} {v : Value} {ps : List (Int × Int)} (h : PSrcs l v ps) (F : List Say) : PSrcs (l ++ F) v ps := fun w hw => h w hw.left
theorem PSrcs.cons {A : Say} {l : List Say} {v : Value} {ps : List (Int × Int)} (h : PSrcs l v ps) : PSrcs (A :: l) v ps := fun w hw => h w hw.tail
theorem PSrcs.of_pairs {l : List Say} {v : Value} {ps : List (Int × Int)} (hm : pairsS v ps ∈ l) : PSrcs l v ps := fun w hw => by
 obtain ⟨a, c, e, hc, hr⟩ := hw.pairs_read hm
 refine ⟨a, c, e, hc, fun k p hp => ?_⟩
 obtain ⟨g, e1, h1, h2⟩ := hr k p hp
 exact ⟨g, 0, e1, by rw [Nat.zero_add]; exact h1, by rw [Nat.zero_add]; exact h2⟩
def OfMid (w : World) (lv : Int) (ps : List (Int × Int)) (r4 r5 : Nat) (l : List Say) (k : Nat) (wr : World) : Prop :=
 ∃ (ak : Option Addr) (ck : Nat) (av : Option Addr) (cv : Nat), Kept w wr /\
  Has wr (pts r5 (.cells #[.int .i64 lv, .slice ak k ck, .slice av k cv] 35 (0, 0)) :: intsS (.slice ak k ck) ((ps.take k).map (·.1)) :: intsS (.slice av k cv) ((ps.take k).map (·.2)) :: pts r4 (.cells #[.int .i64 0, .slice none 0 0, .slice none 0 0] 35 (0, 0)) :: l)
def NofPost (lv : Int) (ps : List (Int × Int)) (l : List Say) (w : World) (r : Ending) (w' : World) : Prop :=
 ∃ (ak : Option Addr) (ck : Nat) (av : Option Addr) (cv : Nat), r = .returned (.agg #[.int .i64 lv, .slice ak ps.length ck, .slice av ps.length cv]) /\ Kept w w' /\
  Has w' (intsS (.slice ak ps.length ck) (ps.map (·.1)) :: intsS (.slice av ps.length cv) (ps.map (·.2)) :: l)
set_option maxRecDepth 100000 in
theorem node_of {w : World} {l : List Say} (lv : Int) (kv vv : Value) (ps : List (Int × Int)) {v : Value} (h : Has w l) (hp : PSrcs l v ps) (hl : ps.length <= 100) :
  Calls Tryz.prog 167 #[.agg #[.int .i64 lv, kv, vv], v] w (NofPost lv ps l w) := by
 obtain ⟨a, c, rfl, _, _⟩ := hp w h
 have h2 := ((h.alloc (.cells #[.int .i64 lv, kv, vv] 35)).alloc (.cells #[.int .i64 0, .slice none 0 0, .slice none 0 0] 35))
 have HK0 := Lib.hid (((Kept.refl w).alloc (.cells #[.int .i64 lv, kv, vv] 35)).alloc (.cells #[.int .i64 0, .slice none 0 0, .slice none 0 0] 35))
 simp only [World.size_alloc] at h2
 have h3 := (h2.pull 1).tail.alloc (.cells #[.int .i64 lv, .slice none 0 0, .slice none 0 0] 35)
 simp only [World.size_alloc] at h3
 have HM : Hid (OfMid w lv ps (w.heap.size + 1) (w.heap.size + 1 + 1) l 0 (((w.alloc (.cells #[.int .i64 lv, kv, vv] 35)).alloc (.cells #[.int .i64 0, .slice none 0 0, .slice none 0 0] 35)).alloc (.cells #[.int .i64 lv, .slice none 0 0, .slice none 0 0] 35))) :=
  ⟨none, 0, none, 0, HK0.out.alloc _, ((h3.row_nil 3 1).row_nil 3 1).pull 2⟩
 have Hp := Lib.hid hp
 clear h h2 h3 hp HK0
 generalize hn : ps.length = n at *
 have Hn := Lib.hid hn
 have hnI : (n : Int) <= 100 := by omega
 clear hn
 go_enter Tryz.func167, Tryz.ntmps167
 go_wp2
 generalize hq : w.heap.size + 1 + 1 = r5 at *
 generalize hq4 : w.heap.size + 1 = r4 at *
 have h45 : r4 ≠ r5 := by omega
 clear hq hq4
 go_loopg [13] n (fun gk i wr => ∃ k : Nat, k <= n /\ gk = n - k /\ i = .int .i64 k /\ Hid (OfMid w lv ps r4 r5 l k wr))
 case atStart => exact ⟨0, Nat.zero_le _, rfl, rfl, HM⟩
 case round =>
  clear HM
  obtain ⟨k, hk, rfl, rfl, HM⟩ := hrel
  obtain ⟨ak, ck, av, cv, hK, hh⟩ := HM.out
  clear HM
  by_cases hlt : k < n
  ·have hkl : k < ps.length := by have := Hn.out; omega
   obtain ⟨a', c', e1, _, hr⟩ := Hp.out wr hh.tail.tail.tail.tail
   injection e1 with e1 e2 e3
   subst e1
   clear e2 e3
   obtain ⟨g, off, rfl, c1, c2⟩ := hr k ps[k] (List.getElem?_eq_getElem hkl)
   have HT : Hid (ps.take (k + 1) = ps.take k ++ [ps[k]]) := List.take_succ_eq_append_getElem hkl
   generalize ps[k] = p at *
   obtain ⟨pk, pv⟩ := p
   simp only at c1 c2
   have lg := World.block_lt_of_cell? _ _ c1
   have h5 := hh.got
   have k1 : wr.cell? ⟨r5, 1, none⟩ = some (.slice ak k ck) := cell_of h5 1 rfl
   have l5 := World.block_lt_of_cell? _ _ k1
   have hkI : (k : Int) < (n : Int) := by omega
   have hx := ((hh.alloc (.cells #[.int .i64 pk, .int .i64 pv] 87)).alloc (.cells #[.int .i64 pk] 3))
   simp only [World.size_alloc] at hx
   have HX := Lib.hid (hx.pull 3)
   clear hx
   have HK := Lib.hid ((hK.alloc (.cells #[.int .i64 pk, .int .i64 pv] 87)).alloc (.cells #[.int .i64 pk] 3))
   have htl : ((ps.take k).map (·.1)).length = k := by simp; omega
   have htl2 : ((ps.take k).map (·.2)).length = k := by simp; omega
   have Htl := Lib.hid htl
   have Htl2 := Lib.hid htl2
   clear hr h5 hh hK hkl htl htl2
   go_upto_region 6 with (at_builtin; refine wpList_append_int rfl (.tmp 18) (.tmp 21) rfl rfl rfl HX.out (.head _) Htl.out (by have := Htl.out; omega) ?_; intro p1 q1 w1 hK1 hz; have hr5 := hz.at (b := r5) (o := .cells #[.int .i64 lv, .slice ak k ck, .slice av k cv] 35 (0, 0)) (by simp); have m1 : w1.cell? ⟨r5, 1, none⟩ = some (.slice ak k ck) := cell_of hr5 1 rfl; have f1 := thaw_of hr5 1; have l1 := World.block_lt_of_cell? _ _ m1; have HK1 := Lib.hid hK1; have Hz := Lib.hid hz; clear hK1 hz hr5 c1 c2 k1)
   have h6 := (Hz.out.pull 3).setCell 1 (.slice p1 (k + 1) q1)
   have hk6 := (HK.out.trans HK1.out).setCell ⟨r5, 1, none⟩ (.slice p1 (k + 1) q1)
   generalize w1.setCell ⟨r5, 1, none⟩ (.slice p1 (k + 1) q1) = V at *
   have h6 : Has V (pts r5 (.cells #[.int .i64 lv, .slice p1 (k + 1) q1, .slice av k cv] 35 (0, 0)) :: intsS (.slice p1 (k + 1) q1) ((ps.take k).map (·.1) ++ [pk]) :: pts (wr.heap.size + 1) (.cells #[.int .i64 pk] 3 (0, 0)) :: pts wr.heap.size (.cells #[.int .i64 pk, .int .i64 pv] 87 (0, 0)) :: intsS (.slice av k cv) ((ps.take k).map (·.2)) :: pts r4 (.cells #[.int .i64 0, .slice none 0 0, .slice none 0 0] 35 (0, 0)) :: l) := h6
   clear Hz HK HK1 HX m1 f1 l1
   have h5 := h6.got
   have k2 : V.cell? ⟨r5, 2, none⟩ = some (.slice av k cv) := cell_of h5 2 rfl
   have l5' := World.block_lt_of_cell? _ _ k2
   have hpr := h6.at (b := wr.heap.size) (o := .cells #[.int .i64 pk, .int .i64 pv] 87 (0, 0)) (by simp)
   have c2 : V.cell? ⟨wr.heap.size, 1, none⟩ = some (.int .i64 pv) := cell_of hpr 1 rfl
   have lpr := World.block_lt_of_cell? _ _ c2
   have hx := (h6.alloc (.cells #[.int .i64 pv] 3)).pull 5
   have HX := Lib.hid hx
   have HK := Lib.hid (hk6.alloc (.cells #[.int .i64 pv] 3))
   clear h6 hk6 h5 hpr hx
   generalize hpb : wr.heap.size = b7 at *
   clear hpb
   go_upto_region 7 with (at_builtin; refine wpList_append_int rfl (.tmp 25) (.tmp 28) rfl rfl rfl HX.out (.head _) Htl2.out (by have := Htl2.out; omega) ?_; intro p2 q2 w3 hK1 hz; have hr5 := hz.at (b := r5) (o := .cells #[.int .i64 lv, .slice p1 (k + 1) q1, .slice av k cv] 35 (0, 0)) (by simp); have m2 : w3.cell? ⟨r5, 2, none⟩ = some (.slice av k cv) := cell_of hr5 2 rfl; have f2 := thaw_of hr5 2; have l2 := World.block_lt_of_cell? _ _ m2; have HK1 := Lib.hid hK1; have Hz := Lib.hid hz; clear hK1 hz hr5 c2 k2)
   have HM2 : Hid (OfMid w lv ps r4 r5 l (k + 1) (w3.setCell ⟨r5, 2, none⟩ (.slice p2 (k + 1) q2))) := by
    refine ⟨p1, q1, p2, q2, (HK.out.trans HK1.out).setCell _ _, ?_⟩
    rw [HT.out, List.map_append, List.map_append]
    exact (((((Hz.out.pull 2).setCell 2 (.slice p2 (k + 1) q2)).pull 2).tail.pull 3).tail.pull 3).tail.reord [0, 1]
   clear HX HK HK1 Hz m2 f2 l2
   go_wp2
   go_roundg (n - (k + 1))
   case measure => omega
   case rel => exact ⟨k + 1, by omega, rfl, by go_num, HM2⟩
  ·have hke : k = n := by omega
   subst hke
   have htk : ps.take k = ps := List.take_of_length_le (by have := Hn.out; omega)
   rw [htk] at hh
   have hr5 := hh.got
   have m0 : wr.cell? ⟨r5, 0, none⟩ = some (.int .i64 lv) := cell_of hr5 0 rfl
   have m1 : wr.cell? ⟨r5, 1, none⟩ = some (.slice ak k ck) := cell_of hr5 1 rfl
   have m2 : wr.cell? ⟨r5, 2, none⟩ = some (.slice av k cv) := cell_of hr5 2 rfl
   have l5 := World.block_lt_of_cell? _ _ m0
   have hr4 := hh.at (b := r4) (o := .cells #[.int .i64 0, .slice none 0 0, .slice none 0 0] 35 (0, 0)) (by simp)
   have t0 : wr.cell? ⟨r4, 0, none⟩ = some (.int .i64 0) := cell_of hr4 0 rfl
   have t1 : wr.cell? ⟨r4, 1, none⟩ = some (.slice none 0 0) := cell_of hr4 1 rfl
   have t2 : wr.cell? ⟨r4, 2, none⟩ = some (.slice none 0 0) := cell_of hr4 2 rfl
   have f0 := thaw_of hr4 0
   have f1 := thaw_of hr4 1
   have f2 := thaw_of hr4 2
   have l4 := World.block_lt_of_cell? _ _ t0
   have h2 := (((hh.pull 3).setCell 0 (.int .i64 lv)).setCell 1 (.slice ak k ck)).setCell 2 (.slice av k cv)
   have HF : Hid (NofPost lv ps l w (.returned (.agg #[.int .i64 lv, .slice ak k ck, .slice av k cv])) (((wr.setCell ⟨r4, 0, none⟩ (.int .i64 lv)).setCell ⟨r4, 1, none⟩ (.slice ak k ck)).setCell ⟨r4, 2, none⟩ (.slice av k cv))) := by
    refine ⟨ak, ck, av, cv, by rw [Hn.out], ((hK.setCell _ _).setCell _ _).setCell _ _, ?_⟩
    rw [Hn.out]
    exact h2.tail.tail
   have hg4 := h2.got
   have HZ := Lib.hid (cell_of hg4 0 (v := .int .i64 lv) rfl)
   have HZ1 := Lib.hid (cell_of hg4 1 (v := .slice ak k ck) rfl)
   have HZ2 := Lib.hid (cell_of hg4 2 (v := .slice av k cv) rfl)
   clear hh h2 hK hr5 hr4 htk hg4
   go_wp2
   exact bodyPost_ret (v := .agg #[.int .i64 lv, .slice ak k ck, .slice av k cv]) (by have z0 := HZ.out; have z1 := HZ1.out; have z2 := HZ2.out; simp [results, Tryz.results167, go_sem, z0, z1, z2]) rfl HF.out
def ndOf (lv : Int) (ps : List (Int × Int)) : Nd := ⟨lv, ps.map (·.1), ps.map (·.2)⟩
structure Nv where
 nd : Nd
 kv : Value
 vv : Value
def Nv.cells (t : Nv) : List Value := [.int .i64 t.nd.level, t.kv, t.vv]
def Nv.rows (t : Nv) : List Say := [intsS t.kv t.nd.keys, intsS t.vv t.nd.vals]
def nodesS (v : Value) (T : List Nv) : Say := rowS 35 3 v T.length (T.flatMap Nv.cells)
def nodesL (v : Value) (T : List Nv) : List Say := nodesS v T :: T.flatMap Nv.rows
def cutN (lv : Int) (ps : List (Int × Int)) : List Nd := if ps.length = 0 then [] else if ps.length <= 7 then [ndOf lv ps] else [ndOf lv (ps.take 4), ndOf lv (ps.drop 4)]
def NodesPost (ns : List Nd) (l : List Say) (w : World) (r : Ending) (w' : World) : Prop := ∃ v T, r = .returned v /\ T.map Nv.nd = ns /\ Kept w w' /\ Has w' (nodesL v T ++ l)
set_option maxRecDepth 100000 in
theorem node_cut {w : World} {l : List Say} (lv : Int) (kv vv : Value) (ps : List (Int × Int)) {v : Value} (h : Has w l) (hp : PSrcs l v ps) (hl : ps.length <= 100) :
  Calls Tryz.prog 166 #[.agg #[.int .i64 lv, kv, vv], v] w (NodesPost (cutN lv ps) l w) := by
 obtain ⟨a, c, rfl, hcap, hr⟩ := hp w h
 have Hcap := Lib.hid hcap
 clear hcap
 have hA := h.alloc (.cells #[.int .i64 lv, kv, vv] 35)
 have HK := Lib.hid ((Kept.refl w).alloc (.cells #[.int .i64 lv, kv, vv] 35))
 have HP : Hid (PSrcs (pts w.heap.size (.cells #[.int .i64 lv, kv, vv] 35 (0, 0)) :: l) (.slice a ps.length c) ps) := fun w' h' => hp w' h'.tail
 have HOf := Lib.hid (node_of lv kv vv ps hA HP.out hl)
 have HA := Lib.hid hA
 have Hr := Lib.hid hr
 clear h hr hA
 by_cases h0 : ps.length = 0
 ·have HF : Hid (NodesPost (cutN lv ps) l w (.returned (.slice none 0 0)) (w.alloc (.cells #[.int .i64 lv, kv, vv] 35))) :=
   ⟨.slice none 0 0, [], rfl, by unfold cutN; rw [if_pos h0]; rfl, HK.out, (HA.out.tail.row_nil _ _)⟩
  rw [h0] at HOf HP ⊢
  clear h0 HOf HP HA hp
  go_enter Tryz.func166, Tryz.ntmps166
  go_wp2
  go_ret
  exact HF.out
 ·by_cases h7 : ps.length <= 7
  ·have hC : cutN lv ps = [ndOf lv ps] := by unfold cutN; rw [if_neg h0, if_pos h7]
   have HC := Lib.hid hC
   generalize hn : ps.length = n at *
   have Hn := Lib.hid hn
   have hnI : (n : Int) <= 7 := by omega
   have hn0 : ((n : Int) == 0) = false := by simpa using h0
   clear hn hC hp
   go_enter Tryz.func166, Tryz.ntmps166
   go_wp2_with fail
   refine HOf.out.mono ?_
   rintro r w1 ⟨ak, ck, av, cv, rfl, hK, h1⟩
   rw [Hn.out] at h1 ⊢
   have h2 := h1.alloc (.cells #[.int .i64 lv, .slice ak n ck, .slice av n cv] 35)
   have HF : Hid (NodesPost (cutN lv ps) l w (.returned (.slice (some ⟨w1.heap.size, 0, none⟩) 1 1)) (w1.alloc (.cells #[.int .i64 lv, .slice ak n ck, .slice av n cv] 35))) := by
    refine ⟨_, [⟨ndOf lv ps, .slice ak n ck, .slice av n cv⟩], rfl, by rw [HC.out]; rfl, (HK.out.trans hK).alloc _, ?_⟩
    have h3 := h2.row_of_pts (n := 1) (xs := [.int .i64 lv, .slice ak n ck, .slice av n cv]) (size := 3) (by simp) (Nat.le_refl _) (by simp [maxLen]) (by simp) (by simp)
    exact (h3.pull 3).tail
   clear h1 h2 hK HOf HP HA
   go_wp2
   go_ret
   exact HF.out
  ·-- more than seven
   have hC : cutN lv ps = [ndOf lv (ps.take 4), ndOf lv (ps.drop 4)] := by unfold cutN; rw [if_neg h0, if_neg h7]
   obtain ⟨g, off, rfl, _, _⟩ := Hr.out 0 ps[0] (List.getElem?_eq_getElem (by omega))
   have hcc : ps.length <= c := Hcap.out
   have HP4 : Hid (PSrcs (pts w.heap.size (.cells #[.int .i64 lv, kv, vv] 35 (0, 0)) :: l) (.slice (some ⟨g, off, none⟩) 4 c) (ps.take 4)) := fun w' h' => by
    obtain ⟨a', c', e1, hc', hr'⟩ := hp w' h'.tail
    injection e1 with e1 e2 e3
    subst e1 e3
    refine ⟨_, _, by rw [List.length_take, Nat.min_eq_left (by omega)], by rw [List.length_take]; omega, fun k p hk => hr' k p ?_⟩
    rw [List.getElem?_take] at hk
    split at hk
    ·exact hk
    ·cases hk
   have HP5 : Hid (PSrcs (pts w.heap.size (.cells #[.int .i64 lv, kv, vv] 35 (0, 0)) :: l) (.slice (some ⟨g, off + 8, none⟩) (ps.drop 4).length (c - 4)) (ps.drop 4)) := fun w' h' => by
    obtain ⟨a', c', e1, hc', hr'⟩ := hp w' h'.tail
    injection e1 with e1 e2 e3
    subst e1 e3
    refine ⟨_, _, rfl, by rw [List.length_drop]; omega, fun k p hk => ?_⟩
    rw [List.getElem?_drop] at hk
    obtain ⟨g', o', e, q1, q2⟩ := hr' (4 + k) p hk
    injection e with e
    injection e with ea eb ec
    subst ea eb
    refine ⟨_, _, rfl, ?_, ?_⟩
    ·rw [show off + 8 + k * 2 = off + (4 + k) * 2 by omega]; exact q1
    ·rw [show off + 8 + k * 2 + 1 = off + (4 + k) * 2 + 1 by omega]; exact q2
   have h4 : (ps.take 4).length = 4 := by rw [List.length_take]; omega
   have h5 : (ps.drop 4).length = ps.length - 4 := by rw [List.length_drop]
   obtain ⟨n5, hn5⟩ : ∃ n5, ps.length = n5 + 4 := ⟨ps.length - 4, by omega⟩
   rw [hn5] at h5 h7 hl hcc ⊢
   rw [show n5 + 4 - 4 = n5 by omega] at h5
   rw [h5] at HP5
   have H4 := Lib.hid h4
   have H5 := Lib.hid h5
   have HC := Lib.hid hC
   have n5I : (3 : Int) < (n5 : Int) := by omega
   have ccI : (n5 : Int) + 4 <= (c : Int) := by omega
   clear h4 h5 hC hp h0 HOf HP Hr hn5 h7 Hcap
   generalize hp4 : ps.take 4 = p4 at *
   generalize hp5 : ps.drop 4 = p5 at *
   clear hp4 hp5
   go_enter Tryz.func166, Tryz.ntmps166
   go_wp2
   have hh := HA.out
   generalize hW : w.alloc (.cells #[.int .i64 lv, kv, vv] 35) = W at *
   clear hW HA
   generalize hr2 : w.heap.size = r2 at *
   clear hr2
   have hg := hh.got
   have b0 : W.cell? ⟨r2, 0, none⟩ = some (.int .i64 lv) := cell_of hg 0 rfl
   have b1 : W.cell? ⟨r2, 1, none⟩ = some kv := cell_of hg 1 rfl
   have b2 : W.cell? ⟨r2, 2, none⟩ = some vv := cell_of hg 2 rfl
   clear hg
   obtain ⟨FA, HFA⟩ : ∃ FA : List (Nat × Addr × Value), Hid (FA = [(0, ⟨r2, 0, none⟩, .int .i64 lv), (0, ⟨r2, 1, none⟩, kv), (0, ⟨r2, 2, none⟩, vv), (4, ⟨r2, 0, none⟩, .int .i64 lv), (4, ⟨r2, 1, none⟩, kv), (4, ⟨r2, 2, none⟩, vv)]) := ⟨_, rfl⟩
   have fa0_0 : ∀ n : In (factsOf FA 0), n.w.cell? ⟨r2, 0, none⟩ = some (.int .i64 lv) := fun n => factsOf.cell (by rw [HFA.out]; simp) n
   have fa0_1 : ∀ n : In (factsOf FA 0), n.w.cell? ⟨r2, 1, none⟩ = some (kv) := fun n => factsOf.cell (by rw [HFA.out]; simp) n
   have fa0_2 : ∀ n : In (factsOf FA 0), n.w.cell? ⟨r2, 2, none⟩ = some (vv) := fun n => factsOf.cell (by rw [HFA.out]; simp) n
   have fa4_0 : ∀ n : In (factsOf FA 4), n.w.cell? ⟨r2, 0, none⟩ = some (.int .i64 lv) := fun n => factsOf.cell (by rw [HFA.out]; simp) n
   have fa4_1 : ∀ n : In (factsOf FA 4), n.w.cell? ⟨r2, 1, none⟩ = some (kv) := fun n => factsOf.cell (by rw [HFA.out]; simp) n
   have fa4_2 : ∀ n : In (factsOf FA 4), n.w.cell? ⟨r2, 2, none⟩ = some (vv) := fun n => factsOf.cell (by rw [HFA.out]; simp) n
   have hFA : ∀ p ∈ FA, W.cell? p.2.1 = some p.2.2 := by rw [HFA.out]; exact (fcons b0 (fcons b1 (fcons b2 (fcons b0 (fcons b1 (fcons b2 fnil))))))
   haveI neFA : ∀ k, Nonempty (In (factsOf FA k)) := fun k => ⟨⟨_, factsOf.drew hFA k⟩⟩
   refine ws_begin [0, 1, 2, 3, 4, 5, 6, 7, 8, 9] (factsOf FA) (pts r2 (.cells #[.int .i64 lv, kv, vv] 35 (0, 0)) :: l) #[0, 0, 2, 7, 0, 0, 32, 127, 255, 511] (by kernel_rfl) (by kernel_rfl) (by kernel_rfl) factsOf.alloc (factsOf.drew hFA) hh ?_
   clear hFA
   iterate 3 (refine ws_q (at_lit rfl) rfl rfl rfl ?_; go_big_quiet_op; show WS _ _ _ _ _ _ _ _ _ _)
   refine ws_call (at_lit rfl) rfl rfl 167 #[.agg #[.int .i64 lv, kv, vv], .slice (some ⟨g, off, none⟩) 4 c] (fun w => by go_simp) (fun v L' => ∃ ak ck av cv, v = .agg #[.int .i64 lv, .slice ak 4 ck, .slice av 4 cv] /\ L' = intsS (.slice ak 4 ck) (p4.map (·.1)) :: intsS (.slice av 4 cv) (p4.map (·.2)) :: pts r2 (.cells #[.int .i64 lv, kv, vv] 35 (0, 0)) :: l) (fun w' F hS hh => ?_) ?_
   ·refine (node_of lv kv vv p4 hh (HP4.out.app F) (by rw [H4.out]; decide)).mono ?_
    rintro r w2' ⟨ak, ck, av, cv, rfl, hK, h5⟩
    rw [H4.out] at h5 ⊢
    exact ⟨_, _, rfl, hK, ⟨ak, ck, av, cv, rfl, rfl⟩, h5⟩
   rintro _ _ ⟨ak, ck, av, cv, rfl, rfl⟩
   refine ⟨fun w F hh => lives (l' := [(4, ⟨r2, 0, none⟩, .int .i64 lv), (4, ⟨r2, 1, none⟩, kv), (4, ⟨r2, 2, none⟩, vv)]) (by rw [HFA.out]; simp [liveFacts, Nat.testBit]) (fcons (cell_of (hh.at (b := r2) (o := (.cells #[.int .i64 lv, kv, vv] 35 (0, 0))) (by simp)) 0 (v := .int .i64 lv) rfl) <| fcons (cell_of (hh.at (b := r2) (o := (.cells #[.int .i64 lv, kv, vv] 35 (0, 0))) (by simp)) 1 (v := kv) rfl) <| fcons (cell_of (hh.at (b := r2) (o := (.cells #[.int .i64 lv, kv, vv] 35 (0, 0))) (by simp)) 2 (v := vv) rfl) <| fnil), ?_⟩
   simp only [Act.put, List.setIfInBounds_toArray, List.set_cons_zero, List.set_cons_succ]
   show WS _ _ _ _ _ _ _ _ _ _
   iterate 3 (refine ws_q (at_lit rfl) rfl rfl rfl ?_; go_big_quiet_op; show WS _ _ _ _ _ _ _ _ _ _)
   refine ws_call (at_lit rfl) rfl rfl 167 #[.agg #[.int .i64 lv, kv, vv], .slice (some ⟨g, off + 8, none⟩) n5 (c - 4)] (fun w => by go_simp) (fun v L' => ∃ ak2 ck2 av2 cv2, v = .agg #[.int .i64 lv, .slice ak2 n5 ck2, .slice av2 n5 cv2] /\ L' = intsS (.slice ak2 n5 ck2) (p5.map (·.1)) :: intsS (.slice av2 n5 cv2) (p5.map (·.2)) :: intsS (.slice ak 4 ck) (p4.map (·.1)) :: intsS (.slice av 4 cv) (p4.map (·.2)) :: pts r2 (.cells #[.int .i64 lv, kv, vv] 35 (0, 0)) :: l) (fun w' F hS hh => ?_) ?_
   ·refine (node_of lv kv vv p5 hh (HP5.out.cons.cons.app F) (by rw [H5.out]; omega)).mono ?_
    rintro r w2' ⟨ak2, ck2, av2, cv2, rfl, hK, h5⟩
    rw [H5.out] at h5 ⊢
    exact ⟨_, _, rfl, hK, ⟨ak2, ck2, av2, cv2, rfl, rfl⟩, h5⟩
   rintro _ _ ⟨ak2, ck2, av2, cv2, rfl, rfl⟩
   refine ⟨fun w F hh => lives (l' := []) (by rw [HFA.out]; simp [liveFacts, Nat.testBit]) (fnil), ?_⟩
   simp only [Act.put, List.setIfInBounds_toArray, List.set_cons_zero, List.set_cons_succ]
   show WS _ _ _ _ _ _ _ _ _ _
   refine ws_slice (at_lit rfl) rfl rfl 2 (.cells #[.int .i64 lv, .slice ak 4 ck, .slice av 4 cv, .int .i64 lv, .slice ak2 n5 ck2, .slice av2 n5 cv2] 35 (0, 0)) (fun w => by go_simp) ?_
   intro b9
   simp only [Act.put, List.setIfInBounds_toArray, List.set_cons_zero, List.set_cons_succ]
   show WS _ _ _ _ _ _ _ _ _ _
   refine ws_q (at_lit rfl) rfl rfl rfl ?_
   go_big_quiet_op
   show WS _ _ _ _ _ _ _ _ _ _
   refine ws_end ?_
   intro w9 hK9 h9
   have HF : Hid (NodesPost (cutN lv ps) l w (.returned (.slice (some ⟨b9, 0, none⟩) 2 2)) w9) := by
    refine ⟨_, [⟨ndOf lv p4, .slice ak 4 ck, .slice av 4 cv⟩, ⟨ndOf lv p5, .slice ak2 n5 ck2, .slice av2 n5 cv2⟩], rfl, by rw [HC.out]; rfl, HK.out.trans hK9, ?_⟩
    have h3 := h9.row_of_pts (n := 2) (xs := [.int .i64 lv, .slice ak 4 ck, .slice av 4 cv, .int .i64 lv, .slice ak2 n5 ck2, .slice av2 n5 cv2]) (size := 3) (by simp) (Nat.le_refl _) (by simp [maxLen]) (by simp) (by simp)
    exact ((h3.reord [0, 2, 2]).pull 5).tail
   clear h9 hK9 hh HFA neFA FA fa0_0 fa0_1 fa0_2 fa4_0 fa4_1 fa4_2 b0 b1 b2 HP4 HP5 HK HC
   go_wp2
   go_ret
   exact HF.out
end Go.Proofs.YtgbgneiciabidaaGreatDoor
