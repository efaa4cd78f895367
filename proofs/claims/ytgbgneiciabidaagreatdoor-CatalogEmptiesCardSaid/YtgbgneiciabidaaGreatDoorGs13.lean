/-
  Plain: a region that draws its order, walked once, in the order of the text: what each operation needs is owned, so that it is no matter who comes first.
-/
import Derived.Test.YtgbgneiciabidaaGreatDoorGs1
namespace Go.Proofs.YtgbgneiciabidaaGreatDoor
open Go Go.RowKit
set_option linter.all false
set_option maxHeartbeats 8000000
section
variable {P : Program} {ops : Array Oper} {S : Nat -> World -> Prop} {live : Nat -> Nat -> Prop}
def SepUpon (P : Program) (C : Value -> World -> Prop) : Result Next -> Prop
 | .ok (.value u) w' => C u w'
 | .ok .skip w' => C undef w'
 | .ok (.enter f args) w' => Calls P f args w' fun e w'' => ∃ v, e = .returned v /\ C v w''
 | .ok (.row row args) w' => Rows P row args w' C
 | _ => False
theorem SepUpon.mono {C D : Value -> World -> Prop} (h : ∀ v w, C v w -> D v w) {r : Result Next} (hr : SepUpon P C r) : SepUpon P D r := by
 cases r with
 | halt x w => exact hr.elim
 | ok n w =>
  cases n <;> first
   | exact h _ _ hr
   | exact Calls.mono hr fun e w'' ⟨v, he, hc⟩ => ⟨v, he, h _ _ hc⟩
   | exact Rows.mono hr h
   | exact False.elim hr
theorem SepUpon.ex {C : Value -> World -> Prop} {r : Result Next} (hr : SepUpon P C r) : ∃ v w, C v w := by
 cases r with
 | halt x w => exact hr.elim
 | ok n w =>
  cases n with
  | value u => exact ⟨_, _, hr⟩
  | skip => exact ⟨_, _, hr⟩
  | enter f args =>
   obtain ⟨e, w'', fr, ⟨v, _, hc⟩, _⟩ := hr []
   exact ⟨v, w'', hc⟩
  | row row args =>
   obtain ⟨v, w'', hc, _⟩ := hr default []
   exact ⟨v, w'', hc⟩
  | _ => exact False.elim hr
inductive Kd where
 | rd | nw | mn
 deriving DecidableEq
def RdUpon (w : World) (v : Value) : Result Next -> Prop
 | .ok (.value u) w' => w' = w /\ u = v
 | .ok .skip w' => w' = w /\ v = undef
 | _ => False
theorem RdUpon.one {w : World} {u v : Value} {r : Result Next} (h1 : RdUpon w u r) (h2 : RdUpon w v r) : u = v := by
 cases r with
 | halt x w => exact h1.elim
 | ok n w =>
  cases n <;> first
   | exact h1.2.symm.trans h2.2
   | exact h1.2.trans h2.2.symm
   | exact False.elim h1
theorem RdUpon.upon {w : World} {v : Value} {o : Oper} {a : Act} {K : Act -> World -> Prop} {Q : Exit -> Act -> World -> Prop} {r : Result Next} (h : RdUpon w v r) (hk : K (a.put o.dst v) w) : o.upon P a K Q r := by
 cases r with
 | halt x w => exact h.elim
 | ok n w =>
  cases n with
  | value u => obtain ⟨rfl, rfl⟩ := h; exact hk
  | skip => obtain ⟨rfl, rfl⟩ := h; exact hk
  | _ => exact False.elim h
def RunsRd (P : Program) (S : World -> Prop) (o : Oper) (a : Act) (v : Value) : Prop := ∀ w, S w -> RdUpon w v ((execOp a.eval o).run P w)
def RunsNw (P : Program) (o : Oper) (a : Act) (f : Nat -> Value) (ob : Obj) : Prop := ∀ w, (execOp a.eval o).run P w = .ok (.value (f w.heap.size)) (w.alloc ob)
def RunsMn (P : Program) (S : World -> Prop) (o : Oper) (a : Act) (L : List Say) (Post : Value -> List Say -> Prop) : Prop :=
 ∀ w F, S w -> Has w (L ++ F) -> SepUpon P (fun v w' => Kept w w' /\ ∃ L', Post v L' /\ Has w' (L' ++ F)) ((execOp a.eval o).run P w)
def WSep (P : Program) (ops : Array Oper) (S : Nat -> World -> Prop) (live : Nat -> Nat -> Prop) (kd : Nat -> Kd) (Q : Act -> List Say -> Prop) : List Nat -> Act -> List Say -> Prop
 | [], a, L => Q a L
 | k :: ord, a, L => ∃ o, ops[k]? = some o /\
  if Region.wanted o (yielded ops a.tmps) = true then
   match kd k with
   | .rd => ∃ v, RunsRd P (S k) o a v /\ WSep P ops S live kd Q ord (a.put o.dst v) L
   | .nw => ∃ f ob, RunsNw P o a f ob /\ ∀ b, WSep P ops S live kd Q ord (a.put o.dst (f b)) (pts b ob :: L)
   | .mn => ∃ Post, RunsMn P (S k) o a L Post /\ ∀ v L', Post v L' -> (∀ w F, Has w (L' ++ F) -> ∀ j, live k j -> S j w) /\ WSep P ops S live kd Q ord (a.put o.dst v) L'
  else WSep P ops S live kd Q ord (a.put o.dst undef) L
theorem Has.perm_app {w : World} {L L2 F : List Say} (h : Has w (L ++ F)) (hp : L.Perm L2) : Has w (L2 ++ F) := h.perm (hp.append_right F)
theorem WSep.perm {kd : Nat -> Kd} {Q : Act -> List Say -> Prop} (hQ : ∀ a L L2, List.Perm L L2 -> Q a L -> Q a L2) : ∀ {ord : List Nat} {a : Act} {L L2 : List Say}, List.Perm L L2 -> WSep P ops S live kd Q ord a L -> WSep P ops S live kd Q ord a L2
 | [], a, L, L2, hp, h => hQ a L L2 hp h
 | k :: ord, a, L, L2, hp, h => by
  obtain ⟨o, ho, h⟩ := h
  refine ⟨o, ho, ?_⟩
  split
  ·rename_i hw
   simp only [hw, if_true] at h
   cases hk : kd k with
   | rd =>
    simp only [hk] at h ⊢
    obtain ⟨v, h1, h2⟩ := h
    exact ⟨v, h1, WSep.perm hQ hp h2⟩
   | nw =>
    simp only [hk] at h ⊢
    obtain ⟨f, ob, h1, h2⟩ := h
    exact ⟨f, ob, h1, fun b => WSep.perm hQ (hp.cons _) (h2 b)⟩
   | mn =>
    simp only [hk] at h ⊢
    obtain ⟨Post, h1, h2⟩ := h
    exact ⟨Post, fun w F hS hh => h1 w F hS (hh.perm_app hp.symm), h2⟩
  ·rename_i hw
   simp only [hw] at h
   exact WSep.perm hQ hp h
structure Aparts (ops : Array Oper) (x y : Oper) : Prop where
 x1 : ∀ d, x.dst = some d -> d ∉ y.looksAt ops
 x2 : ∀ d, x.dst = some d -> y.dst ≠ some d
 y1 : ∀ d, y.dst = some d -> d ∉ x.looksAt ops
section
variable {kd : Nat -> Kd} {Q : Act -> List Say -> Prop}
theorem RunsRd.put {S : World -> Prop} {x o : Oper} {a : Act} {u v : Value} (hs : ∀ cs b, o.op ≠ .select cs b) (hx : ∀ d, x.dst = some d -> d ∉ o.looksAt ops) : RunsRd P S o (a.put x.dst u) v ↔ RunsRd P S o a v := by
 unfold RunsRd; rw [execOp_put (ops := ops) o hs a x.dst u hx]
theorem RunsNw.put {x o : Oper} {a : Act} {u : Value} {f : Nat -> Value} {ob : Obj} (hs : ∀ cs b, o.op ≠ .select cs b) (hx : ∀ d, x.dst = some d -> d ∉ o.looksAt ops) : RunsNw P o (a.put x.dst u) f ob ↔ RunsNw P o a f ob := by
 unfold RunsNw; rw [execOp_put (ops := ops) o hs a x.dst u hx]
theorem RunsMn.put {S : World -> Prop} {x o : Oper} {a : Act} {u : Value} {L : List Say} {Post : Value -> List Say -> Prop} (hs : ∀ cs b, o.op ≠ .select cs b) (hx : ∀ d, x.dst = some d -> d ∉ o.looksAt ops) : RunsMn P S o (a.put x.dst u) L Post ↔ RunsMn P S o a L Post := by
 unfold RunsMn; rw [execOp_put (ops := ops) o hs a x.dst u hx]
theorem WSep.skip_first {j : Nat} {o : Oper} {l2 : List Nat} (hj : ops[j]? = some o) (hs : ∀ (k : Nat) (x : Oper) cs b, ops[k]? = some x -> x.op ≠ .select cs b) :
  ∀ {l1 : List Nat} {a : Act} {L : List Say}, (∀ k ∈ l1, ∀ x, ops[k]? = some x -> Aparts ops x o) -> Region.wanted o (yielded ops a.tmps) = false ->
   WSep P ops S live kd Q (l1 ++ j :: l2) a L -> WSep P ops S live kd Q (l1 ++ l2) (a.put o.dst undef) L
 | [], a, L, _, hw, h => by
  obtain ⟨o', ho', h⟩ := h
  obtain rfl : o = o' := Option.some.inj (hj.symm.trans ho')
  simp only [hw, Bool.false_eq_true, if_false] at h
  exact h
 | k :: l1, a, L, hap, hw, h => by
  obtain ⟨x, hx, h⟩ := h
  have hxo := hap k (.head _) x hx
  have hap' : ∀ k ∈ l1, ∀ x, ops[k]? = some x -> Aparts ops x o := fun k hk => hap k (.tail _ hk)
  have hwx : Region.wanted x (yielded ops (a.put o.dst undef).tmps) = Region.wanted x (yielded ops a.tmps) := wanted_put x a o.dst undef hxo.y1
  have hwo : ∀ u, Region.wanted o (yielded ops (a.put x.dst u).tmps) = false := fun u => by rw [wanted_put o a x.dst u hxo.x1]; exact hw
  have hcm : ∀ u, (a.put o.dst undef).put x.dst u = (a.put x.dst u).put o.dst undef := fun u => (Act.put_comm a u undef hxo.x2).symm
  have hsx := fun cs b => hs k x cs b hx
  refine ⟨x, hx, ?_⟩
  rw [hwx]
  split
  ·rename_i hw1
   simp only [hw1, if_true] at h
   cases hk : kd k with
   | rd =>
    simp only [hk] at h ⊢
    obtain ⟨v, h1, h2⟩ := h
    exact ⟨v, (RunsRd.put hsx hxo.y1).2 h1, by rw [hcm]; exact WSep.skip_first hj hs hap' (hwo _) h2⟩
   | nw =>
    simp only [hk] at h ⊢
    obtain ⟨f, ob, h1, h2⟩ := h
    exact ⟨f, ob, (RunsNw.put hsx hxo.y1).2 h1, fun b => by rw [hcm]; exact WSep.skip_first hj hs hap' (hwo _) (h2 b)⟩
   | mn =>
    simp only [hk] at h ⊢
    obtain ⟨Post, h1, h2⟩ := h
    exact ⟨Post, (RunsMn.put hsx hxo.y1).2 h1, fun v L' hp => ⟨(h2 v L' hp).1, by rw [hcm]; exact WSep.skip_first hj hs hap' (hwo _) (h2 v L' hp).2⟩⟩
  ·rename_i hw1
   simp only [hw1] at h
   rw [hcm]; exact WSep.skip_first hj hs hap' (hwo _) h
theorem WSep.rd_runs {j : Nat} {o : Oper} {l2 : List Nat} (hj : ops[j]? = some o) (hs : ∀ (k : Nat) (x : Oper) cs b, ops[k]? = some x -> x.op ≠ .select cs b) (hkj : kd j = .rd) (hSA : ∀ k w ob, S k w -> S k (w.alloc ob)) :
  ∀ {l1 : List Nat} {a : Act} {L F : List Say} {w : World}, (∀ k ∈ l1, ∀ x, ops[k]? = some x -> Aparts ops x o) -> (∀ k ∈ l1, live k j) -> l1.Pairwise live -> Region.wanted o (yielded ops a.tmps) = true -> (∀ k, k ∈ l1 \/ k = j -> S k w) -> Has w (L ++ F) ->
   WSep P ops S live kd Q (l1 ++ j :: l2) a L -> ∃ v, RunsRd P (S j) o a v
 | [], a, L, F, w, _, _, _, hw, _, _, h => by
  obtain ⟨o', ho', h⟩ := h
  obtain rfl : o = o' := Option.some.inj (hj.symm.trans ho')
  simp only [hw, if_true, hkj] at h
  obtain ⟨v, h1, _⟩ := h
  exact ⟨v, h1⟩
 | k :: l1, a, L, F, w, hap, hlv, hpw, hw, hSw, hh, h => by
  obtain ⟨x, hx, h⟩ := h
  have hxo := hap k (.head _) x hx
  have hap' : ∀ k ∈ l1, ∀ x, ops[k]? = some x -> Aparts ops x o := fun k hk => hap k (.tail _ hk)
  have hlv' : ∀ k ∈ l1, live k j := fun k hk => hlv k (.tail _ hk)
  obtain ⟨hpw0, hpw'⟩ := List.pairwise_cons.1 hpw
  have hSw' : ∀ i, i ∈ l1 \/ i = j -> S i w := fun i hi => hSw i (hi.imp (fun h => .tail _ h) id)
  have hlk : ∀ i, i ∈ l1 \/ i = j -> live k i := fun i hi => by
   rcases hi with hi | rfl
   ·exact hpw0 i hi
   ·exact hlv k (.head _)
  have hwo : ∀ u, Region.wanted o (yielded ops (a.put x.dst u).tmps) = true := fun u => by rw [wanted_put o a x.dst u hxo.x1]; exact hw
  have hso := fun cs b => hs j o cs b hj
  by_cases hw1 : Region.wanted x (yielded ops a.tmps) = true
  ·simp only [hw1, if_true] at h
   cases hk : kd k with
   | rd =>
    simp only [hk] at h
    obtain ⟨u, h1, h2⟩ := h
    obtain ⟨v, hv⟩ := WSep.rd_runs hj hs hkj hSA hap' hlv' hpw' (hwo u) hSw' hh h2
    exact ⟨v, (RunsRd.put hso hxo.x1).1 hv⟩
   | nw =>
    simp only [hk] at h
    obtain ⟨f, ob, h1, h2⟩ := h
    obtain ⟨v, hv⟩ := WSep.rd_runs hj hs hkj hSA hap' hlv' hpw' (hwo _) (fun i hi => hSA i w ob (hSw' i hi)) (F := F) (show Has (w.alloc ob) (pts w.heap.size ob :: (L ++ F)) from hh.alloc ob) (h2 w.heap.size)
    exact ⟨v, (RunsRd.put hso hxo.x1).1 hv⟩
   | mn =>
    simp only [hk] at h
    obtain ⟨Post, h1, h2⟩ := h
    obtain ⟨u, w', _, L', hp, hh'⟩ := (h1 w F (hSw k (.inl (.head _))) hh).ex
    obtain ⟨v, hv⟩ := WSep.rd_runs hj hs hkj hSA hap' hlv' hpw' (hwo u) (fun i hi => (h2 u L' hp).1 w' F hh' i (hlk i hi)) hh' (h2 u L' hp).2
    exact ⟨v, (RunsRd.put hso hxo.x1).1 hv⟩
  ·simp only [hw1] at h
   obtain ⟨v, hv⟩ := WSep.rd_runs hj hs hkj hSA hap' hlv' hpw' (hwo undef) hSw' hh h
   exact ⟨v, (RunsRd.put hso hxo.x1).1 hv⟩
theorem WSep.rd_first {j : Nat} {o : Oper} {l2 : List Nat} (hj : ops[j]? = some o) (hs : ∀ (k : Nat) (x : Oper) cs b, ops[k]? = some x -> x.op ≠ .select cs b) (hkj : kd j = .rd) {w : World} (hSw : S j w) {v : Value} :
  ∀ {l1 : List Nat} {a : Act} {L : List Say}, (∀ k ∈ l1, ∀ x, ops[k]? = some x -> Aparts ops x o) -> Region.wanted o (yielded ops a.tmps) = true -> RunsRd P (S j) o a v ->
   WSep P ops S live kd Q (l1 ++ j :: l2) a L -> WSep P ops S live kd Q (l1 ++ l2) (a.put o.dst v) L
 | [], a, L, _, hw, hr, h => by
  obtain ⟨o', ho', h⟩ := h
  obtain rfl : o = o' := Option.some.inj (hj.symm.trans ho')
  simp only [hw, if_true, hkj] at h
  obtain ⟨v', h1, h2⟩ := h
  rw [<- (h1 w hSw).one (hr w hSw)]; exact h2
 | k :: l1, a, L, hap, hw, hr, h => by
  obtain ⟨x, hx, h⟩ := h
  have hxo := hap k (.head _) x hx
  have hap' : ∀ k ∈ l1, ∀ x, ops[k]? = some x -> Aparts ops x o := fun k hk => hap k (.tail _ hk)
  have hwx : Region.wanted x (yielded ops (a.put o.dst v).tmps) = Region.wanted x (yielded ops a.tmps) := wanted_put x a o.dst v hxo.y1
  have hwo : ∀ u, Region.wanted o (yielded ops (a.put x.dst u).tmps) = true := fun u => by rw [wanted_put o a x.dst u hxo.x1]; exact hw
  have hcm : ∀ u, (a.put o.dst v).put x.dst u = (a.put x.dst u).put o.dst v := fun u => (Act.put_comm a u v hxo.x2).symm
  have hsx := fun cs b => hs k x cs b hx
  have hro : ∀ u, RunsRd P (S j) o (a.put x.dst u) v := fun u => (RunsRd.put (fun cs b => hs j o cs b hj) hxo.x1).2 hr
  refine ⟨x, hx, ?_⟩
  rw [hwx]
  split
  ·rename_i hw1
   simp only [hw1, if_true] at h
   cases hk : kd k with
   | rd =>
    simp only [hk] at h ⊢
    obtain ⟨u, h1, h2⟩ := h
    exact ⟨u, (RunsRd.put hsx hxo.y1).2 h1, by rw [hcm]; exact WSep.rd_first hj hs hkj hSw hap' (hwo _) (hro _) h2⟩
   | nw =>
    simp only [hk] at h ⊢
    obtain ⟨f, ob, h1, h2⟩ := h
    exact ⟨f, ob, (RunsNw.put hsx hxo.y1).2 h1, fun b => by rw [hcm]; exact WSep.rd_first hj hs hkj hSw hap' (hwo _) (hro _) (h2 b)⟩
   | mn =>
    simp only [hk] at h ⊢
    obtain ⟨Post, h1, h2⟩ := h
    exact ⟨Post, (RunsMn.put hsx hxo.y1).2 h1, fun u L' hp => ⟨(h2 u L' hp).1, by rw [hcm]; exact WSep.rd_first hj hs hkj hSw hap' (hwo _) (hro _) (h2 u L' hp).2⟩⟩
  ·rename_i hw1
   simp only [hw1] at h
   rw [hcm]; exact WSep.rd_first hj hs hkj hSw hap' (hwo _) (hro _) h
theorem WSep.nw_runs {j : Nat} {o : Oper} {l2 : List Nat} (hj : ops[j]? = some o) (hs : ∀ (k : Nat) (x : Oper) cs b, ops[k]? = some x -> x.op ≠ .select cs b) (hkj : kd j = .nw) (hSA : ∀ k w ob, S k w -> S k (w.alloc ob)) :
  ∀ {l1 : List Nat} {a : Act} {L F : List Say} {w : World}, (∀ k ∈ l1, ∀ x, ops[k]? = some x -> Aparts ops x o) -> (∀ k ∈ l1, live k j) -> l1.Pairwise live -> Region.wanted o (yielded ops a.tmps) = true -> (∀ k, k ∈ l1 \/ k = j -> S k w) -> Has w (L ++ F) ->
   WSep P ops S live kd Q (l1 ++ j :: l2) a L -> ∃ f ob, RunsNw P o a f ob
 | [], a, L, F, w, _, _, _, hw, _, _, h => by
  obtain ⟨o', ho', h⟩ := h
  obtain rfl : o = o' := Option.some.inj (hj.symm.trans ho')
  simp only [hw, if_true, hkj] at h
  obtain ⟨f, ob, h1, _⟩ := h
  exact ⟨f, ob, h1⟩
 | k :: l1, a, L, F, w, hap, hlv, hpw, hw, hSw, hh, h => by
  obtain ⟨x, hx, h⟩ := h
  have hxo := hap k (.head _) x hx
  have hap' : ∀ k ∈ l1, ∀ x, ops[k]? = some x -> Aparts ops x o := fun k hk => hap k (.tail _ hk)
  have hlv' : ∀ k ∈ l1, live k j := fun k hk => hlv k (.tail _ hk)
  obtain ⟨hpw0, hpw'⟩ := List.pairwise_cons.1 hpw
  have hSw' : ∀ i, i ∈ l1 \/ i = j -> S i w := fun i hi => hSw i (hi.imp (fun h => .tail _ h) id)
  have hlk : ∀ i, i ∈ l1 \/ i = j -> live k i := fun i hi => by
   rcases hi with hi | rfl
   ·exact hpw0 i hi
   ·exact hlv k (.head _)
  have hwo : ∀ u, Region.wanted o (yielded ops (a.put x.dst u).tmps) = true := fun u => by rw [wanted_put o a x.dst u hxo.x1]; exact hw
  have hso := fun cs b => hs j o cs b hj
  by_cases hw1 : Region.wanted x (yielded ops a.tmps) = true
  ·simp only [hw1, if_true] at h
   cases hk : kd k with
   | rd =>
    simp only [hk] at h
    obtain ⟨u, h1, h2⟩ := h
    obtain ⟨f, ob, hv⟩ := WSep.nw_runs hj hs hkj hSA hap' hlv' hpw' (hwo u) hSw' hh h2
    exact ⟨f, ob, (RunsNw.put hso hxo.x1).1 hv⟩
   | nw =>
    simp only [hk] at h
    obtain ⟨f, ob, h1, h2⟩ := h
    obtain ⟨f, ob, hv⟩ := WSep.nw_runs hj hs hkj hSA hap' hlv' hpw' (hwo _) (fun i hi => hSA i w ob (hSw' i hi)) (F := F) (show Has (w.alloc ob) (pts w.heap.size ob :: (L ++ F)) from hh.alloc ob) (h2 w.heap.size)
    exact ⟨f, ob, (RunsNw.put hso hxo.x1).1 hv⟩
   | mn =>
    simp only [hk] at h
    obtain ⟨Post, h1, h2⟩ := h
    obtain ⟨u, w', _, L', hp, hh'⟩ := (h1 w F (hSw k (.inl (.head _))) hh).ex
    obtain ⟨f, ob, hv⟩ := WSep.nw_runs hj hs hkj hSA hap' hlv' hpw' (hwo u) (fun i hi => (h2 u L' hp).1 w' F hh' i (hlk i hi)) hh' (h2 u L' hp).2
    exact ⟨f, ob, (RunsNw.put hso hxo.x1).1 hv⟩
  ·simp only [hw1] at h
   obtain ⟨f, ob, hv⟩ := WSep.nw_runs hj hs hkj hSA hap' hlv' hpw' (hwo undef) hSw' hh h
   exact ⟨f, ob, (RunsNw.put hso hxo.x1).1 hv⟩
theorem alloc_inj {w : World} {x y : Obj} (h : w.alloc x = w.alloc y) : x = y := by
 have h1 : (w.heap.push x)[w.heap.size]? = (w.heap.push y)[w.heap.size]? := congrArg (fun v : World => v.heap[w.heap.size]?) h
 simpa using h1
theorem WSep.nw_first {j : Nat} {o : Oper} {l2 : List Nat} (hj : ops[j]? = some o) (hs : ∀ (k : Nat) (x : Oper) cs b, ops[k]? = some x -> x.op ≠ .select cs b) (hkj : kd j = .nw)
  (hQ : ∀ a L L2, List.Perm L L2 -> Q a L -> Q a L2) (w : World) {f : Nat -> Value} {ob : Obj} :
  ∀ {l1 : List Nat} {a : Act} {L : List Say}, (∀ k ∈ l1, ∀ x, ops[k]? = some x -> Aparts ops x o) -> Region.wanted o (yielded ops a.tmps) = true -> RunsNw P o a f ob ->
   WSep P ops S live kd Q (l1 ++ j :: l2) a L -> WSep P ops S live kd Q (l1 ++ l2) (a.put o.dst (f w.heap.size)) (pts w.heap.size ob :: L)
 | [], a, L, _, hw, hr, h => by
  obtain ⟨o', ho', h⟩ := h
  obtain rfl : o = o' := Option.some.inj (hj.symm.trans ho')
  simp only [hw, if_true, hkj] at h
  obtain ⟨f', ob', h1, h2⟩ := h
  have e := (h1 w).symm.trans (hr w)
  simp only [Result.ok.injEq, Next.value.injEq] at e
  have e2 := alloc_inj e.2
  subst e2
  rw [<- e.1]; exact h2 w.heap.size
 | k :: l1, a, L, hap, hw, hr, h => by
  obtain ⟨x, hx, h⟩ := h
  have hxo := hap k (.head _) x hx
  have hap' : ∀ k ∈ l1, ∀ x, ops[k]? = some x -> Aparts ops x o := fun k hk => hap k (.tail _ hk)
  have hwx : Region.wanted x (yielded ops (a.put o.dst (f w.heap.size)).tmps) = Region.wanted x (yielded ops a.tmps) := wanted_put x a o.dst _ hxo.y1
  have hwo : ∀ u, Region.wanted o (yielded ops (a.put x.dst u).tmps) = true := fun u => by rw [wanted_put o a x.dst u hxo.x1]; exact hw
  have hcm : ∀ u, (a.put o.dst (f w.heap.size)).put x.dst u = (a.put x.dst u).put o.dst (f w.heap.size) := fun u => (Act.put_comm a u _ hxo.x2).symm
  have hsx := fun cs b => hs k x cs b hx
  have hro : ∀ u, RunsNw P o (a.put x.dst u) f ob := fun u => (RunsNw.put (fun cs b => hs j o cs b hj) hxo.x1).2 hr
  refine ⟨x, hx, ?_⟩
  rw [hwx]
  split
  ·rename_i hw1
   simp only [hw1, if_true] at h
   cases hk : kd k with
   | rd =>
    simp only [hk] at h ⊢
    obtain ⟨u, h1, h2⟩ := h
    exact ⟨u, (RunsRd.put hsx hxo.y1).2 h1, by rw [hcm]; exact WSep.nw_first hj hs hkj hQ w hap' (hwo _) (hro _) h2⟩
   | nw =>
    simp only [hk] at h ⊢
    obtain ⟨g, og, h1, h2⟩ := h
    exact ⟨g, og, (RunsNw.put hsx hxo.y1).2 h1, fun b => by rw [hcm]; exact WSep.perm hQ (List.Perm.swap _ _ _) (WSep.nw_first hj hs hkj hQ w hap' (hwo _) (hro _) (h2 b))⟩
   | mn =>
    simp only [hk] at h ⊢
    obtain ⟨Post, h1, h2⟩ := h
    refine ⟨fun v L'' => ∃ L', Post v L' /\ L'' = pts w.heap.size ob :: L', (RunsMn.put hsx hxo.y1).2 fun w1 F hS hh => ?_, ?_⟩
    ·refine (h1 w1 (pts w.heap.size ob :: F) hS (hh.perm List.perm_middle.symm)).mono ?_
     rintro v w' ⟨hK, L', hp, hh'⟩
     exact ⟨hK, _, ⟨L', hp, rfl⟩, hh'.perm List.perm_middle⟩
    ·rintro v _ ⟨L', hp, rfl⟩
     refine ⟨fun w1 F hh => (h2 v L' hp).1 w1 F hh.tail, ?_⟩
     rw [hcm]; exact WSep.nw_first hj hs hkj hQ w hap' (hwo _) (hro _) (h2 v L' hp).2
  ·rename_i hw1
   simp only [hw1] at h
   rw [hcm]; exact WSep.nw_first hj hs hkj hQ w hap' (hwo _) (hro _) h
theorem WSep.mn_first {j : Nat} {o : Oper} {l2 : List Nat} (hj : ops[j]? = some o) (hs : ∀ (k : Nat) (x : Oper) cs b, ops[k]? = some x -> x.op ≠ .select cs b) (hkj : kd j = .mn) :
  ∀ {l1 : List Nat} {a : Act} {L : List Say}, (∀ k ∈ l1, kd k = .rd /\ ∀ x, ops[k]? = some x -> Aparts ops x o) -> Region.wanted o (yielded ops a.tmps) = true ->
   WSep P ops S live kd Q (l1 ++ j :: l2) a L -> ∃ Post, RunsMn P (S j) o a L Post /\ ∀ v L', Post v L' -> (∀ w F, Has w (L' ++ F) -> ∀ i, live j i -> S i w) /\ WSep P ops S live kd Q (l1 ++ l2) (a.put o.dst v) L'
 | [], a, L, _, hw, h => by
  obtain ⟨o', ho', h⟩ := h
  obtain rfl : o = o' := Option.some.inj (hj.symm.trans ho')
  simp only [hw, if_true, hkj] at h
  exact h
 | k :: l1, a, L, hap, hw, h => by
  obtain ⟨x, hx, h⟩ := h
  obtain ⟨hk, hxo⟩ := hap k (.head _)
  have hxo := hxo x hx
  have hap' : ∀ k ∈ l1, kd k = .rd /\ ∀ x, ops[k]? = some x -> Aparts ops x o := fun k hk => hap k (.tail _ hk)
  have hwo : ∀ u, Region.wanted o (yielded ops (a.put x.dst u).tmps) = true := fun u => by rw [wanted_put o a x.dst u hxo.x1]; exact hw
  have hso := fun cs b => hs j o cs b hj
  have hsx := fun cs b => hs k x cs b hx
  have hcm : ∀ u v, (a.put o.dst v).put x.dst u = (a.put x.dst u).put o.dst v := fun u v => (Act.put_comm a u v hxo.x2).symm
  have hwx : ∀ v, Region.wanted x (yielded ops (a.put o.dst v).tmps) = Region.wanted x (yielded ops a.tmps) := fun v => wanted_put x a o.dst v hxo.y1
  by_cases hw1 : Region.wanted x (yielded ops a.tmps) = true
  ·simp only [hw1, if_true, hk] at h
   obtain ⟨u, h1, h2⟩ := h
   obtain ⟨Post, h3, h4⟩ := WSep.mn_first hj hs hkj hap' (hwo u) h2
   refine ⟨Post, (RunsMn.put hso hxo.x1).1 h3, fun v L' hp => ⟨(h4 v L' hp).1, x, hx, ?_⟩⟩
   rw [hwx]
   simp only [hw1, if_true, hk]
   exact ⟨u, (RunsRd.put hsx hxo.y1).2 h1, by rw [hcm]; exact (h4 v L' hp).2⟩
  ·simp only [hw1] at h
   obtain ⟨Post, h3, h4⟩ := WSep.mn_first hj hs hkj hap' (hwo undef) h
   refine ⟨Post, (RunsMn.put hso hxo.x1).1 h3, fun v L' hp => ⟨(h4 v L' hp).1, x, hx, ?_⟩⟩
   rw [hwx]
   simp only [hw1]
   rw [if_neg (by simp)]
   rw [hcm]; exact (h4 v L' hp).2
end
/-! Who must come ahead of whom. -/
structure AncOk (ops : Array Oper) (A : Nat -> Nat) : Prop where
 step : ∀ k o, ops[k]? = some o -> ∀ i, (A k).testBit i = true -> ∃ e ∈ o.after, Region.binds .any e = true /\ (e.on = i \/ (A e.on).testBit i = true)
def Closed (A : Nat -> Nat) (listed : Array Bool) : Prop := ∀ k, listed.getD k false = true -> ∀ i, (A k).testBit i = true -> listed.getD i false = true
def Two (ops : Array Oper) (A : Nat -> Nat) (kd : Nat -> Kd) (i j : Nat) : Prop :=
 ((A j).testBit i = true \/ ((∀ x y, ops[i]? = some x -> ops[j]? = some y -> Aparts ops x y) /\ (kd j = .mn -> kd i = .rd))) /\
 (∀ x, ops[i]? = some x -> ∀ e ∈ x.after, Region.binds .any e = true -> e.on ≠ j) /\ (A i).testBit j = false
def liveOf (A : Nat -> Nat) (i j : Nat) : Prop := (A i).testBit j = false
theorem getD_true_false {l : Array Bool} {k : Nat} (h : l.getD k false = true) : l.getD k true = true := by
 by_cases hk : k < l.size
 ·simp [hk] at h ⊢; exact h
 ·simp [hk] at h
theorem getD_lt {l : Array Bool} {k : Nat} (hk : k < l.size) (h : l.getD k true = true) : l.getD k false = true := by
 simp [hk] at h ⊢; exact h
structure RemOk (ops : Array Oper) (A : Nat -> Nat) (kd : Nat -> Kd) (rem : List Nat) (listed : Array Bool) : Prop where
 closed : Closed A listed
 size : listed.size = ops.size
 mem : ∀ k, k < ops.size -> (k ∈ rem ↔ listed.getD k true = false)
 lt : ∀ k ∈ rem, k < ops.size
 once : rem.Nodup
 two : rem.Pairwise (Two ops A kd)
 own : ∀ i ∈ rem, ∀ x, ops[i]? = some x -> ∀ e ∈ x.after, Region.binds .any e = true -> e.on < ops.size /\ e.on ≠ i
theorem RemOk.next {A : Nat -> Nat} {kd : Nat -> Kd} {l1 l2 : List Nat} {j : Nat} {listed : Array Bool} (h : RemOk ops A kd (l1 ++ j :: l2) listed) (hanc : ∀ i, (A j).testBit i = true -> listed.getD i false = true) :
  RemOk ops A kd (l1 ++ l2) (listed.setIfInBounds j true) := by
 have hsub : (l1 ++ l2).Sublist (l1 ++ j :: l2) := List.Sublist.append_left (List.sublist_cons_self _ _) _
 have hjlt : j < ops.size := h.lt j (by simp)
 have hjn : j ∉ l1 ++ l2 := by
  have := h.once
  rw [List.nodup_append] at this
  obtain ⟨_, h2, h3⟩ := this
  intro hm
  rcases List.mem_append.1 hm with hm | hm
  ·exact h3 j hm j (.head _) rfl
  ·exact (List.nodup_cons.1 h2).1 hm
 refine ⟨?_, by simp [h.size], ?_, fun k hk => h.lt k (hsub.mem hk), h.once.sublist hsub, h.two.sublist hsub, fun i hi => h.own i (hsub.mem hi)⟩
 ·intro k hk i hi
  refine getD_set_true ?_
  by_cases e : j = k
  ·subst e; exact hanc i hi
  ·rw [getD_set_ne false e] at hk; exact h.closed k hk i hi
 ·intro k hk
  by_cases e : j = k
  ·subst e
   have : j < listed.size := by rw [h.size]; exact hk
   simp [hjn, this]
  ·rw [getD_set_ne true e, <- h.mem k hk]
   simp [Ne.symm e]
theorem wsep_sound {A : Nat -> Nat} {kd : Nat -> Kd} {Q : Act -> List Say -> Prop} {Q' : Exit -> Act -> World -> Prop} {w0 : World} (hA : AncOk ops A)
  (hs : ∀ (k : Nat) (x : Oper) cs b, ops[k]? = some x -> x.op ≠ .select cs b) (hSA : ∀ k w ob, S k w -> S k (w.alloc ob))
  (hQp : ∀ a L L2, List.Perm L L2 -> Q a L -> Q a L2) (hQ : ∀ a L w, Kept w0 w -> Has w L -> Q a L -> Q' .normal a w) :
  ∀ (n : Nat) (rem : List Nat) (listed : Array Bool) (a : Act) (L : List Say) (w : World), rem.length = n -> RemOk ops A kd rem listed ->
   (∀ k ∈ rem, S k w) -> Kept w0 w -> Has w L -> WSep P ops S (liveOf A) kd Q rem a L -> wpAny P .any ops Q' n listed a w := by
 intro n
 induction n with
 | zero =>
  intro rem listed a L w hn hok hS hK hh h
  obtain rfl : rem = [] := List.eq_nil_of_length_eq_zero hn
  refine ⟨List.eq_nil_iff_forall_not_mem.2 fun j hj => ?_, hQ a L w hK hh h⟩
  obtain ⟨h0, o, ho, _⟩ := mem_ready.1 hj
  have := (hok.mem j (Array.getElem?_eq_some_iff.1 ho).1).2 h0
  cases this
 | succ n ih =>
  intro rem listed a L w hn hok hS hK hh h
  refine ⟨fun hr => ?_, fun j hj => ?_⟩
  ·exfalso
   cases rem with
   | nil => simp at hn
   | cons i rest =>
    have hi := hok.lt i (.head _)
    have hmem : i ∈ Region.ready .any ops listed := by
     refine mem_ready.2 ⟨(hok.mem i hi).1 (.head _), ops[i], Array.getElem?_eq_getElem hi, fun e he hb => ?_⟩
     obtain ⟨h1, h2⟩ := hok.own i (.head _) _ (Array.getElem?_eq_getElem hi) e he hb
     have h3 : e.on ∉ i :: rest := by
      intro hm
      rcases List.mem_cons.1 hm with hm | hm
      ·exact h2 hm
      ·exact ((List.pairwise_cons.1 hok.two).1 _ hm).2.1 _ (Array.getElem?_eq_getElem hi) e he hb rfl
     have h4 := fun h => h3 ((hok.mem e.on h1).2 h)
     exact getD_lt (by rw [hok.size]; exact h1) (by simpa using h4)
    rw [hr] at hmem; cases hmem
  ·obtain ⟨h0, o, ho, hall⟩ := mem_ready.1 hj
   have hjlt := (Array.getElem?_eq_some_iff.1 ho).1
   have hjm := (hok.mem j hjlt).2 h0
   obtain ⟨l1, l2, rfl⟩ := List.append_of_mem hjm
   have hanc : ∀ i, (A j).testBit i = true -> listed.getD i false = true := by
    intro i hi
    obtain ⟨e, he, hb, h1 | h1⟩ := hA.step j o ho i hi
    ·subst h1; exact hall e he hb
    ·exact hok.closed e.on (hall e he hb) i h1
   have htwo : ∀ k ∈ l1, (∀ x, ops[k]? = some x -> Aparts ops x o) /\ (kd j = .mn -> kd k = .rd) := by
    intro k hk
    have h1 := (List.pairwise_append.1 hok.two).2.2 k hk j (.head _)
    rcases h1.1 with h2 | ⟨h2, h3⟩
    ·exfalso
     have h4 := hanc k h2
     have h5 := (hok.mem k (hok.lt k (by simp [hk]))).1 (by simp [hk])
     have h6 := getD_true_false h4
     rw [h6] at h5; cases h5
    ·exact ⟨fun x hx => h2 x o hx ho, h3⟩
   have hap : ∀ k ∈ l1, ∀ x, ops[k]? = some x -> Aparts ops x o := fun k hk => (htwo k hk).1
   have hnext := hok.next hanc
   have hlv : ∀ k ∈ l1, liveOf A k j := fun k hk => ((List.pairwise_append.1 hok.two).2.2 k hk j (.head _)).2.2
   have hpw : l1.Pairwise (liveOf A) := (List.pairwise_append.1 hok.two).1.imp fun h => h.2.2
   have hS1 : ∀ k, k ∈ l1 \/ k = j -> S k w := fun k hk => hS k (by rcases hk with hk | rfl <;> simp [*])
   have hSr : ∀ k ∈ l1 ++ l2, S k w := fun k hk => hS k (by rcases List.mem_append.1 hk with hk | hk <;> simp [hk])
   have hun : ∀ k ∈ l1 ++ l2, liveOf A j k := by
    intro k hk
    unfold liveOf
    cases hb : (A j).testBit k with
    | false => rfl
    | true =>
     have h4 := getD_true_false (hanc k hb)
     have hm : k ∈ l1 ++ j :: l2 := by rcases List.mem_append.1 hk with hk | hk <;> simp [hk]
     have h5 := (hok.mem k (hok.lt k hm)).1 hm
     rw [h4] at h5; cases h5
   have hlen : (l1 ++ l2).length = n := by simp at hn ⊢; omega
   unfold wpOp
   simp only [ho]
   split
   ·rename_i hw
    left
    cases hk : kd j with
    | rd =>
     have hSj := hS j (by simp)
     obtain ⟨v, hv⟩ := WSep.rd_runs ho hs hk hSA hap hlv hpw hw hS1 (F := []) (by simpa using hh) h
     exact (hv w hSj).upon (ih _ _ _ L w hlen hnext hSr hK hh (WSep.rd_first ho hs hk hSj hap hw hv h))
    | nw =>
     obtain ⟨f, ob, hv⟩ := WSep.nw_runs ho hs hk hSA hap hlv hpw hw hS1 (F := []) (by simpa using hh) h
     unfold Oper.wp
     rw [hv w]
     exact ih _ _ _ _ _ hlen hnext (fun k hk => hSA k w ob (hSr k hk)) (hK.alloc ob) (hh.alloc ob) (WSep.nw_first ho hs hk hQp w hap hw hv h)
    | mn =>
     obtain ⟨Post, h1, h2⟩ := WSep.mn_first ho hs hk (fun k hk' => ⟨(htwo k hk').2 hk, (htwo k hk').1⟩) hw h
     have h3 := h1 w [] (hS j (by simp)) (by simpa using hh)
     have key : ∀ v w', (Kept w w' /\ ∃ L', Post v L' /\ Has w' (L' ++ [])) -> wpAny P .any ops Q' n (listed.setIfInBounds j true) (a.put o.dst v) w' := by
      rintro v w' ⟨hK1, L', hp, hh'⟩
      exact ih _ _ _ L' w' hlen hnext (fun k hk => (h2 v L' hp).1 w' [] hh' k (hun k hk)) (hK.trans hK1) (by simpa using hh') (h2 v L' hp).2
     unfold Oper.wp
     generalize (execOp a.eval o).run P w = r at h3 ⊢
     cases r with
     | halt x w' => exact h3.elim
     | ok nx w' =>
      cases nx with
      | value u => exact key _ _ h3
      | skip => exact key _ _ h3
      | enter f args =>
       refine Calls.mono h3 ?_
       rintro e w'' ⟨v, rfl, hc⟩
       exact key _ _ hc
      | row row args => exact Rows.mono h3 key
      | _ => exact False.elim h3
   ·rename_i hw
    exact ih _ _ _ L w hlen hnext hSr hK hh (WSep.skip_first ho hs hap (by simpa using hw) h)
/-! The same as Bools. -/
theorem aparts_of {x y : Oper} (h : Oper.apart ops x y = true) : Aparts ops x y := by
 obtain ⟨h1, h2, h3⟩ := Oper.apart_spec h
 exact ⟨h1, h2, h3⟩
def ancRow (T : Array Nat) (o : Oper) : Nat := o.after.foldl (fun m e => if Region.binds .any e then m ||| (1 <<< e.on) ||| T.getD e.on 0 else m) 0
def ancTab : List Oper -> Array Nat -> Array Nat
 | [], T => T
 | o :: l, T => ancTab l (T.push (ancRow T o))
def ancOkB (ops : List Oper) (T : Array Nat) : Bool := ((List.range ops.length).zip ops).all fun (k, o) => T.getD k 0 == ancRow T o
theorem anc_fold {T : Array Nat} {i : Nat} : ∀ (l : List Edge) (m : Nat), (l.foldl (fun m e => if Region.binds .any e then m ||| (1 <<< e.on) ||| T.getD e.on 0 else m) m).testBit i = true ->
  m.testBit i = true \/ ∃ e ∈ l, Region.binds .any e = true /\ (e.on = i \/ (T.getD e.on 0).testBit i = true)
 | [], m, h => .inl h
 | e :: l, m, h => by
  rcases anc_fold l _ h with h1 | ⟨e', he', h1⟩
  ·simp only at h1
   split at h1
   ·rename_i hb
    rw [Nat.testBit_or, Nat.testBit_or, Bool.or_eq_true, Bool.or_eq_true] at h1
    rcases h1 with (h1 | h1) | h1
    ·exact .inl h1
    ·refine .inr ⟨e, .head _, hb, .inl ?_⟩
     rw [Nat.one_shiftLeft, Nat.testBit_two_pow] at h1
     simpa using h1
    ·exact .inr ⟨e, .head _, hb, .inr h1⟩
   ·exact .inl h1
  ·exact .inr ⟨e', .tail _ he', h1⟩
theorem ancOk_of {l : List Oper} {T : Array Nat} (h : ancOkB l T = true) (hT : T.size <= l.length) : AncOk l.toArray (fun k => T.getD k 0) := by
 refine ⟨fun k o ho i hi => ?_⟩
 have ho' : l[k]? = some o := by simpa using ho
 have hm : (k, o) ∈ (List.range l.length).zip l := by
  rw [List.mem_iff_getElem?]
  refine ⟨k, ?_⟩
  rw [List.getElem?_zip_eq_some]
  exact ⟨by simp [(List.getElem?_eq_some_iff.1 ho').1], ho'⟩
 have h1 := List.all_eq_true.1 h _ hm
 simp only [beq_iff_eq] at h1
 rw [h1] at hi
 unfold ancRow at hi
 rw [<- Array.foldl_toList] at hi
 rcases anc_fold _ _ hi with h2 | ⟨e, he, h2⟩
 ·simp at h2
 ·exact ⟨e, by simpa using he, h2⟩
def kdOf (l : List Oper) (k : Nat) : Kd :=
 match l[k]? with
 | some o => match o.op with
  | .store .. | .mapUpdate .. | .insert .. | .entryStore .. | .range .. | .next .. | .go .. | .defer .. | .panic .. | .send .. | .recv .. | .select .. | .makeChan .. => .mn
  | .call c => match c.callee with
   | .builtin .len | .builtin .cap | .builtin .min | .builtin .max => .rd
   | _ => .mn
  | .alloc .. | .box .. | .buildSlice .. | .makeMap .. | .makeSlice .. => .nw
  | _ => .rd
 | none => .rd
def twoB (l : List Oper) (T : Array Nat) (kd : Nat -> Kd) (i j : Nat) : Bool :=
 match l[i]?, l[j]? with
 | some x, some y => ((T.getD j 0).testBit i || (Oper.apart l.toArray x y && (!decide (kd j = .mn) || decide (kd i = .rd)))) && (x.after.all fun e => !(Region.binds .any e) || !(e.on == j)) && !((T.getD i 0).testBit j)
 | _, _ => false
def pairsB (f : Nat -> Nat -> Bool) : List Nat -> Bool
 | [] => true
 | i :: rest => rest.all (f i) && pairsB f rest
theorem pairs_of {f : Nat -> Nat -> Bool} {R : Nat -> Nat -> Prop} (h : ∀ i j, f i j = true -> R i j) : ∀ {l : List Nat}, pairsB f l = true -> l.Pairwise R
 | [], _ => .nil
 | i :: rest, hp => by
  simp only [pairsB, Bool.and_eq_true, List.all_eq_true] at hp
  exact .cons (fun j hj => h i j (hp.1 j hj)) (pairs_of h hp.2)
def sepB (l : List Oper) (kd : Nat -> Kd) (ord : List Nat) : Bool :=
 let T := ancTab l #[]
 Region.noSelect l.toArray && ancOkB l T && decide (T.size <= l.length) && (ord.length == l.length) && ((List.range l.length).all fun k => ord.contains k) && (ord.all fun k => decide (k < l.length)) && pairsB (fun i j => !(i == j)) ord &&
  (l.zipIdx.all fun (x, i) => x.after.all fun e => !(Region.binds .any e) || (decide (e.on < l.length) && !(e.on == i))) && pairsB (twoB l T kd) ord
theorem wp_region_sep {id : Nat} {Q : Exit -> Act -> World -> Prop} {a : Act} {w : World} {l : List Oper} {L : List Say} (ord : List Nat) (S : Nat -> World -> Prop) (hm : P.follows .mixedOrders = true) (hB : sepB l (kdOf l) ord = true)
  (hSA : ∀ k w ob, S k w -> S k (w.alloc ob)) (hS : ∀ k, S k w.drew) (hh : Has w L)
  (h : WSep P l.toArray S (liveOf fun k => (ancTab l #[]).getD k 0) (kdOf l) (fun a' L' => ∀ w', Kept w w' -> Has w' L' -> Q .normal a' w') ord a L) : (Code.region id l.toArray true).wp P Q a w := by
 unfold sepB at hB
 simp only [Bool.and_eq_true, decide_eq_true_eq, beq_iff_eq, List.all_eq_true, List.mem_range] at hB
 obtain ⟨⟨⟨⟨⟨⟨⟨⟨h1, h2⟩, h3⟩, h4⟩, h5⟩, h8⟩, h9⟩, h6⟩, h7⟩ := hB
 have h5' : ∀ k, k < l.length -> k ∈ ord := fun k hk => by simpa using h5 k hk
 have hnd : ord.Nodup := pairs_of (R := fun i j => i ≠ j) (fun i j hij => by simpa using hij) h9
 refine wp_region_any hm ?_
 have hsz : l.toArray.size = ord.length := by simp [h4]
 rw [hsz]
 refine wsep_sound (P := P) (S := S) (kd := kdOf l) (w0 := w) (ancOk_of h2 h3) (Region.noSelect_spec h1) hSA ?_ ?_ ord.length ord _ a L _ rfl ?_ (fun k _ => hS k) (Kept.refl w).drew hh.drew h
 ·intro a L L2 hp hq w' hK hh'
  exact hq w' hK (hh'.perm hp.symm)
 ·intro a L w' hK hh' hq
  exact hq w' hK hh'
 ·refine ⟨?_, by simp [h4], ?_, ?_, hnd, ?_, ?_⟩
  ·intro k hk
   rw [Array.getD_eq_getD_getElem?, Array.getElem?_replicate] at hk
   split at hk <;> simp at hk
  ·intro k hk
   have hk' : k < ord.length := by simpa [h4] using hk
   have : k ∈ ord := h5' k (by simpa using hk)
   simp [this, hk']
  ·intro k hk
   simpa using h8 k hk
  ·refine pairs_of (fun i j hij => ?_) h7
   unfold twoB at hij
   cases hx : l[i]? with
   | none => simp [hx] at hij
   | some x =>
    cases hy : l[j]? with
    | none => simp [hx, hy] at hij
    | some y =>
     simp only [hx, hy, Bool.and_eq_true, Bool.or_eq_true, Bool.not_eq_true', decide_eq_false_iff_not, decide_eq_true_eq] at hij
     obtain ⟨⟨k1, k2⟩, k4⟩ := hij
     refine ⟨?_, ?_, k4⟩
     ·rcases k1 with k1 | ⟨k1, k3⟩
      ·exact .inl k1
      ·refine .inr ⟨fun x' y' hx' hy' => ?_, fun hj => ?_⟩
       ·have ex : x = x' := Option.some.inj (hx.symm.trans (by simpa using hx'))
        have ey : y = y' := Option.some.inj (hy.symm.trans (by simpa using hy'))
        subst ex ey
        exact aparts_of k1
       ·exact k3.resolve_left fun h => h hj
     ·intro x' hx' e he hb
      have ex : x = x' := Option.some.inj (hx.symm.trans (by simpa using hx'))
      subst ex
      have := Array.all_eq_true_iff_forall_mem.1 k2 e he
      simpa [hb] using this
  ·intro i hi x hx e he hb
   have hx' : l[i]? = some x := by simpa using hx
   have hm : (x, i) ∈ l.zipIdx := by
    rw [List.mem_iff_getElem?]
    exact ⟨i, by simp [List.getElem?_zipIdx, hx']⟩
   have := Array.all_eq_true_iff_forall_mem.1 (h6 _ hm) e he
   simpa [hb] using this
end
/-! The steps of a walk. -/
section
variable {P : Program} {ops : Array Oper} {S : Nat -> World -> Prop} {live : Nat -> Nat -> Prop} {kd : Nat -> Kd} {Q : Act -> List Say -> Prop} {k : Nat} {ord : List Nat} {a : Act} {L : List Say} {o : Oper}
theorem ws_rd (ho : ops[k]? = some o) (hw : Region.wanted o (yielded ops a.tmps) = true) (hk : kd k = .rd) {v : Value} (h1 : RunsRd P (S k) o a v) (h2 : WSep P ops S live kd Q ord (a.put o.dst v) L) : WSep P ops S live kd Q (k :: ord) a L :=
 ⟨o, ho, by rw [if_pos hw]; simp only [hk]; exact ⟨v, h1, h2⟩⟩
theorem ws_nw (ho : ops[k]? = some o) (hw : Region.wanted o (yielded ops a.tmps) = true) (hk : kd k = .nw) {f : Nat -> Value} {ob : Obj} (h1 : RunsNw P o a f ob) (h2 : ∀ b, WSep P ops S live kd Q ord (a.put o.dst (f b)) (pts b ob :: L)) : WSep P ops S live kd Q (k :: ord) a L :=
 ⟨o, ho, by rw [if_pos hw]; simp only [hk]; exact ⟨f, ob, h1, h2⟩⟩
theorem ws_mn (ho : ops[k]? = some o) (hw : Region.wanted o (yielded ops a.tmps) = true) (hk : kd k = .mn) (Post : Value -> List Say -> Prop) (h1 : RunsMn P (S k) o a L Post) (h2 : ∀ v L', Post v L' -> (∀ w F, Has w (L' ++ F) -> ∀ j, live k j -> S j w) /\ WSep P ops S live kd Q ord (a.put o.dst v) L') : WSep P ops S live kd Q (k :: ord) a L :=
 ⟨o, ho, by rw [if_pos hw]; simp only [hk]; exact ⟨Post, h1, h2⟩⟩
theorem rd_ok {w : World} {v : Value} {r : Result Next} (h : r = .ok (.value v) w) : RdUpon w v r := by rw [h]; exact ⟨rfl, rfl⟩
def calls : Op -> Bool
 | .call .. | .go .. | .defer .. | .send .. | .recv .. | .select .. | .panic .. => true
 | _ => false
theorem ne_v (s : Sem Value) {P : Program} {w w' : World} {f : FuncId} {args : Array Value} : (do pure (Next.value (<- s)) : Sem Next).run P w ≠ .ok (.enter f args) w' := by
 rw [Sem.run_bind]
 cases s.run P w <;> simp [Result.andThen, Sem.run_pure]
theorem ne_u (s : Sem Unit) {P : Program} {w w' : World} {f : FuncId} {args : Array Value} : (do s; pure Next.skip : Sem Next).run P w ≠ .ok (.enter f args) w' := by
 rw [Sem.run_bind]
 cases s.run P w <;> simp [Result.andThen, Sem.run_pure]
theorem no_enter {P : Program} {ρ : Operand -> Value} {o : Oper} {w w' : World} {f : FuncId} {args : Array Value} (h : calls o.op = false) : (execOp ρ o).run P w ≠ .ok (.enter f args) w' := by
 intro he
 obtain ⟨dst, op, type, pos, after, guard⟩ := o
 cases op <;> simp only [calls, Bool.true_eq_false] at h <;> simp only [execOp] at he
 all_goals first
  | exact absurd he (ne_v _)
  | exact absurd he (ne_u _)
  | (simp [Sem.run_pure] at he; done)
  | skip
 ·rw [Sem.run_bind] at he
  revert he
  cases (asBool _).run P w <;> simp [Result.andThen, Sem.run_pure]
 ·split at he
  all_goals first
   | (simp [go_sem, runtimePanic] at he; done)
   | (rw [Sem.run_pure] at he; cases he; done)
   | skip
  split at he
  ·simp [go_sem, runtimePanic] at he
  ·rw [Sem.run_bind] at he
   revert he
   cases (program : Sem Program).run P w with
   | halt x w1 => simp [Result.andThen]
   | ok p w1 =>
    simp only [Result.andThen]
    rw [Sem.run_bind]
    cases Sem.run P (nilAhead (p.types.size + Made.depth) _ _ _) w1 with
    | halt x w2 => simp [Result.andThen]
    | ok b w2 =>
     simp only [Result.andThen]
     split
     ·simp [go_sem]
     ·rw [Sem.run_pure]; simp
  ·rw [Sem.run_pure] at he; cases he
end
end Go.Proofs.YtgbgneiciabidaaGreatDoor
