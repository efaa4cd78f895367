/-
  Pages (layer 11): the store, its bank and its space as one, where all is as the pages tell: Put, Get, Hold, Drop, Scrap, Holds.
-/
import Derived.Test.YtgbgneiciabidaaGreatDoorGs19
import Derived.Test.YtgbgneiciabidaaGreatDoorGs16
namespace Go.Proofs.YtgbgneiciabidaaGreatDoor
open Go Go.RowKit
set_option linter.all false
set_option maxHeartbeats 8000000
def HeldTo (Q : Pgs) (N : Nat) : Prop := ∀ a g, VMap.get a Q = some g -> g.held <= (N : Int)
structure BtOk (es : List Ent) (N : Nat) (Q : Pgs) (dx : List Dsk × Spc) : Prop where
 inv : FInv es Q (fun _ => 0)
 room : Room es Q dx.1 dx.2
 held : HeldTo Q N
def btL (p bank sp N : Nat) (Q : Pgs) (dx : List Dsk × Spc) : List Say := [stS p bank sp Q, bankS N bank dx.1, spaceS sp dx.2]
def btS (p bank sp N : Nat) (es : List Ent) (Q : Pgs) : Say := ex fun dx : List Dsk × Spc => fact (BtOk es N Q dx) (all (btL p bank sp N Q dx))
theorem Has.bt_open {w : World} {l : List Say} {p bank sp N : Nat} {es : List Ent} {Q : Pgs} (h : Has w (btS p bank sp N es Q :: l)) : ∃ disks X, FInv es Q (fun _ => 0) /\ Room es Q disks X /\ HeldTo Q N /\ Has w (trio p bank sp N Q disks X l) := by
 obtain ⟨⟨disks, X⟩, h⟩ := h.opened
 obtain ⟨⟨h1, h2, h3⟩, h⟩ := h.unfact
 exact ⟨disks, X, h1, h2, h3, h.split⟩
theorem Has.bt_shut {w : World} {l : List Say} {p bank sp N : Nat} {es : List Ent} {Q : Pgs} {disks : List Dsk} {X : Spc} (h1 : FInv es Q (fun _ => 0)) (h2 : Room es Q disks X) (h3 : HeldTo Q N) (h : Has w (trio p bank sp N Q disks X l)) : Has w (btS p bank sp N es Q :: l) :=
 Has.chosen (disks, X) (Has.tofact ⟨h1, h2, h3⟩ (Has.unite h))
theorem Has.bt_inv {w : World} {l : List Say} {p bank sp N : Nat} {es : List Ent} {Q : Pgs} (h : Has w (btS p bank sp N es Q :: l)) : FInv es Q (fun _ => 0) /\ HeldTo Q N := by
 obtain ⟨_, _, h1, _, h3, _⟩ := h.bt_open
 exact ⟨h1, h3⟩
theorem Has.bt_more {w : World} {l : List Say} {p bank sp N M : Nat} {es : List Ent} {Q : Pgs} (hN : N <= M) (h : Has w (btS p bank sp N es Q :: l)) : Has w (btS p bank sp M es Q :: l) := by
 obtain ⟨disks, X, h1, h2, h3, hh⟩ := h.bt_open
 refine Has.bt_shut h1 h2 (fun a g hg => by have := h3 a g hg; omega) ?_
 have h4 : Has w (bankS N bank disks :: stS p bank sp Q :: spaceS sp X :: l) := Has.swap hh
 exact Has.swap (Has.bank_more hN h4)
theorem FInv.holds {es : List Ent} {Q : Pgs} {N : Nat} (h : FInv es Q (fun _ => 0)) (h2 : HeldTo Q N) (hN : N <= 500000) : HoldsTo Q 1000000 := fun a g hg => by
 obtain ⟨_, p2, p3⟩ := h.pg a g hg
 have := h.refs_le a
 have := h2 a g hg
 omega
def FullQ (es : List Ent) (Q : Pgs) : Prop := ∀ (d : Nat) (e : Ent), es[d]? = some e -> e.st = 1 -> ∀ k, 2 <= k -> k < e.size -> (VMap.get (lenV d k) Q).isSome = true
structure Next (es : List Ent) (Q : Pgs) (a : Int) : Prop where
 new : VMap.get a Q = none
 std : Stand es a
 act : ∃ d k e, a = lenV d k /\ es[d]? = some e /\ e.st = 1 /\ 2 <= k /\ k < 4096 /\ ∀ j, 2 <= j -> j < k -> (VMap.get (lenV d j) Q).isSome = true
theorem cnt_all {S : Nat -> Bool} (h0 : S 0 = false) (h1 : S 1 = false) : ∀ n, n <= cntTo S n + 2 -> ∀ k, 2 <= k -> k < n -> S k = true
 | 0, _, _, _, hk => by omega
 | n + 1, h, k, hk, hn => by
  have hle : cntTo S n + 2 <= n + (if n <= 1 then 2 else 0) := by
   clear h hk hn k
   induction n with
   | zero => simp [cntTo]
   | succ n ih =>
    simp only [cntTo]
    by_cases e0 : n = 0
    ·subst e0; simp [h0, cntTo]
    ·by_cases e1 : n = 1
     ·subst e1; simp [h0, h1, cntTo]
     ·have e2 : ¬ n <= 1 := by omega
      have e3 : ¬ n + 1 <= 1 := by omega
      rw [if_neg e2] at ih
      rw [if_neg e3]
      split <;> omega
  simp only [cntTo] at h
  by_cases e : n <= 1
  ·omega
  ·rw [if_neg e] at hle
   by_cases hS : S n = true
   ·by_cases hkn : k = n
    ·subst hkn; exact hS
    ·rw [if_pos hS] at h
     exact cnt_all h0 h1 n (by omega) k hk (by omega)
   ·rw [if_neg hS] at h; omega
theorem Room.full {es : List Ent} {Q : Pgs} {disks : List Dsk} {X : Spc} (h : Room es Q disks X) (hI : FInv es Q (fun _ => 0)) (hf : ∀ d ∈ actives X.es, X.free d = 0) : FullQ es Q := by
 intro d e he hst k h2 hk
 have hd : d ∈ actives X.es := by
  rw [h.xis.ent]
  unfold actives
  have hlt := (List.getElem?_eq_some_iff.1 he).1
  have : ∀ m, d < m -> d ∈ idxTo (fun e => e.st == 1) es m := by
   intro m
   induction m with
   | zero => intro h; omega
   | succ m ih =>
    intro hm
    simp only [idxTo]
    by_cases e1 : d = m
    ·subst e1; rw [he]; simp [hst]
    ·exact List.mem_append_left _ (ih (by omega))
  exact this _ hlt
 have h0 := hf d hd
 have hdl : d < X.sh.length := by rw [h.xis.len]; exact (List.getElem?_eq_some_iff.1 he).1
 obtain ⟨y, hy⟩ : ∃ y, X.sh[d]? = some y := ⟨_, List.getElem?_eq_getElem hdl⟩
 obtain ⟨⟨e', he', hyn⟩, hb⟩ := h.xis.sh d y hy
 rw [he] at he'
 obtain rfl := Option.some.inj he'
 have hlow : ∀ j, j < 2 -> y.taken j = false := fun j hj => by
  cases ht : y.taken j with
  | false => rfl
  | true =>
   rw [(hb j).2] at ht
   simp only [Bool.and_eq_true, decide_eq_true_eq] at ht
   obtain ⟨d', k', e', e1, _, _, q2, _, q4, q5⟩ := hI.adr _ ht.2
   have := (lenV_inj ht.1 q4 e1).2
   omega
 have hgv : cntTo y.given y.n = 0 := cntTo_none _ fun i _ => (hb i).1
 have hfr : X.free d = e.size - 2 - y.used := by
  unfold Spc.free
  rw [h.xis.ent, he, hy]
 rw [hfr] at h0
 unfold Shelf.used at h0
 rw [hgv] at h0
 have := cnt_all (hlow 0 (by omega)) (hlow 1 (by omega)) y.n (by omega) k h2 (by omega)
 rw [(hb k).2] at this
 simp only [Bool.and_eq_true, decide_eq_true_eq] at this
 exact this.2
theorem Room.next {es : List Ent} {Q : Pgs} {disks : List Dsk} {X : Spc} (h : Room es Q disks X) {d k : Nat} {y : Shelf} (ht : Takes X d k y) : Next es Q (lenV d k) := by
 have hm : d ∈ actives X.es := ht.best.1
 obtain ⟨hlt, e, he, hst⟩ := mem_idxTo _ _ d _ hm
 rw [h.xis.ent] at he
 have hst : e.st = 1 := by simpa using hst
 obtain ⟨⟨e', he', hyn⟩, hb⟩ := h.xis.sh d y ht.shelf
 rw [he] at he'
 obtain rfl := Option.some.inj he'
 have hsz := h.big e (List.mem_of_getElem? he)
 have hhi := ht.hi
 have hdl := (List.getElem?_eq_some_iff.1 he).1
 have h8 := h.h8
 refine ⟨h.fits.free d k y ht.shelf ht.hi ht.free, ⟨d, k, e, rfl, he, by omega, ht.lo, by omega, by omega, by omega⟩, d, k, e, rfl, he, hst, ht.lo, by omega, fun j h2 hj => ?_⟩
 have hbz := ht.least j h2 hj
 simp only [Shelf.busy, (hb j).1, Bool.or_false] at hbz
 rw [(hb j).2] at hbz
 simp only [Bool.and_eq_true, decide_eq_true_eq] at hbz
 exact hbz.2
theorem Room.put {es : List Ent} {Q : Pgs} {disks : List Dsk} {X : Spc} (h : Room es Q disks X) {d k : Nat} {y : Shelf} (ht : Takes X d k y) {secs : Dsk} (hs : disks[d]? = some secs) (n : Nd) (b : List Int) : Room es (put1 Q (lenV d k) n) (disks.set d (secs.set k b)) (X.put d (y.took k)) := by
 have hd := (List.getElem?_eq_some_iff.1 ht.shelf).1
 have hhi := ht.hi
 have hk4 : k < 4096 := by have := h.fits.big d y ht.shelf; omega
 refine ⟨h.fits.put ht hs n b, h.xis.more ht.shelf hk4 rfl (fun _ => rfl) (fun _ => rfl) fun b => put1_some Q (lenV d k) n b, fun d' z hz j => ?_, h.h8, h.big⟩
 by_cases e1 : d' = d
 ·subst e1
  simp only [Spc.put, List.getElem?_set_self hd, Option.some.injEq] at hz
  subst hz
  simp only [Shelf.took, h.fr d' y ht.shelf]
 ·simp only [Spc.put, List.getElem?_set_ne (Ne.symm e1)] at hz
  exact h.fr d' z hz j
def BtPut (p bank sp N : Nat) (es : List Ent) (Q : Pgs) (n : Nd) (l : List Say) (w : World) (r : Ending) (w' : World) : Prop :=
  Kept w w' /\
  ((FullQ es Q /\ r = .returned (.tuple #[.int .i64 0, errV 50]) /\ Has w' (btS p bank sp N es Q :: l)) \/
   ∃ a, Next es Q a /\ r = .returned (.tuple #[.int .i64 a, .nilIface]) /\ Has w' (btS p bank sp (N + 1) es (put1 Q a n) :: l))
theorem bt_Put {w : World} {l : List Say} {p bank sp N : Nat} {es : List Ent} {Q : Pgs} (n : Nd) {kv vv : Value} (h : Has w (btS p bank sp N es Q :: l)) (ht : Tab l) (hk : intsS kv n.keys ∈ l) (hv : intsS vv n.vals ∈ l) (ok : n.ok = true) (nm : namedErr Q n = .nilIface) (hN : N <= 500000) :
  Calls Tryz.prog 19 #[.pointer (some ⟨p, 0, none⟩), n.val kv vv] w (BtPut p bank sp N es Q n l w) := by
 obtain ⟨disks, X, hI, hR, hH, hh⟩ := h.bt_open
 refine (trio_Put n hh ht hk hv hR.fits (hI.holds hH hN) hN).mono ?_
 rintro r w' ⟨hK, (⟨h1, _, _⟩ | ⟨_, h2, _, _⟩ | ⟨_, _, h3, h4, h5⟩ | ⟨d, k, y, secs, _, _, h3, h4, h5, h6⟩)⟩
 ·rw [ok] at h1; cases h1
 ·exact absurd nm h2
 ·exact ⟨hK, .inl ⟨hR.full hI h3, h4, h5.bt_shut hI hR hH⟩⟩
 ·have hn := hR.next h3
  refine ⟨hK, .inr ⟨lenV d k, hn, h5, h6.bt_shut (hI.put hn.new ok nm hn.std) (hR.put h3 h4 n _) fun b g hg => ?_⟩⟩
  rw [get_put1] at hg
  by_cases e : b = lenV d k
  ·rw [if_pos e] at hg
   obtain rfl := Option.some.inj hg
   show (0 : Int) <= _
   omega
  ·rw [if_neg e] at hg
   obtain ⟨g0, hg0, rfl⟩ := Option.map_eq_some_iff.1 hg
   have := hH b g0 hg0
   show g0.held <= _
   omega
def BtGet (a : Int) (p bank sp N : Nat) (es : List Ent) (Q : Pgs) (l : List Say) (w : World) (r : Ending) (w' : World) : Prop :=
 Kept w w' /\ ((VMap.get a Q = none /\ r = .returned (.tuple #[nodeZero, errV 81]) /\ Has w' (btS p bank sp N es Q :: l)) \/
 ∃ g ak ck av cv, VMap.get a Q = some g /\ r = .returned (.tuple #[g.n.val (.slice ak g.n.keys.length ck) (.slice av g.n.vals.length cv), .nilIface]) /\ Has w' (intsS (.slice ak g.n.keys.length ck) g.n.keys :: intsS (.slice av g.n.vals.length cv) g.n.vals :: btS p bank sp N es Q :: l))
theorem bt_Get {w : World} {l : List Say} {p bank sp N : Nat} {es : List Ent} {Q : Pgs} (h : Has w (btS p bank sp N es Q :: l)) (a : Int) (b0 : -9223372036854775808 <= a) (b1 : a <= 9223372036854775807) :
  Calls Tryz.prog 20 #[.pointer (some ⟨p, 0, none⟩), .int .i64 a] w (BtGet a p bank sp N es Q l w) := by
 obtain ⟨disks, X, hI, hR, hH, hh⟩ := h.bt_open
 refine (st_Get hh a b0 b1).mono ?_
 rintro r w' (⟨h1, h2, hK, h3⟩ | ⟨g, kv, vv, h1, h2, hK, h3⟩)
 ·exact ⟨hK, .inl ⟨h1, h2, Has.bt_shut hI hR hH h3⟩⟩
 ·obtain ⟨ak, ck, rfl, _, _⟩ := h3.ints_read (.head _)
  obtain ⟨av, cv, rfl, _, _⟩ := h3.ints_read (.tail _ (.head _))
  refine ⟨hK, .inr ⟨g, ak, ck, av, cv, h1, h2, ?_⟩⟩
  have h4 : Has w' (trio p bank sp N Q disks X (intsS (.slice ak g.n.keys.length ck) g.n.keys :: intsS (.slice av g.n.vals.length cv) g.n.vals :: l)) := h3.reord [2, 2, 2]
  exact (Has.bt_shut hI hR hH h4).reord [1, 1]
theorem bt_Holds {w : World} {l : List Say} {p bank sp N : Nat} {es : List Ent} {Q : Pgs} (h : Has w (btS p bank sp N es Q :: l)) (a : Int) (b0 : -9223372036854775808 <= a) (b1 : a <= 9223372036854775807) :
  Calls Tryz.prog 34 #[.pointer (some ⟨p, 0, none⟩), .int .i64 a] w fun r w' => r = .returned (.int .i64 (holdsOf Q a)) /\ w = w' := by
 obtain ⟨disks, X, hI, hR, hH, hh⟩ := h.bt_open
 exact st_Holds hh a b0 b1
def BtHold (p bank sp N : Nat) (a : Int) (g : Pg) (es : List Ent) (Q : Pgs) (l : List Say) (w : World) (r : Ending) (w' : World) : Prop :=
 Kept w w' /\ r = .returned .nilIface /\ Has w' (btS p bank sp (N + 1) es (VMap.put a (g.more 1) Q) :: l)
theorem bt_Hold {w : World} {l : List Say} {p bank sp N : Nat} {es : List Ent} {Q : Pgs} (h : Has w (btS p bank sp N es Q :: l)) {a : Int} {g : Pg} (hg : VMap.get a Q = some g) (hN : N <= 500000) :
  Calls Tryz.prog 27 #[.pointer (some ⟨p, 0, none⟩), .int .i64 a] w (BtHold p bank sp N a g es Q l w) := by
 obtain ⟨disks, X, hI, hR, hH, hh⟩ := h.bt_open
 have hbd := (hI.adr a (by rw [hg]; rfl)).bd
 have hho := hI.holds hH hN
 refine (st_Hold hh a (by omega) (by omega) fun g' hg' => ?_).mono ?_
 ·have h1 := hho a g' hg'
  have h2 := hH a g' hg'
  have h3 := (hI.pg a g' hg').2.1
  omega
 ·rintro r w' ⟨hK, (⟨h1, _, _⟩ | ⟨g', h1, h2, h3⟩)⟩
  ·rw [hg] at h1; cases h1
  ·rw [hg] at h1
   obtain rfl := Option.some.inj h1
   refine ⟨hK, h2, ?_⟩
   have hp := (hI.pg a g hg).2.1
   have h4 : Has w' (trio p bank sp N (VMap.put a (g.more 1) Q) disks X l) := h3
   refine Has.bt_more (Nat.le_refl _) (Has.bt_shut (hI.more hg 1 (by omega)) (hR.same fun b => ?_) (fun b gb hb => ?_) (Has.swap (Has.bank_more (Nat.le_succ N) (Has.swap h4))))
   ·rw [get_put]
    by_cases e : b = a
    ·subst e; rw [if_pos rfl, hg]; rfl
    ·rw [if_neg e]
   ·rw [get_put] at hb
    by_cases e : b = a
    ·rw [if_pos e] at hb
     obtain rfl := Option.some.inj hb
     have := hH a g hg
     show g.held + 1 <= _
     omega
    ·rw [if_neg e] at hb
     have := hH b gb hb
     omega
structure Dropd (a : Int) (Q Q' : Pgs) : Prop where
 sub : ∀ b g', VMap.get b Q' = some g' -> ∃ g, VMap.get b Q = some g /\ g'.n = g.n /\ g'.held + (if b = a then 1 else 0) = g.held
 kep : ∀ b g, VMap.get b Q = some g -> (if b = a then 1 else 0) < g.held -> (VMap.get b Q').isSome = true
 loo : ∀ b g', VMap.get b Q' = some g' -> g'.holds <= 0 -> ∃ g, VMap.get b Q = some g /\ g.holds <= 0
def BtDrop (p bank sp N : Nat) (a : Int) (es : List Ent) (Q : Pgs) (l : List Say) (w : World) (r : Ending) (w' : World) : Prop :=
 Kept w w' /\ r = .returned .nilIface /\ ∃ Q', Dropd a Q Q' /\ Has w' (btS p bank sp N es Q' :: l)
theorem gone_page {es : List Ent} {Q : Pgs} {disks : List Dsk} {X : Spc} {N : Nat} (hI : FInv es Q (fun _ => 0)) (hR : Room es Q disks X) (hH : HoldsTo Q 1000000) {a : Int} {g : Pg} (hg : VMap.get a Q = some g) (hr : refs Q a = 0) :
  ∃ Q' X', GoneFrom 21 a Q X Q' X' /\ FInv es Q' (fun _ => 0) /\ Room es Q' disks X' /\ Shr (VMap.del a Q) Q' := by
 obtain ⟨X1, hgv, hR1⟩ := hR.give (by rw [hg]; rfl) (hI.adr a (by rw [hg]; rfl))
 have hkk : g.n.kids.count a = 0 := kids_count fun c hc e => by
  subst e
  obtain ⟨gc, hgc, hlc⟩ := hI.kid c g hg c hc
  rw [hg] at hgc
  obtain rfl := Option.some.inj hgc
  omega
 have hI1 : FInv es (VMap.del a Q) (fun b => g.n.kids.count b + (fun _ => 0) b) := hI.cut hg hr (by simpa using hkk) fun b _ => rfl
 obtain ⟨Q', X', a1, a2, a3, a4⟩ := gone_ex (es := es) (disks := disks) 21 g.n.kids _ X1 (fun _ => 0) hI1 hR1 (fun b gb hb => by
  rw [get_del] at hb
  split at hb
  ·cases hb
  ·exact (hH b gb hb).2) fun c hc => by
  obtain ⟨gc, hgc, hlc⟩ := hI.kid a g hg c hc
  have := (hI.lv hg).2
  refine ⟨gc, ?_, by omega⟩
  rw [get_del, if_neg]
  ·exact hgc
  ·rintro rfl
   rw [hg] at hgc
   obtain rfl := Option.some.inj hgc
   omega
 refine ⟨Q', X', fun g' hg' => ?_, a2, a3, a4⟩
 rw [hg] at hg'
 obtain rfl := Option.some.inj hg'
 exact ⟨X1, hgv, a1⟩
theorem bt_Drop {w : World} {l : List Say} {p bank sp N : Nat} {es : List Ent} {Q : Pgs} (h : Has w (btS p bank sp N es Q :: l)) {a : Int} {g : Pg} (hg : VMap.get a Q = some g) (h0 : 1 <= g.held) (hN : N <= 500000) :
  Calls Tryz.prog 28 #[.pointer (some ⟨p, 0, none⟩), .int .i64 a] w (BtDrop p bank sp N a es Q l w) := by
 obtain ⟨disks, X, hI, hR, hH, hh⟩ := h.bt_open
 have hbd := (hI.adr a (by rw [hg]; rfl)).bd
 have hho := hI.holds hH hN
 obtain ⟨p1, p2, p3⟩ := hI.pg a g hg
 have h2 : Has w (stS p bank sp Q :: spaceS sp X :: bankS N bank disks :: l) := hh.reord [0, 1]
 have hfin : ∃ Q' X', (holdsOf Q a = 1 -> heldOf Q a ≠ 0 -> GoneFrom 21 a Q X Q' X') /\ (g.holds = 1 -> FInv es Q' (fun _ => 0) /\ Room es Q' disks X' /\ Shr (VMap.del a Q) Q') := by
  by_cases e : g.holds = 1
  ·obtain ⟨Q', X', a1, a2, a3, a4⟩ := gone_page (N := N) hI hR hho hg (by omega)
   exact ⟨Q', X', fun _ _ => a1, fun _ => ⟨a2, a3, a4⟩⟩
  ·refine ⟨Q, X, fun h1 _ => ?_, fun h1 => absurd h1 e⟩
   unfold holdsOf at h1
   rw [hg] at h1
   exact absurd h1 e
 obtain ⟨Q', X', hgo, hgi⟩ := hfin
 refine (st_Drop h2 a (by omega) (by omega) (fun g' hg' => ?_) hgo).mono ?_
 ·have h1 := hho a g' hg'
  have h2 := hH a g' hg'
  have h3 := (hI.pg a g' hg').2.1
  omega
 ·rintro r w' ⟨hK, (⟨h1, _, _⟩ | ⟨g', h1, (⟨h2, _, _⟩ | ⟨h2, h3, h4, h5⟩ | ⟨h2, h3, h4, h5⟩)⟩)⟩
  ·rw [hg] at h1; cases h1
  ·rw [hg] at h1
   obtain rfl := Option.some.inj h1
   omega
  ·rw [hg] at h1
   obtain rfl := Option.some.inj h1
   have hsm : ∀ b, (VMap.get b (VMap.put a (g.more (-1)) Q)).isSome = (VMap.get b Q).isSome := fun b => by
    rw [get_put]
    by_cases e : b = a
    ·subst e; rw [if_pos rfl, hg]; rfl
    ·rw [if_neg e]
   refine ⟨hK, h4, VMap.put a (g.more (-1)) Q, ⟨fun b gb hb => ?_, fun b gb hb h0 => by rw [hsm, hb]; rfl, fun b gb hb hl => ?_⟩, ?_⟩
   ·rw [get_put] at hb
    by_cases e : b = a
    ·subst e
     rw [if_pos rfl] at hb
     obtain rfl := Option.some.inj hb
     rw [if_pos rfl]
     exact ⟨g, hg, rfl, by show g.held + -1 + 1 = _; omega⟩
    ·rw [if_neg e] at hb
     rw [if_neg e]
     exact ⟨gb, hb, rfl, by omega⟩
   ·rw [get_put] at hb
    by_cases e : b = a
    ·subst e
     rw [if_pos rfl] at hb
     obtain rfl := Option.some.inj hb
     have h6 : g.holds + -1 <= 0 := hl
     omega
    ·rw [if_neg e] at hb
     exact ⟨gb, hb, hl⟩
   ·have h6 : Has w' (trio p bank sp N (VMap.put a (g.more (-1)) Q) disks X l) := h5.reord [0, 1]
    refine Has.bt_shut (hI.more hg (-1) (by omega)) (hR.same hsm) (fun b gb hb => ?_) h6
    rw [get_put] at hb
    by_cases e : b = a
    ·rw [if_pos e] at hb
     obtain rfl := Option.some.inj hb
     have := hH a g hg
     show g.held + -1 <= _
     omega
    ·rw [if_neg e] at hb
     exact hH b gb hb
  ·rw [hg] at h1
   obtain rfl := Option.some.inj h1
   obtain ⟨a2, a3, a4⟩ := hgi h3
   have h6 : Has w' (trio p bank sp N Q' disks X' l) := h5.reord [0, 1]
   refine ⟨hK, h4, Q', ⟨fun b gb hb => ?_, fun b gb hb h0 => ?_, fun b gb hb hl => ?_⟩, Has.bt_shut a2 a3 (fun b gb hb => ?_) h6⟩
   ·obtain ⟨g1, e1, n1, l1⟩ := a4.sub b gb hb
    rw [get_del] at e1
    by_cases e : b = a
    ·rw [if_pos e] at e1; cases e1
    ·rw [if_neg e] at e1
     rw [if_neg e]
     exact ⟨g1, e1, n1, by omega⟩
   ·by_cases e : b = a
    ·subst e
     rw [hg] at hb
     obtain rfl := Option.some.inj hb
     rw [if_pos rfl] at h0
     omega
    ·rw [if_neg e] at h0
     exact a4.kep b gb (by rw [get_del, if_neg e]; exact hb) h0
   ·obtain ⟨g1, e1, l1⟩ := a4.loo b gb hb hl
    rw [get_del] at e1
    split at e1
    ·cases e1
    ·exact ⟨g1, e1, l1⟩
   ·obtain ⟨g1, e1, n1, l1⟩ := a4.sub b gb hb
    rw [get_del] at e1
    split at e1
    ·cases e1
    ·have := hH b g1 e1; omega
def BtScrap (p bank sp N : Nat) (a : Int) (es : List Ent) (Q : Pgs) (l : List Say) (w : World) (r : Ending) (w' : World) : Prop :=
 Kept w w' /\ (∃ v, r = .returned v) /\ ∃ Q', Shr Q Q' /\ VMap.get a Q' = none /\ Has w' (btS p bank sp N es Q' :: l)
theorem bt_Scrap {w : World} {l : List Say} {p bank sp N : Nat} {es : List Ent} {Q : Pgs} (h : Has w (btS p bank sp N es Q :: l)) {a : Int} (h0 : holdsOf Q a = 0) (b0 : -9223372036854775808 <= a) (b1 : a <= 9223372036854775807) (hN : N <= 500000) :
  Calls Tryz.prog 24 #[.pointer (some ⟨p, 0, none⟩), .int .i64 a] w (BtScrap p bank sp N a es Q l w) := by
 obtain ⟨disks, X, hI, hR, hH, hh⟩ := h.bt_open
 have hho := hI.holds hH hN
 have h2 : Has w (stS p bank sp Q :: spaceS sp X :: bankS N bank disks :: l) := hh.reord [0, 1]
 cases hg : VMap.get a Q with
 | none =>
  refine (st_Scrap (d := 21) (Q' := Q) (X' := X) h2 a b0 b1 fun _ g hg' => by rw [hg] at hg'; cases hg').mono ?_
  rintro r w' ⟨hK, (⟨_, h3, h4⟩ | ⟨h3, _, _⟩ | ⟨h3, _, _, _⟩)⟩
  ·exact ⟨hK, ⟨_, h3⟩, Q, .refl Q, hg, Has.bt_shut hI hR hH (h4.reord [0, 1])⟩
  ·omega
  ·rw [hg] at h3; cases h3
 | some g =>
  have hgh : g.holds = 0 := by unfold holdsOf at h0; rw [hg] at h0; exact h0
  obtain ⟨p1, p2, p3⟩ := hI.pg a g hg
  obtain ⟨Q', X', a1, a2, a3, a4⟩ := gone_page (N := N) hI hR hho hg (by omega)
  refine (st_Scrap (d := 21) (Q' := Q') (X' := X') h2 a b0 b1 fun _ => a1).mono ?_
  rintro r w' ⟨hK, (⟨h3, _, _⟩ | ⟨h3, _, _⟩ | ⟨_, _, h3, h4⟩)⟩
  ·rw [hg] at h3; cases h3
  ·omega
  ·refine ⟨hK, ⟨_, h3⟩, Q', ⟨fun b gb hb => ?_, fun b gb hb h0 => ?_, fun b gb hb hl => ?_, fun b g' gb hb hb' => ?_⟩, ?_, Has.bt_shut a2 a3 (fun b gb hb => ?_) (h4.reord [0, 1])⟩
   ·obtain ⟨g1, e1, n1, l1⟩ := a4.sub b gb hb
    rw [get_del] at e1
    split at e1
    ·cases e1
    ·exact ⟨g1, e1, n1, l1⟩
   ·by_cases e : b = a
    ·subst e
     rw [hg] at hb
     obtain rfl := Option.some.inj hb
     omega
    ·exact a4.kep b gb (by rw [get_del, if_neg e]; exact hb) h0
   ·obtain ⟨g1, e1, l1⟩ := a4.loo b gb hb hl
    rw [get_del] at e1
    split at e1
    ·cases e1
    ·exact ⟨g1, e1, l1⟩
   ·by_cases e : b = a
    ·obtain ⟨g1, e1, _, _⟩ := a4.sub b g' hb
     rw [get_del, if_pos e] at e1
     cases e1
    ·exact a4.low b g' gb hb (by rw [get_del, if_neg e]; exact hb')
   ·cases hq : VMap.get a Q' with
    | none => rfl
    | some g1 =>
     obtain ⟨g2, e1, _, _⟩ := a4.sub a g1 hq
     rw [get_del, if_pos rfl] at e1
     cases e1
   ·obtain ⟨g1, e1, n1, l1⟩ := a4.sub b gb hb
    rw [get_del] at e1
    split at e1
    ·cases e1
    ·have := hH b g1 e1; omega
/-
  Plain: what trees weigh, how many pages they have; trees among fewer pages.
-/
theorem wt_mono (lv : Nat) {m m' : Nat} (h : m <= m') : wt lv m <= wt lv m' := by
 unfold wt
 exact Nat.add_le_add_right (Nat.mul_le_mul_left _ (by omega)) _
theorem wt_ins (lv m : Nat) : wt lv (m + 1) <= wt lv m + 2 ^ lv := by
 unfold wt
 by_cases h : m < 4
 ·rw [show m + 1 - 4 = 0 by omega, show m - 4 = 0 by omega]; exact Nat.le_add_right _ _
 ·rw [show m + 1 - 4 = (m - 4) + 1 by omega, Nat.mul_add]; omega
theorem wt_split (lv : Nat) : wt lv 4 + wt lv 4 + 2 ^ (lv + 1) <= wt lv 7 + 2 ^ lv := by
 unfold wt
 rw [Nat.pow_succ]
 by_cases h : lv = 0
 ·subst h; decide
 ·rw [if_neg h]; omega
theorem wt_root (lv : Nat) : wt (lv + 1) 2 <= 2 ^ (lv + 1) := by
 unfold wt
 rw [if_neg (by omega)]; omega
theorem wt_two (lv m : Nat) : 2 <= wt lv m /\ 2 ^ lv <= wt lv m := by
 unfold wt
 by_cases h : lv = 0
 ·subst h; simp
 ·rw [if_neg h]
  have : 2 ^ 1 <= 2 ^ lv := Nat.pow_le_pow_right (by omega) (by omega)
  omega
theorem Tr.weighs {Q : Pgs} {lv : Nat} {a : Int} {L : List KV} {s : Nat} (h : Tr Q lv a L s) : 2 <= s /\ 2 ^ lv <= s := by
 cases lv with
 | zero => obtain ⟨g, _, _, _, rfl⟩ := h; exact wt_two 0 _
 | succ lv =>
  obtain ⟨g, s', _, _, _, rfl⟩ := h
  have := wt_two (lv + 1) g.n.keys.length
  omega
theorem pair_kid {n : Nd} (h : n.level ≠ 0) {p : KV} (hp : p ∈ n.pairs) : p.2 ∈ n.kids := by
 unfold Nd.kids
 rw [if_neg h]
 exact (List.of_mem_zip (show (p.1, p.2) ∈ n.keys.zip n.vals from hp)).2
theorem kid_pair {n : Nd} (ok : n.ok = true) {c : Int} (hc : c ∈ n.kids) : ∃ p ∈ n.pairs, p.2 = c := by
 have hv := kids_sub n c hc
 obtain ⟨_, _, e, _, _⟩ := ok_lens ok
 obtain ⟨i, hi, rfl⟩ := List.getElem_of_mem hv
 refine ⟨(n.keys[i]'(by omega), n.vals[i]), ?_, rfl⟩
 refine List.mem_iff_getElem?.2 ⟨i, ?_⟩
 unfold Nd.pairs
 rw [List.getElem?_zip_eq_some]
 exact ⟨List.getElem?_eq_getElem _, List.getElem?_eq_getElem _⟩
theorem TrG.pages {Q : Pgs} {T : Int -> List KV -> Nat -> Prop} (hT : ∀ a L s, T a L s -> ∃ Z : List Int, 2 * Z.length <= s /\ a ∈ Z /\ ∀ b ∈ Z, ∀ g, VMap.get b Q = some g -> ∀ c ∈ g.n.kids, c ∈ Z) {ps L : List KV} {s : Nat} (h : TrG T ps L s) :
  ∃ Z : List Int, 2 * Z.length <= s /\ (∀ p ∈ ps, p.2 ∈ Z) /\ ∀ b ∈ Z, ∀ g, VMap.get b Q = some g -> ∀ c ∈ g.n.kids, c ∈ Z := by
 induction h with
 | nil => exact ⟨[], by simp, by simp, by simp⟩
 | cons a b _ ih =>
  obtain ⟨Z1, h1, h2, h3⟩ := hT _ _ _ a
  obtain ⟨Z2, h4, h5, h6⟩ := ih
  refine ⟨Z1 ++ Z2, by rw [List.length_append]; omega, fun p hp => ?_, fun b hb g hg c hc => ?_⟩
  ·rcases List.mem_cons.1 hp with rfl | hp
   ·exact List.mem_append_left _ h2
   ·exact List.mem_append_right _ (h5 p hp)
  ·rcases List.mem_append.1 hb with hb | hb
   ·exact List.mem_append_left _ (h3 b hb g hg c hc)
   ·exact List.mem_append_right _ (h6 b hb g hg c hc)
theorem Tr.pages {es : List Ent} {Q : Pgs} {D : Int -> Nat} (hI : FInv es Q D) : ∀ {lv : Nat} {a : Int} {L : List KV} {s : Nat}, Tr Q lv a L s -> ∃ Z : List Int, 2 * Z.length <= s /\ a ∈ Z /\ ∀ b ∈ Z, ∀ g, VMap.get b Q = some g -> ∀ c ∈ g.n.kids, c ∈ Z
 | 0, a, L, s, h => by
  have hw := h.weighs
  obtain ⟨g, h1, h2, _, _⟩ := h
  refine ⟨[a], by simp; omega, .head _, fun b hb g' hg' c hc => ?_⟩
  rw [List.mem_singleton] at hb
  subst hb
  rw [h1] at hg'
  obtain rfl := Option.some.inj hg'
  unfold Nd.kids at hc
  rw [if_pos h2] at hc
  cases hc
 | lv + 1, a, L, s, h => by
  obtain ⟨g, s', h1, h2, h3, rfl⟩ := h
  obtain ⟨Z, q1, q2, q3⟩ := h3.pages fun a L s h => Tr.pages hI h
  have hw := wt_two (lv + 1) g.n.keys.length
  refine ⟨a :: Z, by rw [List.length_cons]; omega, .head _, fun b hb g' hg' c hc => ?_⟩
  rcases List.mem_cons.1 hb with rfl | hb
  ·rw [h1] at hg'
   obtain rfl := Option.some.inj hg'
   obtain ⟨p, hp, rfl⟩ := kid_pair (hI.pg _ g h1).1 hc
   exact .tail _ (q2 p hp)
  ·exact .tail _ (q3 b hb g' hg' c hc)
def Agree (Q Q' : Pgs) : Prop := ∀ b g', VMap.get b Q' = some g' -> ∃ g, VMap.get b Q = some g /\ g'.n = g.n
theorem Shr.agree {Q Q' : Pgs} (h : Shr Q Q') : Agree Q Q' := fun b g' hb => by
 obtain ⟨g, h1, h2, _⟩ := h.sub b g' hb
 exact ⟨g, h1, h2⟩
theorem Dropd.agree {a : Int} {Q Q' : Pgs} (h : Dropd a Q Q') : Agree Q Q' := fun b g' hb => by
 obtain ⟨g, h1, h2, _⟩ := h.sub b g' hb
 exact ⟨g, h1, h2⟩
theorem Agree.trans {A B C : Pgs} (h : Agree A B) (k : Agree B C) : Agree A C := fun b g' hb => by
 obtain ⟨g1, e1, n1⟩ := k b g' hb
 obtain ⟨g2, e2, n2⟩ := h b g1 e1
 exact ⟨g2, e2, n1.trans n2⟩
theorem Tr.agree {es : List Ent} {Q Q' : Pgs} {D : Int -> Nat} (hI : FInv es Q' D) (ha : Agree Q Q') : ∀ {lv : Nat} {a : Int} {L : List KV} {s : Nat}, (VMap.get a Q').isSome = true -> Tr Q lv a L s -> Tr Q' lv a L s
 | 0, a, L, s, hs, ⟨g, h1, h2, h3, h4⟩ => by
  obtain ⟨g', hg'⟩ := Option.isSome_iff_exists.1 hs
  obtain ⟨g0, e1, n1⟩ := ha a g' hg'
  rw [h1] at e1
  obtain rfl := Option.some.inj e1
  exact ⟨g', hg', by rw [n1]; exact h2, by rw [n1]; exact h3, by rw [n1]; exact h4⟩
 | lv + 1, a, L, s, hs, ⟨g, s', h1, h2, h3, h4⟩ => by
  obtain ⟨g', hg'⟩ := Option.isSome_iff_exists.1 hs
  obtain ⟨g0, e1, n1⟩ := ha a g' hg'
  rw [h1] at e1
  obtain rfl := Option.some.inj e1
  refine ⟨g', s', hg', by rw [n1]; exact h2, ?_, by rw [n1]; exact h4⟩
  rw [n1]
  refine h3.mono fun p hp L s h => Tr.agree hI ha ?_ h
  have hk : p.2 ∈ g'.n.kids := by rw [n1]; exact pair_kid (by rw [h2]; omega) hp
  obtain ⟨gc, hgc, _⟩ := hI.kid a g' hg' p.2 hk
  rw [hgc]; rfl
theorem TrG.uniq {T T' : Int -> List KV -> Nat -> Prop} {ps L : List KV} {s : Nat} (h : TrG T ps L s) (hT : ∀ p ∈ ps, ∀ L s L' s', T p.2 L s -> T' p.2 L' s' -> L = L' /\ s = s') : ∀ {L' : List KV} {s' : Nat}, TrG T' ps L' s' -> L = L' /\ s = s' := by
 induction h with
 | nil => intro L' s' h'; cases h'; exact ⟨rfl, rfl⟩
 | cons a b _ ih =>
  intro L' s' h'
  obtain ⟨LM, LB, sM, sB, h1, _, h2, rfl, rfl⟩ := h'.one
  obtain ⟨rfl, rfl⟩ := hT _ (.head _) _ _ _ _ a h1
  obtain ⟨rfl, rfl⟩ := ih (fun p hp => hT p (.tail _ hp)) h2
  exact ⟨rfl, rfl⟩
theorem Tr.uniq {Q : Pgs} : ∀ {lv lv' : Nat} {a : Int} {L L' : List KV} {s s' : Nat}, Tr Q lv a L s -> Tr Q lv' a L' s' -> lv = lv' /\ L = L' /\ s = s'
 | 0, 0, a, L, L', s, s', ⟨g, h1, h2, h3, h4⟩, ⟨g', e1, e2, e3, e4⟩ => by
  rw [h1] at e1
  obtain rfl := Option.some.inj e1
  exact ⟨rfl, h3.trans e3.symm, h4.trans e4.symm⟩
 | 0, lv' + 1, a, L, L', s, s', ⟨g, h1, h2, _, _⟩, ⟨g', _, e1, e2, _, _⟩ => by
  rw [h1] at e1
  obtain rfl := Option.some.inj e1
  omega
 | lv + 1, 0, a, L, L', s, s', ⟨g, _, h1, h2, _, _⟩, ⟨g', e1, e2, _, _⟩ => by
  rw [h1] at e1
  obtain rfl := Option.some.inj e1
  omega
 | lv + 1, lv' + 1, a, L, L', s, s', ⟨g, t, h1, h2, h3, h4⟩, ⟨g', t', e1, e2, e3, e4⟩ => by
  rw [h1] at e1
  obtain rfl := Option.some.inj e1
  obtain rfl : lv = lv' := by omega
  obtain ⟨rfl, rfl⟩ := h3.uniq (fun p _ L s L' s' a b => (Tr.uniq a b).2) e3
  exact ⟨rfl, rfl, h4.trans e4.symm⟩
structure Root (Q : Pgs) (a : Int) (L : List KV) (s : Nat) : Prop where
 it : (a = 0 /\ L = [] /\ s = 0) \/ ∃ lv, Tr Q lv a L s /\ Srt L /\ 0 < heldOf Q a
theorem Root.nil (Q : Pgs) : Root Q 0 [] 0 := ⟨.inl ⟨rfl, rfl, rfl⟩⟩
theorem Root.srt {Q : Pgs} {a : Int} {L : List KV} {s : Nat} (h : Root Q a L s) : Srt L := by
 rcases h.it with ⟨_, rfl, _⟩ | ⟨_, _, h, _⟩
 ·exact List.Pairwise.nil
 ·exact h
def Live (Q : Pgs) : Prop := ∀ a g, VMap.get a Q = some g -> 0 < g.holds
theorem heldOf_some {Q : Pgs} {a : Int} (h : 0 < heldOf Q a) : ∃ g, VMap.get a Q = some g /\ heldOf Q a = g.held := by
 unfold heldOf at h ⊢
 cases hg : VMap.get a Q with
 | none => rw [hg] at h; exact absurd h (by decide)
 | some g => exact ⟨g, rfl, rfl⟩
theorem Live.all {es : List Ent} {Q : Pgs} (hI : FInv es Q (fun _ => 0)) (hL : Live Q) {Z : List Int} (hZ : ∀ a g, VMap.get a Q = some g -> 0 < g.held -> a ∈ Z) (hc : ∀ b ∈ Z, ∀ g, VMap.get b Q = some g -> ∀ c ∈ g.n.kids, c ∈ Z) :
  ∀ a g, VMap.get a Q = some g -> a ∈ Z := by
 have key : ∀ (n : Nat) a g, VMap.get a Q = some g -> g.n.level + n = 20 -> a ∈ Z := by
  intro n
  induction n with
  | zero =>
   intro a g hg hl
   have h1 := hL a g hg
   obtain ⟨_, h2, h3⟩ := hI.pg a g hg
   by_cases hh : 0 < g.held
   ·exact hZ a g hg hh
   ·obtain ⟨b, gb, hb, hm⟩ := refs_who hI.up (a := a) (by omega)
    obtain ⟨gc, hgc, hlc⟩ := hI.kid b gb hb a hm
    rw [hg] at hgc
    obtain rfl := Option.some.inj hgc
    have := (hI.lv hb).2
    omega
  | succ n ih =>
   intro a g hg hl
   have h1 := hL a g hg
   obtain ⟨_, h2, h3⟩ := hI.pg a g hg
   by_cases hh : 0 < g.held
   ·exact hZ a g hg hh
   ·obtain ⟨b, gb, hb, hm⟩ := refs_who hI.up (a := a) (by omega)
    obtain ⟨gc, hgc, hlc⟩ := hI.kid b gb hb a hm
    rw [hg] at hgc
    obtain rfl := Option.some.inj hgc
    exact hc b (ih b gb hb (by omega)) gb hb a hm
 intro a g hg
 have := hI.lv hg
 exact key (20 - g.n.level).toNat a g hg (by omega)
theorem len_in {Q : Pgs} (hu : VMap.Up Q) {Z : List Int} (h : ∀ a g, VMap.get a Q = some g -> a ∈ Z) : Q.length <= Z.length := by
 have hnd : (Q.map (·.1)).Nodup := by
  refine List.pairwise_map.2 (hu.imp fun {a b} hab => ?_)
  omega
 have hsub : ∀ x ∈ Q.map (·.1), x ∈ Z := fun x hx => by
  obtain ⟨p, hp, rfl⟩ := List.mem_map.1 hx
  exact h p.1 p.2 (mem_get hu hp)
 have := List.Nodup.length_le_of_subset hnd hsub
 rwa [List.length_map] at this
/-
  Plain: pages that are put one behind the other.
-/
theorem named_of {Q : Pgs} {n : Nd} (h : ∀ c ∈ n.kids, ∃ g, VMap.get c Q = some g /\ g.n.level = n.level - 1) : namedErr Q n = .nilIface := by
 unfold namedErr
 rw [if_neg, if_neg]
 ·simp only [List.any_eq_true, not_exists, not_and]
  intro c hc
  obtain ⟨g, hg, hl⟩ := h c hc
  unfold offLevel lvOf
  rw [hg]
  simp [hl]
 ·simp only [List.any_eq_true, not_exists, not_and]
  intro c hc
  obtain ⟨g, hg, hl⟩ := h c hc
  unfold missing
  rw [hg]; simp
theorem named_kid {Q : Pgs} {n : Nd} (h : namedErr Q n = .nilIface) : ∀ c ∈ n.kids, ∃ g, VMap.get c Q = some g /\ g.n.level = n.level - 1 := fun c hc => by
 obtain ⟨g, hg⟩ := Option.isSome_iff_exists.1 (named_some h c hc)
 have := named_lv h c hc
 unfold lvOf at this
 rw [hg] at this
 exact ⟨g, hg, this⟩
theorem Same.named {Q Q' : Pgs} (h : Same Q Q') {n : Nd} (nm : namedErr Q n = .nilIface) : namedErr Q' n = .nilIface := named_of fun c hc => by
 obtain ⟨g, hg, hl⟩ := named_kid nm c hc
 obtain ⟨g', hg', hn⟩ := h c g hg
 exact ⟨g', hg', by rw [hn]; exact hl⟩
theorem Same.refl (Q : Pgs) : Same Q Q := fun a g h => ⟨g, h, rfl⟩
theorem Same.trans {A B C : Pgs} (h : Same A B) (k : Same B C) : Same A C := fun a g hg => by
 obtain ⟨g1, e1, n1⟩ := h a g hg
 obtain ⟨g2, e2, n2⟩ := k a g1 e1
 exact ⟨g2, e2, n2.trans n1⟩
inductive Puts (es : List Ent) : Pgs -> List (Int × Nd) -> Pgs -> Prop
 | nil (Q : Pgs) : Puts es Q [] Q
 | cons {Q : Pgs} {a : Int} {n : Nd} {l : List (Int × Nd)} {Q' : Pgs} : Next es Q a -> n.ok = true -> namedErr Q n = .nilIface -> Puts es (put1 Q a n) l Q' -> Puts es Q ((a, n) :: l) Q'
theorem Puts.trans {es : List Ent} {A B C : Pgs} {l m : List (Int × Nd)} (h : Puts es A l B) (k : Puts es B m C) : Puts es A (l ++ m) C := by
 induction h with
 | nil => exact k
 | cons a b c _ ih => exact .cons a b c (ih k)
theorem Puts.snoc {es : List Ent} {A B : Pgs} {l : List (Int × Nd)} (h : Puts es A l B) {a : Int} {n : Nd} (hn : Next es B a) (ok : n.ok = true) (nm : namedErr B n = .nilIface) : Puts es A (l ++ [(a, n)]) (put1 B a n) := h.trans (.cons hn ok nm (.nil _))
theorem Puts.same {es : List Ent} {Q Q' : Pgs} {l : List (Int × Nd)} (h : Puts es Q l Q') : Same Q Q' := by
 induction h with
 | nil => exact .refl _
 | cons a b c _ ih => exact (put1_same a.new).trans ih
theorem Puts.inv {es : List Ent} {Q Q' : Pgs} {l : List (Int × Nd)} (h : Puts es Q l Q') (hI : FInv es Q (fun _ => 0)) : FInv es Q' (fun _ => 0) := by
 induction h with
 | nil => exact hI
 | cons a b c _ ih => exact ih (hI.put a.new b c a.std)
theorem put1_held {Q : Pgs} {a : Int} {n : Nd} (ha : VMap.get a Q = none) (b : Int) : heldOf (put1 Q a n) b = heldOf Q b := by
 unfold heldOf
 rw [get_put1]
 by_cases e : b = a
 ·subst e; rw [if_pos rfl, ha]; rfl
 ·rw [if_neg e]; cases VMap.get b Q <;> rfl
theorem Puts.held {es : List Ent} {Q Q' : Pgs} {l : List (Int × Nd)} (h : Puts es Q l Q') (b : Int) : heldOf Q' b = heldOf Q b := by
 induction h with
 | nil => rfl
 | cons a _ _ _ ih => rw [ih, put1_held a.new]
theorem Puts.fresh {es : List Ent} {Q Q' : Pgs} {l : List (Int × Nd)} (h : Puts es Q l Q') : ∀ p ∈ l, VMap.get p.1 Q = none /\ 2 <= p.1 /\ p.1 < 32768 /\ ∃ g, VMap.get p.1 Q' = some g /\ g.n = p.2 := by
 induction h with
 | nil => intro p hp; cases hp
 | cons hx hb hc h ih =>
  rename_i Q a n l Q'
  intro p hp
  rcases List.mem_cons.1 hp with rfl | hp
  ·obtain ⟨g, hg, hn⟩ := h.same _ _ (put1_new hc hx.new)
   have := hx.std.bd
   exact ⟨hx.new, by omega, by omega, g, hg, hn⟩
  ·obtain ⟨h1, h2, h3, h4⟩ := ih p hp
   refine ⟨?_, h2, h3, h4⟩
   rw [get_put1] at h1
   by_cases e : p.1 = a
   ·rw [if_pos e] at h1; cases h1
   ·rw [if_neg e, Option.map_eq_none_iff] at h1; exact h1
theorem Puts.has {es : List Ent} {Q Q' : Pgs} {l : List (Int × Nd)} (h : Puts es Q l Q') : ∀ a g, VMap.get a Q' = some g -> a ∈ l.map (·.1) \/ ∃ g0, VMap.get a Q = some g0 /\ g0.n = g.n /\ g0.held = g.held /\ g0.holds <= g.holds := by
 induction h with
 | nil => intro a g hg; exact .inr ⟨g, hg, rfl, rfl, Int.le_refl _⟩
 | cons hx hb hc h ih =>
  rename_i Q a n l Q'
  intro x g hg
  rcases ih x g hg with hm | ⟨g0, e0, n0, h0, l0⟩
  ·exact .inl (List.mem_cons_of_mem _ hm)
  ·rw [get_put1] at e0
   by_cases e : x = a
   ·exact .inl (by rw [List.map_cons, e]; exact .head _)
   ·rw [if_neg e] at e0
    obtain ⟨g1, e1, rfl⟩ := Option.map_eq_some_iff.1 e0
    refine .inr ⟨g1, e1, n0, h0, ?_⟩
    simp only at l0
    omega
theorem Puts.loose {es : List Ent} {Q Q' : Pgs} {l : List (Int × Nd)} (h : Puts es Q l Q') (hL : Live Q) : ∀ a g, VMap.get a Q' = some g -> g.holds <= 0 -> a ∈ l.map (·.1) := fun a g hg h0 => by
 rcases h.has a g hg with hm | ⟨g0, e0, _, _, l0⟩
 ·exact hm
 ·have := hL a g0 e0; omega
theorem Puts.len {es : List Ent} {Q Q' : Pgs} {l : List (Int × Nd)} (h : Puts es Q l Q') (hu : VMap.Up Q) (hu' : VMap.Up Q') : Q'.length <= Q.length + l.length := by
 have : Q'.length <= (l.map (·.1) ++ Q.map (·.1)).length := len_in hu' fun a g hg => by
  rcases h.has a g hg with hm | ⟨g0, e0, _⟩
  ·exact List.mem_append_left _ hm
  ·exact List.mem_append_right _ (List.mem_map.2 ⟨(a, g0), get_mem e0, rfl⟩)
 rw [List.length_append, List.length_map, List.length_map] at this
 omega
end Go.Proofs.YtgbgneiciabidaaGreatDoor
