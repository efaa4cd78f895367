/-
  Trees (layer 12): items from a key on, and how many.
-/
import Derived.Test.YtgbgneiciabidaaGreatDoorGs28
import Derived.Test.YtgbgneiciabidaaGreatDoorGs16
namespace Go.Proofs.YtgbgneiciabidaaGreatDoor
open Go Go.RowKit
set_option linter.all false
set_option maxHeartbeats 8000000
theorem root_none {es : List Ent} {Q : Pgs} {D : Int -> Nat} (hI : FInv es Q D) : VMap.get 0 Q = none := by
 cases hg : VMap.get 0 Q with
 | none => rfl
 | some g => have := (hI.adr 0 (by rw [hg]; rfl)).bd; omega
set_option maxRecDepth 100000 in
theorem walk_none {w : World} {l : List Say} {ob lb p bank sp N : Nat} {es : List Ent} {Q : Pgs} {ov : Value} {acc : List KV} {lim : Int} (fr : Int) (h : Has w (btS p bank sp N es Q :: wkL ob lb ov acc lim l)) :
  Calls Tryz.prog 102 #[.pointer (some ⟨p, 0, none⟩), .int .i64 0, .int .i64 fr, items1V ob lb] w (WalkPost ob lb p bank sp N es Q lim acc (fromL fr []) l w) := by
 have H0 := Lib.hid (root_none h.bt_inv.1)
 have HG := Lib.hid (bt_Get h 0 (by omega) (by omega))
 clear h
 unfold items1V
 go_enter Tryz.func102, Tryz.ntmps102
 go_wp2_with fail
 refine HG.out.mono ?_
 rintro r w1 ⟨hK1, (⟨_, rfl, h3⟩ | ⟨g', ak, ck, av, cv, h1, rfl, h3⟩)⟩
 ·have h4 := h3.alloc (.cells #[.int .i64 0, .slice none 0 0, .slice none 0 0] 35)
  have HF : Hid (WalkPost ob lb p bank sp N es Q lim acc (fromL fr []) l w (.returned (.bool true)) (w1.alloc (.cells #[.int .i64 0, .slice none 0 0, .slice none 0 0] 35))) := ⟨hK1.alloc _, rfl, ov, h4.tail⟩
  clear hK1 h3 h4 HG H0
  simp only [nodeZero, errV]
  go_wp2
  go_ret
  exact HF.out
 ·rw [H0.out] at h1; cases h1
theorem walkR {w : World} {l : List Say} {ob lb p bank sp N : Nat} {es : List Ent} {Q : Pgs} {ov : Value} {acc : List KV} {lim : Int} (root fr : Int) {L : List KV} {s : Nat} (h : Has w (btS p bank sp N es Q :: wkL ob lb ov acc lim l)) (hR : Root Q root L s) (hlen : acc.length + L.length <= 100000) :
  Calls Tryz.prog 102 #[.pointer (some ⟨p, 0, none⟩), .int .i64 root, .int .i64 fr, items1V ob lb] w (WalkPost ob lb p bank sp N es Q lim acc (fromL fr L) l w) := by
 rcases hR.it with ⟨rfl, rfl, rfl⟩ | ⟨lv, hT, hs, _⟩
 ·exact walk_none fr h
 ·exact bt_walk lv root fr h hT hs hlen
def itemsL (fr lim : Int) (L : List KV) : List KV := if lim = 0 then [] else (feed lim [] (fromL fr L)).1
def ItemsPost (p bank sp N : Nat) (es : List Ent) (Q : Pgs) (T : List KV) (l : List Say) (w : World) (r : Ending) (w' : World) : Prop :=
 ∃ v, r = .returned v /\ Kept w w' /\ Has w' (pairsS v T :: btS p bank sp N es Q :: l)
set_option maxRecDepth 100000 in
theorem bt_ItemsG {w : World} {l : List Say} {p bank sp N : Nat} {es : List Ent} {Q : Pgs} (root fr lim : Int) {L : List KV} (h : Has w (btS p bank sp N es Q :: l)) (hwk : ∀ {w : World} {l : List Say} {ob lb : Nat} {ov : Value}, Has w (btS p bank sp N es Q :: wkL ob lb ov [] lim l) -> Calls Tryz.prog 102 #[.pointer (some ⟨p, 0, none⟩), .int .i64 root, .int .i64 fr, items1V ob lb] w (WalkPost ob lb p bank sp N es Q lim [] (fromL fr L) l w)) :
  Calls Tryz.prog 42 #[.pointer (some ⟨p, 0, none⟩), .int .i64 root, .int .i64 fr, .int .i64 lim] w (ItemsPost p bank sp N es Q (itemsL fr lim L) l w) := by
 have h1 := (h.alloc (.cells #[.int .i64 lim] 3)).alloc (.cells #[.slice none 0 0] 75)
 have hk1 := ((Kept.refl w).alloc (.cells #[.int .i64 lim] 3)).alloc (.cells #[.slice none 0 0] 75)
 simp only [World.size_alloc] at h1
 have h2 : Has ((w.alloc (.cells #[.int .i64 lim] 3)).alloc (.cells #[.slice none 0 0] 75)) (btS p bank sp N es Q :: wkL (w.heap.size + 1) w.heap.size (.slice none 0 0) [] lim l) := by
  have h3 := h1.row_nil 87 2
  exact h3.reord [3, 1]
 have HW := Lib.hid (hwk h2)
 by_cases h0 : lim = 0
 ·have HF : Hid (ItemsPost p bank sp N es Q (itemsL fr lim L) l w (.returned (.slice none 0 0)) ((w.alloc (.cells #[.int .i64 lim] 3)).alloc (.cells #[.slice none 0 0] 75))) := by
   unfold itemsL
   rw [if_pos h0]
   exact ⟨_, rfl, hk1, h1.tail.tail.row_nil 87 2⟩
  clear h h1 h2 hk1 HW hwk
  subst h0
  go_enter Tryz.func42, Tryz.ntmps42
  go_wp2
  go_ret
  exact HF.out
 ·have hl0 : (lim == 0) = false := by simpa using h0
  have HI : Hid (itemsL fr lim L = (feed lim [] (fromL fr L)).1) := by unfold itemsL; exact if_neg h0
  have HK := Lib.hid hk1
  clear h h1 h2 hk1 hwk h0
  unfold items1V at HW
  go_enter Tryz.func42, Tryz.ntmps42
  go_wp2_with fail
  refine HW.out.mono ?_
  rintro r w3 ⟨hK3, rfl, ov, h5⟩
  have hg := h5.at (b := w.heap.size + 1) (o := .cells #[ov] 75 (0, 0)) (by simp [wkL])
  have c0 : w3.cell? ⟨w.heap.size + 1, 0, none⟩ = some ov := cell_of hg 0 rfl
  have l1 := World.block_lt_of_cell? _ _ c0
  have HF : Hid (ItemsPost p bank sp N es Q (itemsL fr lim L) l w (.returned ov) w3) := by
   rw [HI.out]
   have h6 : Has w3 (pairsS ov (feed lim [] (fromL fr L)).1 :: btS p bank sp N es Q :: pts (w.heap.size + 1) (.cells #[ov] 75 (0, 0)) :: boxS w.heap.size lim :: l) := h5.reord [2]
   exact ⟨ov, rfl, HK.out.trans hK3, Has.skip (A := [_, _]) (M := [_, _]) h6⟩
  obtain ⟨va, vc, rfl, hx⟩ := h5.row_val (v := ov) (.tail _ (.tail _ (.head _)))
  clear hx hg h5 hK3 HW HI HK
  go_wp2
  go_ret
  exact HF.out
theorem bt_Items {w : World} {l : List Say} {p bank sp N : Nat} {es : List Ent} {Q : Pgs} (root fr lim : Int) {L : List KV} {s : Nat} (h : Has w (btS p bank sp N es Q :: l)) (hR : Root Q root L s) (hlen : L.length <= 100000) :
  Calls Tryz.prog 42 #[.pointer (some ⟨p, 0, none⟩), .int .i64 root, .int .i64 fr, .int .i64 lim] w (ItemsPost p bank sp N es Q (itemsL fr lim L) l w) :=
 bt_ItemsG root fr lim h fun h => walkR root fr h hR (by simpa using hlen)
theorem bt_ItemsT {w : World} {l : List Say} {p bank sp N : Nat} {es : List Ent} {Q : Pgs} (root fr lim : Int) {L : List KV} {lv s : Nat} (h : Has w (btS p bank sp N es Q :: l)) (hT : Tr Q lv root L s) (hs : Srt L) (hlen : L.length <= 100000) :
  Calls Tryz.prog 42 #[.pointer (some ⟨p, 0, none⟩), .int .i64 root, .int .i64 fr, .int .i64 lim] w (ItemsPost p bank sp N es Q (itemsL fr lim L) l w) :=
 bt_ItemsG root fr lim h fun h => bt_walk lv root fr h hT hs (by simpa using hlen)
theorem items_all {L : List KV} (h : ∀ p ∈ L, 0 <= p.1) : itemsL 0 (-1) L = L := by
 unfold itemsL
 rw [if_neg (by decide), feed_all (by decide)]
 unfold fromL
 rw [List.filter_eq_self.2 (fun p hp => by simpa using h p hp)]
 rfl
theorem Tr.pos {es : List Ent} {Q : Pgs} {D : Int -> Nat} (hI : FInv es Q D) {lv : Nat} {a : Int} {L : List KV} {s : Nat} (h : Tr Q lv a L s) : ∀ p ∈ L, 0 <= p.1 := fun p hp => by
 have := h.right hI p hp
 unfold pairOk at this
 simp only [Bool.and_eq_true, decide_eq_true_eq] at this
 omega
theorem Root.pos {es : List Ent} {Q : Pgs} {D : Int -> Nat} (hI : FInv es Q D) {a : Int} {L : List KV} {s : Nat} (h : Root Q a L s) : ∀ p ∈ L, 0 <= p.1 := by
 rcases h.it with ⟨_, rfl, _⟩ | ⟨lv, hT, _, _⟩
 ·intro p hp; cases hp
 ·exact hT.pos hI
set_option maxRecDepth 100000 in
theorem bt_Count {w : World} {l : List Say} {p bank sp N : Nat} {es : List Ent} {Q : Pgs} (root : Int) {L : List KV} {s : Nat} (h : Has w (btS p bank sp N es Q :: l)) (hR : Root Q root L s) (hlen : L.length <= 100000) :
  Calls Tryz.prog 43 #[.pointer (some ⟨p, 0, none⟩), .int .i64 root] w (fun r w' => r = .returned (.int .i64 L.length) /\ Kept w w' /\ Has w' (btS p bank sp N es Q :: l)) := by
 have hI := h.bt_inv.1
 have hit := bt_Items root 0 (-1) h hR hlen
 rw [items_all (hR.pos hI)] at hit
 have HI := Lib.hid hit
 clear h hR hlen hI hit
 go_enter Tryz.func43, Tryz.ntmps43
 go_wp2_with fail
 refine HI.out.mono ?_
 rintro r w1 ⟨v, rfl, hK, h1⟩
 obtain ⟨va, vc, rfl, hx⟩ := h1.row_val (v := v) (.head _)
 have HF : Hid (Kept w w1 /\ Has w1 (btS p bank sp N es Q :: l)) := ⟨hK, h1.tail⟩
 clear hx hK h1 HI
 go_wp2
 go_ret
 exact ⟨rfl, HF.out⟩
/-
  Trees (layer 12): is it a right tree (Check)?
-/
def CkPost (p bank sp N : Nat) (es : List Ent) (Q : Pgs) (l : List Say) (w : World) (r : Ending) (w' : World) : Prop :=
 r = .returned .nilIface /\ Kept w w' /\ Has w' (btS p bank sp N es Q :: l)
def CkC (lv : Nat) : Prop := ∀ {w : World} {l : List Say} {p bank sp N : Nat} {es : List Ent} {Q : Pgs} (addr : Int) {L : List KV} {s : Nat},
 Has w (btS p bank sp N es Q :: l) -> Tr Q lv addr L s -> Srt L -> L.length <= 100000 -> Calls Tryz.prog 45 #[.pointer (some ⟨p, 0, none⟩), .int .i64 addr] w (CkPost p bank sp N es Q l w)
theorem TrG.nextH {T : Int -> List KV -> Nat -> Prop} {ps L LA LB : List KV} {sA sB : Nat} {i : Nat} {p : KV} (hp : ps[i]? = some p) (hA : TrG T (ps.take i) LA sA) (hB : TrG T (ps.drop i) LB sB) (hL : L = LA ++ LB) (hs : Srt L) :
  ∃ LM sM LC sC, T p.2 LM sM /\ Srt LM /\ (LM.map (·.1)).head? = some p.1 /\ LB = LM ++ LC /\ TrG T (ps.take (i + 1)) (LA ++ LM) (sA + sM) /\ TrG T (ps.drop (i + 1)) LC sC /\ ∀ q, ps[i + 1]? = some q -> ∀ x ∈ LM, x.1 < q.1 := by
 obtain ⟨hlt, e⟩ := List.getElem?_eq_some_iff.1 hp
 rw [List.drop_eq_getElem_cons hlt, e] at hB
 obtain ⟨LM, LC, sM, sC, q1, q2, q3, rfl, rfl⟩ := hB.one
 subst hL
 refine ⟨LM, sM, LC, sC, q1, hs.right.left, q2, rfl, ?_, q3, fun q hq x hx => ?_⟩
 ·rw [(take_succ hp).1]
  exact hA.app (TrG.single (k := p.1) q1 q2)
 ·obtain ⟨hlt2, e2⟩ := List.getElem?_eq_some_iff.1 hq
  rw [List.drop_eq_getElem_cons hlt2, e2] at q3
  obtain ⟨y, hy, hyk⟩ := head_mem (TrG.head q3)
  have := hs.right.lt hx hy
  omega
def CkM (lv : Nat) (ps : List KV) (k : Nat) (last : Int) (w : World) (p bank sp N : Nat) (es : List Ent) (Q : Pgs) (L : List KV) (M : List Say) (wr : World) : Prop :=
 ∃ LA LB sA sB, TrL Q lv (ps.take k) LA sA /\ TrL Q lv (ps.drop k) LB sB /\ L = LA ++ LB /\ (∀ q, ps[k]? = some q -> last < q.1) /\ Kept w wr /\ Has wr (btS p bank sp N es Q :: M)
set_option maxRecDepth 100000 in
theorem check0 : CkC 0 := by
 intro w l p bank sp N es Q addr L s h hT hs hlen
 obtain ⟨hI, _⟩ := h.bt_inv
 obtain ⟨g, hg, hlv, rfl, rfl⟩ := hT
 have hbd := (hI.adr addr (by rw [hg]; rfl)).bd
 have HG := Lib.hid (bt_Get h addr (by omega) (by omega))
 have Hg := Lib.hid hg
 have han : (addr == 0) = false := by simp; omega
 clear h hg hI hs hlen hbd
 obtain ⟨⟨lvI, keys, vals⟩, ho, he⟩ := g
 have hlv : lvI = 0 := hlv
 subst hlv
 go_enter Tryz.func45, Tryz.ntmps45
 go_wp2_with fail
 refine HG.out.mono ?_
 rintro r w1 ⟨hK1, (⟨h1, _⟩ | ⟨g', ak, ck, av, cv, h1, rfl, h3⟩)⟩
 ·rw [Hg.out] at h1; cases h1
 rw [Hg.out] at h1
 obtain rfl := Option.some.inj h1
 simp only [Nd.val]
 have h4 := h3.alloc (.cells #[.int .i64 0, .slice ak keys.length ck, .slice av vals.length cv] 35)
 have HF : Hid (CkPost p bank sp N es Q l w (.returned .nilIface) (w1.alloc (.cells #[.int .i64 0, .slice ak keys.length ck, .slice av vals.length cv] 35))) := ⟨rfl, hK1.alloc _, h4.tail.tail.tail⟩
 clear h1 HG h3 h4 hK1 Hg
 go_wp2
 go_ret
 exact HF.out
set_option maxRecDepth 100000 in
theorem checkS (lv : Nat) (ih : CkC lv) : CkC (lv + 1) := by
 intro w l p bank sp N es Q addr L s h hT hs hlen
 obtain ⟨hI, _⟩ := h.bt_inv
 have Hpos := Lib.hid (Tr.pos hI hT)
 obtain ⟨g, S, hg, hlv, hR, hsw⟩ := hT
 clear hsw
 obtain ⟨ok, _, _⟩ := hI.pg addr g hg
 have hbd := (hI.adr addr (by rw [hg]; rfl)).bd
 obtain ⟨o0, o1, o2, o3, o4⟩ := ok_lens ok
 have hpn := ok_pairs ok
 have HG := Lib.hid (bt_Get h addr (by omega) (by omega))
 have Hg := Lib.hid hg
 have HX := Lib.hid (And.intro hlen (And.intro hpn (And.intro o2 (And.intro o3 o4))))
 have HR := Lib.hid (And.intro hR hs)
 have Ih : Hid (CkC lv) := ih
 have hg' := hg
 clear h hg hs hlen ok o0 o1 o2 o3 o4 hpn hR ih
 obtain ⟨⟨lvI, keys, vals⟩, ho, he⟩ := g
 have hlvp : 0 < lvI := by have : lvI = ((lv + 1 : Nat) : Int) := hlv; omega
 have hlvq : lvI <= 20 := (hI.lv hg').2
 have Hlv : Hid (lvI = ((lv + 1 : Nat) : Int)) := hlv
 have hl0 : (lvI == 0) = false := by simp; omega
 have han : (addr == 0) = false := by simp; omega
 clear hlv hI hg' hbd
 go_enter Tryz.func45, Tryz.ntmps45
 go_wp2_with fail
 refine HG.out.mono ?_
 rintro r w1 ⟨hK1, (⟨h1, _⟩ | ⟨g', ak, ck, av, cv, h1, rfl, h3⟩)⟩
 ·rw [Hg.out] at h1; cases h1
 rw [Hg.out] at h1
 obtain rfl := Option.some.inj h1
 clear h1 HG
 simp only [Nd.val]
 have hx := HX.out
 obtain ⟨hlen, hpn, o2, o3, o4⟩ := hx
 try simp only at o2 o3 o4
 obtain ⟨ka, kc, e1, _, hrk⟩ := h3.ints_read (v := .slice ak keys.length ck) (xs := keys) (by simp)
 injection e1 with e1 e2 e3
 subst e1
 clear e2 e3
 obtain ⟨gk, rfl, kc0, _⟩ := hrk 0 (by omega)
 obtain ⟨va, vc, e1, _, hrv⟩ := h3.ints_read (v := .slice av vals.length cv) (xs := vals) (by simp)
 injection e1 with e1 e2 e3
 subst e1
 clear e2 e3
 obtain ⟨gv, rfl, vc0, _⟩ := hrv 0 (by omega)
 clear hrk hrv kc0 vc0
 have h4 := h3.alloc (.cells #[.int .i64 lvI, .slice (some ⟨gk, 0, none⟩) keys.length ck, .slice (some ⟨gv, 0, none⟩) vals.length cv] 35)
 have hk4 := hK1.alloc (.cells #[.int .i64 lvI, .slice (some ⟨gk, 0, none⟩) keys.length ck, .slice (some ⟨gv, 0, none⟩) vals.length cv] 35)
 have hM : CkM lv (⟨lvI, keys, vals⟩ : Nd).pairs 0 (-1) w p bank sp N es Q L (pts w1.heap.size (.cells #[.int .i64 lvI, .slice (some ⟨gk, 0, none⟩) keys.length ck, .slice (some ⟨gv, 0, none⟩) vals.length cv] 35 (0, 0)) :: intsS (.slice (some ⟨gk, 0, none⟩) keys.length ck) keys :: intsS (.slice (some ⟨gv, 0, none⟩) vals.length cv) vals :: l) (w1.alloc (.cells #[.int .i64 lvI, .slice (some ⟨gk, 0, none⟩) keys.length ck, .slice (some ⟨gv, 0, none⟩) vals.length cv] 35)) :=
  ⟨[], L, 0, S, .nil, HR.out.1, rfl, fun q hq => by have := (TrG.keys HR.out.1 q (List.mem_of_getElem? hq)); obtain ⟨x, hx, e⟩ := this; have := Hpos.out x hx; omega, hk4, h4.reord [3]⟩
 have HM := Lib.hid hM
 clear h3 h4 hK1 hk4 hM hlen hpn
 obtain ⟨n, hn⟩ : ∃ n, keys.length = n := ⟨_, rfl⟩
 have hvn : vals.length = n := by omega
 have Hn := Lib.hid (And.intro hn hvn)
 have hn7 : n <= 7 := by omega
 have n0 : (w1.alloc (.cells #[.int .i64 lvI, .slice (some ⟨gk, 0, none⟩) n ck, .slice (some ⟨gv, 0, none⟩) n cv] 35)).cell? ⟨w1.heap.size, 1, none⟩ = some (.slice (some ⟨gk, 0, none⟩) n ck) := by simp [World.cell?_alloc_new]
 rw [hn, hvn] at HM ⊢
 clear hn hvn o2 o3 o4
 go_wp2
 generalize w1.alloc (.cells #[.int .i64 lvI, .slice (some ⟨gk, 0, none⟩) n ck, .slice (some ⟨gv, 0, none⟩) n cv] 35) = W2 at *
 generalize w1.heap.size = r9 at *
 obtain ⟨M, hMl⟩ : ∃ M, (pts r9 (.cells #[.int .i64 lvI, .slice (some ⟨gk, 0, none⟩) n ck, .slice (some ⟨gv, 0, none⟩) n cv] 35 (0, 0)) :: intsS (.slice (some ⟨gk, 0, none⟩) n ck) keys :: intsS (.slice (some ⟨gv, 0, none⟩) n cv) vals :: l) = M := ⟨_, rfl⟩
 rw [hMl] at HM
 have HMl := Lib.hid hMl
 obtain ⟨ps, hps⟩ : ∃ ps, (⟨lvI, keys, vals⟩ : Nd).pairs = ps := ⟨_, rfl⟩
 have Hps := Lib.hid hps
 rw [hps] at HM
 have HpsL : Hid (ps.length = n) := by
  have q1 := HX.out.2.1.2.2
  rw [hps] at q1
  have q2 := Hn.out.1
  have q3 : ps.length = keys.length := q1
  show _ = _
  omega
 clear hMl hps n0
 go_loopg [7, 31] n (fun gk' lst i wr => ∃ (k : Nat) (last : Int), k <= n /\ gk' = n - k /\ lst = .int .i64 last /\ i = .int .i64 k /\ Hid (CkM lv ps k last w p bank sp N es Q L M wr))
 case atStart => exact ⟨0, -1, Nat.zero_le _, rfl, rfl, rfl, HM⟩
 case round =>
  clear HM
  obtain ⟨k, last, hk, rfl, rfl, rfl, HM⟩ := hrel
  obtain ⟨LA, LB, sA, sB, hA, hB, hL, hlk, hK, hh⟩ := HM.out
  clear HM
  by_cases hlt : k < n
  ·have hMm : ∀ {X : List Say} A, A ∈ M -> A ∈ X ++ M := fun A hA => List.mem_append_right _ hA
   have hmN : pts r9 (.cells #[.int .i64 lvI, .slice (some ⟨gk, 0, none⟩) n ck, .slice (some ⟨gv, 0, none⟩) n cv] 35 (0, 0)) ∈ M := by rw [<- HMl.out]; simp
   have hmK : intsS (.slice (some ⟨gk, 0, none⟩) n ck) keys ∈ M := by rw [<- HMl.out]; simp
   have hmV : intsS (.slice (some ⟨gv, 0, none⟩) n cv) vals ∈ M := by rw [<- HMl.out]; simp
   have hpk : ps[k]? = some (keys[k]'(by have := Hn.out.1; omega), vals[k]'(by have := Hn.out.2; omega)) := by
    rw [<- Hps.out]
    unfold Nd.pairs
    rw [List.getElem?_zip_eq_some]
    exact ⟨List.getElem?_eq_getElem _, List.getElem?_eq_getElem _⟩
   obtain ⟨kk, hkk⟩ : ∃ kk, keys[k]'(by have := Hn.out.1; omega) = kk := ⟨_, rfl⟩
   obtain ⟨vv, hvv⟩ : ∃ vv, vals[k]'(by have := Hn.out.2; omega) = vv := ⟨_, rfl⟩
   rw [hkk, hvv] at hpk
   have facts : ∀ {W : World} {l : List Say}, Has W l -> (∀ A ∈ M, A ∈ l) -> W.cell? ⟨r9, 0, none⟩ = some (.int .i64 lvI) /\ W.cell? ⟨r9, 2, none⟩ = some (.slice (some ⟨gv, 0, none⟩) n cv) /\ W.cell? ⟨gk, k, none⟩ = some (.int .i64 kk) /\ W.cell? ⟨gv, k, none⟩ = some (.int .i64 vv) /\ r9 < W.heap.size /\ gv < W.heap.size := fun {W l} h hm => by
    have hg9 := h.at (hm _ hmN)
    obtain ⟨ka, kc', e1, _, hrk⟩ := h.ints_read (hm _ hmK)
    injection e1 with e1 e2 e3
    subst e1
    obtain ⟨g1, eg, kc, _⟩ := hrk k (by have := Hn.out.1; omega)
    injection eg with eg
    injection eg with eg _ _
    subst eg
    obtain ⟨va, vc', e1, _, hrv⟩ := h.ints_read (hm _ hmV)
    injection e1 with e1 e2 e3
    subst e1
    obtain ⟨g2, eg, vc, _⟩ := hrv k (by have := Hn.out.2; omega)
    injection eg with eg
    injection eg with eg _ _
    subst eg
    have m0 : W.cell? ⟨r9, 0, none⟩ = some (.int .i64 lvI) := cell_of hg9 0 rfl
    exact ⟨m0, cell_of hg9 2 rfl, by rw [<- hkk]; exact kc, by rw [<- hvv]; exact vc, World.block_lt_of_cell? _ _ m0, World.block_lt_of_cell? _ _ vc⟩
   obtain ⟨LM, sM, LC, sC, q1, q2, qh, q3, q4, q5, q6⟩ := TrG.nextH hpk hA hB hL HR.out.2
   have hLL : L = (LA ++ LM) ++ LC := by rw [hL, q3, List.append_assoc]
   have hln : LM.length <= 100000 := by
    have q4 := HX.out.1
    rw [hLL, List.length_append, List.length_append] at q4
    omega
   have hlast := hlk _ hpk
   simp only at hlast
   have HIh := Lib.hid (Ih.out vv hh q1 q2 hln)
   have Hfacts : Hid (∀ {W : World} {l : List Say}, Has W l -> (∀ A ∈ M, A ∈ l) -> W.cell? ⟨r9, 0, none⟩ = some (.int .i64 lvI) /\ W.cell? ⟨r9, 2, none⟩ = some (.slice (some ⟨gv, 0, none⟩) n cv) /\ W.cell? ⟨gk, k, none⟩ = some (.int .i64 kk) /\ W.cell? ⟨gv, k, none⟩ = some (.int .i64 vv) /\ r9 < W.heap.size /\ gv < W.heap.size) := facts
   obtain ⟨m0, m2, kc, vc, l9, lgv⟩ := facts hh (fun A hA => .tail _ hA)
   have lgk := World.block_lt_of_cell? _ _ kc
   have HT := Lib.hid (And.intro q1 (And.intro q2 (And.intro qh (And.intro q4 (And.intro q5 (And.intro q6 (And.intro hLL hln)))))))
   have HK := Lib.hid hK
   have kI : (k : Int) < (n : Int) := by omega
   have k0 : (0 : Int) <= k := by omega
   have n7I : (n : Int) <= 7 := by omega
   clear hh hK hpk hmN hmK hmV hMm facts q1 q2 qh q3 q4 q5 q6 hLL hA hB hL hlk hkk hvv hln
   go_wp2_with fail
   refine HIh.out.mono ?_
   rintro r w3 ⟨rfl, hK3, h3⟩
   clear m0 m2 kc vc l9 lgv lgk HIh
   obtain ⟨m0, m2, kc, vc, l9, lgv⟩ := Hfacts.out h3 (fun A hA => .tail _ hA)
   obtain ⟨g2, hg2, hl2⟩ := HT.out.1.get
   obtain ⟨hI3, _⟩ := h3.bt_inv
   have hbd2 := (hI3.adr vv (by rw [hg2]; rfl)).bd
   have HG2 := Lib.hid (bt_Get h3 vv (by omega) (by omega))
   have Hpos2 := Lib.hid (Tr.pos hI3 HT.out.1)
   have Hg2 := Lib.hid (And.intro hg2 hl2)
   have HK3 := Lib.hid (HK.out.trans hK3)
   clear h3 hg2 hl2 hI3 hbd2 hK3 HK
   go_wp2_with fail
   refine HG2.out.mono ?_
   rintro r w4 ⟨hK4, (⟨h1, _⟩ | ⟨g', ak2, ck2, av2, cv2, h1, rfl, h4⟩)⟩
   ·rw [Hg2.out.1] at h1; cases h1
   rw [Hg2.out.1] at h1
   obtain rfl := Option.some.inj h1
   clear h1 HG2 m0 m2 kc vc l9 lgv
   obtain ⟨⟨lv2, keys2, vals2⟩, ho2, he2⟩ := g2
   have hlv2 : lv2 = lvI - 1 := by
    have q1 : lv2 = (lv : Int) := Hg2.out.2
    have q2 := Hlv.out
    omega
   subst hlv2
   simp only [Nd.val]
   have h5 := h4.alloc (.cells #[.int .i64 (lvI - 1), .slice ak2 keys2.length ck2, .slice av2 vals2.length cv2] 35)
   have hk5 := hK4.alloc (.cells #[.int .i64 (lvI - 1), .slice ak2 keys2.length ck2, .slice av2 vals2.length cv2] 35)
   obtain ⟨m0, m2, kc, vc, l9, lgv⟩ := Hfacts.out h5 (fun A hA => .tail _ (.tail _ (.tail _ (.tail _ hA))))
   have h6 := h5.reord [3]
   simp only [reord, pull] at h6
   have hit := bt_ItemsT vv 0 (-1) h6 HT.out.1 HT.out.2.1 HT.out.2.2.2.2.2.2.2
   rw [items_all Hpos2.out] at hit
   have HIt := Lib.hid hit
   have HK5 := Lib.hid (HK3.out.trans hk5)
   clear h4 h5 h6 hK4 hk5 hit HK3 Hpos2 Hg2
   go_wp2_with fail
   refine HIt.out.mono ?_
   rintro r w6 ⟨v6, rfl, hK6, h7⟩
   generalize w4.heap.size = r11 at *
   clear m0 m2 kc vc l9 lgv HIt
   obtain ⟨m0, m2, kc, vc, l9, lgv⟩ := Hfacts.out h7 (fun A hA => .tail _ (.tail _ (.tail _ (.tail _ (.tail _ hA)))))
   have hg11 := h7.at (b := r11) (o := .cells #[.int .i64 (lvI - 1), .slice ak2 keys2.length ck2, .slice av2 vals2.length cv2] 35 (0, 0)) (by simp)
   have y0 : w6.cell? ⟨r11, 0, none⟩ = some (.int .i64 (lvI - 1)) := cell_of hg11 0 rfl
   have l11 := World.block_lt_of_cell? _ _ y0
   obtain ⟨k1, hk1⟩ : ∃ k1, k1 = k + 1 := ⟨_, rfl⟩
   obtain ⟨a6, c6, rfl, _, hrp⟩ := h7.pairs_read (v := v6) (ps := LM) (.head _)
   obtain ⟨mm, hmm⟩ : ∃ mm, LM.length = mm + 1 := by
    have := HT.out.2.2.1
    cases LM with
    | nil => simp at this
    | cons x T => exact ⟨T.length, rfl⟩
   obtain ⟨x0, hx0⟩ : ∃ x, LM[0]? = some x := ⟨_, List.getElem?_eq_getElem (by omega)⟩
   obtain ⟨x1, hx1⟩ : ∃ x, LM[mm]? = some x := ⟨_, List.getElem?_eq_getElem (by omega)⟩
   obtain ⟨g6, rfl, d0, _⟩ := hrp 0 x0 hx0
   obtain ⟨g7, eg, d1, _⟩ := hrp mm x1 hx1
   injection eg with eg
   injection eg with eg _ _
   subst eg
   have hx0k : x0.1 = kk := by
    have := HT.out.2.2.1
    cases LM with
    | nil => simp at this
    | cons x T =>
     simp at this hx0
     rw [<- hx0]
     exact this
   rw [hx0k, Nat.zero_mul] at d0
   have ld := World.block_lt_of_cell? _ _ d0
   have HM2 : Hid (CkM lv ps k1 x1.1 w p bank sp N es Q L M w6) := by
    rw [hk1]
    obtain ⟨_, _, _, q4, q5, q6, hLL, _⟩ := HT.out
    exact ⟨_, _, _, _, q4, q5, hLL, fun q hq => q6 q hq x1 (List.mem_of_getElem? hx1), HK5.out.trans hK6, Has.skip (A := [_]) (M := [_, _, _]) h7.tail⟩
   have Hk1 := Lib.hid hk1
   have hkI : (k : Int) + 1 = (k1 : Int) := by omega
   have hmm7 : mm <= 100000 := by have := HT.out.2.2.2.2.2.2.2; omega
   have hmI : ((mm + 1 : Nat) : Int) - 1 = (mm : Int) := by omega
   obtain ⟨x1k, x1v⟩ := x1
   simp only at d1 HM2
   rw [hmm]
   clear h7 hK6 HK5 HT hrp hx0 hx1 hx0k hg11 hmm hk1
   have hm0 : ((mm : Int) + 1 == 0) = false := by simp; omega
   have hkl : decide (kk <= last) = false := by simp; omega
   go_wp2
   go_roundg (n - k1)
   case measure => have := Hk1.out; omega
   case rel => exact ⟨k1, x1k, by have := Hk1.out; omega, rfl, rfl, rfl, HM2⟩
  ·have hke : k = n := by omega
   have HF : Hid (CkPost p bank sp N es Q l w (.returned .nilIface) wr) := by
    rw [<- HMl.out] at hh
    exact ⟨rfl, hK, Has.skip (A := [_]) (M := [_, _, _]) hh⟩
   clear hh hK hA hB hL hlk HX HR
   subst hke
   go_wp2
   go_ret
   exact HF.out
theorem bt_check : ∀ lv, CkC lv
 | 0 => check0
 | lv + 1 => checkS lv (bt_check lv)
/-
  The statements of layer 12: made.
-/
def sizesT (zs : List Int) : Bool := decide (1 <= zs.length) && decide (zs.length <= 4) && zs.all fun z => decide (3 <= z) && decide (z <= 4096)
def MadeTM (w : World) (l : List Say) (zs : List Int) (r4 bank k : Nat) (wr : World) : Prop :=
 ∃ rv, Kept w wr /\ Has wr (pts r4 (.cells #[rv] 58 (0, 0)) :: entS rv (eSizes (zs.take k)) :: bankS 0 bank (dSizes (zs.take k)) :: l)
def treesS (t sp p : Nat) : Say := pts t (.cells #[.pointer (some ⟨sp, 0, none⟩), .pointer (some ⟨p, 0, none⟩), .int .i64 0, .int .i64 0, .int .i64 0, .int .i64 0, .slice none 0 0, .slice none 0 0, .slice none 0 0, .slice none 0 0] 70 (0, 0))
def MadeTPost (zs : List Int) (l : List Say) (w : World) (r : Ending) (w' : World) : Prop :=
 ∃ t sp p bank, r = .returned (.pointer (some ⟨t, 0, none⟩)) /\ Kept w w' /\ Has w' (treesS t sp p :: btS p bank sp 0 (eSizes zs) [] :: l)
theorem sizesT_at {zs : List Int} (h : sizesT zs = true) {k : Nat} (hk : k < zs.length) : ∃ n : Nat, zs[k] = (n : Int) /\ 3 <= n /\ n <= 4096 := by
 simp only [sizesT, Bool.and_eq_true, List.all_eq_true, decide_eq_true_eq] at h
 have := h.2 _ (List.getElem_mem hk)
 exact ⟨zs[k].toNat, by omega, by omega, by omega⟩
theorem sizesT_ok {zs : List Int} (h : sizesT zs = true) : OkEnts (eSizes zs) := by
 have h' := h
 simp only [sizesT, Bool.and_eq_true, List.all_eq_true, decide_eq_true_eq] at h'
 refine ⟨by simp [eSizes]; omega, fun e he => ?_⟩
 obtain ⟨z, hz, rfl⟩ := List.mem_map.1 he
 have := h'.2 z hz
 exact ⟨by show z.toNat <= 4096; omega, .inl ⟨.inl rfl, by show 2 < z.toNat; omega⟩⟩
theorem fresh_roomT {zs : List Int} (h : sizesT zs = true) : Room (eSizes zs) [] (dSizes zs) (freshSpc (eSizes zs)) := by
 have h' := h
 simp only [sizesT, Bool.and_eq_true, List.all_eq_true, decide_eq_true_eq] at h'
 refine ⟨?_, XIs.fresh _, fun d y hy k => ?_, by simp [eSizes]; omega, fun e he => ?_⟩
 ·have := fits_fresh (zs.map Int.toNat) fun n hn => by
   obtain ⟨z, hz, rfl⟩ := List.mem_map.1 hn
   have := h'.2 z hz
   omega
  rw [List.map_map, List.map_map] at this
  exact this
 ·simp only [freshSpc, List.getElem?_map, Option.map_eq_some_iff] at hy
  obtain ⟨e, _, rfl⟩ := hy
  rfl
 ·obtain ⟨z, hz, rfl⟩ := List.mem_map.1 he
  have := h'.2 z hz
  show z.toNat <= 4096
  omega
theorem FInv.empty (es : List Ent) : FInv es [] (fun _ => 0) := by
 refine ⟨List.Pairwise.nil, fun a g h => ?_, fun a g h => ?_, fun a h => ?_, fun a h => ?_⟩
 ·cases h
 ·cases h
 ·exact absurd h (Nat.lt_irrefl 0)
 ·cases h
theorem sizesT_ne {zs : List Int} (h : sizesT zs = true) : eSizes zs ≠ [] := fun e => by
 have h' := h
 simp only [sizesT, Bool.and_eq_true, List.all_eq_true, decide_eq_true_eq] at h'
 have := congrArg List.length e
 simp [eSizes] at this
 rw [this] at h'
 simp at h'
set_option maxRecDepth 100000 in
theorem made12 {w : World} {l : List Say} (zs : List Int) {zv : Value} (h : Has w l) (hz : Srcs l zv zs) (hok : sizesT zs = true) :
  Calls Tryz.prog 36 #[zv] w (MadeTPost zs l w) := by
 obtain ⟨a, c, rfl, _⟩ := (hz w h).rd
 have HBN := Lib.hid (bank_New h)
 have HZ := Lib.hid hz
 clear h hz
 go_enter Tryz.func36, Tryz.ntmps36
 go_wp2_with fail
 refine HBN.out.mono ?_
 rintro r w2 ⟨bank, rfl, hK2, h2⟩
 have h3 := h2.alloc (.cells #[.slice none 0 0] 58)
 have hk3 := hK2.alloc (.cells #[.slice none 0 0] 58)
 have HM0 : Hid (MadeTM w l zs w2.heap.size bank 0 (w2.alloc (.cells #[.slice none 0 0] 58))) :=
  ⟨.slice none 0 0, hk3, ((h3.row_nil 139 2).swap)⟩
 clear h2 h3 hK2 hk3 HBN
 simp only [ptrV]
 go_wp2
 generalize w2.heap.size = r4 at *
 have H4l : Hid (zs.length <= 4) := by
  simp only [sizesT, Bool.and_eq_true, decide_eq_true_eq] at hok
  exact hok.1.2
 obtain ⟨m, hm⟩ : ∃ m, zs.length = m := ⟨_, rfl⟩
 rw [hm] at H4l ⊢
 have Hm := Lib.hid hm
 have Hok := Lib.hid hok
 clear hm hok
 go_loopg [14] m (fun gk i wr => ∃ k : Nat, k <= m /\ gk = m - k /\ i = .int .i64 k /\ Hid (MadeTM w l zs r4 bank k wr))
 case atStart => exact ⟨0, Nat.zero_le _, rfl, rfl, HM0⟩
 case round =>
  clear HM0
  obtain ⟨k, hk, rfl, rfl, HM⟩ := hrel
  obtain ⟨rv, hK, hh⟩ := HM.out
  clear HM
  by_cases hlt : k < m
  ·obtain ⟨a', c', hv', hrd⟩ := (HZ.out wr hh.tail.tail.tail).rd
   injection hv' with j1 j2 j3
   subst j1 j3
   obtain ⟨gb, go, rfl, hc⟩ := hrd k (by have := Hm.out; omega)
   have lz := World.block_lt_of_cell? _ _ hc
   have hltz : k < zs.length := by have := Hm.out; omega
   obtain ⟨n, hzn, n3, n4⟩ := sizesT_at Hok.out hltz
   have HEs : Hid (eSizes (zs.take (k + 1)) = eSizes (zs.take k) ++ [⟨1, n⟩]) := by show _ = _; rw [take_snoc1 _ _ hltz, eSizes, List.map_append, hzn]; simp [eSizes]
   have HDs : Hid (dSizes (zs.take (k + 1)) = dSizes (zs.take k) ++ [List.replicate n zeros]) := by show _ = _; rw [take_snoc1 _ _ hltz, dSizes, List.map_append, hzn]; simp [dSizes]
   have hLe : (eSizes (zs.take k)).length = k := by simp [eSizes]; omega
   have hXl : (dSizes (zs.take k)).length < 8 := by have := H4l.out; simp [dSizes]; omega
   have HBA := Lib.hid (bank_Add (hh.pull 2) n (by omega) (by omega) hXl)
   have HK := Lib.hid hK
   rw [hzn] at hc
   have kI : (k : Int) < (m : Int) := by omega
   have k0 : (0 : Int) <= k := by omega
   have HLe := Lib.hid hLe
   have k4 : k < 4 := by have := H4l.out; omega
   clear hh hK hrd hzn hXl hLe hltz
   generalize eSizes (zs.take k) = es at *
   generalize dSizes (zs.take k) = X at *
   go_wp2_with fail
   refine HBA.out.mono ?_
   rintro r w3 ⟨rfl, hK3, h3⟩
   have h3r : Has w3 (pts r4 (.cells #[rv] 58 (0, 0)) :: entS rv es :: bankS 0 bank (X ++ [List.replicate n zeros]) :: l) := h3.reord [1, 1]
   obtain ⟨a5, c5, rfl, hx⟩ := h3r.row_val (e := 139) (size := 2) (v := rv) (n := es.length) (xs := es.flatMap Ent.cells) (by simp [entS])
   clear hx
   have r50 : w3.cell? ⟨r4, 0, none⟩ = some (.slice a5 es.length c5) := cell_of h3r.got 0 rfl
   have l5 := World.block_lt_of_cell? _ _ r50
   have hA := h3r.alloc (.cells #[.int .i64 1, .int .i64 (n : Int)] 139)
   have hsrc : ∀ j u, ([Value.int .i64 1, Value.int .i64 (n : Int)])[j]? = some u -> (w3.alloc (.cells #[.int .i64 1, .int .i64 (n : Int)] 139)).cell? ((⟨w3.heap.size, 0, none⟩ : Addr).add j) = some u := fun j u hu => by
    rw [Addr.add_lit, Nat.zero_add]
    exact cell_of hA.got j (by simpa using hu)
   have h6 : Has (w3.alloc (.cells #[.int .i64 1, .int .i64 (n : Int)] 139)) (rowS 139 2 (.slice a5 es.length c5) es.length (es.flatMap Ent.cells) :: pts r4 (.cells #[.slice a5 es.length c5] 58 (0, 0)) :: bankS 0 bank (X ++ [List.replicate n zeros]) :: l) := hA.tail.swap
   have H6 := Lib.hid h6
   have Hsrc := Lib.hid hsrc
   have HK3 := Lib.hid ((HK.out.trans hK3).alloc (.cells #[.int .i64 1, .int .i64 (n : Int)] 139))
   obtain ⟨i0, I1, I2, I3, I4⟩ := info_parts info_ent
   rw [HLe.out] at H6 r50
   clear h3 h3r hK3 HBA HK hA hsrc h6
   go_upto_region 10 with (at_builtin; refine wpList_append_row rfl (.tmp 22) (.tmp 25) 56 rfl 139 i0 (.agg #[.int .i64 0, .int .i64 0]) 2 16 Tryz.underlying56 I1 I2 I3 I4 rfl (by decide) _ _ (es.flatMap Ent.cells) rfl H6.out ⟨w3.heap.size, 0, none⟩ 1 1 [.int .i64 1, .int .i64 (n : Int)] rfl rfl Hsrc.out (by simp [Value.oneCell']) (by simp [maxLen]; omega) (by omega) ?_; intro v' w' hK2 hh; obtain ⟨oa', oc', rfl, hx'⟩ := hh.row_val (v := v') (.head _); clear hx'; have hob := hh.at (b := r4) (o := .cells #[.slice a5 k c5] 58 (0, 0)) (by simp); have z1 : w'.cell? ⟨r4, 0, none⟩ = some (.slice a5 k c5) := cell_of hob 0 rfl; have f1 := thaw_of hob 0; have l1 := World.block_lt_of_cell? _ _ z1; have HK2 := Lib.hid hK2; have Hz := Lib.hid hh; clear hK2 hh hob)
   have HM2 : Hid (MadeTM w l zs r4 bank (k + 1) (w'.setCell ⟨r4, 0, none⟩ (.slice oa' (k + 1) oc'))) := by
    refine ⟨.slice oa' (k + 1) oc', (HK3.out.trans HK2.out).setCell _ _, ?_⟩
    have h7 := (Hz.out.reord [1]).setCell 0 (.slice oa' (k + 1) oc')
    have e : entS (.slice oa' (k + 1) oc') (es ++ [⟨1, n⟩]) = rowS 139 2 (.slice oa' (k + 1) oc') (k + 1) (es.flatMap Ent.cells ++ [.int .i64 1, .int .i64 (n : Int)]) := by
     rw [entS, List.length_append, List.flatMap_append, HLe.out]; rfl
    rw [HEs.out, HDs.out, e]
    exact h7
   clear Hz HK2 HK3 H6 Hsrc z1 f1 l1 HEs HDs HLe
   go_wp2
   go_roundg (m - (k + 1))
   case measure => omega
   case rel => exact ⟨k + 1, by omega, rfl, by go_num, HM2⟩
  ·have hke : k = m := by omega
   subst hke
   rw [List.take_of_length_le (by have := Hm.out; omega)] at hh
   have hes : (eSizes zs).length = k := by have := Hm.out; simp [eSizes]; omega
   obtain ⟨a5, c5, rfl, hx⟩ := hh.row_val (e := 139) (size := 2) (v := rv) (n := (eSizes zs).length) (xs := (eSizes zs).flatMap Ent.cells) (by simp [entS])
   have HSN := Lib.hid (sp_New hh (v := .slice a5 (eSizes zs).length c5) (es := eSizes zs) (by simp) (sizesT_ok Hok.out) (sizesT_ne Hok.out))
   have r50 : wr.cell? ⟨r4, 0, none⟩ = some (.slice a5 (eSizes zs).length c5) := cell_of hh.got 0 rfl
   have l5 := World.block_lt_of_cell? _ _ r50
   have HK := Lib.hid hK
   clear hx hh hK hes
   generalize hq : (eSizes zs).length = q at *
   clear hq
   go_wp2_with fail
   refine HSN.out.mono ?_
   rintro r w3 ⟨sp, rfl, hK3, h3⟩
   have HST := Lib.hid (st_New h3 bank sp)
   have HK3 := Lib.hid (HK.out.trans hK3)
   clear h3 hK3 HSN HK r50 l5
   go_wp2_with fail
   refine HST.out.mono ?_
   rintro r w4 ⟨p, rfl, hK4, h4⟩
   have HK4 := Lib.hid (HK3.out.trans hK4)
   have H4 := Lib.hid h4
   clear h4 hK4 HST HK3
   have h5 := H4.out.alloc (.cells #[.pointer (some ⟨sp, 0, none⟩), .pointer (some ⟨p, 0, none⟩), .int .i64 0, .int .i64 0, .int .i64 0, .int .i64 0, .slice none 0 0, .slice none 0 0, .slice none 0 0, .slice none 0 0] 70)
   have HF : Hid (MadeTPost zs l w (.returned (.pointer (some ⟨w4.heap.size, 0, none⟩))) (w4.alloc (.cells #[.pointer (some ⟨sp, 0, none⟩), .pointer (some ⟨p, 0, none⟩), .int .i64 0, .int .i64 0, .int .i64 0, .int .i64 0, .slice none 0 0, .slice none 0 0, .slice none 0 0, .slice none 0 0] 70))) := by
    refine ⟨w4.heap.size, sp, p, bank, rfl, HK4.out.alloc _, Has.swap ?_⟩
    have h6 : Has _ (world3 p bank sp 0 0 [] (dSizes zs) (freshSpc (eSizes zs)) (treesS w4.heap.size sp p :: pts r4 (.cells #[.slice a5 q c5] 58 (0, 0)) :: entS (.slice a5 q c5) (eSizes zs) :: l)) := h5.reord [1, 4, 1]
    have h7 := Has.bt_shut (N := 0) (FInv.empty (eSizes zs)) (fresh_roomT Hok.out) (fun a g hg => by cases hg) h6.trio_of
    exact Has.skip (A := [_, _]) (M := [_, _]) h7
   clear h5 H4 HK4
   go_wp2
   go_ret
   exact HF.out
end Go.Proofs.YtgbgneiciabidaaGreatDoor
