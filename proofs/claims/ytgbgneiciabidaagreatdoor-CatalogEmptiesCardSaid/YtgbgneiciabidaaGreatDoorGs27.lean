/-
  Trees (layer 12): a key has a value (Set).
-/
import Derived.Test.YtgbgneiciabidaaGreatDoorGs26
import Derived.ScopeJumps
namespace Go.Proofs.YtgbgneiciabidaaGreatDoor
open Go Go.RowKit
set_option linter.all false
set_option maxHeartbeats 8000000
theorem Has.strip {w : World} {A : Say} {M l : List Say} (h : Has w (A :: (M ++ l))) : Has w (A :: l) := by
 have h7 : Has w (M ++ (A :: l)) := Has.perm (show Has w ((A :: M) ++ l) from h) List.perm_middle.symm
 clear h
 induction M with
 | nil => exact h7
 | cons B M ih => exact ih h7.tail
def TreePost (p bank sp N : Nat) (es : List Ent) (Q : Pgs) (root : Int) (L : List KV) (B : Nat) (l : List Say) (w : World) (r : Ending) (w' : World) : Prop :=
  Kept w w' /\ ∃ Q', Live Q' /\ Has w' (btS p bank sp (N + 50) es Q' :: l) /\
    ((r = .returned (.tuple #[.int .i64 0, errV 50]) /\ (∃ Q1 news, Puts es Q news Q1 /\ news.length <= 50 /\ FullQ es Q1 /\ (root = 0 -> Q1 = Q)) /\ Moved Q Q' 0 0) \/
     ∃ ta s', r = .returned (.tuple #[.int .i64 ta, .nilIface]) /\ Moved Q Q' root ta /\ s' <= B /\ Root Q' ta L s' /\ (root = 0 -> Next es Q ta))
def SetPost (p bank sp N : Nat) (es : List Ent) (Q : Pgs) (root key val : Int) (L : List KV) (s : Nat) (l : List Say) (w : World) (r : Ending) (w' : World) : Prop :=
 (pairOk key val = false /\ r = .returned (.tuple #[.int .i64 0, errV 80]) /\ Kept w w' /\ Has w' (btS p bank sp N es Q :: l)) \/
 (pairOk key val = true /\ TreePost p bank sp N es Q root (putL L key val) (max s 1 + 1) l w r w')
theorem RunPost.tree {p bank sp N : Nat} {es : List Ent} {Q : Pgs} {root : Int} {L : List KV} {lv B B' : Nat} {l m : List Say} {w0 w w' : World} {r : Ending} (h : RunPost p bank sp N es Q root L lv B (m ++ l) w r w') (hlv : lv <= 20) (hB : B <= B') (hK : Kept w0 w) (hr0 : root ≠ 0) : TreePost p bank sp N es Q root L B' l w0 r w' := by
 obtain ⟨h1, Q', h2, h3, h4⟩ := h
 have h5 : Has w' (btS p bank sp (N + 50) es Q' :: l) := by
  have h6 : Has w' ((btS p bank sp (N + 50) es Q' :: m) ++ l) := h3
  have h7 : Has w' (m ++ (btS p bank sp (N + 50) es Q' :: l)) := h6.perm List.perm_middle.symm
  clear h3 h6 h4
  induction m with
  | nil => exact h7
  | cons A m ih => exact ih h7.tail
 refine ⟨hK.trans h1, Q', h2, h5, ?_⟩
 rcases h4 with ⟨e1, ⟨Q1, news, e2, e3, e4⟩, e5⟩ | ⟨ta, s', e1, e2, e3, e4⟩
 ·exact .inl ⟨e1, ⟨Q1, news, e2, by omega, e4, fun h => absurd h hr0⟩, e5⟩
 ·exact .inr ⟨ta, s', e1, e2, by omega, e4, fun h => absurd h hr0⟩
theorem one_ok (key val : Int) : (⟨0, [key], [val]⟩ : Nd).ok = pairOk key val := by
 simp [Nd.ok, Nd.pairs, ordTo, ordAt]
theorem set_first {es : List Ent} {Q : Pgs} {key val a : Int} (hI : FInv es Q (fun _ => 0)) (hL : Live Q) (hp : pairOk key val = true) (hn : Next es Q a) :
  VMap.get a (put1 Q a ⟨0, [key], [val]⟩) = some ⟨⟨0, [key], [val]⟩, 0, 0⟩ /\ Live (VMap.put a ((⟨⟨0, [key], [val]⟩, 0, 0⟩ : Pg).more 1) (put1 Q a ⟨0, [key], [val]⟩)) /\
  Moved Q (VMap.put a ((⟨⟨0, [key], [val]⟩, 0, 0⟩ : Pg).more 1) (put1 Q a ⟨0, [key], [val]⟩)) 0 a /\
  Root (VMap.put a ((⟨⟨0, [key], [val]⟩, 0, 0⟩ : Pg).more 1) (put1 Q a ⟨0, [key], [val]⟩)) a [(key, val)] 2 := by
 have nm : namedErr Q ⟨0, [key], [val]⟩ = .nilIface := named_of fun c hc => by simp [Nd.kids] at hc
 have ok : (⟨0, [key], [val]⟩ : Nd).ok = true := by rw [one_ok]; exact hp
 have hg := put1_new nm hn.new
 have h2 := hn.std.bd
 have hps : Puts es Q ([] ++ [(a, ⟨0, [key], [val]⟩)]) (put1 Q a ⟨0, [key], [val]⟩) := (Puts.nil Q).snoc hn ok nm
 refine ⟨hg, fun b g hb => ?_, ⟨fun b => ?_, fun b lv L s hb h => (h.mono hps.same).mono (more_same hg 1), fun _ h => absurd h (by omega)⟩, ⟨.inr ⟨0, ?_, List.pairwise_singleton _ _, ?_⟩⟩⟩
 ·rw [get_put] at hb
  by_cases e : b = a
  ·rw [if_pos e] at hb
   obtain rfl := Option.some.inj hb
   exact (by decide : (0 : Int) < 0 + 1)
  ·rw [if_neg e] at hb
   rcases hps.has b g hb with hm | ⟨g0, e0, _, _, l0⟩
   ·simp at hm; exact absurd hm e
   ·have := hL b g0 e0; omega
 ·rw [heldOf_put]
  rw [<- hps.held]
  unfold oneAt
  by_cases e : b = a
  ·subst e
   rw [if_pos rfl, if_neg (fun x => x.2 rfl), if_pos ⟨rfl, by omega⟩]
   unfold heldOf
   rw [hg]
   rfl
  ·rw [if_neg e, if_neg (fun x => x.2 rfl), if_neg (fun x => e x.1)]
 ·refine ⟨_, by rw [get_put, if_pos rfl], rfl, rfl, rfl⟩
 ·rw [heldOf_put, if_pos rfl]
  exact (by decide : (0 : Int) < 0 + 1)
set_option maxRecDepth 100000 in
theorem bt_Set {w : World} {l : List Say} {p bank sp N : Nat} {es : List Ent} {Q : Pgs} (root key val : Int) {L : List KV} {s : Nat} (h : Has w (btS p bank sp N es Q :: l)) (ht : Tab l) (hR : Root Q root L s) (hL : Live Q) (hN : N <= 200000) (hs : s <= 900000) :
  Calls Tryz.prog 39 #[.pointer (some ⟨p, 0, none⟩), .int .i64 root, .int .i64 key, .int .i64 val] w (SetPost p bank sp N es Q root key val L s l w) := by
 obtain ⟨hI, _⟩ := h.bt_inv
 have hA := ((((h.alloc (.cells #[.int .i64 key] 3)).alloc (.cells #[.int .i64 val] 3)).alloc (.cells #[.int .i64 key] 3)).alloc (.cells #[.int .i64 val] 3)).alloc (.cells #[.int .i64 0, .slice (some ⟨w.heap.size + 1 + 1, 0, none⟩) 1 1, .slice (some ⟨w.heap.size + 1 + 1 + 1, 0, none⟩) 1 1] 35)
 have hKA := (((((Kept.refl w).alloc (.cells #[.int .i64 key] 3)).alloc (.cells #[.int .i64 val] 3)).alloc (.cells #[.int .i64 key] 3)).alloc (.cells #[.int .i64 val] 3)).alloc (.cells #[.int .i64 0, .slice (some ⟨w.heap.size + 1 + 1, 0, none⟩) 1 1, .slice (some ⟨w.heap.size + 1 + 1 + 1, 0, none⟩) 1 1] 35)
 simp only [World.size_alloc] at hA
 have HA := Lib.hid hA
 have HKA := Lib.hid hKA
 have H0 := Lib.hid (And.intro hI (And.intro ht (And.intro hR (And.intro hL (And.intro hN hs)))))
 clear h ht hI hR hL hN hs hA hKA
 go_enter Tryz.func39, Tryz.ntmps39
 go_upto_region 2 with fail
 have hA := HA.out
 have hKA := HKA.out
 clear HA HKA
 generalize ((((w.alloc (.cells #[.int .i64 key] 3)).alloc (.cells #[.int .i64 val] 3)).alloc (.cells #[.int .i64 key] 3)).alloc (.cells #[.int .i64 val] 3)).alloc (.cells #[.int .i64 0, .slice (some ⟨w.heap.size + 1 + 1, 0, none⟩) 1 1, .slice (some ⟨w.heap.size + 1 + 1 + 1, 0, none⟩) 1 1] 35) = W at *
 generalize w.heap.size + 1 + 1 + 1 + 1 = b5 at *
 generalize w.heap.size + 1 + 1 + 1 = b4 at *
 generalize w.heap.size + 1 + 1 = b3 at *
 generalize w.heap.size + 1 = b2 at *
 generalize w.heap.size = b1 at *
 have hg5 := hA.got
 have c0 : W.cell? ⟨b5, 0, none⟩ = some (.int .i64 0) := cell_of hg5 0 rfl
 have c1 : W.cell? ⟨b5, 1, none⟩ = some (.slice (some ⟨b3, 0, none⟩) 1 1) := cell_of hg5 1 rfl
 have c2 : W.cell? ⟨b5, 2, none⟩ = some (.slice (some ⟨b4, 0, none⟩) 1 1) := cell_of hg5 2 rfl
 have l5 := World.block_lt_of_cell? _ _ c0
 have hB := hA.tail.row_of_pts (n := 1) (xs := [.int .i64 val]) (size := 1) (by simp) (Nat.le_refl _) (by simp [maxLen]) (by simp) (by simp)
 have hC := hB.swap.row_of_pts (n := 1) (xs := [.int .i64 key]) (size := 1) (by simp) (Nat.le_refl _) (by simp [maxLen]) (by simp) (by simp)
 have hD : Has W (btS p bank sp N es Q :: ([pts b5 (.cells #[.int .i64 0, .slice (some ⟨b3, 0, none⟩) 1 1, .slice (some ⟨b4, 0, none⟩) 1 1] 35 (0, 0)), boxS b1 key, boxS b2 val, intsS (.slice (some ⟨b3, 0, none⟩) 1 1) [key], intsS (.slice (some ⟨b4, 0, none⟩) 1 1) [val]] ++ l)) := by
  have q1 := hA.swap.row_of_pts (n := 1) (xs := [.int .i64 val]) (size := 1) (by simp) (Nat.le_refl _) (by simp [maxLen]) (by simp) (by simp)
  have q2 := (q1.reord [2]).row_of_pts (n := 1) (xs := [.int .i64 key]) (size := 1) (by simp) (Nat.le_refl _) (by simp [maxLen]) (by simp) (by simp)
  exact q2.reord [5, 2, 3, 2]
 clear hB hC hA hg5
 generalize hml : ([pts b5 (.cells #[.int .i64 0, .slice (some ⟨b3, 0, none⟩) 1 1, .slice (some ⟨b4, 0, none⟩) 1 1] 35 (0, 0)), boxS b1 key, boxS b2 val, intsS (.slice (some ⟨b3, 0, none⟩) 1 1) [key], intsS (.slice (some ⟨b4, 0, none⟩) 1 1) [val]] : List Say) = M at hD
 have hm5 : pts b5 (.cells #[.int .i64 0, .slice (some ⟨b3, 0, none⟩) 1 1, .slice (some ⟨b4, 0, none⟩) 1 1] 35 (0, 0)) ∈ M ++ l := by rw [<- hml]; simp
 have hm1 : boxS b1 key ∈ M ++ l := by rw [<- hml]; simp
 have hm2 : boxS b2 val ∈ M ++ l := by rw [<- hml]; simp
 have hm3 : intsS (.slice (some ⟨b3, 0, none⟩) 1 1) [key] ∈ M ++ l := by rw [<- hml]; simp
 have hm4 : intsS (.slice (some ⟨b4, 0, none⟩) 1 1) [val] ∈ M ++ l := by rw [<- hml]; simp
 have HCk := Lib.hid (node_Check ⟨0, [key], [val]⟩ hD (kv := .slice (some ⟨b3, 0, none⟩) 1 1) (vv := .slice (some ⟨b4, 0, none⟩) 1 1) (.tail _ hm3) (.tail _ hm4))
 have HM := Lib.hid (And.intro hm5 (And.intro hm1 (And.intro hm2 (And.intro hm3 hm4))))
 have HKA := Lib.hid hKA
 clear hml hm5 hm1 hm2 hm3 hm4 hD hKA
 go_wp2_with fail
 refine HCk.out.mono ?_
 rintro r w2 ⟨rfl, hK2, hE⟩
 rw [one_ok]
 cases hpo : pairOk key val with
 | false =>
  have HF : Hid (SetPost p bank sp N es Q root key val L s l w (.returned (.tuple #[.int .i64 0, errV 80])) w2) := .inl ⟨hpo, rfl, HKA.out.trans hK2, hE.strip⟩
  clear hpo hK2 hE HCk HM HKA H0
  simp only [Bool.false_eq_true, if_false, errV] at HF ⊢
  go_wp2
  go_ret2
  exact HF.out
 | true =>
  obtain ⟨hI, ht, hR, hL, hN, hs⟩ := H0.out
  obtain ⟨hm5, hm1, hm2, hm3, hm4⟩ := HM.out
  have hg5 := hE.at (b := b5) (o := .cells #[.int .i64 0, .slice (some ⟨b3, 0, none⟩) 1 1, .slice (some ⟨b4, 0, none⟩) 1 1] 35 (0, 0)) (.tail _ hm5)
  have c0 : w2.cell? ⟨b5, 0, none⟩ = some (.int .i64 0) := cell_of hg5 0 rfl
  have c1 : w2.cell? ⟨b5, 1, none⟩ = some (.slice (some ⟨b3, 0, none⟩) 1 1) := cell_of hg5 1 rfl
  have c2 : w2.cell? ⟨b5, 2, none⟩ = some (.slice (some ⟨b4, 0, none⟩) 1 1) := cell_of hg5 2 rfl
  have k1 : w2.cell? ⟨b1, 0, none⟩ = some (.int .i64 key) := cell_of (hE.at (b := b1) (o := .cells #[.int .i64 key] 3 (0, 0)) (.tail _ hm1)) 0 rfl
  have l5 := World.block_lt_of_cell? _ _ c0
  have l1 := World.block_lt_of_cell? _ _ k1
  have HK := Lib.hid (HKA.out.trans hK2)
  rcases hR.it with ⟨rfl, rfl, rfl⟩ | ⟨lv, hT, hsr, hheld⟩
  ·have HP := Lib.hid (bt_Put ⟨0, [key], [val]⟩ (kv := .slice (some ⟨b3, 0, none⟩) 1 1) (vv := .slice (some ⟨b4, 0, none⟩) 1 1) hE (ht.app M) hm3 hm4 (by rw [one_ok]; exact hpo) (named_of fun c hc => by simp [Nd.kids] at hc) (by omega))
   have Hpo := Lib.hid hpo
   clear hpo hK2 hE HCk HM HKA hm1 hm2 hm3 hm4 hm5 hI ht hR hL hN hs hg5
   simp only [if_true]
   go_wp2_with fail
   refine HP.out.mono ?_
   rintro r w3 ⟨hK3, (⟨hfull, rfl, h4⟩ | ⟨a, hnx, rfl, h4⟩)⟩
   ·obtain ⟨hI, ht, hR, hL, hN, hs⟩ := H0.out
    have HF : Hid (SetPost p bank sp N es Q 0 key val [] 0 l w (.returned (.tuple #[.int .i64 0, errV 50])) w3) :=
     .inr ⟨Hpo.out, HK.out.trans hK3, Q, hL, h4.strip.bt_more (by omega), .inl ⟨rfl, ⟨Q, [], .nil Q, by simp, hfull, fun _ => rfl⟩, moved_fail hI hL (.nil Q) (.refl Q) hI hL⟩⟩
    clear hI ht hR hL hN hs hK3 hfull h4 HP H0 HK Hpo
    simp only [errV] at HF ⊢
    go_wp2
    go_ret2
    exact HF.out
   ·obtain ⟨hI, ht, hR, hL, hN, hs⟩ := H0.out
    obtain ⟨q1, q2, q3, q4⟩ := set_first hI hL Hpo.out hnx
    have HH := Lib.hid (bt_Hold h4 q1 (by omega))
    have HX : Hid (∀ r w4, BtHold p bank sp (N + 1) a ⟨⟨0, [key], [val]⟩, 0, 0⟩ es (put1 Q a ⟨0, [key], [val]⟩) (M ++ l) w3 r w4 -> SetPost p bank sp N es Q 0 key val [] 0 l w (.returned (.tuple #[.int .i64 a, .nilIface])) w4) := by
     rintro r w4 ⟨hK4, _, h5⟩
     exact .inr ⟨Hpo.out, (HK.out.trans hK3).trans hK4, _, q2, h5.strip.bt_more (by omega), .inr ⟨a, 2, rfl, q3, by simp, q4, fun _ => hnx⟩⟩
    clear hI ht hR hL hN hs hK3 hnx h4 q1 q2 q3 q4 HP H0 HK Hpo
    go_wp2_with fail
    refine HH.out.mono ?_
    rintro r w4 hpost
    have HE := Lib.hid (HX.out r w4 hpost)
    have hr2 := hpost.2.1
    subst hr2
    clear hpost HX HH
    go_wp2
    go_ret2
    exact HE.out
  ·obtain ⟨g, hg, _⟩ := heldOf_some hheld
   have hbd := (hI.adr root (by rw [hg]; rfl)).bd
   have hrn : (root == 0) = false := by simp; omega
   have hlv := lv_lt hT.weighs.2 (by omega)
   have HR := Lib.hid (bt_run root key (ChgOk.put key val hpo) (set_leaf key val b1 b2 hpo) (by
    intro A hA
    simp only [List.mem_cons, List.not_mem_nil, or_false] at hA
    rcases hA with rfl | rfl
    ·exact hm1
    ·exact hm2) hE (ht.app M) hT hsr (by simp) hL hheld hN (by omega))
   have HX : Hid (∀ r w3, RunPost p bank sp N es Q root (putL L key val) lv (s + 1) (M ++ l) w2 r w3 -> SetPost p bank sp N es Q root key val L s l w r w3) := fun r w3 hr => .inr ⟨hpo, hr.tree (by omega) (by omega) HK.out (by omega)⟩
   clear hpo hK2 hE HCk HM HKA hm1 hm2 hm3 hm4 hm5 hI ht hR hL hN hs hg5 hT hsr hheld hg hbd hlv H0 HK
   simp only [if_true]
   go_wp2_with fail
   refine HR.out.mono ?_
   rintro r w3 hpost
   have HE := Lib.hid (HX.out r w3 hpost)
   obtain ⟨x, y, rfl⟩ : ∃ x y, r = .returned (.tuple #[x, y]) := by
    obtain ⟨_, _, _, _, (⟨h, _⟩ | ⟨_, _, h, _⟩)⟩ := hpost <;> exact ⟨_, _, h⟩
   clear hpost HX HR
   go_wp2
   go_ret2
   exact HE.out
/-
  Trees (layer 12): the value of a key, in plain Lean.
-/
def getK (L : List KV) (k : Int) : Option Int := (L.find? fun p => p.1 == k).map (·.2)
def foundV (L : List KV) (k : Int) : Value := .tuple (match getK L k with | some v => #[.int .i64 v, .bool true] | none => #[.int .i64 0, .bool false])
theorem getK_none {L : List KV} {k : Int} (h : ∀ p ∈ L, p.1 ≠ k) : getK L k = none := by
 unfold getK
 rw [List.find?_eq_none.2 (fun p hp => by simpa using h p hp)]
 rfl
theorem getK_mid {A M B : List KV} {k : Int} (hA : ∀ p ∈ A, p.1 < k) (hB : ∀ p ∈ B, k < p.1) : getK (A ++ M ++ B) k = getK M k := by
 have eA : A.find? (fun p => p.1 == k) = none := List.find?_eq_none.2 fun p hp => by have := hA p hp; simp; omega
 have eB : B.find? (fun p => p.1 == k) = none := List.find?_eq_none.2 fun p hp => by have := hB p hp; simp; omega
 unfold getK
 rw [List.find?_append, List.find?_append, eA, eB]
 simp
theorem getK_at {L : List KV} (hs : Srt L) {k v : Int} (h : (k, v) ∈ L) : getK L k = some v := by
 induction L with
 | nil => cases h
 | cons p L ih =>
  have h1 := List.pairwise_cons.1 hs
  unfold getK
  rw [List.find?_cons]
  rcases List.mem_cons.1 h with rfl | hm
  ·simp
  ·have := h1.1 _ hm
   rw [show (p.1 == k) = false by simp; omega]
   exact ih h1.2 hm
theorem find_at {ps : List KV} (hs : Srt ps) (key : Int) {fr : Value} (hf : (if (ps.map (·.1))[lowB (ps.map (·.1)) key]? = some key then Value.tuple #[.int .i64 (lowB (ps.map (·.1)) key : Nat), .bool true] else .tuple #[.int .i64 ((lowB (ps.map (·.1)) key : Nat) - 1), .bool false]) = fr) :
  (fr = .tuple #[.int .i64 (-1), .bool false] /\ ∀ p ∈ ps, key < p.1) \/
  ∃ (i : Nat) (p : KV) (ex : Bool), ps[i]? = some p /\ fr = .tuple #[.int .i64 i, .bool ex] /\ p.1 <= key /\ (∀ q ∈ ps.drop (i + 1), key < q.1) /\ (ex = true /\ p.1 = key \/ ex = false /\ p.1 < key) := by
 have h1 := low_take key hs
 have h2 := high_drop key hs
 have hl := low_len key ps
 generalize lowB (ps.map (·.1)) key = b at *
 have hlow : ∀ i p, i < b -> ps[i]? = some p -> p.1 < key := fun i p hi hp => by
  have hm : p ∈ ps.take b := List.mem_iff_getElem?.2 ⟨i, by rw [List.getElem?_take, if_pos hi]; exact hp⟩
  rw [<- h1] at hm
  simpa using (List.mem_filter.1 hm).2
 have hhigh : ∀ p ∈ ps.drop b, key <= p.1 := fun p hp => by
  rw [<- h2] at hp
  simpa using (List.mem_filter.1 hp).2
 by_cases hx : (ps.map (·.1))[b]? = some key
 ·rw [if_pos hx] at hf
  rw [List.getElem?_map, Option.map_eq_some_iff] at hx
  obtain ⟨p, hp, hk⟩ := hx
  have hb := (List.getElem?_eq_some_iff.1 hp).1
  have hd : ps.drop b = p :: ps.drop (b + 1) := by
   rw [List.drop_eq_getElem_cons hb]
   rw [List.getElem?_eq_getElem hb] at hp
   rw [Option.some.inj hp]
  have hs2 : Srt (p :: ps.drop (b + 1)) := by rw [<- hd]; exact List.Pairwise.drop hs
  exact .inr ⟨b, p, true, hp, hf.symm, by omega, fun q hq => by have := (List.pairwise_cons.1 hs2).1 q hq; omega, .inl ⟨rfl, hk⟩⟩
 ·rw [if_neg hx] at hf
  have hgt : ∀ q ∈ ps.drop b, key < q.1 := fun q hq => by
   have h3 := hhigh q hq
   rcases Int.lt_or_eq_of_le h3 with h4 | h4
   ·exact h4
   ·exfalso
    cases hd : ps.drop b with
    | nil => rw [hd] at hq; cases hq
    | cons p T =>
     have hs2 : Srt (p :: T) := by rw [<- hd]; exact List.Pairwise.drop hs
     rw [hd] at hq hhigh
     have h5 := hhigh p (.head _)
     have h6 : p.1 = key := by
      rcases List.mem_cons.1 hq with rfl | hm
      ·omega
      ·have := (List.pairwise_cons.1 hs2).1 q hm; omega
     refine hx ?_
     have : ps[b]? = some p := by
      have := congrArg (fun l => l[0]?) hd
      simpa using this
     rw [List.getElem?_map, this, Option.map_some, h6]
  by_cases hb : b = 0
  ·subst hb
   exact .inl ⟨hf.symm, fun p hp => hgt p (by simpa using hp)⟩
  ·have hlt : b - 1 < ps.length := by omega
   have hp : ps[b - 1]? = some ps[b - 1] := List.getElem?_eq_getElem hlt
   have hq := hlow (b - 1) _ (by omega) hp
   refine .inr ⟨b - 1, _, false, hp, ?_, by omega, fun q hq => hgt q (by rwa [show b - 1 + 1 = b by omega] at hq), .inr ⟨rfl, hq⟩⟩
   rw [<- hf]
   rw [show ((b : Nat) : Int) - 1 = ((b - 1 : Nat) : Int) by omega]
theorem find_no {ps : List KV} (hs : Srt ps) {i : Nat} {key : Int} {p : KV} (hp : ps[i]? = some p) (hlt : p.1 < key) (hdr : ∀ q ∈ ps.drop (i + 1), key < q.1) : getK ps key = none :=
 getK_none fun q hq => by
  obtain ⟨j, hj, rfl⟩ := List.getElem_of_mem hq
  obtain ⟨hil, e⟩ := List.getElem?_eq_some_iff.1 hp
  rcases Nat.lt_trichotomy j i with h | rfl | h
  ·have q4 := List.pairwise_iff_getElem.1 hs j i hj hil h
   rw [e] at q4
   omega
  ·rw [e]
   omega
  ·have q4 := hdr _ (List.mem_iff_getElem?.2 ⟨j - (i + 1), by rw [List.getElem?_drop, show i + 1 + (j - (i + 1)) = j by omega]; exact List.getElem?_eq_getElem hj⟩)
   omega
theorem find_low {Q : Pgs} {lv : Nat} {a : Int} {L : List KV} {s : Nat} (hT : Tr Q lv a L s) (hs : Srt L) {g : Pg} (hg : VMap.get a Q = some g) {key : Int} (h : ∀ p ∈ g.n.pairs, key < p.1) (h0 : g.n.pairs ≠ []) : getK L key = none := by
 cases lv with
 | zero =>
  obtain ⟨g', h1, _, rfl, _⟩ := hT
  rw [hg] at h1
  obtain rfl := Option.some.inj h1
  exact getK_none fun p hp => by have := h p hp; omega
 | succ lv =>
  obtain ⟨g', S, h1, _, h3, _⟩ := hT
  rw [hg] at h1
  obtain rfl := Option.some.inj h1
  cases hp : g.n.pairs with
  | nil => exact absurd hp h0
  | cons p B =>
   rw [hp] at h3 h
   have hh := h p (.head _)
   have hd := TrG.head h3
   exact getK_none fun q hq => by have := head_le hs hd q hq; omega
theorem find_mid {Q : Pgs} {lv : Nat} {a : Int} {L : List KV} {s : Nat} (hT : Tr Q (lv + 1) a L s) (hs : Srt L) {g : Pg} (hg : VMap.get a Q = some g) {key : Int} {i : Nat} {p : KV} (hp : g.n.pairs[i]? = some p) (h1 : p.1 <= key) (h2 : ∀ q ∈ g.n.pairs.drop (i + 1), key < q.1) :
  ∃ LM sM, Tr Q lv p.2 LM sM /\ Srt LM /\ getK L key = getK LM key := by
 obtain ⟨g', S, e1, _, h, _⟩ := hT
 rw [hg] at e1
 obtain rfl := Option.some.inj e1
 have hlt := (List.getElem?_eq_some_iff.1 hp).1
 have hsp : g.n.pairs = g.n.pairs.take i ++ p :: g.n.pairs.drop (i + 1) := by
  conv => lhs; rw [<- List.take_append_drop i g.n.pairs]
  rw [List.drop_eq_getElem_cons hlt]
  rw [List.getElem?_eq_getElem hlt] at hp
  rw [Option.some.inj hp]
 rw [hsp] at h
 obtain ⟨LA, LM, LB, sA, sM, sB, hA, hM, hk, hB, rfl, rfl, q1, q2⟩ := TrG.place h hs (fun _ => h1) h2
 exact ⟨LM, sM, hM, hs.left.right, getK_mid q1 q2⟩
/-
  Trees (layer 12): the value of a key (Find).
-/
def FoundPost (p bank sp N : Nat) (es : List Ent) (Q : Pgs) (L : List KV) (key : Int) (l : List Say) (w : World) (r : Ending) (w' : World) : Prop :=
 Kept w w' /\ r = .returned (foundV L key) /\ Has w' (btS p bank sp N es Q :: l)
def FindAt (p : Nat) (key addr : Int) (a : Act) : Prop :=
 ∃ u1 u3 u4 u5 u6 u7 u9 u10 u11 u12 u13 u14 u15 u16 u17 u18 u19 u20 u21 u22 u23 u24 u25 u26 u27 u28 u29 u30 u31 u32 u33 u34 u35 u36 u37 u38 u39 u40 u41 u42 u43 u44 u45 u46 u47 u48 u49 : Value, a = { tmps := #[.pointer (some ⟨p, 0, none⟩), u1, .int .i64 key, u3, u4, u5, u6, u7, .int .i64 addr, u9, u10, u11, u12, u13, u14, u15, u16, u17, u18, u19, u20, u21, u22, u23, u24, u25, u26, u27, u28, u29, u30, u31, u32, u33, u34, u35, u36, u37, u38, u39, u40, u41, u42, u43, u44, u45, u46, u47, u48, u49], defers := [] }
def FindJ (p bank sp N : Nat) (es : List Ent) (Q : Pgs) (L : List KV) (key : Int) (l : List Say) (w : World) (a : Act) (w' : World) : Prop :=
 ∃ (addr : Int) (lv : Nat) (LM : List KV) (sM : Nat), FindAt p key addr a /\ Tr Q lv addr LM sM /\ Srt LM /\ getK L key = getK LM key /\ Kept w w' /\ Has w' (btS p bank sp N es Q :: l)
def intOf8 : Value -> Int | .int _ q => q | _ => 0
def lvAt (Q : Pgs) (a : Int) : Nat := ((VMap.get a Q).map fun g => g.n.level.toNat).getD 0
set_option maxRecDepth 100000 in
theorem bt_Find {w : World} {l : List Say} {p bank sp N : Nat} {es : List Ent} {Q : Pgs} (root key : Int) {L : List KV} {lv s : Nat} (h : Has w (btS p bank sp N es Q :: l)) (hT : Tr Q lv root L s) (hs : Srt L) :
  Calls Tryz.prog 47 #[.pointer (some ⟨p, 0, none⟩), .int .i64 root, .int .i64 key] w (FoundPost p bank sp N es Q L key l w) := by
 go_enter Tryz.func47, Tryz.ntmps47
 go_wp2
 refine wp_scope_jumps 0 (FindJ p bank sp N es Q L key l w) (fun a' _ => lvAt Q (intOf8 (a'.tmps.getD 8 undef))) rfl ?_ ?_
 ·have hK := Kept.refl w
  obtain ⟨LM, hTM, hsM, hgk⟩ : ∃ LM, Tr Q lv root LM s /\ Srt LM /\ getK L key = getK LM key := ⟨L, hT, hs, rfl⟩
  clear hT hs
  have hT := hTM
  have hs := hsM
  clear hTM hsM
  have hh := h
  obtain ⟨addr, hra⟩ : ∃ addr : Int, addr = root := ⟨_, rfl⟩
  subst hra
  clear h
  go_wp2
  go_step3
  obtain ⟨g, hg, hlv⟩ := hT.get
  obtain ⟨hI, _⟩ := hh.bt_inv
  obtain ⟨ok, _, _⟩ := hI.pg addr g hg
  have hbd := (hI.adr addr (by rw [hg]; rfl)).bd
  obtain ⟨o0, o1, o2, o3, o4⟩ := ok_lens ok
  have hpn := ok_pairs ok
  have HG := Lib.hid (bt_Get hh addr (by omega) (by omega))
  have hfa := find_at hpn.1 key (fr := (if g.n.keys[lowB g.n.keys key]? = some key then Value.tuple #[.int .i64 (lowB g.n.keys key : Nat), .bool true] else .tuple #[.int .i64 ((lowB g.n.keys key : Nat) - 1), .bool false])) (by rw [pairs_keys ok])
  obtain ⟨fr, hfr⟩ : ∃ fr : Value, (if g.n.keys[lowB g.n.keys key]? = some key then Value.tuple #[.int .i64 (lowB g.n.keys key : Nat), .bool true] else .tuple #[.int .i64 ((lowB g.n.keys key : Nat) - 1), .bool false]) = fr := ⟨_, rfl⟩
  rw [hfr] at hfa
  have HX := Lib.hid (And.intro hT (And.intro hs (And.intro hgk (And.intro hg ok))))
  have HKW := Lib.hid hK
  have HLn := Lib.hid (And.intro hpn (And.intro o2 (And.intro o3 o4)))
  have Hlv := Lib.hid hlv
  have Hfr := Lib.hid hfr
  have Hfa := Lib.hid hfa
  clear hT hs hgk hg ok hK hh hI hbd hpn o0 o1 o2 o3 o4 hlv hfr hfa
  obtain ⟨⟨lvI, keys, vals⟩, ho, he⟩ := g
  simp only at HG Hfr HLn Hlv
  go_wp2_with fail
  refine HG.out.mono ?_
  rintro r w1 ⟨hK1, (⟨h1, _⟩ | ⟨g', ak, ck, av, cv, h1, rfl, h3⟩)⟩
  ·rw [HX.out.2.2.2.1] at h1; cases h1
  rw [HX.out.2.2.2.1] at h1
  obtain rfl := Option.some.inj h1
  clear h1 HG
  simp only [Nd.val]
  have h4 := h3.alloc (.cells #[.int .i64 lvI, .slice ak keys.length ck, .slice av vals.length cv] 35)
  have hk4 := hK1.alloc (.cells #[.int .i64 lvI, .slice ak keys.length ck, .slice av vals.length cv] 35)
  have HFd := Lib.hid (node_Find ⟨lvI, keys, vals⟩ (w := w1.alloc (.cells #[.int .i64 lvI, .slice ak keys.length ck, .slice av vals.length cv] 35)) (kv := .slice ak keys.length ck) (vv := .slice av vals.length cv) (h4.rd (by simp)) (ok_rising HX.out.2.2.2.2) (by have := HLn.out.2.2.2; simp only at this ⊢; omega) key)
  simp only at HFd
  rw [Hfr.out] at HFd
  have H4 := Lib.hid h4
  have HK4 := Lib.hid hk4
  clear h3 h4 hK1 hk4 Hfr
  simp only [Nd.val] at HFd
  go_wp2_with fail
  refine HFd.out.mono ?_
  rintro r w2 ⟨rfl, hb2⟩
  have h5 := H4.out.below hb2
  have HK5 := Lib.hid (HKW.out.trans (HK4.out.trans (Kept.below hb2)))
  clear hb2 HFd H4 HK4 HKW
  generalize w1.heap.size = r12 at *
  have hg12 := h5.got
  have n0 : w2.cell? ⟨r12, 0, none⟩ = some (.int .i64 lvI) := cell_of hg12 0 rfl
  have n2 : w2.cell? ⟨r12, 2, none⟩ = some (.slice av vals.length cv) := cell_of hg12 2 rfl
  have l12 := World.block_lt_of_cell? _ _ n0
  have h6 : Has w2 (btS p bank sp N es Q :: l) := (h5.reord [3]).strip (M := [_, _, _])
  have hfa := Hfa.out
  clear Hfa
  rcases hfa with ⟨rfl, hlow⟩ | ⟨i, kv, ex, hp, rfl, hle, hdr, hex⟩
  ·have HF : Hid (FoundPost p bank sp N es Q L key l w (.returned (.tuple #[.int .i64 0, .bool false])) w2) := by
    refine ⟨HK5.out, ?_, h6⟩
    have h0 : (⟨lvI, keys, vals⟩ : Nd).pairs ≠ [] := fun h => by
     have q1 := HLn.out.1.2.2
     rw [h] at q1
     have := HLn.out.2.2.1
     simp at q1 this
     omega
    rw [foundV, HX.out.2.2.1, find_low HX.out.1 HX.out.2.1 HX.out.2.2.2.1 hlow h0]
   clear hlow h5 h6 hg12 HX HLn Hlv HK5
   go_wp2
   try simp only [Exit.jump]
   go_ret2
   exact HF.out
  ·obtain ⟨kv, vv⟩ := kv
   obtain ⟨va, vc, e1, _, hrv⟩ := h5.ints_read (v := .slice av vals.length cv) (xs := vals) (by simp)
   injection e1 with e1 e2 e3
   subst e1
   clear e2 e3
   have hpz := hp
   unfold Nd.pairs at hpz
   rw [List.getElem?_zip_eq_some] at hpz
   obtain ⟨hlv', hev⟩ := List.getElem?_eq_some_iff.1 hpz.2
   obtain ⟨gv, rfl, vc0, _⟩ := hrv i hlv'
   rw [hev] at vc0
   have lgv := World.block_lt_of_cell? _ _ vc0
   have ixI : (i : Int) < (vals.length : Int) := Int.ofNat_lt.2 hlv'
   have ix0 : (0 : Int) <= i := by omega
   have HPp := Lib.hid (And.intro hp (And.intro hle (And.intro hdr hex)))
   have H6 := Lib.hid h6
   have Hcnt : Hid (vals.length = vals.length) := rfl
   clear hp hle hdr hpz hlv' hev h5 h6 hg12 hrv
   generalize vals.length = nv at n2 ixI
   cases lv with
   | succ lv =>
    have hlI : (0 : Int) < lvI := by rw [Hlv.out]; omega
    obtain ⟨LM, sM, q1, q2, q3⟩ := find_mid HX.out.1 HX.out.2.1 HX.out.2.2.2.1 HPp.out.1 HPp.out.2.1 HPp.out.2.2.1
    have hlv2 := Hlv.out
    obtain ⟨gk, hgk1, hgk2⟩ := q1.get
    have HJ := Lib.hid (And.intro q1 (And.intro q2 (And.intro (HX.out.2.2.1.trans q3) (And.intro HK5.out (And.intro H6.out (And.intro HX.out.2.2.2.1 (And.intro hlv2 (And.intro hgk1 hgk2))))))))
    clear q1 q2 q3 hlv2 hgk1 hgk2 HX HLn Hlv HK5 HPp H6 Hcnt hex
    go_wp2
    go_step3
    simp +zetaDelta only [Exit.inBlock, Exit.then, Exit.jump]
    refine ⟨trivial, ⟨vv, lv, LM, sM, ⟨_, _, _, _, _, _, _, _, _, _, _, _, _, _, _, _, _, _, _, _, _, _, _, _, _, _, _, _, _, _, _, _, _, _, _, _, _, _, _, _, _, _, _, _, _, _, _, rfl⟩, HJ.out.1, HJ.out.2.1, HJ.out.2.2.1, HJ.out.2.2.2.1, HJ.out.2.2.2.2.1⟩⟩
   | zero =>
    have hlI : lvI = 0 := Hlv.out
    subst hlI
    rcases hex with ⟨rfl, rfl⟩ | ⟨rfl, hlt⟩
    ·have HF : Hid (FoundPost p bank sp N es Q L kv l w (.returned (.tuple #[.int .i64 vv, .bool true])) w2) := by
      refine ⟨HK5.out, ?_, H6.out⟩
      obtain ⟨g', e1, _, rfl, _⟩ := HX.out.1
      rw [HX.out.2.2.2.1] at e1
      obtain rfl := Option.some.inj e1
      rw [foundV, HX.out.2.2.1, getK_at HX.out.2.1 (List.mem_of_getElem? HPp.out.1)]
     clear HX HLn Hlv HK5 HPp H6 Hcnt
     go_wp2
     try simp only [Exit.jump]
     go_ret2
     exact HF.out
    ·have HF : Hid (FoundPost p bank sp N es Q L key l w (.returned (.tuple #[.int .i64 0, .bool false])) w2) := by
      refine ⟨HK5.out, ?_, H6.out⟩
      obtain ⟨g', e1, _, rfl, _⟩ := HX.out.1
      rw [HX.out.2.2.2.1] at e1
      obtain rfl := Option.some.inj e1
      rw [foundV, HX.out.2.2.1, find_no HX.out.2.1 HPp.out.1 hlt HPp.out.2.2.1]
     clear HX HLn Hlv HK5 HPp H6 Hcnt hlt
     go_wp2
     try simp only [Exit.jump]
     go_ret2
     exact HF.out
 ·rintro a' w0 ⟨addr, lv, LM, sM, ⟨u1, u3, u4, u5, u6, u7, u9, u10, u11, u12, u13, u14, u15, u16, u17, u18, u19, u20, u21, u22, u23, u24, u25, u26, u27, u28, u29, u30, u31, u32, u33, u34, u35, u36, u37, u38, u39, u40, u41, u42, u43, u44, u45, u46, u47, u48, u49, rfl⟩, hT, hs, hgk, hK, hh⟩
  clear h
  obtain ⟨g, hg, hlv⟩ := hT.get
  obtain ⟨hI, _⟩ := hh.bt_inv
  obtain ⟨ok, _, _⟩ := hI.pg addr g hg
  have hbd := (hI.adr addr (by rw [hg]; rfl)).bd
  obtain ⟨o0, o1, o2, o3, o4⟩ := ok_lens ok
  have hpn := ok_pairs ok
  have HG := Lib.hid (bt_Get hh addr (by omega) (by omega))
  have hfa := find_at hpn.1 key (fr := (if g.n.keys[lowB g.n.keys key]? = some key then Value.tuple #[.int .i64 (lowB g.n.keys key : Nat), .bool true] else .tuple #[.int .i64 ((lowB g.n.keys key : Nat) - 1), .bool false])) (by rw [pairs_keys ok])
  obtain ⟨fr, hfr⟩ : ∃ fr : Value, (if g.n.keys[lowB g.n.keys key]? = some key then Value.tuple #[.int .i64 (lowB g.n.keys key : Nat), .bool true] else .tuple #[.int .i64 ((lowB g.n.keys key : Nat) - 1), .bool false]) = fr := ⟨_, rfl⟩
  rw [hfr] at hfa
  have HX := Lib.hid (And.intro hT (And.intro hs (And.intro hgk (And.intro hg ok))))
  have HKW := Lib.hid hK
  have HLn := Lib.hid (And.intro hpn (And.intro o2 (And.intro o3 o4)))
  have Hlv := Lib.hid hlv
  have Hfr := Lib.hid hfr
  have Hfa := Lib.hid hfa
  clear hT hs hgk hg ok hK hh hI hbd hpn o0 o1 o2 o3 o4 hlv hfr hfa
  obtain ⟨⟨lvI, keys, vals⟩, ho, he⟩ := g
  simp only at HG Hfr HLn Hlv
  go_wp2_with fail
  refine HG.out.mono ?_
  rintro r w1 ⟨hK1, (⟨h1, _⟩ | ⟨g', ak, ck, av, cv, h1, rfl, h3⟩)⟩
  ·rw [HX.out.2.2.2.1] at h1; cases h1
  rw [HX.out.2.2.2.1] at h1
  obtain rfl := Option.some.inj h1
  clear h1 HG
  simp only [Nd.val]
  have h4 := h3.alloc (.cells #[.int .i64 lvI, .slice ak keys.length ck, .slice av vals.length cv] 35)
  have hk4 := hK1.alloc (.cells #[.int .i64 lvI, .slice ak keys.length ck, .slice av vals.length cv] 35)
  have HFd := Lib.hid (node_Find ⟨lvI, keys, vals⟩ (w := w1.alloc (.cells #[.int .i64 lvI, .slice ak keys.length ck, .slice av vals.length cv] 35)) (kv := .slice ak keys.length ck) (vv := .slice av vals.length cv) (h4.rd (by simp)) (ok_rising HX.out.2.2.2.2) (by have := HLn.out.2.2.2; simp only at this ⊢; omega) key)
  simp only at HFd
  rw [Hfr.out] at HFd
  have H4 := Lib.hid h4
  have HK4 := Lib.hid hk4
  clear h3 h4 hK1 hk4 Hfr
  simp only [Nd.val] at HFd
  go_wp2_with fail
  refine HFd.out.mono ?_
  rintro r w2 ⟨rfl, hb2⟩
  have h5 := H4.out.below hb2
  have HK5 := Lib.hid (HKW.out.trans (HK4.out.trans (Kept.below hb2)))
  clear hb2 HFd H4 HK4 HKW
  generalize w1.heap.size = r12 at *
  have hg12 := h5.got
  have n0 : w2.cell? ⟨r12, 0, none⟩ = some (.int .i64 lvI) := cell_of hg12 0 rfl
  have n2 : w2.cell? ⟨r12, 2, none⟩ = some (.slice av vals.length cv) := cell_of hg12 2 rfl
  have l12 := World.block_lt_of_cell? _ _ n0
  have h6 : Has w2 (btS p bank sp N es Q :: l) := (h5.reord [3]).strip (M := [_, _, _])
  have hfa := Hfa.out
  clear Hfa
  rcases hfa with ⟨rfl, hlow⟩ | ⟨i, kv, ex, hp, rfl, hle, hdr, hex⟩
  ·have HF : Hid (FoundPost p bank sp N es Q L key l w (.returned (.tuple #[.int .i64 0, .bool false])) w2) := by
    refine ⟨HK5.out, ?_, h6⟩
    have h0 : (⟨lvI, keys, vals⟩ : Nd).pairs ≠ [] := fun h => by
     have q1 := HLn.out.1.2.2
     rw [h] at q1
     have := HLn.out.2.2.1
     simp at q1 this
     omega
    rw [foundV, HX.out.2.2.1, find_low HX.out.1 HX.out.2.1 HX.out.2.2.2.1 hlow h0]
   clear hlow h5 h6 hg12 HX HLn Hlv HK5
   go_wp2
   try simp only [Exit.jump]
   go_ret2
   exact HF.out
  ·obtain ⟨kv, vv⟩ := kv
   obtain ⟨va, vc, e1, _, hrv⟩ := h5.ints_read (v := .slice av vals.length cv) (xs := vals) (by simp)
   injection e1 with e1 e2 e3
   subst e1
   clear e2 e3
   have hpz := hp
   unfold Nd.pairs at hpz
   rw [List.getElem?_zip_eq_some] at hpz
   obtain ⟨hlv', hev⟩ := List.getElem?_eq_some_iff.1 hpz.2
   obtain ⟨gv, rfl, vc0, _⟩ := hrv i hlv'
   rw [hev] at vc0
   have lgv := World.block_lt_of_cell? _ _ vc0
   have ixI : (i : Int) < (vals.length : Int) := Int.ofNat_lt.2 hlv'
   have ix0 : (0 : Int) <= i := by omega
   have HPp := Lib.hid (And.intro hp (And.intro hle (And.intro hdr hex)))
   have H6 := Lib.hid h6
   have Hcnt : Hid (vals.length = vals.length) := rfl
   clear hp hle hdr hpz hlv' hev h5 h6 hg12 hrv
   generalize vals.length = nv at n2 ixI
   cases lv with
   | succ lv =>
    have hlI : (0 : Int) < lvI := by rw [Hlv.out]; omega
    obtain ⟨LM, sM, q1, q2, q3⟩ := find_mid HX.out.1 HX.out.2.1 HX.out.2.2.2.1 HPp.out.1 HPp.out.2.1 HPp.out.2.2.1
    have hlv2 := Hlv.out
    obtain ⟨gk, hgk1, hgk2⟩ := q1.get
    have HJ := Lib.hid (And.intro q1 (And.intro q2 (And.intro (HX.out.2.2.1.trans q3) (And.intro HK5.out (And.intro H6.out (And.intro HX.out.2.2.2.1 (And.intro hlv2 (And.intro hgk1 hgk2))))))))
    clear q1 q2 q3 hlv2 hgk1 hgk2 HX HLn Hlv HK5 HPp H6 Hcnt hex
    go_wp2
    go_step3
    simp +zetaDelta only [Exit.inBlock, Exit.then, Exit.jump]
    refine ⟨trivial, ⟨vv, lv, LM, sM, ⟨_, _, _, _, _, _, _, _, _, _, _, _, _, _, _, _, _, _, _, _, _, _, _, _, _, _, _, _, _, _, _, _, _, _, _, _, _, _, _, _, _, _, _, _, _, _, _, rfl⟩, HJ.out.1, HJ.out.2.1, HJ.out.2.2.1, HJ.out.2.2.2.1, HJ.out.2.2.2.2.1⟩, ?_⟩
    show lvAt Q vv < lvAt Q addr
    obtain ⟨_, _, _, _, _, j1, j2, j3, j4⟩ := HJ.out
    unfold lvAt
    rw [j1, j3]
    simp only [Option.map_some, Option.getD_some]
    omega
   | zero =>
    have hlI : lvI = 0 := Hlv.out
    subst hlI
    rcases hex with ⟨rfl, rfl⟩ | ⟨rfl, hlt⟩
    ·have HF : Hid (FoundPost p bank sp N es Q L kv l w (.returned (.tuple #[.int .i64 vv, .bool true])) w2) := by
      refine ⟨HK5.out, ?_, H6.out⟩
      obtain ⟨g', e1, _, rfl, _⟩ := HX.out.1
      rw [HX.out.2.2.2.1] at e1
      obtain rfl := Option.some.inj e1
      rw [foundV, HX.out.2.2.1, getK_at HX.out.2.1 (List.mem_of_getElem? HPp.out.1)]
     clear HX HLn Hlv HK5 HPp H6 Hcnt
     go_wp2
     try simp only [Exit.jump]
     go_ret2
     exact HF.out
    ·have HF : Hid (FoundPost p bank sp N es Q L key l w (.returned (.tuple #[.int .i64 0, .bool false])) w2) := by
      refine ⟨HK5.out, ?_, H6.out⟩
      obtain ⟨g', e1, _, rfl, _⟩ := HX.out.1
      rw [HX.out.2.2.2.1] at e1
      obtain rfl := Option.some.inj e1
      rw [foundV, HX.out.2.2.1, find_no HX.out.2.1 HPp.out.1 hlt HPp.out.2.2.1]
     clear HX HLn Hlv HK5 HPp H6 Hcnt hlt
     go_wp2
     try simp only [Exit.jump]
     go_ret2
     exact HF.out
end Go.Proofs.YtgbgneiciabidaaGreatDoor
