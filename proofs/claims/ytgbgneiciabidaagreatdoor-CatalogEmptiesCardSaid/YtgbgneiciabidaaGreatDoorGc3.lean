/-
  What must stand in a catalog's tree (layer 13).
-/
import Derived.Test.YtgbgneiciabidaaGreatDoorGc2
namespace Go.Proofs.YtgbgneiciabidaaGreatDoor
open Go Go.RowKit Go.ChangeMaps Go.Maps
set_option linter.all false
set_option maxHeartbeats 8000000
theorem Has.vols_read {w : World} {l : List Say} {v : Value} {L : List Vl} (h : Has w l) (hm : volsS v L ∈ l) :
  ∃ a c, v = .slice a L.length c /\ ∀ k u, L[k]? = some u -> ∃ g, a = some ⟨g, 0, none⟩ /\ w.cell? ⟨g, k * 4, none⟩ = some (.int .i64 u.id) /\ w.cell? ⟨g, k * 4 + 1, none⟩ = some (.int .i64 u.size) /\ w.cell? ⟨g, k * 4 + 2, none⟩ = some (.int .i64 u.root) /\ w.cell? ⟨g, k * 4 + 3, none⟩ = some (.int .i64 u.origin) := by
 obtain ⟨h1, h2⟩ := h.row_own hm
 rcases h2 with ⟨rfl, h0⟩ | ⟨g, cap, cur, rfl, _, hg, hn, hc, hs, ht⟩
 ·refine ⟨none, 0, by rw [h0], fun k p hp => ?_⟩
  have := (List.getElem?_eq_some_iff.1 hp).1
  omega
 ·refine ⟨_, cap, rfl, fun k u hp => ⟨g, rfl, ?_⟩⟩
  have hx : ∀ (L : List Vl) (k : Nat) (u : Vl), L[k]? = some u -> (L.flatMap Vl.cells)[k * 4]? = some (.int .i64 u.id) /\ (L.flatMap Vl.cells)[k * 4 + 1]? = some (.int .i64 u.size) /\ (L.flatMap Vl.cells)[k * 4 + 2]? = some (.int .i64 u.root) /\ (L.flatMap Vl.cells)[k * 4 + 3]? = some (.int .i64 u.origin) := by
   intro L
   induction L with
   | nil => intro k p hp; simp at hp
   | cons q L ih =>
    intro k p hp
    cases k with
    | zero => simp at hp; subst hp; simp [Vl.cells]
    | succ k =>
     have := ih k p (by simpa using hp)
     have e : (q :: L).flatMap Vl.cells = [.int .i64 q.id, .int .i64 q.size, .int .i64 q.root, .int .i64 q.origin] ++ L.flatMap Vl.cells := rfl
     rw [e]
     refine ⟨?_, ?_, ?_, ?_⟩
     ·rw [List.getElem?_append_right (by simp; omega)]; simpa [show (k + 1) * 4 - 4 = k * 4 by omega] using this.1
     ·rw [List.getElem?_append_right (by simp; omega)]; simpa [show (k + 1) * 4 + 1 - 4 = k * 4 + 1 by omega] using this.2.1
     ·rw [List.getElem?_append_right (by simp; omega)]; simpa [show (k + 1) * 4 + 2 - 4 = k * 4 + 2 by omega] using this.2.2.1
     ·rw [List.getElem?_append_right (by simp; omega)]; simpa [show (k + 1) * 4 + 3 - 4 = k * 4 + 3 by omega] using this.2.2.2
  obtain ⟨e1, e2, e3, e4⟩ := hx L k u hp
  have take : ∀ (j : Nat) (u : Value), (L.flatMap Vl.cells)[j]? = some u -> cur[j]? = some u := by
   intro j u hu
   rw [<- ht, List.getElem?_take] at hu
   split at hu
   ·simpa using hu
   ·cases hu
  exact ⟨cell_of hg _ (take _ _ e1), cell_of hg _ (take _ _ e2), cell_of hg _ (take _ _ e3), cell_of hg _ (take _ _ e4)⟩
def ctPairs (M : List (Int × Vl)) : List KV := (M.map (·.2)).flatMap Vl.pairs
theorem Vl.pairs_len (v : Vl) : v.pairs.length <= 3 := by unfold Vl.pairs; split <;> split <;> simp
theorem flat_pairs_len (L : List Vl) : (L.flatMap Vl.pairs).length <= 3 * L.length := by
 induction L with
 | nil => simp
 | cons v L ih =>
  have := v.pairs_len
  rw [List.flatMap_cons, List.length_append, List.length_cons]
  omega
def CPm (w : World) (M : List (Int × Vl)) (l : List Say) (v : Value) (k : Nat) (ov : Value) (wr : World) : Prop := Kept w wr /\ Has wr (pairsS ov (((M.map (·.2)).take k).flatMap Vl.pairs) :: volsS v (M.map (·.2)) :: l)
def CatPairs (M : List (Int × Vl)) (l : List Say) (w : World) (r : Ending) (w' : World) : Prop := ∃ v, r = .returned v /\ Kept w w' /\ Has w' (pairsS v (ctPairs M) :: l)
set_option maxRecDepth 100000 in
theorem cat_pairs {w : World} {l : List Say} {c p : Nat} {M : List (Int × Vl)} {a : Int} (h : Has w (catS c p M a :: l)) :
  Calls Tryz.prog 112 #[.pointer (some ⟨c, 0, none⟩)] w (CatPairs M (catS c p M a :: l) w) := by
 have ok : CatOk M := by obtain ⟨_, _, ok, _⟩ := h.cat_open; exact ok
 have HL := Lib.hid (cat_List h)
 have Ok := Lib.hid ok
 clear h ok
 go_enter Tryz.func112, Tryz.ntmps112
 go_wp2_with fail
 refine HL.out.mono ?_
 rintro r w2 ⟨v, rfl, hK2, h2⟩
 obtain ⟨ga, gc, rfl, _⟩ := h2.vols_read (.head _)
 have HM0 : Hid (CPm w M (catS c p M a :: l) (.slice ga (M.map (·.2)).length gc) 0 (.slice none 0 0) w2) := ⟨hK2, h2.row_nil _ _⟩
 rw [List.length_map] at HM0 ⊢
 obtain ⟨n, hn⟩ : ∃ n, M.length = n := ⟨_, rfl⟩
 rw [hn] at HM0 ⊢
 have Hn := Lib.hid hn
 have hn32 : (n : Int) <= 32 := by have := Ok.out.len; omega
 clear hK2 h2 HL hn
 go_wp2
 go_loopg [3, 9] n (fun gk ov i wr => ∃ k : Nat, k <= n /\ gk = n - k /\ i = .int .i64 k /\ Hid (CPm w M (catS c p M a :: l) (.slice ga n gc) k ov wr))
 case atStart => exact ⟨0, Nat.zero_le _, rfl, rfl, HM0⟩
 case round =>
  clear HM0
  obtain ⟨k, hk, rfl, rfl, HM⟩ := hrel
  obtain ⟨hK, hh⟩ := HM.out
  clear HM
  by_cases hlt : k < n
  ·obtain ⟨x, hx⟩ : ∃ x, M[k]? = some x := ⟨_, List.getElem?_eq_getElem (by have := Hn.out; omega)⟩
   obtain ⟨id, v⟩ := x
   have hr := (Ok.out.right _ (List.mem_of_getElem? hx)).2
   simp only at hr
   have hxv : (M.map (·.2))[k]? = some v := by rw [List.getElem?_map, hx]; rfl
   obtain ⟨_, _, e1, r1⟩ := hh.vols_read (v := .slice ga n gc) (L := M.map (·.2)) (.tail _ (.head _))
   injection e1 with e1 e2 e3
   subst e1
   obtain ⟨g, rfl, x0, x1, x2, x3⟩ := r1 k v hxv
   obtain ⟨vi, vs, vr, vo⟩ := v
   simp only at x0 x1 x2 x3
   have lx := World.block_lt_of_cell? _ _ x0
   have kI : (k : Int) < (n : Int) := by omega
   have k0 : (0 : Int) <= k := by omega
   have htk := (take_succ hxv).1
   have HP := Lib.hid (vol_pairs ⟨vi, vs, vr, vo⟩ hr (hh.alloc_off (.cells #[.int .i64 vi, .int .i64 vs, .int .i64 vr, .int .i64 vo] 106)))
   have HK := Lib.hid (hK.alloc (.cells #[.int .i64 vi, .int .i64 vs, .int .i64 vr, .int .i64 vo] 106))
   have Htk := Lib.hid htk
   have Hln : Hid ((((M.map (·.2)).take k).flatMap Vl.pairs).length + (⟨vi, vs, vr, vo⟩ : Vl).pairs.length <= 1000000) := by
    have a1 := flat_pairs_len ((M.map (·.2)).take k)
    have a2 := Vl.pairs_len ⟨vi, vs, vr, vo⟩
    have a3 : ((M.map (·.2)).take k).length <= k := List.length_take_le _ _
    refine Lib.hid ?_
    omega
   unfold Vl.val at HP
   clear hK hh e2 e3 r1 hr htk hx hxv
   go_wp2_with fail
   refine HP.out.mono ?_
   rintro r w3 ⟨pv, rfl, hK3, h3⟩
   have H3 := Lib.hid h3.swap
   have HK3 := Lib.hid (HK.out.trans hK3)
   clear hK3 h3 HP HK x0 x1 x2 x3 lx
   go_upto_region 6 with (at_builtin; refine wpList_append_pairs rfl (.tmp 13) (.tmp 15) rfl rfl rfl H3.out (.head _) Hln.out ?_; intro v4 w4 hK4 h4)
   have HM2 : Hid (CPm w M (catS c p M a :: l) (.slice (some ⟨g, 0, none⟩) n gc) (k + 1) v4 w4) := ⟨HK3.out.trans hK4, by rw [Htk.out, List.flatMap_append, List.flatMap_singleton]; exact Has.skip (A := [_]) (M := [_]) h4⟩
   clear hK4 h4 H3 HK3 Htk Hln
   go_wp2
   go_roundg (n - (k + 1))
   case measure => omega
   case rel => exact ⟨k + 1, by omega, rfl, by go_num, HM2⟩
  ·have hke : k = n := by omega
   subst hke
   have HF : Hid (Kept w wr /\ Has wr (pairsS u3 (ctPairs M) :: catS c p M a :: l)) := by
    refine ⟨hK, ?_⟩
    rw [List.take_of_length_le (by rw [List.length_map, Hn.out]; omega)] at hh
    exact Has.skip (A := [_]) (M := [_]) hh
   clear hK hh
   go_wp2
   go_ret
   exact ⟨_, rfl, HF.out.1, HF.out.2⟩
end Go.Proofs.YtgbgneiciabidaaGreatDoor
/-
  Is a key among pairs? (slices.ContainsFunc with the closure of Save.)
-/
namespace Go.Proofs.YtgbgneiciabidaaGreatDoor
open Go Go.RowKit
set_option linter.all false
set_option maxHeartbeats 8000000
theorem Below.chain {n m : Nat} {a b c : World} (h : Below n a b) (k : Below m b c) (hm : n <= m) : Below n a c := h.trans (k.mono hm)
theorem save_1 {w : World} (b : Nat) (yk yv xk : Int) (h0 : w.cell? ⟨b, 0, none⟩ = some (.int .i64 xk)) :
  Calls Tryz.prog 114 #[.agg #[.int .i64 yk, .int .i64 yv], .pointer (some ⟨b, 0, none⟩)] w fun e w' => e = .returned (.bool (yk == xk)) /\ Below w.heap.size w w' := by
 have l0 := World.block_lt_of_cell? _ _ h0
 go_enter Tryz.func114, Tryz.ntmps114
 go_wp2
 go_ret
 exact ⟨rfl, (Below.refl _ _).alloc (Nat.le_refl _) _⟩
theorem may_save1 : May 114 := ⟨Tryz.f114, Tryz.func114, by kernel_rfl, by kernel_rfl⟩
def hasK (ps : List KV) (x : Int) : Bool := ps.any fun p => p.1 == x
set_option maxRecDepth 100000 in
theorem pairs_Index {w : World} {l : List Say} {v : Value} {ps : List KV} {b : Nat} {xk xv : Int} (h : Has w l) (hm : pairsS v ps ∈ l) (hb : pts b (.cells #[.int .i64 xk, .int .i64 xv] 87 (0, 0)) ∈ l) (hl : ps.length <= 1000000) :
  Calls Tryz.prog 172 #[v, .func (.func 114) #[] #[.pointer (some ⟨b, 0, none⟩)]] w fun e w' => e = .returned (.int .i64 (firstAt (fun k => k == xk) (ps.map (·.1)))) /\ Below w.heap.size w w' := by
 have hcall := fun (vs : Array Value) (w : World) => may_save1.run vs w
 obtain ⟨a, c, rfl, _, _⟩ := h.pairs_read hm
 obtain ⟨n, hn⟩ : ∃ n, ps.length = n := ⟨_, rfl⟩
 have hbw := h.at hb
 have B0 := Lib.hid (World.block_lt_of_cell? _ _ (cell_of hbw 0 rfl))
 have H := Lib.hid (And.intro h (And.intro hm hb))
 rw [hn]
 have Hn := Lib.hid hn
 have hnI : (n : Int) <= 1000000 := by omega
 clear h hm hb hbw hn hl
 go_enter Tryz.func172, Tryz.ntmps172
 go_wp2
 go_loopg [8] n (fun gk i wr => ∃ k : Nat, k <= n /\ gk = n - k /\ i = .int .i64 k /\ Hid (Below w.heap.size w wr /\ ∀ j (h : j < (ps.map (·.1)).length), j < k -> ((ps.map (·.1))[j] == xk) = false))
 case atStart => exact ⟨0, Nat.zero_le _, rfl, rfl, ⟨Below.refl _ _, fun _ _ h => absurd h (Nat.not_lt_zero _)⟩⟩
 case round =>
  obtain ⟨k, hk, rfl, rfl, HB⟩ := hrel
  by_cases hlt : k < n
  ·have hh := H.out.1.below HB.out.1
   obtain ⟨_, _, e1, _, r1⟩ := hh.pairs_read H.out.2.1
   injection e1 with e1 e2 e3
   subst e1
   obtain ⟨x, hx⟩ : ∃ x, ps[k]? = some x := ⟨_, List.getElem?_eq_getElem (by have := Hn.out; omega)⟩
   obtain ⟨g, rfl, x0, x1⟩ := r1 k x hx
   obtain ⟨yk, yv⟩ := x
   simp only at x0 x1
   have lx := World.block_lt_of_cell? _ _ x0
   have kI : (k : Int) < (n : Int) := by omega
   have k0 : (0 : Int) <= k := by omega
   have hat : (ps.map (·.1))[k]? = some yk := by rw [List.getElem?_map, hx]; rfl
   have HC := Lib.hid (save_1 (w := wr) b yk yv xk (cell_of (hh.at H.out.2.2) 0 rfl))
   have Hat := Lib.hid hat
   clear hh e2 e3 r1 hx hat
   by_cases he : (yk == xk) = true
   ·rw [he] at HC
    have hf := firstAt_hit (fun k => k == xk) (ps.map (·.1)) k (List.getElem?_eq_some_iff.1 Hat.out).1 (fun j hj => HB.out.2 j (Nat.lt_trans hj (List.getElem?_eq_some_iff.1 Hat.out).1) hj) (by rw [(List.getElem?_eq_some_iff.1 Hat.out).2]; exact he)
    have Hf := Lib.hid hf
    clear hf he
    go_wp2_with fail
    refine HC.out.mono ?_
    rintro e w' ⟨rfl, hb'⟩
    have HF := Lib.hid (Below.chain HB.out.1 hb' HB.out.1.size)
    clear HC HB hb' Hat
    go_wp2
    go_ret
    exact ⟨by rw [Hf.out]; rfl, HF.out⟩
   ·have he : (yk == xk) = false := by simpa using he
    rw [he] at HC
    have He := Lib.hid he
    clear he
    go_wp2_with fail
    refine HC.out.mono ?_
    rintro e w' ⟨rfl, hb'⟩
    have HF : Hid (Below w.heap.size w w' /\ ∀ j (h : j < (ps.map (·.1)).length), j < k + 1 -> ((ps.map (·.1))[j] == xk) = false) := ⟨Below.chain HB.out.1 hb' HB.out.1.size, fun j hj hjk => by
     by_cases e : j = k
     ·subst e; rw [(List.getElem?_eq_some_iff.1 Hat.out).2]; exact He.out
     ·exact HB.out.2 j hj (by omega)⟩
    clear HC HB hb' Hat He
    go_wp2
    go_roundg (n - (k + 1))
    case measure => omega
    case rel => exact ⟨k + 1, by omega, rfl, by go_num, HF⟩
  ·have e := firstAt_none (fun k => k == xk) (ps.map (·.1)) fun j h => HB.out.2 j h (by rw [List.length_map] at h; have := Hn.out; omega)
   have He := Lib.hid (And.intro e HB.out.1)
   clear e HB
   go_wp2
   go_ret
   exact ⟨by rw [He.out.1]; rfl, He.out.2⟩
theorem pairs_Contains {w : World} {l : List Say} {v : Value} {ps : List KV} {b : Nat} {xk xv : Int} (h : Has w l) (hm : pairsS v ps ∈ l) (hb : pts b (.cells #[.int .i64 xk, .int .i64 xv] 87 (0, 0)) ∈ l) (hl : ps.length <= 1000000) :
  Calls Tryz.prog 113 #[v, .func (.func 114) #[] #[.pointer (some ⟨b, 0, none⟩)]] w fun e w' => e = .returned (.bool (hasK ps xk)) /\ Below w.heap.size w w' := by
 have H := Lib.hid (pairs_Index h hm hb hl)
 have he : decide (0 <= firstAt (fun k => k == xk) (ps.map (·.1))) = hasK ps xk := by rw [firstAt_any, List.any_map]; rfl
 have He := Lib.hid he
 clear h hm hb hl he
 generalize hfa : firstAt (fun k => k == xk) (ps.map (·.1)) = fa at *
 clear hfa
 go_enter Tryz.func113, Tryz.ntmps113
 go_wp2_with fail
 refine H.out.mono ?_
 rintro e w' ⟨rfl, hb'⟩
 have HB := Lib.hid hb'
 clear hb' H
 by_cases h0 : 0 <= fa
 ·have hd : hasK ps xk = true := by rw [<- He.out]; simpa using h0
  have Hd := Lib.hid hd
  clear hd He
  go_wp2
  go_ret
  exact ⟨by rw [Hd.out]; simp [h0], HB.out⟩
 ·have hd : hasK ps xk = false := by rw [<- He.out]; simpa using h0
  have Hd := Lib.hid hd
  clear hd He
  go_wp2
  go_ret
  exact ⟨by rw [Hd.out]; simp [h0], HB.out⟩
/-
  Save (layer 13), in plain Lean: what is taken out, what is put in; the tree never meets a full store.
-/
def delStep (W : List KV) (T : List KV) (x : KV) : List KV := if hasK W x.1 = true then T else delL T x.1
def delF (W T : List KV) (ks : List KV) : List KV := ks.foldl (delStep W) T
def setF (T ks : List KV) : List KV := ks.foldl (fun T p => putL T p.1 p.2) T
theorem delF_snoc (W T ks : List KV) (x : KV) : delF W T (ks ++ [x]) = delStep W (delF W T ks) x := by simp [delF]
theorem setF_snoc (T ks : List KV) (x : KV) : setF T (ks ++ [x]) = putL (setF T ks) x.1 x.2 := by simp [setF]
theorem delF_srt (W : List KV) : ∀ (ks : List KV) {T : List KV}, Srt T -> Srt (delF W T ks)
 | [], _, h => h
 | x :: ks, T, h => delF_srt W ks (T := delStep W T x) (by unfold delStep; split; exact h; exact delL_srt h _)
theorem setF_srt : ∀ (ks : List KV) {T : List KV}, Srt T -> Srt (setF T ks)
 | [], _, h => h
 | x :: ks, T, h => setF_srt ks (T := putL T x.1 x.2) (putL_srt h _ _)
theorem delF_iff (W : List KV) : ∀ (ks : List KV) {T : List KV} {p : KV}, p ∈ delF W T ks ↔ p ∈ T /\ (hasK W p.1 = true \/ p.1 ∉ ks.map (·.1))
 | [], T, p => by simp [delF]
 | x :: ks, T, p => by
  have ih := delF_iff W ks (T := delStep W T x) (p := p)
  show p ∈ delF W (delStep W T x) ks ↔ _
  rw [ih]
  have hs : p ∈ delStep W T x ↔ p ∈ T /\ (hasK W p.1 = true \/ p.1 ≠ x.1) \/ (p ∈ T /\ hasK W x.1 = true) := by
   unfold delStep
   by_cases h : hasK W x.1 = true
   ·rw [if_pos h]
    constructor
    ·exact fun hp => .inr ⟨hp, h⟩
    ·rintro (⟨hp, _⟩ | ⟨hp, _⟩) <;> exact hp
   ·rw [if_neg h, delL_iff]
    constructor
    ·exact fun hp => .inl ⟨hp.1, .inr hp.2⟩
    ·rintro (⟨hp, (h1 | h1)⟩ | ⟨_, h1⟩)
     ·exact ⟨hp, fun e => h (e ▸ h1)⟩
     ·exact ⟨hp, h1⟩
     ·exact absurd h1 h
  rw [hs]
  simp only [List.map_cons, List.mem_cons, not_or]
  constructor
  ·rintro ⟨(⟨hp, h1⟩ | ⟨hp, h1⟩), h2⟩
   ·refine ⟨hp, ?_⟩
    rcases h1 with h1 | h1
    ·exact .inl h1
    ·rcases h2 with h2 | h2
     ·exact .inl h2
     ·exact .inr ⟨h1, h2⟩
   ·refine ⟨hp, ?_⟩
    rcases h2 with h2 | h2
    ·exact .inl h2
    ·by_cases e : p.1 = x.1
     ·exact .inl (e ▸ h1)
     ·exact .inr ⟨e, h2⟩
  ·rintro ⟨hp, (h1 | ⟨h1, h2⟩)⟩
   ·exact ⟨.inl ⟨hp, .inl h1⟩, .inl h1⟩
   ·exact ⟨.inl ⟨hp, .inr h1⟩, .inr h2⟩
theorem setF_iff : ∀ (ks : List KV) {T : List KV} {p : KV}, Srt ks -> (p ∈ setF T ks ↔ p ∈ ks \/ (p ∈ T /\ p.1 ∉ ks.map (·.1)))
 | [], T, p, _ => by simp [setF]
 | x :: ks, T, p, h => by
  obtain ⟨h1, h2⟩ := List.pairwise_cons.1 h
  have ih := setF_iff ks (T := putL T x.1 x.2) (p := p) h2
  have hx : x.1 ∉ ks.map (·.1) := by
   intro hm
   obtain ⟨q, hq, e⟩ := List.mem_map.1 hm
   have := h1 q hq
   omega
  show p ∈ setF (putL T x.1 x.2) ks ↔ _
  rw [ih, putL_iff]
  simp only [List.map_cons, List.mem_cons, not_or]
  constructor
  ·rintro (hp | ⟨(hp | ⟨hp, e⟩), h3⟩)
   ·exact .inl (.inr hp)
   ·exact .inl (.inl hp)
   ·exact .inr ⟨hp, e, h3⟩
  ·rintro ((hp | hp) | ⟨hp, e, h3⟩)
   ·refine .inr ⟨.inl hp, ?_⟩
    rw [hp]; exact hx
   ·exact .inl hp
   ·exact .inr ⟨.inr ⟨hp, e⟩, h3⟩
theorem hasK_iff {W : List KV} {k : Int} : hasK W k = true ↔ ∃ q ∈ W, q.1 = k := by unfold hasK; simp
theorem save_all {L W : List KV} (hL : Srt L) (hW : Srt W) : setF (delF W L L) W = W := by
 refine srt_ext (setF_srt W (delF_srt W L hL)) hW fun p => ?_
 rw [setF_iff W hW, delF_iff]
 constructor
 ·rintro (h | ⟨⟨hp, h1⟩, h2⟩)
  ·exact h
  ·rcases h1 with h1 | h1
   ·obtain ⟨q, hq, e⟩ := hasK_iff.1 h1
    exact absurd (List.mem_map.2 ⟨q, hq, e⟩) h2
   ·exact absurd (List.mem_map.2 ⟨p, hp, rfl⟩) h1
 ·exact fun h => .inl h
theorem putL_same {T : List KV} (h : Srt T) {x : KV} (hx : getK T x.1 = some x.2) : putL T x.1 x.2 = T := by
 have hm : x ∈ T := by
  unfold getK at hx
  obtain ⟨y, hy, e⟩ := Option.map_eq_some_iff.1 hx
  have h1 := List.find?_some hy
  have h2 := List.mem_of_find?_eq_some hy
  have e1 : y.1 = x.1 := by simpa using h1
  have : y = x := Prod.ext e1 e
  rw [<- this]; exact h2
 refine srt_ext (putL_srt h _ _) h fun p => ?_
 rw [putL_iff]
 constructor
 ·rintro (rfl | ⟨hp, _⟩)
  ·exact hm
  ·exact hp
 ·intro hp
  by_cases e : p.1 = x.1
  ·left
   have := getK_at h (k := p.1) (v := p.2) hp
   rw [e, hx] at this
   exact Prod.ext e (Option.some.inj this).symm
  ·exact .inr ⟨hp, e⟩
theorem srt_take {L : List KV} (h : Srt L) {k : Nat} {x : KV} (hx : L[k]? = some x) : x.1 ∉ (L.take k).map (·.1) := by
 intro hm
 obtain ⟨q, hq, e⟩ := List.mem_map.1 hm
 have hts := take_succ hx
 have hs : Srt (L.take k ++ (x :: L.drop (k + 1))) := by rw [<- hts.2]; exact h
 have := hs.lt hq (.head _)
 omega
theorem del_there {L W : List KV} (h : Srt L) {k : Nat} {x : KV} (hx : L[k]? = some x) : ∃ q ∈ delF W L (L.take k), q.1 = x.1 := ⟨x, (delF_iff W _).2 ⟨List.mem_of_getElem? hx, .inr (srt_take h hx)⟩, rfl⟩
theorem del_same (W : List KV) : ∀ (ks : List KV), (∀ x ∈ ks, x ∈ W) -> delF W W ks = W
 | [], _ => rfl
 | x :: ks, h => by
  show delF W (delStep W W x) ks = W
  have : delStep W W x = W := by unfold delStep; rw [if_pos (hasK_iff.2 ⟨x, h x (.head _), rfl⟩)]
  rw [this]
  exact del_same W ks fun y hy => h y (.tail _ hy)
theorem set_same {W : List KV} (hW : Srt W) : ∀ (ks : List KV), (∀ x ∈ ks, x ∈ W) -> setF W ks = W
 | [], _ => rfl
 | x :: ks, h => by
  show setF (putL W x.1 x.2) ks = W
  rw [putL_same hW (getK_at hW (h x (.head _)))]
  exact set_same hW ks fun y hy => h y (.tail _ hy)
theorem full_one {es : List Ent} {Q : Pgs} {m : Nat} (hm : m <= 4096) (h : FullQ es Q) (he : es[0]? = some ⟨1, m⟩) : m - 2 <= Q.length := by
 have hup : VMap.Up ((List.range (m - 2)).map fun i => (lenV 0 (i + 2), (⟨⟨0, [], []⟩, 0, 0⟩ : Pg))) := by
  refine List.pairwise_map.2 (List.Pairwise.imp ?_ List.pairwise_lt_range)
  intro a b hab
  show lenV 0 (a + 2) < lenV 0 (b + 2)
  unfold lenV
  omega
 have := len_in hup (Z := Q.map (·.1)) fun a g hg => by
  obtain ⟨i, hi, e⟩ := List.mem_map.1 (get_mem hg)
  injection e with e _
  have hi := List.mem_range.1 hi
  have h1 := h 0 ⟨1, m⟩ he rfl (i + 2) (by omega) (by show i + 2 < m; omega)
  rw [e] at h1
  obtain ⟨g', hg'⟩ := Option.isSome_iff_exists.1 h1
  exact List.mem_map.2 ⟨(a, g'), get_mem hg', rfl⟩
 rw [List.length_map, List.length_map, List.length_range] at this
 exact this
def RoomTo (p bank sp N : Nat) (es : List Ent) (Q : Pgs) (a : Int) (ts : List Tre) (L' : List KV) (B : Nat) (l : List Say) (w : World) (r : Ending) (w' : World) : Prop :=
 ∃ ta Q' s', r = .returned (.tuple #[.int .i64 ta, .nilIface]) /\ Kept w w' /\ s' <= B /\ Grove Q' (⟨ta, L', s'⟩ :: ts) /\ (a = 0 -> Next es Q ta) /\ Has w' (btS p bank sp (N + 50) es Q' :: l)
theorem TreePost.room {p bank sp N : Nat} {es : List Ent} {Q : Pgs} {a : Int} {L L' : List KV} {s B m : Nat} {ts : List Tre} {l : List Say} {w w' : World} {r : Ending} (h : TreePost p bank sp N es Q a L' B l w r w') (hI : FInv es Q (fun _ => 0)) (hm : m <= 4096) (he : es[0]? = some ⟨1, m⟩) (hG : Grove Q (⟨a, L, s⟩ :: ts)) (hw : s + weighs ts + 110 <= 2 * m - 4) : RoomTo p bank sp N es Q a ts L' B l w r w' := by
 obtain ⟨hK, Q', hL, hh, (⟨_, ⟨Q1, news, hp, hn, hf, _⟩, _⟩ | ⟨ta, s', hr, hmv, hB, hR, hnx⟩)⟩ := h
 ·have a1 := full_one hm hf he
  have a2 := hp.len hI.up (hp.inv hI).up
  have a3 := hG.pages hI
  have a4 : weighs (⟨a, L, s⟩ :: ts) = s + weighs ts := rfl
  omega
 ·exact ⟨ta, Q', s', hr, hK, hB, hG.moved hL hmv hR, hnx, hh⟩
theorem room_Set {w : World} {l : List Say} {p bank sp N m : Nat} {es : List Ent} {Q : Pgs} (a key val : Int) {L : List KV} {s : Nat} {ts : List Tre} (h : Has w (btS p bank sp N es Q :: l)) (ht : Tab l) (hm : m <= 4096) (he : es[0]? = some ⟨1, m⟩) (hG : Grove Q (⟨a, L, s⟩ :: ts)) (hw : s + weighs ts + 110 <= 2 * m - 4) (hN : N <= 200000) (hp : pairOk key val = true) :
  Calls Tryz.prog 39 #[.pointer (some ⟨p, 0, none⟩), .int .i64 a, .int .i64 key, .int .i64 val] w (RoomTo p bank sp N es Q a ts (putL L key val) (max s 1 + 1) l w) := by
 have hI := h.bt_inv.1
 refine (bt_Set a key val h ht (hG.root _ (.head _)) hG.live hN (by show s <= 900000; omega)).mono ?_
 rintro r w' (⟨hno, _⟩ | ⟨_, ht⟩)
 ·rw [hp] at hno; cases hno
 ·exact ht.room hI hm he hG hw
theorem room_Delete {w : World} {l : List Say} {p bank sp N m : Nat} {es : List Ent} {Q : Pgs} (a key : Int) {L : List KV} {s : Nat} {ts : List Tre} (h : Has w (btS p bank sp N es Q :: l)) (ht : Tab l) (hm : m <= 4096) (he : es[0]? = some ⟨1, m⟩) (hG : Grove Q (⟨a, L, s⟩ :: ts)) (hw : s + weighs ts + 110 <= 2 * m - 4) (hN : N <= 200000) (hk : ∃ x ∈ L, x.1 = key) :
  Calls Tryz.prog 44 #[.pointer (some ⟨p, 0, none⟩), .int .i64 a, .int .i64 key] w (RoomTo p bank sp N es Q a ts (delL L key) s l w) := by
 have hI := h.bt_inv.1
 have hR := hG.root _ (.head _)
 refine (bt_Delete a key h ht hR hG.live hN (by show s <= 900000; omega)).mono ?_
 rintro r w' (⟨hno, _⟩ | ⟨_, ht⟩)
 ·obtain ⟨v, hv⟩ := getK_has hR.srt hk
  rw [hv] at hno; cases hno
 ·exact ht.room hI hm he hG hw
theorem vl_pairs_mem {v : Vl} {p : KV} (h : p ∈ v.pairs) : p = (v.id * 4, v.size) \/ (p = (v.id * 4 + 1, v.root) /\ v.root ≠ 0) \/ (p = (v.id * 4 + 2, v.origin) /\ v.origin ≠ 0) := by
 unfold Vl.pairs at h
 rcases List.mem_cons.1 h with h | h
 ·exact .inl h
 ·rcases List.mem_append.1 h with h | h
  ·by_cases e : v.root = 0
   ·rw [if_pos e] at h; cases h
   ·rw [if_neg e] at h; exact .inr (.inl ⟨by simpa using h, e⟩)
  ·by_cases e : v.origin = 0
   ·rw [if_pos e] at h; cases h
   ·rw [if_neg e] at h; exact .inr (.inr ⟨by simpa using h, e⟩)
theorem vl_pairs_srt (v : Vl) : Srt v.pairs := by
 unfold Vl.pairs
 by_cases e : v.root = 0
 ·by_cases f : v.origin = 0
  ·rw [if_pos e, if_pos f]; simp [Srt]
  ·rw [if_pos e, if_neg f]; simp [Srt]; omega
 ·by_cases f : v.origin = 0
  ·rw [if_neg e, if_pos f]; simp [Srt]; omega
  ·rw [if_neg e, if_neg f]
   simp [Srt]; omega
theorem ctPairs_srt {M : List (Int × Vl)} (h : CatOk M) : Srt (ctPairs M) := by
 unfold ctPairs Srt
 rw [List.pairwise_flatMap]
 refine ⟨fun v _ => vl_pairs_srt v, ?_⟩
 refine List.pairwise_map.2 (List.Pairwise.imp_of_mem (R := fun a b : Int × Vl => a.1 < b.1) ?_ h.up)
 intro a b ha hb hab x hx y hy
 have h1 := (h.right a ha).1
 have h2 := (h.right b hb).1
 rcases vl_pairs_mem hx with rfl | ⟨rfl, _⟩ | ⟨rfl, _⟩ <;> rcases vl_pairs_mem hy with rfl | ⟨rfl, _⟩ | ⟨rfl, _⟩ <;> simp only <;> omega
theorem ctPairs_ok {M : List (Int × Vl)} (h : CatOk M) : ∀ p ∈ ctPairs M, pairOk p.1 p.2 = true := by
 intro p hp
 obtain ⟨v, hv, hp⟩ := List.mem_flatMap.1 hp
 obtain ⟨q, hq, rfl⟩ := List.mem_map.1 hv
 have hr := Vl.rights (h.right q hq).2
 unfold pairOk
 simp only [Bool.and_eq_true, decide_eq_true_eq]
 rcases vl_pairs_mem hp with rfl | ⟨rfl, h0⟩ | ⟨rfl, h0⟩ <;> simp only <;> omega
theorem ctPairs_len {M : List (Int × Vl)} (h : CatOk M) : (ctPairs M).length <= 96 := by
 have h1 := flat_pairs_len (M.map (·.2))
 have h2 := h.len
 rw [List.length_map] at h1
 show ((M.map (·.2)).flatMap Vl.pairs).length <= 96
 omega
end Go.Proofs.YtgbgneiciabidaaGreatDoor
