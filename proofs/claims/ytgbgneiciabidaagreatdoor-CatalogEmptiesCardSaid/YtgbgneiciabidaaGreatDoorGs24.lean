/-
  Plain: slices.Replace at pairs, all roads.
-/
import Derived.Test.YtgbgneiciabidaaGreatDoorGs23
import Derived.Test.YtgbgneiciabidaaGreatDoorGs18
import Derived.Test.YtgbgneiciabidaaGreatDoorGs22
namespace Go.Proofs.YtgbgneiciabidaaGreatDoor
open Go Go.RowKit
set_option linter.all false
set_option maxHeartbeats 8000000
set_option maxRecDepth 100000 in
theorem sl_Rep_cut {w : World} {l : List Say} (ps : List (Int × Int)) {g cap cx : Nat} {cur : Array Value} (i : Nat) (hi : ps.length = i + 1) (hl : ps.length <= 100) (hcap : ps.length <= cap) (hcm : cap <= maxLen) (hcs : cur.size = cap * 2) (htk : cur.toList.take (ps.length * 2) = ps.flatMap pairCells)
  (hh : Has w (pts g (.cells cur 87 (0, 0)) :: l)) (va : Option Addr) :
  Calls Tryz.prog 238 #[.slice (some ⟨g, 0, none⟩) ps.length cap, .int .i64 i, .int .i64 ((i : Int) + 1), .slice va 0 cx] w (PairsPost (repP ps i []) l w) := by
 obtain ⟨i0, I1, I2, I3, I4⟩ := info_parts info_pair
 have iI : (i : Int) < 100 := by omega
 have i0I : (0 : Int) <= i := by omega
 have cI : (i : Int) + 1 <= (cap : Int) := by omega
 have cM : (cap : Int) <= 9223372036854775807 := by simp [maxLen] at hcm; omega
 have hap := run_append_no (P := Tryz.prog) w 75 75 87 i0 Tryz.underlying75 I1 (some ⟨g, 0, none⟩) i cap (by omega) va cx
 have hcl : cur.toList.length = cap * 2 := by rw [Array.length_toList]; exact hcs
 have hrun := run_clear_rowN (P := Tryz.prog) w 75 87 0 i0 (.agg #[.int .i64 0, .int .i64 0]) Tryz.underlying75 I1 I2 g (i * 2) 1 (cap - i) (by omega) cur 87 hh.got (by rw [hcs]; show i * 2 + 1 * 2 <= _; omega) (by rw [zero1]; intro v hv; simp at hv; subst hv; rfl)
 obtain ⟨cur2, hc2⟩ : ∃ cur2 : Array Value, cur2 = (ovr cur.toList (i * 2) (Builtin.zeroCells (Value.agg #[.int .i64 0, .int .i64 0]).cells 1).toList).toArray := ⟨_, rfl⟩
 have hz2 : (Builtin.zeroCells (Value.agg #[.int .i64 0, .int .i64 0]).cells 1).toList.length = 2 := by rw [zero1]; rfl
 have hc2' : (cur.toList.take (i * 2) ++ (Builtin.zeroCells (Value.agg #[.int .i64 0, .int .i64 0]).cells 1).toList ++ cur.toList.drop (i * 2 + 1 * (Value.agg #[.int .i64 0, .int .i64 0]).cells.size)).toArray = cur2 := by
  rw [hc2]; unfold ovr; rw [hz2]; rfl
 rw [hc2'] at hrun
 have hone : i + 1 - i = 1 := by omega
 have hrun2 := hrun
 rw [show (Builtin.clear_ #[75] 0 #[.slice (some ⟨g, i * 2, none⟩) 1 (cap - i)]) = (Builtin.clear_ #[75] 0 #[.slice (some ⟨g, i * 2, none⟩) (i + 1 - i) (cap - i)]) by rw [hone]] at hrun2
 have h10 := Has.setRow hh cur2
 have HF2 : Hid (PairsPost (repP ps i []) l w (.returned (.slice (some ⟨g, 0, none⟩) i cap)) (w.setRow g cur2)) := by
  have hc2l : cur2.toList = ovr cur.toList (i * 2) (Builtin.zeroCells (Value.agg #[.int .i64 0, .int .i64 0]).cells 1).toList := by rw [hc2]
  have hc2s : cur2.size = cap * 2 := by rw [<- Array.length_toList, hc2l, len_ovr _ _ _ (by omega), hcl]
  have hrl : (repP ps i []).length = i := by rw [repP_len _ _ _ (by omega)]; simp; omega
  have hrf : (repP ps i []).flatMap pairCells = (ps.flatMap pairCells).take (i * 2) := by
   rw [repP_flat, List.drop_of_length_le (by rw [flat_len2]; omega)]; simp
  refine ⟨_, rfl, (Kept.refl w).setRow g cur2, ?_⟩
  unfold pairsS
  rw [hrl]
  refine h10.row_of_pts ?_ (by omega) hcm hc2s ?_
  ·rw [flat_len2, hrl]
  ·rw [hrf]
   refine take_of_get (by rw [List.length_take, flat_len2]; omega) fun k hk => ?_
   rw [hc2l, get_ovr _ _ _ (by omega), if_pos hk, <- htk, List.getElem?_take, if_pos hk, List.getElem?_take, if_pos (by omega)]
 rw [hi] at hcap ⊢
 clear hh htk hcs hi hl hcl hc2 hc2' hz2 h10 hone hcap
 go_enter Tryz.func238, Tryz.ntmps238
 have HAp := Lib.hid hap
 clear hap
 go_upto_region 6 with (at_builtin; refine wpList_append_run rfl (.tmp 32) (.tmp 33) 75 75 rfl _ _ rfl rfl HAp.out ?_)
 clear HAp
 go_wp2
 all_goals go_ret
 all_goals exact HF2.out
theorem sl_Replace {w : World} {l : List Say} {v vv : Value} (ps qs : List (Int × Int)) (h : Has w (pairsS v ps :: pairsS vv qs :: l)) (i : Nat) (hi : i < ps.length) (hl : ps.length <= 100) (hq : qs.length <= 2) :
  Calls Tryz.prog 238 #[v, .int .i64 i, .int .i64 ((i : Int) + 1), vv] w (PairsPost (repP ps i qs) l w) := by
 obtain ⟨g, cap, cur, rfl, hnc, hcm, hcs, htk, hxl, hh⟩ := h.row_out (by omega)
 by_cases h0 : qs.length = 0
 ·obtain rfl : qs = [] := List.eq_nil_of_length_eq_zero h0
  obtain ⟨va, cx, rfl, _⟩ := hh.row_val (v := vv) (e := 87) (size := 2) (n := 0) (xs := []) (.tail _ (.head _))
  have h2 := (Has.swap hh).tail
  by_cases hlast : ps.length = i + 1
  ·exact sl_Rep_cut ps i hlast hl hnc hcm hcs htk h2 va
  ·exact sl_Rep_none ps [] i (by omega) hl rfl hnc hcm hcs htk h2 va
 ·obtain ⟨bx, cx, cv, rfl, hnx, hxm, hvs, hvt, _, h3⟩ := (Has.swap hh).row_out (by omega)
  have h2 := Has.swap h3
  by_cases hlast : ps.length = i + 1
  ·exact sl_Rep_last ps qs i hlast hl (by omega) hq hnc hcm hcs htk hnx hvt h2
  ·by_cases h1 : qs.length = 1
   ·rw [h1] at hnx ⊢
    exact sl_Rep_one ps qs i (by omega) hl h1 hnc hcm hcs htk hnx (by rw [h1]; rw [h1] at hvt; exact hvt) h2
   ·have h22 : qs.length = 2 := by omega
    rw [h22] at hnx ⊢
    by_cases hr : ps.length < cap
    ·exact sl_Rep_two ps qs i (by omega) hl h22 hr hnc hcm hcs htk hnx (by rw [h22]; rw [h22] at hvt; exact hvt) hvs h2
    ·exact sl_Rep_grow ps qs i (by omega) hl h22 (by omega) hnc hcm hcs htk hnx (by rw [h22]; rw [h22] at hvt; exact hvt) hvs h2
/-
  Nodes (layer 10): Change.
-/
set_option maxRecDepth 100000 in
theorem node_Change {w : World} {l : List Say} (nd : Nd) {kv vv bv : Value} (at_ : Nat) (qs : List (Int × Int)) (h : Has w (pairsS bv qs :: l)) (hk : intsS kv nd.keys ∈ l) (hv : intsS vv nd.vals ∈ l) (ok : nd.ok = true) (hat : at_ < nd.keys.length) (hq : qs.length <= 2)
  (ho : ordTo (repP nd.pairs at_ qs) (repP nd.pairs at_ qs).length = true) :
  Calls Tryz.prog 206 #[nd.val kv vv, .int .i64 at_, bv] w (NPutPost (cutN nd.level (repP nd.pairs at_ qs)) l w) := by
 obtain ⟨o0, o1, o2, o3, o4⟩ := ok_lens ok
 obtain ⟨ba, bc, rfl, hx3⟩ := h.row_val (v := bv) (.head _)
 clear hx3
 have hA := h.alloc (.cells #[.int .i64 nd.level, kv, vv] 35)
 have HK := Lib.hid ((Kept.refl w).alloc (.cells #[.int .i64 nd.level, kv, vv] 35))
 have HCk := Lib.hid (node_Check nd hA (kv := kv) (vv := vv) (by simp [hk]) (by simp [hv]))
 obtain ⟨ka, kc, rfl, hx1, hx2⟩ := h.ints_read (.tail _ hk)
 clear hx1 hx2
 have Hok := Lib.hid ok
 have hpl : nd.pairs.length = nd.keys.length := by unfold Nd.pairs; rw [List.length_zip, o2, Nat.min_self]
 have Hk := Lib.hid hk
 have Hv := Lib.hid hv
 have HO := Lib.hid (And.intro o2 (And.intro o3 o4))
 have HP : Hid (∀ w' l', Has w' l' -> intsS (.slice ka nd.keys.length kc) nd.keys ∈ l' -> intsS vv nd.vals ∈ l' -> Calls Tryz.prog 135 #[.agg #[.int .i64 nd.level, .slice ka nd.keys.length kc, vv]] w' (PairsPost nd.pairs l' w')) := fun w' l' hw h1 h2 => node_pairs nd hw h1 h2 o2 (by omega)
 obtain ⟨ps, hps⟩ : ∃ ps, ps = nd.pairs := ⟨_, rfl⟩
 rw [<- hps] at HP hpl ho ⊢
 have Hat : Hid (at_ < ps.length /\ ps.length <= 100 /\ qs.length <= 2) := ⟨by omega, by omega, hq⟩
 have Hrl : Hid ((repP ps at_ qs).length <= 100) := by show _ <= _; rw [repP_len _ _ _ (by omega)]; omega
 have Ho := Lib.hid ho
 have a0 : (0 : Int) <= at_ := by omega
 have a1 : (at_ : Int) < (nd.keys.length : Int) := by omega
 have a2 : ((nd.keys.length : Nat) : Int) <= 7 := by omega
 have q2 : ((qs.length : Nat) : Int) <= 2 := by omega
 have hwa : IntKind.i64.wrap ((at_ : Int) + 1) = (at_ : Int) + 1 := by rw [IntKind.wrap_i64]; omega
 have HH := Lib.hid h
 clear h hA hk hv ok o2 o3 o4 hpl hps ho hat hq
 simp only [Nd.val] at HCk ⊢
 go_enter Tryz.func206, Tryz.ntmps206
 go_wp2_with fail
 refine HCk.out.mono ?_
 rintro r w1 ⟨hr, hK1, h1⟩
 rw [if_pos Hok.out] at hr
 subst hr
 have hr2 := h1.at (b := w.heap.size) (o := (.cells #[.int .i64 nd.level, .slice ka nd.keys.length kc, vv] 35 (0, 0))) (by simp)
 have n0 : w1.cell? ⟨w.heap.size, 0, none⟩ = some (.int .i64 nd.level) := cell_of hr2 0 rfl
 have n1 : w1.cell? ⟨w.heap.size, 1, none⟩ = some (.slice ka nd.keys.length kc) := cell_of hr2 1 rfl
 have n2 : w1.cell? ⟨w.heap.size, 2, none⟩ = some vv := cell_of hr2 2 rfl
 have ln := World.block_lt_of_cell? _ _ n0
 have HPs := Lib.hid (HP.out w1 _ h1 (by simp [Hk.out]) (by simp [Hv.out]))
 have HK1 := Lib.hid (HK.out.trans hK1)
 clear h1 hK1 HCk HK hr2 HH
 generalize hnk : nd.keys.length = nk at *
 clear hnk
 generalize hql : qs.length = nq at *
 have Hql := Lib.hid hql
 clear hql
 go_wp2_with fail
 refine HPs.out.mono ?_
 rintro r w2 ⟨v, rfl, hK2, h2⟩
 have h3 : Has w2 (pairsS v ps :: pairsS (.slice ba nq bc) qs :: pts w.heap.size (.cells #[.int .i64 nd.level, .slice ka nk kc, vv] 35 (0, 0)) :: l) := h2.reord [0, 1]
 have HRp := Lib.hid (sl_Replace ps qs h3 at_ Hat.out.1 Hat.out.2.1 (by rw [Hql.out]; exact Hat.out.2.2))
 have HK2 := Lib.hid (HK1.out.trans hK2)
 clear h2 h3 hK2 HK1 HPs n0 n1 n2 ln
 go_wp2_with fail
 refine HRp.out.mono ?_
 rintro r w3 ⟨v3, rfl, hK3, h3⟩
 have HOr := Lib.hid (node_ordered h3 (.head _) Hrl.out)
 rw [Ho.out] at HOr
 have H3 := Lib.hid h3
 have HK3 := Lib.hid (HK2.out.trans hK3)
 clear h3 hK3 HK2 HRp
 go_wp2_with fail
 refine HOr.out.mono ?_
 rintro r w4 ⟨rfl, hb4⟩
 have h4 := H3.out.below hb4
 have HK4 := Lib.hid (HK3.out.trans (Kept.below hb4))
 have hr2 := h4.at (b := w.heap.size) (o := (.cells #[.int .i64 nd.level, .slice ka nk kc, vv] 35 (0, 0))) (by simp)
 have n0 : w4.cell? ⟨w.heap.size, 0, none⟩ = some (.int .i64 nd.level) := cell_of hr2 0 rfl
 have n1 : w4.cell? ⟨w.heap.size, 1, none⟩ = some (.slice ka nk kc) := cell_of hr2 1 rfl
 have n2 : w4.cell? ⟨w.heap.size, 2, none⟩ = some vv := cell_of hr2 2 rfl
 have ln := World.block_lt_of_cell? _ _ n0
 have HC := Lib.hid (node_cut nd.level (.slice ka nk kc) vv (repP ps at_ qs) h4 (PSrcs.of_pairs (.head _)) Hrl.out)
 clear h4 hb4 H3 HK3 HOr hr2
 go_wp2_with fail
 refine HC.out.mono ?_
 rintro r w9 ⟨v9, T, rfl, hT, hK9, h9⟩
 have HF : Hid (NPutPost (cutN nd.level (repP ps at_ qs)) l w (.returned (.tuple #[v9, .nilIface])) w9) := ⟨v9, T, rfl, hT, HK4.out.trans hK9, h9.drop_mid.drop_mid⟩
 clear hT hK9 h9 HC HK4 n0 n1 n2 ln
 go_wp2
 go_ret2
 exact HF.out
/-
  Trees (layer 12): down, at a leaf.
-/
def LeafC (lf : Value) (C : List Say) (op : List KV -> List KV) (key : Int) (need : Bool) : Prop :=
 ∃ K caps, lf = .func (.func K) #[] caps /\ May K /\ ∀ {w : World} {l : List Say} (nd : Nd) {ak av : Option Addr} {ck cv : Nat}, Has w l -> (∀ A ∈ C, A ∈ l) -> intsS (.slice ak nd.keys.length ck) nd.keys ∈ l -> intsS (.slice av nd.vals.length cv) nd.vals ∈ l -> nd.ok = true -> (need = true -> ∃ p ∈ nd.pairs, p.1 = key) ->
  Calls Tryz.prog K (#[nd.val (.slice ak nd.keys.length ck) (.slice av nd.vals.length cv)] ++ caps) w (NPutPost (cutN nd.level (op nd.pairs)) l w)
def DownPost (c p bank sp N : Nat) (es : List Ent) (Q : Pgs) (put : List Int) (op : List KV -> List KV) (e : Nat) (L : List KV) (lv s : Nat) (atRoot : Bool) (l : List Say) (w : World) (r : Ending) (w' : World) : Prop :=
  Kept w w' /\ ∃ (news : List (Int × Nd)) (Q' : Pgs) (pv : Value), Puts es Q news Q' /\ news.length <= 2 * (lv + 1) /\
    ((FullQ es Q' /\ r = .returned (.tuple #[.slice none 0 0, errV 50]) /\ Has w' (btS p bank sp (N + 2 * (lv + 1)) es Q' :: chL c p pv (put ++ news.map (·.1)) l)) \/
     ∃ (v : Value) (outs : List KV) (lv' s' : Nat), r = .returned (.tuple #[v, .nilIface]) /\ outs.length <= 2 /\ lv' <= lv /\ (atRoot = false -> lv' = lv) /\ TrL Q' lv' outs (op L) s' /\ s' + (if outs.length = 2 then 2 ^ (lv' + 1) else 0) <= s + e /\
      Has w' (pairsS v outs :: btS p bank sp (N + 2 * (lv + 1)) es Q' :: chL c p pv (put ++ news.map (·.1)) l))
def DownC (lv : Nat) : Prop := ∀ {w : World} {l : List Say} {c p bank sp N : Nat} {es : List Ent} {Q : Pgs} {put : List Int} {pv lf : Value} {C : List Say} {op : List KV -> List KV} {e : Nat} {need : Bool} (addr key : Int) (atRoot : Bool) {L : List KV} {s : Nat},
 ChgOk op key e -> LeafC lf C op key need -> (∀ A ∈ C, A ∈ l) -> Has w (btS p bank sp N es Q :: chL c p pv put l) -> Tab l -> Tr Q lv addr L s -> Srt L -> (need = true -> ∃ x ∈ L, x.1 = key) -> N + 2 * (lv + 1) <= 300000 -> put.length + 2 * (lv + 1) <= 1000 ->
 Calls Tryz.prog 162 #[.pointer (some ⟨c, 0, none⟩), .int .i64 addr, .int .i64 key, .bool atRoot, lf] w (DownPost c p bank sp N es Q put op e L lv s atRoot l w)
theorem Has.nodes_front {w : World} {A B C X Y Z : Say} {M l : List Say} (h : Has w (M ++ A :: B :: C :: X :: Y :: Z :: l)) : Has w (X :: Y :: Z :: (M ++ l)) := by
 have h1 : Has w (A :: B :: C :: X :: Y :: Z :: (M ++ l)) := by
  refine h.perm ?_
  have e1 : (M ++ A :: B :: C :: X :: Y :: Z :: l).Perm ([A, B, C, X, Y, Z] ++ (M ++ l)) := by
   have h2 : (M ++ ([A, B, C, X, Y, Z] ++ l)).Perm ([A, B, C, X, Y, Z] ++ (M ++ l)) := by
    rw [<- List.append_assoc, <- List.append_assoc]
    exact List.perm_append_comm.append_right l
   exact h2
  exact e1
 exact h1.tail.tail.tail
set_option maxRecDepth 100000 in
theorem ch_down0 : DownC 0 := by
 intro w l c p bank sp N es Q put pv lf C op e need addr key atRoot L s hop hlf hC h ht hT hs hneed hN hput
 obtain ⟨hI, hH⟩ := h.bt_inv
 obtain ⟨g, hg, hlv, rfl, rfl⟩ := hT
 obtain ⟨ok, _, _⟩ := hI.pg addr g hg
 have hbd := (hI.adr addr (by rw [hg]; rfl)).bd
 obtain ⟨K, caps, rfl, hmay, hleaf⟩ := hlf
 have hcall := fun (vs : Array Value) (w : World) => hmay.run vs w
 have HG := Lib.hid (bt_Get h addr (by omega) (by omega))
 have hgc := h.at (b := c) (o := .cells #[.pointer (some ⟨p, 0, none⟩), pv] 212 (0, 0)) (by simp [chL, changeS])
 have c0 : w.cell? ⟨c, 0, none⟩ = some (.pointer (some ⟨p, 0, none⟩)) := cell_of hgc 0 rfl
 have Hg := Lib.hid hg
 have Hop := Lib.hid hop
 have Hok := Lib.hid ok
 have HC := Lib.hid hC
 have Ht := Lib.hid ht
 have Hneed := Lib.hid hneed
 have Hleaf : Hid (∀ {w : World} {l : List Say} (nd : Nd) {ak av : Option Addr} {ck cv : Nat}, Has w l -> (∀ A ∈ C, A ∈ l) -> intsS (.slice ak nd.keys.length ck) nd.keys ∈ l -> intsS (.slice av nd.vals.length cv) nd.vals ∈ l -> nd.ok = true -> (need = true -> ∃ p ∈ nd.pairs, p.1 = key) -> Calls Tryz.prog K (#[nd.val (.slice ak nd.keys.length ck) (.slice av nd.vals.length cv)] ++ caps) w (NPutPost (cutN nd.level (op nd.pairs)) l w)) := hleaf
 have HI := Lib.hid hI
 have HB := Lib.hid (And.intro hN hput)
 clear h ht hg hop ok hC hneed hleaf hI hH hs hgc hmay hN hput hbd
 go_enter Tryz.func162, Tryz.ntmps162
 go_wp2_with fail
 refine HG.out.mono ?_
 rintro r w1 ⟨hK1, (⟨h1, _⟩ | ⟨g', ak, ck, av, cv, h1, rfl, h3⟩)⟩
 ·rw [Hg.out] at h1; cases h1
 rw [Hg.out] at h1
 obtain rfl := Option.some.inj h1
 clear h1 HG c0
 obtain ⟨⟨lvI, keys, vals⟩, ho, he⟩ := g
 simp only at hlv
 subst hlv
 simp only [Nd.val]
 have h4 := h3.alloc (.cells #[.int .i64 0, .slice ak keys.length ck, .slice av vals.length cv] 35)
 have hk4 := hK1.alloc (.cells #[.int .i64 0, .slice ak keys.length ck, .slice av vals.length cv] 35)
 have hnd : (need = true -> ∃ q ∈ (⟨0, keys, vals⟩ : Nd).pairs, q.1 = key) := Hneed.out
 have HL := Lib.hid (Hleaf.out ⟨0, keys, vals⟩ (ak := ak) (av := av) (ck := ck) (cv := cv) h4 (fun A hA => by simp [chL, HC.out A hA]) (by simp) (by simp) Hok.out hnd)
 have HK4 := Lib.hid hk4
 clear h3 h4 hK1 hk4 hnd Hleaf
 simp only [Nd.val] at HL
 go_wp2_with fail
 refine HL.out.mono ?_
 rintro r w2 ⟨v2, T, rfl, hTm, hK2, h5⟩
 have h6 := Has.nodes_front h5
 have hpn := ok_pairs Hok.out
 have hR : TrR Q 0 (op (⟨0, keys, vals⟩ : Nd).pairs) (op (⟨0, keys, vals⟩ : Nd).pairs) 0 := ⟨rfl, rfl⟩
 have hsr := Hop.out.srt hpn.1
 have hlen := Hop.out.len hpn.1
 have hrt : ∀ q ∈ op (⟨0, keys, vals⟩ : Nd).pairs, pairOk q.1 q.2 = true := fun q hq => (Hop.out.mem hq).elim (hpn.2.1 q) id
 obtain ⟨o0, o1, o2, o3, o4⟩ := ok_lens Hok.out
 have he1 := Hop.out.e1
 have hl8 : (op (⟨0, keys, vals⟩ : Nd).pairs).length <= 8 := by
  have := hpn.2.2
  simp only at this o4 ⊢
  omega
 have hcok := cut_ok hR hsr hrt (by omega) hl8
 have hTl : T.length <= 2 := by
  have h7 := congrArg List.length hTm
  rw [List.length_map] at h7
  rw [h7]
  unfold cutN
  split
  ·simp
  ·split <;> simp
 have HW := Lib.hid (ch_write T h6 Ht.out hTl (fun t ht => hcok t.nd (by show t.nd ∈ cutN (0 : Int) _; rw [<- hTm]; exact List.mem_map.2 ⟨t, ht, rfl⟩)) (by have := HB.out.1; omega) (by have := HB.out.2; omega))
 have HK5 := Lib.hid (HK4.out.trans hK2)
 have HX := Lib.hid (And.intro hR (And.intro (show (op (⟨0, keys, vals⟩ : Nd).pairs).length <= keys.length + e by have := hpn.2.2; simp only at this; omega) (show keys.length <= 7 from o4)))
 have HTm := Lib.hid hTm
 have HTl := Lib.hid hTl
 clear hTm hK2 h5 h6 hpn hR hsr hlen hrt o0 o1 o2 o3 o4 he1 hl8 hcok hTl HL HK4 Ht
 go_wp2_with fail
 refine HW.out.mono ?_
 rintro r w3 ⟨hK3, news, Q', pv', hps, hnl, (⟨hfull, rfl, h7⟩ | ⟨hns, v3, rfl, h7⟩)⟩
 ·have HF : Hid (DownPost c p bank sp N es Q put op e (⟨0, keys, vals⟩ : Nd).pairs 0 (wt 0 keys.length) atRoot l w (.returned (.tuple #[.slice none 0 0, errV 50])) w3) := by
   rw [List.length_map] at hnl h7
   exact ⟨HK5.out.trans hK3, news, Q', pv', hps, by have := HTl.out; omega, .inl ⟨hfull, rfl, h7.bt_more (by have := HTl.out; omega)⟩⟩
  clear hK3 hps hnl hfull h7 HW HK5 HX HTm HTl
  simp only [errV] at HF ⊢
  go_wp2
  go_ret2
  exact HF.out
 ·have HF : Hid (DownPost c p bank sp N es Q put op e (⟨0, keys, vals⟩ : Nd).pairs 0 (wt 0 keys.length) atRoot l w (.returned (.tuple #[v3, .nilIface])) w3) := by
   rw [List.length_map] at hnl h7
   rw [HTm.out] at hns
   obtain ⟨s', q1, q2, q3⟩ := cut_out hps HX.out.1 hns keys.length e Hop.out.e1 HX.out.2.2 HX.out.2.1
   refine ⟨HK5.out.trans hK3, news, Q', pv', hps, by have := HTl.out; omega, .inr ⟨v3, _, 0, s', rfl, by rw [List.length_map]; exact q2, Nat.le_refl _, fun _ => rfl, q1, ?_, (Has.bt_more (by have := HTl.out; omega) h7.swap).swap⟩⟩
   rw [List.length_map]
   simp only [Nat.pow_zero, Nat.mul_one, Nat.add_zero] at q3
   exact q3
  clear hK3 hps hnl hns h7 HW HK5 HX HTm HTl
  go_wp2
  go_ret2
  exact HF.out
/-
  Trees (layer 12): down, through a page that names pages.
-/
theorem find_ix {ps : List KV} (hs : Srt ps) (h0 : 0 < ps.length) (key : Int) : ∃ (ix : Nat) (fa : Int) (ex : Bool), ix < ps.length /\
  (if (ps.map (·.1))[lowB (ps.map (·.1)) key]? = some key then Value.tuple #[.int .i64 (lowB (ps.map (·.1)) key : Nat), .bool true] else .tuple #[.int .i64 ((lowB (ps.map (·.1)) key : Nat) - 1), .bool false]) = .tuple #[.int .i64 fa, .bool ex] /\
  (fa = ix \/ (fa = -1 /\ ix = 0)) /\ (∀ p, ps[ix]? = some p -> ps.take ix ≠ [] -> p.1 <= key) /\ ∀ q ∈ ps.drop (ix + 1), key < q.1 := by
 have h1 := low_take key hs
 have h2 := high_drop key hs
 have hl := low_len key ps
 generalize lowB (ps.map (·.1)) key = b at *
 have hlow : ∀ i p, i < b -> ps[i]? = some p -> p.1 < key := fun i p hi hp => by
  have hm : p ∈ ps.take b := List.mem_iff_getElem?.2 ⟨i, by rw [List.getElem?_take, if_pos hi]; exact hp⟩
  rw [<- h1] at hm
  simpa using (List.mem_filter.1 hm).2
 have hhigh : ∀ p ∈ ps.drop b, key <= p.1 := fun p hp => by
  rw [<- h2] at hp
  simpa using (List.mem_filter.1 hp).2
 by_cases hx : (ps.map (·.1))[b]? = some key
 ·rw [if_pos hx]
  rw [List.getElem?_map, Option.map_eq_some_iff] at hx
  obtain ⟨p, hp, hk⟩ := hx
  have hb := (List.getElem?_eq_some_iff.1 hp).1
  refine ⟨b, b, true, hb, rfl, .inl rfl, fun p' hp' _ => ?_, fun q hq => ?_⟩
  ·rw [hp] at hp'; obtain rfl := Option.some.inj hp'; omega
  ·have hd : ps.drop b = p :: ps.drop (b + 1) := by
    rw [List.drop_eq_getElem_cons hb]
    rw [List.getElem?_eq_getElem hb] at hp
    rw [Option.some.inj hp]
   have hs2 : Srt (p :: ps.drop (b + 1)) := by rw [<- hd]; exact List.Pairwise.drop hs
   have := (List.pairwise_cons.1 hs2).1 q hq
   omega
 ·rw [if_neg hx]
  have hgt : ∀ q ∈ ps.drop b, key < q.1 := fun q hq => by
   have h3 := hhigh q hq
   rcases Int.lt_or_eq_of_le h3 with h4 | h4
   ·exact h4
   ·exfalso
    cases hd : ps.drop b with
    | nil => rw [hd] at hq; cases hq
    | cons p r =>
     have hp : ps[b]? = some p := by
      have := congrArg (·[0]?) hd
      simp only [List.getElem?_drop] at this
      simpa using this
     have hs2 : Srt (p :: r) := by rw [<- hd]; exact List.Pairwise.drop hs
     have h5 := hhigh p (by rw [hd]; exact .head _)
     have h6 : p.1 ≠ key := fun e => hx (by rw [List.getElem?_map, hp]; simp [e])
     rw [hd] at hq
     rcases List.mem_cons.1 hq with rfl | hq
     ·omega
     ·have := (List.pairwise_cons.1 hs2).1 q hq; omega
  by_cases hb : b = 0
  ·subst hb
   refine ⟨0, -1, false, h0, rfl, .inr ⟨rfl, rfl⟩, fun p _ hne => (hne (by simp)).elim, fun q hq => hgt q ?_⟩
   exact List.drop_subset 1 _ (by simpa using hq)
  ·obtain ⟨i, rfl⟩ : ∃ i, b = i + 1 := ⟨b - 1, by omega⟩
   refine ⟨i, i, false, by omega, by simp, .inl rfl, fun p hp _ => ?_, fun q hq => hgt q hq⟩
   have := hlow i p (by omega) hp
   omega
theorem Has.nodes_front2 {w : World} {A B C X Y Z : Say} {M l : List Say} (h : Has w (M ++ X :: Y :: Z :: A :: B :: C :: l)) : Has w (X :: Y :: Z :: (M ++ l)) := by
 have h1 : Has w (A :: B :: C :: X :: Y :: Z :: (M ++ l)) := by
  refine h.perm ?_
  have e1 : (M ++ X :: Y :: Z :: A :: B :: C :: l).Perm ([X, Y, Z, A, B, C] ++ (M ++ l)) := by
   have h2 : (M ++ ([X, Y, Z, A, B, C] ++ l)).Perm ([X, Y, Z, A, B, C] ++ (M ++ l)) := by
    rw [<- List.append_assoc, <- List.append_assoc]
    exact List.perm_append_comm.append_right l
   exact h2
  exact e1.trans (List.perm_append_comm (l₁ := [X, Y, Z]) (l₂ := [A, B, C]) |>.append_right (M ++ l))
 exact h1.tail.tail.tail
theorem down_mid {Q Q' : Pgs} (hm : Same Q Q') {lv : Nat} {ps L : List KV} {S : Nat} {key : Int} {ix : Nat} {p : KV} (h : TrL Q lv ps L S) (hs : Srt L) (hp : ps[ix]? = some p) (h1 : ps.take ix ≠ [] -> p.1 <= key) (h2 : ∀ q ∈ ps.drop (ix + 1), key < q.1) {op : List KV -> List KV} {e : Nat} (hop : ChgOk op key e) :
  ∃ LM sM, Tr Q lv p.2 LM sM /\ Srt LM /\ sM <= S /\ ((∃ x ∈ L, x.1 = key) -> ∃ x ∈ LM, x.1 = key) /\ ∀ outs so, TrL Q' lv outs (op LM) so -> TrL Q' lv (repP ps ix outs) (op L) (S - sM + so) := by
 have hlt := (List.getElem?_eq_some_iff.1 hp).1
 have hsp : ps = ps.take ix ++ p :: ps.drop (ix + 1) := by
  conv => lhs; rw [<- List.take_append_drop ix ps]
  rw [List.drop_eq_getElem_cons hlt]
  rw [List.getElem?_eq_getElem hlt] at hp
  rw [Option.some.inj hp]
 have h' := h
 rw [hsp] at h'
 obtain ⟨LA, LM, LB, sA, sM, sB, hA, hM, hk, hB, rfl, rfl, q1, q2⟩ := h'.place hs h1 h2
 refine ⟨LM, sM, hM, hs.left.right, by omega, ?_, fun outs so ho => ?_⟩
 ·rintro ⟨x, hx, hk⟩
  rcases List.mem_append.1 hx with hx | hx
  ·rcases List.mem_append.1 hx with hx | hx
   ·have := q1 x hx; omega
   ·exact ⟨x, hx, hk⟩
  ·have := q2 x hx; omega
 ·rw [hop.mid q1 q2]
  unfold repP
  have h3 := ((hA.mono fun _ _ _ _ h => h.mono hm).app ho).app (hB.mono fun _ _ _ _ h => h.mono hm)
  rw [show sA + sM + sB - sM + so = sA + so + sB by omega]
  exact h3
set_option maxRecDepth 100000 in
theorem ch_downS (lv : Nat) (ih : DownC lv) : DownC (lv + 1) := by
 intro w l c p bank sp N es Q put pv lf C op e need addr key atRoot L s hop hlf hC h ht hT hs hneed hN hput
 obtain ⟨hI, hH⟩ := h.bt_inv
 have hrt := hT.right hI
 obtain ⟨g, S, hg, hlv, hR, rfl⟩ := hT
 obtain ⟨ok, _, _⟩ := hI.pg addr g hg
 have hbd := (hI.adr addr (by rw [hg]; rfl)).bd
 have HG := Lib.hid (bt_Get h addr (by omega) (by omega))
 have hgc := h.at (b := c) (o := .cells #[.pointer (some ⟨p, 0, none⟩), pv] 212 (0, 0)) (by simp [chL, changeS])
 have c0 : w.cell? ⟨c, 0, none⟩ = some (.pointer (some ⟨p, 0, none⟩)) := cell_of hgc 0 rfl
 have hpn := ok_pairs ok
 obtain ⟨o0, o1, o2, o3, o4⟩ := ok_lens ok
 obtain ⟨ix, fa, ex, hix, hfr, hfa, hp1, hp2⟩ := find_ix hpn.1 (by omega) key
 rw [pairs_keys ok] at hfr
 have Hg := Lib.hid hg
 have Hop := Lib.hid hop
 have Hok := Lib.hid ok
 have HC := Lib.hid hC
 have Ht := Lib.hid ht
 have Hneed := Lib.hid hneed
 have Hlf := Lib.hid hlf
 have HI := Lib.hid hI
 have HB := Lib.hid (And.intro hN hput)
 have HL := Lib.hid (And.intro hR (And.intro hs hrt))
 have HP := Lib.hid (And.intro hp1 hp2)
 have HIx := Lib.hid (And.intro hix (And.intro hpn.2.2 (And.intro o2 (And.intro o3 o4))))
 have Hfr := Lib.hid hfr
 clear h ht hg hop ok hC hneed hlf hI hH hs hgc hN hput hbd hR hrt hpn o0 o1 o2 o3 o4 hp1 hp2 hfr hix
 obtain ⟨⟨lvI, keys, vals⟩, ho, he⟩ := g
 simp only at hlv
 have hl0 : (lvI == 0) = false := by rw [hlv]; simp; omega
 have Hlv := Lib.hid hlv
 clear hlv
 go_enter Tryz.func162, Tryz.ntmps162
 go_wp2_with fail
 refine HG.out.mono ?_
 rintro r w1 ⟨hK1, (⟨h1, _⟩ | ⟨g', ak, ck, av, cv, h1, rfl, h3⟩)⟩
 ·rw [Hg.out] at h1; cases h1
 rw [Hg.out] at h1
 obtain rfl := Option.some.inj h1
 clear h1 HG c0
 simp only [Nd.val]
 have h4 := h3.alloc (.cells #[.int .i64 lvI, .slice ak keys.length ck, .slice av vals.length cv] 35)
 have hk4 := hK1.alloc (.cells #[.int .i64 lvI, .slice ak keys.length ck, .slice av vals.length cv] 35)
 have HFd := Lib.hid (node_Find ⟨lvI, keys, vals⟩ (w := w1.alloc (.cells #[.int .i64 lvI, .slice ak keys.length ck, .slice av vals.length cv] 35)) (kv := .slice ak keys.length ck) (vv := .slice av vals.length cv) (h4.rd (by simp)) (ok_rising Hok.out) (by have := HIx.out.2.2.2.2; simp only at this ⊢; omega) key)
 rw [Hfr.out] at HFd
 have H4 := Lib.hid h4
 have HK4 := Lib.hid hk4
 clear h3 h4 hK1 hk4 Hfr
 simp only [Nd.val] at HFd
 go_wp2_with fail
 refine HFd.out.mono ?_
 rintro r w2 ⟨rfl, hb2⟩
 have h5 := H4.out.below hb2
 have HK5 := Lib.hid (HK4.out.trans (Kept.below hb2))
 clear hb2 HFd H4 HK4
 generalize w1.heap.size = r12 at *
 have hg12 := h5.got
 have n0 : w2.cell? ⟨r12, 0, none⟩ = some (.int .i64 lvI) := cell_of hg12 0 rfl
 have n2 : w2.cell? ⟨r12, 2, none⟩ = some (.slice av vals.length cv) := cell_of hg12 2 rfl
 have l12 := World.block_lt_of_cell? _ _ n0
 obtain ⟨x1, x2, x3, x4, x5⟩ := HIx.out
 have hixv : ix < vals.length := by omega
 have hmax : max fa 0 = (ix : Int) := by rcases hfa with h | ⟨h, h'⟩ <;> omega
 obtain ⟨kq, hp0⟩ : ∃ kq, (⟨lvI, keys, vals⟩ : Nd).pairs[ix]? = some (kq, vals[ix]) := by
  refine ⟨keys[ix]'(by omega), ?_⟩
  unfold Nd.pairs
  rw [List.getElem?_zip_eq_some]
  exact ⟨List.getElem?_eq_getElem _, List.getElem?_eq_getElem _⟩
 obtain ⟨LM, sM, hM, hsM, hle, hnd, hfin⟩ := down_mid (Same.refl Q) HL.out.1 HL.out.2.1 hp0 (fun hne => HP.out.1 _ hp0 hne) HP.out.2 Hop.out
 clear hfin
 obtain ⟨va, vc, e1, _, hrv⟩ := h5.ints_read (v := .slice av vals.length cv) (xs := vals) (by simp)
 injection e1 with e1 e2 e3
 subst e1
 clear e2 e3
 obtain ⟨gv, rfl, vc0, _⟩ := hrv ix hixv
 have lgv := World.block_lt_of_cell? _ _ vc0
 have h6 : Has w2 (btS p bank sp N es Q :: chL c p pv put (pts r12 (.cells #[.int .i64 lvI, .slice ak keys.length ck, .slice (some ⟨gv, 0, none⟩) vals.length cv] 35 (0, 0)) :: intsS (.slice ak keys.length ck) keys :: intsS (.slice (some ⟨gv, 0, none⟩) vals.length cv) vals :: l)) := h5.reord [3, 3, 3]
 have HI2 := Lib.hid (ih (vals[ix]) key false Hop.out Hlf.out (fun A hA => by simp [HC.out A hA]) h6 Ht.out.cons.cons.cons hM hsM (fun hn => hnd (Hneed.out hn)) (by have := HB.out.1; omega) (by have := HB.out.2; omega))
 have HM := Lib.hid (And.intro hle (And.intro hp0 hM))
 have HLen := Lib.hid (And.intro x1 (And.intro x2 (And.intro x3 (And.intro x4 x5))))
 have ixI : (ix : Int) < (vals.length : Int) := by omega
 have ix0 : (0 : Int) <= ix := by omega
 clear hg12 h5 h6 hfa hp0 hM hsM hle hnd hrv x1 x2 x3 x4 x5 HIx Hneed
 generalize vals[ix] = vi at *
 generalize hnv : vals.length = nv at *
 have Hnv := Lib.hid hnv
 clear hnv
 generalize hnk : keys.length = nk at *
 have Hnk := Lib.hid hnk
 clear hnk
 clear hixv
 go_upto_region 11 with fail
 clear hmax
 go_wp2_with fail
 refine HI2.out.mono ?_
 rintro r w3 ⟨hK3, news, Q', pv', hps, hnl, (⟨hfull, rfl, h7⟩ | ⟨bv, outs, lv', so, rfl, hol, hlv', hlv2, hto, hwo, h7⟩)⟩
 ·have HF : Hid (DownPost c p bank sp N es Q put op e L (lv + 1) (wt (lv + 1) nk + S) atRoot l w (.returned (.tuple #[.slice none 0 0, errV 50])) w3) :=
   ⟨HK5.out.trans hK3, news, Q', pv', hps, by omega, .inl ⟨hfull, rfl, (Has.bt_more (by omega) ((h7.reord [3, 3, 3]).tail.tail.tail))⟩⟩
  clear hK3 hps hnl hfull h7 HI2 HK5 HM HLen HL HP
  simp only [errV] at HF ⊢
  go_wp2
  go_ret2
  exact HF.out
 ·obtain rfl := hlv2 rfl
  obtain ⟨x1, x2, x3, x4, x5⟩ := HLen.out
  obtain ⟨LM', sM', hM', hsM', hle', _, hfin⟩ := down_mid hps.same HL.out.1 HL.out.2.1 HM.out.2.1 (fun hne => HP.out.1 _ HM.out.2.1 hne) HP.out.2 Hop.out
  obtain ⟨_, rfl, rfl⟩ := HM.out.2.2.uniq hM'
  have hto2 := hfin outs so hto
  have hR : TrR Q' (lv' + 1) (repP (⟨lvI, keys, vals⟩ : Nd).pairs ix outs) (op L) (S - sM + so) := hto2
  have hsr := hR.srt (Hop.out.srt HL.out.2.1)
  have hrt : ∀ q ∈ op L, pairOk q.1 q.2 = true := fun q hq => (Hop.out.mem hq).elim (HL.out.2.2 q) id
  have hI' := hps.inv HI.out
  have hrp := hto2.rightP hI' hrt
  have hrl := repP_len (⟨lvI, keys, vals⟩ : Nd).pairs ix outs x1
  have h20 := (HI.out.lv Hg.out).2
  have hlvI := Hlv.out
  have hl20 : lv' + 1 <= 20 := by simp only at h20; omega
  have hcok := cut_ok hR hsr hrp hl20 (by omega)
  have HCh := Lib.hid (node_Change ⟨lvI, keys, vals⟩ (kv := .slice ak nk ck) (vv := .slice (some ⟨gv, 0, none⟩) nv cv) ix outs h7 (by simp [chL]) (by simp [chL]) Hok.out (by rw [Hnk.out]; omega) hol (ord_of hsr hrp _ (Nat.le_refl _)))
  have hg12 := h7.at (b := r12) (o := .cells #[.int .i64 lvI, .slice ak nk ck, .slice (some ⟨gv, 0, none⟩) nv cv] 35 (0, 0)) (by simp [chL])
  have n0 : w3.cell? ⟨r12, 0, none⟩ = some (.int .i64 lvI) := cell_of hg12 0 rfl
  have n1 : w3.cell? ⟨r12, 1, none⟩ = some (.slice ak nk ck) := cell_of hg12 1 rfl
  have n2 : w3.cell? ⟨r12, 2, none⟩ = some (.slice (some ⟨gv, 0, none⟩) nv cv) := cell_of hg12 2 rfl
  have l12 := World.block_lt_of_cell? _ _ n0
  have HK6 := Lib.hid (HK5.out.trans hK3)
  have hw : so + (if outs.length = 2 then 2 ^ (lv' + 1) else 0) <= sM + e := hwo
  have hwt : ∀ (news2 : List (Int × Nd)) (Q2 : Pgs), Puts es Q' news2 Q2 -> news2.map (·.2) = cutN ((lv' + 1 : Nat) : Int) (repP (⟨lvI, keys, vals⟩ : Nd).pairs ix outs) -> ∃ s', TrL Q2 (lv' + 1) (news2.map outP) (op L) s' /\ news2.length <= 2 /\ s' + (if news2.length = 2 then 2 ^ (lv' + 1 + 1) else 0) <= wt (lv' + 1) nk + S + e := fun news2 Q2 hp2 hn2 => by
   obtain ⟨s', q1, q2, q3⟩ := cut_out hp2 hR hn2 nk (if outs.length = 2 then 1 else 0) (by split <;> omega) x5 (by split <;> omega)
   refine ⟨s', q1, q2, Nat.le_trans q3 ?_⟩
   by_cases h2 : outs.length = 2
   ·rw [if_pos h2] at hw ⊢
    omega
   ·rw [if_neg h2] at hw ⊢
    omega
  have HWt := Lib.hid hwt
  have Hcok := Lib.hid hcok
  have HPs := Lib.hid (And.intro hps hnl)
  have HTo := Lib.hid (And.intro hto2 (And.intro (show S - sM + so <= wt (lv' + 1) nk + S + e by omega) hI'))
  have HN := Lib.hid hl20
  clear hK3 hps hnl hol hlv' hlv2 hto hwo h7 HI2 HK5 x1 x2 x3 x4 x5 hM' hsM' hle' hfin hto2 hR hsr hrt hI' hrp hrl h20 hlvI hl20 hcok hg12 hw hwt vc0 lgv HM HLen HP
  simp only [Nd.val] at HCh
  go_wp2_with fail
  refine HCh.out.mono ?_
  rintro r w4 ⟨v4, T, rfl, hTm, hK4, h8⟩
  have hTm : T.map Nv.nd = cutN ((lv' + 1 : Nat) : Int) (repP (⟨lvI, keys, vals⟩ : Nd).pairs ix outs) := by
   rw [<- Hlv.out]; exact hTm
  have hTl : T.length <= 2 := by
   have h7 := congrArg List.length hTm
   rw [List.length_map] at h7
   rw [h7]
   unfold cutN
   split
   ·simp
   ·split <;> simp
  obtain ⟨hps, hnl⟩ := HPs.out
  have hbb := HB.out
  have h9 := Has.nodes_front2 h8
  have hcT : ∀ t ∈ T, t.nd.ok = true /\ namedErr Q' t.nd = .nilIface := fun t ht => Hcok.out t.nd (by rw [<- hTm]; exact List.mem_map.2 ⟨t, ht, rfl⟩)
  have hWr : ∀ w', Has w' (btS p bank sp (N + 2 * (lv' + 1)) es Q' :: chL c p pv' (put ++ news.map (·.1)) (nodesL v4 T ++ l)) -> Kept w w' -> Calls Tryz.prog 181 #[.pointer (some ⟨c, 0, none⟩), v4] w' (fun r w5 => (∃ x y, r = .returned (.tuple #[x, y])) /\ DownPost c p bank sp N es Q put op e L (lv' + 1) (wt (lv' + 1) nk + S) atRoot l w r w5) := fun w' hw' hkw => by
   refine (ch_write T hw' Ht.out hTl hcT (by omega) (by rw [List.length_append, List.length_map]; omega)).mono ?_
   rintro r w5 ⟨hK5, news2, Q2, pv2, hps2, hnl2, hres⟩
   rw [List.length_map] at hnl2 hres
   have hap : put ++ (news ++ news2).map (·.1) = put ++ news.map (·.1) ++ news2.map (·.1) := by rw [List.map_append, List.append_assoc]
   rcases hres with ⟨hf, rfl, h10⟩ | ⟨hn2, v5, rfl, h10⟩
   ·refine ⟨⟨_, _, rfl⟩, hkw.trans hK5, news ++ news2, Q2, pv2, hps.trans hps2, by rw [List.length_append]; omega, .inl ⟨hf, rfl, ?_⟩⟩
    rw [hap]
    exact Has.bt_more (by omega) h10
   ·obtain ⟨s', q1, q2, q3⟩ := HWt.out news2 Q2 hps2 (hn2.trans hTm)
    refine ⟨⟨_, _, rfl⟩, hkw.trans hK5, news ++ news2, Q2, pv2, hps.trans hps2, by rw [List.length_append]; omega, .inr ⟨v5, _, lv' + 1, s', rfl, by rw [List.length_map]; exact q2, Nat.le_refl _, fun _ => rfl, q1, by rw [List.length_map]; exact q3, ?_⟩⟩
    rw [hap]
    exact (Has.bt_more (by omega) h10.swap).swap
  have HWr := Lib.hid hWr
  have H8 := Lib.hid h8
  have H9 := Lib.hid h9
  have HK7 := Lib.hid (HK6.out.trans hK4)
  have HTm := Lib.hid hTm
  have HTl := Lib.hid hTl
  clear hps hnl hbb h8 h9 hcT hWr hK4 hTm hTl HCh HK6 Hcok n0 n1 n2 l12
  cases atRoot with
  | false =>
   have HW := Lib.hid (HWr.out w4 H9.out HK7.out)
   clear HWr H8 H9 HK7
   go_wp2_with fail
   refine HW.out.mono ?_
   rintro r w5 ⟨⟨x, y, rfl⟩, hF⟩
   have HF := Lib.hid hF
   clear hF HW HWt HTm HTl HPs HTo HL HN
   go_wp2
   go_ret2
   exact HF.out
  | true =>
   have HS := Lib.hid (bt_single H8.out (nv := v4) (T := T) (fun A hA => List.mem_append_left _ hA) HTl.out)
   rw [HTm.out] at HS
   cases hsb : singleB (cutN ((lv' + 1 : Nat) : Int) (repP (⟨lvI, keys, vals⟩ : Nd).pairs ix outs)) with
   | false =>
    rw [hsb] at HS
    have HW := Lib.hid (HWr.out w4 H9.out HK7.out)
    clear HWr H8 H9 HK7 hsb
    go_wp2_with fail
    refine HS.out.mono ?_
    rintro r w5 ⟨rfl, rfl⟩
    go_wp2_with fail
    refine HW.out.mono ?_
    rintro r w5 ⟨⟨x, y, rfl⟩, hF⟩
    have HF := Lib.hid hF
    clear hF HW HWt HTm HTl HPs HTo HL HN HS
    go_wp2
    go_ret2
    exact HF.out
   | true =>
    rw [hsb] at HS
    obtain ⟨R, hR⟩ : ∃ R, R = repP (⟨lvI, keys, vals⟩ : Nd).pairs ix outs := ⟨_, rfl⟩
    have HTm2 := HTm.out
    have HTo2 := HTo.out.1
    rw [<- hR] at hsb HTm2 HTo2
    have hR1 : cutN ((lv' + 1 : Nat) : Int) R = [ndOf ((lv' + 1 : Nat) : Int) R] /\ R.length = 1 := by
     unfold cutN at hsb ⊢
     split at hsb
     ·cases hsb
     ·split at hsb
      ·rename_i h0 h7
       rw [if_neg h0, if_pos h7]
       refine ⟨rfl, ?_⟩
       simp [singleB, ndOf] at hsb
       exact hsb
      ·cases hsb
    rw [hR1.1] at HTm2
    obtain ⟨⟨k, a⟩, rfl⟩ := List.length_eq_one_iff.1 hR1.2
    obtain ⟨LM2, LB2, sM2, sB2, q1, q2, q3, q4, q5⟩ := HTo2.one
    cases q3
    obtain ⟨t, rfl⟩ : ∃ t, T = [t] := List.length_eq_one_iff.1 (by have := congrArg List.length HTm2; simpa using this)
    have ht : t.nd = ndOf ((lv' + 1 : Nat) : Int) [(k, a)] := by simpa using HTm2
    obtain ⟨nd, tk, tv⟩ := t
    simp only at ht
    subst ht
    have h8 := H8.out
    obtain ⟨ga, gc, hv4, hrn⟩ := h8.nodes_read (v := v4) (T := [⟨ndOf ((lv' + 1 : Nat) : Int) [(k, a)], tk, tv⟩]) (by simp [nodesL])
    obtain ⟨g9, rfl, y0, y1, y2⟩ := hrn 0 _ rfl
    have hv4' : v4 = .slice (some ⟨g9, 0, none⟩) 1 gc := hv4
    clear hv4
    subst hv4'
    obtain ⟨lvJ, hlvJ⟩ : ∃ lvJ : Int, lvJ = ((lv' + 1 : Nat) : Int) := ⟨_, rfl⟩
    obtain ⟨tka, tkc, rfl, hy1, hy2⟩ := h8.ints_read (v := tk) (xs := (ndOf ((lv' + 1 : Nat) : Int) [(k, a)]).keys) (by simp [nodesL, Nv.rows])
    obtain ⟨tva, tvc, rfl, hy3, hy4⟩ := h8.ints_read (v := tv) (xs := (ndOf ((lv' + 1 : Nat) : Int) [(k, a)]).vals) (by simp [nodesL, Nv.rows])
    have h10 : Has w4 (btS p bank sp (N + 2 * (lv' + 1)) es Q' :: changeS c p pv' :: intsS (.slice tka 1 tkc) [k] :: intsS (.slice tva 1 tvc) [a] :: intsS pv' (put ++ news.map (·.1)) :: l) := (h8.reord [0, 5, 5, 5, 2, 2, 0, 0, 0]).tail.tail.tail.tail
    have hLe : op L = LM2 := by rw [q4, List.append_nil]
    have HO := Lib.hid (ch_only (kv := .slice tka 1 tkc) (vv := .slice tva 1 tvc) lvJ k a h10 (.head _) (.tail _ (.head _)) q1 q2)
    have z0 : w4.cell? ⟨g9, 0, none⟩ = some (.int .i64 lvJ) := by rw [hlvJ]; exact y0
    have z1 : w4.cell? ⟨g9, 1, none⟩ = some (.slice tka 1 tkc) := y1
    have z2 : w4.cell? ⟨g9, 2, none⟩ = some (.slice tva 1 tvc) := y2
    have l9 := World.block_lt_of_cell? _ _ z0
    have HS2 : Hid (Calls Tryz.prog 207 #[.slice (some ⟨g9, 0, none⟩) 1 gc] w4 fun r w' => r = .returned (.bool true) /\ w4 = w') := HS.out
    have HE := Lib.hid (And.intro hLe (And.intro q5 HTo.out.2.1))
    clear y0 y1 y2 hlvJ h8 h10 hrn hy1 hy2 hy3 hy4 HS H8 H9 HWr HWt HTm2 HTo2 hR1 hsb q1 q2 q4 q5 hLe HTm HTl
    go_wp2_with fail
    refine HS2.out.mono ?_
    rintro r w5 ⟨rfl, rfl⟩
    go_wp2_with fail
    refine HO.out.mono ?_
    rintro r w6 ⟨hK6, rv, k', v', lv2, s2, e1, e2, e3, e4, rfl, h11⟩
    have HF : Hid (DownPost c p bank sp N es Q put op e L (lv' + 1) (wt (lv' + 1) nk + S) true l w (.returned (.tuple #[rv, .nilIface])) w6) := by
     obtain ⟨hps, hnl⟩ := HPs.out
     obtain ⟨q1, q2, q3⟩ := HE.out
     refine ⟨HK7.out.trans hK6, news, Q', pv', hps, by omega, .inr ⟨rv, [(k', v')], lv2, s2, rfl, by simp, by omega, (fun h => absurd h (by decide)), ?_, ?_, ?_⟩⟩
     ·rw [q1]; exact TrG.single e3 e4
     ·rw [if_neg (by simp)]; omega
     ·exact (Has.bt_more (by omega) ((h11.reord [3, 3]).tail.tail.swap)).swap
    clear hK6 e1 e2 e3 e4 h11 HO HS2 HE HK7 HPs HTo HL HN
    go_wp2
    go_ret2
    exact HF.out
theorem ch_down : ∀ lv, DownC lv
 | 0 => ch_down0
 | lv + 1 => ch_downS lv (ch_down lv)
end Go.Proofs.YtgbgneiciabidaaGreatDoor
