/-
  Nodes (layer 10): Change.
-/
import Derived.Test.YtgbgneiciabidaaGreatDoorGo35
import Derived.Test.YtgbgneiciabidaaGreatDoorGo24
import Derived.Test.YtgbgneiciabidaaGreatDoorGo33
namespace Go.Proofs.YtgbgneiciabidaaGreatDoor
open Go Go.RowKit
set_option linter.all false

set_option maxHeartbeats 4000000 in
set_option maxRecDepth 100000 in
theorem node_Change {w : World} {l : List Say} (nd : Nd) {kv vv bv : Value} (at_ : Nat) (qs : List (Int × Int)) (h : Has w (pairsS bv qs :: l)) (hk : intsS kv nd.keys ∈ l) (hv : intsS vv nd.vals ∈ l) (ok : nd.ok = true) (hat : at_ < nd.keys.length) (hq : qs.length ≤ 2)
    (ho : ordTo (repP nd.pairs at_ qs) (repP nd.pairs at_ qs).length = true) :
    Calls Tryz.prog 206 #[nd.val kv vv, .int .i64 at_, bv] w (NPutPost (cutN nd.level (repP nd.pairs at_ qs)) l w) := by
  obtain ⟨o0, o1, o2, o3, o4⟩ := ok_lens ok
  obtain ⟨ba, bc, rfl, hx3⟩ := h.row_val (v := bv) (.head _)
  clear hx3
  have hA := h.alloc (.cells #[.int .i64 nd.level, kv, vv] 35)
  have HK := Lib.hid ((Kept.refl w).alloc (.cells #[.int .i64 nd.level, kv, vv] 35))
  have HCk := Lib.hid (node_Check nd hA (kv := kv) (vv := vv) (by simp [hk]) (by simp [hv]))
  obtain ⟨ka, kc, rfl, hx1, hx2⟩ := h.ints_read (.tail _ hk)
  clear hx1 hx2
  have Hok := Lib.hid ok
  have hpl : nd.pairs.length = nd.keys.length := by unfold Nd.pairs; rw [List.length_zip, o2, Nat.min_self]
  have Hk := Lib.hid hk
  have Hv := Lib.hid hv
  have HO := Lib.hid (And.intro o2 (And.intro o3 o4))
  have HP : Hid (∀ w' l', Has w' l' → intsS (.slice ka nd.keys.length kc) nd.keys ∈ l' → intsS vv nd.vals ∈ l' → Calls Tryz.prog 135 #[.agg #[.int .i64 nd.level, .slice ka nd.keys.length kc, vv]] w' (PairsPost nd.pairs l' w')) := fun w' l' hw h1 h2 => node_pairs nd hw h1 h2 o2 (by omega)
  obtain ⟨ps, hps⟩ : ∃ ps, ps = nd.pairs := ⟨_, rfl⟩
  rw [← hps] at HP hpl ho ⊢
  have Hat : Hid (at_ < ps.length ∧ ps.length ≤ 100 ∧ qs.length ≤ 2) := ⟨by omega, by omega, hq⟩
  have Hrl : Hid ((repP ps at_ qs).length ≤ 100) := by show _ ≤ _; rw [repP_len _ _ _ (by omega)]; omega
  have Ho := Lib.hid ho
  have a0 : (0 : Int) ≤ at_ := by omega
  have a1 : (at_ : Int) < (nd.keys.length : Int) := by omega
  have a2 : ((nd.keys.length : Nat) : Int) ≤ 7 := by omega
  have q2 : ((qs.length : Nat) : Int) ≤ 2 := by omega
  have hwa : IntKind.i64.wrap ((at_ : Int) + 1) = (at_ : Int) + 1 := by rw [IntKind.wrap_i64]; omega
  have HH := Lib.hid h
  clear h hA hk hv ok o2 o3 o4 hpl hps ho hat hq
  simp only [Nd.val] at HCk ⊢
  go_enter Tryz.func206, Tryz.ntmps206
  go_wp2_with fail
  refine HCk.out.mono ?_
  rintro r w1 ⟨hr, hK1, h1⟩
  rw [if_pos Hok.out] at hr
  subst hr
  have hr2 := h1.at (b := w.heap.size) (o := (.cells #[.int .i64 nd.level, .slice ka nd.keys.length kc, vv] 35 (0, 0))) (by simp)
  have n0 : w1.cell? ⟨w.heap.size, 0, none⟩ = some (.int .i64 nd.level) := cell_of hr2 0 rfl
  have n1 : w1.cell? ⟨w.heap.size, 1, none⟩ = some (.slice ka nd.keys.length kc) := cell_of hr2 1 rfl
  have n2 : w1.cell? ⟨w.heap.size, 2, none⟩ = some vv := cell_of hr2 2 rfl
  have ln := World.block_lt_of_cell? _ _ n0
  have HPs := Lib.hid (HP.out w1 _ h1 (by simp [Hk.out]) (by simp [Hv.out]))
  have HK1 := Lib.hid (HK.out.trans hK1)
  clear h1 hK1 HCk HK hr2 HH
  generalize hnk : nd.keys.length = nk at *
  clear hnk
  generalize hql : qs.length = nq at *
  have Hql := Lib.hid hql
  clear hql
  go_wp2_with fail
  refine HPs.out.mono ?_
  rintro r w2 ⟨v, rfl, hK2, h2⟩
  have h3 : Has w2 (pairsS v ps :: pairsS (.slice ba nq bc) qs :: pts w.heap.size (.cells #[.int .i64 nd.level, .slice ka nk kc, vv] 35 (0, 0)) :: l) := h2.reord [0, 1]
  have HRp := Lib.hid (sl_Replace ps qs h3 at_ Hat.out.1 Hat.out.2.1 (by rw [Hql.out]; exact Hat.out.2.2))
  have HK2 := Lib.hid (HK1.out.trans hK2)
  clear h2 h3 hK2 HK1 HPs n0 n1 n2 ln
  go_wp2_with fail
  refine HRp.out.mono ?_
  rintro r w3 ⟨v3, rfl, hK3, h3⟩
  have HOr := Lib.hid (node_ordered h3 (.head _) Hrl.out)
  rw [Ho.out] at HOr
  have H3 := Lib.hid h3
  have HK3 := Lib.hid (HK2.out.trans hK3)
  clear h3 hK3 HK2 HRp
  go_wp2_with fail
  refine HOr.out.mono ?_
  rintro r w4 ⟨rfl, hb4⟩
  have h4 := H3.out.below hb4
  have HK4 := Lib.hid (HK3.out.trans (Kept.below hb4))
  have hr2 := h4.at (b := w.heap.size) (o := (.cells #[.int .i64 nd.level, .slice ka nk kc, vv] 35 (0, 0))) (by simp)
  have n0 : w4.cell? ⟨w.heap.size, 0, none⟩ = some (.int .i64 nd.level) := cell_of hr2 0 rfl
  have n1 : w4.cell? ⟨w.heap.size, 1, none⟩ = some (.slice ka nk kc) := cell_of hr2 1 rfl
  have n2 : w4.cell? ⟨w.heap.size, 2, none⟩ = some vv := cell_of hr2 2 rfl
  have ln := World.block_lt_of_cell? _ _ n0
  have HC := Lib.hid (node_cut nd.level (.slice ka nk kc) vv (repP ps at_ qs) h4 (PSrcs.of_pairs (.head _)) Hrl.out)
  clear h4 hb4 H3 HK3 HOr hr2
  go_wp2_with fail
  refine HC.out.mono ?_
  rintro r w9 ⟨v9, T, rfl, hT, hK9, h9⟩
  have HF : Hid (NPutPost (cutN nd.level (repP ps at_ qs)) l w (.returned (.tuple #[v9, .nilIface])) w9) := ⟨v9, T, rfl, hT, HK4.out.trans hK9, h9.drop_mid.drop_mid⟩
  clear hT hK9 h9 HC HK4 n0 n1 n2 ln
  go_wp2
  go_ret2
  exact HF.out
end Go.Proofs.YtgbgneiciabidaaGreatDoor
/-
  Trees (layer 12): down, at a leaf.
-/
namespace Go.Proofs.YtgbgneiciabidaaGreatDoor
open Go Go.RowKit
set_option linter.all false

/-- A function that changes leaves. -/
def LeafC (lf : Value) (C : List Say) (op : List KV → List KV) (key : Int) (need : Bool) : Prop :=
  ∃ K caps, lf = .func (.func K) #[] caps ∧ May K ∧ ∀ {w : World} {l : List Say} (nd : Nd) {ak av : Option Addr} {ck cv : Nat}, Has w l → (∀ A ∈ C, A ∈ l) → intsS (.slice ak nd.keys.length ck) nd.keys ∈ l → intsS (.slice av nd.vals.length cv) nd.vals ∈ l → nd.ok = true → (need = true → ∃ p ∈ nd.pairs, p.1 = key) →
    Calls Tryz.prog K (#[nd.val (.slice ak nd.keys.length ck) (.slice av nd.vals.length cv)] ++ caps) w (NPutPost (cutN nd.level (op nd.pairs)) l w)
def DownPost (c p bank sp N : Nat) (es : List Ent) (Q : Pgs) (put : List Int) (op : List KV → List KV) (e : Nat) (L : List KV) (lv s : Nat) (atRoot : Bool) (l : List Say) (w : World) (r : Ending) (w' : World) : Prop :=
  Kept w w' ∧ ∃ (news : List (Int × Nd)) (Q' : Pgs) (pv : Value), Puts es Q news Q' ∧ news.length ≤ 2 * (lv + 1) ∧
    ((FullQ es Q' ∧ r = .returned (.tuple #[.slice none 0 0, errV 50]) ∧ Has w' (btS p bank sp (N + 2 * (lv + 1)) es Q' :: chL c p pv (put ++ news.map (·.1)) l)) ∨
     ∃ (v : Value) (outs : List KV) (lv' s' : Nat), r = .returned (.tuple #[v, .nilIface]) ∧ outs.length ≤ 2 ∧ lv' ≤ lv ∧ (atRoot = false → lv' = lv) ∧ TrL Q' lv' outs (op L) s' ∧ s' + (if outs.length = 2 then 2 ^ (lv' + 1) else 0) ≤ s + e ∧
      Has w' (pairsS v outs :: btS p bank sp (N + 2 * (lv + 1)) es Q' :: chL c p pv (put ++ news.map (·.1)) l))
def DownC (lv : Nat) : Prop := ∀ {w : World} {l : List Say} {c p bank sp N : Nat} {es : List Ent} {Q : Pgs} {put : List Int} {pv lf : Value} {C : List Say} {op : List KV → List KV} {e : Nat} {need : Bool} (addr key : Int) (atRoot : Bool) {L : List KV} {s : Nat},
  ChgOk op key e → LeafC lf C op key need → (∀ A ∈ C, A ∈ l) → Has w (btS p bank sp N es Q :: chL c p pv put l) → Tab l → Tr Q lv addr L s → Srt L → (need = true → ∃ x ∈ L, x.1 = key) → N + 2 * (lv + 1) ≤ 300000 → put.length + 2 * (lv + 1) ≤ 1000 →
  Calls Tryz.prog 162 #[.pointer (some ⟨c, 0, none⟩), .int .i64 addr, .int .i64 key, .bool atRoot, lf] w (DownPost c p bank sp N es Q put op e L lv s atRoot l w)

theorem Has.nodes_front {w : World} {A B C X Y Z : Say} {M l : List Say} (h : Has w (M ++ A :: B :: C :: X :: Y :: Z :: l)) : Has w (X :: Y :: Z :: (M ++ l)) := by
  have h1 : Has w (A :: B :: C :: X :: Y :: Z :: (M ++ l)) := by
    refine h.perm ?_
    have e1 : (M ++ A :: B :: C :: X :: Y :: Z :: l).Perm ([A, B, C, X, Y, Z] ++ (M ++ l)) := by
      have h2 : (M ++ ([A, B, C, X, Y, Z] ++ l)).Perm ([A, B, C, X, Y, Z] ++ (M ++ l)) := by
        rw [← List.append_assoc, ← List.append_assoc]
        exact List.perm_append_comm.append_right l
      exact h2
    exact e1
  exact h1.tail.tail.tail
set_option maxHeartbeats 4000000 in
set_option maxRecDepth 100000 in
theorem ch_down0 : DownC 0 := by
  intro w l c p bank sp N es Q put pv lf C op e need addr key atRoot L s hop hlf hC h ht hT hs hneed hN hput
  obtain ⟨hI, hH⟩ := h.bt_inv
  obtain ⟨g, hg, hlv, rfl, rfl⟩ := hT
  obtain ⟨ok, _, _⟩ := hI.pg addr g hg
  have hbd := (hI.adr addr (by rw [hg]; rfl)).bd
  obtain ⟨K, caps, rfl, hmay, hleaf⟩ := hlf
  have hcall := fun (vs : Array Value) (w : World) => hmay.run vs w
  have HG := Lib.hid (bt_Get h addr (by omega) (by omega))
  have hgc := h.at (b := c) (o := .cells #[.pointer (some ⟨p, 0, none⟩), pv] 212 (0, 0)) (by simp [chL, changeS])
  have c0 : w.cell? ⟨c, 0, none⟩ = some (.pointer (some ⟨p, 0, none⟩)) := cell_of hgc 0 rfl
  have Hg := Lib.hid hg
  have Hop := Lib.hid hop
  have Hok := Lib.hid ok
  have HC := Lib.hid hC
  have Ht := Lib.hid ht
  have Hneed := Lib.hid hneed
  have Hleaf : Hid (∀ {w : World} {l : List Say} (nd : Nd) {ak av : Option Addr} {ck cv : Nat}, Has w l → (∀ A ∈ C, A ∈ l) → intsS (.slice ak nd.keys.length ck) nd.keys ∈ l → intsS (.slice av nd.vals.length cv) nd.vals ∈ l → nd.ok = true → (need = true → ∃ p ∈ nd.pairs, p.1 = key) → Calls Tryz.prog K (#[nd.val (.slice ak nd.keys.length ck) (.slice av nd.vals.length cv)] ++ caps) w (NPutPost (cutN nd.level (op nd.pairs)) l w)) := hleaf
  have HI := Lib.hid hI
  have HB := Lib.hid (And.intro hN hput)
  clear h ht hg hop ok hC hneed hleaf hI hH hs hgc hmay hN hput hbd
  go_enter Tryz.func162, Tryz.ntmps162
  go_wp2_with fail
  refine HG.out.mono ?_
  rintro r w1 ⟨hK1, (⟨h1, _⟩ | ⟨g', ak, ck, av, cv, h1, rfl, h3⟩)⟩
  · rw [Hg.out] at h1; cases h1
  rw [Hg.out] at h1
  obtain rfl := Option.some.inj h1
  clear h1 HG c0
  obtain ⟨⟨lvI, keys, vals⟩, ho, he⟩ := g
  simp only at hlv
  subst hlv
  simp only [Nd.val]
  have h4 := h3.alloc (.cells #[.int .i64 0, .slice ak keys.length ck, .slice av vals.length cv] 35)
  have hk4 := hK1.alloc (.cells #[.int .i64 0, .slice ak keys.length ck, .slice av vals.length cv] 35)
  have hnd : (need = true → ∃ q ∈ (⟨0, keys, vals⟩ : Nd).pairs, q.1 = key) := Hneed.out
  have HL := Lib.hid (Hleaf.out ⟨0, keys, vals⟩ (ak := ak) (av := av) (ck := ck) (cv := cv) h4 (fun A hA => by simp [chL, HC.out A hA]) (by simp) (by simp) Hok.out hnd)
  have HK4 := Lib.hid hk4
  clear h3 h4 hK1 hk4 hnd Hleaf
  simp only [Nd.val] at HL
  go_wp2_with fail
  refine HL.out.mono ?_
  rintro r w2 ⟨v2, T, rfl, hTm, hK2, h5⟩
  have h6 := Has.nodes_front h5
  have hpn := ok_pairs Hok.out
  have hR : TrR Q 0 (op (⟨0, keys, vals⟩ : Nd).pairs) (op (⟨0, keys, vals⟩ : Nd).pairs) 0 := ⟨rfl, rfl⟩
  have hsr := Hop.out.srt hpn.1
  have hlen := Hop.out.len hpn.1
  have hrt : ∀ q ∈ op (⟨0, keys, vals⟩ : Nd).pairs, pairOk q.1 q.2 = true := fun q hq => (Hop.out.mem hq).elim (hpn.2.1 q) id
  obtain ⟨o0, o1, o2, o3, o4⟩ := ok_lens Hok.out
  have he1 := Hop.out.e1
  have hl8 : (op (⟨0, keys, vals⟩ : Nd).pairs).length ≤ 8 := by
    have := hpn.2.2
    simp only at this o4 ⊢
    omega
  have hcok := cut_ok hR hsr hrt (by omega) hl8
  have hTl : T.length ≤ 2 := by
    have h7 := congrArg List.length hTm
    rw [List.length_map] at h7
    rw [h7]
    unfold cutN
    split
    · simp
    · split <;> simp
  have HW := Lib.hid (ch_write T h6 Ht.out hTl (fun t ht => hcok t.nd (by show t.nd ∈ cutN (0 : Int) _; rw [← hTm]; exact List.mem_map.2 ⟨t, ht, rfl⟩)) (by have := HB.out.1; omega) (by have := HB.out.2; omega))
  have HK5 := Lib.hid (HK4.out.trans hK2)
  have HX := Lib.hid (And.intro hR (And.intro (show (op (⟨0, keys, vals⟩ : Nd).pairs).length ≤ keys.length + e by have := hpn.2.2; simp only at this; omega) (show keys.length ≤ 7 from o4)))
  have HTm := Lib.hid hTm
  have HTl := Lib.hid hTl
  clear hTm hK2 h5 h6 hpn hR hsr hlen hrt o0 o1 o2 o3 o4 he1 hl8 hcok hTl HL HK4 Ht
  go_wp2_with fail
  refine HW.out.mono ?_
  rintro r w3 ⟨hK3, news, Q', pv', hps, hnl, (⟨hfull, rfl, h7⟩ | ⟨hns, v3, rfl, h7⟩)⟩
  · have HF : Hid (DownPost c p bank sp N es Q put op e (⟨0, keys, vals⟩ : Nd).pairs 0 (wt 0 keys.length) atRoot l w (.returned (.tuple #[.slice none 0 0, errV 50])) w3) := by
      rw [List.length_map] at hnl h7
      exact ⟨HK5.out.trans hK3, news, Q', pv', hps, by have := HTl.out; omega, .inl ⟨hfull, rfl, h7.bt_more (by have := HTl.out; omega)⟩⟩
    clear hK3 hps hnl hfull h7 HW HK5 HX HTm HTl
    simp only [errV] at HF ⊢
    go_wp2
    go_ret2
    exact HF.out
  · have HF : Hid (DownPost c p bank sp N es Q put op e (⟨0, keys, vals⟩ : Nd).pairs 0 (wt 0 keys.length) atRoot l w (.returned (.tuple #[v3, .nilIface])) w3) := by
      rw [List.length_map] at hnl h7
      rw [HTm.out] at hns
      obtain ⟨s', q1, q2, q3⟩ := cut_out hps HX.out.1 hns keys.length e Hop.out.e1 HX.out.2.2 HX.out.2.1
      refine ⟨HK5.out.trans hK3, news, Q', pv', hps, by have := HTl.out; omega, .inr ⟨v3, _, 0, s', rfl, by rw [List.length_map]; exact q2, Nat.le_refl _, fun _ => rfl, q1, ?_, (Has.bt_more (by have := HTl.out; omega) h7.swap).swap⟩⟩
      rw [List.length_map]
      simp only [Nat.pow_zero, Nat.mul_one, Nat.add_zero] at q3
      exact q3
    clear hK3 hps hnl hns h7 HW HK5 HX HTm HTl
    go_wp2
    go_ret2
    exact HF.out
end Go.Proofs.YtgbgneiciabidaaGreatDoor
