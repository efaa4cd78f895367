/-
  BtreeOrders: the walk.
-/
import Derived.Test.YtgbgneiciabidaaGreatDoorGo46
namespace Go.Proofs.YtgbgneiciabidaaGreatDoor
open Go Go.RowKit
set_option linter.all false

def OrdM1 (w : World) (l : List Say) (ks : List Int) (t sp p bank k : Nat) (lv : Value) (wr : World) : Prop :=
  Kept w wr ∧ ∃ pa pc, lv = .slice pa (gath (ks.take k)).length pc ∧ Has wr (intsS lv (gath (ks.take k)) :: treesS t sp p :: btS p bank sp 0 (eSizes [400, 400]) [] :: l)
def OrdM2 (w : World) (l : List Say) (G : List Int) (t sp p bank : Nat) (lv mv : Value) (wr : World) : Prop :=
  Kept w wr ∧ ∃ M : List Int, G.Perm M ∧ Has wr (intsS mv M :: intsS lv G :: treesS t sp p :: btS p bank sp 0 (eSizes [400, 400]) [] :: l)
def OrdM3 (w : World) (l : List Say) (G M : List Int) (t sp p bank : Nat) (lv mv : Value) (i : Nat) (a b : Int) (wr : World) : Prop :=
  ∃ (Q : Pgs) (sa sb : Nat), sa ≤ 2 * i ∧ sb ≤ 2 * i ∧ Twin Q a (setsL (keyed G (G.take i))) sa b (setsL (keyed G (M.take i))) sb ∧ Kept w wr ∧ Has wr (intsS mv M :: intsS lv G :: treesS t sp p :: btS p bank sp (100 * i) (eSizes [400, 400]) Q :: l)
def OrdM4 (w : World) (l : List Say) (G M : List Int) (t sp p bank : Nat) (lv mv : Value) (n i : Nat) (a b : Int) (wr : World) : Prop :=
  ∃ (Q : Pgs) (sa sb : Nat), sa ≤ 160 ∧ sb ≤ 160 ∧ Twin Q a (delsL (setsL (keyed G G)) (M.take i)) sa b (delsL (setsL (keyed G M)) ((M.take n).reverse.take i)) sb ∧ Kept w wr ∧ Has wr (intsS mv M :: intsS lv G :: treesS t sp p :: btS p bank sp (8000 + 100 * i) (eSizes [400, 400]) Q :: l)
/-- How many are deleted. -/
theorem gone_at (gone : Int) (m : Nat) : ∃ n : Nat, n ≤ m ∧ min (max gone 0) (m : Int) = (n : Int) := ⟨(min (max gone 0) (m : Int)).toNat, by omega, by omega⟩
set_option maxHeartbeats 8000000 in
set_option maxRecDepth 100000 in
theorem law_orders {w : World} {l : List Say} (ks ss : List Int) (gone : Int) {kv sv : Value} (h : Has w l) (ht : Tab l) (hk : Srcs l kv ks) (hs : Srcs l sv ss) :
    Calls Tryz.prog 7 #[kv, sv, .int .i64 gone] w (fun r w' => r = .returned (.bool true) ∧ Kept w w' ∧ Has w' l) := by
  obtain ⟨ka, kc, rfl, _⟩ := (hk w h).rd
  obtain ⟨sa, sc, rfl, _⟩ := (hs w h).rd
  have h1 := (h.alloc (.cells #[.int .i64 400, .int .i64 400] 3)).row_of_pts (n := 2) (xs := [.int .i64 400, .int .i64 400]) (size := 1) (by simp) (Nat.le_refl _) (by simp [maxLen]) (by simp) (by simp)
  have h2 : Has (w.alloc (.cells #[.int .i64 400, .int .i64 400] 3)) (intsS (.slice (some ⟨w.heap.size, 0, none⟩) 2 2) [400, 400] :: l) := h1
  have HM := Lib.hid (made12 [400, 400] h2 (Srcs.of_ints (.head _)) (by decide))
  have HK := Lib.hid ((Kept.refl w).alloc (.cells #[.int .i64 400, .int .i64 400] 3))
  have Ht := Lib.hid ht
  have Hk := Lib.hid hk
  have Hs := Lib.hid hs
  clear h h1 h2 ht hk hs
  go_enter Tryz.func7, Tryz.ntmps7
  go_wp2_with fail
  refine HM.out.mono ?_
  rintro r w1 ⟨t, sp, p, bank, rfl, hK1, h3⟩
  have h4 : Has w1 (treesS t sp p :: btS p bank sp 0 (eSizes [400, 400]) [] :: l) := Has.skip (A := [_, _]) (M := [_]) h3
  have c1 : w1.cell? ⟨t, 1, none⟩ = some (.pointer (some ⟨p, 0, none⟩)) := cell_of h4.got 1 rfl
  have lt1 := World.block_lt_of_cell? _ _ c1
  have HK1 := Lib.hid (HK.out.trans hK1)
  have H4 := Lib.hid h4
  obtain ⟨n, hn⟩ : ∃ n, ks.length = n := ⟨_, rfl⟩
  obtain ⟨ns, hns⟩ : ∃ ns, ss.length = ns := ⟨_, rfl⟩
  have Hn := Lib.hid (And.intro hn hns)
  rw [hn, hns]
  clear h3 h4 hK1 HM HK hn hns
  generalize w.heap.size = g0 at *
  by_cases hbad : 80 < n ∨ ns < n
  · have HA := Lib.hid (awake12 H4.out Ht.out.cons.cons)
    have hbI : (80 : Int) < n ∨ (¬ (80 : Int) < n ∧ (ns : Int) < n) := by omega
    have hK1 := HK1.out
    clear H4 hbad
    rcases hbI with hb | ⟨hb, hb2⟩
    all_goals
      go_wp2_with fail
      refine HA.out.mono ?_
      rintro r w2 ⟨rfl, hK2, h5⟩
      have HF : Hid (Kept w w2 ∧ Has w2 l) := ⟨HK1.out.trans hK2, h5.tail.tail⟩
      clear hK2 h5 HA hK1 HK1
      go_wp2
      go_ret
      exact ⟨rfl, HF.out.1, HF.out.2⟩
  have hb1 : decide ((80 : Int) < n) = false := by simp; omega
  have hb2 : decide ((ns : Int) < n) = false := by simp; omega
  have hb5 : decide (ns < n) = false := by simp; omega
  have hb6 : decide (80 < n) = false := by simp; omega
  have hb3 : ¬ (80 : Int) < n := by omega
  have hb4 : ¬ (ns : Int) < n := by omega
  have Hb : Hid (n ≤ 80 ∧ n ≤ ns) := ⟨by omega, by omega⟩
  have HM0 : Hid (OrdM1 w l ks t sp p bank 0 (.slice none 0 0) w1) := ⟨HK1.out, none, 0, rfl, (H4.out.row_nil 3 1)⟩
  clear HK1 H4 hbad
  go_wp2
  go_loopg [60, 8] n (fun gk i lv wr => ∃ k : Nat, k ≤ n ∧ gk = n - k ∧ i = .int .i64 k ∧ Hid (OrdM1 w l ks t sp p bank k lv wr))
  case atStart => exact ⟨0, Nat.zero_le _, rfl, rfl, HM0⟩
  case round =>
    clear HM0
    obtain ⟨k, hk, rfl, rfl, HM⟩ := hrel
    obtain ⟨hK, pa, pc, rfl, hh⟩ := HM.out
    clear HM
    by_cases hlt : k < n
    · obtain ⟨a', c', hv', hrd⟩ := (Hk.out wr hh.tail.tail.tail).rd
      injection hv' with j1 j2 j3
      subst j1 j3
      obtain ⟨gb, go, rfl, hc⟩ := hrd k (by have := Hn.out.1; omega)
      have lz := World.block_lt_of_cell? _ _ hc
      have hsn : gath (ks.take (k + 1)) = if 0 ≤ ks[k]'(by have := Hn.out.1; omega) ∧ ks[k]'(by have := Hn.out.1; omega) ≤ 1099511627776 ∧ ks[k]'(by have := Hn.out.1; omega) ∉ gath (ks.take k) then gath (ks.take k) ++ [ks[k]'(by have := Hn.out.1; omega)] else gath (ks.take k) := by
        rw [List.take_succ_eq_append_getElem, gath_snoc]
      have hgl := gath_len ks k
      have Hsn := Lib.hid hsn
      have HH := Lib.hid hh
      have HK := Lib.hid hK
      have kI : (k : Int) < (n : Int) := by omega
      have k0 : (0 : Int) ≤ k := by omega
      have nI : (n : Int) ≤ 80 := by have := Hb.out.1; omega
      clear hsn hrd hh hK
      generalize ks[k]'(by have := Hn.out.1; omega) = x at *
      obtain ⟨G, hG⟩ : ∃ G, gath (ks.take k) = G := ⟨_, rfl⟩
      rw [hG] at Hsn HH hgl
      have HG := Lib.hid hG
      rw [hG]
      clear hG
      have hskip : ¬ (0 ≤ x ∧ x ≤ 1099511627776 ∧ x ∉ G) → OrdM1 w l ks t sp p bank (k + 1) (.slice pa G.length pc) wr := fun hno => by
        rw [if_neg hno] at Hsn
        exact ⟨HK.out, pa, pc, by rw [Hsn.out], by rw [Hsn.out]; exact HH.out⟩
      have Hskip := Lib.hid hskip
      clear hskip
      by_cases h0 : 0 ≤ x
      · by_cases h4 : x ≤ 1099511627776
        · have HHas := Lib.hid (law_has x (HH.out.rd (.head _)) (by omega))
          by_cases hin : x ∈ G
          · have HM2 := Lib.hid (Hskip.out fun hh => hh.2.2 hin)
            rw [decide_eq_true hin] at HHas
            clear Hskip Hsn HH HK HG
            obtain ⟨m, hm⟩ : ∃ m, G.length = m := ⟨_, rfl⟩
            rw [hm] at HHas HM2 hgl ⊢
            clear hm hin
            go_wp2_with fail
            refine HHas.out.mono ?_
            rintro r w2 ⟨rfl, rfl⟩
            clear HHas
            go_wp2
            go_roundg (n - (k + 1))
            case measure => omega
            case rel => exact ⟨k + 1, by omega, rfl, by go_num, HM2⟩
          · have hA := HH.out.alloc (.cells #[.int .i64 x] 3)
            have hkA := HK.out.alloc (.cells #[.int .i64 x] 3)
            rw [decide_eq_false hin] at HHas
            rw [if_pos ⟨h0, h4, hin⟩] at Hsn
            obtain ⟨m, hm⟩ : ∃ m, G.length = m := ⟨_, rfl⟩
            have Hm := Lib.hid hm
            rw [hm] at HHas hgl hA ⊢
            have HXx := Lib.hid hA.swap
            have HKA := Lib.hid hkA
            clear hm hin Hskip HH HK hA hkA
            go_wp2_with fail
            refine HHas.out.mono ?_
            rintro r w2 ⟨rfl, rfl⟩
            clear HHas
            go_upto_region 10 with (at_builtin; refine wpList_append_int rfl (.tmp 76) (.tmp 78) rfl rfl rfl HXx.out (.head _) Hm.out (by have := Hm.out; omega) ?_; intro p1 q1 w3 hK3 hz)
            have HM2 : Hid (OrdM1 w l ks t sp p bank (k + 1) (.slice p1 (m + 1) q1) w3) := by
              refine ⟨HKA.out.trans hK3, p1, q1, ?_, ?_⟩
              · rw [Hsn.out, List.length_append, Hm.out]; rfl
              · rw [Hsn.out]
                exact Has.skip (A := [_]) (M := [_]) hz
            clear hz hK3 HXx HKA Hsn HG
            go_wp2
            go_roundg (n - (k + 1))
            case measure => omega
            case rel => exact ⟨k + 1, by omega, rfl, by go_num, HM2⟩
        · have HM2 := Lib.hid (Hskip.out fun hh => h4 hh.2.1)
          clear Hskip Hsn HH HK HG
          generalize G.length = m at *
          go_wp2
          go_roundg (n - (k + 1))
          case measure => omega
          case rel => exact ⟨k + 1, by omega, rfl, by go_num, HM2⟩
      · have HM2 := Lib.hid (Hskip.out fun hh => h0 hh.1)
        clear Hskip Hsn HH HK HG
        generalize G.length = m at *
        go_wp2
        go_roundg (n - (k + 1))
        case measure => omega
        case rel => exact ⟨k + 1, by omega, rfl, by go_num, HM2⟩
    · have hke : k = n := by omega
      subst hke
      rw [List.take_of_length_le (by have := Hn.out.1; omega)] at hh
      have hlk : (gath ks).length ≤ k := by
        have := gath_len ks k
        rwa [List.take_of_length_le (by have := Hn.out.1; omega)] at this
      have hl80 : (gath ks).length ≤ 80 := by
        have := gath_len ks k
        rw [List.take_of_length_le (by have := Hn.out.1; omega)] at this
        have := Hb.out.1
        omega
      rw [List.take_of_length_le (by have := Hn.out.1; omega)]
      obtain ⟨G, hG⟩ : ∃ G, gath ks = G := ⟨_, rfl⟩
      rw [hG] at hh hl80 hlk ⊢
      have HG := Lib.hid hG
      have HH := Lib.hid hh
      have HK := Lib.hid hK
      clear hG hh hK
      obtain ⟨m, hm⟩ : ∃ m, G.length = m := ⟨_, rfl⟩
      have Hm := Lib.hid hm
      rw [hm] at hl80 hlk ⊢
      clear hm
      have he := HH.out.empty
      have hke := HK.out.alloc (.cells #[] 3)
      have hsrc := Srcs.of_ints (l := intsS (.slice (some ⟨wr.heap.size, 0, none⟩) 0 0) [] :: intsS (.slice pa G.length pc) G :: treesS t sp p :: btS p bank sp 0 (eSizes [400, 400]) [] :: l) (.tail _ (.head _)) _ he
      rw [Hm.out] at he hsrc
      have HE := Lib.hid he
      have HKE := Lib.hid hke
      have HSr := Lib.hid hsrc
      clear he hke hsrc HH HK
      go_upto_region 12 with (at_builtin; refine wpList_append_src rfl (.tmp 81) (.tmp 82) rfl rfl rfl HE.out HSr.out (by have := Hm.out; simp; omega) ?_; intro v2 w3 hK3 hz; rw [List.nil_append] at hz; obtain ⟨p2, q2, e2, hx2, hx3⟩ := hz.ints_read (v := v2) (xs := G) (.head _); rw [Hm.out] at e2; subst e2; clear hx2 hx3)
      have HM2 : Hid (OrdM2 w l G t sp p bank (.slice pa m pc) (.slice p2 m q2) w3) := ⟨HKE.out.trans hK3, G, .refl G, hz⟩
      clear hz hK3 HE HKE HSr
      generalize wr.heap.size = r81 at *
      go_wp2
      go_loopg [86] m (fun gk i wx => ∃ j : Nat, j ≤ m ∧ gk = m - j ∧ i = .int .i64 j ∧ Hid (OrdM2 w l G t sp p bank (.slice pa m pc) (.slice p2 m q2) wx))
      case atStart => exact ⟨0, Nat.zero_le _, rfl, rfl, HM2⟩
      case round =>
        clear HM2
        obtain ⟨j, hj, rfl, rfl, HM⟩ := hrel
        obtain ⟨hK, M, hperm, hh⟩ := HM.out
        clear HM
        by_cases hlt : j < m
        · obtain ⟨a', c', hv', hrd⟩ := (Hs.out wr hh.tail.tail.tail.tail).rd
          injection hv' with j1 j2 j3
          subst j1 j3
          obtain ⟨gb, go, rfl, hc⟩ := hrd j (by have := Hn.out.2; have := Hb.out.2; omega)
          have lz := World.block_lt_of_cell? _ _ hc
          generalize ss[j]'_ = x at hc
          have jI : (j : Int) < (m : Int) := by omega
          have j0 : (0 : Int) ≤ j := by omega
          have mI : (m : Int) ≤ 80 := by omega
          have jns : (j : Int) < (ns : Int) := by have := Hb.out.2; omega
          have hd0 : ((m : Int) - j == 0) = false := by simp; omega
          have hw1 : IntKind.i64.wrap ((m : Int) - j) = (m : Int) - j := IntWalk.i64_in _ (by omega)
          have HH := Lib.hid hh
          have HK := Lib.hid hK
          have Hperm := Lib.hid hperm
          clear hh hrd hK hperm
          obtain ⟨q, hq1, hq2, hq⟩ := shuffle_at x hlt hl80
          go_upto_region 16 with fail
          rw [hq]
          clear hq hc hw1 hd0 jns
          have hh := HH.out
          clear HH
          obtain ⟨_, _, e3, _, hr⟩ := hh.ints_read (v := .slice p2 m q2) (xs := M) (.head _)
          injection e3 with e3 e4 e5
          subst e3
          have Hml : Hid (M.length = m) := e4.symm
          obtain ⟨gM, rfl, cj, _⟩ := hr j (by omega)
          obtain ⟨_, e6, cq, _⟩ := hr q (by omega)
          injection e6 with e6
          injection e6 with e6
          subst e6
          have hMj : M[j]? = some M[j] := List.getElem?_eq_getElem (by omega)
          have hMq : M[q]? = some M[q] := List.getElem?_eq_getElem (by omega)
          have Hsw := Lib.hid (swap_perm hMj hMq)
          generalize M[j]'_ = y at cj hMj Hsw
          generalize M[q]'_ = z at cq hMq Hsw
          have qI : (q : Int) < (m : Int) := by omega
          have q0 : (0 : Int) ≤ q := by omega
          clear hr e4 e5 hMj hMq
          obtain ⟨FA, HFA⟩ : ∃ FA : List (Nat × Addr × Value), Hid (FA = [(7, ⟨gM, q, none⟩, .int .i64 z), (11, ⟨gM, j, none⟩, .int .i64 y)]) := ⟨_, rfl⟩
          have fa7 : ∀ n : In (factsOf FA 7), n.w.cell? ⟨gM, q, none⟩ = some (.int .i64 z) := fun n => factsOf.cell (by rw [HFA.out]; simp) n
          have fa11 : ∀ n : In (factsOf FA 11), n.w.cell? ⟨gM, j, none⟩ = some (.int .i64 y) := fun n => factsOf.cell (by rw [HFA.out]; simp) n
          have hFA : ∀ p ∈ FA, wr.cell? p.2.1 = some p.2.2 := by rw [HFA.out]; exact (fcons cq (fcons cj fnil))
          haveI neFA : ∀ k, Nonempty (In (factsOf FA k)) := fun k => ⟨⟨_, factsOf.drew hFA k⟩⟩
          refine ws_begin [0, 1, 2, 3, 4, 5, 6, 7, 8, 9, 10, 11, 12, 13, 14, 15] (factsOf FA) (intsS (.slice (some ⟨gM, 0, none⟩) m q2) M :: intsS (.slice pa m pc) G :: treesS t sp p :: btS p bank sp 0 (eSizes [400, 400]) [] :: l) #[0, 0, 0, 0, 0, 0, 48, 112, 0, 0, 768, 1792, 4083, 8179, 16383, 32767] (by kernel_rfl) (by kernel_rfl) (by kernel_rfl) factsOf.alloc (factsOf.drew hFA) hh ?_
          clear hFA
          refine ws_q (at_lit rfl) rfl rfl rfl ?_
          go_big_quiet_op
          show WS _ _ _ _ _ _ _ _ _ _
          refine ws_q (at_lit rfl) rfl rfl rfl ?_
          go_big_quiet_op
          show WS _ _ _ _ _ _ _ _ _ _
          refine ws_q (at_lit rfl) rfl rfl rfl ?_
          go_big_quiet_op
          show WS _ _ _ _ _ _ _ _ _ _
          refine ws_q (at_lit rfl) rfl rfl rfl ?_
          go_big_quiet_op
          show WS _ _ _ _ _ _ _ _ _ _
          refine ws_q (at_lit rfl) rfl rfl rfl ?_
          go_big_quiet_op
          show WS _ _ _ _ _ _ _ _ _ _
          refine ws_q (at_lit rfl) rfl rfl rfl ?_
          go_big_quiet_op
          show WS _ _ _ _ _ _ _ _ _ _
          refine ws_q (at_lit rfl) rfl rfl rfl ?_
          go_big_quiet_op
          show WS _ _ _ _ _ _ _ _ _ _
          refine ws_q (at_lit rfl) rfl rfl rfl ?_
          go_big_quiet_op
          show WS _ _ _ _ _ _ _ _ _ _
          refine ws_q (at_lit rfl) rfl rfl rfl ?_
          go_big_quiet_op
          show WS _ _ _ _ _ _ _ _ _ _
          refine ws_q (at_lit rfl) rfl rfl rfl ?_
          go_big_quiet_op
          show WS _ _ _ _ _ _ _ _ _ _
          refine ws_q (at_lit rfl) rfl rfl rfl ?_
          go_big_quiet_op
          show WS _ _ _ _ _ _ _ _ _ _
          refine ws_q (at_lit rfl) rfl rfl rfl ?_
          go_big_quiet_op
          show WS _ _ _ _ _ _ _ _ _ _
          refine ws_q (at_lit rfl) rfl rfl rfl ?_
          go_big_quiet_op
          show WS _ _ _ _ _ _ _ _ _ _
          refine ws_store_int (at_lit rfl) rfl rfl (.tmp 122) (.tmp 117) rfl (j := j) rfl rfl (by simp [Hml.out]) (by omega) (fun w' F hh => lives (l' := []) (by rw [HFA.out]; simp [liveFacts, Nat.testBit]) (fnil)) ?_
          simp only [Act.put, List.setIfInBounds_toArray, List.set_cons_zero, List.set_cons_succ]
          show WS _ _ _ _ _ _ _ _ _ _
          refine ws_q (at_lit rfl) rfl rfl rfl ?_
          go_big_quiet_op
          show WS _ _ _ _ _ _ _ _ _ _
          refine ws_store_int (at_lit rfl) rfl rfl (.tmp 123) (.tmp 121) rfl (j := q) rfl rfl (by simp [Hml.out]) (by omega) (fun w' F hh => lives (l' := []) (by rw [HFA.out]; simp [liveFacts, Nat.testBit]) (fnil)) ?_
          simp only [Act.put, List.setIfInBounds_toArray, List.set_cons_zero, List.set_cons_succ]
          show WS _ _ _ _ _ _ _ _ _ _
          refine ws_end ?_
          intro w4 hK4 h4
          have HM2 : Hid (OrdM2 w l G t sp p bank (.slice pa m pc) (.slice (some ⟨gM, 0, none⟩) m q2) w4) := ⟨HK.out.trans hK4, _, Hperm.out.trans Hsw.out, h4⟩
          clear hK4 h4 hh HFA neFA FA fa7 fa11 cj cq HK Hperm Hsw Hml
          go_wp2
          go_roundg (m - (j + 1))
          case measure => omega
          case rel => exact ⟨j + 1, by omega, rfl, by go_num, HM2⟩
        · have hje : j = m := by omega
          subst hje
          have hml := hperm.length_eq
          have HM3 : Hid (OrdM3 w l G M t sp p bank (.slice pa j pc) (.slice p2 j q2) 0 0 0 wr) := ⟨[], 0, 0, Nat.le_refl _, Nat.le_refl _, Twin.nil, hK, hh⟩
          obtain ⟨hGn, hGr⟩ := gath_ok ks
          rw [HG.out] at hGn hGr
          obtain ⟨m, hmj⟩ : ∃ m, j = m := ⟨_, rfl⟩
          subst hmj
          have HP : Hid (G.Perm M ∧ G.Nodup ∧ (∀ x ∈ G, 0 ≤ x ∧ x ≤ 1099511627776) ∧ G.length = j ∧ M.length = j) := ⟨hperm, hGn, hGr, Hm.out, by rw [← hml]; exact Hm.out⟩
          clear hperm hml hGn hGr hh hK hlt hlk
          generalize hjm : j = m at *
          clear hjm
          go_wp2
          go_loopg [14, 15, 127] m (fun gk av bv iv wr => ∃ (i : Nat) (a b : Int), i ≤ m ∧ gk = m - i ∧ av = .int .i64 a ∧ bv = .int .i64 b ∧ iv = .int .i64 i ∧ Hid (OrdM3 w l G M t sp p bank (.slice pa m pc) (.slice p2 m q2) i a b wr))
          case atStart => exact ⟨0, 0, 0, Nat.zero_le _, rfl, rfl, rfl, rfl, HM3⟩
          case round =>
            clear HM3
            obtain ⟨i, a, b, hi, rfl, rfl, rfl, rfl, HM⟩ := hrel
            obtain ⟨Q, sa, sb, hsa, hsb, hT, hK, hh⟩ := HM.out
            clear HM
            by_cases hlt : i < m
            · skip
              obtain ⟨_, _, e3, _, hr⟩ := hh.ints_read (v := .slice p2 m q2) (xs := M) (.head _)
              injection e3 with e3 e4 e5
              subst e3
              obtain ⟨_, _, e7, _, hs⟩ := hh.ints_read (v := .slice pa m pc) (xs := G) (.tail _ (.head _))
              injection e7 with e7 e8 e9
              subst e7
              obtain ⟨gM, rfl, cM, _⟩ := hr i (by omega)
              obtain ⟨gG, rfl, cG, _⟩ := hs i (by omega)
              have hMi : M[i]? = some M[i] := List.getElem?_eq_getElem (by omega)
              have hGi : G[i]? = some G[i] := List.getElem?_eq_getElem (by omega)
              generalize M[i]'_ = y at cM hMi
              generalize G[i]'_ = x at cG hGi
              have hxm : x ∈ G := List.mem_of_getElem? hGi
              have hym : y ∈ G := HP.out.1.mem_iff.2 (List.mem_of_getElem? hMi)
              have hpx := plc_at HP.out.2.1 hGi
              have hkx := keyed_ok HP.out.2.1 HP.out.2.2.1 (by have := HP.out.2.2.2.1; omega) hxm
              have hky := keyed_ok HP.out.2.1 HP.out.2.2.1 (by have := HP.out.2.2.2.1; omega) hym
              have hpy : 0 ≤ plc G y ∧ plc G y < 80 := by
                have h1 := HP.out.2.2.2.1
                have h2 := List.idxOf_lt_length_iff.2 hym
                unfold plc
                rw [if_pos hym]
                omega
              have hnx := sets_next (G := G) hGi
              have hny := sets_next (G := G) hMi
              rw [hpx] at hkx hnx
              have HS1 : Hid (∀ w' l', Has w' (btS p bank sp (100 * i) (eSizes [400, 400]) Q :: l') → Tab l' → Calls Tryz.prog 39 #[.pointer (some ⟨p, 0, none⟩), .int .i64 a, .int .i64 x, .int .i64 ((i : Int) + 1)] w' (TwoPost p bank sp (100 * i) (eSizes [400, 400]) (setsL (keyed G (G.take (i + 1)))) (sa + 2) b (setsL (keyed G (M.take i))) sb l' w')) := fun w' l' h ht => by
                rw [← hnx]
                exact two_Set a x _ h ht rfl hT (by omega) (by omega) hkx
              have hpc : Hid (∀ w' l', Has w' (intsS (.slice (some ⟨gG, 0, none⟩) m pc) G :: l') → Calls Tryz.prog 40 #[.slice (some ⟨gG, 0, none⟩) m pc, .int .i64 y] w' (fun r w'' => r = .returned (.int .i64 (plc G y)) ∧ w' = w'')) := fun w' l' h => law_place y (h.rd (.head _)) (by have := HP.out.2.2.2.1; omega)
              have Hny := Lib.hid hny
              have Hky := Lib.hid hky
              have c1 : wr.cell? ⟨t, 1, none⟩ = some (.pointer (some ⟨p, 0, none⟩)) := cell_of (hh.at (b := t) (o := (.cells #[.pointer (some ⟨sp, 0, none⟩), .pointer (some ⟨p, 0, none⟩), .int .i64 0, .int .i64 0, .int .i64 0, .int .i64 0, .slice none 0 0, .slice none 0 0, .slice none 0 0, .slice none 0 0] 70 (0, 0))) (.tail _ (.tail _ (.head _)))) 1 rfl
              have lt1 := World.block_lt_of_cell? _ _ c1
              have HK := Lib.hid hK
              have HH := Lib.hid hh
              have iI : (i : Int) < (m : Int) := by omega
              have i0 : (0 : Int) ≤ i := by omega
              have mI : (m : Int) ≤ 80 := by omega
              have hwi : IntKind.i64.wrap ((i : Int) + 1) = (i : Int) + 1 := IntWalk.i64_in _ (by omega)
              have hwy : IntKind.i64.wrap (plc G y + 1) = plc G y + 1 := IntWalk.i64_in _ (by omega)
              have HGi := Lib.hid hGi
              have HMi := Lib.hid hMi
              generalize plc G y = py at *
              clear hr hs e4 e5 e8 e9 hMi hGi hxm hym hpx hkx hky hnx hny hh hK hT
              go_upto_region 23 with fail
              have hh := HH.out
              clear HH
              obtain ⟨FA, HFA⟩ : ∃ FA : List (Nat × Addr × Value), Hid (FA = [(3, ⟨t, 1, none⟩, .pointer (some ⟨p, 0, none⟩)), (8, ⟨gG, i, none⟩, .int .i64 x)]) := ⟨_, rfl⟩
              have fa3 : ∀ n : In (factsOf FA 3), n.w.cell? ⟨t, 1, none⟩ = some (.pointer (some ⟨p, 0, none⟩)) := fun n => factsOf.cell (by rw [HFA.out]; simp) n
              have fa8 : ∀ n : In (factsOf FA 8), n.w.cell? ⟨gG, i, none⟩ = some (.int .i64 x) := fun n => factsOf.cell (by rw [HFA.out]; simp) n
              have hFA : ∀ p ∈ FA, wr.cell? p.2.1 = some p.2.2 := by rw [HFA.out]; exact (fcons c1 (fcons cG fnil))
              haveI neFA : ∀ k, Nonempty (In (factsOf FA k)) := fun k => ⟨⟨_, factsOf.drew hFA k⟩⟩
              refine ws_begin [0, 1, 2, 3, 4, 5, 6, 7, 8, 9, 10, 11, 12, 13, 14, 15, 16] (factsOf FA) (intsS (.slice (some ⟨gM, 0, none⟩) m q2) M :: intsS (.slice (some ⟨gG, 0, none⟩) m pc) G :: treesS t sp p :: btS p bank sp (100 * i) (eSizes [400, 400]) Q :: l) #[0, 1, 3, 7, 0, 0, 0, 96, 224, 0, 512, 2047, 4095, 8191, 8191, 16383, 65535] (by kernel_rfl) (by kernel_rfl) (by kernel_rfl) factsOf.alloc (factsOf.drew hFA) hh ?_
              clear hFA
              refine ws_q (at_lit rfl) rfl rfl rfl ?_
              go_big_quiet_op
              show WS _ _ _ _ _ _ _ _ _ _
              refine ws_q (at_lit rfl) rfl rfl rfl ?_
              go_big_quiet_op
              show WS _ _ _ _ _ _ _ _ _ _
              refine ws_q (at_lit rfl) rfl rfl rfl ?_
              go_big_quiet_op
              show WS _ _ _ _ _ _ _ _ _ _
              refine ws_q (at_lit rfl) rfl rfl rfl ?_
              go_big_quiet_op
              show WS _ _ _ _ _ _ _ _ _ _
              refine ws_q (at_lit rfl) rfl rfl rfl ?_
              go_big_quiet_op
              show WS _ _ _ _ _ _ _ _ _ _
              refine ws_q (at_lit rfl) rfl rfl rfl ?_
              go_big_quiet_op
              show WS _ _ _ _ _ _ _ _ _ _
              refine ws_q (at_lit rfl) rfl rfl rfl ?_
              go_big_quiet_op
              show WS _ _ _ _ _ _ _ _ _ _
              refine ws_q (at_lit rfl) rfl rfl rfl ?_
              go_big_quiet_op
              show WS _ _ _ _ _ _ _ _ _ _
              refine ws_q (at_lit rfl) rfl rfl rfl ?_
              go_big_quiet_op
              show WS _ _ _ _ _ _ _ _ _ _
              refine ws_q (at_lit rfl) rfl rfl rfl ?_
              go_big_quiet_op
              show WS _ _ _ _ _ _ _ _ _ _
              refine ws_q (at_lit rfl) rfl rfl rfl ?_
              go_big_quiet_op
              show WS _ _ _ _ _ _ _ _ _ _
              refine ws_call (at_lit rfl) rfl rfl 39 #[.pointer (some ⟨p, 0, none⟩), .int .i64 a, .int .i64 x, .int .i64 ((i : Int) + 1)] (fun w => by go_simp) (fun v L' => ∃ ta Q' s', v = .tuple #[.int .i64 ta, .nilIface] ∧ s' ≤ sa + 2 ∧ Twin Q' ta (setsL (keyed G (G.take (i + 1)))) s' b (setsL (keyed G (M.take i))) sb ∧ L' = btS p bank sp (100 * i + 50) (eSizes [400, 400]) Q' :: intsS (.slice (some ⟨gM, 0, none⟩) m q2) M :: intsS (.slice (some ⟨gG, 0, none⟩) m pc) G :: treesS t sp p :: l) (fun w' F hS hh => ?_) ?_
              · refine (HS1.out w' _ (hh.reord [3]) ((Ht.out.fr F).cons.cons.cons)).mono ?_
                rintro r w'' ⟨ta, Q', s', rfl, hK, hs', hT', hh'⟩
                exact ⟨_, _, rfl, hK, ⟨ta, Q', s', rfl, hs', hT', rfl⟩, hh'⟩
              rintro _ _ ⟨ta, Q', s', rfl, hs', hT', rfl⟩
              refine ⟨fun w F hh => lives (l' := []) (by rw [HFA.out]; simp [liveFacts, Nat.testBit]) (fnil), ?_⟩
              simp only [Act.put, List.setIfInBounds_toArray, List.set_cons_zero, List.set_cons_succ]
              show WS _ _ _ _ _ _ _ _ _ _
              refine ws_q (at_lit rfl) rfl rfl rfl ?_
              go_big_quiet_op
              show WS _ _ _ _ _ _ _ _ _ _
              refine ws_q (at_lit rfl) rfl rfl rfl ?_
              go_big_quiet_op
              show WS _ _ _ _ _ _ _ _ _ _
              refine ws_q (at_lit rfl) rfl rfl rfl ?_
              go_big_quiet_op
              show WS _ _ _ _ _ _ _ _ _ _
              refine ws_q (at_lit rfl) rfl rfl rfl ?_
              go_big_quiet_op
              show WS _ _ _ _ _ _ _ _ _ _
              refine ws_q (at_lit rfl) rfl rfl rfl ?_
              go_big_quiet_op
              show WS _ _ _ _ _ _ _ _ _ _
              refine ws_end ?_
              intro w4 hK4 h4
              have HS2 : Hid (∀ w' l', Has w' (btS p bank sp (100 * i + 50) (eSizes [400, 400]) Q' :: l') → Tab l' → Calls Tryz.prog 39 #[.pointer (some ⟨p, 0, none⟩), .int .i64 b, .int .i64 y, .int .i64 (py + 1)] w' (TwoPost p bank sp (100 * i + 50) (eSizes [400, 400]) (setsL (keyed G (M.take (i + 1)))) (sb + 2) ta (setsL (keyed G (G.take (i + 1)))) s' l' w')) := fun w' l' h ht => by
                rw [← Hny.out]
                exact two_Set b y _ h ht rfl hT'.swap (by omega) (by omega) Hky.out
              have hh := h4
              have c1' : w4.cell? ⟨t, 1, none⟩ = some (.pointer (some ⟨p, 0, none⟩)) := cell_of (hh.at (b := t) (o := (.cells #[.pointer (some ⟨sp, 0, none⟩), .pointer (some ⟨p, 0, none⟩), .int .i64 0, .int .i64 0, .int .i64 0, .int .i64 0, .slice none 0 0, .slice none 0 0, .slice none 0 0, .slice none 0 0] 70 (0, 0))) (.tail _ (.tail _ (.tail _ (.head _))))) 1 rfl
              have cM' : w4.cell? ⟨gM, i, none⟩ = some (.int .i64 y) := hh.ints_at (n := m) (c := q2) (xs := M) (.tail _ (.head _)) HMi.out
              have HH := Lib.hid hh
              have HK4 := Lib.hid (HK.out.trans hK4)
              clear hK4 h4 hh HFA neFA FA fa3 fa8 c1 cG cM HK HS1 hT'
              go_upto_region 24 with fail
              have hh := HH.out
              clear HH
              obtain ⟨FA, HFA⟩ : ∃ FA : List (Nat × Addr × Value), Hid (FA = [(3, ⟨t, 1, none⟩, .pointer (some ⟨p, 0, none⟩)), (8, ⟨gM, i, none⟩, .int .i64 y), (13, ⟨gM, i, none⟩, .int .i64 y)]) := ⟨_, rfl⟩
              have fa3 : ∀ n : In (factsOf FA 3), n.w.cell? ⟨t, 1, none⟩ = some (.pointer (some ⟨p, 0, none⟩)) := fun n => factsOf.cell (by rw [HFA.out]; simp) n
              have fa8 : ∀ n : In (factsOf FA 8), n.w.cell? ⟨gM, i, none⟩ = some (.int .i64 y) := fun n => factsOf.cell (by rw [HFA.out]; simp) n
              have fa13 : ∀ n : In (factsOf FA 13), n.w.cell? ⟨gM, i, none⟩ = some (.int .i64 y) := fun n => factsOf.cell (by rw [HFA.out]; simp) n
              have hFA : ∀ p ∈ FA, w4.cell? p.2.1 = some p.2.2 := by rw [HFA.out]; exact (fcons c1' (fcons cM' (fcons cM' fnil)))
              haveI neFA : ∀ k, Nonempty (In (factsOf FA k)) := fun k => ⟨⟨_, factsOf.drew hFA k⟩⟩
              refine ws_begin [0, 1, 2, 3, 4, 5, 6, 7, 8, 9, 10, 11, 12, 13, 14, 15, 16, 17, 18, 19, 20, 21] (factsOf FA) (btS p bank sp (100 * i + 50) (eSizes [400, 400]) Q' :: intsS (.slice (some ⟨gM, 0, none⟩) m q2) M :: intsS (.slice (some ⟨gG, 0, none⟩) m pc) G :: treesS t sp p :: l) #[0, 1, 3, 7, 0, 0, 0, 96, 224, 0, 0, 0, 3072, 7168, 15872, 32256, 65535, 131071, 262143, 262143, 524287, 2097151] (by kernel_rfl) (by kernel_rfl) (by kernel_rfl) factsOf.alloc (factsOf.drew hFA) hh ?_
              clear hFA
              refine ws_q (at_lit rfl) rfl rfl rfl ?_
              go_big_quiet_op
              show WS _ _ _ _ _ _ _ _ _ _
              refine ws_q (at_lit rfl) rfl rfl rfl ?_
              go_big_quiet_op
              show WS _ _ _ _ _ _ _ _ _ _
              refine ws_q (at_lit rfl) rfl rfl rfl ?_
              go_big_quiet_op
              show WS _ _ _ _ _ _ _ _ _ _
              refine ws_q (at_lit rfl) rfl rfl rfl ?_
              go_big_quiet_op
              show WS _ _ _ _ _ _ _ _ _ _
              refine ws_q (at_lit rfl) rfl rfl rfl ?_
              go_big_quiet_op
              show WS _ _ _ _ _ _ _ _ _ _
              refine ws_q (at_lit rfl) rfl rfl rfl ?_
              go_big_quiet_op
              show WS _ _ _ _ _ _ _ _ _ _
              refine ws_q (at_lit rfl) rfl rfl rfl ?_
              go_big_quiet_op
              show WS _ _ _ _ _ _ _ _ _ _
              refine ws_q (at_lit rfl) rfl rfl rfl ?_
              go_big_quiet_op
              show WS _ _ _ _ _ _ _ _ _ _
              refine ws_q (at_lit rfl) rfl rfl rfl ?_
              go_big_quiet_op
              show WS _ _ _ _ _ _ _ _ _ _
              refine ws_q (at_lit rfl) rfl rfl rfl ?_
              go_big_quiet_op
              show WS _ _ _ _ _ _ _ _ _ _
              refine ws_q (at_lit rfl) rfl rfl rfl ?_
              go_big_quiet_op
              show WS _ _ _ _ _ _ _ _ _ _
              refine ws_q (at_lit rfl) rfl rfl rfl ?_
              go_big_quiet_op
              show WS _ _ _ _ _ _ _ _ _ _
              refine ws_q (at_lit rfl) rfl rfl rfl ?_
              go_big_quiet_op
              show WS _ _ _ _ _ _ _ _ _ _
              refine ws_q (at_lit rfl) rfl rfl rfl ?_
              go_big_quiet_op
              show WS _ _ _ _ _ _ _ _ _ _
              refine ws_call (at_lit rfl) rfl rfl 40 #[.slice (some ⟨gG, 0, none⟩) m pc, .int .i64 y] (fun w => by go_simp) (fun v L' => v = .int .i64 py ∧ L' = btS p bank sp (100 * i + 50) (eSizes [400, 400]) Q' :: intsS (.slice (some ⟨gM, 0, none⟩) m q2) M :: intsS (.slice (some ⟨gG, 0, none⟩) m pc) G :: treesS t sp p :: l) (fun w' F hS hh => ?_) ?_
              · refine (hpc.out w' _ (hh.pull 2)).mono ?_
                rintro r w'' ⟨rfl, rfl⟩
                exact ⟨_, _, rfl, Kept.refl _, ⟨rfl, rfl⟩, hh⟩
              rintro _ _ ⟨rfl, rfl⟩
              refine ⟨fun w F hh => lives (l' := [(3, ⟨t, 1, none⟩, .pointer (some ⟨p, 0, none⟩)), (8, ⟨gM, i, none⟩, .int .i64 y)]) (by rw [HFA.out]; simp [liveFacts, Nat.testBit]) (fcons (cell_of (hh.at (b := t) (o := (.cells #[.pointer (some ⟨sp, 0, none⟩), .pointer (some ⟨p, 0, none⟩), .int .i64 0, .int .i64 0, .int .i64 0, .int .i64 0, .slice none 0 0, .slice none 0 0, .slice none 0 0, .slice none 0 0] 70 (0, 0))) (by simp [treesS])) 1 rfl) <| fcons (hh.ints_at (n := m) (c := q2) (xs := M) (by simp) HMi.out) <| fnil), ?_⟩
              simp only [Act.put, List.setIfInBounds_toArray, List.set_cons_zero, List.set_cons_succ]
              show WS _ _ _ _ _ _ _ _ _ _
              refine ws_q (at_lit rfl) rfl rfl rfl ?_
              go_big_quiet_op
              show WS _ _ _ _ _ _ _ _ _ _
              refine ws_call (at_lit rfl) rfl rfl 39 #[.pointer (some ⟨p, 0, none⟩), .int .i64 b, .int .i64 y, .int .i64 (py + 1)] (fun w => by go_simp) (fun v L' => ∃ tb Q'' s'', v = .tuple #[.int .i64 tb, .nilIface] ∧ s'' ≤ sb + 2 ∧ Twin Q'' tb (setsL (keyed G (M.take (i + 1)))) s'' ta (setsL (keyed G (G.take (i + 1)))) s' ∧ L' = btS p bank sp (100 * i + 50 + 50) (eSizes [400, 400]) Q'' :: intsS (.slice (some ⟨gM, 0, none⟩) m q2) M :: intsS (.slice (some ⟨gG, 0, none⟩) m pc) G :: treesS t sp p :: l) (fun w' F hS hh => ?_) ?_
              · refine (HS2.out w' _ hh ((Ht.out.fr F).cons.cons.cons)).mono ?_
                rintro r w'' ⟨tb, Q'', s'', rfl, hK, hs'', hT'', hh'⟩
                exact ⟨_, _, rfl, hK, ⟨tb, Q'', s'', rfl, hs'', hT'', rfl⟩, hh'⟩
              rintro _ _ ⟨tb, Q'', s'', rfl, hs'', hT'', rfl⟩
              refine ⟨fun w F hh => lives (l' := []) (by rw [HFA.out]; simp [liveFacts, Nat.testBit]) (fnil), ?_⟩
              simp only [Act.put, List.setIfInBounds_toArray, List.set_cons_zero, List.set_cons_succ]
              show WS _ _ _ _ _ _ _ _ _ _
              refine ws_q (at_lit rfl) rfl rfl rfl ?_
              go_big_quiet_op
              show WS _ _ _ _ _ _ _ _ _ _
              refine ws_q (at_lit rfl) rfl rfl rfl ?_
              go_big_quiet_op
              show WS _ _ _ _ _ _ _ _ _ _
              refine ws_q (at_lit rfl) rfl rfl rfl ?_
              go_big_quiet_op
              show WS _ _ _ _ _ _ _ _ _ _
              refine ws_q (at_lit rfl) rfl rfl rfl ?_
              go_big_quiet_op
              show WS _ _ _ _ _ _ _ _ _ _
              refine ws_q (at_lit rfl) rfl rfl rfl ?_
              go_big_quiet_op
              show WS _ _ _ _ _ _ _ _ _ _
              refine ws_end ?_
              intro w5 hK5 h5
              have HM4 : Hid (OrdM3 w l G M t sp p bank (.slice (some ⟨gG, 0, none⟩) m pc) (.slice (some ⟨gM, 0, none⟩) m q2) (i + 1) ta tb w5) := ⟨Q'', s', s'', by omega, by omega, hT''.swap, HK4.out.trans hK5, by
                have h6 := h5.reord [1, 1, 1]
                rw [show 100 * i + 50 + 50 = 100 * (i + 1) by omega] at h6
                exact h6⟩
              clear hK5 h5 hh HFA neFA FA fa3 fa8 fa13 c1' cM' HK4 HS2 hT'' hpc Hny Hky hwy HMi HGi
              go_wp2
              go_roundg (m - (i + 1))
              case measure => omega
              case rel => exact ⟨i + 1, ta, tb, by omega, rfl, rfl, rfl, by go_num, HM4⟩
            · have hie : i = m := by omega
              obtain ⟨hp1, hp2, hp3, hp4, hp5⟩ := HP.out
              rw [List.take_of_length_le (by omega), List.take_of_length_le (by omega)] at hT
              have hN : 100 * i ≤ 8000 := by omega
              have hh := hh.reord [3]
              have hh := hh.bt_more hN
              have hla := setsL_len (keyed G G) (by rw [keyed_keys]; exact hp2)
              have hlk2 : (keyed G G).length = m := by unfold keyed; rw [List.length_map]; exact hp4
              rw [hlk2] at hla
              have hsm := orders_same (l := G) hp2 hp1
              have hsa' : sa ≤ 160 := by omega
              have hsb' : sb ≤ 160 := by omega
              have hI := hh.bt_inv.1
              have hpos := hT.ra.pos hI
              obtain ⟨LA, hLA⟩ : ∃ LA, setsL (keyed G G) = LA := ⟨_, rfl⟩
              have hT0 := hT
              rw [← hsm, hLA] at hT0
              rw [hLA] at hla hpos
              have HI1 : Hid (∀ w' l', Has w' (btS p bank sp 8000 (eSizes [400, 400]) Q :: l') → Calls Tryz.prog 42 #[.pointer (some ⟨p, 0, none⟩), .int .i64 a, .int .i64 0, .int .i64 (-1)] w' (ItemsPost p bank sp 8000 (eSizes [400, 400]) Q LA l' w')) := fun w' l' h => by
                have := bt_Items a 0 (-1) h hT0.ra (by omega)
                rwa [items_all hpos] at this
              have HI2 : Hid (∀ w' l', Has w' (btS p bank sp 8000 (eSizes [400, 400]) Q :: l') → Calls Tryz.prog 42 #[.pointer (some ⟨p, 0, none⟩), .int .i64 b, .int .i64 0, .int .i64 (-1)] w' (ItemsPost p bank sp 8000 (eSizes [400, 400]) Q LA l' w')) := fun w' l' h => by
                have := bt_Items b 0 (-1) h hT0.rb (by omega)
                rwa [items_all hpos] at this
              have HC1 : Hid (∀ w' l', Has w' (btS p bank sp 8000 (eSizes [400, 400]) Q :: l') → Calls Tryz.prog 43 #[.pointer (some ⟨p, 0, none⟩), .int .i64 a] w' (fun r w'' => r = .returned (.int .i64 (m : Int)) ∧ Kept w' w'' ∧ Has w'' (btS p bank sp 8000 (eSizes [400, 400]) Q :: l'))) := fun w' l' h => by
                have := bt_Count a h hT0.ra (by omega)
                rwa [hla] at this
              have HLen : Hid (LA.length = m) := hla
              have c1 : wr.cell? ⟨t, 1, none⟩ = some (.pointer (some ⟨p, 0, none⟩)) := cell_of (hh.at (b := t) (o := (.cells #[.pointer (some ⟨sp, 0, none⟩), .pointer (some ⟨p, 0, none⟩), .int .i64 0, .int .i64 0, .int .i64 0, .int .i64 0, .slice none 0 0, .slice none 0 0, .slice none 0 0, .slice none 0 0] 70 (0, 0))) (by simp [reord, pull, treesS])) 1 rfl
              have lt1 := World.block_lt_of_cell? _ _ c1
              have hh := hh.reord [1, 1]
              have HX := Lib.hid (And.intro hT (And.intro hsa' hsb'))
              have HK := Lib.hid hK
              have HH : Hid (Has wr (intsS (.slice p2 m q2) M :: intsS (.slice pa m pc) G :: btS p bank sp 8000 (eSizes [400, 400]) Q :: treesS t sp p :: l)) := hh
              have mI : (m : Int) ≤ 80 := by omega
              have m0 : (0 : Int) ≤ m := by omega
              subst hie
              clear hlt hT hT0 hK hh hp1 hp2 hp3 hp4 hp5 hla hlk2 hsm hpos hI hN hsa hsb hsa' hsb' hLA
              generalize hmi : i = m at *
              clear hmi
              go_upto_region 28 with fail
              have hh := HH.out
              clear HH
              obtain ⟨FA, HFA⟩ : ∃ FA : List (Nat × Addr × Value), Hid (FA = [(3, ⟨t, 1, none⟩, .pointer (some ⟨p, 0, none⟩)), (9, ⟨t, 1, none⟩, .pointer (some ⟨p, 0, none⟩)), (18, ⟨t, 1, none⟩, .pointer (some ⟨p, 0, none⟩))]) := ⟨_, rfl⟩
              have fa3 : ∀ n : In (factsOf FA 3), n.w.cell? ⟨t, 1, none⟩ = some (.pointer (some ⟨p, 0, none⟩)) := fun n => factsOf.cell (by rw [HFA.out]; simp) n
              have fa9 : ∀ n : In (factsOf FA 9), n.w.cell? ⟨t, 1, none⟩ = some (.pointer (some ⟨p, 0, none⟩)) := fun n => factsOf.cell (by rw [HFA.out]; simp) n
              have fa18 : ∀ n : In (factsOf FA 18), n.w.cell? ⟨t, 1, none⟩ = some (.pointer (some ⟨p, 0, none⟩)) := fun n => factsOf.cell (by rw [HFA.out]; simp) n
              have hFA : ∀ p ∈ FA, wr.cell? p.2.1 = some p.2.2 := by rw [HFA.out]; exact (fcons c1 (fcons c1 (fcons c1 fnil)))
              haveI neFA : ∀ k, Nonempty (In (factsOf FA k)) := fun k => ⟨⟨_, factsOf.drew hFA k⟩⟩
              refine ws_begin [0, 1, 2, 3, 4, 5, 6, 7, 8, 9, 10, 11, 12, 13, 14, 15, 16, 17, 18, 19, 20, 21, 22, 23, 24] (factsOf FA) (intsS (.slice p2 m q2) M :: intsS (.slice pa m pc) G :: btS p bank sp 8000 (eSizes [400, 400]) Q :: treesS t sp p :: l) #[0, 1, 3, 7, 0, 31, 0, 64, 192, 448, 0, 2047, 4095, 8191, 16383, 32767, 65535, 131071, 262143, 32767, 1048575, 32767, 2129919, 8388607, 16777215] (by kernel_rfl) (by kernel_rfl) (by kernel_rfl) factsOf.alloc (factsOf.drew hFA) hh ?_
              clear hFA
              refine ws_q (at_lit rfl) rfl rfl rfl ?_
              go_big_quiet_op
              show WS _ _ _ _ _ _ _ _ _ _
              refine ws_q (at_lit rfl) rfl rfl rfl ?_
              go_big_quiet_op
              show WS _ _ _ _ _ _ _ _ _ _
              refine ws_q (at_lit rfl) rfl rfl rfl ?_
              go_big_quiet_op
              show WS _ _ _ _ _ _ _ _ _ _
              refine ws_q (at_lit rfl) rfl rfl rfl ?_
              go_big_quiet_op
              show WS _ _ _ _ _ _ _ _ _ _
              refine ws_q (at_lit rfl) rfl rfl rfl ?_
              go_big_quiet_op
              show WS _ _ _ _ _ _ _ _ _ _
              refine ws_call (at_lit rfl) rfl rfl 42 #[.pointer (some ⟨p, 0, none⟩), .int .i64 a, .int .i64 0, .int .i64 (-1)] (fun w => by go_simp) (fun v L' => L' = pairsS v LA :: btS p bank sp 8000 (eSizes [400, 400]) Q :: intsS (.slice p2 m q2) M :: intsS (.slice pa m pc) G :: treesS t sp p :: l) (fun w' F hS hh => ?_) ?_
              · refine (HI1.out w' _ (hh.pull 2)).mono ?_
                rintro r w'' ⟨va, rfl, hK, hh'⟩
                exact ⟨_, _, rfl, hK, rfl, hh'⟩
              rintro va _ rfl
              refine ⟨fun w F hh => lives (l' := [(9, ⟨t, 1, none⟩, .pointer (some ⟨p, 0, none⟩)), (18, ⟨t, 1, none⟩, .pointer (some ⟨p, 0, none⟩))]) (by rw [HFA.out]; simp [liveFacts, Nat.testBit]) (fcons (cell_of (hh.at (b := t) (o := (.cells #[.pointer (some ⟨sp, 0, none⟩), .pointer (some ⟨p, 0, none⟩), .int .i64 0, .int .i64 0, .int .i64 0, .int .i64 0, .slice none 0 0, .slice none 0 0, .slice none 0 0, .slice none 0 0] 70 (0, 0))) (by simp [treesS])) 1 rfl) <| fcons (cell_of (hh.at (b := t) (o := (.cells #[.pointer (some ⟨sp, 0, none⟩), .pointer (some ⟨p, 0, none⟩), .int .i64 0, .int .i64 0, .int .i64 0, .int .i64 0, .slice none 0 0, .slice none 0 0, .slice none 0 0, .slice none 0 0] 70 (0, 0))) (by simp [treesS])) 1 rfl) <| fnil), ?_⟩
              simp only [Act.put, List.setIfInBounds_toArray, List.set_cons_zero, List.set_cons_succ]
              show WS _ _ _ _ _ _ _ _ _ _
              refine ws_q (at_lit rfl) rfl rfl rfl ?_
              go_big_quiet_op
              show WS _ _ _ _ _ _ _ _ _ _
              refine ws_q (at_lit rfl) rfl rfl rfl ?_
              go_big_quiet_op
              show WS _ _ _ _ _ _ _ _ _ _
              refine ws_q (at_lit rfl) rfl rfl rfl ?_
              go_big_quiet_op
              show WS _ _ _ _ _ _ _ _ _ _
              refine ws_q (at_lit rfl) rfl rfl rfl ?_
              go_big_quiet_op
              show WS _ _ _ _ _ _ _ _ _ _
              refine ws_q (at_lit rfl) rfl rfl rfl ?_
              go_big_quiet_op
              show WS _ _ _ _ _ _ _ _ _ _
              refine ws_call (at_lit rfl) rfl rfl 42 #[.pointer (some ⟨p, 0, none⟩), .int .i64 b, .int .i64 0, .int .i64 (-1)] (fun w => by go_simp) (fun v L' => L' = pairsS v LA :: btS p bank sp 8000 (eSizes [400, 400]) Q :: pairsS va LA :: intsS (.slice p2 m q2) M :: intsS (.slice pa m pc) G :: treesS t sp p :: l) (fun w' F hS hh => ?_) ?_
              · refine (HI2.out w' _ (hh.pull 1)).mono ?_
                rintro r w'' ⟨vb, rfl, hK, hh'⟩
                exact ⟨_, _, rfl, hK, rfl, hh'⟩
              rintro vb _ rfl
              refine ⟨fun w F hh => lives (l' := [(18, ⟨t, 1, none⟩, .pointer (some ⟨p, 0, none⟩))]) (by rw [HFA.out]; simp [liveFacts, Nat.testBit]) (fcons (cell_of (hh.at (b := t) (o := (.cells #[.pointer (some ⟨sp, 0, none⟩), .pointer (some ⟨p, 0, none⟩), .int .i64 0, .int .i64 0, .int .i64 0, .int .i64 0, .slice none 0 0, .slice none 0 0, .slice none 0 0, .slice none 0 0] 70 (0, 0))) (by simp [treesS])) 1 rfl) <| fnil), ?_⟩
              simp only [Act.put, List.setIfInBounds_toArray, List.set_cons_zero, List.set_cons_succ]
              show WS _ _ _ _ _ _ _ _ _ _
              refine ws_call (at_lit rfl) rfl rfl 41 #[va, vb] (fun w => by go_simp) (fun v L' => v = .bool true ∧ L' = pairsS vb LA :: btS p bank sp 8000 (eSizes [400, 400]) Q :: pairsS va LA :: intsS (.slice p2 m q2) M :: intsS (.slice pa m pc) G :: treesS t sp p :: l) (fun w' F hS hh => ?_) ?_
              · refine (law_equal (v1 := va) (v2 := vb) (ps := LA) (qs := LA) hh (by simp) (by simp) (by have := HLen.out; omega)).mono ?_
                rintro r w'' ⟨rfl, hK, hh'⟩
                exact ⟨_, _, rfl, hK, ⟨by rw [decide_eq_true rfl], rfl⟩, hh'⟩
              rintro _ _ ⟨rfl, rfl⟩
              refine ⟨fun w F hh => lives (l' := [(18, ⟨t, 1, none⟩, .pointer (some ⟨p, 0, none⟩))]) (by rw [HFA.out]; simp [liveFacts, Nat.testBit]) (fcons (cell_of (hh.at (b := t) (o := (.cells #[.pointer (some ⟨sp, 0, none⟩), .pointer (some ⟨p, 0, none⟩), .int .i64 0, .int .i64 0, .int .i64 0, .int .i64 0, .slice none 0 0, .slice none 0 0, .slice none 0 0, .slice none 0 0] 70 (0, 0))) (by simp [treesS])) 1 rfl) <| fnil), ?_⟩
              simp only [Act.put, List.setIfInBounds_toArray, List.set_cons_zero, List.set_cons_succ]
              show WS _ _ _ _ _ _ _ _ _ _
              refine ws_q (at_lit rfl) rfl rfl rfl ?_
              go_big_quiet_op
              show WS _ _ _ _ _ _ _ _ _ _
              refine ws_q (at_lit rfl) rfl rfl rfl ?_
              go_big_quiet_op
              show WS _ _ _ _ _ _ _ _ _ _
              refine ws_q (at_lit rfl) rfl rfl rfl ?_
              go_big_quiet_op
              show WS _ _ _ _ _ _ _ _ _ _
              refine ws_q (at_lit rfl) rfl rfl rfl ?_
              go_big_quiet_op
              show WS _ _ _ _ _ _ _ _ _ _
              refine ws_q (at_lit rfl) rfl rfl rfl ?_
              go_big_quiet_op
              show WS _ _ _ _ _ _ _ _ _ _
              refine ws_q (at_lit rfl) rfl rfl rfl ?_
              go_big_quiet_op
              show WS _ _ _ _ _ _ _ _ _ _
              refine ws_q (at_lit rfl) rfl rfl rfl ?_
              go_big_quiet_op
              show WS _ _ _ _ _ _ _ _ _ _
              refine ws_call (at_lit rfl) rfl rfl 43 #[.pointer (some ⟨p, 0, none⟩), .int .i64 a] (fun w => by go_simp) (fun v L' => v = .int .i64 (m : Int) ∧ L' = btS p bank sp 8000 (eSizes [400, 400]) Q :: pairsS vb LA :: pairsS va LA :: intsS (.slice p2 m q2) M :: intsS (.slice pa m pc) G :: treesS t sp p :: l) (fun w' F hS hh => ?_) ?_
              · refine (HC1.out w' _ (hh.pull 1)).mono ?_
                rintro r w'' ⟨rfl, hK, hh'⟩
                exact ⟨_, _, rfl, hK, ⟨rfl, rfl⟩, hh'⟩
              rintro _ _ ⟨rfl, rfl⟩
              refine ⟨fun w F hh => lives (l' := []) (by rw [HFA.out]; simp [liveFacts, Nat.testBit]) (fnil), ?_⟩
              simp only [Act.put, List.setIfInBounds_toArray, List.set_cons_zero, List.set_cons_succ]
              show WS _ _ _ _ _ _ _ _ _ _
              refine ws_q (at_lit rfl) rfl rfl rfl ?_
              go_big_quiet_op
              show WS _ _ _ _ _ _ _ _ _ _
              refine ws_len (at_lit rfl) rfl rfl (.tmp 193) 22 rfl Tryz.underlying22 _ _ _ rfl ?_
              simp only [Act.put, List.setIfInBounds_toArray, List.set_cons_zero, List.set_cons_succ]
              show WS _ _ _ _ _ _ _ _ _ _
              refine ws_q (at_lit rfl) rfl rfl rfl ?_
              go_big_quiet_op
              show WS _ _ _ _ _ _ _ _ _ _
              refine ws_q (at_lit rfl) rfl rfl rfl ?_
              go_big_quiet_op
              show WS _ _ _ _ _ _ _ _ _ _
              refine ws_end ?_
              intro w5 hK5 h5
              have h6 := Has.skip4 (M := [_, _]) (h5.reord [3, 3, 3, 0])
              obtain ⟨n, hnm, hn⟩ := gone_at gone m
              have HM4 : Hid (OrdM4 w l G M t sp p bank (.slice pa m pc) (.slice p2 m q2) n 0 a b w5) := ⟨Q, sa, sb, HX.out.2.1, HX.out.2.2, by simpa [delsL] using HX.out.1, HK.out.trans hK5, h6⟩
              clear hK5 h5 h6 hh HFA neFA FA fa3 fa9 fa18 c1 lt1 HK HX HI1 HI2 HC1 HLen
              go_upto_region 31 with fail
              clear hn
              go_wp2
              go_loopg [14, 15, 203] n (fun gk av bv iv wr => ∃ (i : Nat) (a b : Int), i ≤ n ∧ gk = n - i ∧ av = .int .i64 a ∧ bv = .int .i64 b ∧ iv = .int .i64 i ∧ Hid (OrdM4 w l G M t sp p bank (.slice pa m pc) (.slice p2 m q2) n i a b wr))
              case atStart => exact ⟨0, a, b, Nat.zero_le _, rfl, rfl, rfl, rfl, HM4⟩
              case round =>
                clear HM4
                obtain ⟨i, a, b, hi, rfl, rfl, rfl, rfl, HM⟩ := hrel
                obtain ⟨Q, sa, sb, hsa, hsb, hT, hK, hh⟩ := HM.out
                clear HM
                by_cases hlt : i < n
                · skip
                  obtain ⟨_, _, e3, _, hr⟩ := hh.ints_read (v := .slice p2 m q2) (xs := M) (.head _)
                  injection e3 with e3 e4 e5
                  subst e3
                  obtain ⟨jj, hjj⟩ : ∃ jj : Nat, jj = n - 1 - i := ⟨_, rfl⟩
                  obtain ⟨gM, rfl, cM, _⟩ := hr i (by omega)
                  obtain ⟨_, e6, cN, _⟩ := hr jj (by omega)
                  injection e6 with e6
                  injection e6 with e6
                  subst e6
                  have hMi : M[i]? = some M[i] := List.getElem?_eq_getElem (by omega)
                  have hMj : M[jj]? = some M[jj] := List.getElem?_eq_getElem (by omega)
                  generalize M[i]'_ = x at cM hMi
                  generalize M[jj]'_ = y at cN hMj
                  have hxm : x ∈ M := List.mem_of_getElem? hMi
                  have hym : y ∈ M := List.mem_of_getElem? hMj
                  have hMn : M.Nodup := HP.out.1.nodup_iff.1 HP.out.2.1
                  have hrv : (M.take n).reverse[i]? = some y := by rw [rev_at hlt (by have := HP.out.2.2.2.2; omega), ← hjj]; exact hMj
                  have hRn : (M.take n).reverse.Nodup := (List.reverse_perm _).nodup_iff.2 (hMn.sublist (List.take_sublist _ _))
                  have hos := orders_same (l := G) HP.out.2.1 HP.out.1
                  have hkx := dels_has HP.out.2.1 HP.out.1 hxm (not_take hMn hMi)
                  rw [← hos] at hkx
                  have hky := dels_has HP.out.2.1 HP.out.1 hym (not_take hRn hrv)
                  have hnx := dels_next (L := setsL (keyed G G)) hMi
                  have hny := dels_next (L := setsL (keyed G M)) hrv
                  have HS1 : Hid (∀ w' l', Has w' (btS p bank sp (8000 + 100 * i) (eSizes [400, 400]) Q :: l') → Tab l' → Calls Tryz.prog 44 #[.pointer (some ⟨p, 0, none⟩), .int .i64 a, .int .i64 x] w' (TwoPost p bank sp (8000 + 100 * i) (eSizes [400, 400]) (delsL (setsL (keyed G G)) (M.take (i + 1))) sa b (delsL (setsL (keyed G M)) ((M.take n).reverse.take i)) sb l' w')) := fun w' l' h ht => by
                    rw [← hnx]
                    exact two_Delete a x h ht rfl hT (by omega) (by omega) hkx
                  have Hny := Lib.hid hny
                  have Hky := Lib.hid hky
                  have c1 : wr.cell? ⟨t, 1, none⟩ = some (.pointer (some ⟨p, 0, none⟩)) := cell_of (hh.at (b := t) (o := (.cells #[.pointer (some ⟨sp, 0, none⟩), .pointer (some ⟨p, 0, none⟩), .int .i64 0, .int .i64 0, .int .i64 0, .int .i64 0, .slice none 0 0, .slice none 0 0, .slice none 0 0, .slice none 0 0] 70 (0, 0))) (.tail _ (.tail _ (.head _)))) 1 rfl
                  have lt1 := World.block_lt_of_cell? _ _ c1
                  have HK := Lib.hid hK
                  have HH := Lib.hid hh
                  have iI : (i : Int) < (n : Int) := by omega
                  have i0 : (0 : Int) ≤ i := by omega
                  have imI : (i : Int) < (m : Int) := by omega
                  have jI : (jj : Int) < (m : Int) := by omega
                  have j0 : (0 : Int) ≤ jj := by omega
                  have hw1 : IntKind.i64.wrap ((n : Int) - 1) = (n : Int) - 1 := IntWalk.i64_in _ (by omega)
                  have hw2 : IntKind.i64.wrap ((n : Int) - 1 - (i : Int)) = (jj : Int) := by rw [IntWalk.i64_in _ (by omega)]; omega
                  have HMj := Lib.hid hMj
                  have HMi := Lib.hid hMi
                  have Hs0 := Lib.hid (And.intro hsa hsb)
                  clear hr e4 e5 hMi hMj hxm hym hMn hrv hRn hos hkx hky hnx hny hh hK hT hjj
                  go_upto_region 35 with fail
                  have hh := HH.out
                  clear HH
                  obtain ⟨FA, HFA⟩ : ∃ FA : List (Nat × Addr × Value), Hid (FA = [(3, ⟨t, 1, none⟩, .pointer (some ⟨p, 0, none⟩)), (8, ⟨gM, i, none⟩, .int .i64 x)]) := ⟨_, rfl⟩
                  have fa3 : ∀ n : In (factsOf FA 3), n.w.cell? ⟨t, 1, none⟩ = some (.pointer (some ⟨p, 0, none⟩)) := fun n => factsOf.cell (by rw [HFA.out]; simp) n
                  have fa8 : ∀ n : In (factsOf FA 8), n.w.cell? ⟨gM, i, none⟩ = some (.int .i64 x) := fun n => factsOf.cell (by rw [HFA.out]; simp) n
                  have hFA : ∀ p ∈ FA, wr.cell? p.2.1 = some p.2.2 := by rw [HFA.out]; exact (fcons c1 (fcons cM fnil))
                  haveI neFA : ∀ k, Nonempty (In (factsOf FA k)) := fun k => ⟨⟨_, factsOf.drew hFA k⟩⟩
                  refine ws_begin [0, 1, 2, 3, 4, 5, 6, 7, 8, 9, 10, 11, 12, 13, 14] (factsOf FA) (intsS (.slice (some ⟨gM, 0, none⟩) m q2) M :: intsS (.slice pa m pc) G :: treesS t sp p :: btS p bank sp (8000 + 100 * i) (eSizes [400, 400]) Q :: l) #[0, 1, 3, 7, 0, 0, 0, 96, 224, 511, 1023, 2047, 2047, 4095, 16383] (by kernel_rfl) (by kernel_rfl) (by kernel_rfl) factsOf.alloc (factsOf.drew hFA) hh ?_
                  clear hFA
                  refine ws_q (at_lit rfl) rfl rfl rfl ?_
                  go_big_quiet_op
                  show WS _ _ _ _ _ _ _ _ _ _
                  refine ws_q (at_lit rfl) rfl rfl rfl ?_
                  go_big_quiet_op
                  show WS _ _ _ _ _ _ _ _ _ _
                  refine ws_q (at_lit rfl) rfl rfl rfl ?_
                  go_big_quiet_op
                  show WS _ _ _ _ _ _ _ _ _ _
                  refine ws_q (at_lit rfl) rfl rfl rfl ?_
                  go_big_quiet_op
                  show WS _ _ _ _ _ _ _ _ _ _
                  refine ws_q (at_lit rfl) rfl rfl rfl ?_
                  go_big_quiet_op
                  show WS _ _ _ _ _ _ _ _ _ _
                  refine ws_q (at_lit rfl) rfl rfl rfl ?_
                  go_big_quiet_op
                  show WS _ _ _ _ _ _ _ _ _ _
                  refine ws_q (at_lit rfl) rfl rfl rfl ?_
                  go_big_quiet_op
                  show WS _ _ _ _ _ _ _ _ _ _
                  refine ws_q (at_lit rfl) rfl rfl rfl ?_
                  go_big_quiet_op
                  show WS _ _ _ _ _ _ _ _ _ _
                  refine ws_q (at_lit rfl) rfl rfl rfl ?_
                  go_big_quiet_op
                  show WS _ _ _ _ _ _ _ _ _ _
                  refine ws_call (at_lit rfl) rfl rfl 44 #[.pointer (some ⟨p, 0, none⟩), .int .i64 a, .int .i64 x] (fun w => by go_simp) (fun v L' => ∃ ta Q' s', v = .tuple #[.int .i64 ta, .nilIface] ∧ s' ≤ sa ∧ Twin Q' ta (delsL (setsL (keyed G G)) (M.take (i + 1))) s' b (delsL (setsL (keyed G M)) ((M.take n).reverse.take i)) sb ∧ L' = btS p bank sp (8000 + 100 * i + 50) (eSizes [400, 400]) Q' :: intsS (.slice (some ⟨gM, 0, none⟩) m q2) M :: intsS (.slice pa m pc) G :: treesS t sp p :: l) (fun w' F hS hh => ?_) ?_
                  · refine (HS1.out w' _ (hh.reord [3]) ((Ht.out.fr F).cons.cons.cons)).mono ?_
                    rintro r w'' ⟨ta, Q', s', rfl, hK, hs', hT', hh'⟩
                    exact ⟨_, _, rfl, hK, ⟨ta, Q', s', rfl, hs', hT', rfl⟩, hh'⟩
                  rintro _ _ ⟨ta, Q', s', rfl, hs', hT', rfl⟩
                  refine ⟨fun w F hh => lives (l' := []) (by rw [HFA.out]; simp [liveFacts, Nat.testBit]) (fnil), ?_⟩
                  simp only [Act.put, List.setIfInBounds_toArray, List.set_cons_zero, List.set_cons_succ]
                  show WS _ _ _ _ _ _ _ _ _ _
                  refine ws_q (at_lit rfl) rfl rfl rfl ?_
                  go_big_quiet_op
                  show WS _ _ _ _ _ _ _ _ _ _
                  refine ws_q (at_lit rfl) rfl rfl rfl ?_
                  go_big_quiet_op
                  show WS _ _ _ _ _ _ _ _ _ _
                  refine ws_q (at_lit rfl) rfl rfl rfl ?_
                  go_big_quiet_op
                  show WS _ _ _ _ _ _ _ _ _ _
                  refine ws_q (at_lit rfl) rfl rfl rfl ?_
                  go_big_quiet_op
                  show WS _ _ _ _ _ _ _ _ _ _
                  refine ws_q (at_lit rfl) rfl rfl rfl ?_
                  go_big_quiet_op
                  show WS _ _ _ _ _ _ _ _ _ _
                  refine ws_end ?_
                  intro w4 hK4 h4
                  have HS2 : Hid (∀ w' l', Has w' (btS p bank sp (8000 + 100 * i + 50) (eSizes [400, 400]) Q' :: l') → Tab l' → Calls Tryz.prog 44 #[.pointer (some ⟨p, 0, none⟩), .int .i64 b, .int .i64 y] w' (TwoPost p bank sp (8000 + 100 * i + 50) (eSizes [400, 400]) (delsL (setsL (keyed G M)) ((M.take n).reverse.take (i + 1))) sb ta (delsL (setsL (keyed G G)) (M.take (i + 1))) s' l' w')) := fun w' l' h ht => by
                    rw [← Hny.out]
                    exact two_Delete b y h ht rfl hT'.swap (by have := Hs0.out; omega) (by omega) Hky.out
                  have hh := h4
                  have c1' : w4.cell? ⟨t, 1, none⟩ = some (.pointer (some ⟨p, 0, none⟩)) := cell_of (hh.at (b := t) (o := (.cells #[.pointer (some ⟨sp, 0, none⟩), .pointer (some ⟨p, 0, none⟩), .int .i64 0, .int .i64 0, .int .i64 0, .int .i64 0, .slice none 0 0, .slice none 0 0, .slice none 0 0, .slice none 0 0] 70 (0, 0))) (.tail _ (.tail _ (.tail _ (.head _))))) 1 rfl
                  have cN' : w4.cell? ⟨gM, jj, none⟩ = some (.int .i64 y) := hh.ints_at (n := m) (c := q2) (xs := M) (.tail _ (.head _)) HMj.out
                  have HH := Lib.hid hh
                  have HK4 := Lib.hid (HK.out.trans hK4)
                  have Hs' := Lib.hid hs'
                  clear hK4 h4 hh HFA neFA FA fa3 fa8 c1 cM cN HK HS1 hT' hs'
                  go_upto_region 36 with fail
                  have hh := HH.out
                  clear HH
                  obtain ⟨FA, HFA⟩ : ∃ FA : List (Nat × Addr × Value), Hid (FA = [(3, ⟨t, 1, none⟩, .pointer (some ⟨p, 0, none⟩)), (11, ⟨gM, jj, none⟩, .int .i64 y)]) := ⟨_, rfl⟩
                  have fa3 : ∀ n : In (factsOf FA 3), n.w.cell? ⟨t, 1, none⟩ = some (.pointer (some ⟨p, 0, none⟩)) := fun n => factsOf.cell (by rw [HFA.out]; simp) n
                  have fa11 : ∀ n : In (factsOf FA 11), n.w.cell? ⟨gM, jj, none⟩ = some (.int .i64 y) := fun n => factsOf.cell (by rw [HFA.out]; simp) n
                  have hFA : ∀ p ∈ FA, w4.cell? p.2.1 = some p.2.2 := by rw [HFA.out]; exact (fcons c1' (fcons cN' fnil))
                  haveI neFA : ∀ k, Nonempty (In (factsOf FA k)) := fun k => ⟨⟨_, factsOf.drew hFA k⟩⟩
                  refine ws_begin [0, 1, 2, 3, 4, 5, 6, 7, 8, 9, 10, 11, 12, 13, 14, 15, 16, 17] (factsOf FA) (btS p bank sp (8000 + 100 * i + 50) (eSizes [400, 400]) Q' :: intsS (.slice (some ⟨gM, 0, none⟩) m q2) M :: intsS (.slice pa m pc) G :: treesS t sp p :: l) #[0, 1, 3, 7, 0, 0, 0, 64, 0, 448, 992, 2016, 4095, 8191, 16383, 16383, 32767, 131071] (by kernel_rfl) (by kernel_rfl) (by kernel_rfl) factsOf.alloc (factsOf.drew hFA) hh ?_
                  clear hFA
                  refine ws_q (at_lit rfl) rfl rfl rfl ?_
                  go_big_quiet_op
                  show WS _ _ _ _ _ _ _ _ _ _
                  refine ws_q (at_lit rfl) rfl rfl rfl ?_
                  go_big_quiet_op
                  show WS _ _ _ _ _ _ _ _ _ _
                  refine ws_q (at_lit rfl) rfl rfl rfl ?_
                  go_big_quiet_op
                  show WS _ _ _ _ _ _ _ _ _ _
                  refine ws_q (at_lit rfl) rfl rfl rfl ?_
                  go_big_quiet_op
                  show WS _ _ _ _ _ _ _ _ _ _
                  refine ws_q (at_lit rfl) rfl rfl rfl ?_
                  go_big_quiet_op
                  show WS _ _ _ _ _ _ _ _ _ _
                  refine ws_q (at_lit rfl) rfl rfl rfl ?_
                  go_big_quiet_op
                  show WS _ _ _ _ _ _ _ _ _ _
                  refine ws_q (at_lit rfl) rfl rfl rfl ?_
                  go_big_quiet_op
                  show WS _ _ _ _ _ _ _ _ _ _
                  refine ws_q (at_lit rfl) rfl rfl rfl ?_
                  go_big_quiet_op
                  show WS _ _ _ _ _ _ _ _ _ _
                  refine ws_q (at_lit rfl) rfl rfl rfl ?_
                  go_big_quiet_op
                  show WS _ _ _ _ _ _ _ _ _ _
                  refine ws_q (at_lit rfl) rfl rfl rfl ?_
                  go_big_quiet_op
                  show WS _ _ _ _ _ _ _ _ _ _
                  refine ws_q (at_lit rfl) rfl rfl rfl ?_
                  go_big_quiet_op
                  show WS _ _ _ _ _ _ _ _ _ _
                  refine ws_q (at_lit rfl) rfl rfl rfl ?_
                  go_big_quiet_op
                  show WS _ _ _ _ _ _ _ _ _ _
                  refine ws_call (at_lit rfl) rfl rfl 44 #[.pointer (some ⟨p, 0, none⟩), .int .i64 b, .int .i64 y] (fun w => by go_simp) (fun v L' => ∃ tb Q'' s'', v = .tuple #[.int .i64 tb, .nilIface] ∧ s'' ≤ sb ∧ Twin Q'' tb (delsL (setsL (keyed G M)) ((M.take n).reverse.take (i + 1))) s'' ta (delsL (setsL (keyed G G)) (M.take (i + 1))) s' ∧ L' = btS p bank sp (8000 + 100 * i + 50 + 50) (eSizes [400, 400]) Q'' :: intsS (.slice (some ⟨gM, 0, none⟩) m q2) M :: intsS (.slice pa m pc) G :: treesS t sp p :: l) (fun w' F hS hh => ?_) ?_
                  · refine (HS2.out w' _ hh ((Ht.out.fr F).cons.cons.cons)).mono ?_
                    rintro r w'' ⟨tb, Q'', s'', rfl, hK, hs'', hT'', hh'⟩
                    exact ⟨_, _, rfl, hK, ⟨tb, Q'', s'', rfl, hs'', hT'', rfl⟩, hh'⟩
                  rintro _ _ ⟨tb, Q'', s'', rfl, hs'', hT'', rfl⟩
                  refine ⟨fun w F hh => lives (l' := []) (by rw [HFA.out]; simp [liveFacts, Nat.testBit]) (fnil), ?_⟩
                  simp only [Act.put, List.setIfInBounds_toArray, List.set_cons_zero, List.set_cons_succ]
                  show WS _ _ _ _ _ _ _ _ _ _
                  refine ws_q (at_lit rfl) rfl rfl rfl ?_
                  go_big_quiet_op
                  show WS _ _ _ _ _ _ _ _ _ _
                  refine ws_q (at_lit rfl) rfl rfl rfl ?_
                  go_big_quiet_op
                  show WS _ _ _ _ _ _ _ _ _ _
                  refine ws_q (at_lit rfl) rfl rfl rfl ?_
                  go_big_quiet_op
                  show WS _ _ _ _ _ _ _ _ _ _
                  refine ws_q (at_lit rfl) rfl rfl rfl ?_
                  go_big_quiet_op
                  show WS _ _ _ _ _ _ _ _ _ _
                  refine ws_q (at_lit rfl) rfl rfl rfl ?_
                  go_big_quiet_op
                  show WS _ _ _ _ _ _ _ _ _ _
                  refine ws_end ?_
                  intro w5 hK5 h5
                  have HM5 : Hid (OrdM4 w l G M t sp p bank (.slice pa m pc) (.slice (some ⟨gM, 0, none⟩) m q2) n (i + 1) ta tb w5) := ⟨Q'', s', s'', by have := Hs'.out; have := Hs0.out; omega, by have := Hs0.out; omega, hT''.swap, HK4.out.trans hK5, by
                    have h6 := h5.reord [1, 1, 1]
                    rw [show 8000 + 100 * i + 50 + 50 = 8000 + 100 * (i + 1) by omega] at h6
                    exact h6⟩
                  clear hK5 h5 hh HFA neFA FA fa3 fa11 c1' cN' HK4 HS2 hT'' Hny Hky HMi HMj hw1 hw2 Hs' Hs0 hs''
                  go_wp2
                  go_roundg (n - (i + 1))
                  case measure => omega
                  case rel => exact ⟨i + 1, ta, tb, by omega, rfl, rfl, rfl, by go_num, HM5⟩
                · have hie : i = n := by omega
                  subst hie
                  obtain ⟨hde, hdl⟩ := dels_end HP.out.2.1 HP.out.1 (n := i) (by rw [HP.out.2.2.2.1]; exact hnm)
                  rw [HP.out.2.2.2.1] at hdl
                  rw [← hde] at hT
                  obtain ⟨LB, hLB⟩ : ∃ LB, delsL (setsL (keyed G G)) (M.take i) = LB := ⟨_, rfl⟩
                  rw [hLB] at hT hdl
                  have hh := hh.reord [3]
                  have hI := hh.bt_inv.1
                  have hpos := hT.ra.pos hI
                  obtain ⟨N, hN⟩ : ∃ N, 8000 + 100 * i = N := ⟨_, rfl⟩
                  rw [hN] at hh
                  have HI1 : Hid (∀ w' l', Has w' (btS p bank sp N (eSizes [400, 400]) Q :: l') → Calls Tryz.prog 42 #[.pointer (some ⟨p, 0, none⟩), .int .i64 a, .int .i64 0, .int .i64 (-1)] w' (ItemsPost p bank sp N (eSizes [400, 400]) Q LB l' w')) := fun w' l' h => by
                    have := bt_Items a 0 (-1) h hT.ra (by omega)
                    rwa [items_all hpos] at this
                  have HI2 : Hid (∀ w' l', Has w' (btS p bank sp N (eSizes [400, 400]) Q :: l') → Calls Tryz.prog 42 #[.pointer (some ⟨p, 0, none⟩), .int .i64 b, .int .i64 0, .int .i64 (-1)] w' (ItemsPost p bank sp N (eSizes [400, 400]) Q LB l' w')) := fun w' l' h => by
                    have := bt_Items b 0 (-1) h hT.rb (by omega)
                    rwa [items_all hpos] at this
                  obtain ⟨d, hd⟩ : ∃ d, LB.length = d := ⟨_, rfl⟩
                  rw [hd] at hdl
                  have HC1 : Hid (∀ w' l', Has w' (btS p bank sp N (eSizes [400, 400]) Q :: l') → Calls Tryz.prog 43 #[.pointer (some ⟨p, 0, none⟩), .int .i64 a] w' (fun r w'' => r = .returned (.int .i64 (d : Int)) ∧ Kept w' w'' ∧ Has w'' (btS p bank sp N (eSizes [400, 400]) Q :: l'))) := fun w' l' h => by
                    have := bt_Count a h hT.ra (by omega)
                    rwa [hd] at this
                  have HC2 : Hid (∀ w' l', Has w' (btS p bank sp N (eSizes [400, 400]) Q :: l') → Calls Tryz.prog 45 #[.pointer (some ⟨p, 0, none⟩), .int .i64 a] w' (CkPost p bank sp N (eSizes [400, 400]) Q l' w')) := fun w' l' h => bt_CheckR a h hT.ra (by omega)
                  have HLen : Hid (LB.length ≤ 80) := by show _ ≤ _; omega
                  have c1 : wr.cell? ⟨t, 1, none⟩ = some (.pointer (some ⟨p, 0, none⟩)) := cell_of (hh.at (b := t) (o := (.cells #[.pointer (some ⟨sp, 0, none⟩), .pointer (some ⟨p, 0, none⟩), .int .i64 0, .int .i64 0, .int .i64 0, .int .i64 0, .slice none 0 0, .slice none 0 0, .slice none 0 0, .slice none 0 0] 70 (0, 0))) (by simp [reord, pull, treesS])) 1 rfl
                  have lt1 := World.block_lt_of_cell? _ _ c1
                  have hh := hh.reord [1, 1]
                  have HK := Lib.hid hK
                  have HH : Hid (Has wr (intsS (.slice p2 m q2) M :: intsS (.slice pa m pc) G :: btS p bank sp N (eSizes [400, 400]) Q :: treesS t sp p :: l)) := hh
                  have hwd : IntKind.i64.wrap ((m : Int) - (i : Int)) = (d : Int) := by rw [IntWalk.i64_in _ (by omega)]; omega
                  clear hlt hT hK hh hI hpos hN hd hdl hLB hde hsa hsb
                  generalize hin : i = n at *
                  clear hin
                  go_upto_region 40 with fail
                  have hh := HH.out
                  clear HH
                  obtain ⟨FA, HFA⟩ : ∃ FA : List (Nat × Addr × Value), Hid (FA = [(3, ⟨t, 1, none⟩, .pointer (some ⟨p, 0, none⟩)), (9, ⟨t, 1, none⟩, .pointer (some ⟨p, 0, none⟩)), (17, ⟨t, 1, none⟩, .pointer (some ⟨p, 0, none⟩)), (30, ⟨t, 1, none⟩, .pointer (some ⟨p, 0, none⟩))]) := ⟨_, rfl⟩
                  have fa3 : ∀ n : In (factsOf FA 3), n.w.cell? ⟨t, 1, none⟩ = some (.pointer (some ⟨p, 0, none⟩)) := fun n => factsOf.cell (by rw [HFA.out]; simp) n
                  have fa9 : ∀ n : In (factsOf FA 9), n.w.cell? ⟨t, 1, none⟩ = some (.pointer (some ⟨p, 0, none⟩)) := fun n => factsOf.cell (by rw [HFA.out]; simp) n
                  have fa17 : ∀ n : In (factsOf FA 17), n.w.cell? ⟨t, 1, none⟩ = some (.pointer (some ⟨p, 0, none⟩)) := fun n => factsOf.cell (by rw [HFA.out]; simp) n
                  have fa30 : ∀ n : In (factsOf FA 30), n.w.cell? ⟨t, 1, none⟩ = some (.pointer (some ⟨p, 0, none⟩)) := fun n => factsOf.cell (by rw [HFA.out]; simp) n
                  have hFA : ∀ p ∈ FA, wr.cell? p.2.1 = some p.2.2 := by rw [HFA.out]; exact (fcons c1 (fcons c1 (fcons c1 (fcons c1 fnil))))
                  haveI neFA : ∀ k, Nonempty (In (factsOf FA k)) := fun k => ⟨⟨_, factsOf.drew hFA k⟩⟩
                  refine ws_begin [0, 1, 2, 3, 4, 5, 6, 7, 8, 9, 10, 11, 12, 13, 14, 15, 16, 17, 18, 19, 20, 21, 22, 23, 24, 25, 26, 27, 28, 29, 30, 31, 32, 33, 34, 35, 36, 37, 38] (factsOf FA) (intsS (.slice p2 m q2) M :: intsS (.slice pa m pc) G :: btS p bank sp N (eSizes [400, 400]) Q :: treesS t sp p :: l) #[0, 1, 3, 7, 0, 31, 0, 64, 192, 448, 0, 2047, 4095, 8191, 16383, 32767, 65535, 131071, 16383, 524287, 16383, 1064959, 16383, 7356415, 16777215, 33554431, 67108863, 134217727, 268435455, 536870911, 1073741823, 134217727, 4294967295, 8589934591, 17179869183, 34359738367, 68719476735, 137438953471, 274877906943] (by kernel_rfl) (by kernel_rfl) (by kernel_rfl) factsOf.alloc (factsOf.drew hFA) hh ?_
                  clear hFA
                  refine ws_q (at_lit rfl) rfl rfl rfl ?_
                  go_big_quiet_op
                  show WS _ _ _ _ _ _ _ _ _ _
                  refine ws_q (at_lit rfl) rfl rfl rfl ?_
                  go_big_quiet_op
                  show WS _ _ _ _ _ _ _ _ _ _
                  refine ws_q (at_lit rfl) rfl rfl rfl ?_
                  go_big_quiet_op
                  show WS _ _ _ _ _ _ _ _ _ _
                  refine ws_q (at_lit rfl) rfl rfl rfl ?_
                  go_big_quiet_op
                  show WS _ _ _ _ _ _ _ _ _ _
                  refine ws_q (at_lit rfl) rfl rfl rfl ?_
                  go_big_quiet_op
                  show WS _ _ _ _ _ _ _ _ _ _
                  refine ws_call (at_lit rfl) rfl rfl 42 #[.pointer (some ⟨p, 0, none⟩), .int .i64 a, .int .i64 0, .int .i64 (-1)] (fun w => by go_simp) (fun v L' => L' = pairsS v LB :: btS p bank sp N (eSizes [400, 400]) Q :: intsS (.slice p2 m q2) M :: intsS (.slice pa m pc) G :: treesS t sp p :: l) (fun w' F hS hh => ?_) ?_
                  · refine (HI1.out w' _ (hh.pull 2)).mono ?_
                    rintro r w'' ⟨va, rfl, hK, hh'⟩
                    exact ⟨_, _, rfl, hK, rfl, hh'⟩
                  rintro va _ rfl
                  refine ⟨fun w F hh => lives (l' := [(9, ⟨t, 1, none⟩, .pointer (some ⟨p, 0, none⟩)), (17, ⟨t, 1, none⟩, .pointer (some ⟨p, 0, none⟩)), (30, ⟨t, 1, none⟩, .pointer (some ⟨p, 0, none⟩))]) (by rw [HFA.out]; simp [liveFacts, Nat.testBit]) (fcons (cell_of (hh.at (b := t) (o := (.cells #[.pointer (some ⟨sp, 0, none⟩), .pointer (some ⟨p, 0, none⟩), .int .i64 0, .int .i64 0, .int .i64 0, .int .i64 0, .slice none 0 0, .slice none 0 0, .slice none 0 0, .slice none 0 0] 70 (0, 0))) (by simp [treesS])) 1 rfl) <| fcons (cell_of (hh.at (b := t) (o := (.cells #[.pointer (some ⟨sp, 0, none⟩), .pointer (some ⟨p, 0, none⟩), .int .i64 0, .int .i64 0, .int .i64 0, .int .i64 0, .slice none 0 0, .slice none 0 0, .slice none 0 0, .slice none 0 0] 70 (0, 0))) (by simp [treesS])) 1 rfl) <| fcons (cell_of (hh.at (b := t) (o := (.cells #[.pointer (some ⟨sp, 0, none⟩), .pointer (some ⟨p, 0, none⟩), .int .i64 0, .int .i64 0, .int .i64 0, .int .i64 0, .slice none 0 0, .slice none 0 0, .slice none 0 0, .slice none 0 0] 70 (0, 0))) (by simp [treesS])) 1 rfl) <| fnil), ?_⟩
                  simp only [Act.put, List.setIfInBounds_toArray, List.set_cons_zero, List.set_cons_succ]
                  show WS _ _ _ _ _ _ _ _ _ _
                  refine ws_q (at_lit rfl) rfl rfl rfl ?_
                  go_big_quiet_op
                  show WS _ _ _ _ _ _ _ _ _ _
                  refine ws_q (at_lit rfl) rfl rfl rfl ?_
                  go_big_quiet_op
                  show WS _ _ _ _ _ _ _ _ _ _
                  refine ws_q (at_lit rfl) rfl rfl rfl ?_
                  go_big_quiet_op
                  show WS _ _ _ _ _ _ _ _ _ _
                  refine ws_q (at_lit rfl) rfl rfl rfl ?_
                  go_big_quiet_op
                  show WS _ _ _ _ _ _ _ _ _ _
                  refine ws_q (at_lit rfl) rfl rfl rfl ?_
                  go_big_quiet_op
                  show WS _ _ _ _ _ _ _ _ _ _
                  refine ws_call (at_lit rfl) rfl rfl 42 #[.pointer (some ⟨p, 0, none⟩), .int .i64 b, .int .i64 0, .int .i64 (-1)] (fun w => by go_simp) (fun v L' => L' = pairsS v LB :: btS p bank sp N (eSizes [400, 400]) Q :: pairsS va LB :: intsS (.slice p2 m q2) M :: intsS (.slice pa m pc) G :: treesS t sp p :: l) (fun w' F hS hh => ?_) ?_
                  · refine (HI2.out w' _ (hh.pull 1)).mono ?_
                    rintro r w'' ⟨vb, rfl, hK, hh'⟩
                    exact ⟨_, _, rfl, hK, rfl, hh'⟩
                  rintro vb _ rfl
                  refine ⟨fun w F hh => lives (l' := [(17, ⟨t, 1, none⟩, .pointer (some ⟨p, 0, none⟩)), (30, ⟨t, 1, none⟩, .pointer (some ⟨p, 0, none⟩))]) (by rw [HFA.out]; simp [liveFacts, Nat.testBit]) (fcons (cell_of (hh.at (b := t) (o := (.cells #[.pointer (some ⟨sp, 0, none⟩), .pointer (some ⟨p, 0, none⟩), .int .i64 0, .int .i64 0, .int .i64 0, .int .i64 0, .slice none 0 0, .slice none 0 0, .slice none 0 0, .slice none 0 0] 70 (0, 0))) (by simp [treesS])) 1 rfl) <| fcons (cell_of (hh.at (b := t) (o := (.cells #[.pointer (some ⟨sp, 0, none⟩), .pointer (some ⟨p, 0, none⟩), .int .i64 0, .int .i64 0, .int .i64 0, .int .i64 0, .slice none 0 0, .slice none 0 0, .slice none 0 0, .slice none 0 0] 70 (0, 0))) (by simp [treesS])) 1 rfl) <| fnil), ?_⟩
                  simp only [Act.put, List.setIfInBounds_toArray, List.set_cons_zero, List.set_cons_succ]
                  show WS _ _ _ _ _ _ _ _ _ _
                  refine ws_call (at_lit rfl) rfl rfl 41 #[va, vb] (fun w => by go_simp) (fun v L' => v = .bool true ∧ L' = pairsS vb LB :: btS p bank sp N (eSizes [400, 400]) Q :: pairsS va LB :: intsS (.slice p2 m q2) M :: intsS (.slice pa m pc) G :: treesS t sp p :: l) (fun w' F hS hh => ?_) ?_
                  · refine (law_equal (v1 := va) (v2 := vb) (ps := LB) (qs := LB) hh (by simp) (by simp) (by have := HLen.out; omega)).mono ?_
                    rintro r w'' ⟨rfl, hK, hh'⟩
                    exact ⟨_, _, rfl, hK, ⟨by rw [decide_eq_true rfl], rfl⟩, hh'⟩
                  rintro _ _ ⟨rfl, rfl⟩
                  refine ⟨fun w F hh => lives (l' := [(17, ⟨t, 1, none⟩, .pointer (some ⟨p, 0, none⟩)), (30, ⟨t, 1, none⟩, .pointer (some ⟨p, 0, none⟩))]) (by rw [HFA.out]; simp [liveFacts, Nat.testBit]) (fcons (cell_of (hh.at (b := t) (o := (.cells #[.pointer (some ⟨sp, 0, none⟩), .pointer (some ⟨p, 0, none⟩), .int .i64 0, .int .i64 0, .int .i64 0, .int .i64 0, .slice none 0 0, .slice none 0 0, .slice none 0 0, .slice none 0 0] 70 (0, 0))) (by simp [treesS])) 1 rfl) <| fcons (cell_of (hh.at (b := t) (o := (.cells #[.pointer (some ⟨sp, 0, none⟩), .pointer (some ⟨p, 0, none⟩), .int .i64 0, .int .i64 0, .int .i64 0, .int .i64 0, .slice none 0 0, .slice none 0 0, .slice none 0 0, .slice none 0 0] 70 (0, 0))) (by simp [treesS])) 1 rfl) <| fnil), ?_⟩
                  simp only [Act.put, List.setIfInBounds_toArray, List.set_cons_zero, List.set_cons_succ]
                  show WS _ _ _ _ _ _ _ _ _ _
                  refine ws_q (at_lit rfl) rfl rfl rfl ?_
                  go_big_quiet_op
                  show WS _ _ _ _ _ _ _ _ _ _
                  refine ws_q (at_lit rfl) rfl rfl rfl ?_
                  go_big_quiet_op
                  show WS _ _ _ _ _ _ _ _ _ _
                  refine ws_q (at_lit rfl) rfl rfl rfl ?_
                  go_big_quiet_op
                  show WS _ _ _ _ _ _ _ _ _ _
                  refine ws_q (at_lit rfl) rfl rfl rfl ?_
                  go_big_quiet_op
                  show WS _ _ _ _ _ _ _ _ _ _
                  refine ws_q (at_lit rfl) rfl rfl rfl ?_
                  go_big_quiet_op
                  show WS _ _ _ _ _ _ _ _ _ _
                  refine ws_q (at_lit rfl) rfl rfl rfl ?_
                  go_big_quiet_op
                  show WS _ _ _ _ _ _ _ _ _ _
                  refine ws_call (at_lit rfl) rfl rfl 43 #[.pointer (some ⟨p, 0, none⟩), .int .i64 a] (fun w => by go_simp) (fun v L' => v = .int .i64 (d : Int) ∧ L' = btS p bank sp N (eSizes [400, 400]) Q :: pairsS vb LB :: pairsS va LB :: intsS (.slice p2 m q2) M :: intsS (.slice pa m pc) G :: treesS t sp p :: l) (fun w' F hS hh => ?_) ?_
                  · refine (HC1.out w' _ (hh.pull 1)).mono ?_
                    rintro r w'' ⟨rfl, hK, hh'⟩
                    exact ⟨_, _, rfl, hK, ⟨rfl, rfl⟩, hh'⟩
                  rintro _ _ ⟨rfl, rfl⟩
                  refine ⟨fun w F hh => lives (l' := [(30, ⟨t, 1, none⟩, .pointer (some ⟨p, 0, none⟩))]) (by rw [HFA.out]; simp [liveFacts, Nat.testBit]) (fcons (cell_of (hh.at (b := t) (o := (.cells #[.pointer (some ⟨sp, 0, none⟩), .pointer (some ⟨p, 0, none⟩), .int .i64 0, .int .i64 0, .int .i64 0, .int .i64 0, .slice none 0 0, .slice none 0 0, .slice none 0 0, .slice none 0 0] 70 (0, 0))) (by simp [treesS])) 1 rfl) <| fnil), ?_⟩
                  simp only [Act.put, List.setIfInBounds_toArray, List.set_cons_zero, List.set_cons_succ]
                  show WS _ _ _ _ _ _ _ _ _ _
                  refine ws_q (at_lit rfl) rfl rfl rfl ?_
                  go_big_quiet_op
                  show WS _ _ _ _ _ _ _ _ _ _
                  refine ws_len (at_lit rfl) rfl rfl (.tmp 262) 22 rfl Tryz.underlying22 _ _ _ rfl ?_
                  simp only [Act.put, List.setIfInBounds_toArray, List.set_cons_zero, List.set_cons_succ]
                  show WS _ _ _ _ _ _ _ _ _ _
                  refine ws_q (at_lit rfl) rfl rfl rfl ?_
                  go_big_quiet_op
                  show WS _ _ _ _ _ _ _ _ _ _
                  refine ws_q (at_lit rfl) rfl rfl rfl ?_
                  go_big_quiet_op
                  show WS _ _ _ _ _ _ _ _ _ _
                  refine ws_q (at_lit rfl) rfl rfl rfl ?_
                  go_big_quiet_op
                  show WS _ _ _ _ _ _ _ _ _ _
                  refine ws_q (at_lit rfl) rfl rfl rfl ?_
                  go_big_quiet_op
                  show WS _ _ _ _ _ _ _ _ _ _
                  refine ws_q (at_lit rfl) rfl rfl rfl ?_
                  go_big_quiet_op
                  show WS _ _ _ _ _ _ _ _ _ _
                  refine ws_q (at_lit rfl) rfl rfl rfl ?_
                  go_big_quiet_op
                  show WS _ _ _ _ _ _ _ _ _ _
                  refine ws_q (at_lit rfl) rfl rfl rfl ?_
                  go_big_quiet_op
                  show WS _ _ _ _ _ _ _ _ _ _
                  refine ws_q (at_lit rfl) rfl rfl rfl ?_
                  go_big_quiet_op
                  show WS _ _ _ _ _ _ _ _ _ _
                  refine ws_q (at_lit rfl) rfl rfl rfl ?_
                  go_big_quiet_op
                  show WS _ _ _ _ _ _ _ _ _ _
                  refine ws_q (at_lit rfl) rfl rfl rfl ?_
                  go_big_quiet_op
                  show WS _ _ _ _ _ _ _ _ _ _
                  refine ws_call (at_lit rfl) rfl rfl 45 #[.pointer (some ⟨p, 0, none⟩), .int .i64 a] (fun w => by go_simp) (fun v L' => v = .nilIface ∧ L' = btS p bank sp N (eSizes [400, 400]) Q :: pairsS vb LB :: pairsS va LB :: intsS (.slice p2 m q2) M :: intsS (.slice pa m pc) G :: treesS t sp p :: l) (fun w' F hS hh => ?_) ?_
                  · refine (HC2.out w' _ hh).mono ?_
                    rintro r w'' ⟨rfl, hK, hh'⟩
                    exact ⟨_, _, rfl, hK, ⟨rfl, rfl⟩, hh'⟩
                  rintro _ _ ⟨rfl, rfl⟩
                  refine ⟨fun w F hh => lives (l' := []) (by rw [HFA.out]; simp [liveFacts, Nat.testBit]) (fnil), ?_⟩
                  simp only [Act.put, List.setIfInBounds_toArray, List.set_cons_zero, List.set_cons_succ]
                  show WS _ _ _ _ _ _ _ _ _ _
                  refine ws_q (at_lit rfl) rfl rfl rfl ?_
                  go_big_quiet_op
                  show WS _ _ _ _ _ _ _ _ _ _
                  refine ws_q (at_lit rfl) rfl rfl rfl ?_
                  go_big_quiet_op
                  show WS _ _ _ _ _ _ _ _ _ _
                  refine ws_q (at_lit rfl) rfl rfl rfl ?_
                  go_big_quiet_op
                  show WS _ _ _ _ _ _ _ _ _ _
                  refine ws_call (at_lit rfl) rfl rfl 37 #[] (fun w => by go_simp) (fun v L' => v = .bool true ∧ L' = btS p bank sp N (eSizes [400, 400]) Q :: pairsS vb LB :: pairsS va LB :: intsS (.slice p2 m q2) M :: intsS (.slice pa m pc) G :: treesS t sp p :: l) (fun w' F hS hh => ?_) ?_
                  · refine (awake12 hh ((Ht.out.fr F).cons.cons.cons.cons.cons.cons)).mono ?_
                    rintro r w'' ⟨rfl, hK, hh'⟩
                    exact ⟨_, _, rfl, hK, ⟨rfl, rfl⟩, hh'⟩
                  rintro _ _ ⟨rfl, rfl⟩
                  refine ⟨fun w F hh => lives (l' := []) (by rw [HFA.out]; simp [liveFacts, Nat.testBit]) (fnil), ?_⟩
                  simp only [Act.put, List.setIfInBounds_toArray, List.set_cons_zero, List.set_cons_succ]
                  show WS _ _ _ _ _ _ _ _ _ _
                  refine ws_q (at_lit rfl) rfl rfl rfl ?_
                  go_big_quiet_op
                  show WS _ _ _ _ _ _ _ _ _ _
                  refine ws_q (at_lit rfl) rfl rfl rfl ?_
                  go_big_quiet_op
                  show WS _ _ _ _ _ _ _ _ _ _
                  refine ws_end ?_
                  intro w5 hK5 h5
                  have HF : Hid (Kept w w5 ∧ Has w5 l) := ⟨HK.out.trans hK5, h5.tail.tail.tail.tail.tail.tail⟩
                  clear hK5 h5 hh HFA neFA FA fa3 fa9 fa17 fa30 c1 lt1 HK HI1 HI2 HC1 HC2 HLen
                  go_wp2
                  go_ret
                  exact ⟨rfl, HF.out.1, HF.out.2⟩
end Go.Proofs.YtgbgneiciabidaaGreatDoor
