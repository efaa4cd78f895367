/-
  The statements of layer 12: all trees are right, and no page is there that none of them has (holds).
-/
import Derived.Test.YtgbgneiciabidaaGreatDoorGs37
namespace Go.Proofs.YtgbgneiciabidaaGreatDoor
open Go Go.RowKit
set_option linter.all false
set_option maxHeartbeats 8000000
theorem idx4_0 (a b c d : Int) (w : World) : (Instr.index 66 (.agg #[.int .i64 a, .int .i64 b, .int .i64 c, .int .i64 d]) (.int .i64 0)).run Tryz.prog w = .ok (.int .i64 a) w := by kernel_rfl
theorem idx4_1 (a b c d : Int) (w : World) : (Instr.index 66 (.agg #[.int .i64 a, .int .i64 b, .int .i64 c, .int .i64 d]) (.int .i64 1)).run Tryz.prog w = .ok (.int .i64 b) w := by kernel_rfl
theorem idx4_2 (a b c d : Int) (w : World) : (Instr.index 66 (.agg #[.int .i64 a, .int .i64 b, .int .i64 c, .int .i64 d]) (.int .i64 2)).run Tryz.prog w = .ok (.int .i64 c) w := by kernel_rfl
theorem idx4_3 (a b c d : Int) (w : World) : (Instr.index 66 (.agg #[.int .i64 a, .int .i64 b, .int .i64 c, .int .i64 d]) (.int .i64 3)).run Tryz.prog w = .ok (.int .i64 d) w := by kernel_rfl
theorem idx4 (a b c d : Int) (w : World) (i : Nat) (x : Int) (hx : [a, b, c, d][i]? = some x) : (Instr.index 66 (.agg #[.int .i64 a, .int .i64 b, .int .i64 c, .int .i64 d]) (.int .i64 (i : Int))).run Tryz.prog w = .ok (.int .i64 x) w := by
 match i, hx with
 | 0, hx => obtain rfl := Option.some.inj hx; exact idx4_0 _ _ _ _ _
 | 1, hx => obtain rfl := Option.some.inj hx; exact idx4_1 _ _ _ _ _
 | 2, hx => obtain rfl := Option.some.inj hx; exact idx4_2 _ _ _ _ _
 | 3, hx => obtain rfl := Option.some.inj hx; exact idx4_3 _ _ _ _ _
 | n + 4, hx => simp at hx
def HtPost (t sp p bank N : Nat) (es : List Ent) (Q : Pgs) (ts : List Tre) (vs : List Value) (rs : List (Value × List KV)) (l : List Say) (w : World) (r : Ending) (w' : World) : Prop :=
 r = .returned (.bool true) /\ Kept w w' /\ Has w' (treesT t sp p (ts.map (·.a)) vs :: btS p bank sp N es Q :: (rs.map kvR ++ l))
def HtM (w : World) (t sp p bank N : Nat) (es : List Ent) (Q : Pgs) (ts : List Tre) (vs : List Value) (rs : List (Value × List KV)) (l : List Say) (sv : Value) (i : Nat) (cnt : Int) (wr : World) : Prop :=
 ∃ Z : List Int, cnt = (Z.length : Int) /\ Z.length <= 50000 /\ Z.Nodup /\ (∀ x, x ∈ Z ↔ ∃ j u, j < i /\ ts[j]? = some u /\ Reach Q u.a x) /\ Kept w wr /\
  Has wr (seenS sv Z :: treesT t sp p (ts.map (·.a)) vs :: btS p bank sp N es Q :: (rs.map kvR ++ l))
theorem Reach.snoc {Q : Pgs} {a b c : Int} {g : Pg} (h : Reach Q a b) (hg : VMap.get b Q = .some g) (hc : c ∈ g.n.kids) (hs : (VMap.get c Q).isSome = true) : Reach Q a c := by
 induction h with
 | here _ => exact .kid hg hc (.here hs)
 | kid h1 h2 _ ih => exact .kid h1 h2 (ih hg)
theorem Grove.who {Q : Pgs} {ts : List Tre} (h : Grove Q ts) {x : Int} {g : Pg} (hg : VMap.get x Q = some g) (hp : 0 < g.held) : ∃ u ∈ ts, u.a = x := by
 have h2 : 0 < heldBy ts x := by
  rw [<- h.held]
  unfold heldOf
  rw [hg]
  exact hp
 have who : ∀ us : List Tre, 0 < heldBy us x -> ∃ t ∈ us, t.a = x := by
  intro us
  induction us with
  | nil => intro h; exact absurd h (by simp [heldBy])
  | cons t us ih =>
   intro hp
   by_cases h1 : 0 < oneAt t.a x
   ·exact ⟨t, .head _, (oneAt_pos h1).symm⟩
   ·have h2 : 0 < oneAt t.a x + heldBy us x := hp
    obtain ⟨u, hu, e⟩ := ih (by omega)
    exact ⟨u, .tail _ hu, e⟩
 exact who ts h2
def HtN (w : World) (t sp p bank N b8 : Nat) (es : List Ent) (Q : Pgs) (ts : List Tre) (vs : List Value) (rs : List (Value × List KV)) (l : List Say) (sv zv : Value) (Z Y : List Int) (k : Nat) (cnt last : Int) (wr : World) : Prop :=
 cnt = ((seenTo Z (Y.take k)).length : Int) /\ (∀ z, Y[k]? = some z -> last < z) /\ (-9223372036854775808 <= last /\ last <= 9223372036854775807) /\ Kept w wr /\
  Has wr (seenS sv (seenTo Z (Y.take k)) :: levS b8 (cntLv Q (Y.take k)) :: intsS zv Y :: treesT t sp p (ts.map (·.a)) vs :: btS p bank sp N es Q :: (rs.map kvR ++ l))
set_option maxRecDepth 100000 in
theorem law_holdsT {w : World} {l : List Say} {t sp p bank N : Nat} {es : List Ent} {Q : Pgs} {ts : List Tre} {vs : List Value} {rs : List (Value × List KV)} (h : Has w (treesT t sp p (ts.map (·.a)) vs :: btS p bank sp N es Q :: (rs.map kvR ++ l))) (ht : Tab l) (hT : Grove Q ts) (h4 : Rows4 ts vs rs) (hb : ∀ u ∈ ts, u.L.length <= 1000) (hql : Q.length <= 50000) :
  Calls Tryz.prog 51 #[.pointer (some ⟨t, 0, none⟩)] w (HtPost t sp p bank N es Q ts vs rs l w) := by
 have hml : (ts.map (·.a)).length = 4 := by rw [List.length_map]; exact h4.four
 have hI := h.tail.bt_inv.1
 have H0 := Lib.hid h
 have HX := Lib.hid (And.intro ht (And.intro hT (And.intro h4 (And.intro hb (And.intro hql (And.intro hml hI))))))
 obtain ⟨y0, v0, hu0, _, _⟩ := h4.at (i := 0) (by omega)
 obtain ⟨y1, v1, hu1, _, _⟩ := h4.at (i := 1) (by omega)
 obtain ⟨y2, v2, hu2, _, _⟩ := h4.at (i := 2) (by omega)
 obtain ⟨y3, v3, hu3, _, _⟩ := h4.at (i := 3) (by omega)
 have r0 : w.cell? ⟨t, 2, none⟩ = some (.int .i64 y0.a) := cell_of h.got (2 + 0) (treesC_root (by rw [List.getElem?_map, hu0]; rfl))
 have r1 : w.cell? ⟨t, 3, none⟩ = some (.int .i64 y1.a) := cell_of h.got (2 + 1) (treesC_root (by rw [List.getElem?_map, hu1]; rfl))
 have r2 : w.cell? ⟨t, 4, none⟩ = some (.int .i64 y2.a) := cell_of h.got (2 + 2) (treesC_root (by rw [List.getElem?_map, hu2]; rfl))
 have r3 : w.cell? ⟨t, 5, none⟩ = some (.int .i64 y3.a) := cell_of h.got (2 + 3) (treesC_root (by rw [List.getElem?_map, hu3]; rfl))
 have HU := Lib.hid (And.intro hu0 (And.intro hu1 (And.intro hu2 hu3)))
 have lt1 := World.block_lt_of_cell? _ _ r0
 have hmk : ∀ w : World, (Instr.makeSlice 191 (.int .i64 32768) (.int .i64 32768)).run Tryz.prog w = .ok (.slice (some ⟨w.heap.size, 0, none⟩) 32768 32768) (w.alloc (.cells (madeCells #[.bool false] 32768) 4)) :=
  run_make_row' (P := Tryz.prog) 191 4 (.bool false) 1 Tryz.underlying191 (show (Tryz.prog.info? 4).map (fun i => (i.zero, i.size, i.bytes)) = some (some (.bool false), 1, 1) by kernel_rfl) rfl .i64 .i64 32768 (by omega) (by omega)
 have hC1 : (madeCells #[.bool false] 32768).size = 32768 := size_madeCells #[.bool false] 32768
 have hC2 : ∀ k, k < 32768 -> (madeCells #[.bool false] 32768)[k]? = some (.bool false) := fun k hk => by
  have h1 := toList_madeCells_one (.bool false) 32768
  rw [<- Array.getElem?_toList, h1, List.getElem?_replicate, if_pos hk]
 obtain ⟨C, hC⟩ : ∃ C, madeCells #[.bool false] 32768 = C := ⟨_, rfl⟩
 rw [hC] at hC1 hC2
 rw [hC] at hmk
 have hS := Has.seen_new h hC1 hC2
 have HM0 : Hid (HtM w t sp p bank N es Q ts vs rs l (.slice (some ⟨w.heap.size, 0, none⟩) 32768 32768) 0 0 (w.alloc (.cells C 4))) := ⟨[], rfl, by simp, List.nodup_nil, fun x => ⟨fun h => (nomatch h), fun ⟨j, u, hj, _⟩ => absurd hj (Nat.not_lt_zero _)⟩, (Kept.refl w).alloc _, hS⟩
 clear h ht hT h4 hb hql hml hI hC1 hC2 hS hC hu0 hu1 hu2 hu3 H0
 go_enter Tryz.func51, Tryz.ntmps51
 go_upto_region 4 with fail
 generalize w.alloc (.cells C 4) = W at *
 generalize w.heap.size = g3 at *
 clear hmk r0 r1 r2 r3 lt1
 have HU2 : Hid (∀ (i : Nat) u, ts[i]? = some u -> i < 4 -> [y0.a, y1.a, y2.a, y3.a][i]? = some u.a) := by
  intro i u hu hi
  obtain ⟨h0, h1, h2, h3⟩ := HU.out
  match i, hi with
  | 0, _ => rw [h0] at hu; obtain rfl := Option.some.inj hu; rfl
  | 1, _ => rw [h1] at hu; obtain rfl := Option.some.inj hu; rfl
  | 2, _ => rw [h2] at hu; obtain rfl := Option.some.inj hu; rfl
  | 3, _ => rw [h3] at hu; obtain rfl := Option.some.inj hu; rfl
 go_loopg [4, 18] 4 (fun gk cv iv wr => ∃ (i : Nat) (c : Int), i <= 4 /\ gk = 4 - i /\ cv = .int .i64 c /\ iv = .int .i64 i /\ Hid (HtM w t sp p bank N es Q ts vs rs l (.slice (some ⟨g3, 0, none⟩) 32768 32768) i c wr))
 case atStart => exact ⟨0, 0, Nat.zero_le _, rfl, rfl, rfl, HM0⟩
 case round =>
  clear HM0
  obtain ⟨i, c, hi, rfl, rfl, rfl, HM⟩ := hrel
  obtain ⟨Z, rfl, hZl, hZn, hZi, hK, hh⟩ := HM.out
  clear HM
  by_cases hlt : i < 4
  ·skip
   obtain ⟨u, v, hu, hv, hr⟩ := HX.out.2.2.1.at hlt
   have iI : (i : Int) < 4 := by omega
   have i0 : (0 : Int) <= i := by omega
   have hix := idx4 y0.a y1.a y2.a y3.a wr i u.a (HU2.out i u hu hlt)
   obtain ⟨a, ha⟩ : ∃ a, u.a = a := ⟨_, rfl⟩
   rw [ha] at hix
   have Ha := Lib.hid ha
   clear ha
   go_upto_region 6 with fail
   clear hix
   have hum := List.mem_of_getElem? hu
   have hR := HX.out.2.1.root u hum
   have hI := HX.out.2.2.2.2.2.2
   have hrz := hR.zero hI
   have hLl := HX.out.2.2.2.1 u hum
   have hps := hR.pos hI
   have hua : (ts.map (·.a))[i]? = some u.a := by rw [List.getElem?_map, hu]; rfl
   obtain ⟨vq, vc, ev0, _⟩ := hh.kv_read (v := v) (L := u.L) (by simp [kvR_mem hr])
   obtain ⟨vn, hvn⟩ : ∃ n, u.L.length = n := ⟨_, rfl⟩
   rw [hvn] at ev0
   subst ev0
   obtain ⟨L, hL⟩ : ∃ L, u.L = L := ⟨_, rfl⟩
   rw [Ha.out] at hR hrz hua
   rw [hL] at hR hrz hLl hps hvn hr
   have HI : Hid (∀ w' l', Has w' (btS p bank sp N es Q :: l') -> Calls Tryz.prog 42 #[.pointer (some ⟨p, 0, none⟩), .int .i64 a, .int .i64 0, .int .i64 (-1)] w' (ItemsPost p bank sp N es Q L l' w')) := fun w' l' h => by
    have := bt_Items a 0 (-1) h hR (by omega)
    rwa [items_all hps] at this
   have HCk : Hid (∀ w' l', Has w' (btS p bank sp N es Q :: l') -> Calls Tryz.prog 45 #[.pointer (some ⟨p, 0, none⟩), .int .i64 a] w' (CkPost p bank sp N es Q l' w')) := fun w' l' h => bt_CheckR a h hR (by omega)
   have HCn : Hid (∀ w' l', Has w' (btS p bank sp N es Q :: l') -> Calls Tryz.prog 43 #[.pointer (some ⟨p, 0, none⟩), .int .i64 a] w' (fun r w'' => r = .returned (.int .i64 (vn : Int)) /\ Kept w' w'' /\ Has w'' (btS p bank sp N es Q :: l'))) := fun w' l' h => by
    have := bt_Count a h hR (by omega)
    rwa [hvn] at this
   have habd : -9223372036854775808 <= a /\ a <= 9223372036854775807 := by
    rcases hR.it with ⟨h0, _, _⟩ | ⟨lv, hTr, _, _⟩
    ·omega
    ·obtain ⟨g, hg, _⟩ := hTr.get
     have := (hI.adr a (by rw [hg]; rfl)).bd
     omega
   have HPs : Hid (∀ w' l', Has w' (btS p bank sp N es Q :: l') -> Calls Tryz.prog 109 #[.pointer (some ⟨p, 0, none⟩), .int .i64 a] w' (BpPost p bank sp N es Q (Reach Q a) l' w')) := fun w' l' h => bt_TreePages a h habd (by have := HX.out.2.2.2.2.1; omega)
   obtain ⟨b0, hb0⟩ : ∃ b0, (a == 0) = b0 := ⟨_, rfl⟩
   have hb1 : ((vn : Int) == 0) = b0 := by
    rw [<- hb0, Bool.eq_iff_iff]
    simp only [beq_iff_eq]
    rw [hrz.1]
    constructor
    ·intro h
     exact List.eq_nil_of_length_eq_zero (by omega)
    ·intro h
     rw [h] at hvn
     simp at hvn
     omega
   have hbb : (b0 != b0) = false := by cases b0 <;> rfl
   have HLv : Hid (∀ k : Int, LvZ Q a k vn) := fun k => by rw [<- hvn]; exact hrz.2 k
   have HR := Lib.hid (And.intro hua (And.intro hv (And.intro hr (And.intro hvn (And.intro hLl hu)))))
   have t1 : wr.cell? ⟨t, 1, none⟩ = some (.pointer (some ⟨p, 0, none⟩)) := cell_of (hh.at (b := t) (o := (.cells (treesC sp p (ts.map (·.a)) vs) 70 (0, 0))) (by simp [treesT])) 1 rfl
   have tv : wr.cell? ⟨t, 6 + i, none⟩ = some (.slice vq vn vc) := cell_of (hh.at (b := t) (o := (.cells (treesC sp p (ts.map (·.a)) vs) 70 (0, 0))) (by simp [treesT])) _ (treesC_list HX.out.2.2.2.2.2.1 hv)
   have lt1 := World.block_lt_of_cell? _ _ t1
   have HZ := Lib.hid (And.intro hZl (And.intro hZn (And.intro hZi hK)))
   clear hum hR hI hrz hLl hps hua hu hv hr hvn hL hZl hZn hZi hK habd
   obtain ⟨FA, HFA⟩ : ∃ FA : List (Nat × Addr × Value), Hid (FA = [(3, ⟨t, 1, none⟩, .pointer (some ⟨p, 0, none⟩)), (11, ⟨t, 6 + i, none⟩, .slice vq vn vc), (18, ⟨t, 1, none⟩, .pointer (some ⟨p, 0, none⟩)), (27, ⟨t, 1, none⟩, .pointer (some ⟨p, 0, none⟩)), (35, ⟨t, 6 + i, none⟩, .slice vq vn vc), (47, ⟨t, 6 + i, none⟩, .slice vq vn vc)]) := ⟨_, rfl⟩
   have fa3 : ∀ n : In (factsOf FA 3), n.w.cell? ⟨t, 1, none⟩ = some (.pointer (some ⟨p, 0, none⟩)) := fun n => factsOf.cell (by rw [HFA.out]; simp) n
   have fa11 : ∀ n : In (factsOf FA 11), n.w.cell? ⟨t, 6 + i, none⟩ = some (.slice vq vn vc) := fun n => factsOf.cell (by rw [HFA.out]; simp) n
   have fa18 : ∀ n : In (factsOf FA 18), n.w.cell? ⟨t, 1, none⟩ = some (.pointer (some ⟨p, 0, none⟩)) := fun n => factsOf.cell (by rw [HFA.out]; simp) n
   have fa27 : ∀ n : In (factsOf FA 27), n.w.cell? ⟨t, 1, none⟩ = some (.pointer (some ⟨p, 0, none⟩)) := fun n => factsOf.cell (by rw [HFA.out]; simp) n
   have fa35 : ∀ n : In (factsOf FA 35), n.w.cell? ⟨t, 6 + i, none⟩ = some (.slice vq vn vc) := fun n => factsOf.cell (by rw [HFA.out]; simp) n
   have fa47 : ∀ n : In (factsOf FA 47), n.w.cell? ⟨t, 6 + i, none⟩ = some (.slice vq vn vc) := fun n => factsOf.cell (by rw [HFA.out]; simp) n
   have hFA : ∀ p ∈ FA, wr.cell? p.2.1 = some p.2.2 := by rw [HFA.out]; exact (fcons t1 (fcons tv (fcons t1 (fcons t1 (fcons tv (fcons tv fnil))))))
   haveI neFA : ∀ k, Nonempty (In (factsOf FA k)) := fun k => ⟨⟨_, factsOf.drew hFA k⟩⟩
   refine ws_begin [0, 1, 2, 3, 4, 5, 6, 7, 8, 9, 10, 11, 12, 13, 14, 15, 16, 17, 18, 19, 20, 21, 22, 23, 24, 25, 26, 27, 28, 29, 30, 31, 32, 33, 34, 35, 36, 37, 38, 39, 40, 41, 42, 43, 44, 45, 46, 47, 48, 49, 50, 51] (factsOf FA) (seenS (.slice (some ⟨g3, 0, none⟩) 32768 32768) Z :: treesT t sp p (ts.map (·.a)) vs :: btS p bank sp N es Q :: (rs.map kvR ++ l)) #[0, 1, 3, 7, 0, 31, 0, 0, 64, 320, 960, 1984, 4095, 8191, 16383, 32767, 65535, 131071, 262143, 32767, 1048575, 2097151, 4194303, 8388607, 16777215, 33554431, 67108863, 134217727, 16777215, 536870911, 16777215, 16777215, 1090519039, 5385486335, 16122904575, 33302773759, 67662512127, 137438953471, 274877906943, 549755813887, 1099511627775, 2199023255551, 1099511627775, 1099511627775, 5497558138879, 23089744183295, 67070209294335, 137438953471999, 278176441827327, 559651418537983, 1125899906842623, 2251799813685247] (by kernel_rfl) (by kernel_rfl) (by kernel_rfl) factsOf.alloc (factsOf.drew hFA) hh ?_
   clear hFA
   iterate 5 (refine ws_q (at_lit rfl) rfl rfl rfl ?_; go_big_quiet_op; show WS _ _ _ _ _ _ _ _ _ _)
   refine ws_call (at_lit rfl) rfl rfl 42 #[.pointer (some ⟨p, 0, none⟩), .int .i64 a, .int .i64 0, .int .i64 (-1)] (fun w => by go_simp) (fun v L' => L' = pairsS v L :: seenS (.slice (some ⟨g3, 0, none⟩) 32768 32768) Z :: treesT t sp p (ts.map (·.a)) vs :: btS p bank sp N es Q :: (rs.map kvR ++ l)) (fun w' F hS hh => ?_) ?_
   ·refine (HI.out w' _ (hh.pull 2)).mono ?_
    rintro r w'' ⟨va, rfl, hK, hh'⟩
    exact ⟨_, _, rfl, hK, rfl, hh'.reord [0, 1, 1]⟩
   rintro vi _ rfl
   refine ⟨fun w F hh => lives (l' := [(11, ⟨t, 6 + i, none⟩, .slice vq vn vc), (18, ⟨t, 1, none⟩, .pointer (some ⟨p, 0, none⟩)), (27, ⟨t, 1, none⟩, .pointer (some ⟨p, 0, none⟩)), (35, ⟨t, 6 + i, none⟩, .slice vq vn vc), (47, ⟨t, 6 + i, none⟩, .slice vq vn vc)]) (by rw [HFA.out]; simp [liveFacts, Nat.testBit]) (fcons (cell_of (hh.at (b := t) (o := (.cells (treesC sp p (ts.map (·.a)) vs) 70 (0, 0))) (by simp [treesT])) _ (treesC_list HX.out.2.2.2.2.2.1 HR.out.2.1)) <| fcons (cell_of (hh.at (b := t) (o := (.cells (treesC sp p (ts.map (·.a)) vs) 70 (0, 0))) (by simp [treesT])) 1 rfl) <| fcons (cell_of (hh.at (b := t) (o := (.cells (treesC sp p (ts.map (·.a)) vs) 70 (0, 0))) (by simp [treesT])) 1 rfl) <| fcons (cell_of (hh.at (b := t) (o := (.cells (treesC sp p (ts.map (·.a)) vs) 70 (0, 0))) (by simp [treesT])) _ (treesC_list HX.out.2.2.2.2.2.1 HR.out.2.1)) <| fcons (cell_of (hh.at (b := t) (o := (.cells (treesC sp p (ts.map (·.a)) vs) 70 (0, 0))) (by simp [treesT])) _ (treesC_list HX.out.2.2.2.2.2.1 HR.out.2.1)) <| fnil), ?_⟩
   simp only [Act.put, List.setIfInBounds_toArray, List.set_cons_zero, List.set_cons_succ]
   show WS _ _ _ _ _ _ _ _ _ _
   iterate 6 (refine ws_q (at_lit rfl) rfl rfl rfl ?_; go_big_quiet_op; show WS _ _ _ _ _ _ _ _ _ _)
   refine ws_call (at_lit rfl) rfl rfl 50 #[vi, .slice vq vn vc] (fun w => by go_simp) (fun v L' => v = .bool true /\ L' = pairsS vi L :: seenS (.slice (some ⟨g3, 0, none⟩) 32768 32768) Z :: treesT t sp p (ts.map (·.a)) vs :: btS p bank sp N es Q :: (rs.map kvR ++ l)) (fun w' F hS hh => ?_) ?_
   ·refine (law_pairs (v1 := vi) (v2 := .slice vq vn vc) (ps := L) (qs := L) hh (by simp) (by have := kvR_mem HR.out.2.2.1; simp [this]) (by have := HR.out.2.2.2.2.1; omega)).mono ?_
    rintro r w'' ⟨rfl, hK, hh'⟩
    exact ⟨_, _, rfl, hK, ⟨by rw [decide_eq_true rfl], rfl⟩, hh'⟩
   rintro _ _ ⟨rfl, rfl⟩
   refine ⟨fun w F hh => lives (l' := [(18, ⟨t, 1, none⟩, .pointer (some ⟨p, 0, none⟩)), (27, ⟨t, 1, none⟩, .pointer (some ⟨p, 0, none⟩)), (35, ⟨t, 6 + i, none⟩, .slice vq vn vc), (47, ⟨t, 6 + i, none⟩, .slice vq vn vc)]) (by rw [HFA.out]; simp [liveFacts, Nat.testBit]) (fcons (cell_of (hh.at (b := t) (o := (.cells (treesC sp p (ts.map (·.a)) vs) 70 (0, 0))) (by simp [treesT])) 1 rfl) <| fcons (cell_of (hh.at (b := t) (o := (.cells (treesC sp p (ts.map (·.a)) vs) 70 (0, 0))) (by simp [treesT])) 1 rfl) <| fcons (cell_of (hh.at (b := t) (o := (.cells (treesC sp p (ts.map (·.a)) vs) 70 (0, 0))) (by simp [treesT])) _ (treesC_list HX.out.2.2.2.2.2.1 HR.out.2.1)) <| fcons (cell_of (hh.at (b := t) (o := (.cells (treesC sp p (ts.map (·.a)) vs) 70 (0, 0))) (by simp [treesT])) _ (treesC_list HX.out.2.2.2.2.2.1 HR.out.2.1)) <| fnil), ?_⟩
   simp only [Act.put, List.setIfInBounds_toArray, List.set_cons_zero, List.set_cons_succ]
   show WS _ _ _ _ _ _ _ _ _ _
   iterate 7 (refine ws_q (at_lit rfl) rfl rfl rfl ?_; go_big_quiet_op; show WS _ _ _ _ _ _ _ _ _ _)
   refine ws_call (at_lit rfl) rfl rfl 45 #[.pointer (some ⟨p, 0, none⟩), .int .i64 a] (fun w => by go_simp) (fun v L' => v = .nilIface /\ L' = pairsS vi L :: seenS (.slice (some ⟨g3, 0, none⟩) 32768 32768) Z :: treesT t sp p (ts.map (·.a)) vs :: btS p bank sp N es Q :: (rs.map kvR ++ l)) (fun w' F hS hh => ?_) ?_
   ·refine (HCk.out w' _ (hh.pull 3)).mono ?_
    rintro r w'' ⟨rfl, hK, hh'⟩
    exact ⟨_, _, rfl, hK, ⟨rfl, rfl⟩, hh'.reord [1, 1, 1]⟩
   rintro _ _ ⟨rfl, rfl⟩
   refine ⟨fun w F hh => lives (l' := [(27, ⟨t, 1, none⟩, .pointer (some ⟨p, 0, none⟩)), (35, ⟨t, 6 + i, none⟩, .slice vq vn vc), (47, ⟨t, 6 + i, none⟩, .slice vq vn vc)]) (by rw [HFA.out]; simp [liveFacts, Nat.testBit]) (fcons (cell_of (hh.at (b := t) (o := (.cells (treesC sp p (ts.map (·.a)) vs) 70 (0, 0))) (by simp [treesT])) 1 rfl) <| fcons (cell_of (hh.at (b := t) (o := (.cells (treesC sp p (ts.map (·.a)) vs) 70 (0, 0))) (by simp [treesT])) _ (treesC_list HX.out.2.2.2.2.2.1 HR.out.2.1)) <| fcons (cell_of (hh.at (b := t) (o := (.cells (treesC sp p (ts.map (·.a)) vs) 70 (0, 0))) (by simp [treesT])) _ (treesC_list HX.out.2.2.2.2.2.1 HR.out.2.1)) <| fnil), ?_⟩
   simp only [Act.put, List.setIfInBounds_toArray, List.set_cons_zero, List.set_cons_succ]
   show WS _ _ _ _ _ _ _ _ _ _
   iterate 8 (refine ws_q (at_lit rfl) rfl rfl rfl ?_; go_big_quiet_op; show WS _ _ _ _ _ _ _ _ _ _)
   refine ws_call (at_lit rfl) rfl rfl 43 #[.pointer (some ⟨p, 0, none⟩), .int .i64 a] (fun w => by go_simp) (fun v L' => v = .int .i64 (vn : Int) /\ L' = pairsS vi L :: seenS (.slice (some ⟨g3, 0, none⟩) 32768 32768) Z :: treesT t sp p (ts.map (·.a)) vs :: btS p bank sp N es Q :: (rs.map kvR ++ l)) (fun w' F hS hh => ?_) ?_
   ·refine (HCn.out w' _ (hh.pull 3)).mono ?_
    rintro r w'' ⟨rfl, hK, hh'⟩
    exact ⟨_, _, rfl, hK, ⟨rfl, rfl⟩, hh'.reord [1, 1, 1]⟩
   rintro _ _ ⟨rfl, rfl⟩
   refine ⟨fun w F hh => lives (l' := [(35, ⟨t, 6 + i, none⟩, .slice vq vn vc), (47, ⟨t, 6 + i, none⟩, .slice vq vn vc)]) (by rw [HFA.out]; simp [liveFacts, Nat.testBit]) (fcons (cell_of (hh.at (b := t) (o := (.cells (treesC sp p (ts.map (·.a)) vs) 70 (0, 0))) (by simp [treesT])) _ (treesC_list HX.out.2.2.2.2.2.1 HR.out.2.1)) <| fcons (cell_of (hh.at (b := t) (o := (.cells (treesC sp p (ts.map (·.a)) vs) 70 (0, 0))) (by simp [treesT])) _ (treesC_list HX.out.2.2.2.2.2.1 HR.out.2.1)) <| fnil), ?_⟩
   simp only [Act.put, List.setIfInBounds_toArray, List.set_cons_zero, List.set_cons_succ]
   show WS _ _ _ _ _ _ _ _ _ _
   iterate 6 (refine ws_q (at_lit rfl) rfl rfl rfl ?_; go_big_quiet_op; show WS _ _ _ _ _ _ _ _ _ _)
   refine ws_len (at_lit rfl) rfl rfl (.tmp 57) 67 rfl Tryz.underlying67 _ _ _ rfl ?_
   simp only [Act.put, List.setIfInBounds_toArray, List.set_cons_zero, List.set_cons_succ]
   show WS _ _ _ _ _ _ _ _ _ _
   iterate 11 (refine ws_q (at_lit rfl) rfl rfl rfl ?_; go_big_quiet_op; show WS _ _ _ _ _ _ _ _ _ _)
   refine ws_len (at_lit rfl) rfl rfl (.tmp 69) 67 rfl Tryz.underlying67 _ _ _ rfl ?_
   simp only [Act.put, List.setIfInBounds_toArray, List.set_cons_zero, List.set_cons_succ]
   show WS _ _ _ _ _ _ _ _ _ _
   iterate 3 (refine ws_q (at_lit rfl) rfl rfl rfl ?_; go_big_quiet_op; show WS _ _ _ _ _ _ _ _ _ _)
   refine ws_end ?_
   intro w5 hK5 h5
   have h6 : Has w5 (btS p bank sp N es Q :: seenS (.slice (some ⟨g3, 0, none⟩) 32768 32768) Z :: treesT t sp p (ts.map (·.a)) vs :: (rs.map kvR ++ l)) := Has.skip (A := [_, _, _]) (M := [_]) (h5.reord [3, 1, 1])
   have HK5 := Lib.hid (HZ.out.2.2.2.trans hK5)
   have H6 := Lib.hid h6
   have t1 : w5.cell? ⟨t, 1, none⟩ = some (.pointer (some ⟨p, 0, none⟩)) := cell_of (h6.at (b := t) (o := (.cells (treesC sp p (ts.map (·.a)) vs) 70 (0, 0))) (by simp [treesT])) 1 rfl
   have lt1 := World.block_lt_of_cell? _ _ t1
   clear hK5 h5 h6 hh HFA neFA FA fa3 fa11 fa18 fa27 fa35 fa47 tv HI HCk HCn hbb hb0 hb1
   go_upto_region 10 with fail
   have h7 := (H6.out.alloc (.cells #[.int .i64 0, .int .i64 0, .int .i64 0, .int .i64 0, .int .i64 0, .int .i64 0, .int .i64 0, .int .i64 0, .int .i64 0, .int .i64 0, .int .i64 0, .int .i64 0, .int .i64 0, .int .i64 0, .int .i64 0, .int .i64 0, .int .i64 0, .int .i64 0, .int .i64 0, .int .i64 0, .int .i64 0] 192)).lev_new rfl (fun k hk => by
    have e : (#[.int .i64 0, .int .i64 0, .int .i64 0, .int .i64 0, .int .i64 0, .int .i64 0, .int .i64 0, .int .i64 0, .int .i64 0, .int .i64 0, .int .i64 0, .int .i64 0, .int .i64 0, .int .i64 0, .int .i64 0, .int .i64 0, .int .i64 0, .int .i64 0, .int .i64 0, .int .i64 0, .int .i64 0] : Array Value) = (List.replicate 21 (Value.int .i64 0)).toArray := rfl
    rw [e, List.getElem?_toArray, List.getElem?_replicate, if_pos hk])
   have h8 : Has (w5.alloc (.cells #[.int .i64 0, .int .i64 0, .int .i64 0, .int .i64 0, .int .i64 0, .int .i64 0, .int .i64 0, .int .i64 0, .int .i64 0, .int .i64 0, .int .i64 0, .int .i64 0, .int .i64 0, .int .i64 0, .int .i64 0, .int .i64 0, .int .i64 0, .int .i64 0, .int .i64 0, .int .i64 0, .int .i64 0] 192)) (btS p bank sp N es Q :: levS w5.heap.size (fun _ => 0) :: seenS (.slice (some ⟨g3, 0, none⟩) 32768 32768) Z :: treesT t sp p (ts.map (·.a)) vs :: (rs.map kvR ++ l)) := h7.swap
   have HPc := Lib.hid (HPs.out _ _ h8)
   have HK6 := Lib.hid (HK5.out.alloc (.cells #[.int .i64 0, .int .i64 0, .int .i64 0, .int .i64 0, .int .i64 0, .int .i64 0, .int .i64 0, .int .i64 0, .int .i64 0, .int .i64 0, .int .i64 0, .int .i64 0, .int .i64 0, .int .i64 0, .int .i64 0, .int .i64 0, .int .i64 0, .int .i64 0, .int .i64 0, .int .i64 0, .int .i64 0] 192))
   clear h7 h8 HPs H6 HK5
   go_wp2_with fail
   refine HPc.out.mono ?_
   rintro r w6 ⟨zv, Y, rfl, hK6, hYs, hYi, h9⟩
   generalize w5.heap.size = b8 at *
   obtain ⟨yq, yc, rfl, _, _⟩ := h9.ints_read (v := zv) (xs := Y) (.head _)
   obtain ⟨m, hm⟩ : ∃ m, Y.length = m := ⟨_, rfl⟩
   rw [hm] at h9 ⊢
   have hyn : Y.Nodup := hYs.imp fun {a b} h => by omega
   have hyb : ∀ z ∈ Y, ∃ g, VMap.get z Q = some g /\ 2 <= z /\ z < 32768 /\ 0 <= g.n.level /\ g.n.level <= 20 := fun z hz => by
    have hs := ((hYi z).1 hz).some
    obtain ⟨g, hg⟩ := Option.isSome_iff_exists.1 hs
    have h1 := (HX.out.2.2.2.2.2.2.adr z hs).bd
    have h2 := HX.out.2.2.2.2.2.2.lv hg
    exact ⟨g, hg, by omega, by omega, by omega, by omega⟩
   have hmq : m <= 50000 := by
    have h1 := List.Nodup.length_le_of_subset hyn (l₂ := Q.map (·.1)) fun z hz => by
     obtain ⟨g, hg, _⟩ := hyb z hz
     exact List.mem_map.2 ⟨(z, g), get_mem hg, rfl⟩
    rw [List.length_map, hm] at h1
    have := HX.out.2.2.2.2.1
    omega
   have HN0 : Hid (HtN w t sp p bank N b8 es Q ts vs rs l (.slice (some ⟨g3, 0, none⟩) 32768 32768) (.slice yq m yc) Z Y 0 (Z.length : Int) 0 w6) := by
    refine ⟨rfl, fun z hz => ?_, by omega, HK6.out.trans hK6, ?_⟩
    ·obtain ⟨g, _, h2, _⟩ := hyb z (List.mem_of_getElem? hz)
     omega
    ·have e1 : cntLv Q (Y.take 0) = fun _ => 0 := by funext j; simp [cntLv]
     rw [e1]
     exact h9.reord [3, 2, 0, 1]
   have HY := Lib.hid (And.intro hYs (And.intro hYi (And.intro hm (And.intro hyn hyb))))
   have hmI : (m : Int) <= 50000 := by omega
   clear h9 hK6 HPc HK6 t1 lt1 hYs hYi hm hyn hyb
   go_wp2
   go_loopg [4, 7, 81] m (fun gk cv lv iv wr => ∃ (k : Nat) (c la : Int), k <= m /\ gk = m - k /\ cv = .int .i64 c /\ lv = .int .i64 la /\ iv = .int .i64 k /\ Hid (HtN w t sp p bank N b8 es Q ts vs rs l (.slice (some ⟨g3, 0, none⟩) 32768 32768) (.slice yq m yc) Z Y k c la wr))
   case atStart => exact ⟨0, _, 0, Nat.zero_le _, rfl, rfl, rfl, rfl, HN0⟩
   case round =>
    clear HN0
    obtain ⟨k, c, la, hk, rfl, rfl, rfl, rfl, HM⟩ := hrel
    obtain ⟨rfl, hla, hlb, hK, hh⟩ := HM.out
    clear HM
    by_cases hlt2 : k < m
    ·skip
     obtain ⟨_, _, e1, _, hrd⟩ := hh.ints_read (v := .slice yq m yc) (xs := Y) (by simp)
     injection e1 with e1 e2 e3
     subst e1
     clear e2 e3
     obtain ⟨gy, rfl, hx1, hx2⟩ := hrd k (by have := HY.out.2.2.1; omega)
     clear hx1 hx2
     obtain ⟨z, hz⟩ : ∃ z, Y[k]? = some z := ⟨_, List.getElem?_eq_getElem (by have := HY.out.2.2.1; omega)⟩
     have cz := hh.ints_at (g := gy) (n := m) (c := yc) (xs := Y) (by simp) hz
     have hzm := List.mem_of_getElem? hz
     obtain ⟨g, hg, z2, z3, v0, v20⟩ := HY.out.2.2.2.2 z hzm
     have hzl := hla z hz
     obtain ⟨zn, rfl⟩ : ∃ zn : Nat, z = (zn : Int) := ⟨z.toNat, by omega⟩
     obtain ⟨lvl, hlvl⟩ : ∃ lvl : Nat, g.n.level = (lvl : Int) := ⟨g.n.level.toNat, by omega⟩
     have hlv21 : lvl < 21 := by omega
     have t1 : wr.cell? ⟨t, 1, none⟩ = some (.pointer (some ⟨p, 0, none⟩)) := cell_of (hh.at (b := t) (o := (.cells (treesC sp p (ts.map (·.a)) vs) 70 (0, 0))) (by simp [treesT])) 1 rfl
     have lt1 := World.block_lt_of_cell? _ _ t1
     have lz := World.block_lt_of_cell? _ _ cz
     have HG := Lib.hid (bt_Get (hh.reord [4]) (zn : Int) (by omega) (by omega))
     have hts := take_succ hz
     have hcs := cntLv_snoc Q (Y.take k) (zn : Int) (lv := lvl) (by unfold lvOf; rw [hg]; exact hlvl)
     rw [<- hts.1] at hcs
     have hss := seenTo_snoc Z (Y.take k) (zn : Int)
     rw [<- hts.1] at hss
     have hcl : cntLv Q (Y.take (k + 1)) lvl <= vn := by
      refine (HLv.out (lvl : Int)).count ((HY.out.2.2.2.1.sublist (List.take_sublist _ _)).sublist List.filter_sublist) fun x hx => ?_
      obtain ⟨hx1, hx2⟩ := List.mem_filter.1 hx
      have hxY := List.mem_of_mem_take hx1
      obtain ⟨gx, hgx, _⟩ := HY.out.2.2.2.2 x hxY
      refine ⟨(HY.out.2.1 x).1 hxY, gx, hgx, ?_⟩
      have hx3 : lvOf Q x = (lvl : Int) := by simpa using hx2
      unfold lvOf at hx3
      rw [hgx] at hx3
      exact hx3
     have hsl : (seenTo Z (Y.take k)).length <= 100000 := by
      have h1 := List.Nodup.length_le_of_subset (seenTo_two (Y.take k) Z HZ.out.2.1) (l₂ := Z ++ Y) fun x hx => by
       rcases (seenTo_mem _ _ _).1 hx with h | h
       ·exact List.mem_append_left _ h
       ·exact List.mem_append_right _ (List.mem_of_mem_take h)
      rw [List.length_append, HY.out.2.2.1] at h1
      have := HZ.out.1
      omega
     have hnx : ∀ x, Y[k + 1]? = some x -> (zn : Int) < x := fun x hx => by
      have h1 := HY.out.1
      rw [hts.2] at h1
      refine (List.pairwise_cons.1 (List.pairwise_append.1 h1).2.1).1 x ?_
      rw [List.mem_iff_getElem?]
      exact ⟨0, by rw [List.getElem?_drop]; exact hx⟩
     have HQ := Lib.hid (And.intro hg (And.intro hlvl (And.intro hcs (And.intro hss (And.intro hcl (And.intro hsl (And.intro hnx (And.intro hK hts.1))))))))
     have kI : (k : Int) < (m : Int) := by omega
     have k0 : (0 : Int) <= k := by omega
     clear hrd hz hzm hg hlvl hts hcs hss hcl hsl hnx hK hla v0 v20 hh
     go_wp2_with fail
     refine HG.out.mono ?_
     rintro r w7 ⟨hK7, (⟨h1, _⟩ | ⟨g', ak, ck, av, cv, h1, rfl, h3⟩)⟩
     ·rw [HQ.out.1] at h1; cases h1
     rw [HQ.out.1] at h1
     obtain rfl := Option.some.inj h1
     clear h1 HG
     simp only [Nd.val]
     obtain ⟨nk, hnk⟩ : ∃ n, g.n.keys.length = n := ⟨_, rfl⟩
     obtain ⟨nv, hnv⟩ : ∃ n, g.n.vals.length = n := ⟨_, rfl⟩
     rw [hnk, hnv] at h3 ⊢
     rw [HQ.out.2.1]
     generalize g.n.keys = gks at *
     generalize g.n.vals = gvs at *
     have h4 := h3.alloc (.cells #[.int .i64 (lvl : Int), .slice ak nk ck, .slice av nv cv] 35)
     have HK7 := Lib.hid ((HQ.out.2.2.2.2.2.2.2.1.trans hK7).alloc (.cells #[.int .i64 (lvl : Int), .slice ak nk ck, .slice av nv cv] 35))
     have h5 : Has (w7.alloc (.cells #[.int .i64 (lvl : Int), .slice ak nk ck, .slice av nv cv] 35)) (levS b8 (cntLv Q (Y.take k)) :: seenS (.slice (some ⟨g3, 0, none⟩) 32768 32768) (seenTo Z (Y.take k)) :: intsS (.slice (some ⟨gy, 0, none⟩) m yc) Y :: treesT t sp p (ts.map (·.a)) vs :: btS p bank sp N es Q :: pts w7.heap.size (.cells #[.int .i64 (lvl : Int), .slice ak nk ck, .slice av nv cv] 35 (0, 0)) :: intsS (.slice ak nk ck) gks :: intsS (.slice av nv cv) gvs :: (rs.map kvR ++ l)) := h4.reord [5, 4, 4, 4, 3]
     obtain ⟨cl, hclv⟩ : ∃ cl, cntLv Q (Y.take k) lvl = cl := ⟨_, rfl⟩
     have hcl1 : cl + 1 <= vn := by
      have h6 := HQ.out.2.2.2.2.1
      rw [HQ.out.2.2.1] at h6
      simp only [if_true] at h6
      omega
     have lv1 := (h5.lev_read (b := b8) (c := cntLv Q (Y.take k)) (.head _) hlv21)
     rw [hclv] at lv1
     obtain ⟨lv1, lv2⟩ := lv1
     have hset := h5.lev_set hlv21
     rw [hclv, show ((cl + 1 : Nat) : Int) = (cl : Int) + 1 by omega] at hset
     have HS1 := Lib.hid hset
     have n0 : (w7.alloc (.cells #[.int .i64 (lvl : Int), .slice ak nk ck, .slice av nv cv] 35)).cell? ⟨w7.heap.size, 0, none⟩ = some (.int .i64 (lvl : Int)) := cell_of (h5.at (b := w7.heap.size) (o := (.cells #[.int .i64 (lvl : Int), .slice ak nk ck, .slice av nv cv] 35 (0, 0))) (by simp)) 0 rfl
     have lvI1 : (lvl : Int) < 21 := by omega
     have lvI0 : (0 : Int) <= (lvl : Int) := by omega
     have lvI2 : ¬ (20 : Int) < (lvl : Int) := by omega
     have hwc : IntKind.i64.wrap ((cl : Int) + 1) = (cl : Int) + 1 := IntWalk.i64_in _ (by have := HR.out.2.2.2.2.1; have := HR.out.2.2.2.1; omega)
     have Hcl := Lib.hid (And.intro hclv hcl1)
     have l8 := World.block_lt_of_cell? _ _ lv1
     have l11 := World.block_lt_of_cell? _ _ n0
     have hzl2 : ¬ (zn : Int) <= la := by omega
     clear h3 h4 h5 hset hclv hcl1 hK7 hnk hnv t1 lt1 cz lz
     go_upto_region 14 with fail
     generalize w7.alloc (.cells #[.int .i64 (lvl : Int), .slice ak nk ck, .slice av nv cv] 35) = W7 at *
     generalize w7.heap.size = b11 at *
     have hd1 : decide ((zn : Int) <= la) = false := by simp; omega
     have hd2 : decide ((lvl : Int) < 0) = false := by simp
     have hd3 : decide ((20 : Int) < (lvl : Int)) = false := by simp; omega
     have HK8 : Hid (Kept w (W7.setCell ⟨b8, lvl, none⟩ (.int .i64 ((cl : Int) + 1)))) := HK7.out.setCell _ _
     clear HK7 hmq hlb
     go_upto_region 18 with fail
     generalize W7.setCell ⟨b8, lvl, none⟩ (.int .i64 ((cl : Int) + 1)) = V at *
     have hv := HS1.out
     have m0 : V.cell? ⟨b11, 0, none⟩ = some (.int .i64 (lvl : Int)) := cell_of (hv.at (b := b11) (o := (.cells #[.int .i64 (lvl : Int), .slice ak nk ck, .slice av nv cv] 35 (0, 0))) (by simp)) 0 rfl
     have m1 : V.cell? ⟨b8, lvl, none⟩ = some (.int .i64 ((cl : Int) + 1)) := by
      have h9 := (hv.lev_read (.head _) hlv21).1
      simp only [if_true] at h9
      rw [show ((cl + 1 : Nat) : Int) = (cl : Int) + 1 by omega] at h9
      exact h9
     have m2 : V.cell? ⟨t, 6 + i, none⟩ = some (.slice vq vn vc) := cell_of (hv.at (b := t) (o := (.cells (treesC sp p (ts.map (·.a)) vs) 70 (0, 0))) (by simp [treesT])) _ (treesC_list HX.out.2.2.2.2.2.1 HR.out.2.1)
     have e0 := World.block_lt_of_cell? _ _ m0
     have e1 := World.block_lt_of_cell? _ _ m1
     have e2 := World.block_lt_of_cell? _ _ m2
     have hgt : decide ((vn : Int) < (cl : Int) + 1) = false := by have := Hcl.out.2; simp; omega
     have hgt2 : ¬ (vn : Int) < (cl : Int) + 1 := by have := Hcl.out.2; omega
     have HKV : Hid (Kept w V) := HK8.out
     clear hv lv1 lv2 n0 l8 l11 hd1 hd2 hd3 hwc
     go_quiet (fail)
     have HS2 := Lib.hid (HS1.out.drewN nq)
     have HK9 := Lib.hid (HKV.out.drewN nq)
     generalize V.drewN nq = V2 at *
     clear HS1 m0 m1 m2 e0 e1 e2 hgt hgt2 HKV HK8
     obtain ⟨_, ev, hsn⟩ := HS2.out.seen_read (v := .slice (some ⟨g3, 0, none⟩) 32768 32768) (Z := seenTo Z (Y.take k)) (by simp)
     injection ev with ev
     injection ev with ev
     injection ev with ev
     subst ev
     have hzn : zn < 32768 := by omega
     have s0 := hsn zn hzn
     have s1 := HS2.out.seen_thaw (g := g3) (Z := seenTo Z (Y.take k)) (by simp) zn
     have e3 := World.block_lt_of_cell? _ _ s0
     have hsw := Has.seen_set HS2.out.swap hzn
     have HSw := Lib.hid hsw
     have znI : (zn : Int) < 32768 := by omega
     have zn0 : (0 : Int) <= (zn : Int) := by omega
     have hsl : ((seenTo Z (Y.take k)).length : Int) <= 100000 := by have := HQ.out.2.2.2.2.2.1; omega
     clear hsn hsw HS2
     by_cases hin : (zn : Int) ∈ seenTo Z (Y.take k)
     ·skip
      rw [decide_eq_true hin] at s0
      have HN1 : Hid (HtN w t sp p bank N b8 es Q ts vs rs l (.slice (some ⟨g3, 0, none⟩) 32768 32768) (.slice (some ⟨gy, 0, none⟩) m yc) Z Y (k + 1) ((seenTo Z (Y.take k)).length : Int) (zn : Int) (V2.setCell ⟨g3, zn, none⟩ (.bool true))) := by
       obtain ⟨q1, q2, q3, q4, q5, q6, q7, q8, q9⟩ := HQ.out
       refine ⟨by rw [q4, if_pos hin], q7, by omega, HK9.out.setCell _ _, ?_⟩
       rw [q4, if_pos hin, q3, Hcl.out.1]
       exact Has.skip (A := [_, _, _, _, _]) (M := [_, _, _]) ((Has.seen_dup HSw.out hin))
      clear hin HSw HQ Hcl HK9
      go_wp2
      go_roundg (m - (k + 1))
      case measure => omega
      case rel => exact ⟨k + 1, _, _, by omega, rfl, rfl, rfl, by go_num, HN1⟩
     ·skip
      rw [decide_eq_false hin] at s0
      have HN1 : Hid (HtN w t sp p bank N b8 es Q ts vs rs l (.slice (some ⟨g3, 0, none⟩) 32768 32768) (.slice (some ⟨gy, 0, none⟩) m yc) Z Y (k + 1) (((seenTo Z (Y.take k)).length : Int) + 1) (zn : Int) (V2.setCell ⟨g3, zn, none⟩ (.bool true))) := by
       obtain ⟨q1, q2, q3, q4, q5, q6, q7, q8, q9⟩ := HQ.out
       refine ⟨by rw [q4, if_neg hin, List.length_cons]; omega, q7, by omega, HK9.out.setCell _ _, ?_⟩
       rw [q4, if_neg hin, q3, Hcl.out.1]
       exact Has.skip (A := [_, _, _, _, _]) (M := [_, _, _]) HSw.out
      have hw9 : IntKind.i64.wrap (((seenTo Z (Y.take k)).length : Int) + 1) = ((seenTo Z (Y.take k)).length : Int) + 1 := IntWalk.i64_in _ (by omega)
      clear hin HSw HQ Hcl HK9
      generalize (seenTo Z (Y.take k)).length = sl at *
      go_wp2
      go_roundg (m - (k + 1))
      case measure => omega
      case rel => exact ⟨k + 1, _, _, by omega, rfl, rfl, rfl, by go_num, HN1⟩
    ·skip
     have hke : k = m := by omega
     have htk : Y.take k = Y := List.take_of_length_le (by rw [HY.out.2.2.1]; omega)
     rw [htk] at hh ⊢
     have HM1 : Hid (HtM w t sp p bank N es Q ts vs rs l (.slice (some ⟨g3, 0, none⟩) 32768 32768) (i + 1) ((seenTo Z Y).length : Int) wr) := by
      obtain ⟨z1, z2, z3, z4⟩ := HZ.out
      have hz2 := seenTo_two Y Z z2
      refine ⟨seenTo Z Y, rfl, ?_, hz2, fun x => ?_, hK, Has.skip (A := [_]) (M := [_, _]) hh⟩
      ·have h1 := List.Nodup.length_le_of_subset hz2 (l₂ := Q.map (·.1)) fun x hx => by
        have hs : (VMap.get x Q).isSome = true := by
         rcases (seenTo_mem _ _ _).1 hx with h | h
         ·obtain ⟨_, _, _, _, hr⟩ := (z3 x).1 h
          exact hr.some
         ·exact ((HY.out.2.1 x).1 h).some
        obtain ⟨g, hg⟩ := Option.isSome_iff_exists.1 hs
        exact List.mem_map.2 ⟨(x, g), get_mem hg, rfl⟩
       rw [List.length_map] at h1
       have := HX.out.2.2.2.2.1
       omega
      ·rw [seenTo_mem, z3, HY.out.2.1]
       constructor
       ·rintro (⟨j, u', hj, hu', hr⟩ | hr)
        ·exact ⟨j, u', by omega, hu', hr⟩
        ·exact ⟨i, u, by omega, HR.out.2.2.2.2.2, by rw [Ha.out]; exact hr⟩
       ·rintro ⟨j, u', hj, hu', hr⟩
        by_cases e : j = i
        ·subst e
         rw [HR.out.2.2.2.2.2] at hu'
         obtain rfl := Option.some.inj hu'
         exact .inr (by rw [<- Ha.out]; exact hr)
        ·exact .inl ⟨j, u', by omega, hu', hr⟩
     clear hla hlb hK hh htk HY HZ HR HLv
     generalize (seenTo Z Y).length = sl at *
     subst hke
     go_wp2
     go_roundg (4 - (i + 1))
     case measure => omega
     case rel => exact ⟨i + 1, _, by omega, rfl, rfl, by go_num, HM1⟩
  ·skip
   have hie : i = 4 := by omega
   subst hie
   have hzq : Z.length = Q.length := by
    obtain ⟨htab, hT, h4, hb, hql, hml, hI⟩ := HX.out
    have h1 := List.Nodup.length_le_of_subset hZn (l₂ := Q.map (·.1)) fun x hx => by
     obtain ⟨_, _, _, _, hr⟩ := (hZi x).1 hx
     obtain ⟨g, hg⟩ := Option.isSome_iff_exists.1 hr.some
     exact List.mem_map.2 ⟨(x, g), get_mem hg, rfl⟩
    rw [List.length_map] at h1
    have h2 := len_in hI.up (hT.live.all hI (Z := Z) (fun x g hg hp => by
     obtain ⟨u, hu, rfl⟩ := hT.who hg hp
     obtain ⟨j, hj⟩ := List.mem_iff_getElem?.1 hu
     have hj4 := (List.getElem?_eq_some_iff.1 hj).1
     rw [h4.four] at hj4
     exact (hZi _).2 ⟨j, u, hj4, hj, .here (by rw [hg]; rfl)⟩) fun b hb2 g hg c hc => by
     obtain ⟨j, u, hj, hu, hr⟩ := (hZi b).1 hb2
     obtain ⟨gc, hgc, _⟩ := hI.kid _ _ hg _ hc
     exact (hZi c).2 ⟨j, u, hj, hu, hr.snoc hg hc (by rw [hgc]; rfl)⟩)
    omega
   have t1 : wr.cell? ⟨t, 1, none⟩ = some (.pointer (some ⟨p, 0, none⟩)) := cell_of (hh.at (b := t) (o := (.cells (treesC sp p (ts.map (·.a)) vs) 70 (0, 0))) (by simp [treesT])) 1 rfl
   have lt1 := World.block_lt_of_cell? _ _ t1
   have HPg := Lib.hid (bt_Pages (hh.pull 2) (by have := HX.out.2.2.2.2.1; omega))
   have HK := Lib.hid hK
   have Hzq := Lib.hid hzq
   clear hzq hZl hZn hZi hK hh hlt
   go_wp2_with fail
   refine HPg.out.mono ?_
   rintro r w6 ⟨pv, rfl, hK6, h6⟩
   obtain ⟨pq, pc, rfl, _, _⟩ := h6.ints_read (v := pv) (xs := Q.map (·.1)) (.head _)
   rw [List.length_map] at h6 ⊢
   rw [<- Hzq.out]
   have HF : Hid (HtPost t sp p bank N es Q ts vs rs l w (.returned (.bool true)) w6) := ⟨rfl, HK.out.trans hK6, Has.skip (A := [_, _]) (M := [_]) (h6.tail.reord [2, 0])⟩
   clear hK6 h6 HPg HK Hzq HX HU HU2 t1 lt1
   generalize Z.length = zl at *
   go_wp2
   go_ret
   exact HF.out
end Go.Proofs.YtgbgneiciabidaaGreatDoor
