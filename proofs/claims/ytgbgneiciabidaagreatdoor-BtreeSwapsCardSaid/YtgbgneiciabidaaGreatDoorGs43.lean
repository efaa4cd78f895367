/-
  The document's answer of layer 12 (portageref12): Swapped.
-/
import Derived.Test.YtgbgneiciabidaaGreatDoorGs40
import Derived.Test.YtgbgneiciabidaaGreatDoorGs42
import Derived.Test.YtgbgneiciabidaaGreatDoorGs41
namespace Go.Proofs.YtgbgneiciabidaaGreatDoor
open Go Go.RowKit
set_option linter.all false
set_option maxHeartbeats 8000000
structure Vals (V : List (Int × Int)) (F T : List Int) : Prop where
 at_ : ∀ (k : Nat) (f : Int), F[k]? = some f -> ∃ t, T[k]? = some t /\ VMap.get f V = some t
 dom : ∀ x, (VMap.get x V).isSome = true -> x ∈ F
def swTo (V : List (Int × Int)) (F : List Int) (x : Int) (k : Nat) : Int := if x ∈ F.take k then swV V x else x
theorem swTo_all {V : List (Int × Int)} {F T : List Int} (h : Vals V F T) (x : Int) {k : Nat} (hk : F.length <= k) : swTo V F x k = swV V x := by
 unfold swTo
 rw [List.take_of_length_le hk]
 split
 ·rfl
 ·rename_i h1
  cases hg : VMap.get x V with
  | none => exact (swV_none hg).symm
  | some y => exact absurd (h.dom x (by rw [hg]; rfl)) h1
theorem swTo_hit {V : List (Int × Int)} {F T : List Int} (h : Vals V F T) {x : Int} {k : Nat} (hk : F[k]? = some x) : ∃ t, T[k]? = some t /\ swTo V F x (k + 1) = t := by
 obtain ⟨t, ht, hg⟩ := h.at_ k x hk
 refine ⟨t, ht, ?_⟩
 unfold swTo
 have hm : x ∈ F.take (k + 1) := by
  obtain ⟨hlt, rfl⟩ := List.getElem?_eq_some_iff.1 hk
  rw [List.take_succ_eq_append_getElem hlt]
  exact List.mem_append_right _ (.head _)
 rw [if_pos hm, swV_some hg]
theorem swTo_miss {V : List (Int × Int)} {F : List Int} {x f : Int} {k : Nat} (hk : F[k]? = some f) (hne : f ≠ x) : swTo V F x (k + 1) = swTo V F x k := by
 unfold swTo
 obtain ⟨hlt, rfl⟩ := List.getElem?_eq_some_iff.1 hk
 rw [List.take_succ_eq_append_getElem hlt]
 have : (x ∈ F.take k ++ [F[k]]) ↔ x ∈ F.take k := by
  rw [List.mem_append, List.mem_singleton]
  exact ⟨fun h => h.elim id fun e => absurd e.symm hne, .inl⟩
 by_cases h : x ∈ F.take k
 ·rw [if_pos h, if_pos (this.2 h)]
 ·rw [if_neg h, if_neg fun e => h (this.1 e)]
theorem swL_snoc (V : List (Int × Int)) (A : List KV) (x : KV) : swL V (A ++ [x]) = swL V A ++ [(x.1, swV V x.2)] := by
 unfold swL
 rw [List.map_append]
 rfl
def SwdM (w : World) (l : List Say) (L : List KV) (V : List (Int × Int)) (k : Nat) (ov : Value) (wr : World) : Prop := Kept w wr /\ Has wr (kvS ov (swL V (L.take k)) :: l)
set_option maxRecDepth 100000 in
theorem ref_Swapped {w : World} {l : List Say} {v fv tv : Value} {L : List KV} {V : List (Int × Int)} {F T : List Int} (h : Has w l) (hm : kvS v L ∈ l) (hF : Srcs l fv F) (hT : Srcs l tv T) (hV : Vals V F T) (hl : L.length <= 100000) (hf : F.length <= 1000) :
  Calls Tryz.prog 65 #[v, fv, tv] w (KvPost (swL V L) l w) := by
 obtain ⟨a, c, rfl, _⟩ := h.kv_read hm
 obtain ⟨fa, fc, rfl, _⟩ := (hF w h).rd
 obtain ⟨ta, tc, rfl, _⟩ := (hT w h).rd
 obtain ⟨n, hn⟩ : ∃ n, L.length = n := ⟨_, rfl⟩
 obtain ⟨nf, hnf⟩ : ∃ n, F.length = n := ⟨_, rfl⟩
 obtain ⟨nt, hnt⟩ : ∃ n, T.length = n := ⟨_, rfl⟩
 rw [hn] at hm hl ⊢
 rw [hnf] at hF hf ⊢
 rw [hnt] at hT ⊢
 have HM0 : Hid (SwdM w l L V 0 (.slice none 0 0) w) := ⟨Kept.refl w, h.row_nil _ _⟩
 have Hm := Lib.hid (And.intro hm (And.intro hn (And.intro hnf (And.intro hnt (And.intro hF (And.intro hT hV))))))
 clear h hm hn hF hT hV hnf hnt
 go_enter Tryz.func65, Tryz.ntmps65
 go_wp2
 go_loopg [7, 8] n (fun gk ov i wr => ∃ k : Nat, k <= n /\ gk = n - k /\ i = .int .i64 k /\ Hid (SwdM w l L V k ov wr))
 case atStart => exact ⟨0, Nat.zero_le _, rfl, rfl, HM0⟩
 case round =>
  clear HM0
  obtain ⟨k, hk, rfl, rfl, HM⟩ := hrel
  obtain ⟨hK, hh⟩ := HM.out
  clear HM
  obtain ⟨oa, oc, rfl, _⟩ := hh.kv_read (L := swL V (L.take k)) (.head _)
  by_cases hlt : k < n
  ·skip
   obtain ⟨b1, c1, e1, r1⟩ := hh.kv_read (.tail _ Hm.out.1)
   injection e1 with e1 e2 e3
   subst e1
   clear e2 e3
   obtain ⟨x, hx⟩ : ∃ x, L[k]? = some x := ⟨_, List.getElem?_eq_getElem (by have := Hm.out.2.1; omega)⟩
   obtain ⟨g, rfl, x0, x1⟩ := r1 k x hx
   have hsn := swL_snoc V (L.take k) x
   rw [<- (take_succ hx).1] at hsn
   obtain ⟨xk, xv⟩ := x
   simp only at x0 x1 hsn
   have lx := World.block_lt_of_cell? _ _ x0
   have kI : (k : Int) < (n : Int) := by omega
   have k0 : (0 : Int) <= k := by omega
   obtain ⟨on, hon⟩ : ∃ on, (swL V (L.take k)).length = on := ⟨_, rfl⟩
   have hol : on <= k := by rw [<- hon]; unfold swL; rw [List.length_map, List.length_take]; omega
   have Hon := Lib.hid (And.intro hon (And.intro hol hl))
   rw [hon] at hh ⊢
   have Hsn := Lib.hid hsn
   have Hx := Lib.hid hx
   have HI0 : Hid (Kept w wr /\ Has wr (kvS (.slice oa on oc) (swL V (L.take k)) :: l)) := ⟨hK, hh⟩
   clear hK hh r1 hx hsn hon hol
   go_wp2
   go_loopg [9, 10] nf (fun gk vv i wr => ∃ j : Nat, j <= nf /\ gk = nf - j /\ i = .int .i64 j /\ vv = .int .i64 (swTo V F xv j) /\ Hid (Kept w wr /\ Has wr (kvS (.slice oa on oc) (swL V (L.take k)) :: l)))
   case atStart => exact ⟨0, Nat.zero_le _, rfl, rfl, by unfold swTo; rw [if_neg (by simp)], HI0⟩
   case round =>
    clear HI0 x0 x1 lx
    obtain ⟨j, hj, rfl, rfl, rfl, HI⟩ := hrel
    obtain ⟨hK, hh⟩ := HI.out
    clear HI
    obtain ⟨_, _, e1, r1⟩ := hh.kv_read (.tail _ Hm.out.1)
    injection e1 with e1 e2 e3
    obtain ⟨g', hg', x0, x1⟩ := r1 k _ Hx.out
    rw [<- e1] at hg'
    injection hg' with hg'
    injection hg' with hg'
    subst hg'
    simp only at x0 x1
    have lx := World.block_lt_of_cell? _ _ x0
    clear r1 e1 e2 e3
    by_cases hlt2 : j < nf
    ·skip
     obtain ⟨f, hf'⟩ : ∃ f, F[j]? = some f := ⟨_, List.getElem?_eq_getElem (by have := Hm.out.2.2.1; omega)⟩
     obtain ⟨_, _, e1, hrd⟩ := (Hm.out.2.2.2.2.1 wr hh.tail).rd
     injection e1 with e1 e2 e3
     subst e1
     obtain ⟨gf, go, rfl, cf⟩ := hrd j (by have := Hm.out.2.2.1; omega)
     have hfx : F[j]'(by have := Hm.out.2.2.1; omega) = f := (List.getElem?_eq_some_iff.1 hf').2
     rw [hfx] at cf
     have lf := World.block_lt_of_cell? _ _ cf
     have jI : (j : Int) < (nf : Int) := by omega
     have j0 : (0 : Int) <= j := by omega
     have HH := Lib.hid (And.intro hK hh)
     by_cases he : f = xv
     ·skip
      have heb : (f == xv) = true := by simpa using he
      obtain ⟨t, ht, hst⟩ := swTo_hit Hm.out.2.2.2.2.2.2 (he ▸ hf')
      obtain ⟨_, _, e4, hrd2⟩ := (Hm.out.2.2.2.2.2.1 wr hh.tail).rd
      injection e4 with e4 e5 e6
      subst e4
      have hjt : j < T.length := (List.getElem?_eq_some_iff.1 ht).1
      obtain ⟨gt, gto, rfl, ct⟩ := hrd2 j hjt
      have htx : T[j] = t := (List.getElem?_eq_some_iff.1 ht).2
      rw [htx] at ct
      have jT : (j : Int) < (nt : Int) := by have := Hm.out.2.2.2.1; omega
      have lt := World.block_lt_of_cell? _ _ ct
      have Hst := Lib.hid hst
      clear hK hh hrd hrd2 hf' hfx ht hst htx hjt e2 e3 e5 e6
      subst he
      go_upto_region 9 with fail
      go_quiet (fail)
      go_wp2
      go_roundg (nf - (j + 1))
      case measure => omega
      case rel => exact ⟨j + 1, by omega, rfl, by go_num, by rw [Hst.out], ⟨HH.out.1.drewN nq, HH.out.2.drewN nq⟩⟩
     ·skip
      have heb : (f == xv) = false := by simpa using he
      have hst := swTo_miss (V := V) hf' he
      have Hst := Lib.hid hst
      clear hK hh hrd hf' hfx hst e2 e3 he
      go_upto_region 9 with fail
      go_quiet (fail)
      go_wp2
      go_roundg (nf - (j + 1))
      case measure => omega
      case rel => exact ⟨j + 1, by omega, rfl, by go_num, by rw [Hst.out], ⟨HH.out.1.drewN nq, HH.out.2.drewN nq⟩⟩
    ·skip
     have hst := swTo_all Hm.out.2.2.2.2.2.2 xv (k := j) (by have := Hm.out.2.2.1; omega)
     rw [hst]
     obtain ⟨yv, hyv⟩ : ∃ yv, swV V xv = yv := ⟨_, rfl⟩
     rw [hyv]
     have hA := hh.alloc (.cells #[.int .i64 xk, .int .i64 yv] 190)
     have HA := Lib.hid hA.swap
     have HK := Lib.hid (hK.alloc (.cells #[.int .i64 xk, .int .i64 yv] 190))
     have hsn2 := Hsn.out
     rw [hyv] at hsn2
     have Hsn2 := Lib.hid hsn2
     clear hK hh hst hyv hA hsn2 Hsn
     go_upto_region 4 with (at_builtin; refine wpList_append_kv rfl (.tmp 42) (.tmp 50) rfl rfl rfl HA.out (.head _) (by have := Hon.out; omega) ?_; intro v2 w2 hK2 h2)
     have HM2 : Hid (SwdM w l L V (k + 1) v2 w2) := ⟨HK.out.trans hK2, by rw [Hsn2.out]; exact Has.skip (A := [_]) (M := [_]) h2⟩
     clear hK2 h2 HA HK Hsn2 x0 x1
     go_wp2
     go_roundg (n - (k + 1))
     case measure => omega
     case rel => exact ⟨k + 1, by omega, rfl, by go_num, HM2⟩
  ·skip
   have hke : k = n := by omega
   rw [List.take_of_length_le (by have := Hm.out.2.1; omega)] at hh ⊢
   obtain ⟨on, hon⟩ : ∃ on, (swL V L).length = on := ⟨_, rfl⟩
   rw [hon] at hh ⊢
   have HF : Hid (KvPost (swL V L) l w (.returned (.slice oa on oc)) wr) := ⟨_, rfl, hK, hh⟩
   clear hK hh hon
   subst hke
   go_wp2
   go_ret
   exact HF.out
end Go.Proofs.YtgbgneiciabidaaGreatDoor
/-
  BtreeSwaps, plain: the trees ahead of the swaps, the room, the values.
-/
namespace Go.Proofs.YtgbgneiciabidaaGreatDoor
open Go Go.RowKit Go.ChangeMaps Go.Maps
open Go.WideElems (Fit rd rg pl)
set_option linter.all false
set_option maxHeartbeats 8000000
theorem StepTo.grow1 {kd tr key val : Int} {ts ts' : List Tre} {B : Nat} (h : StepTo kd tr key val ts ts') (hb : ∀ u ∈ ts, u.s <= B + 1 /\ u.L.length <= B) : ∀ u ∈ ts', u.s <= B + 1 + 1 /\ u.L.length <= B + 1 := by
 obtain ⟨t, ht, h⟩ := h
 have htm := hb t (List.mem_of_getElem? ht)
 have hset : ∀ x : Tre, x.s <= B + 1 + 1 /\ x.L.length <= B + 1 -> ∀ u ∈ ts.set (mod4 tr) x, u.s <= B + 1 + 1 /\ u.L.length <= B + 1 := fun x hx u hu => by
  rcases List.mem_or_eq_of_mem_set hu with hu | rfl
  ·have := hb u hu; omega
  ·exact hx
 have hput : (putL t.L key val).length <= t.L.length + 1 := by
  have h1 : ∀ L : List KV, (L.filter fun p => decide (p.1 < key)).length + (L.filter fun p => decide (key < p.1)).length <= L.length := by
   intro L
   induction L with
   | nil => exact Nat.le_refl _
   | cons p L ih =>
    rw [List.filter_cons, List.filter_cons, List.length_cons]
    split <;> split
    ·rename_i a b
     simp only [decide_eq_true_eq] at a b
     omega
    all_goals (try simp only [List.length_cons]); omega
  unfold putL
  rw [List.length_append, List.length_cons]
  exact Nat.succ_le_succ (h1 t.L)
 rcases h with ⟨_, _, ta, s', hs, rfl⟩ | ⟨_, _, ta, s', hs, rfl⟩ | ⟨_, u, hu, rfl⟩ | ⟨_, rfl⟩ | ⟨_, rfl⟩
 ·refine hset _ ⟨?_, ?_⟩
  ·show s' <= _; omega
  ·show (putL t.L key val).length <= _; omega
 ·refine hset _ ⟨?_, ?_⟩
  ·show s' <= _; omega
  ·have : (delL t.L key).length <= t.L.length := by unfold delL; exact List.length_filter_le _ _
   show (delL t.L key).length <= _; omega
 ·have := hb u (List.mem_of_getElem? hu)
  exact hset _ ⟨by omega, by omega⟩
 ·exact hset _ ⟨Nat.zero_le _, Nat.zero_le _⟩
 ·intro u hu
  have := hb u hu
  omega
theorem full_pair {es : List Ent} {Q : Pgs} {a b m : Nat} (hab : a < b) (hm : m <= 4096) (h2 : 2 <= m) (h : FullQ es Q) (h0 : es[a]? = some ⟨1, m⟩) (h1 : es[b]? = some ⟨1, m⟩) : 2 * (m - 2) <= Q.length := by
 have hup : VMap.Up ((List.range (2 * (m - 2))).map fun i => ((if i < m - 2 then lenV a (i + 2) else lenV b (i - (m - 2) + 2)), (⟨⟨0, [], []⟩, 0, 0⟩ : Pg))) := by
  refine List.pairwise_map.2 (List.Pairwise.imp_of_mem (R := fun a b => a < b) ?_ List.pairwise_lt_range)
  intro i j hi hj hij
  have hj := List.mem_range.1 hj
  show (if i < m - 2 then lenV a (i + 2) else lenV b (i - (m - 2) + 2)) < (if j < m - 2 then lenV a (j + 2) else lenV b (j - (m - 2) + 2))
  unfold lenV
  have : a * 4096 + 4096 <= b * 4096 := by omega
  split <;> split <;> omega
 have := len_in hup (Z := Q.map (·.1)) fun x g hg => by
  obtain ⟨i, hi, e⟩ := List.mem_map.1 (get_mem hg)
  injection e with e _
  have hi := List.mem_range.1 hi
  have h2 : (VMap.get x Q).isSome = true := by
   rw [<- e]
   split
   ·exact h a ⟨1, m⟩ h0 rfl (i + 2) (by omega) (by show i + 2 < m; omega)
   ·exact h b ⟨1, m⟩ h1 rfl (i - (m - 2) + 2) (by omega) (by show i - (m - 2) + 2 < m; omega)
  obtain ⟨g', hg'⟩ := Option.isSome_iff_exists.1 h2
  exact List.mem_map.2 ⟨(x, g'), get_mem hg', rfl⟩
 rw [List.length_map, List.length_map, List.length_range] at this
 exact this
def es3 : List Ent := eSizes [200, 200, 200]
def esD (d : Nat) : List Ent := es3.set d ⟨2, 200⟩
theorem es3_eq : es3 = [⟨1, 200⟩, ⟨1, 200⟩, ⟨1, 200⟩] := rfl
theorem esD_facts {d : Nat} (h : d <= 2) : OkEnts es3 /\ OkEnts (esD d) /\ Like es3 (esD d) /\ 0 < (actives (esD d)).length /\ es3[d]? = some ⟨1, 200⟩ /\
  (∀ (i : Nat) (e : Ent), (esD d)[i]? = some e -> e.st = 1 -> i ≠ d) /\ ∃ a b : Nat, a < b /\ (esD d)[a]? = some ⟨1, 200⟩ /\ (esD d)[b]? = some ⟨1, 200⟩ := by
 have ok3 : OkEnts es3 := ⟨by decide, fun e he => by
  rw [es3_eq] at he
  have : e = ⟨1, 200⟩ := by simpa using he
  subst this
  exact ⟨by decide, .inl ⟨.inl rfl, by decide⟩⟩⟩
 have okD : OkEnts (esD d) := ⟨by rw [esD, List.length_set]; decide, fun e he => by
  rcases List.mem_or_eq_of_mem_set he with he | rfl
  ·exact ok3.ok e he
  ·exact ⟨by decide, .inl ⟨.inr rfl, by decide⟩⟩⟩
 refine ⟨ok3, okD, ⟨by rw [esD, List.length_set], fun k e e' h1 h2 => ?_⟩, ?_, ?_, fun i e h1 h2 => ?_, ?_⟩
 ·have he : e = ⟨1, 200⟩ := by
   have := List.mem_of_getElem? h1
   rw [es3_eq] at this
   simpa using this
  have he' : e' = ⟨1, 200⟩ \/ e' = ⟨2, 200⟩ := by
   rcases List.mem_or_eq_of_mem_set (List.mem_of_getElem? h2) with h3 | rfl
   ·rw [es3_eq] at h3
    exact .inl (by simpa using h3)
   ·exact .inr rfl
  subst he
  rcases he' with rfl | rfl
  ·exact ⟨rfl, by decide, by decide⟩
  ·exact ⟨rfl, by decide, by decide⟩
 ·match d, h with
  | 0, _ => decide
  | 1, _ => decide
  | 2, _ => decide
 ·match d, h with
  | 0, _ => rfl
  | 1, _ => rfl
  | 2, _ => rfl
 ·rintro rfl
  have h3 : (esD i)[i]? = some ⟨2, 200⟩ := by
   unfold esD
   rw [List.getElem?_set_self (by rw [es3_eq]; simp; omega)]
  rw [h3] at h1
  obtain rfl := Option.some.inj h1
  exact absurd h2 (by decide)
 ·match d, h with
  | 0, _ => exact ⟨1, 2, by decide, rfl, rfl⟩
  | 1, _ => exact ⟨0, 2, by decide, rfl, rfl⟩
  | 2, _ => exact ⟨0, 1, by decide, rfl, rfl⟩
def ScW (w : World) (l : List Say) (t sp p bank : Nat) (es : List Ent) (k : Nat) (wr : World) : Prop :=
 ∃ (Q : Pgs) (ts : List Tre) (vs : List Value) (rs : List (Value × List KV)), Grove Q ts /\ Rows4 ts vs rs /\ (∀ u ∈ ts, u.s <= k + 1 /\ u.L.length <= k) /\ Kept w wr /\ Has wr (treesT t sp p (ts.map (·.a)) vs :: btS p bank sp (100 * k) es Q :: (rs.map kvR ++ l))
theorem ScW.start {w wr : World} {l : List Say} {t sp p bank : Nat} {es : List Ent} (hK : Kept w wr) (h : Has wr (treesS t sp p :: btS p bank sp 0 es [] :: l)) : ScW w l t sp p bank es 0 wr := by
 refine ⟨[], [noTre, noTre, noTre, noTre], [.slice none 0 0, .slice none 0 0, .slice none 0 0, .slice none 0 0], [(.slice none 0 0, [])], Grove.nil.more.more.more.more, ⟨rfl, rfl, fun i t v h1 h2 => ?_⟩, fun u hu => ?_, hK, ?_⟩
 ·have e1 : t = noTre := by
   have := List.mem_of_getElem? h1
   simpa using this
  have e2 : v = .slice none 0 0 := by
   have := List.mem_of_getElem? h2
   simpa using this
  rw [e1, e2]
  exact .head _
 ·have e1 : u = noTre := by simpa using hu
  rw [e1]
  exact ⟨Nat.zero_le _, Nat.zero_le _⟩
 ·have h2 : Has wr (kvS (.slice none 0 0) [] :: treesS t sp p :: btS p bank sp 0 es [] :: l) := h.row_nil _ _
  exact h2.reord [1, 1]
theorem ScW.hasl {w wr : World} {l : List Say} {t sp p bank k : Nat} {es : List Ent} (h : ScW w l t sp p bank es k wr) : Has wr l := by
 obtain ⟨Q, ts, vs, rs, hT, h4, hb, hK, hh⟩ := h
 exact Has.right (m := rs.map kvR) hh.tail.tail
theorem ScW.boxed {w wr : World} {l : List Say} {t sp p bank k : Nat} {es : List Ent} (h : ScW w l t sp p bank es k wr) (c : Array Value) (e : TypeId) : ScW w (pts wr.heap.size (.cells c e (0, 0)) :: l) t sp p bank es k (wr.alloc (.cells c e)) := by
 obtain ⟨Q, ts, vs, rs, hT, h4, hb, hK, hh⟩ := h
 refine ⟨Q, ts, vs, rs, hT, h4, hb, hK.alloc _, ?_⟩
 have h1 := hh.alloc (.cells c e)
 have h2 := h1.reord [1, 1]
 refine h2.perm (((List.perm_middle (a := pts wr.heap.size (.cells c e (0, 0))) (l₁ := rs.map kvR) (l₂ := l)).symm.cons _).cons _)
theorem ScW.unbox {w wr : World} {l : List Say} {A : Say} {t sp p bank k : Nat} {es : List Ent} (h : ScW w (A :: l) t sp p bank es k wr) : ScW w l t sp p bank es k wr := by
 obtain ⟨Q, ts, vs, rs, hT, h4, hb, hK, hh⟩ := h
 refine ⟨Q, ts, vs, rs, hT, h4, hb, hK, ?_⟩
 have h2 := hh.perm (((List.perm_middle (a := A) (l₁ := rs.map kvR) (l₂ := l)).cons _).cons _)
 exact Has.skip (A := [_, _]) (M := [_]) h2
theorem ScW.pages {w wr : World} {l : List Say} {t sp p bank k N : Nat} {es : List Ent} {Q : Pgs} {ts : List Tre} {vs : List Value} {rs : List (Value × List KV)} (hT : Grove Q ts) (h4 : Rows4 ts vs rs) (hb : ∀ u ∈ ts, u.s <= k + 1 /\ u.L.length <= k) (hI : FInv es Q (fun _ => 0)) : Q.length <= 2 * (k + 1) := by
 have h1 := hT.pages hI
 have h2 := weighs_le (ts := ts) (B := k + 1) fun u hu => (hb u hu).1
 rw [h4.four] at h2
 omega
theorem ScW.step {w wr : World} {l : List Say} {t sp p bank k : Nat} (h : ScW w l t sp p bank es3 k wr) (ht : Tab l) (hk : k <= 80) (kd tr key val : Int) :
  Calls Tryz.prog 46 #[.pointer (some ⟨t, 0, none⟩), .agg #[.int .i64 kd, .int .i64 tr, .int .i64 key, .int .i64 val]] wr (fun r w' => r = .returned (.tuple #[.bool true, .bool false]) /\ ScW w l t sp p bank es3 (k + 1) w') := by
 obtain ⟨Q, ts, vs, rs, hT, h4, hb, hK, hh⟩ := h
 refine (law_step kd tr key val hh ht hT h4 (by omega) (fun u hu => by have := hb u hu; omega)).mono ?_
 rintro r w' (⟨rfl, hK2, Q', ts', vs', rs', hst, hT', h4', hh'⟩ | hf)
 ·exact ⟨rfl, Q', ts', vs', rs', hT', h4', hst.grow1 hb, hK.trans hK2, hh'⟩
 ·exfalso
  have hI := hh.tail.bt_inv.1
  have hq := ScW.pages (w := w) (wr := wr) (l := l) (t := t) (sp := sp) (p := p) (bank := bank) (N := 0) hT h4 hb hI
  obtain ⟨_, _, Q', _, _, ⟨Q1, news, hp, hn, hf⟩, _⟩ := hf
  have a1 := full_pair (a := 0) (b := 1) (m := 200) (by decide) (by decide) (by decide) hf rfl rfl
  have a2 := hp.len hI.up (hp.inv hI).up
  omega
/-! The values. -/
theorem imap_put {w : World} {l : List Say} {b : Nat} {M : List (Int × Int)} (h : Has w (imapS b M :: l)) (hn : M.length < maxLen) (a : Int) (h0 : -9223372036854775808 <= a) (h1 : a <= 9223372036854775807) (v : Int) :
  ∃ w', (Instr.mapUpdate 113 (.map (some b)) (.int .i64 a) (.int .i64 v)).run Tryz.prog w = .ok () w' /\ Kept w w' /\ Has w' (imapS b (VMap.put a v M) :: l) := by
 obtain ⟨es, clock, F, hs, hD, hh⟩ := Has.map_open h
 obtain ⟨es', clock', hrun, F', hput, _⟩ := Maps.fit_store (R' := heldR) (int_keyed Tryz.underlying3) Tryz.underlying113 hh.got F (Nat.lt_of_le_of_lt hs hn) (fun _ _ _ _ hz => hz) (map_key a h0 h1) (val := .int .i64 v) rfl
 refine ⟨_, hrun, ⟨rfl, rfl, rfl, by simp [setBlock]⟩, ?_⟩
 have h2 : Has (setBlock w b (.map es' clock')) (pts b (.map es' clock') :: l) := Sep.put hh (heap_setBlock_same hh.got _) fun k hk => heap_setBlock_other hh.got _ hk
 have hE : (VMap.over intVal (VMap.put a v M)).map litE = (es'.toList.map (rg Tryz.prog 3 heldR)).foldr DataW.insert [] := by
  rw [VMap.over_put, litE_put, hput, hD]
  rfl
 refine h2.head fun g hg => ⟨es', clock', hg, F', ?_, hE⟩
 have e1 : es'.size = ((es'.toList.map (rg Tryz.prog 3 heldR)).foldr DataW.insert []).length := by rw [length_sorted]; simp
 rw [e1, <- hE]
 unfold VMap.over
 simp
def vTo (F T : List Int) : Nat -> List (Int × Int)
 | 0 => []
 | k + 1 => match F[k]?, T[k]? with
  | some f, some t => VMap.put f t (vTo F T k)
  | _, _ => vTo F T k
theorem vTo_up (F T : List Int) : ∀ k, VMap.Up (vTo F T k)
 | 0 => List.Pairwise.nil
 | k + 1 => by
  unfold vTo
  split
  ·exact (vTo_up F T k).put _ _
  ·exact vTo_up F T k
theorem vTo_next {F T : List Int} {k : Nat} {f t : Int} (hf : F[k]? = some f) (ht : T[k]? = some t) : vTo F T (k + 1) = VMap.put f t (vTo F T k) := by
 conv => lhs; unfold vTo
 rw [hf, ht]
theorem vTo_dom {F T : List Int} : ∀ {k : Nat} {x y : Int}, VMap.get x (vTo F T k) = some y -> x ∈ F.take k /\ ∃ j, j < k /\ T[j]? = some y
 | 0, x, y, h => by cases h
 | k + 1, x, y, h => by
  unfold vTo at h
  split at h
  ·rename_i f t hf ht
   rw [get_putM] at h
   obtain ⟨hlt, e⟩ := List.getElem?_eq_some_iff.1 hf
   rw [List.take_succ_eq_append_getElem hlt]
   split at h
   ·rename_i e2
    obtain rfl := Option.some.inj h
    exact ⟨List.mem_append_right _ (by rw [e2, e]; exact .head _), k, Nat.lt_succ_self _, ht⟩
   ·obtain ⟨h1, j, h2, h3⟩ := vTo_dom h
    exact ⟨List.mem_append_left _ h1, j, by omega, h3⟩
  ·obtain ⟨h1, j, h2, h3⟩ := vTo_dom h
   refine ⟨?_, j, by omega, h3⟩
   exact List.take_subset_take_left _ (Nat.le_succ k) h1
theorem vTo_has {F T : List Int} (hl : F.length <= T.length) : ∀ {k : Nat}, k <= F.length -> ∀ x ∈ F.take k, (VMap.get x (vTo F T k)).isSome = true
 | 0, _, x, hx => by simp at hx
 | k + 1, hk, x, hx => by
  obtain ⟨f, hf⟩ : ∃ f, F[k]? = some f := ⟨_, List.getElem?_eq_getElem hk⟩
  obtain ⟨t, ht⟩ : ∃ t, T[k]? = some t := ⟨_, List.getElem?_eq_getElem (by omega)⟩
  rw [vTo_next hf ht, get_putM]
  split
  ·rfl
  ·rename_i hne
   refine vTo_has hl (by omega) x ?_
   obtain ⟨hlt, e⟩ := List.getElem?_eq_some_iff.1 hf
   rw [List.take_succ_eq_append_getElem hlt] at hx
   rcases List.mem_append.1 hx with hx | hx
   ·exact hx
   ·exact absurd (by rw [<- e]; simpa using hx) hne
def lastL (V : List (Int × Int)) (F : List Int) : List Int := F.map fun f => (VMap.get f V).getD 0
theorem vals_last {F T : List Int} (hl : F.length <= T.length) : Vals (vTo F T F.length) F (lastL (vTo F T F.length) F) := by
 refine ⟨fun k f hf => ?_, fun x hx => ?_⟩
 ·have hs := vTo_has hl (Nat.le_refl _) f (by rw [List.take_length]; exact List.mem_of_getElem? hf)
  obtain ⟨y, hy⟩ := Option.isSome_iff_exists.1 hs
  refine ⟨y, ?_, hy⟩
  unfold lastL
  rw [List.getElem?_map, hf]
  show some ((VMap.get f (vTo F T F.length)).getD 0) = some y
  rw [hy]; rfl
 ·obtain ⟨y, hy⟩ := Option.isSome_iff_exists.1 hx
  have := (vTo_dom hy).1
  rwa [List.take_length] at this
theorem vTo_len (F T : List Int) : ∀ k, (vTo F T k).length <= k
 | 0 => Nat.le_refl _
 | k + 1 => by
  have h1 := vTo_len F T k
  unfold vTo
  split
  ·unfold VMap.put
   rw [(VMap.ins_perm _ _).length_eq, List.length_cons]
   exact Nat.succ_le_succ (Nat.le_trans (List.length_filter_le _ _) h1)
  ·omega
end Go.Proofs.YtgbgneiciabidaaGreatDoor
