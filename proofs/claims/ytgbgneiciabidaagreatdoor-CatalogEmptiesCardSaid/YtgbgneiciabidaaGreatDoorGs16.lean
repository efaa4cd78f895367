/-
  Pages (layer 11), the tenth part: what a store tells of one page (Holds); pages that go (gone, Scrap).
-/
import Derived.Test.YtgbgneiciabidaaGreatDoorGs15
import Derived.Test.YtgbgneiciabidaaGreatDoorGs11
import Derived.Test.YtgbgneiciabidaaGreatDoorGs8
import Derived.Test.YtgbgneiciabidaaGreatDoorGs14
namespace Go.Proofs.YtgbgneiciabidaaGreatDoor
open Go Go.RowKit
set_option linter.all false
set_option maxHeartbeats 8000000
def holdsOf (Q : Pgs) (k : Int) : Int := ((VMap.get k Q).map fun g => g.holds).getD 0
def heldOf (Q : Pgs) (k : Int) : Int := ((VMap.get k Q).map fun g => g.held).getD 0
structure StLook (w : World) (p sp mb : Nat) (Q : Pgs) (k : Int) (v : Value) : Prop where
 c1 : w.cell? ⟨p, 1, none⟩ = some (.pointer (some ⟨sp, 0, none⟩))
 c2 : w.cell? ⟨p, 2, none⟩ = some (.map (some mb))
 run : (Instr.lookup 145 (.map (some mb)) (.int .i64 k) false).run Tryz.prog w = .ok v w
 ok : (Instr.lookup 145 (.map (some mb)) (.int .i64 k) true).run Tryz.prog w = .ok (.tuple #[v, .bool (VMap.get k Q).isSome]) w
 val : ∃ ak nk ck av nv cv, v = .agg #[.int .i64 (lvOf Q k), .slice ak nk ck, .slice av nv cv, .int .i64 (holdsOf Q k), .int .i64 (heldOf Q k)]
theorem Has.st_look {w : World} {l : List Say} {p bank sp n : Nat} {Q : Pgs} (h : Has w (storeS p bank sp n Q :: l)) (k : Int) (b0 : -9223372036854775808 <= k) (b1 : k <= 9223372036854775807) : ∃ mb v, StLook w p sp mb Q k v := by
 obtain ⟨x, ok, hh⟩ := h.st_open
 have hsl := hh.pool_sl (T := x.T) (fun A hA => by simp [storeFlat, hA])
 have hp : w.heap[p]? = some (.cells #[.pointer (some ⟨bank, 0, none⟩), .pointer (some ⟨sp, 0, none⟩), .map (some x.mb), .map none] 147 (0, 0)) := hh.got
 have hlk := map_look hh (b := x.mb) (n := n) (M := VMap.over Sl.val x.T) (by simp [storeFlat]) k b0 b1
 have hlk2 := map_look_ok hh (b := x.mb) (n := n) (M := VMap.over Sl.val x.T) (by simp [storeFlat]) k b0 b1
 have hiso : (VMap.get k (VMap.over Sl.val x.T)).isSome = (VMap.get k Q).isSome := by rw [<- ok.eq, VMap.get_over, VMap.get_over]; cases VMap.get k x.T <;> rfl
 rw [hiso] at hlk2
 refine ⟨x.mb, _, cell_of hp 1 rfl, cell_of hp 2 rfl, hlk, hlk2, ?_⟩
 rw [<- ok.eq]
 unfold lvOf holdsOf heldOf
 rw [VMap.get_over, VMap.get_over]
 cases hg : VMap.get k x.T with
 | none => exact ⟨_, _, _, _, _, _, rfl⟩
 | some t =>
  obtain ⟨⟨ak, nk, ck, ek⟩, av, nv, cv, ev⟩ := hsl _ (get_mem hg)
  obtain ⟨⟨nd, H, E⟩, kv, vv⟩ := t
  simp only at ek ev
  subst ek ev
  exact ⟨ak, nk, ck, av, nv, cv, rfl⟩
theorem field_holds (L : Value) (a b c d : Value) (W : World) : (Instr.field 153 (.agg #[L, a, b, c, d]) 1).run Tryz.prog W = .ok c W := by
 obtain ⟨i0, I1, I2, I3, I4⟩ := info_parts info_node
 simp [Instr.field, run_underlying Tryz.underlying153, part, typeInfo, sizeOf, I1, I3, asAgg, Result.andThen, go_sem]
theorem st_Holds {w : World} {l : List Say} {p bank sp n : Nat} {Q : Pgs} (h : Has w (storeS p bank sp n Q :: l)) (k : Int) (b0 : -9223372036854775808 <= k) (b1 : k <= 9223372036854775807) :
  Calls Tryz.prog 34 #[.pointer (some ⟨p, 0, none⟩), .int .i64 k] w fun r w' => r = .returned (.int .i64 (holdsOf Q k)) /\ w = w' := by
 obtain ⟨mb, v, ⟨c1, c2, hlk, _, ak, nk, ck, av, nv, cv, rfl⟩⟩ := h.st_look k b0 b1
 have lp := World.block_lt_of_cell? _ _ c2
 have hf := field_holds (.int .i64 (lvOf Q k)) (.slice ak nk ck) (.slice av nv cv) (.int .i64 (holdsOf Q k)) (.int .i64 (heldOf Q k))
 clear h
 go_enter Tryz.func34, Tryz.ntmps34
 go_wp2
 go_ret
 exact ⟨rfl, rfl⟩
def Gives (X : Spc) (a : Int) (X' : Spc) : Prop := ∃ d k e y, a = lenV d k /\ InRoom X d k e y /\ y.taken k = true /\ d < 8 /\ k < 4096 /\ X' = X.put d (y.gave k)
inductive GoneK : Nat -> List Int -> Pgs -> Spc -> Pgs -> Spc -> Prop
 | nil (d : Nat) (Q : Pgs) (X : Spc) : GoneK d [] Q X Q X
 | keep {d : Nat} {k : Int} {ks : List Int} {Q : Pgs} {X : Spc} {Q' : Pgs} {X' : Spc} {g : Pg} : VMap.get k Q = some g -> 1 < g.holds -> g.holds <= 1000000000 -> GoneK d ks (VMap.put k { g with holds := g.holds + -1 } Q) X Q' X' -> GoneK d (k :: ks) Q X Q' X'
 | drop {d : Nat} {k : Int} {ks : List Int} {Q : Pgs} {X X1 : Spc} {Q2 : Pgs} {X2 : Spc} {Q' : Pgs} {X' : Spc} {g : Pg} : VMap.get k Q = some g -> g.holds = 1 -> Gives X k X1 -> GoneK d g.n.kids (VMap.del k Q) X1 Q2 X2 -> GoneK (d + 1) ks Q2 X2 Q' X' -> GoneK (d + 1) (k :: ks) Q X Q' X'
theorem GoneK.inv {d : Nat} {k : Int} {ks : List Int} {Q : Pgs} {X : Spc} {Q' : Pgs} {X' : Spc} (h : GoneK d (k :: ks) Q X Q' X') :
  (∃ g, VMap.get k Q = some g /\ 1 < g.holds /\ g.holds <= 1000000000 /\ GoneK d ks (VMap.put k { g with holds := g.holds + -1 } Q) X Q' X') \/
  ∃ d1 X1 Q2 X2 g, d = d1 + 1 /\ VMap.get k Q = some g /\ g.holds = 1 /\ Gives X k X1 /\ GoneK d1 g.n.kids (VMap.del k Q) X1 Q2 X2 /\ GoneK (d1 + 1) ks Q2 X2 Q' X' := by
 cases h with
 | keep a b c e => exact .inl ⟨_, a, b, c, e⟩
 | drop a b c e f => exact .inr ⟨_, _, _, _, _, rfl, a, b, c, e, f⟩
def GonePost (p bank sp : Nat) (Q : Pgs) (X : Spc) (l : List Say) (w : World) (r : Ending) (w' : World) : Prop := r = .returned (.tuple #[]) /\ Kept w w' /\ Has w' (stS p bank sp Q :: spaceS sp X :: l)
def GoneC (d : Nat) : Prop := ∀ {w : World} {l : List Say} {p bank sp : Nat} {Q : Pgs} {X X1 : Spc} {Q' : Pgs} {X' : Spc} (a : Int) (g : Pg), Has w (stS p bank sp Q :: spaceS sp X :: l) -> VMap.get a Q = some g -> Gives X a X1 -> GoneK d g.n.kids (VMap.del a Q) X1 Q' X' ->
 Calls Tryz.prog 87 #[.pointer (some ⟨p, 0, none⟩), .int .i64 a] w (GonePost p bank sp Q' X' l w)
def GoneMid (d p bank sp r4 : Nat) (nd : Nd) (kv vv : Value) (Q' : Pgs) (X' : Spc) (l : List Say) (w : World) (j : Nat) (wr : World) : Prop :=
 ∃ Qj Xj, GoneK d (nd.kids.drop j) Qj Xj Q' X' /\ Kept w wr /\ Has wr (stS p bank sp Qj :: spaceS sp Xj :: intsS kv nd.keys :: intsS vv nd.vals :: pts r4 (.cells #[.int .i64 nd.level, kv, vv] 35 (0, 0)) :: l)
theorem del_put {α : Type} (k : Int) (v : α) (M : List (Int × α)) (h : VMap.Up M) : VMap.del k (VMap.put k v M) = VMap.del k M := by
 have key : ∀ (N : List (Int × α)), (∀ p ∈ N, p.1 ≠ k) -> VMap.del k (VMap.ins (k, v) N) = N := by
  intro N
  induction N with
  | nil => intro _; simp [VMap.ins, VMap.del]
  | cons y r ih =>
   intro hN
   have hy := hN y (.head _)
   have hr := ih fun p hp => hN p (.tail _ hp)
   have hyk : (!(y.1 == k)) = true := by simpa using hy
   have hd : VMap.del k (y :: r) = y :: r := by
    unfold VMap.del
    rw [List.filter_eq_self]
    intro p hp
    simpa using hN p hp
   unfold VMap.ins
   split
   ·rw [VMap.del, List.filter_cons, if_neg (by simp)]
    exact hd
   ·rw [VMap.del, List.filter_cons, if_pos hyk]
    exact congrArg _ hr
 refine key _ ?_
 intro p hp
 have := (List.mem_filter.1 hp).2
 simpa using this
theorem Has.st_drop {w : World} {l : List Say} {p bank sp n : Nat} {x : StAt} {a : Int} {t : Sl} {Q : Pgs} (ok : StOk Q x)
  (h : Has w (mapS x.mb n (VMap.del a (VMap.over Sl.val x.T)) :: intsS t.kv t.pg.n.keys :: intsS t.vv t.pg.n.vals :: storeCell p bank sp x.mb :: (pool (VMap.del a x.T) ++ l))) :
  Has w (stS p bank sp (VMap.del a Q) :: intsS t.kv t.pg.n.keys :: intsS t.vv t.pg.n.vals :: l) := by
 have hmem : ∀ q, q ∈ VMap.del a Q -> q ∈ Q := fun q hq => (List.mem_filter.1 hq).1
 refine Has.st_tight (n := n) (Has.st_shut (x := ⟨x.mb, VMap.del a x.T⟩) ⟨?_, ok.up.del a, fun q hq => ok.bd q (hmem q hq), fun q hq => ok.ok q (hmem q hq)⟩ ?_)
 ·rw [VMap.over_del, ok.eq]
 ·unfold storeFlat
  rw [VMap.over_del]
  have h1 := h.pull 3
  refine h1.perm (List.Perm.cons _ (List.Perm.cons _ ?_))
  show List.Perm ([intsS t.kv t.pg.n.keys, intsS t.vv t.pg.n.vals] ++ (pool (VMap.del a x.T) ++ l)) (pool (VMap.del a x.T) ++ ([intsS t.kv t.pg.n.keys, intsS t.vv t.pg.n.vals] ++ l))
  exact List.perm_append_comm_assoc _ _ _
set_option maxRecDepth 100000 in
theorem gone_step (d : Nat) (ih : ∀ d', d = d' + 1 -> GoneC d') : GoneC d := by
 intro w l p bank sp Q X X1 Q' X' a g h hg hgv hk
 obtain ⟨dd, k, e, y, rfl, hr, htk, hd8, hk4, rfl⟩ := hgv
 have b0 : (0 : Int) <= lenV dd k := by unfold lenV; omega
 have b1 : lenV dd k < 32768 := by unfold lenV; omega
 obtain ⟨x, ok, hh⟩ := h.st_open
 obtain ⟨t, ht, rfl⟩ : ∃ t, VMap.get (lenV dd k) x.T = some t /\ t.pg = g := by
  have e := hg
  rw [<- ok.eq, VMap.get_over] at e
  obtain ⟨t, ht, e⟩ := Option.map_eq_some_iff.1 e
  exact ⟨t, ht, e⟩
 have hokn := ok.ok _ (get_mem hg)
 simp only at hokn
 have hsl := hh.pool_sl (T := x.T) (fun A hA => by simp [storeFlat, hA])
 obtain ⟨⟨ak, nk, ck, ek⟩, av, nv, cv, ev⟩ := hsl _ (get_mem ht)
 obtain ⟨⟨nd, H, E⟩, kv, vv⟩ := t
 simp only at ek ev hg hk hokn
 subst ek ev
 have hval : Sl.val ⟨⟨nd, H, E⟩, .slice ak nk ck, .slice av nv cv⟩ = .agg #[.int .i64 nd.level, .slice ak nk ck, .slice av nv cv, .int .i64 H, .int .i64 E] := rfl
 have hlk := map_look hh (b := x.mb) (n := 32768) (M := VMap.over Sl.val x.T) (by simp [storeFlat]) (lenV dd k) (by omega) (by omega)
 rw [VMap.get_over, ht] at hlk
 simp only [Option.map_some, Option.getD_some, hval] at hlk
 have hp : w.heap[p]? = some (.cells #[.pointer (some ⟨bank, 0, none⟩), .pointer (some ⟨sp, 0, none⟩), .map (some x.mb), .map none] 147 (0, 0)) := hh.got
 have c2 : w.cell? ⟨p, 2, none⟩ = some (.map (some x.mb)) := cell_of hp 2 rfl
 have lp := World.block_lt_of_cell? _ _ c2
 have hA := (Has.st_page ok.up ht hh).alloc (.cells #[.int .i64 nd.level, .slice ak nk ck, .slice av nv cv] 35)
 obtain ⟨w9, hrun, hK9, hh9⟩ := map_drop (hA.pull 4) (lenV dd k) (by omega) (by omega) 0
 have h10 : Has w9 (mapS x.mb 32768 (VMap.del (lenV dd k) (VMap.over Sl.val x.T)) :: intsS (.slice ak nk ck) nd.keys :: intsS (.slice av nv cv) nd.vals :: storeCell p bank sp x.mb :: (pool (VMap.del (lenV dd k) x.T) ++ (pts w.heap.size (.cells #[.int .i64 nd.level, .slice ak nk ck, .slice av nv cv] 35 (0, 0)) :: spaceS sp X :: l))) := by
  refine hh9.perm (List.Perm.cons _ ?_)
  refine List.Perm.trans (l₂ := [intsS (.slice ak nk ck) nd.keys, intsS (.slice av nv cv) nd.vals, storeCell p bank sp x.mb] ++ (pts w.heap.size (.cells #[.int .i64 nd.level, .slice ak nk ck, .slice av nv cv] 35 (0, 0)) :: (pool (VMap.del (lenV dd k) x.T) ++ spaceS sp X :: l))) ?_ ?_
  ·exact (List.perm_middle (l₁ := [intsS (.slice ak nk ck) nd.keys, intsS (.slice av nv cv) nd.vals, storeCell p bank sp x.mb])).symm
  ·exact List.Perm.append_left _ (List.perm_middle (l₁ := pool (VMap.del (lenV dd k) x.T))).symm
 have h11 := Has.st_drop ok (t := ⟨⟨nd, H, E⟩, .slice ak nk ck, .slice av nv cv⟩) h10
 have h12 : Has w9 (spaceS sp X :: stS p bank sp (VMap.del (lenV dd k) Q) :: intsS (.slice ak nk ck) nd.keys :: intsS (.slice av nv cv) nd.vals :: pts w.heap.size (.cells #[.int .i64 nd.level, .slice ak nk ck, .slice av nv cv] 35 (0, 0)) :: l) := h11.pull 4
 have HGv := Lib.hid (sp_Give h12 dd k e y hr htk hd8 hk4)
 have hpx := (h12.pull 1).st_open
 have d1 : w9.cell? ⟨p, 1, none⟩ = some (.pointer (some ⟨sp, 0, none⟩)) := by
  obtain ⟨_, _, hs⟩ := hpx
  exact cell_of hs.got 1 rfl
 have ld := World.block_lt_of_cell? _ _ d1
 have c2w : (w.alloc (.cells #[.int .i64 nd.level, .slice ak nk ck, .slice av nv cv] 35)).cell? ⟨p, 2, none⟩ = some (.map (some x.mb)) := by rw [World.cell?_alloc_lt _ _ _ lp]; exact c2
 have HK9 : Hid (Kept w w9) := ((Kept.refl w).alloc _).trans hK9
 have hf1 := field_node nd.level (.slice ak nk ck) (.slice av nv cv) (.int .i64 H) (.int .i64 E)
 have Hk := Lib.hid hk
 have Hok := Lib.hid hokn
 have Hlv : Hid (lenV dd k = ((dd * 4096 + k : Nat) : Int)) := rfl
 have HGv2 := Lib.hid HGv
 have Hih := Lib.hid ih
 clear HGv h hh hA hh9 h10 h11 h12 hpx hp ok hg hsl hval hK9 hk hokn ht ih
 simp only [<- Hlv.out] at HGv2
 generalize lenV dd k = A at *
 go_enter Tryz.func87, Tryz.ntmps87
 go_wp2_with fail
 refine HGv2.out.mono ?_
 rintro r w10 ⟨rfl, hK10, h13⟩
 have hr4 := h13.at (b := w.heap.size) (o := .cells #[.int .i64 nd.level, .slice ak nk ck, .slice av nv cv] 35 (0, 0)) (by simp)
 have e0 : w10.cell? ⟨w.heap.size, 0, none⟩ = some (.int .i64 nd.level) := cell_of hr4 0 rfl
 have e1 : w10.cell? ⟨w.heap.size, 1, none⟩ = some (.slice ak nk ck) := cell_of hr4 1 rfl
 have e2 : w10.cell? ⟨w.heap.size, 2, none⟩ = some (.slice av nv cv) := cell_of hr4 2 rfl
 have l4 := World.block_lt_of_cell? _ _ e0
 have HKd := Lib.hid (node_kids (w := w10) nd (.slice ak nk ck) (.slice av nv cv))
 obtain ⟨ka, kc, hkv, hkr⟩ := h13.kids_read nd (vv := .slice av nv cv) (by simp)
 have hkl := kids_len Hok.out
 obtain ⟨kk, hkk⟩ : ∃ kk, kk = nd.kids := ⟨_, rfl⟩
 have HM0 : Hid (GoneMid d p bank sp w.heap.size nd (.slice ak nk ck) (.slice av nv cv) Q' X' l w 0 w10) := ⟨_, _, Hk.out, HK9.out.trans hK10, h13.swap⟩
 rw [<- hkk] at hkv hkl
 have Hkk := Lib.hid hkk
 have Hkv := Lib.hid hkv
 simp only [Nd.val, hkv] at HKd
 have Hbd : Hid (∀ k ∈ kk, -9223372036854775808 <= k /\ k <= 9223372036854775807) := fun k hk => by
  rw [hkk] at hk
  have := ok_vals Hok.out k (kids_sub _ k hk)
  omega
 clear hK10 h13 hr4 HGv2 HK9 hkr hkk hkv d1 ld hlk c2 c2w lp hrun Hk hf1
 go_wp2_with fail
 refine HKd.out.mono ?_
 rintro r w11 ⟨rfl, hb11⟩
 have HM : Hid (GoneMid d p bank sp w.heap.size nd (.slice ak nk ck) (.slice av nv cv) Q' X' l w 0 w11) := by
  obtain ⟨Qj, Xj, hk, hK, hh⟩ := HM0.out
  exact ⟨Qj, Xj, hk, hK.trans (Kept.below hb11), hh.below hb11⟩
 clear hb11 HM0 HKd e0 e1 e2 l4
 generalize w.heap.size = r4 at *
 go_wp2
 go_loopg [28] kk.length (fun gk i wr => ∃ j : Nat, j <= kk.length /\ gk = kk.length - j /\ i = .int .i64 j /\ Hid (GoneMid d p bank sp r4 nd (.slice ak nk ck) (.slice av nv cv) Q' X' l w j wr))
 case atStart => exact ⟨0, Nat.zero_le _, rfl, rfl, HM⟩
 case round =>
  clear HM
  obtain ⟨j, hj, rfl, rfl, HM⟩ := hrel
  by_cases hlt : j < kk.length
  ·obtain ⟨Qj, Xj, hg, hK, hh⟩ := HM.out
   obtain ⟨ka', kc', hkv', hkr'⟩ := hh.kids_read nd (vv := .slice av nv cv) (by simp)
   rw [<- Hkk.out] at hkv' hkr' hg
   rw [Hkv.out] at hkv'
   injection hkv' with z1 z2 z3
   subst z1 z3
   obtain ⟨gg, rfl, hc⟩ := hkr' j hlt
   have lg := World.block_lt_of_cell? _ _ hc
   have hk1 : (j : Int) < (kk.length : Int) := by omega
   have hk0 : (0 : Int) <= j := by omega
   have hbx := Hbd.out kk[j] (List.getElem_mem hlt)
   rw [List.drop_eq_getElem_cons hlt] at hg
   have hup : VMap.Up Qj := by
    obtain ⟨x, ok, _⟩ := hh.st_open
    rw [<- ok.eq]
    exact List.pairwise_map.2 ok.up
   generalize kk[j] = c at *
   rcases hg.inv with ⟨g, g1, g2, g3, g4⟩ | ⟨d1, X1, Q2, X2, g, hd, g1, g2, g3, g4, g5⟩
   ·clear hg
    have HAd := Lib.hid (st_add hh c (-1) g g1 (by omega) (by omega) (by omega) (by omega) (by omega))
    have HG4 := Lib.hid g4
    have HK := Lib.hid hK
    have hne : ((g.holds + -1) == 0) = false := by simp; omega
    clear hh hK hkr' HM g1 g4
    go_wp2_with fail
    refine HAd.out.mono ?_
    rintro r w12 ⟨rfl, hK12, h12⟩
    have h13 := h12.st_tight
    obtain ⟨mb, v, ⟨c1, c2, hlk, _, ak1, nk1, ck1, av1, nv1, cv1, rfl⟩⟩ := h12.st_look c (by omega) (by omega)
    have hho : holdsOf (VMap.put c { g with holds := g.holds + -1 } Qj) c = g.holds + -1 := by simp [holdsOf, get_put]
    rw [hho] at hlk
    have lp := World.block_lt_of_cell? _ _ c2
    have hf := field_holds (.int .i64 (lvOf (VMap.put c { g with holds := g.holds + -1 } Qj) c)) (.slice ak1 nk1 ck1) (.slice av1 nv1 cv1) (.int .i64 (g.holds + -1)) (.int .i64 (heldOf (VMap.put c { g with holds := g.holds + -1 } Qj) c))
    have HM2 : Hid (GoneMid d p bank sp r4 nd (.slice ak nk ck) (.slice av nv cv) Q' X' l w (j + 1) w12) := ⟨_, _, by rw [<- Hkk.out]; exact HG4.out, HK.out.trans hK12, h13⟩
    clear hK12 h12 h13 HAd HG4 HK hho
    go_wp2
    go_roundg (kk.length - (j + 1))
    case measure => omega
    case rel => exact ⟨j + 1, by omega, rfl, by simp, HM2.out⟩
   ·clear hg
    have Hd := Lib.hid hd
    have HAd := Lib.hid (st_add hh c (-1) g g1 (by omega) (by omega) (by omega) (by omega) (by omega))
    have HG5 := Lib.hid g5
    have HK := Lib.hid hK
    have HIH : Hid (∀ {w : World} {l : List Say}, Has w (stS p bank sp (VMap.put c { g with holds := g.holds + -1 } Qj) :: spaceS sp Xj :: l) -> Calls Tryz.prog 87 #[.pointer (some ⟨p, 0, none⟩), .int .i64 c] w (GonePost p bank sp Q2 X2 l w)) := by
     intro w l hw
     refine Hih.out d1 Hd.out c { g with holds := g.holds + -1 } hw (by rw [get_put, if_pos rfl]) g3 ?_
     rw [del_put _ _ _ hup]
     exact g4
    have hze : g.holds + -1 = 0 := by omega
    have Hze := Lib.hid hze
    clear hh hK hkr' HM g1 g3 g4 g5 hze g2 hd
    go_wp2_with fail
    refine HAd.out.mono ?_
    rintro r w12 ⟨rfl, hK12, h12⟩
    have HC := Lib.hid (HIH.out h12.st_tight)
    obtain ⟨mb, v, ⟨c1, c2, hlk, _, ak1, nk1, ck1, av1, nv1, cv1, rfl⟩⟩ := h12.st_look c (by omega) (by omega)
    have hho : holdsOf (VMap.put c { g with holds := g.holds + -1 } Qj) c = 0 := by simp [holdsOf, get_put, Hze.out]
    rw [hho] at hlk
    have lp := World.block_lt_of_cell? _ _ c2
    have hf := field_holds (.int .i64 (lvOf (VMap.put c { g with holds := g.holds + -1 } Qj) c)) (.slice ak1 nk1 ck1) (.slice av1 nv1 cv1) (.int .i64 0) (.int .i64 (heldOf (VMap.put c { g with holds := g.holds + -1 } Qj) c))
    have HK12 := Lib.hid (HK.out.trans hK12)
    clear hK12 h12 HAd HK hho HIH
    go_wp2_with fail
    refine HC.out.mono ?_
    rintro r w13 ⟨rfl, hK13, h13⟩
    have HM2 : Hid (GoneMid d p bank sp r4 nd (.slice ak nk ck) (.slice av nv cv) Q' X' l w (j + 1) w13) := ⟨_, _, by rw [<- Hkk.out, Hd.out]; exact HG5.out, HK12.out.trans hK13, h13⟩
    clear hK13 h13 HC HG5 HK12 hlk hf c1 c2 lp
    go_wp2
    go_roundg (kk.length - (j + 1))
    case measure => omega
    case rel => exact ⟨j + 1, by omega, rfl, by simp, HM2.out⟩
  ·obtain rfl : j = kk.length := by omega
   obtain ⟨Qj, Xj, hg, hK, hh⟩ := HM.out
   rw [<- Hkk.out, List.drop_length] at hg
   cases hg
   have HF : Hid (GonePost p bank sp Q' X' l w (.returned (.tuple #[])) wr) := ⟨rfl, hK, ((((hh.pull 2).tail.pull 2).tail.pull 2).tail)⟩
   clear hK hh HM
   go_wp2
   go_end0
   exact HF.out
theorem st_gone : ∀ d, GoneC d
 | 0 => gone_step 0 fun d' h => absurd h (by omega)
 | d + 1 => gone_step (d + 1) fun d' h => by
  obtain rfl : d' = d := by omega
  exact st_gone d'
/-
  Pages (layer 11), the eleventh part: Scrap, Hold, Drop.
-/
def ScrapPost (p bank sp : Nat) (a : Int) (Q : Pgs) (X : Spc) (Q' : Pgs) (X' : Spc) (l : List Say) (w : World) (r : Ending) (w' : World) : Prop :=
  Kept w w' /\
  ((VMap.get a Q = none /\ r = .returned (errV 81) /\ Has w' (stS p bank sp Q :: spaceS sp X :: l)) \/
   (0 < holdsOf Q a /\ r = .returned (errV 100) /\ Has w' (stS p bank sp Q :: spaceS sp X :: l)) \/
   ((VMap.get a Q).isSome = true /\ holdsOf Q a <= 0 /\ r = .returned .nilIface /\ Has w' (stS p bank sp Q' :: spaceS sp X' :: l)))
def GoneFrom (d : Nat) (a : Int) (Q : Pgs) (X : Spc) (Q' : Pgs) (X' : Spc) : Prop := ∀ g, VMap.get a Q = some g -> ∃ X1, Gives X a X1 /\ GoneK d g.n.kids (VMap.del a Q) X1 Q' X'
set_option maxRecDepth 100000 in
theorem st_Scrap {w : World} {l : List Say} {p bank sp d : Nat} {Q : Pgs} {X : Spc} {Q' : Pgs} {X' : Spc} (h : Has w (stS p bank sp Q :: spaceS sp X :: l)) (a : Int) (b0 : -9223372036854775808 <= a) (b1 : a <= 9223372036854775807)
  (hg : holdsOf Q a <= 0 -> GoneFrom d a Q X Q' X') :
  Calls Tryz.prog 24 #[.pointer (some ⟨p, 0, none⟩), .int .i64 a] w (ScrapPost p bank sp a Q X Q' X' l w) := by
 obtain ⟨mb, v, ⟨c1, c2, _, hlk, ak, nk, ck, av, nv, cv, rfl⟩⟩ := h.st_look a b0 b1
 have lp := World.block_lt_of_cell? _ _ c2
 have hA := h.alloc (.cells #[.int .i64 (lvOf Q a), .slice ak nk ck, .slice av nv cv, .int .i64 (holdsOf Q a), .int .i64 (heldOf Q a)] 153)
 have d3 : (w.alloc (.cells #[.int .i64 (lvOf Q a), .slice ak nk ck, .slice av nv cv, .int .i64 (holdsOf Q a), .int .i64 (heldOf Q a)] 153)).cell? ⟨w.heap.size, 3, none⟩ = some (.int .i64 (holdsOf Q a)) := cell_of hA.got 3 rfl
 have HA := Lib.hid hA.tail
 have HK := Lib.hid ((Kept.refl w).alloc (.cells #[.int .i64 (lvOf Q a), .slice ak nk ck, .slice av nv cv, .int .i64 (holdsOf Q a), .int .i64 (heldOf Q a)] 153))
 have Hg := Lib.hid hg
 clear h hA hg
 cases hi : (VMap.get a Q).isSome with
 | false =>
  have Hi : Hid (VMap.get a Q = none) := by show _ = _; cases h : VMap.get a Q with | none => rfl | some x => rw [h] at hi; cases hi
  rw [hi] at hlk
  clear hi
  go_enter Tryz.func24, Tryz.ntmps24
  go_wp2
  go_ret
  exact ⟨HK.out, .inl ⟨Hi.out, rfl, HA.out⟩⟩
 | true =>
  rw [hi] at hlk
  have Hi := Lib.hid hi
  clear hi
  by_cases h0 : 0 < holdsOf Q a
  ·have H0 := Lib.hid h0
   generalize hho : holdsOf Q a = ho at *
   have Hho := Lib.hid hho
   clear hho
   go_enter Tryz.func24, Tryz.ntmps24
   go_wp2
   go_ret
   exact ⟨HK.out, .inr (.inl ⟨by rw [Hho.out]; exact H0.out, rfl, HA.out⟩)⟩
  ·obtain ⟨g, hgg⟩ := Option.isSome_iff_exists.1 Hi.out
   obtain ⟨X1, hgv, hgk⟩ := Hg.out (by omega) g hgg
   have HGo := Lib.hid (st_gone d a g HA.out hgg hgv hgk)
   have H0 : Hid (holdsOf Q a <= 0) := by show _ <= _; omega
   generalize hho : holdsOf Q a = ho at *
   have Hho := Lib.hid hho
   have h00 : decide (0 < ho) = false := by simp; omega
   clear hho hgg hgv hgk h0
   go_enter Tryz.func24, Tryz.ntmps24
   go_wp2_with fail
   refine HGo.out.mono ?_
   rintro r w1 ⟨rfl, hK1, h1⟩
   have HF : Hid (Kept w w1 /\ Has w1 (stS p bank sp Q' :: spaceS sp X' :: l)) := ⟨HK.out.trans hK1, h1⟩
   clear hK1 h1 HGo
   go_wp2
   go_ret
   exact ⟨HF.out.1, .inr (.inr ⟨Hi.out, by rw [Hho.out]; exact H0.out, rfl, HF.out.2⟩)⟩
/-
  Pages (layer 11), the twelfth part: Hold, Drop.
-/
theorem put_put {α : Type} (a : Int) (u v : α) (Q : List (Int × α)) (h : VMap.Up Q) : VMap.put a v (VMap.put a u Q) = VMap.put a v Q := by
 show VMap.ins (a, v) (VMap.del a (VMap.put a u Q)) = _
 rw [del_put _ _ _ h]; rfl
theorem Has.st_up {w : World} {l : List Say} {p bank sp n : Nat} {Q : Pgs} (h : Has w (storeS p bank sp n Q :: l)) : VMap.Up Q := by
 obtain ⟨x, ok, _⟩ := h.st_open
 rw [<- ok.eq]
 exact List.pairwise_map.2 ok.up
def Pg.more (g : Pg) (c : Int) : Pg := ⟨g.n, g.holds + c, g.held + c⟩
def HoldPost (p bank sp : Nat) (a : Int) (Q : Pgs) (l : List Say) (w : World) (r : Ending) (w' : World) : Prop :=
  Kept w w' /\
  ((VMap.get a Q = none /\ r = .returned (errV 81) /\ Has w' (stS p bank sp Q :: l)) \/
   ∃ g, VMap.get a Q = some g /\ r = .returned .nilIface /\ Has w' (stS p bank sp (VMap.put a (g.more 1) Q) :: l))
set_option maxRecDepth 100000 in
theorem st_Hold {w : World} {l : List Say} {p bank sp : Nat} {Q : Pgs} (h : Has w (stS p bank sp Q :: l)) (a : Int) (b0 : -9223372036854775808 <= a) (b1 : a <= 9223372036854775807)
  (hb : ∀ g, VMap.get a Q = some g -> (-100000000 <= g.holds /\ g.holds <= 100000000) /\ -100000000 <= g.held /\ g.held <= 100000000) :
  Calls Tryz.prog 27 #[.pointer (some ⟨p, 0, none⟩), .int .i64 a] w (HoldPost p bank sp a Q l w) := by
 obtain ⟨mb, v, ⟨c1, c2, _, hlk, ak, nk, ck, av, nv, cv, rfl⟩⟩ := h.st_look a b0 b1
 have lp := World.block_lt_of_cell? _ _ c2
 have hup := h.st_up
 have hA := (h.alloc (.cells #[.int .i64 (lvOf Q a), .slice ak nk ck, .slice av nv cv, .int .i64 (holdsOf Q a), .int .i64 (heldOf Q a)] 153)).tail
 have HK := Lib.hid ((Kept.refl w).alloc (.cells #[.int .i64 (lvOf Q a), .slice ak nk ck, .slice av nv cv, .int .i64 (holdsOf Q a), .int .i64 (heldOf Q a)] 153))
 have HA := Lib.hid hA
 clear h hA
 cases hi : VMap.get a Q with
 | none =>
  rw [hi] at hlk
  simp only [Option.isSome_none] at hlk
  have Hi := Lib.hid hi
  clear hi hb
  go_enter Tryz.func27, Tryz.ntmps27
  go_wp2
  go_ret
  exact ⟨HK.out, .inl ⟨Hi.out, rfl, HA.out⟩⟩
 | some g =>
  rw [hi] at hlk
  simp only [Option.isSome_some] at hlk
  obtain ⟨⟨q0, q1⟩, q2, q3⟩ := hb g hi
  have HAd := Lib.hid (st_add HA.out a 1 g hi (by omega) (by omega) (by omega) (by omega) (by omega))
  have Hi := Lib.hid hi
  have Hup := Lib.hid hup
  clear hi hb hup
  go_enter Tryz.func27, Tryz.ntmps27
  go_wp2_with fail
  refine HAd.out.mono ?_
  rintro r w1 ⟨rfl, hK1, h1⟩
  have HOw := Lib.hid (st_own h1 a 1 { g with holds := g.holds + 1 } (by rw [get_put, if_pos rfl]) (by omega) (by show _ <= g.held; omega) (by show g.held <= _; omega) (by omega) (by omega))
  have HK1 := Lib.hid (HK.out.trans hK1)
  clear h1 hK1 HAd
  go_wp2_with fail
  refine HOw.out.mono ?_
  rintro r w2 ⟨rfl, hK2, h2⟩
  have HF : Hid (Kept w w2 /\ Has w2 (stS p bank sp (VMap.put a (g.more 1) Q) :: l)) := by
   refine ⟨HK1.out.trans hK2, ?_⟩
   have h3 := h2.st_tight
   rw [put_put _ _ _ _ Hup.out] at h3
   exact h3
  clear h2 hK2 HOw
  go_wp2
  go_ret
  exact ⟨HF.out.1, .inr ⟨g, Hi.out, rfl, HF.out.2⟩⟩
def DropPost (p bank sp : Nat) (a : Int) (Q : Pgs) (X : Spc) (Q' : Pgs) (X' : Spc) (l : List Say) (w : World) (r : Ending) (w' : World) : Prop :=
  Kept w w' /\
  ((VMap.get a Q = none /\ r = .returned (errV 81) /\ Has w' (stS p bank sp Q :: spaceS sp X :: l)) \/
   ∃ g, VMap.get a Q = some g /\
    ((g.held = 0 /\ r = .returned (errV 100) /\ Has w' (stS p bank sp Q :: spaceS sp X :: l)) \/
     (g.held ≠ 0 /\ g.holds ≠ 1 /\ r = .returned .nilIface /\ Has w' (stS p bank sp (VMap.put a (g.more (-1)) Q) :: spaceS sp X :: l)) \/
     (g.held ≠ 0 /\ g.holds = 1 /\ r = .returned .nilIface /\ Has w' (stS p bank sp Q' :: spaceS sp X' :: l))))
set_option maxRecDepth 100000 in
theorem st_Drop {w : World} {l : List Say} {p bank sp d : Nat} {Q : Pgs} {X : Spc} {Q' : Pgs} {X' : Spc} (h : Has w (stS p bank sp Q :: spaceS sp X :: l)) (a : Int) (b0 : -9223372036854775808 <= a) (b1 : a <= 9223372036854775807)
  (hb : ∀ g, VMap.get a Q = some g -> (-100000000 <= g.holds /\ g.holds <= 100000000) /\ -100000000 <= g.held /\ g.held <= 100000000)
  (hg : holdsOf Q a = 1 -> heldOf Q a ≠ 0 -> GoneFrom d a Q X Q' X') :
  Calls Tryz.prog 28 #[.pointer (some ⟨p, 0, none⟩), .int .i64 a] w (DropPost p bank sp a Q X Q' X' l w) := by
 obtain ⟨mb, v, ⟨c1, c2, _, hlk, ak, nk, ck, av, nv, cv, rfl⟩⟩ := h.st_look a b0 b1
 have lp := World.block_lt_of_cell? _ _ c2
 have hup := h.st_up
 have hA := h.alloc (.cells #[.int .i64 (lvOf Q a), .slice ak nk ck, .slice av nv cv, .int .i64 (holdsOf Q a), .int .i64 (heldOf Q a)] 153)
 have HK := Lib.hid ((Kept.refl w).alloc (.cells #[.int .i64 (lvOf Q a), .slice ak nk ck, .slice av nv cv, .int .i64 (holdsOf Q a), .int .i64 (heldOf Q a)] 153))
 have HA : Hid (Has (w.alloc (.cells #[.int .i64 (lvOf Q a), .slice ak nk ck, .slice av nv cv, .int .i64 (holdsOf Q a), .int .i64 (heldOf Q a)] 153)) (stS p bank sp Q :: pts w.heap.size (.cells #[.int .i64 (lvOf Q a), .slice ak nk ck, .slice av nv cv, .int .i64 (holdsOf Q a), .int .i64 (heldOf Q a)] 153 (0, 0)) :: spaceS sp X :: l)) := hA.swap
 clear h hA
 cases hi : VMap.get a Q with
 | none =>
  rw [hi] at hlk
  simp only [Option.isSome_none] at hlk
  have Hi := Lib.hid hi
  clear hi hb hg
  have HF := Lib.hid HA.out.swap.tail
  clear HA
  go_enter Tryz.func28, Tryz.ntmps28
  go_wp2
  go_ret
  exact ⟨HK.out, .inl ⟨Hi.out, rfl, HF.out⟩⟩
 | some g =>
  rw [hi] at hlk
  simp only [Option.isSome_some] at hlk
  obtain ⟨⟨q0, q1⟩, q2, q3⟩ := hb g hi
  have e1 : holdsOf Q a = g.holds := by simp [holdsOf, hi]
  have e2 : heldOf Q a = g.held := by simp [heldOf, hi]
  rw [e1, e2] at HA HK hlk hg
  have Hi := Lib.hid hi
  have Hup := Lib.hid hup
  have Hg := Lib.hid hg
  clear hb hup e1 e2 hg
  by_cases h0 : g.held = 0
  ·have H0 := Lib.hid h0
   rw [h0] at hlk HK HA
   have HF := Lib.hid HA.out.swap.tail
   clear HA h0 hi
   go_enter Tryz.func28, Tryz.ntmps28
   go_wp2
   go_ret
   exact ⟨HK.out, .inr ⟨g, Hi.out, .inl ⟨H0.out, rfl, HF.out⟩⟩⟩
  ·have H0 := Lib.hid h0
   have h00 : (g.held == 0) = false := by simpa using h0
   have HOw := Lib.hid (st_own HA.out a (-1) g hi (by omega) (by omega) (by omega) (by omega) (by omega))
   clear hi h0 HA
   go_enter Tryz.func28, Tryz.ntmps28
   go_wp2_with fail
   refine HOw.out.mono ?_
   rintro r w1 ⟨rfl, hK1, h1⟩
   have HAd := Lib.hid (st_add h1.st_tight a (-1) { g with held := g.held + -1 } (by rw [get_put, if_pos rfl]) (by omega) (by show _ <= g.holds; omega) (by show g.holds <= _; omega) (by omega) (by omega))
   have HK1 := Lib.hid (HK.out.trans hK1)
   clear h1 hK1 HOw
   go_wp2_with fail
   refine HAd.out.mono ?_
   rintro r w2 ⟨rfl, hK2, h2⟩
   have h3 := h2.st_tight
   rw [put_put _ _ _ _ Hup.out] at h3
   have hbx := (h3.pull 1).got
   have d3 : w2.cell? ⟨w.heap.size, 3, none⟩ = some (.int .i64 g.holds) := cell_of hbx 3 rfl
   have ld := World.block_lt_of_cell? _ _ d3
   have h4 : Has w2 (stS p bank sp (VMap.put a (g.more (-1)) Q) :: spaceS sp X :: l) := h3.swap.tail
   have HK2 := Lib.hid (HK1.out.trans hK2)
   by_cases h1 : g.holds = 1
   ·have H1 := Lib.hid h1
    obtain ⟨X1, hgv, hgk⟩ := Hg.out h1 H0.out g Hi.out
    have HGo := Lib.hid (st_gone d a (g.more (-1)) h4 (by rw [get_put, if_pos rfl]) hgv (by rw [del_put _ _ _ Hup.out]; exact hgk))
    have h11 : (g.holds == 1) = true := by simpa using h1
    clear h2 h3 h4 hK2 HAd hbx h1 hgv hgk
    go_wp2_with fail
    refine HGo.out.mono ?_
    rintro r w3 ⟨rfl, hK3, h5⟩
    have HF : Hid (Kept w w3 /\ Has w3 (stS p bank sp Q' :: spaceS sp X' :: l)) := ⟨HK2.out.trans hK3, h5⟩
    clear hK3 h5 HGo
    go_wp2
    go_ret
    exact ⟨HF.out.1, .inr ⟨g, Hi.out, .inr (.inr ⟨H0.out, H1.out, rfl, HF.out.2⟩)⟩⟩
   ·have H1 := Lib.hid h1
    have h11 : (g.holds == 1) = false := by simpa using h1
    have HF : Hid (Kept w w2 /\ Has w2 (stS p bank sp (VMap.put a (g.more (-1)) Q) :: spaceS sp X :: l)) := ⟨HK2.out, h4⟩
    clear h2 h3 h4 hK2 HAd hbx h1
    go_wp2
    go_ret
    exact ⟨HF.out.1, .inr ⟨g, Hi.out, .inr (.inl ⟨H0.out, H1.out, rfl, HF.out.2⟩)⟩⟩
/-
  Pages (layer 11), plain: addresses; what Put and gone leave fits.
-/
theorem lenV_inj {d k d' k' : Nat} (hk : k < 4096) (hk' : k' < 4096) (h : lenV d k = lenV d' k') : d = d' /\ k = k' := by
 unfold lenV at h
 omega
theorem get_some_of {Q : Pgs} {k : Int} : VMap.get k Q = none ↔ (VMap.get k Q).isSome = false := by
 cases VMap.get k Q <;> simp
theorem put1_some (Q : Pgs) (a : Int) (n : Nd) (k : Int) : (VMap.get k (put1 Q a n)).isSome = (decide (k = a) || (VMap.get k Q).isSome) := by
 unfold put1
 rw [bumpAll_some, get_put]
 by_cases h : k = a
 ·simp [h]
 ·simp [h]
theorem Fits.put {X : Spc} {disks : List Dsk} {Q : Pgs} (h : Fits X disks Q) {d k : Nat} {y : Shelf} {secs : Dsk} (ht : Takes X d k y) (hs : disks[d]? = some secs) (n : Nd) (b : List Int) : Fits (X.put d (y.took k)) (disks.set d (secs.set k b)) (put1 Q (lenV d k) n) := by
 have hd := (List.getElem?_eq_some_iff.1 ht.shelf).1
 have hd2 := (List.getElem?_eq_some_iff.1 hs).1
 have hk4 := h.big d y ht.shelf
 have hhi := ht.hi
 refine ⟨by simp [Spc.put, h.len], ?_, ?_, ?_⟩
 ·intro d' y' secs' hy hs'
  by_cases e : d' = d
  ·subst e
   simp only [Spc.put, List.getElem?_set_self hd, List.getElem?_set_self hd2, Option.some.injEq] at hy hs'
   subst hy hs'
   rw [List.length_set]
   exact h.size d' y secs ht.shelf hs
  ·simp only [Spc.put, List.getElem?_set_ne (Ne.symm e)] at hy hs'
   exact h.size d' y' secs' hy hs'
 ·intro d' k' y' hy hk' hb
  rw [get_some_of, put1_some]
  by_cases e : d' = d
  ·subst e
   simp only [Spc.put, List.getElem?_set_self hd, Option.some.injEq] at hy
   subst hy
   have hk'' : k' < y.n := hk'
   simp only [Shelf.busy, Shelf.took, Bool.or_eq_false_iff, beq_eq_false_iff_ne] at hb
   have hne : lenV d' k' ≠ lenV d' k := fun he => hb.1.1 (lenV_inj (by omega) (by omega) he).2
   simp only [hne, decide_false, Bool.false_or]
   rw [<- get_some_of]
   exact h.free d' k' y ht.shelf hk'' (by simp [Shelf.busy, hb.1.2, hb.2])
  ·simp only [Spc.put, List.getElem?_set_ne (Ne.symm e)] at hy
   have hb4 := h.big d' y' hy
   have hne : lenV d' k' ≠ lenV d k := fun he => e (lenV_inj (by omega) (by omega) he).1
   simp only [hne, decide_false, Bool.false_or]
   rw [<- get_some_of]
   exact h.free d' k' y' hy hk' hb
 ·intro d' y' hy
  by_cases e : d' = d
  ·subst e
   simp only [Spc.put, List.getElem?_set_self hd, Option.some.injEq] at hy
   subst hy
   exact hk4
  ·simp only [Spc.put, List.getElem?_set_ne (Ne.symm e)] at hy
   exact h.big d' y' hy
theorem Fits.sub {X : Spc} {disks : List Dsk} {Q Q' : Pgs} (h : Fits X disks Q) (hs : ∀ k, (VMap.get k Q').isSome = true -> (VMap.get k Q).isSome = true) : Fits X disks Q' := by
 refine ⟨h.len, h.size, fun d k y hy hk hb => ?_, h.big⟩
 have := h.free d k y hy hk hb
 cases hg : VMap.get (lenV d k) Q' with
 | none => rfl
 | some g => have := hs (lenV d k) (by rw [hg]; rfl); rw [h.free d k y hy hk hb] at this; cases this
/-
  Law 11: the world that is made.
-/
def eSizes (zs : List Int) : List Ent := zs.map fun n => ⟨1, n.toNat⟩
def dSizes (zs : List Int) : List Dsk := zs.map fun n => List.replicate n.toNat zeros
def ptrV (b : Nat) : Value := .pointer (some ⟨b, 0, none⟩)
theorem take_snoc1 {α : Type} (zs : List α) (k : Nat) (h : k < zs.length) : zs.take (k + 1) = zs.take k ++ [zs[k]] := by
 rw [List.take_succ_eq_append_getElem h]
/-
  Law 11: a node over some pages of a store (above2).
-/
theorem Has.ints_one {w : World} {l : List Say} (h : Has w l) (x : Int) : Has (w.alloc (.cells #[.int .i64 x] 3)) (intsS (.slice (some ⟨w.heap.size, 0, none⟩) 1 1) [x] :: l) :=
 (h.alloc (.cells #[.int .i64 x] 3)).row_of_pts (by simp) (Nat.le_refl _) (by simp [maxLen]) (by simp) (by simp [intVal])
theorem Has.ints_at {w : World} {l : List Say} {g n c k : Nat} {xs : List Int} {x : Int} (h : Has w l) (hm : intsS (.slice (some ⟨g, 0, none⟩) n c) xs ∈ l) (hx : xs[k]? = some x) : w.cell? ⟨g, k, none⟩ = some (.int .i64 x) := by
 obtain ⟨_, _, e, _, hr⟩ := h.ints_read hm
 injection e with e1
 subst e1
 have hk := (List.getElem?_eq_some_iff.1 hx).1
 obtain ⟨_, e2, hc, _⟩ := hr k hk
 injection e2 with e3
 injection e3 with e4
 subst e4
 rw [hc]
 rw [List.getElem?_eq_getElem hk] at hx
 rw [Option.some.inj hx]
theorem Has.pts_ne {w : World} {l : List Say} {a b : Nat} {x y : Obj} (h : Has w (pts a x :: l)) (hm : pts b y ∈ l) : a ≠ b := by
 obtain ⟨h1, h2, hA, hl, d1, d2⟩ := h
 obtain ⟨p, hp, hk⟩ := Sep.mem hm hl
 rintro rfl
 have hA' : h1 a = some x := hA
 have hp' : p a = some y := hp
 have e1 := (d1 a (by rw [hA']; simp)).2
 have e2 := hk a (by rw [hp']; simp)
 rw [e1, hp'] at e2
 cases e2
theorem get_at {α : Type} : ∀ {Q : List (Int × α)}, VMap.Up Q -> ∀ (k : Nat) (hk : k < Q.length), VMap.get Q[k].1 Q = some Q[k].2
 | p :: Q, hu, 0, _ => by simp [VMap.get]
 | p :: Q, hu, k + 1, hk => by
  obtain ⟨h1, h2⟩ := List.pairwise_cons.1 hu
  have hm : Q[k]'(by simpa using hk) ∈ Q := List.getElem_mem _
  have hlt := h1 _ hm
  have ih := get_at h2 k (by simpa using hk)
  have hne : ¬ p.1 = (Q[k]'(by simpa using hk)).1 := by omega
  simp only [List.getElem_cons_succ]
  unfold VMap.get at ih ⊢
  rw [List.find?_cons]
  have : (p.1 == (Q[k]'(by simpa using hk)).1) = false := by simpa using hne
  rw [this]
  exact ih
end Go.Proofs.YtgbgneiciabidaaGreatDoor
