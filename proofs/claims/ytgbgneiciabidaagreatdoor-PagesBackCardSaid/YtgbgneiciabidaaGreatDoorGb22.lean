/-
  Pages (layer 11): a store of which the rows are told; pages that are taken up (Adopt), plain.
-/
import Derived.Test.YtgbgneiciabidaaGreatDoorGb21
import Derived.Test.YtgbgneiciabidaaGreatDoorGb16
import Derived.Test.YtgbgneiciabidaaGreatDoorGb18
import Derived.Deep.DeepCutAuto
namespace Go.Proofs.YtgbgneiciabidaaGreatDoor
open Go Go.RowKit
set_option linter.all false

/-- A store with the pages T, and where their rows are. -/
def stT (p bank sp : Nat) (T : List (Int × Sl)) : Say := ex fun mb : Nat => fact (StOk (VMap.over Sl.pg T) ⟨mb, T⟩) (all (storeFlat p bank sp 32768 ⟨mb, T⟩))
theorem Has.stT_open {w : World} {l : List Say} {p bank sp : Nat} {T : List (Int × Sl)} (h : Has w (stT p bank sp T :: l)) : ∃ mb, StOk (VMap.over Sl.pg T) ⟨mb, T⟩ ∧ Has w (storeFlat p bank sp 32768 ⟨mb, T⟩ ++ l) := by
  obtain ⟨mb, h⟩ := h.opened
  obtain ⟨ok, h⟩ := h.unfact
  exact ⟨mb, ok, h.split⟩
theorem Has.stT_shut {w : World} {l : List Say} {p bank sp mb : Nat} {T : List (Int × Sl)} (ok : StOk (VMap.over Sl.pg T) ⟨mb, T⟩) (h : Has w (storeFlat p bank sp 32768 ⟨mb, T⟩ ++ l)) : Has w (stT p bank sp T :: l) := Has.chosen mb (Has.tofact ok h.unite)
theorem Has.stT_of {w : World} {l : List Say} {p bank sp : Nat} {Q : Pgs} (h : Has w (stS p bank sp Q :: l)) : ∃ T, VMap.over Sl.pg T = Q ∧ Has w (stT p bank sp T :: l) := by
  obtain ⟨⟨mb, T⟩, ok, hh⟩ := h.st_open
  have e := ok.eq
  simp only at e
  subst e
  exact ⟨T, rfl, Has.stT_shut ok hh⟩
theorem Has.stT_to {w : World} {l : List Say} {p bank sp : Nat} {T : List (Int × Sl)} (h : Has w (stT p bank sp T :: l)) : Has w (stS p bank sp (VMap.over Sl.pg T) :: l) := by
  obtain ⟨mb, ok, hh⟩ := h.stT_open
  exact Has.st_shut ok hh
theorem flat_tight {w : World} {l : List Say} {p bank sp n mb : Nat} {T : List (Int × Sl)} (ok : StOk (VMap.over Sl.pg T) ⟨mb, T⟩) (hh : Has w (storeFlat p bank sp n ⟨mb, T⟩ ++ l)) : Has w (storeFlat p bank sp 32768 ⟨mb, T⟩ ++ l) := by
  have h2 : Has w (mapS mb n (VMap.over Sl.val T) :: storeCell p bank sp mb :: (pool T ++ l)) := hh.swap
  have hl : (VMap.over Sl.val T).length ≤ 32768 := by
    have e1 : (VMap.over Sl.val T).length = T.length := by simp [VMap.over]
    have := up_len 32768 T 0 ok.up fun q hq => by
      have hm : (q.1, q.2.pg) ∈ VMap.over Sl.pg T := List.mem_map.2 ⟨q, hq, rfl⟩
      exact ok.bd _ hm
    omega
  exact (map_more hl h2.map_tight).swap
theorem Has.stT_cells {w : World} {l : List Say} {p bank sp : Nat} {T : List (Int × Sl)} (h : Has w (stT p bank sp T :: l)) : w.cell? ⟨p, 0, none⟩ = some (.pointer (some ⟨bank, 0, none⟩)) ∧ w.cell? ⟨p, 1, none⟩ = some (.pointer (some ⟨sp, 0, none⟩)) := h.stT_to.st_cell
/-- A page gets other holds. -/
theorem Has.stT_again {w : World} {l : List Say} {p bank sp n mb : Nat} {T : List (Int × Sl)} {a : Int} {t : Sl} {g' : Pg} (ok : StOk (VMap.over Sl.pg T) ⟨mb, T⟩) (hg : VMap.get a T = some t) (hn : g'.n = t.pg.n)
    (h : Has w (storeCell p bank sp mb :: mapS mb n (VMap.put a (Sl.val { t with pg := g' }) (VMap.over Sl.val T)) :: (pool T ++ l))) : Has w (stT p bank sp (VMap.put a { t with pg := g' } T) :: l) := by
  have ok2 : StOk (VMap.over Sl.pg (VMap.put a { t with pg := g' } T)) ⟨mb, VMap.put a { t with pg := g' } T⟩ := by
    rw [VMap.over_put]
    have hm : (a, t.pg) ∈ VMap.over Sl.pg T := List.mem_map.2 ⟨_, get_mem hg, rfl⟩
    refine ⟨VMap.over_put _ _ _ _, ok.up.put _ _, ?_, ?_⟩
    · intro q hq
      rcases put_mem hq with rfl | hq
      · exact ok.bd (a, t.pg) hm
      · exact ok.bd q hq
    · intro q hq
      rcases put_mem hq with rfl | hq
      · show Nd.ok g'.n = true
        rw [hn]
        exact ok.ok (a, t.pg) hm
      · exact ok.ok q hq
  refine Has.stT_shut ok2 (flat_tight (n := n) ok2 ?_)
  · unfold storeFlat
    rw [VMap.over_put]
    refine h.perm (List.Perm.cons _ (List.Perm.cons _ (List.Perm.append_right l ?_)))
    refine (pool_split ok.up hg).trans (List.Perm.trans ?_ (pool_put T a { t with pg := g' }).symm)
    have e : Sl.rows { t with pg := g' } = Sl.rows t := by simp [Sl.rows, hn]
    rw [e]
/-- A page is new. -/
theorem Has.stT_newpage {w : World} {l : List Say} {p bank sp n mb : Nat} {T : List (Int × Sl)} {a : Int} {t : Sl} (ok : StOk (VMap.over Sl.pg T) ⟨mb, T⟩) (hT : VMap.get a T = none) (b0 : 0 ≤ a) (b1 : a < 32768) (hn : t.pg.n.ok = true)
    (h : Has w (mapS mb n (VMap.put a t.val (VMap.over Sl.val T)) :: intsS t.kv t.pg.n.keys :: intsS t.vv t.pg.n.vals :: storeCell p bank sp mb :: (pool T ++ l))) : Has w (stT p bank sp (VMap.put a t T) :: l) := by
  have ok2 : StOk (VMap.over Sl.pg (VMap.put a t T)) ⟨mb, VMap.put a t T⟩ := by
    rw [VMap.over_put]
    refine ⟨VMap.over_put _ _ _ _, ok.up.put _ _, ?_, ?_⟩
    · intro q hq
      rcases put_mem hq with rfl | hq
      · exact ⟨b0, b1⟩
      · exact ok.bd q hq
    · intro q hq
      rcases put_mem hq with rfl | hq
      · exact hn
      · exact ok.ok q hq
  refine Has.stT_shut ok2 (flat_tight (n := n) ok2 ?_)
  unfold storeFlat
  rw [VMap.over_put]
  have h1 : Has w (t.rows ++ (storeCell p bank sp mb :: mapS mb n (VMap.put a t.val (VMap.over Sl.val T)) :: (pool T ++ l))) := h.push 3
  have h2 := h1.unite
  refine h2.perm ?_
  refine (List.Perm.swap _ _ _).trans (List.Perm.cons _ ((List.Perm.swap _ _ _).trans (List.Perm.cons _ ?_)))
  have hp := pool_put T a t
  rw [del_none hT] at hp
  exact (hp.append_right l).symm
/-- The rows of a page. -/
theorem Has.stT_rows {w : World} {l : List Say} {p bank sp : Nat} {T : List (Int × Sl)} {a : Int} {t : Sl} (h : Has w (stT p bank sp T :: l)) (ht : VMap.get a T = some t) : ∃ l', Has w (intsS t.kv t.pg.n.keys :: intsS t.vv t.pg.n.vals :: l') := by
  obtain ⟨mb, ok, hh⟩ := h.stT_open
  exact ⟨_, Has.st_page ok.up ht hh⟩

/-- The rows stay where they are. -/
def SameT (T T' : List (Int × Sl)) : Prop := ∀ k t, VMap.get k T = some t → ∃ t', VMap.get k T' = some t' ∧ t'.kv = t.kv ∧ t'.vv = t.vv ∧ t'.pg.n = t.pg.n
theorem SameT.refl (T : List (Int × Sl)) : SameT T T := fun k t h => ⟨t, h, rfl, rfl, rfl⟩
theorem SameT.trans {T U V : List (Int × Sl)} (h : SameT T U) (h2 : SameT U V) : SameT T V := fun k t ht => by
  obtain ⟨u, hu, a, b, c⟩ := h k t ht
  obtain ⟨v, hv, a', b', c'⟩ := h2 k u hu
  exact ⟨v, hv, a'.trans a, b'.trans b, c'.trans c⟩
theorem SameT.put_new {T : List (Int × Sl)} {a : Int} {t : Sl} (h : VMap.get a T = none) : SameT T (VMap.put a t T) := fun k u hu => by
  refine ⟨u, ?_, rfl, rfl, rfl⟩
  rw [get_put, if_neg (fun e => by subst e; rw [h] at hu; cases hu)]; exact hu
theorem SameT.put_old {T : List (Int × Sl)} {a : Int} {t : Sl} {g' : Pg} (h : VMap.get a T = some t) (hn : g'.n = t.pg.n) : SameT T (VMap.put a { t with pg := g' } T) := fun k u hu => by
  rw [get_put]
  by_cases e : k = a
  · subst e
    rw [h] at hu
    obtain rfl := Option.some.inj hu
    rw [if_pos rfl]
    exact ⟨_, rfl, rfl, rfl, hn⟩
  · rw [if_neg e]; exact ⟨u, hu, rfl, rfl, rfl⟩
theorem put_len_none {α : Type} {a : Int} {v : α} {Q : List (Int × α)} (h : VMap.get a Q = none) : (VMap.put a v Q).length = Q.length + 1 := by
  unfold VMap.put
  rw [del_none h, (VMap.ins_perm _ _).length_eq]; rfl
theorem put_len_some {α : Type} {a : Int} {u v : α} {Q : List (Int × α)} (hu : VMap.Up Q) (h : VMap.get a Q = some u) : (VMap.put a v Q).length = Q.length := by
  unfold VMap.put
  rw [(VMap.ins_perm _ _).length_eq, (VMap.get_split hu h).length_eq]; rfl

/-- A sector in the room is marked. -/
def Marks (X : Spc) (a : Int) (X' : Spc) : Prop := ∃ d k e y, a = lenV d k ∧ InRoom X d k e y ∧ y.taken k = false ∧ y.given k = false ∧ d < 8 ∧ k < 4096 ∧ X' = X.put d (y.mark k)
/-- The pages below ks are taken up, as F has them, d deep at most. -/
inductive AdK (F : Pgs) : Nat → List Int → Pgs → Spc → Pgs → Spc → Prop
  | nil (d : Nat) (Q : Pgs) (X : Spc) : AdK F d [] Q X Q X
  | there {d : Nat} {k : Int} {ks : List Int} {Q : Pgs} {X : Spc} {Q' : Pgs} {X' : Spc} {g : Pg} : VMap.get k Q = some g → 0 ≤ g.holds → g.holds ≤ 1000000 → AdK F d ks (VMap.put k { g with holds := g.holds + 1 } Q) X Q' X' → AdK F d (k :: ks) Q X Q' X'
  | new {d : Nat} {k : Int} {ks : List Int} {Q : Pgs} {X X1 : Spc} {Q2 : Pgs} {X2 : Spc} {Q' : Pgs} {X' : Spc} {gf : Pg} : VMap.get k Q = none → VMap.get k F = some gf → Marks X k X1 → AdK F d gf.n.kids (VMap.put k ⟨gf.n, 1, 0⟩ Q) X1 Q2 X2 → AdK F (d + 1) ks Q2 X2 Q' X' → AdK F (d + 1) (k :: ks) Q X Q' X'
theorem AdK.inv {F : Pgs} {d : Nat} {k : Int} {ks : List Int} {Q : Pgs} {X : Spc} {Q' : Pgs} {X' : Spc} (h : AdK F d (k :: ks) Q X Q' X') :
    (∃ g, VMap.get k Q = some g ∧ 0 ≤ g.holds ∧ g.holds ≤ 1000000 ∧ AdK F d ks (VMap.put k { g with holds := g.holds + 1 } Q) X Q' X') ∨
    ∃ d1 X1 Q2 X2 gf, d = d1 + 1 ∧ VMap.get k Q = none ∧ VMap.get k F = some gf ∧ Marks X k X1 ∧ AdK F d1 gf.n.kids (VMap.put k ⟨gf.n, 1, 0⟩ Q) X1 Q2 X2 ∧ AdK F (d1 + 1) ks Q2 X2 Q' X' := by
  cases h with
  | there a b c e => exact .inl ⟨_, a, b, c, e⟩
  | new a b c e f => exact .inr ⟨_, _, _, _, _, rfl, a, b, c, e, f⟩
theorem AdK.one {F : Pgs} {d : Nat} {k : Int} {ks : List Int} {Q : Pgs} {X : Spc} {Q' : Pgs} {X' : Spc} (h : AdK F d (k :: ks) Q X Q' X') : ∃ Q1 X1, AdK F d [k] Q X Q1 X1 ∧ AdK F d ks Q1 X1 Q' X' := by
  cases h with
  | there a b c e => exact ⟨_, _, .there a b c (.nil _ _ _), e⟩
  | new a b c e f => exact ⟨_, _, .new a b c e (.nil _ _ _), f⟩
/-- What stands is as F has it. -/
def SubP (Q F : Pgs) : Prop := ∀ k g, VMap.get k Q = some g → ∃ gf, VMap.get k F = some gf ∧ gf.n = g.n
theorem SubP.there {Q F : Pgs} {k : Int} {g g' : Pg} (h : SubP Q F) (hg : VMap.get k Q = some g) (hn : g'.n = g.n) : SubP (VMap.put k g' Q) F := fun j x hx => by
  rw [get_put] at hx
  by_cases e : j = k
  · subst e
    rw [if_pos rfl] at hx
    obtain rfl := Option.some.inj hx
    rw [hn]; exact h _ g hg
  · rw [if_neg e] at hx; exact h j x hx
theorem SubP.new {Q F : Pgs} {k : Int} {gf g' : Pg} (h : SubP Q F) (hf : VMap.get k F = some gf) (hn : g'.n = gf.n) : SubP (VMap.put k g' Q) F := fun j x hx => by
  rw [get_put] at hx
  by_cases e : j = k
  · subst e
    rw [if_pos rfl] at hx
    obtain rfl := Option.some.inj hx
    exact ⟨gf, hf, hn.symm⟩
  · rw [if_neg e] at hx; exact h j x hx
theorem AdK.sub {F : Pgs} {d : Nat} {ks : List Int} {Q : Pgs} {X : Spc} {Q' : Pgs} {X' : Spc} (h : AdK F d ks Q X Q' X') (hs : SubP Q F) : SubP Q' F := by
  induction h with
  | nil => exact hs
  | there a b c e ih => exact ih (hs.there a rfl)
  | new a b c e f ih1 ih2 => exact ih2 (ih1 (hs.new b rfl))
theorem AdK.stays {F : Pgs} {d : Nat} {ks : List Int} {Q : Pgs} {X : Spc} {Q' : Pgs} {X' : Spc} (h : AdK F d ks Q X Q' X') : ∀ j, (VMap.get j Q).isSome = true → (VMap.get j Q').isSome = true := by
  induction h with
  | nil => exact fun _ h => h
  | there a b c e ih =>
    intro j hj
    refine ih j ?_
    rw [get_put]; split
    · rfl
    · exact hj
  | new a b c e f ih1 ih2 =>
    intro j hj
    refine ih2 j (ih1 j ?_)
    rw [get_put]; split
    · rfl
    · exact hj
theorem AdK.has {F : Pgs} {d : Nat} {ks : List Int} {Q : Pgs} {X : Spc} {Q' : Pgs} {X' : Spc} (h : AdK F d ks Q X Q' X') : ∀ k ∈ ks, (VMap.get k Q').isSome = true := by
  induction h with
  | nil => intro k hk; cases hk
  | there a b c e ih =>
    intro j hj
    rcases List.mem_cons.1 hj with rfl | hj
    · exact e.stays _ (by rw [get_put, if_pos rfl]; rfl)
    · exact ih j hj
  | new a b c e f ih1 ih2 =>
    intro j hj
    rcases List.mem_cons.1 hj with rfl | hj
    · exact f.stays _ (e.stays _ (by rw [get_put, if_pos rfl]; rfl))
    · exact ih2 j hj
/-- The devices' pages: sound, each kid one level down. -/
structure FOk (F : Pgs) (disks : List Dsk) : Prop where
  ok : ∀ k g, VMap.get k F = some g → g.n.ok = true ∧ ∀ c ∈ g.n.kids, ∃ gc, VMap.get c F = some gc ∧ gc.n.level = g.n.level - 1
  at_ : ∀ k g, VMap.get k F = some g → ∃ d kk secs, k = lenV d kk ∧ d < 8 ∧ kk < 4096 ∧ disks[d]? = some secs ∧ secs[kk]? = some (frameOf 2 (nodeBytes g.n))
theorem SubP.lv {Q F : Pgs} (h : SubP Q F) {c : Int} {gc : Pg} (hs : (VMap.get c Q).isSome = true) (hf : VMap.get c F = some gc) : lvOf Q c = gc.n.level := by
  obtain ⟨g, hg⟩ := Option.isSome_iff_exists.1 hs
  obtain ⟨gf, h1, h2⟩ := h c g hg
  rw [hf] at h1
  obtain rfl := Option.some.inj h1
  unfold lvOf
  rw [hg, h2]; rfl
end Go.Proofs.YtgbgneiciabidaaGreatDoor
/-
  Pages (layer 11): adopt.
-/
namespace Go.Proofs.YtgbgneiciabidaaGreatDoor
open Go Go.RowKit
set_option linter.all false

def AddPostT (p bank sp : Nat) (T : List (Int × Sl)) (l : List Say) (w : World) (r : Ending) (w' : World) : Prop := r = .returned (.tuple #[]) ∧ Kept w w' ∧ Has w' (stT p bank sp T :: l)
set_option maxHeartbeats 1000000 in
set_option maxRecDepth 100000 in
theorem stT_add {w : World} {l : List Say} {p bank sp : Nat} {T : List (Int × Sl)} (h : Has w (stT p bank sp T :: l)) (a more : Int) (t : Sl) (ht : VMap.get a T = some t) (h0 : -1000000000 ≤ t.pg.holds) (h1 : t.pg.holds ≤ 1000000000) (m0 : -10 ≤ more) (m1 : more ≤ 10) :
    Calls Tryz.prog 83 #[.pointer (some ⟨p, 0, none⟩), .int .i64 a, .int .i64 more] w (AddPostT p bank sp (VMap.put a { t with pg := { t.pg with holds := t.pg.holds + more } } T) l w) := by
  obtain ⟨mb, ok, hh⟩ := h.stT_open
  obtain ⟨⟨nd, H, E⟩, kv, vv⟩ := t
  simp only at h0 h1 ⊢
  have hbd := ok.bd (a, ⟨nd, H, E⟩) (show (a, (⟨nd, H, E⟩ : Pg)) ∈ VMap.over Sl.pg T from List.mem_map.2 ⟨_, get_mem ht, rfl⟩)
  simp only at hbd
  have hsl := hh.pool_sl (T := T) (fun A hA => by simp [storeFlat, hA])
  obtain ⟨⟨ak, nk, ck, ek⟩, av, nv, cv, ev⟩ := hsl _ (get_mem ht)
  simp only at ek ev
  subst ek ev
  have hval : Sl.val ⟨⟨nd, H, E⟩, .slice ak nk ck, .slice av nv cv⟩ = .agg #[.int .i64 nd.level, .slice ak nk ck, .slice av nv cv, .int .i64 H, .int .i64 E] := rfl
  have hlk := map_look hh (b := mb) (n := 32768) (M := VMap.over Sl.val T) (by simp [storeFlat]) a (by omega) (by omega)
  rw [VMap.get_over, ht] at hlk
  simp only [Option.map_some, Option.getD_some, hval] at hlk
  have hp : w.heap[p]? = some (.cells #[.pointer (some ⟨bank, 0, none⟩), .pointer (some ⟨sp, 0, none⟩), .map (some mb), .map none] 147 (0, 0)) := hh.got
  have c2 : w.cell? ⟨p, 2, none⟩ = some (.map (some mb)) := cell_of hp 2 rfl
  have hA := hh.alloc (.cells #[.int .i64 nd.level, .slice ak nk ck, .slice av nv cv, .int .i64 H, .int .i64 E] 153)
  have k0 := cell_of hA.got 0 rfl
  have k1 := cell_of hA.got 1 rfl
  have k2 := cell_of hA.got 2 rfl
  have k3 := cell_of hA.got 3 rfl
  have k4 := cell_of hA.got 4 rfl
  have f3 := thaw_of hA.got 3
  have hA2 := (hA.setCell 3 (.int .i64 (H + more))).drew
  have hA3 := hA2.tail
  obtain ⟨w9, hrun, hK9, hh9⟩ := map_store (hA3.pull 1) (by simp [maxLen]) a (by omega) (by omega) (.agg #[.int .i64 nd.level, .slice ak nk ck, .slice av nv cv, .int .i64 (H + more), .int .i64 E])
  have hwr : IntKind.i64.wrap (H + more) = H + more := by rw [IntKind.wrap_i64]; omega
  have HF : Hid (Kept w w9 ∧ Has w9 (stT p bank sp (VMap.put a ⟨⟨nd, H + more, E⟩, .slice ak nk ck, .slice av nv cv⟩ T) :: l)) :=
    ⟨((((Kept.refl w).alloc _).setCell _ _).drew).trans hK9, Has.stT_again (t := ⟨⟨nd, H, E⟩, .slice ak nk ck, .slice av nv cv⟩) (g' := ⟨nd, H + more, E⟩) ok ht rfl hh9.swap⟩
  have hlp : p < w.heap.size := World.block_lt_of_cell? _ _ c2
  have g2 := cell_of hA2.tail.got 2 rfl
  have g3 := cell_of hA2.got 0 rfl
  have g4 := cell_of hA2.got 1 rfl
  have g5 := cell_of hA2.got 2 rfl
  have g6 := cell_of hA2.got 3 rfl
  have g7 := cell_of hA2.got 4 rfl
  have c2w : (w.alloc (.cells #[.int .i64 nd.level, .slice ak nk ck, .slice av nv cv, .int .i64 H, .int .i64 E] 153)).cell? ⟨p, 2, none⟩ = some (.map (some mb)) := by rw [World.cell?_alloc_lt _ _ _ hlp]; exact c2
  have hne : w.heap.size ≠ p := by omega
  clear hK9 hh9 hA hA2 hA3 hh h ok hsl hp hval ht
  generalize nd.level = L at *
  go_enter Tryz.func83, Tryz.ntmps83
  go_upto_region 1 with fail
  generalize w.alloc (.cells #[.int .i64 L, .slice ak nk ck, .slice av nv cv, .int .i64 H, .int .i64 E] 153) = W at *
  have lb := World.block_lt_of_cell? _ _ k0
  generalize w.heap.size = b at *
  clear c2 hlk
  go_upto_region 2 with fail
  have G2 : (W.setCell ⟨b, 3, none⟩ (.int .i64 (H + more))).cell? ⟨p, 2, none⟩ = some (.map (some mb)) := g2
  have G3 : (W.setCell ⟨b, 3, none⟩ (.int .i64 (H + more))).cell? ⟨b, 0, none⟩ = some (.int .i64 L) := g3
  have G4 : (W.setCell ⟨b, 3, none⟩ (.int .i64 (H + more))).cell? ⟨b, 1, none⟩ = some (.slice ak nk ck) := g4
  have G5 : (W.setCell ⟨b, 3, none⟩ (.int .i64 (H + more))).cell? ⟨b, 2, none⟩ = some (.slice av nv cv) := g5
  have G6 : (W.setCell ⟨b, 3, none⟩ (.int .i64 (H + more))).cell? ⟨b, 3, none⟩ = some (.int .i64 (H + more)) := g6
  have G7 : (W.setCell ⟨b, 3, none⟩ (.int .i64 (H + more))).cell? ⟨b, 4, none⟩ = some (.int .i64 E) := g7
  clear g2 g3 g4 g5 g6 g7 k0 k1 k2 k3 k4 f3 c2w lb
  generalize W.setCell ⟨b, 3, none⟩ (.int .i64 (H + more)) = V at *
  have lb := World.block_lt_of_cell? _ _ G3
  have lp := World.block_lt_of_cell? _ _ G2
  go_still_tail 6, (by kernel_rfl)
  change wpList _ _ _ _ _ V.drew
  generalize V.drew = V8 at *
  go_wp2
  go_end0
  exact ⟨rfl, HF.out⟩

end Go.Proofs.YtgbgneiciabidaaGreatDoor
/-
  Pages (layer 11): adopt, the walk.
-/
namespace Go.Proofs.YtgbgneiciabidaaGreatDoor
open Go Go.RowKit
set_option linter.all false

def AdSt (p bank sp N m : Nat) (disks : List Dsk) (T : List (Int × Sl)) (X : Spc) (l : List Say) (w : World) : Prop :=
  ∃ ms am cm, ms.length ≤ T.length ∧ Has w (stT p bank sp T :: bankS N bank disks :: spaceS sp X :: pts m (.cells #[.slice am ms.length cm] 22 (0, 0)) :: intsS (.slice am ms.length cm) ms :: l)
def AdPost (p bank sp N m : Nat) (disks : List Dsk) (T : List (Int × Sl)) (Q' : Pgs) (X' : Spc) (l : List Say) (w : World) (r : Ending) (w' : World) : Prop :=
  r = .returned .nilIface ∧ Kept w w' ∧ ∃ T', VMap.over Sl.pg T' = Q' ∧ SameT T T' ∧ AdSt p bank sp N m disks T' X' l w'
def AdC (F : Pgs) (disks : List Dsk) (N d : Nat) : Prop := ∀ {w : World} {l : List Say} {p bank sp m : Nat} {T : List (Int × Sl)} {X : Spc} {Q' : Pgs} {X' : Spc} (a : Int), AdSt p bank sp N m disks T X l w → SubP (VMap.over Sl.pg T) F → AdK F d [a] (VMap.over Sl.pg T) X Q' X' →
  Calls Tryz.prog 93 #[.pointer (some ⟨p, 0, none⟩), .int .i64 a, .pointer (some ⟨m, 0, none⟩)] w (AdPost p bank sp N m disks T Q' X' l w)
def AdMid (F : Pgs) (d p bank sp N m r9 : Nat) (disks : List Dsk) (a : Int) (nd : Nd) (kv vv : Value) (T : List (Int × Sl)) (Q' : Pgs) (X' : Spc) (l : List Say) (w : World) (j : Nat) (wr : World) : Prop :=
  ∃ Tj Xj t, AdK F d (nd.kids.drop j) (VMap.over Sl.pg Tj) Xj Q' X' ∧ SubP (VMap.over Sl.pg Tj) F ∧ SameT T Tj ∧ VMap.get a Tj = some t ∧ t.kv = kv ∧ t.vv = vv ∧ t.pg.n = nd ∧ Kept w wr ∧
    AdSt p bank sp N m disks Tj Xj (pts r9 (.cells #[.int .i64 nd.level, kv, vv] 35 (0, 0)) :: l) wr
theorem Has.st_look_n {w : World} {l : List Say} {p bank sp n : Nat} {Q : Pgs} (h : Has w (storeS p bank sp n Q :: l)) (k : Int) (b0 : -9223372036854775808 ≤ k) (b1 : k ≤ 9223372036854775807) :
    ∃ mb v, StLook w p sp mb Q k v ∧ ∀ m, (Instr.lookup 145 (.map (some mb)) (.int .i64 k) false).run Tryz.prog (w.drewN m) = .ok v (w.drewN m) := by
  obtain ⟨x, ok, hh⟩ := h.st_open
  have hsl := hh.pool_sl (T := x.T) (fun A hA => by simp [storeFlat, hA])
  have hp : w.heap[p]? = some (.cells #[.pointer (some ⟨bank, 0, none⟩), .pointer (some ⟨sp, 0, none⟩), .map (some x.mb), .map none] 147 (0, 0)) := hh.got
  have hlk := map_look hh (b := x.mb) (n := n) (M := VMap.over Sl.val x.T) (by simp [storeFlat]) k b0 b1
  have hlkn := fun m => map_look (hh.below (below_drewN (Below.refl w.heap.size w) m)) (b := x.mb) (n := n) (M := VMap.over Sl.val x.T) (by simp [storeFlat]) k b0 b1
  have hlk2 := map_look_ok hh (b := x.mb) (n := n) (M := VMap.over Sl.val x.T) (by simp [storeFlat]) k b0 b1
  have hiso : (VMap.get k (VMap.over Sl.val x.T)).isSome = (VMap.get k Q).isSome := by rw [← ok.eq, VMap.get_over, VMap.get_over]; cases VMap.get k x.T <;> rfl
  rw [hiso] at hlk2
  refine ⟨x.mb, _, ⟨cell_of hp 1 rfl, cell_of hp 2 rfl, hlk, hlk2, ?_⟩, hlkn⟩
  rw [← ok.eq]
  unfold lvOf holdsOf heldOf
  rw [VMap.get_over, VMap.get_over]
  cases hg : VMap.get k x.T with
  | none => exact ⟨_, _, _, _, _, _, rfl⟩
  | some t =>
    obtain ⟨⟨ak, nk, ck, ek⟩, av, nv, cv, ev⟩ := hsl _ (get_mem hg)
    obtain ⟨⟨nd, H, E⟩, kv, vv⟩ := t
    simp only at ek ev
    subst ek ev
    exact ⟨ak, nk, ck, av, nv, cv, rfl⟩
theorem page_perm (c k v : Say) (P R : List Say) : (c :: (P ++ k :: v :: R)).Perm (k :: v :: c :: (P ++ R)) :=
  (List.perm_middle (l₁ := c :: P)).trans (List.Perm.cons _ (List.perm_middle (l₁ := c :: P)))
theorem L2_perm (a b c d e f g h i : Say) (l : List Say) : (a :: b :: c :: d :: e :: f :: g :: h :: i :: l).Perm (c :: h :: f :: g :: i :: d :: a :: b :: e :: l) := by
  refine (List.perm_middle (l₁ := [a, b])).trans (List.Perm.cons _ ?_)
  refine (List.perm_middle (l₁ := [a, b, d, e, f, g])).trans (List.Perm.cons _ ?_)
  refine (List.perm_middle (l₁ := [a, b, d, e])).trans (List.Perm.cons _ ?_)
  refine (List.perm_middle (l₁ := [a, b, d, e])).trans (List.Perm.cons _ ?_)
  refine (List.perm_middle (l₁ := [a, b, d, e])).trans (List.Perm.cons _ ?_)
  exact List.perm_middle (l₁ := [a, b])
theorem AdSt.len {p bank sp N m : Nat} {disks : List Dsk} {T : List (Int × Sl)} {X : Spc} {l : List Say} {w : World} (h : AdSt p bank sp N m disks T X l w) : T.length ≤ 32768 := by
  obtain ⟨ms, am, cm, _, hh⟩ := h
  obtain ⟨mb, ok, _⟩ := hh.stT_open
  have := up_len 32768 T 0 ok.up fun q hq => by
    have hm : (q.1, q.2.pg) ∈ VMap.over Sl.pg T := List.mem_map.2 ⟨q, hq, rfl⟩
    exact ok.bd _ hm
  omega

set_option maxHeartbeats 4000000 in
set_option maxRecDepth 100000 in
theorem adopt_step {F : Pgs} {disks : List Dsk} {N : Nat} (hF : FOk F disks) (hN : N ≤ 1000000) (d : Nat) (ih : ∀ d', d = d' + 1 → AdC F disks N d') : AdC F disks N d := by
  intro w l p bank sp m T X Q' X' a hst hsub hk
  have hT := hst.len
  obtain ⟨ms, am, cm, hms, h⟩ := hst
  rcases hk.inv with ⟨g, hg, q0, q1, hk2⟩ | ⟨d1, X1, Q2, X2, gf, hd, hg, hgf, hmk, hk2, hk3⟩
  · -- the page stands
    have ⟨b0, b1⟩ : 0 ≤ a ∧ a < 32768 := by
      obtain ⟨mb, ok, _⟩ := h.stT_open
      exact ok.bd _ (get_mem hg)
    obtain ⟨mb, v, ⟨c1, c2, _, hlk, ak, nk, ck, av, nv, cv, rfl⟩⟩ := h.stT_to.st_look a (by omega) (by omega)
    rw [hg] at hlk
    simp only [Option.isSome_some] at hlk
    have lp := World.block_lt_of_cell? _ _ c2
    rw [VMap.get_over] at hg
    obtain ⟨t, ht, rfl⟩ := Option.map_eq_some_iff.1 hg
    have hA := h.alloc_off (.cells #[.int .i64 (lvOf (VMap.over Sl.pg T) a), .slice ak nk ck, .slice av nv cv, .int .i64 (holdsOf (VMap.over Sl.pg T) a), .int .i64 (heldOf (VMap.over Sl.pg T) a)] 153)
    have HK := Lib.hid ((Kept.refl w).alloc (.cells #[.int .i64 (lvOf (VMap.over Sl.pg T) a), .slice ak nk ck, .slice av nv cv, .int .i64 (holdsOf (VMap.over Sl.pg T) a), .int .i64 (heldOf (VMap.over Sl.pg T) a)] 153))
    have HAd := Lib.hid (stT_add hA a 1 t ht (by omega) (by omega) (by omega) (by omega))
    have HE : Hid (VMap.over Sl.pg (VMap.put a { t with pg := { t.pg with holds := t.pg.holds + 1 } } T) = Q' ∧ X = X' ∧ SameT T (VMap.put a { t with pg := { t.pg with holds := t.pg.holds + 1 } } T) ∧ ms.length ≤ (VMap.put a { t with pg := { t.pg with holds := t.pg.holds + 1 } } T).length) := by
      have hup : VMap.Up T := by
        obtain ⟨mb, ok, _⟩ := h.stT_open
        exact ok.up
      cases hk2
      refine ⟨by rw [VMap.over_put], rfl, SameT.put_old ht rfl, ?_⟩
      rw [put_len_some hup ht]; exact hms
    clear h hA hg hk hk2 ih hsub ht hF hms
    go_enter Tryz.func93, Tryz.ntmps93
    go_wp2_with fail
    refine HAd.out.mono ?_
    rintro r w1 ⟨rfl, hK1, h1⟩
    have HFin : Hid (AdPost p bank sp N m disks T Q' X' l w (.returned .nilIface) w1) := by
      obtain ⟨e1, rfl, e3, e4⟩ := HE.out
      exact ⟨rfl, HK.out.trans hK1, _, e1, e3, ms, am, cm, e4, h1⟩
    clear h1 hK1 HAd HE
    go_wp2
    go_ret
    exact HFin.out
  · -- it is new
    obtain ⟨dd, k, e, y, rfl, hr, htk, hgv, hd8, hk4, rfl⟩ := hmk
    obtain ⟨nok, nkids⟩ := hF.ok _ gf hgf
    obtain ⟨d2, k2, secs, e2, f1, f2, f3, f4⟩ := hF.at_ _ gf hgf
    obtain ⟨rfl, rfl⟩ := lenV_inj hk4 f2 e2
    have b0 : (0 : Int) ≤ lenV dd k := by unfold lenV; omega
    have b1 : lenV dd k < 32768 := by unfold lenV; omega
    obtain ⟨mb, v, ⟨c1, c2, _, hlk, ak, nk, ck, av, nv, cv, rfl⟩⟩ := h.stT_to.st_look (lenV dd k) (by omega) (by omega)
    rw [hg] at hlk
    simp only [Option.isSome_none] at hlk
    have lp := World.block_lt_of_cell? _ _ c2
    have hgT : VMap.get (lenV dd k) T = none := by
      rw [VMap.get_over, Option.map_eq_none_iff] at hg
      exact hg
    generalize hPg : (Obj.cells #[.int .i64 (lvOf (VMap.over Sl.pg T) (lenV dd k)), .slice ak nk ck, .slice av nv cv, .int .i64 (holdsOf (VMap.over Sl.pg T) (lenV dd k)), .int .i64 (heldOf (VMap.over Sl.pg T) (lenV dd k))] 153) = pgo
    have hA := h.alloc_off pgo
    have HK := Lib.hid ((Kept.refl w).alloc pgo)
    have HRd := Lib.hid (st_read gf.n nok hA hA.stT_cells.1 dd k f1 f2 secs f3 f4 hN)
    obtain ⟨nd, hnd⟩ : ∃ nd, nd = gf.n := ⟨_, rfl⟩
    rw [← hnd] at nok nkids hk2 HRd
    have Hnd := Lib.hid hnd
    have Hlv : Hid (lenV dd k = ((dd * 4096 + k : Nat) : Int)) := rfl
    have Hnok := Lib.hid nok
    have Hkids := Lib.hid nkids
    have Hgf := Lib.hid hgf
    have Hr := Lib.hid hr
    have Htk := Lib.hid htk
    have Hgv := Lib.hid hgv
    have Hih := Lib.hid ih
    have Hd := Lib.hid hd
    have Hsub := Lib.hid hsub
    have Hk2 := Lib.hid hk2
    have Hk3 := Lib.hid hk3
    have HgT := Lib.hid hgT
    have Hms := Lib.hid hms
    have HF := Lib.hid hF
    have HPg := Lib.hid hPg
    clear h hA hg hk hk2 hk3 ih hsub hF hms nok nkids hgf hr htk hgv hd hgT f3 f4 e2 hnd hPg
    simp only [← Hlv.out] at HRd
    generalize hlen : lenV dd k = A at *
    have HA := Lib.hid hlen
    clear hlen
    go_enter Tryz.func93, Tryz.ntmps93
    go_wp2_with fail
    rw [HPg.out]
    refine HRd.out.mono ?_
    rintro r w2 ⟨kv, vv, rfl, hK2, h2⟩
    obtain ⟨ak2, ck2, rfl, _⟩ := h2.ints_read (v := kv) (xs := nd.keys) (.head _)
    obtain ⟨av2, cv2, rfl, _⟩ := h2.ints_read (v := vv) (xs := nd.vals) (.tail _ (.head _))
    simp only [Nd.val]
    have h3 := h2.alloc (.cells #[.int .i64 nd.level, .slice ak2 nd.keys.length ck2, .slice av2 nd.vals.length cv2] 35)
    have hk3 := (HK.out.trans hK2).alloc (.cells #[.int .i64 nd.level, .slice ak2 nd.keys.length ck2, .slice av2 nd.vals.length cv2] 35)
    clear HK
    have HK := Lib.hid hk3
    have HM := Lib.hid (sp_Mark (h3.pull 5) dd k e y Hr.out Htk.out Hgv.out f1 f2)
    simp only [← Hlv.out] at HM
    have c1' := (h3.pull 3).stT_cells.2
    clear hk3 hK2 h2 h3 HRd
    have lp' := World.block_lt_of_cell? _ _ c1'
    simp only [World.size_alloc] at lp'
    clear c1 c2 lp hlk
    go_wp2_with fail
    refine HM.out.mono ?_
    rintro r w4 ⟨rfl, hK4, h4⟩
    clear c1' lp' HM
    have hk5 := HK.out.trans hK4
    clear HK
    have HK := Lib.hid hk5
    clear hk5 hK4
    generalize w2.heap.size = r9 at *
    have h4 : Has w4 (spaceS sp (X.put dd (y.mark k)) :: pts r9 (.cells #[.int .i64 nd.level, .slice ak2 nd.keys.length ck2, .slice av2 nd.vals.length cv2] 35 (0, 0)) :: intsS (.slice ak2 nd.keys.length ck2) nd.keys :: intsS (.slice av2 nd.vals.length cv2) nd.vals :: stT p bank sp T :: bankS N bank disks :: pts m (.cells #[.slice am ms.length cm] 22 (0, 0)) :: intsS (.slice am ms.length cm) ms :: l) := h4
    have hm0 := h4.at (b := m) (o := .cells #[.slice am ms.length cm] 22 (0, 0)) (by simp)
    have cm0 : w4.cell? ⟨m, 0, none⟩ = some (.slice am ms.length cm) := cell_of hm0 0 rfl
    have lm := World.block_lt_of_cell? _ _ cm0
    have HX := Lib.hid ((h4.alloc (.cells #[.int .i64 A] 3)).pull 8)
    have hk5 := HK.out.alloc (.cells #[.int .i64 A] 3)
    clear HK
    have HK := Lib.hid hk5
    have hml : ms.length ≤ 32768 := Nat.le_trans Hms.out hT
    clear hk5 h4 hm0
    go_upto_region 11 with (at_builtin; refine wpList_append_int rfl (.tmp 47) (.tmp 49) rfl rfl rfl HX.out (.head _) rfl (by omega) ?_; intro p' c' wz hKz hz; have hmz := hz.at (b := m) (o := .cells #[.slice am ms.length cm] 22 (0, 0)) (by simp); have cz : wz.cell? ⟨m, 0, none⟩ = some (.slice am ms.length cm) := cell_of hmz 0 rfl; have fz := thaw_of hmz 0; have lz := World.block_lt_of_cell? _ _ cz; have HKz := Lib.hid hKz; have Hz := Lib.hid hz; clear hKz hz hmz cm0 lm)
    have Hz' : Has wz (intsS (.slice p' (ms.length + 1) c') (ms ++ [A]) :: pts w4.heap.size (.cells #[.int .i64 A] 3 (0, 0)) :: spaceS sp (X.put dd (y.mark k)) :: pts r9 (.cells #[.int .i64 nd.level, .slice ak2 nd.keys.length ck2, .slice av2 nd.vals.length cv2] 35 (0, 0)) :: intsS (.slice ak2 nd.keys.length ck2) nd.keys :: intsS (.slice av2 nd.vals.length cv2) nd.vals :: stT p bank sp T :: bankS N bank disks :: pts m (.cells #[.slice am ms.length cm] 22 (0, 0)) :: l) := Hz.out
    have h6 := (Hz'.pull 8).setCell 0 (.slice p' (ms.length + 1) c')
    have hk6 := (HK.out.trans HKz.out).setCell ⟨m, 0, none⟩ (.slice p' (ms.length + 1) c')
    clear HK HKz Hz Hz' HX cz fz lz
    generalize hV : wz.setCell ⟨m, 0, none⟩ (.slice p' (ms.length + 1) c') = V at *
    clear hV
    have h6 : Has V (pts m (.cells #[.slice p' (ms.length + 1) c'] 22 (0, 0)) :: intsS (.slice p' (ms.length + 1) c') (ms ++ [A]) :: pts w4.heap.size (.cells #[.int .i64 A] 3 (0, 0)) :: spaceS sp (X.put dd (y.mark k)) :: pts r9 (.cells #[.int .i64 nd.level, .slice ak2 nd.keys.length ck2, .slice av2 nd.vals.length cv2] 35 (0, 0)) :: intsS (.slice ak2 nd.keys.length ck2) nd.keys :: intsS (.slice av2 nd.vals.length cv2) nd.vals :: stT p bank sp T :: bankS N bank disks :: l) := h6
    have h7 : Has V.drew (stT p bank sp T :: intsS (.slice ak2 nd.keys.length ck2) nd.keys :: intsS (.slice av2 nd.vals.length cv2) nd.vals :: (bankS N bank disks :: spaceS sp (X.put dd (y.mark k)) :: pts m (.cells #[.slice p' (ms.length + 1) c'] 22 (0, 0)) :: intsS (.slice p' (ms.length + 1) c') (ms ++ [A]) :: pts r9 (.cells #[.int .i64 nd.level, .slice ak2 nd.keys.length ck2, .slice av2 nd.vals.length cv2] 35 (0, 0)) :: l)) := by
      have h := h6.drew.perm (L2_perm _ _ _ _ _ _ _ _ _ l)
      exact h.tail
    obtain ⟨mb2, ok, hh⟩ := h7.stT_open
    have hr9 := h6.at (b := r9) (o := .cells #[.int .i64 nd.level, .slice ak2 nd.keys.length ck2, .slice av2 nd.vals.length cv2] 35 (0, 0)) (by simp)
    have n0 : V.cell? ⟨r9, 0, none⟩ = some (.int .i64 nd.level) := cell_of hr9 0 rfl
    have n1 : V.cell? ⟨r9, 1, none⟩ = some (.slice ak2 nd.keys.length ck2) := cell_of hr9 1 rfl
    have n2 : V.cell? ⟨r9, 2, none⟩ = some (.slice av2 nd.vals.length cv2) := cell_of hr9 2 rfl
    have hpp : V.drew.heap[p]? = some (.cells #[.pointer (some ⟨bank, 0, none⟩), .pointer (some ⟨sp, 0, none⟩), .map (some mb2), .map none] 147 (0, 0)) := hh.got
    have cp2 : V.cell? ⟨p, 2, none⟩ = some (.map (some mb2)) := cell_of (w := V.drew) hpp 2 rfl
    have l9 := World.block_lt_of_cell? _ _ n0
    have lp := World.block_lt_of_cell? _ _ cp2
    obtain ⟨w9, hrun, hK9, hh9⟩ := map_store (hh.pull 1) (by simp [maxLen]) A (by omega) (by omega) (.agg #[.int .i64 nd.level, .slice ak2 nd.keys.length ck2, .slice av2 nd.vals.length cv2, .int .i64 1, .int .i64 0])
    have h9 := Has.stT_newpage (t := ⟨⟨nd, 1, 0⟩, .slice ak2 nd.keys.length ck2, .slice av2 nd.vals.length cv2⟩) ok HgT.out b0 b1 Hnok.out (hh9.perm (List.Perm.cons _ (page_perm _ _ _ _ _)))
    have hk7 := (hk6.drew).trans hK9
    have HK := Lib.hid hk7
    have H9 := Lib.hid h9
    clear h6 h7 hh hr9 hpp hh9 hK9 h9 hk6 hk7 ok
    go_still_tail 7, (by kernel_rfl)
    change wpList _ _ _ _ _ V.drew
    generalize V.drew = V8 at *
    have h9 := H9.out
    have hr9 := h9.at (b := r9) (o := .cells #[.int .i64 nd.level, .slice ak2 nd.keys.length ck2, .slice av2 nd.vals.length cv2] 35 (0, 0)) (by simp)
    have m0 : w9.cell? ⟨r9, 0, none⟩ = some (.int .i64 nd.level) := cell_of hr9 0 rfl
    have m1 : w9.cell? ⟨r9, 1, none⟩ = some (.slice ak2 nd.keys.length ck2) := cell_of hr9 1 rfl
    have m2 : w9.cell? ⟨r9, 2, none⟩ = some (.slice av2 nd.vals.length cv2) := cell_of hr9 2 rfl
    have l9' := World.block_lt_of_cell? _ _ m0
    have HKd := Lib.hid (node_kids (w := w9) nd (.slice ak2 nd.keys.length ck2) (.slice av2 nd.vals.length cv2))
    obtain ⟨lr, hrows⟩ := h9.stT_rows (a := A) (t := ⟨⟨nd, 1, 0⟩, .slice ak2 nd.keys.length ck2, .slice av2 nd.vals.length cv2⟩) (by rw [get_put, if_pos rfl])
    simp only at hrows
    obtain ⟨ka, kc, hkv, hkr⟩ := hrows.kids_read nd (vv := .slice av2 nd.vals.length cv2) (by simp)
    have hkl := kids_len Hnok.out
    obtain ⟨kk, hkk⟩ : ∃ kk, kk = nd.kids := ⟨_, rfl⟩
    have HM0 : Hid (AdMid F d1 p bank sp N m r9 disks A nd (.slice ak2 nd.keys.length ck2) (.slice av2 nd.vals.length cv2) T Q2 X2 l w 0 w9) := by
      have e1 : (VMap.over Sl.pg (VMap.put A ⟨⟨nd, 1, 0⟩, .slice ak2 nd.keys.length ck2, .slice av2 nd.vals.length cv2⟩ T)) = VMap.put A ⟨nd, 1, 0⟩ (VMap.over Sl.pg T) := VMap.over_put _ _ _ _
      refine ⟨VMap.put A ⟨⟨nd, 1, 0⟩, .slice ak2 nd.keys.length ck2, .slice av2 nd.vals.length cv2⟩ T, X.put dd (y.mark k), ⟨⟨nd, 1, 0⟩, .slice ak2 nd.keys.length ck2, .slice av2 nd.vals.length cv2⟩, ?_, ?_, SameT.put_new HgT.out, by rw [get_put, if_pos rfl], rfl, rfl, rfl, HK.out, ms ++ [A], p', c', ?_, ?_⟩
      · rw [e1, List.drop_zero]; exact Hk2.out
      · rw [e1]; exact Hsub.out.new Hgf.out Hnd.out
      · rw [put_len_none HgT.out, List.length_append]; have := Hms.out; simp; exact this
      · rw [List.length_append]; exact h9
    rw [← hkk] at hkv hkl
    have Hkk := Lib.hid hkk
    have Hkv := Lib.hid hkv
    simp only [Nd.val, hkv] at HKd
    have Hbd : Hid (∀ k ∈ kk, -9223372036854775808 ≤ k ∧ k ≤ 9223372036854775807) := fun k hk => by
      rw [hkk] at hk
      have := ok_vals Hnok.out k (kids_sub _ k hk)
      omega
    clear hkr hkk hkv hrows h9 hr9 H9 HK
    go_wp2_with fail
    refine HKd.out.mono ?_
    rintro r w11 ⟨rfl, hb11⟩
    have HM : Hid (AdMid F d1 p bank sp N m r9 disks A nd (.slice ak2 nd.keys.length ck2) (.slice av2 nd.vals.length cv2) T Q2 X2 l w 0 w11) := by
      obtain ⟨Tj, Xj, t, z1, z2, z3, z4, z5, z6, z7, z8, ms', am', cm', z9, z10⟩ := HM0.out
      exact ⟨Tj, Xj, t, z1, z2, z3, z4, z5, z6, z7, z8.trans (Kept.below hb11), ms', am', cm', z9, z10.below hb11⟩
    clear hb11 HM0 HKd n0 n1 n2 m0 m1 m2 l9 l9' lp hrun cp2 Hnd Hr Htk Hgv Hk2 HgT Hms
    have hlb : IntKind.i64.wrap (nd.level - 1) = nd.level - 1 := by have := ok_lens Hnok.out; rw [IntKind.wrap_i64]; omega
    go_wp2
    go_loopg [62] kk.length (fun gk i wr => ∃ j : Nat, j ≤ kk.length ∧ gk = kk.length - j ∧ i = .int .i64 j ∧ Hid (AdMid F d1 p bank sp N m r9 disks A nd (.slice ak2 nd.keys.length ck2) (.slice av2 nd.vals.length cv2) T Q2 X2 l w j wr))
    case atStart => exact ⟨0, Nat.zero_le _, rfl, rfl, HM⟩
    case round =>
      clear HM
      obtain ⟨j, hj, rfl, rfl, HM⟩ := hrel
      by_cases hlt : j < kk.length
      · obtain ⟨Tj, Xj, t, z1, z2, z3, z4, z5, z6, z7, z8, hst⟩ := HM.out
        obtain ⟨ms', am', cm', z9, hh⟩ := id hst
        obtain ⟨lr2, hrows⟩ := hh.stT_rows z4
        rw [z5, z6, z7] at hrows
        obtain ⟨ka', kc', hkv', hkr'⟩ := hrows.kids_read nd (vv := .slice av2 nd.vals.length cv2) (by simp)
        rw [← Hkk.out] at hkv' hkr' z1
        rw [Hkv.out] at hkv'
        injection hkv' with y1 y2 y3
        subst y1 y3
        obtain ⟨gg, rfl, hc⟩ := hkr' j hlt
        have lg := World.block_lt_of_cell? _ _ hc
        have hk1 : (j : Int) < (kk.length : Int) := by omega
        have hk0 : (0 : Int) ≤ j := by omega
        have hbx := Hbd.out kk[j] (List.getElem_mem hlt)
        have hkid := Hkids.out kk[j] (by rw [← Hkk.out]; exact List.getElem_mem hlt)
        rw [List.drop_eq_getElem_cons hlt] at z1
        generalize kk[j] = c at *
        obtain ⟨Q1, X1, hone, hrest⟩ := z1.one
        have HC := Lib.hid (Hih.out d1 Hd.out c hst z2 hone)
        have HB : Hid (VMap.get A Tj = some t ∧ t.kv = .slice ak2 nd.keys.length ck2 ∧ t.vv = .slice av2 nd.vals.length cv2 ∧ t.pg.n = nd ∧ SameT T Tj ∧ Kept w wr) := ⟨z4, z5, z6, z7, z3, z8⟩
        have Hrest := Lib.hid hrest
        have HS2 : Hid (SubP Q1 F) := hone.sub z2
        have HI2 := Lib.hid (hone.has c (.head _))
        have Hkid := Lib.hid hkid
        clear z1 z2 z3 z4 z5 z6 z7 z8 z9 hst hh hrows hkr' HM hone hrest hkid y2
        go_wp2_with fail
        refine HC.out.mono ?_
        rintro r w12 ⟨rfl, hK12, T2, hT2, hS2, hst2⟩
        obtain ⟨ms2, am2', cm2', z9, h12⟩ := id hst2
        obtain ⟨mb3, v, ⟨c1, c2, _, _, ak1, nk1, ck1, av1, nv1, cv1, rfl⟩, hlk⟩ := h12.stT_to.st_look_n c (by omega) (by omega)
        have hlv : lvOf (VMap.over Sl.pg T2) c = nd.level - 1 := by
          obtain ⟨gc, hgc, hle⟩ := Hkid.out
          rw [hT2, HS2.out.lv HI2.out hgc, hle]
        rw [hlv] at hlk
        have lp := World.block_lt_of_cell? _ _ c2
        have hf := field_node (nd.level - 1) (.slice ak1 nk1 ck1) (.slice av1 nv1 cv1) (.int .i64 (holdsOf (VMap.over Sl.pg T2) c)) (.int .i64 (heldOf (VMap.over Sl.pg T2) c))
        have hf2 := field_lv (nd.level - 1) (.slice ak1 nk1 ck1) (.slice av1 nv1 cv1)
        have hr9 := h12.at (b := r9) (o := .cells #[.int .i64 nd.level, .slice ak2 nd.keys.length ck2, .slice av2 nd.vals.length cv2] 35 (0, 0)) (by simp)
        have m0 : w12.cell? ⟨r9, 0, none⟩ = some (.int .i64 nd.level) := cell_of hr9 0 rfl
        have l9 := World.block_lt_of_cell? _ _ m0
        have hli : (lvOf (VMap.over Sl.pg T2) c == nd.level - 1) = true := by rw [hlv]; simp
        have HM2 : Hid (∀ q, AdMid F d1 p bank sp N m r9 disks A nd (.slice ak2 nd.keys.length ck2) (.slice av2 nd.vals.length cv2) T Q2 X2 l w (j + 1) (w12.drewN q)) := by
          intro q
          have hbq := below_drewN (Below.refl w12.heap.size w12) q
          obtain ⟨q1, q2, q3, q4, q5, q6⟩ := HB.out
          obtain ⟨t', u1, u2, u3, u4⟩ := hS2 _ _ q1
          refine ⟨T2, X1, t', ?_, ?_, q5.trans hS2, u1, u2.trans q2, u3.trans q3, u4.trans q4, (q6.trans hK12).trans (Kept.below hbq), ms2, am2', cm2', z9, h12.below hbq⟩
          · rw [hT2, ← Hkk.out]; exact Hrest.out
          · rw [hT2]; exact HS2.out
        clear h12 hst2 hT2 hS2 hK12 z9 hr9 HC HB Hrest HS2 HI2 Hkid hlv hli c1
        generalize holdsOf (VMap.over Sl.pg T2) c = hq1 at *
        generalize heldOf (VMap.over Sl.pg T2) c = hq2 at *
        go_wp2
        go_quiet (fail)
        go_wp2
        go_roundg (kk.length - (j + 1))
        case measure => omega
        case rel => exact ⟨j + 1, by omega, rfl, by simp, HM2.out _⟩
      · obtain rfl : j = kk.length := by omega
        obtain ⟨Tj, Xj, t, z1, z2, z3, z4, z5, z6, z7, z8, ms', am', cm', z9, z10⟩ := HM.out
        rw [← Hkk.out, List.drop_length] at z1
        have HFin : Hid (AdPost p bank sp N m disks T Q' X' l w (.returned .nilIface) wr) := by
          cases z1
          have hk3 := Hk3.out
          cases hk3
          exact ⟨rfl, z8, Tj, rfl, z3, ms', am', cm', z9, (z10.pull 5).tail⟩
        clear z1 z2 z3 z4 z5 z6 z7 z8 z9 z10 HM
        go_wp2
        go_ret
        exact HFin.out
theorem st_adopt {F : Pgs} {disks : List Dsk} {N : Nat} (hF : FOk F disks) (hN : N ≤ 1000000) : ∀ d, AdC F disks N d
  | 0 => adopt_step hF hN 0 fun d' h => absurd h (by omega)
  | d + 1 => adopt_step hF hN (d + 1) fun d' h => by
    obtain rfl : d' = d := by omega
    exact st_adopt hF hN d'
end Go.Proofs.YtgbgneiciabidaaGreatDoor
/-
  Pages (layer 11): Adopt.
-/
namespace Go.Proofs.YtgbgneiciabidaaGreatDoor
open Go Go.RowKit
set_option linter.all false

def AdoptPost (p bank sp N : Nat) (disks : List Dsk) (Q' : Pgs) (X' : Spc) (l : List Say) (w : World) (r : Ending) (w' : World) : Prop :=
  r = .returned .nilIface ∧ Kept w w' ∧ Has w' (stS p bank sp Q' :: bankS N bank disks :: spaceS sp X' :: l)
set_option maxHeartbeats 1000000 in
set_option maxRecDepth 100000 in
theorem st_Adopt {F : Pgs} {disks : List Dsk} {N : Nat} (hF : FOk F disks) (hN : N ≤ 1000000) {w : World} {l : List Say} {p bank sp d : Nat} {Q Q1 : Pgs} {X X1 : Spc} (a : Int) (g : Pg) (h : Has w (stS p bank sp Q :: bankS N bank disks :: spaceS sp X :: l)) (hs : SubP Q F) (hk : AdK F d [a] Q X Q1 X1) (hg : VMap.get a Q1 = some g) (h0 : 0 ≤ g.held) (h1 : g.held ≤ 1000000) :
    Calls Tryz.prog 32 #[.pointer (some ⟨p, 0, none⟩), .int .i64 a] w (AdoptPost p bank sp N disks (VMap.put a { g with held := g.held + 1 } Q1) X1 l w) := by
  obtain ⟨T, rfl, hT⟩ := h.stT_of
  obtain ⟨mb, ok, hh⟩ := hT.stT_open
  have hpp : w.heap[p]? = some (.cells #[.pointer (some ⟨bank, 0, none⟩), .pointer (some ⟨sp, 0, none⟩), .map (some mb), .map none] 147 (0, 0)) := hh.got
  have c2 : w.cell? ⟨p, 2, none⟩ = some (.map (some mb)) := cell_of hpp 2 rfl
  have lp := World.block_lt_of_cell? _ _ c2
  obtain ⟨es, clock, _, _, _, hm⟩ := (hh.pull 1).map_open
  have HC := Lib.hid (maps_Clone mb es clock hm.got)
  have hA := (hT.alloc_off (.map es clock)).alloc (.cells #[.slice none 0 0] 22)
  have HK := Lib.hid (((Kept.refl w).alloc (.map es clock)).alloc (.cells #[.slice none 0 0] 22))
  simp only [World.size_alloc] at hA
  have hst : AdSt p bank sp N (w.heap.size + 1) disks T X l ((w.alloc (.map es clock)).alloc (.cells #[.slice none 0 0] 22)) := by
    refine ⟨[], none, 0, Nat.zero_le _, ?_⟩
    have h2 : Has ((w.alloc (.map es clock)).alloc (.cells #[.slice none 0 0] 22)) (intsS (.slice none 0 0) [] :: pts (w.heap.size + 1) (.cells #[.slice none 0 0] 22 (0, 0)) :: stT p bank sp T :: bankS N bank disks :: spaceS sp X :: l) := hA.row_nil 3 1
    exact (h2.reord [2, 2, 2, 1])
  have HAd := Lib.hid (st_adopt hF hN d a hst hs hk)
  have Hg := Lib.hid hg
  clear hst hA hm hh hpp ok hT h hs hk hF hg
  go_enter Tryz.func32, Tryz.ntmps32
  go_wp2_with fail
  refine HC.out.mono ?_
  rintro r w1 ⟨rfl, rfl⟩
  clear HC
  go_wp2_with fail
  refine HAd.out.mono ?_
  rintro r w2 ⟨rfl, hK2, T', hT', _, ms, am, cm, _, h2⟩
  have h3 := h2.stT_to
  rw [hT'] at h3
  have HOw := Lib.hid (st_own h3 a 1 g Hg.out (by omega) (by omega) (by omega) (by omega) (by omega))
  have hk2 := HK.out.trans hK2
  clear HK
  have HK := Lib.hid hk2
  clear h2 h3 hK2 hk2 hT' HAd
  go_wp2_with fail
  refine HOw.out.mono ?_
  rintro r w3 ⟨rfl, hK3, h3⟩
  have HFin : Hid (AdoptPost p bank sp N disks (VMap.put a { g with held := g.held + 1 } Q1) X1 l w (.returned .nilIface) w3) := ⟨rfl, HK.out.trans hK3, ((h3.st_tight.pull 3).tail.pull 3).tail⟩
  clear HOw hK3 h3 HK
  go_wp2
  go_ret
  exact HFin.out
end Go.Proofs.YtgbgneiciabidaaGreatDoor
