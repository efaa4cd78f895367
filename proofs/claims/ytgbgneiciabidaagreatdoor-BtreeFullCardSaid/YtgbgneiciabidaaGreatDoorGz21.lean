/-
  Law 11, plain: what is adopted comes back as it was (PagesBack).
-/
import Derived.Test.YtgbgneiciabidaaGreatDoorGz20
namespace Go.Proofs.YtgbgneiciabidaaGreatDoor
open Go Go.RowKit
set_option linter.all false

def refs : Pgs → Int → Nat
  | [], _ => 0
  | p :: R, a => p.2.n.kids.count a + refs R a
def refsN : List (Int × Nd) → Int → Nat
  | [], _ => 0
  | p :: R, a => p.2.kids.count a + refsN R a
theorem refs_over (a : Int) : ∀ R : Pgs, refs R a = refsN (VMap.over Pg.n R) a
  | [] => rfl
  | p :: R => by
    show _ + refs R a = _ + refsN (VMap.over Pg.n R) a
    rw [refs_over a R]
theorem refs_perm {R S : Pgs} (a : Int) (h : R.Perm S) : refs R a = refs S a := by
  induction h with
  | nil => rfl
  | cons x _ ih => simp only [refs, ih]
  | swap x y l => simp only [refs]; omega
  | trans _ _ i1 i2 => exact i1.trans i2
theorem refs_put_new {R : Pgs} {k : Int} {g : Pg} (h : VMap.get k R = none) (a : Int) : refs (VMap.put k g R) a = g.n.kids.count a + refs R a := by
  have := refs_perm a (VMap.ins_perm (k, g) (VMap.del k R))
  rw [del_none h] at this
  unfold VMap.put
  rw [del_none h, this]; rfl
theorem refs_put_same {R : Pgs} (hu : VMap.Up R) {k : Int} {g g' : Pg} (h : VMap.get k R = some g) (hn : g'.n = g.n) (a : Int) : refs (VMap.put k g' R) a = refs R a := by
  rw [refs_perm a (VMap.get_split hu h)]
  unfold VMap.put
  rw [refs_perm a (VMap.ins_perm (k, g') (VMap.del k R))]
  simp only [refs, hn]
theorem refs_ext {R S : Pgs} (h1 : VMap.Up R) (h2 : VMap.Up S) (h : ∀ k, (VMap.get k R).map Pg.n = (VMap.get k S).map Pg.n) (a : Int) : refs R a = refs S a := by
  rw [refs_over, refs_over]
  have e : VMap.over Pg.n R = VMap.over Pg.n S := VMap.ext (List.pairwise_map.2 h1) (List.pairwise_map.2 h2) fun k => by rw [VMap.get_over, VMap.get_over, h]
  rw [e]
theorem refs_le (a : Int) : ∀ {R : Pgs}, (∀ p ∈ R, p.2.n.ok = true) → refs R a ≤ 7 * R.length
  | [], _ => Nat.le_refl _
  | p :: R, h => by
    have h1 := refs_le a (R := R) fun q hq => h q (.tail _ hq)
    have h2 := kids_len (h p (.head _))
    have h3 : p.2.n.kids.count a ≤ p.2.n.kids.length := List.count_le_length
    simp only [refs, List.length_cons]
    omega
theorem holdsOf_put (k : Int) (g : Pg) (R : Pgs) (a : Int) : holdsOf (VMap.put k g R) a = if a = k then g.holds else holdsOf R a := by
  unfold holdsOf; rw [get_put]; split <;> rfl
theorem heldOf_put (k : Int) (g : Pg) (R : Pgs) (a : Int) : heldOf (VMap.put k g R) a = if a = k then g.held else heldOf R a := by
  unfold heldOf; rw [get_put]; split <;> rfl
theorem get_push {Q : Pgs} {a : Int} {n : Nd} (b : Int) : VMap.get b (pushPg Q a n) = if b = a then some ⟨n, 1, 1⟩ else (VMap.get b Q).map fun g => { g with holds := g.holds + (n.kids.count b : Nat) } := by
  unfold pushPg; rw [get_put, get_bumpAll]
theorem named_lv {Q : Pgs} {n : Nd} (h : namedErr Q n = .nilIface) : ∀ c ∈ n.kids, lvOf Q c = n.level - 1 := by
  unfold namedErr at h
  split at h
  · cases h
  · split at h
    · cases h
    · rename_i h2
      intro c hc
      simp only [List.any_eq_true, not_exists, not_and] at h2
      have := h2 c hc
      unfold offLevel at this
      simpa using this

structure XIs (es : List Ent) (Q : Pgs) (X : Spc) : Prop where
  ent : X.es = es
  len : X.sh.length = es.length
  sh : ∀ (d : Nat) (y : Shelf), X.sh[d]? = some y → (∃ e, es[d]? = some e ∧ y.n = e.size) ∧ ∀ k, y.given k = false ∧ y.taken k = (decide (k < 4096) && (VMap.get (lenV d k) Q).isSome)
theorem XIs.fresh (es : List Ent) : XIs es [] (freshSpc es) := by
  refine ⟨rfl, by simp [freshSpc], fun d y hy => ?_⟩
  simp only [freshSpc, List.getElem?_map] at hy
  cases he : es[d]? with
  | none => rw [he] at hy; cases hy
  | some e =>
    rw [he] at hy
    obtain rfl := (Option.some.inj hy).symm
    exact ⟨⟨e, rfl, rfl⟩, fun k => ⟨rfl, by simp [VMap.get, emptyShelf]⟩⟩
theorem XIs.more {es : List Ent} {Q Q' : Pgs} {X : Spc} (h : XIs es Q X) {d k : Nat} {y y' : Shelf} (hy : X.sh[d]? = some y) (hk : k < 4096) (hn : y'.n = y.n) (hg : ∀ j, y'.given j = y.given j) (ht : ∀ j, y'.taken j = (j == k || y.taken j))
    (hQ : ∀ b, (VMap.get b Q').isSome = (decide (b = lenV d k) || (VMap.get b Q).isSome)) : XIs es Q' (X.put d y') := by
  have hd := (List.getElem?_eq_some_iff.1 hy).1
  refine ⟨h.ent, by simp [Spc.put, h.len], fun d' z hz => ?_⟩
  by_cases e1 : d' = d
  · subst e1
    simp only [Spc.put, List.getElem?_set_self hd, Option.some.injEq] at hz
    subst hz
    obtain ⟨⟨e, he, hne⟩, hb⟩ := h.sh d' y hy
    refine ⟨⟨e, he, hn.trans hne⟩, fun j => ⟨by rw [hg]; exact (hb j).1, ?_⟩⟩
    rw [ht, (hb j).2, hQ]
    by_cases hj : j = k
    · subst hj; simp [hk]
    · have h1 : (j == k) = false := by simpa using hj
      rw [h1]
      by_cases hj4 : j < 4096
      · have : ¬ lenV d' j = lenV d' k := fun e => hj (lenV_inj hj4 hk e).2
        simp [this]
      · simp [hj4]
  · simp only [Spc.put, List.getElem?_set_ne (Ne.symm e1)] at hz
    obtain ⟨q1, q2⟩ := h.sh d' z hz
    refine ⟨q1, fun j => ⟨(q2 j).1, ?_⟩⟩
    rw [(q2 j).2, hQ]
    by_cases hj4 : j < 4096
    · have : ¬ lenV d' j = lenV d k := fun e => e1 (lenV_inj hj4 hk e).1
      simp [this]
    · simp [hj4]
theorem XIs.same {es : List Ent} {Q Q' : Pgs} {X : Spc} (h : XIs es Q X) (hQ : ∀ b, (VMap.get b Q').isSome = (VMap.get b Q).isSome) : XIs es Q' X :=
  ⟨h.ent, h.len, fun d y hy => ⟨(h.sh d y hy).1, fun k => ⟨((h.sh d y hy).2 k).1, by rw [((h.sh d y hy).2 k).2, hQ]⟩⟩⟩
theorem XIs.free {es : List Ent} {Q : Pgs} {X Y : Spc} (h : XIs es Q X) (h2 : XIs es Q Y) : X.freeAll = Y.freeAll := by
  have e : X.free = Y.free := by
    funext d
    unfold Spc.free
    rw [h.ent, h2.ent]
    cases hx : X.sh[d]? with
    | none =>
      have : Y.sh[d]? = none := by rw [List.getElem?_eq_none_iff] at hx ⊢; rw [h2.len]; rw [h.len] at hx; exact hx
      rw [this]
    | some y =>
      cases hz : Y.sh[d]? with
      | none => rw [List.getElem?_eq_none_iff, h2.len] at hz; have := (List.getElem?_eq_some_iff.1 hx).1; rw [h.len] at this; omega
      | some z =>
        obtain ⟨⟨e, he, hn⟩, hb⟩ := h.sh d y hx
        obtain ⟨⟨e', he', hn'⟩, hb'⟩ := h2.sh d z hz
        rw [he] at he'
        obtain rfl := Option.some.inj he'
        have e1 : y.taken = z.taken := by funext k; rw [(hb k).2, (hb' k).2]
        have e2 : y.given = z.given := by funext k; rw [(hb k).1, (hb' k).1]
        simp only [he, Shelf.used, e1, e2, hn, hn']
  unfold Spc.freeAll
  rw [e, h.ent, h2.ent]

structure BInv (es : List Ent) (hs : List Int) (Q : Pgs) (X : Spc) : Prop where
  up : VMap.Up Q
  cnt : ∀ a, hs.count a = if (VMap.get a Q).isSome = true then 1 else 0
  pg : ∀ a g, VMap.get a Q = some g → g.held = 1 ∧ g.holds = refs Q a + 1
  clo : ∀ a, VMap.get a Q = none → refs Q a = 0
  kid : ∀ a g, VMap.get a Q = some g → g.n.ok = true ∧ ∀ c ∈ g.n.kids, ∃ gc, VMap.get c Q = some gc ∧ gc.n.level = g.n.level - 1
  adr : ∀ a, (VMap.get a Q).isSome = true → ∃ d k e, a = lenV d k ∧ es[d]? = some e ∧ e.st = 1 ∧ 2 ≤ k ∧ k < e.size ∧ k < 4096 ∧ d < 8
  xis : XIs es Q X
theorem count_none {ks : List Int} {a : Int} {Q : Pgs} (h : ∀ c ∈ ks, (VMap.get c Q).isSome = true) (ha : VMap.get a Q = none) : ks.count a = 0 := by
  rw [List.count_eq_zero]
  intro hm
  have := h a hm
  rw [ha] at this; cases this
theorem refs_push {Q : Pgs} (hu : VMap.Up Q) {a : Int} {n : Nd} (ha : VMap.get a Q = none) (b : Int) : refs (pushPg Q a n) b = n.kids.count b + refs Q b := by
  unfold pushPg
  rw [refs_put_new (by rw [get_bumpAll, ha]; rfl), refs_ext (bumpAll_up _ hu) hu fun k => by rw [get_bumpAll, Option.map_map]; rfl]
theorem BInv.push {es : List Ent} {hs : List Int} {Q : Pgs} {X : Spc} (h : BInv es hs Q X) (hX : SInv X) {d k : Nat} {y : Shelf} {n : Nd} (ht : Takes X d k y) (ha : VMap.get (lenV d k) Q = none) (ok : n.ok = true) (nm : namedErr Q n = .nilIface) : BInv es (lenV d k :: hs) (pushPg Q (lenV d k) n) (X.put d (y.took k)) := by
  have hks := named_some nm
  have hkc : ∀ b, VMap.get b Q = none → n.kids.count b = 0 := fun b hb => count_none hks hb
  have hdl := (List.getElem?_eq_some_iff.1 ht.shelf).1
  have hes : X.es[d]? = some (X.es[d]'(by rw [hX.len]; exact hdl)) := List.getElem?_eq_getElem _
  obtain ⟨s1, s2, s3⟩ := hX.ent d _ y hes ht.shelf
  have hk4 : k < 4096 := by have := ht.hi; omega
  refine ⟨?_, ?_, ?_, ?_, ?_, ?_, ?_⟩
  · exact (bumpAll_up _ h.up).put _ _
  · intro b
    rw [push_some, List.count_cons, h.cnt b]
    by_cases e : b = lenV d k
    · subst e; rw [ha]; simp
    · have : ¬ lenV d k = b := fun x => e x.symm
      simp [e, this]
  · intro b g hg
    rw [get_push] at hg
    rw [refs_push h.up ha]
    by_cases e : b = lenV d k
    · subst e
      rw [if_pos rfl] at hg
      obtain rfl := Option.some.inj hg
      rw [h.clo _ ha, hkc _ ha]
      exact ⟨rfl, rfl⟩
    · rw [if_neg e] at hg
      obtain ⟨g0, hg0, rfl⟩ := Option.map_eq_some_iff.1 hg
      obtain ⟨p1, p2⟩ := h.pg b g0 hg0
      refine ⟨p1, ?_⟩
      show g0.holds + _ = _
      rw [p2]; omega
  · intro b hb
    rw [get_push] at hb
    rw [refs_push h.up ha]
    by_cases e : b = lenV d k
    · rw [if_pos e] at hb; cases hb
    · rw [if_neg e, Option.map_eq_none_iff] at hb
      rw [h.clo _ hb, hkc _ hb]
  · have hkeep : ∀ c gc, VMap.get c Q = some gc → ∃ gc', VMap.get c (pushPg Q (lenV d k) n) = some gc' ∧ gc'.n = gc.n := fun c gc hc => by
      have e : ¬ c = lenV d k := fun e => by subst e; rw [ha] at hc; cases hc
      exact ⟨{ gc with holds := gc.holds + (n.kids.count c : Nat) }, by rw [get_push, if_neg e, hc]; rfl, rfl⟩
    intro b g hg
    rw [get_push] at hg
    by_cases e : b = lenV d k
    · subst e
      rw [if_pos rfl] at hg
      obtain rfl := Option.some.inj hg
      refine ⟨ok, fun c hc => ?_⟩
      obtain ⟨gc, hgc⟩ := Option.isSome_iff_exists.1 (hks c hc)
      have hl := named_lv nm c hc
      unfold lvOf at hl
      rw [hgc] at hl
      obtain ⟨gc', h1, h2⟩ := hkeep c gc hgc
      exact ⟨gc', h1, by rw [h2]; exact hl⟩
    · rw [if_neg e] at hg
      obtain ⟨g0, hg0, rfl⟩ := Option.map_eq_some_iff.1 hg
      obtain ⟨p1, p2⟩ := h.kid b g0 hg0
      refine ⟨p1, fun c hc => ?_⟩
      obtain ⟨gc, hgc, hl⟩ := p2 c hc
      obtain ⟨gc', h1, h2⟩ := hkeep c gc hgc
      exact ⟨gc', h1, by rw [h2]; exact hl⟩
  · intro b hb
    rw [push_some] at hb
    by_cases e : b = lenV d k
    · subst e
      refine ⟨d, k, _, rfl, by rw [← h.xis.ent]; exact hes, s1, ht.lo, by rw [← s2]; exact ht.hi, hk4, by have := hX.small; omega⟩
    · simp only [e, decide_false, Bool.false_or] at hb
      exact h.adr b hb
  · exact h.xis.more ht.shelf hk4 rfl (fun _ => rfl) (fun _ => rfl) (fun b => push_some Q (lenV d k) n b)
def DInv (Q : Pgs) (disks : List Dsk) : Prop := ∀ k g, VMap.get k Q = some g → ∃ d kk secs, k = lenV d kk ∧ d < 8 ∧ kk < 4096 ∧ disks[d]? = some secs ∧ secs[kk]? = some (frameOf 2 (nodeBytes g.n))
theorem DInv.push {Q : Pgs} {disks : List Dsk} (h : DInv Q disks) {d k : Nat} {secs : Dsk} (hs : disks[d]? = some secs) (hk : k < secs.length) (hd : d < 8) (hk4 : k < 4096) (ha : VMap.get (lenV d k) Q = none) (n : Nd) : DInv (pushPg Q (lenV d k) n) (disks.set d (secs.set k (frameOf 2 (nodeBytes n)))) := by
  have hdl := (List.getElem?_eq_some_iff.1 hs).1
  intro b g hg
  rw [get_push] at hg
  by_cases e : b = lenV d k
  · subst e
    rw [if_pos rfl] at hg
    obtain rfl := Option.some.inj hg
    exact ⟨d, k, _, rfl, hd, hk4, List.getElem?_set_self hdl, List.getElem?_set_self hk⟩
  · rw [if_neg e] at hg
    obtain ⟨g0, hg0, rfl⟩ := Option.map_eq_some_iff.1 hg
    obtain ⟨d', k', secs', rfl, q1, q2, q3, q4⟩ := h b g0 hg0
    by_cases e1 : d' = d
    · subst e1
      rw [hs] at q3
      obtain rfl := Option.some.inj q3
      have hkk : ¬ k = k' := fun x => e (by rw [x])
      exact ⟨d', k', _, rfl, q1, q2, List.getElem?_set_self hdl, by rw [List.getElem?_set_ne hkk]; exact q4⟩
    · exact ⟨d', k', secs', rfl, q1, q2, by rw [List.getElem?_set_ne (fun x => e1 x.symm)]; exact q3, q4⟩
structure AInv (es : List Ent) (F : Pgs) (top hd pend : Int → Int) (Q : Pgs) (X : Spc) : Prop where
  up : VMap.Up Q
  sub : SubP Q F
  xis : XIs es Q X
  acc : ∀ a, holdsOf Q a + pend a = refs Q a + top a
  pos : ∀ a g, VMap.get a Q = some g → 0 ≤ g.holds
  held : ∀ a, heldOf Q a = hd a
theorem adk_ex {es : List Ent} {hs : List Int} {F : Pgs} {XF : Spc} (hF : BInv es hs F XF) (hFb : ∀ p ∈ F, 0 ≤ p.1 ∧ p.1 < 32768) {top hd : Int → Int} (ht : ∀ a, top a ≤ 1000) : ∀ (d : Nat) (ks : List Int) (Q : Pgs) (X : Spc) (pend : Int → Int), (∀ a, 0 ≤ pend a) → AInv es F top hd (fun a => (ks.count a : Nat) + pend a) Q X →
    (∀ k ∈ ks, ∃ g, VMap.get k F = some g ∧ g.n.level < d) → ∃ Q' X', AdK F d ks Q X Q' X' ∧ AInv es F top hd pend Q' X' := by
  intro d
  induction d with
  | zero =>
    intro ks Q X pend hp hI hk
    cases ks with
    | nil => exact ⟨Q, X, .nil _ _ _, hI.up, hI.sub, hI.xis, fun a => by have := hI.acc a; simpa using this, hI.pos, hI.held⟩
    | cons k ks =>
      obtain ⟨g, hg, hl⟩ := hk k (.head _)
      have := (ok_lens (hF.kid k g hg).1).1
      omega
  | succ d ihd =>
    intro ks
    induction ks with
    | nil => intro Q X pend hp hI _; exact ⟨Q, X, .nil _ _ _, hI.up, hI.sub, hI.xis, fun a => by have := hI.acc a; simpa using this, hI.pos, hI.held⟩
    | cons k ks ihk =>
      intro Q X pend hp hI hk
      have hks : ∀ j ∈ ks, ∃ g, VMap.get j F = some g ∧ g.n.level < ((d + 1 : Nat) : Int) := fun j hj => hk j (.tail _ hj)
      have hcc : ∀ a, ((k :: ks).count a : Int) = (ks.count a : Nat) + if a = k then 1 else 0 := fun a => by
        rw [List.count_cons]
        by_cases e : a = k
        · subst e; simp
        · have : ¬ k = a := fun x => e x.symm
          simp [e, this]
      cases hg : VMap.get k Q with
      | some g =>
        have hbd : g.holds ≤ 1000000 := by
          have h1 := hI.acc k
          have h2 : holdsOf Q k = g.holds := by unfold holdsOf; rw [hg]; rfl
          have hmem : ∀ p ∈ Q, p.2.n.ok = true ∧ 0 ≤ p.1 ∧ p.1 < 32768 := fun p hp => by
            obtain ⟨i, hi, rfl⟩ := List.getElem_of_mem hp
            obtain ⟨gf, hgf, hn⟩ := hI.sub _ _ (get_at hI.up i hi)
            refine ⟨by rw [← hn]; exact (hF.kid _ gf hgf).1, ?_⟩
            exact hFb (Q[i].1, gf) (get_mem hgf)
          have h3 := refs_le k (R := Q) fun p hp => (hmem p hp).1
          have h4 := up_len 32768 Q 0 hI.up fun p hp => (hmem p hp).2
          have h5 := ht k
          have h6 := hp k
          simp only [hcc] at h1
          rw [h2] at h1
          simp only [if_true] at h1
          omega
        have hI2 : AInv es F top hd (fun a => (ks.count a : Nat) + pend a) (VMap.put k { g with holds := g.holds + 1 } Q) X := by
          refine ⟨hI.up.put _ _, hI.sub.there hg rfl, hI.xis.same fun b => ?_, fun a => ?_, fun a g' hg' => ?_, fun a => ?_⟩
          · rw [get_put]; split
            · rename_i e; rw [e, hg]; rfl
            · rfl
          · have h1 := hI.acc a
            simp only [hcc] at h1
            rw [refs_put_same (g' := { g with holds := g.holds + 1 }) hI.up hg rfl, holdsOf_put]
            by_cases e : a = k
            · subst e
              have h2 : holdsOf Q a = g.holds := by unfold holdsOf; rw [hg]; rfl
              rw [h2] at h1
              simp only [if_true] at h1 ⊢
              omega
            · simp only [e, if_false] at h1 ⊢
              omega
          · rw [get_put] at hg'
            by_cases e : a = k
            · rw [if_pos e] at hg'
              obtain rfl := Option.some.inj hg'
              have := hI.pos k g hg
              show 0 ≤ g.holds + 1
              omega
            · rw [if_neg e] at hg'; exact hI.pos a g' hg'
          · rw [heldOf_put, ← hI.held a]
            by_cases e : a = k
            · subst e; rw [if_pos rfl]; unfold heldOf; rw [hg]; rfl
            · rw [if_neg e]
        obtain ⟨Q', X', h1, h2⟩ := ihk _ X pend hp hI2 hks
        exact ⟨Q', X', .there hg (hI.pos k g hg) hbd h1, h2⟩
      | none =>
        obtain ⟨gf, hgf, hlf⟩ := hk k (.head _)
        obtain ⟨dd, kk, e, hkd, hde, hst, hlo, hhi, hk4, hd8⟩ := hF.adr k (by rw [hgf]; rfl)
        have hdl : dd < X.sh.length := by rw [hI.xis.len]; exact (List.getElem?_eq_some_iff.1 hde).1
        obtain ⟨y, hy⟩ : ∃ y, X.sh[dd]? = some y := ⟨_, List.getElem?_eq_getElem hdl⟩
        obtain ⟨_, hb⟩ := hI.xis.sh dd y hy
        have hmk : Marks X k (X.put dd (y.mark kk)) := ⟨dd, kk, e, y, hkd, ⟨by rw [hI.xis.ent]; exact hde, hy, by rw [hst]; decide, hlo, hhi⟩, by rw [(hb kk).2, ← hkd, hg]; simp, (hb kk).1, hd8, hk4, rfl⟩
        obtain ⟨okf, kidf⟩ := hF.kid k gf hgf
        have hI1 : AInv es F top hd (fun a => (gf.n.kids.count a : Nat) + ((ks.count a : Nat) + pend a)) (VMap.put k ⟨gf.n, 1, 0⟩ Q) (X.put dd (y.mark kk)) := by
          refine ⟨hI.up.put _ _, hI.sub.new hgf rfl, hI.xis.more hy hk4 rfl (fun _ => rfl) (fun _ => rfl) (fun b => ?_), fun a => ?_, fun a g' hg' => ?_, fun a => ?_⟩
          · rw [get_put, hkd]
            by_cases e : b = lenV dd kk
            · simp [e]
            · simp [e]
          · have h1 := hI.acc a
            simp only [hcc] at h1
            rw [refs_put_new hg, holdsOf_put]
            by_cases e : a = k
            · subst e
              have h2 : holdsOf Q a = 0 := by unfold holdsOf; rw [hg]; rfl
              rw [h2] at h1
              simp only [if_true] at h1 ⊢
              omega
            · simp only [e, if_false] at h1 ⊢
              omega
          · rw [get_put] at hg'
            by_cases e : a = k
            · rw [if_pos e] at hg'
              obtain rfl := Option.some.inj hg'
              show (0 : Int) ≤ 1
              decide
            · rw [if_neg e] at hg'; exact hI.pos a g' hg'
          · rw [heldOf_put, ← hI.held a]
            by_cases e : a = k
            · subst e; rw [if_pos rfl]; unfold heldOf; rw [hg]; rfl
            · rw [if_neg e]
        obtain ⟨Q2, X2, a1, a2⟩ := ihd gf.n.kids _ _ (fun a => (ks.count a : Nat) + pend a) (fun a => by have := hp a; omega) hI1 fun c hc => by
          obtain ⟨gc, hgc, hl⟩ := kidf c hc
          exact ⟨gc, hgc, by omega⟩
        obtain ⟨Q', X', b1, b2⟩ := ihk Q2 X2 pend hp a2 hks
        exact ⟨Q', X', .new hg hgf hmk a1 b1, b2⟩

def BkInv (es : List Ent) (F : Pgs) (hs : List Int) (m : Nat) (Q : Pgs) (X : Spc) : Prop := AInv es F (fun a => ((hs.take m).count a : Nat)) (fun a => ((hs.take m).count a : Nat)) (fun _ => 0) Q X
theorem BkInv.zero (es : List Ent) (F : Pgs) (hs : List Int) : BkInv es F hs 0 [] (freshSpc es) :=
  ⟨List.Pairwise.nil, fun k g hg => by simp [VMap.get] at hg, XIs.fresh es, fun a => by simp [holdsOf, VMap.get, refs], fun a g hg => by simp [VMap.get] at hg, fun a => by simp [heldOf, VMap.get]⟩
theorem BkInv.step {es : List Ent} {hs : List Int} {F : Pgs} {XF : Spc} (hF : BInv es hs F XF) (hFb : ∀ p ∈ F, 0 ≤ p.1 ∧ p.1 < 32768) (hl : hs.length ≤ 100) {m : Nat} {Q : Pgs} {X : Spc} (h : BkInv es F hs m Q X) {a : Int} (hm : hs[m]? = some a) :
    ∃ Q1 X1 g, AdK F 21 [a] Q X Q1 X1 ∧ VMap.get a Q1 = some g ∧ 0 ≤ g.held ∧ g.held ≤ 1000000 ∧ SubP Q F ∧ BkInv es F hs (m + 1) (VMap.put a { g with held := g.held + 1 } Q1) X1 := by
  have htk : hs.take (m + 1) = hs.take m ++ [a] := by rw [List.take_add_one, hm]; rfl
  have hc : ∀ b, (hs.take (m + 1)).count b = (hs.take m).count b + [a].count b := fun b => by rw [htk, List.count_append]
  have hcl : ∀ j b, (hs.take j).count b ≤ 100 := fun j b => by
    have h1 : (hs.take j).count b ≤ (hs.take j).length := List.count_le_length
    have h2 : (hs.take j).length ≤ hs.length := List.length_take_le' ..
    omega
  have hin : (VMap.get a F).isSome = true := by
    have h1 := hF.cnt a
    have h2 : 0 < hs.count a := List.count_pos_iff.2 (List.mem_of_getElem? hm)
    by_cases e : (VMap.get a F).isSome = true
    · exact e
    · rw [if_neg e] at h1; omega
  obtain ⟨gf, hgf⟩ := Option.isSome_iff_exists.1 hin
  have hI : AInv es F (fun b => ((hs.take (m + 1)).count b : Nat)) (fun b => ((hs.take m).count b : Nat)) (fun b => ([a].count b : Nat) + (fun _ => (0 : Int)) b) Q X :=
    ⟨h.up, h.sub, h.xis, fun b => by have h1 := h.acc b; have h2 := hc b; simp only at h1 ⊢; omega, h.pos, h.held⟩
  obtain ⟨Q1, X1, h1, h2⟩ := adk_ex hF hFb (fun b => by have := hcl (m + 1) b; omega) 21 [a] Q X (fun _ => 0) (fun _ => Int.le_refl _) hI fun k hk => by
    obtain rfl := List.mem_singleton.1 hk
    exact ⟨gf, hgf, by have := ok_lens (hF.kid _ gf hgf).1; omega⟩
  obtain ⟨g, hg⟩ := Option.isSome_iff_exists.1 (h1.has a (.head _))
  have hhe : g.held = ((hs.take m).count a : Nat) := by
    have h3 := h2.held a
    unfold heldOf at h3
    rw [hg] at h3
    exact h3
  have hc1 := hcl m a
  refine ⟨Q1, X1, g, h1, hg, by omega, by omega, h.sub, h2.up.put _ _, h2.sub.there hg rfl, h2.xis.same fun b => ?_, fun b => ?_, fun b g' hg' => ?_, fun b => ?_⟩
  · rw [get_put]; split
    · rename_i e; rw [e, hg]; rfl
    · rfl
  · have h3 := h2.acc b
    rw [refs_put_same (g' := { g with held := g.held + 1 }) h2.up hg rfl, holdsOf_put]
    by_cases e : b = a
    · subst e
      have h4 : holdsOf Q1 b = g.holds := by unfold holdsOf; rw [hg]; rfl
      rw [h4] at h3
      rw [if_pos rfl]; exact h3
    · rw [if_neg e]; exact h3
  · rw [get_put] at hg'
    by_cases e : b = a
    · rw [if_pos e] at hg'
      obtain rfl := Option.some.inj hg'
      exact h2.pos a g hg
    · rw [if_neg e] at hg'; exact h2.pos b g' hg'
  · have h3 := h2.held b
    rw [heldOf_put]
    have h4 := hc b
    by_cases e : b = a
    · subst e
      rw [if_pos rfl]
      have h5 : [b].count b = 1 := by simp
      show g.held + 1 = _
      omega
    · rw [if_neg e]
      have h5 : [a].count b = 0 := by rw [List.count_eq_zero]; simpa using e
      omega
theorem BkInv.done {es : List Ent} {hs : List Int} {F : Pgs} {XF : Spc} (hF : BInv es hs F XF) {Q : Pgs} {X : Spc} (h : BkInv es F hs hs.length Q X) : Q = F ∧ XIs es F X := by
  have hpres : ∀ a g, VMap.get a F = some g → ∃ g', VMap.get a Q = some g' ∧ g'.n = g.n := fun a g hg => by
    have h1 := h.held a
    have h2 := hF.cnt a
    rw [List.take_length, h2, hg] at h1
    simp only [Option.isSome_some, if_true] at h1
    cases hq : VMap.get a Q with
    | none => unfold heldOf at h1; rw [hq] at h1; exact absurd h1 (by decide)
    | some g' =>
      obtain ⟨gf, e1, e2⟩ := h.sub a g' hq
      rw [hg] at e1
      obtain rfl := Option.some.inj e1
      exact ⟨g', rfl, e2.symm⟩
  have hnone : ∀ a, VMap.get a F = none → VMap.get a Q = none := fun a ha => by
    cases hq : VMap.get a Q with
    | none => rfl
    | some g' =>
      obtain ⟨gf, e1, _⟩ := h.sub a g' hq
      rw [ha] at e1; cases e1
  have hrefs : ∀ a, refs Q a = refs F a := refs_ext h.up hF.up fun k => by
    cases hk : VMap.get k F with
    | none => rw [hnone k hk]
    | some g =>
      obtain ⟨g', e1, e2⟩ := hpres k g hk
      rw [e1]; simp [e2]
  have e : Q = F := VMap.ext h.up hF.up fun k => by
    cases hk : VMap.get k F with
    | none => exact hnone k hk
    | some g =>
      obtain ⟨g', e1, e2⟩ := hpres k g hk
      have h1 := h.held k
      have h2 := h.acc k
      have h3 := hF.cnt k
      obtain ⟨p1, p2⟩ := hF.pg k g hk
      rw [hk] at h3
      simp only [Option.isSome_some, if_true] at h3
      rw [List.take_length, h3] at h1 h2
      unfold heldOf at h1
      unfold holdsOf at h2
      rw [e1] at h1 h2
      rw [hrefs] at h2
      simp only [Option.map_some, Option.getD_some] at h1 h2
      rw [e1]
      obtain ⟨n, ho, he⟩ := g
      obtain ⟨n', ho', he'⟩ := g'
      simp only at e2 h1 h2 p1 p2
      subst e2
      congr 2 <;> omega
  refine ⟨e, ?_⟩
  have := h.xis
  rw [e] at this
  exact this
end Go.Proofs.YtgbgneiciabidaaGreatDoor
/-
  Plain: rising pairs in lists; trees of pages; their pairs and their weight.
-/
namespace Go.Proofs.YtgbgneiciabidaaGreatDoor
open Go Go.RowKit
set_option linter.all false

abbrev KV := Int × Int
def Srt (L : List KV) : Prop := L.Pairwise fun p q => p.1 < q.1
def putL (L : List KV) (k v : Int) : List KV := L.filter (fun p => decide (p.1 < k)) ++ (k, v) :: L.filter (fun p => decide (k < p.1))
def delL (L : List KV) (k : Int) : List KV := L.filter fun p => !(p.1 == k)

theorem Srt.left {A B : List KV} (h : Srt (A ++ B)) : Srt A := (List.pairwise_append.1 h).1
theorem Srt.right {A B : List KV} (h : Srt (A ++ B)) : Srt B := (List.pairwise_append.1 h).2.1
theorem Srt.lt {A B : List KV} (h : Srt (A ++ B)) {p q : KV} (hp : p ∈ A) (hq : q ∈ B) : p.1 < q.1 := (List.pairwise_append.1 h).2.2 p hp q hq
theorem Srt.app {A B : List KV} (h1 : Srt A) (h2 : Srt B) (h : ∀ p ∈ A, ∀ q ∈ B, p.1 < q.1) : Srt (A ++ B) := List.pairwise_append.2 ⟨h1, h2, h⟩
theorem Srt.filter {L : List KV} (h : Srt L) (f : KV → Bool) : Srt (L.filter f) := List.Pairwise.filter _ h
theorem mem_putL {L : List KV} {k v : Int} {p : KV} (h : p ∈ putL L k v) : p = (k, v) ∨ p ∈ L := by
  unfold putL at h
  rcases List.mem_append.1 h with h | h
  · exact .inr (List.mem_filter.1 h).1
  · rcases List.mem_cons.1 h with h | h
    · exact .inl h
    · exact .inr (List.mem_filter.1 h).1
theorem putL_srt {L : List KV} (h : Srt L) (k v : Int) : Srt (putL L k v) := by
  unfold putL
  refine (h.filter _).app (List.pairwise_cons.2 ⟨fun q hq => ?_, h.filter _⟩) fun p hp q hq => ?_
  · simpa using (List.mem_filter.1 hq).2
  · have h1 : p.1 < k := by simpa using (List.mem_filter.1 hp).2
    rcases List.mem_cons.1 hq with rfl | hq
    · exact h1
    · have h2 : k < q.1 := by simpa using (List.mem_filter.1 hq).2
      omega
theorem delL_srt {L : List KV} (h : Srt L) (k : Int) : Srt (delL L k) := h.filter _
theorem filter_all {α : Type} {f : α → Bool} {L : List α} (h : ∀ p ∈ L, f p = true) : L.filter f = L := List.filter_eq_self.2 h
theorem filter_no {α : Type} {f : α → Bool} {L : List α} (h : ∀ p ∈ L, f p = false) : L.filter f = [] := by
  rw [List.filter_eq_nil_iff]; intro p hp; rw [h p hp]; decide
theorem putL_mid {A M B : List KV} {k v : Int} (hA : ∀ p ∈ A, p.1 < k) (hB : ∀ p ∈ B, k < p.1) : putL (A ++ M ++ B) k v = A ++ putL M k v ++ B := by
  unfold putL
  simp only [List.filter_append]
  rw [filter_all (f := fun p : KV => decide (p.1 < k)) (fun p hp => by simpa using hA p hp), filter_no (f := fun p : KV => decide (k < p.1)) (L := A) (fun p hp => by have := hA p hp; simp; omega),
    filter_no (f := fun p : KV => decide (p.1 < k)) (L := B) (fun p hp => by have := hB p hp; simp; omega), filter_all (f := fun p : KV => decide (k < p.1)) (L := B) (fun p hp => by have := hB p hp; simp; omega)]
  simp
theorem delL_mid {A M B : List KV} {k : Int} (hA : ∀ p ∈ A, p.1 < k) (hB : ∀ p ∈ B, k < p.1) : delL (A ++ M ++ B) k = A ++ delL M k ++ B := by
  unfold delL
  simp only [List.filter_append]
  rw [filter_all (L := A) (fun p hp => by have := hA p hp; simp; omega), filter_all (L := B) (fun p hp => by have := hB p hp; simp; omega)]

/-! What a node's place is. -/
theorem lowB_cons (x y : Int) (xs : List Int) : lowB (y :: xs) x = if y < x then lowB xs x + 1 else 0 := by
  unfold lowB
  rw [List.takeWhile_cons]
  by_cases h : y < x
  · rw [if_pos (by simpa using h), if_pos h]; rfl
  · rw [if_neg (by simpa using h), if_neg h]; rfl
theorem low_take (k : Int) : ∀ {L : List KV}, Srt L → L.filter (fun p => decide (p.1 < k)) = L.take (lowB (L.map (·.1)) k)
  | [], _ => rfl
  | p :: L, h => by
    obtain ⟨h1, h2⟩ := List.pairwise_cons.1 h
    rw [List.map_cons, lowB_cons]
    by_cases e : p.1 < k
    · rw [List.filter_cons_of_pos (by simpa using e), if_pos e, List.take_succ_cons, low_take k h2]
    · rw [List.filter_cons_of_neg (by simpa using e), if_neg e, List.take_zero]
      exact filter_no fun q hq => by have := h1 q hq; simp; omega
theorem high_drop (k : Int) : ∀ {L : List KV}, Srt L → L.filter (fun p => decide (k ≤ p.1)) = L.drop (lowB (L.map (·.1)) k)
  | [], _ => rfl
  | p :: L, h => by
    obtain ⟨h1, h2⟩ := List.pairwise_cons.1 h
    rw [List.map_cons, lowB_cons]
    by_cases e : p.1 < k
    · rw [List.filter_cons_of_neg (by simp; omega), if_pos e, List.drop_succ_cons, high_drop k h2]
    · rw [List.filter_cons_of_pos (by simp; omega), if_neg e, List.drop_zero]
      congr 1
      exact filter_all fun q hq => by have := h1 q hq; simp; omega
theorem low_len (k : Int) (L : List KV) : lowB (L.map (·.1)) k ≤ L.length := by
  have := (List.takeWhile_sublist (fun y => decide (y < k)) (l := L.map (·.1))).length_le
  rw [List.length_map] at this
  exact this
theorem putP_eq {L : List KV} (h : Srt L) (k v : Int) : putP L k v = putL L k v := by
  unfold putP putL
  rw [low_take k h]
  have hd := high_drop k h
  have hl := low_len k L
  generalize lowB (L.map (·.1)) k = i at *
  by_cases hx : (L.map (·.1))[i]? = some k
  · rw [if_pos hx]
    rw [List.getElem?_map, Option.map_eq_some_iff] at hx
    obtain ⟨p, hp, hk⟩ := hx
    have hi := (List.getElem?_eq_some_iff.1 hp).1
    have hdr : L.drop i = p :: L.drop (i + 1) := by
      rw [List.drop_eq_getElem_cons hi]
      rw [List.getElem?_eq_getElem hi] at hp
      rw [Option.some.inj hp]
    have e1 : L.filter (fun q => decide (k < q.1)) = (L.filter fun q => decide (k ≤ q.1)).filter fun q => decide (k < q.1) := by
      rw [List.filter_filter]
      apply List.filter_congr
      intro q _
      rw [Bool.eq_iff_iff]; simp; omega
    rw [e1, hd, hdr, List.filter_cons_of_neg (by simp; omega)]
    have hs2 : Srt (p :: L.drop (i + 1)) := by rw [← hdr]; exact List.Pairwise.drop h
    rw [filter_all fun q hq => by have := (List.pairwise_cons.1 hs2).1 q hq; simp; omega]
    rw [List.set_eq_take_append_cons_drop, if_pos hi]
  · rw [if_neg hx]
    unfold insP
    have e1 : L.filter (fun q => decide (k < q.1)) = L.filter (fun q => decide (k ≤ q.1)) := by
      apply List.filter_congr
      intro q hq
      have hne : q.1 ≠ k := by
        intro e
        have hm : q ∈ L.filter (fun q => decide (k ≤ q.1)) := List.mem_filter.2 ⟨hq, by simp; omega⟩
        rw [hd] at hm
        cases hdr : L.drop i with
        | nil => rw [hdr] at hm; cases hm
        | cons p r =>
          have hs2 : Srt (p :: r) := by rw [← hdr]; exact List.Pairwise.drop h
          have hp : L[i]? = some p := by
            have := congrArg (·[0]?) hdr
            simp only [List.getElem?_drop] at this
            simpa using this
          have hkp : k ≤ p.1 := by
            have : p ∈ L.drop i := by rw [hdr]; exact .head _
            rw [← hd] at this
            simpa using (List.mem_filter.1 this).2
          have hpk : p.1 ≠ k := fun e2 => hx (by rw [List.getElem?_map, hp]; simp [e2])
          rw [hdr] at hm
          rcases List.mem_cons.1 hm with rfl | hm
          · exact hpk e
          · have := (List.pairwise_cons.1 hs2).1 q hm
            omega
      rw [Bool.eq_iff_iff]; simp; omega
    rw [e1, hd]
theorem erase_eq {L : List KV} (h : Srt L) {k : Int} (hx : (L.map (·.1))[lowB (L.map (·.1)) k]? = some k) : L.eraseIdx (lowB (L.map (·.1)) k) = delL L k := by
  have h1 := low_take k h
  have h2 := high_drop k h
  generalize lowB (L.map (·.1)) k = i at *
  rw [List.getElem?_map, Option.map_eq_some_iff] at hx
  obtain ⟨p, hp, hk⟩ := hx
  have hi := (List.getElem?_eq_some_iff.1 hp).1
  have hdr : L.drop i = p :: L.drop (i + 1) := by
    rw [List.drop_eq_getElem_cons hi]
    rw [List.getElem?_eq_getElem hi] at hp
    rw [Option.some.inj hp]
  have hs2 : Srt (p :: L.drop (i + 1)) := by rw [← hdr]; exact List.Pairwise.drop h
  rw [List.eraseIdx_eq_take_drop_succ]
  have e : delL L k = delL (L.take i) k ++ delL (L.drop i) k := by
    unfold delL; rw [← List.filter_append, List.take_append_drop]
  rw [e, hdr]
  unfold delL
  rw [List.filter_cons_of_neg (by simp [hk]), filter_all (L := L.take i) fun q hq => by rw [← h1] at hq; have := (List.mem_filter.1 hq).2; simp at this ⊢; omega,
    filter_all fun q hq => by have := (List.pairwise_cons.1 hs2).1 q hq; simp; omega]

/-! Trees. -/
def wt (lv m : Nat) : Nat := 2 ^ lv * (m - 4) + if lv = 0 then 2 else 2 ^ lv
inductive TrG (T : Int → List KV → Nat → Prop) : List KV → List KV → Nat → Prop
  | nil : TrG T [] [] 0
  | cons {k v : Int} {L1 : List KV} {s1 : Nat} {ps L2 : List KV} {s2 : Nat} : T v L1 s1 → (L1.map (·.1)).head? = some k → TrG T ps L2 s2 → TrG T ((k, v) :: ps) (L1 ++ L2) (s1 + s2)
def Tr (Q : Pgs) : Nat → Int → List KV → Nat → Prop
  | 0, a, L, s => ∃ g, VMap.get a Q = some g ∧ g.n.level = 0 ∧ L = g.n.pairs ∧ s = wt 0 g.n.keys.length
  | lv + 1, a, L, s => ∃ g s', VMap.get a Q = some g ∧ g.n.level = ((lv + 1 : Nat) : Int) ∧ TrG (Tr Q lv) g.n.pairs L s' ∧ s = wt (lv + 1) g.n.keys.length + s'
abbrev TrL (Q : Pgs) (lv : Nat) : List KV → List KV → Nat → Prop := TrG (Tr Q lv)

theorem TrG.mono {T T' : Int → List KV → Nat → Prop} {ps L : List KV} {s : Nat} (h : TrG T ps L s) (hm : ∀ p ∈ ps, ∀ L s, T p.2 L s → T' p.2 L s) : TrG T' ps L s := by
  induction h with
  | nil => exact .nil
  | cons h1 h2 _ ih => exact .cons (hm _ (.head _) _ _ h1) h2 (ih fun p hp => hm p (.tail _ hp))
theorem TrG.app {T : Int → List KV → Nat → Prop} {A LA : List KV} {sA : Nat} (h : TrG T A LA sA) {B LB : List KV} {sB : Nat} (h2 : TrG T B LB sB) : TrG T (A ++ B) (LA ++ LB) (sA + sB) := by
  induction h with
  | nil => simpa using h2
  | cons a b _ ih => rw [List.cons_append, List.append_assoc, Nat.add_assoc]; exact .cons a b ih
theorem TrG.split {T : Int → List KV → Nat → Prop} : ∀ {A B L : List KV} {s : Nat}, TrG T (A ++ B) L s → ∃ LA LB sA sB, TrG T A LA sA ∧ TrG T B LB sB ∧ L = LA ++ LB ∧ s = sA + sB
  | [], B, L, s, h => ⟨[], L, 0, s, .nil, h, rfl, by omega⟩
  | p :: A, B, L, s, h => by
    cases h with
    | cons a b c =>
      obtain ⟨LA, LB, sA, sB, h1, h2, rfl, rfl⟩ := TrG.split c
      exact ⟨_, LB, _, sB, .cons a b h1, h2, by rw [List.append_assoc], by omega⟩
theorem TrG.one {T : Int → List KV → Nat → Prop} {p : KV} {B L : List KV} {s : Nat} (h : TrG T (p :: B) L s) : ∃ LM LB sM sB, T p.2 LM sM ∧ (LM.map (·.1)).head? = some p.1 ∧ TrG T B LB sB ∧ L = LM ++ LB ∧ s = sM + sB := by
  cases h with
  | cons a b c => exact ⟨_, _, _, _, a, b, c, rfl, rfl⟩
theorem TrG.single {T : Int → List KV → Nat → Prop} {k v : Int} {L : List KV} {s : Nat} (h : T v L s) (hk : (L.map (·.1)).head? = some k) : TrG T [(k, v)] L s := by
  have := TrG.cons h hk (TrG.nil (T := T))
  simpa using this
theorem head_mem {L : List KV} {k : Int} (h : (L.map (·.1)).head? = some k) : ∃ x ∈ L, x.1 = k := by
  cases L with
  | nil => cases h
  | cons x r => exact ⟨x, .head _, by simpa using h⟩
theorem TrG.keys {T : Int → List KV → Nat → Prop} {ps L : List KV} {s : Nat} (h : TrG T ps L s) : ∀ p ∈ ps, ∃ x ∈ L, x.1 = p.1 := by
  induction h with
  | nil => intro p hp; cases hp
  | cons a b _ ih =>
    intro p hp
    rcases List.mem_cons.1 hp with rfl | hp
    · obtain ⟨x, hx, e⟩ := head_mem b
      exact ⟨x, List.mem_append_left _ hx, e⟩
    · obtain ⟨x, hx, e⟩ := ih p hp
      exact ⟨x, List.mem_append_right _ hx, e⟩
theorem TrG.srt {T : Int → List KV → Nat → Prop} {ps L : List KV} {s : Nat} (h : TrG T ps L s) : Srt L → Srt ps := by
  induction h with
  | nil => intro _; exact List.Pairwise.nil
  | cons a b c ih =>
    intro hs
    refine List.pairwise_cons.2 ⟨fun q hq => ?_, ih hs.right⟩
    obtain ⟨x, hx, e⟩ := c.keys q hq
    obtain ⟨y, hy, e2⟩ := head_mem b
    have := hs.lt hy hx
    show _ < q.1
    omega
theorem TrG.head {T : Int → List KV → Nat → Prop} {p : KV} {B L : List KV} {s : Nat} (h : TrG T (p :: B) L s) : (L.map (·.1)).head? = some p.1 := by
  cases h with
  | cons a b c =>
    rename_i k v L1 s1 L2 s2
    cases L1 with
    | nil => cases b
    | cons x r => simpa using b
theorem head_le {L : List KV} (hs : Srt L) {k : Int} (h : (L.map (·.1)).head? = some k) : ∀ x ∈ L, k ≤ x.1 := by
  cases L with
  | nil => cases h
  | cons y r =>
    intro x hx
    have e : y.1 = k := by simpa using h
    rcases List.mem_cons.1 hx with rfl | hx
    · omega
    · have := (List.pairwise_cons.1 hs).1 x hx; omega
theorem TrG.len {T : Int → List KV → Nat → Prop} {ps L : List KV} {s : Nat} (h : TrG T ps L s) : ps.length ≤ L.length := by
  induction h with
  | nil => exact Nat.le_refl _
  | cons a b _ ih =>
    rename_i k v L1 s1 ps L2 s2 _
    cases L1 with
    | nil => cases b
    | cons x r => simp only [List.length_cons, List.length_append]; omega

theorem TrG.place {T : Int → List KV → Nat → Prop} {A B L : List KV} {p : KV} {s : Nat} {key : Int} (h : TrG T (A ++ p :: B) L s) (hs : Srt L) (hA : A ≠ [] → p.1 ≤ key) (hB : ∀ q ∈ B, key < q.1) :
    ∃ LA LM LB sA sM sB, TrG T A LA sA ∧ T p.2 LM sM ∧ (LM.map (·.1)).head? = some p.1 ∧ TrG T B LB sB ∧ L = LA ++ LM ++ LB ∧ s = sA + sM + sB ∧ (∀ x ∈ LA, x.1 < key) ∧ (∀ x ∈ LB, key < x.1) := by
  obtain ⟨LA, LR, sA, sR, hA1, hR, rfl, rfl⟩ := h.split
  obtain ⟨LM, LB, sM, sB, hM, hk, hB1, rfl, rfl⟩ := hR.one
  refine ⟨LA, LM, LB, sA, sM, sB, hA1, hM, hk, hB1, by rw [List.append_assoc], by omega, ?_, ?_⟩
  · intro x hx
    cases A with
    | nil => cases hA1; cases hx
    | cons a A' =>
      obtain ⟨y, hy, e⟩ := head_mem hk
      have h1 := hs.lt hx (List.mem_append_left _ hy)
      have h2 := hA (by simp)
      omega
  · intro x hx
    cases B with
    | nil => cases hB1; cases hx
    | cons b B' =>
      have h1 := head_le hs.right.right hB1.head x hx
      have h2 := hB b (.head _)
      omega

theorem Tr.get {Q : Pgs} {lv : Nat} {a : Int} {L : List KV} {s : Nat} (h : Tr Q lv a L s) : ∃ g, VMap.get a Q = some g ∧ g.n.level = (lv : Int) := by
  cases lv with
  | zero => obtain ⟨g, h1, h2, _⟩ := h; exact ⟨g, h1, h2⟩
  | succ lv => obtain ⟨g, s', h1, h2, _⟩ := h; exact ⟨g, h1, h2⟩
def Same (Q Q' : Pgs) : Prop := ∀ a g, VMap.get a Q = some g → ∃ g', VMap.get a Q' = some g' ∧ g'.n = g.n
theorem Tr.mono {Q Q' : Pgs} (hm : Same Q Q') : ∀ {lv : Nat} {a : Int} {L : List KV} {s : Nat}, Tr Q lv a L s → Tr Q' lv a L s
  | 0, a, L, s, ⟨g, h1, h2, h3, h4⟩ => by
    obtain ⟨g', e1, e2⟩ := hm a g h1
    exact ⟨g', e1, by rw [e2]; exact h2, by rw [e2]; exact h3, by rw [e2]; exact h4⟩
  | lv + 1, a, L, s, ⟨g, s', h1, h2, h3, h4⟩ => by
    obtain ⟨g', e1, e2⟩ := hm a g h1
    exact ⟨g', s', e1, by rw [e2]; exact h2, by rw [e2]; exact h3.mono fun _ _ _ _ h => Tr.mono hm h, by rw [e2]; exact h4⟩
end Go.Proofs.YtgbgneiciabidaaGreatDoor
