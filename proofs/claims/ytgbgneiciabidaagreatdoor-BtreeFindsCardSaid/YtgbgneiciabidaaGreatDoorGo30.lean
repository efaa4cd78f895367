/-
  Plain: what trees weigh, how many pages they have; trees among fewer pages.
-/
import Derived.Test.YtgbgneiciabidaaGreatDoorGo29
namespace Go.Proofs.YtgbgneiciabidaaGreatDoor
open Go Go.RowKit
set_option linter.all false

theorem wt_mono (lv : Nat) {m m' : Nat} (h : m ≤ m') : wt lv m ≤ wt lv m' := by
  unfold wt
  exact Nat.add_le_add_right (Nat.mul_le_mul_left _ (by omega)) _
theorem wt_ins (lv m : Nat) : wt lv (m + 1) ≤ wt lv m + 2 ^ lv := by
  unfold wt
  by_cases h : m < 4
  · rw [show m + 1 - 4 = 0 by omega, show m - 4 = 0 by omega]; exact Nat.le_add_right _ _
  · rw [show m + 1 - 4 = (m - 4) + 1 by omega, Nat.mul_add]; omega
theorem wt_split (lv : Nat) : wt lv 4 + wt lv 4 + 2 ^ (lv + 1) ≤ wt lv 7 + 2 ^ lv := by
  unfold wt
  rw [Nat.pow_succ]
  by_cases h : lv = 0
  · subst h; decide
  · rw [if_neg h]; omega
theorem wt_root (lv : Nat) : wt (lv + 1) 2 ≤ 2 ^ (lv + 1) := by
  unfold wt
  rw [if_neg (by omega)]; omega
theorem wt_two (lv m : Nat) : 2 ≤ wt lv m ∧ 2 ^ lv ≤ wt lv m := by
  unfold wt
  by_cases h : lv = 0
  · subst h; simp
  · rw [if_neg h]
    have : 2 ^ 1 ≤ 2 ^ lv := Nat.pow_le_pow_right (by omega) (by omega)
    omega
theorem Tr.weighs {Q : Pgs} {lv : Nat} {a : Int} {L : List KV} {s : Nat} (h : Tr Q lv a L s) : 2 ≤ s ∧ 2 ^ lv ≤ s := by
  cases lv with
  | zero => obtain ⟨g, _, _, _, rfl⟩ := h; exact wt_two 0 _
  | succ lv =>
    obtain ⟨g, s', _, _, _, rfl⟩ := h
    have := wt_two (lv + 1) g.n.keys.length
    omega
theorem pair_kid {n : Nd} (h : n.level ≠ 0) {p : KV} (hp : p ∈ n.pairs) : p.2 ∈ n.kids := by
  unfold Nd.kids
  rw [if_neg h]
  exact (List.of_mem_zip (show (p.1, p.2) ∈ n.keys.zip n.vals from hp)).2
theorem kid_pair {n : Nd} (ok : n.ok = true) {c : Int} (hc : c ∈ n.kids) : ∃ p ∈ n.pairs, p.2 = c := by
  have hv := kids_sub n c hc
  obtain ⟨_, _, e, _, _⟩ := ok_lens ok
  obtain ⟨i, hi, rfl⟩ := List.getElem_of_mem hv
  refine ⟨(n.keys[i]'(by omega), n.vals[i]), ?_, rfl⟩
  refine List.mem_iff_getElem?.2 ⟨i, ?_⟩
  unfold Nd.pairs
  rw [List.getElem?_zip_eq_some]
  exact ⟨List.getElem?_eq_getElem _, List.getElem?_eq_getElem _⟩
/-- All pages of a tree; no more than half of what it weighs. -/
theorem TrG.pages {Q : Pgs} {T : Int → List KV → Nat → Prop} (hT : ∀ a L s, T a L s → ∃ Z : List Int, 2 * Z.length ≤ s ∧ a ∈ Z ∧ ∀ b ∈ Z, ∀ g, VMap.get b Q = some g → ∀ c ∈ g.n.kids, c ∈ Z) {ps L : List KV} {s : Nat} (h : TrG T ps L s) :
    ∃ Z : List Int, 2 * Z.length ≤ s ∧ (∀ p ∈ ps, p.2 ∈ Z) ∧ ∀ b ∈ Z, ∀ g, VMap.get b Q = some g → ∀ c ∈ g.n.kids, c ∈ Z := by
  induction h with
  | nil => exact ⟨[], by simp, by simp, by simp⟩
  | cons a b _ ih =>
    obtain ⟨Z1, h1, h2, h3⟩ := hT _ _ _ a
    obtain ⟨Z2, h4, h5, h6⟩ := ih
    refine ⟨Z1 ++ Z2, by rw [List.length_append]; omega, fun p hp => ?_, fun b hb g hg c hc => ?_⟩
    · rcases List.mem_cons.1 hp with rfl | hp
      · exact List.mem_append_left _ h2
      · exact List.mem_append_right _ (h5 p hp)
    · rcases List.mem_append.1 hb with hb | hb
      · exact List.mem_append_left _ (h3 b hb g hg c hc)
      · exact List.mem_append_right _ (h6 b hb g hg c hc)
theorem Tr.pages {es : List Ent} {Q : Pgs} {D : Int → Nat} (hI : FInv es Q D) : ∀ {lv : Nat} {a : Int} {L : List KV} {s : Nat}, Tr Q lv a L s → ∃ Z : List Int, 2 * Z.length ≤ s ∧ a ∈ Z ∧ ∀ b ∈ Z, ∀ g, VMap.get b Q = some g → ∀ c ∈ g.n.kids, c ∈ Z
  | 0, a, L, s, h => by
    have hw := h.weighs
    obtain ⟨g, h1, h2, _, _⟩ := h
    refine ⟨[a], by simp; omega, .head _, fun b hb g' hg' c hc => ?_⟩
    rw [List.mem_singleton] at hb
    subst hb
    rw [h1] at hg'
    obtain rfl := Option.some.inj hg'
    unfold Nd.kids at hc
    rw [if_pos h2] at hc
    cases hc
  | lv + 1, a, L, s, h => by
    obtain ⟨g, s', h1, h2, h3, rfl⟩ := h
    obtain ⟨Z, q1, q2, q3⟩ := h3.pages fun a L s h => Tr.pages hI h
    have hw := wt_two (lv + 1) g.n.keys.length
    refine ⟨a :: Z, by rw [List.length_cons]; omega, .head _, fun b hb g' hg' c hc => ?_⟩
    rcases List.mem_cons.1 hb with rfl | hb
    · rw [h1] at hg'
      obtain rfl := Option.some.inj hg'
      obtain ⟨p, hp, rfl⟩ := kid_pair (hI.pg _ g h1).1 hc
      exact .tail _ (q2 p hp)
    · exact .tail _ (q3 b hb g' hg' c hc)

/-- Fewer pages, with the nodes that they had. -/
def Agree (Q Q' : Pgs) : Prop := ∀ b g', VMap.get b Q' = some g' → ∃ g, VMap.get b Q = some g ∧ g'.n = g.n
theorem Shr.agree {Q Q' : Pgs} (h : Shr Q Q') : Agree Q Q' := fun b g' hb => by
  obtain ⟨g, h1, h2, _⟩ := h.sub b g' hb
  exact ⟨g, h1, h2⟩
theorem Dropd.agree {a : Int} {Q Q' : Pgs} (h : Dropd a Q Q') : Agree Q Q' := fun b g' hb => by
  obtain ⟨g, h1, h2, _⟩ := h.sub b g' hb
  exact ⟨g, h1, h2⟩
theorem Agree.trans {A B C : Pgs} (h : Agree A B) (k : Agree B C) : Agree A C := fun b g' hb => by
  obtain ⟨g1, e1, n1⟩ := k b g' hb
  obtain ⟨g2, e2, n2⟩ := h b g1 e1
  exact ⟨g2, e2, n1.trans n2⟩
theorem Tr.agree {es : List Ent} {Q Q' : Pgs} {D : Int → Nat} (hI : FInv es Q' D) (ha : Agree Q Q') : ∀ {lv : Nat} {a : Int} {L : List KV} {s : Nat}, (VMap.get a Q').isSome = true → Tr Q lv a L s → Tr Q' lv a L s
  | 0, a, L, s, hs, ⟨g, h1, h2, h3, h4⟩ => by
    obtain ⟨g', hg'⟩ := Option.isSome_iff_exists.1 hs
    obtain ⟨g0, e1, n1⟩ := ha a g' hg'
    rw [h1] at e1
    obtain rfl := Option.some.inj e1
    exact ⟨g', hg', by rw [n1]; exact h2, by rw [n1]; exact h3, by rw [n1]; exact h4⟩
  | lv + 1, a, L, s, hs, ⟨g, s', h1, h2, h3, h4⟩ => by
    obtain ⟨g', hg'⟩ := Option.isSome_iff_exists.1 hs
    obtain ⟨g0, e1, n1⟩ := ha a g' hg'
    rw [h1] at e1
    obtain rfl := Option.some.inj e1
    refine ⟨g', s', hg', by rw [n1]; exact h2, ?_, by rw [n1]; exact h4⟩
    rw [n1]
    refine h3.mono fun p hp L s h => Tr.agree hI ha ?_ h
    have hk : p.2 ∈ g'.n.kids := by rw [n1]; exact pair_kid (by rw [h2]; omega) hp
    obtain ⟨gc, hgc, _⟩ := hI.kid a g' hg' p.2 hk
    rw [hgc]; rfl

/-- A page has one list of pairs, and one weight. -/
theorem TrG.uniq {T T' : Int → List KV → Nat → Prop} {ps L : List KV} {s : Nat} (h : TrG T ps L s) (hT : ∀ p ∈ ps, ∀ L s L' s', T p.2 L s → T' p.2 L' s' → L = L' ∧ s = s') : ∀ {L' : List KV} {s' : Nat}, TrG T' ps L' s' → L = L' ∧ s = s' := by
  induction h with
  | nil => intro L' s' h'; cases h'; exact ⟨rfl, rfl⟩
  | cons a b _ ih =>
    intro L' s' h'
    obtain ⟨LM, LB, sM, sB, h1, _, h2, rfl, rfl⟩ := h'.one
    obtain ⟨rfl, rfl⟩ := hT _ (.head _) _ _ _ _ a h1
    obtain ⟨rfl, rfl⟩ := ih (fun p hp => hT p (.tail _ hp)) h2
    exact ⟨rfl, rfl⟩
theorem Tr.uniq {Q : Pgs} : ∀ {lv lv' : Nat} {a : Int} {L L' : List KV} {s s' : Nat}, Tr Q lv a L s → Tr Q lv' a L' s' → lv = lv' ∧ L = L' ∧ s = s'
  | 0, 0, a, L, L', s, s', ⟨g, h1, h2, h3, h4⟩, ⟨g', e1, e2, e3, e4⟩ => by
    rw [h1] at e1
    obtain rfl := Option.some.inj e1
    exact ⟨rfl, h3.trans e3.symm, h4.trans e4.symm⟩
  | 0, lv' + 1, a, L, L', s, s', ⟨g, h1, h2, _, _⟩, ⟨g', _, e1, e2, _, _⟩ => by
    rw [h1] at e1
    obtain rfl := Option.some.inj e1
    omega
  | lv + 1, 0, a, L, L', s, s', ⟨g, _, h1, h2, _, _⟩, ⟨g', e1, e2, _, _⟩ => by
    rw [h1] at e1
    obtain rfl := Option.some.inj e1
    omega
  | lv + 1, lv' + 1, a, L, L', s, s', ⟨g, t, h1, h2, h3, h4⟩, ⟨g', t', e1, e2, e3, e4⟩ => by
    rw [h1] at e1
    obtain rfl := Option.some.inj e1
    obtain rfl : lv = lv' := by omega
    obtain ⟨rfl, rfl⟩ := h3.uniq (fun p _ L s L' s' a b => (Tr.uniq a b).2) e3
    exact ⟨rfl, rfl, h4.trans e4.symm⟩

/-- A root: none, or a page that is held. -/
structure Root (Q : Pgs) (a : Int) (L : List KV) (s : Nat) : Prop where
  it : (a = 0 ∧ L = [] ∧ s = 0) ∨ ∃ lv, Tr Q lv a L s ∧ Srt L ∧ 0 < heldOf Q a
theorem Root.nil (Q : Pgs) : Root Q 0 [] 0 := ⟨.inl ⟨rfl, rfl, rfl⟩⟩
theorem Root.srt {Q : Pgs} {a : Int} {L : List KV} {s : Nat} (h : Root Q a L s) : Srt L := by
  rcases h.it with ⟨_, rfl, _⟩ | ⟨_, _, h, _⟩
  · exact List.Pairwise.nil
  · exact h
/-- Every page is named, or held. -/
def Live (Q : Pgs) : Prop := ∀ a g, VMap.get a Q = some g → 0 < g.holds
theorem heldOf_some {Q : Pgs} {a : Int} (h : 0 < heldOf Q a) : ∃ g, VMap.get a Q = some g ∧ heldOf Q a = g.held := by
  unfold heldOf at h ⊢
  cases hg : VMap.get a Q with
  | none => rw [hg] at h; exact absurd h (by decide)
  | some g => exact ⟨g, rfl, rfl⟩
/-- Every page is in a tree whose root is held. -/
theorem Live.all {es : List Ent} {Q : Pgs} (hI : FInv es Q (fun _ => 0)) (hL : Live Q) {Z : List Int} (hZ : ∀ a g, VMap.get a Q = some g → 0 < g.held → a ∈ Z) (hc : ∀ b ∈ Z, ∀ g, VMap.get b Q = some g → ∀ c ∈ g.n.kids, c ∈ Z) :
    ∀ a g, VMap.get a Q = some g → a ∈ Z := by
  have key : ∀ (n : Nat) a g, VMap.get a Q = some g → g.n.level + n = 20 → a ∈ Z := by
    intro n
    induction n with
    | zero =>
      intro a g hg hl
      have h1 := hL a g hg
      obtain ⟨_, h2, h3⟩ := hI.pg a g hg
      by_cases hh : 0 < g.held
      · exact hZ a g hg hh
      · obtain ⟨b, gb, hb, hm⟩ := refs_who hI.up (a := a) (by omega)
        obtain ⟨gc, hgc, hlc⟩ := hI.kid b gb hb a hm
        rw [hg] at hgc
        obtain rfl := Option.some.inj hgc
        have := (hI.lv hb).2
        omega
    | succ n ih =>
      intro a g hg hl
      have h1 := hL a g hg
      obtain ⟨_, h2, h3⟩ := hI.pg a g hg
      by_cases hh : 0 < g.held
      · exact hZ a g hg hh
      · obtain ⟨b, gb, hb, hm⟩ := refs_who hI.up (a := a) (by omega)
        obtain ⟨gc, hgc, hlc⟩ := hI.kid b gb hb a hm
        rw [hg] at hgc
        obtain rfl := Option.some.inj hgc
        exact hc b (ih b gb hb (by omega)) gb hb a hm
  intro a g hg
  have := hI.lv hg
  exact key (20 - g.n.level).toNat a g hg (by omega)
theorem len_in {Q : Pgs} (hu : VMap.Up Q) {Z : List Int} (h : ∀ a g, VMap.get a Q = some g → a ∈ Z) : Q.length ≤ Z.length := by
  have hnd : (Q.map (·.1)).Nodup := by
    refine List.pairwise_map.2 (hu.imp fun {a b} hab => ?_)
    omega
  have hsub : ∀ x ∈ Q.map (·.1), x ∈ Z := fun x hx => by
    obtain ⟨p, hp, rfl⟩ := List.mem_map.1 hx
    exact h p.1 p.2 (mem_get hu hp)
  have := List.Nodup.length_le_of_subset hnd hsub
  rwa [List.length_map] at this
end Go.Proofs.YtgbgneiciabidaaGreatDoor
/-
  Plain: pages that are put one behind the other.
-/
namespace Go.Proofs.YtgbgneiciabidaaGreatDoor
open Go Go.RowKit
set_option linter.all false

theorem named_of {Q : Pgs} {n : Nd} (h : ∀ c ∈ n.kids, ∃ g, VMap.get c Q = some g ∧ g.n.level = n.level - 1) : namedErr Q n = .nilIface := by
  unfold namedErr
  rw [if_neg, if_neg]
  · simp only [List.any_eq_true, not_exists, not_and]
    intro c hc
    obtain ⟨g, hg, hl⟩ := h c hc
    unfold offLevel lvOf
    rw [hg]
    simp [hl]
  · simp only [List.any_eq_true, not_exists, not_and]
    intro c hc
    obtain ⟨g, hg, hl⟩ := h c hc
    unfold missing
    rw [hg]; simp
theorem named_kid {Q : Pgs} {n : Nd} (h : namedErr Q n = .nilIface) : ∀ c ∈ n.kids, ∃ g, VMap.get c Q = some g ∧ g.n.level = n.level - 1 := fun c hc => by
  obtain ⟨g, hg⟩ := Option.isSome_iff_exists.1 (named_some h c hc)
  have := named_lv h c hc
  unfold lvOf at this
  rw [hg] at this
  exact ⟨g, hg, this⟩
theorem Same.named {Q Q' : Pgs} (h : Same Q Q') {n : Nd} (nm : namedErr Q n = .nilIface) : namedErr Q' n = .nilIface := named_of fun c hc => by
  obtain ⟨g, hg, hl⟩ := named_kid nm c hc
  obtain ⟨g', hg', hn⟩ := h c g hg
  exact ⟨g', hg', by rw [hn]; exact hl⟩
theorem Same.refl (Q : Pgs) : Same Q Q := fun a g h => ⟨g, h, rfl⟩
theorem Same.trans {A B C : Pgs} (h : Same A B) (k : Same B C) : Same A C := fun a g hg => by
  obtain ⟨g1, e1, n1⟩ := h a g hg
  obtain ⟨g2, e2, n2⟩ := k a g1 e1
  exact ⟨g2, e2, n2.trans n1⟩

/-- Pages are put: where they stand, and their nodes. -/
inductive Puts (es : List Ent) : Pgs → List (Int × Nd) → Pgs → Prop
  | nil (Q : Pgs) : Puts es Q [] Q
  | cons {Q : Pgs} {a : Int} {n : Nd} {l : List (Int × Nd)} {Q' : Pgs} : Next es Q a → n.ok = true → namedErr Q n = .nilIface → Puts es (put1 Q a n) l Q' → Puts es Q ((a, n) :: l) Q'
theorem Puts.trans {es : List Ent} {A B C : Pgs} {l m : List (Int × Nd)} (h : Puts es A l B) (k : Puts es B m C) : Puts es A (l ++ m) C := by
  induction h with
  | nil => exact k
  | cons a b c _ ih => exact .cons a b c (ih k)
theorem Puts.snoc {es : List Ent} {A B : Pgs} {l : List (Int × Nd)} (h : Puts es A l B) {a : Int} {n : Nd} (hn : Next es B a) (ok : n.ok = true) (nm : namedErr B n = .nilIface) : Puts es A (l ++ [(a, n)]) (put1 B a n) := h.trans (.cons hn ok nm (.nil _))
theorem Puts.same {es : List Ent} {Q Q' : Pgs} {l : List (Int × Nd)} (h : Puts es Q l Q') : Same Q Q' := by
  induction h with
  | nil => exact .refl _
  | cons a b c _ ih => exact (put1_same a.new).trans ih
theorem Puts.inv {es : List Ent} {Q Q' : Pgs} {l : List (Int × Nd)} (h : Puts es Q l Q') (hI : FInv es Q (fun _ => 0)) : FInv es Q' (fun _ => 0) := by
  induction h with
  | nil => exact hI
  | cons a b c _ ih => exact ih (hI.put a.new b c a.std)
theorem put1_held {Q : Pgs} {a : Int} {n : Nd} (ha : VMap.get a Q = none) (b : Int) : heldOf (put1 Q a n) b = heldOf Q b := by
  unfold heldOf
  rw [get_put1]
  by_cases e : b = a
  · subst e; rw [if_pos rfl, ha]; rfl
  · rw [if_neg e]; cases VMap.get b Q <;> rfl
theorem Puts.held {es : List Ent} {Q Q' : Pgs} {l : List (Int × Nd)} (h : Puts es Q l Q') (b : Int) : heldOf Q' b = heldOf Q b := by
  induction h with
  | nil => rfl
  | cons a _ _ _ ih => rw [ih, put1_held a.new]
theorem Puts.fresh {es : List Ent} {Q Q' : Pgs} {l : List (Int × Nd)} (h : Puts es Q l Q') : ∀ p ∈ l, VMap.get p.1 Q = none ∧ 2 ≤ p.1 ∧ p.1 < 32768 ∧ ∃ g, VMap.get p.1 Q' = some g ∧ g.n = p.2 := by
  induction h with
  | nil => intro p hp; cases hp
  | cons hx hb hc h ih =>
    rename_i Q a n l Q'
    intro p hp
    rcases List.mem_cons.1 hp with rfl | hp
    · obtain ⟨g, hg, hn⟩ := h.same _ _ (put1_new hc hx.new)
      have := hx.std.bd
      exact ⟨hx.new, by omega, by omega, g, hg, hn⟩
    · obtain ⟨h1, h2, h3, h4⟩ := ih p hp
      refine ⟨?_, h2, h3, h4⟩
      rw [get_put1] at h1
      by_cases e : p.1 = a
      · rw [if_pos e] at h1; cases h1
      · rw [if_neg e, Option.map_eq_none_iff] at h1; exact h1
theorem Puts.has {es : List Ent} {Q Q' : Pgs} {l : List (Int × Nd)} (h : Puts es Q l Q') : ∀ a g, VMap.get a Q' = some g → a ∈ l.map (·.1) ∨ ∃ g0, VMap.get a Q = some g0 ∧ g0.n = g.n ∧ g0.held = g.held ∧ g0.holds ≤ g.holds := by
  induction h with
  | nil => intro a g hg; exact .inr ⟨g, hg, rfl, rfl, Int.le_refl _⟩
  | cons hx hb hc h ih =>
    rename_i Q a n l Q'
    intro x g hg
    rcases ih x g hg with hm | ⟨g0, e0, n0, h0, l0⟩
    · exact .inl (List.mem_cons_of_mem _ hm)
    · rw [get_put1] at e0
      by_cases e : x = a
      · exact .inl (by rw [List.map_cons, e]; exact .head _)
      · rw [if_neg e] at e0
        obtain ⟨g1, e1, rfl⟩ := Option.map_eq_some_iff.1 e0
        refine .inr ⟨g1, e1, n0, h0, ?_⟩
        simp only at l0
        omega
/-- Who holds nothing among them was put, or held nothing ahead. -/
theorem Puts.loose {es : List Ent} {Q Q' : Pgs} {l : List (Int × Nd)} (h : Puts es Q l Q') (hL : Live Q) : ∀ a g, VMap.get a Q' = some g → g.holds ≤ 0 → a ∈ l.map (·.1) := fun a g hg h0 => by
  rcases h.has a g hg with hm | ⟨g0, e0, _, _, l0⟩
  · exact hm
  · have := hL a g0 e0; omega
theorem Puts.len {es : List Ent} {Q Q' : Pgs} {l : List (Int × Nd)} (h : Puts es Q l Q') (hu : VMap.Up Q) (hu' : VMap.Up Q') : Q'.length ≤ Q.length + l.length := by
  have : Q'.length ≤ (l.map (·.1) ++ Q.map (·.1)).length := len_in hu' fun a g hg => by
    rcases h.has a g hg with hm | ⟨g0, e0, _⟩
    · exact List.mem_append_left _ hm
    · exact List.mem_append_right _ (List.mem_map.2 ⟨(a, g0), get_mem e0, rfl⟩)
  rw [List.length_append, List.length_map, List.length_map] at this
  omega
end Go.Proofs.YtgbgneiciabidaaGreatDoor
