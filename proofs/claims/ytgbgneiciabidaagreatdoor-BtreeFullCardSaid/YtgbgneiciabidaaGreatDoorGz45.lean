/-
  The document's answer of layer 12 (portageref12): From.
-/
import Derived.Test.YtgbgneiciabidaaGreatDoorGz43
namespace Go.Proofs.YtgbgneiciabidaaGreatDoor
open Go Go.RowKit
set_option linter.all false

def fromT (fr lim : Int) (A : List KV) : List KV := if lim < 0 then fromL fr A else (fromL fr A).take lim.toNat
theorem fromT_items (fr lim : Int) (A : List KV) : fromT fr lim A = itemsL fr lim A := by
  unfold fromT
  by_cases h : lim < 0
  · rw [if_pos h]
    unfold itemsL
    rw [if_neg (by omega), feed_all h]
    rfl
  · rw [if_neg h]
    by_cases h0 : lim = 0
    · subst h0
      unfold itemsL
      rw [if_pos rfl]
      exact List.take_zero
    · have e : lim = (lim.toNat : Int) := by omega
      conv => rhs; rw [e]
      rw [items_take (by omega)]
theorem fromL_snoc (fr : Int) (A : List KV) (x : KV) : fromL fr (A ++ [x]) = if fr ≤ x.1 then fromL fr A ++ [x] else fromL fr A := by
  rw [fromL_app, fromL_one]
  by_cases h : fr ≤ x.1
  · rw [if_pos h, if_pos h]; rfl
  · rw [if_neg h, if_neg h]; exact List.append_nil _
theorem fromT_snoc (fr lim : Int) (A : List KV) (x : KV) : fromT fr lim (A ++ [x]) = if fr ≤ x.1 ∧ (lim < 0 ∨ ((fromT fr lim A).length : Int) < lim) then fromT fr lim A ++ [x] else fromT fr lim A := by
  unfold fromT
  by_cases h : lim < 0
  · rw [if_pos h, if_pos h, fromL_snoc]
    by_cases h1 : fr ≤ x.1
    · rw [if_pos h1, if_pos ⟨h1, .inl h⟩]
    · rw [if_neg h1, if_neg fun h => h1 h.1]
  · rw [if_neg h, if_neg h, fromL_snoc]
    by_cases h1 : fr ≤ x.1
    · rw [if_pos h1]
      by_cases h2 : (fromL fr A).length < lim.toNat
      · have e1 : (fromL fr A).take lim.toNat = fromL fr A := List.take_of_length_le (by omega)
        have e2 : (fromL fr A ++ [x]).take lim.toNat = fromL fr A ++ [x] := List.take_of_length_le (by rw [List.length_append, List.length_singleton]; omega)
        rw [e1, e2, if_pos ⟨h1, .inr (by omega)⟩]
      · rw [List.take_append_of_le_length (by omega), if_neg]
        rintro ⟨_, h3 | h3⟩
        · exact h h3
        · rw [List.length_take] at h3
          omega
    · rw [if_neg h1, if_neg fun h => h1 h.1]
theorem fromT_len (fr lim : Int) (A : List KV) : (fromT fr lim A).length ≤ A.length := by
  have := fromL_len fr A
  unfold fromT
  split
  · exact this
  · rw [List.length_take]; omega
def FrM (w : World) (l : List Say) (L : List KV) (fr lim : Int) (k : Nat) (ov : Value) (wr : World) : Prop := Kept w wr ∧ Has wr (kvS ov (fromT fr lim (L.take k)) :: l)
set_option maxHeartbeats 8000000 in
set_option maxRecDepth 100000 in
theorem ref_From {w : World} {l : List Say} {v : Value} {L : List KV} (fr lim : Int) (h : Has w l) (hm : kvS v L ∈ l) (hl : L.length ≤ 100000) :
    Calls Tryz.prog 53 #[v, .int .i64 fr, .int .i64 lim] w (KvPost (itemsL fr lim L) l w) := by
  rw [← fromT_items]
  obtain ⟨a, c, rfl, _⟩ := h.kv_read hm
  obtain ⟨n, hn⟩ : ∃ n, L.length = n := ⟨_, rfl⟩
  rw [hn] at hm hl ⊢
  have HM0 : Hid (FrM w l L fr lim 0 (.slice none 0 0) w) := ⟨Kept.refl w, by
    have e : fromT fr lim (L.take 0) = [] := by unfold fromT fromL; split <;> simp
    rw [e]
    exact h.row_nil _ _⟩
  have Hm := Lib.hid (And.intro hm hn)
  clear h hm hn
  go_enter Tryz.func53, Tryz.ntmps53
  go_wp2
  go_loopg [7, 8] n (fun gk ov i wr => ∃ k : Nat, k ≤ n ∧ gk = n - k ∧ i = .int .i64 k ∧ Hid (FrM w l L fr lim k ov wr))
  case atStart => exact ⟨0, Nat.zero_le _, rfl, rfl, HM0⟩
  case round =>
    clear HM0
    obtain ⟨k, hk, rfl, rfl, HM⟩ := hrel
    obtain ⟨hK, hh⟩ := HM.out
    clear HM
    obtain ⟨oa, oc, rfl, _⟩ := hh.kv_read (L := fromT fr lim (L.take k)) (.head _)
    by_cases hlt : k < n
    · obtain ⟨b1, c1, e1, r1⟩ := hh.kv_read (.tail _ Hm.out.1)
      injection e1 with e1 e2 e3
      subst e1
      clear e2 e3
      obtain ⟨x, hx⟩ : ∃ x, L[k]? = some x := ⟨_, List.getElem?_eq_getElem (by have := Hm.out.2; omega)⟩
      obtain ⟨g, rfl, x0, x1⟩ := r1 k x hx
      have hsn := fromT_snoc fr lim (L.take k) x
      rw [← (take_succ hx).1] at hsn
      have hfl := fromT_len fr lim (L.take k)
      rw [List.length_take] at hfl
      obtain ⟨xk, xv⟩ := x
      simp only at x0 x1 hsn
      have lx := World.block_lt_of_cell? _ _ x0
      have kI : (k : Int) < (n : Int) := by omega
      have k0 : (0 : Int) ≤ k := by omega
      have nI : (n : Int) ≤ 100000 := by omega
      obtain ⟨on, hon⟩ : ∃ on, (fromT fr lim (L.take k)).length = on := ⟨_, rfl⟩
      have Hon := Lib.hid hon
      rw [hon] at hsn hfl hh ⊢
      have hoI : (on : Int) ≤ 100000 := by omega
      by_cases hc : fr ≤ xk ∧ (lim < 0 ∨ (on : Int) < lim)
      · rw [if_pos hc] at hsn
        have Hsn := Lib.hid hsn
        have hA := hh.alloc (.cells #[.int .i64 xk, .int .i64 xv] 190)
        have HA := Lib.hid hA.swap
        have HK := Lib.hid (hK.alloc (.cells #[.int .i64 xk, .int .i64 xv] 190))
        obtain ⟨hc1, hc2⟩ := hc
        clear hK hh r1 hx hsn hA hon hfl
        have hc3 : lim < 0 ∨ (¬ lim < 0 ∧ (on : Int) < lim) := by omega
        clear hc2
        rcases hc3 with hc2 | ⟨hc2, hc4⟩
        all_goals
          go_upto_region 4 with (at_builtin; refine wpList_append_kv rfl (.tmp 32) (.tmp 37) rfl rfl rfl HA.out (.head _) (by have := Hon.out; omega) ?_; intro v2 w2 hK2 h2)
          have HM2 : Hid (FrM w l L fr lim (k + 1) v2 w2) := ⟨HK.out.trans hK2, by rw [Hsn.out]; exact Has.skip (A := [_]) (M := [_]) h2⟩
          clear hK2 h2 HA HK Hsn x0 x1
          go_wp2
          go_roundg (n - (k + 1))
          case measure => omega
          case rel => exact ⟨k + 1, by omega, rfl, by go_num, HM2⟩
      · rw [if_neg hc] at hsn
        have HM2 : Hid (FrM w l L fr lim (k + 1) (.slice oa on oc) wr) := ⟨hK, by rw [hsn]; exact hh⟩
        have hc3 : ¬ fr ≤ xk ∨ (fr ≤ xk ∧ ¬ lim < 0 ∧ ¬ (on : Int) < lim) := by omega
        clear hK hh r1 hx hsn hon hfl hc
        rcases hc3 with hc1 | ⟨hc1, hc2, hc4⟩
        all_goals
          go_wp2
          go_roundg (n - (k + 1))
          case measure => omega
          case rel => exact ⟨k + 1, by omega, rfl, by go_num, HM2⟩
    · have hke : k = n := by omega
      rw [List.take_of_length_le (by have := Hm.out.2; omega)] at hh ⊢
      obtain ⟨on, hon⟩ : ∃ on, (fromT fr lim L).length = on := ⟨_, rfl⟩
      rw [hon] at hh ⊢
      have HF : Hid (KvPost (fromT fr lim L) l w (.returned (.slice oa on oc)) wr) := ⟨_, rfl, hK, hh⟩
      clear hK hh hon
      subst hke
      go_wp2
      go_ret
      exact HF.out
end Go.Proofs.YtgbgneiciabidaaGreatDoor
