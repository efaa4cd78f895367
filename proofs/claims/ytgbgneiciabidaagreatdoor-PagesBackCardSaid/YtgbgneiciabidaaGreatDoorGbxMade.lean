/-
  Law 11: the world that is made.
-/
import Derived.Test.YtgbgneiciabidaaGreatDoorGb15
namespace Go.Proofs.YtgbgneiciabidaaGreatDoor
open Go Go.RowKit
set_option linter.all false

def zok (n : Int) : Bool := decide (3 ≤ n) && decide (n ≤ 60)
def sizesOk (zs : List Int) : Bool := decide (1 ≤ zs.length) && decide (zs.length ≤ 4) && zs.all zok
def eSizes (zs : List Int) : List Ent := zs.map fun n => ⟨1, n.toNat⟩
def dSizes (zs : List Int) : List Dsk := zs.map fun n => List.replicate n.toNat zeros
def ptrV (b : Nat) : Value := .pointer (some ⟨b, 0, none⟩)
def world4 (r : Nat) (a b c d : Value) : Say := pts r (.cells #[a, b, c, d] 30 (0, 0))
def MadePost (zs : List Int) (l : List Say) (w : World) (r : Ending) (w' : World) : Prop :=
  Kept w w' ∧
  ((sizesOk zs = false ∧ (∃ a b c d, r = .returned (.tuple #[.agg #[.pointer a, .pointer b, .pointer c, .pointer d], .bool false])) ∧ Has w' l) ∨
   (sizesOk zs = true ∧ ∃ bank sp p x, r = .returned (.tuple #[.agg #[ptrV bank, ptrV sp, ptrV p, ptrV x], .bool true]) ∧ Has w' (world3 p bank sp 0 0 [] (dSizes zs) (freshSpc (eSizes zs)) l)))
def MadeMid (w : World) (l : List Say) (zs : List Int) (r2 r4 r5 r6 ss bb bank k : Nat) (wr : World) : Prop :=
  zs.length ≤ 4 ∧ (∀ j (h : j < zs.length), j < k → zok zs[j] = true) ∧
  ∃ rv v2 xs, Kept w wr ∧ Has wr (world4 r4 (ptrV bank) (.pointer none) (.pointer none) (.pointer none) :: pts r5 (.cells #[rv] 58 (0, 0)) :: entS rv (eSizes (zs.take k)) :: rowS 140 2 v2 k xs ::
    pts ss (.cells #[v2, .slice none 0 0, .slice none 0 0, .slice none 0 0, .bool false] 132 (0, 0)) :: pts r6 (.cells #[ptrV bb, ptrV ss, .slice none 0 0, .slice none 0 0, .bool false] 135 (0, 0)) ::
    refBankS bb k :: bankS 0 bank (dSizes (zs.take k)) :: world4 r2 (.pointer none) (.pointer none) (.pointer none) (.pointer none) :: l)

theorem info_refent : (Tryz.prog.info? 140).map (fun i => (i.zero, i.size, i.bytes)) = some (some (.agg #[.int .i64 0, .int .i64 0]), 2, 16) := by kernel_rfl
theorem take_snoc1 {α : Type} (zs : List α) (k : Nat) (h : k < zs.length) : zs.take (k + 1) = zs.take k ++ [zs[k]] := by
  rw [List.take_succ_eq_append_getElem h]
theorem sizesOk_false {zs : List Int} (k : Nat) (h : k < zs.length) (hz : zok zs[k] = false) : sizesOk zs = false := by
  have : zs.all zok = false := by
    cases hc : zs.all zok with
    | false => rfl
    | true => have := List.all_eq_true.1 hc _ (List.getElem_mem h); rw [this] at hz; cases hz
  simp [sizesOk, this]
theorem sizesOk_true {zs : List Int} (h1 : 1 ≤ zs.length) (h4 : zs.length ≤ 4) (hz : ∀ j (h : j < zs.length), zok zs[j] = true) : sizesOk zs = true := by
  have : zs.all zok = true := by
    rw [List.all_eq_true]
    intro x hx
    obtain ⟨j, hj, rfl⟩ := List.getElem_of_mem hx
    exact hz j hj
  simp [sizesOk, this, h1, h4]

theorem world4_set {V : World} {l : List Say} {r : Nat} {a b c d : Value} (h : Has V (world4 r a b c d :: l)) (a' b' c' d' : Value) :
    Has ((((V.setCell ⟨r, 0, none⟩ a').setCell ⟨r, 1, none⟩ b').setCell ⟨r, 2, none⟩ c').setCell ⟨r, 3, none⟩ d') (world4 r a' b' c' d' :: l) :=
  (((Has.setCell h 0 a').setCell 1 b').setCell 2 c').setCell 3 d'

theorem eSizes_ne {zs : List Int} (h : 1 ≤ zs.length) : eSizes zs ≠ [] := by
  cases zs with
  | nil => simp at h
  | cons x xs => simp [eSizes]
theorem eSizes_ok {zs : List Int} (h4 : zs.length ≤ 4) (hz : ∀ j (h : j < zs.length), zok zs[j] = true) : OkEnts (eSizes zs) := by
  refine ⟨by simp [eSizes]; omega, ?_⟩
  intro e he
  obtain ⟨x, hx, rfl⟩ := List.mem_map.1 he
  obtain ⟨j, hj, rfl⟩ := List.getElem_of_mem hx
  have := hz j hj
  simp only [zok, Bool.and_eq_true, decide_eq_true_eq] at this
  exact ⟨by show zs[j].toNat ≤ 4096; omega, .inl ⟨.inl rfl, by show 2 < zs[j].toNat; omega⟩⟩

set_option maxHeartbeats 2000000 in
set_option maxRecDepth 100000 in
theorem law_made {w : World} {l : List Say} (zs : List Int) {zv : Value} (h : Has w l) (hz : Srcs l zv zs) :
    Calls Tryz.prog 15 #[zv] w (MadePost zs l w) := by
  obtain ⟨a, c, rfl, _⟩ := (hz w h).rd
  have hW := ((h.alloc (.cells #[.pointer none, .pointer none, .pointer none, .pointer none] 30)).alloc (.cells #[.pointer none, .pointer none, .pointer none, .pointer none] 30)).alloc (.cells #[.slice none 0 0] 58)
  have HK0 : Hid (Kept w (((w.alloc (.cells #[.pointer none, .pointer none, .pointer none, .pointer none] 30)).alloc (.cells #[.pointer none, .pointer none, .pointer none, .pointer none] 30)).alloc (.cells #[.slice none 0 0] 58))) := (((Kept.refl w).alloc _).alloc _).alloc _
  simp only [World.size_alloc] at hW
  have HRN := Lib.hid (ref_BankNew hW)
  have HZ := Lib.hid hz
  clear h hz hW
  go_enter Tryz.func15, Tryz.ntmps15
  go_wp2_with fail
  refine HRN.out.mono ?_
  rintro r w1 ⟨bb, rfl, hK1, h1⟩
  have h2 := (h1.alloc (.cells #[.slice none 0 0, .slice none 0 0, .slice none 0 0, .slice none 0 0, .bool false] 132)).alloc (.cells #[ptrV bb, ptrV w1.heap.size, .slice none 0 0, .slice none 0 0, .bool false] 135)
  simp only [World.size_alloc] at h2
  have HBN := Lib.hid (bank_New h2)
  have HK1 := Lib.hid ((HK0.out.trans hK1).alloc (.cells #[.slice none 0 0, .slice none 0 0, .slice none 0 0, .slice none 0 0, .bool false] 132) |>.alloc (.cells #[ptrV bb, ptrV w1.heap.size, .slice none 0 0, .slice none 0 0, .bool false] 135))
  clear hK1 h1 h2 HRN
  simp only [ptrV] at HBN HK1
  go_wp2_with fail
  refine HBN.out.mono ?_
  rintro r w2 ⟨bank, rfl, hK2, h2⟩
  have h3 : Has w2 (world4 (w.heap.size + 1) (.pointer none) (.pointer none) (.pointer none) (.pointer none) :: bankS 0 bank [] :: pts (w1.heap.size + 1) (.cells #[ptrV bb, ptrV w1.heap.size, .slice none 0 0, .slice none 0 0, .bool false] 135 (0, 0)) :: pts w1.heap.size (.cells #[.slice none 0 0, .slice none 0 0, .slice none 0 0, .slice none 0 0, .bool false] 132 (0, 0)) :: refBankS bb 0 :: pts (w.heap.size + 1 + 1) (.cells #[.slice none 0 0] 58 (0, 0)) :: world4 w.heap.size (.pointer none) (.pointer none) (.pointer none) (.pointer none) :: l) := h2.pull 5
  have hr4 := h3.got
  have c0 : w2.cell? ⟨w.heap.size + 1, 0, none⟩ = some (.pointer none) := cell_of hr4 0 rfl
  have c1 : w2.cell? ⟨w.heap.size + 1, 1, none⟩ = some (.pointer none) := cell_of hr4 1 rfl
  have c2 : w2.cell? ⟨w.heap.size + 1, 2, none⟩ = some (.pointer none) := cell_of hr4 2 rfl
  have c3 : w2.cell? ⟨w.heap.size + 1, 3, none⟩ = some (.pointer none) := cell_of hr4 3 rfl
  have f0 := thaw_of hr4 0
  have hr2 := h3.at (b := w.heap.size) (o := .cells #[.pointer none, .pointer none, .pointer none, .pointer none] 30 (0, 0)) (by simp [world4])
  have e0 : w2.cell? ⟨w.heap.size, 0, none⟩ = some (.pointer none) := cell_of hr2 0 rfl
  have e1 : w2.cell? ⟨w.heap.size, 1, none⟩ = some (.pointer none) := cell_of hr2 1 rfl
  have e2 : w2.cell? ⟨w.heap.size, 2, none⟩ = some (.pointer none) := cell_of hr2 2 rfl
  have e3 : w2.cell? ⟨w.heap.size, 3, none⟩ = some (.pointer none) := cell_of hr2 3 rfl
  have g0 := thaw_of hr2 0
  have g1 := thaw_of hr2 1
  have g2 := thaw_of hr2 2
  have g3 := thaw_of hr2 3
  have l4 := World.block_lt_of_cell? _ _ c0
  have l2 := World.block_lt_of_cell? _ _ e0
  have hne : w.heap.size + 1 ≠ w.heap.size := by omega
  have hne2 : w1.heap.size ≠ w1.heap.size + 1 := by omega
  have h4 : Has (w2.setCell ⟨w.heap.size + 1, 0, none⟩ (ptrV bank)) (world4 (w.heap.size + 1) (ptrV bank) (.pointer none) (.pointer none) (.pointer none) :: bankS 0 bank [] :: pts (w1.heap.size + 1) (.cells #[ptrV bb, ptrV w1.heap.size, .slice none 0 0, .slice none 0 0, .bool false] 135 (0, 0)) :: pts w1.heap.size (.cells #[.slice none 0 0, .slice none 0 0, .slice none 0 0, .slice none 0 0, .bool false] 132 (0, 0)) :: refBankS bb 0 :: pts (w.heap.size + 1 + 1) (.cells #[.slice none 0 0] 58 (0, 0)) :: world4 w.heap.size (.pointer none) (.pointer none) (.pointer none) (.pointer none) :: l) := Has.setCell h3 0 (ptrV bank)
  have H4 := Lib.hid h4
  have HK4 : Hid (Kept w (w2.setCell ⟨w.heap.size + 1, 0, none⟩ (ptrV bank))) := (HK1.out.trans hK2).setCell _ _
  clear hK2 h2 h3 h4 HBN HK1 hr4 hr2
  generalize hq4 : w.heap.size + 1 = r4 at *
  generalize hq5 : r4 + 1 = r5 at *
  generalize hq2 : w.heap.size = r2 at *
  generalize hq6 : w1.heap.size + 1 = r6 at *
  generalize hqs : w1.heap.size = ss at *
  clear hq4 hq5 hq2 hq6 hqs
  by_cases n1 : zs.length < 1
  · have HF : Hid (sizesOk zs = false) := by show _ = _; simp [sizesOk]; omega
    have n1' : (zs.length : Int) < 1 := by omega
    have hx := world4_set (H4.out.pull 6) (ptrV bank) (.pointer none) (.pointer none) (.pointer none)
    have hk := ((((HK4.out.setCell ⟨r2, 0, none⟩ (ptrV bank)).setCell ⟨r2, 1, none⟩ (.pointer none)).setCell ⟨r2, 2, none⟩ (.pointer none)).setCell ⟨r2, 3, none⟩ (.pointer none))
    have HX := Lib.hid hx
    have HKX := Lib.hid hk
    clear hx hk H4 HK4 n1
    simp only [ptrV] at *
    go_wp2
    generalize hW9 : ((((w2.setCell ⟨r4, 0, none⟩ (.pointer (some ⟨bank, 0, none⟩))).setCell ⟨r2, 0, none⟩ (.pointer (some ⟨bank, 0, none⟩))).setCell ⟨r2, 1, none⟩ (.pointer none)).setCell ⟨r2, 2, none⟩ (.pointer none)).setCell ⟨r2, 3, none⟩ (.pointer none) = W9 at *
    have z0 := cell_of HX.out.got 0 rfl
    have z1 := cell_of HX.out.got 1 rfl
    have z2 := cell_of HX.out.got 2 rfl
    have z3 := cell_of HX.out.got 3 rfl
    refine bodyPost_ret (v := .tuple #[.agg #[.pointer (some ⟨bank, 0, none⟩), .pointer none, .pointer none, .pointer none], .bool false]) (by simp [results, Tryz.results15, go_sem, z0, z1, z2, z3]) rfl ⟨HKX.out, .inl ⟨HF.out, ⟨_, _, _, _, rfl⟩, HX.out.tail.tail.tail.tail.tail.tail.tail⟩⟩
  have n1' : decide ((zs.length : Int) < 1) = false := by simp; omega
  by_cases n4 : 4 < zs.length
  · have HF : Hid (sizesOk zs = false) := by show _ = _; simp [sizesOk]; omega
    have n4' : 4 < (zs.length : Int) := by omega
    have hx := world4_set (H4.out.pull 6) (ptrV bank) (.pointer none) (.pointer none) (.pointer none)
    have hk := ((((HK4.out.setCell ⟨r2, 0, none⟩ (ptrV bank)).setCell ⟨r2, 1, none⟩ (.pointer none)).setCell ⟨r2, 2, none⟩ (.pointer none)).setCell ⟨r2, 3, none⟩ (.pointer none))
    have HX := Lib.hid hx
    have HKX := Lib.hid hk
    clear hx hk H4 HK4 n1 n4
    simp only [ptrV] at *
    go_wp2
    generalize hW9 : ((((w2.setCell ⟨r4, 0, none⟩ (.pointer (some ⟨bank, 0, none⟩))).setCell ⟨r2, 0, none⟩ (.pointer (some ⟨bank, 0, none⟩))).setCell ⟨r2, 1, none⟩ (.pointer none)).setCell ⟨r2, 2, none⟩ (.pointer none)).setCell ⟨r2, 3, none⟩ (.pointer none) = W9 at *
    have z0 := cell_of HX.out.got 0 rfl
    have z1 := cell_of HX.out.got 1 rfl
    have z2 := cell_of HX.out.got 2 rfl
    have z3 := cell_of HX.out.got 3 rfl
    refine bodyPost_ret (v := .tuple #[.agg #[.pointer (some ⟨bank, 0, none⟩), .pointer none, .pointer none, .pointer none], .bool false]) (by simp [results, Tryz.results15, go_sem, z0, z1, z2, z3]) rfl ⟨HKX.out, .inl ⟨HF.out, ⟨_, _, _, _, rfl⟩, HX.out.tail.tail.tail.tail.tail.tail.tail⟩⟩
  have n4' : decide (4 < (zs.length : Int)) = false := by simp; omega
  have N1 : Hid (1 ≤ zs.length) := by show _ ≤ _; omega
  have N4 : Hid (zs.length ≤ 4) := by show _ ≤ _; omega
  have HM0 : Hid (MadeMid w l zs r2 r4 r5 r6 ss bb bank 0 (w2.setCell ⟨r4, 0, none⟩ (ptrV bank))) := by
    refine ⟨N4.out, fun j _ h => absurd h (Nat.not_lt_zero _), .slice none 0 0, .slice none 0 0, [], HK4.out, ?_⟩
    have h5 := ((H4.out.pull 5).row_nil 140 2).row_nil 139 2
    exact h5.reord [3, 2, 0, 0, 2, 1, 1]
  clear H4 HK4 n1 n4
  simp only [ptrV] at HM0
  go_wp2
  go_loopg [36] zs.length (fun gk i wr => ∃ k : Nat, k ≤ zs.length ∧ gk = zs.length - k ∧ i = .int .i64 k ∧ Hid (MadeMid w l zs r2 r4 r5 r6 ss bb bank k wr))
  case atStart => exact ⟨0, Nat.zero_le _, rfl, rfl, HM0⟩
  case round =>
    clear HM0 c0 c1 c2 c3 f0 l4 e0 e1 e2 e3 g0 g1 g2 g3 l2
    obtain ⟨k, hk, rfl, rfl, HM⟩ := hrel
    by_cases hlt : k < zs.length
    · obtain ⟨q4, hall, rv, v2, xs, hK, hh⟩ := HM.out
      obtain ⟨a', c', hv', hrd⟩ := (HZ.out wr hh.tail.tail.tail.tail.tail.tail.tail.tail.tail).rd
      injection hv' with j1 j2 j3
      subst j1 j3
      obtain ⟨gb, go, rfl, hc⟩ := hrd k hlt
      have lz := World.block_lt_of_cell? _ _ hc
      have hk1 : (k : Int) < (zs.length : Int) := by omega
      have hk0 : (0 : Int) ≤ k := by omega
      have hr4 := hh.got
      have c0 : wr.cell? ⟨r4, 0, none⟩ = some (.pointer (some ⟨bank, 0, none⟩)) := cell_of hr4 0 rfl
      have c1 : wr.cell? ⟨r4, 1, none⟩ = some (.pointer none) := cell_of hr4 1 rfl
      have c2 : wr.cell? ⟨r4, 2, none⟩ = some (.pointer none) := cell_of hr4 2 rfl
      have c3 : wr.cell? ⟨r4, 3, none⟩ = some (.pointer none) := cell_of hr4 3 rfl
      have l4 := World.block_lt_of_cell? _ _ c0
      cases hzk : zok zs[k] with
      | false =>
        have hr2 := hh.at (b := r2) (o := .cells #[.pointer none, .pointer none, .pointer none, .pointer none] 30 (0, 0)) (by simp [world4])
        have e0 : wr.cell? ⟨r2, 0, none⟩ = some (.pointer none) := cell_of hr2 0 rfl
        have e1 : wr.cell? ⟨r2, 1, none⟩ = some (.pointer none) := cell_of hr2 1 rfl
        have e2 : wr.cell? ⟨r2, 2, none⟩ = some (.pointer none) := cell_of hr2 2 rfl
        have e3 : wr.cell? ⟨r2, 3, none⟩ = some (.pointer none) := cell_of hr2 3 rfl
        have g0 := thaw_of hr2 0
        have g1 := thaw_of hr2 1
        have g2 := thaw_of hr2 2
        have g3 := thaw_of hr2 3
        have l2 := World.block_lt_of_cell? _ _ e0
        have HF : Hid (sizesOk zs = false) := sizesOk_false k hlt hzk
        have HX := Lib.hid (world4_set (hh.pull 8) (ptrV bank) (.pointer none) (.pointer none) (.pointer none))
        have HKX := Lib.hid ((((hK.setCell ⟨r2, 0, none⟩ (ptrV bank)).setCell ⟨r2, 1, none⟩ (.pointer none)).setCell ⟨r2, 2, none⟩ (.pointer none)).setCell ⟨r2, 3, none⟩ (.pointer none))
        simp only [zok, Bool.and_eq_false_iff, decide_eq_false_iff_not] at hzk
        have hzc : zs[k] < 3 ∨ (3 ≤ zs[k] ∧ 60 < zs[k]) := by omega
        clear hh hK hr4 hr2 hall HM hrd hzk
        generalize zs[k] = z at *
        simp only [ptrV] at HX HKX
        rcases hzc with hz3 | ⟨hz3, hz60⟩
        all_goals
          go_wp2
          generalize hW9 : ((((wr.setCell ⟨r2, 0, none⟩ (.pointer (some ⟨bank, 0, none⟩))).setCell ⟨r2, 1, none⟩ (.pointer none)).setCell ⟨r2, 2, none⟩ (.pointer none)).setCell ⟨r2, 3, none⟩ (.pointer none)) = W9 at *
          have z0 := cell_of HX.out.got 0 rfl
          have z1 := cell_of HX.out.got 1 rfl
          have z2 := cell_of HX.out.got 2 rfl
          have z3 := cell_of HX.out.got 3 rfl
          refine bodyPost_ret (v := .tuple #[.agg #[.pointer (some ⟨bank, 0, none⟩), .pointer none, .pointer none, .pointer none], .bool false]) (by simp [results, Tryz.results15, go_sem, z0, z1, z2, z3]) rfl ⟨HKX.out, .inl ⟨HF.out, ⟨_, _, _, _, rfl⟩, HX.out.tail.tail.tail.tail.tail.tail.tail.tail.tail⟩⟩
      | true =>
        obtain ⟨n, hzn, n3, n60⟩ : ∃ n : Nat, zs[k] = (n : Int) ∧ 3 ≤ n ∧ n ≤ 60 := by
          simp only [zok, Bool.and_eq_true, decide_eq_true_eq] at hzk
          exact ⟨zs[k].toNat, by omega, by omega, by omega⟩
        have HEs : Hid (eSizes (zs.take (k + 1)) = eSizes (zs.take k) ++ [⟨1, n⟩]) := by show _ = _; rw [take_snoc1 _ _ hlt, eSizes, List.map_append, hzn]; simp [eSizes]
        have HDs : Hid (dSizes (zs.take (k + 1)) = dSizes (zs.take k) ++ [List.replicate n zeros]) := by show _ = _; rw [take_snoc1 _ _ hlt, dSizes, List.map_append, hzn]; simp [dSizes]
        have HLe : Hid ((eSizes (zs.take k)).length = k) := by show _ = _; simp [eSizes]; omega
        have HAl : Hid (∀ j (h : j < zs.length), j < k + 1 → zok zs[j] = true) := by
          intro j hj hjk
          by_cases e : j = k
          · subst e; exact hzk
          · exact hall j hj (by omega)
        have hXl : (dSizes (zs.take k)).length < 8 := by simp [dSizes]; omega
        have HBA := Lib.hid (bank_Add (hh.pull 7) n (by omega) (by omega) hXl)
        have HKr := Lib.hid hK
        rw [hzn] at hc
        clear hh hK hall HM hrd hzk hr4 hzn hXl
        generalize eSizes (zs.take k) = es at *
        generalize dSizes (zs.take k) = X at *
        have hz3 : decide ((n : Int) < 3) = false := by simp; omega
        have hz60 : decide ((60 : Int) < n) = false := by simp; omega
        go_wp2_with fail
        refine HBA.out.mono ?_
        rintro r w3 ⟨rfl, hK3, h3⟩
        have h3r : Has w3 (pts r6 (.cells #[ptrV bb, ptrV ss, .slice none 0 0, .slice none 0 0, .bool false] 135 (0, 0)) :: bankS 0 bank (X ++ [List.replicate n zeros]) :: world4 r4 (ptrV bank) (.pointer none) (.pointer none) (.pointer none) :: pts r5 (.cells #[rv] 58 (0, 0)) :: entS rv es :: rowS 140 2 v2 k xs :: pts ss (.cells #[v2, .slice none 0 0, .slice none 0 0, .slice none 0 0, .bool false] 132 (0, 0)) :: refBankS bb k :: world4 r2 (.pointer none) (.pointer none) (.pointer none) (.pointer none) :: l) := h3.pull 6
        have p0 : w3.cell? ⟨r6, 0, none⟩ = some (.pointer (some ⟨bb, 0, none⟩)) := cell_of h3r.got 0 rfl
        have l6 := World.block_lt_of_cell? _ _ p0
        have HRA := Lib.hid (ref_BankAdd (h3r.pull 7) (by omega) n (by omega) (by omega))
        have HK3 := Lib.hid (HKr.out.trans hK3)
        clear h3 h3r hK3 HBA HKr hc lz c0 c1 c2 c3 l4
        go_wp2_with fail
        refine HRA.out.mono ?_
        rintro r w4 ⟨x4, rfl, hK4, h4⟩
        obtain ⟨a5, c5, rfl, _⟩ := h4.row_val (e := 139) (size := 2) (v := rv) (n := es.length) (xs := es.flatMap Ent.cells) (by simp [entS])
        have h4r : Has w4 (pts r5 (.cells #[.slice a5 es.length c5] 58 (0, 0)) :: refBankS bb (k + 1) :: pts r6 (.cells #[ptrV bb, ptrV ss, .slice none 0 0, .slice none 0 0, .bool false] 135 (0, 0)) :: bankS 0 bank (X ++ [List.replicate n zeros]) :: world4 r4 (ptrV bank) (.pointer none) (.pointer none) (.pointer none) :: entS (.slice a5 es.length c5) es :: rowS 140 2 v2 k xs :: pts ss (.cells #[v2, .slice none 0 0, .slice none 0 0, .slice none 0 0, .bool false] 132 (0, 0)) :: world4 r2 (.pointer none) (.pointer none) (.pointer none) (.pointer none) :: l) := h4.pull 4
        have r50 : w4.cell? ⟨r5, 0, none⟩ = some (.slice a5 es.length c5) := cell_of h4r.got 0 rfl
        have l5 := World.block_lt_of_cell? _ _ r50
        have H4 : Hid (Has w4 (rowS 139 2 (.slice a5 es.length c5) es.length (es.flatMap Ent.cells) :: pts r5 (.cells #[.slice a5 es.length c5] 58 (0, 0)) :: refBankS bb (k + 1) :: pts r6 (.cells #[ptrV bb, ptrV ss, .slice none 0 0, .slice none 0 0, .bool false] 135 (0, 0)) :: bankS 0 bank (X ++ [List.replicate n zeros]) :: world4 r4 (ptrV bank) (.pointer none) (.pointer none) (.pointer none) :: rowS 140 2 v2 k xs :: pts ss (.cells #[v2, .slice none 0 0, .slice none 0 0, .slice none 0 0, .bool false] 132 (0, 0)) :: world4 r2 (.pointer none) (.pointer none) (.pointer none) (.pointer none) :: l)) := h4r.pull 5
        have HK4 := Lib.hid (HK3.out.trans hK4)
        obtain ⟨i0, I1, I2, I3, I4⟩ := info_parts info_ent
        have hmx : Hid (es.length + 1 ≤ maxLen ∧ (es.length + 1) * 16 ≤ 140737488355328) := by have := HLe.out; exact ⟨by simp [maxLen]; omega, by omega⟩
        clear h4 h4r hK4 HRA HK3 p0 l6
        go_wp2_with (at_builtin; go_loud (refine wpList_append_row (l := pts r5 (.cells #[.slice a5 es.length c5] 58 (0, 0)) :: refBankS bb (k + 1) :: pts r6 (.cells #[ptrV bb, ptrV ss, .slice none 0 0, .slice none 0 0, .bool false] 135 (0, 0)) :: bankS 0 bank (X ++ [List.replicate n zeros]) :: world4 r4 (ptrV bank) (.pointer none) (.pointer none) (.pointer none) :: rowS 140 2 v2 k xs :: pts ss (.cells #[v2, .slice none 0 0, .slice none 0 0, .slice none 0 0, .bool false] 132 (0, 0)) :: world4 r2 (.pointer none) (.pointer none) (.pointer none) (.pointer none) :: l) rfl (.tmp 64) (.tmp 67) 56 rfl 139 i0 (.agg #[.int .i64 0, .int .i64 0]) 2 16 Tryz.underlying56 I1 I2 I3 I4 rfl (by decide) _ es.length (es.flatMap Ent.cells) rfl (H4.out.alloc_off _) ⟨_, 0, none⟩ 1 1 [.int .i64 1, .int .i64 (n : Int)] rfl rfl (many_new _ [.int .i64 1, .int .i64 (n : Int)] _ rfl) (by intro u hu; simp at hu; rcases hu with rfl | rfl <;> rfl) hmx.out.1 hmx.out.2 ?_))
        intro v5 w5 hK5 h5
        obtain ⟨a6, c6, rfl, _⟩ := h5.row_val (e := 139) (size := 2) (v := v5) (n := es.length + 1) (xs := es.flatMap Ent.cells ++ [.int .i64 1, .int .i64 (n : Int)]) (.head _)
        have h5r : Has w5 (pts r5 (.cells #[.slice a5 es.length c5] 58 (0, 0)) :: rowS 139 2 (.slice a6 (es.length + 1) c6) (es.length + 1) (es.flatMap Ent.cells ++ [.int .i64 1, .int .i64 (n : Int)]) :: refBankS bb (k + 1) :: pts r6 (.cells #[ptrV bb, ptrV ss, .slice none 0 0, .slice none 0 0, .bool false] 135 (0, 0)) :: bankS 0 bank (X ++ [List.replicate n zeros]) :: world4 r4 (ptrV bank) (.pointer none) (.pointer none) (.pointer none) :: rowS 140 2 v2 k xs :: pts ss (.cells #[v2, .slice none 0 0, .slice none 0 0, .slice none 0 0, .bool false] 132 (0, 0)) :: world4 r2 (.pointer none) (.pointer none) (.pointer none) (.pointer none) :: l) := h5.swap
        have r50 : w5.cell? ⟨r5, 0, none⟩ = some (.slice a5 es.length c5) := cell_of h5r.got 0 rfl
        have f50 := thaw_of h5r.got 0
        have l5 := World.block_lt_of_cell? _ _ r50
        have h6 := h5r.setCell 0 (.slice a6 (es.length + 1) c6)
        have h6e : Has (w5.setCell ⟨r5, 0, none⟩ (.slice a6 (es.length + 1) c6)) (rowS 140 2 v2 k xs :: entS (.slice a6 (es.length + 1) c6) (es ++ [⟨1, n⟩]) :: pts r5 (.cells #[.slice a6 (es.length + 1) c6] 58 (0, 0)) :: refBankS bb (k + 1) :: pts r6 (.cells #[ptrV bb, ptrV ss, .slice none 0 0, .slice none 0 0, .bool false] 135 (0, 0)) :: bankS 0 bank (X ++ [List.replicate n zeros]) :: world4 r4 (ptrV bank) (.pointer none) (.pointer none) (.pointer none) :: pts ss (.cells #[v2, .slice none 0 0, .slice none 0 0, .slice none 0 0, .bool false] 132 (0, 0)) :: world4 r2 (.pointer none) (.pointer none) (.pointer none) (.pointer none) :: l) := by
          have e : entS (.slice a6 (es.length + 1) c6) (es ++ [⟨1, n⟩]) = rowS 139 2 (.slice a6 (es.length + 1) c6) (es.length + 1) (es.flatMap Ent.cells ++ [.int .i64 1, .int .i64 (n : Int)]) := by
            rw [entS, List.length_append, List.flatMap_append]; rfl
          rw [e]
          exact h6.reord [6, 1]
        have hKx := ((HK4.out.alloc (.cells #[.int .i64 1, .int .i64 (n : Int)] 139)).trans hK5).setCell ⟨r5, 0, none⟩ (.slice a6 (es.length + 1) c6)
        obtain ⟨av, cv, rfl, _⟩ := h6e.row_val (e := 140) (size := 2) (v := v2) (n := k) (xs := xs) (.head _)
        have H6 := Lib.hid h6e
        have HK6 := Lib.hid hKx
        clear h5 h5r h6 h6e hKx hK5 H4 HK4
        go_upto_region 17 with fail
        generalize w5.setCell ⟨r5, 0, none⟩ (.slice a6 (es.length + 1) c6) = W6 at *
        have hs6 := (H6.out.pull 7).got
        have hr6 := (H6.out.pull 4).got
        have s0 : W6.cell? ⟨ss, 0, none⟩ = some (.slice av k cv) := cell_of hs6 0 rfl
        have q1 : W6.cell? ⟨r6, 1, none⟩ = some (.pointer (some ⟨ss, 0, none⟩)) := cell_of hr6 1 rfl
        have ls := World.block_lt_of_cell? _ _ s0
        have l6 := World.block_lt_of_cell? _ _ q1
        obtain ⟨j0, J1, J2, J3, J4⟩ := info_parts info_refent
        have hmy : Hid (k + 1 ≤ maxLen ∧ (k + 1) * 16 ≤ 140737488355328) := by exact ⟨by simp [maxLen]; omega, by omega⟩
        clear hs6 hr6 r50 f50 l5 I1 I2 I3 I4
        go_region_law (first | (refine step_append_row rfl (.tmp 80) (.tmp 83) 129 rfl 140 j0 (.agg #[.int .i64 0, .int .i64 0]) 2 16 Tryz.underlying129 J1 J2 J3 J4 rfl (by decide) (.slice av k cv) k xs rfl (H6.out.alloc_off _).drew ⟨_, 0, none⟩ 1 1 [.int .i64 1, .int .i64 (n : Int)] rfl rfl (many_new _ [.int .i64 1, .int .i64 (n : Int)] _ rfl) (by intro u hu; simp at hu; rcases hu with rfl | rfl <;> rfl) hmy.out.1 hmy.out.2 ?_; intro v7 w7 hK7 h7; obtain ⟨a7, c7, rfl, _⟩ := h7.row_val (e := 140) (size := 2) (v := v7) (n := k + 1) (xs := xs ++ [.int .i64 1, .int .i64 (n : Int)]) (.head _); have hs7 := (h7.pull 7).got; have hr7 := (h7.pull 4).got; have s7 := cell_of hs7 0 rfl; have fs7 := thaw_of hs7 0; have y1 : w7.cell? ⟨r6, 1, none⟩ = some (.pointer (some ⟨ss, 0, none⟩)) := cell_of hr7 1 rfl; have ls7 := World.block_lt_of_cell? _ _ s7; have H7 := Lib.hid h7; have HK7 := Lib.hid hK7; clear h7 hK7 hs7 hr7))
        all_goals
          go_wp2
          go_roundg (zs.length - (k + 1))
          case measure => omega
          case rel =>
            refine ⟨k + 1, by omega, rfl, by simp, N4.out, HAl.out, .slice a6 (es.length + 1) c6, .slice a7 (k + 1) c7, xs ++ [.int .i64 1, .int .i64 (n : Int)], ?_, ?_⟩
            · exact ((HK6.out.alloc (.cells #[.int .i64 1, .int .i64 (n : Int)] 140)).drew.trans HK7.out).setCell _ _
            · rw [HEs.out, HDs.out]
              exact ((H7.out.pull 7).setCell 0 (.slice a7 (k + 1) c7)).reord [7, 3, 2, 1, 0, 1, 0, 0]
    · obtain rfl : k = zs.length := by omega
      obtain ⟨q4, hall, rv, v2, xs, hK, hh⟩ := HM.out
      have HOk : Hid (sizesOk zs = true) := sizesOk_true N1.out N4.out (fun j hj => hall j hj hj)
      rw [List.take_length] at hh
      obtain ⟨a5, c5, rfl, _⟩ := hh.row_val (e := 139) (size := 2) (v := rv) (n := (eSizes zs).length) (xs := (eSizes zs).flatMap Ent.cells) (by simp [entS])
      have HSN := Lib.hid (sp_New hh (v := .slice a5 (eSizes zs).length c5) (es := eSizes zs) (by simp) (eSizes_ok N4.out fun j hj => hall j hj hj) (eSizes_ne N1.out))
      have hr5 := (hh.pull 1).got
      have r50 : wr.cell? ⟨r5, 0, none⟩ = some (.slice a5 (eSizes zs).length c5) := cell_of hr5 0 rfl
      have l5 := World.block_lt_of_cell? _ _ r50
      have HK := Lib.hid hK
      clear hh hK hall HM hr5
      generalize hes : eSizes zs = es at *
      have Hes := Lib.hid hes
      generalize hdz : dSizes zs = X at *
      have Hdz := Lib.hid hdz
      clear hes hdz
      go_wp2_with fail
      refine HSN.out.mono ?_
      rintro r w3 ⟨sp, rfl, hK3, h3⟩
      have HST := Lib.hid (st_New h3 bank sp)
      have hr4 := (h3.pull 1).got
      have c0 : w3.cell? ⟨r4, 0, none⟩ = some (.pointer (some ⟨bank, 0, none⟩)) := cell_of hr4 0 rfl
      have l4 := World.block_lt_of_cell? _ _ c0
      have HK3 := Lib.hid (HK.out.trans hK3)
      clear h3 hK3 HSN HK hr4 r50 l5
      go_wp2_with fail
      refine HST.out.mono ?_
      rintro r w4 ⟨p, rfl, hK4, h4⟩
      have h4r : Has w4 (world4 r4 (ptrV bank) (.pointer none) (.pointer none) (.pointer none) :: storeS p bank sp 0 [] :: spaceS sp (freshSpc es) :: pts r5 (.cells #[.slice a5 es.length c5] 58 (0, 0)) :: entS (.slice a5 es.length c5) es :: rowS 140 2 v2 zs.length xs ::
        pts ss (.cells #[v2, .slice none 0 0, .slice none 0 0, .slice none 0 0, .bool false] 132 (0, 0)) :: pts r6 (.cells #[ptrV bb, ptrV ss, .slice none 0 0, .slice none 0 0, .bool false] 135 (0, 0)) ::
        refBankS bb zs.length :: bankS 0 bank X :: world4 r2 (.pointer none) (.pointer none) (.pointer none) (.pointer none) :: l) := h4.pull 2
      have hr4 := h4r.got
      have c0 : w4.cell? ⟨r4, 0, none⟩ = some (.pointer (some ⟨bank, 0, none⟩)) := cell_of hr4 0 rfl
      have c1 : w4.cell? ⟨r4, 1, none⟩ = some (.pointer none) := cell_of hr4 1 rfl
      have c2 : w4.cell? ⟨r4, 2, none⟩ = some (.pointer none) := cell_of hr4 2 rfl
      have c3 : w4.cell? ⟨r4, 3, none⟩ = some (.pointer none) := cell_of hr4 3 rfl
      have f1 := thaw_of hr4 1
      have f2 := thaw_of hr4 2
      have f3 := thaw_of hr4 3
      have l4 := World.block_lt_of_cell? _ _ c0
      have h5 : Has (((w4.setCell ⟨r4, 1, none⟩ (ptrV sp)).setCell ⟨r4, 2, none⟩ (ptrV p)).setCell ⟨r4, 3, none⟩ (ptrV r6)) (world4 r4 (ptrV bank) (ptrV sp) (ptrV p) (ptrV r6) :: storeS p bank sp 0 [] :: spaceS sp (freshSpc es) :: pts r5 (.cells #[.slice a5 es.length c5] 58 (0, 0)) :: entS (.slice a5 es.length c5) es :: rowS 140 2 v2 zs.length xs ::
        pts ss (.cells #[v2, .slice none 0 0, .slice none 0 0, .slice none 0 0, .bool false] 132 (0, 0)) :: pts r6 (.cells #[ptrV bb, ptrV ss, .slice none 0 0, .slice none 0 0, .bool false] 135 (0, 0)) ::
        refBankS bb zs.length :: bankS 0 bank X :: world4 r2 (.pointer none) (.pointer none) (.pointer none) (.pointer none) :: l) := ((Has.setCell h4r 1 (ptrV sp)).setCell 2 (ptrV p)).setCell 3 (ptrV r6)
      have H5 := Lib.hid h5
      have HK5 : Hid (Kept w (((w4.setCell ⟨r4, 1, none⟩ (ptrV sp)).setCell ⟨r4, 2, none⟩ (ptrV p)).setCell ⟨r4, 3, none⟩ (ptrV r6))) := (((HK3.out.trans hK4).setCell _ _).setCell _ _).setCell _ _
      clear h4 h4r h5 hK4 HST HK3 hr4
      simp only [ptrV] at H5 HK5
      go_upto_region 23 with fail
      generalize ((w4.setCell ⟨r4, 1, none⟩ (.pointer (some ⟨sp, 0, none⟩))).setCell ⟨r4, 2, none⟩ (.pointer (some ⟨p, 0, none⟩))).setCell ⟨r4, 3, none⟩ (.pointer (some ⟨r6, 0, none⟩)) = W5 at *
      have hr4 := H5.out.got
      have c0 : W5.cell? ⟨r4, 0, none⟩ = some (.pointer (some ⟨bank, 0, none⟩)) := cell_of hr4 0 rfl
      have c1 : W5.cell? ⟨r4, 1, none⟩ = some (.pointer (some ⟨sp, 0, none⟩)) := cell_of hr4 1 rfl
      have c2 : W5.cell? ⟨r4, 2, none⟩ = some (.pointer (some ⟨p, 0, none⟩)) := cell_of hr4 2 rfl
      have c3 : W5.cell? ⟨r4, 3, none⟩ = some (.pointer (some ⟨r6, 0, none⟩)) := cell_of hr4 3 rfl
      have l4 := World.block_lt_of_cell? _ _ c0
      have hr2 := H5.out.at (b := r2) (o := .cells #[.pointer none, .pointer none, .pointer none, .pointer none] 30 (0, 0)) (by simp [world4])
      have e0 : W5.cell? ⟨r2, 0, none⟩ = some (.pointer none) := cell_of hr2 0 rfl
      have e1 : W5.cell? ⟨r2, 1, none⟩ = some (.pointer none) := cell_of hr2 1 rfl
      have e2 : W5.cell? ⟨r2, 2, none⟩ = some (.pointer none) := cell_of hr2 2 rfl
      have e3 : W5.cell? ⟨r2, 3, none⟩ = some (.pointer none) := cell_of hr2 3 rfl
      have g0 := thaw_of hr2 0
      have g1 := thaw_of hr2 1
      have g2 := thaw_of hr2 2
      have g3 := thaw_of hr2 3
      have l2 := World.block_lt_of_cell? _ _ e0
      have HX := Lib.hid (world4_set (H5.out.pull 10) (.pointer (some ⟨bank, 0, none⟩)) (.pointer (some ⟨sp, 0, none⟩)) (.pointer (some ⟨p, 0, none⟩)) (.pointer (some ⟨r6, 0, none⟩)))
      have HKX := Lib.hid ((((HK5.out.setCell ⟨r2, 0, none⟩ (.pointer (some ⟨bank, 0, none⟩))).setCell ⟨r2, 1, none⟩ (.pointer (some ⟨sp, 0, none⟩))).setCell ⟨r2, 2, none⟩ (.pointer (some ⟨p, 0, none⟩))).setCell ⟨r2, 3, none⟩ (.pointer (some ⟨r6, 0, none⟩)))
      clear hr4 hr2 H5 HK5
      go_region
      go_wp2
      generalize hW9 : (((W5.setCell ⟨r2, 0, none⟩ (.pointer (some ⟨bank, 0, none⟩))).setCell ⟨r2, 1, none⟩ (.pointer (some ⟨sp, 0, none⟩))).setCell ⟨r2, 2, none⟩ (.pointer (some ⟨p, 0, none⟩))).setCell ⟨r2, 3, none⟩ (.pointer (some ⟨r6, 0, none⟩)) = W9 at *
      have z0 : W9.drew.cell? ⟨r2, 0, none⟩ = some (.pointer (some ⟨bank, 0, none⟩)) := cell_of HX.out.drew.got 0 rfl
      have z1 : W9.drew.cell? ⟨r2, 1, none⟩ = some (.pointer (some ⟨sp, 0, none⟩)) := cell_of HX.out.drew.got 1 rfl
      have z2 : W9.drew.cell? ⟨r2, 2, none⟩ = some (.pointer (some ⟨p, 0, none⟩)) := cell_of HX.out.drew.got 2 rfl
      have z3 : W9.drew.cell? ⟨r2, 3, none⟩ = some (.pointer (some ⟨r6, 0, none⟩)) := cell_of HX.out.drew.got 3 rfl
      generalize hWd : W9.drew = Wd at *
      refine bodyPost_ret (v := .tuple #[.agg #[.pointer (some ⟨bank, 0, none⟩), .pointer (some ⟨sp, 0, none⟩), .pointer (some ⟨p, 0, none⟩), .pointer (some ⟨r6, 0, none⟩)], .bool true]) (by simp [results, Tryz.results15, go_sem, z0, z1, z2, z3]) rfl ⟨?_, .inr ⟨HOk.out, bank, sp, p, r6, rfl, ?_⟩⟩
      · rw [← hWd]; exact HKX.out.drew
      · rw [← hWd, Hes.out, Hdz.out]
        exact (HX.out.drew.reord [0, 0, 2, 2, 2, 2, 2, 2, 0, 1, 0]).tail.tail.tail.tail.tail.tail.tail.tail
end Go.Proofs.YtgbgneiciabidaaGreatDoor
