/-
  BtreeFull returns true for every input, and the input reads as it did: the card, under the row's own condition alone (the listed table of math/bits, tied to the program's text).
-/
import Derived.Test.YtgbgneiciabidaaGreatDoorGf1
namespace Go.Proofs.YtgbgneiciabidaaGreatDoor
open Go Go.ChangeShapes Go.WideShapes Go.ChangeAt Go.RowKit
set_option linter.all false

set_option maxRecDepth 100000 in
theorem btreeFull_contract (H : Type) (enc : TypeId × Value → H) (W : World) (base : Nat) (args : Array Value) (ds gs : List (DataW H)) (before : List MemPlace)
    (hval : ∀ (j : Nat) t v, Tryz.f11.params[j]? = some t → args[j]? = some v → Value.okWide Tryz.prog W .any base t v)
    (hW : DataW.Whole enc Tryz.prog Tryz.f11.params.toList Rows.btreeFullSpec.vars false W args.toList ds gs before) (hL : laidMetH Tryz.prog Rows.btreeFullRow.laid W) :
    Calls Tryz.prog 11 args W fun e W' => ∃ v, e = .returned v ∧ Rows.btreeFullSpec.post enc Tryz.prog Tryz.f11 false true false false W args v W' := by
  have hW' := hW
  obtain ⟨p, q, hA0, hV, rfl, hfz, hnd⟩ := hW
  have hA : DataW.TrodAll enc Tryz.prog W 0 (fun _ => true) true Tryz.f11.params.toList args.toList ds p := hA0
  have hAk := hA
  rw [Tryz.params11] at hA hval
  obtain ⟨v0, vs0, d0, ds0, p0, q0, hargs, rfl, rfl, h0, r0⟩ := trodAll_cons hA
  obtain ⟨v1, vs1, d1, ds1, p1, q1, hargs1, rfl, rfl, h1, r1⟩ := trodAll_cons r0
  obtain ⟨rfl, rfl, rfl⟩ := trodAll_nil r1
  obtain rfl : args = #[v0, v1] := by cases args; simp_all
  obtain ⟨rfl, rfl⟩ := trodVars_none hV
  obtain ⟨a0, l0, c0, rfl⟩ := okWide_slice Tryz.underlying22 (hval 0 22 v0 rfl rfl)
  obtain ⟨a1, l1, c1, rfl⟩ := okWide_slice Tryz.underlying81 (hval 1 81 v1 rfl rfl)
  obtain ⟨m0, g0⟩ := h0
  obtain ⟨m1, g1⟩ := h1
  obtain ⟨zs, hz⟩ := src_of_trod (show DataW.trod enc Tryz.prog W 0 (fun _ => true) true m0 22 [.slice a0 l0 c0] = some (d0, p0) from g0)
  obtain ⟨os, ho⟩ := script_of_trod (show DataW.trod enc Tryz.prog W 0 (fun _ => true) true m1 81 [.slice a1 l1 c1] = some (d1, p1) from g1)
  have hT : ∀ j, j < 64 → W.cell? ⟨0, j, none⟩ = some (.int .u8 (Lib.deBruijn64tab.getD j 0 : Nat)) := table_at hL
  have hTab : Tab [old W] := Tab.of_old hT (.head _)
  refine (law_full zs os (zv := .slice a0 l0 c0) (sv := .slice a1 l1 c1) (Has.start W) hTab (Srcs.of_old hz (.head _)) ho).mono fun e W' ⟨he, hK, hh⟩ => ?_
  have hb := below_of_old hh (.head _) hK
  subst he
  exact ⟨_, rfl, post_of_below (pv := []) hW' (fun _ _ _ => trodAll_cons_mk (shut_bool Tryz.underlying4 _) trodAll_mk0) (fun sp hsp => args_again hb (by rw [Tryz.params11]; decide +kernel) hAk (fun x hx => hW'.lt x (by simpa using hx)) (fun x hx => hsp x (by simpa using hx))) (fun _ _ => rfl) (by simp)
    hb (ok_one (by kernel_rfl) rfl (okWide_bool_mk Tryz.underlying4 _))⟩

def btreeFullArgs : Array Value := #[.slice none 0 0, .slice none 0 0]
set_option maxRecDepth 100000 in
theorem btreeFull_laid (os : Os) : laidMet Tryz.prog Rows.btreeFullRow.laid ((laidWorld os).forCall (fun _ _ => 0) ⟨#[], btreeFullArgs, []⟩).memory :=
  laidMet_of_run' 8 (by kernel_rfl) (by kernel_rfl)
theorem btreeFull_reads (os : Os) {H : Type} (enc : TypeId × Value → H) : ∃ places, DataW.whole enc Tryz.prog ((laidWorld os).forCall (fun _ _ => 0) ⟨#[], btreeFullArgs, []⟩).memory Tryz.f11.params.toList Rows.btreeFullSpec.vars false btreeFullArgs.toList 8 = some ([.nil, .nil], [], places) :=
  ⟨[], by kernel_rfl⟩

set_option maxRecDepth 100000 in
theorem btreeFull_lifted (os : Os) (started : os.Started) (H : Type) (enc : TypeId × Value → H) (F : Stop.Interp) :
    ReturnsInHanded {} Tryz.checked os 11 .any ((OpenSpec.ofChange Rows.btreeFullSpec).preRow enc Tryz.prog Tryz.f11 Rows.btreeFullRow.domain false Rows.btreeFullRow.laid) (((OpenSpec.ofChange Rows.btreeFullSpec).at F).post enc Tryz.prog Tryz.f11 false true false false) := by
  obtain ⟨places, hx⟩ := btreeFull_reads os enc
  refine returnsInHanded_of_row (C := Tryz.checked) (s := OpenSpec.ofChange Rows.btreeFullSpec) Tryz.own started (by kernel_rfl) Tryz.func11
    (witness_row_at (enc := enc) (C := Tryz.checked) false (laidWorld os) btreeFullArgs rfl (by kernel_rfl) (by kernel_rfl) (by kernel_rfl)
      (OpenSpec.preRow_of_cond 8 hx (by kernel_rfl) (fun k hk => by cases hk) (by kernel_rfl) (btreeFull_laid os))) ?_
  intro W base args ds gs before hval hW _ _ _ hL _ _
  exact btreeFull_contract H enc W base args ds gs before hval hW hL

set_option maxHeartbeats 4000000 in
set_option maxRecDepth 100000 in
theorem btreeFull_facts : joinedFacts Tryz.pinned.checked.prog 11 Tryz.f11 (OpenSpec.ofChange Rows.btreeFullSpec).bare Rows.btreeFullRow = true := by
  unfold joinedFacts
  repeat' (with_reducible apply and2)
  all_goals as_aux_lemma => kernel_rfl
theorem btreeFull_said : Rows.BtreeFullSaid :=
  OpenClaim.holds_of_cond 11 Tryz.f11 rfl rfl rfl rfl rfl rfl rfl ⟨rfl, rfl, rfl, rfl, rfl⟩ rfl rfl rfl rfl rfl (by kernel_rfl) Tryz.func11 btreeFull_facts
    (of_decide_eq_true (by kernel_rfl)) (by unfold Func.isWrapper; first | (rw [if_pos (by decide +kernel)]; kernel_rfl) | (rw [if_neg (by decide +kernel)]; exact ⟨rfl, rfl⟩))
    (fun os started H enc _ F => by rw [OpenClaim.pre_eq_preRow]; exact btreeFull_lifted os started H enc F)

theorem btreeFull_plain (f : FuncId) (fn : Func) (hf : Tryz.pinned.checked.prog.funcNamed "portage/portagelaw12.BtreeFull" = some f) (hfn : Tryz.pinned.checked.prog.funcs[f]? = some fn) :
    true = Tryz.pinned.checked.prog.looks [] ∧ ∀ (j : Nat) t, fn.params[j]? = some t → Tryz.pinned.checked.prog.wantsStandIn t = false := by
  obtain rfl : f = 11 := Option.some.inj ((show Tryz.prog.funcNamed "portage/portagelaw12.BtreeFull" = some 11 by kernel_rfl).symm.trans hf) |>.symm
  obtain rfl : fn = Tryz.f11 := (Option.some.inj (Tryz.func11.symm.trans hfn)).symm
  refine ⟨by kernel_rfl, fun j t ht => ?_⟩
  rw [Tryz.params11] at ht
  have hc : t = 22 ∨ t = 81 := by simpa using Array.mem_of_getElem? ht
  rcases hc with rfl | rfl
  · exact (show Tryz.prog.wantsStandIn 22 = false by kernel_rfl)
  · exact (show Tryz.prog.wantsStandIn 81 = false by kernel_rfl)

theorem btreeFull_card : Rows.BtreeFullCardSaid :=
  Claim7.holds_tied_plain_at .later [] _ _ _ _ btreeFull_said (fun _ h => by cases h) (by kernel_rfl) (fun _ h => by cases h) btreeFull_row_tie rfl ⟨rfl, rfl⟩ (by kernel_rfl) rfl btreeFull_plain (by kernel_rfl)
end Go.Proofs.YtgbgneiciabidaaGreatDoor
