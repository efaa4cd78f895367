/-
  BtreePlays returns true for every input, and the input reads as it did: the card, under the row's own condition alone (the listed table of math/bits, tied to the program's text).
-/
import Derived.Test.YtgbgneiciabidaaGreatDoorGz13
import Derived.Test.YtgbgneiciabidaaGreatDoorGz46
namespace Go.Proofs.YtgbgneiciabidaaGreatDoor
open Go Go.ChangeShapes Go.WideShapes Go.ChangeAt Go.RowKit
set_option linter.all false

set_option maxRecDepth 100000 in
theorem btreePlays_contract (H : Type) (enc : TypeId × Value → H) (W : World) (base : Nat) (args : Array Value) (ds gs : List (DataW H)) (before : List MemPlace)
    (hval : ∀ (j : Nat) t v, Tryz.f10.params[j]? = some t → args[j]? = some v → Value.okWide Tryz.prog W .any base t v)
    (hW : DataW.Whole enc Tryz.prog Tryz.f10.params.toList Rows.btreePlaysSpec.vars false W args.toList ds gs before) (hL : laidMetH Tryz.prog Rows.btreePlaysRow.laid W) :
    Calls Tryz.prog 10 args W fun e W' => ∃ v, e = .returned v ∧ Rows.btreePlaysSpec.post enc Tryz.prog Tryz.f10 false true false false W args v W' := by
  have hW' := hW
  obtain ⟨p, q, hA0, hV, rfl, hfz, hnd⟩ := hW
  have hA : DataW.TrodAll enc Tryz.prog W 0 (fun _ => true) true Tryz.f10.params.toList args.toList ds p := hA0
  have hAk := hA
  rw [Tryz.params10] at hA hval
  obtain ⟨v0, vs0, d0, ds0, p0, q0, hargs, rfl, rfl, h0, r0⟩ := trodAll_cons hA
  obtain ⟨v1, vs1, d1, ds1, p1, q1, hargs1, rfl, rfl, h1, r1⟩ := trodAll_cons r0
  obtain ⟨v2, vs2, d2, ds2, p2, q2, hargs2, rfl, rfl, h2, r2⟩ := trodAll_cons r1
  obtain ⟨rfl, rfl, rfl⟩ := trodAll_nil r2
  obtain rfl : args = #[v0, v1, v2] := by cases args; simp_all
  obtain ⟨rfl, rfl⟩ := trodVars_none hV
  obtain ⟨a0, l0, c0, rfl⟩ := okWide_slice Tryz.underlying81 (hval 0 81 v0 rfl rfl)
  obtain ⟨m0, g0⟩ := h0
  obtain ⟨os, ho⟩ := script_of_trod (show DataW.trod enc Tryz.prog W 0 (fun _ => true) true m0 81 [.slice a0 l0 c0] = some (d0, p0) from g0)
  obtain ⟨fr, rfl, rfl, rfl, _⟩ := open_int Tryz.underlying3 (hval 1 3 v1 rfl rfl) h1
  obtain ⟨lim, rfl, rfl, rfl, _⟩ := open_int Tryz.underlying3 (hval 2 3 v2 rfl rfl) h2
  have hT : ∀ j, j < 64 → W.cell? ⟨0, j, none⟩ = some (.int .u8 (Lib.deBruijn64tab.getD j 0 : Nat)) := table_at hL
  have hTab : Tab [old W] := Tab.of_old hT (.head _)
  refine (law_plays os fr lim (sv := .slice a0 l0 c0) (Has.start W) hTab ho).mono fun e W' ⟨he, hK, hh⟩ => ?_
  have hb := below_of_old hh (.head _) hK
  subst he
  exact ⟨_, rfl, post_of_below (pv := []) hW' (fun _ _ _ => trodAll_cons_mk (shut_bool Tryz.underlying4 _) trodAll_mk0) (fun sp hsp => args_again hb (by rw [Tryz.params10]; decide +kernel) hAk (fun x hx => hW'.lt x (by simpa using hx)) (fun x hx => hsp x (by simpa using hx))) (fun _ _ => rfl) (by simp)
    hb (ok_one (by kernel_rfl) rfl (okWide_bool_mk Tryz.underlying4 _))⟩

def btreePlaysArgs : Array Value := #[.slice none 0 0, .int .i64 0, .int .i64 0]
set_option maxRecDepth 100000 in
theorem btreePlays_laid (os : Os) : laidMet Tryz.prog Rows.btreePlaysRow.laid ((laidWorld os).forCall (fun _ _ => 0) ⟨#[], btreePlaysArgs, []⟩).memory :=
  laidMet_of_run' 8 (by kernel_rfl) (by kernel_rfl)
theorem btreePlays_reads (os : Os) {H : Type} (enc : TypeId × Value → H) : ∃ places, DataW.whole enc Tryz.prog ((laidWorld os).forCall (fun _ _ => 0) ⟨#[], btreePlaysArgs, []⟩).memory Tryz.f10.params.toList Rows.btreePlaysSpec.vars false btreePlaysArgs.toList 8 = some ([.nil, .lit (.int .i64 0), .lit (.int .i64 0)], [], places) :=
  ⟨[], by kernel_rfl⟩

set_option maxRecDepth 100000 in
theorem btreePlays_lifted (os : Os) (started : os.Started) (H : Type) (enc : TypeId × Value → H) (F : Stop.Interp) :
    ReturnsInHanded {} Tryz.checked os 10 .any ((OpenSpec.ofChange Rows.btreePlaysSpec).preRow enc Tryz.prog Tryz.f10 Rows.btreePlaysRow.domain false Rows.btreePlaysRow.laid) (((OpenSpec.ofChange Rows.btreePlaysSpec).at F).post enc Tryz.prog Tryz.f10 false true false false) := by
  obtain ⟨places, hx⟩ := btreePlays_reads os enc
  refine returnsInHanded_of_row (C := Tryz.checked) (s := OpenSpec.ofChange Rows.btreePlaysSpec) Tryz.own started (by kernel_rfl) Tryz.func10
    (witness_row_at (enc := enc) (C := Tryz.checked) false (laidWorld os) btreePlaysArgs rfl (by kernel_rfl) (by kernel_rfl) (by kernel_rfl)
      (OpenSpec.preRow_of_cond 8 hx (by kernel_rfl) (fun k hk => by cases hk) (by kernel_rfl) (btreePlays_laid os))) ?_
  intro W base args ds gs before hval hW _ _ _ hL _ _
  exact btreePlays_contract H enc W base args ds gs before hval hW hL

set_option maxHeartbeats 4000000 in
set_option maxRecDepth 100000 in
theorem btreePlays_facts : joinedFacts Tryz.pinned.checked.prog 10 Tryz.f10 (OpenSpec.ofChange Rows.btreePlaysSpec).bare Rows.btreePlaysRow = true := by
  unfold joinedFacts
  repeat' (with_reducible apply and2)
  all_goals as_aux_lemma => kernel_rfl
theorem btreePlays_said : Rows.BtreePlaysSaid :=
  OpenClaim.holds_of_cond 10 Tryz.f10 rfl rfl rfl rfl rfl rfl rfl ⟨rfl, rfl, rfl, rfl, rfl⟩ rfl rfl rfl rfl rfl (by kernel_rfl) Tryz.func10 btreePlays_facts
    (of_decide_eq_true (by kernel_rfl)) (by unfold Func.isWrapper; first | (rw [if_pos (by decide +kernel)]; kernel_rfl) | (rw [if_neg (by decide +kernel)]; exact ⟨rfl, rfl⟩))
    (fun os started H enc _ F => by rw [OpenClaim.pre_eq_preRow]; exact btreePlays_lifted os started H enc F)

theorem btreePlays_plain (f : FuncId) (fn : Func) (hf : Tryz.pinned.checked.prog.funcNamed "portage/portagelaw12.BtreePlays" = some f) (hfn : Tryz.pinned.checked.prog.funcs[f]? = some fn) :
    true = Tryz.pinned.checked.prog.looks [] ∧ ∀ (j : Nat) t, fn.params[j]? = some t → Tryz.pinned.checked.prog.wantsStandIn t = false := by
  obtain rfl : f = 10 := Option.some.inj ((show Tryz.prog.funcNamed "portage/portagelaw12.BtreePlays" = some 10 by kernel_rfl).symm.trans hf) |>.symm
  obtain rfl : fn = Tryz.f10 := (Option.some.inj (Tryz.func10.symm.trans hfn)).symm
  refine ⟨by kernel_rfl, fun j t ht => ?_⟩
  rw [Tryz.params10] at ht
  have hc : t = 81 ∨ t = 3 ∨ t = 3 := by simpa using Array.mem_of_getElem? ht
  rcases hc with rfl | rfl | rfl
  · exact (show Tryz.prog.wantsStandIn 81 = false by kernel_rfl)
  · exact (show Tryz.prog.wantsStandIn 3 = false by kernel_rfl)
  · exact (show Tryz.prog.wantsStandIn 3 = false by kernel_rfl)

theorem btreePlays_card : Rows.BtreePlaysCardSaid :=
  Claim7.holds_tied_plain_at .later [] _ _ _ _ btreePlays_said (fun _ h => by cases h) (by kernel_rfl) (fun _ h => by cases h) btreePlays_row_tie rfl ⟨rfl, rfl⟩ (by kernel_rfl) rfl btreePlays_plain (by kernel_rfl)
end Go.Proofs.YtgbgneiciabidaaGreatDoor
