/-
  CatalogEmpties returns true for every input, and the input reads as it did: the card, under the row's own condition alone (the listed table of math/bits, tied to the program's text).
-/
import Derived.Test.YtgbgneiciabidaaGreatDoorGc6
namespace Go.Proofs.YtgbgneiciabidaaGreatDoor
open Go Go.ChangeShapes Go.WideShapes Go.ChangeAt Go.RowKit
set_option linter.all false
set_option maxHeartbeats 8000000
set_option maxRecDepth 100000 in
theorem catalogEmpties_contract (H : Type) (enc : TypeId × Value -> H) (W : World) (base : Nat) (args : Array Value) (ds gs : List (DataW H)) (before : List MemPlace)
  (hval : ∀ (j : Nat) t v, Tryz.f12.params[j]? = some t -> args[j]? = some v -> Value.okWide Tryz.prog W .any base t v)
  (hW : DataW.Whole enc Tryz.prog Tryz.f12.params.toList Rows.catalogEmptiesSpec.vars false W args.toList ds gs before) (hL : laidMetH Tryz.prog Rows.catalogEmptiesRow.laid W) :
  Calls Tryz.prog 12 args W fun e W' => ∃ v, e = .returned v /\ Rows.catalogEmptiesSpec.post enc Tryz.prog Tryz.f12 false true false false W args v W' := by
 have hW' := hW
 obtain ⟨p, q, hA0, hV, rfl, hfz, hnd⟩ := hW
 have hA : DataW.TrodAll enc Tryz.prog W 0 (fun _ => true) true Tryz.f12.params.toList args.toList ds p := hA0
 have hAk := hA
 rw [Tryz.params12] at hA hval
 obtain ⟨v0, vs0, d0, ds0, p0, q0, hargs, rfl, rfl, h0, r0⟩ := trodAll_cons hA
 obtain ⟨v1, vs1, d1, ds1, p1, q1, hargs1, rfl, rfl, h1, r1⟩ := trodAll_cons r0
 obtain ⟨rfl, rfl, rfl⟩ := trodAll_nil r1
 obtain rfl : args = #[v0, v1] := by cases args; simp_all
 obtain ⟨rfl, rfl⟩ := trodVars_none hV
 obtain ⟨a0, l0, c0, rfl⟩ := okWide_slice Tryz.underlying97 (hval 0 97 v0 rfl rfl)
 obtain ⟨a1, l1, c1, rfl⟩ := okWide_slice Tryz.underlying22 (hval 1 22 v1 rfl rfl)
 obtain ⟨m0, g0⟩ := h0
 obtain ⟨m1, g1⟩ := h1
 obtain ⟨os, ho, hob⟩ := vols_of_trod (show DataW.trod enc Tryz.prog W 0 (fun _ => true) true m0 97 [.slice a0 l0 c0] = some (d0, p0) from g0)
 obtain ⟨ks, hk⟩ := src_of_trod (show DataW.trod enc Tryz.prog W 0 (fun _ => true) true m1 22 [.slice a1 l1 c1] = some (d1, p1) from g1)
 have hT : ∀ j, j < 64 -> W.cell? ⟨0, j, none⟩ = some (.int .u8 (Lib.deBruijn64tab.getD j 0 : Nat)) := table_at hL
 have hTab : Tab [old W] := Tab.of_old hT (.head _)
 refine (law_empties os ks (sv := .slice a0 l0 c0) (kv := .slice a1 l1 c1) (Has.start W) hTab ho hob (Srcs.of_old hk (.head _))).mono fun e W' ⟨he, hK, hh⟩ => ?_
 have hb := below_of_old hh (.head _) hK
 subst he
 exact ⟨_, rfl, post_of_below (pv := []) hW' (fun _ _ _ => trodAll_cons_mk (shut_bool Tryz.underlying4 _) trodAll_mk0) (fun sp hsp => args_again hb (by rw [Tryz.params12]; decide +kernel) hAk (fun x hx => hW'.lt x (by simpa using hx)) (fun x hx => hsp x (by simpa using hx))) (fun _ _ => rfl) (by simp)
  hb (ok_one (by kernel_rfl) rfl (okWide_bool_mk Tryz.underlying4 _))⟩
def catalogEmptiesArgs : Array Value := #[.slice none 0 0, .slice none 0 0]
set_option maxRecDepth 100000 in
theorem catalogEmpties_laid (os : Os) : laidMet Tryz.prog Rows.catalogEmptiesRow.laid ((laidWorld os).forCall (fun _ _ => 0) ⟨#[], catalogEmptiesArgs, []⟩).memory :=
 laidMet_of_run' 8 (by kernel_rfl) (by kernel_rfl)
theorem catalogEmpties_reads (os : Os) {H : Type} (enc : TypeId × Value -> H) : ∃ places, DataW.whole enc Tryz.prog ((laidWorld os).forCall (fun _ _ => 0) ⟨#[], catalogEmptiesArgs, []⟩).memory Tryz.f12.params.toList Rows.catalogEmptiesSpec.vars false catalogEmptiesArgs.toList 8 = some ([.nil, .nil], [], places) :=
 ⟨[], by kernel_rfl⟩
set_option maxRecDepth 100000 in
theorem catalogEmpties_lifted (os : Os) (started : os.Started) (H : Type) (enc : TypeId × Value -> H) (F : Stop.Interp) :
  ReturnsInHanded {} Tryz.checked os 12 .any ((OpenSpec.ofChange Rows.catalogEmptiesSpec).preRow enc Tryz.prog Tryz.f12 Rows.catalogEmptiesRow.domain false Rows.catalogEmptiesRow.laid) (((OpenSpec.ofChange Rows.catalogEmptiesSpec).at F).post enc Tryz.prog Tryz.f12 false true false false) := by
 obtain ⟨places, hx⟩ := catalogEmpties_reads os enc
 refine returnsInHanded_of_row (C := Tryz.checked) (s := OpenSpec.ofChange Rows.catalogEmptiesSpec) Tryz.own started (by kernel_rfl) Tryz.func12
  (witness_row_at (enc := enc) (C := Tryz.checked) false (laidWorld os) catalogEmptiesArgs rfl (by kernel_rfl) (by kernel_rfl) (by kernel_rfl)
   (OpenSpec.preRow_of_cond 8 hx (by kernel_rfl) (fun k hk => by cases hk) (by kernel_rfl) (catalogEmpties_laid os))) ?_
 intro W base args ds gs before hval hW _ _ _ hL _ _
 exact catalogEmpties_contract H enc W base args ds gs before hval hW hL
set_option maxRecDepth 100000 in
theorem catalogEmpties_facts : joinedFacts Tryz.pinned.checked.prog 12 Tryz.f12 (OpenSpec.ofChange Rows.catalogEmptiesSpec).bare Rows.catalogEmptiesRow = true := by
 unfold joinedFacts
 repeat' (with_reducible apply and2)
 all_goals as_aux_lemma => kernel_rfl
theorem catalogEmpties_said : Rows.CatalogEmptiesSaid :=
 OpenClaim.holds_of_cond 12 Tryz.f12 rfl rfl rfl rfl rfl rfl rfl ⟨rfl, rfl, rfl, rfl, rfl⟩ rfl rfl rfl rfl rfl (by kernel_rfl) Tryz.func12 catalogEmpties_facts
  (of_decide_eq_true (by kernel_rfl)) (by unfold Func.isWrapper; first | (rw [if_pos (by decide +kernel)]; kernel_rfl) | (rw [if_neg (by decide +kernel)]; exact ⟨rfl, rfl⟩))
  (fun os started H enc _ F => by rw [OpenClaim.pre_eq_preRow]; exact catalogEmpties_lifted os started H enc F)
theorem catalogEmpties_plain (f : FuncId) (fn : Func) (hf : Tryz.pinned.checked.prog.funcNamed "portage/portagelaw13.CatalogEmpties" = some f) (hfn : Tryz.pinned.checked.prog.funcs[f]? = some fn) :
  true = Tryz.pinned.checked.prog.looks [] /\ ∀ (j : Nat) t, fn.params[j]? = some t -> Tryz.pinned.checked.prog.wantsStandIn t = false := by
 obtain rfl : f = 12 := Option.some.inj ((show Tryz.prog.funcNamed "portage/portagelaw13.CatalogEmpties" = some 12 by kernel_rfl).symm.trans hf) |>.symm
 obtain rfl : fn = Tryz.f12 := (Option.some.inj (Tryz.func12.symm.trans hfn)).symm
 refine ⟨by kernel_rfl, fun j t ht => ?_⟩
 rw [Tryz.params12] at ht
 have hc : t = 97 \/ t = 22 := by simpa using Array.mem_of_getElem? ht
 rcases hc with rfl | rfl
 ·exact (show Tryz.prog.wantsStandIn 97 = false by kernel_rfl)
 ·exact (show Tryz.prog.wantsStandIn 22 = false by kernel_rfl)
theorem catalogEmpties_card : Rows.CatalogEmptiesCardSaid :=
 Claim7.holds_tied_plain_at .later [] _ _ _ _ catalogEmpties_said (fun _ h => by cases h) (by kernel_rfl) (fun _ h => by cases h) catalogEmpties_row_tie rfl ⟨rfl, rfl⟩ (by kernel_rfl) rfl catalogEmpties_plain (by kernel_rfl)
end Go.Proofs.YtgbgneiciabidaaGreatDoor
