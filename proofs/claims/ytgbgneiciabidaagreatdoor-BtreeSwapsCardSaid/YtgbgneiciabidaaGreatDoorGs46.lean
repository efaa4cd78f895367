/-
  BtreeSwaps returns true for every input, and the input reads as it did: the card, under the row's own condition alone (the listed table of math/bits, tied to the program's text).
-/
import Derived.Test.YtgbgneiciabidaaGreatDoorGs11
import Derived.Test.YtgbgneiciabidaaGreatDoorGs44
import Derived.Test.YtgbgneiciabidaaGreatDoorGs45
namespace Go.Proofs.YtgbgneiciabidaaGreatDoor
open Go Go.ChangeShapes Go.WideShapes Go.ChangeAt Go.RowKit
set_option linter.all false
set_option maxHeartbeats 8000000
set_option maxRecDepth 100000 in
theorem btreeSwaps_contract (H : Type) (enc : TypeId × Value -> H) (W : World) (base : Nat) (args : Array Value) (ds gs : List (DataW H)) (before : List MemPlace)
  (hval : ∀ (j : Nat) t v, Tryz.f13.params[j]? = some t -> args[j]? = some v -> Value.okWide Tryz.prog W .any base t v)
  (hW : DataW.Whole enc Tryz.prog Tryz.f13.params.toList Rows.btreeSwapsSpec.vars false W args.toList ds gs before) (hL : laidMetH Tryz.prog Rows.btreeSwapsRow.laid W) :
  Calls Tryz.prog 13 args W fun e W' => ∃ v, e = .returned v /\ Rows.btreeSwapsSpec.post enc Tryz.prog Tryz.f13 false true false false W args v W' := by
 have hW' := hW
 obtain ⟨p, q, hA0, hV, rfl, hfz, hnd⟩ := hW
 have hA : DataW.TrodAll enc Tryz.prog W 0 (fun _ => true) true Tryz.f13.params.toList args.toList ds p := hA0
 have hAk := hA
 rw [Tryz.params13] at hA hval
 obtain ⟨v0, vs0, d0, ds0, p0, q0, hargs, rfl, rfl, h0, r0⟩ := trodAll_cons hA
 obtain ⟨rfl, rfl, rfl⟩ := trodAll_nil r0
 obtain rfl : args = #[v0] := by cases args; simp_all
 obtain ⟨rfl, rfl⟩ := trodVars_none hV
 obtain ⟨u0, u1, u2, u3, y0, y1, y2, y3, n, rfl, rfl, _, t0, t1, t2, t3⟩ := Joins.open_agg4 Tryz.underlying112 (by kernel_rfl) (by kernel_rfl) (hval 0 112 v0 rfl rfl) h0
 obtain ⟨dev, hu1, _, _⟩ := DataW.trod_int Tryz.underlying3 t1
 obtain rfl : u1 = .int .i64 dev := by simpa using hu1
 obtain ⟨os, ho⟩ := script_of_trod t0
 obtain ⟨fs, hf, hfb⟩ := srcb_of_trod t2
 obtain ⟨zs, hz⟩ := src_of_trod t3
 have hT : ∀ j, j < 64 -> W.cell? ⟨0, j, none⟩ = some (.int .u8 (Lib.deBruijn64tab.getD j 0 : Nat)) := table_at hL
 have hTab : Tab [old W] := Tab.of_old hT (.head _)
 refine (law_swaps os dev fs zs (Has.start W) hTab ho (Srcs.of_old hf (.head _)) (Srcs.of_old hz (.head _)) hfb).mono fun e W' ⟨he, hK, hh⟩ => ?_
 have hb := below_of_old hh (.head _) hK
 subst he
 exact ⟨_, rfl, post_of_below (pv := []) hW' (fun _ _ _ => trodAll_cons_mk (shut_bool Tryz.underlying4 _) trodAll_mk0) (fun sp hsp => args_again hb (by rw [Tryz.params13]; decide +kernel) hAk (fun x hx => hW'.lt x (by simpa using hx)) (fun x hx => hsp x (by simpa using hx))) (fun _ _ => rfl) (by simp)
  hb (ok_one (by kernel_rfl) rfl (okWide_bool_mk Tryz.underlying4 _))⟩
def btreeSwapsArgs : Array Value := #[.agg #[.slice none 0 0, .int .i64 0, .slice none 0 0, .slice none 0 0]]
set_option maxRecDepth 100000 in
theorem btreeSwaps_laid (os : Os) : laidMet Tryz.prog Rows.btreeSwapsRow.laid ((laidWorld os).forCall (fun _ _ => 0) ⟨#[], btreeSwapsArgs, []⟩).memory :=
 laidMet_of_run' 8 (by kernel_rfl) (by kernel_rfl)
theorem btreeSwaps_reads (os : Os) {H : Type} (enc : TypeId × Value -> H) : ∃ places, DataW.whole enc Tryz.prog ((laidWorld os).forCall (fun _ _ => 0) ⟨#[], btreeSwapsArgs, []⟩).memory Tryz.f13.params.toList Rows.btreeSwapsSpec.vars false btreeSwapsArgs.toList 8 = some ([.agg [.nil, .lit (.int .i64 0), .nil, .nil]], [], places) :=
 ⟨[], by kernel_rfl⟩
set_option maxRecDepth 100000 in
theorem btreeSwaps_lifted (os : Os) (started : os.Started) (H : Type) (enc : TypeId × Value -> H) (F : Stop.Interp) :
  ReturnsInHanded {} Tryz.checked os 13 .any ((OpenSpec.ofChange Rows.btreeSwapsSpec).preRow enc Tryz.prog Tryz.f13 Rows.btreeSwapsRow.domain false Rows.btreeSwapsRow.laid) (((OpenSpec.ofChange Rows.btreeSwapsSpec).at F).post enc Tryz.prog Tryz.f13 false true false false) := by
 obtain ⟨places, hx⟩ := btreeSwaps_reads os enc
 refine returnsInHanded_of_row (C := Tryz.checked) (s := OpenSpec.ofChange Rows.btreeSwapsSpec) Tryz.own started (by kernel_rfl) Tryz.func13
  (witness_row_at (enc := enc) (C := Tryz.checked) false (laidWorld os) btreeSwapsArgs rfl (by kernel_rfl) (by kernel_rfl) (by kernel_rfl)
   (OpenSpec.preRow_of_cond 8 hx (by kernel_rfl) (fun k hk => by cases hk) (by kernel_rfl) (btreeSwaps_laid os))) ?_
 intro W base args ds gs before hval hW _ _ _ hL _ _
 exact btreeSwaps_contract H enc W base args ds gs before hval hW hL
set_option maxRecDepth 100000 in
theorem btreeSwaps_facts : joinedFacts Tryz.pinned.checked.prog 13 Tryz.f13 (OpenSpec.ofChange Rows.btreeSwapsSpec).bare Rows.btreeSwapsRow = true := by
 unfold joinedFacts
 repeat' (with_reducible apply and2)
 all_goals as_aux_lemma => kernel_rfl
theorem btreeSwaps_said : Rows.BtreeSwapsSaid :=
 OpenClaim.holds_of_cond 13 Tryz.f13 rfl rfl rfl rfl rfl rfl rfl ⟨rfl, rfl, rfl, rfl, rfl⟩ rfl rfl rfl rfl rfl (by kernel_rfl) Tryz.func13 btreeSwaps_facts
  (of_decide_eq_true (by kernel_rfl)) (by unfold Func.isWrapper; first | (rw [if_pos (by decide +kernel)]; kernel_rfl) | (rw [if_neg (by decide +kernel)]; exact ⟨rfl, rfl⟩))
  (fun os started H enc _ F => by rw [OpenClaim.pre_eq_preRow]; exact btreeSwaps_lifted os started H enc F)
theorem btreeSwaps_plain (f : FuncId) (fn : Func) (hf : Tryz.pinned.checked.prog.funcNamed "portage/portagelaw12.BtreeSwaps" = some f) (hfn : Tryz.pinned.checked.prog.funcs[f]? = some fn) :
  true = Tryz.pinned.checked.prog.looks [] /\ ∀ (j : Nat) t, fn.params[j]? = some t -> Tryz.pinned.checked.prog.wantsStandIn t = false := by
 obtain rfl : f = 13 := Option.some.inj ((show Tryz.prog.funcNamed "portage/portagelaw12.BtreeSwaps" = some 13 by kernel_rfl).symm.trans hf) |>.symm
 obtain rfl : fn = Tryz.f13 := (Option.some.inj (Tryz.func13.symm.trans hfn)).symm
 refine ⟨by kernel_rfl, fun j t ht => ?_⟩
 rw [Tryz.params13] at ht
 obtain rfl : t = 112 := by simpa using Array.mem_of_getElem? ht
 exact (show Tryz.prog.wantsStandIn 112 = false by kernel_rfl)
theorem btreeSwaps_card : Rows.BtreeSwapsCardSaid :=
 Claim7.holds_tied_plain_at .later [] _ _ _ _ btreeSwaps_said (fun _ h => by cases h) (by kernel_rfl) (fun _ h => by cases h) btreeSwaps_row_tie rfl ⟨rfl, rfl⟩ (by kernel_rfl) rfl btreeSwaps_plain (by kernel_rfl)
end Go.Proofs.YtgbgneiciabidaaGreatDoor
