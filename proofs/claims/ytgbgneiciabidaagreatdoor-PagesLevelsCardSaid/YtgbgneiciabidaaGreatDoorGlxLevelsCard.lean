/-
  PagesLevels returns true for every input, and the input reads as it did: the card, under the row's own condition alone (the listed table of math/bits, tied to the program's text).
-/
import Derived.Test.YtgbgneiciabidaaGreatDoorGlxDoor
import Derived.Test.YtgbgneiciabidaaGreatDoorGlxLevels
namespace Go.Proofs.YtgbgneiciabidaaGreatDoor
open Go Go.ChangeShapes Go.WideShapes Go.ChangeAt Go.RowKit
set_option linter.all false

set_option maxRecDepth 100000 in
theorem pagesLevels_contract (H : Type) (enc : TypeId × Value → H) (W : World) (base : Nat) (args : Array Value) (ds gs : List (DataW H)) (before : List MemPlace)
    (hval : ∀ (j : Nat) t v, Tryz.f4.params[j]? = some t → args[j]? = some v → Value.okWide Tryz.prog W .any base t v)
    (hW : DataW.Whole enc Tryz.prog Tryz.f4.params.toList Rows.pagesLevelsSpec.vars false W args.toList ds gs before) (hL : laidMetH Tryz.prog Rows.pagesLevelsRow.laid W) :
    Calls Tryz.prog 4 args W fun e W' => ∃ v, e = .returned v ∧ Rows.pagesLevelsSpec.post enc Tryz.prog Tryz.f4 false true false false W args v W' := by
  have hW' := hW
  obtain ⟨p, q, hA0, hV, rfl, hfz, hnd⟩ := hW
  have hA : DataW.TrodAll enc Tryz.prog W 0 (fun _ => true) true Tryz.f4.params.toList args.toList ds p := hA0
  have hAk := hA
  rw [Tryz.params4] at hA hval
  obtain ⟨v0, vs0, d0, ds0, p0, q0, hargs, rfl, rfl, h0, r0⟩ := trodAll_cons hA
  obtain ⟨v1, vs1, d1, ds1, p1, q1, hargs1, rfl, rfl, h1, r1⟩ := trodAll_cons r0
  obtain ⟨rfl, rfl, rfl⟩ := trodAll_nil r1
  obtain rfl : args = #[v0, v1] := by cases args; simp_all
  obtain ⟨rfl, rfl⟩ := trodVars_none hV
  obtain ⟨u0, u1, u2, y0, y1, y2, n, rfl, rfl, _, t0, t1, t2⟩ := Joins.open_agg3 Tryz.underlying24 (by kernel_rfl) (by kernel_rfl) (hval 0 24 v0 rfl rfl) h0
  obtain ⟨lv, hu0, _, _⟩ := DataW.trod_int Tryz.underlying3 t0
  obtain rfl : u0 = .int .i64 lv := by simpa using hu0
  obtain ⟨ks, hk⟩ := src_of_trod t1
  obtain ⟨vs, hv⟩ := src_of_trod t2
  obtain ⟨level, rfl, rfl, rfl, _⟩ := open_int Tryz.underlying3 (hval 1 3 v1 rfl rfl) h1
  have hT : ∀ j, j < 64 → W.cell? ⟨0, j, none⟩ = some (.int .u8 (Lib.deBruijn64tab.getD j 0 : Nat)) := table_at hL
  have hTab : Tab [old W] := Tab.of_old hT (.head _)
  refine (law_levels ⟨lv, ks, vs⟩ level (kv := u1) (vv := u2) (Has.start W) hTab (Srcs.of_old hk (.head _)) (Srcs.of_old hv (.head _))).mono fun e W' ⟨he, hK, hh⟩ => ?_
  have hb := below_of_old hh (.head _) hK
  subst he
  exact ⟨_, rfl, post_of_below (pv := []) hW' (fun _ _ _ => trodAll_cons_mk (shut_bool Tryz.underlying4 _) trodAll_mk0) (fun sp hsp => args_again hb (by rw [Tryz.params4]; decide +kernel) hAk (fun x hx => hW'.lt x (by simpa using hx)) (fun x hx => hsp x (by simpa using hx))) (fun _ _ => rfl) (by simp)
    hb (ok_one (by kernel_rfl) rfl (okWide_bool_mk Tryz.underlying4 _))⟩

def pagesLevelsArgs : Array Value := #[.agg #[.int .i64 0, .slice none 0 0, .slice none 0 0], .int .i64 0]
set_option maxRecDepth 100000 in
theorem pagesLevels_laid (os : Os) : laidMet Tryz.prog Rows.pagesLevelsRow.laid ((laidWorld os).forCall (fun _ _ => 0) ⟨#[], pagesLevelsArgs, []⟩).memory :=
  laidMet_of_run' 8 (by kernel_rfl) (by kernel_rfl)
theorem pagesLevels_reads (os : Os) {H : Type} (enc : TypeId × Value → H) : ∃ places, DataW.whole enc Tryz.prog ((laidWorld os).forCall (fun _ _ => 0) ⟨#[], pagesLevelsArgs, []⟩).memory Tryz.f4.params.toList Rows.pagesLevelsSpec.vars false pagesLevelsArgs.toList 8 = some ([.agg [.lit (.int .i64 0), .nil, .nil], .lit (.int .i64 0)], [], places) :=
  ⟨[], by kernel_rfl⟩

set_option maxRecDepth 100000 in
theorem pagesLevels_lifted (os : Os) (started : os.Started) (H : Type) (enc : TypeId × Value → H) (F : Stop.Interp) :
    ReturnsInHanded {} Tryz.checked os 4 .any ((OpenSpec.ofChange Rows.pagesLevelsSpec).preRow enc Tryz.prog Tryz.f4 Rows.pagesLevelsRow.domain false Rows.pagesLevelsRow.laid) (((OpenSpec.ofChange Rows.pagesLevelsSpec).at F).post enc Tryz.prog Tryz.f4 false true false false) := by
  obtain ⟨places, hx⟩ := pagesLevels_reads os enc
  refine returnsInHanded_of_row (C := Tryz.checked) (s := OpenSpec.ofChange Rows.pagesLevelsSpec) Tryz.own started (by kernel_rfl) Tryz.func4
    (witness_row_at (enc := enc) (C := Tryz.checked) false (laidWorld os) pagesLevelsArgs rfl (by kernel_rfl) (by kernel_rfl) (by kernel_rfl)
      (OpenSpec.preRow_of_cond 8 hx (by kernel_rfl) (fun k hk => by cases hk) (by kernel_rfl) (pagesLevels_laid os))) ?_
  intro W base args ds gs before hval hW _ _ _ hL _ _
  exact pagesLevels_contract H enc W base args ds gs before hval hW hL

set_option maxHeartbeats 4000000 in
set_option maxRecDepth 100000 in
theorem pagesLevels_facts : joinedFacts Tryz.pinned.checked.prog 4 Tryz.f4 (OpenSpec.ofChange Rows.pagesLevelsSpec).bare Rows.pagesLevelsRow = true := by
  unfold joinedFacts
  repeat' (with_reducible apply and2)
  all_goals as_aux_lemma => kernel_rfl
theorem pagesLevels_said : Rows.PagesLevelsSaid :=
  OpenClaim.holds_of_cond 4 Tryz.f4 rfl rfl rfl rfl rfl rfl rfl ⟨rfl, rfl, rfl, rfl, rfl⟩ rfl rfl rfl rfl rfl (by kernel_rfl) Tryz.func4 pagesLevels_facts
    (of_decide_eq_true (by kernel_rfl)) (by unfold Func.isWrapper; first | (rw [if_pos (by decide +kernel)]; kernel_rfl) | (rw [if_neg (by decide +kernel)]; exact ⟨rfl, rfl⟩))
    (fun os started H enc _ F => by rw [OpenClaim.pre_eq_preRow]; exact pagesLevels_lifted os started H enc F)

theorem pagesLevels_plain (f : FuncId) (fn : Func) (hf : Tryz.pinned.checked.prog.funcNamed "portage/portagelaw11.PagesLevels" = some f) (hfn : Tryz.pinned.checked.prog.funcs[f]? = some fn) :
    true = Tryz.pinned.checked.prog.looks [] ∧ ∀ (j : Nat) t, fn.params[j]? = some t → Tryz.pinned.checked.prog.wantsStandIn t = false := by
  obtain rfl : f = 4 := Option.some.inj ((show Tryz.prog.funcNamed "portage/portagelaw11.PagesLevels" = some 4 by kernel_rfl).symm.trans hf) |>.symm
  obtain rfl : fn = Tryz.f4 := (Option.some.inj (Tryz.func4.symm.trans hfn)).symm
  refine ⟨by kernel_rfl, fun j t ht => ?_⟩
  rw [Tryz.params4] at ht
  have hc : t = 24 ∨ t = 3 := by simpa using Array.mem_of_getElem? ht
  rcases hc with rfl | rfl
  · exact (show Tryz.prog.wantsStandIn 24 = false by kernel_rfl)
  · exact (show Tryz.prog.wantsStandIn 3 = false by kernel_rfl)

/-- PagesLevels: the card. -/
theorem pagesLevels_card : Rows.PagesLevelsCardSaid :=
  Claim7.holds_tied_plain_at .later [] _ _ _ _ pagesLevels_said (fun _ h => by cases h) (by kernel_rfl) (fun _ h => by cases h) pagesLevels_row_tie rfl ⟨rfl, rfl⟩ (by kernel_rfl) rfl pagesLevels_plain (by kernel_rfl)
end Go.Proofs.YtgbgneiciabidaaGreatDoor
