/-
  ChunkDecodes: whatever bytes come in, the samples or the error is the document's; the arguments read behind the call as they read before. The row, and its tied card.
  Conditions: what comes in is of bulk at most 1048576 (the Upto statement).
-/
import Derived.Test.YtdnllmibchmnnaaDoorDbm
import Derived.Test.YtdnllmibchmnnaaDoorBulk
import Derived.Test.YtdnllmibchmnnaaDoorLawCDec
namespace Go.Proofs.YtdnllmibchmnnaaDoor
set_option linter.unusedVariables false
set_option linter.unusedSimpArgs false
open Go.ChangeShapes Go.WideShapes Go.ChangeAt Go.RowKit
open Go.ChangeMaps (open_string)

set_option maxRecDepth 100000 in
theorem chunkDecodes_calls (H : Type) (enc : TypeId × Value → H) (W : World) (base : Nat) (args : Array Value) (ds gs : List (DataW H)) (before : List MemPlace)
    (hval : ∀ (j : Nat) t v, Tryd.f7.params[j]? = some t → args[j]? = some v → Value.okWide Tryd.prog W .any base t v)
    (hW : DataW.Whole enc Tryd.prog Tryd.f7.params.toList Rows.chunkDecodesSpec.vars false W args.toList ds gs before) (hk : Rows.uptoSmall H (ds ++ gs) = true) (hL : laidMetH Tryd.prog Rows.chunkDecodesUptoRow.laid W) :
    Calls Tryd.prog 7 args W fun e W' => ∃ v, e = .returned v ∧ Rows.chunkDecodesSpec.post enc Tryd.prog Tryd.f7 false true false false W args v W' := by
  have hD : DbAt W := db_met hL
  have hW' := hW
  obtain ⟨p, q, hA0, hV, rfl, _, _⟩ := hW
  have hA : DataW.TrodAll enc Tryd.prog W 0 (fun _ => true) true Tryd.f7.params.toList args.toList ds p := hA0
  rw [Tryd.params7] at hA hval
  obtain ⟨v0, d0, rfl, rfl, h0⟩ := trodAll_one hA
  obtain ⟨rfl, rfl⟩ := trodVars_none hV
  obtain ⟨s0, rfl, rfl, rfl, hmax0⟩ := open_string Tryd.underlying9 (hval 0 9 v0 rfl rfl) h0
  have hs0 : s0.size ≤ 1048576 := by
    have := bulk_string hk (List.mem_append_left _ (List.mem_cons_self ..))
    have e : s0.data.toList.length = s0.size := by rw [Array.length_toList]; rfl
    omega
  refine (cdec_walk s0 (by omega) W hD).mono fun e W' ⟨he, hb⟩ => ?_
  subst he
  exact ⟨_, rfl, law_post Tryd.laidOut rfl Tryd.underlying4 (by kernel_rfl) rfl hW' rfl hb.below_nil⟩

theorem chunkDecodes_met (os : Os) : laidMet Tryd.prog Rows.chunkDecodesUptoRow.laid ((dbWorld os).forCall (fun _ _ => 0) ⟨#[], #[.string .empty], []⟩).memory :=
  laidMet_of_run' 8 (by kernel_rfl) (by kernel_rfl)
theorem chunkDecodes_reads (os : Os) {H : Type} (enc : TypeId × Value → H) : ∃ places, DataW.whole enc Tryd.prog ((dbWorld os).forCall (fun _ _ => 0) ⟨#[], #[.string .empty], []⟩).memory Tryd.f7.params.toList Rows.chunkDecodesSpec.vars false (#[.string .empty] : Array Value).toList 8 = some ([.lit (.string [])], [], places) :=
  ⟨[], by kernel_rfl⟩

set_option maxRecDepth 100000 in
theorem chunkDecodes_lifted (os : Os) (started : os.Started) (H : Type) (enc : TypeId × Value → H) (F : Stop.Interp) :
    ReturnsInHanded {} Tryd.checked os 7 .any ((Rows.OpenSpec.upto Rows.chunkDecodesSpec).preRow enc Tryd.prog Tryd.f7 Rows.chunkDecodesUptoRow.domain false Rows.chunkDecodesUptoRow.laid) (((Rows.OpenSpec.upto Rows.chunkDecodesSpec).at F).post enc Tryd.prog Tryd.f7 false true false false) := by
  obtain ⟨places, hx⟩ := chunkDecodes_reads os enc
  refine returnsInHanded_of_row (C := Tryd.checked) (s := Rows.OpenSpec.upto Rows.chunkDecodesSpec) Tryd.own started (by kernel_rfl) Tryd.func7
    (witness_row_at (enc := enc) (C := Tryd.checked) false (dbWorld os) #[.string .empty] rfl (by kernel_rfl) (by kernel_rfl) (by kernel_rfl)
      (OpenSpec.preRow_of_cond 8 hx (by kernel_rfl) (fun k hk => by cases hk; kernel_rfl) (by kernel_rfl) (chunkDecodes_met os))) ?_
  intro W base args ds gs before hval hW _ HK _ hL _ _
  exact chunkDecodes_calls H enc W base args ds gs before hval hW (HK _ rfl) hL

theorem chunkDecodes_said : Rows.ChunkDecodesUptoSaid :=
  OpenClaim.holds_of_cond 7 Tryd.f7 rfl rfl rfl rfl rfl rfl rfl ⟨rfl, rfl, rfl, rfl, rfl⟩ rfl rfl rfl rfl rfl (by kernel_rfl) Tryd.func7 (by kernel_rfl)
    (of_decide_eq_true (by kernel_rfl)) (by unfold Func.isWrapper; first | (rw [if_pos (by decide +kernel)]; kernel_rfl) | (rw [if_neg (by decide +kernel)]; exact ⟨rfl, rfl⟩))
    (fun os started H enc _ F => by rw [OpenClaim.pre_eq_preRow]; exact chunkDecodes_lifted os started H enc F)

theorem chunkDecodes_plain (f : FuncId) (fn : Func) (hf : Tryd.pinned.checked.prog.funcNamed "almanac/almanaclaw09.ChunkDecodes" = some f) (hfn : Tryd.pinned.checked.prog.funcs[f]? = some fn) :
    true = Tryd.pinned.checked.prog.looks [] ∧ ∀ (j : Nat) t, fn.params[j]? = some t → Tryd.pinned.checked.prog.wantsStandIn t = false := by
  obtain rfl : f = 7 := Option.some.inj ((show Tryd.prog.funcNamed "almanac/almanaclaw09.ChunkDecodes" = some 7 by kernel_rfl).symm.trans hf) |>.symm
  obtain rfl : fn = Tryd.f7 := (Option.some.inj (Tryd.func7.symm.trans hfn)).symm
  refine ⟨by kernel_rfl, fun j t ht => ?_⟩
  rw [Tryd.params7] at ht
  have hm := Array.mem_of_getElem? ht
  obtain rfl : t = 9 := by simpa using hm
  · exact (show Tryd.prog.wantsStandIn 9 = false by kernel_rfl)

theorem chunkDecodes_card : Rows.ChunkDecodesUptoCardSaid :=
  Claim7.holds_tied_plain_at .later [] _ _ _ _ chunkDecodes_said (fun _ h => by cases h) (by kernel_rfl) (fun _ h => by cases h) chunkDecodesUpto_row_tie rfl ⟨rfl, rfl⟩ (by kernel_rfl) rfl chunkDecodes_plain (by kernel_rfl)

end Go.Proofs.YtdnllmibchmnnaaDoor
