/-
  ChunkOne: for all bytes, those that are taken are the one form of their samples, whose times rise; the arguments read behind the call as they read before. The row, and its tied card.
  Conditions: none.
-/
import Derived.Test.YtdnllmibchmnnaaDoorDbm
import Derived.Test.YtdnllmibchmnnaaDoorLawCOne
namespace Go.Proofs.YtdnllmibchmnnaaDoor
set_option linter.unusedVariables false
set_option linter.unusedSimpArgs false
open Go.ChangeShapes Go.WideShapes Go.ChangeAt Go.RowKit
open Go.ChangeMaps (open_string)

set_option maxRecDepth 100000 in
theorem chunkOne_calls (H : Type) (enc : TypeId × Value → H) (W : World) (base : Nat) (args : Array Value) (ds gs : List (DataW H)) (before : List MemPlace)
    (hval : ∀ (j : Nat) t v, Tryd.f8.params[j]? = some t → args[j]? = some v → Value.okWide Tryd.prog W .any base t v)
    (hW : DataW.Whole enc Tryd.prog Tryd.f8.params.toList Rows.chunkOneSpec.vars false W args.toList ds gs before) (hsz0 : (DataW.weightsEach Tryd.prog (Tryd.f8.params.toList ++ (OpenSpec.ofChange Rows.chunkOneSpec).bare.plain.varTypes Tryd.prog) (ds ++ gs)).all (· ≤ reachBytes) = true) (hL : laidMetH Tryd.prog Rows.chunkOneRow.laid W) :
    Calls Tryd.prog 8 args W fun e W' => ∃ v, e = .returned v ∧ Rows.chunkOneSpec.post enc Tryd.prog Tryd.f8 false true false false W args v W' := by
  have hD : DbAt W := db_met hL
  have hW' := hW
  obtain ⟨p, q, hA0, hV, rfl, _, _⟩ := hW
  have hA : DataW.TrodAll enc Tryd.prog W 0 (fun _ => true) true Tryd.f8.params.toList args.toList ds p := hA0
  have hsz : (DataW.weightsEach Tryd.prog (Tryd.f8.params.toList ++ (OpenSpec.ofChange Rows.chunkOneSpec).bare.plain.varTypes Tryd.prog) (ds ++ gs)).all (· ≤ reachBytes) = true := hsz0
  clear hsz0
  rw [Tryd.params8] at hA hval hsz
  obtain ⟨v0, d0, rfl, rfl, h0⟩ := trodAll_one hA
  obtain ⟨rfl, rfl⟩ := trodVars_none hV
  obtain ⟨s0, rfl, rfl, rfl, hmax0⟩ := open_string Tryd.underlying9 (hval 0 9 v0 rfl rfl) h0
  have hs0 : s0.size ≤ 140737488351232 := by
    have := sized_string hsz (j := 0) rfl rfl
    rw [bytes_size] at this
    simp only [reachBytes] at this
    omega
  refine (cone_walk s0 (by omega) W hD).mono fun e W' ⟨he, hb⟩ => ?_
  subst he
  exact ⟨_, rfl, law_post Tryd.laidOut rfl Tryd.underlying4 (by kernel_rfl) rfl hW' rfl hb.below_nil⟩

theorem chunkOne_met (os : Os) : laidMet Tryd.prog Rows.chunkOneRow.laid ((dbWorld os).forCall (fun _ _ => 0) ⟨#[], #[.string .empty], []⟩).memory :=
  laidMet_of_run' 8 (by kernel_rfl) (by kernel_rfl)
theorem chunkOne_reads (os : Os) {H : Type} (enc : TypeId × Value → H) : ∃ places, DataW.whole enc Tryd.prog ((dbWorld os).forCall (fun _ _ => 0) ⟨#[], #[.string .empty], []⟩).memory Tryd.f8.params.toList Rows.chunkOneSpec.vars false (#[.string .empty] : Array Value).toList 8 = some ([.lit (.string [])], [], places) :=
  ⟨[], by kernel_rfl⟩

set_option maxRecDepth 100000 in
theorem chunkOne_lifted (os : Os) (started : os.Started) (H : Type) (enc : TypeId × Value → H) (F : Stop.Interp) :
    ReturnsInHanded {} Tryd.checked os 8 .any ((OpenSpec.ofChange Rows.chunkOneSpec).preRow enc Tryd.prog Tryd.f8 Rows.chunkOneRow.domain false Rows.chunkOneRow.laid) (((OpenSpec.ofChange Rows.chunkOneSpec).at F).post enc Tryd.prog Tryd.f8 false true false false) := by
  obtain ⟨places, hx⟩ := chunkOne_reads os enc
  refine returnsInHanded_of_row (C := Tryd.checked) (s := OpenSpec.ofChange Rows.chunkOneSpec) Tryd.own started (by kernel_rfl) Tryd.func8
    (witness_row_at (enc := enc) (C := Tryd.checked) false (dbWorld os) #[.string .empty] rfl (by kernel_rfl) (by kernel_rfl) (by kernel_rfl)
      (OpenSpec.preRow_of_cond 8 hx (by kernel_rfl) (fun k hk => by cases hk) (by kernel_rfl) (chunkOne_met os))) ?_
  intro W base args ds gs before hval hW _ _ hsz hL _ _
  exact chunkOne_calls H enc W base args ds gs before hval hW hsz hL

theorem chunkOne_said : Rows.ChunkOneSaid :=
  OpenClaim.holds_of_cond 8 Tryd.f8 rfl rfl rfl rfl rfl rfl rfl ⟨rfl, rfl, rfl, rfl, rfl⟩ rfl rfl rfl rfl rfl (by kernel_rfl) Tryd.func8 (by kernel_rfl)
    (of_decide_eq_true (by kernel_rfl)) (by unfold Func.isWrapper; first | (rw [if_pos (by decide +kernel)]; kernel_rfl) | (rw [if_neg (by decide +kernel)]; exact ⟨rfl, rfl⟩))
    (fun os started H enc _ F => by rw [OpenClaim.pre_eq_preRow]; exact chunkOne_lifted os started H enc F)

theorem chunkOne_plain (f : FuncId) (fn : Func) (hf : Tryd.pinned.checked.prog.funcNamed "almanac/almanaclaw09.ChunkOne" = some f) (hfn : Tryd.pinned.checked.prog.funcs[f]? = some fn) :
    true = Tryd.pinned.checked.prog.looks [] ∧ ∀ (j : Nat) t, fn.params[j]? = some t → Tryd.pinned.checked.prog.wantsStandIn t = false := by
  obtain rfl : f = 8 := Option.some.inj ((show Tryd.prog.funcNamed "almanac/almanaclaw09.ChunkOne" = some 8 by kernel_rfl).symm.trans hf) |>.symm
  obtain rfl : fn = Tryd.f8 := (Option.some.inj (Tryd.func8.symm.trans hfn)).symm
  refine ⟨by kernel_rfl, fun j t ht => ?_⟩
  rw [Tryd.params8] at ht
  have hm := Array.mem_of_getElem? ht
  obtain rfl : t = 9 := by simpa using hm
  · exact (show Tryd.prog.wantsStandIn 9 = false by kernel_rfl)

theorem chunkOne_card : Rows.ChunkOneCardSaid :=
  Claim7.holds_tied_plain_at .later [] _ _ _ _ chunkOne_said (fun _ h => by cases h) (by kernel_rfl) (fun _ h => by cases h) chunkOne_row_tie rfl ⟨rfl, rfl⟩ (by kernel_rfl) rfl chunkOne_plain (by kernel_rfl)

end Go.Proofs.YtdnllmibchmnnaaDoor
