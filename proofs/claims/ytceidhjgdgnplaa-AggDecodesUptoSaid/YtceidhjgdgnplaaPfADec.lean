/-
  AggDecodes: whatever bytes come in, the windows or the error that Decode tells is the document's; the argument reads behind the call as it read before.
  Conditions: what comes in is of bulk at most 1048576 (the Upto statement).
-/
import Derived.Test.YtceidhjgdgnplaaRows
import Derived.Test.YtceidhjgdgnplaaBulk
import Derived.Test.YtceidhjgdgnplaaLawADec
import Derived.Test.YtceidhjgdgnplaaFrame
import Derived.JoinedCond
namespace Go.Proofs.Ytceidhjgdgnplaa
set_option linter.unusedVariables false
set_option linter.unusedSimpArgs false
open Go.ChangeShapes Go.WideShapes Go.ChangeAt Go.RowKit
open Go.ChangeMaps (open_string)

theorem aggDecodes_calls (H : Type) (enc : TypeId × Value → H) (W : World) (base : Nat) (args : Array Value) (ds gs : List (DataW H)) (before : List MemPlace)
    (hval : ∀ (j : Nat) t v, Try.f10.params[j]? = some t → args[j]? = some v → Value.okWide Try.prog W .any base t v)
    (hW : DataW.Whole enc Try.prog Try.f10.params.toList Rows.aggDecodesSpec.vars false W args.toList ds gs before) (hk : Rows.uptoSmall H (ds ++ gs) = true) :
    Calls Try.prog 10 args W fun e W' => ∃ v, e = .returned v ∧ Rows.aggDecodesSpec.post enc Try.prog Try.f10 false true false false W args v W' := by
  have hW' := hW
  obtain ⟨p, q, hA0, hV, rfl, _, _⟩ := hW
  have hA : DataW.TrodAll enc Try.prog W 0 (fun _ => true) true Try.f10.params.toList args.toList ds p := hA0
  rw [Try.params10] at hA hval
  obtain ⟨v0, d0, rfl, rfl, h0⟩ := trodAll_one hA
  obtain ⟨rfl, rfl⟩ := trodVars_none hV
  obtain ⟨s, rfl, rfl, rfl, hmax⟩ := open_string Try.underlying9 (hval 0 9 v0 rfl rfl) h0
  have hs : s.size ≤ 1048576 := by
    have := bulk_string hk (List.mem_append_left _ (List.mem_cons_self ..))
    have e : s.data.toList.length = s.size := by rw [Array.length_toList]; rfl
    omega
  refine (adec_walk s hs W).mono fun e W' ⟨he, hb⟩ => ?_
  subst he
  exact ⟨_, rfl, law_post Try.laidOut rfl Try.underlying4 (by kernel_rfl) rfl hW' rfl hb.below_nil⟩

set_option maxRecDepth 100000 in
theorem aggDecodes_lifted (os : Os) (started : os.Started) (H : Type) (enc : TypeId × Value → H) (F : Stop.Interp) :
    ReturnsInHanded {} Try.checked os 10 .any ((Rows.OpenSpec.upto Rows.aggDecodesSpec).pre6 enc Try.prog Try.f10 Rows.aggDecodesUptoRow.domain false) (((Rows.OpenSpec.upto Rows.aggDecodesSpec).at F).post enc Try.prog Try.f10 false true false false) := by
  refine returnsInHanded_of_cond (C := Try.checked) (s := Rows.OpenSpec.upto Rows.aggDecodesSpec) (k := Rows.uptoSmall) rfl Try.own started (by kernel_rfl) Try.func10
    (OpenSpec.witness (enc := enc) (C := Try.checked) (s := Rows.OpenSpec.upto Rows.aggDecodesSpec) (k := Rows.uptoSmall) rfl false ⟨#[], #[.string .empty], []⟩ 8 (by kernel_rfl) (by kernel_rfl) (by kernel_rfl)
      (x := ([.lit (.string [])], [], [])) (by kernel_rfl) rfl (by kernel_rfl)) ?_
  intro W base args ds gs before hval hW _ hk _
  exact aggDecodes_calls H enc W base args ds gs before hval hW hk

theorem aggDecodes_holds : Rows.AggDecodesUptoSaid :=
  OpenClaim.holds_of_cond 10 Try.f10 rfl rfl rfl rfl rfl rfl rfl ⟨rfl, rfl, rfl, rfl, rfl⟩ rfl rfl rfl rfl rfl (by kernel_rfl) Try.func10 (by kernel_rfl)
    (of_decide_eq_true (by kernel_rfl)) (by unfold Func.isWrapper; first | (rw [if_pos (by decide +kernel)]; kernel_rfl) | (rw [if_neg (by decide +kernel)]; exact ⟨rfl, rfl⟩))
    (fun os started H enc _ F => aggDecodes_lifted os started H enc F)

end Go.Proofs.Ytceidhjgdgnplaa
