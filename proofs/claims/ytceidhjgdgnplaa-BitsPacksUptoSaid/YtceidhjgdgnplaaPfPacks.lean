/-
  BitsPacks: for every list of fields, the bytes and the length that the writer tells are the document's behind each field; the argument reads behind the call as it read before.
  Conditions: what comes in is of bulk at most 1048576 (the Upto statement).
-/
import Derived.Test.YtceidhjgdgnplaaRows
import Derived.Test.YtceidhjgdgnplaaBulk
import Derived.Test.YtceidhjgdgnplaaLawPacks
import Derived.JoinedCond
namespace Go.Proofs.Ytceidhjgdgnplaa
open Go.ChangeShapes Go.WideShapes Go.ChangeAt Go.RowKit

theorem bitsPacks_calls (H : Type) (enc : TypeId × Value → H) (W : World) (base : Nat) (args : Array Value) (ds gs : List (DataW H)) (before : List MemPlace)
    (hval : ∀ (j : Nat) t v, Try.f3.params[j]? = some t → args[j]? = some v → Value.okWide Try.prog W .any base t v)
    (hW : DataW.Whole enc Try.prog Try.f3.params.toList Rows.bitsPacksSpec.vars false W args.toList ds gs before) (hk : Rows.uptoSmall H (ds ++ gs) = true) :
    Calls Try.prog 3 args W fun e W' => ∃ v, e = .returned v ∧ Rows.bitsPacksSpec.post enc Try.prog Try.f3 false true false false W args v W' := by
  have hW' := hW
  obtain ⟨p, q, hA0, hV, rfl, _, _⟩ := hW
  have hA : DataW.TrodAll enc Try.prog W 0 (fun _ => true) true Try.f3.params.toList args.toList ds p := hA0
  rw [Try.params3] at hA hval
  obtain ⟨v0, d0, rfl, rfl, h0⟩ := trodAll_one hA
  obtain ⟨rfl, rfl⟩ := trodVars_none hV
  obtain ⟨A, n, cap, V, N, rfl, hc, hd⟩ := open_fields (hval 0 22 v0 rfl rfl) h0
  have hn : n ≤ 1048576 := by
    rcases hd with rfl | ⟨elems, sp, rfl, rfl⟩
    · omega
    · exact bulk_slice hk (List.mem_append_left _ (List.mem_cons_self ..))
  refine (packs_walk A n cap V N (by omega) W hc).mono fun e W' ⟨he, hb⟩ => ?_
  subst he
  exact ⟨_, rfl, law_post Try.laidOut rfl Try.underlying4 (by kernel_rfl) rfl hW' rfl hb.below_nil⟩

set_option maxRecDepth 100000 in
theorem bitsPacks_lifted (os : Os) (started : os.Started) (H : Type) (enc : TypeId × Value → H) (F : Stop.Interp) :
    ReturnsInHanded {} Try.checked os 3 .any ((Rows.OpenSpec.upto Rows.bitsPacksSpec).pre6 enc Try.prog Try.f3 Rows.bitsPacksUptoRow.domain false) (((Rows.OpenSpec.upto Rows.bitsPacksSpec).at F).post enc Try.prog Try.f3 false true false false) := by
  refine returnsInHanded_of_cond (C := Try.checked) (s := Rows.OpenSpec.upto Rows.bitsPacksSpec) (k := Rows.uptoSmall) rfl Try.own started (by kernel_rfl) Try.func3
    (OpenSpec.witness (enc := enc) (C := Try.checked) (s := Rows.OpenSpec.upto Rows.bitsPacksSpec) (k := Rows.uptoSmall) rfl false ⟨#[], #[.slice none 0 0], []⟩ 8 (by kernel_rfl) (by kernel_rfl) (by kernel_rfl)
      (x := ([.nil], [], [])) (by kernel_rfl) rfl (by kernel_rfl)) ?_
  intro W base args ds gs before hval hW _ hk _
  exact bitsPacks_calls H enc W base args ds gs before hval hW hk

theorem bitsPacks_holds : Rows.BitsPacksUptoSaid :=
  OpenClaim.holds_of_cond 3 Try.f3 rfl rfl rfl rfl rfl rfl rfl ⟨rfl, rfl, rfl, rfl, rfl⟩ rfl rfl rfl rfl rfl (by kernel_rfl) Try.func3 (by kernel_rfl)
    (of_decide_eq_true (by kernel_rfl)) (by unfold Func.isWrapper; first | (rw [if_pos (by decide +kernel)]; kernel_rfl) | (rw [if_neg (by decide +kernel)]; exact ⟨rfl, rfl⟩))
    (fun os started H enc _ F => bitsPacks_lifted os started H enc F)

end Go.Proofs.Ytceidhjgdgnplaa
