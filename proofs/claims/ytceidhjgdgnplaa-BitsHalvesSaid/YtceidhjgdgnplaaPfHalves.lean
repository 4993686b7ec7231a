/-
  BitsHalves: for every number, every count of its bits and every place of a cut, written in two pieces behind any first number it leaves the bytes and the length that it leaves written at once; the arguments read behind the call as they read before.
  Conditions: none.
-/
import Derived.Test.YtceidhjgdgnplaaRows
import Derived.Test.YtceidhjgdgnplaaLawHalves
import Derived.Lib.SmallJoins
namespace Go.Proofs.Ytceidhjgdgnplaa
open Go.ChangeShapes Go.WideShapes Go.ChangeAt Go.RowKit Go.Joins

theorem Try.cellsField : Try.prog.cellsOf 29 = 2 := by kernel_rfl

theorem u64_bounds {n : Int} (h : (Lit.int .u64 n).wf = true) : ∃ m : Nat, n = (m : Int) ∧ m < 18446744073709551616 := by
  have a0 : IntKind.u64.min = 0 := rfl
  have a1 : IntKind.u64.max = 18446744073709551615 := rfl
  simp only [Lit.wf, Bool.and_eq_true, decide_eq_true_eq, a0, a1] at h
  exact ⟨n.toNat, by omega, by omega⟩

theorem open_field {H : Type} {enc : TypeId × Value → H} {w : World} {b0 : Nat} {v : Value} {d : DataW H} {p : List MemPlace}
    (hv : Value.okWide Try.prog w .any b0 29 v) (h : DataW.Trod enc Try.prog w 0 (fun _ => true) true 29 v d p) :
    ∃ (V : Nat) (N : Int), v = .agg #[.int .u64 (V : Int), .int .i64 N] ∧ V < 18446744073709551616 := by
  obtain ⟨c0, c1, y0, y1, m, rfl, rfl, rfl, hy0, hy1⟩ := open_agg2 Try.underlying29 (by kernel_rfl) Try.cellsField hv h
  obtain ⟨a, e0, _, wa⟩ := DataW.trod_int Try.underlying27 hy0
  obtain ⟨b, e1, _, _⟩ := DataW.trod_int Try.underlying3 hy1
  simp only [List.cons.injEq, and_true] at e0 e1
  subst e0 e1
  obtain ⟨V, rfl, hV⟩ := u64_bounds wa
  exact ⟨V, b, rfl, hV⟩

set_option maxRecDepth 100000 in
theorem bitsHalves_lifted (os : Os) (started : os.Started) (H : Type) (enc : TypeId × Value → H) :
    ReturnsInHanded {} Try.checked os 4 .any (Rows.bitsHalvesSpec.pre6 enc Try.prog Try.f4 Rows.bitsHalvesRow.domain false) (Rows.bitsHalvesSpec.post enc Try.prog Try.f4 false true false false) := by
  refine returnsInHanded_of_change (C := Try.checked) Try.own started (by kernel_rfl) Try.func4
    (ChangeSpec.witness6 (enc := enc) (C := Try.checked) false ⟨#[], #[.agg #[.int .u64 0, .int .i64 0], .agg #[.int .u64 0, .int .i64 0], .int .i64 0], []⟩ 8 (by kernel_rfl) (by kernel_rfl) (by kernel_rfl) (by kernel_rfl)) ?_
  intro W base args ds gs before hval0 hW _ _
  have hval : ∀ (j : Nat) t v, Try.f4.params[j]? = some t → args[j]? = some v → Value.okWide Try.prog W .any base t v := hval0
  clear hval0
  have hW' := hW
  obtain ⟨p, q, hA0, hV, rfl, _, _⟩ := hW
  have hA : DataW.TrodAll enc Try.prog W 0 (fun _ => true) true Try.f4.params.toList args.toList ds p := hA0
  rw [Try.params4] at hA hval
  obtain ⟨v0, v1, v2, d0, d1, d2, p0, p1, p2, rfl, rfl, rfl, h0, h1, h2⟩ := trodAll_three hA
  obtain ⟨rfl, rfl⟩ := trodVars_none hV
  obtain ⟨V0, N0, rfl, hV0⟩ := open_field (hval 0 29 v0 rfl rfl) h0
  obtain ⟨V1, N1, rfl, hV1⟩ := open_field (hval 1 29 v1 rfl rfl) h1
  obtain ⟨c, rfl, rfl, rfl, wc⟩ := open_int Try.underlying3 (hval 2 3 v2 rfl rfl) h2
  refine (halves_walk V0 V1 N0 N1 c hV0 hV1 W).mono fun e W' ⟨he, hb⟩ => ?_
  subst he
  exact ⟨_, rfl, law_post Try.laidOut rfl Try.underlying4 (by kernel_rfl) rfl hW' rfl hb.below_nil⟩

theorem bitsHalves_holds : Rows.BitsHalvesSaid :=
  OpenClaim.holds_of_wide 4 Try.f4 rfl rfl rfl rfl rfl rfl rfl ⟨rfl, rfl, rfl, rfl, rfl⟩ rfl rfl rfl rfl rfl (by kernel_rfl) Try.func4 (by kernel_rfl)
    (of_decide_eq_true (by kernel_rfl)) (by unfold Func.isWrapper; first | (rw [if_pos (by decide +kernel)]; kernel_rfl) | (rw [if_neg (by decide +kernel)]; exact ⟨rfl, rfl⟩))
    (fun os started H enc _ => bitsHalves_lifted os started H enc)

end Go.Proofs.Ytceidhjgdgnplaa
