/-
  ChunkSteady: for every beginning, step, count and value, samples at even steps with one value take two bits each, behind the first two; the arguments read behind the call as they read before. The row, and its tied card.
  Conditions: none.
-/
import Derived.Test.YtdnllmibchmnnaaDoorDbm
import Derived.Test.YtdnllmibchmnnaaDoorLawCStd
import Derived.Lib.SmallJoins
namespace Go.Proofs.YtdnllmibchmnnaaDoor
set_option linter.unusedVariables false
set_option linter.unusedSimpArgs false
open Go.ChangeShapes Go.WideShapes Go.ChangeAt Go.RowKit
open Go.ChangeMaps (open_string)

theorem Tryd.cellsSteady : Tryd.prog.cellsOf 35 = 4 := by kernel_rfl

set_option maxRecDepth 100000 in
theorem open_steady {H : Type} {enc : TypeId × Value → H} {w : World} {b0 : Nat} {v : Value} {d : DataW H} {p : List MemPlace}
    (hv : Value.okWide Tryd.prog w .any b0 35 v) (h : DataW.Trod enc Tryd.prog w 0 (fun _ => true) true 35 v d p) :
    ∃ (P S M : Int) (V : Nat), v = .agg #[.int .i64 P, .int .i64 S, .int .i64 M, .int .u64 (V : Int)] ∧ d = .agg [.lit (.int .i64 P), .lit (.int .i64 S), .lit (.int .i64 M), .lit (.int .u64 (V : Int))] ∧
      (-9223372036854775808 ≤ P ∧ P ≤ 9223372036854775807) ∧ (-9223372036854775808 ≤ S ∧ S ≤ 9223372036854775807) ∧ (-9223372036854775808 ≤ M ∧ M ≤ 9223372036854775807) ∧ V < 18446744073709551616 := by
  obtain ⟨c0, c1, c2, c3, y0, y1, y2, y3, m, rfl, rfl, rfl, hy0, hy1, hy2, hy3⟩ := Joins.open_agg4 Tryd.underlying35 (by kernel_rfl) Tryd.cellsSteady hv h
  obtain ⟨P, e0, rfl, w0⟩ := DataW.trod_int Tryd.underlying2 hy0
  obtain ⟨S, e1, rfl, w1⟩ := DataW.trod_int Tryd.underlying3 hy1
  obtain ⟨M, e2, rfl, w2⟩ := DataW.trod_int Tryd.underlying3 hy2
  obtain ⟨V, e3, rfl, w3⟩ := DataW.trod_int Tryd.underlying33 hy3
  simp only [List.cons.injEq, and_true] at e0 e1 e2 e3
  subst e0 e1 e2 e3
  simp only [Lit.wf, Bool.and_eq_true, decide_eq_true_eq, show IntKind.u64.min = 0 from rfl, show IntKind.u64.max = 18446744073709551615 from rfl, show IntKind.i64.min = -9223372036854775808 from rfl, show IntKind.i64.max = 9223372036854775807 from rfl] at w0 w1 w2 w3
  obtain ⟨V, rfl⟩ : ∃ k : Nat, V = (k : Int) := ⟨V.toNat, by omega⟩
  exact ⟨P, S, M, V, rfl, rfl, w0, w1, w2, by omega⟩

set_option maxRecDepth 100000 in
theorem chunkSteady_calls (H : Type) (enc : TypeId × Value → H) (W : World) (base : Nat) (args : Array Value) (ds gs : List (DataW H)) (before : List MemPlace)
    (hval : ∀ (j : Nat) t v, Tryd.f4.params[j]? = some t → args[j]? = some v → Value.okWide Tryd.prog W .any base t v)
    (hW : DataW.Whole enc Tryd.prog Tryd.f4.params.toList Rows.chunkSteadySpec.vars false W args.toList ds gs before) (hsz0 : (DataW.weightsEach Tryd.prog (Tryd.f4.params.toList ++ (OpenSpec.ofChange Rows.chunkSteadySpec).bare.plain.varTypes Tryd.prog) (ds ++ gs)).all (· ≤ reachBytes) = true) (hL : laidMetH Tryd.prog Rows.chunkSteadyRow.laid W) :
    Calls Tryd.prog 4 args W fun e W' => ∃ v, e = .returned v ∧ Rows.chunkSteadySpec.post enc Tryd.prog Tryd.f4 false true false false W args v W' := by
  have hD : DbAt W := db_met hL
  have hW' := hW
  obtain ⟨p, q, hA0, hV, rfl, _, _⟩ := hW
  have hA : DataW.TrodAll enc Tryd.prog W 0 (fun _ => true) true Tryd.f4.params.toList args.toList ds p := hA0
  have hsz : (DataW.weightsEach Tryd.prog (Tryd.f4.params.toList ++ (OpenSpec.ofChange Rows.chunkSteadySpec).bare.plain.varTypes Tryd.prog) (ds ++ gs)).all (· ≤ reachBytes) = true := hsz0
  clear hsz0
  rw [Tryd.params4] at hA hval hsz
  obtain ⟨v0, d0, rfl, rfl, h0⟩ := trodAll_one hA
  obtain ⟨rfl, rfl⟩ := trodVars_none hV
  obtain ⟨P0, S0, M0, V0, rfl, rfl, hP0, hS0, hM0, hV0⟩ := open_steady (hval 0 35 v0 rfl rfl) h0
  refine (cstd_walk P0 S0 M0 V0 hP0 hS0 hM0 hV0 W hD).mono fun e W' ⟨he, hb⟩ => ?_
  subst he
  exact ⟨_, rfl, law_post Tryd.laidOut rfl Tryd.underlying4 (by kernel_rfl) rfl hW' rfl hb.below_nil⟩

theorem chunkSteady_met (os : Os) : laidMet Tryd.prog Rows.chunkSteadyRow.laid ((dbWorld os).forCall (fun _ _ => 0) ⟨#[], #[.agg #[.int .i64 0, .int .i64 0, .int .i64 0, .int .u64 0]], []⟩).memory :=
  laidMet_of_run' 8 (by kernel_rfl) (by kernel_rfl)
theorem chunkSteady_reads (os : Os) {H : Type} (enc : TypeId × Value → H) : ∃ places, DataW.whole enc Tryd.prog ((dbWorld os).forCall (fun _ _ => 0) ⟨#[], #[.agg #[.int .i64 0, .int .i64 0, .int .i64 0, .int .u64 0]], []⟩).memory Tryd.f4.params.toList Rows.chunkSteadySpec.vars false (#[.agg #[.int .i64 0, .int .i64 0, .int .i64 0, .int .u64 0]] : Array Value).toList 8 = some ([.agg [.lit (.int .i64 0), .lit (.int .i64 0), .lit (.int .i64 0), .lit (.int .u64 0)]], [], places) :=
  ⟨[], by kernel_rfl⟩

set_option maxRecDepth 100000 in
theorem chunkSteady_lifted (os : Os) (started : os.Started) (H : Type) (enc : TypeId × Value → H) (F : Stop.Interp) :
    ReturnsInHanded {} Tryd.checked os 4 .any ((OpenSpec.ofChange Rows.chunkSteadySpec).preRow enc Tryd.prog Tryd.f4 Rows.chunkSteadyRow.domain false Rows.chunkSteadyRow.laid) (((OpenSpec.ofChange Rows.chunkSteadySpec).at F).post enc Tryd.prog Tryd.f4 false true false false) := by
  obtain ⟨places, hx⟩ := chunkSteady_reads os enc
  refine returnsInHanded_of_row (C := Tryd.checked) (s := OpenSpec.ofChange Rows.chunkSteadySpec) Tryd.own started (by kernel_rfl) Tryd.func4
    (witness_row_at (enc := enc) (C := Tryd.checked) false (dbWorld os) #[.agg #[.int .i64 0, .int .i64 0, .int .i64 0, .int .u64 0]] rfl (by kernel_rfl) (by kernel_rfl) (by kernel_rfl)
      (OpenSpec.preRow_of_cond 8 hx (by kernel_rfl) (fun k hk => by cases hk) (by kernel_rfl) (chunkSteady_met os))) ?_
  intro W base args ds gs before hval hW _ _ hsz hL _ _
  exact chunkSteady_calls H enc W base args ds gs before hval hW hsz hL

theorem chunkSteady_said : Rows.ChunkSteadySaid :=
  OpenClaim.holds_of_cond 4 Tryd.f4 rfl rfl rfl rfl rfl rfl rfl ⟨rfl, rfl, rfl, rfl, rfl⟩ rfl rfl rfl rfl rfl (by kernel_rfl) Tryd.func4 (by kernel_rfl)
    (of_decide_eq_true (by kernel_rfl)) (by unfold Func.isWrapper; first | (rw [if_pos (by decide +kernel)]; kernel_rfl) | (rw [if_neg (by decide +kernel)]; exact ⟨rfl, rfl⟩))
    (fun os started H enc _ F => by rw [OpenClaim.pre_eq_preRow]; exact chunkSteady_lifted os started H enc F)

theorem chunkSteady_plain (f : FuncId) (fn : Func) (hf : Tryd.pinned.checked.prog.funcNamed "almanac/almanaclaw09.ChunkSteady" = some f) (hfn : Tryd.pinned.checked.prog.funcs[f]? = some fn) :
    true = Tryd.pinned.checked.prog.looks [] ∧ ∀ (j : Nat) t, fn.params[j]? = some t → Tryd.pinned.checked.prog.wantsStandIn t = false := by
  obtain rfl : f = 4 := Option.some.inj ((show Tryd.prog.funcNamed "almanac/almanaclaw09.ChunkSteady" = some 4 by kernel_rfl).symm.trans hf) |>.symm
  obtain rfl : fn = Tryd.f4 := (Option.some.inj (Tryd.func4.symm.trans hfn)).symm
  refine ⟨by kernel_rfl, fun j t ht => ?_⟩
  rw [Tryd.params4] at ht
  have hm := Array.mem_of_getElem? ht
  obtain rfl : t = 35 := by simpa using hm
  · exact (show Tryd.prog.wantsStandIn 35 = false by kernel_rfl)

theorem chunkSteady_card : Rows.ChunkSteadyCardSaid :=
  Claim7.holds_tied_plain_at .later [] _ _ _ _ chunkSteady_said (fun _ h => by cases h) (by kernel_rfl) (fun _ h => by cases h) chunkSteady_row_tie rfl ⟨rfl, rfl⟩ (by kernel_rfl) rfl chunkSteady_plain (by kernel_rfl)

end Go.Proofs.YtdnllmibchmnnaaDoor
