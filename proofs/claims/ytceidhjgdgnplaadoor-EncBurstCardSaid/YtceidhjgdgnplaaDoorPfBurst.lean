/-
  EncBurst: whichever of 32 neighbouring bits of a sealed text, or of a frame's payload and sum, are turned, the sum tells it; the arguments read behind the call as they read before. The row, and its tied card.
  Conditions: none.
-/
import Derived.Test.YtceidhjgdgnplaaDoorEnc
import Derived.Test.YtceidhjgdgnplaaDoorLawBurst
import Derived.Lib.SmallJoins
namespace Go.Proofs.YtceidhjgdgnplaaDoor
set_option linter.unusedVariables false
set_option linter.unusedSimpArgs false
open Go.ChangeShapes Go.WideShapes Go.ChangeAt Go.RowKit
open Go.ChangeMaps (open_string)

theorem Tryd.cellsBurst : Tryd.prog.cellsOf 55 = 3 := by kernel_rfl

set_option maxRecDepth 100000 in
theorem open_burst {H : Type} {enc : TypeId × Value → H} {w : World} {b0 : Nat} {v : Value} {d : DataW H} {p : List MemPlace}
    (hv : Value.okWide Tryd.prog w .any b0 55 v) (h : DataW.Trod enc Tryd.prog w 0 (fun _ => true) true 55 v d p) :
    ∃ (T : ByteArray) (N : Int) (M : Nat), v = .agg #[.string T, .int .i64 N, .int .u32 (M : Int)] ∧ d = .agg [.lit (.string T.data.toList), .lit (.int .i64 N), .lit (.int .u32 (M : Int))] ∧ -9223372036854775808 ≤ N ∧ N ≤ 9223372036854775807 ∧ M < 4294967296 := by
  obtain ⟨c0, c1, c2, y0, y1, y2, m, rfl, rfl, rfl, hy0, hy1, hy2⟩ := Joins.open_agg3 Tryd.underlying55 (by kernel_rfl) Tryd.cellsBurst hv h
  obtain ⟨T, e0, rfl, _⟩ := DataW.trod_string Tryd.underlying9 hy0
  obtain ⟨N, e1, rfl, w1⟩ := DataW.trod_int Tryd.underlying3 hy1
  obtain ⟨M, e2, rfl, w2⟩ := DataW.trod_int Tryd.underlying24 hy2
  simp only [List.cons.injEq, and_true] at e0 e1 e2
  subst e0 e1 e2
  simp only [Lit.wf, Bool.and_eq_true, decide_eq_true_eq, show IntKind.u32.min = 0 from rfl, show IntKind.u32.max = 4294967295 from rfl, show IntKind.i64.min = -9223372036854775808 from rfl, show IntKind.i64.max = 9223372036854775807 from rfl] at w1 w2
  obtain ⟨M, rfl⟩ : ∃ k : Nat, M = (k : Int) := ⟨M.toNat, by omega⟩
  exact ⟨T, N, M, rfl, rfl, by omega, by omega, by omega⟩

set_option maxRecDepth 100000 in
theorem burst_reach {H : Type} {ts : List TypeId} {ds : List (DataW H)} (h : (DataW.weightsEach Tryd.prog ts ds).all (· ≤ reachBytes) = true) {j : Nat} {T : ByteArray} {x y : DataW H} (ht : ts[j]? = some 55) (hd : ds[j]? = some (.agg [.lit (.string T.data.toList), x, y])) : T.size ≤ 140737488351232 := by
  have := List.all_eq_true.1 h _ (DataW.weights_mem_each ht hd (T.data.toList.length) (by simp only [DataW.weights, Tryd.underlying55, List.map_cons, DataW.weightsEach, List.mem_append, List.mem_singleton, true_or]))
  rw [bytes_size] at this
  simp only [reachBytes] at this
  exact of_decide_eq_true this

set_option maxRecDepth 100000 in
theorem encBurst_calls (H : Type) (enc : TypeId × Value → H) (W : World) (base : Nat) (args : Array Value) (ds gs : List (DataW H)) (before : List MemPlace)
    (hval : ∀ (j : Nat) t v, Tryd.f10.params[j]? = some t → args[j]? = some v → Value.okWide Tryd.prog W .any base t v)
    (hW : DataW.Whole enc Tryd.prog Tryd.f10.params.toList Rows.encBurstSpec.vars false W args.toList ds gs before) (hsz0 : (DataW.weightsEach Tryd.prog (Tryd.f10.params.toList ++ (OpenSpec.ofChange Rows.encBurstSpec).bare.plain.varTypes Tryd.prog) (ds ++ gs)).all (· ≤ reachBytes) = true) (hL : laidMetH Tryd.prog Rows.encBurstRow.laid W) :
    Calls Tryd.prog 10 args W fun e W' => ∃ v, e = .returned v ∧ Rows.encBurstSpec.post enc Tryd.prog Tryd.f10 false true false false W args v W' := by
  have hN : NibAt W := nib_met hL
  have hW' := hW
  obtain ⟨p, q, hA0, hV, rfl, _, _⟩ := hW
  have hA : DataW.TrodAll enc Tryd.prog W 0 (fun _ => true) true Tryd.f10.params.toList args.toList ds p := hA0
  have hsz : (DataW.weightsEach Tryd.prog (Tryd.f10.params.toList ++ (OpenSpec.ofChange Rows.encBurstSpec).bare.plain.varTypes Tryd.prog) (ds ++ gs)).all (· ≤ reachBytes) = true := hsz0
  clear hsz0
  rw [Tryd.params10] at hA hval hsz
  obtain ⟨v0, d0, rfl, rfl, h0⟩ := trodAll_one hA
  obtain ⟨rfl, rfl⟩ := trodVars_none hV
  obtain ⟨T0, N0, M0, rfl, rfl, hN10, hN20, hM0⟩ := open_burst (hval 0 55 v0 rfl rfl) h0
  have hT0 := burst_reach hsz (j := 0) rfl rfl
  refine (burst_walk T0 (by omega) N0 hN10 hN20 M0 hM0 W hN).mono fun e W' ⟨he, hb⟩ => ?_
  subst he
  exact ⟨_, rfl, law_post Tryd.laidOut rfl Tryd.underlying4 (by kernel_rfl) rfl hW' rfl hb.below_nil⟩

theorem encBurst_met (os : Os) : laidMet Tryd.prog Rows.encBurstRow.laid ((nibWorld os).forCall (fun _ _ => 0) ⟨#[], #[.agg #[.string .empty, .int .i64 0, .int .u32 0]], []⟩).memory :=
  laidMet_of_run' 8 (by kernel_rfl) (by kernel_rfl)
theorem encBurst_reads (os : Os) {H : Type} (enc : TypeId × Value → H) : ∃ places, DataW.whole enc Tryd.prog ((nibWorld os).forCall (fun _ _ => 0) ⟨#[], #[.agg #[.string .empty, .int .i64 0, .int .u32 0]], []⟩).memory Tryd.f10.params.toList Rows.encBurstSpec.vars false (#[.agg #[.string .empty, .int .i64 0, .int .u32 0]] : Array Value).toList 8 = some ([.agg [.lit (.string []), .lit (.int .i64 0), .lit (.int .u32 0)]], [], places) :=
  ⟨[], by kernel_rfl⟩

set_option maxRecDepth 100000 in
theorem encBurst_lifted (os : Os) (started : os.Started) (H : Type) (enc : TypeId × Value → H) (F : Stop.Interp) :
    ReturnsInHanded {} Tryd.checked os 10 .any ((OpenSpec.ofChange Rows.encBurstSpec).preRow enc Tryd.prog Tryd.f10 Rows.encBurstRow.domain false Rows.encBurstRow.laid) (((OpenSpec.ofChange Rows.encBurstSpec).at F).post enc Tryd.prog Tryd.f10 false true false false) := by
  obtain ⟨places, hx⟩ := encBurst_reads os enc
  refine returnsInHanded_of_row (C := Tryd.checked) (s := OpenSpec.ofChange Rows.encBurstSpec) Tryd.own started (by kernel_rfl) Tryd.func10
    (witness_row_at (enc := enc) (C := Tryd.checked) false (nibWorld os) #[.agg #[.string .empty, .int .i64 0, .int .u32 0]] rfl (by kernel_rfl) (by kernel_rfl) (by kernel_rfl)
      (OpenSpec.preRow_of_cond 8 hx (by kernel_rfl) (fun k hk => by cases hk) (by kernel_rfl) (encBurst_met os))) ?_
  intro W base args ds gs before hval hW _ _ hsz hL _ _
  exact encBurst_calls H enc W base args ds gs before hval hW hsz hL

theorem encBurst_said : Rows.EncBurstSaid :=
  OpenClaim.holds_of_cond 10 Tryd.f10 rfl rfl rfl rfl rfl rfl rfl ⟨rfl, rfl, rfl, rfl, rfl⟩ rfl rfl rfl rfl rfl (by kernel_rfl) Tryd.func10 (by kernel_rfl)
    (of_decide_eq_true (by kernel_rfl)) (by unfold Func.isWrapper; first | (rw [if_pos (by decide +kernel)]; kernel_rfl) | (rw [if_neg (by decide +kernel)]; exact ⟨rfl, rfl⟩))
    (fun os started H enc _ F => by rw [OpenClaim.pre_eq_preRow]; exact encBurst_lifted os started H enc F)

theorem encBurst_plain (f : FuncId) (fn : Func) (hf : Tryd.pinned.checked.prog.funcNamed "almanac/almanaclaw02.EncBurst" = some f) (hfn : Tryd.pinned.checked.prog.funcs[f]? = some fn) :
    true = Tryd.pinned.checked.prog.looks [] ∧ ∀ (j : Nat) t, fn.params[j]? = some t → Tryd.pinned.checked.prog.wantsStandIn t = false := by
  obtain rfl : f = 10 := Option.some.inj ((show Tryd.prog.funcNamed "almanac/almanaclaw02.EncBurst" = some 10 by kernel_rfl).symm.trans hf) |>.symm
  obtain rfl : fn = Tryd.f10 := (Option.some.inj (Tryd.func10.symm.trans hfn)).symm
  refine ⟨by kernel_rfl, fun j t ht => ?_⟩
  rw [Tryd.params10] at ht
  have hm := Array.mem_of_getElem? ht
  obtain rfl : t = 55 := by simpa using hm
  · exact (show Tryd.prog.wantsStandIn 55 = false by kernel_rfl)

theorem encBurst_card : Rows.EncBurstCardSaid :=
  Claim7.holds_tied_plain_at .later [] _ _ _ _ encBurst_said (fun _ h => by cases h) (by kernel_rfl) (fun _ h => by cases h) encBurst_row_tie rfl ⟨rfl, rfl⟩ (by kernel_rfl) rfl encBurst_plain (by kernel_rfl)

end Go.Proofs.YtceidhjgdgnplaaDoor
