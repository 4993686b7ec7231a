/-
  BitsReads: whatever bytes are read in whatever pieces, each piece is the document's number, and a piece that is too long takes nothing; the arguments read behind the call as they read before.
  Conditions: what comes in is of bulk at most 1048576 (the Upto statement).
-/
import Derived.Test.YtceidhjgdgnplaaRows
import Derived.Test.YtceidhjgdgnplaaBulk
import Derived.Test.YtceidhjgdgnplaaLawReads
import Derived.JoinedCond
namespace Go.Proofs.Ytceidhjgdgnplaa
open Go.ChangeShapes Go.WideShapes Go.ChangeAt Go.RowKit
open Go.ChangeMaps (open_string)

theorem Try.cellsInt : Try.prog.cellsOf 3 = 1 := by kernel_rfl

theorem open_intslice {H : Type} {enc : TypeId × Value → H} {w : World} {b0 : Nat} {v : Value} {d : DataW H} {p : List MemPlace}
    (hv : Value.okWide Try.prog w .any b0 42 v) (h : DataW.Trod enc Try.prog w 0 (fun _ => true) true 42 v d p) :
    ∃ (A : Option Addr) (n cap : Nat) (N : Nat → Int), v = .slice A n cap ∧ CellsAt w A n 1 (fun i _ => .int .i64 (N i)) ∧ (n = 0 ∨ ∃ elems sp, d = .slice elems sp ∧ elems.length = n) := by
  obtain ⟨A, n, cap, rfl⟩ := okWide_slice Try.underlying42 hv
  obtain ⟨fuel, hf⟩ := h
  rcases open_ints Try.underlying42 Try.underlying3 Try.cellsInt hf with ⟨hcs, hx⟩ | ⟨a, len', cap', zs, hcs, _, hl, hm, hz, hx, hcell, hwz⟩
  · simp only [Value.cells, List.cons.injEq, Value.slice.injEq, and_true] at hcs
    obtain ⟨rfl, rfl, rfl⟩ := hcs
    exact ⟨none, 0, 0, fun _ => 0, rfl, fun h => absurd h (by omega), .inl rfl⟩
  · simp only [Value.cells, List.cons.injEq, Value.slice.injEq, and_true] at hcs
    obtain ⟨rfl, rfl, rfl⟩ := hcs
    simp only [if_true] at hz
    refine ⟨some a, n, cap, fun i => zs.getD i 0, rfl, fun hn => ?_, .inr ⟨_, _, (Prod.mk.inj hx).1, by simp [lits]; omega⟩⟩
    have h0 := hcell 0 (by omega)
    have hs : a.spot = none := by
      have := addr_plain h0
      unfold Addr.add at this
      simpa using this
    obtain ⟨b, off, spot⟩ := a
    simp only at hs
    subst hs
    refine ⟨b, off, rfl, ?_, fun i j hi hj => ?_⟩
    · exact World.block_lt_of_cell? w _ (by rw [add_plain'] at h0; exact h0)
    · have := hcell i (by omega)
      rw [add_plain'] at this
      obtain rfl : j = 0 := by omega
      simpa using this

theorem bitsReads_calls (H : Type) (enc : TypeId × Value → H) (W : World) (base : Nat) (args : Array Value) (ds gs : List (DataW H)) (before : List MemPlace)
    (hval : ∀ (j : Nat) t v, Try.f6.params[j]? = some t → args[j]? = some v → Value.okWide Try.prog W .any base t v)
    (hW : DataW.Whole enc Try.prog Try.f6.params.toList Rows.bitsReadsSpec.vars false W args.toList ds gs before) (hk : Rows.uptoSmall H (ds ++ gs) = true) :
    Calls Try.prog 6 args W fun e W' => ∃ v, e = .returned v ∧ Rows.bitsReadsSpec.post enc Try.prog Try.f6 false true false false W args v W' := by
  have hW' := hW
  obtain ⟨p, q, hA0, hV, rfl, _, _⟩ := hW
  have hA : DataW.TrodAll enc Try.prog W 0 (fun _ => true) true Try.f6.params.toList args.toList ds p := hA0
  rw [Try.params6] at hA hval
  obtain ⟨v0, v1, d0, d1, p0, p1, rfl, rfl, rfl, h0, h1⟩ := trodAll_two hA
  obtain ⟨rfl, rfl⟩ := trodVars_none hV
  obtain ⟨s, rfl, rfl, rfl, hmax⟩ := open_string Try.underlying9 (hval 0 9 v0 rfl rfl) h0
  obtain ⟨A, n, cap, N, rfl, hc, hd⟩ := open_intslice (hval 1 42 v1 rfl rfl) h1
  have hs : s.size ≤ 1048576 := by
    have := bulk_string hk (List.mem_append_left _ (List.mem_cons_self ..))
    have e : s.data.toList.length = s.size := by rw [Array.length_toList]; rfl
    omega
  have hn : n ≤ 1048576 := by
    rcases hd with rfl | ⟨elems, sp, rfl, rfl⟩
    · omega
    · exact bulk_slice hk (List.mem_append_left _ (List.mem_cons_of_mem _ (List.mem_cons_self ..)))
  refine (reads_walk s (by omega) A n cap N (by omega) W hc).mono fun e W' ⟨he, hb⟩ => ?_
  subst he
  exact ⟨_, rfl, law_post Try.laidOut rfl Try.underlying4 (by kernel_rfl) rfl hW' rfl hb.below_nil⟩

set_option maxRecDepth 100000 in
theorem bitsReads_lifted (os : Os) (started : os.Started) (H : Type) (enc : TypeId × Value → H) (F : Stop.Interp) :
    ReturnsInHanded {} Try.checked os 6 .any ((Rows.OpenSpec.upto Rows.bitsReadsSpec).pre6 enc Try.prog Try.f6 Rows.bitsReadsUptoRow.domain false) (((Rows.OpenSpec.upto Rows.bitsReadsSpec).at F).post enc Try.prog Try.f6 false true false false) := by
  refine returnsInHanded_of_cond (C := Try.checked) (s := Rows.OpenSpec.upto Rows.bitsReadsSpec) (k := Rows.uptoSmall) rfl Try.own started (by kernel_rfl) Try.func6
    (OpenSpec.witness (enc := enc) (C := Try.checked) (s := Rows.OpenSpec.upto Rows.bitsReadsSpec) (k := Rows.uptoSmall) rfl false ⟨#[], #[.string .empty, .slice none 0 0], []⟩ 8 (by kernel_rfl) (by kernel_rfl) (by kernel_rfl)
      (x := ([.lit (.string []), .nil], [], [])) (by kernel_rfl) rfl (by kernel_rfl)) ?_
  intro W base args ds gs before hval hW _ hk _
  exact bitsReads_calls H enc W base args ds gs before hval hW hk

theorem bitsReads_holds : Rows.BitsReadsUptoSaid :=
  OpenClaim.holds_of_cond 6 Try.f6 rfl rfl rfl rfl rfl rfl rfl ⟨rfl, rfl, rfl, rfl, rfl⟩ rfl rfl rfl rfl rfl (by kernel_rfl) Try.func6 (by kernel_rfl)
    (of_decide_eq_true (by kernel_rfl)) (by unfold Func.isWrapper; first | (rw [if_pos (by decide +kernel)]; kernel_rfl) | (rw [if_neg (by decide +kernel)]; exact ⟨rfl, rfl⟩))
    (fun os started H enc _ F => bitsReads_lifted os started H enc F)

end Go.Proofs.Ytceidhjgdgnplaa
