/-
  The contracts of Count, Last, Bytes of a chunk.
-/
import Derived.Test.YtdnllmibchmnnaaDoorAps
import Derived.Test.YtdnllmibchmnnaaDoorQui
import Derived.Test.YtdnllmibchmnnaaDoorUint
import Derived.Laws.ResultCell
namespace Go.Proofs.YtdnllmibchmnnaaDoor
set_option linter.unusedVariables false
set_option linter.unusedSimpArgs false
open Go.RowKit Go.BigFrame

set_option maxHeartbeats 400000 in
theorem count_any (g : Nat) (v : Value) (c : Ck) (w : World) (hC : ChAt w g v c) :
    Calls Tryd.prog 19 #[.pointer (some ⟨g, 0, none⟩)] w fun e w' => e = .returned (.int .i64 (c.n : Int)) ∧ w = w' := by
  have x2 : w.cell? ⟨g, 2, none⟩ = some (.int .i64 (c.n : Int)) := hC.blk.cell 2
  go_enter Tryd.func19, Tryd.ntmps19
  go_wp2
  go_ret
  exact ⟨rfl, rfl⟩

set_option maxHeartbeats 400000 in
theorem count_nil (w : World) :
    Calls Tryd.prog 19 #[.pointer none] w fun e w' => e = .returned (.int .i64 0) ∧ w = w' := by
  go_enter Tryd.func19, Tryd.ntmps19
  go_wp2
  go_ret
  exact ⟨rfl, rfl⟩

/-- The last sample, and whether there is one. -/
def lastV (c : Ck) : Value := if c.n = 0 then .tuple #[.agg #[.int .i64 0, .int .u64 0], .bool false] else .tuple #[.agg #[.int .i64 c.t, .int .u64 (c.v : Int)], .bool true]

theorem results_cell2 {P : Program} {fn : Func} {p u : Tmp} {ty : TypeId} (h : fn.results = #[.cell p ty, .tmp u]) (tmps : Array Value) (w : World) (g : Nat) (t : TypeId) (cs : Array Value) (fr : Nat × Nat) (d : TypeDesc) (x : Value)
    (hp : tmps.getD p undef = .pointer (some ⟨g, 0, none⟩)) (hx : tmps.getD u undef = x) (hg : w.heap[g]? = some (.cells cs t fr))
    (hu : P.underlying ty = some d) (hd : (match d with | .struct _ | .array _ _ => true | _ => false) = true) (hi : (P.info? ty).map (·.size) = some cs.size) :
    (results fn tmps).run P w = .ok (.tuple #[.agg cs, x]) w := by
  rw [results_cell_tmp h, hp, hx]
  simp [asAddr, Result.andThen, run_loadVar_row w g t ty cs fr d hg hu hd hi]

set_option maxRecDepth 100000 in
set_option maxHeartbeats 1000000 in
theorem last_any (g : Nat) (v : Value) (c : Ck) (w : World) (hC : ChAt w g v c) :
    Calls Tryd.prog 18 #[.pointer (some ⟨g, 0, none⟩)] w fun e w' => e = .returned (lastV c) ∧ Frm [] w w' := by
  have hc := fun W h => count_any g v c W h
  have f3 := hC.blk.cell 3
  have f4 := hC.blk.cell 4
  have x3 : w.cell? ⟨g, 3, none⟩ = some (.int .i64 c.t) := f3
  have x4 : w.cell? ⟨g, 4, none⟩ = some (.int .u64 (c.v : Int)) := f4
  have hb := hC.blk.lt
  clear f3 f4
  by_cases h0 : c.n = 0
  · have hl : lastV c = .tuple #[.agg #[.int .i64 0, .int .u64 0], .bool false] := by unfold lastV; rw [if_pos h0]
    rw [hl]
    go_enter Tryd.func18, Tryd.ntmps18
    go_wp2_with fail
    refine (hc _ (hC.quiet ((Frm.refl [] _).alloc _))).mono ?_
    rintro e w1 ⟨rfl, rfl⟩
    rw [h0]
    go_wp2_with fail
    refine bodyPost_ret (results_cell2 rfl _ _ w.heap.size 37 #[.int .i64 0, .int .u64 0] (0, 0) _ (.bool false) rfl rfl (Blk.new w 37 #[.int .i64 0, .int .u64 0]) Tryd.underlying37 rfl (by kernel_rfl)) rfl ?_
    exact ⟨rfl, (Frm.refl _ _).alloc _⟩
  · have hl : lastV c = .tuple #[.agg #[.int .i64 c.t, .int .u64 (c.v : Int)], .bool true] := by unfold lastV; rw [if_neg h0]
    rw [hl]
    have h1 : (((c.n : Nat) : Int) == 0) = false := by rw [beq_eq_false_iff_ne]; omega
    clear h0 hl
    go_enter Tryd.func18, Tryd.ntmps18
    go_wp2_with fail
    refine (hc _ (hC.quiet ((Frm.refl [] _).alloc _))).mono ?_
    rintro e w1 ⟨rfl, rfl⟩
    go_wp2_with fail
    refine bodyPost_ret (results_cell2 rfl _ _ w.heap.size 37 #[.int .i64 c.t, .int .u64 (c.v : Int)] (0, 0) _ (.bool true) rfl rfl (Blk.new w 37 #[.int .i64 c.t, .int .u64 (c.v : Int)]) Tryd.underlying37 rfl (by kernel_rfl)) rfl ?_
    exact ⟨rfl, (Frm.refl _ _).alloc _⟩

/-- The bytes of a chunk. -/
def ckB (c : Ck) : List Nat := uintB c.n ++ pack c.bits

set_option maxRecDepth 100000 in
set_option maxHeartbeats 1000000 in
theorem ckbytes_any (g : Nat) (v : Value) (c : Ck) (hn : c.n < 1000000) (hl : c.bits.length ≤ 1000000) (w : World) (hC : ChAt w g v c) :
    Calls Tryd.prog 20 #[.pointer (some ⟨g, 0, none⟩)] w fun e w' => e = .returned (.string (bstr (ckB c))) ∧ Frm [] w w' := by
  have hu : ∀ (u : Wd w) X, X = (c.n : Int) → Calls Tryd.prog 30 #[.int .u64 X] u.w1 fun e w' => e = .returned (.string (bstr (uintB c.n))) ∧ Frm [] u.w1 w' := fun u X hX => uint_any c.n X hX (by omega) u.w1
  have hb : ∀ (u : Wd w), Calls Tryd.prog 31 #[.pointer (some ⟨g, 0, none⟩)] u.w1 fun e w' => e = .returned (.string (bstr (pack c.bits))) ∧ u.w1 = w' := fun u => wbytes_any u.w1 (WriterAt.quiet hC u.frm)
  have x2 : ∀ (u : Wd w), u.w1.cell? ⟨g, 2, none⟩ = some (.int .i64 (c.n : Int)) := fun u => (WriterAt.quiet hC u.frm).blk.cell 2
  have hsz : ¬ 9223372036854775807 < (bstr (uintB c.n)).size + (bstr (pack c.bits)).size := by
    have h1 := uintB_le c.n
    have h2 := pack_length c.bits
    rw [bstr_size, bstr_size]
    omega
  have hwr : IntKind.wrap .u64 (c.n : Int) = (c.n : Int) := by rw [IntKind.wrap_u64]; omega
  go_enter Tryd.func20, Tryd.ntmps20
  go_wp2_with fail
  refine wp_region_frm (by kernel_rfl) (by kernel_rfl) ?_
  repeat (go_big_quiet_step (first | (go_at_call 30; exact calls_frm (hu _ _ rfl)) | (go_at_call 31; exact calls_frm_same (hb _))))
  refine wpQuiet_nil ?_
  rintro _ ⟨u, rfl⟩
  go_wp2_with fail
  go_ret
  exact ⟨by unfold ckB; rw [bstr_append]; rfl, u.frm⟩

end Go.Proofs.YtdnllmibchmnnaaDoor
