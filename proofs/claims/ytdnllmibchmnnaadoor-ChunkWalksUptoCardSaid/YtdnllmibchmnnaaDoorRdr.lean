/-
  The contract of chunk.read: the samples ahead of the first fault, and its error.
-/
import Derived.Test.YtdnllmibchmnnaaDoorRds
import Derived.Test.YtdnllmibchmnnaaDoorRdm
import Derived.Test.YtdnllmibchmnnaaDoorLws
import Derived.Recover
namespace Go.Proofs.YtdnllmibchmnnaaDoor
set_option linter.unusedVariables false
set_option linter.unusedSimpArgs false
open Go.RowKit Go.BigFrame

theorem bl_extract (s : ByteArray) (a b : Nat) : bl (s.extract a b) = ((bl s).drop a).take (b - a) := by
  simp only [bl, ByteArray.data_extract, Array.toList_extract, List.extract_eq_take_drop, List.map_take, List.map_drop]
theorem bl_from (s : ByteArray) (a : Nat) : bl (s.extract a s.size) = (bl s).drop a := by
  rw [bl_extract]
  apply List.take_of_length_le
  rw [List.length_drop, bl_length]
  exact Nat.le_refl _
theorem slice_from {P : Program} {t : TypeId} (ht : P.underlying t = some .string) (s : ByteArray) (n : Nat) (x : Int) (hx : x = n) (h : n ≤ s.size) (W : World) :
    (Instr.slice t (.string s) (some (.int .i64 x)) none none).run P W = .ok (.string (s.extract n s.size)) W := by
  subst hx
  rw [run_slice_string_l W t s ht .i64 (n : Int) (by omega) (by omega)]
  rfl

theorem assert_err (er : Int) (w : World) : (Instr.typeAssert (Value.iface 23 (.int .i64 er)) 20 23 true).run Tryd.prog w = .ok (.tuple #[.int .i64 er, .bool true]) w := by kernel_rfl
theorem assert_nil (w : World) : (Instr.typeAssert Value.nilIface 20 23 true).run Tryd.prog w = .ok (.tuple #[.int .i64 0, .bool false]) w := by kernel_rfl

set_option maxRecDepth 100000 in
/-- The deferred closure, where an error was thrown: the error is kept. -/
theorem catch_panicking (p : Addr) (x er : Int) (older : List PanicEntry) (w : World) (hc : w.cell? p = some (.int .i64 x)) (hz : w.frozen? p = false) :
    CallsD Tryd.prog 54 #[.pointer (some p)] (.panicking ({ v := .iface 23 (.int .i64 er), recovered := false } :: older)) w fun e u' w' =>
      e = .returned (.tuple #[]) ∧ u' = .panicking ({ v := .iface 23 (.int .i64 er), recovered := true } :: older) ∧ w' = w.setCell p (.int .i64 er) := by
  have h1 := assert_err er
  refine callsD_of_wpS Tryd.func54 rfl fun c₀ cs hu => ?_
  simp only [Tryd.ntmps54, List.size_toArray, List.length_cons, List.length_nil, Nat.reduceAdd, Nat.reduceSub, Array.replicate_succ, Array.replicate_zero, List.push_toArray, List.append_toArray, List.nil_append, List.cons_append]
  apply wpS_seq
  apply wpS_region
  simp [wpOpsS, go_sem, recoverD, hu, Exit.thenS, h1]
  apply wpS_seq
  apply wpS_region
  simp [wpOpsS, go_sem, Exit.thenS]
  refine wpS_cond (t := true) (by simp [Act.eval]) ?_
  simp only [if_true]
  apply wpS_region
  simp [wpOpsS, go_sem, hc, hz, bodyPostS, results, Tryd.results54]

set_option maxRecDepth 100000 in
/-- The deferred closure, where the call returns: nothing is turned. -/
theorem catch_idle (p : Addr) (w : World) :
    CallsD Tryd.prog 54 #[.pointer (some p)] .returning w fun e u' w' => e = .returned (.tuple #[]) ∧ u' = .returning ∧ w' = w := by
  have h1 := assert_nil
  refine callsD_of_wpS Tryd.func54 rfl fun c₀ cs hu => ?_
  simp only [Tryd.ntmps54, List.size_toArray, List.length_cons, List.length_nil, Nat.reduceAdd, Nat.reduceSub, Array.replicate_succ, Array.replicate_zero, List.push_toArray, List.append_toArray, List.nil_append, List.cons_append]
  apply wpS_seq
  apply wpS_region
  simp [wpOpsS, go_sem, recoverD, hu, Exit.thenS, h1]
  apply wpS_seq
  apply wpS_region
  simp [wpOpsS, go_sem, Exit.thenS]
  refine wpS_cond (t := false) (by simp [Act.eval]) ?_
  simp only [Bool.false_eq_true, if_false]
  refine wpS_of_wp (wp_skip ?_)
  cases c₀
  simp_all [bodyPostS, results, Tryd.results54]

end Go.Proofs.YtdnllmibchmnnaaDoor
