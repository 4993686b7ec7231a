/-
  The contracts of the bit writer and the bit reader, but for Put.
-/
import Derived.Test.YtdnllmibchmnnaaDoorPut
namespace Go.Proofs.YtdnllmibchmnnaaDoor
set_option linter.unusedVariables false
set_option linter.unusedSimpArgs false
open Go.RowKit

section
variable {w : World} {g t : Nat} {rest : List Value} {v : Value} {l : List Bool}

set_option maxHeartbeats 400000 in
theorem wbytes_any (w : World) (h : WriterAt w g t rest v l) :
    Calls Tryd.prog 31 #[.pointer (some ⟨g, 0, none⟩)] w fun e w' => e = .returned (.string (bstr (pack l))) ∧ w = w' := by
  have h1 : w.cell? ⟨g, 0, none⟩ = some v := h.blk.cell 0
  have hc := own_string (dst := 9) Tryd.underlying40 Tryd.underlying5 Tryd.underlying9 h.own
  go_enter Tryd.func31, Tryd.ntmps31
  go_wp2
  go_ret
  exact ⟨rfl, rfl⟩

set_option maxHeartbeats 400000 in
theorem wbytes_nil (w : World) :
    Calls Tryd.prog 31 #[.pointer none] w fun e w' => e = .returned (.string (bstr [])) ∧ w = w' := by
  go_enter Tryd.func31, Tryd.ntmps31
  go_wp2
  go_ret
  exact ⟨rfl, rfl⟩

set_option maxHeartbeats 400000 in
theorem put_nil (x n : Value) (w : World) :
    Calls Tryd.prog 27 #[.pointer none, x, n] w fun e w' => e = .returned (.tuple #[]) ∧ w = w' := by
  go_enter Tryd.func27, Tryd.ntmps27
  go_wp2
  refine bodyPost_ret (results_none rfl _ _ _) rfl ?_
  exact ⟨rfl, rfl⟩

set_option maxHeartbeats 400000 in
theorem open_any (s : ByteArray) (w : World) :
    Calls Tryd.prog 55 #[.string s] w fun e w' => e = .returned (.pointer (some ⟨w.heap.size, 0, none⟩)) ∧ w.alloc (.cells #[.string s, .int .i64 0] 108) = w' := by
  go_enter Tryd.func55, Tryd.ntmps55
  go_wp2
  go_ret
  exact ⟨rfl, rfl⟩

set_option maxHeartbeats 400000 in
theorem left_nil (w : World) :
    Calls Tryd.prog 65 #[.pointer none] w fun e w' => e = .returned (.int .i64 0) ∧ w = w' := by
  go_enter Tryd.func65, Tryd.ntmps65
  go_wp2
  go_ret
  exact ⟨rfl, rfl⟩

set_option maxHeartbeats 400000 in
theorem left_any (g : Nat) (s : ByteArray) (n : Nat) (w : World) (h : Blk w g 108 #[.string s, .int .i64 (n : Int)]) (hs : s.size ≤ 140737488355328) (hn : n ≤ 8 * s.size) :
    Calls Tryd.prog 65 #[.pointer (some ⟨g, 0, none⟩)] w fun e w' => e = .returned (.int .i64 ((8 * s.size - n : Nat) : Int)) ∧ ∃ k, w' = w.drewN k := by
  have h0 : w.cell? ⟨g, 0, none⟩ = some (.string s) := h.cell 0
  have h1 : w.cell? ⟨g, 1, none⟩ = some (.int .i64 (n : Int)) := h.cell 1
  go_enter Tryd.func65, Tryd.ntmps65
  go_wp2
  go_quiet (fail)
  go_wp2
  go_ret
  exact ⟨ret_int (by omega), _, rfl⟩
end

end Go.Proofs.YtdnllmibchmnnaaDoor
