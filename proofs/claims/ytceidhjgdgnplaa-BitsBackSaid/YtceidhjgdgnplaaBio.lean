/-
  The contracts of the bit writer and the bit reader, but for Put.
-/
import Derived.Test.YtceidhjgdgnplaaPut
namespace Go.Proofs.Ytceidhjgdgnplaa
open Go.RowKit

section
variable {w : World} {g t : Nat} {rest : List Value} {v : Value} {l : List Bool}

set_option maxHeartbeats 400000 in
theorem wlen_any (w : World) (h : WriterAt w g t rest v l) :
    Calls Try.prog 15 #[.pointer (some ⟨g, 0, none⟩)] w fun e w' => e = .returned (.int .i64 (l.length : Nat)) ∧ w = w' := by
  have h1 : w.cell? ⟨g, 1, none⟩ = some (.int .i64 (l.length : Nat)) := h.blk.cell 1
  go_enter Try.func15, Try.ntmps15
  go_wp2
  go_ret
  exact ⟨rfl, rfl⟩

set_option maxHeartbeats 400000 in
theorem wlen_nil (w : World) :
    Calls Try.prog 15 #[.pointer none] w fun e w' => e = .returned (.int .i64 0) ∧ w = w' := by
  go_enter Try.func15, Try.ntmps15
  go_wp2
  go_ret
  exact ⟨rfl, rfl⟩

set_option maxHeartbeats 400000 in
theorem wbytes_any (w : World) (h : WriterAt w g t rest v l) :
    Calls Try.prog 16 #[.pointer (some ⟨g, 0, none⟩)] w fun e w' => e = .returned (.string (bstr (pack l))) ∧ w = w' := by
  have h1 : w.cell? ⟨g, 0, none⟩ = some v := h.blk.cell 0
  have hc := own_string (dst := 9) Try.underlying24 Try.underlying5 Try.underlying9 h.own
  go_enter Try.func16, Try.ntmps16
  go_wp2
  go_ret
  exact ⟨rfl, rfl⟩

set_option maxHeartbeats 400000 in
theorem wbytes_nil (w : World) :
    Calls Try.prog 16 #[.pointer none] w fun e w' => e = .returned (.string (bstr [])) ∧ w = w' := by
  go_enter Try.func16, Try.ntmps16
  go_wp2
  go_ret
  exact ⟨rfl, rfl⟩

set_option maxHeartbeats 400000 in
theorem put_nil (x n : Value) (w : World) :
    Calls Try.prog 13 #[.pointer none, x, n] w fun e w' => e = .returned (.tuple #[]) ∧ w = w' := by
  go_enter Try.func13, Try.ntmps13
  go_wp2
  refine bodyPost_ret (results_none rfl _ _ _) rfl ?_
  exact ⟨rfl, rfl⟩

set_option maxHeartbeats 400000 in
theorem open_any (s : ByteArray) (w : World) :
    Calls Try.prog 21 #[.string s] w fun e w' => e = .returned (.pointer (some ⟨w.heap.size, 0, none⟩)) ∧ w.alloc (.cells #[.string s, .int .i64 0] 70) = w' := by
  go_enter Try.func21, Try.ntmps21
  go_wp2
  go_ret
  exact ⟨rfl, rfl⟩

set_option maxHeartbeats 400000 in
theorem left_nil (w : World) :
    Calls Try.prog 20 #[.pointer none] w fun e w' => e = .returned (.int .i64 0) ∧ w = w' := by
  go_enter Try.func20, Try.ntmps20
  go_wp2
  go_ret
  exact ⟨rfl, rfl⟩

set_option maxHeartbeats 400000 in
theorem left_any (g : Nat) (s : ByteArray) (n : Nat) (w : World) (h : Blk w g 70 #[.string s, .int .i64 (n : Int)]) (hs : s.size ≤ 140737488355328) (hn : n ≤ 8 * s.size) :
    Calls Try.prog 20 #[.pointer (some ⟨g, 0, none⟩)] w fun e w' => e = .returned (.int .i64 ((8 * s.size - n : Nat) : Int)) ∧ ∃ k, w' = w.drewN k := by
  have h0 : w.cell? ⟨g, 0, none⟩ = some (.string s) := h.cell 0
  have h1 : w.cell? ⟨g, 1, none⟩ = some (.int .i64 (n : Int)) := h.cell 1
  go_enter Try.func20, Try.ntmps20
  go_wp2
  go_quiet (fail)
  go_wp2
  go_ret
  exact ⟨ret_int (by omega), _, rfl⟩
end

end Go.Proofs.Ytceidhjgdgnplaa
