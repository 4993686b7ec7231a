/-
  The contracts of the chunk reader's small steps: must, bits.
-/
import Derived.Test.YtdnllmibchmnnaaDoorRdp
import Derived.Test.YtdnllmibchmnnaaDoorTake
import Derived.Test.YtdnllmibchmnnaaDoorQui
namespace Go.Proofs.YtdnllmibchmnnaaDoor
set_option linter.unusedVariables false
set_option linter.unusedSimpArgs false
open Go.RowKit Go.BigFrame

/-- The error as it is thrown. -/
def thr (e : Int) : Ending := .panicked [{ v := .iface 23 (.int .i64 e), recovered := false }]

set_option maxHeartbeats 400000 in
theorem must_ok (r : Value) (e : Int) (w : World) :
    Calls Tryd.prog 61 #[r, .bool true, .int .i64 e] w fun x w' => x = .returned (.tuple #[]) ∧ w = w' := by
  go_enter Tryd.func61, Tryd.ntmps61
  go_wp2
  go_end0
  exact ⟨rfl, rfl⟩
set_option maxHeartbeats 400000 in
theorem must_no (r : Value) (e : Int) (w : World) :
    Calls Tryd.prog 61 #[r, .bool false, .int .i64 e] w fun x w' => x = thr e ∧ w = w' := by
  go_enter Tryd.func61, Tryd.ntmps61
  go_wp2
  exact ⟨rfl, rfl, rfl⟩

/-- A chunk's reader in block g, its bits in block h. -/
structure RdAt (w : World) (g h : Nat) (s : ByteArray) (c : Rs) : Prop where
  st : Blk w g 103 #[.pointer (some ⟨h, 0, none⟩), .slice none 0 0, .int .i64 0, .int .i64 (c.n : Int), .int .i64 c.t, .int .u64 (c.v : Int), .int .i64 c.step, .int .i64 c.lead, .int .i64 c.tail, .bool c.win]
  rd : Blk w h 108 #[.string s, .int .i64 (c.p : Int)]
  le : c.p ≤ 8 * s.size
theorem RdAt.ne {w : World} {g h : Nat} {s : ByteArray} {c : Rs} (H : RdAt w g h s c) : g ≠ h := Blk.ne_ H.st H.rd (by decide)
theorem RdAt.quiet {w w' : World} {g h : Nat} {s : ByteArray} {c : Rs} (H : RdAt w g h s c) (hf : Frm [] w w') : RdAt w' g h s c := ⟨H.st.frm hf (by simp), H.rd.frm hf (by simp), H.le⟩

/-- What a step of the reader leaves: the answer and the state, or the error. -/
def RdOut (s : ByteArray) (g h : Nat) (w : World) {α : Type} (val : α → Value) : Except Int (α × Rs) → Ending → World → Prop
  | .ok (a, c), e, w' => e = .returned (val a) ∧ RdAt w' g h s c ∧ Frm [g, h] w w'
  | .error x, e, w' => e = thr x ∧ Frm [g, h] w w'

set_option maxRecDepth 100000 in
set_option maxHeartbeats 1000000 in
theorem rbits_ok (g h : Nat) (s : ByteArray) (hs : s.size ≤ 140737488355328) (c : Rs) (k : Nat) (K : Int) (hK : K = (k : Int)) (hk : k ≤ 64) (w : World) (H : RdAt w g h s c) (hp : c.p + k ≤ 8 * s.size) :
    Calls Tryd.prog 59 #[.pointer (some ⟨g, 0, none⟩), .int .i64 K] w fun e w' => e = .returned (.int .u64 ((numOf (((unpack (bl s)).drop c.p).take k) : Nat) : Int)) ∧ RdAt w' g h s { c with p := c.p + k } ∧ Frm [h] w w' := by
  subst hK
  have hw : wid (k : Int) = k := by unfold wid; omega
  have ht := take_any h s c.p (k : Int) w H.rd hs H.le (by rw [hw]; exact hp)
  rw [hw] at ht
  have x0 : w.cell? ⟨g, 0, none⟩ = some (.pointer (some ⟨h, 0, none⟩)) := H.st.cell 0
  have hst := H.st
  have hne := H.ne
  have Hw := hide hw
  clear hw H
  unfold cut at ht
  go_enter Tryd.func59, Tryd.ntmps59
  go_wp2_with fail
  refine ht.mono ?_
  rintro e w1 ⟨rfl, hb1, hf1⟩
  clear ht x0
  go_wp2_with fail
  refine (must_ok _ _ _).mono ?_
  rintro e w' ⟨rfl, rfl⟩
  go_wp2_with fail
  go_ret
  exact ⟨rfl, ⟨hst.frm hf1 (by simpa using hne), hb1, hp⟩, hf1⟩

set_option maxRecDepth 100000 in
set_option maxHeartbeats 1000000 in
theorem rbits_no (g h : Nat) (s : ByteArray) (hs : s.size ≤ 140737488355328) (c : Rs) (k : Nat) (K : Int) (hK : K = (k : Int)) (hk : k ≤ 64) (w : World) (H : RdAt w g h s c) (hp : ¬ c.p + k ≤ 8 * s.size) :
    Calls Tryd.prog 59 #[.pointer (some ⟨g, 0, none⟩), .int .i64 K] w fun e w' => e = thr 20 ∧ Frm [] w w' := by
  subst hK
  have hw : wid (k : Int) = k := by unfold wid; omega
  have ht := take_short h s c.p (k : Int) w H.rd hs H.le (by rw [hw]; omega)
  have x0 : w.cell? ⟨g, 0, none⟩ = some (.pointer (some ⟨h, 0, none⟩)) := H.st.cell 0
  have Hw := hide hw
  clear hw H
  go_enter Tryd.func59, Tryd.ntmps59
  go_wp2_with fail
  refine ht.mono ?_
  rintro e w1 ⟨rfl, ⟨q, rfl⟩⟩
  clear ht x0
  go_wp2_with fail
  refine (must_no _ _ _).mono ?_
  rintro e w' ⟨rfl, rfl⟩
  unfold thr
  go_wp2_with fail
  exact ⟨rfl, rfl, (Frm.refl _ _).drewN _⟩

end Go.Proofs.YtdnllmibchmnnaaDoor
