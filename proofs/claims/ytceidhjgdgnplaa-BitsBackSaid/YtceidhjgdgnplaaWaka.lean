/-
  The guard of the laws of layer 1: a writer that works.
-/
import Derived.Test.YtceidhjgdgnplaaRefb
namespace Go.Proofs.Ytceidhjgdgnplaa
open Go.RowKit

/-- The row of v, if it has one, is new from block B on. -/
def Fresh (B : Nat) (v : Value) : Prop := ∀ k, v.ownBlock = some k → B ≤ k

theorem Fresh.nil (B : Nat) : Fresh B (.slice none 0 0) := fun k hk => by simp [Value.ownBlock] at hk
theorem Fresh.grew {B : Nat} {w : World} {v v' : Value} (h : Fresh B v) (hg : Grew w v v') (hB : B ≤ w.heap.size) : Fresh B v' := by
  intro k hk
  rcases hg with hg | ⟨j, hj, hjs⟩
  · exact h k (hg ▸ hk)
  · have : j = k := by rw [hj] at hk; simpa using hk
    omega
theorem Fresh.foot {B g : Nat} {v : Value} (h : Fresh B v) (hg : B ≤ g) : ∀ x ∈ g :: v.ownBlock.toList, x ∈ ([] : List Nat) ∨ B ≤ x := by
  intro x hx
  right
  rcases List.mem_cons.1 hx with rfl | hx
  · exact hg
  · exact h x (by simpa using hx)
theorem Fresh.row {B : Nat} {v : Value} (h : Fresh B v) : ∀ x ∈ v.ownBlock.toList, x ∈ ([] : List Nat) ∨ B ≤ x := fun x hx => .inr (h x (by simpa using hx))

theorem writer_new (w : World) (t : TypeId) : WriterAt (w.alloc (.cells #[.slice none 0 0, .int .i64 0] t)) w.heap.size t [] (.slice none 0 0) [] :=
  ⟨Blk.new w t _, World.ownsRow_nil _ _ _ _⟩

theorem put_int {g t : Nat} {rest : List Value} {v : Value} {l : List Bool} (X : Int) (x : Nat) (n : Int) (hX : X = (x : Int)) (hx : x < 18446744073709551616) (hg : t ≠ 5) (hl : l.length ≤ 1125899906842624) (hl8 : (pack l).length + 9 ≤ 140737488355328) {w : World} (hw : WriterAt w g t rest v l) :
    Calls Try.prog 13 #[.pointer (some ⟨g, 0, none⟩), .int .u64 X, .int .i64 n] w fun e w' => e = .returned (.tuple #[]) ∧
      ∃ v', WriterAt w' g t rest v' (l ++ bitsOf x (wid n)) ∧ Frm (g :: v.ownBlock.toList) w w' ∧ Grew w v v' := by
  subst hX
  exact put_any g t rest v l x n hx hg hl hl8 w hw

theorem wake_bytes : ((bstr (pack (bitsOf 5 (wid 3) ++ bitsOf 255 (wid 2)))).toList == [184]) = true := by decide +kernel

set_option maxHeartbeats 400000 in
theorem waka_any (w : World) :
    Calls Try.prog 18 #[] w fun e w' => e = .returned (.bool true) ∧ Frm [] w w' := by
  go_enter Try.func18, Try.ntmps18
  go_wp2_with fail
  refine (put_int 5 5 3 rfl (by decide) (by decide) (by decide) (by decide) (writer_new w _)).mono ?_
  rintro e w1 ⟨rfl, v1, hw1, hf1, hg1⟩
  go_wp2_with fail
  refine (put_int 255 255 2 rfl (by decide) (by decide) (by decide) (by decide) hw1).mono ?_
  rintro e w2 ⟨rfl, v2, hw2, hf2, hg2⟩
  go_wp2_with (first | (go_at_call 15; refine (wlen_any _ hw2).mono ?_; rintro e w' ⟨rfl, rfl⟩) | (go_at_call 16; refine (wbytes_any _ hw2).mono ?_; rintro e w' ⟨rfl, rfl⟩))
  go_ret
  have k0 : Frm [] w (w.alloc (.cells #[.slice none 0 0, .int .i64 0] 26)) := (Frm.refl _ _).alloc _
  have k1 := k0.trans hf1 (Fresh.foot (Fresh.nil _) (Nat.le_refl _))
  exact ⟨congrArg (fun b => Ending.returned (.bool b)) wake_bytes, k1.trans hf2 (Fresh.foot ((Fresh.nil _).grew hg1 k0.size) (Nat.le_refl _))⟩

end Go.Proofs.Ytceidhjgdgnplaa
