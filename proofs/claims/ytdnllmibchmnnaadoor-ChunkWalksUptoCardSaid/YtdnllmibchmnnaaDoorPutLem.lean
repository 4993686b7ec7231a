/-
  The writer's Put: what it does to the writer in memory.
-/
import Derived.Test.YtdnllmibchmnnaaDoorBase
namespace Go.Proofs.YtdnllmibchmnnaaDoor
set_option linter.unusedVariables false
set_option linter.unusedSimpArgs false
open Go.RowKit

set_option maxHeartbeats 400000 in
theorem width_any (n : Int) (w : World) :
    Calls Tryd.prog 45 #[.int .i64 n] w fun e w' => e = .returned (.int .i64 (max 0 (min n 64))) ∧ w = w' := by
  go_enter Tryd.func45, Tryd.ntmps45
  go_wp2
  all_goals
    go_ret
    exact ⟨ret_int (by omega), rfl⟩

/-- A writer lies at the head of block g; behind it the rest of the block. -/
structure WriterAt (w : World) (g : Nat) (t : TypeId) (rest : List Value) (v : Value) (l : List Bool) : Prop where
  blk : Blk w g t (.mk (v :: .int .i64 (l.length : Nat) :: rest))
  own : w.ownsRow 0 5 1 v (pack l).length (u8s (pack l))

def wid (n : Int) : Nat := (max 0 (min n 64)).toNat

theorem bit_test (x k : Nat) (hx : x < 18446744073709551616) : (bits BinOp.and IntKind.u64 ((x : Int) / 2 ^ k) 1 == 1) = x.testBit k := by
  have e : ((x : Int) / 2 ^ k) = ((x / 2 ^ k : Nat) : Int) := by simp
  have hlt : x / 2 ^ k < 18446744073709551616 := Nat.lt_of_le_of_lt (Nat.div_le_self _ _) hx
  have h := u64_and_nat (x / 2 ^ k) 1 hlt (by decide)
  rw [e, show ((1 : Int)) = ((1 : Nat) : Int) from rfl, h, nat_mask1, Nat.testBit_eq_decide_div_mod_eq]
  rcases Nat.mod_two_eq_zero_or_one (x / 2 ^ k) with h | h <;> simp [h]

theorem bitsOf_pred (x k : Nat) (hk : 0 < k) : bitsOf x k = x.testBit (k - 1) :: bitsOf x (k - 1) := by
  obtain ⟨j, rfl⟩ : ∃ j, k = j + 1 := ⟨k - 1, by omega⟩
  rfl

theorem WriterAt.drew {w : World} {g t : Nat} {rest : List Value} {v : Value} {l : List Bool} (h : WriterAt w g t rest v l) : WriterAt w.drew g t rest v l := ⟨h.1, h.2⟩

theorem or_cast (y p : Nat) (hy : y < 256) : bits BinOp.or IntKind.u8 (y : Int) (128 / 2 ^ p) = ((y ||| 128 / 2 ^ p : Nat) : Int) := by
  have e : ((128 : Int) / 2 ^ p) = ((128 / 2 ^ p : Nat) : Int) := by simp
  rw [e, u8_or_nat y (128 / 2 ^ p) hy (Nat.lt_of_le_of_lt (Nat.div_le_self _ _) (by decide))]

theorem pack_in_false (l : List Bool) (h : l.length % 8 ≠ 0) : pack (l ++ [false]) = pack l := by
  rw [pack_in l false h]
  unfold orBit
  simp only [Bool.false_eq_true, if_false]
  have hi : l.length / 8 < (pack l).length := by rw [pack_length]; omega
  rw [List.getD_eq_getElem?_getD, List.getElem?_eq_getElem hi, Option.getD_some, List.set_getElem_self]

/-- The count is written last. -/
theorem close_any {wr : World} {g t : Nat} {rest : List Value} {n0 : Value} {r m cap : Nat} {zs : List Nat} {l1 : List Bool} (hblk : Blk wr g t (.mk (.slice (some ⟨r, 0, none⟩) m cap :: n0 :: rest)))
    (hown : wr.ownsRow 0 5 1 (.slice (some ⟨r, 0, none⟩) m cap) m (u8s zs)) (hz : zs = pack l1) (hr : r ≠ g) (n1 : Int) (hn : n1 = (l1.length : Nat)) :
    WriterAt (wr.setCell ⟨g, 1, none⟩ (.int .i64 n1)) g t rest (.slice (some ⟨r, 0, none⟩) m cap) l1 := by
  subst hz hn
  refine ⟨by simpa using hblk.set_ 1 (.int .i64 (l1.length : Nat)), ?_⟩
  have hm : m = (pack l1).length := by have := hown.1; simpa [u8s] using this.symm
  subst hm
  exact ownsRow_setCell_other hown (by simpa [Value.ownBlock] using hr) _

section
variable {w wr : World} {g t r cap : Nat} {rest : List Value} {v : Value} {l' : List Bool}

theorem close_in_true (hwr : WriterAt wr g t rest (.slice (some ⟨r, 0, none⟩) (pack l').length cap) l') (hm : l'.length % 8 ≠ 0) (hr : r ≠ g) (y : Nat) (hy : (pack l').getD (l'.length / 8) 0 = y) :
    WriterAt ((wr.setCell ⟨r, l'.length / 8, none⟩ (.int .u8 (bits BinOp.or IntKind.u8 (y : Int) (128 / 2 ^ (l'.length % 8))))).setCell ⟨g, 1, none⟩ (.int .i64 ((l'.length : Int) + 1))) g t rest
      (.slice (some ⟨r, 0, none⟩) (pack l').length cap) (l' ++ [true]) := by
  have hi : l'.length / 8 < (pack l').length := by rw [pack_length]; omega
  have hy256 : y < 256 := by
    rw [← hy, List.getD_eq_getElem?_getD, List.getElem?_eq_getElem hi]
    exact pack_lt l' _ (List.getElem_mem hi)
  rw [or_cast y _ hy256]
  refine close_any (hwr.blk.far (p := ⟨r, _, none⟩) (Ne.symm hr) _) (u8s_set _ _ _ ▸ (hwr.own.stored _ _).1) ?_ hr _ (by simp)
  rw [pack_in l' true hm, hy]
  rfl

theorem close_in_false (hwr : WriterAt wr g t rest (.slice (some ⟨r, 0, none⟩) (pack l').length cap) l') (hm : l'.length % 8 ≠ 0) (hr : r ≠ g) :
    WriterAt (wr.setCell ⟨g, 1, none⟩ (.int .i64 ((l'.length : Int) + 1))) g t rest (.slice (some ⟨r, 0, none⟩) (pack l').length cap) (l' ++ [false]) :=
  close_any hwr.blk hwr.own (pack_in_false l' hm).symm hr _ (by simp)

theorem close_new_false {v0 n0 : Value} (hblk : Blk wr g t (.mk (v0 :: n0 :: rest))) (hown : wr.ownsRow 0 5 1 (.slice (some ⟨r, 0, none⟩) ((pack l').length + 1) cap) ((pack l').length + 1) (u8s (pack l') ++ [.int .u8 0]))
    (hm : l'.length % 8 = 0) (hr : r ≠ g) :
    WriterAt ((wr.setCell ⟨g, 0, none⟩ (.slice (some ⟨r, 0, none⟩) ((pack l').length + 1) cap)).setCell ⟨g, 1, none⟩ (.int .i64 ((l'.length : Int) + 1))) g t rest (.slice (some ⟨r, 0, none⟩) ((pack l').length + 1) cap) (l' ++ [false]) := by
  have e := u8s_snoc (pack l') 0
  rw [show (((0 : Nat)) : Int) = 0 from rfl] at e
  rw [e] at hown
  refine close_any (zs := pack l' ++ [0]) (by simpa using hblk.set_ 0 _) (ownsRow_setCell_other hown (by simpa [Value.ownBlock] using hr) _) ?_ hr _ (by simp)
  rw [pack_new l' false hm]; rfl

theorem close_new_true {v0 n0 : Value} (hblk : Blk wr g t (.mk (v0 :: n0 :: rest))) (hown : wr.ownsRow 0 5 1 (.slice (some ⟨r, 0, none⟩) ((pack l').length + 1) cap) ((pack l').length + 1) (u8s (pack l') ++ [.int .u8 0]))
    (hm : l'.length % 8 = 0) (hr : r ≠ g) :
    WriterAt (((wr.setCell ⟨g, 0, none⟩ (.slice (some ⟨r, 0, none⟩) ((pack l').length + 1) cap)).setCell ⟨r, l'.length / 8, none⟩ (.int .u8 (bits BinOp.or IntKind.u8 0 (128 / 2 ^ (l'.length % 8))))).setCell ⟨g, 1, none⟩ (.int .i64 ((l'.length : Int) + 1))) g t rest
      (.slice (some ⟨r, 0, none⟩) ((pack l').length + 1) cap) (l' ++ [true]) := by
  have e := u8s_snoc (pack l') 0
  rw [show (((0 : Nat)) : Int) = 0 from rfl] at e
  rw [e] at hown
  have ho := or_cast 0 (l'.length % 8) (by decide)
  rw [show (((0 : Nat)) : Int) = 0 from rfl] at ho
  rw [ho]
  have hb1 : Blk (wr.setCell ⟨g, 0, none⟩ (.slice (some ⟨r, 0, none⟩) ((pack l').length + 1) cap)) g t (.mk (.slice (some ⟨r, 0, none⟩) ((pack l').length + 1) cap :: n0 :: rest)) := by simpa using hblk.set_ 0 _
  have ho1 := ownsRow_setCell_other hown (a := ⟨g, 0, none⟩) (by simpa [Value.ownBlock] using hr) (.slice (some ⟨r, 0, none⟩) ((pack l').length + 1) cap)
  refine close_any (hb1.far (p := ⟨r, _, none⟩) (Ne.symm hr) _) (u8s_set _ _ _ ▸ (ho1.stored _ _).1) ?_ hr _ (by simp)
  rw [pack_new l' true hm, hm]
  have hl : l'.length / 8 = (pack l').length := by rw [pack_length]; omega
  rw [hl]
  simp
end

end Go.Proofs.YtdnllmibchmnnaaDoor
