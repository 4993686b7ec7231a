/-
  BitsHalves' walk: a number written in two pieces is the number written at once.
-/
import Derived.Test.YtceidhjgdgnplaaLawPacks
namespace Go.Proofs.Ytceidhjgdgnplaa
open Go.RowKit

/-- Two writers, apart from one another, both new since w. -/
structure TwoW (w wr : World) (ga gb : Nat) (va vb : Value) (la lb : List Bool) : Prop where
  wa : WriterAt wr ga 26 [] va la
  wb : WriterAt wr gb 26 [] vb lb
  a0 : w.heap.size ≤ ga
  b0 : w.heap.size ≤ gb
  ne : ga ≠ gb
  dab : va.ownBlock ≠ some gb
  dba : vb.ownBlock ≠ some ga
  dv : ∀ k, va.ownBlock = some k → vb.ownBlock ≠ some k
  fa : Fresh w.heap.size va
  fb : Fresh w.heap.size vb
  frm : Frm [] w wr

section
variable {w wr w1 : World} {ga gb : Nat} {va vb v1 : Value} {la lb l1 : List Bool}
theorem TwoW.symm (h : TwoW w wr ga gb va vb la lb) : TwoW w wr gb ga vb va lb la :=
  ⟨h.wb, h.wa, h.b0, h.a0, Ne.symm h.ne, h.dba, h.dab, fun k hk e => h.dv k e hk, h.fb, h.fa, h.frm⟩
theorem TwoW.quiet (h : TwoW w wr ga gb va vb la lb) (hf : Frm [] wr w1) : TwoW w w1 ga gb va vb la lb :=
  ⟨⟨h.wa.blk.frm hf (by simp), own_frm h.wa.own hf (by simp)⟩, ⟨h.wb.blk.frm hf (by simp), own_frm h.wb.own hf (by simp)⟩, h.a0, h.b0, h.ne, h.dab, h.dba, h.dv, h.fa, h.fb, h.frm.trans hf (by simp)⟩
theorem TwoW.put (h : TwoW w wr ga gb va vb la lb) (hw : WriterAt w1 ga 26 [] v1 l1) (hf : Frm (ga :: va.ownBlock.toList) wr w1) (hg : Grew wr va v1) : TwoW w w1 ga gb v1 vb l1 lb := by
  refine ⟨hw, ⟨h.wb.blk.frm hf (not_foot (Ne.symm h.ne) h.dab), own_frm h.wb.own hf (fun k hk => not_foot (fun e => h.dba (e ▸ hk)) (fun e => h.dv k e hk))⟩, h.a0, h.b0, h.ne, ?_, h.dba, fun k hk e => ?_, h.fa.grew hg h.frm.size, h.fb, h.frm.trans hf (h.fa.foot h.a0)⟩
  · rcases hg with hg | ⟨k, hk, hks⟩
    · rw [hg]; exact h.dab
    · rw [hk]
      intro e
      have := h.wb.blk.lt
      have : k = gb := by simpa using e
      omega
  · rcases hg with hg | ⟨j, hj, hjs⟩
    · exact h.dv k (hg ▸ hk) e
    · have := own_lt h.wb.own e
      have : j = k := by rw [hj] at hk; simpa using hk
      omega
/-- A block that was there before both writers is as it was. -/
theorem TwoW.box (h : TwoW w wr ga gb va vb la lb) {x t : Nat} {cs : Array Value} (hb : Blk wr x t cs) (hx : x < ga) (ht : t ≠ 5) (hf : Frm (ga :: va.ownBlock.toList) wr w1) : Blk w1 x t cs :=
  hb.frm hf (not_foot (by omega) (own_blk_ne h.wa.own hb (Ne.symm ht)))
end

theorem run_minmax {P : Program} (N : Int) (m : Int) (h : m = min N 64) : ∀ (ts : Array TypeId) (t : TypeId) (W : World), (Builtin.min_ ts t #[.int .i64 N, .int .i64 64]).run P W = .ok (.int .i64 m) W := by
  intro ts t W
  rw [run_min_int2, h]
  congr 2
  split <;> omega

set_option maxRecDepth 100000 in
set_option maxHeartbeats 2000000 in
theorem halves_walk (V0 V : Nat) (N0 N c0 : Int) (hV0 : V0 < 18446744073709551616) (hV : V < 18446744073709551616) (w : World) :
    Calls Try.prog 4 #[.agg #[.int .u64 (V0 : Int), .int .i64 N0], .agg #[.int .u64 (V : Int), .int .i64 N], .int .i64 c0] w fun e w' => e = .returned (.bool true) ∧ Frm [] w w' := by
  obtain ⟨m1, hm1⟩ : ∃ m : Int, m = min N 64 := ⟨_, rfl⟩
  obtain ⟨n, hn⟩ : ∃ n : Nat, n = wid N := ⟨_, rfl⟩
  obtain ⟨m2, hm2⟩ : ∃ m : Int, m = min c0 (n : Int) := ⟨_, rfl⟩
  obtain ⟨c, hc⟩ : ∃ c : Nat, c = (max 0 m2).toNat := ⟨_, rfl⟩
  have hn64 : n ≤ 64 := hn ▸ wid_le N
  have hcn : c ≤ n := by omega
  have r1 : ∀ (ts : Array TypeId) (t : TypeId) (W : World), (Builtin.min_ ts t #[.int .i64 N, .int .i64 64]).run Try.prog W = .ok (.int .i64 m1) W := fun ts t W => by
    rw [run_min_int2, hm1]; congr 2; split <;> omega
  have r2 : ∀ (ts : Array TypeId) (t : TypeId) (W : World), (Builtin.max_ ts t #[.int .i64 0, .int .i64 m1]).run Try.prog W = .ok (.int .i64 (n : Int)) W := fun ts t W => by
    have : (n : Int) = max 0 m1 := by rw [hn, hm1]; unfold wid; omega
    rw [run_max_int2, this]; congr 2; split <;> omega
  have r3 : ∀ (ts : Array TypeId) (t : TypeId) (W : World), (Builtin.min_ ts t #[.int .i64 c0, .int .i64 (n : Int)]).run Try.prog W = .ok (.int .i64 m2) W := fun ts t W => by
    rw [run_min_int2, hm2]; congr 2; split <;> omega
  have r4 : ∀ (ts : Array TypeId) (t : TypeId) (W : World), (Builtin.max_ ts t #[.int .i64 0, .int .i64 m2]).run Try.prog W = .ok (.int .i64 (c : Int)) W := fun ts t W => by
    rw [run_max_int2, hc]; congr 2; split <;> omega
  have Hn := hide hn
  clear hm1 hm2 hc hn
  go_enter Try.func4, Try.ntmps4
  go_wp2_with fail
  have hs2 : ((w.alloc (.cells #[.int .u64 (V0 : Int), .int .i64 N0] 29)).alloc (.cells #[.int .u64 (V : Int), .int .i64 N] 29)).heap.size = w.heap.size + 1 + 1 := by simp
  have hA := writer_new ((w.alloc (.cells #[.int .u64 (V0 : Int), .int .i64 N0] 29)).alloc (.cells #[.int .u64 (V : Int), .int .i64 N] 29)) 26
  have hB := writer_new (((w.alloc (.cells #[.int .u64 (V0 : Int), .int .i64 N0] 29)).alloc (.cells #[.int .u64 (V : Int), .int .i64 N] 29)).alloc (.cells #[.slice none 0 0, .int .i64 0] 26)) 26
  have hs3 : (((w.alloc (.cells #[.int .u64 (V0 : Int), .int .i64 N0] 29)).alloc (.cells #[.int .u64 (V : Int), .int .i64 N] 29)).alloc (.cells #[.slice none 0 0, .int .i64 0] 26)).heap.size = w.heap.size + 1 + 1 + 1 := by simp
  have bx0 := ((Blk.new w 29 #[.int .u64 (V0 : Int), .int .i64 N0]).alloc (.cells #[.int .u64 (V : Int), .int .i64 N] 29)).alloc (.cells #[.slice none 0 0, .int .i64 0] 26) |>.alloc (.cells #[.slice none 0 0, .int .i64 0] 26)
  have bx1 := ((Blk.new (w.alloc (.cells #[.int .u64 (V0 : Int), .int .i64 N0] 29)) 29 #[.int .u64 (V : Int), .int .i64 N]).alloc (.cells #[.slice none 0 0, .int .i64 0] 26)).alloc (.cells #[.slice none 0 0, .int .i64 0] 26)
  have hs1 : (w.alloc (.cells #[.int .u64 (V0 : Int), .int .i64 N0] 29)).heap.size = w.heap.size + 1 := by simp
  rw [hs1] at bx1
  rw [hs2] at hA
  rw [hs3] at hB
  have hf4 : Frm [] w ((((w.alloc (.cells #[.int .u64 (V0 : Int), .int .i64 N0] 29)).alloc (.cells #[.int .u64 (V : Int), .int .i64 N] 29)).alloc (.cells #[.slice none 0 0, .int .i64 0] 26)).alloc (.cells #[.slice none 0 0, .int .i64 0] 26)) := ((((Frm.refl [] w).alloc _).alloc _).alloc _).alloc _
  have h0 : TwoW w ((((w.alloc (.cells #[.int .u64 (V0 : Int), .int .i64 N0] 29)).alloc (.cells #[.int .u64 (V : Int), .int .i64 N] 29)).alloc (.cells #[.slice none 0 0, .int .i64 0] 26)).alloc (.cells #[.slice none 0 0, .int .i64 0] 26))
      (w.heap.size + 1 + 1) (w.heap.size + 1 + 1 + 1) (.slice none 0 0) (.slice none 0 0) [] [] :=
    ⟨⟨hA.blk.alloc _, hA.own.alloc _⟩, hB, by omega, by omega, by omega, by simp [Value.ownBlock], by simp [Value.ownBlock], fun k hk => by simp [Value.ownBlock] at hk, Fresh.nil _, Fresh.nil _, hf4⟩
  clear hA hB hs1 hs2 hs3 hf4
  generalize ((((w.alloc (.cells #[.int .u64 (V0 : Int), .int .i64 N0] 29)).alloc (.cells #[.int .u64 (V : Int), .int .i64 N] 29)).alloc (.cells #[.slice none 0 0, .int .i64 0] 26)).alloc (.cells #[.slice none 0 0, .int .i64 0] 26)) = w4 at h0 bx0 bx1 ⊢
  refine (put_any _ _ _ _ _ V0 N0 hV0 (by decide) (by decide) (by decide) _ h0.wa).mono ?_
  rintro e w5 ⟨rfl, va1, hw1, hf1, hg1⟩
  have h1 := h0.put hw1 hf1 hg1
  have by0 := h0.box bx0 (by omega) (by decide) hf1
  have by1 := h0.box bx1 (by omega) (by decide) hf1
  clear bx0 bx1 h0 hw1 hf1 hg1
  have c0 : w5.cell? ⟨w.heap.size, 0, none⟩ = some (.int .u64 (V0 : Int)) := by0.cell 0
  have c1 : w5.cell? ⟨w.heap.size, 1, none⟩ = some (.int .i64 N0) := by0.cell 1
  go_wp2_with fail
  clear c0 c1
  refine (put_any _ _ _ _ _ V0 N0 hV0 (by decide) (by decide) (by decide) _ h1.wb).mono ?_
  rintro e w6 ⟨rfl, vb1, hw2, hf2, hg2⟩
  have h2 := (h1.symm.put hw2 hf2 hg2).symm
  have bz1 := h1.symm.box by1 (by omega) (by decide) hf2
  clear by0 by1 h1 hw2 hf2 hg2
  have c0 : w6.cell? ⟨w.heap.size + 1, 0, none⟩ = some (.int .u64 (V : Int)) := bz1.cell 0
  have hl0 : ([] ++ bitsOf V0 (wid N0)).length ≤ 64 := by
    have := wid_le N0
    simp [bitsOf_length]; omega
  have hp0 := pack_length ([] ++ bitsOf V0 (wid N0))
  generalize [] ++ bitsOf V0 (wid N0) = l0 at h2 hl0 hp0
  have hl1 : l0.length ≤ 1125899906842624 ∧ (pack l0).length + 9 ≤ 140737488355328 := by omega
  clear hp0
  go_wp2_with fail
  clear c0
  refine (put_any _ _ _ _ _ V (n : Int) hV (by decide) hl1.1 hl1.2 _ h2.wa).mono ?_
  rintro e w7 ⟨rfl, va2, hw3, hf3, hg3⟩
  have h3 := h2.put hw3 hf3 hg3
  have ba1 := h2.box bz1 (by omega) (by decide) hf3
  clear bz1 h2 hw3 hf3 hg3
  have c0 : w7.cell? ⟨w.heap.size + 1, 0, none⟩ = some (.int .u64 (V : Int)) := ba1.cell 0
  go_wp2_with fail
  clear c0
  have hl2 := pack_length l0
  have hsh : ((V : Int) / 2 ^ (n - c)) = ((V / 2 ^ (n - c) : Nat) : Int) := by simp
  refine (put_int _ (V / 2 ^ (n - c)) (c : Int) hsh (Nat.lt_of_le_of_lt (Nat.div_le_self _ _) hV) (by decide) hl1.1 hl1.2 h3.wb).mono ?_
  rintro e w8 ⟨rfl, vb2, hw4, hf4, hg4⟩
  have h4 := (h3.symm.put hw4 hf4 hg4).symm
  have bb1 := h3.symm.box ba1 (by omega) (by decide) hf4
  clear ba1 h3 hw4 hf4 hg4 hsh hl2
  have c0 : w8.cell? ⟨w.heap.size + 1, 0, none⟩ = some (.int .u64 (V : Int)) := bb1.cell 0
  have hl5 : (l0 ++ bitsOf (V / 2 ^ (n - c)) (wid (c : Int))).length ≤ 128 := by
    have := wid_le (c : Int)
    rw [List.length_append, bitsOf_length]; omega
  have hp5 := pack_length (l0 ++ bitsOf (V / 2 ^ (n - c)) (wid (c : Int)))
  have hl6 : (l0 ++ bitsOf (V / 2 ^ (n - c)) (wid (c : Int))).length ≤ 1125899906842624 ∧ (pack (l0 ++ bitsOf (V / 2 ^ (n - c)) (wid (c : Int)))).length + 9 ≤ 140737488355328 := by omega
  clear hp5
  go_wp2_with fail
  clear c0
  refine (put_any _ _ _ _ _ V ((n : Int) - (c : Int)) hV (by decide) hl6.1 hl6.2 _ h4.wb).mono ?_
  rintro e w9 ⟨rfl, vb3, hw5, hf5, hg5⟩
  have h5 := (h4.symm.put hw5 hf5 hg5).symm
  clear bb1 h4 hw5 hf5 hg5
  have hsame : l0 ++ bitsOf (V / 2 ^ (n - c)) (wid (c : Int)) ++ bitsOf V (wid ((n : Int) - (c : Int))) = l0 ++ bitsOf V (wid (n : Int)) := by
    have e1 : wid (c : Int) = c := by unfold wid; omega
    have e2 : wid (n : Int) = n := by unfold wid; omega
    have e3 : wid ((n : Int) - (c : Int)) = n - c := by unfold wid; omega
    have e4 := bitsOf_add V c (n - c)
    rw [e1, e2, e3, List.append_assoc, ← e4, show c + (n - c) = n from by omega]
  rw [hsame] at h5
  clear hsame hl6 hl5
  generalize l0 ++ bitsOf V (wid (n : Int)) = L at h5
  go_wp2_with fail
  refine (waka_any _).mono ?_
  rintro e w10 ⟨rfl, hf6⟩
  have h6 := h5.quiet hf6
  clear h5 hf6
  go_wp2_with fail
  refine (wbytes_any _ h6.wa).mono ?_
  rintro e w' ⟨rfl, rfl⟩
  go_wp2_with fail
  refine (wbytes_any _ h6.wb).mono ?_
  rintro e w' ⟨rfl, rfl⟩
  go_wp2_with fail
  refine (wlen_any _ h6.wa).mono ?_
  rintro e w' ⟨rfl, rfl⟩
  go_wp2_with fail
  refine (wlen_any _ h6.wb).mono ?_
  rintro e w' ⟨rfl, rfl⟩
  go_wp2_with fail
  go_ret
  exact ⟨rfl, h6.frm⟩

end Go.Proofs.Ytceidhjgdgnplaa
