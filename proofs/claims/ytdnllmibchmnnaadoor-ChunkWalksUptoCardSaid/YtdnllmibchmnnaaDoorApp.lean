/-
  The contract of (*chunk.Chunk).Append.
-/
import Derived.Test.YtdnllmibchmnnaaDoorChv
namespace Go.Proofs.YtdnllmibchmnnaaDoor
set_option linter.unusedVariables false
set_option linter.unusedSimpArgs false
open Go.RowKit Go.BigFrame

/-- The error of appending at t. -/
def appF (c : Ck) (t : Int) : Int :=
  if t < 0 ∨ 1125899906842624 < t then 91 else if 0 < c.n ∧ t ≤ c.t then 90 else if c.n = 120 then 92 else 0
/-- The chunk with one sample more. -/
def appS (c : Ck) (t : Int) (v : Nat) : Ck :=
  if c.n = 0 then { c with bits := c.bits ++ bitsOf (u64 t) 64 ++ bitsOf v 64, n := 1, t := t, v := v }
  else { dif (v ^^^ c.v) { c with bits := c.bits ++ chg (t - c.t - c.step), step := t - c.t } with n := c.n + 1, t := t, v := v }

/-- What is known of every chunk. -/
structure CkOk (c : Ck) : Prop where
  len : c.bits.length ≤ 150 * c.n
  n : c.n ≤ 120
  t0 : 0 ≤ c.t
  t1 : c.t ≤ 1125899906842624
  v : c.v < 18446744073709551616
  s0 : 0 ≤ c.step
  s1 : c.step ≤ 1125899906842624
  le : c.lead ≤ 63
  ta : c.tail ≤ 63
  win : c.win = true → c.lead + c.tail ≤ 63

set_option maxRecDepth 100000 in
set_option maxHeartbeats 4000000 in
theorem app_fault (g : Nat) (v : Value) (c : Ck) (t : Int) (x : Nat) (hk : CkOk c) (hf : appF c t ≠ 0) (w : World) (hC : ChAt w g v c) :
    Calls Tryd.prog 17 #[.pointer (some ⟨g, 0, none⟩), .int .i64 t, .int .u64 (x : Int)] w fun e w' => e = .returned (.int .i64 (appF c t)) ∧ w = w' := by
  obtain ⟨bits, n, tt, vv, step, lead, tail, win⟩ := c
  have x2 : w.cell? ⟨g, 2, none⟩ = some (.int .i64 (n : Int)) := hC.blk.cell 2
  have x3 : w.cell? ⟨g, 3, none⟩ = some (.int .i64 tt) := hC.blk.cell 3
  have hn := hk.n
  simp only at hn
  by_cases h1 : t < 0
  · have ht : appF ⟨bits, n, tt, vv, step, lead, tail, win⟩ t = 91 := by unfold appF; rw [if_pos (.inl h1)]
    rw [ht]
    clear ht hf
    go_enter Tryd.func17, Tryd.ntmps17
    go_wp2
    go_ret
    exact ⟨rfl, rfl⟩
  · by_cases h2 : 1125899906842624 < t
    · have ht : appF ⟨bits, n, tt, vv, step, lead, tail, win⟩ t = 91 := by unfold appF; rw [if_pos (.inr h2)]
      rw [ht]
      clear ht hf
      go_enter Tryd.func17, Tryd.ntmps17
      go_wp2
      go_ret
      exact ⟨rfl, rfl⟩
    · by_cases h3 : 0 < n ∧ t ≤ tt
      · have ht : appF ⟨bits, n, tt, vv, step, lead, tail, win⟩ t = 90 := by unfold appF; rw [if_neg (by omega), if_pos h3]
        rw [ht]
        obtain ⟨h3, h4⟩ := h3
        have h5 : (0 : Int) < (n : Int) := by omega
        clear ht hf
        go_enter Tryd.func17, Tryd.ntmps17
        go_wp2
        go_ret
        exact ⟨rfl, rfl⟩
      · have he : appF ⟨bits, n, tt, vv, step, lead, tail, win⟩ t = if n = 120 then 92 else 0 := by unfold appF; rw [if_neg (by omega), if_neg h3]
        rw [he] at hf ⊢
        by_cases h6 : n = 120
        · rw [if_pos h6]
          have h7 : ¬ t ≤ tt := fun h => h3 ⟨by omega, h⟩
          subst h6
          clear he hf h3
          go_enter Tryd.func17, Tryd.ntmps17
          go_wp2
          go_ret
          exact ⟨rfl, rfl⟩
        · rw [if_neg h6] at hf
          exact absurd rfl hf

theorem dif_same (x : Nat) (c : Ck) : (dif x c).n = c.n ∧ (dif x c).t = c.t ∧ (dif x c).v = c.v := by
  unfold dif
  repeat' split
  all_goals exact ⟨rfl, rfl, rfl⟩

theorem ChAt.last {w : World} {g : Nat} {v : Value} {c : Ck} (h : ChAt w g v c) (t : Int) (x n : Nat) :
    ChAt (((w.setCell ⟨g, 3, none⟩ (.int .i64 t)).setCell ⟨g, 4, none⟩ (.int .u64 (x : Int))).setCell ⟨g, 2, none⟩ (.int .i64 (n : Int))) g v { c with n := n, t := t, v := x } := by
  unfold ChAt at h ⊢
  have hbn := own_blk_ne h.own h.blk (by decide)
  refine ⟨?_, ownsRow_setCell_other (ownsRow_setCell_other (ownsRow_setCell_other h.own (a := ⟨g, 3, none⟩) hbn _) (a := ⟨g, 4, none⟩) hbn _) (a := ⟨g, 2, none⟩) hbn _⟩
  have := ((h.blk.set_ 3 (.int .i64 t)).set_ 4 (.int .u64 (x : Int))).set_ 2 (.int .i64 (n : Int))
  simpa using this
theorem frm_last {a w : World} {g : Nat} {L : List Nat} (h : Frm (g :: L) a w) (u0 u1 u2 : Value) : Frm (g :: L) a (((w.setCell ⟨g, 3, none⟩ u0).setCell ⟨g, 4, none⟩ u1).setCell ⟨g, 2, none⟩ u2) :=
  ((h.setCell (p := ⟨g, 3, none⟩) (.inl (List.mem_cons_self ..)) _).setCell (p := ⟨g, 4, none⟩) (.inl (List.mem_cons_self ..)) _).setCell (p := ⟨g, 2, none⟩) (.inl (List.mem_cons_self ..)) _

set_option maxRecDepth 100000 in
set_option maxHeartbeats 4000000 in
theorem app_ok (g : Nat) (v : Value) (c : Ck) (t : Int) (x : Nat) (hx : x < 18446744073709551616) (hk : CkOk c) (hf : appF c t = 0) (w : World) (hC : ChAt w g v c) (hD : DbAt w) (hDg : g ≠ 0) (hDv : v.ownBlock ≠ some 0) :
    Calls Tryd.prog 17 #[.pointer (some ⟨g, 0, none⟩), .int .i64 t, .int .u64 (x : Int)] w fun e w' => e = .returned (.int .i64 0) ∧
      ∃ v', ChAt w' g v' (appS c t x) ∧ Frm (g :: v.ownBlock.toList) w w' ∧ Grew w v v' := by
  have hb : 0 ≤ t ∧ t ≤ 1125899906842624 ∧ (0 < c.n → c.t < t) ∧ c.n < 120 := by
    have hn := hk.n
    unfold appF at hf
    split at hf
    · exact absurd hf (by decide)
    · split at hf
      · exact absurd hf (by decide)
      · split at hf
        · exact absurd hf (by decide)
        · rename_i a1 a2 a3
          refine ⟨by omega, by omega, fun h => ?_, by omega⟩
          have : ¬ c.t ≤ t - 1 + 1 ∨ c.t < t ∨ t ≤ c.t := by omega
          by_cases h5 : t ≤ c.t
          · exact absurd ⟨h, h5⟩ a2
          · omega
  obtain ⟨b1, b2, b3, b4⟩ := hb
  have x2 : w.cell? ⟨g, 2, none⟩ = some (.int .i64 (c.n : Int)) := hC.blk.cell 2
  have x3 : w.cell? ⟨g, 3, none⟩ = some (.int .i64 c.t) := hC.blk.cell 3
  have hl := hk.len
  have hlb : c.bits.length ≤ 18000 := by omega
  have hu : t = (u64 t : Int) := by unfold u64; omega
  have Hu := hide hu
  clear hu hf
  by_cases h0 : c.n = 0
  · have hs : appS c t x = { { c with bits := c.bits ++ bitsOf (u64 t) 64 ++ bitsOf x 64 } with n := 1, t := t, v := x } := by unfold appS; rw [if_pos h0]
    rw [hs]
    rw [h0] at x2
    clear hs b3 hl
    go_enter Tryd.func17, Tryd.ntmps17
    go_wp2_with fail
    refine (put_x _ (u64 t) 64 64 Hu.out rfl (by decide) (u64_lt t) (by decide) (by omega) hC).mono ?_
    rintro e w1 ⟨rfl, v1, hW1, hf1, hg1⟩
    go_wp2_with fail
    refine (put_x _ x 64 64 rfl rfl (by decide) hx (by decide) (by rw [List.length_append, bitsOf_length]; omega) hW1).mono ?_
    rintro e w2 ⟨rfl, v2, hW2, hf2, hg2⟩
    have hCh : ChAt w2 g v2 { c with bits := c.bits ++ bitsOf (u64 t) 64 ++ bitsOf x 64 } := hW2
    have y2 : w2.cell? ⟨g, 2, none⟩ = some (.int .i64 0) := by have h : w2.cell? ⟨g, 2, none⟩ = some (.int .i64 (c.n : Int)) := hCh.blk.cell 2; rw [h0] at h; exact h
    have y3 : w2.cell? ⟨g, 3, none⟩ = some (.int .i64 c.t) := hCh.blk.cell 3
    have y4 : w2.cell? ⟨g, 4, none⟩ = some (.int .u64 (c.v : Int)) := hCh.blk.cell 4
    have f2 := hCh.blk.frozen 2
    have f3 := hCh.blk.frozen 3
    have f4 := hCh.blk.frozen 4
    have hff := frm_last (foot_trans hf1 hg1 hf2) (.int .i64 t) (.int .u64 (x : Int)) (.int .i64 1)
    have hgg := Grew.trans hf1.size hg1 hg2
    have hE := hCh.last t x 1
    have HE := hide (And.intro hE (And.intro hff hgg))
    clear x2 x3 hE hff hgg hf1 hg1 hf2 hg2 hW1 hW2 h0
    go_wp2_with fail
    go_ret
    exact ⟨rfl, v2, HE.out.1, HE.out.2.1, HE.out.2.2⟩
  · obtain ⟨c1, hc1⟩ : ∃ c1 : Ck, c1 = { c with bits := c.bits ++ chg (t - c.t - c.step), step := t - c.t } := ⟨_, rfl⟩
    obtain ⟨d, hd⟩ : ∃ d : Ck, d = dif (x ^^^ c.v) c1 := ⟨_, rfl⟩
    have hs : appS c t x = { d with n := c.n + 1, t := t, v := x } := by unfold appS; rw [if_neg h0, hd, hc1]
    rw [hs]
    have b5 := b3 (by omega)
    have hcl := chg_length (t - c.t - c.step)
    have k0 := hk.t0
    have k1 := hk.t1
    have k2 := hk.s0
    have k3 := hk.s1
    have hti := fun W h => time_any g v c (t - c.t) (by omega) (by omega) (by omega) (by omega) (by omega) W h
    rw [← hc1] at hti
    have hl1 : c1.bits.length ≤ 1000000 := by rw [hc1]; simp only [List.length_append]; omega
    have hva := fun v1 W h hD => value_any g v1 c1 (x ^^^ c.v) _ (u64_xor_nat x c.v hx hk.v) (Nat.xor_lt_two_pow (n := 64) hx hk.v) hl1 (by rw [hc1]; exact hk.le) (by rw [hc1]; exact hk.ta) (by rw [hc1]; exact hk.win) W h hD
    rw [← hd] at hva
    obtain ⟨d1, d2, d3⟩ := dif_same (x ^^^ c.v) c1
    rw [← hd] at d1 d2 d3
    have e1 : d.n = c.n := by rw [d1, hc1]
    have e2 : d.t = c.t := by rw [d2, hc1]
    have e3 : d.v = c.v := by rw [d3, hc1]
    have e4 : c1.v = c.v := by rw [hc1]
    have Hti := hide hti
    have Hva := hide hva
    have E1 := hide e1
    have E2 := hide e2
    have E3 := hide e3
    have E4 := hide e4
    have b6 : (0 : Int) < (c.n : Int) := by omega
    have b7 : ¬ t ≤ c.t := by omega
    have b8 : (((c.n : Nat) : Int) == 120) = false := by rw [beq_eq_false_iff_ne]; omega
    have b9 : (((c.n : Nat) : Int) == 0) = false := by rw [beq_eq_false_iff_ne]; omega
    clear hti hva e1 e2 e3 e4 d1 d2 d3 hs hcl hl1 hc1 hd h0 b3
    go_enter Tryd.func17, Tryd.ntmps17
    go_wp2_with fail
    refine (Hti.out _ hC).mono ?_
    rintro e w1 ⟨rfl, v1, hC1, hf1, hg1⟩
    have hD1 := hD.away hf1 (not_foot (Ne.symm hDg) hDv)
    have y4 : w1.cell? ⟨g, 4, none⟩ = some (.int .u64 (c.v : Int)) := by have h := hC1.blk.cell 4; have h' : w1.cell? ⟨g, 4, none⟩ = some (.int .u64 (c1.v : Int)) := h; rw [E4.out] at h'; exact h'
    clear x2 x3
    go_wp2_with fail
    refine (Hva.out v1 _ hC1 hD1).mono ?_
    rintro e w2 ⟨rfl, v2, hC2, hf2, hg2⟩
    have z2 : w2.cell? ⟨g, 2, none⟩ = some (.int .i64 (c.n : Int)) := by have h : w2.cell? ⟨g, 2, none⟩ = some (.int .i64 (d.n : Int)) := hC2.blk.cell 2; rw [E1.out] at h; exact h
    have z3 : w2.cell? ⟨g, 3, none⟩ = some (.int .i64 c.t) := by have h : w2.cell? ⟨g, 3, none⟩ = some (.int .i64 d.t) := hC2.blk.cell 3; rw [E2.out] at h; exact h
    have z4 : w2.cell? ⟨g, 4, none⟩ = some (.int .u64 (c.v : Int)) := by have h : w2.cell? ⟨g, 4, none⟩ = some (.int .u64 (d.v : Int)) := hC2.blk.cell 4; rw [E3.out] at h; exact h
    have f2 := hC2.blk.frozen 2
    have f3 := hC2.blk.frozen 3
    have f4 := hC2.blk.frozen 4
    have hE := hC2.last t x (c.n + 1)
    have hcast : ((c.n + 1 : Nat) : Int) = (c.n : Int) + 1 := by omega
    rw [hcast] at hE
    have hff := frm_last (foot_trans hf1 hg1 hf2) (.int .i64 t) (.int .u64 (x : Int)) (.int .i64 ((c.n : Int) + 1))
    have hgg := Grew.trans hf1.size hg1 hg2
    have HE := hide (And.intro hE (And.intro hff hgg))
    clear y4 hE hff hgg hf1 hg1 hf2 hg2 hC1 hC2 hcast
    go_wp2_with fail
    go_ret
    exact ⟨rfl, v2, HE.out.1, HE.out.2.1, HE.out.2.2⟩

end Go.Proofs.YtdnllmibchmnnaaDoor
