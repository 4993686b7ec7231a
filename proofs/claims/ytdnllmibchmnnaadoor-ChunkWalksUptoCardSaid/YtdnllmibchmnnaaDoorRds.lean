/-
  The contract of (*chunk.reader).sample.
-/
import Derived.Test.YtdnllmibchmnnaaDoorRdk
import Derived.BigRegion
import Derived.Deep.Cut
import Derived.Deep.DeepCutAuto
import Derived.Deep.RegionHeld3
import Derived.Laws.ResultCell
namespace Go.Proofs.YtdnllmibchmnnaaDoor
set_option linter.unusedVariables false
set_option linter.unusedSimpArgs false
open Go.RowKit Go.BigFrame

def sV (c : Rs) : Value := .agg #[.int .i64 c.t, .int .u64 (c.v : Int)]
/-- What reading a sample leaves. -/
def SmOut (s : ByteArray) (g h : Nat) (w : World) : Except Int Rs → Ending → World → Prop
  | .ok c, e, w' => e = .returned (sV c) ∧ RdAt w' g h s c ∧ Frm [g, h] w w'
  | .error x, e, w' => e = thr x ∧ Frm [g, h] w w'

theorem RdAt.far {w : World} {g h : Nat} {s : ByteArray} {c : Rs} (H : RdAt w g h s c) {p : Addr} (hg : g ≠ p.block) (hh : h ≠ p.block) (u : Value) : RdAt (w.setCell p u) g h s c :=
  ⟨H.st.far hg u, H.rd.far hh u, H.le⟩
theorem RdAt.drew {w : World} {g h : Nat} {s : ByteArray} {c : Rs} (H : RdAt w g h s c) : RdAt w.drew g h s c := ⟨H.st, H.rd, H.le⟩
theorem RdAt.last {w : World} {g h : Nat} {s : ByteArray} {c : Rs} (H : RdAt w g h s c) (t : Int) (v n : Nat) :
    RdAt (((w.setCell ⟨g, 4, none⟩ (.int .i64 t)).setCell ⟨g, 5, none⟩ (.int .u64 (v : Int))).setCell ⟨g, 3, none⟩ (.int .i64 (n : Int))) g h s { c with n := n, t := t, v := v } := by
  have hne := H.ne
  refine ⟨?_, ((H.rd.far (p := ⟨g, 4, none⟩) hne.symm _).far (p := ⟨g, 5, none⟩) hne.symm _).far (p := ⟨g, 3, none⟩) hne.symm _, H.le⟩
  have := ((H.st.set_ 4 (.int .i64 t)).set_ 5 (.int .u64 (v : Int))).set_ 3 (.int .i64 (n : Int))
  simpa using this
theorem RdAt.step {w : World} {g h : Nat} {s : ByteArray} {c : Rs} (H : RdAt w g h s c) (a : Int) :
    RdAt (w.setCell ⟨g, 6, none⟩ (.int .i64 a)) g h s { c with step := a } := by
  have hne := H.ne
  refine ⟨?_, (H.rd.far (p := ⟨g, 6, none⟩) hne.symm _), H.le⟩
  have := H.st.set_ 6 (.int .i64 a)
  simpa using this

set_option maxRecDepth 100000 in
set_option maxHeartbeats 16000000 in
theorem rdsample_any (g h : Nat) (s : ByteArray) (hs : s.size ≤ 140737488355328) (c : Rs) (hk : RsOk c) (hn : c.n ≤ 200) (w : World) (H : RdAt w g h s c) :
    Calls Tryd.prog 56 #[.pointer (some ⟨g, 0, none⟩)] w (SmOut s g h w (smpR (unpack (bl s)) c)) := by
  have hgb := H.st.lt
  have hhb := H.rd.lt
  have hne := H.ne
  have x3 : w.cell? ⟨g, 3, none⟩ = some (.int .i64 (c.n : Int)) := H.st.cell 3
  have x4 : w.cell? ⟨g, 4, none⟩ = some (.int .i64 c.t) := H.st.cell 4
  have x5 : w.cell? ⟨g, 5, none⟩ = some (.int .u64 (c.v : Int)) := H.st.cell 5
  have hA2 := (Blk.new w 37 #[.int .i64 0, .int .u64 0]).alloc (.cells #[.int .i64 c.t, .int .u64 (c.v : Int)] 37)
  have hX2 := Blk.new (w.alloc (.cells #[.int .i64 0, .int .u64 0] 37)) 37 #[.int .i64 c.t, .int .u64 (c.v : Int)]
  simp only [World.size_alloc] at hX2
  have hF2 : Frm [] w ((w.alloc (.cells #[.int .i64 0, .int .u64 0] 37)).alloc (.cells #[.int .i64 c.t, .int .u64 (c.v : Int)] 37)) := ((Frm.refl [] w).alloc _).alloc _
  have hR2 := H.quiet hF2
  obtain ⟨b, hb⟩ : ∃ b, b = w.heap.size := ⟨_, rfl⟩
  have hgw := hgb
  rw [← hb] at hgb hhb hA2 hX2
  have hFg : ∀ {w' : World}, Frm [g, h, b, b + 1] ((w.alloc (.cells #[.int .i64 0, .int .u64 0] 37)).alloc (.cells #[.int .i64 c.t, .int .u64 (c.v : Int)] 37)) w' → Frm [g, h] w w' := by
    intro w' hf
    have h1 : Frm [g, h] w ((w.alloc (.cells #[.int .i64 0, .int .u64 0] 37)).alloc (.cells #[.int .i64 c.t, .int .u64 (c.v : Int)] 37)) := hF2.mono (fun x hx => by cases hx)
    refine h1.trans hf (fun x hx => ?_)
    simp only [List.mem_cons, List.not_mem_nil, or_false] at hx
    rcases hx with rfl | rfl | rfl | rfl
    · exact .inl (by simp)
    · exact .inl (by simp)
    · exact .inr (by omega)
    · exact .inr (by omega)
  obtain ⟨W2, hW2⟩ : ∃ W2, (w.alloc (.cells #[.int .i64 0, .int .u64 0] 37)).alloc (.cells #[.int .i64 c.t, .int .u64 (c.v : Int)] 37) = W2 := ⟨_, rfl⟩
  rw [hW2] at hA2 hX2 hR2 hFg
  have HW2 := hide hW2
  have Hb := hide hb
  clear hF2 hW2 hb H
  have y3 : W2.cell? ⟨g, 3, none⟩ = some (.int .i64 (c.n : Int)) := hR2.st.cell 3
  obtain ⟨L, hL⟩ : ∃ L, unpack (bl s) = L := ⟨_, rfl⟩
  have hLl : L.length = 8 * s.size := by rw [← hL]; exact unpack_len s
  have hok : ∀ (c : Rs) (k : Nat) (K : Int), K = (k : Int) → k ≤ 64 → ∀ w, RdAt w g h s c → c.p + k ≤ 8 * s.size →
      Calls Tryd.prog 59 #[.pointer (some ⟨g, 0, none⟩), .int .i64 K] w fun e w' => e = .returned (.int .u64 ((numOf ((L.drop c.p).take k) : Nat) : Int)) ∧ RdAt w' g h s { c with p := c.p + k } ∧ Frm [h] w w' := by
    intro c k K hK hk w H hp
    have := rbits_ok g h s hs c k K hK hk w H hp
    rwa [hL] at this
  have hno : ∀ (c : Rs) (k : Nat) (K : Int), K = (k : Int) → k ≤ 64 → ∀ w, RdAt w g h s c → ¬ c.p + k ≤ 8 * s.size →
      Calls Tryd.prog 59 #[.pointer (some ⟨g, 0, none⟩), .int .i64 K] w fun e w' => e = thr 20 ∧ Frm [] w w' := fun c k K hK hk w H hp => rbits_no g h s hs c k K hK hk w H hp
  have hchg := fun (c : Rs) w H => rdchange_any g h s hs c w H
  have hdif := fun (c : Rs) hk w H => rddiffer_any g h s hs c hk w H
  rw [hL] at hchg hdif
  rw [hL]
  have HLl := hide hLl
  clear hL hLl
  have n1 : ¬ b = g := by omega
  have n2 : ¬ b = h := by omega
  have n3 : ¬ b + 1 = g := by omega
  have n4 : ¬ b + 1 = h := by omega
  have n5 : ¬ b + 1 = b := by omega
  have n6 : ¬ g = b := by omega
  have n7 : ¬ g = b + 1 := by omega
  have n8 : ¬ b = b + 1 := by omega
  by_cases h0 : c.n = 0
  · have hnz : ((c.n : Int) == 0) = true := by rw [beq_iff_eq]; omega
    have hz : smpR L c = fstR L c := smpR_zero h0
    have Hz := hide hz
    have H0 := hide h0
    clear hz hchg hdif h0
    by_cases h1 : c.p + 64 ≤ 8 * s.size
    · have ht1 : tk L 64 c = .ok (numOf ((L.drop c.p).take 64), { c with p := c.p + 64 }) := tk_ok (by have := HLl.out; omega)
      have hc1 := hok c 64 64 rfl (by decide) _ hR2 h1
      generalize numOf ((L.drop c.p).take 64) = x at ht1 hc1
      have hf1 : fstR L c = if wrap64 (x : Int) < 0 ∨ 1125899906842624 < wrap64 (x : Int) then .error 91 else match tk L 64 { c with p := c.p + 64 } with | .error e => .error e | .ok (v, s2) => .ok { s2 with n := 1, t := wrap64 (x : Int), v := v } := by
        unfold fstR; rw [ht1]; rfl
      have hfz := Hz.out.trans hf1
      have Hz := hide hfz
      have Hc1 := hide hc1
      clear hf1 hfz ht1 hc1 h1
      go_enter Tryd.func56, Tryd.ntmps56
      go_upto_region 3 with (fail)
      rw [HW2.out, ← Hb.out]
      clear x3 x4 x5 HW2 hgw
      go_wp2_with fail
      refine Hc1.out.mono ?_
      rintro e w3 ⟨rfl, hR3, hf3⟩
      clear Hc1
      have hX3 := hX2.frm hf3 (by simpa using n4)
      have hA3 := hA2.frm hf3 (by simpa using n2)
      have hF3 : Frm [g, h, b, b + 1] W2 w3 := hf3.mono (fun x hx => .inl (by simp at hx; simp [hx]))
      have z0 : w3.cell? ⟨b + 1, 0, none⟩ = some (.int .i64 c.t) := hX3.cell 0
      have fz0 := hX3.frozen 0
      clear y3 hA2 hX2 hR2 hf3
      go_upto_region 7 with (fail)
      generalize wrap64 (x : Int) = t at Hz ⊢
      have hX4 : Blk (w3.setCell ⟨b + 1, 0, none⟩ (.int .i64 t)) (b + 1) 37 #[.int .i64 t, .int .u64 (c.v : Int)] := by
        have := hX3.set_ 0 (.int .i64 t)
        simpa using this
      have hA4 := hA3.far (p := ⟨b + 1, 0, none⟩) n8 (.int .i64 t)
      have hR4 := hR3.far (p := ⟨b + 1, 0, none⟩) n7 (Ne.symm n4) (.int .i64 t)
      have hF4 := hF3.setCell (p := ⟨b + 1, 0, none⟩) (.inl (by simp)) (.int .i64 t)
      clear hX3 hA3 hR3 hF3
      by_cases hr : 0 ≤ t ∧ t ≤ 1125899906842624
      · obtain ⟨hr1, hr2⟩ := hr
        have hz2 := Hz.out
        rw [if_neg (by omega)] at hz2
        have Hz := hide hz2
        clear hz2
        generalize w3.setCell ⟨b + 1, 0, none⟩ (.int .i64 t) = w4 at *
        have m0 : w4.cell? ⟨b + 1, 0, none⟩ = some (.int .i64 t) := hX4.cell 0
        go_wp2_with fail
        refine (must_ok _ _ _).mono ?_
        rintro e w' ⟨rfl, rfl⟩
        have u3 : ∀ (u : Wd w4), u.w1.cell? ⟨g, 3, none⟩ = some (.int .i64 (c.n : Int)) := fun u => (hR4.quiet u.frm).st.cell 3
        clear z0 fz0 m0
        go_wp2_with fail
        refine wp_region_frm (by kernel_rfl) (by kernel_rfl) ?_
        repeat (go_big_quiet_step (first | (go_at_call 61; exact calls_frm_same (must_ok _ _ _))))
        refine wpQuiet_nil ?_
        rintro _ ⟨u, rfl⟩
        have hR5 := hR4.quiet u.frm
        have hX5 := hX4.frm u.frm (by simp)
        have hA5 := hA4.frm u.frm (by simp)
        have hF5 := hF4.trans u.frm (by simp)
        clear u3 hR4 hX4 hA4 hF4
        generalize u.w1 = w5 at *
        clear u
        have y3 : w5.cell? ⟨g, 3, none⟩ = some (.int .i64 (c.n : Int)) := hR5.st.cell 3
        by_cases h2 : c.p + 64 + 64 ≤ 8 * s.size
        · have ht2 : tk L 64 { c with p := c.p + 64 } = .ok (numOf ((L.drop (c.p + 64)).take 64), { c with p := c.p + 64 + 64 }) := tk_ok (by have := HLl.out; simp only; omega)
          have hc2 := hok { c with p := c.p + 64 } 64 64 rfl (by decide) _ hR5 h2
          simp only at hc2
          generalize numOf ((L.drop (c.p + 64)).take 64) = v at ht2 hc2
          have hfin : smpR L c = .ok { c with p := c.p + 64 + 64, n := c.n + 1, t := t, v := v } := by
            rw [Hz.out, ht2]
            simp only [H0.out]
          have Hfin := hide hfin
          have Hc2 := hide hc2
          clear hfin ht2 hc2 h2 Hz
          go_wp2_with fail
          refine Hc2.out.mono ?_
          rintro e w7 ⟨rfl, hR7, hf7⟩
          have hX7 := hX5.frm hf7 (by simpa using n4)
          have hA7 := hA5.frm hf7 (by simpa using n2)
          have hF7 : Frm [g, h, b, b + 1] W2 w7 := hF5.trans hf7 (fun x hx => .inl (by simp at hx; simp [hx]))
          have z1 : w7.cell? ⟨b + 1, 1, none⟩ = some (.int .u64 (c.v : Int)) := hX7.cell 1
          have fz1 := hX7.frozen 1
          clear Hc2 y3 hR5 hX5 hA5 hF5 hf7
          go_upto_region 12 with (fail)
          have hX9 : Blk (w7.setCell ⟨b + 1, 1, none⟩ (.int .u64 (v : Int))) (b + 1) 37 #[.int .i64 t, .int .u64 (v : Int)] := by
            have := hX7.set_ 1 (.int .u64 (v : Int))
            simpa using this
          have hA9 := hA7.far (p := ⟨b + 1, 1, none⟩) n8 (.int .u64 (v : Int))
          have hR9 := hR7.far (p := ⟨b + 1, 1, none⟩) n7 (Ne.symm n4) (.int .u64 (v : Int))
          have hF9 := hF7.setCell (p := ⟨b + 1, 1, none⟩) (.inl (by simp)) (.int .u64 (v : Int))
          clear hX7 hA7 hR7 hF7 z1 fz1
          generalize w7.setCell ⟨b + 1, 1, none⟩ (.int .u64 (v : Int)) = w9 at *
          have q0 := hX9.cell 0
          have q1 := hX9.cell 1
          have q3 : w9.cell? ⟨g, 3, none⟩ = some (.int .i64 (c.n : Int)) := hR9.st.cell 3
          have q4 : w9.cell? ⟨g, 4, none⟩ = some (.int .i64 c.t) := hR9.st.cell 4
          have q5 : w9.cell? ⟨g, 5, none⟩ = some (.int .u64 (c.v : Int)) := hR9.st.cell 5
          have qa := hA9.cell 0
          have qb := hA9.cell 1
          have q0' : w9.cell? ⟨b + 1, 0, none⟩ = some (.int .i64 t) := q0
          have q1' : w9.cell? ⟨b + 1, 1, none⟩ = some (.int .u64 (v : Int)) := q1
          have qa' : w9.cell? ⟨b, 0, none⟩ = some (.int .i64 0) := qa
          have qb' : w9.cell? ⟨b, 1, none⟩ = some (.int .u64 0) := qb
          have f3 := hR9.st.frozen 3
          have f4 := hR9.st.frozen 4
          have f5 := hR9.st.frozen 5
          have fa := hA9.frozen 0
          have fb := hA9.frozen 1
          clear q0 q1 qa qb
          have hRf := ((hR9.last t (v) (c.n + 1)).far (p := ⟨b, 0, none⟩) n6 (Ne.symm n2) (.int .i64 t)).far (p := ⟨b, 1, none⟩) n6 (Ne.symm n2) (.int .u64 ((v : Nat) : Int))
          have hAf := ((((hA9.far (p := ⟨g, 4, none⟩) n1 (.int .i64 t)).far (p := ⟨g, 5, none⟩) n1 (.int .u64 ((v : Nat) : Int))).far (p := ⟨g, 3, none⟩) n1 (.int .i64 ((c.n + 1 : Nat) : Int))).set_ 0 (.int .i64 t)).set_ 1 (.int .u64 ((v : Nat) : Int))
          have hFf := hFg (((((hF9.setCell (p := ⟨g, 4, none⟩) (.inl (by simp)) (.int .i64 t)).setCell (p := ⟨g, 5, none⟩) (.inl (by simp)) (.int .u64 ((v : Nat) : Int))).setCell (p := ⟨g, 3, none⟩) (.inl (by simp)) (.int .i64 ((c.n + 1 : Nat) : Int))).setCell (p := ⟨b, 0, none⟩) (.inl (by simp)) (.int .i64 t)).setCell (p := ⟨b, 1, none⟩) (.inl (by simp)) (.int .u64 ((v : Nat) : Int)))
          have hcast : ((c.n + 1 : Nat) : Int) = (c.n : Int) + 1 := by omega
          rw [hcast] at hRf hAf hFf
          have HRf := hide hRf
          have HAf := hide hAf
          have HFf := hide hFf
          clear hcast hRf hAf hFf
          go_wp2_with fail
          refine bodyPost_ret (results_cell_row rfl _ _ b 37 _ (0, 0) _ rfl HAf.out Tryd.underlying37 rfl (by kernel_rfl)) rfl ?_
          rw [Hfin.out]
          exact ⟨by first | rfl | simp [sV], HRf.out, HFf.out⟩
        · have hfin : smpR L c = .error 20 := by
            rw [Hz.out, tk_no (by have := HLl.out; simp only; omega)]
          have Hfin := hide hfin
          have hc2 := hno { c with p := c.p + 64 } 64 64 rfl (by decide) _ hR5 h2
          have Hc2 := hide hc2
          clear hfin hc2 h2 Hz
          go_wp2_with fail
          refine Hc2.out.mono ?_
          rintro e w7 ⟨rfl, hf7⟩
          unfold thr
          go_wp2_with fail
          refine ⟨rfl, ?_⟩
          rw [Hfin.out]
          exact ⟨rfl, hFg (hF5.trans hf7 (by simp))⟩
      · have hz2 := Hz.out
        rw [if_pos (by omega)] at hz2
        have Hz := hide hz2
        clear hz2
        generalize w3.setCell ⟨b + 1, 0, none⟩ (.int .i64 t) = w4 at *
        have m0 : w4.cell? ⟨b + 1, 0, none⟩ = some (.int .i64 t) := hX4.cell 0
        rcases (by omega : (¬ 0 ≤ t) ∨ (0 ≤ t ∧ ¬ t ≤ 1125899906842624)) with hb1 | ⟨hb1, hb2⟩
        all_goals
          go_wp2_with fail
          (with_reducible refine (must_no _ _ _).mono ?_)
          rintro e w' ⟨rfl, rfl⟩
          unfold thr
          go_wp2_with fail
          refine ⟨rfl, ?_⟩
          rw [Hz.out]
          exact ⟨rfl, hFg hF4⟩
    · have hfin : smpR L c = .error 20 := by
        rw [Hz.out]; unfold fstR; rw [tk_no (by have := HLl.out; omega)]
      have Hfin := hide hfin
      have hc1 := hno c 64 64 rfl (by decide) _ hR2 h1
      have Hc1 := hide hc1
      clear hfin hc1 h1 Hz
      go_enter Tryd.func56, Tryd.ntmps56
      go_upto_region 3 with (fail)
      rw [HW2.out, ← Hb.out]
      clear x3 x4 x5 HW2 hgw
      go_wp2_with fail
      refine Hc1.out.mono ?_
      rintro e w3 ⟨rfl, hf3⟩
      unfold thr
      go_wp2_with fail
      refine ⟨rfl, ?_⟩
      rw [Hfin.out]
      exact ⟨rfl, hFg (hf3.mono (by simp))⟩
  · have hnz : ((c.n : Int) == 0) = false := by rw [beq_eq_false_iff_ne]; omega
    have hz : smpR L c = match chgR L c with | .error e => .error e | .ok (ch, s1) => tmR L ch s1 := smpR_pos h0
    have hcg := hchg c
    have Hdif := hide hdif
    have y6 : W2.cell? ⟨g, 6, none⟩ = some (.int .i64 c.step) := hR2.st.cell 6
    have fy6 := hR2.st.frozen 6
    clear hchg hdif hok hno h0
    cases hcr : chgR L c with
    | error er =>
      rw [hcr] at hz hcg
      have Hz := hide hz
      have Hcg := hide hcg
      clear hz hcg hcr
      go_enter Tryd.func56, Tryd.ntmps56
      go_upto_region 3 with (fail)
      rw [HW2.out, ← Hb.out]
      clear x3 x4 x5 HW2 hgw
      go_wp2_with fail
      go_region_with (first | (go_at_call 60; refine (Hcg.out _ (hR2.quiet ((Frm.refl [] _).drew))).mono ?_; rintro e w5 ⟨rfl, hf5⟩; unfold thr; go_simp; refine panic_out ⟨rfl, by { rw [Hz.out]; exact ⟨rfl, hFg (((Frm.refl [g, h, b, b + 1] W2).drew).trans hf5 (fun x hx => .inl (by simp at hx; rcases hx with rfl | rfl <;> simp)))⟩ }⟩ ?_))
      all_goals trivial
    | ok r =>
      obtain ⟨ch, c1⟩ := r
      obtain ⟨⟨q, rfl⟩, hch1, hch2⟩ := chgR_same hcr
      rw [hcr] at hz hcg
      simp only at hz
      obtain ⟨st, hst⟩ : ∃ st, wrap64 (c.step + ch) = st := ⟨_, rfl⟩
      have hst2 : IntKind.i64.wrap (c.step + ch) = st := (IntWalk.i64_left _).trans hst
      obtain ⟨t, ht⟩ : ∃ t, wrap64 (c.t + st) = t := ⟨_, rfl⟩
      have ht2 : IntKind.i64.wrap (c.t + st) = t := (IntWalk.i64_left _).trans ht
      have hstb : -9223372036854775808 ≤ st ∧ st ≤ 9223372036854775807 := by rw [← hst]; unfold wrap64; omega
      have Hz := hide hz
      have Hst := hide hst
      have Hst2 := hide hst2
      have Ht := hide ht
      have Ht2 := hide ht2
      have Hcg := hide hcg
      clear hz hcg hcr hst hst2 ht ht2
      go_enter Tryd.func56, Tryd.ntmps56
      go_upto_region 3 with (fail)
      rw [HW2.out, ← Hb.out]
      clear x3 x4 x5 HW2 hgw
      go_wp2_with fail
      go_cut [27] (fun _ wx => RdAt wx g h s { c with p := q, step := st } ∧ Blk wx (b + 1) 37 #[.int .i64 c.t, .int .u64 (c.v : Int)] ∧ Blk wx b 37 #[.int .i64 0, .int .u64 0] ∧ Frm [g, h, b, b + 1] W2 wx)
      case first =>
        go_region_with (first | (go_at_call 60; refine (Hcg.out _ (hR2.quiet ((Frm.refl [] _).drew))).mono ?_; rintro e w5 ⟨rfl, hR5, hf5⟩; unfold iV; have u6 : w5.cell? ⟨g, 6, none⟩ = some (.int .i64 c.step) := hR5.st.cell 6; have fu6 := hR5.st.frozen 6))
        all_goals
          rw [Hst2.out]
          have hF5 : Frm [g, h, b, b + 1] W2 w5 := ((Frm.refl [g, h, b, b + 1] W2).drew).trans hf5 (fun x hx => .inl (by simp at hx; rcases hx with rfl | rfl <;> simp))
          have hX5 : Blk w5 (b + 1) 37 #[.int .i64 c.t, .int .u64 (c.v : Int)] := (hX2.drew).frm hf5 (by simp; omega)
          have hA5 : Blk w5 b 37 #[.int .i64 0, .int .u64 0] := (hA2.drew).frm hf5 (by simp; omega)
          go_wp2_with fail
          go_meet
          case rel => exact ⟨hR5.step st, hX5.far (p := ⟨g, 6, none⟩) n3 (.int .i64 st), hA5.far (p := ⟨g, 6, none⟩) n1 (.int .i64 st), hF5.setCell (p := ⟨g, 6, none⟩) (.inl (by simp)) (.int .i64 st)⟩
      case rest =>
        obtain ⟨hR6, hX6, hA6, hF6⟩ := hcut
        generalize wc = w6 at *
        clear y6 fy6 y3 hR2 hX2 hA2
        have y6 : w6.cell? ⟨g, 6, none⟩ = some (.int .i64 st) := hR6.st.cell 6
        have z0 : w6.cell? ⟨b + 1, 0, none⟩ = some (.int .i64 c.t) := hX6.cell 0
        have fz0 := hX6.frozen 0
        go_wp2_with fail
        go_region
        first | rw [Ht2.out] | rw [Ht.out]
        have hX7 : Blk ((w6.setCell ⟨b + 1, 0, none⟩ (.int .i64 t)).drew) (b + 1) 37 #[.int .i64 t, .int .u64 (c.v : Int)] := by
          have := (hX6.set_ 0 (.int .i64 t)).drew
          simpa using this
        have hA7 := (hA6.far (p := ⟨b + 1, 0, none⟩) n8 (.int .i64 t)).drew
        have hR7 := (hR6.far (p := ⟨b + 1, 0, none⟩) n7 (Ne.symm n4) (.int .i64 t)).drew
        have hF7 := (hF6.setCell (p := ⟨b + 1, 0, none⟩) (.inl (by simp)) (.int .i64 t)).drew
        clear hX6 hA6 hR6 hF6 y6 z0 fz0
        generalize (w6.setCell ⟨b + 1, 0, none⟩ (.int .i64 t)).drew = w7 at *
        have m0 : w7.cell? ⟨b + 1, 0, none⟩ = some (.int .i64 t) := hX7.cell 0
        by_cases hr : 0 ≤ t ∧ t ≤ 1125899906842624
        · obtain ⟨hr1, hr2⟩ := hr
          go_wp2_with fail
          (with_reducible refine (must_ok _ _ _).mono ?_)
          rintro e w' ⟨rfl, rfl⟩
          have u3 : ∀ (u : Wd w7), u.w1.cell? ⟨g, 3, none⟩ = some (.int .i64 (c.n : Int)) := fun u => (hR7.quiet u.frm).st.cell 3
          have u4 : ∀ (u : Wd w7), u.w1.cell? ⟨g, 4, none⟩ = some (.int .i64 c.t) := fun u => (hR7.quiet u.frm).st.cell 4
          have u0 : ∀ (u : Wd w7), u.w1.cell? ⟨b + 1, 0, none⟩ = some (.int .i64 t) := fun u => (hX7.frm u.frm (by simp)).cell 0
          clear m0
          by_cases ho : c.t < t
          · have htm := tmR_ok (L := L) (s := { c with p := q }) Hst.out Ht.out hr1 hr2 ho
            go_wp2_with fail
            refine wp_region_frm (by kernel_rfl) (by kernel_rfl) ?_
            repeat (go_big_quiet_step (first | (go_at_call 61; exact calls_frm_same (must_ok _ _ _))))
            refine wpQuiet_nil ?_
            rintro _ ⟨u, rfl⟩
            have hR8 := hR7.quiet u.frm
            have hX8 := hX7.frm u.frm (by simp)
            have hA8 := hA7.frm u.frm (by simp)
            have hF8 := hF7.trans u.frm (by simp)
            clear u0 u3 u4 hR7 hX7 hA7 hF7
            generalize u.w1 = w8 at *
            clear u
            have y3 : w8.cell? ⟨g, 3, none⟩ = some (.int .i64 (c.n : Int)) := hR8.st.cell 3
            have y1 : w8.cell? ⟨b + 1, 1, none⟩ = some (.int .u64 (c.v : Int)) := hX8.cell 1
            have fy1 := hX8.frozen 1
            have hk2 : RsOk { c with p := q, step := st } := by
              have t0 := hk.t0
              have t1 := hk.t1
              have e2 := Ht.out
              have hst3 : 0 ≤ st ∧ st ≤ 1125899906842624 := by unfold wrap64 at e2; omega
              exact ⟨hk.t0, hk.t1, hk.v, hst3.1, hst3.2, hk.l0, hk.l1, hk.a0, hk.a1, hk.win⟩
            have hdc := Hdif.out { c with p := q, step := st } hk2
            cases hdr : difR L { c with p := q, step := st } with
            | error er =>
              rw [hdr] at hdc htm
              have hfin : smpR L c = .error er := Hz.out.trans htm
              have Hfin := hide hfin
              have Hdc := hide hdc
              clear hdc htm hfin hdr
              go_wp2_with fail
              go_region_with (first | (go_at_call 62; refine (Hdc.out _ (hR8.quiet ((Frm.refl [] _).drew))).mono ?_; rintro e w9 ⟨rfl, hf9⟩; unfold thr; go_simp; refine panic_out ⟨rfl, by { rw [Hfin.out]; exact ⟨rfl, hFg ((hF8.drew).trans hf9 (fun x hx => .inl (by simp at hx; rcases hx with rfl | rfl <;> simp)))⟩ }⟩ ?_))
              all_goals trivial
            | ok r =>
              obtain ⟨x, c2⟩ := r
              obtain ⟨hds, hx⟩ := difR_same hk2 hdr
              rw [hdr] at hdc htm
              obtain ⟨p2, n2', t2, v2, st2, l2, a2, wn2⟩ := c2
              obtain ⟨e1, e2, e3, e4, _, _, _, _, _⟩ := hds
              simp only at e1 e2 e3 e4
              subst e1 e2 e3 e4
              have hfin : smpR L c = .ok ⟨p2, c.n + 1, t, c.v ^^^ x, st2, l2, a2, wn2⟩ := Hz.out.trans htm
              have hxor := u64_xor_nat c.v x hk.v hx
              have Hfin := hide hfin
              have Hxor := hide hxor
              have Hdc := hide hdc
              clear hdc htm hfin hdr hxor
              go_wp2_with fail
              generalize hvx : c.v ^^^ x = vx at *
              go_cut [77] (fun _ wx => RdAt wx g h s ⟨p2, c.n, c.t, c.v, st2, l2, a2, wn2⟩ ∧ Blk wx (b + 1) 37 #[.int .i64 t, .int .u64 (vx : Int)] ∧ Blk wx b 37 #[.int .i64 0, .int .u64 0] ∧ Frm [g, h, b, b + 1] W2 wx)
              case first =>
                go_region_with (first | (go_at_call 62; refine (Hdc.out _ (hR8.quiet ((Frm.refl [] _).drew))).mono ?_; rintro e w5 ⟨rfl, hR5, hf5⟩; unfold uV; have k1 : w5.cell? ⟨b + 1, 1, none⟩ = some (.int .u64 (c.v : Int)) := ((hX8.drew).frm hf5 (by simp; omega)).cell 1; have fk1 := ((hX8.drew).frm hf5 (by simp; omega)).frozen 1))
                all_goals
                  rw [Hxor.out]
                  have hF5 : Frm [g, h, b, b + 1] W2 w5 := (hF8.drew).trans hf5 (fun x hx => .inl (by simp at hx; rcases hx with rfl | rfl <;> simp))
                  have hX5 : Blk w5 (b + 1) 37 #[.int .i64 t, .int .u64 (c.v : Int)] := (hX8.drew).frm hf5 (by simp; omega)
                  have hA5 : Blk w5 b 37 #[.int .i64 0, .int .u64 0] := (hA8.drew).frm hf5 (by simp; omega)
                  have hX9 : Blk (w5.setCell ⟨b + 1, 1, none⟩ (.int .u64 (vx : Int))) (b + 1) 37 #[.int .i64 t, .int .u64 (vx : Int)] := by
                    have := hX5.set_ 1 (.int .u64 (vx : Int))
                    simpa using this
                  go_wp2_with fail
                  go_meet
                  case rel => exact ⟨hR5.far (p := ⟨b + 1, 1, none⟩) n7 (Ne.symm n4) (.int .u64 (vx : Int)), hX9, hA5.far (p := ⟨b + 1, 1, none⟩) n8 (.int .u64 (vx : Int)), hF5.setCell (p := ⟨b + 1, 1, none⟩) (.inl (by simp)) (.int .u64 (vx : Int))⟩
              case rest =>
                obtain ⟨hR9, hX9, hA9, hF9⟩ := hcut
                clear y1 fy1 y3 hR8 hX8 hA8 hF8
                generalize wc = w9 at *
                have q0 := hX9.cell 0
                have q1 := hX9.cell 1
                have q3 : w9.cell? ⟨g, 3, none⟩ = some (.int .i64 (c.n : Int)) := hR9.st.cell 3
                have q4 : w9.cell? ⟨g, 4, none⟩ = some (.int .i64 c.t) := hR9.st.cell 4
                have q5 : w9.cell? ⟨g, 5, none⟩ = some (.int .u64 (c.v : Int)) := hR9.st.cell 5
                have qa := hA9.cell 0
                have qb := hA9.cell 1
                have q0' : w9.cell? ⟨b + 1, 0, none⟩ = some (.int .i64 t) := q0
                have q1' : w9.cell? ⟨b + 1, 1, none⟩ = some (.int .u64 (vx : Int)) := q1
                have qa' : w9.cell? ⟨b, 0, none⟩ = some (.int .i64 0) := qa
                have qb' : w9.cell? ⟨b, 1, none⟩ = some (.int .u64 0) := qb
                have f3 := hR9.st.frozen 3
                have f4 := hR9.st.frozen 4
                have f5 := hR9.st.frozen 5
                have fa := hA9.frozen 0
                have fb := hA9.frozen 1
                clear q0 q1 qa qb
                have hRf := ((hR9.last t (vx) (c.n + 1)).far (p := ⟨b, 0, none⟩) n6 (Ne.symm n2) (.int .i64 t)).far (p := ⟨b, 1, none⟩) n6 (Ne.symm n2) (.int .u64 ((vx : Nat) : Int))
                have hAf := ((((hA9.far (p := ⟨g, 4, none⟩) n1 (.int .i64 t)).far (p := ⟨g, 5, none⟩) n1 (.int .u64 ((vx : Nat) : Int))).far (p := ⟨g, 3, none⟩) n1 (.int .i64 ((c.n + 1 : Nat) : Int))).set_ 0 (.int .i64 t)).set_ 1 (.int .u64 ((vx : Nat) : Int))
                have hFf := hFg (((((hF9.setCell (p := ⟨g, 4, none⟩) (.inl (by simp)) (.int .i64 t)).setCell (p := ⟨g, 5, none⟩) (.inl (by simp)) (.int .u64 ((vx : Nat) : Int))).setCell (p := ⟨g, 3, none⟩) (.inl (by simp)) (.int .i64 ((c.n + 1 : Nat) : Int))).setCell (p := ⟨b, 0, none⟩) (.inl (by simp)) (.int .i64 t)).setCell (p := ⟨b, 1, none⟩) (.inl (by simp)) (.int .u64 ((vx : Nat) : Int)))
                have hcast : ((c.n + 1 : Nat) : Int) = (c.n : Int) + 1 := by omega
                rw [hcast] at hRf hAf hFf
                have HRf := hide hRf
                have HAf := hide hAf
                have HFf := hide hFf
                clear hcast hRf hAf hFf
                go_wp2_with fail
                refine bodyPost_ret (results_cell_row rfl _ _ b 37 _ (0, 0) _ rfl HAf.out Tryd.underlying37 rfl (by kernel_rfl)) rfl ?_
                rw [Hfin.out]
                exact ⟨by first | rfl | simp [sV], HRf.out, HFf.out⟩
          · have htm : tmR L ch { c with p := q } = .error 90 := by
              unfold tmR
              simp only [Hst.out, Ht.out]
              rw [if_neg (by omega), if_pos (by omega)]
            have hfin : smpR L c = .error 90 := Hz.out.trans htm
            have Hfin := hide hfin
            clear htm hfin
            have y3 : w7.cell? ⟨g, 3, none⟩ = some (.int .i64 (c.n : Int)) := hR7.st.cell 3
            have y4 : w7.cell? ⟨g, 4, none⟩ = some (.int .i64 c.t) := hR7.st.cell 4
            have y0 : w7.cell? ⟨b + 1, 0, none⟩ = some (.int .i64 t) := hX7.cell 0
            have hod : decide (c.t < t) = false := decide_eq_false ho
            clear u0 u3 u4
            go_wp2_with fail
            go_region_with (first | (go_at_call 61; refine (must_no _ _ _).mono ?_; rintro e w9 ⟨rfl, rfl⟩; unfold thr; go_simp; refine panic_out ⟨rfl, by { rw [Hfin.out]; exact ⟨rfl, hFg (hF7.drew)⟩ }⟩ ?_))
            all_goals trivial
        · have htm : tmR L ch { c with p := q } = .error 91 := by
            unfold tmR
            simp only [Hst.out, Ht.out]
            rw [if_pos (by omega)]
          have hfin : smpR L c = .error 91 := Hz.out.trans htm
          have Hfin := hide hfin
          clear htm hfin
          rcases (by omega : (¬ 0 ≤ t) ∨ (0 ≤ t ∧ ¬ t ≤ 1125899906842624)) with hb1 | ⟨hb1, hb2⟩
          all_goals
            go_wp2_with fail
            (with_reducible refine (must_no _ _ _).mono ?_)
            rintro e w' ⟨rfl, rfl⟩
            unfold thr
            go_wp2_with fail
            refine ⟨rfl, ?_⟩
            rw [Hfin.out]
            exact ⟨rfl, hFg hF7⟩

end Go.Proofs.YtdnllmibchmnnaaDoor
