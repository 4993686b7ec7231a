/-
  The contract of the document's differ.
-/
import Derived.Test.YtdnllmibchmnnaaDoorRrc
import Derived.Deep.Cut
namespace Go.Proofs.YtdnllmibchmnnaaDoor
set_option linter.unusedVariables false
set_option linter.unusedSimpArgs false
open Go.RowKit Go.BigFrame

theorem RfAt.win {w : World} {g : Nat} {V : Value} {L : List Bool} {c : Rs} {f : Int} (H : RfAt w g V L c f) (a t : Int) :
    RfAt ((w.setCell ⟨g, 4, none⟩ (.int .i64 a)).setCell ⟨g, 5, none⟩ (.int .i64 t)) g V L { c with lead := a, tail := t, win := true } f := by
  refine ⟨?_, ownsRow_setCell_other (ownsRow_setCell_other H.row (a := ⟨g, 4, none⟩) H.ne _) (a := ⟨g, 5, none⟩) H.ne _, H.le⟩
  have := (H.st.set_ 4 (.int .i64 a)).set_ 5 (.int .i64 t)
  simpa [ldR] using this
theorem frm_g {g : Nat} {a w : World} (hf : Frm [g] a w) (k : Nat) (u : Value) : Frm [g] a (w.setCell ⟨g, k, none⟩ u) := hf.setCell (p := ⟨g, k, none⟩) (.inl (by simp)) _
theorem frm_gg {g : Nat} {a b c : World} (h : Frm [g] a b) (k : Frm [g] b c) : Frm [g] a c := h.trans k (fun x hx => .inl hx)

set_option maxHeartbeats 400000 in
theorem rdif_bad (g : Nat) (V : Value) (L : List Bool) (c : Rs) (f : Int) (hf : f ≠ 0) (w : World) (H : RfAt w g V L c f) :
    Calls Tryd.prog 41 #[.pointer (some ⟨g, 0, none⟩)] w fun e w' => e = .returned (.int .u64 0) ∧ w = w' := by
  go_enter Tryd.func41, Tryd.ntmps41
  go_wp2_with fail
  refine (rtake_bad g V L c f hf _ _ H).mono ?_
  rintro e w' ⟨rfl, rfl⟩
  go_wp2_with fail
  go_ret
  exact ⟨rfl, rfl⟩

set_option maxRecDepth 100000 in
set_option maxHeartbeats 8000000 in
theorem rdif_any (g : Nat) (V : Value) (L : List Bool) (hL : L.length ≤ 140737488355328) (c : Rs) (hk : RsOk c) (w : World) (H : RfAt w g V L c 0) :
    Calls Tryd.prog 41 #[.pointer (some ⟨g, 0, none⟩)] w (RfOut V L g w uV (.int .u64 0) (difR L c)) := by
  have hok := fun (c : Rs) k K hK hk w H hp => rtake_ok g V L hL c k K hK hk w H hp
  have hno := fun (c : Rs) k K hK hk w H hp => rtake_no g V L hL c k K hK hk w H hp
  have hbad := fun (c : Rs) K w H => rtake_bad g V L c 20 (by decide) K w H
  by_cases h1 : c.p + 1 ≤ L.length
  · have hb1 := one_bit L c.p (by omega)
    have ht1 : tk L 1 c = .ok ((L.getD c.p false).toNat, { c with p := c.p + 1 }) := by rw [tk_ok h1, hb1]
    have hc1 := hok c 1 1 rfl (by decide) _ H h1
    rw [hb1] at hc1
    clear hb1
    cases hbit : L.getD c.p false with
    | false =>
      rw [hbit] at hc1 ht1
      have hd : difR L c = .ok (0, { c with p := c.p + 1 }) := by unfold difR; rw [ht1]; rfl
      have Hd := hide hd
      have Hc1 := hide hc1
      clear hd hc1 ht1 hbit h1
      go_enter Tryd.func41, Tryd.ntmps41
      go_wp2_with fail
      refine Hc1.out.mono ?_
      rintro e w1 ⟨rfl, hR1, hf1⟩
      clear Hc1
      go_wp2_with fail
      go_ret
      rw [Hd.out]
      exact ⟨rfl, hR1, hf1⟩
    | true =>
      rw [hbit] at hc1 ht1
      have Hc1 := hide hc1
      clear hc1 hbit h1
      by_cases h2 : c.p + 1 + 1 ≤ L.length
      · have hb2 := one_bit L (c.p + 1) (by omega)
        have ht2 : tk L 1 { c with p := c.p + 1 } = .ok ((L.getD (c.p + 1) false).toNat, { c with p := c.p + 1 + 1 }) := by rw [tk_ok (by exact h2)]; simp only [hb2]
        have hc2 := fun W hW => hok { c with p := c.p + 1 } 1 1 rfl (by decide) W hW h2
        simp only [hb2] at hc2
        clear hb2
        cases hbit2 : L.getD (c.p + 1) false with
        | false =>
          rw [hbit2] at hc2 ht2
          have hd : difR L c = bodyR L { c with p := c.p + 1 + 1 } := by
            unfold difR; rw [ht1]; simp only; rw [if_neg (by decide), ht2]; simp only; rw [if_neg (by decide)]
          have Hd0 := hide hd
          have Hc2 := hide hc2
          clear hd hc2 ht1 ht2 hbit2 h2
          by_cases hw : c.win = true
          · obtain ⟨a, ha⟩ : ∃ a : Nat, c.lead = (a : Int) := ⟨c.lead.toNat, by have := hk.l0; omega⟩
            obtain ⟨T, hT⟩ : ∃ T : Nat, c.tail = (T : Int) := ⟨c.tail.toNat, by have := hk.a0; omega⟩
            have haT : a + T ≤ 63 := by have := hk.win hw; omega
            obtain ⟨k, hkk⟩ : ∃ k, 64 - a - T = k := ⟨_, rfl⟩
            have h64 : (64 - c.lead - c.tail).toNat = k := by omega
            have hb : bodyR L { c with p := c.p + 1 + 1 } = match tk L k { c with p := c.p + 1 + 1 } with
                | .error e => .error e
                | .ok (x, s1) => .ok (x * 2 ^ ((T : Nat) : Int).toNat % 18446744073709551616, s1) := by
              unfold bodyR
              rw [if_pos ⟨hw, hk.a0⟩]
              simp only [h64]
              rw [hT]
              rfl
            have hd0 := Hd0.out.trans hb
            have Hd0 := hide hd0
            clear hb hd0 h64
            have hk2 : k ≤ 64 := by omega
            have hkI : (64 : Int) - (a : Int) - (T : Int) = (k : Int) := by omega
            have HkI := hide hkI
            have hld : ldR c = (a : Int) := by unfold ldR; rw [if_pos hw, ha]
            clear hkI
            by_cases h7 : c.p + 1 + 1 + k ≤ L.length
            · have ht7 : tk L k { c with p := c.p + 1 + 1 } = .ok (numOf ((L.drop (c.p + 1 + 1)).take k), { c with p := c.p + 1 + 1 + k }) := tk_ok h7
              have hc7 := fun W hW K hK => hok { c with p := c.p + 1 + 1 } k K hK hk2 W hW h7
              simp only at hc7
              generalize numOf ((L.drop (c.p + 1 + 1)).take k) = x at ht7 hc7
              have hd4 : difR L c = .ok (x * 2 ^ ((T : Nat) : Int).toNat % 18446744073709551616, { c with p := c.p + 1 + 1 + k }) := by rw [Hd0.out, ht7]
              have Hd := hide hd4
              have Hc7 := hide hc7
              clear hd4 Hd0 ht7 hc7 h7
              go_enter Tryd.func41, Tryd.ntmps41
              go_wp2_with fail
              refine Hc1.out.mono ?_
              rintro e w1 ⟨rfl, hR1, hf1⟩
              clear Hc1
              go_wp2_with fail
              refine (Hc2.out _ hR1).mono ?_
              rintro e w2 ⟨rfl, hR2, hf2⟩
              clear Hc2
              have z2 : w2.cell? ⟨g, 2, none⟩ = some (.int .i64 0) := hR2.st.cell 2
              have z4 : w2.cell? ⟨g, 4, none⟩ = some (.int .i64 (a : Int)) := by rw [← hld]; exact hR2.st.cell 4
              have z5 : w2.cell? ⟨g, 5, none⟩ = some (.int .i64 (T : Int)) := by rw [← hT]; exact hR2.st.cell 5
              have hF2 := frm_gg hf1 hf2
              have Ha := hide hld
              have HT := hide hT
              have Hw := hide hw
              have Hkk := hide hkk
              clear ha hT hw hkk hld
              go_wp2_with fail
              go_region_held3 (fun w' => w'.cell? ⟨g, 4, none⟩ = some (.int .i64 (a : Int)) ∧ w'.cell? ⟨g, 5, none⟩ = some (.int .i64 (T : Int))) (first | exact ⟨m4, m5⟩ | exact ⟨z4, z5⟩ | go_keep) (first | (go_at_call 39; refine (Hc7.out _ (hR2.quiet ((Frm.refl [] _).drew)) _ (by first | (have := HkI.out; omega) | (have := HkI.out; simp only [IntKind.wrap_i64]; omega))).mono ?_; rintro e w7 ⟨rfl, hR7, hf7⟩; have m2 : w7.cell? ⟨g, 2, none⟩ = some (.int .i64 0) := hR7.st.cell 2; have m4 : w7.cell? ⟨g, 4, none⟩ = some (.int .i64 (a : Int)) := by { rw [← Ha.out]; exact hR7.st.cell 4 }; have m5 : w7.cell? ⟨g, 5, none⟩ = some (.int .i64 (T : Int)) := by { rw [← HT.out]; exact hR7.st.cell 5 }))
              go_wp2_with fail
              go_ret
              rw [Hd.out]
              exact ⟨congrArg (fun x => Ending.returned (.int .u64 x)) (shl_at x T), hR7, frm_gg hF2.drew hf7⟩
            · have ht7 : tk L k { c with p := c.p + 1 + 1 } = .error 20 := tk_no h7
              have hc7 := fun W hW K hK => hno { c with p := c.p + 1 + 1 } k K hK hk2 W hW h7
              have hd4 : difR L c = .error 20 := by rw [Hd0.out, ht7]
              have Hd := hide hd4
              have Hc7 := hide hc7
              clear hd4 Hd0 ht7 hc7 h7
              go_enter Tryd.func41, Tryd.ntmps41
              go_wp2_with fail
              refine Hc1.out.mono ?_
              rintro e w1 ⟨rfl, hR1, hf1⟩
              clear Hc1
              go_wp2_with fail
              refine (Hc2.out _ hR1).mono ?_
              rintro e w2 ⟨rfl, hR2, hf2⟩
              clear Hc2
              have z2 : w2.cell? ⟨g, 2, none⟩ = some (.int .i64 0) := hR2.st.cell 2
              have z4 : w2.cell? ⟨g, 4, none⟩ = some (.int .i64 (a : Int)) := by rw [← hld]; exact hR2.st.cell 4
              have z5 : w2.cell? ⟨g, 5, none⟩ = some (.int .i64 (T : Int)) := by rw [← hT]; exact hR2.st.cell 5
              have hF2 := frm_gg hf1 hf2
              have Ha := hide hld
              have HT := hide hT
              have Hw := hide hw
              have Hkk := hide hkk
              clear ha hT hw hkk hld
              go_wp2_with fail
              go_region_held3 (fun w' => w'.cell? ⟨g, 4, none⟩ = some (.int .i64 (a : Int)) ∧ w'.cell? ⟨g, 5, none⟩ = some (.int .i64 (T : Int))) (first | exact ⟨m4, m5⟩ | exact ⟨z4, z5⟩ | go_keep) (first | (go_at_call 39; refine (Hc7.out _ (hR2.quiet ((Frm.refl [] _).drew)) _ (by first | (have := HkI.out; omega) | (have := HkI.out; simp only [IntKind.wrap_i64]; omega))).mono ?_; rintro e w7 ⟨rfl, hR7, hf7⟩; have m2 : w7.cell? ⟨g, 2, none⟩ = some (.int .i64 20) := hR7.st.cell 2; have m4 : w7.cell? ⟨g, 4, none⟩ = some (.int .i64 (a : Int)) := by { rw [← Ha.out]; exact hR7.st.cell 4 }; have m5 : w7.cell? ⟨g, 5, none⟩ = some (.int .i64 (T : Int)) := by { rw [← HT.out]; exact hR7.st.cell 5 }))
              go_wp2_with fail
              go_ret
              rw [Hd.out]
              exact ⟨by first | rfl | simp, ⟨_, hR7⟩, frm_gg hF2.drew hf7⟩
          · have hw' : c.win = false := by simpa using hw
            have hb : bodyR L { c with p := c.p + 1 + 1 } = .error 21 := by unfold bodyR; rw [if_neg (fun h => hw h.1)]
            have hd0 := Hd0.out.trans hb
            have Hd := hide hd0
            have hld : ldR c = -1 := by unfold ldR; rw [if_neg hw]
            clear hb hd0 Hd0 hw
            go_enter Tryd.func41, Tryd.ntmps41
            go_wp2_with fail
            refine Hc1.out.mono ?_
            rintro e w1 ⟨rfl, hR1, hf1⟩
            clear Hc1
            go_wp2_with fail
            refine (Hc2.out _ hR1).mono ?_
            rintro e w2 ⟨rfl, hR2, hf2⟩
            clear Hc2
            have z2 : w2.cell? ⟨g, 2, none⟩ = some (.int .i64 0) := hR2.st.cell 2
            have z4 : w2.cell? ⟨g, 4, none⟩ = some (.int .i64 (-1)) := by rw [← hld]; exact hR2.st.cell 4
            have fz2 := hR2.st.frozen 2
            have hR3 := hR2.fault 21
            have hF3 := frm_g (frm_gg hf1 hf2) 2 (.int .i64 21)
            clear hw' hld
            go_wp2_with fail
            go_ret
            rw [Hd.out]
            exact ⟨rfl, ⟨_, hR3⟩, hF3⟩
        | true =>
          rw [hbit2] at hc2 ht2
          have hd : difR L c = match winR L { c with p := c.p + 1 + 1 } with | .error e => .error e | .ok s3 => bodyR L s3 := by
            unfold difR; rw [ht1]; simp only; rw [if_neg (by decide), ht2]; simp only; rw [if_pos (by decide)]; rfl
          have Hd0 := hide hd
          have Hc2 := hide hc2
          clear hd hc2 ht1 ht2 hbit2 h2
          by_cases h5 : c.p + 1 + 1 + 5 ≤ L.length
          · have ht5 : tk L 5 { c with p := c.p + 1 + 1 } = .ok (numOf ((L.drop (c.p + 1 + 1)).take 5), { c with p := c.p + 1 + 1 + 5 }) := tk_ok h5
            have hlt5 := num_lt L (c.p + 1 + 1) 5 (by decide)
            have hc5 := fun W hW => hok { c with p := c.p + 1 + 1 } 5 5 rfl (by decide) W hW h5
            simp only at hc5
            generalize numOf ((L.drop (c.p + 1 + 1)).take 5) = a at ht5 hc5 hlt5
            have hlt5' : a < 32 := hlt5
            have Hc5 := hide hc5
            have Ht5 := hide ht5
            clear hc5 ht5 hlt5 h5
            by_cases h6 : c.p + 1 + 1 + 5 + 6 ≤ L.length
            · have ht6 : tk L 6 { c with p := c.p + 1 + 1 + 5 } = .ok (numOf ((L.drop (c.p + 1 + 1 + 5)).take 6), { c with p := c.p + 1 + 1 + 5 + 6 }) := tk_ok h6
              have hlt6 := num_lt L (c.p + 1 + 1 + 5) 6 (by decide)
              have hc6 := fun W hW => hok { c with p := c.p + 1 + 1 + 5 } 6 6 rfl (by decide) W hW h6
              simp only at hc6
              generalize numOf ((L.drop (c.p + 1 + 1 + 5)).take 6) = k at ht6 hc6 hlt6
              have hlt6' : k < 64 := hlt6
              have hw : winR L { c with p := c.p + 1 + 1 } = .ok { c with p := c.p + 1 + 1 + 5 + 6, lead := (a : Int), tail := 63 - (a : Int) - (k : Int), win := true } := by
                unfold winR; rw [Ht5.out]; simp only; rw [ht6]
              have hd2 : difR L c = bodyR L { c with p := c.p + 1 + 1 + 5 + 6, lead := (a : Int), tail := 63 - (a : Int) - (k : Int), win := true } := by rw [Hd0.out, hw]
              have Hd2 := hide hd2
              have Hc6 := hide hc6
              clear Hd0 Ht5 hw hd2 hc6 ht6 hlt6 h6
              by_cases ht : 0 ≤ 63 - (a : Int) - (k : Int)
              · have h64 : (64 - (a : Int) - (63 - (a : Int) - (k : Int))).toNat = k + 1 := by omega
                have hb : bodyR L { c with p := c.p + 1 + 1 + 5 + 6, lead := (a : Int), tail := 63 - (a : Int) - (k : Int), win := true } =
                    match tk L (k + 1) { c with p := c.p + 1 + 1 + 5 + 6, lead := (a : Int), tail := 63 - (a : Int) - (k : Int), win := true } with
                    | .error e => .error e
                    | .ok (x, s1) => .ok (x * 2 ^ (63 - (a : Int) - (k : Int)).toNat % 18446744073709551616, s1) := by
                  unfold bodyR
                  rw [if_pos ⟨rfl, ht⟩]
                  simp only [h64]
                  rfl
                have hd3 := Hd2.out.trans hb
                have Hd3 := hide hd3
                clear hb hd3 Hd2 h64
                by_cases h7 : c.p + 1 + 1 + 5 + 6 + (k + 1) ≤ L.length
                · have ht7 : tk L (k + 1) { c with p := c.p + 1 + 1 + 5 + 6, lead := (a : Int), tail := 63 - (a : Int) - (k : Int), win := true } = .ok (numOf ((L.drop (c.p + 1 + 1 + 5 + 6)).take (k + 1)), { c with p := c.p + 1 + 1 + 5 + 6 + (k + 1), lead := (a : Int), tail := 63 - (a : Int) - (k : Int), win := true }) := tk_ok h7
                  have hc7 := fun W hW K hK => hok { c with p := c.p + 1 + 1 + 5 + 6, lead := (a : Int), tail := 63 - (a : Int) - (k : Int), win := true } (k + 1) K hK (by omega) W hW h7
                  simp only at hc7
                  generalize numOf ((L.drop (c.p + 1 + 1 + 5 + 6)).take (k + 1)) = x at ht7 hc7
                  have hd4 : difR L c = .ok (x * 2 ^ (63 - (a : Int) - (k : Int)).toNat % 18446744073709551616, { c with p := c.p + 1 + 1 + 5 + 6 + (k + 1), lead := (a : Int), tail := 63 - (a : Int) - (k : Int), win := true }) := by rw [Hd3.out, ht7]
                  have Hd := hide hd4
                  have Hc7 := hide hc7
                  clear hd4 Hd3 ht7 hc7 h7
                  go_enter Tryd.func41, Tryd.ntmps41
                  go_wp2_with fail
                  refine Hc1.out.mono ?_
                  rintro e w1 ⟨rfl, hR1, hf1⟩
                  clear Hc1
                  go_wp2_with fail
                  refine (Hc2.out _ hR1).mono ?_
                  rintro e w2 ⟨rfl, hR2, hf2⟩
                  clear Hc2
                  go_wp2_with fail
                  refine (Hc5.out _ hR2).mono ?_
                  rintro e w3 ⟨rfl, hR3, hf3⟩
                  clear Hc5
                  go_wp2_with fail
                  refine (Hc6.out _ hR3).mono ?_
                  rintro e w4 ⟨rfl, hR4, hf4⟩
                  clear Hc6
                  have hF4 := frm_gg (frm_gg (frm_gg hf1 hf2) hf3) hf4
                  have y4 : w4.cell? ⟨g, 4, none⟩ = some (.int .i64 (ldR c)) := hR4.st.cell 4
                  have y5 : w4.cell? ⟨g, 5, none⟩ = some (.int .i64 c.tail) := hR4.st.cell 5
                  have fy4 := hR4.st.frozen 4
                  have fy5 := hR4.st.frozen 5
                  have hR5 := hR4.win (a : Int) (63 - (a : Int) - (k : Int))
                  have hF5 := frm_g (frm_g hF4 4 (.int .i64 (a : Int))) 5 (.int .i64 (63 - (a : Int) - (k : Int)))
                  go_upto_region 10 with (fail)
                  generalize (w4.setCell ⟨g, 4, none⟩ (.int .i64 (a : Int))).setCell ⟨g, 5, none⟩ (.int .i64 (63 - (a : Int) - (k : Int))) = w5 at *
                  have z2 : w5.cell? ⟨g, 2, none⟩ = some (.int .i64 0) := hR5.st.cell 2
                  have z4 : w5.cell? ⟨g, 4, none⟩ = some (.int .i64 (a : Int)) := hR5.st.cell 4
                  have z5 : w5.cell? ⟨g, 5, none⟩ = some (.int .i64 (63 - (a : Int) - (k : Int))) := hR5.st.cell 5
                  have fz2 := hR5.st.frozen 2
                  clear y4 y5 fy4 fy5 hR4
                  have d1 : decide ((a : Int) < 0) = false := decide_eq_false (by omega)
                  have d2 : ¬ 63 - (a : Int) - (k : Int) < 0 := by omega
                  go_wp2_with fail
                  go_region_held3 (fun w' => w'.cell? ⟨g, 4, none⟩ = some (.int .i64 (a : Int)) ∧ w'.cell? ⟨g, 5, none⟩ = some (.int .i64 (63 - (a : Int) - (k : Int)))) (first | exact ⟨m4, m5⟩ | exact ⟨z4, z5⟩ | go_keep) (first | (go_at_call 39; refine (Hc7.out _ (hR5.quiet ((Frm.refl [] _).drew)) _ (by first | omega | (simp only [IntKind.wrap_i64]; omega))).mono ?_; rintro e w7 ⟨rfl, hR7, hf7⟩; have m2 : w7.cell? ⟨g, 2, none⟩ = some (.int .i64 0) := hR7.st.cell 2; have m4 : w7.cell? ⟨g, 4, none⟩ = some (.int .i64 (a : Int)) := hR7.st.cell 4; have m5 : w7.cell? ⟨g, 5, none⟩ = some (.int .i64 (63 - (a : Int) - (k : Int))) := hR7.st.cell 5))
                  go_wp2_with fail
                  go_ret
                  rw [Hd.out]
                  exact ⟨congrArg (fun x => Ending.returned (.int .u64 x)) (shl_is x a k), hR7, frm_gg hF5.drew hf7⟩
                · have ht7 : tk L (k + 1) { c with p := c.p + 1 + 1 + 5 + 6, lead := (a : Int), tail := 63 - (a : Int) - (k : Int), win := true } = .error 20 := tk_no h7
                  have hc7 := fun W hW K hK => hno { c with p := c.p + 1 + 1 + 5 + 6, lead := (a : Int), tail := 63 - (a : Int) - (k : Int), win := true } (k + 1) K hK (by omega) W hW h7
                  have hd4 : difR L c = .error 20 := by rw [Hd3.out, ht7]
                  have Hd := hide hd4
                  have Hc7 := hide hc7
                  clear hd4 Hd3 ht7 hc7 h7
                  go_enter Tryd.func41, Tryd.ntmps41
                  go_wp2_with fail
                  refine Hc1.out.mono ?_
                  rintro e w1 ⟨rfl, hR1, hf1⟩
                  clear Hc1
                  go_wp2_with fail
                  refine (Hc2.out _ hR1).mono ?_
                  rintro e w2 ⟨rfl, hR2, hf2⟩
                  clear Hc2
                  go_wp2_with fail
                  refine (Hc5.out _ hR2).mono ?_
                  rintro e w3 ⟨rfl, hR3, hf3⟩
                  clear Hc5
                  go_wp2_with fail
                  refine (Hc6.out _ hR3).mono ?_
                  rintro e w4 ⟨rfl, hR4, hf4⟩
                  clear Hc6
                  have hF4 := frm_gg (frm_gg (frm_gg hf1 hf2) hf3) hf4
                  have y4 : w4.cell? ⟨g, 4, none⟩ = some (.int .i64 (ldR c)) := hR4.st.cell 4
                  have y5 : w4.cell? ⟨g, 5, none⟩ = some (.int .i64 c.tail) := hR4.st.cell 5
                  have fy4 := hR4.st.frozen 4
                  have fy5 := hR4.st.frozen 5
                  have hR5 := hR4.win (a : Int) (63 - (a : Int) - (k : Int))
                  have hF5 := frm_g (frm_g hF4 4 (.int .i64 (a : Int))) 5 (.int .i64 (63 - (a : Int) - (k : Int)))
                  go_upto_region 10 with (fail)
                  generalize (w4.setCell ⟨g, 4, none⟩ (.int .i64 (a : Int))).setCell ⟨g, 5, none⟩ (.int .i64 (63 - (a : Int) - (k : Int))) = w5 at *
                  have z2 : w5.cell? ⟨g, 2, none⟩ = some (.int .i64 0) := hR5.st.cell 2
                  have z4 : w5.cell? ⟨g, 4, none⟩ = some (.int .i64 (a : Int)) := hR5.st.cell 4
                  have z5 : w5.cell? ⟨g, 5, none⟩ = some (.int .i64 (63 - (a : Int) - (k : Int))) := hR5.st.cell 5
                  have fz2 := hR5.st.frozen 2
                  clear y4 y5 fy4 fy5 hR4
                  have d1 : decide ((a : Int) < 0) = false := decide_eq_false (by omega)
                  have d2 : ¬ 63 - (a : Int) - (k : Int) < 0 := by omega
                  go_wp2_with fail
                  go_region_held3 (fun w' => w'.cell? ⟨g, 4, none⟩ = some (.int .i64 (a : Int)) ∧ w'.cell? ⟨g, 5, none⟩ = some (.int .i64 (63 - (a : Int) - (k : Int)))) (first | exact ⟨m4, m5⟩ | exact ⟨z4, z5⟩ | go_keep) (first | (go_at_call 39; refine (Hc7.out _ (hR5.quiet ((Frm.refl [] _).drew)) _ (by first | omega | (simp only [IntKind.wrap_i64]; omega))).mono ?_; rintro e w7 ⟨rfl, hR7, hf7⟩; have m2 : w7.cell? ⟨g, 2, none⟩ = some (.int .i64 20) := hR7.st.cell 2; have m4 : w7.cell? ⟨g, 4, none⟩ = some (.int .i64 (a : Int)) := hR7.st.cell 4; have m5 : w7.cell? ⟨g, 5, none⟩ = some (.int .i64 (63 - (a : Int) - (k : Int))) := hR7.st.cell 5))
                  go_wp2_with fail
                  go_ret
                  rw [Hd.out]
                  exact ⟨by first | rfl | simp, ⟨_, hR7⟩, frm_gg hF5.drew hf7⟩
              · have hb : bodyR L { c with p := c.p + 1 + 1 + 5 + 6, lead := (a : Int), tail := 63 - (a : Int) - (k : Int), win := true } = .error 21 := by unfold bodyR; rw [if_neg (fun h => ht h.2)]
                have hd3 := Hd2.out.trans hb
                have Hd := hide hd3
                clear hb hd3 Hd2
                go_enter Tryd.func41, Tryd.ntmps41
                go_wp2_with fail
                refine Hc1.out.mono ?_
                rintro e w1 ⟨rfl, hR1, hf1⟩
                clear Hc1
                go_wp2_with fail
                refine (Hc2.out _ hR1).mono ?_
                rintro e w2 ⟨rfl, hR2, hf2⟩
                clear Hc2
                go_wp2_with fail
                refine (Hc5.out _ hR2).mono ?_
                rintro e w3 ⟨rfl, hR3, hf3⟩
                clear Hc5
                go_wp2_with fail
                refine (Hc6.out _ hR3).mono ?_
                rintro e w4 ⟨rfl, hR4, hf4⟩
                clear Hc6
                have hF4 := frm_gg (frm_gg (frm_gg hf1 hf2) hf3) hf4
                have y4 : w4.cell? ⟨g, 4, none⟩ = some (.int .i64 (ldR c)) := hR4.st.cell 4
                have y5 : w4.cell? ⟨g, 5, none⟩ = some (.int .i64 c.tail) := hR4.st.cell 5
                have fy4 := hR4.st.frozen 4
                have fy5 := hR4.st.frozen 5
                have hR5 := hR4.win (a : Int) (63 - (a : Int) - (k : Int))
                have hF5 := frm_g (frm_g hF4 4 (.int .i64 (a : Int))) 5 (.int .i64 (63 - (a : Int) - (k : Int)))
                go_upto_region 10 with (fail)
                generalize (w4.setCell ⟨g, 4, none⟩ (.int .i64 (a : Int))).setCell ⟨g, 5, none⟩ (.int .i64 (63 - (a : Int) - (k : Int))) = w5 at *
                have z2 : w5.cell? ⟨g, 2, none⟩ = some (.int .i64 0) := hR5.st.cell 2
                have z4 : w5.cell? ⟨g, 4, none⟩ = some (.int .i64 (a : Int)) := hR5.st.cell 4
                have z5 : w5.cell? ⟨g, 5, none⟩ = some (.int .i64 (63 - (a : Int) - (k : Int))) := hR5.st.cell 5
                have fz2 := hR5.st.frozen 2
                clear y4 y5 fy4 fy5 hR4
                have d1 : decide ((a : Int) < 0) = false := decide_eq_false (by omega)
                have d2 : 63 - (a : Int) - (k : Int) < 0 := by omega
                have hR6 := hR5.fault 21
                have hF6 := frm_g hF5 2 (.int .i64 21)
                go_wp2_with fail
                go_ret
                rw [Hd.out]
                exact ⟨rfl, ⟨_, hR6⟩, hF6⟩
            · have hw : winR L { c with p := c.p + 1 + 1 } = .error 20 := by
                unfold winR; rw [Ht5.out]; simp only; rw [tk_no (by exact h6)]
              have hd2 : difR L c = .error 20 := by rw [Hd0.out, hw]
              have hc6 := fun W hW => hno { c with p := c.p + 1 + 1 + 5 } 6 6 rfl (by decide) W hW h6
              have Hd := hide hd2
              have Hc6 := hide hc6
              clear Hd0 Ht5 hw hd2 hc6 h6
              go_enter Tryd.func41, Tryd.ntmps41
              go_wp2_with fail
              refine Hc1.out.mono ?_
              rintro e w1 ⟨rfl, hR1, hf1⟩
              clear Hc1
              go_wp2_with fail
              refine (Hc2.out _ hR1).mono ?_
              rintro e w2 ⟨rfl, hR2, hf2⟩
              clear Hc2
              go_wp2_with fail
              refine (Hc5.out _ hR2).mono ?_
              rintro e w3 ⟨rfl, hR3, hf3⟩
              clear Hc5
              go_wp2_with fail
              refine (Hc6.out _ hR3).mono ?_
              rintro e w4 ⟨rfl, hR4, hf4⟩
              clear Hc6
              have hF4 := frm_gg (frm_gg (frm_gg hf1 hf2) hf3) hf4
              have y4 : w4.cell? ⟨g, 4, none⟩ = some (.int .i64 (ldR c)) := hR4.st.cell 4
              have y5 : w4.cell? ⟨g, 5, none⟩ = some (.int .i64 c.tail) := hR4.st.cell 5
              have y2 : w4.cell? ⟨g, 2, none⟩ = some (.int .i64 20) := hR4.st.cell 2
              have fy4 := hR4.st.frozen 4
              have fy5 := hR4.st.frozen 5
              have hR5 := hR4.win (a : Int) (63 - (a : Int))
              have hF5 := frm_g (frm_g hF4 4 (.int .i64 (a : Int))) 5 (.int .i64 (63 - (a : Int)))
              have HR5 := hide hR5
              clear hR5
              go_wp2_with fail
              go_ret
              rw [Hd.out]
              exact ⟨rfl, ⟨_, HR5.out⟩, hF5⟩
          · have hw : winR L { c with p := c.p + 1 + 1 } = .error 20 := by
              unfold winR; rw [tk_no (by exact h5)]
            have hd2 : difR L c = .error 20 := by rw [Hd0.out, hw]
            have hc5 := fun W hW => hno { c with p := c.p + 1 + 1 } 5 5 rfl (by decide) W hW h5
            have Hd := hide hd2
            have Hc5 := hide hc5
            clear Hd0 hw hd2 hc5 h5
            go_enter Tryd.func41, Tryd.ntmps41
            go_wp2_with fail
            refine Hc1.out.mono ?_
            rintro e w1 ⟨rfl, hR1, hf1⟩
            clear Hc1
            go_wp2_with fail
            refine (Hc2.out _ hR1).mono ?_
            rintro e w2 ⟨rfl, hR2, hf2⟩
            clear Hc2
            go_wp2_with fail
            refine (Hc5.out _ hR2).mono ?_
            rintro e w3 ⟨rfl, hR3, hf3⟩
            clear Hc5
            go_wp2_with fail
            refine (hbad _ _ _ hR3).mono ?_
            rintro e w' ⟨rfl, rfl⟩
            have hF3 := frm_gg (frm_gg hf1 hf2) hf3
            have y4 : w3.cell? ⟨g, 4, none⟩ = some (.int .i64 (ldR c)) := hR3.st.cell 4
            have y5 : w3.cell? ⟨g, 5, none⟩ = some (.int .i64 c.tail) := hR3.st.cell 5
            have y2 : w3.cell? ⟨g, 2, none⟩ = some (.int .i64 20) := hR3.st.cell 2
            have fy4 := hR3.st.frozen 4
            have fy5 := hR3.st.frozen 5
            have hR5 := hR3.win 0 63
            have hF5 := frm_g (frm_g hF3 4 (.int .i64 0)) 5 (.int .i64 63)
            have HR5 := hide hR5
            clear hR5
            go_wp2_with fail
            go_ret
            rw [Hd.out]
            exact ⟨rfl, ⟨_, HR5.out⟩, hF5⟩
      · have hd2 : difR L c = .error 20 := by
          unfold difR; rw [ht1]; simp only; rw [if_neg (by decide), tk_no (by exact h2)]
        have hc2 := fun W hW => hno { c with p := c.p + 1 } 1 1 rfl (by decide) W hW h2
        have Hd := hide hd2
        have Hc2 := hide hc2
        clear ht1 hd2 hc2 h2
        go_enter Tryd.func41, Tryd.ntmps41
        go_wp2_with fail
        refine Hc1.out.mono ?_
        rintro e w1 ⟨rfl, hR1, hf1⟩
        clear Hc1
        go_wp2_with fail
        refine (Hc2.out _ hR1).mono ?_
        rintro e w2 ⟨rfl, hR2, hf2⟩
        clear Hc2
        have y2 : w2.cell? ⟨g, 2, none⟩ = some (.int .i64 20) := hR2.st.cell 2
        go_wp2_with fail
        go_ret
        rw [Hd.out]
        exact ⟨rfl, ⟨_, hR2⟩, frm_gg hf1 hf2⟩
  · have hd2 : difR L c = .error 20 := by
      unfold difR; rw [tk_no h1]
    have hc1 := hno c 1 1 rfl (by decide) _ H h1
    have Hd := hide hd2
    have Hc1 := hide hc1
    clear hd2 hc1 h1
    go_enter Tryd.func41, Tryd.ntmps41
    go_wp2_with fail
    refine Hc1.out.mono ?_
    rintro e w1 ⟨rfl, hR1, hf1⟩
    clear Hc1
    go_wp2_with fail
    go_ret
    rw [Hd.out]
    exact ⟨rfl, ⟨_, hR1⟩, hf1⟩
end Go.Proofs.YtdnllmibchmnnaaDoor
