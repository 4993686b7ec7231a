/-
  The contract of (*chunk.reader).differ.
-/
import Derived.Test.YtdnllmibchmnnaaDoorRdc
import Derived.Deep.RegionHeld3
namespace Go.Proofs.YtdnllmibchmnnaaDoor
set_option linter.unusedVariables false
set_option linter.unusedSimpArgs false
open Go.RowKit Go.BigFrame

/-- What is known of every state of the reader. -/
structure RsOk (c : Rs) : Prop where
  t0 : 0 ≤ c.t
  t1 : c.t ≤ 1125899906842624
  v : c.v < 18446744073709551616
  s0 : 0 ≤ c.step
  s1 : c.step ≤ 1125899906842624
  l0 : 0 ≤ c.lead
  l1 : c.lead ≤ 63
  a0 : 0 ≤ c.tail
  a1 : c.tail ≤ 63
  win : c.win = true → c.lead + c.tail ≤ 63

theorem RdAt.lead {w : World} {g h : Nat} {s : ByteArray} {c : Rs} (H : RdAt w g h s c) (a : Int) :
    RdAt ((w.setCell ⟨g, 7, none⟩ (.int .i64 a)).setCell ⟨g, 9, none⟩ (.bool true)) g h s { c with lead := a, win := true } := by
  have hne := H.ne
  refine ⟨?_, (H.rd.far (p := ⟨g, 7, none⟩) hne.symm _).far (p := ⟨g, 9, none⟩) hne.symm _, H.le⟩
  have := (H.st.set_ 7 (.int .i64 a)).set_ 9 (.bool true)
  simpa using this
theorem RdAt.tail {w : World} {g h : Nat} {s : ByteArray} {c : Rs} (H : RdAt w g h s c) (a : Int) :
    RdAt (w.setCell ⟨g, 8, none⟩ (.int .i64 a)) g h s { c with tail := a } := by
  have hne := H.ne
  refine ⟨?_, (H.rd.far (p := ⟨g, 8, none⟩) hne.symm _), H.le⟩
  have := H.st.set_ 8 (.int .i64 a)
  simpa using this
theorem frm_set {g h : Nat} {a w : World} (hf : Frm [g, h] a w) (k : Nat) (u : Value) : Frm [g, h] a (w.setCell ⟨g, k, none⟩ u) := hf.setCell (p := ⟨g, k, none⟩) (.inl (List.mem_cons_self ..)) _

def uV (x : Nat) : Value := .int .u64 (x : Int)

theorem shl_is (x a k : Nat) : IntKind.u64.wrap ((x : Int) * 2 ^ (63 - a - k)) = ((x * 2 ^ ((63 : Int) - (a : Int) - (k : Int)).toNat % 18446744073709551616 : Nat) : Int) := by
  have e : ((63 : Int) - (a : Int) - (k : Int)).toNat = 63 - a - k := by omega
  rw [e, IntKind.wrap_u64]
  simp
theorem shl_at (x t : Nat) : IntKind.u64.wrap ((x : Int) * 2 ^ t) = ((x * 2 ^ ((t : Nat) : Int).toNat % 18446744073709551616 : Nat) : Int) := by
  rw [Int.toNat_natCast, IntKind.wrap_u64]
  simp
/-- A panic inside a region that draws its order ends the walk of that order. -/
theorem panic_out {X : Prop} (h : X) (_ : wpAny Tryd.prog .any #[] (fun _ _ _ => True) 0 #[] { tmps := #[], defers := [] } (default : World)) : X := h
set_option maxRecDepth 100000 in
set_option maxHeartbeats 8000000 in
theorem rddiffer_any (g h : Nat) (s : ByteArray) (hs : s.size ≤ 140737488355328) (c : Rs) (hk : RsOk c) (w : World) (H : RdAt w g h s c) :
    Calls Tryd.prog 62 #[.pointer (some ⟨g, 0, none⟩)] w (RdOut s g h w uV (difR (unpack (bl s)) c)) := by
  obtain ⟨L, hL⟩ : ∃ L, unpack (bl s) = L := ⟨_, rfl⟩
  have hLl : L.length = 8 * s.size := by rw [← hL]; exact unpack_len s
  have hok : ∀ (c : Rs) (k : Nat) (K : Int), K = (k : Int) → k ≤ 64 → ∀ w, RdAt w g h s c → c.p + k ≤ 8 * s.size →
      Calls Tryd.prog 59 #[.pointer (some ⟨g, 0, none⟩), .int .i64 K] w fun e w' => e = .returned (.int .u64 ((numOf ((L.drop c.p).take k) : Nat) : Int)) ∧ RdAt w' g h s { c with p := c.p + k } ∧ Frm [h] w w' := by
    intro c k K hK hk w H hp
    have := rbits_ok g h s hs c k K hK hk w H hp
    rwa [hL] at this
  have hno : ∀ (c : Rs) (k : Nat) (K : Int), K = (k : Int) → k ≤ 64 → ∀ w, RdAt w g h s c → ¬ c.p + k ≤ 8 * s.size →
      Calls Tryd.prog 59 #[.pointer (some ⟨g, 0, none⟩), .int .i64 K] w fun e w' => e = thr 20 ∧ Frm [] w w' := fun c k K hK hk w H hp => rbits_no g h s hs c k K hK hk w H hp
  rw [hL]
  have HLl := hide hLl
  clear hL hLl
  by_cases h1 : c.p + 1 ≤ 8 * s.size
  · have hb1 := one_bit L c.p (by have := HLl.out; omega)
    have ht1 : tk L 1 c = .ok ((L.getD c.p false).toNat, { c with p := c.p + 1 }) := by rw [tk_ok (by have := HLl.out; omega), hb1]
    have hc1 := hok c 1 1 rfl (by decide) _ H h1
    rw [hb1] at hc1
    clear hb1
    cases hbit : L.getD c.p false with
    | false =>
      rw [hbit] at hc1 ht1
      have hd : difR L c = .ok (0, { c with p := c.p + 1 }) := by unfold difR; rw [ht1]; rfl
      have Hd := hide hd
      have Hc1 := hide hc1
      clear hd hc1 ht1 hbit h1
      go_enter Tryd.func62, Tryd.ntmps62
      go_wp2_with fail
      refine Hc1.out.mono ?_
      rintro e w1 ⟨rfl, hR1, hf1⟩
      clear Hc1
      go_wp2_with fail
      go_ret
      rw [Hd.out]
      exact ⟨rfl, hR1, frm_h hf1⟩
    | true =>
      rw [hbit] at hc1 ht1
      have Hc1 := hide hc1
      clear hc1 hbit h1
      by_cases h2 : c.p + 1 + 1 ≤ 8 * s.size
      · have hb2 := one_bit L (c.p + 1) (by have := HLl.out; omega)
        have ht2 : tk L 1 { c with p := c.p + 1 } = .ok ((L.getD (c.p + 1) false).toNat, { c with p := c.p + 1 + 1 }) := by rw [tk_ok (by have := HLl.out; simp only; omega)]; simp only [hb2]
        have hc2 := fun W hW => hok { c with p := c.p + 1 } 1 1 rfl (by decide) W hW h2
        simp only [hb2] at hc2
        clear hb2
        cases hbit2 : L.getD (c.p + 1) false with
        | false =>
          rw [hbit2] at hc2 ht2
          have hd : difR L c = bodyR L { c with p := c.p + 1 + 1 } := by
            unfold difR; rw [ht1]; simp only; rw [if_neg (by decide), ht2]; simp only; rw [if_neg (by decide)]
          have Hd0 := hide hd
          have Hc2 := hide hc2
          clear hd hc2 ht1 ht2 hbit2 h2
          by_cases hw : c.win = true
          · obtain ⟨a, ha⟩ : ∃ a : Nat, c.lead = (a : Int) := ⟨c.lead.toNat, by have := hk.l0; omega⟩
            obtain ⟨T, hT⟩ : ∃ T : Nat, c.tail = (T : Int) := ⟨c.tail.toNat, by have := hk.a0; omega⟩
            have haT : a + T ≤ 63 := by have := hk.win hw; omega
            obtain ⟨k, hkk⟩ : ∃ k, 64 - a - T = k := ⟨_, rfl⟩
            have h64 : (64 - c.lead - c.tail).toNat = k := by omega
            have hb : bodyR L { c with p := c.p + 1 + 1 } = match tk L k { c with p := c.p + 1 + 1 } with
                | .error e => .error e
                | .ok (x, s1) => .ok (x * 2 ^ ((T : Nat) : Int).toNat % 18446744073709551616, s1) := by
              unfold bodyR
              rw [if_pos ⟨hw, hk.a0⟩]
              simp only [h64]
              rw [hT]
              rfl
            have hd0 := Hd0.out.trans hb
            have Hd0 := hide hd0
            clear hb hd0 h64
            have hk2 : k ≤ 64 := by omega
            have hkI : (64 : Int) - (a : Int) - (T : Int) = (k : Int) := by omega
            have HkI := hide hkI
            clear hkI
            by_cases h7 : c.p + 1 + 1 + k ≤ 8 * s.size
            · have ht7 : tk L k { c with p := c.p + 1 + 1 } = .ok (numOf ((L.drop (c.p + 1 + 1)).take k), { c with p := c.p + 1 + 1 + k }) := tk_ok (by have := HLl.out; simp only; omega)
              have hc7 := fun W hW K hK => hok { c with p := c.p + 1 + 1 } k K hK hk2 W hW h7
              simp only at hc7
              generalize numOf ((L.drop (c.p + 1 + 1)).take k) = x at ht7 hc7
              have hd4 : difR L c = .ok (x * 2 ^ ((T : Nat) : Int).toNat % 18446744073709551616, { c with p := c.p + 1 + 1 + k }) := by rw [Hd0.out, ht7]
              have Hd := hide hd4
              have Hc7 := hide hc7
              clear hd4 Hd0 ht7 hc7 h7
              go_enter Tryd.func62, Tryd.ntmps62
              go_wp2_with fail
              refine Hc1.out.mono ?_
              rintro e w1 ⟨rfl, hR1, hf1⟩
              clear Hc1
              go_wp2_with fail
              refine (Hc2.out _ hR1).mono ?_
              rintro e w2 ⟨rfl, hR2, hf2⟩
              clear Hc2
              have z7 : w2.cell? ⟨g, 7, none⟩ = some (.int .i64 (a : Int)) := by rw [← ha]; exact hR2.st.cell 7
              have z8 : w2.cell? ⟨g, 8, none⟩ = some (.int .i64 (T : Int)) := by rw [← hT]; exact hR2.st.cell 8
              have z9 : w2.cell? ⟨g, 9, none⟩ = some (.bool true) := by rw [← hw]; exact hR2.st.cell 9
              have hF2 := (frm_h (g := g) hf1).trans (frm_h (g := g) hf2) (fun x hx => .inl hx)
              have Ha := hide ha
              have HT := hide hT
              have Hw := hide hw
              have Hkk := hide hkk
              clear ha hT hw hkk
              go_wp2_with fail
              refine (must_ok _ _ _).mono ?_
              rintro e w' ⟨rfl, rfl⟩
              go_wp2_with fail
              go_region_held3 (fun w' => w'.cell? ⟨g, 7, none⟩ = some (.int .i64 (a : Int)) ∧ w'.cell? ⟨g, 8, none⟩ = some (.int .i64 (T : Int))) (first | exact ⟨m7, m8⟩ | exact ⟨z7, z8⟩ | go_keep) (first | (go_at_call 59; refine (Hc7.out _ (hR2.quiet ((Frm.refl [] _).drew)) _ (by first | (have := HkI.out; omega) | (have := HkI.out; simp only [IntKind.wrap_i64]; omega))).mono ?_; rintro e w7 ⟨rfl, hR7, hf7⟩; have m7 : w7.cell? ⟨g, 7, none⟩ = some (.int .i64 (a : Int)) := by { rw [← Ha.out]; exact hR7.st.cell 7 }; have m8 : w7.cell? ⟨g, 8, none⟩ = some (.int .i64 (T : Int)) := by { rw [← HT.out]; exact hR7.st.cell 8 }))
              go_wp2_with fail
              go_ret
              rw [Hd.out]
              exact ⟨congrArg (fun x => Ending.returned (.int .u64 x)) (shl_at x T), hR7, hF2.drew.trans (frm_h (g := g) hf7) (fun x hx => .inl hx)⟩
            · have ht7 : tk L k { c with p := c.p + 1 + 1 } = .error 20 := tk_no (by have := HLl.out; simp only; omega)
              have hc7 := fun W hW K hK => hno { c with p := c.p + 1 + 1 } k K hK hk2 W hW h7
              have hd4 : difR L c = .error 20 := by rw [Hd0.out, ht7]
              have Hd := hide hd4
              have Hc7 := hide hc7
              clear hd4 Hd0 ht7 hc7 h7
              go_enter Tryd.func62, Tryd.ntmps62
              go_wp2_with fail
              refine Hc1.out.mono ?_
              rintro e w1 ⟨rfl, hR1, hf1⟩
              clear Hc1
              go_wp2_with fail
              refine (Hc2.out _ hR1).mono ?_
              rintro e w2 ⟨rfl, hR2, hf2⟩
              clear Hc2
              have z7 : w2.cell? ⟨g, 7, none⟩ = some (.int .i64 (a : Int)) := by rw [← ha]; exact hR2.st.cell 7
              have z8 : w2.cell? ⟨g, 8, none⟩ = some (.int .i64 (T : Int)) := by rw [← hT]; exact hR2.st.cell 8
              have z9 : w2.cell? ⟨g, 9, none⟩ = some (.bool true) := by rw [← hw]; exact hR2.st.cell 9
              have hF2 := (frm_h (g := g) hf1).trans (frm_h (g := g) hf2) (fun x hx => .inl hx)
              have Ha := hide ha
              have HT := hide hT
              have Hw := hide hw
              have Hkk := hide hkk
              clear ha hT hw hkk
              go_wp2_with fail
              refine (must_ok _ _ _).mono ?_
              rintro e w' ⟨rfl, rfl⟩
              go_wp2_with fail
              go_region_with (first | (go_at_call 59; refine (Hc7.out _ (hR2.quiet ((Frm.refl [] _).drew)) _ (by first | (have := HkI.out; omega) | (have := HkI.out; simp only [IntKind.wrap_i64]; omega))).mono ?_; rintro e w7 ⟨rfl, hf7⟩; unfold thr; go_simp; refine panic_out ⟨rfl, by { rw [Hd.out]; exact ⟨rfl, hF2.drew.trans (frm_0 (g := g) (h := h) hf7) (fun x hx => .inl hx)⟩ }⟩ ?_))
              all_goals trivial
          · have hw' : c.win = false := by simpa using hw
            have hb : bodyR L { c with p := c.p + 1 + 1 } = .error 21 := by unfold bodyR; rw [if_neg (fun h => hw h.1)]
            have hd0 := Hd0.out.trans hb
            have Hd := hide hd0
            clear hb hd0 Hd0 hw
            go_enter Tryd.func62, Tryd.ntmps62
            go_wp2_with fail
            refine Hc1.out.mono ?_
            rintro e w1 ⟨rfl, hR1, hf1⟩
            clear Hc1
            go_wp2_with fail
            refine (Hc2.out _ hR1).mono ?_
            rintro e w2 ⟨rfl, hR2, hf2⟩
            clear Hc2
            have z9 : w2.cell? ⟨g, 9, none⟩ = some (.bool false) := by rw [← hw']; exact hR2.st.cell 9
            have hF2 := (frm_h (g := g) hf1).trans (frm_h (g := g) hf2) (fun x hx => .inl hx)
            clear hw'
            go_wp2_with fail
            refine (must_no _ _ _).mono ?_
            rintro e w' ⟨rfl, rfl⟩
            unfold thr
            go_wp2_with fail
            refine ⟨rfl, ?_⟩
            rw [Hd.out]
            exact ⟨rfl, hF2⟩
        | true =>
          rw [hbit2] at hc2 ht2
          have hd : difR L c = match winR L { c with p := c.p + 1 + 1 } with | .error e => .error e | .ok s3 => bodyR L s3 := by
            unfold difR; rw [ht1]; simp only; rw [if_neg (by decide), ht2]; simp only; rw [if_pos (by decide)]; rfl
          have Hd0 := hide hd
          have Hc2 := hide hc2
          clear hd hc2 ht1 ht2 hbit2 h2
          by_cases h5 : c.p + 1 + 1 + 5 ≤ 8 * s.size
          · have ht5 : tk L 5 { c with p := c.p + 1 + 1 } = .ok (numOf ((L.drop (c.p + 1 + 1)).take 5), { c with p := c.p + 1 + 1 + 5 }) := tk_ok (by have := HLl.out; simp only; omega)
            have hlt5 := num_lt L (c.p + 1 + 1) 5 (by decide)
            have hc5 := fun W hW => hok { c with p := c.p + 1 + 1 } 5 5 rfl (by decide) W hW h5
            simp only at hc5
            generalize numOf ((L.drop (c.p + 1 + 1)).take 5) = a at ht5 hc5 hlt5
            have hlt5' : a < 32 := hlt5
            have Hc5 := hide hc5
            have Ht5 := hide ht5
            clear hc5 ht5 hlt5 h5
            by_cases h6 : c.p + 1 + 1 + 5 + 6 ≤ 8 * s.size
            · have ht6 : tk L 6 { c with p := c.p + 1 + 1 + 5 } = .ok (numOf ((L.drop (c.p + 1 + 1 + 5)).take 6), { c with p := c.p + 1 + 1 + 5 + 6 }) := tk_ok (by have := HLl.out; simp only; omega)
              have hlt6 := num_lt L (c.p + 1 + 1 + 5) 6 (by decide)
              have hc6 := fun W hW => hok { c with p := c.p + 1 + 1 + 5, lead := (a : Int), win := true } 6 6 rfl (by decide) W hW h6
              simp only at hc6
              generalize numOf ((L.drop (c.p + 1 + 1 + 5)).take 6) = k at ht6 hc6 hlt6
              have hlt6' : k < 64 := hlt6
              have hw : winR L { c with p := c.p + 1 + 1 } = .ok { c with p := c.p + 1 + 1 + 5 + 6, lead := (a : Int), tail := 63 - (a : Int) - (k : Int), win := true } := by
                unfold winR; rw [Ht5.out]; simp only; rw [ht6]
              have hd2 : difR L c = bodyR L { c with p := c.p + 1 + 1 + 5 + 6, lead := (a : Int), tail := 63 - (a : Int) - (k : Int), win := true } := by rw [Hd0.out, hw]
              have Hd2 := hide hd2
              have Hc6 := hide hc6
              clear Hd0 Ht5 hw hd2 hc6 ht6 hlt6 h6
              by_cases ht : 0 ≤ 63 - (a : Int) - (k : Int)
              · have h64 : (64 - (a : Int) - (63 - (a : Int) - (k : Int))).toNat = k + 1 := by omega
                have hb : bodyR L { c with p := c.p + 1 + 1 + 5 + 6, lead := (a : Int), tail := 63 - (a : Int) - (k : Int), win := true } =
                    match tk L (k + 1) { c with p := c.p + 1 + 1 + 5 + 6, lead := (a : Int), tail := 63 - (a : Int) - (k : Int), win := true } with
                    | .error e => .error e
                    | .ok (x, s1) => .ok (x * 2 ^ (63 - (a : Int) - (k : Int)).toNat % 18446744073709551616, s1) := by
                  unfold bodyR
                  rw [if_pos ⟨rfl, ht⟩]
                  simp only [h64]
                  rfl
                have hd3 := Hd2.out.trans hb
                have Hd3 := hide hd3
                clear hb hd3 Hd2 h64
                by_cases h7 : c.p + 1 + 1 + 5 + 6 + (k + 1) ≤ 8 * s.size
                · have ht7 : tk L (k + 1) { c with p := c.p + 1 + 1 + 5 + 6, lead := (a : Int), tail := 63 - (a : Int) - (k : Int), win := true } = .ok (numOf ((L.drop (c.p + 1 + 1 + 5 + 6)).take (k + 1)), { c with p := c.p + 1 + 1 + 5 + 6 + (k + 1), lead := (a : Int), tail := 63 - (a : Int) - (k : Int), win := true }) := tk_ok (by have := HLl.out; simp only; omega)
                  have hc7 := fun W hW K hK => hok { c with p := c.p + 1 + 1 + 5 + 6, lead := (a : Int), tail := 63 - (a : Int) - (k : Int), win := true } (k + 1) K hK (by omega) W hW h7
                  simp only at hc7
                  generalize numOf ((L.drop (c.p + 1 + 1 + 5 + 6)).take (k + 1)) = x at ht7 hc7
                  have hd4 : difR L c = .ok (x * 2 ^ (63 - (a : Int) - (k : Int)).toNat % 18446744073709551616, { c with p := c.p + 1 + 1 + 5 + 6 + (k + 1), lead := (a : Int), tail := 63 - (a : Int) - (k : Int), win := true }) := by rw [Hd3.out, ht7]
                  have Hd := hide hd4
                  have Hc7 := hide hc7
                  clear hd4 Hd3 ht7 hc7 h7
                  go_enter Tryd.func62, Tryd.ntmps62
                  go_wp2_with fail
                  refine Hc1.out.mono ?_
                  rintro e w1 ⟨rfl, hR1, hf1⟩
                  clear Hc1
                  go_wp2_with fail
                  refine (Hc2.out _ hR1).mono ?_
                  rintro e w2 ⟨rfl, hR2, hf2⟩
                  clear Hc2
                  go_wp2_with fail
                  refine (Hc5.out _ hR2).mono ?_
                  rintro e w3 ⟨rfl, hR3, hf3⟩
                  clear Hc5
                  have f7 := hR3.st.frozen 7
                  have y7 : w3.cell? ⟨g, 7, none⟩ = some (.int .i64 c.lead) := hR3.st.cell 7
                  have y9 : w3.cell? ⟨g, 9, none⟩ = some (.bool c.win) := hR3.st.cell 9
                  have f9 := hR3.st.frozen 9
                  have hF3 := ((frm_h (g := g) hf1).trans (frm_h (g := g) hf2) (fun x hx => .inl hx)).trans (frm_h (g := g) hf3) (fun x hx => .inl hx)
                  have hR4 := hR3.lead (a : Int)
                  have hF4 := frm_set (frm_set hF3 7 (.int .i64 (a : Int))) 9 (.bool true)
                  have x8 : ((w3.setCell ⟨g, 7, none⟩ (.int .i64 (a : Int))).setCell ⟨g, 9, none⟩ (.bool true)).cell? ⟨g, 8, none⟩ = some (.int .i64 c.tail) := hR4.st.cell 8
                  have x7 : ((w3.setCell ⟨g, 7, none⟩ (.int .i64 (a : Int))).setCell ⟨g, 9, none⟩ (.bool true)).cell? ⟨g, 7, none⟩ = some (.int .i64 (a : Int)) := hR4.st.cell 7
                  go_wp2_with fail
                  go_region_held3 (fun w' => w'.cell? ⟨g, 7, none⟩ = some (.int .i64 (a : Int))) (first | exact u7 | exact x7 | exact (hR5.st.set_ 8 _).cell 7 | go_keep) (first | (go_at_call 59; refine (Hc6.out _ (hR4.quiet ((Frm.refl [] _).drew))).mono ?_; rintro e w5 ⟨rfl, hR5, hf5⟩; have u7 : w5.cell? ⟨g, 7, none⟩ = some (.int .i64 (a : Int)) := hR5.st.cell 7; have u8 : w5.cell? ⟨g, 8, none⟩ = some (.int .i64 c.tail) := hR5.st.cell 8; have v8 := hR5.st.frozen 8; have u9 : w5.cell? ⟨g, 9, none⟩ = some (.bool true) := hR5.st.cell 9))
                  have hR6 := hR5.tail (63 - (a : Int) - (k : Int))
                  have hF5 := frm_set (hF4.drew.trans (frm_h (g := g) hf5) (fun x hx => .inl hx)) 8 (.int .i64 (63 - (a : Int) - (k : Int)))
                  go_wp2_with fail
                  rw [show decide ((k : Int) ≤ 63 - (a : Int)) = true from decide_eq_true (by omega)]
                  refine (must_ok _ _ _).mono ?_
                  rintro e w' ⟨rfl, rfl⟩
                  go_wp2_with fail
                  go_region_held3 (fun w' => w'.cell? ⟨g, 7, none⟩ = some (.int .i64 (a : Int)) ∧ w'.cell? ⟨g, 8, none⟩ = some (.int .i64 (63 - (a : Int) - (k : Int)))) (first | exact ⟨m7, m8⟩ | exact ⟨hR6.st.cell 7, hR6.st.cell 8⟩ | go_keep) (first | (go_at_call 59; refine (Hc7.out _ (hR6.quiet ((Frm.refl [] _).drew)) _ (by first | omega | (simp only [IntKind.wrap_i64]; omega))).mono ?_; rintro e w7 ⟨rfl, hR7, hf7⟩; have m7 : w7.cell? ⟨g, 7, none⟩ = some (.int .i64 (a : Int)) := hR7.st.cell 7; have m8 : w7.cell? ⟨g, 8, none⟩ = some (.int .i64 (63 - (a : Int) - (k : Int))) := hR7.st.cell 8))
                  go_wp2_with fail
                  go_ret
                  rw [Hd.out]
                  exact ⟨congrArg (fun x => Ending.returned (.int .u64 x)) (shl_is x a k), hR7, hF5.drew.trans (frm_h (g := g) hf7) (fun x hx => .inl hx)⟩
                · have ht7 : tk L (k + 1) { c with p := c.p + 1 + 1 + 5 + 6, lead := (a : Int), tail := 63 - (a : Int) - (k : Int), win := true } = .error 20 := tk_no (by have := HLl.out; simp only; omega)
                  have hc7 := fun W hW K hK => hno { c with p := c.p + 1 + 1 + 5 + 6, lead := (a : Int), tail := 63 - (a : Int) - (k : Int), win := true } (k + 1) K hK (by omega) W hW h7
                  have hd4 : difR L c = .error 20 := by rw [Hd3.out, ht7]
                  have Hd := hide hd4
                  have Hc7 := hide hc7
                  clear hd4 Hd3 ht7 hc7 h7
                  go_enter Tryd.func62, Tryd.ntmps62
                  go_wp2_with fail
                  refine Hc1.out.mono ?_
                  rintro e w1 ⟨rfl, hR1, hf1⟩
                  clear Hc1
                  go_wp2_with fail
                  refine (Hc2.out _ hR1).mono ?_
                  rintro e w2 ⟨rfl, hR2, hf2⟩
                  clear Hc2
                  go_wp2_with fail
                  refine (Hc5.out _ hR2).mono ?_
                  rintro e w3 ⟨rfl, hR3, hf3⟩
                  clear Hc5
                  have f7 := hR3.st.frozen 7
                  have y7 : w3.cell? ⟨g, 7, none⟩ = some (.int .i64 c.lead) := hR3.st.cell 7
                  have y9 : w3.cell? ⟨g, 9, none⟩ = some (.bool c.win) := hR3.st.cell 9
                  have f9 := hR3.st.frozen 9
                  have hF3 := ((frm_h (g := g) hf1).trans (frm_h (g := g) hf2) (fun x hx => .inl hx)).trans (frm_h (g := g) hf3) (fun x hx => .inl hx)
                  have hR4 := hR3.lead (a : Int)
                  have hF4 := frm_set (frm_set hF3 7 (.int .i64 (a : Int))) 9 (.bool true)
                  have x8 : ((w3.setCell ⟨g, 7, none⟩ (.int .i64 (a : Int))).setCell ⟨g, 9, none⟩ (.bool true)).cell? ⟨g, 8, none⟩ = some (.int .i64 c.tail) := hR4.st.cell 8
                  have x7 : ((w3.setCell ⟨g, 7, none⟩ (.int .i64 (a : Int))).setCell ⟨g, 9, none⟩ (.bool true)).cell? ⟨g, 7, none⟩ = some (.int .i64 (a : Int)) := hR4.st.cell 7
                  go_wp2_with fail
                  go_region_held3 (fun w' => w'.cell? ⟨g, 7, none⟩ = some (.int .i64 (a : Int))) (first | exact u7 | exact x7 | exact (hR5.st.set_ 8 _).cell 7 | go_keep) (first | (go_at_call 59; refine (Hc6.out _ (hR4.quiet ((Frm.refl [] _).drew))).mono ?_; rintro e w5 ⟨rfl, hR5, hf5⟩; have u7 : w5.cell? ⟨g, 7, none⟩ = some (.int .i64 (a : Int)) := hR5.st.cell 7; have u8 : w5.cell? ⟨g, 8, none⟩ = some (.int .i64 c.tail) := hR5.st.cell 8; have v8 := hR5.st.frozen 8; have u9 : w5.cell? ⟨g, 9, none⟩ = some (.bool true) := hR5.st.cell 9))
                  have hR6 := hR5.tail (63 - (a : Int) - (k : Int))
                  have hF5 := frm_set (hF4.drew.trans (frm_h (g := g) hf5) (fun x hx => .inl hx)) 8 (.int .i64 (63 - (a : Int) - (k : Int)))
                  go_wp2_with fail
                  rw [show decide ((k : Int) ≤ 63 - (a : Int)) = true from decide_eq_true (by omega)]
                  refine (must_ok _ _ _).mono ?_
                  rintro e w' ⟨rfl, rfl⟩
                  go_wp2_with fail
                  go_region_with (first | (go_at_call 59; refine (Hc7.out _ (hR6.quiet ((Frm.refl [] _).drew)) _ (by first | omega | (simp only [IntKind.wrap_i64]; omega))).mono ?_; rintro e w7 ⟨rfl, hf7⟩; unfold thr; go_simp; refine panic_out ⟨rfl, by { rw [Hd.out]; exact ⟨rfl, hF5.drew.trans (frm_0 (g := g) (h := h) hf7) (fun x hx => .inl hx)⟩ }⟩ ?_))
                  all_goals trivial
              · have hb : bodyR L { c with p := c.p + 1 + 1 + 5 + 6, lead := (a : Int), tail := 63 - (a : Int) - (k : Int), win := true } = .error 21 := by unfold bodyR; rw [if_neg (fun h => ht h.2)]
                have hd3 := Hd2.out.trans hb
                have Hd := hide hd3
                clear hb hd3 Hd2
                go_enter Tryd.func62, Tryd.ntmps62
                go_wp2_with fail
                refine Hc1.out.mono ?_
                rintro e w1 ⟨rfl, hR1, hf1⟩
                clear Hc1
                go_wp2_with fail
                refine (Hc2.out _ hR1).mono ?_
                rintro e w2 ⟨rfl, hR2, hf2⟩
                clear Hc2
                go_wp2_with fail
                refine (Hc5.out _ hR2).mono ?_
                rintro e w3 ⟨rfl, hR3, hf3⟩
                clear Hc5
                have f7 := hR3.st.frozen 7
                have y7 : w3.cell? ⟨g, 7, none⟩ = some (.int .i64 c.lead) := hR3.st.cell 7
                have y9 : w3.cell? ⟨g, 9, none⟩ = some (.bool c.win) := hR3.st.cell 9
                have f9 := hR3.st.frozen 9
                have hF3 := ((frm_h (g := g) hf1).trans (frm_h (g := g) hf2) (fun x hx => .inl hx)).trans (frm_h (g := g) hf3) (fun x hx => .inl hx)
                have hR4 := hR3.lead (a : Int)
                have hF4 := frm_set (frm_set hF3 7 (.int .i64 (a : Int))) 9 (.bool true)
                have x8 : ((w3.setCell ⟨g, 7, none⟩ (.int .i64 (a : Int))).setCell ⟨g, 9, none⟩ (.bool true)).cell? ⟨g, 8, none⟩ = some (.int .i64 c.tail) := hR4.st.cell 8
                have x7 : ((w3.setCell ⟨g, 7, none⟩ (.int .i64 (a : Int))).setCell ⟨g, 9, none⟩ (.bool true)).cell? ⟨g, 7, none⟩ = some (.int .i64 (a : Int)) := hR4.st.cell 7
                go_wp2_with fail
                go_region_held3 (fun w' => w'.cell? ⟨g, 7, none⟩ = some (.int .i64 (a : Int))) (first | exact u7 | exact x7 | exact (hR5.st.set_ 8 _).cell 7 | go_keep) (first | (go_at_call 59; refine (Hc6.out _ (hR4.quiet ((Frm.refl [] _).drew))).mono ?_; rintro e w5 ⟨rfl, hR5, hf5⟩; have u7 : w5.cell? ⟨g, 7, none⟩ = some (.int .i64 (a : Int)) := hR5.st.cell 7; have u8 : w5.cell? ⟨g, 8, none⟩ = some (.int .i64 c.tail) := hR5.st.cell 8; have v8 := hR5.st.frozen 8; have u9 : w5.cell? ⟨g, 9, none⟩ = some (.bool true) := hR5.st.cell 9))
                have hR6 := hR5.tail (63 - (a : Int) - (k : Int))
                have hF5 := frm_set (hF4.drew.trans (frm_h (g := g) hf5) (fun x hx => .inl hx)) 8 (.int .i64 (63 - (a : Int) - (k : Int)))
                go_wp2_with fail
                rw [show decide ((k : Int) ≤ 63 - (a : Int)) = false from decide_eq_false (by omega)]
                refine (must_no _ _ _).mono ?_
                rintro e w' ⟨rfl, rfl⟩
                unfold thr
                go_wp2_with fail
                refine ⟨rfl, ?_⟩
                rw [Hd.out]
                exact ⟨rfl, hF5⟩
            · have hw : winR L { c with p := c.p + 1 + 1 } = .error 20 := by
                unfold winR; rw [Ht5.out]; simp only; rw [tk_no (by have := HLl.out; simp only; omega)]
              have hd2 : difR L c = .error 20 := by rw [Hd0.out, hw]
              have hc6 := fun W hW => hno { c with p := c.p + 1 + 1 + 5, lead := (a : Int), win := true } 6 6 rfl (by decide) W hW h6
              have Hd := hide hd2
              have Hc6 := hide hc6
              clear Hd0 Ht5 hw hd2 hc6 h6
              go_enter Tryd.func62, Tryd.ntmps62
              go_wp2_with fail
              refine Hc1.out.mono ?_
              rintro e w1 ⟨rfl, hR1, hf1⟩
              clear Hc1
              go_wp2_with fail
              refine (Hc2.out _ hR1).mono ?_
              rintro e w2 ⟨rfl, hR2, hf2⟩
              clear Hc2
              go_wp2_with fail
              refine (Hc5.out _ hR2).mono ?_
              rintro e w3 ⟨rfl, hR3, hf3⟩
              clear Hc5
              have f7 := hR3.st.frozen 7
              have y7 : w3.cell? ⟨g, 7, none⟩ = some (.int .i64 c.lead) := hR3.st.cell 7
              have y9 : w3.cell? ⟨g, 9, none⟩ = some (.bool c.win) := hR3.st.cell 9
              have f9 := hR3.st.frozen 9
              have hF3 := ((frm_h (g := g) hf1).trans (frm_h (g := g) hf2) (fun x hx => .inl hx)).trans (frm_h (g := g) hf3) (fun x hx => .inl hx)
              have hR4 := hR3.lead (a : Int)
              have hF4 := frm_set (frm_set hF3 7 (.int .i64 (a : Int))) 9 (.bool true)
              have x8 : ((w3.setCell ⟨g, 7, none⟩ (.int .i64 (a : Int))).setCell ⟨g, 9, none⟩ (.bool true)).cell? ⟨g, 8, none⟩ = some (.int .i64 c.tail) := hR4.st.cell 8
              have x7 : ((w3.setCell ⟨g, 7, none⟩ (.int .i64 (a : Int))).setCell ⟨g, 9, none⟩ (.bool true)).cell? ⟨g, 7, none⟩ = some (.int .i64 (a : Int)) := hR4.st.cell 7
              go_wp2_with fail
              go_region_with (first | (go_at_call 59; refine (Hc6.out _ (hR4.quiet ((Frm.refl [] _).drew))).mono ?_; rintro e w5 ⟨rfl, hf5⟩; unfold thr; go_simp; refine panic_out ⟨rfl, by { rw [Hd.out]; exact ⟨rfl, hF4.drew.trans (frm_0 (g := g) (h := h) hf5) (fun x hx => .inl hx)⟩ }⟩ ?_))
              all_goals trivial
          · have hw : winR L { c with p := c.p + 1 + 1 } = .error 20 := by
              unfold winR; rw [tk_no (by have := HLl.out; simp only; omega)]
            have hd2 : difR L c = .error 20 := by rw [Hd0.out, hw]
            have hc5 := fun W hW => hno { c with p := c.p + 1 + 1 } 5 5 rfl (by decide) W hW h5
            have Hd := hide hd2
            have Hc5 := hide hc5
            clear Hd0 hw hd2 hc5 h5
            go_enter Tryd.func62, Tryd.ntmps62
            go_wp2_with fail
            refine Hc1.out.mono ?_
            rintro e w1 ⟨rfl, hR1, hf1⟩
            clear Hc1
            go_wp2_with fail
            refine (Hc2.out _ hR1).mono ?_
            rintro e w2 ⟨rfl, hR2, hf2⟩
            clear Hc2
            go_wp2_with fail
            refine (Hc5.out _ hR2).mono ?_
            rintro e w3 ⟨rfl, hf3⟩
            unfold thr
            go_wp2_with fail
            refine ⟨rfl, ?_⟩
            rw [Hd.out]
            exact ⟨rfl, ((frm_h (g := g) hf1).trans (frm_h (g := g) hf2) (fun x hx => .inl hx)).trans (frm_0 (g := g) (h := h) hf3) (fun x hx => .inl hx)⟩
      · have hd2 : difR L c = .error 20 := by
          unfold difR; rw [ht1]; simp only; rw [if_neg (by decide), tk_no (by have := HLl.out; simp only; omega)]
        have hc2 := fun W hW => hno { c with p := c.p + 1 } 1 1 rfl (by decide) W hW h2
        have Hd := hide hd2
        have Hc2 := hide hc2
        clear ht1 hd2 hc2 h2
        go_enter Tryd.func62, Tryd.ntmps62
        go_wp2_with fail
        refine Hc1.out.mono ?_
        rintro e w1 ⟨rfl, hR1, hf1⟩
        clear Hc1
        go_wp2_with fail
        refine (Hc2.out _ hR1).mono ?_
        rintro e w2 ⟨rfl, hf2⟩
        unfold thr
        go_wp2_with fail
        refine ⟨rfl, ?_⟩
        rw [Hd.out]
        exact ⟨rfl, (frm_h (g := g) hf1).trans (frm_0 (g := g) (h := h) hf2) (fun x hx => .inl hx)⟩
  · have hd2 : difR L c = .error 20 := by
      unfold difR; rw [tk_no (by have := HLl.out; omega)]
    have hc1 := hno c 1 1 rfl (by decide) _ H h1
    have Hd := hide hd2
    have Hc1 := hide hc1
    clear hd2 hc1 h1
    go_enter Tryd.func62, Tryd.ntmps62
    go_wp2_with fail
    refine Hc1.out.mono ?_
    rintro e w1 ⟨rfl, hf1⟩
    unfold thr
    go_wp2_with fail
    refine ⟨rfl, ?_⟩
    rw [Hd.out]
    exact ⟨rfl, frm_0 hf1⟩
end Go.Proofs.YtdnllmibchmnnaaDoor
