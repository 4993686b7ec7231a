/-
  The contract of (*chunk.reader).change.
-/
import Derived.Test.YtdnllmibchmnnaaDoorRdw
import Derived.Test.YtdnllmibchmnnaaDoorChw
namespace Go.Proofs.YtdnllmibchmnnaaDoor
set_option linter.unusedVariables false
set_option linter.unusedSimpArgs false
open Go.RowKit Go.BigFrame

theorem unpack_len (s : ByteArray) : (unpack (bl s)).length = 8 * s.size := by rw [unpack_length, bl_length]
/-- One bit. -/
theorem one_bit (L : List Bool) (p : Nat) (h : p < L.length) : numOf ((L.drop p).take 1) = (L.getD p false).toNat := by
  have e : (L.drop p).take 1 = [L.getD p false] := by
    rw [List.take_one, List.head?_drop, List.getD_eq_getElem?_getD, List.getElem?_eq_getElem h]; rfl
  rw [e]
  cases L.getD p false <;> rfl
theorem num_lt (L : List Bool) (p k : Nat) (hk : k ≤ 64) : numOf ((L.drop p).take k) < 2 ^ k := by
  have h1 := numOf_lt ((L.drop p).take k)
  have h2 : ((L.drop p).take k).length ≤ k := List.length_take_le _ _
  exact Nat.lt_of_lt_of_le h1 (Nat.pow_le_pow_right (by decide) h2)
theorem sh7 (x : Nat) (h : x < 128) : wrap64 (IntKind.u64.wrap ((x : Int) * 144115188075855872)) / 144115188075855872 = sgn 7 x := by
  unfold sgn wrap64
  rw [IntKind.wrap_u64, show (2 : Nat) ^ (7 - 1) = 64 from by decide, show (2 : Int) ^ 7 = 128 from by decide]
  split <;> omega
theorem sh9 (x : Nat) (h : x < 512) : wrap64 (IntKind.u64.wrap ((x : Int) * 36028797018963968)) / 36028797018963968 = sgn 9 x := by
  unfold sgn wrap64
  rw [IntKind.wrap_u64, show (2 : Nat) ^ (9 - 1) = 256 from by decide, show (2 : Int) ^ 9 = 512 from by decide]
  split <;> omega
theorem sh12 (x : Nat) (h : x < 4096) : wrap64 (IntKind.u64.wrap ((x : Int) * 4503599627370496)) / 4503599627370496 = sgn 12 x := by
  unfold sgn wrap64
  rw [IntKind.wrap_u64, show (2 : Nat) ^ (12 - 1) = 2048 from by decide, show (2 : Int) ^ 12 = 4096 from by decide]
  split <;> omega
theorem sh64 (x : Nat) (h : x < 18446744073709551616) : wrap64 (IntKind.u64.wrap (x : Int)) = sgn 64 x := by
  unfold sgn wrap64
  rw [IntKind.wrap_u64, show (2 : Nat) ^ (64 - 1) = 9223372036854775808 from by decide, show (2 : Int) ^ 64 = 18446744073709551616 from by decide]
  split <;> omega

theorem RdOut.frm {s : ByteArray} {g h : Nat} {w w0 : World} {α : Type} {val : α → Value} {r : Except Int (α × Rs)} {e : Ending} {w' : World} (hf : Frm [g, h] w0 w) (H : RdOut s g h w val r e w') : RdOut s g h w0 val r e w' := by
  cases r with
  | ok r => exact ⟨H.1, H.2.1, hf.trans H.2.2 (fun x hx => .inl hx)⟩
  | error x => exact ⟨H.1, hf.trans H.2 (fun x hx => .inl hx)⟩
theorem frm_h {g h : Nat} {a w : World} (hf : Frm [h] a w) : Frm [g, h] a w := hf.mono (fun x hx => .inl (List.mem_cons_of_mem _ hx))
theorem frm_0 {g h : Nat} {a w : World} (hf : Frm [] a w) : Frm [g, h] a w := hf.mono (fun x hx => by cases hx)
theorem frm_then {S : List Nat} {a b c : World} (hf : Frm S a b) (hk : Frm [] b c) : Frm S a c := hf.trans hk (fun x hx => by cases hx)

theorem fld0 (W : World) : (Instr.field 85 (.agg #[.int .u64 2, .int .i64 2, .int .i64 7]) 2).run Tryd.prog W = .ok (.int .i64 7) W := by kernel_rfl
theorem fld1 (W : World) : (Instr.field 85 (.agg #[.int .u64 6, .int .i64 3, .int .i64 9]) 2).run Tryd.prog W = .ok (.int .i64 9) W := by kernel_rfl
theorem fld2 (W : World) : (Instr.field 85 (.agg #[.int .u64 14, .int .i64 4, .int .i64 12]) 2).run Tryd.prog W = .ok (.int .i64 12) W := by kernel_rfl
theorem fld3 (W : World) : (Instr.field 85 (.agg #[.int .u64 15, .int .i64 4, .int .i64 64]) 2).run Tryd.prog W = .ok (.int .i64 64) W := by kernel_rfl

def iV (x : Int) : Value := .int .i64 x

set_option maxRecDepth 100000 in
set_option maxHeartbeats 8000000 in
theorem rdchange_any (g h : Nat) (s : ByteArray) (hs : s.size ≤ 140737488355328) (c : Rs) (w : World) (H : RdAt w g h s c) :
    Calls Tryd.prog 60 #[.pointer (some ⟨g, 0, none⟩)] w (RdOut s g h w iV (chgR (unpack (bl s)) c)) := by
  obtain ⟨L, hL⟩ : ∃ L, unpack (bl s) = L := ⟨_, rfl⟩
  have hLl : L.length = 8 * s.size := by rw [← hL]; exact unpack_len s
  have hok : ∀ (c : Rs) (k : Nat) (K : Int), K = (k : Int) → k ≤ 64 → ∀ w, RdAt w g h s c → c.p + k ≤ 8 * s.size →
      Calls Tryd.prog 59 #[.pointer (some ⟨g, 0, none⟩), .int .i64 K] w fun e w' => e = .returned (.int .u64 ((numOf ((L.drop c.p).take k) : Nat) : Int)) ∧ RdAt w' g h s { c with p := c.p + k } ∧ Frm [h] w w' := by
    intro c k K hK hk w H hp
    have := rbits_ok g h s hs c k K hK hk w H hp
    rwa [hL] at this
  have hno : ∀ (c : Rs) (k : Nat) (K : Int), K = (k : Int) → k ≤ 64 → ∀ w, RdAt w g h s c → ¬ c.p + k ≤ 8 * s.size →
      Calls Tryd.prog 59 #[.pointer (some ⟨g, 0, none⟩), .int .i64 K] w fun e w' => e = thr 20 ∧ Frm [] w w' := fun c k K hK hk w H hp => rbits_no g h s hs c k K hK hk w H hp
  rw [hL]
  have HLl := hide hLl
  clear hL hLl
  have hsz := fun W => sizes_any W
  go_enter Tryd.func60, Tryd.ntmps60
  go_wp2_with fail
  go_loopw [3] (fun t3 wr => ∃ m : Nat, m ≤ 4 ∧ t3 = .int .i64 (m : Int) ∧ RdAt wr g h s { c with p := c.p + m } ∧ Frm [h] w wr ∧ Hid (∀ j, j < m → c.p + j < L.length ∧ L.getD (c.p + j) false = true)) (fun t3 _ => 4 - (intOf t3).toNat)
  case atStart => exact ⟨0, by omega, rfl, H, Frm.refl _ _, hide (fun j hj => by omega)⟩
  case round =>
    obtain ⟨m, hm, rfl, hR, hfr, hall⟩ := hrel
    have hmf := marks_from L 4 c.p m hm hall.out
    by_cases h4 : m < 4
    · have Hmf := hide hmf
      clear hmf
      obtain ⟨f, hf⟩ : ∃ f, 4 - m = f + 1 := ⟨3 - m, by omega⟩
      by_cases hav : c.p + m < L.length
      · have hb := one_bit L (c.p + m) hav
        have hcall := hok { c with p := c.p + m } 1 1 rfl (by decide) _ hR (by have := HLl.out; simp only; omega)
        simp only [hb] at hcall
        clear hb
        cases hbit : L.getD (c.p + m) false with
        | true =>
          rw [hbit] at hcall
          have hnew : Hid (∀ j, j < m + 1 → c.p + j < L.length ∧ L.getD (c.p + j) false = true) := hide (fun j hj => by
            by_cases e : j = m
            · subst e; exact ⟨hav, hbit⟩
            · exact hall.out j (by omega))
          clear hbit hav hf
          have Hcall := hide hcall
          clear hcall
          go_wp2_with fail
          refine Hcall.out.mono ?_
          rintro e w1 ⟨rfl, hR1, hf1⟩
          clear Hcall
          go_wp2_with fail
          go_roundw
          case measure => simp [intOf]; omega
          case rel => exact ⟨m + 1, by omega, by go_num, hR1, hfr.trans hf1 (fun x hx => .inl hx), hnew⟩
        | false =>
          rw [hbit] at hcall
          have hmm : marks L 4 c.p = some (m, c.p + m + 1) := by rw [Hmf.out, hf, marks_no hav hbit]; simp
          have Hmm := hide hmm
          clear hbit hmm hf hav Hmf hall
          have Hcall := hide hcall
          clear hcall
          go_wp2_with fail
          refine Hcall.out.mono ?_
          rintro e w1 ⟨rfl, hR1, hf1⟩
          clear Hcall
          have hfr1 := frm_h (g := g) (hfr.trans hf1 (fun x hx => .inl hx))
          clear hR hfr hf1 H
          rcases (by omega : m = 0 ∨ m = 1 ∨ m = 2 ∨ m = 3) with rfl | rfl | rfl | rfl
          · have hrs : chgR L c = .ok (0, { c with p := c.p + 0 + 1 }) := by unfold chgR; rw [Hmm.out]; rfl
            have Hrs := hide hrs
            clear hrs Hmm
            go_wp2_with fail
            go_ret
            rw [Hrs.out]
            exact ⟨rfl, hR1, hfr1⟩
          · skip
            have hrs : chgR L c = match tk L 7 { c with p := c.p + 1 + 1 } with | .error e => .error e | .ok (x, s1) => .ok (sgn 7 x, s1) := by unfold chgR; rw [Hmm.out]; rfl
            have Hrs := hide hrs
            clear hrs Hmm
            have hi := size0
            have hfd := fld0
            by_cases hfit : c.p + 1 + 1 + 7 ≤ 8 * s.size
            · have htk : tk L 7 { c with p := c.p + 1 + 1 } = .ok (numOf ((L.drop (c.p + 1 + 1)).take 7), { c with p := c.p + 1 + 1 + 7 }) := tk_ok (by have := HLl.out; simp only; omega)
              have Htk := hide htk
              have hcall := fun W hW => hok { c with p := c.p + 1 + 1 } 7 7 rfl (by decide) W hW hfit
              have hlt := num_lt L (c.p + 1 + 1) 7 (by decide)
              clear htk hfit
              simp only at hcall
              generalize numOf ((L.drop (c.p + 1 + 1)).take 7) = x at hcall Htk hlt
              have hsh := sh7 x hlt
              have Hsh := hide hsh
              clear hsh hlt
              go_wp2_with fail
              refine (hsz _).mono ?_
              rintro e w2 ⟨rfl, hf2⟩
              go_wp2_with fail
              refine (hcall _ (hR1.quiet hf2)).mono ?_
              rintro e w3 ⟨rfl, hR3, hf3⟩
              go_wp2_with fail
              go_ret
              rw [Hrs.out, Htk.out]
              exact ⟨by first | exact congrArg (fun x => Ending.returned (.int .i64 x)) Hsh.out | (rw [← Hsh.out]; rfl), hR3, (frm_then hfr1 hf2).trans hf3 (fun x hx => .inl (List.mem_cons_of_mem _ hx))⟩
            · have htk : tk L 7 { c with p := c.p + 1 + 1 } = .error 20 := tk_no (by have := HLl.out; simp only; omega)
              have Htk := hide htk
              have hcall := fun W hW => hno { c with p := c.p + 1 + 1 } 7 7 rfl (by decide) W hW hfit
              clear htk hfit
              go_wp2_with fail
              refine (hsz _).mono ?_
              rintro e w2 ⟨rfl, hf2⟩
              go_wp2_with fail
              refine (hcall _ (hR1.quiet hf2)).mono ?_
              rintro e w3 ⟨rfl, hf3⟩
              unfold thr
              go_wp2_with fail
              refine ⟨rfl, ?_⟩
              rw [Hrs.out, Htk.out]
              exact ⟨rfl, frm_then (frm_then hfr1 hf2) hf3⟩
          · skip
            have hrs : chgR L c = match tk L 9 { c with p := c.p + 2 + 1 } with | .error e => .error e | .ok (x, s1) => .ok (sgn 9 x, s1) := by unfold chgR; rw [Hmm.out]; rfl
            have Hrs := hide hrs
            clear hrs Hmm
            have hi := size1
            have hfd := fld1
            by_cases hfit : c.p + 2 + 1 + 9 ≤ 8 * s.size
            · have htk : tk L 9 { c with p := c.p + 2 + 1 } = .ok (numOf ((L.drop (c.p + 2 + 1)).take 9), { c with p := c.p + 2 + 1 + 9 }) := tk_ok (by have := HLl.out; simp only; omega)
              have Htk := hide htk
              have hcall := fun W hW => hok { c with p := c.p + 2 + 1 } 9 9 rfl (by decide) W hW hfit
              have hlt := num_lt L (c.p + 2 + 1) 9 (by decide)
              clear htk hfit
              simp only at hcall
              generalize numOf ((L.drop (c.p + 2 + 1)).take 9) = x at hcall Htk hlt
              have hsh := sh9 x hlt
              have Hsh := hide hsh
              clear hsh hlt
              go_wp2_with fail
              refine (hsz _).mono ?_
              rintro e w2 ⟨rfl, hf2⟩
              go_wp2_with fail
              refine (hcall _ (hR1.quiet hf2)).mono ?_
              rintro e w3 ⟨rfl, hR3, hf3⟩
              go_wp2_with fail
              go_ret
              rw [Hrs.out, Htk.out]
              exact ⟨by first | exact congrArg (fun x => Ending.returned (.int .i64 x)) Hsh.out | (rw [← Hsh.out]; rfl), hR3, (frm_then hfr1 hf2).trans hf3 (fun x hx => .inl (List.mem_cons_of_mem _ hx))⟩
            · have htk : tk L 9 { c with p := c.p + 2 + 1 } = .error 20 := tk_no (by have := HLl.out; simp only; omega)
              have Htk := hide htk
              have hcall := fun W hW => hno { c with p := c.p + 2 + 1 } 9 9 rfl (by decide) W hW hfit
              clear htk hfit
              go_wp2_with fail
              refine (hsz _).mono ?_
              rintro e w2 ⟨rfl, hf2⟩
              go_wp2_with fail
              refine (hcall _ (hR1.quiet hf2)).mono ?_
              rintro e w3 ⟨rfl, hf3⟩
              unfold thr
              go_wp2_with fail
              refine ⟨rfl, ?_⟩
              rw [Hrs.out, Htk.out]
              exact ⟨rfl, frm_then (frm_then hfr1 hf2) hf3⟩
          · skip
            have hrs : chgR L c = match tk L 12 { c with p := c.p + 3 + 1 } with | .error e => .error e | .ok (x, s1) => .ok (sgn 12 x, s1) := by unfold chgR; rw [Hmm.out]; rfl
            have Hrs := hide hrs
            clear hrs Hmm
            have hi := size2
            have hfd := fld2
            by_cases hfit : c.p + 3 + 1 + 12 ≤ 8 * s.size
            · have htk : tk L 12 { c with p := c.p + 3 + 1 } = .ok (numOf ((L.drop (c.p + 3 + 1)).take 12), { c with p := c.p + 3 + 1 + 12 }) := tk_ok (by have := HLl.out; simp only; omega)
              have Htk := hide htk
              have hcall := fun W hW => hok { c with p := c.p + 3 + 1 } 12 12 rfl (by decide) W hW hfit
              have hlt := num_lt L (c.p + 3 + 1) 12 (by decide)
              clear htk hfit
              simp only at hcall
              generalize numOf ((L.drop (c.p + 3 + 1)).take 12) = x at hcall Htk hlt
              have hsh := sh12 x hlt
              have Hsh := hide hsh
              clear hsh hlt
              go_wp2_with fail
              refine (hsz _).mono ?_
              rintro e w2 ⟨rfl, hf2⟩
              go_wp2_with fail
              refine (hcall _ (hR1.quiet hf2)).mono ?_
              rintro e w3 ⟨rfl, hR3, hf3⟩
              go_wp2_with fail
              go_ret
              rw [Hrs.out, Htk.out]
              exact ⟨by first | exact congrArg (fun x => Ending.returned (.int .i64 x)) Hsh.out | (rw [← Hsh.out]; rfl), hR3, (frm_then hfr1 hf2).trans hf3 (fun x hx => .inl (List.mem_cons_of_mem _ hx))⟩
            · have htk : tk L 12 { c with p := c.p + 3 + 1 } = .error 20 := tk_no (by have := HLl.out; simp only; omega)
              have Htk := hide htk
              have hcall := fun W hW => hno { c with p := c.p + 3 + 1 } 12 12 rfl (by decide) W hW hfit
              clear htk hfit
              go_wp2_with fail
              refine (hsz _).mono ?_
              rintro e w2 ⟨rfl, hf2⟩
              go_wp2_with fail
              refine (hcall _ (hR1.quiet hf2)).mono ?_
              rintro e w3 ⟨rfl, hf3⟩
              unfold thr
              go_wp2_with fail
              refine ⟨rfl, ?_⟩
              rw [Hrs.out, Htk.out]
              exact ⟨rfl, frm_then (frm_then hfr1 hf2) hf3⟩
      · have hmm : marks L 4 c.p = none := by rw [Hmf.out, hf, marks_end hav]; rfl
        have hrs : chgR L c = .error 20 := by unfold chgR; rw [hmm]
        have Hrs := hide hrs
        have hcall := hno { c with p := c.p + m } 1 1 rfl (by decide) _ hR (by have := HLl.out; simp only; omega)
        have Hcall := hide hcall
        clear hmm hrs hf hav Hmf hall hcall
        go_wp2_with fail
        refine Hcall.out.mono ?_
        rintro e w1 ⟨rfl, hf1⟩
        clear Hcall
        unfold thr
        go_wp2_with fail
        refine ⟨rfl, ?_⟩
        rw [Hrs.out]
        exact ⟨rfl, frm_h (frm_then hfr hf1)⟩
    · obtain rfl : m = 4 := by omega
      have hmm : marks L 4 c.p = some (4, c.p + 4) := by rw [hmf]; rfl
      have Hmm := hide hmm
      clear hmf hmm hall h4 H
      have hfr1 := frm_h (g := g) hfr
      have hR1 := hR
      clear hR hfr
      have hrs : chgR L c = match tk L 64 { c with p := c.p + 4 } with | .error e => .error e | .ok (x, s1) => .ok (sgn 64 x, s1) := by unfold chgR; rw [Hmm.out]; rfl
      have Hrs := hide hrs
      clear hrs Hmm
      have hi := size3
      have hfd := fld3
      by_cases hfit : c.p + 4 + 64 ≤ 8 * s.size
      · have htk : tk L 64 { c with p := c.p + 4 } = .ok (numOf ((L.drop (c.p + 4)).take 64), { c with p := c.p + 4 + 64 }) := tk_ok (by have := HLl.out; simp only; omega)
        have Htk := hide htk
        have hcall := fun W hW => hok { c with p := c.p + 4 } 64 64 rfl (by decide) W hW hfit
        have hlt := num_lt L (c.p + 4) 64 (by decide)
        clear htk hfit
        simp only at hcall
        generalize numOf ((L.drop (c.p + 4)).take 64) = x at hcall Htk hlt
        have hsh := sh64 x hlt
        have Hsh := hide hsh
        clear hsh hlt
        go_wp2_with fail
        refine (hsz _).mono ?_
        rintro e w2 ⟨rfl, hf2⟩
        go_wp2_with fail
        refine (hcall _ (hR1.quiet hf2)).mono ?_
        rintro e w3 ⟨rfl, hR3, hf3⟩
        go_wp2_with fail
        go_ret
        rw [Hrs.out, Htk.out]
        exact ⟨by first | exact congrArg (fun x => Ending.returned (.int .i64 x)) Hsh.out | (rw [← Hsh.out]; rfl), hR3, (frm_then hfr1 hf2).trans hf3 (fun x hx => .inl (List.mem_cons_of_mem _ hx))⟩
      · have htk : tk L 64 { c with p := c.p + 4 } = .error 20 := tk_no (by have := HLl.out; simp only; omega)
        have Htk := hide htk
        have hcall := fun W hW => hno { c with p := c.p + 4 } 64 64 rfl (by decide) W hW hfit
        clear htk hfit
        go_wp2_with fail
        refine (hsz _).mono ?_
        rintro e w2 ⟨rfl, hf2⟩
        go_wp2_with fail
        refine (hcall _ (hR1.quiet hf2)).mono ?_
        rintro e w3 ⟨rfl, hf3⟩
        unfold thr
        go_wp2_with fail
        refine ⟨rfl, ?_⟩
        rw [Hrs.out, Htk.out]
        exact ⟨rfl, frm_then (frm_then hfr1 hf2) hf3⟩

end Go.Proofs.YtdnllmibchmnnaaDoor
