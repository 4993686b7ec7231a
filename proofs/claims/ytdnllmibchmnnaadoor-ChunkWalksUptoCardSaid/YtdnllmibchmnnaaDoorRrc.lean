/-
  The contract of the document's stepChange.
-/
import Derived.Test.YtdnllmibchmnnaaDoorRrt
namespace Go.Proofs.YtdnllmibchmnnaaDoor
set_option linter.unusedVariables false
set_option linter.unusedSimpArgs false
open Go.RowKit Go.BigFrame

/-- The width behind so many marks. -/
def wdI (m : Nat) : Int := if m = 0 then 0 else (wdt m : Int)
theorem sgn_lo (x : Nat) (w : Nat) (h : x < 2 ^ (w - 1)) : sgn w x = (x : Int) := by unfold sgn; rw [if_pos h]
theorem sgn7_hi (x : Nat) (h : ¬ x < 64) : sgn 7 x = (x : Int) - 128 := by
  unfold sgn
  rw [if_neg (by simpa using h)]
  rfl
theorem sgn9_hi (x : Nat) (h : ¬ x < 256) : sgn 9 x = (x : Int) - 512 := by
  unfold sgn
  rw [if_neg (by simpa using h)]
  rfl
theorem sgn12_hi (x : Nat) (h : ¬ x < 2048) : sgn 12 x = (x : Int) - 4096 := by
  unfold sgn
  rw [if_neg (by simpa using h)]
  rfl
theorem sgn64_wrap (x : Nat) (h : x < 18446744073709551616) : wrap64 (x : Int) = sgn 64 x := by
  unfold sgn wrap64
  rw [show (2 : Nat) ^ (64 - 1) = 9223372036854775808 from by decide, show (2 : Int) ^ 64 = 18446744073709551616 from by decide]
  split <;> omega

set_option maxRecDepth 100000 in
set_option maxHeartbeats 8000000 in
theorem rstep_any (g : Nat) (V : Value) (L : List Bool) (hL : L.length ≤ 140737488355328) (c : Rs) (w : World) (H : RfAt w g V L c 0) :
    Calls Tryd.prog 40 #[.pointer (some ⟨g, 0, none⟩)] w (RfOut V L g w iV (.int .i64 0) (chgR L c)) := by
  have hok := fun (c : Rs) k K hK hk w H hp => rtake_ok g V L hL c k K hK hk w H hp
  have hno := fun (c : Rs) k K hK hk w H hp => rtake_no g V L hL c k K hK hk w H hp
  have hbad := fun (c : Rs) K w H => rtake_bad g V L c 20 (by decide) K w H
  go_enter Tryd.func40, Tryd.ntmps40
  go_wp2_with fail
  go_loopw [3, 4] (fun t3 t4 wr => ∃ m : Nat, m ≤ 4 ∧ t4 = .int .i64 (m : Int) ∧ t3 = .int .i64 (wdI m) ∧ RfAt wr g V L { c with p := c.p + m } 0 ∧ Frm [g] w wr ∧ Hid (∀ j, j < m → c.p + j < L.length ∧ L.getD (c.p + j) false = true)) (fun _ t4 _ => 4 - (intOf t4).toNat)
  case atStart => exact ⟨0, by omega, rfl, rfl, H, Frm.refl _ _, hide (fun j hj => by omega)⟩
  case round =>
    clear H
    obtain ⟨m, hm, rfl, rfl, hR, hfr, hall⟩ := hrel
    have hmf := marks_from L 4 c.p m hm hall.out
    rcases (by omega : m = 0 ∨ m = 1 ∨ m = 2 ∨ m = 3 ∨ m = 4) with rfl | rfl | rfl | rfl | rfl
    · have Hmf := hide hmf
      clear hmf
      by_cases hav : c.p + 0 < L.length
      · have hb := one_bit L (c.p + 0) hav
        have hcall := hok { c with p := c.p + 0 } 1 1 rfl (by decide) _ hR (by simp only; omega)
        simp only [hb] at hcall
        clear hb
        cases hbit : L.getD (c.p + 0) false with
        | true =>
          rw [hbit] at hcall
          have hnew : Hid (∀ j, j < 0 + 1 → c.p + j < L.length ∧ L.getD (c.p + j) false = true) := hide (fun j hj => by
            by_cases e : j = 0
            · subst e; exact ⟨hav, hbit⟩
            · exact hall.out j (by omega))
          clear hbit hav
          have Hcall := hide hcall
          clear hcall
          have hw : wdI 0 = 0 := rfl
          rw [hw]
          go_wp2_with fail
          refine Hcall.out.mono ?_
          rintro e w1 ⟨rfl, hR1, hf1⟩
          clear Hcall
          go_wp2_with fail
          go_roundw
          case measure => simp [intOf]
          case rel => exact ⟨0 + 1, by omega, by go_num, rfl, hR1, hfr.trans hf1 (fun x hx => .inl hx), hnew⟩
        | false =>
          rw [hbit] at hcall
          have hmm : marks L 4 c.p = some (0, c.p + 0 + 1) := by rw [Hmf.out, marks_no hav hbit]; rfl
          have Hmm := hide hmm
          clear hbit hmm hav Hmf hall
          have Hcall0 := hide hcall
          clear hcall
          have hw : wdI 0 = 0 := rfl
          rw [hw]
          go_wp2_with fail
          refine Hcall0.out.mono ?_
          rintro e w1 ⟨rfl, hR1, hf1⟩
          clear Hcall0
          have hfr1 := hfr.trans hf1 (fun x hx => .inl hx)
          clear hR hfr hf1
          have hrs : chgR L c = .ok (0, { c with p := c.p + 0 + 1 }) := by unfold chgR; rw [Hmm.out]; rfl
          have Hrs := hide hrs
          have hle := hR1.le
          have hcall := fun W hW => hok { c with p := c.p + 0 + 1 } 0 0 rfl (by decide) W hW (by simpa using hle)
          simp only [List.take_zero] at hcall
          have hn0 : numOf [] = 0 := rfl
          rw [hn0] at hcall
          have Hcall := hide hcall
          clear hrs Hmm hcall hn0 hle
          go_wp2_with fail
          refine (Hcall.out _ hR1).mono ?_
          rintro e w3 ⟨rfl, hR3, hf3⟩
          go_wp2_with fail
          go_ret
          rw [Hrs.out]
          exact ⟨rfl, hR3, hfr1.trans hf3 (fun x hx => .inl hx)⟩
      · have hmm : marks L 4 c.p = none := by rw [Hmf.out, marks_end hav]; rfl
        have hrs : chgR L c = .error 20 := by unfold chgR; rw [hmm]
        have Hrs := hide hrs
        have hcall := hno { c with p := c.p + 0 } 1 1 rfl (by decide) _ hR (by simp only; omega)
        have Hcall := hide hcall
        clear hmm hrs hav Hmf hall hcall
        have hw : wdI 0 = 0 := rfl
        rw [hw]
        go_wp2_with fail
        refine Hcall.out.mono ?_
        rintro e w1 ⟨rfl, hR1, hf1⟩
        clear Hcall
        go_wp2_with fail
        refine (hbad _ _ _ hR1).mono ?_
        rintro e w' ⟨rfl, rfl⟩
        go_wp2_with fail
        go_ret
        rw [Hrs.out]
        exact ⟨rfl, ⟨_, hR1⟩, hfr.trans hf1 (fun x hx => .inl hx)⟩
    · have Hmf := hide hmf
      clear hmf
      by_cases hav : c.p + 1 < L.length
      · have hb := one_bit L (c.p + 1) hav
        have hcall := hok { c with p := c.p + 1 } 1 1 rfl (by decide) _ hR (by simp only; omega)
        simp only [hb] at hcall
        clear hb
        cases hbit : L.getD (c.p + 1) false with
        | true =>
          rw [hbit] at hcall
          have hnew : Hid (∀ j, j < 1 + 1 → c.p + j < L.length ∧ L.getD (c.p + j) false = true) := hide (fun j hj => by
            by_cases e : j = 1
            · subst e; exact ⟨hav, hbit⟩
            · exact hall.out j (by omega))
          clear hbit hav
          have Hcall := hide hcall
          clear hcall
          have hw : wdI 1 = 7 := rfl
          rw [hw]
          go_wp2_with fail
          refine Hcall.out.mono ?_
          rintro e w1 ⟨rfl, hR1, hf1⟩
          clear Hcall
          go_wp2_with fail
          go_roundw
          case measure => simp [intOf]
          case rel => exact ⟨1 + 1, by omega, by go_num, rfl, hR1, hfr.trans hf1 (fun x hx => .inl hx), hnew⟩
        | false =>
          rw [hbit] at hcall
          have hmm : marks L 4 c.p = some (1, c.p + 1 + 1) := by rw [Hmf.out, marks_no hav hbit]; rfl
          have Hmm := hide hmm
          clear hbit hmm hav Hmf hall
          have Hcall0 := hide hcall
          clear hcall
          have hw : wdI 1 = 7 := rfl
          rw [hw]
          go_wp2_with fail
          refine Hcall0.out.mono ?_
          rintro e w1 ⟨rfl, hR1, hf1⟩
          clear Hcall0
          have hfr1 := hfr.trans hf1 (fun x hx => .inl hx)
          clear hR hfr hf1
          have hrs : chgR L c = match tk L 7 { c with p := c.p + 1 + 1 } with | .error e => .error e | .ok (x, s1) => .ok (sgn 7 x, s1) := by unfold chgR; rw [Hmm.out]; rfl
          have Hrs := hide hrs
          clear hrs Hmm
          by_cases hfit : c.p + 1 + 1 + 7 ≤ L.length
          · have htk : tk L 7 { c with p := c.p + 1 + 1 } = .ok (numOf ((L.drop (c.p + 1 + 1)).take 7), { c with p := c.p + 1 + 1 + 7 }) := tk_ok hfit
            have hcall := fun W hW => hok { c with p := c.p + 1 + 1 } 7 7 rfl (by decide) W hW hfit
            have hlt := num_lt L (c.p + 1 + 1) 7 (by decide)
            simp only at hcall
            generalize numOf ((L.drop (c.p + 1 + 1)).take 7) = x at hcall htk hlt
            have hlt2 : x < 128 := hlt
            have Htk := hide htk
            have Hcall := hide hcall
            clear htk hfit hcall hlt
            by_cases hx : x < 64
            · have hsg := sgn_lo x 7 hx
              have Hsg := hide hsg
              have hq : (((x : Nat) : Int) / 64 == 1) = false := by rw [beq_eq_false_iff_ne]; omega
              clear hsg
              go_wp2_with fail
              refine (Hcall.out _ hR1).mono ?_
              rintro e w3 ⟨rfl, hR3, hf3⟩
              go_wp2_with fail
              go_ret
              rw [Hrs.out, Htk.out]
              exact ⟨congrArg (fun x => Ending.returned (.int .i64 x)) Hsg.out.symm, hR3, hfr1.trans hf3 (fun x hx => .inl hx)⟩
            · have hsg := sgn7_hi x hx
              have Hsg := hide hsg
              have hq : (((x : Nat) : Int) / 64 == 1) = true := by rw [beq_iff_eq]; omega
              clear hsg
              go_wp2_with fail
              refine (Hcall.out _ hR1).mono ?_
              rintro e w3 ⟨rfl, hR3, hf3⟩
              go_wp2_with fail
              go_ret
              rw [Hrs.out, Htk.out]
              exact ⟨congrArg (fun x => Ending.returned (.int .i64 x)) Hsg.out.symm, hR3, hfr1.trans hf3 (fun x hx => .inl hx)⟩
          · have htk : tk L 7 { c with p := c.p + 1 + 1 } = .error 20 := tk_no hfit
            have hcall := fun W hW => hno { c with p := c.p + 1 + 1 } 7 7 rfl (by decide) W hW hfit
            have Htk := hide htk
            have Hcall := hide hcall
            clear htk hfit hcall
            go_wp2_with fail
            refine (Hcall.out _ hR1).mono ?_
            rintro e w3 ⟨rfl, hR3, hf3⟩
            go_wp2_with fail
            go_ret
            rw [Hrs.out, Htk.out]
            exact ⟨rfl, ⟨_, hR3⟩, hfr1.trans hf3 (fun x hx => .inl hx)⟩
      · have hmm : marks L 4 c.p = none := by rw [Hmf.out, marks_end hav]; rfl
        have hrs : chgR L c = .error 20 := by unfold chgR; rw [hmm]
        have Hrs := hide hrs
        have hcall := hno { c with p := c.p + 1 } 1 1 rfl (by decide) _ hR (by simp only; omega)
        have Hcall := hide hcall
        clear hmm hrs hav Hmf hall hcall
        have hw : wdI 1 = 7 := rfl
        rw [hw]
        go_wp2_with fail
        refine Hcall.out.mono ?_
        rintro e w1 ⟨rfl, hR1, hf1⟩
        clear Hcall
        go_wp2_with fail
        refine (hbad _ _ _ hR1).mono ?_
        rintro e w' ⟨rfl, rfl⟩
        go_wp2_with fail
        go_ret
        rw [Hrs.out]
        exact ⟨rfl, ⟨_, hR1⟩, hfr.trans hf1 (fun x hx => .inl hx)⟩
    · have Hmf := hide hmf
      clear hmf
      by_cases hav : c.p + 2 < L.length
      · have hb := one_bit L (c.p + 2) hav
        have hcall := hok { c with p := c.p + 2 } 1 1 rfl (by decide) _ hR (by simp only; omega)
        simp only [hb] at hcall
        clear hb
        cases hbit : L.getD (c.p + 2) false with
        | true =>
          rw [hbit] at hcall
          have hnew : Hid (∀ j, j < 2 + 1 → c.p + j < L.length ∧ L.getD (c.p + j) false = true) := hide (fun j hj => by
            by_cases e : j = 2
            · subst e; exact ⟨hav, hbit⟩
            · exact hall.out j (by omega))
          clear hbit hav
          have Hcall := hide hcall
          clear hcall
          have hw : wdI 2 = 9 := rfl
          rw [hw]
          go_wp2_with fail
          refine Hcall.out.mono ?_
          rintro e w1 ⟨rfl, hR1, hf1⟩
          clear Hcall
          go_wp2_with fail
          go_roundw
          case measure => simp [intOf]
          case rel => exact ⟨2 + 1, by omega, by go_num, rfl, hR1, hfr.trans hf1 (fun x hx => .inl hx), hnew⟩
        | false =>
          rw [hbit] at hcall
          have hmm : marks L 4 c.p = some (2, c.p + 2 + 1) := by rw [Hmf.out, marks_no hav hbit]; rfl
          have Hmm := hide hmm
          clear hbit hmm hav Hmf hall
          have Hcall0 := hide hcall
          clear hcall
          have hw : wdI 2 = 9 := rfl
          rw [hw]
          go_wp2_with fail
          refine Hcall0.out.mono ?_
          rintro e w1 ⟨rfl, hR1, hf1⟩
          clear Hcall0
          have hfr1 := hfr.trans hf1 (fun x hx => .inl hx)
          clear hR hfr hf1
          have hrs : chgR L c = match tk L 9 { c with p := c.p + 2 + 1 } with | .error e => .error e | .ok (x, s1) => .ok (sgn 9 x, s1) := by unfold chgR; rw [Hmm.out]; rfl
          have Hrs := hide hrs
          clear hrs Hmm
          by_cases hfit : c.p + 2 + 1 + 9 ≤ L.length
          · have htk : tk L 9 { c with p := c.p + 2 + 1 } = .ok (numOf ((L.drop (c.p + 2 + 1)).take 9), { c with p := c.p + 2 + 1 + 9 }) := tk_ok hfit
            have hcall := fun W hW => hok { c with p := c.p + 2 + 1 } 9 9 rfl (by decide) W hW hfit
            have hlt := num_lt L (c.p + 2 + 1) 9 (by decide)
            simp only at hcall
            generalize numOf ((L.drop (c.p + 2 + 1)).take 9) = x at hcall htk hlt
            have hlt2 : x < 512 := hlt
            have Htk := hide htk
            have Hcall := hide hcall
            clear htk hfit hcall hlt
            by_cases hx : x < 256
            · have hsg := sgn_lo x 9 hx
              have Hsg := hide hsg
              have hq : (((x : Nat) : Int) / 256 == 1) = false := by rw [beq_eq_false_iff_ne]; omega
              clear hsg
              go_wp2_with fail
              refine (Hcall.out _ hR1).mono ?_
              rintro e w3 ⟨rfl, hR3, hf3⟩
              go_wp2_with fail
              go_ret
              rw [Hrs.out, Htk.out]
              exact ⟨congrArg (fun x => Ending.returned (.int .i64 x)) Hsg.out.symm, hR3, hfr1.trans hf3 (fun x hx => .inl hx)⟩
            · have hsg := sgn9_hi x hx
              have Hsg := hide hsg
              have hq : (((x : Nat) : Int) / 256 == 1) = true := by rw [beq_iff_eq]; omega
              clear hsg
              go_wp2_with fail
              refine (Hcall.out _ hR1).mono ?_
              rintro e w3 ⟨rfl, hR3, hf3⟩
              go_wp2_with fail
              go_ret
              rw [Hrs.out, Htk.out]
              exact ⟨congrArg (fun x => Ending.returned (.int .i64 x)) Hsg.out.symm, hR3, hfr1.trans hf3 (fun x hx => .inl hx)⟩
          · have htk : tk L 9 { c with p := c.p + 2 + 1 } = .error 20 := tk_no hfit
            have hcall := fun W hW => hno { c with p := c.p + 2 + 1 } 9 9 rfl (by decide) W hW hfit
            have Htk := hide htk
            have Hcall := hide hcall
            clear htk hfit hcall
            go_wp2_with fail
            refine (Hcall.out _ hR1).mono ?_
            rintro e w3 ⟨rfl, hR3, hf3⟩
            go_wp2_with fail
            go_ret
            rw [Hrs.out, Htk.out]
            exact ⟨rfl, ⟨_, hR3⟩, hfr1.trans hf3 (fun x hx => .inl hx)⟩
      · have hmm : marks L 4 c.p = none := by rw [Hmf.out, marks_end hav]; rfl
        have hrs : chgR L c = .error 20 := by unfold chgR; rw [hmm]
        have Hrs := hide hrs
        have hcall := hno { c with p := c.p + 2 } 1 1 rfl (by decide) _ hR (by simp only; omega)
        have Hcall := hide hcall
        clear hmm hrs hav Hmf hall hcall
        have hw : wdI 2 = 9 := rfl
        rw [hw]
        go_wp2_with fail
        refine Hcall.out.mono ?_
        rintro e w1 ⟨rfl, hR1, hf1⟩
        clear Hcall
        go_wp2_with fail
        refine (hbad _ _ _ hR1).mono ?_
        rintro e w' ⟨rfl, rfl⟩
        go_wp2_with fail
        go_ret
        rw [Hrs.out]
        exact ⟨rfl, ⟨_, hR1⟩, hfr.trans hf1 (fun x hx => .inl hx)⟩
    · have Hmf := hide hmf
      clear hmf
      by_cases hav : c.p + 3 < L.length
      · have hb := one_bit L (c.p + 3) hav
        have hcall := hok { c with p := c.p + 3 } 1 1 rfl (by decide) _ hR (by simp only; omega)
        simp only [hb] at hcall
        clear hb
        cases hbit : L.getD (c.p + 3) false with
        | true =>
          rw [hbit] at hcall
          have hnew : Hid (∀ j, j < 3 + 1 → c.p + j < L.length ∧ L.getD (c.p + j) false = true) := hide (fun j hj => by
            by_cases e : j = 3
            · subst e; exact ⟨hav, hbit⟩
            · exact hall.out j (by omega))
          clear hbit hav
          have Hcall := hide hcall
          clear hcall
          have hw : wdI 3 = 12 := rfl
          rw [hw]
          go_wp2_with fail
          refine Hcall.out.mono ?_
          rintro e w1 ⟨rfl, hR1, hf1⟩
          clear Hcall
          go_wp2_with fail
          go_roundw
          case measure => simp [intOf]
          case rel => exact ⟨3 + 1, by omega, by go_num, rfl, hR1, hfr.trans hf1 (fun x hx => .inl hx), hnew⟩
        | false =>
          rw [hbit] at hcall
          have hmm : marks L 4 c.p = some (3, c.p + 3 + 1) := by rw [Hmf.out, marks_no hav hbit]; rfl
          have Hmm := hide hmm
          clear hbit hmm hav Hmf hall
          have Hcall0 := hide hcall
          clear hcall
          have hw : wdI 3 = 12 := rfl
          rw [hw]
          go_wp2_with fail
          refine Hcall0.out.mono ?_
          rintro e w1 ⟨rfl, hR1, hf1⟩
          clear Hcall0
          have hfr1 := hfr.trans hf1 (fun x hx => .inl hx)
          clear hR hfr hf1
          have hrs : chgR L c = match tk L 12 { c with p := c.p + 3 + 1 } with | .error e => .error e | .ok (x, s1) => .ok (sgn 12 x, s1) := by unfold chgR; rw [Hmm.out]; rfl
          have Hrs := hide hrs
          clear hrs Hmm
          by_cases hfit : c.p + 3 + 1 + 12 ≤ L.length
          · have htk : tk L 12 { c with p := c.p + 3 + 1 } = .ok (numOf ((L.drop (c.p + 3 + 1)).take 12), { c with p := c.p + 3 + 1 + 12 }) := tk_ok hfit
            have hcall := fun W hW => hok { c with p := c.p + 3 + 1 } 12 12 rfl (by decide) W hW hfit
            have hlt := num_lt L (c.p + 3 + 1) 12 (by decide)
            simp only at hcall
            generalize numOf ((L.drop (c.p + 3 + 1)).take 12) = x at hcall htk hlt
            have hlt2 : x < 4096 := hlt
            have Htk := hide htk
            have Hcall := hide hcall
            clear htk hfit hcall hlt
            by_cases hx : x < 2048
            · have hsg := sgn_lo x 12 hx
              have Hsg := hide hsg
              have hq : (((x : Nat) : Int) / 2048 == 1) = false := by rw [beq_eq_false_iff_ne]; omega
              clear hsg
              go_wp2_with fail
              refine (Hcall.out _ hR1).mono ?_
              rintro e w3 ⟨rfl, hR3, hf3⟩
              go_wp2_with fail
              go_ret
              rw [Hrs.out, Htk.out]
              exact ⟨congrArg (fun x => Ending.returned (.int .i64 x)) Hsg.out.symm, hR3, hfr1.trans hf3 (fun x hx => .inl hx)⟩
            · have hsg := sgn12_hi x hx
              have Hsg := hide hsg
              have hq : (((x : Nat) : Int) / 2048 == 1) = true := by rw [beq_iff_eq]; omega
              clear hsg
              go_wp2_with fail
              refine (Hcall.out _ hR1).mono ?_
              rintro e w3 ⟨rfl, hR3, hf3⟩
              go_wp2_with fail
              go_ret
              rw [Hrs.out, Htk.out]
              exact ⟨congrArg (fun x => Ending.returned (.int .i64 x)) Hsg.out.symm, hR3, hfr1.trans hf3 (fun x hx => .inl hx)⟩
          · have htk : tk L 12 { c with p := c.p + 3 + 1 } = .error 20 := tk_no hfit
            have hcall := fun W hW => hno { c with p := c.p + 3 + 1 } 12 12 rfl (by decide) W hW hfit
            have Htk := hide htk
            have Hcall := hide hcall
            clear htk hfit hcall
            go_wp2_with fail
            refine (Hcall.out _ hR1).mono ?_
            rintro e w3 ⟨rfl, hR3, hf3⟩
            go_wp2_with fail
            go_ret
            rw [Hrs.out, Htk.out]
            exact ⟨rfl, ⟨_, hR3⟩, hfr1.trans hf3 (fun x hx => .inl hx)⟩
      · have hmm : marks L 4 c.p = none := by rw [Hmf.out, marks_end hav]; rfl
        have hrs : chgR L c = .error 20 := by unfold chgR; rw [hmm]
        have Hrs := hide hrs
        have hcall := hno { c with p := c.p + 3 } 1 1 rfl (by decide) _ hR (by simp only; omega)
        have Hcall := hide hcall
        clear hmm hrs hav Hmf hall hcall
        have hw : wdI 3 = 12 := rfl
        rw [hw]
        go_wp2_with fail
        refine Hcall.out.mono ?_
        rintro e w1 ⟨rfl, hR1, hf1⟩
        clear Hcall
        go_wp2_with fail
        refine (hbad _ _ _ hR1).mono ?_
        rintro e w' ⟨rfl, rfl⟩
        go_wp2_with fail
        go_ret
        rw [Hrs.out]
        exact ⟨rfl, ⟨_, hR1⟩, hfr.trans hf1 (fun x hx => .inl hx)⟩
    · have hmm : marks L 4 c.p = some (4, c.p + 4) := by rw [hmf]; rfl
      have Hmm := hide hmm
      have hw : wdI 4 = 64 := rfl
      rw [hw]
      clear hmf hmm hall
      have hfr1 := hfr
      have hR1 := hR
      clear hR hfr
      have hrs : chgR L c = match tk L 64 { c with p := c.p + 4 } with | .error e => .error e | .ok (x, s1) => .ok (sgn 64 x, s1) := by unfold chgR; rw [Hmm.out]; rfl
      have Hrs := hide hrs
      clear hrs Hmm
      by_cases hfit : c.p + 4 + 64 ≤ L.length
      · have htk : tk L 64 { c with p := c.p + 4 } = .ok (numOf ((L.drop (c.p + 4)).take 64), { c with p := c.p + 4 + 64 }) := tk_ok hfit
        have hcall := fun W hW => hok { c with p := c.p + 4 } 64 64 rfl (by decide) W hW hfit
        have hlt := num_lt L (c.p + 4) 64 (by decide)
        simp only at hcall
        generalize numOf ((L.drop (c.p + 4)).take 64) = x at hcall htk hlt
        have hlt2 : x < 18446744073709551616 := hlt
        have Htk := hide htk
        have Hcall := hide hcall
        clear htk hfit hcall hlt
        have hsg := sgn64_wrap x hlt2
        have Hsg := hide hsg
        clear hsg
        go_wp2_with fail
        refine (Hcall.out _ hR1).mono ?_
        rintro e w3 ⟨rfl, hR3, hf3⟩
        go_wp2_with fail
        go_ret
        rw [Hrs.out, Htk.out]
        exact ⟨congrArg (fun x => Ending.returned (.int .i64 x)) Hsg.out, hR3, hfr1.trans hf3 (fun x hx => .inl hx)⟩
      · have htk : tk L 64 { c with p := c.p + 4 } = .error 20 := tk_no hfit
        have hcall := fun W hW => hno { c with p := c.p + 4 } 64 64 rfl (by decide) W hW hfit
        have Htk := hide htk
        have Hcall := hide hcall
        clear htk hfit hcall
        go_wp2_with fail
        refine (Hcall.out _ hR1).mono ?_
        rintro e w3 ⟨rfl, hR3, hf3⟩
        go_wp2_with fail
        go_ret
        rw [Hrs.out, Htk.out]
        exact ⟨rfl, ⟨_, hR3⟩, hfr1.trans hf3 (fun x hx => .inl hx)⟩
end Go.Proofs.YtdnllmibchmnnaaDoor
