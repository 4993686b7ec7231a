/-
  The contract of the document's Read.
-/
import Derived.Test.YtdnllmibchmnnaaDoorRrd
import Derived.Test.YtdnllmibchmnnaaDoorRdq
import Derived.BigRegion
namespace Go.Proofs.YtdnllmibchmnnaaDoor
set_option linter.unusedVariables false
set_option linter.unusedSimpArgs false
open Go.RowKit Go.BigFrame

theorem own_own_ne {w : World} {e1 e2 : TypeId} {s1 s2 n1 n2 : Nat} {v1 v2 : Value} {x1 x2 : List Value} (h1 : w.ownsRow 0 e1 s1 v1 n1 x1) (h2 : w.ownsRow 0 e2 s2 v2 n2 x2) (hne : e1 ≠ e2) : ∀ k, v1.ownBlock = some k → v2.ownBlock ≠ some k := by
  intro k hk
  rcases h1.2 with ⟨rfl, _⟩ | ⟨g', cap, cur, rfl, _, hh, _⟩
  · simp [Value.ownBlock] at hk
  · have : g' = k := by simpa [Value.ownBlock] using hk
    subst this
    exact own_blk_ne h2 hh (Ne.symm hne)

/-- The document's reader and the row of what it read, all new since w. -/
structure RrSt (w wr : World) (g : Nat) (V : Value) (L : List Bool) (c : Rs) (u : Value) (k : Nat) (F : Nat → Smp) : Prop where
  rf : RfAt wr g V L c 0
  row : SRow wr 45 u k F
  fu : Fresh w.heap.size u
  fV : Fresh w.heap.size V
  g0 : w.heap.size ≤ g
  frm : Frm [] w wr
theorem RfAt.far {w : World} {g : Nat} {V : Value} {L : List Bool} {c : Rs} {f : Int} (H : RfAt w g V L c f) {p : Addr} (hg : g ≠ p.block) (hV : V.ownBlock ≠ some p.block) (u : Value) : RfAt (w.setCell p u) g V L c f :=
  ⟨H.st.far hg u, ownsRow_setCell_other H.row hV _, H.le⟩
theorem RfAt.drew {w : World} {g : Nat} {V : Value} {L : List Bool} {c : Rs} {f : Int} (H : RfAt w g V L c f) : RfAt w.drew g V L c f := ⟨H.st, own_frm H.row ((Frm.refl [] w).drew) (by simp), H.le⟩
theorem RfAt.step {w : World} {g : Nat} {V : Value} {L : List Bool} {c : Rs} {f : Int} (H : RfAt w g V L c f) (a : Int) : RfAt (w.setCell ⟨g, 3, none⟩ (.int .i64 a)) g V L { c with step := a } f := by
  refine ⟨?_, ownsRow_setCell_other H.row (a := ⟨g, 3, none⟩) H.ne _, H.le⟩
  have := H.st.set_ 3 (.int .i64 a)
  simpa [ldR] using this

/-- What is left behind a fault: the row as it was. -/
theorem RrSt.done {w wr w9 : World} {g : Nat} {V : Value} {L : List Bool} {c : Rs} {u : Value} {k : Nat} {F : Nat → Smp} (h : RrSt w wr g V L c u k F) (hF : Frm [g] wr w9) : SRow w9 45 u k F ∧ Frm [] w w9 :=
  ⟨h.row.frm hF (fun j hj hm => by
    have : j = g := by simpa using hm
    subst this
    exact own_blk_ne h.row h.rf.st (by decide) hj), h.frm.trans hF (fun x hx => by
    have : x = g := by simpa using hx
    subst this
    exact .inr h.g0)⟩

/-- A change of steps, good or not. -/
theorem rstep_one (g : Nat) (V : Value) (L : List Bool) (hL : L.length ≤ 140737488355328) (c : Rs) (w : World) (H : RfAt w g V L c 0) :
    Calls Tryd.prog 40 #[.pointer (some ⟨g, 0, none⟩)] w fun e w' => ∃ (ch : Int) (c5 : Rs) (f : Int), e = .returned (.int .i64 ch) ∧ RfAt w' g V L c5 f ∧ Frm [g] w w' ∧ Hid ((f = 0 ∧ chgR L c = .ok (ch, c5)) ∨ (f ≠ 0 ∧ chgR L c = .error f)) := by
  have h := rstep_any g V L hL c w H
  cases hc : chgR L c with
  | error er =>
    rw [hc] at h
    have he := chgR_err hc
    refine h.mono ?_
    rintro e w' ⟨rfl, ⟨c5, hR⟩, hf⟩
    exact ⟨0, c5, er, rfl, hR, hf, hide (.inr ⟨by omega, rfl⟩)⟩
  | ok r =>
    obtain ⟨ch, c5⟩ := r
    rw [hc] at h
    refine h.mono ?_
    rintro e w' ⟨rfl, hR, hf⟩
    exact ⟨ch, c5, 0, rfl, hR, hf, hide (.inl ⟨rfl, rfl⟩)⟩
/-- The bits that differ, good or not. -/
theorem rdif_one (g : Nat) (V : Value) (L : List Bool) (hL : L.length ≤ 140737488355328) (c : Rs) (hk : RsOk c) (w : World) (H : RfAt w g V L c 0) :
    Calls Tryd.prog 41 #[.pointer (some ⟨g, 0, none⟩)] w fun e w' => ∃ (x : Nat) (c5 : Rs) (f : Int), e = .returned (.int .u64 (x : Int)) ∧ RfAt w' g V L c5 f ∧ Frm [g] w w' ∧ Hid (x < 18446744073709551616 ∧ ((f = 0 ∧ difR L c = .ok (x, c5)) ∨ (f ≠ 0 ∧ difR L c = .error f))) := by
  have h := rdif_any g V L hL c hk w H
  cases hc : difR L c with
  | error er =>
    rw [hc] at h
    have he := difR_err hc
    refine h.mono ?_
    rintro e w' ⟨rfl, ⟨c5, hR⟩, hf⟩
    exact ⟨0, c5, er, rfl, hR, hf, hide ⟨by decide, .inr ⟨by omega, rfl⟩⟩⟩
  | ok r =>
    obtain ⟨x, c5⟩ := r
    obtain ⟨_, hx⟩ := difR_same hk hc
    rw [hc] at h
    refine h.mono ?_
    rintro e w' ⟨rfl, hR, hf⟩
    exact ⟨x, c5, 0, rfl, hR, hf, hide ⟨hx, .inl ⟨rfl, rfl⟩⟩⟩

set_option maxRecDepth 100000 in
set_option maxHeartbeats 16000000 in
theorem rrread_any (s : ByteArray) (hs : 8 * s.size ≤ 140737488355328) (w : World) :
    Calls Tryd.prog 22 #[.string s] w (NewRd 45 (bl s) w) := by
  have hcall := rreaduint_any s 0 (by omega)
  have hM : rdM (bl s) = if (readU (bl s) 0).2.2 ≠ 0 then (0, ((readU (bl s) 0).2.2 : Int)) else if 120 < (readU (bl s) 0).1 then (0, 92) else rdE (unpack ((bl s).drop (readU (bl s) 0).2.1)) (readU (bl s) 0).1 := rfl
  have hL : rdL (bl s) = unpack ((bl s).drop (readU (bl s) 0).2.1) := rfl
  have hlt := readU_lt (bl s) 0
  have hnx := readU_next (bl s) 0
  rw [bl_length] at hnx
  obtain ⟨r, hr⟩ : ∃ r, readU (bl s) 0 = r := ⟨_, rfl⟩
  rw [hr] at hcall hM hL hlt hnx
  obtain ⟨n, at_, er⟩ := r
  simp only [tellU] at hcall hM hL hlt hnx
  have Hcall := hide hcall
  clear hcall hr
  by_cases he : er = 0
  · subst he
    obtain ⟨_, hp, hle⟩ := hnx rfl
    rw [if_neg (by simp)] at hM
    have hz : (((0 : Nat) : Int) != 0) = false := by decide
    by_cases hn : 120 < n
    · rw [if_pos hn] at hM
      have HM := hide hM
      have HL := hide hL
      have hng : (120 : Int) < (n : Int) := by omega
      clear hM hL
      go_enter Tryd.func22, Tryd.ntmps22
      go_wp2_with fail
      refine (Hcall.out _).mono ?_
      rintro e w' ⟨rfl, rfl⟩
      go_wp2_with fail
      go_ret2
      exact ⟨_, by rw [HM.out]; rfl, by rw [HM.out]; exact SRow.nil _ _ _, Fresh.nil _, Frm.refl _ _⟩
    · rw [if_neg hn] at hM
      have hn2 : n ≤ 120 := by omega
      have hng : decide ((120 : Int) < (n : Int)) = false := decide_eq_false (by omega)
      have hsl := slice_from (P := Tryd.prog) Tryd.underlying9 s at_ (at_ : Int) rfl hle
      have hrs : 8 * (s.extract at_ s.size).size ≤ 140737488355328 := by rw [ByteArray.size_extract]; omega
      have hbl := bl_from s at_
      generalize s.extract at_ s.size = q at hsl hrs hbl
      rw [← hbl] at hM hL
      have hlist := rlist_any q hrs
      have hLlen := unpack_len q
      obtain ⟨L, hLL⟩ : ∃ L, unpack (bl q) = L := ⟨_, rfl⟩
      rw [hLL] at hM hL hlist hLlen
      have hL47 : L.length ≤ 140737488355328 := by omega
      have HM := hide hM
      have HL := hide hL
      have Hlist := hide hlist
      clear hM hL hlist hLL hbl hn hLlen
      go_enter Tryd.func22, Tryd.ntmps22
      go_wp2_with fail
      refine (Hcall.out _).mono ?_
      rintro e w' ⟨rfl, rfl⟩
      go_wp2_with fail
      refine (Hlist.out _).mono ?_
      rintro e w1 ⟨V, rfl, hrowV, hfV, hf1⟩
      obtain ⟨AV, cV, rfl⟩ := own_shape (show w1.ownsRow 0 5 1 V L.length (u8s (b2n L)) from hrowV)
      go_wp2_with fail
      generalize (Value.slice AV L.length cV) = V at *
      have hE : RrSt w (w1.alloc (.cells #[V, .int .i64 0, .int .i64 0, .int .i64 0, .int .i64 (-1), .int .i64 0] 77)) w1.heap.size V L rs0 (.slice none 0 0) 0 (rdF L) :=
        ⟨⟨Blk.new w1 _ _, own_frm hrowV ((Frm.refl [] w1).alloc _) (by simp), Nat.zero_le _⟩, SRow.nil _ _ _, Fresh.nil _, hfV, hf1.size, hf1.alloc _⟩
      generalize (w1.alloc (.cells #[V, .int .i64 0, .int .i64 0, .int .i64 0, .int .i64 (-1), .int .i64 0] 77)) = w3 at hE ⊢
      obtain ⟨g, hg⟩ : ∃ g, g = w1.heap.size := ⟨_, rfl⟩
      rw [← hg] at hE ⊢
      clear hg hrowV hfV hf1
      go_loopw [8, 9] (fun u8 i wr => ∃ (k : Nat) (c : Rs), k ≤ n ∧ i = .int .i64 (k : Int) ∧ RrSt w wr g V L c u8 k (rdF L) ∧ Hid (rdS L k = .ok c)) (fun _ i _ => n - (intOf i).toNat)
      case atStart => exact ⟨0, rs0, Nat.zero_le _, rfl, hE, hide rfl⟩
      case round =>
        clear hE
        obtain ⟨k, c, hk, rfl, hS, hres⟩ := hrel
        obtain ⟨hck, hcn⟩ := rdS_form k c hres.out
        obtain ⟨A1, c1, hsh⟩ := hS.row.shape
        subst hsh
        have hgb := hS.rf.st.lt
        obtain ⟨b, hb⟩ : ∃ b, b = wr.heap.size := ⟨_, rfl⟩
        have hbg : b ≠ g := by omega
        have hgb2 : g ≠ b := by omega
        have hbw : wr.heap.size ≤ b := by omega
        have hVb : V.ownBlock ≠ some b := fun h => by have := own_lt hS.rf.row h; omega
        have Hb := hide hb
        by_cases hlt2 : k < n
        · have hkn := hide hlt2
          have herr : ∀ e, smpR L c = .error e → rdM (bl s) = (k, e) := fun e h => by
            rw [HM.out]
            exact rdE_err hres.out (rdS_err hres.out h) (by rcases smpR_err h with h | h | h | h <;> omega) n hlt2
          have hyes : ∀ c2, smpR L c = .ok c2 → rdS L (k + 1) = .ok c2 ∧ rdF L k = ⟨c2.t, c2.v⟩ := fun c2 h => ⟨rdS_ok hres.out h, rdF_ok (rdS_ok hres.out h)⟩
          have Herr := hide herr
          have Hyes := hide hyes
          clear herr hyes hlt hb
          rcases hk0 : k with _ | j
          · subst hk0
            have hz0 := smpR_zero (L := L) hcn
            have hX := Blk.new wr 45 #[.int .i64 0, .int .u64 0]
            rw [← Hb.out] at hX
            have hF4 : Frm [g] wr (wr.alloc (.cells #[.int .i64 0, .int .u64 0] 45)) := (Frm.refl [g] wr).alloc _
            have hR4 := hS.rf.quiet ((Frm.refl [] wr).alloc (.cells #[.int .i64 0, .int .u64 0] 45))
            obtain ⟨w4, hw4⟩ : ∃ w4, wr.alloc (.cells #[.int .i64 0, .int .u64 0] 45) = w4 := ⟨_, rfl⟩
            rw [hw4] at hX hF4 hR4
            have Hw4 := hide hw4
            clear hw4
            by_cases h1 : c.p + 64 ≤ L.length
            · have ht1 : tk L 64 c = .ok (numOf ((L.drop c.p).take 64), { c with p := c.p + 64 }) := tk_ok h1
              have hc1 := rtake_ok g V L hL47 c 64 64 rfl (by decide) w4 hR4 h1
              generalize numOf ((L.drop c.p).take 64) = x at ht1 hc1
              have hf1 : fstR L c = if wrap64 (x : Int) < 0 ∨ 1125899906842624 < wrap64 (x : Int) then .error 91 else match tk L 64 { c with p := c.p + 64 } with | .error e => .error e | .ok (v, s2) => .ok { s2 with n := 1, t := wrap64 (x : Int), v := v } := by
                unfold fstR; rw [ht1]; rfl
              have hfz := hz0.trans hf1
              have Hz := hide hfz
              have Hc1 := hide hc1
              clear hf1 hfz ht1 hc1 h1 hz0
              go_upto_region 12 with (fail)
              rw [Hw4.out, ← Hb.out]
              go_wp2_with fail
              refine Hc1.out.mono ?_
              rintro e w5 ⟨rfl, hR5, hf5⟩
              have hF5 := frm_gg hF4 hf5
              have hX5 := hX.frm hf5 (by simpa using hbg)
              have x0 : w5.cell? ⟨b, 0, none⟩ = some (.int .i64 0) := hX5.cell 0
              have fx0 := hX5.frozen 0
              clear Hc1 hX hR4 Hw4
              go_upto_region 19 with (fail)
              generalize wrap64 (x : Int) = t at Hz ⊢
              have hX6 : Blk (w5.setCell ⟨b, 0, none⟩ (.int .i64 t)) b 45 #[.int .i64 t, .int .u64 0] := by
                have := hX5.set_ 0 (.int .i64 t)
                simpa using this
              have hR6 := hR5.far (p := ⟨b, 0, none⟩) hgb2 hVb (.int .i64 t)
              have hF6 := hF5.setCell (p := ⟨b, 0, none⟩) (.inr hbw) (.int .i64 t)
              generalize w5.setCell ⟨b, 0, none⟩ (.int .i64 t) = w6 at *
              clear hX5 hR5 x0 fx0 hF5
              have z2 : w6.cell? ⟨g, 2, none⟩ = some (.int .i64 0) := hR6.st.cell 2
              have x0 : w6.cell? ⟨b, 0, none⟩ = some (.int .i64 t) := hX6.cell 0
              have x1 : w6.cell? ⟨b, 1, none⟩ = some (.int .u64 0) := hX6.cell 1
              have fx1 := hX6.frozen 1
              have fz2 := hR6.st.frozen 2
              by_cases hr : 0 ≤ t ∧ t ≤ 1125899906842624
              · obtain ⟨hr1, hr2⟩ := hr
                have hz2 := Hz.out
                rw [if_neg (by omega)] at hz2
                have Hz := hide hz2
                have e1 : ¬ t < 0 := by omega
                have e2 : ¬ (1125899906842624 : Int) < t := by omega
                clear hz2
                by_cases h2 : c.p + 64 + 64 ≤ L.length
                · have ht2 : tk L 64 { c with p := c.p + 64 } = .ok (numOf ((L.drop (c.p + 64)).take 64), { c with p := c.p + 64 + 64 }) := tk_ok h2
                  have hc2 := fun W hW => rtake_ok g V L hL47 { c with p := c.p + 64 } 64 64 rfl (by decide) W hW h2
                  simp only at hc2
                  generalize numOf ((L.drop (c.p + 64)).take 64) = v at ht2 hc2
                  have hfin : smpR L c = .ok { c with p := c.p + 64 + 64, n := 1, t := t, v := v } := by rw [Hz.out, ht2]
                  obtain ⟨hy1, hy2⟩ := Hyes.out _ hfin
                  have Hy1 := hide hy1
                  have Hy2 := hide hy2
                  have Hc2 := hide hc2
                  clear hfin ht2 hc2 h2 Hz hy1 hy2 Herr Hyes
                  go_wp2_with fail
                  go_quiet (fail)
                  go_wp2_with fail
                  refine (Hc2.out _ (hR6.quiet ((Frm.refl [] w6).drewN _))).mono ?_
                  rintro e w7 ⟨rfl, hR7, hf7⟩
                  have hF7 := frm_gg (hF6.drewN _) hf7
                  have hX7 : Blk w7 b 45 #[.int .i64 t, .int .u64 0] := (hX6.drewN _).frm hf7 (by simpa using hbg)
                  have y0 : w7.cell? ⟨b, 0, none⟩ = some (.int .i64 t) := hX7.cell 0
                  have y1 : w7.cell? ⟨b, 1, none⟩ = some (.int .u64 0) := hX7.cell 1
                  have fy1 := hX7.frozen 1
                  have y2 : w7.cell? ⟨g, 2, none⟩ = some (.int .i64 0) := hR7.st.cell 2
                  have hX8 : Blk (w7.setCell ⟨b, 1, none⟩ (.int .u64 (v : Int))) b 45 #[.int .i64 t, .int .u64 (v : Int)] := by
                    have := hX7.set_ 1 (.int .u64 (v : Int))
                    simpa using this
                  have hR8 := hR7.far (p := ⟨b, 1, none⟩) hgb2 hVb (.int .u64 (v : Int))
                  have hF8 := hF7.setCell (p := ⟨b, 1, none⟩) (.inr hbw) (.int .u64 (v : Int))
                  have y28 : (w7.setCell ⟨b, 1, none⟩ (.int .u64 (v : Int))).cell? ⟨g, 2, none⟩ = some (.int .i64 0) := hR8.st.cell 2
                  clear x0 x1 fx1 z2 fz2 hX6 hR6 hF6 Hc2
                  go_upto_region 27 with (fail)
                  clear y0 y1 fy1 y2 hX7 hR7 hF7
                  generalize w7.setCell ⟨b, 1, none⟩ (.int .u64 (v : Int)) = w8 at *
                  obtain ⟨d1, d2⟩ := hS.done hF8
                  have hug := own_blk_ne d1 hR8.st (by decide)
                  obtain ⟨v', w9, hr, hown, hf9, hg9⟩ := append_smp (ty := 29) Tryd.underlying29 smpfor w8 d1 ⟨t, v⟩ Hy2.out (by have := hkn.out; omega)
                  simp only [Smp.arr] at hr
                  have Hr := hide hr
                  clear hr
                  have x0 : w8.cell? ⟨b, 0, none⟩ = some (.int .i64 t) := hX8.cell 0
                  have x1 : w8.cell? ⟨b, 1, none⟩ = some (.int .u64 (v : Int)) := hX8.cell 1
                  have hfu := hS.fu
                  have hfV := hS.fV
                  have hg0 := hS.g0
                  clear hS
                  go_wp2_with (at_builtin; refine wp_append_known rfl (.tmp 132) (.tmp 134) 29 29 rfl rfl rfl Hr.out ?_)
                  go_roundw
                  case measure => simp [intOf] <;> have := hkn.out <;> omega
                  case rel =>
                    refine ⟨_, { c with p := c.p + 64 + 64, n := 1, t := t, v := v }, by have := hkn.out; omega, by go_num, ⟨⟨hR8.st.frm hf9 (not_row hug), own_frm hR8.row hf9 (fun x hx hm => own_own_ne hR8.row d1 (by decide) x hx (by simpa using hm)), hR8.le⟩, hown, hfu.grew hg9 d2.size, hfV, hg0, d2.trans hf9 hfu.row⟩, Hy1⟩
                · have hfin : smpR L c = .error 20 := by rw [Hz.out, tk_no (by exact h2)]
                  have hM2 := Herr.out _ hfin
                  have HM2 := hide hM2
                  have hc2 := fun W hW => rtake_no g V L hL47 { c with p := c.p + 64 } 64 64 rfl (by decide) W hW h2
                  have Hc2 := hide hc2
                  clear hfin hc2 h2 hM2 HM Herr Hyes Hz
                  go_wp2_with fail
                  go_quiet (fail)
                  go_wp2_with fail
                  refine (Hc2.out _ (hR6.quiet ((Frm.refl [] w6).drewN _))).mono ?_
                  rintro e w7 ⟨rfl, hR7, hf7⟩
                  have hF7 := frm_gg (hF6.drewN _) hf7
                  have hX7 : Blk w7 b 45 #[.int .i64 t, .int .u64 0] := (hX6.drewN _).frm hf7 (by simpa using hbg)
                  have y1 : w7.cell? ⟨b, 1, none⟩ = some (.int .u64 0) := hX7.cell 1
                  have fy1 := hX7.frozen 1
                  have y2 : w7.cell? ⟨g, 2, none⟩ = some (.int .i64 20) := hR7.st.cell 2
                  have hF8 := hF7.setCell (p := ⟨b, 1, none⟩) (.inr hbw) (.int .u64 0)
                  clear x0 x1 fx1 z2 fz2 hX6 hR6 hF6 Hc2
                  go_wp2_with fail
                  go_region
                  go_wp2_with fail
                  go_ret2
                  obtain ⟨d1, d2⟩ := hS.done (hF8.drew)
                  exact ⟨_, by rw [HM2.out]; rfl, by rw [HM2.out, HL.out]; exact d1, hS.fu, d2⟩
              · have hz2 := Hz.out
                rw [if_pos (by omega)] at hz2
                have hM2 := Herr.out _ hz2
                have HM2 := hide hM2
                have hR7 := hR6.fault 91
                have hF7 := frm_g hF6 2 (.int .i64 91)
                have hq2 : (w6.setCell ⟨g, 2, none⟩ (.int .i64 91)).cell? ⟨g, 2, none⟩ = some (.int .i64 91) := hR7.st.cell 2
                have hX7 := hX6.far (p := ⟨g, 2, none⟩) hbg (.int .i64 91)
                have q1 : (w6.setCell ⟨g, 2, none⟩ (.int .i64 91)).cell? ⟨b, 1, none⟩ = some (.int .u64 0) := hX7.cell 1
                have fq1 := hX7.frozen 1
                clear hz2 hM2 HM Herr Hyes Hz
                rcases (by omega : t < 0 ∨ ((¬ t < 0) ∧ 1125899906842624 < t)) with hb1 | ⟨hb1, hb2⟩
                all_goals
                  go_upto_region 21 with (fail)
                  generalize w6.setCell ⟨g, 2, none⟩ (.int .i64 91) = w7 at *
                  go_quiet (fail)
                  go_wp2_with fail
                  refine (rtake_bad g V L _ 91 (by decide) _ _ (hR7.quiet ((Frm.refl [] w7).drewN _))).mono ?_
                  rintro e w' ⟨rfl, rfl⟩
                  go_wp2_with fail
                  go_region
                  go_wp2_with fail
                  go_ret2
                  exact ⟨_, by rw [HM2.out]; rfl, by rw [HM2.out, HL.out]; exact (hS.done (((hF7.drewN _).setCell (p := ⟨b, 1, none⟩) (.inr hbw) (.int .u64 0)).drew)).1, hS.fu, (hS.done (((hF7.drewN _).setCell (p := ⟨b, 1, none⟩) (.inr hbw) (.int .u64 0)).drew)).2⟩
            · have hfin : smpR L c = .error 20 := by rw [hz0]; unfold fstR; rw [tk_no h1]
              have hM2 := Herr.out _ hfin
              have HM2 := hide hM2
              have hc1 := rtake_no g V L hL47 c 64 64 rfl (by decide) w4 hR4 h1
              have Hc1 := hide hc1
              clear hfin hc1 h1 hM2 HM Herr Hyes hz0
              go_upto_region 12 with (fail)
              rw [Hw4.out, ← Hb.out]
              go_wp2_with fail
              refine Hc1.out.mono ?_
              rintro e w5 ⟨rfl, hR5, hf5⟩
              have hF5 := frm_gg hF4 hf5
              have hX5 := hX.frm hf5 (by simpa using hbg)
              have x0 : w5.cell? ⟨b, 0, none⟩ = some (.int .i64 0) := hX5.cell 0
              have x1 : w5.cell? ⟨b, 1, none⟩ = some (.int .u64 0) := hX5.cell 1
              have fx0 := hX5.frozen 0
              have fx1 := hX5.frozen 1
              have z2 : w5.cell? ⟨g, 2, none⟩ = some (.int .i64 20) := hR5.st.cell 2
              clear Hc1 hX hR4 Hw4
              go_upto_region 21 with (fail)
              have hR6 := hR5.far (p := ⟨b, 0, none⟩) hgb2 hVb (.int .i64 0)
              have hX6 : Blk (w5.setCell ⟨b, 0, none⟩ (.int .i64 0)) b 45 #[.int .i64 0, .int .u64 0] := by
                have := hX5.set_ 0 (.int .i64 0)
                simpa using this
              have hF6 := hF5.setCell (p := ⟨b, 0, none⟩) (.inr hbw) (.int .i64 0)
              generalize w5.setCell ⟨b, 0, none⟩ (.int .i64 0) = w6 at *
              have q1 : w6.cell? ⟨b, 1, none⟩ = some (.int .u64 0) := hX6.cell 1
              have fq1 := hX6.frozen 1
              have q2 : w6.cell? ⟨g, 2, none⟩ = some (.int .i64 20) := hR6.st.cell 2
              clear x0 x1 fx0 fx1 z2 hX5 hR5 hF5
              go_quiet (fail)
              go_wp2_with fail
              refine (rtake_bad g V L _ 20 (by decide) _ _ (hR6.quiet ((Frm.refl [] w6).drewN _))).mono ?_
              rintro e w' ⟨rfl, rfl⟩
              go_wp2_with fail
              go_region
              go_wp2_with fail
              go_ret2
              exact ⟨_, by rw [HM2.out]; rfl, by rw [HM2.out, HL.out]; exact (hS.done (((hF6.drewN _).setCell (p := ⟨b, 1, none⟩) (.inr hbw) (.int .u64 0)).drew)).1, hS.fu, (hS.done (((hF6.drewN _).setCell (p := ⟨b, 1, none⟩) (.inr hbw) (.int .u64 0)).drew)).2⟩
          · subst hk0
            have hz := smpR_pos (L := L) (s := c) (by omega)
            obtain ⟨gu, hA, hgu, hcells⟩ := hS.row.blk (by omega)
            subst hA
            have hFj := rdF_ok hres.out
            have k0 := hcells j 0 (by omega) (by decide)
            have k1 := hcells j 1 (by omega) (by decide)
            rw [hFj] at k0 k1
            have l0 : wr.cell? ⟨gu, j * 2, none⟩ = some (.int .i64 c.t) := k0
            have l1 : wr.cell? ⟨gu, j * 2 + 1, none⟩ = some (.int .u64 (c.v : Int)) := k1
            have hgub : gu ≠ b := by omega
            have i0 : ((j : Int) + 1 == 0) = false := by rw [beq_eq_false_iff_ne]; omega
            clear k0 k1 hFj hcells
            have hX := Blk.new wr 45 #[.int .i64 c.t, .int .u64 (c.v : Int)]
            rw [← Hb.out] at hX
            have hF4 : Frm [g] wr (wr.alloc (.cells #[.int .i64 c.t, .int .u64 (c.v : Int)] 45)) := (Frm.refl [g] wr).alloc _
            have hR4 := hS.rf.quiet ((Frm.refl [] wr).alloc (.cells #[.int .i64 c.t, .int .u64 (c.v : Int)] 45))
            obtain ⟨w4, hw4⟩ : ∃ w4, wr.alloc (.cells #[.int .i64 c.t, .int .u64 (c.v : Int)] 45) = w4 := ⟨_, rfl⟩
            rw [hw4] at hX hF4 hR4
            have Hw4 := hide hw4
            have Hz := hide hz
            clear hw4 hz
            go_upto_region 15 with (fail)
            go_wp2_with fail
            rw [Hw4.out, ← Hb.out]
            have hc1 := rstep_one g V L hL47 c w4 hR4
            refine hc1.mono ?_
            rintro e w5 ⟨ch, c5, f, rfl, hR5, hf5, hch⟩
            have hF5 := frm_gg hF4 hf5
            have hX5 := hX.frm hf5 (by simpa using hbg)
            obtain ⟨st, hst⟩ : ∃ st, wrap64 (c5.step + ch) = st := ⟨_, rfl⟩
            have hst2 : IntKind.i64.wrap (c5.step + ch) = st := (IntWalk.i64_left _).trans hst
            obtain ⟨t, ht⟩ : ∃ t, wrap64 (c.t + st) = t := ⟨_, rfl⟩
            have ht2 : IntKind.i64.wrap (c.t + st) = t := (IntWalk.i64_left _).trans ht
            have Hst := hide hst
            have Hst2 := hide hst2
            have Ht := hide ht
            have Ht2 := hide ht2
            clear hst hst2 ht ht2 hc1 hX hR4 Hw4
            have z3 : w5.cell? ⟨g, 3, none⟩ = some (.int .i64 c5.step) := hR5.st.cell 3
            have fz3 := hR5.st.frozen 3
            have x0 : w5.cell? ⟨b, 0, none⟩ = some (.int .i64 c.t) := hX5.cell 0
            have fx0 := hX5.frozen 0
            go_wp2_with fail
            first | rw [Hst2.out] | rw [Hst.out]
            have hR6 := hR5.step st
            have hX6 := hX5.far (p := ⟨g, 3, none⟩) hbg (.int .i64 st)
            have hF6 := frm_g hF5 3 (.int .i64 st)
            generalize w5.setCell ⟨g, 3, none⟩ (.int .i64 st) = w6 at *
            clear z3 fz3 x0 fx0 hX5 hR5 hF5
            have z3 : w6.cell? ⟨g, 3, none⟩ = some (.int .i64 st) := hR6.st.cell 3
            have x0 : w6.cell? ⟨b, 0, none⟩ = some (.int .i64 c.t) := hX6.cell 0
            have fx0 := hX6.frozen 0
            go_region
            first | rw [Ht2.out] | rw [Ht.out]
            have hX7 : Blk ((w6.setCell ⟨b, 0, none⟩ (.int .i64 t)).drew) b 45 #[.int .i64 t, .int .u64 (c.v : Int)] := by
              have := (hX6.set_ 0 (.int .i64 t)).drew
              simpa using this
            have hR7 := (hR6.far (p := ⟨b, 0, none⟩) hgb2 hVb (.int .i64 t)).drew
            have hF7 := (hF6.setCell (p := ⟨b, 0, none⟩) (.inr hbw) (.int .i64 t)).drew
            clear z3 x0 fx0 hX6 hR6 hF6
            generalize (w6.setCell ⟨b, 0, none⟩ (.int .i64 t)).drew = w7 at *
            have x0 : w7.cell? ⟨b, 0, none⟩ = some (.int .i64 t) := hX7.cell 0
            have x1 : w7.cell? ⟨b, 1, none⟩ = some (.int .u64 (c.v : Int)) := hX7.cell 1
            have fx1 := hX7.frozen 1
            have z2 : w7.cell? ⟨g, 2, none⟩ = some (.int .i64 f) := hR7.st.cell 2
            have fz2 := hR7.st.frozen 2
            have l7 : w7.cell? ⟨gu, j * 2, none⟩ = some (.int .i64 c.t) := by
              obtain ⟨gu2, hA2, _, hcells2⟩ := (hS.done hF7).1.blk (by omega)
              have h1 : gu = gu2 := by simpa using hA2
              subst h1
              have k0 := hcells2 j 0 (by omega) (by decide)
              rw [rdF_ok hres.out] at k0
              exact k0
            clear l0 l1
            rcases hch.out with ⟨rfl, hcr⟩ | ⟨hfn, hcr⟩
            · obtain ⟨⟨q, rfl⟩, _, _⟩ := chgR_same hcr
              have hz2 := Hz.out
              rw [hcr] at hz2
              simp only at hz2
              have Hz := hide hz2
              clear hch hz2 hcr
              by_cases hr : 0 ≤ t ∧ t ≤ 1125899906842624
              · obtain ⟨hr1, hr2⟩ := hr
                have e1 : ¬ t < 0 := by omega
                have e2 : ¬ (1125899906842624 : Int) < t := by omega
                go_upto_region 21 with (fail)
                by_cases ho : c.t < t
                · have htm := tmR_ok (L := L) (s := { c with p := q }) Hst.out Ht.out hr1 hr2 ho
                  have hk2 : RsOk { c with p := q, step := st } := by
                    have t0 := hck.t0
                    have t1 := hck.t1
                    have e2 := Ht.out
                    have hstb : -9223372036854775808 ≤ st ∧ st ≤ 9223372036854775807 := by rw [← Hst.out]; unfold wrap64; omega
                    have hst3 : 0 ≤ st ∧ st ≤ 1125899906842624 := by unfold wrap64 at e2; omega
                    exact ⟨hck.t0, hck.t1, hck.v, hst3.1, hst3.2, hck.l0, hck.l1, hck.a0, hck.a1, hck.win⟩
                  have Htm := hide htm
                  have hoi : ¬ t ≤ c.t := by omega
                  clear htm
                  go_quiet (fail)
                  go_wp2_with fail
                  refine (rdif_one g V L hL47 { c with p := q, step := st } hk2 _ (hR7.quiet ((Frm.refl [] w7).drewN _))).mono ?_
                  rintro e w8 ⟨x, c8, f8, rfl, hR8, hf8, hdf⟩
                  have hF8 := frm_gg (hF7.drewN _) hf8
                  have hX8 : Blk w8 b 45 #[.int .i64 t, .int .u64 (c.v : Int)] := (hX7.drewN _).frm hf8 (by simpa using hbg)
                  have y1 : w8.cell? ⟨b, 1, none⟩ = some (.int .u64 (c.v : Int)) := hX8.cell 1
                  have fy1 := hX8.frozen 1
                  clear x0 x1 fx1 z2 fz2 l7 hX7 hR7 hF7
                  have hxor := u64_xor_nat c.v x hck.v hdf.out.1
                  have Hxor := hide hxor
                  clear hxor
                  go_upto_region 26 with (fail)
                  go_upto_region 27 with (fail)
                  first | rw [Hxor.out] | skip
                  have hX9 : Blk (w8.setCell ⟨b, 1, none⟩ (.int .u64 ((c.v ^^^ x : Nat) : Int))) b 45 #[.int .i64 t, .int .u64 ((c.v ^^^ x : Nat) : Int)] := by
                    have := hX8.set_ 1 (.int .u64 ((c.v ^^^ x : Nat) : Int))
                    simpa using this
                  have hR9 := hR8.far (p := ⟨b, 1, none⟩) hgb2 hVb (.int .u64 ((c.v ^^^ x : Nat) : Int))
                  have hF9 := hF8.setCell (p := ⟨b, 1, none⟩) (.inr hbw) (.int .u64 ((c.v ^^^ x : Nat) : Int))
                  clear y1 fy1 hX8 hR8 hF8
                  have hX8 := hX9
                  have hR8 := hR9
                  have hF8 := hF9
                  clear hX9 hR9 hF9
                  generalize w8.setCell ⟨b, 1, none⟩ (.int .u64 ((c.v ^^^ x : Nat) : Int)) = w8 at *
                  have y2 : w8.cell? ⟨g, 2, none⟩ = some (.int .i64 f8) := hR8.st.cell 2
                  rcases hdf.out.2 with ⟨rfl, hdr⟩ | ⟨hfn, hdr⟩
                  · obtain ⟨hds, _⟩ := difR_same hk2 hdr
                    have htm2 := Htm.out
                    rw [hdr] at htm2
                    obtain ⟨hy1, hy2⟩ := Hyes.out _ (Hz.out.trans htm2)
                    have Hy1 := hide hy1
                    have Hy2 := hide hy2
                    clear hy1 hy2 htm2 hdr Hz Htm Hyes Herr hdf
                    obtain ⟨d1, d2⟩ := hS.done hF8
                    have hug := own_blk_ne d1 hR8.st (by decide)
                    obtain ⟨v', w9, hr, hown, hf9, hg9⟩ := append_smp (ty := 29) Tryd.underlying29 smpfor w8 d1 ⟨t, (c.v ^^^ x : Nat)⟩ Hy2.out (by have := hkn.out; omega)
                    simp only [Smp.arr] at hr
                    have Hr := hide hr
                    clear hr
                    have x0 : w8.cell? ⟨b, 0, none⟩ = some (.int .i64 t) := hX8.cell 0
                    have x1 : w8.cell? ⟨b, 1, none⟩ = some (.int .u64 ((c.v ^^^ x : Nat) : Int)) := hX8.cell 1
                    have hfu := hS.fu
                    have hfV := hS.fV
                    have hg0 := hS.g0
                    clear hS
                    go_wp2_with (at_builtin; refine wp_append_known rfl (.tmp 132) (.tmp 134) 29 29 rfl rfl rfl Hr.out ?_)
                    go_roundw
                    case measure => simp [intOf] <;> have := hkn.out <;> omega
                    case rel =>
                      refine ⟨_, { c8 with n := c.n + 1, t := t, v := c.v ^^^ x }, by have := hkn.out; omega, by go_num, ⟨⟨hR8.st.frm hf9 (not_row hug), own_frm hR8.row hf9 (fun x hx hm => own_own_ne hR8.row d1 (by decide) x hx (by simpa using hm)), hR8.le⟩, hown, hfu.grew hg9 d2.size, hfV, hg0, d2.trans hf9 hfu.row⟩, Hy1⟩
                  · have htm2 := Htm.out
                    rw [hdr] at htm2
                    have hM2 := Herr.out _ (Hz.out.trans htm2)
                    have HM2 := hide hM2
                    have hfb : (f8 != 0) = true := by rw [bne_iff_ne]; exact hfn
                    clear hM2 htm2 hdr Hz Htm Hyes Herr HM hdf
                    go_wp2_with fail
                    go_region
                    go_wp2_with fail
                    go_ret2
                    obtain ⟨d1, d2⟩ := hS.done (hF8.drew)
                    exact ⟨_, by rw [HM2.out]; rfl, by rw [HM2.out, HL.out]; exact d1, hS.fu, d2⟩
                · have htm : tmR L ch { c with p := q } = .error 90 := by
                    unfold tmR
                    simp only [Hst.out, Ht.out]
                    rw [if_neg (by omega), if_pos (by omega)]
                  have hM2 := Herr.out _ (Hz.out.trans htm)
                  have HM2 := hide hM2
                  have hoi : t ≤ c.t := by omega
                  clear hM2 htm Hz Hyes Herr HM
                  go_quiet (fail)
                  go_wp2_with fail
                  refine (rdif_bad g V L _ 90 (by decide) _ ((hR7.quiet ((Frm.refl [] w7).drewN _)).fault 90)).mono ?_
                  rintro e w' ⟨rfl, rfl⟩
                  go_wp2_with fail
                  go_region
                  go_wp2_with fail
                  go_ret2
                  exact ⟨_, by rw [HM2.out]; rfl, by rw [HM2.out, HL.out]; exact (hS.done ((((frm_g (hF7.drewN _) 2 (.int .i64 90)).setCell (p := ⟨b, 1, none⟩) (.inr hbw) _).drew))).1, hS.fu, (hS.done ((((frm_g (hF7.drewN _) 2 (.int .i64 90)).setCell (p := ⟨b, 1, none⟩) (.inr hbw) _).drew))).2⟩
              · have htm : tmR L ch { c with p := q } = .error 91 := by
                  unfold tmR
                  simp only [Hst.out, Ht.out]
                  rw [if_pos (by omega)]
                have hM2 := Herr.out _ (Hz.out.trans htm)
                have HM2 := hide hM2
                clear hM2 htm Hz Hyes Herr HM
                rcases (by omega : t < 0 ∨ ((¬ t < 0) ∧ 1125899906842624 < t)) with hb1 | ⟨hb1, hb2⟩
                all_goals
                  go_upto_region 21 with (fail)
                  have hR8 := hR7.fault 91
                  have hX8 := hX7.far (p := ⟨g, 2, none⟩) hbg (.int .i64 91)
                  have hF8 := frm_g hF7 2 (.int .i64 91)
                  generalize w7.setCell ⟨g, 2, none⟩ (.int .i64 91) = w8 at *
                  have q1 : w8.cell? ⟨b, 1, none⟩ = some (.int .u64 (c.v : Int)) := hX8.cell 1
                  have fq1 := hX8.frozen 1
                  have q2 : w8.cell? ⟨g, 2, none⟩ = some (.int .i64 91) := hR8.st.cell 2
                  go_quiet (fail)
                  go_wp2_with fail
                  refine (rdif_bad g V L _ 91 (by decide) _ (hR8.quiet ((Frm.refl [] w8).drewN _))).mono ?_
                  rintro e w' ⟨rfl, rfl⟩
                  go_wp2_with fail
                  go_region
                  go_wp2_with fail
                  go_ret2
                  exact ⟨_, by rw [HM2.out]; rfl, by rw [HM2.out, HL.out]; exact (hS.done (((hF8.drewN _).setCell (p := ⟨b, 1, none⟩) (.inr hbw) _).drew)).1, hS.fu, (hS.done (((hF8.drewN _).setCell (p := ⟨b, 1, none⟩) (.inr hbw) _).drew)).2⟩
            · have hz2 := Hz.out
              rw [hcr] at hz2
              have hM2 := Herr.out _ hz2
              have HM2 := hide hM2
              have hfb : (f != 0) = true := by rw [bne_iff_ne]; exact hfn
              have hfe : (f == 0) = false := by rw [beq_eq_false_iff_ne]; exact hfn
              clear hch hz2 hcr hM2 Hz Hyes Herr HM
              go_upto_region 21 with (fail)
              go_quiet (fail)
              go_wp2_with fail
              refine (rdif_bad g V L _ f hfn _ (hR7.quiet ((Frm.refl [] w7).drewN _))).mono ?_
              rintro e w' ⟨rfl, rfl⟩
              go_wp2_with fail
              go_region
              go_wp2_with fail
              go_ret2
              exact ⟨_, by rw [HM2.out]; rfl, by rw [HM2.out, HL.out]; exact (hS.done (((hF7.drewN _).setCell (p := ⟨b, 1, none⟩) (.inr hbw) _).drew)).1, hS.fu, (hS.done (((hF7.drewN _).setCell (p := ⟨b, 1, none⟩) (.inr hbw) _).drew)).2⟩
        · obtain rfl : k = n := by omega
          have hM2 : rdM (bl s) = (k, 0) := by rw [HM.out]; exact rdE_ok hres.out
          have HM2 := hide hM2
          clear hM2 HM
          go_wp2_with fail
          go_ret2
          exact ⟨_, by rw [HM2.out]; rfl, by rw [HM2.out, HL.out]; exact hS.row, hS.fu, hS.frm⟩
  · have hM2 : rdM (bl s) = (0, (er : Int)) := by rw [hM, if_pos he]
    have HM := hide hM2
    have HL := hide hL
    have hne : ((er : Int) != 0) = true := by rw [bne_iff_ne]; omega
    clear hM hM2 hnx hL he
    go_enter Tryd.func22, Tryd.ntmps22
    go_wp2_with fail
    refine (Hcall.out _).mono ?_
    rintro e w' ⟨rfl, rfl⟩
    go_wp2_with fail
    go_ret2
    exact ⟨_, by rw [HM.out]; rfl, by rw [HM.out]; exact SRow.nil _ _ _, Fresh.nil _, Frm.refl _ _⟩

end Go.Proofs.YtdnllmibchmnnaaDoor
