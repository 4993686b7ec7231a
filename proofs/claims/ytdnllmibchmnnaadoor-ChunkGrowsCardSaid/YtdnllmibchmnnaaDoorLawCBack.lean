/-
  ChunkBack's walk: samples that are taken are read back, bit for bit.
-/
import Derived.Test.YtdnllmibchmnnaaDoorKep
namespace Go.Proofs.YtdnllmibchmnnaaDoor
set_option linter.unusedVariables false
set_option linter.unusedSimpArgs false
open Go.RowKit Go.BigFrame

/-- A chunk in block b and a row of the samples that it took, both new since w. -/
structure KepSt (w wr : World) (b : Nat) (v : Value) (c : Ck) (e : TypeId) (u : Value) (m : Nat) (G : Nat → Smp) : Prop where
  ch : CenSt w wr b v c
  row : SRow wr e u m G
  fu : Fresh w.heap.size u
  ne : ∀ k, v.ownBlock = some k → u.ownBlock ≠ some k
theorem KepSt.quiet {w wr w1 : World} {b : Nat} {v : Value} {c : Ck} {e : TypeId} {u : Value} {m : Nat} {G : Nat → Smp} (h : KepSt w wr b v c e u m G) (hf : Frm [] wr w1) : KepSt w w1 b v c e u m G :=
  ⟨h.ch.quiet hf, h.row.quiet hf, h.fu, h.ne⟩
theorem KepSt.put {w wr w1 : World} {b : Nat} {v v1 : Value} {c c1 : Ck} {e : TypeId} {u : Value} {m : Nat} {G : Nat → Smp} (h : KepSt w wr b v c e u m G) (hne : e ≠ 44) (hc : ChAt w1 b v1 c1) (hf : Frm (b :: v.ownBlock.toList) wr w1) (hg : Grew wr v v1) : KepSt w w1 b v1 c1 e u m G := by
  have hb := own_blk_ne h.row h.ch.ch.blk hne
  have hn : ∀ k, u.ownBlock = some k → k ∉ b :: v.ownBlock.toList := fun k hk hm => by
    rcases List.mem_cons.1 hm with rfl | hm
    · exact hb hk
    · exact h.ne k (by simpa using hm) hk
  refine ⟨h.ch.put hc hf hg, h.row.frm hf hn, h.fu, fun k hk hu => ?_⟩
  rcases hg with hg | ⟨j, hj, hjs⟩
  · exact h.ne k (hg ▸ hk) hu
  · rw [hj] at hk
    have : j = k := by simpa using hk
    have := h.row.lt hu
    omega
theorem KepSt.snoc {w wr w1 : World} {b : Nat} {v : Value} {c : Ck} {e : TypeId} {u u1 : Value} {m m1 : Nat} {G G1 : Nat → Smp} (h : KepSt w wr b v c e u m G) (hne : e ≠ 44) (hr : SRow w1 e u1 m1 G1) (hf : Frm u.ownBlock.toList wr w1) (hg : Grew wr u u1) : KepSt w w1 b v c e u1 m1 G1 := by
  have hb := own_blk_ne h.row h.ch.ch.blk hne
  have hv : ∀ k, v.ownBlock = some k → k ∉ u.ownBlock.toList := fun k hk hm => h.ne k hk (by simpa using hm)
  refine ⟨⟨⟨h.ch.ch.blk.frm hf (not_row hb), own_frm h.ch.ch.own hf hv⟩, h.ch.b0, h.ch.fv, h.ch.frm.trans hf h.fu.row⟩, hr, h.fu.grew hg h.ch.frm.size, fun k hk hu => ?_⟩
  rcases hg with hg | ⟨j, hj, hjs⟩
  · exact h.ne k hk (hg ▸ hu)
  · rw [hj] at hu
    have : j = k := by simpa using hu
    have := own_lt h.ch.ch.own hk
    omega

set_option maxRecDepth 100000 in
set_option maxHeartbeats 2000000 in
theorem cback_walk (A : Option Addr) (n cap : Nat) (F : Nat → Smp) (hok : ∀ i, i < n → (F i).Ok) (hn : n * 16 ≤ 140737488351232) (w : World) (hD : DbAt w) (hc : CellsAt w A n 2 (fun i j => (F i).cell j)) :
    Calls Tryd.prog 9 #[.slice A n cap] w fun e w' => e = .returned (.bool true) ∧ Frm [] w w' := by
  have hw := wakes_any w hD
  have Hw := hide hw
  clear hw
  go_enter Tryd.func9, Tryd.ntmps9
  go_wp2_with fail
  refine Hw.out.mono ?_
  rintro e w1 ⟨rfl, hf1⟩
  have hD1 := hD.frm hf1
  have hc1 := hc.frm hf1
  go_wp2_with fail
  have hE : KepSt w1 (w1.alloc (.cells #[.slice none 0 0, .int .i64 0, .int .i64 0, .int .i64 0, .int .u64 0, .int .i64 0, .int .i64 0, .int .i64 0, .bool false] 44)) w1.heap.size (.slice none 0 0) ck0 37 (.slice none 0 0) 0 (kpF F 0) :=
    ⟨⟨ChAt.new w1, Nat.le_refl _, Fresh.nil _, (Frm.refl _ _).alloc _⟩, SRow.nil _ _ _, Fresh.nil _, fun k hk => by simp [Value.ownBlock] at hk⟩
  generalize (w1.alloc (.cells #[.slice none 0 0, .int .i64 0, .int .i64 0, .int .i64 0, .int .u64 0, .int .i64 0, .int .i64 0, .int .i64 0, .bool false] 44)) = w3 at hE ⊢
  obtain ⟨b, hb⟩ : ∃ b, b = w1.heap.size := ⟨_, rfl⟩
  rw [← hb] at hE ⊢
  clear hb
  go_loopw [4, 17] (fun u4 i wr => ∃ (k : Nat) (v : Value), k ≤ n ∧ i = .int .i64 (k : Int) ∧ KepSt w1 wr b v (kpC F k) 37 u4 (kpN F k) (kpF F k)) (fun _ i _ => n - (intOf i).toNat)
  case atStart => exact ⟨0, _, by omega, rfl, hE⟩
  case round =>
    clear hE
    obtain ⟨k, v, hk, rfl, hS⟩ := hrel
    obtain ⟨A1, ca, hsh⟩ := hS.row.shape
    subst hsh
    have hkl := kpN_le F k
    by_cases hlt : k < n
    · obtain ⟨sb, off, rfl, hsb, c0, c1⟩ := smp_at (hc1.frm hS.ch.frm) hlt
      have hlt2 := hide hlt
      have hOk := hok k hlt
      have hK := kpC_ok F n hok k hk
      have hDr := hD1.frm hS.ch.frm
      have hSa := hS.quiet ((Frm.refl [] wr).alloc (.cells #[.int .i64 (F k).t, .int .u64 ((F k).v : Int)] 37))
      have hDa := hDr.frm ((Frm.refl [] wr).alloc (.cells #[.int .i64 (F k).t, .int .u64 ((F k).v : Int)] 37))
      have hX := Blk.new wr 37 #[.int .i64 (F k).t, .int .u64 ((F k).v : Int)]
      by_cases hf : appF (kpC F k) (F k).t = 0
      · have hcall := app_ok b v (kpC F k) (F k).t (F k).v hOk.v hK hf _ hSa.ch.ch hDa (by have := hS.ch.b0; have := hD1.1; omega) (fun h => by have := hS.ch.fv _ h; have := hD1.1; omega)
        have hst := kpC_yes hf
        have hkn := kpN_yes hf
        have hkl2 := kp_last hf
        have hkb := fun i hi => kp_below hf i hi
        have Hcall := hide hcall
        have Hst := hide hst
        have Hkn := hide hkn
        have Hkl := hide hkl2
        have Hkb := hide hkb
        clear hcall hf hst hkn hkl2 hkb
        go_wp2_with fail
        refine Hcall.out.mono ?_
        rintro e w5 ⟨rfl, v1, hC1, hfr1, hg1⟩
        have hS1 := hSa.put (by decide) hC1 hfr1 hg1
        have hbx : wr.heap.size ∉ b :: v.ownBlock.toList := by
          refine not_foot ?_ ?_
          · have := hS.ch.ch.blk.lt; omega
          · intro h; have := own_lt hS.ch.ch.own h; omega
        have hX1 := hX.frm hfr1 hbx
        have hq0 : w5.cell? ⟨wr.heap.size, 0, none⟩ = some (.int .i64 (F k).t) := hX1.cell 0
        have hq1 : w5.cell? ⟨wr.heap.size, 1, none⟩ = some (.int .u64 ((F k).v : Int)) := hX1.cell 1
        rw [← Hst.out] at hS1
        have hrow1 : SRow w5 37 (.slice A1 (kpN F k) ca) (kpN F k) (kpF F (k + 1)) := hS1.row.congr (fun i hi => (Hkb.out i hi).symm)
        obtain ⟨v', w6, hr, hown, hf6, hg6⟩ := append_smp (ty := 22) Tryd.underlying22 smpinfo w5 hrow1 (F k) Hkl.out (by omega)
        simp only [Smp.arr] at hr
        have Hr := hide hr
        have HS1 := hide hS1
        clear hr hS1 hS hSa hX hX1 hC1 hfr1 hg1
        generalize kpN F k = m at *
        go_wp2_with (at_builtin; refine wp_append_known rfl (.tmp 28) (.tmp 30) 22 22 rfl rfl rfl Hr.out ?_)
        go_roundw
        case measure => have := hlt2.out; simp [intOf]; omega
        case rel =>
          refine ⟨k + 1, v1, by have := hlt2.out; omega, by go_num, ?_⟩
          rw [Hkn.out]
          exact HS1.out.snoc (by decide) hown hf6 hg6
      · have hcall := app_fault b v (kpC F k) (F k).t (F k).v hK hf _ hSa.ch.ch
        have hst := kpC_no hf
        have hkn := kpN_no hf
        have hkf := kpF_no hf
        have hne : (appF (kpC F k) (F k).t == 0) = false := by rw [beq_eq_false_iff_ne]; exact hf
        have Hst := hide hst
        have Hkn := hide hkn
        have Hkf := hide hkf
        clear hst hkn hkf hf
        generalize appF (kpC F k) (F k).t = er at hcall hne
        have Hcall := hide hcall
        clear hcall
        go_wp2_with fail
        refine Hcall.out.mono ?_
        rintro e w5 ⟨rfl, rfl⟩
        go_wp2_with fail
        go_roundw
        case measure => have := hlt2.out; simp [intOf]; omega
        case rel =>
          refine ⟨k + 1, v, by have := hlt2.out; omega, by go_num, ?_⟩
          rw [Hst.out, Hkn.out, Hkf.out]
          exact hSa
    · obtain rfl : k = n := by omega
      have hK := kpC_ok F k hok k (Nat.le_refl _)
      have hl := hK.len
      have hn9 := hK.n
      have hokG := kp_ok F k hok k (Nat.le_refl _)
      have hfa := kp_fa F k
      obtain ⟨hE, hN, hB⟩ := dec_back hokG hfa
      have hcn := kpC_n F k
      have hby := fun W h => ckbytes_any b v (kpC F k) (by omega) (by omega) W h
      have hcnt := fun W h => count_any b v (kpC F k) W h
      have hDr := hD1.frm hS.ch.frm
      have hsz : (bstr (ckB (kpC F k))).size ≤ 140737488355328 := by
        rw [bstr_size]
        have h1 := uintB_le (kpC F k).n
        have h2 := pack_length (kpC F k).bits
        simp only [ckB, List.length_append]
        omega
      have hdec := fun W h => cdecode_any (bstr (ckB (kpC F k))) hsz W h
      rw [bl_bstr _ (ckB_byte _)] at hdec
      have htell := tellC_zero hfa
      have henc := fun (A : Option Addr) (cap : Nat) W hDW hc => cencode_any A (kpN F k) cap (kpF F k) hokG (by omega) W hDW hc
      rw [htell] at henc
      have hcc : ckN (kpF F k) (kpN F k) = kpC F k := rfl
      rw [hcc] at hE hN hB henc
      unfold NewDec at hdec
      rw [hE, hN] at hdec
      rw [hcn] at hcnt
      have hm120 : kpN F k * 16 ≤ 140737488351232 := by omega
      have Hby := hide hby
      have Hcnt := hide hcnt
      have Hdec := hide hdec
      have Henc := hide henc
      have HB := hide hB
      have hz1 := str_beq_self (bstr (ckB (kpC F k)))
      clear hby hcnt hdec henc hB hE hN hcc htell hcn hfa hokG hsz hl hn9 hK
      generalize kpC F k = ck at *
      generalize kpN F k = m at *
      generalize kpF F k = G at *
      generalize bstr (ckB ck) = B at *
      go_wp2_with fail
      refine (Hby.out _ hS.ch.ch).mono ?_
      rintro e w5 ⟨rfl, hf5⟩
      have hS5 := hS.quiet hf5
      go_wp2_with fail
      refine (Hdec.out _ (hDr.frm hf5)).mono ?_
      rintro e w6 ⟨A6, c6, rfl, hrow6, hfv6, hf6⟩
      have hS6 := hS5.quiet hf6
      have hrow6' : SRow w6 37 (.slice A6 m c6) m G := hrow6.congr HB.out
      go_wp2_with fail
      refine (Henc.out A1 ca _ ((hDr.frm hf5).frm hf6) hS6.row.cellsAt).mono ?_
      rintro e w7 ⟨rfl, hf7⟩
      have hS7 := hS6.quiet hf7
      go_wp2_with fail
      refine (Hby.out _ hS7.ch.ch).mono ?_
      rintro e w8 ⟨rfl, hf8⟩
      have hS8 := hS7.quiet hf8
      go_wp2_with fail
      refine (ref_any A1 m ca G hm120 _ hS8.row.cellsAt).mono ?_
      rintro e w9 ⟨v9, rfl, hrow9, hfr9, hf9⟩
      obtain ⟨A9, c9, rfl⟩ := hrow9.shape
      have hS9 := hS8.quiet hf9
      go_wp2_with fail
      refine (alike_any A6 m m G A9 c9 hm120 _ (((hrow6'.quiet hf7).quiet hf8).quiet hf9).cellsAt hrow9.cellsAt).mono ?_
      rintro e w10 ⟨rfl, hf10⟩
      have hS10 := hS9.quiet hf10
      go_wp2_with fail
      refine (Hcnt.out _ hS10.ch.ch).mono ?_
      rintro e w' ⟨rfl, rfl⟩
      go_wp2_with fail
      go_ret
      exact ⟨rfl, hf1.trans hS10.ch.frm (by simp)⟩

end Go.Proofs.YtdnllmibchmnnaaDoor
