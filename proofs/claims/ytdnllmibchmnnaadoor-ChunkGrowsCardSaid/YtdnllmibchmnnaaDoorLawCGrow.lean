/-
  ChunkGrows' walk: appended one by one, each sample is taken or refused, and the chunk is the document's behind each.
-/
import Derived.Test.YtdnllmibchmnnaaDoorLawCBack
namespace Go.Proofs.YtdnllmibchmnnaaDoor
set_option linter.unusedVariables false
set_option linter.unusedSimpArgs false
open Go.RowKit Go.BigFrame

theorem neq_zero (W : World) : (binOp .neq 37 (.agg #[.int .i64 0, .int .u64 0]) (.agg #[.int .i64 0, .int .u64 0])).run Tryd.prog W = .ok (.bool false) W := by kernel_rfl

set_option maxRecDepth 100000 in
set_option maxHeartbeats 4000000 in
theorem cgrow_walk (A : Option Addr) (n cap : Nat) (F : Nat → Smp) (hok : ∀ i, i < n → (F i).Ok) (hn : n * 16 ≤ 140737488351232) (w : World) (hD : DbAt w) (hc : CellsAt w A n 2 (fun i j => (F i).cell j)) :
    Calls Tryd.prog 5 #[.slice A n cap] w fun e w' => e = .returned (.bool true) ∧ Frm [] w w' := by
  go_enter Tryd.func5, Tryd.ntmps5
  go_wp2_with fail
  have hE : KepSt w (w.alloc (.cells #[.slice none 0 0, .int .i64 0, .int .i64 0, .int .i64 0, .int .u64 0, .int .i64 0, .int .i64 0, .int .i64 0, .bool false] 44)) w.heap.size (.slice none 0 0) ck0 45 (.slice none 0 0) 0 (kpF F 0) :=
    ⟨⟨ChAt.new w, Nat.le_refl _, Fresh.nil _, (Frm.refl _ _).alloc _⟩, SRow.nil _ _ _, Fresh.nil _, fun k hk => by simp [Value.ownBlock] at hk⟩
  generalize (w.alloc (.cells #[.slice none 0 0, .int .i64 0, .int .i64 0, .int .i64 0, .int .u64 0, .int .i64 0, .int .i64 0, .int .i64 0, .bool false] 44)) = w3 at hE ⊢
  obtain ⟨b, hb⟩ : ∃ b, b = w.heap.size := ⟨_, rfl⟩
  rw [← hb] at hE ⊢
  clear hb
  go_loopw [4, 15] (fun u4 i wr => ∃ (k : Nat) (v : Value), k ≤ n ∧ i = .int .i64 (k : Int) ∧ KepSt w wr b v (kpC F k) 45 u4 (kpN F k) (kpF F k)) (fun _ i _ => n - (intOf i).toNat)
  case atStart => exact ⟨0, _, by omega, rfl, hE⟩
  case round =>
    clear hE
    obtain ⟨k, v, hk, rfl, hS⟩ := hrel
    obtain ⟨A1, ca, hsh⟩ := hS.row.shape
    subst hsh
    have hkl := kpN_le F k
    by_cases hlt : k < n
    · obtain ⟨sb, off, rfl, hsb, c0, c1⟩ := smp_at (hc.frm hS.ch.frm) hlt
      have hlt2 := hide hlt
      have hOk := hok k hlt
      have hK := kpC_ok F n hok k hk
      have hDr := hD.frm hS.ch.frm
      have hXf : Frm [] wr ((wr.alloc (.cells #[.int .i64 (F k).t, .int .u64 ((F k).v : Int)] 37)).alloc (.cells #[.int .i64 (F k).t, .int .u64 ((F k).v : Int)] 45)) := ((Frm.refl [] wr).alloc _).alloc _
      have hX := (Blk.new wr 37 #[.int .i64 (F k).t, .int .u64 ((F k).v : Int)]).alloc (.cells #[.int .i64 (F k).t, .int .u64 ((F k).v : Int)] 45)
      have hY := Blk.new (wr.alloc (.cells #[.int .i64 (F k).t, .int .u64 ((F k).v : Int)] 37)) 45 #[.int .i64 (F k).t, .int .u64 ((F k).v : Int)]
      simp only [World.size_alloc] at hY
      -- ROUND
      have hfa := rfault_any A1 (kpN F k) ca (kpF F k) (by omega) (F k).t (F k).v _ (hS.row.quiet hXf).cellsAt
      rw [kp_rflt F n hok k hk] at hfa
      have Hfa := hide hfa
      have hSa := hS.quiet hXf
      have hbx : wr.heap.size ∉ b :: v.ownBlock.toList := by
        refine not_foot ?_ ?_
        · have := hS.ch.ch.blk.lt; omega
        · intro h; have := own_lt hS.ch.ch.own h; omega
      have hby : wr.heap.size + 1 ∉ b :: v.ownBlock.toList := by
        refine not_foot ?_ ?_
        · have := hS.ch.ch.blk.lt; omega
        · intro h; have := own_lt hS.ch.ch.own h; omega
      clear hfa hXf
      by_cases hf : appF (kpC F k) (F k).t = 0
      · have hst := kpC_yes hf
        have hkn := kpN_yes hf
        have hkl2 := kp_last hf
        have hkb := fun i hi => kp_below hf i hi
        have happ := fun W h hDW => app_ok b v (kpC F k) (F k).t (F k).v hOk.v hK hf W h hDW (by have := hS.ch.b0; have := hD.1; omega) (fun h => by have := hS.ch.fv _ h; have := hD.1; omega)
        have hlv : lastV (kpC F (k + 1)) = .tuple #[.agg #[.int .i64 (kpF F (k + 1) (kpN F k)).t, .int .u64 ((kpF F (k + 1) (kpN F k)).v : Int)], .bool true] := by
          unfold lastV
          rw [kpC_n, hkn, if_neg (by omega)]
          have e : kpC F (k + 1) = ckN (kpF F (k + 1)) (kpN F k + 1) := by unfold kpC; rw [hkn]
          rw [e, ckN_t, ckN_v]
        have hcm : (kpC F (k + 1)).n = kpN F k + 1 := by rw [kpC_n, hkn]
        have hnn : ((0 : Int) != 0) = false := by decide
        rw [hf] at Hfa
        have Happ := hide happ
        have Hst := hide hst
        have Hkn := hide hkn
        have Hkl := hide hkl2
        have Hkb := hide hkb
        clear happ hst hkn hkl2 hkb hf
        go_wp2_with fail
        refine Hfa.out.mono ?_
        rintro e w5 ⟨rfl, hf5⟩
        have hS5 := hSa.quiet hf5
        have hX5 := hX.frm hf5 (by simp)
        have hY5 := hY.frm hf5 (by simp)
        have x0 : w5.cell? ⟨wr.heap.size, 0, none⟩ = some (.int .i64 (F k).t) := hX5.cell 0
        have x1 : w5.cell? ⟨wr.heap.size, 1, none⟩ = some (.int .u64 ((F k).v : Int)) := hX5.cell 1
        clear hSa hX hY Hfa
        go_wp2_with fail
        refine (Happ.out _ hS5.ch.ch (hD.frm hS5.ch.frm)).mono ?_
        rintro e w6 ⟨rfl, v1, hC6, hfr6, hg6⟩
        have hS6 := hS5.put (by decide) hC6 hfr6 hg6
        have hY6 := hY5.frm hfr6 hby
        have y0 : w6.cell? ⟨wr.heap.size + 1, 0, none⟩ = some (.int .i64 (F k).t) := hY6.cell 0
        have y1 : w6.cell? ⟨wr.heap.size + 1, 1, none⟩ = some (.int .u64 ((F k).v : Int)) := hY6.cell 1
        rw [← Hst.out] at hS6
        have hrow6 : SRow w6 45 (.slice A1 (kpN F k) ca) (kpN F k) (kpF F (k + 1)) := hS6.row.congr (fun i hi => (Hkb.out i hi).symm)
        obtain ⟨v', w7, hr, hown, hf7, hg7⟩ := append_smp (ty := 29) Tryd.underlying29 smpfor w6 hrow6 (F k) Hkl.out (by omega)
        simp only [Smp.arr] at hr
        have Hr := hide hr
        obtain ⟨A2, c2, hsh2⟩ := hown.shape
        subst hsh2
        have hS7 := hS6.snoc (by decide) hown hf7 hg7
        have HS7 := hide hS7
        clear hr hS6 hS hX5 hY5 hY6 hC6 hfr6 hg6 x0 x1 hS5 Happ hrow6 hown hf7 hg7 hS7
        generalize hj : kpN F k = j at *
        have Hj := hide hj
        clear hj
        go_wp2_with (at_builtin; refine wp_append_known rfl (.tmp 37) (.tmp 39) 29 29 rfl rfl rfl Hr.out ?_)
        have hS7 := HS7.out
        have hla := fun W h => last_any b v1 (kpC F (k + 1)) W h
        rw [hlv] at hla
        have Hla := hide hla
        clear hla hlv
        go_wp2_with fail
        refine (Hla.out _ hS7.ch.ch).mono ?_
        rintro e w8 ⟨rfl, hf8⟩
        have hS8 := hS7.quiet hf8
        have hf9 : Frm [] w8 (w8.alloc (.cells #[.int .i64 (kpF F (k + 1) j).t, .int .u64 ((kpF F (k + 1) j).v : Int)] 37)) := (Frm.refl [] w8).alloc _
        have hS9 := hS8.quiet hf9
        have hB9 := Blk.new w8 37 #[.int .i64 (kpF F (k + 1) j).t, .int .u64 ((kpF F (k + 1) j).v : Int)]
        have hcn := fun (u : Wd (w8.alloc (.cells #[.int .i64 (kpF F (k + 1) j).t, .int .u64 ((kpF F (k + 1) j).v : Int)] 37))) => count_any b v1 (kpC F (k + 1)) u.w1 (hS9.quiet u.frm).ch.ch
        rw [hcm] at hcn
        have l0 : ∀ (u : Wd (w8.alloc (.cells #[.int .i64 (kpF F (k + 1) j).t, .int .u64 ((kpF F (k + 1) j).v : Int)] 37))), u.w1.cell? ⟨w8.heap.size, 0, none⟩ = some (.int .i64 (kpF F (k + 1) j).t) := fun u => (hB9.frm u.frm (by simp)).cell 0
        have l1 : ∀ (u : Wd (w8.alloc (.cells #[.int .i64 (kpF F (k + 1) j).t, .int .u64 ((kpF F (k + 1) j).v : Int)] 37))), u.w1.cell? ⟨w8.heap.size, 1, none⟩ = some (.int .u64 ((kpF F (k + 1) j).v : Int)) := fun u => (hB9.frm u.frm (by simp)).cell 1
        obtain ⟨rb, ro, hA2, hrb, r0, r1⟩ := smp_at hS9.row.cellsAt (show j < j + 1 by omega)
        subst hA2
        have k0 : ∀ (u : Wd (w8.alloc (.cells #[.int .i64 (kpF F (k + 1) j).t, .int .u64 ((kpF F (k + 1) j).v : Int)] 37))), u.w1.cell? ⟨rb, ro + j * 2, none⟩ = some (.int .i64 (kpF F (k + 1) j).t) := fun u => (u.frm.cell (p := ⟨rb, _, none⟩) hrb (by simp)).trans r0
        have k1 : ∀ (u : Wd (w8.alloc (.cells #[.int .i64 (kpF F (k + 1) j).t, .int .u64 ((kpF F (k + 1) j).v : Int)] 37))), u.w1.cell? ⟨rb, ro + j * 2 + 1, none⟩ = some (.int .u64 ((kpF F (k + 1) j).v : Int)) := fun u => (u.frm.cell (p := ⟨rb, _, none⟩) hrb (by simp)).trans r1
        have e1 : (((j + 1 : Nat) : Int) - 1) = (j : Int) := by omega
        have g0 : (0 : Int) < ((j + 1 : Nat) : Int) := by omega
        have b3 : (0 : Int) ≤ (j : Int) := by omega
        have b5 : (j : Int) < (j : Int) + 1 := by omega
        have e2 : (((kpF F (k + 1) j).t) != ((kpF F (k + 1) j).t)) = false := by simp
        have e3 : ((((kpF F (k + 1) j).v : Nat) : Int) != (((kpF F (k + 1) j).v : Nat) : Int)) = false := by simp
        clear r0 r1
        have HS9 := hide hS9
        have Hcn := hide hcn
        clear hS9 hcn hS7 hS8 hB9 Hla HS7
        go_wp2_with fail
        refine wp_region_frm (by kernel_rfl) (by kernel_rfl) ?_
        repeat (go_big_quiet_step (first | (go_at_call 19; exact calls_frm_same (Hcn.out _))))
        refine wpQuiet_nil ?_
        rintro _ ⟨u, rfl⟩
        go_wp2_with fail
        go_roundw
        case measure => have := hlt2.out; simp [intOf]; omega
        case rel =>
          refine ⟨k + 1, v1, by have := hlt2.out; omega, by go_num, ?_⟩
          rw [Hkn.out]
          exact HS9.out.quiet u.frm
      · have hst := kpC_no hf
        have hkn := kpN_no hf
        have hkf := kpF_no hf
        have happ := fun W h => app_fault b v (kpC F k) (F k).t (F k).v hK hf W h
        have hne0 : (appF (kpC F k) (F k).t == 0) = false := by rw [beq_eq_false_iff_ne]; exact hf
        have hnn : (appF (kpC F k) (F k).t != appF (kpC F k) (F k).t) = false := by simp
        have hcm : (kpC F k).n = kpN F k := kpC_n F k
        have Hst := hide hst
        have Hkn := hide hkn
        have Hkf := hide hkf
        clear hst hkn hkf hf
        generalize appF (kpC F k) (F k).t = er at *
        have Happ := hide happ
        clear happ
        rcases hm : kpN F k with _ | j
        · rw [hm] at hcm hS hSa Hfa Hkn hkl
          have hlv : lastV (kpC F k) = .tuple #[.agg #[.int .i64 0, .int .u64 0], .bool false] := by unfold lastV; rw [if_pos hcm]
          clear hm
          go_wp2_with fail
          refine Hfa.out.mono ?_
          rintro e w5 ⟨rfl, hf5⟩
          have hS5 := hSa.quiet hf5
          have hX5 := hX.frm hf5 (by simp)
          have x0 : w5.cell? ⟨wr.heap.size, 0, none⟩ = some (.int .i64 (F k).t) := hX5.cell 0
          have x1 : w5.cell? ⟨wr.heap.size, 1, none⟩ = some (.int .u64 ((F k).v : Int)) := hX5.cell 1
          clear hSa hX hY Hfa
          go_wp2_with fail
          refine (Happ.out _ hS5.ch.ch).mono ?_
          rintro e w6 ⟨rfl, rfl⟩
          have HS7 := hide hS5
          clear hX5 x0 x1 hS5 Happ hS
          have hS7 := HS7.out
          have hla := fun W h => last_any b v (kpC F k) W h
          rw [hlv] at hla
          have Hla := hide hla
          clear hla hlv
          go_wp2_with fail
          refine (Hla.out _ hS7.ch.ch).mono ?_
          rintro e w8 ⟨rfl, hf8⟩
          have hS8 := hS7.quiet hf8
          have hf9 : Frm [] w8 (w8.alloc (.cells #[.int .i64 0, .int .u64 0] 37)) := (Frm.refl [] w8).alloc _
          have hS9 := hS8.quiet hf9
          have hB9 := Blk.new w8 37 #[.int .i64 0, .int .u64 0]
          have hcn := fun (u : Wd (w8.alloc (.cells #[.int .i64 0, .int .u64 0] 37))) => count_any b v (kpC F k) u.w1 (hS9.quiet u.frm).ch.ch
          rw [hcm] at hcn
          have l0 : ∀ (u : Wd (w8.alloc (.cells #[.int .i64 0, .int .u64 0] 37))), u.w1.cell? ⟨w8.heap.size, 0, none⟩ = some (.int .i64 0) := fun u => (hB9.frm u.frm (by simp)).cell 0
          have l1 : ∀ (u : Wd (w8.alloc (.cells #[.int .i64 0, .int .u64 0] 37))), u.w1.cell? ⟨w8.heap.size, 1, none⟩ = some (.int .u64 0) := fun u => (hB9.frm u.frm (by simp)).cell 1
          have hneq := neq_zero
          have HS9 := hide hS9
          have Hcn := hide hcn
          clear hS9 hcn hS7 hS8 hB9 Hla HS7
          go_wp2_with fail
          refine wp_region_frm (by kernel_rfl) (by kernel_rfl) ?_
          repeat (go_big_quiet_step (first | (go_at_call 19; exact calls_frm_same (Hcn.out _))))
          refine wpQuiet_nil ?_
          rintro _ ⟨u, rfl⟩
          go_wp2_with fail
          go_roundw
          case measure => have := hlt2.out; simp [intOf]; omega
          case rel =>
            refine ⟨k + 1, v, by have := hlt2.out; omega, by go_num, ?_⟩
            rw [Hst.out, Hkn.out, Hkf.out]
            exact HS9.out.quiet u.frm
        · rw [hm] at hcm hS hSa Hfa Hkn hkl
          have hlv : lastV (kpC F k) = .tuple #[.agg #[.int .i64 (kpF F k j).t, .int .u64 ((kpF F k j).v : Int)], .bool true] := by
            unfold lastV
            rw [if_neg (by omega)]
            have e : kpC F k = ckN (kpF F k) (j + 1) := by unfold kpC; rw [hm]
            rw [e, ckN_t, ckN_v]
          clear hm
          go_wp2_with fail
          refine Hfa.out.mono ?_
          rintro e w5 ⟨rfl, hf5⟩
          have hS5 := hSa.quiet hf5
          have hX5 := hX.frm hf5 (by simp)
          have x0 : w5.cell? ⟨wr.heap.size, 0, none⟩ = some (.int .i64 (F k).t) := hX5.cell 0
          have x1 : w5.cell? ⟨wr.heap.size, 1, none⟩ = some (.int .u64 ((F k).v : Int)) := hX5.cell 1
          clear hSa hX hY Hfa
          go_wp2_with fail
          refine (Happ.out _ hS5.ch.ch).mono ?_
          rintro e w6 ⟨rfl, rfl⟩
          have HS7 := hide hS5
          clear hX5 x0 x1 hS5 Happ hS
          have hS7 := HS7.out
          have hla := fun W h => last_any b v (kpC F k) W h
          rw [hlv] at hla
          have Hla := hide hla
          clear hla hlv
          go_wp2_with fail
          refine (Hla.out _ hS7.ch.ch).mono ?_
          rintro e w8 ⟨rfl, hf8⟩
          have hS8 := hS7.quiet hf8
          have hf9 : Frm [] w8 (w8.alloc (.cells #[.int .i64 (kpF F k j).t, .int .u64 ((kpF F k j).v : Int)] 37)) := (Frm.refl [] w8).alloc _
          have hS9 := hS8.quiet hf9
          have hB9 := Blk.new w8 37 #[.int .i64 (kpF F k j).t, .int .u64 ((kpF F k j).v : Int)]
          have hcn := fun (u : Wd (w8.alloc (.cells #[.int .i64 (kpF F k j).t, .int .u64 ((kpF F k j).v : Int)] 37))) => count_any b v (kpC F k) u.w1 (hS9.quiet u.frm).ch.ch
          rw [hcm] at hcn
          have l0 : ∀ (u : Wd (w8.alloc (.cells #[.int .i64 (kpF F k j).t, .int .u64 ((kpF F k j).v : Int)] 37))), u.w1.cell? ⟨w8.heap.size, 0, none⟩ = some (.int .i64 (kpF F k j).t) := fun u => (hB9.frm u.frm (by simp)).cell 0
          have l1 : ∀ (u : Wd (w8.alloc (.cells #[.int .i64 (kpF F k j).t, .int .u64 ((kpF F k j).v : Int)] 37))), u.w1.cell? ⟨w8.heap.size, 1, none⟩ = some (.int .u64 ((kpF F k j).v : Int)) := fun u => (hB9.frm u.frm (by simp)).cell 1
          obtain ⟨rb, ro, hA2, hrb, r0, r1⟩ := smp_at hS9.row.cellsAt (show j < j + 1 by omega)
          subst hA2
          have k0 : ∀ (u : Wd (w8.alloc (.cells #[.int .i64 (kpF F k j).t, .int .u64 ((kpF F k j).v : Int)] 37))), u.w1.cell? ⟨rb, ro + j * 2, none⟩ = some (.int .i64 (kpF F k j).t) := fun u => (u.frm.cell (p := ⟨rb, _, none⟩) hrb (by simp)).trans r0
          have k1 : ∀ (u : Wd (w8.alloc (.cells #[.int .i64 (kpF F k j).t, .int .u64 ((kpF F k j).v : Int)] 37))), u.w1.cell? ⟨rb, ro + j * 2 + 1, none⟩ = some (.int .u64 ((kpF F k j).v : Int)) := fun u => (u.frm.cell (p := ⟨rb, _, none⟩) hrb (by simp)).trans r1
          have e1 : (((j + 1 : Nat) : Int) - 1) = (j : Int) := by omega
          have g0 : (0 : Int) < ((j + 1 : Nat) : Int) := by omega
          have b3 : (0 : Int) ≤ (j : Int) := by omega
          have b5 : (j : Int) < (j : Int) + 1 := by omega
          have e2 : (((kpF F k j).t) != ((kpF F k j).t)) = false := by simp
          have e3 : ((((kpF F k j).v : Nat) : Int) != (((kpF F k j).v : Nat) : Int)) = false := by simp
          clear r0 r1
          have HS9 := hide hS9
          have Hcn := hide hcn
          clear hS9 hcn hS7 hS8 hB9 Hla HS7
          go_wp2_with fail
          refine wp_region_frm (by kernel_rfl) (by kernel_rfl) ?_
          repeat (go_big_quiet_step (first | (go_at_call 19; exact calls_frm_same (Hcn.out _))))
          refine wpQuiet_nil ?_
          rintro _ ⟨u, rfl⟩
          go_wp2_with fail
          go_roundw
          case measure => have := hlt2.out; simp [intOf]; omega
          case rel =>
            refine ⟨k + 1, v, by have := hlt2.out; omega, by go_num, ?_⟩
            rw [Hst.out, Hkn.out, Hkf.out]
            exact HS9.out.quiet u.frm
    · obtain rfl : k = n := by omega
      have hK := kpC_ok F k hok k (Nat.le_refl _)
      have hl := hK.len
      have hn9 := hK.n
      have hokG := kp_ok F k hok k (Nat.le_refl _)
      have hfa := kp_fa F k
      have hby := fun W h => ckbytes_any b v (kpC F k) (by omega) (by omega) W h
      have hrby := fun W h => rckbytes_any A1 (kpN F k) ca (kpF F k) hokG hfa W h
      have hcc : ckN (kpF F k) (kpN F k) = kpC F k := rfl
      rw [hcc] at hrby
      have hDr := hD.frm hS.ch.frm
      have hw := wakes_any _ hDr
      have Hw := hide hw
      have Hby := hide hby
      have Hrby := hide hrby
      have hz1 := str_beq_self (bstr (ckB (kpC F k)))
      clear hw hby hrby hcc hfa hokG hl hn9 hK
      generalize bstr (ckB (kpC F k)) = B at *
      go_wp2_with fail
      refine Hw.out.mono ?_
      rintro e w5 ⟨rfl, hf5⟩
      have hS5 := hS.quiet hf5
      go_wp2_with fail
      refine (Hby.out _ hS5.ch.ch).mono ?_
      rintro e w6 ⟨rfl, hf6⟩
      have hS6 := hS5.quiet hf6
      go_wp2_with fail
      refine (Hrby.out _ hS6.row.cellsAt).mono ?_
      rintro e w7 ⟨rfl, hf7⟩
      have hS7 := hS6.quiet hf7
      go_wp2_with fail
      go_ret
      exact ⟨rfl, hS7.ch.frm⟩

end Go.Proofs.YtdnllmibchmnnaaDoor
