/-
  EncBurst's walk: whichever of 32 neighbouring bits of a sealed text, or of a frame's payload and sum, are turned, the sum tells it.
-/
import Derived.Test.YtceidhjgdgnplaaDoorWakb
import Derived.Test.YtceidhjgdgnplaaDoorBurstp
namespace Go.Proofs.YtceidhjgdgnplaaDoor
set_option linter.unusedVariables false
set_option linter.unusedSimpArgs false
open Go.RowKit Go.BigFrame

theorem box_cell {wb w1 : World} (hf : Frm [] wb w1) {g i : Nat} {v : Value} (hg : g < wb.heap.size) (h : wb.cell? ⟨g, i, none⟩ = some v) : w1.cell? ⟨g, i, none⟩ = some v := (hf.cell hg (by simp)).trans h

set_option maxRecDepth 100000 in
set_option maxHeartbeats 8000000 in
theorem burst_walk (T0 : ByteArray) (hT : T0.size ≤ 140737488355328) (A : Int) (hA1 : -9223372036854775808 ≤ A) (hA2 : A ≤ 9223372036854775807) (M : Nat) (hM : M < 4294967296) (w : World) (hN : NibAt w) :
    Calls Tryd.prog 10 #[.agg #[.string T0, .int .i64 A, .int .u32 (M : Int)]] w fun e w' => e = .returned (.bool true) ∧ Frm [] w w' := by
  obtain ⟨m, hm⟩ : ∃ m, m = min T0.size 4000 := ⟨_, rfl⟩
  have hmt : m ≤ T0.size := by omega
  have hm1 : m ≤ 4000 := by omega
  have hmin : ∀ (ts : Array TypeId) (t : TypeId) (W : World), (Builtin.min_ ts t #[.int .i64 (T0.size : Int), .int .i64 4000]).run Tryd.prog W = .ok (.int .i64 (m : Int)) W := fun ts t W => by
    rw [run_min_int2]; congr 2; split <;> omega
  obtain ⟨A0, hA0⟩ : ∃ A0 : Nat, (A0 : Int) = max 0 A := ⟨(max 0 A).toNat, by omega⟩
  have hA0l : A0 ≤ 9223372036854775807 := by omega
  have hmax : ∀ (ts : Array TypeId) (t : TypeId) (W : World), (Builtin.max_ ts t #[.int .i64 0, .int .i64 A]).run Tryd.prog W = .ok (.int .i64 (A0 : Int)) W := fun ts t W => by
    rw [run_max_int2]; congr 2; split <;> omega
  have hsl := slice_to (P := Tryd.prog) Tryd.underlying9 T0 m (m : Int) rfl hmt
  have hpz : (({ data := #[120] } : ByteArray) ++ T0.extract 0 m).size = m + 1 := by
    rw [ByteArray.size_append, ByteArray.size_extract, show ({ data := #[120] } : ByteArray).size = 1 from rfl]; omega
  have hTz : (T0.extract 0 m).size ≤ 4000 := by rw [ByteArray.size_extract]; omega
  clear hm
  generalize T0.extract 0 m = Tm at hsl hpz hTz
  have hbk := Blk.new w 55 #[.string T0, .int .i64 A, .int .u32 (M : Int)]
  have hfw : Frm [] w (w.alloc (.cells #[.string T0, .int .i64 A, .int .u32 (M : Int)] 55)) := (Frm.refl _ _).alloc _
  have hNb := hN.frm hfw
  have hlt := hbk.lt
  have b0 : (w.alloc (.cells #[.string T0, .int .i64 A, .int .u32 (M : Int)] 55)).cell? ⟨w.heap.size, 0, none⟩ = some (.string T0) := hbk.cell 0
  have b1 : (w.alloc (.cells #[.string T0, .int .i64 A, .int .u32 (M : Int)] 55)).cell? ⟨w.heap.size, 1, none⟩ = some (.int .i64 A) := hbk.cell 1
  have b2 : (w.alloc (.cells #[.string T0, .int .i64 A, .int .u32 (M : Int)] 55)).cell? ⟨w.heap.size, 2, none⟩ = some (.int .u32 (M : Int)) := hbk.cell 2
  clear hbk
  -- the text, sealed and framed
  obtain ⟨p, hp⟩ : ∃ p, p = (({ data := #[120] } : ByteArray) ++ Tm) := ⟨_, rfl⟩
  obtain ⟨n, hn⟩ : ∃ n, n = m + 1 := ⟨_, rfl⟩
  have hpx : (({ data := #[120] } : ByteArray) ++ Tm).size ≤ 4001 := by omega
  rw [← hp, ← hn] at hpz
  have hn1 : n ≤ 4001 := by omega
  have hn0 : 0 < n := by omega
  have cseal := fun W h => seal_any p (by omega) W h
  have cframe := fun W h => frame_any p (by omega) W h
  have htF : tellF p = .tuple #[.string (frameS p), .int .i64 0] := by unfold tellF; rw [if_neg (by omega), if_neg (by omega)]
  rw [htF] at cframe
  have hsz := sealS_size p
  have hFz := frameS_size p
  obtain ⟨a, ha⟩ : ∃ a : Nat, a = A0 % (8 * (n + 4)) := ⟨_, rfl⟩
  have hal : a < 8 * (n + 4) := by rw [ha]; exact Nat.mod_lt _ (by omega)
  have cturn := fun W => turned_any (sealS p) (by omega) a (by omega) M hM W
  have htz := turnS_size p a M
  have hS := tellS_burst p a M (by omega)
  have hU := tellUF_burst p (by omega) (by omega) a M (by omega)
  have hh1 := frame_head p
  have hh2 := frame_mid p
  have hh3 := frame_end p
  rw [show bstr (turnL (bl (sealS p)) a M 32).1 = turnS p a M from rfl] at cturn
  generalize (turnL (bl (sealS p)) a M 32).2 = any at cturn hS hU
  generalize turnS p a M = t at cturn htz hS hU
  have cun := fun W h => unseal_any t (by omega) W h
  rw [hpz] at hsz hFz htz hU hh1 hh2 hh3
  have hH4 : (bstr (fourB n)).size = 4 := rfl
  have hE1 : (bstr [1]).size = 1 := rfl
  have cuf := fun W h => unframe_any (bstr (fourB n) ++ t ++ bstr [1]) 0 (by rw [ByteArray.size_append, ByteArray.size_append]; omega) W h
  generalize sealS p = s at cseal cturn hsz hh2
  generalize frameS p = F at cframe hFz hh1 hh2 hh3
  have sl1 := slice_to (P := Tryd.prog) Tryd.underlying9 F 4 4 rfl (by omega)
  have sl2 := slice_mid2 (P := Tryd.prog) Tryd.underlying9 F 4 (n + 4) 4 ((n : Int) + 8) rfl (by omega) (by omega)
  have sl3 := slice_from (P := Tryd.prog) Tryd.underlying9 F (n + 8) ((n : Int) + 8) (by omega) (by omega)
  rw [hh1] at sl1
  rw [hh2] at sl2
  rw [hh3] at sl3
  have hexF : F.extract 4 (n + 8) = s := by rw [show n + 8 = 4 + (n + 4) from by omega]; exact hh2
  have hexE : F.extract (n + 8) (n + 9) = bstr [1] := by rw [← hFz]; exact hh3
  clear hh2 hh3 htF
  generalize bstr (fourB n) = H at hU hH4 cuf sl1 hh1
  generalize bstr [1] = E at hU hE1 cuf sl3 hexE
  have Ct := hide cturn
  have Cs := hide cseal
  have Cf := hide cframe
  have HS := hide hS
  have HU := hide hU
  have Cun := hide cun
  have Cuf := hide cuf
  clear cturn cseal cframe hS hU cun cuf
  have Hp := hide hp
  have hai : ((A0 : Int) % (8 * ((n : Int) + 4))) = (a : Int) := by
    rw [ha]; simp
  have hai2 : ((A0 : Int) % (8 * ((n : Int) + 9 - 5))) = (a : Int) := by rw [← hai]; congr 2; omega
  have Ha := hide ha
  have HA0 := hide hA0
  clear hp ha hA0 hn Ha HA0
  go_enter Tryd.func10, Tryd.ntmps10
  go_wp2_with fail
  generalize w.alloc (.cells #[.string T0, .int .i64 A, .int .u32 (M : Int)] 55) = wb at hfw hNb hlt b0 b1 b2 ⊢
  generalize w.heap.size = g at hlt b0 b1 b2 ⊢
  refine (wakb_any _ hNb).mono ?_
  rintro e w1 ⟨rfl, hf1⟩
  have c0 := box_cell hf1 hlt b0
  go_wp2_with fail
  rw [← Hp.out]
  refine (Cs.out _ (hNb.frm hf1)).mono ?_
  rintro e w2 ⟨rfl, hf2⟩
  have f2 := hf1.trans hf2 (by simp)
  have d1 := box_cell f2 hlt b1
  have d2 := box_cell f2 hlt b2
  clear c0
  go_wp2_with fail
  refine (Ct.out _).mono ?_
  rintro e w3 ⟨rfl, hf3⟩
  have f3 := f2.trans hf3 (by simp)
  have hHt : (H ++ t).size = n + 8 := by rw [ByteArray.size_append]; omega
  cases any
  case true =>
    have cun := Cun.out
    have cuf := Cuf.out
    rw [HS.out rfl] at cun
    rw [HU.out rfl] at cuf
    have Cu := hide cun
    have Cv := hide cuf
    clear cun cuf HS HU Cun Cuf
    go_wp2_with fail
    refine (Cu.out _ (hNb.frm f3)).mono ?_
    rintro e w4 ⟨rfl, hf4⟩
    have f4 := f3.trans hf4 (by simp)
    go_wp2_with fail
    refine (Cf.out _ (hNb.frm f4)).mono ?_
    rintro e w5 ⟨rfl, hf5⟩
    have f5 := f4.trans hf5 (by simp)
    have e1 := box_cell f5 hlt b1
    have e2 : ∀ u : Wd w5, u.w1.cell? ⟨g, 2, none⟩ = some (.int .u32 (M : Int)) := fun u => box_cell (f5.trans u.frm (by simp)) hlt b2
    clear d1 d2
    go_wp2_with fail
    refine wp_region_frm (by kernel_rfl) (by kernel_rfl) ?_
    repeat (go_big_quiet_step (first | (go_at_call 43; exact calls_frm (Ct.out _))))
    refine wpQuiet_nil ?_
    rintro _ ⟨u, rfl⟩
    have f6 := f5.trans u.frm (by simp)
    generalize u.w1 = w6 at f6 ⊢
    clear e1 e2
    go_wp2_with fail
    refine wp_region_frm (by kernel_rfl) (by kernel_rfl) ?_
    repeat (go_big_quiet_step (first | (go_at_call 33; exact calls_frm (Cv.out _ (hNb.frm (f6.trans (Wd.frm _) (by simp)))))))
    refine wpQuiet_nil ?_
    rintro _ ⟨u2, rfl⟩
    have f7 := f6.trans u2.frm (by simp)
    generalize u2.w1 = w7 at f7 ⊢
    go_wp2_with fail
    go_ret
    exact ⟨rfl, hfw.trans f7 (by simp)⟩
  case false =>
    clear HS HU Cun Cuf
    have f4 := f3
    go_wp2_with fail
    refine (Cf.out _ (hNb.frm f4)).mono ?_
    rintro e w5 ⟨rfl, hf5⟩
    have f5 := f4.trans hf5 (by simp)
    have e1 := box_cell f5 hlt b1
    have e2 : ∀ u : Wd w5, u.w1.cell? ⟨g, 2, none⟩ = some (.int .u32 (M : Int)) := fun u => box_cell (f5.trans u.frm (by simp)) hlt b2
    clear d1 d2
    go_wp2_with fail
    refine wp_region_frm (by kernel_rfl) (by kernel_rfl) ?_
    repeat (go_big_quiet_step (first | (go_at_call 43; exact calls_frm (Ct.out _))))
    refine wpQuiet_nil ?_
    rintro _ ⟨u, rfl⟩
    have f6 := f5.trans u.frm (by simp)
    generalize u.w1 = w6 at f6 ⊢
    clear e1 e2
    go_wp2_with fail
    go_ret
    exact ⟨rfl, hfw.trans f6 (by simp)⟩

end Go.Proofs.YtceidhjgdgnplaaDoor
