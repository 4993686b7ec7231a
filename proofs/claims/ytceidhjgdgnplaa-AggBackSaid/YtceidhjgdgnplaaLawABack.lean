/-
  AggBack's walk: windows that are written are read back.
-/
import Derived.Test.YtceidhjgdgnplaaDecw
namespace Go.Proofs.Ytceidhjgdgnplaa
set_option linter.unusedVariables false
set_option linter.unusedSimpArgs false
open Go.RowKit Go.BigFrame

set_option maxRecDepth 100000 in
set_option maxHeartbeats 1000000 in
theorem aback_walk (A : Option Addr) (n cap : Nat) (F : Nat → Win) (hok : ∀ i, i < n → (F i).Ok) (hn : n * 48 ≤ 140737488351232) (w : World) (hc : CellsAt w A n 6 (fun i j => (F i).cell j)) :
    Calls Try.prog 11 #[.slice A n cap] w fun e w' => e = .returned (.bool true) ∧ Frm [] w w' := by
  by_cases hff : ffault F n = 0
  · have hT : tellW F n = .tuple #[.string (bstr (encAll F n n)), .int .i64 0] := by unfold tellW; rw [if_pos hff]
    obtain ⟨d1, d2, d3⟩ := dec_enc F n (by omega) hok hff
    have hlen := encAll_length F n n
    obtain ⟨S, hS⟩ : ∃ S, bstr (encAll F n n) = S := ⟨_, rfl⟩
    have hbl : bl S = encAll F n n := by rw [← hS]; exact bl_bstr _ (encAll_byte F n n)
    have hsz : S.size = (encAll F n n).length := by rw [← bl_length, hbl]
    rw [hS] at hT
    rw [← hbl] at d1 d2 d3
    have hd := fun W => decode_any S (by omega) (fun k hk h => by rw [d1] at hk; simp only at hk; omega) W
    unfold tellD at hd
    rw [d2, if_pos rfl, d1] at hd
    simp only at hd
    have HT := hide hT
    have Hd := hide hd
    have H3 := hide d3
    clear hT hd d1 d2 d3 hS hbl hsz hlen hff
    go_enter Try.func11, Try.ntmps11
    go_wp2_with fail
    refine (wakw_any _).mono ?_
    rintro e w0 ⟨rfl, hf0⟩
    go_wp2_with fail
    refine (twin_any A n cap F hn _ (hc.frm hf0)).mono ?_
    rintro e w1 ⟨v, rfl, hrow, hfr, hf1⟩
    obtain ⟨A1, c1, rfl⟩ := hrow.shape
    have henc := encode_any A1 n c1 F hok hn w1 hrow.cellsAt
    rw [HT.out] at henc
    have Henc := hide henc
    clear henc
    have hf01 := hf0.trans hf1 (by simp)
    go_wp2_with fail
    refine Henc.out.mono ?_
    rintro e w2 ⟨rfl, hf2⟩
    have hf02 := hf01.trans hf2 (by simp)
    go_wp2_with fail
    refine (Hd.out _).mono ?_
    rintro e w3 ⟨v3, rfl, hrow3, hfr3, hf3⟩
    obtain ⟨A3, c3, rfl⟩ := hrow3.shape
    have hf03 := hf02.trans hf3 (by simp)
    have hrow3' := hrow3.congr (fun i hi => H3.out i hi)
    go_wp2_with fail
    refine (windows_any A n cap F hn _ (hc.frm hf03)).mono ?_
    rintro e w4 ⟨v4, rfl, hrow4, hfr4, hf4⟩
    obtain ⟨A4, c4, rfl⟩ := hrow4.shape
    go_wp2_with fail
    refine (alike_any A3 n c3 F A4 c4 hn _ (hrow3'.quiet hf4).cellsAt hrow4.cellsAt).mono ?_
    rintro e w5 ⟨rfl, hf5⟩
    go_wp2_with fail
    go_ret
    exact ⟨rfl, (hf03.trans hf4 (by simp)).trans hf5 (by simp)⟩
  · have hT : tellW F n = .tuple #[.string (bstr []), .int .i64 (ffault F n)] := by unfold tellW; rw [if_neg hff]
    have hz : (ffault F n != 0) = true := by rw [bne_iff_ne]; exact hff
    have hnil : (bstr []).toList = [] := by decide +kernel
    have HT := hide hT
    generalize ffault F n = er at HT hz hff
    clear hT hff
    go_enter Try.func11, Try.ntmps11
    go_wp2_with fail
    refine (wakw_any _).mono ?_
    rintro e w0 ⟨rfl, hf0⟩
    go_wp2_with fail
    refine (twin_any A n cap F hn _ (hc.frm hf0)).mono ?_
    rintro e w1 ⟨v, rfl, hrow, hfr, hf1⟩
    obtain ⟨A1, c1, rfl⟩ := hrow.shape
    have henc := encode_any A1 n c1 F hok hn w1 hrow.cellsAt
    rw [HT.out] at henc
    have Henc := hide henc
    clear henc
    go_wp2_with fail
    refine Henc.out.mono ?_
    rintro e w2 ⟨rfl, hf2⟩
    go_wp2_with fail
    go_ret
    exact ⟨rfl, (hf0.trans hf1 (by simp)).trans hf2 (by simp)⟩

end Go.Proofs.Ytceidhjgdgnplaa
