/-
  The contract of chunk.Encode.
-/
import Derived.Test.YtdnllmibchmnnaaDoorCkm
import Derived.Test.YtdnllmibchmnnaaDoorSmp
namespace Go.Proofs.YtdnllmibchmnnaaDoor
set_option linter.unusedVariables false
set_option linter.unusedSimpArgs false
open Go.RowKit Go.BigFrame

/-- The chunk behind the first samples, and the first error. -/
def ckN (F : Nat → Smp) : Nat → Ck
  | 0 => ck0
  | k + 1 => appS (ckN F k) (F k).t (F k).v
def ckFa (F : Nat → Smp) : Nat → Int
  | 0 => 0
  | k + 1 => if ckFa F k = 0 then appF (ckN F k) (F k).t else ckFa F k
theorem ckFa_stays (F : Nat → Smp) (k : Nat) (h : ckFa F k ≠ 0) : ∀ m, k ≤ m → ckFa F m = ckFa F k := by
  intro m hm
  induction m with
  | zero => obtain rfl : k = 0 := by omega
            rfl
  | succ m ih =>
    by_cases e : k = m + 1
    · rw [e]
    · have := ih (by omega)
      rw [ckFa, if_neg (by rw [this]; exact h), this]
theorem ckFa_zero (F : Nat → Smp) (k : Nat) (h : ckFa F (k + 1) = 0) : ckFa F k = 0 ∧ appF (ckN F k) (F k).t = 0 := by
  rw [ckFa] at h
  split at h
  · rename_i h0
    exact ⟨h0, h⟩
  · rename_i h0
    exact absurd h h0
theorem appS_n (c : Ck) (t : Int) (x : Nat) : (appS c t x).n = c.n + 1 := by
  unfold appS
  split
  · rename_i h
    simp [h]
  · rfl
theorem ckN_n (F : Nat → Smp) (k : Nat) : (ckN F k).n = k := by
  induction k with
  | zero => rfl
  | succ k ih => rw [ckN, appS_n, ih]
theorem ckN_ok (F : Nat → Smp) (n : Nat) (hF : ∀ i, i < n → (F i).Ok) (k : Nat) (hk : k ≤ n) (h : ckFa F k = 0) : CkOk (ckN F k) := by
  induction k with
  | zero => exact ck0_ok
  | succ k ih =>
    obtain ⟨h1, h2⟩ := ckFa_zero F k h
    exact appS_ok _ _ _ (hF k (by omega)).v (ih (by omega) h1) h2

def tellC (F : Nat → Smp) (n : Nat) : Value := if ckFa F n = 0 then .tuple #[.string (bstr (ckB (ckN F n))), .int .i64 0] else .tuple #[.string (bstr []), .int .i64 (ckFa F n)]

theorem ChAt.new (w : World) : ChAt (w.alloc (.cells #[.slice none 0 0, .int .i64 0, .int .i64 0, .int .i64 0, .int .u64 0, .int .i64 0, .int .i64 0, .int .i64 0, .bool false] 44)) w.heap.size (.slice none 0 0) ck0 :=
  ⟨Blk.new w _ _, World.ownsRow_nil _ _ _ _⟩

theorem smp_at {w : World} {A : Option Addr} {n : Nat} {F : Nat → Smp} (h : CellsAt w A n 2 (fun i j => (F i).cell j)) {i : Nat} (hi : i < n) :
    ∃ b off, A = some ⟨b, off, none⟩ ∧ b < w.heap.size ∧ w.cell? ⟨b, off + i * 2, none⟩ = some (.int .i64 (F i).t) ∧ w.cell? ⟨b, off + i * 2 + 1, none⟩ = some (.int .u64 ((F i).v : Int)) := by
  obtain ⟨b, off, hA, hb, hc⟩ := h (by omega)
  have h0 := hc i 0 hi (by decide)
  have h1 := hc i 1 hi (by decide)
  rw [← Nat.add_assoc] at h0 h1
  exact ⟨b, off, hA, hb, h0, h1⟩

/-- A chunk in block b, new since w. -/
structure CenSt (w wr : World) (b : Nat) (v : Value) (c : Ck) : Prop where
  ch : ChAt wr b v c
  b0 : w.heap.size ≤ b
  fv : Fresh w.heap.size v
  frm : Frm [] w wr
theorem CenSt.quiet {w wr w1 : World} {b : Nat} {v : Value} {c : Ck} (h : CenSt w wr b v c) (hf : Frm [] wr w1) : CenSt w w1 b v c :=
  ⟨WriterAt.quiet h.ch hf, h.b0, h.fv, h.frm.trans hf (by simp)⟩
theorem CenSt.put {w wr w1 : World} {b : Nat} {v v1 : Value} {c c1 : Ck} (h : CenSt w wr b v c) (hc : ChAt w1 b v1 c1) (hf : Frm (b :: v.ownBlock.toList) wr w1) (hg : Grew wr v v1) : CenSt w w1 b v1 c1 :=
  ⟨hc, h.b0, h.fv.grew hg h.frm.size, h.frm.trans hf (h.fv.foot h.b0)⟩

set_option maxRecDepth 100000 in
set_option maxHeartbeats 1500000 in
theorem cencode_any (A : Option Addr) (n cap : Nat) (F : Nat → Smp) (hok : ∀ i, i < n → (F i).Ok) (hn : n * 16 ≤ 140737488351232) (w : World) (hD : DbAt w) (hc : CellsAt w A n 2 (fun i j => (F i).cell j)) :
    Calls Tryd.prog 11 #[.slice A n cap] w fun e w' => e = .returned (tellC F n) ∧ Frm [] w w' := by
  go_enter Tryd.func11, Tryd.ntmps11
  go_wp2_with fail
  have hE : CenSt w (w.alloc (.cells #[.slice none 0 0, .int .i64 0, .int .i64 0, .int .i64 0, .int .u64 0, .int .i64 0, .int .i64 0, .int .i64 0, .bool false] 44)) w.heap.size (.slice none 0 0) ck0 :=
    ⟨ChAt.new w, Nat.le_refl _, Fresh.nil _, (Frm.refl _ _).alloc _⟩
  generalize (w.alloc (.cells #[.slice none 0 0, .int .i64 0, .int .i64 0, .int .i64 0, .int .u64 0, .int .i64 0, .int .i64 0, .int .i64 0, .bool false] 44)) = w3 at hE ⊢
  obtain ⟨b, hb⟩ : ∃ b, b = w.heap.size := ⟨_, rfl⟩
  rw [← hb] at hE ⊢
  clear hb
  go_loopw [10] (fun x wr => ∃ (k : Nat) (v : Value), k ≤ n ∧ x = .int .i64 (k : Int) ∧ CenSt w wr b v (ckN F k) ∧ Hid (ckFa F k = 0)) (fun x _ => n - (intOf x).toNat)
  case atStart => exact ⟨0, _, by omega, rfl, hE, hide rfl⟩
  case round =>
    obtain ⟨k, v, hk, rfl, hS, hff⟩ := hrel
    by_cases hlt : k < n
    · obtain ⟨sb, off, rfl, hsb, c0, c1⟩ := smp_at (hc.frm hS.frm) hlt
      have hlt2 := hide hlt
      have hOk := hok k hlt
      have hK := ckN_ok F n hok k hk hff.out
      have hst : ckN F (k + 1) = appS (ckN F k) (F k).t (F k).v := rfl
      have hfs : ckFa F (k + 1) = appF (ckN F k) (F k).t := by rw [ckFa, if_pos hff.out]
      have hDr := hD.frm hS.frm
      have hSa := hS.quiet ((Frm.refl [] wr).alloc (.cells #[.int .i64 (F k).t, .int .u64 ((F k).v : Int)] 37))
      have hDa := hDr.frm ((Frm.refl [] wr).alloc (.cells #[.int .i64 (F k).t, .int .u64 ((F k).v : Int)] 37))
      by_cases hf : appF (ckN F k) (F k).t = 0
      · have hcall := app_ok b v (ckN F k) (F k).t (F k).v hOk.v hK hf _ hSa.ch hDa (by have := hS.b0; have := hD.1; omega) (fun h => by have := hS.fv _ h; have := hD.1; omega)
        have Hcall := hide hcall
        have hf1 : ckFa F (k + 1) = 0 := hfs.trans hf
        have Hf1 := hide hf1
        have Hst := hide hst
        clear hcall hf hfs hf1 hst
        go_wp2_with fail
        refine Hcall.out.mono ?_
        rintro e w1 ⟨rfl, v1, hC1, hfr1, hg1⟩
        have hS1 := hSa.put hC1 hfr1 hg1
        rw [← Hst.out] at hS1
        go_wp2_with fail
        go_roundw
        case measure => have := hlt2.out; simp [intOf]; omega
        case rel => exact ⟨k + 1, v1, by have := hlt2.out; omega, by go_num, hS1, Hf1⟩
      · have hcall := app_fault b v (ckN F k) (F k).t (F k).v hK hf _ hSa.ch
        have hx : ckFa F n = appF (ckN F k) (F k).t := by rw [ckFa_stays F (k + 1) (by rw [hfs]; exact hf) n (by omega), hfs]
        have htell : tellC F n = .tuple #[.string (bstr []), .int .i64 (appF (ckN F k) (F k).t)] := by unfold tellC; rw [if_neg (by rw [hx]; exact hf), hx]
        have Htell := hide htell
        have hne : (appF (ckN F k) (F k).t == 0) = false := by rw [beq_eq_false_iff_ne]; exact hf
        clear hx htell hfs hf
        generalize appF (ckN F k) (F k).t = er at hcall hne Htell
        have Hcall := hide hcall
        clear hcall
        go_wp2_with fail
        refine Hcall.out.mono ?_
        rintro e w1 ⟨rfl, rfl⟩
        go_wp2_with fail
        go_ret2
        exact ⟨by rw [Htell.out]; rfl, hSa.frm⟩
    · obtain rfl : k = n := by omega
      have hK := ckN_ok F k hok k (Nat.le_refl _) hff.out
      have hl := hK.len
      have hn9 := hK.n
      have hcall := fun W h => ckbytes_any b v (ckN F k) (by omega) (by omega) W h
      have htell : tellC F k = .tuple #[.string (bstr (ckB (ckN F k))), .int .i64 0] := by unfold tellC; rw [if_pos hff.out]
      have Htell := hide htell
      clear hl hn9 hK htell
      go_wp2_with fail
      refine (hcall _ hS.ch).mono ?_
      rintro e w1 ⟨rfl, hf1⟩
      go_wp2_with fail
      go_ret2
      exact ⟨by rw [Htell.out]; rfl, hS.frm.trans hf1 (by simp)⟩

end Go.Proofs.YtdnllmibchmnnaaDoor
