/-
  Plain words on reading windows: what is read of any bytes; what is written is read again; bytes that are taken are the one form of their windows.
  Conditions: none.
-/
import Derived.Test.YtceidhjgdgnplaaAggp
import Derived.Test.YtceidhjgdgnplaaVarw
namespace Go.Proofs.Ytceidhjgdgnplaa
set_option linter.unusedVariables false
set_option linter.unusedSimpArgs false
open Go.RowKit

/-- The next number, behind the place a and the error e: its value, the place, the error. -/
def nxt (s : List Nat) (a e : Nat) : Nat × Nat × Nat := if e = 0 then readU s (a : Int) else (0, a, e)
/-- The numbers from the place a on, one by one. -/
def num (s : List Nat) (a : Nat) : Nat → Nat × Nat × Nat
  | 0 => nxt s a 0
  | k + 1 => nxt s (num s a k).2.1 (num s a k).2.2
/-- The window that the six numbers at a make behind y. -/
def mkW (y : Win) (s : List Nat) (a : Nat) : Win :=
  ⟨y.st + ((num s a 0).1 : Nat), (min (num s a 1).1 4611686018427387905 : Nat), y.sm ^^^ (num s a 2).1, y.mn ^^^ (num s a 3).1, y.mx ^^^ (num s a 4).1, y.la ^^^ (num s a 5).1⟩
/-- Their error. -/
def erW (y : Win) (s : List Nat) (a : Nat) (first : Bool) : Int :=
  if (num s a 5).2.2 ≠ 0 then ((num s a 5).2.2 : Int) else if 1125899906842624 < (num s a 0).1 then 91 else winFault (mkW y s a) y first
/-- What is known when k windows are read: the place, the last of them, the error. -/
structure DSt where
  at_ : Nat
  y : Win
  er : Int
def dst (s : List Nat) (a : Nat) : Nat → DSt
  | 0 => ⟨a, win0, 0⟩
  | k + 1 => if (dst s a k).er = 0 then ⟨(num s (dst s a k).at_ 5).2.1, mkW (dst s a k).y s (dst s a k).at_, erW (dst s a k).y s (dst s a k).at_ (decide (k = 0))⟩ else dst s a k
/-- Window number k of those that are read from a on. -/
def dwin (s : List Nat) (a k : Nat) : Win := (dst s a (k + 1)).y
/-- What Decode tells: the error. -/
def derr (s : List Nat) : Int :=
  if (readU s 0).2.2 ≠ 0 then ((readU s 0).2.2 : Int)
  else if (dst s (readU s 0).2.1 (readU s 0).1).er ≠ 0 then (dst s (readU s 0).2.1 (readU s 0).1).er
  else if (dst s (readU s 0).2.1 (readU s 0).1).at_ ≠ s.length then 21 else 0

section
variable {s : List Nat} {a k : Nat}
theorem num_prev (h : (num s a (k + 1)).2.2 = 0) : (num s a k).2.2 = 0 := by
  by_cases h0 : (num s a k).2.2 = 0
  · exact h0
  · simp only [num, nxt, if_neg h0] at h
    exact absurd h h0
theorem num_step (h : (num s a k).2.2 = 0) : num s a (k + 1) = readU s ((num s a k).2.1 : Int) := by simp only [num, nxt, if_pos h]
theorem num_le (h : (num s a k).2.2 = 0) : ∀ j, j ≤ k → (num s a j).2.2 = 0 := by
  induction k with
  | zero => intro j hj; obtain rfl : j = 0 := by omega
            exact h
  | succ k ih =>
    intro j hj
    by_cases hk : j = k + 1
    · rw [hk]; exact h
    · exact ih (num_prev h) j (by omega)
theorem num_at (h : (num s a k).2.2 = 0) : a + (k + 1) ≤ (num s a k).2.1 ∧ (num s a k).2.1 ≤ s.length := by
  induction k with
  | zero =>
    have e : num s a 0 = readU s (a : Int) := by simp [num, nxt]
    rw [e] at h ⊢
    have := readU_next s _ h
    omega
  | succ k ih =>
    have h0 := num_prev h
    have h1 := ih h0
    rw [num_step h0] at h ⊢
    have := readU_next s _ h
    omega
theorem num_lt : (num s a k).1 < 18446744073709551616 := by
  have key : ∀ b e, (nxt s b e).1 < 18446744073709551616 := by
    intro b e
    unfold nxt
    split
    · exact readU_lt _ _
    · simp only; omega
  cases k with
  | zero => exact key _ _
  | succ k => exact key _ _

theorem dst_ok (h : (dst s a (k + 1)).er = 0) : (dst s a k).er = 0 ∧ (num s (dst s a k).at_ 5).2.2 = 0 ∧ (num s (dst s a k).at_ 0).1 ≤ 1125899906842624 ∧
    winFault (mkW (dst s a k).y s (dst s a k).at_) (dst s a k).y (decide (k = 0)) = 0 ∧ dst s a (k + 1) = ⟨(num s (dst s a k).at_ 5).2.1, mkW (dst s a k).y s (dst s a k).at_, 0⟩ := by
  simp only [dst] at h ⊢
  by_cases h0 : (dst s a k).er = 0
  · rw [if_pos h0] at h ⊢
    simp only at h
    have h' := h
    unfold erW at h
    by_cases h1 : (num s (dst s a k).at_ 5).2.2 = 0
    · rw [if_neg (by simpa using h1)] at h
      by_cases h2 : 1125899906842624 < (num s (dst s a k).at_ 0).1
      · rw [if_pos h2] at h; exact absurd h (by decide)
      · rw [if_neg h2] at h
        exact ⟨h0, h1, by omega, h, by rw [h']⟩
    · rw [if_pos (by simpa using h1)] at h
      exact absurd (by omega : (num s (dst s a k).at_ 5).2.2 = 0) h1
  · rw [if_neg h0] at h
    exact absurd h h0
theorem dst_prev (h : (dst s a (k + 1)).er = 0) : (dst s a k).er = 0 := (dst_ok h).1
theorem dst_le (h : (dst s a k).er = 0) : ∀ j, j ≤ k → (dst s a j).er = 0 := by
  induction k with
  | zero => intro j hj; obtain rfl : j = 0 := by omega
            exact h
  | succ k ih =>
    intro j hj
    by_cases hk : j = k + 1
    · rw [hk]; exact h
    · exact ih (dst_prev h) j (by omega)
theorem dst_stays (h : (dst s a k).er ≠ 0) : ∀ m, k ≤ m → dst s a m = dst s a k := by
  intro m hm
  induction m with
  | zero => obtain rfl : k = 0 := by omega
            rfl
  | succ m ih =>
    by_cases hk : k = m + 1
    · rw [hk]
    · have := ih (by omega)
      simp only [dst]
      rw [if_neg (by rw [this]; exact h), this]
theorem dst_at (ha : a ≤ s.length) (h : (dst s a k).er = 0) : a + 6 * k ≤ (dst s a k).at_ ∧ (dst s a k).at_ ≤ s.length := by
  induction k with
  | zero => exact ⟨Nat.le_refl _, ha⟩
  | succ k ih =>
    obtain ⟨h0, h1, _, _, e⟩ := dst_ok h
    have := ih h0
    have h2 := num_at h1
    rw [e]
    simp only
    omega
theorem dst_y (h : (dst s a k).er = 0) : (dst s a k).y.Ok ∧ 0 ≤ (dst s a k).y.st ∧ (dst s a k).y.st ≤ 1125899906842624 := by
  induction k with
  | zero =>
    refine ⟨win0_ok, Int.le_refl 0, ?_⟩
    show (0 : Int) ≤ 1125899906842624
    decide
  | succ k ih =>
    obtain ⟨h0, h1, h2, h3, e⟩ := dst_ok h
    have hy := (ih h0).1
    rw [e]
    obtain ⟨q1, q2, q3, q4, q5⟩ := winFault_zero h3
    simp only
    have hx : ∀ b j, b < 18446744073709551616 → b ^^^ (num s (dst s a k).at_ j).1 < 18446744073709551616 := fun b j hb => Nat.xor_lt_two_pow (n := 64) hb num_lt
    refine ⟨⟨by omega, by omega, by omega, by omega, hx _ _ hy.sm, hx _ _ hy.mn, hx _ _ hy.mx, hx _ _ hy.la⟩, q1, q2⟩
end

/-- The window ahead of number k of those that are read. -/
theorem ahd_dwin (s : List Nat) (a k : Nat) : ahd (dwin s a) k = (dst s a k).y := by
  cases k with
  | zero => rfl
  | succ k => rfl

/-! ## What is written is read again -/

/-- Number k of what is written of x behind y. -/
def wn (x y : Win) : Nat → Nat
  | 0 => (x.st - y.st).toNat
  | 1 => x.ct.toNat
  | k + 2 => x.fld k ^^^ y.fld k
/-- What is written of the first k of them. -/
def wpre (x y : Win) : Nat → List Nat
  | 0 => []
  | k + 1 => wpre x y k ++ uintB (wn x y k)
theorem winB_pre (x y : Win) : winB x y = wpre x y 6 := by
  simp only [winB, wpre, wn, xors, Nat.zero_add, List.nil_append, List.append_assoc]

theorem wn_lt (x y : Win) (hx : x.Ok) (hy : y.Ok) (h0 : 0 ≤ y.st) (h1 : x.st ≤ 1125899906842624) (hc : x.ct ≤ 4611686018427387904) : ∀ k, k < 6 → wn x y k < 18446744073709551616 := by
  intro k hk
  obtain rfl | rfl | rfl | rfl | rfl | rfl : k = 0 ∨ k = 1 ∨ k = 2 ∨ k = 3 ∨ k = 4 ∨ k = 5 := by omega
  · simp only [wn]; omega
  · simp only [wn]; omega
  · exact Nat.xor_lt_two_pow (n := 64) hx.sm hy.sm
  · exact Nat.xor_lt_two_pow (n := 64) hx.mn hy.mn
  · exact Nat.xor_lt_two_pow (n := 64) hx.mx hy.mx
  · exact Nat.xor_lt_two_pow (n := 64) hx.la hy.la

theorem num_pre (S p : List Nat) (x y : Win) (hl : ∀ k, k < 6 → wn x y k < 18446744073709551616) : ∀ k, k < 6 → ∀ q, S = p ++ wpre x y (k + 1) ++ q → num S p.length k = (wn x y k, p.length + (wpre x y (k + 1)).length, 0) := by
  intro k
  induction k with
  | zero =>
    intro _ q hS
    have e : num S p.length 0 = readU S (p.length : Int) := by simp [num, nxt]
    rw [e, hS]
    simp only [wpre, List.nil_append]
    exact readU_uint p q _ (hl 0 (by decide))
  | succ k ih =>
    intro hk q hS
    have h1 : S = p ++ wpre x y (k + 1) ++ (uintB (wn x y (k + 1)) ++ q) := by rw [hS]; simp only [wpre, List.append_assoc]
    have h2 := ih (by omega) _ h1
    rw [num_step (by rw [h2]), h2]
    simp only
    have h3 : S = (p ++ wpre x y (k + 1)) ++ uintB (wn x y (k + 1)) ++ q := by rw [h1]; simp only [List.append_assoc]
    have h4 := readU_uint (p ++ wpre x y (k + 1)) q (wn x y (k + 1)) (hl _ hk)
    rw [← h3, List.length_append] at h4
    rw [h4]
    have e : wpre x y (k + 1 + 1) = wpre x y (k + 1) ++ uintB (wn x y (k + 1)) := rfl
    rw [e, List.length_append, Nat.add_assoc]

theorem wpre_split (x y : Win) : ∀ k, k ≤ 6 → ∃ q, wpre x y 6 = wpre x y k ++ q := by
  intro k hk
  obtain ⟨d, hd⟩ : ∃ d, d = 6 - k := ⟨_, rfl⟩
  induction d generalizing k with
  | zero => obtain rfl : k = 6 := by omega
            exact ⟨[], by simp⟩
  | succ d ih =>
    obtain ⟨q, hq⟩ := ih (k + 1) (by omega) (by omega)
    exact ⟨uintB (wn x y k) ++ q, by rw [hq]; simp only [wpre, List.append_assoc]⟩

theorem num_win (p q : List Nat) (x y : Win) (hl : ∀ k, k < 6 → wn x y k < 18446744073709551616) (k : Nat) (hk : k < 6) :
    num (p ++ winB x y ++ q) p.length k = (wn x y k, p.length + (wpre x y (k + 1)).length, 0) := by
  obtain ⟨r, hr⟩ := wpre_split x y (k + 1) (by omega)
  refine num_pre _ p x y hl k hk (r ++ q) ?_
  rw [winB_pre, hr]
  simp only [List.append_assoc]

theorem xor_back (a b : Nat) : b ^^^ (a ^^^ b) = a := by rw [Nat.xor_comm a b, ← Nat.xor_assoc, Nat.xor_self, Nat.zero_xor]
theorem xor_back' (a b : Nat) : (b ^^^ a) ^^^ b = a := by rw [Nat.xor_comm b a, Nat.xor_assoc, Nat.xor_self, Nat.xor_zero]

theorem mkW_win (p q : List Nat) (x y : Win) (hx : x.Ok) (hy : y.Ok) (first : Bool) (h0 : 0 ≤ y.st) (hf : winFault x y first = 0) (hle : y.st ≤ x.st) :
    mkW y (p ++ winB x y ++ q) p.length = x ∧ (num (p ++ winB x y ++ q) p.length 5).2 = (p.length + (winB x y).length, 0) ∧ (num (p ++ winB x y ++ q) p.length 0).1 ≤ 1125899906842624 := by
  obtain ⟨q1, q2, q3, q4, q5⟩ := winFault_zero hf
  have hl := wn_lt x y hx hy h0 q2 q5
  have hn := num_win p q x y hl
  refine ⟨?_, ?_, ?_⟩
  · unfold mkW
    rw [hn 0 (by decide), hn 1 (by decide), hn 2 (by decide), hn 3 (by decide), hn 4 (by decide), hn 5 (by decide)]
    obtain ⟨st, ct, sm, mn, mx, la⟩ := x
    obtain ⟨st2, ct2, sm2, mn2, mx2, la2⟩ := y
    simp only [wn, Win.fld] at *
    congr 1
    · omega
    · omega
    · exact xor_back _ _
    · exact xor_back _ _
    · exact xor_back _ _
    · exact xor_back _ _
  · rw [hn 5 (by decide), winB_pre]
  · rw [hn 0 (by decide)]
    simp only [wn]
    omega

theorem encAll_split (F : Nat → Win) (n : Nat) : ∀ m k, k ≤ m → ∃ q, encAll F n m = encAll F n k ++ q := by
  intro m
  induction m with
  | zero => intro k hk; obtain rfl : k = 0 := by omega
            exact ⟨[], by simp⟩
  | succ m ih =>
    intro k hk
    by_cases h : k = m + 1
    · exact ⟨[], by rw [h]; simp⟩
    · obtain ⟨q, hq⟩ := ih k (by omega)
      exact ⟨q ++ winB (F m) (ahd F m), by rw [encAll, hq, List.append_assoc]⟩

theorem ffault_prev {F : Nat → Win} {k : Nat} (h : ffault F (k + 1) = 0) : ffault F k = 0 ∧ faultAt F k = 0 := by
  simp only [ffault] at h
  by_cases h0 : ffault F k = 0
  · rw [if_pos h0] at h; exact ⟨h0, h⟩
  · rw [if_neg h0] at h; exact absurd h h0
theorem ffault_le {F : Nat → Win} {k : Nat} (h : ffault F k = 0) : ∀ j, j ≤ k → ffault F j = 0 := by
  induction k with
  | zero => intro j hj; obtain rfl : j = 0 := by omega
            exact h
  | succ k ih =>
    intro j hj
    by_cases hk : j = k + 1
    · rw [hk]; exact h
    · exact ih (ffault_prev h).1 j (by omega)

/-- The window ahead lies at or ahead of the next, from time 0 on. -/
theorem ahd_ok {F : Nat → Win} {n : Nat} (hok : ∀ i, i < n → (F i).Ok) (hf : ffault F n = 0) (k : Nat) (hk : k < n) : (ahd F k).Ok ∧ 0 ≤ (ahd F k).st ∧ (ahd F k).st ≤ (F k).st ∧ faultAt F k = 0 := by
  have h1 := ffault_prev (ffault_le hf (k + 1) (by omega))
  have h2 := winFault_zero (show winFault (F k) (ahd F k) (decide (k = 0)) = 0 from h1.2)
  cases k with
  | zero => exact ⟨win0_ok, Int.le_refl 0, h2.1, h1.2⟩
  | succ k =>
    have h3 := ffault_prev (ffault_le hf (k + 1) (by omega))
    have h4 := winFault_zero (show winFault (F k) (ahd F k) (decide (k = 0)) = 0 from h3.2)
    have h5 := h2.2.2.1 (by simp)
    exact ⟨hok k (by omega), h4.1, by omega, h1.2⟩

theorem dst_enc (F : Nat → Win) (n : Nat) (hok : ∀ i, i < n → (F i).Ok) (hf : ffault F n = 0) : ∀ k, k ≤ n → dst (encAll F n n) (uintB n).length k = ⟨(encAll F n k).length, ahd F k, 0⟩ := by
  intro k
  induction k with
  | zero => intro _; rfl
  | succ k ih =>
    intro hk
    have h := ih (by omega)
    obtain ⟨a1, a2, a3, a4⟩ := ahd_ok hok hf k (by omega)
    obtain ⟨q, hq⟩ := encAll_split F n n (k + 1) hk
    have hS : encAll F n n = encAll F n k ++ winB (F k) (ahd F k) ++ q := hq
    obtain ⟨m1, m2, m3⟩ := mkW_win (encAll F n k) q (F k) (ahd F k) (hok k (by omega)) a1 (decide (k = 0)) a2 a4 a3
    rw [← hS] at m1 m2 m3
    simp only [dst]
    rw [h]
    simp only
    rw [if_pos trivial, m1, m2]
    simp only [erW]
    rw [m2, m1, if_neg (by simp), if_neg (by omega)]
    have e : winFault (F k) (ahd F k) (decide (k = 0)) = 0 := a4
    rw [e]
    simp only [encAll, ahd, List.length_append]

/-- What is written of windows without a fault is read as these windows. -/
theorem dec_enc (F : Nat → Win) (n : Nat) (hn : n < 18446744073709551616) (hok : ∀ i, i < n → (F i).Ok) (hf : ffault F n = 0) :
    readU (encAll F n n) 0 = (n, (uintB n).length, 0) ∧ derr (encAll F n n) = 0 ∧ ∀ i, i < n → dwin (encAll F n n) (uintB n).length i = F i := by
  obtain ⟨q, hq⟩ := encAll_split F n n 0 (Nat.zero_le _)
  have h0 : readU (encAll F n n) 0 = (n, (uintB n).length, 0) := by
    have := readU_uint [] q n hn
    simp only [List.nil_append, List.length_nil, Nat.zero_add] at this
    rw [hq]
    exact this
  refine ⟨h0, ?_, fun i hi => ?_⟩
  · unfold derr
    rw [h0]
    simp only
    rw [dst_enc F n hok hf n (Nat.le_refl _)]
    simp
  · unfold dwin
    rw [dst_enc F n hok hf (i + 1) (by omega)]
    rfl

/-! ## Bytes that are taken are the one form of their windows -/

theorem take_read (l : List Nat) (hl : ∀ x ∈ l, x < 256) (a : Nat) (h : (readU l (a : Int)).2.2 = 0) : l.take (readU l (a : Int)).2.1 = l.take a ++ uintB (readU l (a : Int)).1 := by
  obtain ⟨n, J, h1, h2, h3, h4⟩ := readU_form l hl a h
  obtain rfl : a = n := by omega
  rw [h2, h4, List.take_add]

theorem take_num (l : List Nat) (hl : ∀ x ∈ l, x < 256) (a : Nat) : ∀ k, (num l a k).2.2 = 0 → ∃ L, L = (List.range (k + 1)).flatMap (fun j => uintB (num l a j).1) ∧ l.take (num l a k).2.1 = l.take a ++ L := by
  intro k
  induction k with
  | zero =>
    intro h
    have e : num l a 0 = readU l (a : Int) := by simp [num, nxt]
    refine ⟨_, rfl, ?_⟩
    rw [e] at h
    simp only [Nat.zero_add, List.range_one, List.flatMap_cons, List.flatMap_nil, List.append_nil]
    rw [e]
    exact take_read l hl a h
  | succ k ih =>
    intro h
    have h0 := num_prev h
    obtain ⟨L, rfl, hL⟩ := ih h0
    refine ⟨_, rfl, ?_⟩
    have e := num_step h0
    rw [List.range_succ, List.flatMap_append, ← List.append_assoc, ← hL]
    simp only [List.flatMap_cons, List.flatMap_nil, List.append_nil]
    rw [e] at h ⊢
    exact take_read l hl _ h

theorem dst_take (l : List Nat) (hl : ∀ x ∈ l, x < 256) (a n : Nat) (h0 : l.take a = uintB n) : ∀ k, (dst l a k).er = 0 → l.take (dst l a k).at_ = encAll (dwin l a) n k := by
  intro k
  induction k with
  | zero => intro _; exact h0
  | succ k ih =>
    intro h
    obtain ⟨h1, h2, h3, h4, e⟩ := dst_ok h
    have hk := ih h1
    obtain ⟨L, hL, ht⟩ := take_num l hl _ 5 h2
    rw [e]
    simp only
    rw [ht, hk, encAll]
    congr 1
    have hy := ahd_dwin l a k
    have hx : dwin l a k = mkW (dst l a k).y l (dst l a k).at_ := by unfold dwin; rw [e]
    rw [hy, hx, hL, winB_pre]
    obtain ⟨q1, q2, q3, q4, q5⟩ := winFault_zero h4
    have w0 : wn (mkW (dst l a k).y l (dst l a k).at_) (dst l a k).y 0 = (num l (dst l a k).at_ 0).1 := by simp only [wn, mkW]; omega
    have w1 : wn (mkW (dst l a k).y l (dst l a k).at_) (dst l a k).y 1 = (num l (dst l a k).at_ 1).1 := by
      simp only [mkW] at q5
      simp only [wn, mkW]; omega
    have w2 : wn (mkW (dst l a k).y l (dst l a k).at_) (dst l a k).y 2 = (num l (dst l a k).at_ 2).1 := xor_back' _ _
    have w3 : wn (mkW (dst l a k).y l (dst l a k).at_) (dst l a k).y 3 = (num l (dst l a k).at_ 3).1 := xor_back' _ _
    have w4 : wn (mkW (dst l a k).y l (dst l a k).at_) (dst l a k).y 4 = (num l (dst l a k).at_ 4).1 := xor_back' _ _
    have w5 : wn (mkW (dst l a k).y l (dst l a k).at_) (dst l a k).y 5 = (num l (dst l a k).at_ 5).1 := xor_back' _ _
    rw [show List.range (5 + 1) = [0, 1, 2, 3, 4, 5] from rfl]
    simp only [List.flatMap_cons, List.flatMap_nil, wpre, w0, w1, w2, w3, w4, w5, List.nil_append, List.append_nil, List.append_assoc]

theorem ffault_dst (l : List Nat) (a : Nat) : ∀ k, (dst l a k).er = 0 → ffault (dwin l a) k = 0 := by
  intro k
  induction k with
  | zero => intro _; rfl
  | succ k ih =>
    intro h
    obtain ⟨h1, h2, h3, h4, e⟩ := dst_ok h
    have hx : dwin l a k = mkW (dst l a k).y l (dst l a k).at_ := by unfold dwin; rw [e]
    simp only [ffault]
    rw [if_pos (ih h1)]
    show winFault (dwin l a k) (ahd (dwin l a) k) _ = 0
    rw [ahd_dwin, hx]
    exact h4

/-- Bytes that Decode takes are what Encode writes of their windows. -/
theorem enc_dec (l : List Nat) (hl : ∀ x ∈ l, x < 256) (h : derr l = 0) : ffault (dwin l (readU l 0).2.1) (readU l 0).1 = 0 ∧ encAll (dwin l (readU l 0).2.1) (readU l 0).1 (readU l 0).1 = l ∧
    ∀ i, i < (readU l 0).1 → (dwin l (readU l 0).2.1 i).Ok := by
  unfold derr at h
  by_cases h1 : (readU l 0).2.2 = 0
  · rw [if_neg (by simpa using h1)] at h
    by_cases h2 : (dst l (readU l 0).2.1 (readU l 0).1).er = 0
    · rw [if_neg (by simpa using h2)] at h
      by_cases h3 : (dst l (readU l 0).2.1 (readU l 0).1).at_ = l.length
      · refine ⟨ffault_dst _ _ _ h2, ?_, fun i hi => (dst_y (dst_le h2 (i + 1) (by omega))).1⟩
        have ht := dst_take l hl (readU l 0).2.1 (readU l 0).1 (by have := take_read l hl 0 h1; simpa using this) _ h2
        rw [h3, List.take_length] at ht
        exact ht.symm
      · rw [if_pos (by simpa using h3)] at h
        exact absurd h (by decide)
    · rw [if_pos (by simpa using h2)] at h
      exact absurd h h2
  · rw [if_pos (by simpa using h1)] at h
    exact absurd (by omega : (readU l 0).2.2 = 0) h1

end Go.Proofs.Ytceidhjgdgnplaa
