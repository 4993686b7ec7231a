/-
  Plain laws on bits, bytes and numbers: what a bit stream writes and reads, with no program in sight.
  Conditions: none.
-/
import Derived.WalkKit
namespace Go.Proofs.YtdnllmibchmnnaaDoor
set_option linter.unusedVariables false
set_option linter.unusedSimpArgs false

/-- The n lowest bits of v, the highest of them first. -/
def bitsOf (v : Nat) : Nat → List Bool
  | 0 => []
  | n + 1 => v.testBit n :: bitsOf v n

theorem bitsOf_length (v n : Nat) : (bitsOf v n).length = n := by
  induction n with
  | zero => rfl
  | succ n ih => simp [bitsOf, ih]

/-- The byte that the first eight bits of a list write; bits that lack are 0. -/
def byteOf (b : List Bool) : Nat :=
  128 * (b.getD 0 false).toNat + 64 * (b.getD 1 false).toNat + 32 * (b.getD 2 false).toNat + 16 * (b.getD 3 false).toNat +
  8 * (b.getD 4 false).toNat + 4 * (b.getD 5 false).toNat + 2 * (b.getD 6 false).toNat + (b.getD 7 false).toNat

theorem byteOf_lt (b : List Bool) : byteOf b < 256 := by
  have h : ∀ c : Bool, c.toNat ≤ 1 := by decide
  have h0 := h (b.getD 0 false); have h1 := h (b.getD 1 false); have h2 := h (b.getD 2 false); have h3 := h (b.getD 3 false)
  have h4 := h (b.getD 4 false); have h5 := h (b.getD 5 false); have h6 := h (b.getD 6 false); have h7 := h (b.getD 7 false)
  unfold byteOf; omega

theorem byteOf_congr {a b : List Bool} (h : ∀ i, i < 8 → a.getD i false = b.getD i false) : byteOf a = byteOf b := by
  unfold byteOf
  rw [h 0 (by omega), h 1 (by omega), h 2 (by omega), h 3 (by omega), h 4 (by omega), h 5 (by omega), h 6 (by omega), h 7 (by omega)]

def packN : Nat → List Bool → List Nat
  | 0, _ => []
  | n + 1, l => byteOf l :: packN n (l.drop 8)

/-- The bytes whose bits these are, filled up with 0. -/
def pack (l : List Bool) : List Nat := packN ((l.length + 7) / 8) l

theorem packN_length (n : Nat) (l : List Bool) : (packN n l).length = n := by
  induction n generalizing l with
  | zero => rfl
  | succ n ih => simp [packN, ih]

theorem packN_get (n : Nat) (l : List Bool) (i : Nat) : (packN n l)[i]? = if i < n then some (byteOf (l.drop (8 * i))) else none := by
  induction n generalizing l i with
  | zero => simp [packN]
  | succ n ih =>
    cases i with
    | zero => simp [packN]
    | succ i =>
      simp only [packN, List.getElem?_cons_succ, ih, List.drop_drop]
      rw [show 8 + 8 * i = 8 * (i + 1) from by omega]
      simp only [Nat.add_lt_add_iff_right]

theorem pack_length (l : List Bool) : (pack l).length = (l.length + 7) / 8 := packN_length _ _
theorem pack_get (l : List Bool) (i : Nat) : (pack l)[i]? = if i < (l.length + 7) / 8 then some (byteOf (l.drop (8 * i))) else none := packN_get _ _ _
theorem pack_lt (l : List Bool) : ∀ x ∈ pack l, x < 256 := by
  intro x hx
  obtain ⟨i, hi⟩ := List.mem_iff_getElem?.1 hx
  rw [pack_get] at hi
  split at hi
  · cases hi; exact byteOf_lt _
  · cases hi

theorem getD_drop (l : List Bool) (i j : Nat) : (l.drop i).getD j false = l.getD (i + j) false := by
  simp [List.getD, List.getElem?_drop]

theorem getD_app (l : List Bool) (b : Bool) (i : Nat) : (l ++ [b]).getD i false = if i = l.length then b else l.getD i false := by
  simp only [List.getD, List.getElem?_append]
  by_cases h : i < l.length
  · rw [if_pos h, if_neg (by omega)]
  · rw [if_neg h]
    by_cases he : i = l.length
    · subst he; simp
    · rw [if_neg he, List.getElem?_eq_none (by simp; omega), List.getElem?_eq_none (by omega)]

theorem byte_zero (l : List Bool) (h : l.length = 0) : byteOf l = 0 := by
  have : l = [] := List.eq_nil_of_length_eq_zero h
  subst this; rfl

/-- One bit more, where a new byte begins. -/
theorem pack_new (l : List Bool) (b : Bool) (h : l.length % 8 = 0) : pack (l ++ [b]) = pack l ++ [128 * b.toNat] := by
  apply List.ext_getElem?
  intro i
  rw [List.getElem?_append, pack_length, pack_get, pack_get, List.length_append, List.length_singleton]
  by_cases hi : i < (l.length + 7) / 8
  · rw [if_pos hi, if_pos hi, if_pos (show i < (l.length + 1 + 7) / 8 by omega)]
    congr 1
    refine byteOf_congr fun j hj => ?_
    rw [getD_drop, getD_drop, getD_app, if_neg (by omega)]
  · rw [if_neg hi]
    by_cases he : i = (l.length + 7) / 8
    · rw [if_pos (by omega), he]
      have h8 : 8 * ((l.length + 7) / 8) = l.length := by omega
      simp only [Nat.sub_self, List.getElem?_cons_zero, h8]
      congr 1
      unfold byteOf
      simp only [getD_drop, getD_app]
      have hz : ∀ j, 0 < j → l.getD (l.length + j) false = false := fun j hj => by simp [List.getD]
      simp [hz]
    · rw [if_neg (by omega), List.getElem?_eq_none (by simp; omega)]

/-- What a bit adds to the byte that it falls into. -/
def orBit (x p : Nat) (b : Bool) : Nat := if b then x ||| 128 / 2 ^ p else x

theorem or_bits : ∀ (b0 b1 b2 b3 b4 b5 b6 : Bool) (p : Fin 8), 0 < p.val →
    (128 * b0.toNat + 64 * (if p.val ≤ 1 then false else b1).toNat + 32 * (if p.val ≤ 2 then false else b2).toNat + 16 * (if p.val ≤ 3 then false else b3).toNat + 8 * (if p.val ≤ 4 then false else b4).toNat + 4 * (if p.val ≤ 5 then false else b5).toNat + 2 * (if p.val ≤ 6 then false else b6).toNat + 0) ||| 128 / 2 ^ p.val =
    128 * b0.toNat + 64 * (if p.val = 1 then true else if p.val ≤ 1 then false else b1).toNat + 32 * (if p.val = 2 then true else if p.val ≤ 2 then false else b2).toNat + 16 * (if p.val = 3 then true else if p.val ≤ 3 then false else b3).toNat + 8 * (if p.val = 4 then true else if p.val ≤ 4 then false else b4).toNat + 4 * (if p.val = 5 then true else if p.val ≤ 5 then false else b5).toNat + 2 * (if p.val = 6 then true else if p.val ≤ 6 then false else b6).toNat + (if p.val = 7 then 1 else 0) := by decide

theorem byte_or (l : List Bool) (b : Bool) (h0 : 0 < l.length) (h : l.length < 8) : byteOf (l ++ [b]) = orBit (byteOf l) l.length b := by
  have hz : ∀ j, l.length ≤ j → l.getD j false = false := fun j hj => by simp [List.getD, List.getElem?_eq_none hj]
  have hk := or_bits (l.getD 0 false) (l.getD 1 false) (l.getD 2 false) (l.getD 3 false) (l.getD 4 false) (l.getD 5 false) (l.getD 6 false) ⟨l.length, h⟩ h0
  simp only at hk
  have hg : ∀ j, (if l.length ≤ j then false else l.getD j false) = l.getD j false := fun j => by
    split
    · rw [hz j ‹_›]
    · rfl
  simp only [hg] at hk
  unfold orBit
  cases b with
  | false =>
    refine byteOf_congr fun j _ => ?_
    rw [getD_app]
    split
    · rw [hz j (by omega)]
    · rfl
  | true =>
    rw [if_pos rfl]
    unfold byteOf
    rw [show (l.getD 7 false).toNat = 0 from by rw [hz 7 (by omega)]; rfl, hk]
    simp only [getD_app]
    have e0 : ¬ (0 = l.length) := by omega
    rw [if_neg e0]
    simp only [eq_comm (a := l.length)]
    have h7 : (if 7 = l.length then true else l.getD 7 false).toNat = if 7 = l.length then 1 else 0 := by
      split
      · rfl
      · rw [hz 7 (by omega)]; rfl
    rw [h7]

/-- One bit more, inside a byte. -/
theorem pack_in (l : List Bool) (b : Bool) (h : l.length % 8 ≠ 0) :
    pack (l ++ [b]) = (pack l).set (l.length / 8) (orBit ((pack l).getD (l.length / 8) 0) (l.length % 8) b) := by
  apply List.ext_getElem?
  intro i
  have hd : l.length / 8 < (l.length + 7) / 8 := by omega
  have hx : (pack l).getD (l.length / 8) 0 = byteOf (l.drop (8 * (l.length / 8))) := by
    simp only [List.getD, pack_get, if_pos hd, Option.getD_some]
  rw [hx, List.getElem?_set, pack_length, pack_get, List.length_append, List.length_singleton, pack_get]
  by_cases he : l.length / 8 = i
  · subst he
    rw [if_pos rfl, if_pos hd, if_pos (by omega)]
    congr 1
    have hl : (l.drop (8 * (l.length / 8))).length = l.length % 8 := by simp; omega
    have := byte_or (l.drop (8 * (l.length / 8))) b (by omega) (by omega)
    rw [hl] at this
    rw [← this, List.drop_append_of_le_length (by omega)]
  · rw [if_neg he]
    by_cases hi : i < (l.length + 7) / 8
    · rw [if_pos hi, if_pos (by omega)]
      congr 1
      refine byteOf_congr fun j hj => ?_
      rw [getD_drop, getD_drop, getD_app, if_neg (by omega)]
    · rw [if_neg hi, if_neg (by omega)]

/-- The number that bits write, the first the highest. -/
def numOf (l : List Bool) : Nat := l.foldl (fun a b => a * 2 + b.toNat) 0

theorem numOf_snoc (l : List Bool) (b : Bool) : numOf (l ++ [b]) = numOf l * 2 + b.toNat := by simp [numOf]

theorem numOf_lt (l : List Bool) : numOf l < 2 ^ l.length := by
  suffices h : ∀ (r : List Bool), numOf r.reverse < 2 ^ r.length by simpa using h l.reverse
  intro r
  induction r with
  | nil => simp [numOf]
  | cons b r ih =>
    rw [List.reverse_cons, numOf_snoc, List.length_cons, Nat.pow_succ]
    have : b.toNat ≤ 1 := by cases b <;> decide
    omega

/-- The bits of bytes. -/
def unpack (s : List Nat) : List Bool := s.flatMap fun c => bitsOf c 8

theorem unpack_length (s : List Nat) : (unpack s).length = 8 * s.length := by
  induction s with
  | nil => rfl
  | cons c s ih =>
    have : unpack (c :: s) = bitsOf c 8 ++ unpack s := rfl
    rw [this, List.length_append, ih, bitsOf_length, List.length_cons]; omega

theorem bitsOf_get (v n i : Nat) : (bitsOf v n)[i]? = if i < n then some (v.testBit (n - 1 - i)) else none := by
  induction n generalizing i with
  | zero => simp [bitsOf]
  | succ n ih =>
    cases i with
    | zero => simp [bitsOf]
    | succ i =>
      simp only [bitsOf, List.getElem?_cons_succ, ih, Nat.add_lt_add_iff_right]
      rw [show n - 1 - i = n + 1 - 1 - (i + 1) from by omega]

theorem unpack_get (s : List Nat) (i : Nat) (h : i < 8 * s.length) : (unpack s)[i]? = some ((s.getD (i / 8) 0).testBit (7 - i % 8)) := by
  induction s generalizing i with
  | nil => simp at h
  | cons c s ih =>
    have : unpack (c :: s) = bitsOf c 8 ++ unpack s := rfl
    rw [this, List.getElem?_append, bitsOf_length]
    by_cases hi : i < 8
    · rw [if_pos hi, bitsOf_get, if_pos hi, show i / 8 = 0 from by omega, show i % 8 = i from by omega]
      simp
    · rw [if_neg hi, ih (i - 8) (by simp at h; omega), show i / 8 = (i - 8) / 8 + 1 from by omega, show (i - 8) % 8 = i % 8 from by omega]
      simp

theorem numOf_bitsOf (v n : Nat) : numOf (bitsOf v n) = v % 2 ^ n := by
  have hg : ∀ (a : Nat) (l : List Bool), l.foldl (fun a b => a * 2 + b.toNat) a = a * 2 ^ l.length + numOf l := by
    intro a l
    induction l generalizing a with
    | nil => simp [numOf]
    | cons b l ih =>
      simp only [List.foldl_cons, numOf, List.length_cons]
      rw [ih, ih (0 * 2 + b.toNat), Nat.pow_succ]
      simp only [Nat.add_mul, Nat.zero_mul, Nat.zero_add, Nat.mul_comm (2 ^ l.length) 2, Nat.mul_assoc, Nat.add_assoc]
  induction n with
  | zero => simp [bitsOf, numOf, Nat.mod_one]
  | succ n ih =>
    have : numOf (bitsOf v (n + 1)) = (bitsOf v n).foldl (fun a b => a * 2 + b.toNat) (0 * 2 + (v.testBit n).toNat) := rfl
    rw [this, hg, bitsOf_length, ih, Nat.zero_mul, Nat.zero_add, Nat.mod_pow_succ, Nat.testBit_eq_decide_div_mod_eq]
    have : (decide (v / 2 ^ n % 2 = 1)).toNat = v / 2 ^ n % 2 := by
      rcases Nat.mod_two_eq_zero_or_one (v / 2 ^ n) with h | h <;> simp [h]
    rw [this, Nat.mul_comm, Nat.add_comm]

theorem bitsOf_add (v m n : Nat) : bitsOf v (m + n) = bitsOf (v / 2 ^ n) m ++ bitsOf v n := by
  induction m with
  | zero => simp [bitsOf]
  | succ m ih =>
    rw [show m + 1 + n = m + n + 1 from by omega, bitsOf, bitsOf, ih, List.cons_append]
    congr 1
    rw [Nat.testBit_div_two_pow]

end Go.Proofs.YtdnllmibchmnnaaDoor
