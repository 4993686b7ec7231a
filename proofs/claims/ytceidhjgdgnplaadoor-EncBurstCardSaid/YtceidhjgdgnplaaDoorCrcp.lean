/-
  Plain laws on the sum: bit by bit, and by nibbles.
  Conditions: none.
-/
import Derived.Test.YtceidhjgdgnplaaDoorStr
namespace Go.Proofs.YtceidhjgdgnplaaDoor
set_option linter.unusedVariables false
set_option linter.unusedSimpArgs false

/-- One bit of the division. -/
def crcBit (c : Nat) : Nat := if c % 2 = 1 then c / 2 ^^^ 2197175160 else c / 2
def crc4 (c : Nat) : Nat := crcBit (crcBit (crcBit (crcBit c)))
/-- One byte more. -/
def crcByte (c b : Nat) : Nat := crc4 (crc4 (c ^^^ b))
def crcList (c : Nat) (l : List Nat) : Nat := l.foldl crcByte c
/-- The sum of a text. -/
def crcOf (l : List Nat) : Nat := crcList 4294967295 l ^^^ 4294967295

def nib (i : Nat) : Nat := [0, 274646895, 549293790, 820201905, 1098587580, 1361435347, 1640403810, 1905808397, 2197175160, 2460548119, 2722870694, 2987750089, 3280807620, 3553878443, 3811616794, 4084100981].getD i 0

theorem crcBit_xor (a b : Nat) : crcBit (a ^^^ b) = crcBit a ^^^ crcBit b := by
  have hd : (a ^^^ b) / 2 = a / 2 ^^^ b / 2 := by
    apply Nat.eq_of_testBit_eq
    intro i
    rw [Nat.testBit_xor, ← Nat.testBit_succ, ← Nat.testBit_succ, ← Nat.testBit_succ, Nat.testBit_xor]
  have hm : (a ^^^ b) % 2 = (a % 2 + b % 2) % 2 := by
    have h := Nat.testBit_xor a b 0
    simp only [Nat.testBit_zero] at h
    rcases Nat.mod_two_eq_zero_or_one a with ha | ha <;> rcases Nat.mod_two_eq_zero_or_one b with hb | hb <;> rcases Nat.mod_two_eq_zero_or_one (a ^^^ b) with hc | hc <;> simp [ha, hb, hc] at h ⊢
  unfold crcBit
  rw [hd, hm]
  rcases Nat.mod_two_eq_zero_or_one a with ha | ha <;> rcases Nat.mod_two_eq_zero_or_one b with hb | hb <;> simp only [ha, hb]
  · rfl
  · simp [Nat.xor_assoc]
  · simp only [Nat.reduceAdd, Nat.reduceMod, if_true, Nat.zero_ne_one, if_false]
    rw [Nat.xor_assoc, Nat.xor_assoc, Nat.xor_comm (b / 2)]
  · simp only [Nat.reduceAdd, Nat.reduceMod, if_true, Nat.zero_ne_one, if_false]
    rw [Nat.xor_assoc, ← Nat.xor_assoc 2197175160, Nat.xor_comm 2197175160 (b / 2), Nat.xor_assoc (b / 2), Nat.xor_self, Nat.xor_zero]

theorem crcBit_lt (c : Nat) (h : c < 4294967296) : crcBit c < 4294967296 := by
  unfold crcBit
  split
  · exact Nat.xor_lt_two_pow (n := 32) (by omega) (by decide)
  · omega

theorem split16 (c : Nat) : c = 16 * (c / 16) ^^^ c % 16 := by
  apply Nat.eq_of_testBit_eq
  intro i
  rw [Nat.testBit_xor, show 16 * (c / 16) = 2 ^ 4 * (c / 2 ^ 4) from rfl, show c % 16 = c % 2 ^ 4 from rfl, Nat.testBit_two_pow_mul, Nat.testBit_mod_two_pow, Nat.testBit_div_two_pow]
  by_cases h : i < 4
  · have : ¬ i ≥ 4 := by omega
    simp [h, this]
  · have h2 : i ≥ 4 := by omega
    simp [h, h2]

theorem crcBit_even (x : Nat) : crcBit (2 * x) = x := by
  unfold crcBit
  rw [if_neg (by omega)]; omega

theorem crc4_nib (c : Nat) : crc4 c = nib (c % 16) ^^^ c / 16 := by
  have h4 : ∀ a b, crc4 (a ^^^ b) = crc4 a ^^^ crc4 b := fun a b => by
    unfold crc4; rw [crcBit_xor, crcBit_xor, crcBit_xor, crcBit_xor]
  have h16 : ∀ x, crc4 (16 * x) = x := fun x => by
    unfold crc4
    rw [show 16 * x = 2 * (2 * (2 * (2 * x))) from by omega, crcBit_even, crcBit_even, crcBit_even, crcBit_even]
  have hn : ∀ x : Fin 16, crc4 x.val = nib x.val := by decide +kernel
  have h := hn ⟨c % 16, Nat.mod_lt _ (by decide)⟩
  conv => lhs; rw [split16 c]
  rw [h4, h16, h, Nat.xor_comm]

theorem nib_lt (i : Nat) (h : i < 16) : nib i < 4294967296 := by
  have hn : ∀ x : Fin 16, nib x.val < 4294967296 := by decide +kernel
  exact hn ⟨i, h⟩

theorem crc4_lt (c : Nat) (h : c < 4294967296) : crc4 c < 4294967296 := crcBit_lt _ (crcBit_lt _ (crcBit_lt _ (crcBit_lt _ h)))
theorem crcByte_lt (c b : Nat) (h : c < 4294967296) (hb : b < 256) : crcByte c b < 4294967296 :=
  crc4_lt _ (crc4_lt _ (Nat.xor_lt_two_pow (n := 32) h (by omega)))
theorem crcList_lt (l : List Nat) (hl : ∀ x ∈ l, x < 256) (c : Nat) (h : c < 4294967296) : crcList c l < 4294967296 := by
  induction l generalizing c with
  | nil => exact h
  | cons b l ih => exact ih (fun x hx => hl x (List.mem_cons_of_mem _ hx)) _ (crcByte_lt c b h (hl b (List.mem_cons_self ..)))
theorem crcList_append (c : Nat) (a b : List Nat) : crcList c (a ++ b) = crcList (crcList c a) b := by simp [crcList]
theorem crcOf_lt (l : List Nat) (hl : ∀ x ∈ l, x < 256) : crcOf l < 4294967296 :=
  Nat.xor_lt_two_pow (n := 32) (crcList_lt l hl _ (by decide)) (by decide)

theorem crc_take (l : List Nat) (c i : Nat) (h : i < l.length) : crcList c (l.take (i + 1)) = crcByte (crcList c (l.take i)) (l.getD i 0) := by
  rw [List.take_succ_eq_append_getElem h, crcList_append, List.getD_eq_getElem?_getD, List.getElem?_eq_getElem h]
  rfl

end Go.Proofs.YtceidhjgdgnplaaDoor
