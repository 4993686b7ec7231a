/-
  Plain words on chunks: what is written of a step and of a value.
  Conditions: none.
-/
import Derived.Test.YtdnllmibchmnnaaDoorZer
namespace Go.Proofs.YtdnllmibchmnnaaDoor
set_option linter.unusedVariables false
set_option linter.unusedSimpArgs false

/-- A number with a sign as 64 bits. -/
def u64 (c : Int) : Nat := (c % 18446744073709551616).toNat
theorem u64_lt (c : Int) : u64 c < 18446744073709551616 := by unfold u64; omega

/-- What is known of a chunk: its bits, how many samples, the last of them, the last step, the window. -/
structure Ck where
  bits : List Bool
  n : Nat
  t : Int
  v : Nat
  step : Int
  lead : Nat
  tail : Nat
  win : Bool

/-- A change of steps, as bits. -/
def chg (c : Int) : List Bool :=
  if c = 0 then bitsOf 0 1
  else if -64 ≤ c ∧ c < 64 then bitsOf 2 2 ++ bitsOf (u64 c) 7
  else if -256 ≤ c ∧ c < 256 then bitsOf 6 3 ++ bitsOf (u64 c) 9
  else if -2048 ≤ c ∧ c < 2048 then bitsOf 14 4 ++ bitsOf (u64 c) 12
  else bitsOf 15 4 ++ bitsOf (u64 c) 64
/-- The bits of a value that differ, and the window behind them. -/
def dif (x : Nat) (c : Ck) : Ck :=
  if x = 0 then { c with bits := c.bits ++ bitsOf 0 1 }
  else if c.win = true ∧ c.lead ≤ lz x ∧ c.tail ≤ tz x then { c with bits := c.bits ++ bitsOf 2 2 ++ bitsOf (x / 2 ^ c.tail) (64 - c.lead - c.tail) }
  else { c with bits := c.bits ++ bitsOf 3 2 ++ bitsOf (lz x) 5 ++ bitsOf (63 - lz x - tz x) 6 ++ bitsOf (x / 2 ^ tz x) (64 - lz x - tz x), lead := lz x, tail := tz x, win := true }

theorem chg_length (c : Int) : (chg c).length ≤ 68 := by
  unfold chg
  repeat' split
  all_goals simp [bitsOf_length]

end Go.Proofs.YtdnllmibchmnnaaDoor
