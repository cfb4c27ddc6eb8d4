/- Decimal text in plain words. No conditions. -/
import Derived.Lib.ItoaNum
import Derived.Lib.TrimByte
import Derived.Test.YthmjgbkakjpfkaaGreatDoorGLooksAa
namespace Go.Proofs.YthmjgbkakjpfkaaGreatDoor

def dpad : Nat → Nat → List UInt8
  | 0, _ => []
  | k + 1, n => dpad k (n / 10) ++ [UInt8.ofNat (48 + n % 10)]
theorem dpad_len : ∀ (k n : Nat), (dpad k n).length = k
  | 0, _ => rfl
  | k + 1, n => by simp only [dpad, List.length_append, dpad_len k, List.length_cons, List.length_nil]
theorem dpad_mod : ∀ (k n : Nat), dpad k (n % 10 ^ k) = dpad k n
  | 0, _ => rfl
  | k + 1, n => by
    have h1 : n % 10 ^ (k + 1) / 10 = n / 10 % 10 ^ k := by
      rw [Nat.pow_succ, Nat.mul_comm (10 ^ k) 10, Nat.mod_mul_right_div_self]
    have h2 : n % 10 ^ (k + 1) % 10 = n % 10 := Nat.mod_mod_of_dvd _ ⟨10 ^ k, by rw [Nat.pow_succ, Nat.mul_comm]⟩
    simp only [dpad]
    rw [h1, h2, dpad_mod k]
theorem dpad_add (a : Nat) : ∀ (b n : Nat), dpad (a + b) n = dpad a (n / 10 ^ b) ++ dpad b n
  | 0, n => by simp [dpad]
  | b + 1, n => by
    rw [← Nat.add_assoc]
    simp only [dpad]
    rw [dpad_add a b, List.append_assoc, Nat.div_div_eq_div_mul, Nat.pow_succ, Nat.mul_comm 10]
theorem dig_nought : ∀ d, d < 10 → (UInt8.ofNat (48 + d) == 48) = decide (d = 0) := by decide
theorem decDigits_ne (n : Nat) : Lib.decDigits n ≠ [] := by
  rw [Lib.decDigits]
  split <;> simp
theorem trim_dpad : ∀ (k n : Nat), n < 10 ^ k → Lib.trimLeftB (dpad k n) 48 = if n = 0 then [] else Lib.decDigits n
  | 0, n, h => by
    obtain rfl : n = 0 := by simpa using h
    rfl
  | k + 1, n, h => by
    have h1 : n / 10 < 10 ^ k := Nat.div_lt_of_lt_mul (by rw [Nat.mul_comm, ← Nat.pow_succ]; exact h)
    have hi := trim_dpad k (n / 10) h1
    unfold Lib.trimLeftB at hi ⊢
    simp only [dpad]
    rw [List.dropWhile_append, hi]
    by_cases h0 : n / 10 = 0
    · have h10 : n < 10 := by omega
      rw [if_pos h0]
      simp only [List.isEmpty_nil, if_true, List.dropWhile_cons, List.dropWhile_nil]
      rw [dig_nought _ (Nat.mod_lt _ (by decide)), Nat.mod_eq_of_lt h10]
      by_cases hn : n = 0
      · simp [hn]
      · simp only [hn, decide_false, Bool.false_eq_true, if_false]
        rw [Lib.decDigits, dif_pos h10]
    · rw [if_neg h0]
      have hne : (Lib.decDigits (n / 10)).isEmpty = false := by
        cases hl : Lib.decDigits (n / 10) with
        | nil => exact absurd hl (decDigits_ne _)
        | cons => rfl
      rw [hne]
      simp only [Bool.false_eq_true, if_false]
      rw [if_neg (by omega), Lib.decDigits.eq_def n, dif_neg (by omega)]
def piece (n i : Nat) : List UInt8 := dpad 9 (n / 10 ^ (9 * i))
theorem piece_step (n i j : Nat) : dpad (9 * (j + 1)) (n / 10 ^ (9 * i)) = dpad (9 * j) (n / 10 ^ (9 * (i + 1))) ++ piece n i := by
  unfold piece
  rw [Nat.mul_succ, dpad_add, Nat.div_div_eq_div_mul, ← Nat.pow_add, Nat.mul_succ]

def signB (s : List UInt8) (c : Int) : List UInt8 := if c < 0 then s ++ [45] else if s = [] then s else s ++ [43]
def partB (s : List UInt8) (p : Int × Int) : List UInt8 :=
  (signB s p.2 ++ (if Lib.itoa (p.2.natAbs : Int) = [49] then [] else Lib.itoa (p.2.natAbs : Int))) ++ (118 :: Lib.itoa p.1)
def writtenB (l : List (Int × Int)) (k : Int) : List UInt8 :=
  if k = 0 then l.foldl partB [] else signB (l.foldl partB []) k ++ Lib.itoa (k.natAbs : Int)

end Go.Proofs.YthmjgbkakjpfkaaGreatDoor
