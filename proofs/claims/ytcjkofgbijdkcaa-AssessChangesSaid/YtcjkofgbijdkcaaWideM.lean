/- Plain numbers: a size in four digits of base 2^32, and what is done with it. No program in sight. -/
import Derived.WalkKit
import Derived.Lib.Hide
import Derived.Test.YtcjkofgbijdkcaaMath
namespace Go.Proofs.Ytcjkofgbijdkcaa
open Go.RowKit

/-- the digits of a number below 2^128, the lowest first -/
def dig0 (n : Int) : Int := n % 4294967296
def dig1 (n : Int) : Int := n / 4294967296 % 4294967296
def dig2 (n : Int) : Int := n / 4294967296 / 4294967296 % 4294967296
def dig3 (n : Int) : Int := n / 4294967296 / 4294967296 / 4294967296 % 4294967296
def W4 (n : Int) : Value := .agg #[.int .u64 (dig0 n), .int .u64 (dig1 n), .int .u64 (dig2 n), .int .u64 (dig3 n)]
/-- a wide number: its sign, its size -/
def Wide (s : Bool) (n : Int) : Value := .agg #[.bool s, .int .u64 (dig0 n), .int .u64 (dig1 n), .int .u64 (dig2 n), .int .u64 (dig3 n)]

theorem dig_bd (n : Int) : (0 ≤ dig0 n ∧ dig0 n ≤ 4294967295) ∧ (0 ≤ dig1 n ∧ dig1 n ≤ 4294967295) ∧ (0 ≤ dig2 n ∧ dig2 n ≤ 4294967295) ∧ (0 ≤ dig3 n ∧ dig3 n ≤ 4294967295) := by
  unfold dig0 dig1 dig2 dig3; omega

/-- what a number's digits are -/
theorem dig_of {n a b c d : Int} (a0 : 0 ≤ a) (a1 : a ≤ 4294967295) (b0 : 0 ≤ b) (b1 : b ≤ 4294967295) (c0 : 0 ≤ c) (c1 : c ≤ 4294967295) (d0 : 0 ≤ d) (d1 : d ≤ 4294967295)
    (h : n = a + 4294967296 * (b + 4294967296 * (c + 4294967296 * d))) : dig0 n = a ∧ dig1 n = b ∧ dig2 n = c ∧ dig3 n = d := by
  unfold dig0 dig1 dig2 dig3; omega

theorem dig_sum {n : Int} (h0 : 0 ≤ n) (h1 : n < 340282366920938463463374607431768211456) : n = dig0 n + 4294967296 * (dig1 n + 4294967296 * (dig2 n + 4294967296 * dig3 n)) := by
  unfold dig0 dig1 dig2 dig3; omega

/-- what an addition of signed numbers comes to -/
def addW (s : Bool) (n : Int) (t : Bool) (m : Int) : Bool × Int := if s = t then (s, n + m) else if n < m then (t, m - n) else (s, n - m)
/-- the number that a wide one is -/
def valW (s : Bool) (n : Int) : Int := if s then -n else n
theorem valW_add (s : Bool) (n : Int) (t : Bool) (m : Int) : valW (addW s n t m).1 (addW s n t m).2 = valW s n + valW t m := by
  unfold addW valW
  by_cases c : n < m
  · cases s <;> cases t <;> simp [c] <;> omega
  · cases s <;> cases t <;> simp [c] <;> omega

/-- a bit more, where it does not carry -/
theorem bit_more {X p q t : Int} (hp : 0 < p) (hq : 0 < q) (hB : 2 * p * q = 4294967296) (hX : X = 2 * p * t) (ht : 0 ≤ t) :
    (X + p) % 4294967296 = X % 4294967296 + p ∧ (X + p) / 4294967296 = X / 4294967296 := by
  have e1 : X = 4294967296 * (t / q) + 2 * p * (t % q) := by
    have := Int.mul_ediv_add_emod t q
    rw [hX, ← hB]
    generalize t / q = u at *
    generalize t % q = v at *
    rw [← this, Int.mul_add, Int.mul_assoc (2 * p)]
  have m0 := Int.emod_nonneg t (b := q) (by omega)
  have m1 := Int.emod_lt_of_pos t hq
  have b0 : 0 ≤ 2 * p * (t % q) := Int.mul_nonneg (by omega) m0
  have b1 : 2 * p * (t % q) ≤ 4294967296 - 2 * p := by
    have := Int.mul_le_mul_of_nonneg_left (a := t % q) (b := q - 1) (c := 2 * p) (by omega) (by omega)
    rw [Int.mul_sub, hB] at this
    omega
  omega

/-- one bit of a long division -/
theorem bit_div {n Q c r P : Int} (hP : 0 < P) (h : n = Q * c + r * (2 * P) + n % (2 * P)) :
    n = Q * c + (2 * r + n / P % 2) * P + n % P ∧ n = (Q + P) * c + (2 * r + n / P % 2 - c) * P + n % P := by
  have e1 := Int.mul_ediv_add_emod n P
  have e2 := Int.mul_ediv_add_emod (n / P) 2
  have m0 := Int.emod_nonneg n (b := P) (by omega)
  have m1 := Int.emod_lt_of_pos n hP
  have e3 : n % (2 * P) = P * (n / P % 2) + n % P := by
    have k : n = P * (n / P % 2) + n % P + (2 * P) * (n / P / 2) := by
      have : P * (2 * (n / P / 2) + n / P % 2) + n % P = n := by rw [e2]; exact e1
      rw [Int.mul_add, ← Int.mul_assoc, Int.mul_comm P 2] at this
      omega
    have b : 0 ≤ P * (n / P % 2) + n % P ∧ P * (n / P % 2) + n % P < 2 * P := by
      have : n / P % 2 = 0 ∨ n / P % 2 = 1 := by omega
      rcases this with g | g <;> rw [g] <;> omega
    have := Int.emod_emod_of_dvd n (Int.dvd_refl (2 * P))
    calc n % (2 * P) = (P * (n / P % 2) + n % P + (2 * P) * (n / P / 2)) % (2 * P) := by rw [← k]
      _ = (P * (n / P % 2) + n % P) % (2 * P) := Int.add_mul_emod_self_left _ _ _
      _ = P * (n / P % 2) + n % P := Int.emod_eq_of_lt b.1 b.2
  rw [e3] at h
  have a1 : n = Q * c + (2 * r + n / P % 2) * P + n % P := by
    rw [Int.add_mul (2 * r), Int.mul_comm (n / P % 2) P, Int.mul_right_comm 2 r P]
    rw [Int.mul_comm r (2 * P)] at h
    omega
  refine ⟨a1, ?_⟩
  rw [Int.add_mul Q, Int.sub_mul, Int.mul_comm P c]
  omega
end Go.Proofs.Ytcjkofgbijdkcaa
