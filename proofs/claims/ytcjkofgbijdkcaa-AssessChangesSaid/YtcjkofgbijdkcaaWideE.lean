/- Plain numbers: a long division, bit by bit, over four digits of base 2^32. No program in sight. -/
import Derived.WalkKit
import Derived.Lib.Hide
import Derived.Test.YtcjkofgbijdkcaaWideM
namespace Go.Proofs.Ytcjkofgbijdkcaa
open Go.RowKit

theorem pow_cut (s : Nat) (h : s ≤ 31) : ∃ p q : Int, (2 : Int) ^ s = p ∧ 1 ≤ p ∧ p ≤ 2147483648 ∧ 1 ≤ q ∧ 2 * p * q = 4294967296 := by
  refine ⟨2 ^ s, 2 ^ (31 - s), rfl, ?_, ?_, ?_, ?_⟩
  · have : (0 : Int) < 2 ^ s := Int.pow_pos (by omega)
    omega
  · have e : (2 : Int) ^ s * 2 ^ (31 - s) = 2147483648 := by rw [← Int.pow_add, show s + (31 - s) = 31 from by omega]; rfl
    have a : (0 : Int) < 2 ^ s := Int.pow_pos (by omega)
    have b : (0 : Int) < 2 ^ (31 - s) := Int.pow_pos (by omega)
    have := Int.mul_le_mul_of_nonneg_left (a := 1) (b := 2 ^ (31 - s)) (c := 2 ^ s) (by omega) (by omega)
    omega
  · have b : (0 : Int) < 2 ^ (31 - s) := Int.pow_pos (by omega)
    omega
  · have e : (2 : Int) ^ s * 2 ^ (31 - s) = 2147483648 := by rw [← Int.pow_add, show s + (31 - s) = 31 from by omega]; rfl
    rw [Int.mul_assoc, e]; rfl

theorem ediv_two {a b c : Int} (hb : 0 ≤ b) : a / b / c = a / (b * c) := by
  rw [Int.ediv_ediv, if_neg (by omega)]; omega

/-- what a long division has done when the bits from i + 1 on are through -/
def DivInv (n c i r Q : Int) : Prop := ∃ (P t : Int), P = 2 ^ (i + 1).toNat ∧ n = Q * c + r * P + n % P ∧ Q = P * t ∧ 0 ≤ t ∧ 0 ≤ Q

theorem divInv_start {n c : Int} (n0 : 0 ≤ n) (n1 : n < 340282366920938463463374607431768211456) : DivInv n c 127 0 0 := by
  refine ⟨340282366920938463463374607431768211456, 0, by decide, ?_, by omega, by omega, by omega⟩
  rw [Int.emod_eq_of_lt n0 n1]; omega

theorem divInv_end {n c r Q : Int} (c0 : 1 ≤ c) (r0 : 0 ≤ r) (r1 : r < c) (h : DivInv n c (-1) r Q) : Q = n / c ∧ r = n % c := by
  obtain ⟨P, t, hP, hn, _, _, _⟩ := h
  have hP1 : P = 1 := by rw [hP]; rfl
  subst hP1
  have e : n = r + Q * c := by rw [Int.emod_one] at hn; omega
  constructor
  · rw [e, Int.add_mul_ediv_right _ _ (by omega), Int.ediv_eq_zero_of_lt r0 r1]; omega
  · rw [e, Int.add_mul_emod_self_right, Int.emod_eq_of_lt r0 r1]

theorem div_step {n c i r Q P b : Int} (c0 : 1 ≤ c) (i0 : 0 ≤ i) (hP : P = 2 ^ i.toNat) (hb : n / P % 2 = b) (r0 : 0 ≤ r) (h : DivInv n c i r Q) :
    DivInv n c (i - 1) (2 * r + b) Q ∧ (c ≤ 2 * r + b → DivInv n c (i - 1) (2 * r + b - c) (Q + P)) := by
  obtain ⟨P2, t, hP2, hn, hQ, ht, hQ0⟩ := h
  have pp : 0 < P := by rw [hP]; exact Int.pow_pos (by omega)
  have e2 : P2 = 2 * P := by
    rw [hP2, hP, show (i + 1).toNat = i.toNat + 1 from by omega, Int.pow_succ, Int.mul_comm]
  subst e2
  obtain ⟨k1, k2⟩ := bit_div pp hn
  rw [hb] at k1 k2
  have ei : (2 : Int) ^ (i - 1 + 1).toNat = P := by rw [hP]; congr 1; omega
  refine ⟨⟨P, 2 * t, ei.symm, k1, ?_, by omega, hQ0⟩, fun hc => ⟨P, 2 * t + 1, ei.symm, k2, ?_, by omega, by omega⟩⟩
  · rw [hQ, Int.mul_comm 2 P, Int.mul_assoc]
  · rw [hQ, Int.mul_add, Int.mul_comm 2 P, Int.mul_assoc, Int.mul_one]

theorem bit_at {n p q : Int} (hp : 1 ≤ p) (hq : 1 ≤ q) (hB : 2 * p * q = 4294967296) : n % 4294967296 / p % 2 = n / p % 2 := by
  have e := Int.mul_ediv_add_emod n 4294967296
  generalize n / 4294967296 = u at *
  generalize n % 4294967296 = v at *
  have : n / p = v / p + 2 * q * u := by
    rw [← e, ← hB, show 2 * p * q * u + v = v + p * (2 * q * u) from by rw [Int.mul_comm 2 p, Int.mul_assoc p 2 q, Int.mul_assoc p]; omega, Int.add_mul_ediv_left _ _ (by omega)]
  rw [this, Int.mul_assoc]
  omega

theorem dig_up {X : Int} : dig0 (4294967296 * X) = 0 ∧ dig1 (4294967296 * X) = dig0 X ∧ dig2 (4294967296 * X) = dig1 X ∧ dig3 (4294967296 * X) = dig2 X := by
  unfold dig0 dig1 dig2 dig3; omega

theorem dig_bit0 {X p q t : Int} (hp : 1 ≤ p) (hq : 1 ≤ q) (hB : 2 * p * q = 4294967296) (hX : X = 2 * p * t) (ht : 0 ≤ t) :
    dig0 (X + p) = dig0 X + p ∧ dig1 (X + p) = dig1 X ∧ dig2 (X + p) = dig2 X ∧ dig3 (X + p) = dig3 X := by
  obtain ⟨h1, h2⟩ := bit_more (by omega) (by omega) hB hX ht
  unfold dig0 dig1 dig2 dig3
  rw [h1, h2]
  exact ⟨rfl, rfl, rfl, rfl⟩
theorem dig_bit1 {X p q t : Int} (hp : 1 ≤ p) (hq : 1 ≤ q) (hB : 2 * p * q = 4294967296) (hX : X = 2 * (4294967296 * p) * t) (ht : 0 ≤ t) :
    dig0 (X + 4294967296 * p) = dig0 X ∧ dig1 (X + 4294967296 * p) = dig1 X + p ∧ dig2 (X + 4294967296 * p) = dig2 X ∧ dig3 (X + 4294967296 * p) = dig3 X := by
  obtain ⟨Y, hY⟩ : ∃ Y, Y = 2 * p * t := ⟨_, rfl⟩
  have e : X = 4294967296 * Y := by rw [hX, hY, Int.mul_left_comm 2 4294967296 p, Int.mul_assoc 4294967296]
  obtain ⟨a0, a1, a2, a3⟩ := dig_bit0 hp hq hB hY ht
  obtain ⟨b0, b1, b2, b3⟩ := dig_up (X := Y)
  obtain ⟨c0, c1, c2, c3⟩ := dig_up (X := Y + p)
  rw [e, show 4294967296 * Y + 4294967296 * p = 4294967296 * (Y + p) from by omega, b0, b1, b2, b3, c0, c1, c2, c3]
  exact ⟨rfl, a0, a1, a2⟩
theorem dig_bit2 {X p q t : Int} (hp : 1 ≤ p) (hq : 1 ≤ q) (hB : 2 * p * q = 4294967296) (hX : X = 2 * (18446744073709551616 * p) * t) (ht : 0 ≤ t) :
    dig0 (X + 18446744073709551616 * p) = dig0 X ∧ dig1 (X + 18446744073709551616 * p) = dig1 X ∧ dig2 (X + 18446744073709551616 * p) = dig2 X + p ∧ dig3 (X + 18446744073709551616 * p) = dig3 X := by
  obtain ⟨Y, hY⟩ : ∃ Y, Y = 2 * (4294967296 * p) * t := ⟨_, rfl⟩
  have e : X = 4294967296 * Y := by
    rw [hX, hY, Int.mul_left_comm 2 18446744073709551616 p, Int.mul_left_comm 2 4294967296 p, Int.mul_assoc 18446744073709551616, Int.mul_assoc 4294967296]; omega
  obtain ⟨a0, a1, a2, a3⟩ := dig_bit1 hp hq hB hY ht
  obtain ⟨b0, b1, b2, b3⟩ := dig_up (X := Y)
  obtain ⟨c0, c1, c2, c3⟩ := dig_up (X := Y + 4294967296 * p)
  rw [e, show 4294967296 * Y + 18446744073709551616 * p = 4294967296 * (Y + 4294967296 * p) from by omega, b0, b1, b2, b3, c0, c1, c2, c3]
  exact ⟨rfl, a0, a1, a2⟩
theorem dig_bit3 {X p q t : Int} (hp : 1 ≤ p) (hq : 1 ≤ q) (hB : 2 * p * q = 4294967296) (hX : X = 2 * (79228162514264337593543950336 * p) * t) (ht : 0 ≤ t) :
    dig0 (X + 79228162514264337593543950336 * p) = dig0 X ∧ dig1 (X + 79228162514264337593543950336 * p) = dig1 X ∧ dig2 (X + 79228162514264337593543950336 * p) = dig2 X ∧ dig3 (X + 79228162514264337593543950336 * p) = dig3 X + p := by
  obtain ⟨Y, hY⟩ : ∃ Y, Y = 2 * (18446744073709551616 * p) * t := ⟨_, rfl⟩
  have e : X = 4294967296 * Y := by
    rw [hX, hY, Int.mul_left_comm 2 79228162514264337593543950336 p, Int.mul_left_comm 2 18446744073709551616 p, Int.mul_assoc 79228162514264337593543950336, Int.mul_assoc 18446744073709551616]; omega
  obtain ⟨a0, a1, a2, a3⟩ := dig_bit2 hp hq hB hY ht
  obtain ⟨b0, b1, b2, b3⟩ := dig_up (X := Y)
  obtain ⟨c0, c1, c2, c3⟩ := dig_up (X := Y + 18446744073709551616 * p)
  rw [e, show 4294967296 * Y + 79228162514264337593543950336 * p = 4294967296 * (Y + 18446744073709551616 * p) from by omega, b0, b1, b2, b3, c0, c1, c2, c3]
  exact ⟨rfl, a0, a1, a2⟩

theorem div_word0 {n c r Q : Int} {s : Nat} (c0 : 1 ≤ c) (hs : s ≤ 31) (r0 : 0 ≤ r) (h : DivInv n c ((s : Int)) r Q) :
    DivInv n c ((s : Int) - 1) (2 * r + dig0 n / 2 ^ s % 2) Q ∧
    (c ≤ 2 * r + dig0 n / 2 ^ s % 2 → DivInv n c ((s : Int) - 1) (2 * r + dig0 n / 2 ^ s % 2 - c) (Q + 2 ^ s) ∧
      dig0 (Q + 2 ^ s) = dig0 Q + 2 ^ s ∧ dig1 (Q + 2 ^ s) = dig1 Q ∧ dig2 (Q + 2 ^ s) = dig2 Q ∧ dig3 (Q + 2 ^ s) = dig3 Q) := by
  obtain ⟨p, q, hp, p1, p2, q1, hB⟩ := pow_cut s hs
  have hP : (2 ^ s : Int) = 2 ^ ((s : Int)).toNat := by
    rw [show ((s : Int)).toNat = 0 + s from by omega, Int.pow_add]; simp
  have hb : n / (2 ^ s) % 2 = dig0 n / 2 ^ s % 2 := by
    unfold dig0
    rw [hp, bit_at p1 q1 hB]
  obtain ⟨h1, h2⟩ := div_step c0 (by omega) hP hb r0 h
  refine ⟨h1, fun hc => ⟨h2 hc, ?_⟩⟩
  obtain ⟨P2, t, hP2, hn, hQ, ht, hQ0⟩ := h
  rw [show ((s : Int) + 1).toNat = ((s : Int)).toNat + 1 from by omega, Int.pow_succ, ← hP, Int.mul_comm] at hP2
  rw [hP2] at hQ
  rw [hp] at hQ ⊢
  exact dig_bit0 p1 q1 hB hQ ht

theorem div_word1 {n c r Q : Int} {s : Nat} (c0 : 1 ≤ c) (hs : s ≤ 31) (r0 : 0 ≤ r) (h : DivInv n c (32 + (s : Int)) r Q) :
    DivInv n c (32 + (s : Int) - 1) (2 * r + dig1 n / 2 ^ s % 2) Q ∧
    (c ≤ 2 * r + dig1 n / 2 ^ s % 2 → DivInv n c (32 + (s : Int) - 1) (2 * r + dig1 n / 2 ^ s % 2 - c) (Q + 4294967296 * 2 ^ s) ∧
      dig0 (Q + 4294967296 * 2 ^ s) = dig0 Q ∧ dig1 (Q + 4294967296 * 2 ^ s) = dig1 Q + 2 ^ s ∧ dig2 (Q + 4294967296 * 2 ^ s) = dig2 Q ∧ dig3 (Q + 4294967296 * 2 ^ s) = dig3 Q) := by
  obtain ⟨p, q, hp, p1, p2, q1, hB⟩ := pow_cut s hs
  have hP : (4294967296 * 2 ^ s : Int) = 2 ^ (32 + (s : Int)).toNat := by
    rw [show (32 + (s : Int)).toNat = 32 + s from by omega, Int.pow_add]; rfl
  have hb : n / (4294967296 * 2 ^ s) % 2 = dig1 n / 2 ^ s % 2 := by
    unfold dig1
    rw [hp, bit_at p1 q1 hB]
    congr 1
    rw [← ediv_two (a := n) (b := 4294967296) (c := p) (by omega)]
  obtain ⟨h1, h2⟩ := div_step c0 (by omega) hP hb r0 h
  refine ⟨h1, fun hc => ⟨h2 hc, ?_⟩⟩
  obtain ⟨P2, t, hP2, hn, hQ, ht, hQ0⟩ := h
  rw [show (32 + (s : Int) + 1).toNat = (32 + (s : Int)).toNat + 1 from by omega, Int.pow_succ, ← hP, Int.mul_comm] at hP2
  rw [hP2] at hQ
  rw [hp] at hQ ⊢
  exact dig_bit1 p1 q1 hB hQ ht

theorem div_word2 {n c r Q : Int} {s : Nat} (c0 : 1 ≤ c) (hs : s ≤ 31) (r0 : 0 ≤ r) (h : DivInv n c (64 + (s : Int)) r Q) :
    DivInv n c (64 + (s : Int) - 1) (2 * r + dig2 n / 2 ^ s % 2) Q ∧
    (c ≤ 2 * r + dig2 n / 2 ^ s % 2 → DivInv n c (64 + (s : Int) - 1) (2 * r + dig2 n / 2 ^ s % 2 - c) (Q + 18446744073709551616 * 2 ^ s) ∧
      dig0 (Q + 18446744073709551616 * 2 ^ s) = dig0 Q ∧ dig1 (Q + 18446744073709551616 * 2 ^ s) = dig1 Q ∧ dig2 (Q + 18446744073709551616 * 2 ^ s) = dig2 Q + 2 ^ s ∧ dig3 (Q + 18446744073709551616 * 2 ^ s) = dig3 Q) := by
  obtain ⟨p, q, hp, p1, p2, q1, hB⟩ := pow_cut s hs
  have hP : (18446744073709551616 * 2 ^ s : Int) = 2 ^ (64 + (s : Int)).toNat := by
    rw [show (64 + (s : Int)).toNat = 64 + s from by omega, Int.pow_add]; rfl
  have hb : n / (18446744073709551616 * 2 ^ s) % 2 = dig2 n / 2 ^ s % 2 := by
    unfold dig2
    rw [hp, bit_at p1 q1 hB]
    congr 1
    rw [← ediv_two (a := n) (b := 18446744073709551616) (c := p) (by omega)]
    congr 1
    omega
  obtain ⟨h1, h2⟩ := div_step c0 (by omega) hP hb r0 h
  refine ⟨h1, fun hc => ⟨h2 hc, ?_⟩⟩
  obtain ⟨P2, t, hP2, hn, hQ, ht, hQ0⟩ := h
  rw [show (64 + (s : Int) + 1).toNat = (64 + (s : Int)).toNat + 1 from by omega, Int.pow_succ, ← hP, Int.mul_comm] at hP2
  rw [hP2] at hQ
  rw [hp] at hQ ⊢
  exact dig_bit2 p1 q1 hB hQ ht

theorem div_word3 {n c r Q : Int} {s : Nat} (c0 : 1 ≤ c) (hs : s ≤ 31) (r0 : 0 ≤ r) (h : DivInv n c (96 + (s : Int)) r Q) :
    DivInv n c (96 + (s : Int) - 1) (2 * r + dig3 n / 2 ^ s % 2) Q ∧
    (c ≤ 2 * r + dig3 n / 2 ^ s % 2 → DivInv n c (96 + (s : Int) - 1) (2 * r + dig3 n / 2 ^ s % 2 - c) (Q + 79228162514264337593543950336 * 2 ^ s) ∧
      dig0 (Q + 79228162514264337593543950336 * 2 ^ s) = dig0 Q ∧ dig1 (Q + 79228162514264337593543950336 * 2 ^ s) = dig1 Q ∧ dig2 (Q + 79228162514264337593543950336 * 2 ^ s) = dig2 Q ∧ dig3 (Q + 79228162514264337593543950336 * 2 ^ s) = dig3 Q + 2 ^ s) := by
  obtain ⟨p, q, hp, p1, p2, q1, hB⟩ := pow_cut s hs
  have hP : (79228162514264337593543950336 * 2 ^ s : Int) = 2 ^ (96 + (s : Int)).toNat := by
    rw [show (96 + (s : Int)).toNat = 96 + s from by omega, Int.pow_add]; rfl
  have hb : n / (79228162514264337593543950336 * 2 ^ s) % 2 = dig3 n / 2 ^ s % 2 := by
    unfold dig3
    rw [hp, bit_at p1 q1 hB]
    congr 1
    rw [← ediv_two (a := n) (b := 79228162514264337593543950336) (c := p) (by omega)]
    congr 1
    omega
  obtain ⟨h1, h2⟩ := div_step c0 (by omega) hP hb r0 h
  refine ⟨h1, fun hc => ⟨h2 hc, ?_⟩⟩
  obtain ⟨P2, t, hP2, hn, hQ, ht, hQ0⟩ := h
  rw [show (96 + (s : Int) + 1).toNat = (96 + (s : Int)).toNat + 1 from by omega, Int.pow_succ, ← hP, Int.mul_comm] at hP2
  rw [hP2] at hQ
  rw [hp] at hQ ⊢
  exact dig_bit3 p1 q1 hB hQ ht

/-- a division's answer: the quotient, rounded down, with its sign; the rest -/
def divW (s : Bool) (n c : Int) : (Bool × Int) × Int := if s && decide (0 < n % c) then ((true, n / c + 1), c - n % c) else ((s, n / c), n % c)
theorem divW_val {s : Bool} {n c : Int} (c0 : 1 ≤ c) : valW (divW s n c).1.1 (divW s n c).1.2 = valW s n / c ∧ (divW s n c).2 = valW s n % c := by
  have e := Int.mul_ediv_add_emod n c
  have r0 := Int.emod_nonneg n (b := c) (by omega)
  have r1 := Int.emod_lt_of_pos n (b := c) (by omega)
  unfold divW valW
  cases s
  · simp
  · have key : ∀ q r : Int, -n = q * c + r → 0 ≤ r → r < c → -n / c = q ∧ -n % c = r := fun q r h h0 h1 =>
      ⟨by rw [h, Int.add_comm, Int.add_mul_ediv_right _ _ (by omega), Int.ediv_eq_zero_of_lt h0 h1]; omega, by rw [h, Int.add_comm, Int.add_mul_emod_self_right, Int.emod_eq_of_lt h0 h1]⟩
    by_cases h : 0 < n % c
    · obtain ⟨k1, k2⟩ := key (-(n / c + 1)) (c - n % c) (by rw [Int.neg_mul, Int.add_mul, Int.mul_comm (n / c)]; omega) (by omega) (by omega)
      simp [h, k1, k2]
    · obtain ⟨k1, k2⟩ := key (-(n / c)) (n % c) (by rw [Int.neg_mul, Int.mul_comm (n / c)]; omega) r0 r1
      simp [h, k1, k2]
end Go.Proofs.Ytcjkofgbijdkcaa
