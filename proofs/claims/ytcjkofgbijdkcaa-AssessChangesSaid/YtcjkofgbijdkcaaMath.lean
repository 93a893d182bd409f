/- Plain numbers: what the word-by-word division of 128 bits by 64 bits, and the product of two words, come to. No program in sight. -/
import Derived.WalkKit
import Derived.Lib.Hide
import Derived.Lib.BitFns
namespace Go.Proofs.Ytcjkofgbijdkcaa
open Go.RowKit

theorem and32 {x : Int} (h0 : 0 ≤ x) (h1 : x < 18446744073709551616) : bits .and .u64 x 4294967295 = x % 4294967296 := by
  have h := bits_mask .u64 64 (by decide) (fun n a b => by rw [IntKind.wrap_u64]; simp at b; omega) 32 (by decide) x h0 (by simpa using h1)
  simpa using h

theorem mul_bd {a b A B : Int} (ha : 0 ≤ a) (hb : 0 ≤ b) (hA : a ≤ A) (hB : b ≤ B) : 0 ≤ a * b ∧ a * b ≤ A * B :=
  ⟨Int.mul_nonneg ha hb, Int.mul_le_mul hA hB hb (by omega)⟩

/-- the high word of a product, as the library reckons it -/
def mulHi (a b : Int) : Int :=
  IntKind.u64.wrap (IntKind.u64.wrap (IntKind.u64.wrap (a / 4294967296 * (b / 4294967296)) +
      IntKind.u64.wrap (IntKind.u64.wrap (a / 4294967296 * bits BinOp.and IntKind.u64 b 4294967295) +
        IntKind.u64.wrap (bits BinOp.and IntKind.u64 a 4294967295 * bits BinOp.and IntKind.u64 b 4294967295) / 4294967296) / 4294967296) +
    IntKind.u64.wrap (bits BinOp.and IntKind.u64 (IntKind.u64.wrap (IntKind.u64.wrap (a / 4294967296 * bits BinOp.and IntKind.u64 b 4294967295) +
        IntKind.u64.wrap (bits BinOp.and IntKind.u64 a 4294967295 * bits BinOp.and IntKind.u64 b 4294967295) / 4294967296)) 4294967295 +
      IntKind.u64.wrap (bits BinOp.and IntKind.u64 a 4294967295 * (b / 4294967296))) / 4294967296)

theorem mulHi_eq {a b : Int} (a0 : 0 ≤ a) (a1 : a ≤ 18446744073709551615) (b0 : 0 ≤ b) (b1 : b ≤ 18446744073709551615) : mulHi a b = a * b / 18446744073709551616 := by
  unfold mulHi
  rw [and32 a0 (by omega), and32 b0 (by omega)]
  simp only [IntKind.wrap_u64]
  obtain ⟨x1, hx1⟩ : ∃ x, x = a / 4294967296 := ⟨_, rfl⟩
  obtain ⟨x0, hx0⟩ : ∃ x, x = a % 4294967296 := ⟨_, rfl⟩
  obtain ⟨y1, hy1⟩ : ∃ x, x = b / 4294967296 := ⟨_, rfl⟩
  obtain ⟨y0, hy0⟩ : ∃ x, x = b % 4294967296 := ⟨_, rfl⟩
  have ea : a = x1 * 4294967296 + x0 := by omega
  have eb : b = y1 * 4294967296 + y0 := by omega
  rw [← hx1, ← hx0, ← hy1, ← hy0]
  have m11 := mul_bd (a := x1) (b := y1) (A := 4294967295) (B := 4294967295) (by omega) (by omega) (by omega) (by omega)
  have m10 := mul_bd (a := x1) (b := y0) (A := 4294967295) (B := 4294967295) (by omega) (by omega) (by omega) (by omega)
  have m01 := mul_bd (a := x0) (b := y1) (A := 4294967295) (B := 4294967295) (by omega) (by omega) (by omega) (by omega)
  have m00 := mul_bd (a := x0) (b := y0) (A := 4294967295) (B := 4294967295) (by omega) (by omega) (by omega) (by omega)
  have e : a * b = x1 * y1 * 18446744073709551616 + x1 * y0 * 4294967296 + x0 * y1 * 4294967296 + x0 * y0 := by
    rw [ea, eb]
    simp only [Int.add_mul, Int.mul_add]
    have e1 : x1 * 4294967296 * (y1 * 4294967296) = x1 * y1 * 18446744073709551616 := by
      rw [Int.mul_assoc, Int.mul_left_comm 4294967296 y1, ← Int.mul_assoc]; rfl
    have e2 : x1 * 4294967296 * y0 = x1 * y0 * 4294967296 := by rw [Int.mul_right_comm]
    have e3 : x0 * (y1 * 4294967296) = x0 * y1 * 4294967296 := by rw [Int.mul_assoc]
    rw [e1, e2, e3]; omega
  rw [e]
  generalize x1 * y1 = p at *
  generalize x1 * y0 = q at *
  generalize x0 * y1 = r at *
  generalize x0 * y0 = t at *
  rw [Int.emod_eq_of_lt (a := t) (by omega) (by omega), Int.emod_eq_of_lt (a := q) (by omega) (by omega), Int.emod_eq_of_lt (a := r) (by omega) (by omega), Int.emod_eq_of_lt (a := p) (by omega) (by omega)]
  rw [Int.emod_eq_of_lt (a := q + t / 4294967296) (by omega) (by omega), and32 (by omega) (by omega)]
  omega

/-- one digit of a division: q is no less than the true one, and it is told when it is not the true one -/
theorem digit_step {n y1 y0 u1 q r : Int} (a1 : 2147483648 ≤ y1) (a2 : y1 ≤ 4294967295) (b1 : 0 ≤ y0) (b2 : y0 ≤ 4294967295) (c1 : 0 ≤ u1) (c2 : u1 ≤ 4294967295)
    (hn : 0 ≤ n) (hlt : n < y1 * 4294967296 + y0) (hq : q * y1 + r = n) (hr : 0 ≤ r)
    (hQ : (n * 4294967296 + u1) / (y1 * 4294967296 + y0) ≤ q) (ht : 4294967296 ≤ q ∨ 4294967296 * r + u1 < q * y0) :
    1 ≤ q ∧ (q - 1) * y1 + (r + y1) = n ∧ (n * 4294967296 + u1) / (y1 * 4294967296 + y0) ≤ q - 1 ∧
      (4294967296 ≤ r + y1 → q - 1 = (n * 4294967296 + u1) / (y1 * 4294967296 + y0)) := by
  obtain ⟨Y, hY⟩ : ∃ Y, Y = y1 * 4294967296 + y0 := ⟨_, rfl⟩
  rw [← hY] at hQ hlt ⊢
  have hYp : 0 < Y := by omega
  have hqY : q * Y = q * y1 * 4294967296 + q * y0 := by rw [hY, Int.mul_add, Int.mul_assoc]
  have hN : n * 4294967296 + u1 = q * y1 * 4294967296 + r * 4294967296 + u1 := by rw [← hq]; omega
  have k1 : (n * 4294967296 + u1) / Y < q := by
    rcases ht with ht | ht
    · have : (n * 4294967296 + u1) / Y < 4294967296 := by
        apply Int.ediv_lt_of_lt_mul hYp; omega
      omega
    · apply Int.ediv_lt_of_lt_mul hYp
      rw [hqY, hN]; omega
  have k0 : 0 ≤ (n * 4294967296 + u1) / Y := Int.ediv_nonneg (by omega) (by omega)
  have e1 : (q - 1) * y1 + (r + y1) = n := by rw [Int.sub_mul]; omega
  refine ⟨by omega, e1, by omega, fun hB => ?_⟩
  have hle : q - 1 ≤ 4294967296 := by
    by_cases hc : q - 1 ≤ 4294967296
    · exact hc
    · exfalso
      have := Int.mul_le_mul_of_nonneg_right (a := 4294967296) (b := q - 1) (c := y1) (by omega) (by omega)
      omega
  have hle2 : (q - 1) * y0 ≤ 4294967296 * 4294967295 := (mul_bd (by omega) (by omega) hle b2).2
  have : q - 1 ≤ (n * 4294967296 + u1) / Y := by
    apply (Int.le_ediv_iff_mul_le hYp).2
    have : (q - 1) * Y = (q - 1) * y1 * 4294967296 + (q - 1) * y0 := by rw [hY, Int.mul_add, Int.mul_assoc]
    rw [this]; omega
  omega

theorem digit_done {n y1 y0 u1 q r : Int} (a1 : 2147483648 ≤ y1) (b1 : 0 ≤ y0) (hq : q * y1 + r = n)
    (hQ : (n * 4294967296 + u1) / (y1 * 4294967296 + y0) ≤ q) (ht : q * y0 ≤ 4294967296 * r + u1) :
    q = (n * 4294967296 + u1) / (y1 * 4294967296 + y0) := by
  have : q ≤ (n * 4294967296 + u1) / (y1 * 4294967296 + y0) := by
    apply (Int.le_ediv_iff_mul_le (by omega)).2
    rw [Int.mul_add, ← Int.mul_assoc, ← hq]; omega
  omega

theorem digit_start {n y1 y0 u1 : Int} (a1 : 2147483648 ≤ y1) (b1 : 0 ≤ y0) (b2 : y0 ≤ 4294967295) (c1 : 0 ≤ u1) (c2 : u1 ≤ 4294967295) (hn : 0 ≤ n) :
    n / y1 * y1 + n % y1 = n ∧ (n * 4294967296 + u1) / (y1 * 4294967296 + y0) ≤ n / y1 := by
  refine ⟨by have := Int.mul_ediv_add_emod n y1; rw [Int.mul_comm]; exact this, ?_⟩
  have h1 : n < (n / y1 + 1) * y1 := Int.lt_ediv_add_one_mul_self n (by omega)
  have h0 : 0 ≤ n / y1 := Int.ediv_nonneg hn (by omega)
  have : (n * 4294967296 + u1) / (y1 * 4294967296 + y0) < n / y1 + 1 := by
    apply Int.ediv_lt_of_lt_mul (by omega)
    rw [Int.mul_add, ← Int.mul_assoc]
    have := Int.mul_nonneg (a := n / y1 + 1) (b := y0) (by omega) b1
    omega
  omega

theorem digit_rest {n y1 y0 u1 : Int} (hy : 0 < y1 * 4294967296 + y0) (hn : 0 ≤ n) (hlt : n < y1 * 4294967296 + y0) (c1 : 0 ≤ u1) (c2 : u1 ≤ 4294967295) :
    0 ≤ (n * 4294967296 + u1) / (y1 * 4294967296 + y0) ∧ (n * 4294967296 + u1) / (y1 * 4294967296 + y0) ≤ 4294967295 ∧
      0 ≤ n * 4294967296 + u1 - (n * 4294967296 + u1) / (y1 * 4294967296 + y0) * (y1 * 4294967296 + y0) ∧
      n * 4294967296 + u1 - (n * 4294967296 + u1) / (y1 * 4294967296 + y0) * (y1 * 4294967296 + y0) < y1 * 4294967296 + y0 := by
  generalize y1 * 4294967296 + y0 = Y at *
  have h0 : 0 ≤ (n * 4294967296 + u1) / Y := Int.ediv_nonneg (by omega) (by omega)
  have h1 : (n * 4294967296 + u1) / Y < 4294967296 := by apply Int.ediv_lt_of_lt_mul hy; omega
  have e := Int.mul_ediv_add_emod (n * 4294967296 + u1) Y
  have h2 := Int.emod_nonneg (n * 4294967296 + u1) (b := Y) (by omega)
  have h3 := Int.emod_lt_of_pos (n * 4294967296 + u1) hy
  rw [Int.mul_comm] at e
  exact ⟨h0, by omega, by omega, by omega⟩
theorem bitLenAux_bd : ∀ (f x : Nat), x < 2 ^ f → x < 2 ^ Lib.bitLenAux f x ∧ (x ≠ 0 → 2 ^ Lib.bitLenAux f x ≤ 2 * x)
  | 0, x, h => by simp at h; subst h; simp [Lib.bitLenAux]
  | f + 1, x, h => by
    unfold Lib.bitLenAux
    by_cases hx : x = 0
    · subst hx; simp
    · rw [if_neg hx]
      obtain ⟨h1, h2⟩ := bitLenAux_bd f (x / 2) (by rw [Nat.pow_succ] at h; omega)
      rw [Nat.add_comm 1, Nat.pow_succ]
      refine ⟨by omega, fun _ => ?_⟩
      by_cases h0 : x / 2 = 0
      · rw [h0]
        have e0 : Lib.bitLenAux f 0 = 0 := by cases f <;> simp [Lib.bitLenAux]
        rw [e0]; omega
      · have := h2 h0; omega

/-- a divisor's leading zeros: shifted by them it fills the word -/
theorem lead_bd {y : Int} (h0 : 1 ≤ y) (h1 : y ≤ 4611686018427387904) : ∃ s : Nat, (64 - (Lib.bitLen y.toNat : Int)) = s ∧ 1 ≤ s ∧ s ≤ 63 ∧ 9223372036854775808 ≤ y * 2 ^ s ∧ y * 2 ^ s < 18446744073709551616 := by
  obtain ⟨a, b⟩ := bitLenAux_bd 64 y.toNat (by omega)
  have b := b (by omega)
  change y.toNat < 2 ^ Lib.bitLen y.toNat at a
  change 2 ^ Lib.bitLen y.toNat ≤ 2 * y.toNat at b
  generalize Lib.bitLen y.toNat = l at *
  have hl1 : l ≤ 63 := by
    rcases Nat.lt_or_ge l 64 with h | h
    · omega
    · have : 2 ^ 64 ≤ 2 ^ l := Nat.pow_le_pow_right (by omega) h
      omega
  have hl0 : 1 ≤ l := by
    rcases Nat.eq_zero_or_pos l with h | h
    · subst h; simp at a; omega
    · exact h
  refine ⟨64 - l, by omega, by omega, by omega, ?_⟩
  have e : (2 : Nat) ^ l * 2 ^ (64 - l) = 18446744073709551616 := by rw [← Nat.pow_add, show l + (64 - l) = 64 from by omega]
  have hp : 0 < (2 : Nat) ^ (64 - l) := Nat.pow_pos (by omega)
  have e1 : (y * 2 ^ (64 - l) : Int) = ((y.toNat * 2 ^ (64 - l) : Nat) : Int) := by
    rw [Int.natCast_mul, Int.toNat_of_nonneg (by omega), Int.natCast_pow]; rfl
  rw [e1]
  have g1 : y.toNat * 2 ^ (64 - l) < 2 ^ l * 2 ^ (64 - l) := Nat.mul_lt_mul_of_pos_right a hp
  have g2 : 2 ^ l * 2 ^ (64 - l) ≤ 2 * y.toNat * 2 ^ (64 - l) := Nat.mul_le_mul_right _ b
  rw [Nat.mul_assoc] at g2
  omega

/-- the dividend, shifted too -/
theorem div_prep {hi lo : Int} {s : Nat} (h0 : 0 ≤ hi) (h1 : 0 ≤ lo) (h2 : lo ≤ 18446744073709551615) (s0 : s ≤ 64) (hh : hi * 2 ^ s < 18446744073709551616) :
    0 ≤ bits BinOp.or IntKind.u64 (hi * 2 ^ s) (lo / 2 ^ (64 - s)) ∧
    bits BinOp.or IntKind.u64 (hi * 2 ^ s) (lo / 2 ^ (64 - s)) = hi * 2 ^ s + lo / 2 ^ (64 - s) ∧ lo / 2 ^ (64 - s) < 2 ^ s ∧
    0 ≤ IntKind.u64.wrap (lo * 2 ^ s) ∧ IntKind.u64.wrap (lo * 2 ^ s) < 18446744073709551616 ∧
    bits BinOp.or IntKind.u64 (hi * 2 ^ s) (lo / 2 ^ (64 - s)) * 18446744073709551616 + IntKind.u64.wrap (lo * 2 ^ s) = (hi * 18446744073709551616 + lo) * 2 ^ s := by
  have e : (2 : Int) ^ s * 2 ^ (64 - s) = 18446744073709551616 := by rw [← Int.pow_add, show s + (64 - s) = 64 from by omega]; rfl
  have pp : (0 : Int) < 2 ^ s := Int.pow_pos (by omega)
  have pq : (0 : Int) < 2 ^ (64 - s) := Int.pow_pos (by omega)
  have l1 : lo / 2 ^ (64 - s) < 2 ^ s := by apply Int.ediv_lt_of_lt_mul pq; omega
  have l0 : 0 ≤ lo / 2 ^ (64 - s) := Int.ediv_nonneg h1 (by omega)
  have hx : 0 ≤ hi * 2 ^ s := Int.mul_nonneg h0 (by omega)
  have j := bits_join .u64 64 (by decide) (fun n a b => by rw [IntKind.wrap_u64]; simp at b; omega) s (hi * 2 ^ s) (lo / 2 ^ (64 - s)) hx (Int.mul_emod_left _ _) (by simpa using hh) l0 l1
    (by have : (2 : Int) ^ s ≤ 18446744073709551616 := by
          have := Int.mul_le_mul_of_nonneg_left (a := 1) (b := 2 ^ (64 - s)) (c := 2 ^ s) (by omega) (by omega)
          omega
        simp; omega)
  rw [j, IntKind.wrap_u64]
  refine ⟨by omega, rfl, l1, by omega, by omega, ?_⟩
  have d := Int.mul_ediv_add_emod lo (2 ^ (64 - s))
  have m0 := Int.emod_nonneg lo (b := 2 ^ (64 - s)) (by omega)
  have m1 := Int.emod_lt_of_pos lo pq
  have ev : lo * 2 ^ s = (lo / 2 ^ (64 - s)) * 18446744073709551616 + (lo % 2 ^ (64 - s)) * 2 ^ s := by
    rw [← e]
    generalize lo / 2 ^ (64 - s) = u at *
    generalize lo % 2 ^ (64 - s) = v at *
    rw [← d, Int.add_mul, Int.mul_comm (2 ^ (64 - s)) u, Int.mul_assoc, Int.mul_comm (2 ^ (64 - s))]
  have r0 : 0 ≤ (lo % 2 ^ (64 - s)) * 2 ^ s := Int.mul_nonneg m0 (by omega)
  have r1 : (lo % 2 ^ (64 - s)) * 2 ^ s < 18446744073709551616 := by
    rw [← e, Int.mul_comm (2 ^ s)]
    exact Int.mul_lt_mul_of_pos_right m1 pp
  have eh : (hi * 18446744073709551616 + lo) * 2 ^ s = hi * 2 ^ s * 18446744073709551616 + lo * 2 ^ s := by rw [Int.add_mul, Int.mul_right_comm]
  rw [eh, ev]
  generalize (lo % 2 ^ (64 - s)) * 2 ^ s = v at *
  omega

theorem div_less {hi lo y : Int} {s : Nat} (h : hi < y) (hl : lo / 2 ^ (64 - s) < 2 ^ s) : hi * 2 ^ s + lo / 2 ^ (64 - s) < y * 2 ^ s := by
  have := Int.mul_le_mul_of_nonneg_right (a := hi + 1) (b := y) (c := 2 ^ s) (by omega) (Int.pow_nonneg (by omega))
  rw [Int.add_mul] at this
  omega

/-- the two digits, and what is left of it all -/
theorem div_fin {U y Y n u1 u0 q1 q0 : Int} {s : Nat} (hy : 1 ≤ y) (hY : y * 2 ^ s = Y) (hU : n * 18446744073709551616 + (u1 * 4294967296 + u0) = U * 2 ^ s)
    (r1 : 0 ≤ (n * 4294967296 + u1 - q1 * Y) * 4294967296 + u0 - q0 * Y) (r2 : (n * 4294967296 + u1 - q1 * Y) * 4294967296 + u0 - q0 * Y < Y) :
    q1 * 4294967296 + q0 = U / y ∧ ((n * 4294967296 + u1 - q1 * Y) * 4294967296 + u0 - q0 * Y) / 2 ^ s = U % y := by
  have pp : (0 : Int) < 2 ^ s := Int.pow_pos (by omega)
  have e : (n * 4294967296 + u1 - q1 * Y) * 4294967296 + u0 - q0 * Y = (U - (q1 * 4294967296 + q0) * y) * 2 ^ s := by
    rw [Int.sub_mul U, ← hU, Int.mul_assoc, hY, Int.add_mul (q1 * 4294967296), Int.mul_right_comm q1]; omega
  rw [e] at r1 r2 ⊢
  rw [← hY] at r2
  have t0 : 0 ≤ U - (q1 * 4294967296 + q0) * y := by
    rcases Int.lt_or_le (U - (q1 * 4294967296 + q0) * y) 0 with h | h
    · have := Int.mul_neg_of_neg_of_pos h pp; omega
    · exact h
  have t1 : U - (q1 * 4294967296 + q0) * y < y := Int.lt_of_mul_lt_mul_right r2 (by omega)
  have eq : q1 * 4294967296 + q0 = U / y := by
    have a1 : q1 * 4294967296 + q0 ≤ U / y := (Int.le_ediv_iff_mul_le (by omega)).2 (by omega)
    have a2 : U / y < q1 * 4294967296 + q0 + 1 := by apply Int.ediv_lt_of_lt_mul (by omega); rw [Int.add_mul]; omega
    omega
  refine ⟨eq, ?_⟩
  rw [Int.mul_ediv_cancel _ (by omega), eq, Int.emod_def, Int.mul_comm]
end Go.Proofs.Ytcjkofgbijdkcaa
