/- What comes of a return, in plain numbers. -/
import Derived.WalkKit
import Derived.Lib.Hide
import Derived.Test.YtcjkofgbijdkcaaBill
namespace Go.Proofs.Ytcjkofgbijdkcaa

theorem sumTo_bd {s : Sch} {p : Int} (h : s.right = true) (p0 : 0 ≤ p) : ∀ k, k ≤ s.len → 0 ≤ sumTo s p k ∧ sumTo s p k ≤ 10000 * (if k = s.len then p else min p (s.f k)) := by
  obtain ⟨n1, n2, f0, hf⟩ := Sch.right_at h
  intro k
  induction k with
  | zero =>
    intro _
    rw [if_neg (by omega), f0]
    simp only [sumTo]
    omega
  | succ k ih =>
    intro hk
    obtain ⟨i1, i2⟩ := ih (by omega)
    rw [if_neg (by omega)] at i2
    obtain ⟨a1, a2, a3, a4, a5⟩ := hf k (by omega)
    have hz : min p (s.f k) ≤ (if k + 1 = s.len then p else min p (s.f (k + 1))) := by
      by_cases g : k + 1 = s.len
      · rw [if_pos g]; omega
      · rw [if_neg g]
        obtain ⟨_, _, b3, _, _⟩ := hf (k + 1) (by omega)
        rcases b3 with b3 | b3
        · omega
        · rw [show k + 1 - 1 = k by omega] at b3; omega
    simp only [sumTo, seg]
    generalize (if k + 1 = s.len then p else min p (s.f (k + 1))) = z at *
    have q0 : 0 ≤ max 0 (z - s.f k) := by omega
    have q1 := Int.mul_nonneg q0 a4
    have q2 := Int.mul_le_mul_of_nonneg_left a5 q0
    constructor
    · omega
    · by_cases g : s.f k ≤ z
      · have : max 0 (z - s.f k) = z - s.f k := by omega
        rw [this] at q1 q2 ⊢
        have : s.f k ≤ p ∨ p < s.f k := by omega
        omega
      · have : max 0 (z - s.f k) = 0 := by omega
        rw [this] at q1 q2 ⊢
        omega
theorem tax_bd {s : Sch} {x : Int} : 0 ≤ (taxR s x).1 ∧ (taxR s x).1 ≤ 1125899906842624 ∧ ((taxR s x).2 = 0 ↔ (s.right && isMon x) = true) := by
  cases h : (s.right && isMon x)
  · simp [taxR, h]
  · have e : taxR s x = (max (sumTo s (max (x - s.ded) 0) s.len / 10000 - s.cre) 0, 0) := by simp [taxR, h]
    rw [e]
    obtain ⟨h1, h2⟩ := (Bool.and_eq_true _ _).mp h
    have hd := Sch.right_ded h1
    have hx := isMon_iff.1 h2
    have := sumTo_bd (p := max (x - s.ded) 0) h1 (by omega) s.len (Nat.le_refl _)
    rw [if_pos rfl] at this
    simp only []
    refine ⟨by omega, by omega, by simp⟩

structure Bil where
  tax : Int
  pri : Int
  pen : Int
  exc : Int
  err : Int
/-- the penalty of a principal, by a schedule, of so many months -/
def penR (s : Sch) (pri late : Int) : Int := if 0 < pri ∧ 0 < late then min (max (pri * (s.bp * min late s.most) / 10000) s.least) pri else 0
def billR (s : Sch) (r : Ret) : Bil :=
  if s.right && r.right then ⟨(taxR s r.inc).1, max ((taxR s r.inc).1 - r.wit) 0, penR s (max ((taxR s r.inc).1 - r.wit) 0) (lateF r.due r.fil), max (r.wit - (taxR s r.inc).1) 0, 0⟩ else ⟨0, 0, 0, 0, 1⟩
def Bil.val (b : Bil) : Value := .tuple #[.agg #[.int .i64 b.tax, .int .i64 b.pri, .int .i64 b.pen, .int .i64 b.exc], .int .i64 b.err]
theorem mulDivR_pen {a b : Int} (a0 : 0 ≤ a) (a1 : a ≤ 1125899906842624) (b0 : 0 ≤ b) (b1 : b ≤ 600000) : mulDivR a b 10000 = (a * b / 10000, 0) ∧ 0 ≤ a * b / 10000 ∧ a * b / 10000 ≤ 67553994410557440 := by
  have m0 := Int.mul_nonneg a0 b0
  have m1 := Int.mul_le_mul a1 b1 b0 (by omega)
  have ha : amt a = true := amt_iff.2 (by omega)
  have hb : amt b = true := amt_iff.2 (by omega)
  have hc : amt 10000 = true := by decide
  refine ⟨?_, by omega, by omega⟩
  simp only [mulDivR, ha, hb, hc]
  rw [dvd_in (q := a * b / 10000) (r := a * b % 10000) (by omega) (by omega) (by omega) (by omega) (by omega) (by omega)]
  simp
theorem rate_bd {b m l : Int} (b0 : 0 ≤ b) (b1 : b ≤ 10000) (m0 : 0 ≤ m) (m1 : m ≤ 60) (l0 : 0 ≤ l) : 0 ≤ b * min l m ∧ b * min l m ≤ 600000 := by
  have q0 : 0 ≤ min l m := by omega
  have q1 : min l m ≤ 60 := by omega
  exact ⟨Int.mul_nonneg b0 q0, by have := Int.mul_le_mul b1 q1 q0 (by omega); omega⟩
end Go.Proofs.Ytcjkofgbijdkcaa
