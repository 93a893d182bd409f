/- The day that is so many months behind another one, and the day behind it: how late they are. In plain numbers. -/
import Derived.WalkKit
import Derived.Lib.Hide
import Derived.Test.YtcjkofgbijdkcaaCivL
namespace Go.Proofs.Ytcjkofgbijdkcaa

theorem next_day {n y m d : Int} (h : IsDate n y m d) (hn : n < 3652058) : (d < lastD y m ∧ IsDate (n + 1) y m (d + 1)) ∨ (d = lastD y m ∧ m < 12 ∧ IsDate (n + 1) y (m + 1) 1) ∨ (d = lastD y m ∧ m = 12 ∧ IsDate (n + 1) (y + 1) 1 1) := by
  obtain ⟨y1, y2, m1, m2, d1, d2, e⟩ := h
  by_cases c : d < lastD y m
  · left
    refine ⟨c, y1, y2, m1, m2, by omega, by omega, ?_⟩
    unfold dayN at e ⊢; omega
  · right
    have hd : d = lastD y m := by omega
    have hs := monD_succ y m m1 m2
    by_cases c2 : m < 12
    · left
      have hp := lastD_pos y (m + 1)
      refine ⟨hd, c2, y1, y2, by omega, by omega, by omega, by omega, ?_⟩
      unfold dayN at e ⊢; omega
    · right
      have hm : m = 12 := by omega
      subst hm
      have h13 := monD_13 y
      rw [show (12 : Int) + 1 = 13 by omega, h13] at hs
      have hy : y + 1 ≤ 9999 := by
        by_cases g : y = 9999
        · exfalso
          subst g
          have k1 : yearD 9999 = 3651694 := by decide
          have k2 : leapN 9999 = 0 := by decide
          unfold dayN at e
          omega
        · omega
      have hp := lastD_pos (y + 1) 1
      have h1 := monD_one (y + 1)
      have hy2 := yearD_succ y y1
      refine ⟨hd, rfl, by omega, hy, by omega, by omega, by omega, by omega, ?_⟩
      unfold dayN at e ⊢; omega

theorem late_at {n y m d l : Int} (h : IsDate n y m d) (l0 : 0 ≤ l) (c : (monthsR y m d l).2 = 0) :
    (0 ≤ (monthsR y m d l).1 ∧ (monthsR y m d l).1 ≤ 3652058) ∧ lateF n (monthsR y m d l).1 = l ∧ ((monthsR y m d l).1 < 3652058 → lateF n ((monthsR y m d l).1 + 1) = l + 1) := by
  have cc : 1 ≤ (12 * y + m - 1 + l) / 12 ∧ (12 * y + m - 1 + l) / 12 ≤ 9999 := by
    by_cases g : 1 ≤ (12 * y + m - 1 + l) / 12 ∧ (12 * y + m - 1 + l) / 12 ≤ 9999
    · exact g
    · simp only [monthsR] at c; rw [if_neg g] at c; simp at c
  have g := months_date h cc
  have hb := g.bd
  have hm1 := h.m1; have hm2 := h.m2; have hd1 := h.d1; have hd2 := h.d2
  have hz : 12 * ((12 * y + m - 1 + l) / 12) + ((12 * y + m - 1 + l) % 12 + 1) = 12 * y + m + l := by omega
  have hk : 1 ≤ (12 * y + m - 1 + l) % 12 + 1 ∧ (12 * y + m - 1 + l) % 12 + 1 ≤ 12 := by omega
  generalize (monthsR y m d l).1 = n' at *
  generalize (12 * y + m - 1 + l) / 12 = z at *
  generalize (12 * y + m - 1 + l) % 12 + 1 = k at *
  have hp := lastD_pos z k
  refine ⟨hb, ?_, fun hlt => ?_⟩
  · by_cases c0 : l = 0
    · have h1 : z = y := by omega
      have h2 : k = m := by omega
      subst h1 h2
      have e1 := g.eq; have e2 := h.eq
      rw [Int.min_eq_left hd2] at e1
      rw [c0]
      exact lateF_none (by omega)
    · have hlt := h.lt g (by omega)
      rw [lateF_of h g hlt]
      unfold lateR
      rw [if_neg (by omega)]
      omega
  · have hle : n ≤ n' := by
      by_cases c0 : l = 0
      · have h1 : z = y := by omega
        have h2 : k = m := by omega
        subst h1 h2
        have e1 := g.eq; have e2 := h.eq
        rw [Int.min_eq_left hd2] at e1
        omega
      · have := h.lt g (by omega); omega
    rcases next_day g hlt with ⟨q1, q2⟩ | ⟨q1, q2, q3⟩ | ⟨q1, q2, q3⟩
    · rw [lateF_of h q2 (by omega)]
      unfold lateR
      rw [if_pos (by omega)]
      omega
    · rw [lateF_of h q3 (by omega)]
      unfold lateR
      rw [if_neg (by omega)]
      omega
    · rw [lateF_of h q3 (by omega)]
      unfold lateR
      rw [if_neg (by omega)]
      omega
theorem date_100 : IsDate 100 1 4 11 := by refine ⟨?_, ?_, ?_, ?_, ?_, ?_, ?_⟩ <;> decide
theorem months_100 : monthsR 1 4 11 1 = (130, 0) := by decide
end Go.Proofs.Ytcjkofgbijdkcaa
