/- The months from one day to another one, as a number. -/
import Derived.WalkKit
import Derived.Lib.Hide
import Derived.Test.YtcjkofgbijdkcaaCivM
namespace Go.Proofs.Ytcjkofgbijdkcaa

theorem mon_ex (y r : Int) (k : Nat) (hk : k ≤ 12) (r0 : 0 ≤ r) (h : r < monD y (k + 1)) : ∃ m : Int, 1 ≤ m ∧ m ≤ k ∧ monD y m ≤ r ∧ r < monD y (m + 1) := by
  induction k with
  | zero => simp [monD] at h; omega
  | succ k ih =>
    by_cases c : r < monD y ((k + 1 : Nat) : Int)
    · obtain ⟨m, a1, a2, a3, a4⟩ := ih (by omega) (by push_cast at c; exact c)
      exact ⟨m, a1, by push_cast; omega, a3, a4⟩
    · exact ⟨((k + 1 : Nat) : Int), by push_cast; omega, by omega, by omega, h⟩
def yOf (n : Int) : Int :=
  1 + min (n / 146097) 100 * 400 + min ((n - min (n / 146097) 100 * 146097) / 36524) 3 * 100
    + min ((n - min (n / 146097) 100 * 146097 - min ((n - min (n / 146097) 100 * 146097) / 36524) 3 * 36524) / 1461) 24 * 4
    + min ((n - min (n / 146097) 100 * 146097 - min ((n - min (n / 146097) 100 * 146097) / 36524) 3 * 36524 - min ((n - min (n / 146097) 100 * 146097 - min ((n - min (n / 146097) 100 * 146097) / 36524) 3 * 36524) / 1461) 24 * 1461) / 365) 3 * 1
theorem date_ex (n : Int) (h0 : 0 ≤ n) (h1 : n ≤ 3652058) : ∃ y m d, IsDate n y m d := by
  obtain ⟨y1, y2, r0, r1, e⟩ := years_quick n _ _ _ _ _ _ _ _ h0 h1 rfl rfl rfl rfl rfl rfl rfl rfl (yOf n) rfl
  generalize yOf n = y at *
  have hr : n - yearD y < monD y (((12 : Nat) : Int) + 1) := by
    rw [show (((12 : Nat) : Int) + 1) = 13 by omega, monD_13]; omega
  obtain ⟨m, a1, a2, a3, a4⟩ := mon_ex y (n - yearD y) 12 (by omega) (by omega) hr
  have hs := monD_succ y m a1 (by omega)
  exact ⟨y, m, n - yearD y - monD y m + 1, y1, y2, a1, by omega, by omega, by omega, by unfold dayN; omega⟩
/-- the month's number of a day, from the tables alone -/
def mOf (y r : Int) : Int :=
  if r < monD y 2 then 1 else if r < monD y 3 then 2 else if r < monD y 4 then 3 else if r < monD y 5 then 4 else if r < monD y 6 then 5 else if r < monD y 7 then 6 else
  if r < monD y 8 then 7 else if r < monD y 9 then 8 else if r < monD y 10 then 9 else if r < monD y 11 then 10 else if r < monD y 12 then 11 else 12
theorem monD_lt {y a b : Int} (h1 : 1 ≤ a) (h2 : a < b) (h3 : b ≤ 13) : monD y a + 28 ≤ monD y b := by
  have key : ∀ k : Nat, a + k + 1 ≤ 13 → monD y a + 28 ≤ monD y (a + k + 1) := by
    intro k
    induction k with
    | zero => intro hk; have := monD_succ y a h1 (by omega); have := lastD_pos y a; rw [show a + ((0 : Nat) : Int) + 1 = a + 1 by omega]; omega
    | succ k ih =>
      intro hk
      have i1 := ih (by omega)
      have i2 := monD_succ y (a + k + 1) (by omega) (by omega)
      have i3 := lastD_pos y (a + k + 1)
      rw [show a + ((k + 1 : Nat) : Int) + 1 = a + k + 1 + 1 by omega]
      omega
  have := key (b - a - 1).toNat (by omega)
  rw [show a + (((b - a - 1).toNat : Nat) : Int) + 1 = b by omega] at this
  exact this
theorem mOf_is {y r m : Int} (h1 : 1 ≤ m) (h2 : m ≤ 12) (h3 : monD y m ≤ r) (h4 : r < monD y (m + 1)) : mOf y r = m := by
  have up : ∀ b, m + 1 ≤ b → b ≤ 13 → r < monD y b := by
    intro b b1 b2
    by_cases c : m + 1 = b
    · rw [← c]; exact h4
    · have := monD_lt (y := y) (a := m + 1) (b := b) (by omega) (by omega) b2; omega
  have lo : ∀ b, 1 ≤ b → b ≤ m → ¬ r < monD y b := by
    intro b b1 b2
    by_cases c : b = m
    · rw [c]; omega
    · have := monD_lt (y := y) (a := b) (b := m) b1 (by omega) (by omega); omega
  have hm : m = 1 ∨ m = 2 ∨ m = 3 ∨ m = 4 ∨ m = 5 ∨ m = 6 ∨ m = 7 ∨ m = 8 ∨ m = 9 ∨ m = 10 ∨ m = 11 ∨ m = 12 := by omega
  rcases hm with rfl | rfl | rfl | rfl | rfl | rfl | rfl | rfl | rfl | rfl | rfl | rfl
  all_goals
    unfold mOf
    simp only [up 2, up 3, up 4, up 5, up 6, up 7, up 8, up 9, up 10, up 11, up 12, lo 2, lo 3, lo 4, lo 5, lo 6, lo 7, lo 8, lo 9, lo 10, lo 11, lo 12, if_true, if_false, Int.reduceLE, Int.reduceAdd]
/-- the date of a day -/
def ymd (n : Int) : Int × Int × Int := (yOf n, mOf (yOf n) (n - yearD (yOf n)), n - yearD (yOf n) - monD (yOf n) (mOf (yOf n) (n - yearD (yOf n))) + 1)
theorem ymd_of {n y m d : Int} (h : IsDate n y m d) : ymd n = (y, m, d) := by
  have b := h.bd
  obtain ⟨y1, y2, r0, r1, e⟩ := years_quick n _ _ _ _ _ _ _ _ b.1 b.2 rfl rfl rfl rfl rfl rfl rfl rfl (yOf n) rfl
  unfold ymd
  generalize yOf n = z at *
  have hr : n - yearD z < monD z (((12 : Nat) : Int) + 1) := by
    rw [show (((12 : Nat) : Int) + 1) = 13 by omega, monD_13]; omega
  obtain ⟨k, a1, a2, a3, a4⟩ := mon_ex z (n - yearD z) 12 (by omega) (by omega) hr
  rw [mOf_is a1 (by omega) a3 a4]
  have hs := monD_succ z k a1 (by omega)
  obtain ⟨e1, e2, e3⟩ := h.uniq (⟨y1, y2, a1, by omega, by omega, by omega, by unfold dayN; omega⟩ : IsDate n z k (n - yearD z - monD z k + 1))
  rw [e1, e2, e3]
/-- how many months, begun ones too, one day is behind another one -/
def lateF (due filed : Int) : Int := if filed ≤ due then 0 else lateR (ymd due).1 (ymd due).2.1 (ymd due).2.2 (ymd filed).1 (ymd filed).2.1 (ymd filed).2.2
theorem lateF_of {n y m d n' z k e : Int} (h : IsDate n y m d) (h' : IsDate n' z k e) (c : n < n') : lateF n n' = lateR y m d z k e := by
  unfold lateF
  rw [if_neg (by omega), ymd_of h, ymd_of h']
theorem lateF_none {n n' : Int} (c : n' ≤ n) : lateF n n' = 0 := by unfold lateF; rw [if_pos c]
def isDy (n : Int) : Bool := decide (0 ≤ n ∧ n ≤ 3652058)
def monthsL (due filed : Int) : Int × Int := if isDy due && isDy filed then (lateF due filed, 0) else (0, 1)
theorem lateF_bd (n n' : Int) (h : isDy n = true) (h' : isDy n' = true) : 0 ≤ lateF n n' ∧ lateF n n' ≤ 119988 ∧ (0 < lateF n n' ↔ n < n') := by
  simp only [isDy, decide_eq_true_eq] at h h'
  by_cases c : n' ≤ n
  · rw [lateF_none c]; omega
  · obtain ⟨y, m, d, hd⟩ := date_ex n h.1 h.2
    obtain ⟨z, k, e, he⟩ := date_ex n' h'.1 h'.2
    rw [lateF_of hd he (by omega)]
    have := late_bd hd he
    have := late_pos hd he
    omega
theorem lateF_mono (n a b : Int) (h : isDy n = true) (ha : isDy a = true) (hb : isDy b = true) (c : a ≤ b) : lateF n a ≤ lateF n b := by
  by_cases c1 : a ≤ n
  · rw [lateF_none c1]; exact (lateF_bd n b h hb).1
  · simp only [isDy, decide_eq_true_eq] at h ha hb
    obtain ⟨y, m, d, hd⟩ := date_ex n h.1 h.2
    obtain ⟨z, k, e, he⟩ := date_ex a ha.1 ha.2
    obtain ⟨z', k', e', he'⟩ := date_ex b hb.1 hb.2
    rw [lateF_of hd he (by omega), lateF_of hd he' (by omega)]
    exact late_mono hd he he' c
end Go.Proofs.Ytcjkofgbijdkcaa
