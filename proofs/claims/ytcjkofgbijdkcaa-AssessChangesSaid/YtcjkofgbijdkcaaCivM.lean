/- The calendar in plain numbers: months' lengths, a date's number, a number's only date. -/
import Derived.WalkKit
import Derived.Lib.Hide
namespace Go.Proofs.Ytcjkofgbijdkcaa

def leapB (y : Int) : Bool := decide (y % 4 = 0) && (!decide (y % 100 = 0) || decide (y % 400 = 0))
def leapN (y : Int) : Int := if leapB y then 1 else 0
def lastD (y m : Int) : Int := if m = 2 then 28 + leapN y else if m = 4 ∨ m = 6 ∨ m = 9 ∨ m = 11 then 30 else 31
def yearD (y : Int) : Int := (y - 1) * 365 + (y - 1) / 4 - (y - 1) / 100 + (y - 1) / 400
def monD (y m : Int) : Int :=
  if m ≤ 1 then 0 else if m = 2 then 31 else
  (if m = 3 then 59 else if m = 4 then 90 else if m = 5 then 120 else if m = 6 then 151 else if m = 7 then 181 else if m = 8 then 212 else if m = 9 then 243 else if m = 10 then 273 else if m = 11 then 304 else if m = 12 then 334 else 365) + leapN y
def dayN (y m d : Int) : Int := yearD y + monD y m + d - 1

theorem leapN_01 (y : Int) : leapN y = 0 ∨ leapN y = 1 := by unfold leapN; split <;> omega
theorem leapN_eq (y : Int) : leapN y = (if y % 4 = 0 ∧ (¬ y % 100 = 0 ∨ y % 400 = 0) then 1 else 0) := by
  unfold leapN leapB
  by_cases h1 : y % 4 = 0 <;> by_cases h2 : y % 100 = 0 <;> by_cases h3 : y % 400 = 0 <;> simp [h1, h2, h3]
theorem yearD_succ (y : Int) (h : 1 ≤ y) : yearD (y + 1) = yearD y + 365 + leapN y := by
  rw [leapN_eq]; unfold yearD
  split <;> omega
theorem monD_succ (y m : Int) (h1 : 1 ≤ m) (h2 : m ≤ 12) : monD y (m + 1) = monD y m + lastD y m := by
  have h : m = 1 ∨ m = 2 ∨ m = 3 ∨ m = 4 ∨ m = 5 ∨ m = 6 ∨ m = 7 ∨ m = 8 ∨ m = 9 ∨ m = 10 ∨ m = 11 ∨ m = 12 := by omega
  rcases h with h | h | h | h | h | h | h | h | h | h | h | h <;> subst h <;> simp [monD, lastD] <;> omega
theorem monD_one (y : Int) : monD y 1 = 0 := by simp [monD]
theorem monD_13 (y : Int) : monD y 13 = 365 + leapN y := by simp [monD]
theorem lastD_pos (y m : Int) : 28 ≤ lastD y m ∧ lastD y m ≤ 31 := by
  have := leapN_01 y
  unfold lastD; split <;> (try split) <;> omega
theorem monD_bd (y m : Int) : 0 ≤ monD y m ∧ monD y m ≤ 366 := by
  have := leapN_01 y
  unfold monD; split <;> (try split) <;> (try omega)

/-- the first day of the month of index 12 y + (m - 1) -/
def monF (t : Int) : Int := dayN (t / 12) (t % 12 + 1) 1
theorem monF_of (y m : Int) (h1 : 1 ≤ m) (h2 : m ≤ 12) : monF (12 * y + m - 1) = dayN y m 1 := by
  unfold monF
  rw [show (12 * y + m - 1) / 12 = y by omega, show (12 * y + m - 1) % 12 + 1 = m by omega]
theorem monF_succ (t : Int) (h : 12 ≤ t) : monF (t + 1) = monF t + lastD (t / 12) (t % 12 + 1) := by
  unfold monF dayN
  by_cases c : t % 12 = 11
  · rw [show (t + 1) / 12 = t / 12 + 1 by omega, show (t + 1) % 12 + 1 = 1 by omega, c, yearD_succ _ (by omega), monD_one]
    have := monD_succ (t / 12) 12 (by omega) (by omega)
    have e := monD_13 (t / 12)
    rw [show ((12:Int) + 1) = 13 by omega] at this
    rw [show ((11:Int) + 1) = 12 by omega]
    omega
  · rw [show (t + 1) / 12 = t / 12 by omega, show (t + 1) % 12 + 1 = (t % 12 + 1) + 1 by omega, monD_succ _ _ (by omega) (by omega)]
    omega
theorem monF_lt (t : Int) (k : Nat) (h : 12 ≤ t) : monF t + 28 * k ≤ monF (t + k) := by
  induction k with
  | zero => simp
  | succ k ih =>
    have e := monF_succ (t + k) (by omega)
    have l := lastD_pos ((t + k) / 12) ((t + k) % 12 + 1)
    rw [show t + ((k + 1 : Nat) : Int) = t + k + 1 by push_cast; omega, e]
    push_cast
    omega
theorem monF_mono {s t : Int} (h : 12 ≤ s) (k : s ≤ t) : monF s + 28 * (t - s) ≤ monF t := by
  have := monF_lt s (t - s).toNat h
  rw [show ((t - s).toNat : Int) = t - s by omega, show s + (t - s) = t by omega] at this
  exact this

/-- y, m, d is the date of day n -/
structure IsDate (n y m d : Int) : Prop where
  y1 : 1 ≤ y
  y2 : y ≤ 9999
  m1 : 1 ≤ m
  m2 : m ≤ 12
  d1 : 1 ≤ d
  d2 : d ≤ lastD y m
  eq : n = dayN y m d
theorem dayN_F {y m d : Int} (h1 : 1 ≤ m) (h2 : m ≤ 12) : dayN y m d = monF (12 * y + m - 1) + d - 1 := by
  rw [monF_of y m h1 h2]; unfold dayN; omega
theorem IsDate.bd {n y m d : Int} (h : IsDate n y m d) : 0 ≤ n ∧ n ≤ 3652058 := by
  obtain ⟨y1, y2, m1, m2, d1, d2, e⟩ := h
  rw [dayN_F m1 m2] at e
  have l := lastD_pos y m
  have a := monF_mono (s := 12) (t := 12 * y + m - 1) (by omega) (by omega)
  have z : monF 12 = 0 := by decide
  have b := monF_mono (s := 12 * y + m - 1 + 1) (t := 120000) (by omega) (by omega)
  have c := monF_succ (12 * y + m - 1) (by omega)
  rw [show (12 * y + m - 1) / 12 = y by omega, show (12 * y + m - 1) % 12 + 1 = m by omega] at c
  have q : monF 120000 = 3652059 := by decide
  omega
/-- an earlier month's days are earlier -/
theorem IsDate.lt {n y m d n' y' m' d' : Int} (h : IsDate n y m d) (h' : IsDate n' y' m' d') (k : 12 * y + m < 12 * y' + m') : n < n' := by
  obtain ⟨y1, y2, m1, m2, d1, d2, e⟩ := h
  obtain ⟨y1', y2', m1', m2', d1', d2', e'⟩ := h'
  rw [dayN_F m1 m2] at e
  rw [dayN_F m1' m2'] at e'
  have b := monF_mono (s := 12 * y + m - 1 + 1) (t := 12 * y' + m' - 1) (by omega) (by omega)
  have c := monF_succ (12 * y + m - 1) (by omega)
  rw [show (12 * y + m - 1) / 12 = y by omega, show (12 * y + m - 1) % 12 + 1 = m by omega] at c
  omega
theorem IsDate.uniq {n y m d y' m' d' : Int} (h : IsDate n y m d) (h' : IsDate n y' m' d') : y = y' ∧ m = m' ∧ d = d' := by
  have a := h.lt h'
  have b := h'.lt h
  have c : 12 * y + m = 12 * y' + m' := by omega
  have := h.m1; have := h.m2; have := h'.m1; have := h'.m2
  have cy : y = y' := by omega
  have cm : m = m' := by omega
  subst cy cm
  have e := h.eq; have e' := h'.eq
  unfold dayN at e e'
  exact ⟨rfl, rfl, by omega⟩

/-- the day so many months later -/
def monthsR (y m d l : Int) : Int × Int :=
  let t := 12 * y + m - 1 + l
  if 1 ≤ t / 12 ∧ t / 12 ≤ 9999 then (dayN (t / 12) (t % 12 + 1) (min d (lastD (t / 12) (t % 12 + 1))), 0) else (0, 2)
/-- how many months, begun ones too, one date is behind another one -/
def lateR (y m d z k e : Int) : Int := 12 * (z - y) + k - m + (if d < e then 1 else 0)

theorem months_date {n y m d l : Int} (h : IsDate n y m d) (c : 1 ≤ (12 * y + m - 1 + l) / 12 ∧ (12 * y + m - 1 + l) / 12 ≤ 9999) :
    IsDate (monthsR y m d l).1 ((12 * y + m - 1 + l) / 12) ((12 * y + m - 1 + l) % 12 + 1) (min d (lastD ((12 * y + m - 1 + l) / 12) ((12 * y + m - 1 + l) % 12 + 1))) := by
  have p := lastD_pos ((12 * y + m - 1 + l) / 12) ((12 * y + m - 1 + l) % 12 + 1)
  have q := h.d1
  refine ⟨c.1, c.2, by omega, by omega, by omega, by omega, ?_⟩
  simp only [monthsR]
  rw [if_pos c]
/-- before so many months, the day that many months later lies before the other one -/
theorem months_before {n y m d n' z k e l : Int} (h : IsDate n y m d) (h' : IsDate n' z k e) (l0 : 0 ≤ l) (c : l < lateR y m d z k e) :
    (monthsR y m d l).2 = 0 ∧ (monthsR y m d l).1 < n' := by
  have := h.y1; have := h.m1; have := h.m2; have := h'.y2; have := h'.m1; have := h'.m2; have := h.d1; have := h'.d2
  have lb : l ≤ 12 * (z - y) + k - m := by unfold lateR at c; split at c <;> omega
  have cc : 1 ≤ (12 * y + m - 1 + l) / 12 ∧ (12 * y + m - 1 + l) / 12 ≤ 9999 := by omega
  have g := months_date h cc
  refine ⟨by simp only [monthsR]; rw [if_pos cc], ?_⟩
  by_cases s : l < 12 * (z - y) + k - m
  · exact g.lt h' (by omega)
  · have el : l = 12 * (z - y) + k - m := by omega
    subst el
    have hy : (12 * y + m - 1 + (12 * (z - y) + k - m)) / 12 = z := by omega
    have hm : (12 * y + m - 1 + (12 * (z - y) + k - m)) % 12 + 1 = k := by omega
    rw [hy, hm] at g
    have a := g.eq; have b := h'.eq
    unfold dayN at a b
    unfold lateR at c
    split at c <;> omega
/-- at so many months, it does not -/
theorem months_at {n y m d n' z k e : Int} (h : IsDate n y m d) (h' : IsDate n' z k e) :
    ¬ (monthsR y m d (lateR y m d z k e)).2 = 0 ∨ n' ≤ (monthsR y m d (lateR y m d z k e)).1 := by
  have := h.y1; have := h.m1; have := h.m2; have := h'.y2; have := h'.m1; have := h'.m2; have := h.d1; have := h'.d2
  by_cases cc : 1 ≤ (12 * y + m - 1 + lateR y m d z k e) / 12 ∧ (12 * y + m - 1 + lateR y m d z k e) / 12 ≤ 9999
  · right
    have g := months_date h cc
    by_cases s : d < e
    · have el : lateR y m d z k e = 12 * (z - y) + k - m + 1 := by simp [lateR, s]
      have := h'.lt g (by rw [el]; omega)
      omega
    · have el : lateR y m d z k e = 12 * (z - y) + k - m := by simp [lateR, s]
      rw [el] at g cc ⊢
      have hy : (12 * y + m - 1 + (12 * (z - y) + k - m)) / 12 = z := by omega
      have hm : (12 * y + m - 1 + (12 * (z - y) + k - m)) % 12 + 1 = k := by omega
      rw [hy, hm] at g
      have a := g.eq; have b := h'.eq
      unfold dayN at a b
      omega
  · left
    simp only [monthsR]
    rw [if_neg cc]
    decide
theorem late_pos {n y m d n' z k e : Int} (h : IsDate n y m d) (h' : IsDate n' z k e) : 0 < lateR y m d z k e ↔ n < n' := by
  have := h.m1; have := h.m2; have := h'.m1; have := h'.m2
  constructor
  · intro p
    by_cases s : 12 * y + m < 12 * z + k
    · exact h.lt h' s
    · unfold lateR at p
      split at p
      · have ey : y = z := by omega
        have em : m = k := by omega
        subst ey em
        have a := h.eq; have b := h'.eq
        unfold dayN at a b
        omega
      · omega
  · intro p
    have := h'.lt h
    by_cases s : 12 * y + m < 12 * z + k
    · unfold lateR; split <;> omega
    · have ey : y = z := by omega
      have em : m = k := by omega
      subst ey em
      have a := h.eq; have b := h'.eq
      unfold dayN at a b
      unfold lateR; rw [if_pos (by omega)]; omega
theorem late_bd {n y m d n' z k e : Int} (h : IsDate n y m d) (h' : IsDate n' z k e) : -119988 ≤ lateR y m d z k e ∧ lateR y m d z k e ≤ 119988 := by
  obtain ⟨y1, y2, m1, m2, d1, d2, _⟩ := h
  obtain ⟨y1', y2', m1', m2', d1', d2', _⟩ := h'
  unfold lateR; split <;> omega
theorem late_mono {n y m d n' z k e n'' z' k' e' : Int} (h : IsDate n y m d) (h1 : IsDate n' z k e) (h2 : IsDate n'' z' k' e') (c : n' ≤ n'') :
    lateR y m d z k e ≤ lateR y m d z' k' e' := by
  have := h1.m1; have := h1.m2; have := h2.m1; have := h2.m2
  by_cases s : 12 * z + k < 12 * z' + k'
  · unfold lateR; split <;> split <;> omega
  · have := h2.lt h1
    have ey : z = z' := by omega
    have em : k = k' := by omega
    subst ey em
    have a := h1.eq; have b := h2.eq
    unfold dayN at a b
    unfold lateR; split <;> split <;> omega

/-- what the quick count of years gives -/
theorem years_quick (n a b c e n1 n2 n3 n4 : Int) (h0 : 0 ≤ n) (h1 : n ≤ 3652058) (ha : a = min (n / 146097) 100) (hn1 : n1 = n - a * 146097) (hb : b = min (n1 / 36524) 3) (hn2 : n2 = n1 - b * 36524)
    (hc : c = min (n2 / 1461) 24) (hn3 : n3 = n2 - c * 1461) (he : e = min (n3 / 365) 3) (hn4 : n4 = n3 - e * 365) (y : Int) (hy : y = 1 + a * 400 + b * 100 + c * 4 + e * 1) :
    1 ≤ y ∧ y ≤ 9999 ∧ 0 ≤ n4 ∧ n4 < 365 + leapN y ∧ n = yearD y + n4 := by
  have a0 : 0 ≤ a := by omega
  have hn1' : 0 ≤ n1 ∧ n1 < 146097 := by omega
  have b0 : 0 ≤ b ∧ b ≤ 3 := by omega
  have hn2' : 0 ≤ n2 ∧ n2 < 36525 ∧ (b < 3 → n2 < 36524) := by omega
  have c0 : 0 ≤ c ∧ c ≤ 24 := by omega
  have hn3' : 0 ≤ n3 ∧ n3 < 1461 ∧ (c = 24 → b < 3 → n3 < 1460) := by omega
  have e0 : 0 ≤ e ∧ e ≤ 3 := by omega
  have hn4' : 0 ≤ n4 ∧ n4 < 366 ∧ (e < 3 → n4 < 365) ∧ (c = 24 → b < 3 → n4 < 365) := by omega
  have a25 : a ≤ 24 := by omega
  have d4 : (y - 1) / 4 = 100 * a + 25 * b + c := by omega
  have d100 : (y - 1) / 100 = 4 * a + b := by omega
  have d400 : (y - 1) / 400 = a := by omega
  refine ⟨by omega, by omega, by omega, ?_, ?_⟩
  · rw [leapN_eq]
    split
    · omega
    · rename_i nl
      by_cases e3 : e = 3
      · have m4 : y % 4 = 0 := by omega
        have nl' : y % 100 = 0 ∧ ¬ y % 400 = 0 := by
          constructor
          · by_cases g : y % 100 = 0
            · exact g
            · exact absurd ⟨m4, .inl g⟩ nl
          · intro g; exact nl ⟨m4, .inr g⟩
        have c24 : c = 24 := by omega
        have b3 : b < 3 := by omega
        omega
      · omega
  · unfold yearD
    rw [d4, d100, d400]
    omega
end Go.Proofs.Ytcjkofgbijdkcaa
