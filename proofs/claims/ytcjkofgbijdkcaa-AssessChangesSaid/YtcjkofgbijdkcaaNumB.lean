/- Package num: Add, Sub, Mul, MulDiv over any two or three numbers of 64 bits: what they answer; memory that was there stays as it was. -/
import Derived.WalkKit
import Derived.Outline
import Derived.Lib.Hide
import Derived.Test.YtcjkofgbijdkcaaNum
namespace Go.Proofs.Ytcjkofgbijdkcaa
open Go.RowKit

/-- two numbers told -/
def Pair (r : Int × Int) : Ending := .returned (.tuple #[.int .i64 r.1, .int .i64 r.2])
theorem pair_of {a b : Int} {r : Int × Int} (h : r = (a, b)) : Ending.returned (.tuple #[.int .i64 a, .int .i64 b]) = Pair r := by rw [h]; rfl
def told (s : Int) : Int × Int := if amt s then (s, 0) else (0, 2)
def addR (a b : Int) : Int × Int := if amt a && amt b then told (a + b) else (0, 1)
def subR (a b : Int) : Int × Int := if amt a && amt b then told (a - b) else (0, 1)
def mulDivR (a b c : Int) : Int × Int := if amt a && amt b && amt c && decide (1 ≤ c) then ((dvd (a * b) c).1, (dvd (a * b) c).2.2) else (0, 1)

theorem amt_iff {a : Int} : amt a = true ↔ -4611686018427387904 ≤ a ∧ a ≤ 4611686018427387904 := by simp [amt]
theorem amt_neg {a : Int} : amt (-a) = amt a := by simp only [amt]; congr 1; apply propext; omega

theorem is_two (a b : Int) (w : World) : Calls Try.prog 49 #[.slice (some ⟨w.heap.size, 0, none⟩) 2 2] (w.alloc (.cells #[.int .i64 a, .int .i64 b] 2)) fun e w' =>
    e = .returned (.bool (amt a && amt b)) ∧ w.alloc (.cells #[.int .i64 a, .int .i64 b] 2) = w' := by
  have := is_any w.heap.size 0 2 [a, b] (w.alloc (.cells #[.int .i64 a, .int .i64 b] 2)) (fun k hk => by
    match k, hk with
    | 0, _ => simp [go_sem]
    | 1, _ => simp [go_sem]) (by simp)
  simpa using this

theorem is_three (a b c : Int) (w : World) : Calls Try.prog 49 #[.slice (some ⟨w.heap.size, 0, none⟩) 3 3] (w.alloc (.cells #[.int .i64 a, .int .i64 b, .int .i64 c] 2)) fun e w' =>
    e = .returned (.bool (amt a && (amt b && amt c))) ∧ w.alloc (.cells #[.int .i64 a, .int .i64 b, .int .i64 c] 2) = w' := by
  have := is_any w.heap.size 0 3 [a, b, c] (w.alloc (.cells #[.int .i64 a, .int .i64 b, .int .i64 c] 2)) (fun k hk => by
    match k, hk with
    | 0, _ => simp [go_sem]
    | 1, _ => simp [go_sem]
    | 2, _ => simp [go_sem]) (by simp)
  simpa using this

set_option maxHeartbeats 800000 in
theorem mulDiv_any (a b c : Int) (w : World) (a1 : -9223372036854775808 ≤ a) (a2 : a ≤ 9223372036854775807) (b1 : -9223372036854775808 ≤ b) (b2 : b ≤ 9223372036854775807) (c1 : -9223372036854775808 ≤ c) (c2 : c ≤ 9223372036854775807) :
    Calls Try.prog 29 #[.int .i64 a, .int .i64 b, .int .i64 c] w fun e w' => e = Pair (mulDivR a b c) ∧ Below w.heap.size w w' := by
  by_cases h : (amt a && (amt b && amt c)) = true
  · obtain ⟨h1, h23⟩ := (Bool.and_eq_true _ _).mp h
    obtain ⟨h2, h3⟩ := (Bool.and_eq_true _ _).mp h23
    obtain ⟨a3, a4⟩ := amt_iff.1 h1
    obtain ⟨b3, b4⟩ := amt_iff.1 h2
    obtain ⟨c3, c4⟩ := amt_iff.1 h3
    by_cases hc : 1 ≤ c
    · have hr : mulDivR a b c = ((dvd (a * b) c).1, (dvd (a * b) c).2.2) := by simp [mulDivR, h1, h2, h3, hc]
      have H := Lib.hid h; have HR := Lib.hid hr
      clear h h1 h2 h3 h23 hr
      go_enter Try.func29, Try.ntmps29
      go_wp2_with fail
      refine (is_three a b c w).mono ?_
      rintro e w' ⟨rfl, rfl⟩
      rw [H.out]
      go_wp2_with fail
      refine (divided_any a b c _ a3 a4 b3 b4 hc c4).mono ?_
      rintro e w1 ⟨rfl, hb⟩
      go_wp2_with fail
      go_ret2
      exact ⟨pair_of (by rw [HR.out]), ((Below.refl _ _).alloc (Nat.le_refl _) _).trans (hb.mono (by simp))⟩
    · have hr : mulDivR a b c = (0, 1) := by simp [mulDivR, hc]
      have H := Lib.hid h; have HR := Lib.hid hr
      clear h h1 h2 h3 h23 hr
      go_enter Try.func29, Try.ntmps29
      go_wp2_with fail
      refine (is_three a b c w).mono ?_
      rintro e w' ⟨rfl, rfl⟩
      rw [H.out]
      go_wp2_with fail
      go_ret2
      exact ⟨pair_of HR.out, (Below.refl _ _).alloc (Nat.le_refl _) _⟩
  · have h' : (amt a && (amt b && amt c)) = false := by simpa using h
    have hr : mulDivR a b c = (0, 1) := by
      have : (amt a && amt b && amt c && decide (1 ≤ c)) = false := by rw [Bool.and_assoc (amt a), h']; rfl
      simp only [mulDivR, this, Bool.false_eq_true, if_false]
    have H := Lib.hid h'; have HR := Lib.hid hr
    clear h h' hr
    go_enter Try.func29, Try.ntmps29
    go_wp2_with fail
    refine (is_three a b c w).mono ?_
    rintro e w' ⟨rfl, rfl⟩
    rw [H.out]
    go_wp2_with fail
    go_ret2
    exact ⟨pair_of HR.out, (Below.refl _ _).alloc (Nat.le_refl _) _⟩

end Go.Proofs.Ytcjkofgbijdkcaa
