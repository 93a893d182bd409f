/- Package civil (and its reference's plain functions): the calendar's functions, each walked once. -/
import Derived.WalkKit
import Derived.Outline
import Derived.Lib.Hide
import Derived.Handy
import Derived.Test.YtcjkofgbijdkcaaNum
import Derived.Test.YtcjkofgbijdkcaaCivM
namespace Go.Proofs.Ytcjkofgbijdkcaa
open Go.RowKit

/-- an array's element, by value, in range -/
theorem run_index_arr {P : Program} {w : World} (t : TypeId) (cs : Array Value) (k : IntKind) (i : Int) (h : P.underlying t = some (.array (P.arrayLen t) (P.elem t))) :
    (Instr.index t (.agg cs) (.int k i)).run P w = if 0 ≤ i ∧ i < P.arrayLen t then ((sizeOf (P.elem t)).run P w).andThen fun s w => (part (P.elem t) cs (i.toNat * s)).run P w else (boundsPanic k i (P.arrayLen t) .index).run P w := by
  simp only [Instr.index, Sem.run_bind, run_underlying h, asIntOf]
  simp
attribute [local go_sem] run_index_arr

theorem long_any (y : Int) (w : World) (h : 1 ≤ y) (h2 : y ≤ 9999) : Calls Try.prog 54 #[.int .i64 y] w fun e w' => e = .returned (.bool (leapB y)) ∧ w = w' := by
  by_cases c1 : y % 4 = 0
  · by_cases c2 : y % 100 = 0
    · by_cases c3 : y % 400 = 0
      · have hr : leapB y = true := by simp [leapB, c1, c2, c3]
        have HR := Lib.hid hr; clear hr
        go_enter Try.func54, Try.ntmps54
        go_wp2
        go_ret
        exact ⟨ret_bool HR.out.symm, rfl⟩
      · have hr : leapB y = false := by simp [leapB, c1, c2, c3]
        have HR := Lib.hid hr; clear hr
        go_enter Try.func54, Try.ntmps54
        go_wp2
        go_ret
        exact ⟨ret_bool (by rw [HR.out]; simp [c3]), rfl⟩
    · have hr : leapB y = true := by simp [leapB, c1, c2]
      have HR := Lib.hid hr; clear hr
      go_enter Try.func54, Try.ntmps54
      go_wp2
      go_ret
      exact ⟨ret_bool HR.out.symm, rfl⟩
  · have hr : leapB y = false := by simp [leapB, c1]
    have HR := Lib.hid hr; clear hr
    go_enter Try.func54, Try.ntmps54
    go_wp2
    go_ret
    exact ⟨ret_bool HR.out.symm, rfl⟩

set_option maxHeartbeats 2000000 in
theorem last_ok (y m : Int) (w : World) (h : 1 ≤ y) (h2 : y ≤ 9999) (m1 : 1 ≤ m) (m2 : m ≤ 12) :
    Calls Try.prog 38 #[.int .i64 y, .int .i64 m] w fun e w' => e = .returned (.tuple #[.int .i64 (lastD y m), .int .i64 0]) ∧ w = w' := by
  by_cases c2 : m = 2
  · subst c2
    cases hl : leapB y with
    | true =>
      have hr : lastD y 2 = 29 := by simp [lastD, leapN, hl]
      rw [hr]; clear hr
      have HL := Lib.hid hl; clear hl
      go_enter Try.func38, Try.ntmps38
      go_wp2_with fail
      refine (long_any y _ h h2).mono ?_
      rintro e w' ⟨rfl, rfl⟩
      rw [HL.out]
      go_wp2_with fail
      go_ret2
      exact ⟨rfl, rfl⟩
    | false =>
      have hr : lastD y 2 = 28 := by simp [lastD, leapN, hl]
      rw [hr]; clear hr
      have HL := Lib.hid hl; clear hl
      go_enter Try.func38, Try.ntmps38
      go_wp2_with fail
      refine (long_any y _ h h2).mono ?_
      rintro e w' ⟨rfl, rfl⟩
      rw [HL.out]
      go_wp2_with fail
      go_ret2
      exact ⟨rfl, rfl⟩
  · have hm : m = 1 ∨ m = 3 ∨ m = 4 ∨ m = 5 ∨ m = 6 ∨ m = 7 ∨ m = 8 ∨ m = 9 ∨ m = 10 ∨ m = 11 ∨ m = 12 := by omega
    clear c2 m1 m2
    rcases hm with rfl | rfl | rfl | rfl | rfl | rfl | rfl | rfl | rfl | rfl | rfl
    all_goals
      simp only [lastD]
      go_enter Try.func38, Try.ntmps38
      go_wp2
      go_ret2
      exact ⟨rfl, rfl⟩

/-- what Last answers -/
def lastR (y m : Int) : Int × Int := if 1 ≤ y ∧ y ≤ 9999 ∧ 1 ≤ m ∧ m ≤ 12 then (lastD y m, 0) else (0, 1)
theorem last_no (y m : Int) (w : World) (h : ¬ (1 ≤ y ∧ y ≤ 9999 ∧ 1 ≤ m ∧ m ≤ 12)) :
    Calls Try.prog 38 #[.int .i64 y, .int .i64 m] w fun e w' => e = .returned (.tuple #[.int .i64 0, .int .i64 1]) ∧ w = w' := by
  by_cases c1 : 1 ≤ y
  · by_cases c2 : y ≤ 9999
    · by_cases c3 : 1 ≤ m
      · have c4 : ¬ m ≤ 12 := fun c4 => h ⟨c1, c2, c3, c4⟩
        clear h
        go_enter Try.func38, Try.ntmps38
        go_wp2
        go_ret2
        exact ⟨rfl, rfl⟩
      · clear h
        go_enter Try.func38, Try.ntmps38
        go_wp2
        go_ret2
        exact ⟨rfl, rfl⟩
    · clear h
      go_enter Try.func38, Try.ntmps38
      go_wp2
      go_ret2
      exact ⟨rfl, rfl⟩
  · clear h
    go_enter Try.func38, Try.ntmps38
    go_wp2
    go_ret2
    exact ⟨rfl, rfl⟩
theorem last_any (y m : Int) (w : World) :
    Calls Try.prog 38 #[.int .i64 y, .int .i64 m] w fun e w' => e = .returned (.tuple #[.int .i64 (lastR y m).1, .int .i64 (lastR y m).2]) ∧ w = w' := by
  by_cases c : 1 ≤ y ∧ y ≤ 9999 ∧ 1 ≤ m ∧ m ≤ 12
  · have h := last_ok y m w c.1 c.2.1 c.2.2.1 c.2.2.2
    unfold lastR; rw [if_pos c]; exact h
  · have h := last_no y m w c
    unfold lastR; rw [if_neg c]; exact h
end Go.Proofs.Ytcjkofgbijdkcaa
