/- Package tallageref16: Right. -/
import Derived.WalkKit
import Derived.Outline
import Derived.Lib.Hide
import Derived.Handy
import Derived.Deep.QuietTactic
import Derived.BigQuiet
import Derived.Test.YtcjkofgbijdkcaaRef15
import Derived.Test.YtcjkofgbijdkcaaRefAsM
namespace Go.Proofs.Ytcjkofgbijdkcaa
open Go.RowKit

set_option maxRecDepth 100000 in
set_option maxHeartbeats 1000000 in
theorem r16right_any (r : Ret) (w : World) (hi : r.In) :
    Calls Try.prog 16 #[r.val] w fun e w' => e = .returned (.bool r.right) ∧ Below w.heap.size w w' := by
  obtain ⟨per, due, fil, inc, wit⟩ := r
  obtain ⟨p1, p2, p3, p4, p5⟩ := hi
  have HR : Hid (Ret.right ⟨per, due, fil, inc, wit⟩ = (decide (1 ≤ per ∧ per ≤ 99999) && (isDy due && isDy fil) && (isMon inc && isMon wit))) := Lib.hid rfl
  generalize Ret.right ⟨per, due, fil, inc, wit⟩ = R at *
  simp only [i64, Ret.val] at *
  go_enter Try.func16, Try.ntmps16
  go_wp2_with fail
  refine (r16isDay_any due _).mono ?_
  rintro e w1 ⟨rfl, rfl⟩
  go_wp2_with fail
  refine (r16isDay_any fil _).mono ?_
  rintro e w1 ⟨rfl, rfl⟩
  go_wp2_with fail
  refine (r15isMoney_any inc _).mono ?_
  rintro e w1 ⟨rfl, rfl⟩
  go_wp2_with fail
  refine (r15isMoney_any wit _).mono ?_
  rintro e w1 ⟨rfl, rfl⟩
  generalize isDy due = d1 at *
  generalize isDy fil = d2 at *
  generalize isMon inc = d3 at *
  generalize isMon wit = d4 at *
  by_cases c1 : 1 ≤ per
  · by_cases c2 : per ≤ 99999
    · have hr : R = (d1 && d2 && (d3 && d4)) := by rw [HR.out, decide_eq_true ⟨c1, c2⟩]; simp
      have HRR := Lib.hid hr
      clear hr HR
      cases d1 <;> cases d2 <;> cases d3 <;> cases d4
      all_goals
        go_wp2_with fail
        go_ret
        exact ⟨ret_bool HRR.out.symm, (Below.refl _ _).alloc (Nat.le_refl _) _⟩
    · have hr : R = false := by rw [HR.out, decide_eq_false (fun g => by omega)]; rfl
      have HRR := Lib.hid hr
      clear hr HR
      go_wp2_with fail
      go_ret
      exact ⟨ret_bool HRR.out.symm, (Below.refl _ _).alloc (Nat.le_refl _) _⟩
  · have hr : R = false := by rw [HR.out, decide_eq_false (fun g => by omega)]; rfl
    have HRR := Lib.hid hr
    clear hr HR
    go_wp2_with fail
    go_ret
    exact ⟨ret_bool HRR.out.symm, (Below.refl _ _).alloc (Nat.le_refl _) _⟩
end Go.Proofs.Ytcjkofgbijdkcaa
