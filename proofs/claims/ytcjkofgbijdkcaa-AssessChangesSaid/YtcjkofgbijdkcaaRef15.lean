/- Package tallageref15: IsMoney. -/
import Derived.WalkKit
import Derived.Outline
import Derived.Lib.Hide
import Derived.Handy
import Derived.Deep.QuietTactic
import Derived.BigQuiet
import Derived.Test.YtcjkofgbijdkcaaBillM
namespace Go.Proofs.Ytcjkofgbijdkcaa
open Go.RowKit

theorem r15isMoney_any (a : Int) (w : World) : Calls Try.prog 37 #[.int .i64 a] w fun e w' => e = .returned (.bool (isMon a)) ∧ w = w' := by
  by_cases h : 0 ≤ a
  · by_cases h2 : a ≤ 1125899906842624
    · have hr : isMon a = true := by simp [isMon]; omega
      have HR := Lib.hid hr; clear hr
      go_enter Try.func37, Try.ntmps37
      go_wp2
      go_ret
      exact ⟨ret_bool HR.out.symm, rfl⟩
    · have hr : isMon a = false := by simp [isMon]; omega
      have HR := Lib.hid hr; clear hr
      go_enter Try.func37, Try.ntmps37
      go_wp2
      go_ret
      exact ⟨ret_bool HR.out.symm, rfl⟩
  · have hr : isMon a = false := by simp [isMon]; omega
    have HR := Lib.hid hr; clear hr
    go_enter Try.func37, Try.ntmps37
    go_wp2
    go_ret
    exact ⟨ret_bool HR.out.symm, rfl⟩
end Go.Proofs.Ytcjkofgbijdkcaa
