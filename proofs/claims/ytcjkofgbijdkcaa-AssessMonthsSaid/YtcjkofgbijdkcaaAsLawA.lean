/- The law AssessMonths: the walk. -/
import Derived.WalkKit
import Derived.Outline
import Derived.Lib.Hide
import Derived.Handy
import Derived.Deep.QuietTactic
import Derived.BigQuiet
import Derived.Test.YtcjkofgbijdkcaaAwake16
import Derived.Test.YtcjkofgbijdkcaaRefAsM
namespace Go.Proofs.Ytcjkofgbijdkcaa
open Go.RowKit

set_option maxRecDepth 100000 in
set_option maxHeartbeats 1000000 in
theorem assessMonths_walk (a b : Int) (w : World) (a1 : -9223372036854775808 ≤ a) (a2 : a ≤ 9223372036854775807) (b1 : -9223372036854775808 ≤ b) (b2 : b ≤ 9223372036854775807) :
    Calls Try.prog 3 #[.int .i64 a, .int .i64 b] w fun e w' => e = .returned (.bool true) ∧ Below w.heap.size w w' := by
  by_cases c1 : 0 ≤ a ∧ b ≤ 3652058 ∧ a < b ∧ 40000 < b - a
  · obtain ⟨c1, c2, c3, c4⟩ := c1
    go_enter Try.func3, Try.ntmps3
    go_wp2_with fail
    refine (awake16 _).mono ?_
    rintro e w1 ⟨rfl, hb1⟩
    go_wp2_with fail
    go_ret
    exact ⟨rfl, hb1⟩
  · have h1 := fun W => asMonths_any a b W a1 a2 b1 b2
    have h2 := fun W => r16months_any a b W a1 a2 b1 b2
    generalize monthsL a b = x at *
    obtain ⟨x1, x2⟩ := x
    unfold Pair at h1 h2
    have H1 := Lib.hid h1; have H2 := Lib.hid h2
    clear h1 h2
    go_enter Try.func3, Try.ntmps3
    go_wp2_with fail
    refine (awake16 _).mono ?_
    rintro e w1 ⟨rfl, hb1⟩
    go_wp2_with fail
    all_goals
      refine (H1.out _).mono ?_
      rintro e w2 ⟨rfl, hb2⟩
      go_wp2_with fail
      refine (H2.out _).mono ?_
      rintro e w3 ⟨rfl, rfl⟩
      go_wp2_with fail
      go_ret
      have k1 := hb1.size
      have k2 := hb2.size
      exact ⟨rfl, hb1.trans (hb2.mono k1)⟩
end Go.Proofs.Ytcjkofgbijdkcaa
