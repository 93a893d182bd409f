/- Package civil: the date of a day. -/
import Derived.WalkKit
import Derived.Outline
import Derived.Lib.Hide
import Derived.Handy
import Derived.Deep.QuietTactic
import Derived.BigQuiet
import Derived.WalkMore
import Derived.Test.YtcjkofgbijdkcaaCiv
import Derived.Test.YtcjkofgbijdkcaaOwn
namespace Go.Proofs.Ytcjkofgbijdkcaa
open Go.RowKit

set_option maxRecDepth 100000 in
set_option maxHeartbeats 2000000 in
theorem civDate_ok (n : Int) (w : World) (h0 : 0 ≤ n) (h1 : n ≤ 3652058) :
    Calls Try.prog 24 #[.int .i64 n] w fun e w' => ∃ y m d, IsDate n y m d ∧ e = .returned (.tuple #[.int .i64 y, .int .i64 m, .int .i64 d, .int .i64 0]) ∧ Below w.heap.size w w' := by
  go_enter Try.func24, Try.ntmps24
  go_wp2_with fail
  go_step3
  go_wp2_with fail
  refine wp_loop_rounds 5 ?_
  rw [rounds_succ]
  go_wp2_with fail
  go_quiet (fail)
  go_wp2_with fail
  generalize ha : min (n / 146097) 100 = a
  have ab : 0 ≤ a ∧ a ≤ 24 ∧ 0 ≤ n - a * 146097 ∧ n - a * 146097 < 146097 := by omega
  go_quiet (fail)
  go_wp2_with fail
  generalize hn1 : n - a * 146097 = n1
  have nb1 : 0 ≤ n1 ∧ n1 < 146097 := by omega
  rw [rounds_succ]
  go_wp2_with fail
  go_quiet (fail)
  go_wp2_with fail
  generalize hb : min (n1 / 36524) 3 = b
  have bb : 0 ≤ b ∧ b ≤ 3 ∧ 0 ≤ n1 - b * 36524 ∧ n1 - b * 36524 < 36525 := by omega
  go_quiet (fail)
  go_wp2_with fail
  generalize hn2 : n1 - b * 36524 = n2
  have nb2 : 0 ≤ n2 ∧ n2 < 36525 := by omega
  rw [rounds_succ]
  go_wp2_with fail
  go_quiet (fail)
  go_wp2_with fail
  generalize hc : min (n2 / 1461) 24 = c
  have cb : 0 ≤ c ∧ c ≤ 24 ∧ 0 ≤ n2 - c * 1461 ∧ n2 - c * 1461 < 1461 := by omega
  go_quiet (fail)
  go_wp2_with fail
  generalize hn3 : n2 - c * 1461 = n3
  have nb3 : 0 ≤ n3 ∧ n3 < 1461 := by omega
  rw [rounds_succ]
  go_wp2_with fail
  go_quiet (fail)
  go_wp2_with fail
  generalize he : min (n3 / 365) 3 = d
  have db : 0 ≤ d ∧ d ≤ 3 ∧ 0 ≤ n3 - d * 365 ∧ n3 - d * 365 < 366 := by omega
  go_quiet (fail)
  go_wp2_with fail
  generalize hn4 : n3 - d * 365 = n4
  have nb4 : 0 ≤ n4 ∧ n4 < 366 := by omega
  generalize hy : 1 + a * 400 + b * 100 + c * 4 + d = y
  have K := years_quick n a b c d n1 n2 n3 n4 h0 h1 ha.symm hn1.symm hb.symm hn2.symm hc.symm hn3.symm he.symm hn4.symm y (by omega)
  obtain ⟨y1, y2, _, z1, z2⟩ := K
  have lp := leapN_01 y
  have Z1 := Lib.hid z1
  have Z2 := Lib.hid z2
  clear z1 z2 ab bb cb db nb1 nb2 nb3 ha hb hc he hn1 hn2 hn3 hn4 hy
  rw [rounds_succ]
  go_wp2_with fail
  go_step3
  go_wp2_with fail
  go_loop [0, 10] (fun vn vm => ∃ r m : Int, vn = .int .i64 r ∧ vm = .int .i64 m ∧ 1 ≤ m ∧ m ≤ 12 ∧ 0 ≤ r ∧ r ≤ 366 ∧ Hid (r = n4 - monD y m)) (fun _ vm => (12 - intOf vm).toNat)
  case atStart => exact ⟨n4, 1, rfl, rfl, by omega, by omega, by omega, by omega, Lib.hid (by rw [monD_one]; omega)⟩
  case round =>
    obtain ⟨r, m, rfl, rfl, m1, m2, r1, r2, HR⟩ := hrel
    by_cases c12 : m < 12
    · go_wp2_with fail
      refine (last_ok y m _ y1 y2 m1 (by omega)).mono ?_
      rintro e w' ⟨rfl, rfl⟩
      have lb := lastD_pos y m
      generalize hl : lastD y m = l at *
      by_cases cr : l ≤ r
      · go_wp2_with fail
        go_round
        case rel => exact ⟨r - l, m + 1, by go_num, by go_num, by omega, by omega, by omega, by omega, Lib.hid (by rw [monD_succ y m (by omega) (by omega), hl]; have := HR.out; omega)⟩
        case measure => simp [intOf]; omega
      · go_wp2_with fail
        have hfin : r + 1 ≤ lastD y m := by
          rw [hl]; omega
        have hday : n = dayN y m (r + 1) := by have := HR.out; have := Z2.out; unfold dayN; omega
        (try rw [Exit.noGoto_ret])
        refine bodyPost_ret (v := .tuple #[.int .i64 y, .int .i64 m, .int .i64 (r + 1), .int .i64 0]) (by simp [results, Try.results24, go_sem]) rfl ⟨y, m, r + 1, ⟨y1, y2, m1, m2, by omega, hfin, hday⟩, rfl, ?_⟩
        repeat' (first | (with_reducible exact Below.refl _ _) | (with_reducible refine below_drewN ?_ _) | (with_reducible refine Below.setCell ?_ ?_ _) | (with_reducible refine Below.alloc ?_ ?_ _) | (simp; done) | (simp; omega))
    · go_wp2_with fail
      have hfin : r + 1 ≤ lastD y m := by
        have e12 : m = 12 := by omega
        have q1 := HR.out
        have q2 := Z1.out
        have q3 := monD_succ y 12 (by omega) (by omega)
        rw [show ((12:Int) + 1) = 13 by omega, monD_13] at q3
        rw [e12] at q1 ⊢
        omega
      have hday : n = dayN y m (r + 1) := by have := HR.out; have := Z2.out; unfold dayN; omega
      (try rw [Exit.noGoto_ret])
      refine bodyPost_ret (v := .tuple #[.int .i64 y, .int .i64 m, .int .i64 (r + 1), .int .i64 0]) (by simp [results, Try.results24, go_sem]) rfl ⟨y, m, r + 1, ⟨y1, y2, m1, m2, by omega, hfin, hday⟩, rfl, ?_⟩
      repeat' (first | (with_reducible exact Below.refl _ _) | (with_reducible refine below_drewN ?_ _) | (with_reducible refine Below.setCell ?_ ?_ _) | (with_reducible refine Below.alloc ?_ ?_ _) | (simp; done) | (simp; omega))
end Go.Proofs.Ytcjkofgbijdkcaa
