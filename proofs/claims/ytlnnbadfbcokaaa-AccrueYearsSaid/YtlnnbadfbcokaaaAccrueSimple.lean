/- The laws AccrueSimple, AccrueYears: the walks. -/
import Derived.WalkKit
import Derived.Outline
import Derived.Lib.Hide
import Derived.Test.YtlnnbadfbcokaaaRefAccrue
namespace Go.Proofs.Ytlnnbadfbcokaaa
open Go.RowKit
set_option maxHeartbeats 1600000 in
theorem accrueSimple_walk (p bp d : Int) (w : World) (p1 : -9223372036854775808 ≤ p) (p2 : p ≤ 9223372036854775807) (b1 : -9223372036854775808 ≤ bp) (b2 : bp ≤ 9223372036854775807) (d1 : -9223372036854775808 ≤ d) (d2 : d ≤ 9223372036854775807) :
    Calls Try.prog 3 #[.int .i64 p, .int .i64 bp, .int .i64 d] w fun e w' => e = .returned (.bool true) ∧ Below w.heap.size w w' := by
  have h1 := fun W => simple_any p bp d W p1 p2
  have h2 := fun W => refSimple_any p bp d W p1 p2
  generalize simpleR p bp d = x at *
  obtain ⟨x1, x2⟩ := x
  unfold Pair at h1 h2
  have H1 := Lib.hid h1; have H2 := Lib.hid h2
  clear h1 h2
  go_enter Try.func3, Try.ntmps3
  go_wp2_with fail
  refine (awake18 _).mono ?_
  rintro e w1 ⟨rfl, hb1⟩
  go_wp2_with fail
  refine (H1.out _).mono ?_
  rintro e w2 ⟨rfl, hb2⟩
  go_wp2_with fail
  refine (H2.out _).mono ?_
  rintro e w3 ⟨rfl, hb3⟩
  go_wp2_with fail
  go_ret
  have k1 := hb1.size
  have k2 := hb2.size
  exact ⟨rfl, (hb1.trans (hb2.mono k1)).trans (hb3.mono (by omega))⟩

theorem years_same {p bp y : Int} (p0 : 0 ≤ p) (p1 : p ≤ 1125899906842624) (b0 : 0 ≤ bp) (b1 : bp ≤ 100000) (y0 : 0 ≤ y) (y1 : y ≤ 100) :
    simpleR p bp (365 * y) = mulDivR p (bp * y) 10000 ∧ simpleR p 10000 365 = (p, 0) := by
  obtain ⟨m0, m1⟩ := mul_bd b0 y0 b1 y1
  obtain ⟨n0, n1⟩ := mul_bd b0 (show 0 ≤ 365 * y by omega) b1 (show 365 * y ≤ 36500 by omega)
  have hP : isPrin p = true := isPrin_iff.2 ⟨p0, by omega⟩
  have ha : amt p = true := amt_iff.2 ⟨by omega, by omega⟩
  have e : bp * (365 * y) = 365 * (bp * y) := by rw [Int.mul_left_comm]
  constructor
  · have hb : amt (bp * y) = true := amt_iff.2 ⟨by omega, by omega⟩
    have hb' : amt (365 * (bp * y)) = true := amt_iff.2 ⟨by omega, by omega⟩
    have hR : isRate bp = true := isRate_iff.2 ⟨b0, b1⟩
    have hD : isDay (365 * y) = true := isDay_iff.2 ⟨by omega, by omega⟩
    have hc : amt 3650000 = true := by decide
    have hc' : amt 10000 = true := by decide
    have hq : p * (365 * (bp * y)) / 3650000 = p * (bp * y) / 10000 := by
      rw [show p * (365 * (bp * y)) = p * (bp * y) * 365 from by rw [Int.mul_left_comm, Int.mul_comm]]
      generalize p * (bp * y) = u
      omega
    simp [simpleR, hP, hR, hD, mulDivR_eq, ha, hb, e, hb', hc, hc', hq]
  · have hq : p * 3650000 / 3650000 = p := by omega
    have hR : isRate 10000 = true := by decide
    have hD : isDay 365 = true := by decide
    have hc : amt 3650000 = true := by decide
    simp [simpleR, hP, hR, hD, mulDivR_eq, ha, hc, hq, told]

set_option maxHeartbeats 1600000 in
theorem accrueYears_walk (p bp y : Int) (w : World) (p1 : -9223372036854775808 ≤ p) (p2 : p ≤ 9223372036854775807) (b1 : -9223372036854775808 ≤ bp) (b2 : bp ≤ 9223372036854775807) (y1 : -9223372036854775808 ≤ y) (y2 : y ≤ 9223372036854775807) :
    Calls Try.prog 5 #[.int .i64 p, .int .i64 bp, .int .i64 y] w fun e w' => e = .returned (.bool true) ∧ Below w.heap.size w w' := by
  by_cases c1 : p < 0
  · go_enter Try.func5, Try.ntmps5
    go_wp2_with fail
    refine (awake18 _).mono ?_
    rintro e w1 ⟨rfl, hb1⟩
    go_wp2_with fail
    go_ret
    exact ⟨rfl, hb1⟩
  by_cases c2 : 1125899906842624 < p
  · go_enter Try.func5, Try.ntmps5
    go_wp2_with fail
    refine (awake18 _).mono ?_
    rintro e w1 ⟨rfl, hb1⟩
    go_wp2_with fail
    go_ret
    exact ⟨rfl, hb1⟩
  by_cases c3 : bp < 0
  · go_enter Try.func5, Try.ntmps5
    go_wp2_with fail
    refine (awake18 _).mono ?_
    rintro e w1 ⟨rfl, hb1⟩
    go_wp2_with fail
    go_ret
    exact ⟨rfl, hb1⟩
  by_cases c4 : 100000 < bp
  · go_enter Try.func5, Try.ntmps5
    go_wp2_with fail
    refine (awake18 _).mono ?_
    rintro e w1 ⟨rfl, hb1⟩
    go_wp2_with fail
    go_ret
    exact ⟨rfl, hb1⟩
  by_cases c5 : y < 0
  · go_enter Try.func5, Try.ntmps5
    go_wp2_with fail
    refine (awake18 _).mono ?_
    rintro e w1 ⟨rfl, hb1⟩
    go_wp2_with fail
    go_ret
    exact ⟨rfl, hb1⟩
  by_cases c6 : 100 < y
  · go_enter Try.func5, Try.ntmps5
    go_wp2_with fail
    refine (awake18 _).mono ?_
    rintro e w1 ⟨rfl, hb1⟩
    go_wp2_with fail
    go_ret
    exact ⟨rfl, hb1⟩
  obtain ⟨s1, s2⟩ := years_same (p := p) (bp := bp) (y := y) (by omega) (by omega) (by omega) (by omega) (by omega) (by omega)
  obtain ⟨m0, m1⟩ := mul_bd (a := bp) (b := y) (by omega) (by omega) (show bp ≤ 100000 by omega) (show y ≤ 100 by omega)
  have h1 := fun W => simple_any p bp (365 * y) W p1 p2
  have h2 := fun W => refMulDiv_any p (bp * y) 10000 W p1 p2 (by omega) (by omega)
  have h3 := fun W => simple_any p 10000 365 W p1 p2
  rw [s1] at h1
  rw [s2] at h3
  generalize mulDivR p (bp * y) 10000 = x at *
  obtain ⟨x1, x2⟩ := x
  unfold Pair at h1 h2 h3
  have H1 := Lib.hid h1; have H2 := Lib.hid h2; have H3 := Lib.hid h3
  clear h1 h2 h3 s1 s2
  go_enter Try.func5, Try.ntmps5
  go_wp2_with fail
  refine (awake18 _).mono ?_
  rintro e w1 ⟨rfl, hb1⟩
  go_wp2_with fail
  refine (H1.out _).mono ?_
  rintro e w2 ⟨rfl, hb2⟩
  go_wp2_with fail
  refine (H2.out _).mono ?_
  rintro e w3 ⟨rfl, hb3⟩
  go_wp2_with fail
  refine (H3.out _).mono ?_
  rintro e w4 ⟨rfl, hb4⟩
  go_wp2_with fail
  go_ret
  have k1 := hb1.size
  have k2 := hb2.size
  have k3 := hb3.size
  exact ⟨rfl, ((hb1.trans (hb2.mono k1)).trans (hb3.mono (by omega))).trans (hb4.mono (by omega))⟩
end Go.Proofs.Ytlnnbadfbcokaaa
