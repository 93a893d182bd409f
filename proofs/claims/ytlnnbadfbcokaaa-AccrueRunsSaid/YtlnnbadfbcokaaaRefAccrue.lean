/- The reference's Simple over any numbers: it answers what accrue.Simple answers. -/
import Derived.WalkKit
import Derived.Outline
import Derived.Lib.Hide
import Derived.Handy
import Derived.Test.YtlnnbadfbcokaaaRefNum
import Derived.Test.YtlnnbadfbcokaaaAccrue
namespace Go.Proofs.Ytlnnbadfbcokaaa
open Go.RowKit

theorem refPrin_any (a : Int) (w : World) : Calls Try.prog 45 #[.int .i64 a] w fun e w' => e = .returned (.bool (isPrin a)) ∧ w = w' := by
  by_cases h : 0 ≤ a
  · by_cases h2 : a ≤ 4611686018427387904
    · have hr : isPrin a = true := by simp [isPrin]; omega
      have HR := Lib.hid hr; clear hr
      go_enter Try.func45, Try.ntmps45
      go_wp2
      go_ret
      exact ⟨ret_bool HR.out.symm, rfl⟩
    · have hr : isPrin a = false := by simp [isPrin]; omega
      have HR := Lib.hid hr; clear hr
      go_enter Try.func45, Try.ntmps45
      go_wp2
      go_ret
      exact ⟨ret_bool HR.out.symm, rfl⟩
  · have hr : isPrin a = false := by simp [isPrin]; omega
    have HR := Lib.hid hr; clear hr
    go_enter Try.func45, Try.ntmps45
    go_wp2
    go_ret
    exact ⟨ret_bool HR.out.symm, rfl⟩

theorem refRate_any (a : Int) (w : World) : Calls Try.prog 46 #[.int .i64 a] w fun e w' => e = .returned (.bool (isRate a)) ∧ w = w' := by
  by_cases h : 0 ≤ a
  · by_cases h2 : a ≤ 100000
    · have hr : isRate a = true := by simp [isRate]; omega
      have HR := Lib.hid hr; clear hr
      go_enter Try.func46, Try.ntmps46
      go_wp2
      go_ret
      exact ⟨ret_bool HR.out.symm, rfl⟩
    · have hr : isRate a = false := by simp [isRate]; omega
      have HR := Lib.hid hr; clear hr
      go_enter Try.func46, Try.ntmps46
      go_wp2
      go_ret
      exact ⟨ret_bool HR.out.symm, rfl⟩
  · have hr : isRate a = false := by simp [isRate]; omega
    have HR := Lib.hid hr; clear hr
    go_enter Try.func46, Try.ntmps46
    go_wp2
    go_ret
    exact ⟨ret_bool HR.out.symm, rfl⟩

set_option maxHeartbeats 1600000 in
theorem refSimple_any (p bp d : Int) (w : World) (p1 : -9223372036854775808 ≤ p) (p2 : p ≤ 9223372036854775807) :
    Calls Try.prog 14 #[.int .i64 p, .int .i64 bp, .int .i64 d] w fun e w' => e = Pair (simpleR p bp d) ∧ Below w.heap.size w w' := by
  cases hP : isPrin p
  · have hr : simpleR p bp d = (0, 1) := by simp [simpleR, hP]
    have HR := Lib.hid hr; have HP := Lib.hid hP; clear hr hP
    go_enter Try.func14, Try.ntmps14
    go_wp2_with fail
    refine (refPrin_any p _).mono ?_
    rintro e w' ⟨rfl, rfl⟩
    rw [HP.out]
    go_wp2_with fail
    refine (refRate_any bp _).mono ?_
    rintro e w' ⟨rfl, rfl⟩
    go_wp2_with fail
    go_ret2
    exact ⟨pair_of HR.out, Below.refl _ _⟩
  · cases hQ : isRate bp
    · have hr : simpleR p bp d = (0, 1) := by simp [simpleR, hQ]
      have HR := Lib.hid hr; have HP := Lib.hid hP; have HQ := Lib.hid hQ; clear hr hP hQ
      go_enter Try.func14, Try.ntmps14
      go_wp2_with fail
      refine (refPrin_any p _).mono ?_
      rintro e w' ⟨rfl, rfl⟩
      rw [HP.out]
      go_wp2_with fail
      refine (refRate_any bp _).mono ?_
      rintro e w' ⟨rfl, rfl⟩
      rw [HQ.out]
      go_wp2_with fail
      go_ret2
      exact ⟨pair_of HR.out, Below.refl _ _⟩
    · by_cases d0 : d < 0
      · have hr : simpleR p bp d = (0, 1) := by simp [simpleR, isDay]; omega
        have HR := Lib.hid hr; have HP := Lib.hid hP; have HQ := Lib.hid hQ; clear hr hP hQ
        go_enter Try.func14, Try.ntmps14
        go_wp2_with fail
        refine (refPrin_any p _).mono ?_
        rintro e w' ⟨rfl, rfl⟩
        rw [HP.out]
        go_wp2_with fail
        refine (refRate_any bp _).mono ?_
        rintro e w' ⟨rfl, rfl⟩
        rw [HQ.out]
        go_wp2_with fail
        go_ret2
        exact ⟨pair_of HR.out, Below.refl _ _⟩
      · by_cases d2 : 3652058 < d
        · have hr : simpleR p bp d = (0, 1) := by simp [simpleR, isDay]; omega
          have HR := Lib.hid hr; have HP := Lib.hid hP; have HQ := Lib.hid hQ; clear hr hP hQ
          go_enter Try.func14, Try.ntmps14
          go_wp2_with fail
          refine (refPrin_any p _).mono ?_
          rintro e w' ⟨rfl, rfl⟩
          rw [HP.out]
          go_wp2_with fail
          refine (refRate_any bp _).mono ?_
          rintro e w' ⟨rfl, rfl⟩
          rw [HQ.out]
          go_wp2_with fail
          go_ret2
          exact ⟨pair_of HR.out, Below.refl _ _⟩
        · obtain ⟨p3, p4⟩ := isPrin_iff.1 hP
          obtain ⟨b1, b2⟩ := isRate_iff.1 hQ
          obtain ⟨m1, m2⟩ := mul_bd b1 (show 0 ≤ d by omega) b2 (show d ≤ 3652058 by omega)
          obtain ⟨x0, x1⟩ := mag_bd p1 p2
          obtain ⟨y0, y1⟩ := mag_bd (a := bp * d) (by omega) (by omega)
          obtain ⟨z0, z1⟩ := mag_mul p1 p2 (show -9223372036854775808 ≤ bp * d by omega) (show bp * d ≤ 9223372036854775807 by omega)
          obtain ⟨d3, d4⟩ := divW_bd (s := decide (p < 0) != decide (bp * d < 0)) (c := 3650000) z0 z1 (by omega)
          have hr : simpleR p bp d = toldW (divW (decide (p < 0) != decide (bp * d < 0)) (mag p * mag (bp * d)) 3650000).1.1 (divW (decide (p < 0) != decide (bp * d < 0)) (mag p * mag (bp * d)) 3650000).1.2 := by
            rw [toldW_eq d3, (divW_val (by omega)).1, valW_mul]
            have hd : isDay d = true := isDay_iff.2 ⟨by omega, by omega⟩
            have ha : amt p = true := amt_iff.2 ⟨by omega, by omega⟩
            have hb : amt (bp * d) = true := amt_iff.2 ⟨by omega, by omega⟩
            have hc : amt 3650000 = true := by decide
            simp [simpleR, hP, hQ, hd, mulDivR_eq, ha, hb, hc]
          have hd := fun W => wdiv_any (decide (p < 0) != decide (bp * d < 0)) (mag p * mag (bp * d)) 3650000 W z0 z1 (by omega) (by omega)
          generalize divW (decide (p < 0) != decide (bp * d < 0)) (mag p * mag (bp * d)) 3650000 = r at *
          obtain ⟨⟨s, q⟩, rest⟩ := r
          simp only [] at d3 d4 hr hd
          have ht := fun W => wtold_any s q W d3 d4
          have HR := Lib.hid hr; have HP := Lib.hid hP; have HQ := Lib.hid hQ; have HD := Lib.hid hd; clear hr hP hQ hd
          unfold Wide at ht
          have HT := Lib.hid ht; clear ht
          go_enter Try.func14, Try.ntmps14
          go_wp2_with fail
          refine (refPrin_any p _).mono ?_
          rintro e w' ⟨rfl, rfl⟩
          rw [HP.out]
          go_wp2_with fail
          refine (refRate_any bp _).mono ?_
          rintro e w' ⟨rfl, rfl⟩
          rw [HQ.out]
          go_wp2_with fail
          refine (of_any p _ p1 p2).mono ?_
          rintro e w1 ⟨rfl, hb1⟩
          go_wp2_with fail
          refine (of_any (bp * d) _ (by omega) (by omega)).mono ?_
          rintro e w2 ⟨rfl, hb2⟩
          go_wp2_with fail
          refine (wmul_any _ _ _ _ _ x0 (by omega) y0 (by omega)).mono ?_
          rintro e w3 ⟨rfl, hb3⟩
          go_wp2_with fail
          refine (HD.out _).mono ?_
          rintro e w4 ⟨rfl, hb4⟩
          have k1 := hb1.size
          have k2 := hb2.size
          have k3 := hb3.size
          have k4 := hb4.size
          have hb := ((hb1.trans (hb2.mono k1)).trans (hb3.mono (by omega))).trans (hb4.mono (by omega))
          rw [show Wide s q = Value.agg #[.bool s, .int .u64 (dig0 q), .int .u64 (dig1 q), .int .u64 (dig2 q), .int .u64 (dig3 q)] from rfl]
          go_wp2_with fail
          refine (HT.out _).mono ?_
          rintro e w5 ⟨rfl, hb5⟩
          unfold Pair
          go_wp2_with fail
          go_ret2
          exact ⟨pair_of HR.out, (hb.alloc (by omega) _).trans (hb5.mono (by simp; omega))⟩
end Go.Proofs.Ytlnnbadfbcokaaa
