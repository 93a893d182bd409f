/- The reference's Add, Sub, Mul, MulDiv over any numbers of 64 bits: they answer what package num's answer. -/
import Derived.WalkKit
import Derived.Outline
import Derived.Lib.Hide
import Derived.Handy
import Derived.Test.YtlnnbadfbcokaaaWideD
namespace Go.Proofs.Ytlnnbadfbcokaaa
open Go.RowKit

def mag (a : Int) : Int := if a < 0 then -a else a
theorem mag_bd {a : Int} (a1 : -9223372036854775808 ≤ a) (a2 : a ≤ 9223372036854775807) : 0 ≤ mag a ∧ mag a ≤ 9223372036854775808 := by unfold mag; split <;> omega
theorem mag_val (a : Int) : valW (decide (a < 0)) (mag a) = a := by
  unfold valW mag
  by_cases h : a < 0 <;> simp [h]

theorem of_any (a : Int) (w : World) (a1 : -9223372036854775808 ≤ a) (a2 : a ≤ 9223372036854775807) :
    Calls Try.prog 38 #[.int .i64 a] w fun e w' => e = .returned (Wide (decide (a < 0)) (mag a)) ∧ Below w.heap.size w w' := by
  by_cases h : a < 0
  · have := of_neg a w a1 h
    simpa [mag, h] using this
  · have := of_pos a w (by omega) a2
    simpa [mag, h] using this

theorem toldW_eq {s : Bool} {n : Int} (n0 : 0 ≤ n) : toldW s n = told (valW s n) := by
  unfold toldW told amt valW
  by_cases h : 4611686018427387904 < n
  · have : ¬ (-4611686018427387904 ≤ (if s then -n else n) ∧ (if s then -n else n) ≤ 4611686018427387904) := by split <;> omega
    simp [h, this]
  · have : (-4611686018427387904 ≤ (if s then -n else n) ∧ (if s then -n else n) ≤ 4611686018427387904) := by split <;> omega
    simp [h, this]

theorem addW_bd {s t : Bool} {n m : Int} (n0 : 0 ≤ n) (m0 : 0 ≤ m) : 0 ≤ (addW s n t m).2 ∧ (addW s n t m).2 ≤ n + m := by
  unfold addW
  split
  · simp; omega
  · split <;> simp <;> omega

theorem mulDivR_eq {a b c : Int} : mulDivR a b c = if amt a && amt b && amt c && decide (1 ≤ c) then told (a * b / c) else (0, 1) := by
  unfold mulDivR
  split
  · unfold dvd told amt
    by_cases h : -4611686018427387904 ≤ a * b / c ∧ a * b / c ≤ 4611686018427387904 <;> simp [h]
  · rfl

theorem isAmt_any (a : Int) (w : World) : Calls Try.prog 48 #[.int .i64 a] w fun e w' => e = .returned (.bool (amt a)) ∧ w = w' := by
  by_cases h : -4611686018427387904 ≤ a
  · by_cases h2 : a ≤ 4611686018427387904
    · have hr : amt a = true := amt_iff.2 ⟨h, h2⟩
      have HR := Lib.hid hr; clear hr
      go_enter Try.func48, Try.ntmps48
      go_wp2
      go_ret
      exact ⟨ret_bool HR.out.symm, rfl⟩
    · have hr : amt a = false := by simp [amt]; omega
      have HR := Lib.hid hr; clear hr
      go_enter Try.func48, Try.ntmps48
      go_wp2
      go_ret
      exact ⟨ret_bool HR.out.symm, rfl⟩
  · have hr : amt a = false := by simp [amt]; omega
    have HR := Lib.hid hr; clear hr
    go_enter Try.func48, Try.ntmps48
    go_wp2
    go_ret
    exact ⟨ret_bool HR.out.symm, rfl⟩

theorem both_any (a b : Int) (w : World) : Calls Try.prog 47 #[.int .i64 a, .int .i64 b] w fun e w' => e = .returned (.bool (amt a && amt b)) ∧ w = w' := by
  cases h : amt a
  · have H := Lib.hid h; clear h
    go_enter Try.func47, Try.ntmps47
    go_wp2_with fail
    refine (isAmt_any a _).mono ?_
    rintro e w' ⟨rfl, rfl⟩
    rw [H.out]
    go_wp2_with fail
    go_ret
    exact ⟨rfl, rfl⟩
  · have H := Lib.hid h; clear h
    go_enter Try.func47, Try.ntmps47
    go_wp2_with fail
    refine (isAmt_any a _).mono ?_
    rintro e w' ⟨rfl, rfl⟩
    rw [H.out]
    go_wp2_with fail
    refine (isAmt_any b _).mono ?_
    rintro e w' ⟨rfl, rfl⟩
    go_wp2_with fail
    go_ret
    exact ⟨rfl, rfl⟩

set_option maxHeartbeats 800000 in
theorem refAdd_any (a b : Int) (w : World) (a1 : -9223372036854775808 ≤ a) (a2 : a ≤ 9223372036854775807) (b1 : -9223372036854775808 ≤ b) (b2 : b ≤ 9223372036854775807) :
    Calls Try.prog 21 #[.int .i64 a, .int .i64 b] w fun e w' => e = Pair (addR a b) ∧ Below w.heap.size w w' := by
  cases h : (amt a && amt b)
  · have hr : addR a b = (0, 1) := by simp only [addR, h, Bool.false_eq_true, if_false]
    have H := Lib.hid h; have HR := Lib.hid hr; clear h hr
    go_enter Try.func21, Try.ntmps21
    go_wp2_with fail
    refine (both_any a b _).mono ?_
    rintro e w' ⟨rfl, rfl⟩
    rw [H.out]
    go_wp2_with fail
    go_ret2
    exact ⟨pair_of HR.out, Below.refl _ _⟩
  · obtain ⟨x0, x1⟩ := mag_bd a1 a2
    obtain ⟨y0, y1⟩ := mag_bd b1 b2
    obtain ⟨z0, z1⟩ := addW_bd (s := decide (a < 0)) (t := decide (b < 0)) x0 y0
    have hr : addR a b = toldW (addW (decide (a < 0)) (mag a) (decide (b < 0)) (mag b)).1 (addW (decide (a < 0)) (mag a) (decide (b < 0)) (mag b)).2 := by
      rw [toldW_eq z0, valW_add, mag_val, mag_val]
      simp only [addR, h, if_true]
    have H := Lib.hid h; have HR := Lib.hid hr; clear h hr
    go_enter Try.func21, Try.ntmps21
    go_wp2_with fail
    refine (both_any a b _).mono ?_
    rintro e w' ⟨rfl, rfl⟩
    rw [H.out]
    go_wp2_with fail
    refine (of_any a _ a1 a2).mono ?_
    rintro e w1 ⟨rfl, hb1⟩
    go_wp2_with fail
    refine (of_any b _ b1 b2).mono ?_
    rintro e w2 ⟨rfl, hb2⟩
    go_wp2_with fail
    refine (wadd_any _ _ _ _ _ x0 y0 (by omega)).mono ?_
    rintro e w3 ⟨rfl, hb3⟩
    go_wp2_with fail
    refine (wtold_any _ _ _ z0 (by omega)).mono ?_
    rintro e w4 ⟨rfl, hb4⟩
    unfold Pair
    go_wp2_with fail
    go_ret2
    have k1 := hb1.size
    have k2 := hb2.size
    have k3 := hb3.size
    exact ⟨pair_of HR.out, ((hb1.trans (hb2.mono k1)).trans (hb3.mono (by omega))).trans (hb4.mono (by omega))⟩

set_option maxHeartbeats 800000 in
theorem refSub_any (a b : Int) (w : World) (a1 : -9223372036854775808 ≤ a) (a2 : a ≤ 9223372036854775807) (b1 : -9223372036854775808 ≤ b) (b2 : b ≤ 9223372036854775807) :
    Calls Try.prog 22 #[.int .i64 a, .int .i64 b] w fun e w' => e = Pair (subR a b) ∧ Below w.heap.size w w' := by
  cases h : (amt a && amt b)
  · have hr : subR a b = (0, 1) := by simp only [subR, h, Bool.false_eq_true, if_false]
    have H := Lib.hid h; have HR := Lib.hid hr; clear h hr
    go_enter Try.func22, Try.ntmps22
    go_wp2_with fail
    refine (both_any a b _).mono ?_
    rintro e w' ⟨rfl, rfl⟩
    rw [H.out]
    go_wp2_with fail
    go_ret2
    exact ⟨pair_of HR.out, Below.refl _ _⟩
  · obtain ⟨_, hb⟩ := (Bool.and_eq_true _ _).mp h
    obtain ⟨b3, b4⟩ := amt_iff.1 hb
    obtain ⟨x0, x1⟩ := mag_bd a1 a2
    obtain ⟨y0, y1⟩ := mag_bd (a := -b) (by omega) (by omega)
    obtain ⟨z0, z1⟩ := addW_bd (s := decide (a < 0)) (t := decide (-b < 0)) x0 y0
    have hr : subR a b = toldW (addW (decide (a < 0)) (mag a) (decide (-b < 0)) (mag (-b))).1 (addW (decide (a < 0)) (mag a) (decide (-b < 0)) (mag (-b))).2 := by
      rw [toldW_eq z0, valW_add, mag_val, mag_val]
      simp only [subR, h, if_true]; rfl
    have ho1 := fun W => of_any a W a1 a2
    have ho2 := fun W => of_any (-b) W (by omega) (by omega)
    generalize decide (a < 0) = sa at *
    generalize decide (-b < 0) = sb at *
    generalize mag a = ma at *
    generalize mag (-b) = mb at *
    have O1 := Lib.hid ho1; have O2 := Lib.hid ho2
    have H := Lib.hid h; have HR := Lib.hid hr; clear h hr hb ho1 ho2
    go_enter Try.func22, Try.ntmps22
    go_wp2_with fail
    refine (both_any a b _).mono ?_
    rintro e w' ⟨rfl, rfl⟩
    rw [H.out]
    go_wp2_with fail
    refine (O1.out _).mono ?_
    rintro e w1 ⟨rfl, hb1⟩
    go_wp2_with fail
    refine (O2.out _).mono ?_
    rintro e w2 ⟨rfl, hb2⟩
    go_wp2_with fail
    refine (wadd_any _ _ _ _ _ x0 y0 (by omega)).mono ?_
    rintro e w3 ⟨rfl, hb3⟩
    go_wp2_with fail
    refine (wtold_any _ _ _ z0 (by omega)).mono ?_
    rintro e w4 ⟨rfl, hb4⟩
    unfold Pair
    go_wp2_with fail
    go_ret2
    have k1 := hb1.size
    have k2 := hb2.size
    have k3 := hb3.size
    exact ⟨pair_of HR.out, ((hb1.trans (hb2.mono k1)).trans (hb3.mono (by omega))).trans (hb4.mono (by omega))⟩

theorem valW_mul (a b : Int) : valW (decide (a < 0) != decide (b < 0)) (mag a * mag b) = a * b := by
  unfold valW mag
  by_cases h : a < 0 <;> by_cases g : b < 0 <;> simp [h, g, Int.neg_mul, Int.mul_neg]

theorem mag_mul {a b : Int} (a1 : -9223372036854775808 ≤ a) (a2 : a ≤ 9223372036854775807) (b1 : -9223372036854775808 ≤ b) (b2 : b ≤ 9223372036854775807) : 0 ≤ mag a * mag b ∧ mag a * mag b < 340282366920938463463374607431768211456 := by
  obtain ⟨x0, x1⟩ := mag_bd a1 a2
  obtain ⟨y0, y1⟩ := mag_bd b1 b2
  obtain ⟨m0, m1⟩ := mul_bd x0 y0 x1 y1
  exact ⟨m0, by omega⟩

set_option maxHeartbeats 800000 in
theorem refMul_any (a b : Int) (w : World) (a1 : -9223372036854775808 ≤ a) (a2 : a ≤ 9223372036854775807) (b1 : -9223372036854775808 ≤ b) (b2 : b ≤ 9223372036854775807) :
    Calls Try.prog 23 #[.int .i64 a, .int .i64 b] w fun e w' => e = Pair (mulDivR a b 1) ∧ Below w.heap.size w w' := by
  cases h : (amt a && amt b)
  · have hr : mulDivR a b 1 = (0, 1) := by simp [mulDivR_eq, h]
    have H := Lib.hid h; have HR := Lib.hid hr; clear h hr
    go_enter Try.func23, Try.ntmps23
    go_wp2_with fail
    refine (both_any a b _).mono ?_
    rintro e w' ⟨rfl, rfl⟩
    rw [H.out]
    go_wp2_with fail
    go_ret2
    exact ⟨pair_of HR.out, Below.refl _ _⟩
  · obtain ⟨x0, x1⟩ := mag_bd a1 a2
    obtain ⟨y0, y1⟩ := mag_bd b1 b2
    obtain ⟨z0, z1⟩ := mag_mul a1 a2 b1 b2
    have hr : mulDivR a b 1 = toldW (decide (a < 0) != decide (b < 0)) (mag a * mag b) := by
      obtain ⟨ha, hb⟩ := (Bool.and_eq_true _ _).mp h
      have hc : amt 1 = true := by decide
      rw [toldW_eq z0, valW_mul, mulDivR_eq]
      simp [ha, hb, hc]
    have H := Lib.hid h; have HR := Lib.hid hr; clear h hr
    go_enter Try.func23, Try.ntmps23
    go_wp2_with fail
    refine (both_any a b _).mono ?_
    rintro e w' ⟨rfl, rfl⟩
    rw [H.out]
    go_wp2_with fail
    refine (of_any a _ a1 a2).mono ?_
    rintro e w1 ⟨rfl, hb1⟩
    go_wp2_with fail
    refine (of_any b _ b1 b2).mono ?_
    rintro e w2 ⟨rfl, hb2⟩
    go_wp2_with fail
    refine (wmul_any _ _ _ _ _ x0 (by omega) y0 (by omega)).mono ?_
    rintro e w3 ⟨rfl, hb3⟩
    go_wp2_with fail
    refine (wtold_any _ _ _ z0 z1).mono ?_
    rintro e w4 ⟨rfl, hb4⟩
    unfold Pair
    go_wp2_with fail
    go_ret2
    have k1 := hb1.size
    have k2 := hb2.size
    have k3 := hb3.size
    exact ⟨pair_of HR.out, ((hb1.trans (hb2.mono k1)).trans (hb3.mono (by omega))).trans (hb4.mono (by omega))⟩

theorem divW_bd {s : Bool} {n c : Int} (n0 : 0 ≤ n) (n1 : n < 340282366920938463463374607431768211456) (c0 : 1 ≤ c) : 0 ≤ (divW s n c).1.2 ∧ (divW s n c).1.2 < 340282366920938463463374607431768211456 := by
  have e := Int.mul_ediv_add_emod n c
  have r0 := Int.emod_nonneg n (b := c) (by omega)
  have q0 : 0 ≤ n / c := Int.ediv_nonneg n0 (by omega)
  have := Int.mul_le_mul_of_nonneg_right (a := 1) (b := c) (c := n / c) c0 q0
  unfold divW
  split
  · rename_i h
    simp at h
    simp; omega
  · simp; omega

set_option maxHeartbeats 800000 in
theorem refMulDiv_any (a b c : Int) (w : World) (a1 : -9223372036854775808 ≤ a) (a2 : a ≤ 9223372036854775807) (b1 : -9223372036854775808 ≤ b) (b2 : b ≤ 9223372036854775807) :
    Calls Try.prog 15 #[.int .i64 a, .int .i64 b, .int .i64 c] w fun e w' => e = Pair (mulDivR a b c) ∧ Below w.heap.size w w' := by
  cases h : (amt a && amt b)
  · have hr : mulDivR a b c = (0, 1) := by simp [mulDivR_eq, h]
    have H := Lib.hid h; have HR := Lib.hid hr; clear h hr
    go_enter Try.func15, Try.ntmps15
    go_wp2_with fail
    refine (both_any a b _).mono ?_
    rintro e w' ⟨rfl, rfl⟩
    rw [H.out]
    go_wp2_with fail
    refine (isAmt_any c _).mono ?_
    rintro e w' ⟨rfl, rfl⟩
    go_wp2_with fail
    go_ret2
    exact ⟨pair_of HR.out, Below.refl _ _⟩
  · cases hc : amt c
    · have hr : mulDivR a b c = (0, 1) := by simp [mulDivR_eq, hc]
      have H := Lib.hid h; have HR := Lib.hid hr; have HC := Lib.hid hc; clear h hr hc
      go_enter Try.func15, Try.ntmps15
      go_wp2_with fail
      refine (both_any a b _).mono ?_
      rintro e w' ⟨rfl, rfl⟩
      rw [H.out]
      go_wp2_with fail
      refine (isAmt_any c _).mono ?_
      rintro e w' ⟨rfl, rfl⟩
      rw [HC.out]
      go_wp2_with fail
      go_ret2
      exact ⟨pair_of HR.out, Below.refl _ _⟩
    · by_cases h1 : c < 1
      · have hr : mulDivR a b c = (0, 1) := by simp [mulDivR_eq]; omega
        have H := Lib.hid h; have HR := Lib.hid hr; have HC := Lib.hid hc; clear h hr hc
        go_enter Try.func15, Try.ntmps15
        go_wp2_with fail
        refine (both_any a b _).mono ?_
        rintro e w' ⟨rfl, rfl⟩
        rw [H.out]
        go_wp2_with fail
        refine (isAmt_any c _).mono ?_
        rintro e w' ⟨rfl, rfl⟩
        rw [HC.out]
        go_wp2_with fail
        go_ret2
        exact ⟨pair_of HR.out, Below.refl _ _⟩
      · obtain ⟨_, c2⟩ := amt_iff.1 hc
        have c1 : 1 ≤ c := by omega
        obtain ⟨x0, x1⟩ := mag_bd a1 a2
        obtain ⟨y0, y1⟩ := mag_bd b1 b2
        obtain ⟨z0, z1⟩ := mag_mul a1 a2 b1 b2
        obtain ⟨d0, d1⟩ := divW_bd (s := decide (a < 0) != decide (b < 0)) z0 z1 c1
        have hr : mulDivR a b c = toldW (divW (decide (a < 0) != decide (b < 0)) (mag a * mag b) c).1.1 (divW (decide (a < 0) != decide (b < 0)) (mag a * mag b) c).1.2 := by
          rw [toldW_eq d0, (divW_val c1).1, valW_mul, mulDivR_eq]
          simp [h, hc, c1]
        have hd := fun W => wdiv_any (decide (a < 0) != decide (b < 0)) (mag a * mag b) c W z0 z1 c1 c2
        generalize divW (decide (a < 0) != decide (b < 0)) (mag a * mag b) c = r at *
        obtain ⟨⟨s, q⟩, rest⟩ := r
        simp only [] at d0 d1 hr hd
        have ht := fun W => wtold_any s q W d0 d1
        have H := Lib.hid h; have HR := Lib.hid hr; have HC := Lib.hid hc; have HD := Lib.hid hd; clear h hr hc hd
        unfold Wide at ht
        have HT := Lib.hid ht; clear ht
        go_enter Try.func15, Try.ntmps15
        go_wp2_with fail
        refine (both_any a b _).mono ?_
        rintro e w' ⟨rfl, rfl⟩
        rw [H.out]
        go_wp2_with fail
        refine (isAmt_any c _).mono ?_
        rintro e w' ⟨rfl, rfl⟩
        rw [HC.out]
        go_wp2_with fail
        refine (of_any a _ a1 a2).mono ?_
        rintro e w1 ⟨rfl, hb1⟩
        go_wp2_with fail
        refine (of_any b _ b1 b2).mono ?_
        rintro e w2 ⟨rfl, hb2⟩
        go_wp2_with fail
        refine (wmul_any _ _ _ _ _ x0 (by omega) y0 (by omega)).mono ?_
        rintro e w3 ⟨rfl, hb3⟩
        go_wp2_with fail
        refine (HD.out _).mono ?_
        rintro e w4 ⟨rfl, hb4⟩
        have k1 := hb1.size
        have k2 := hb2.size
        have k3 := hb3.size
        have k4 := hb4.size
        have hb := ((hb1.trans (hb2.mono k1)).trans (hb3.mono (by omega))).trans (hb4.mono (by omega))
        rw [show Wide s q = Value.agg #[.bool s, .int .u64 (dig0 q), .int .u64 (dig1 q), .int .u64 (dig2 q), .int .u64 (dig3 q)] from rfl]
        go_wp2_with fail
        refine (HT.out _).mono ?_
        rintro e w5 ⟨rfl, hb5⟩
        unfold Pair
        go_wp2_with fail
        go_ret2
        exact ⟨pair_of HR.out, (hb.alloc (by omega) _).trans (hb5.mono (by simp; omega))⟩
end Go.Proofs.Ytlnnbadfbcokaaa
