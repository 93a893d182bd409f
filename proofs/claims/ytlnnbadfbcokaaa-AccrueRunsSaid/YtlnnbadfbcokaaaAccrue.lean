/- Package accrue: Simple over any numbers; the law AccrueRises. -/
import Derived.WalkKit
import Derived.Outline
import Derived.Lib.Hide
import Derived.Test.YtlnnbadfbcokaaaNumB
namespace Go.Proofs.Ytlnnbadfbcokaaa
open Go.RowKit

def isPrin (a : Int) : Bool := decide (0 ≤ a ∧ a ≤ 4611686018427387904)
def isRate (a : Int) : Bool := decide (0 ≤ a ∧ a ≤ 100000)
def isDay (a : Int) : Bool := decide (0 ≤ a ∧ a ≤ 3652058)
def simpleR (p bp d : Int) : Int × Int := if isPrin p && (isRate bp && isDay d) then mulDivR p (bp * d) 3650000 else (0, 1)

theorem prin_any (a : Int) (w : World) : Calls Try.prog 42 #[.int .i64 a] w fun e w' => e = .returned (.bool (isPrin a)) ∧ w = w' := by
  by_cases h : 0 ≤ a
  · by_cases h2 : a ≤ 4611686018427387904
    · have hr : isPrin a = true := by simp [isPrin]; omega
      have HR := Lib.hid hr; clear hr
      go_enter Try.func42, Try.ntmps42
      go_wp2
      go_ret
      exact ⟨ret_bool HR.out.symm, rfl⟩
    · have hr : isPrin a = false := by simp [isPrin]; omega
      have HR := Lib.hid hr; clear hr
      go_enter Try.func42, Try.ntmps42
      go_wp2
      go_ret
      exact ⟨ret_bool HR.out.symm, rfl⟩
  · have hr : isPrin a = false := by simp [isPrin]; omega
    have HR := Lib.hid hr; clear hr
    go_enter Try.func42, Try.ntmps42
    go_wp2
    go_ret
    exact ⟨ret_bool HR.out.symm, rfl⟩

theorem rate_any (a : Int) (w : World) : Calls Try.prog 43 #[.int .i64 a] w fun e w' => e = .returned (.bool (isRate a)) ∧ w = w' := by
  by_cases h : 0 ≤ a
  · by_cases h2 : a ≤ 100000
    · have hr : isRate a = true := by simp [isRate]; omega
      have HR := Lib.hid hr; clear hr
      go_enter Try.func43, Try.ntmps43
      go_wp2
      go_ret
      exact ⟨ret_bool HR.out.symm, rfl⟩
    · have hr : isRate a = false := by simp [isRate]; omega
      have HR := Lib.hid hr; clear hr
      go_enter Try.func43, Try.ntmps43
      go_wp2
      go_ret
      exact ⟨ret_bool HR.out.symm, rfl⟩
  · have hr : isRate a = false := by simp [isRate]; omega
    have HR := Lib.hid hr; clear hr
    go_enter Try.func43, Try.ntmps43
    go_wp2
    go_ret
    exact ⟨ret_bool HR.out.symm, rfl⟩

theorem day_any (a : Int) (w : World) : Calls Try.prog 44 #[.int .i64 a] w fun e w' => e = .returned (.bool (isDay a)) ∧ w = w' := by
  by_cases h : 0 ≤ a
  · by_cases h2 : a ≤ 3652058
    · have hr : isDay a = true := by simp [isDay]; omega
      have HR := Lib.hid hr; clear hr
      go_enter Try.func44, Try.ntmps44
      go_wp2
      go_ret
      exact ⟨ret_bool HR.out.symm, rfl⟩
    · have hr : isDay a = false := by simp [isDay]; omega
      have HR := Lib.hid hr; clear hr
      go_enter Try.func44, Try.ntmps44
      go_wp2
      go_ret
      exact ⟨ret_bool HR.out.symm, rfl⟩
  · have hr : isDay a = false := by simp [isDay]; omega
    have HR := Lib.hid hr; clear hr
    go_enter Try.func44, Try.ntmps44
    go_wp2
    go_ret
    exact ⟨ret_bool HR.out.symm, rfl⟩

theorem isPrin_iff {a : Int} : isPrin a = true ↔ 0 ≤ a ∧ a ≤ 4611686018427387904 := by simp [isPrin]
theorem isRate_iff {a : Int} : isRate a = true ↔ 0 ≤ a ∧ a ≤ 100000 := by simp [isRate]
theorem isDay_iff {a : Int} : isDay a = true ↔ 0 ≤ a ∧ a ≤ 3652058 := by simp [isDay]

set_option maxHeartbeats 800000 in
theorem simple_any (p bp d : Int) (w : World) (p1 : -9223372036854775808 ≤ p) (p2 : p ≤ 9223372036854775807) :
    Calls Try.prog 13 #[.int .i64 p, .int .i64 bp, .int .i64 d] w fun e w' => e = Pair (simpleR p bp d) ∧ Below w.heap.size w w' := by
  cases hP : isPrin p with
  | false =>
    have hr : simpleR p bp d = (0, 1) := by simp [simpleR, hP]
    have HR := Lib.hid hr; have HP := Lib.hid hP; clear hr hP
    go_enter Try.func13, Try.ntmps13
    go_wp2_with fail
    refine (prin_any p _).mono ?_
    rintro e w' ⟨rfl, rfl⟩
    rw [HP.out]
    go_wp2_with fail
    go_ret2
    exact ⟨pair_of HR.out, Below.refl _ _⟩
  | true =>
    cases hR : isRate bp with
    | false =>
      have hr : simpleR p bp d = (0, 1) := by simp [simpleR, hR]
      have HR := Lib.hid hr; have HP := Lib.hid hP; have HQ := Lib.hid hR; clear hr hP hR
      go_enter Try.func13, Try.ntmps13
      go_wp2_with fail
      refine (prin_any p _).mono ?_
      rintro e w' ⟨rfl, rfl⟩
      rw [HP.out]
      go_wp2_with fail
      refine (rate_any bp _).mono ?_
      rintro e w' ⟨rfl, rfl⟩
      rw [HQ.out]
      go_wp2_with fail
      go_ret2
      exact ⟨pair_of HR.out, Below.refl _ _⟩
    | true =>
      cases hD : isDay d with
      | false =>
        have hr : simpleR p bp d = (0, 1) := by simp [simpleR, hD]
        have HR := Lib.hid hr; have HP := Lib.hid hP; have HQ := Lib.hid hR; have HD := Lib.hid hD; clear hr hP hR hD
        go_enter Try.func13, Try.ntmps13
        go_wp2_with fail
        refine (prin_any p _).mono ?_
        rintro e w' ⟨rfl, rfl⟩
        rw [HP.out]
        go_wp2_with fail
        refine (rate_any bp _).mono ?_
        rintro e w' ⟨rfl, rfl⟩
        rw [HQ.out]
        go_wp2_with fail
        refine (day_any d _).mono ?_
        rintro e w' ⟨rfl, rfl⟩
        rw [HD.out]
        go_wp2_with fail
        go_ret2
        exact ⟨pair_of HR.out, Below.refl _ _⟩
      | true =>
        have hr : simpleR p bp d = mulDivR p (bp * d) 3650000 := by simp [simpleR, hP, hR, hD]
        obtain ⟨b1, b2⟩ := isRate_iff.1 hR
        obtain ⟨d1, d2⟩ := isDay_iff.1 hD
        obtain ⟨m1, m2⟩ := mul_bd b1 d1 b2 d2
        have HR := Lib.hid hr; have HP := Lib.hid hP; have HQ := Lib.hid hR; have HD := Lib.hid hD; clear hr hP hR hD
        go_enter Try.func13, Try.ntmps13
        go_wp2_with fail
        refine (prin_any p _).mono ?_
        rintro e w' ⟨rfl, rfl⟩
        rw [HP.out]
        go_wp2_with fail
        refine (rate_any bp _).mono ?_
        rintro e w' ⟨rfl, rfl⟩
        rw [HQ.out]
        go_wp2_with fail
        refine (day_any d _).mono ?_
        rintro e w' ⟨rfl, rfl⟩
        rw [HD.out]
        go_wp2_with fail
        refine (mulDiv_any p (bp * d) 3650000 _ p1 p2 (by omega) (by omega) (by omega) (by omega)).mono ?_
        rintro e w1 ⟨rfl, hb⟩
        unfold Pair
        go_wp2_with fail
        go_ret2
        exact ⟨pair_of HR.out, hb⟩

theorem awake18 (w : World) : Calls Try.prog 12 #[] w fun e w' => e = .returned (.bool true) ∧ Below w.heap.size w w' := by
  have hr : simpleR 10000 365 100 = (100, 0) := by decide
  have HR := Lib.hid hr; clear hr
  go_enter Try.func12, Try.ntmps12
  go_wp2_with fail
  refine (simple_any 10000 365 100 _ (by omega) (by omega)).mono ?_
  rintro e w1 ⟨rfl, hb⟩
  rw [HR.out]; unfold Pair
  go_wp2_with fail
  go_ret
  exact ⟨rfl, hb⟩

theorem simple_ok {p bp d : Int} (h : (simpleR p bp d).2 = 0) : (0 ≤ p ∧ p ≤ 4611686018427387904) ∧ (0 ≤ bp ∧ bp ≤ 100000) ∧ (0 ≤ d ∧ d ≤ 3652058) ∧ (simpleR p bp d).1 = p * (bp * d) / 3650000 := by
  unfold simpleR at h ⊢
  by_cases c : (isPrin p && (isRate bp && isDay d)) = true
  · rw [if_pos c] at h ⊢
    simp only [Bool.and_eq_true] at c
    refine ⟨isPrin_iff.1 c.1, isRate_iff.1 c.2.1, isDay_iff.1 c.2.2, ?_⟩
    unfold mulDivR at h ⊢
    split at h
    · rename_i c2
      rw [if_pos c2]
      unfold dvd at h ⊢
      split at h
      · rename_i c3
        rw [if_pos c3]
      · simp at h
    · simp at h
  · rw [if_neg c] at h
    simp at h

theorem simple_bd {p bp d : Int} : -4611686018427387904 ≤ (simpleR p bp d).1 ∧ (simpleR p bp d).1 ≤ 4611686018427387904 := by
  unfold simpleR mulDivR dvd
  split
  · split
    · simp only []
      split
      · assumption
      · simp
    · simp
  · simp

theorem simple_rises {p bp d p' bp' d' : Int} (h : (simpleR p bp d).2 = 0) (h' : (simpleR p' bp' d').2 = 0) (a : p ≤ p') (b : bp ≤ bp') (c : d ≤ d') : (simpleR p bp d).1 ≤ (simpleR p' bp' d').1 := by
  obtain ⟨⟨p0, _⟩, ⟨b0, _⟩, ⟨d0, _⟩, e⟩ := simple_ok h
  obtain ⟨⟨p0', _⟩, ⟨b0', _⟩, ⟨d0', _⟩, e'⟩ := simple_ok h'
  rw [e, e']
  apply Int.ediv_le_ediv (by omega)
  exact Int.mul_le_mul a (Int.mul_le_mul b c d0 b0') (Int.mul_nonneg b0 d0) p0'
end Go.Proofs.Ytlnnbadfbcokaaa
