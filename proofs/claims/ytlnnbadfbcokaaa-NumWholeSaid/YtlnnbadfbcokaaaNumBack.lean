/- The law NumBack: what was added is subtracted again; a product's part by one factor is the other one: the walk. -/
import Derived.WalkKit
import Derived.Outline
import Derived.Lib.Hide
import Derived.Test.YtlnnbadfbcokaaaNumB
namespace Go.Proofs.Ytlnnbadfbcokaaa
open Go.RowKit

theorem awake01 (w : World) : Calls Try.prog 16 #[] w fun e w' => e = .returned (.bool true) ∧ Below w.heap.size w w' := by
  have hr : addR 2 3 = (5, 0) := by decide
  have HR := Lib.hid hr; clear hr
  go_enter Try.func16, Try.ntmps16
  go_wp2_with fail
  refine (add_any 2 3 _ (by omega) (by omega) (by omega) (by omega)).mono ?_
  rintro e w1 ⟨rfl, hb⟩
  rw [HR.out]; unfold Pair
  go_wp2_with fail
  go_ret
  exact ⟨rfl, hb⟩

theorem add_back {a b : Int} (h : (addR a b).2 = 0) : subR (addR a b).1 b = (a, 0) ∧ -4611686018427387904 ≤ (addR a b).1 ∧ (addR a b).1 ≤ 4611686018427387904 := by
  unfold addR at h ⊢
  by_cases c : (amt a && amt b) = true
  · rw [if_pos c] at h ⊢
    unfold told at h ⊢
    by_cases d : amt (a + b) = true
    · rw [if_pos d] at h ⊢
      obtain ⟨c1, c2⟩ := (Bool.and_eq_true _ _).mp c
      simp only [subR, d, c2, Bool.and_self, if_true, told, show a + b - b = a from by omega, c1]
      exact ⟨trivial, amt_iff.1 d⟩
    · rw [if_neg d] at h; simp at h
  · rw [if_neg c] at h; simp at h

theorem mul_back {a b : Int} (b1 : 1 ≤ b) (b2 : b ≤ 4611686018427387904) (a1 : -4611686018427387904 ≤ a) (a2 : a ≤ 4611686018427387904) : mulDivR a b b = (a, 0) := by
  have h : (amt a && amt b && amt b && decide (1 ≤ b)) = true := by
    have h1 : amt a = true := amt_iff.2 ⟨a1, a2⟩
    have h2 : amt b = true := amt_iff.2 ⟨by omega, b2⟩
    simp [h1, h2, b1]
  unfold mulDivR
  rw [if_pos h, dvd_in (q := a) (r := 0) b1 (by omega) (by omega) (by omega) a1 a2]

set_option maxHeartbeats 1600000 in
theorem numBack_walk (a b : Int) (w : World) (a1 : -9223372036854775808 ≤ a) (a2 : a ≤ 9223372036854775807) (b1 : -9223372036854775808 ≤ b) (b2 : b ≤ 9223372036854775807) :
    Calls Try.prog 6 #[.int .i64 a, .int .i64 b] w fun e w' => e = .returned (.bool true) ∧ Below w.heap.size w w' := by
  have hback := @add_back a b
  generalize hr : addR a b = r at *
  obtain ⟨s, se⟩ := r
  have HR := Lib.hid hr
  have HB := Lib.hid hback
  clear hr hback
  go_enter Try.func6, Try.ntmps6
  go_wp2_with fail
  refine (awake01 _).mono ?_
  rintro e w1 ⟨rfl, hb1⟩
  go_wp2_with fail
  refine (add_any a b _ a1 a2 b1 b2).mono ?_
  rintro e w2 ⟨rfl, hb2⟩
  rw [HR.out]; unfold Pair
  have hb : Below w.heap.size w w2 := hb1.trans (hb2.mono hb1.size)
  clear hb1 hb2
  by_cases h0 : se = 0
  · obtain ⟨hs, s1, s2⟩ := HB.out h0
    have HS := Lib.hid hs
    subst h0
    clear hs HB
    go_wp2_with fail
    refine (sub_any s b _ (by omega) (by omega) b1 b2).mono ?_
    rintro e w3 ⟨rfl, hb3⟩
    rw [HS.out]; unfold Pair
    have hb' : Below w.heap.size w w3 := hb.trans (hb3.mono hb.size)
    clear hb3 hb
    by_cases k1 : b < 1
    · go_wp2_with fail
      go_ret
      exact ⟨rfl, hb'⟩
    · by_cases k2 : 4611686018427387904 < b
      · go_wp2_with fail
        go_ret
        exact ⟨rfl, hb'⟩
      · by_cases k3 : 4611686018427387904 < a
        · go_wp2_with fail
          go_ret
          exact ⟨rfl, hb'⟩
        · by_cases k4 : a < -4611686018427387904
          · go_wp2_with fail
            go_ret
            exact ⟨rfl, hb'⟩
          · have hm := mul_back (a := a) (b := b) (by omega) (by omega) (by omega) (by omega)
            have HM := Lib.hid hm; clear hm
            go_wp2_with fail
            refine (mulDiv_any a b b _ a1 a2 b1 b2 b1 b2).mono ?_
            rintro e w4 ⟨rfl, hb4⟩
            rw [HM.out]; unfold Pair
            go_wp2_with fail
            go_ret
            exact ⟨rfl, hb'.trans (hb4.mono hb'.size)⟩
  · have hne : (se == 0) = false := by simpa using h0
    by_cases k1 : b < 1
    · go_wp2_with fail
      go_ret
      exact ⟨rfl, hb⟩
    · by_cases k2 : 4611686018427387904 < b
      · go_wp2_with fail
        go_ret
        exact ⟨rfl, hb⟩
      · by_cases k3 : 4611686018427387904 < a
        · go_wp2_with fail
          go_ret
          exact ⟨rfl, hb⟩
        · by_cases k4 : a < -4611686018427387904
          · go_wp2_with fail
            go_ret
            exact ⟨rfl, hb⟩
          · have hm := mul_back (a := a) (b := b) (by omega) (by omega) (by omega) (by omega)
            have HM := Lib.hid hm; clear hm
            go_wp2_with fail
            refine (mulDiv_any a b b _ a1 a2 b1 b2 b1 b2).mono ?_
            rintro e w4 ⟨rfl, hb4⟩
            rw [HM.out]; unfold Pair
            go_wp2_with fail
            go_ret
            exact ⟨rfl, hb.trans (hb4.mono hb.size)⟩
end Go.Proofs.Ytlnnbadfbcokaaa
