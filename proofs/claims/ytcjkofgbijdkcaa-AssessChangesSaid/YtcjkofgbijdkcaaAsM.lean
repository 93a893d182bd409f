/- Package assess and its reference: how many months one day is behind another one. -/
import Derived.WalkKit
import Derived.Outline
import Derived.Lib.Hide
import Derived.Handy
import Derived.Test.YtcjkofgbijdkcaaCivE
import Derived.Test.YtcjkofgbijdkcaaRefCiv
import Derived.Test.YtcjkofgbijdkcaaCivL
import Derived.Test.YtcjkofgbijdkcaaNumB
namespace Go.Proofs.Ytcjkofgbijdkcaa
open Go.RowKit

theorem isDy_iff {n : Int} : isDy n = true ↔ 0 ≤ n ∧ n ≤ 3652058 := by simp [isDy]
theorem isDy_not {n : Int} : isDy n = false ↔ ¬ (0 ≤ n ∧ n ≤ 3652058) := by simp [isDy]

theorem asDay_two (a b : Int) (w : World) : Calls Try.prog 23 #[.slice (some ⟨w.heap.size, 0, none⟩) 2 2] (w.alloc (.cells #[.int .i64 a, .int .i64 b] 3)) fun e w' =>
    e = .returned (.bool (isDy a && isDy b)) ∧ w.alloc (.cells #[.int .i64 a, .int .i64 b] 3) = w' := by
  have e0 : (w.alloc (.cells #[.int .i64 a, .int .i64 b] 3)).cell? ⟨w.heap.size, 0, none⟩ = some (.int .i64 a) := by simp [go_sem]
  have e1 : (w.alloc (.cells #[.int .i64 a, .int .i64 b] 3)).cell? ⟨w.heap.size, 1, none⟩ = some (.int .i64 b) := by simp [go_sem]
  generalize w.alloc (.cells #[.int .i64 a, .int .i64 b] 3) = W at *
  generalize w.heap.size = g at *
  cases ha : isDy a with
  | false =>
    have ha' := isDy_not.1 ha
    clear ha
    go_enter Try.func23, Try.ntmps23
    go_wp2_with fail
    refine wp_loop_rounds 3 ?_
    rw [rounds_succ]
    by_cases c : a < 0
    · go_wp2_with fail
      go_ret
      exact ⟨rfl, rfl⟩
    · have c2 : 3652058 < a := by omega
      go_wp2_with fail
      go_ret
      exact ⟨rfl, rfl⟩
  | true =>
    have ha' := isDy_iff.1 ha
    clear ha
    cases hb : isDy b with
    | false =>
      have hb' := isDy_not.1 hb
      clear hb
      go_enter Try.func23, Try.ntmps23
      go_wp2_with fail
      refine wp_loop_rounds 3 ?_
      rw [rounds_succ]
      go_wp2_with fail
      rw [rounds_succ]
      by_cases c : b < 0
      · go_wp2_with fail
        go_ret
        exact ⟨rfl, rfl⟩
      · have c2 : 3652058 < b := by omega
        go_wp2_with fail
        go_ret
        exact ⟨rfl, rfl⟩
    | true =>
      have hb' := isDy_iff.1 hb
      clear hb
      go_enter Try.func23, Try.ntmps23
      go_wp2_with fail
      refine wp_loop_rounds 3 ?_
      rw [rounds_succ]
      go_wp2_with fail
      rw [rounds_succ]
      go_wp2_with fail
      rw [rounds_succ]
      go_wp2_with fail
      go_ret
      exact ⟨rfl, rfl⟩

set_option maxRecDepth 100000 in
set_option maxHeartbeats 1000000 in
theorem asMonths_any (a b : Int) (w : World) (a1 : -9223372036854775808 ≤ a) (a2 : a ≤ 9223372036854775807) (b1 : -9223372036854775808 ≤ b) (b2 : b ≤ 9223372036854775807) :
    Calls Try.prog 11 #[.int .i64 a, .int .i64 b] w fun e w' => e = Pair (monthsL a b) ∧ Below w.heap.size w w' := by
  cases h : isDy a && isDy b with
  | false =>
    have hr : monthsL a b = (0, 1) := by simp [monthsL, h]
    have H := Lib.hid h; have HR := Lib.hid hr
    clear h hr
    go_enter Try.func11, Try.ntmps11
    go_wp2_with fail
    refine (asDay_two a b _).mono ?_
    rintro e w' ⟨rfl, rfl⟩
    rw [H.out]
    go_wp2_with fail
    go_ret2
    exact ⟨pair_of HR.out, (Below.refl _ _).alloc (Nat.le_refl _) _⟩
  | true =>
    have hr : monthsL a b = (lateF a b, 0) := by simp [monthsL, h]
    obtain ⟨ha, hb⟩ := (Bool.and_eq_true _ _).mp h
    obtain ⟨a3, a4⟩ := isDy_iff.1 ha
    obtain ⟨b3, b4⟩ := isDy_iff.1 hb
    have H := Lib.hid h
    clear h ha hb
    by_cases c : b ≤ a
    · have HR := Lib.hid (hr.trans (by rw [lateF_none c]))
      clear hr
      go_enter Try.func11, Try.ntmps11
      go_wp2_with fail
      refine (asDay_two a b _).mono ?_
      rintro e w' ⟨rfl, rfl⟩
      rw [H.out]
      go_wp2_with fail
      go_ret2
      exact ⟨pair_of HR.out, (Below.refl _ _).alloc (Nat.le_refl _) _⟩
    · have HR := Lib.hid hr
      clear hr
      go_enter Try.func11, Try.ntmps11
      go_wp2_with fail
      refine (asDay_two a b _).mono ?_
      rintro e w' ⟨rfl, rfl⟩
      rw [H.out]
      have hb0 : Below w.heap.size w (w.alloc (.cells #[.int .i64 a, .int .i64 b] 3)) := (Below.refl _ _).alloc (Nat.le_refl _) _
      generalize w.alloc (.cells #[.int .i64 a, .int .i64 b] 3) = w1 at *
      have HB0 := Lib.hid hb0
      clear hb0
      go_wp2_with fail
      refine (civDate_ok a _ a3 a4).mono ?_
      rintro e w2 ⟨y, m, d, hd, rfl, hb1⟩
      have HD := Lib.hid hd
      have y1 := hd.y1; have y2 := hd.y2; have m1 := hd.m1; have m2 := hd.m2; have d1 := hd.d1
      clear hd
      have HB1 := Lib.hid hb1
      clear hb1
      go_wp2_with fail
      refine (civDate_ok b _ b3 b4).mono ?_
      rintro e w3 ⟨z, k, f, he, rfl, hb2⟩
      have HE := Lib.hid he
      have z1 := he.y1; have z2 := he.y2; have k1 := he.m1; have k2 := he.m2; have f1 := he.d1
      clear he
      have HB2 := Lib.hid hb2
      clear hb2
      have HL : Hid (lateF a b = 12 * (z - y) + k - m + (if d < f then 1 else 0)) := Lib.hid (lateF_of HD.out HE.out (by omega))
      have HA : Hid ((monthsR y m d (12 * (z - y) + k - m)).2 = 0 ∧ (d < f ↔ (monthsR y m d (12 * (z - y) + k - m)).1 < b)) := by
        refine Lib.hid ?_
        have hd := HD.out
        have he := HE.out
        have t1 : (12 * y + m - 1 + (12 * (z - y) + k - m)) / 12 = z := by omega
        have t2 : (12 * y + m - 1 + (12 * (z - y) + k - m)) % 12 + 1 = k := by omega
        have e1 : monthsR y m d (12 * (z - y) + k - m) = (dayN z k (min d (lastD z k)), 0) := by
          simp only [monthsR]; rw [t1, t2, if_pos ⟨z1, z2⟩]
        have q1 := he.eq
        have q2 := he.d2
        rw [e1]
        unfold dayN at q1 ⊢
        refine ⟨rfl, ?_⟩
        simp only []
        omega
      go_wp2_with fail
      generalize hg : 12 * (z - y) + k - m = n0 at *
      have n1 : -119988 ≤ n0 ∧ n0 ≤ 119988 := by omega
      clear hg
      refine (civMonths_ok a n0 _ a3 a4 (by omega) (by omega)).mono ?_
      rintro e w4 ⟨y', m', d', hd', rfl, hb3⟩
      obtain ⟨rfl, rfl, rfl⟩ := HD.out.uniq hd'
      have HB3 := Lib.hid hb3
      clear hb3 hd'
      generalize hmr : monthsR y m d n0 = r at *
      obtain ⟨r1, r2⟩ := r
      simp only [] at HA ⊢
      obtain ⟨rfl, g2⟩ := HA.out
      have hbl : Below w.heap.size w w4 := ((HB0.out.trans (HB1.out.mono HB0.out.size)).trans (HB2.out.mono (Nat.le_trans HB0.out.size HB1.out.size))).trans (HB3.out.mono (Nat.le_trans HB0.out.size (Nat.le_trans HB1.out.size HB2.out.size)))
      have HBL := Lib.hid hbl
      clear HB0 HB1 HB2 HB3 hbl HA
      by_cases c2 : r1 < b
      · have hl : lateF a b = n0 + 1 := by rw [HL.out, if_pos (g2.2 c2)]
        have HF := Lib.hid hl
        clear hl g2
        go_wp2_with fail
        go_ret2
        exact ⟨pair_of (by rw [HR.out, HF.out]), HBL.out⟩
      · have hl : lateF a b = n0 := by rw [HL.out, if_neg (fun g => c2 (g2.1 g))]; omega
        have HF := Lib.hid hl
        clear hl g2
        go_wp2_with fail
        go_ret2
        exact ⟨pair_of (by rw [HR.out, HF.out]), HBL.out⟩
end Go.Proofs.Ytcjkofgbijdkcaa
