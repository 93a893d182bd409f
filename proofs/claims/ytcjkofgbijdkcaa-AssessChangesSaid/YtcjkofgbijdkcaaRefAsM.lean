/- Package tallageref16: how many months one day is behind another one. -/
import Derived.WalkKit
import Derived.Outline
import Derived.Lib.Hide
import Derived.Handy
import Derived.Test.YtcjkofgbijdkcaaAsM
namespace Go.Proofs.Ytcjkofgbijdkcaa
open Go.RowKit

theorem r16isDay_any (a : Int) (w : World) : Calls Try.prog 25 #[.int .i64 a] w fun e w' => e = .returned (.bool (isDy a)) ∧ w = w' := by
  by_cases h : 0 ≤ a
  · by_cases h2 : a ≤ 3652058
    · have hr : isDy a = true := by simp [isDy]; omega
      have HR := Lib.hid hr; clear hr
      go_enter Try.func25, Try.ntmps25
      go_wp2
      go_ret
      exact ⟨ret_bool HR.out.symm, rfl⟩
    · have hr : isDy a = false := by simp [isDy]; omega
      have HR := Lib.hid hr; clear hr
      go_enter Try.func25, Try.ntmps25
      go_wp2
      go_ret
      exact ⟨ret_bool HR.out.symm, rfl⟩
  · have hr : isDy a = false := by simp [isDy]; omega
    have HR := Lib.hid hr; clear hr
    go_enter Try.func25, Try.ntmps25
    go_wp2
    go_ret
    exact ⟨ret_bool HR.out.symm, rfl⟩

/-- what the reference's months tell: before the answer not yet, at it the first time -/
theorem steps_of {a b : Int} (ha : isDy a = true) (hb : isDy b = true) {y m d : Int} (h : IsDate a y m d) :
    (∀ l, 0 ≤ l → l < lateF a b → (monthsR y m d l).2 = 0 ∧ (monthsR y m d l).1 < b) ∧ (¬ (monthsR y m d (lateF a b)).2 = 0 ∨ b ≤ (monthsR y m d (lateF a b)).1) := by
  have hb' := isDy_iff.1 hb
  by_cases c : b ≤ a
  · rw [lateF_none c]
    refine ⟨fun l h1 h2 => by omega, .inr ?_⟩
    have e1 : monthsR y m d 0 = (a, 0) := by
      have := h.y1; have := h.y2; have := h.m1; have := h.m2; have := h.d2
      simp only [monthsR]
      rw [show (12 * y + m - 1 + 0) / 12 = y by omega, show (12 * y + m - 1 + 0) % 12 + 1 = m by omega, if_pos ⟨by omega, by omega⟩, show min d (lastD y m) = d by omega, ← h.eq]
    rw [e1]
    exact c
  · obtain ⟨z, k, e, he⟩ := date_ex b hb'.1 hb'.2
    rw [lateF_of h he (by omega)]
    exact ⟨fun l h1 h2 => months_before h he h1 h2, months_at h he⟩

set_option maxRecDepth 100000 in
set_option maxHeartbeats 1000000 in
theorem r16months_any (a b : Int) (w : World) (a1 : -9223372036854775808 ≤ a) (a2 : a ≤ 9223372036854775807) (b1 : -9223372036854775808 ≤ b) (b2 : b ≤ 9223372036854775807) :
    Calls Try.prog 12 #[.int .i64 a, .int .i64 b] w fun e w' => e = Pair (monthsL a b) ∧ w = w' := by
  cases ha : isDy a with
  | false =>
    have hr : monthsL a b = (0, 1) := by simp [monthsL, ha]
    have HA := Lib.hid ha; have HR := Lib.hid hr
    clear ha hr
    go_enter Try.func12, Try.ntmps12
    go_wp2_with fail
    refine (r16isDay_any a _).mono ?_
    rintro e w' ⟨rfl, rfl⟩
    rw [HA.out]
    go_wp2_with fail
    refine (r16isDay_any b _).mono ?_
    rintro e w' ⟨rfl, rfl⟩
    go_wp2_with fail
    go_ret2
    exact ⟨pair_of HR.out, rfl⟩
  | true =>
    cases hb : isDy b with
    | false =>
      have hr : monthsL a b = (0, 1) := by simp [monthsL, hb]
      have HA := Lib.hid ha; have HB := Lib.hid hb; have HR := Lib.hid hr
      clear ha hr hb
      go_enter Try.func12, Try.ntmps12
      go_wp2_with fail
      refine (r16isDay_any a _).mono ?_
      rintro e w' ⟨rfl, rfl⟩
      rw [HA.out]
      go_wp2_with fail
      refine (r16isDay_any b _).mono ?_
      rintro e w' ⟨rfl, rfl⟩
      rw [HB.out]
      go_wp2_with fail
      go_ret2
      exact ⟨pair_of HR.out, rfl⟩
    | true =>
      have hr : monthsL a b = (lateF a b, 0) := by simp [monthsL, ha, hb]
      obtain ⟨a3, a4⟩ := isDy_iff.1 ha
      obtain ⟨l0, l1, _⟩ := lateF_bd a b ha hb
      obtain ⟨y, m, d, hd⟩ := date_ex a a3 a4
      have hst := steps_of ha hb hd
      have HA := Lib.hid ha; have HB := Lib.hid hb; have HR := Lib.hid hr; have HD := Lib.hid hd; have HS := Lib.hid hst
      clear ha hr hb hd hst
      go_enter Try.func12, Try.ntmps12
      go_wp2_with fail
      refine (r16isDay_any a _).mono ?_
      rintro e w' ⟨rfl, rfl⟩
      rw [HA.out]
      go_wp2_with fail
      refine (r16isDay_any b _).mono ?_
      rintro e w' ⟨rfl, rfl⟩
      rw [HB.out]
      go_wp2_with fail
      generalize hL : lateF a b = L at *
      go_loop [8] (fun vn => ∃ n : Int, vn = .int .i64 n ∧ 0 ≤ n ∧ n ≤ L) (fun vn => (120000 - intOf vn).toNat)
      case atStart => exact ⟨0, rfl, by omega, by omega⟩
      case round =>
        obtain ⟨n, rfl, n1, n2⟩ := hrel
        · go_wp2_with fail
          refine (r2months_ok a n _ a3 a4 (by omega) (by omega)).mono ?_
          rintro e w4 ⟨y', m', d', hd', rfl, rfl⟩
          obtain ⟨rfl, rfl, rfl⟩ := HD.out.uniq hd'
          clear hd'
          by_cases cl : n < L
          · obtain ⟨g1, g2⟩ := HS.out.1 n n1 cl
            generalize monthsR y m d n = r at *
            obtain ⟨r1, r2⟩ := r
            simp only [] at g1 g2 ⊢
            subst g1
            go_wp2_with fail
            go_round
            case rel => exact ⟨n + 1, by go_num, by omega, by omega⟩
            case measure => simp [intOf]; omega
          · have el : n = L := by omega
            have g := HS.out.2
            rw [← el] at g
            generalize monthsR y m d n = r at *
            obtain ⟨r1, r2⟩ := r
            simp only [] at g ⊢
            by_cases cz : r2 = 0
            · subst cz
              have g2 : b ≤ r1 := by
                rcases g with g | g
                · exact absurd rfl g
                · exact g
              clear g
              go_wp2_with fail
              go_ret2
              exact ⟨pair_of HR.out, rfl⟩
            · clear g
              go_wp2_with fail
              go_ret2
              exact ⟨pair_of HR.out, rfl⟩

set_option maxRecDepth 100000 in
set_option maxHeartbeats 1000000 in
theorem r16few_any (a b : Int) (w : World) (ha : isDy a = true) (hb : isDy b = true) :
    Calls Try.prog 31 #[.int .i64 a, .int .i64 b] w fun e w' => e = .returned (.int .i64 (min (lateF a b) 61)) ∧ w = w' := by
  obtain ⟨a3, a4⟩ := isDy_iff.1 ha
  obtain ⟨b3, b4⟩ := isDy_iff.1 hb
  obtain ⟨l0, l1, _⟩ := lateF_bd a b ha hb
  obtain ⟨y, m, d, hd⟩ := date_ex a a3 a4
  have hst := steps_of ha hb hd
  have HD := Lib.hid hd; have HS := Lib.hid hst
  clear ha hb hd hst
  go_enter Try.func31, Try.ntmps31
  go_wp2_with fail
  generalize hL : lateF a b = L at *
  go_loop [5] (fun vn => ∃ n : Int, vn = .int .i64 n ∧ 0 ≤ n ∧ n ≤ L ∧ n ≤ 61) (fun vn => (120000 - intOf vn).toNat)
  case atStart => exact ⟨0, rfl, by omega, by omega, by omega⟩
  case round =>
    obtain ⟨n, rfl, n1, n2, n3⟩ := hrel
    by_cases c61 : n < 61
    · go_wp2_with fail
      refine (r2months_ok a n _ a3 a4 (by omega) (by omega)).mono ?_
      rintro e w4 ⟨y', m', d', hd', rfl, rfl⟩
      obtain ⟨rfl, rfl, rfl⟩ := HD.out.uniq hd'
      clear hd'
      by_cases cl : n < L
      · obtain ⟨g1, g2⟩ := HS.out.1 n n1 cl
        generalize monthsR y m d n = r at *
        obtain ⟨r1, r2⟩ := r
        simp only [] at g1 g2 ⊢
        subst g1
        go_wp2_with fail
        go_round
        case rel => exact ⟨n + 1, by go_num, by omega, by omega, by omega⟩
        case measure => simp [intOf]; omega
      · have el : n = min L 61 := by omega
        have g := HS.out.2
        rw [show L = n by omega] at g
        have EL := Lib.hid el
        clear el
        generalize monthsR y m d n = r at *
        obtain ⟨r1, r2⟩ := r
        simp only [] at g ⊢
        by_cases cz : r2 = 0
        · subst cz
          have g2 : b ≤ r1 := by
            rcases g with g | g
            · exact absurd rfl g
            · exact g
          clear g
          go_wp2_with fail
          go_ret
          exact ⟨by rw [← EL.out]; rfl, rfl⟩
        · clear g
          go_wp2_with fail
          go_ret
          exact ⟨by rw [← EL.out]; rfl, rfl⟩
    · have EL := Lib.hid (show n = min L 61 by omega)
      go_wp2_with fail
      go_ret
      exact ⟨by rw [← EL.out]; rfl, rfl⟩
end Go.Proofs.Ytcjkofgbijdkcaa
