/- Package civil: the day of a date; the day so many months later. -/
import Derived.WalkKit
import Derived.Outline
import Derived.Lib.Hide
import Derived.Handy
import Derived.Test.YtcjkofgbijdkcaaCivD
namespace Go.Proofs.Ytcjkofgbijdkcaa
open Go.RowKit

set_option maxRecDepth 100000 in
set_option maxHeartbeats 1000000 in
theorem civDays_ok (y m d : Int) (w : World) (y1 : 1 ≤ y) (y2 : y ≤ 9999) (m1 : 1 ≤ m) (m2 : m ≤ 12) (d1 : 1 ≤ d) (d2 : d ≤ lastD y m) :
    Calls Try.prog 39 #[.int .i64 y, .int .i64 m, .int .i64 d] w fun e w' => e = .returned (.tuple #[.int .i64 (dayN y m d), .int .i64 0]) ∧ w = w' := by
  have lb := lastD_pos y m
  have HR : Hid (dayN y m d = yearD y + monD y m + d - 1) := Lib.hid rfl
  generalize dayN y m d = res at *
  go_enter Try.func39, Try.ntmps39
  go_wp2_with fail
  refine (last_ok y m _ y1 y2 m1 m2).mono ?_
  rintro e w' ⟨rfl, rfl⟩
  generalize lastD y m = l at *
  go_wp2_with fail
  generalize hyd : (y - 1) * 365 + (y - 1) / 4 - (y - 1) / 100 + (y - 1) / 400 + d - 1 = yd
  have hyb : 0 ≤ yd ∧ yd ≤ 4000000 := by omega
  have HY : Hid (yd = yearD y + d - 1) := Lib.hid (by unfold yearD; omega)
  clear hyd
  go_loop [11, 50] (fun vo vk => ∃ k o : Int, vk = .int .i64 k ∧ vo = .int .i64 o ∧ 0 ≤ k ∧ k ≤ m - 1 ∧ 0 ≤ o ∧ o ≤ 4000400 ∧ Hid (o = yd + monD y (k + 1))) (fun _ vk => (12 - intOf vk).toNat)
  case atStart => exact ⟨0, yd, rfl, rfl, by omega, by omega, by omega, by omega, Lib.hid (by rw [show (0:Int) + 1 = 1 by omega, monD_one]; omega)⟩
  case round =>
    obtain ⟨k, o, rfl, rfl, k1, k2, o1, o2, HO⟩ := hrel
    by_cases c : k < m - 1
    · go_wp2_with fail
      refine (last_ok y (k + 1) _ y1 y2 (by omega) (by omega)).mono ?_
      rintro e w' ⟨rfl, rfl⟩
      have lb2 := lastD_pos y (k + 1)
      have hm := monD_succ y (k + 1) (by omega) (by omega)
      have hb := monD_bd y (k + 1 + 1)
      generalize lastD y (k + 1) = l2 at *
      have HM := Lib.hid hm
      have HB := Lib.hid hb
      clear hm hb
      go_wp2_with fail
      go_round
      case rel => exact ⟨k + 1, o + l2, by go_num, by go_num, by omega, by omega, by omega, by have := HO.out; have := HM.out; have := HB.out; omega, Lib.hid (by have := HO.out; have := HM.out; omega)⟩
      case measure => simp [intOf]; omega
    · go_wp2_with fail
      go_ret2
      have e1 : o = res := by
        have q1 := HO.out
        have q2 := HR.out
        have q3 := HY.out
        rw [show k + 1 = m by omega] at q1
        omega
      rw [e1]
      exact ⟨rfl, rfl⟩

/-- what civil.Months answers, of any day -/
theorem civMonths_ok (n l : Int) (w : World) (h0 : 0 ≤ n) (h1 : n ≤ 3652058) (l1 : -120000 ≤ l) (l2 : l ≤ 120000) :
    Calls Try.prog 17 #[.int .i64 n, .int .i64 l] w fun e w' => ∃ y m d, IsDate n y m d ∧ e = .returned (.tuple #[.int .i64 (monthsR y m d l).1, .int .i64 (monthsR y m d l).2]) ∧ Below w.heap.size w w' := by
  go_enter Try.func17, Try.ntmps17
  go_wp2_with fail
  refine (civDate_ok n _ h0 h1).mono ?_
  rintro e w1 ⟨y, m, d, hd, rfl, hb⟩
  obtain ⟨y1, y2, m1, m2, d1, d2, hn⟩ := hd
  have lb := lastD_pos y m
  have HN := Lib.hid hn
  have HB := Lib.hid hb
  have HD := Lib.hid d2
  have d3 : d ≤ 31 := by omega
  clear hn hb d2 lb
  by_cases c1 : y * 12 + m - 1 + l < 12
  · have hr : monthsR y m d l = (0, 2) := by
      simp only [monthsR]; rw [if_neg (by omega)]
    have HR := Lib.hid hr
    clear hr
    go_wp2_with fail
    go_ret2
    exact ⟨y, m, d, ⟨y1, y2, m1, m2, d1, HD.out, HN.out⟩, by rw [HR.out]; rfl, HB.out⟩
  · generalize ht : y * 12 + m - 1 + l = t at *
    have et : 12 * y + m - 1 + l = t := by omega
    have HRd : Hid (monthsR y m d l = if 1 ≤ t / 12 ∧ t / 12 ≤ 9999 then (dayN (t / 12) (t % 12 + 1) (min d (lastD (t / 12) (t % 12 + 1))), 0) else (0, 2)) := by
      refine Lib.hid ?_
      simp only [monthsR]
      rw [et]
    clear et
    by_cases c2 : 1 ≤ t / 12 ∧ t / 12 ≤ 9999
    · have HR : Hid (monthsR y m d l = (dayN (t / 12) (t % 12 + 1) (min d (lastD (t / 12) (t % 12 + 1))), 0)) := Lib.hid (by rw [HRd.out, if_pos c2])
      clear HRd
      go_wp2_with fail
      refine (last_ok (t / 12) (t % 12 + 1) _ c2.1 c2.2 (by omega) (by omega)).mono ?_
      rintro e w2 ⟨rfl, rfl⟩
      have lb2 := lastD_pos (t / 12) (t % 12 + 1)
      have HL : Hid (min d (lastD (t / 12) (t % 12 + 1)) ≤ lastD (t / 12) (t % 12 + 1)) := Lib.hid (by omega)
      generalize hl : lastD (t / 12) (t % 12 + 1) = l2 at *
      go_wp2_with fail
      generalize hmn : min d l2 = dd at *
      have dd1 : 1 ≤ dd := by omega
      refine (civDays_ok (t / 12) (t % 12 + 1) dd _ c2.1 c2.2 (by omega) (by omega) dd1 (by rw [hl]; exact HL.out)).mono ?_
      rintro e w2 ⟨rfl, rfl⟩
      go_wp2_with fail
      go_ret2
      exact ⟨y, m, d, ⟨y1, y2, m1, m2, d1, HD.out, HN.out⟩, by rw [HR.out]; rfl, HB.out⟩
    · have HR : Hid (monthsR y m d l = (0, 2)) := Lib.hid (by rw [HRd.out, if_neg c2])
      clear HRd
      go_wp2_with fail
      refine (last_no (t / 12) (t % 12 + 1) _ (fun h => c2 ⟨h.1, h.2.1⟩)).mono ?_
      rintro e w2 ⟨rfl, rfl⟩
      go_wp2_with fail
      go_ret2
      exact ⟨y, m, d, ⟨y1, y2, m1, m2, d1, HD.out, HN.out⟩, by rw [HR.out]; rfl, HB.out⟩
end Go.Proofs.Ytcjkofgbijdkcaa
