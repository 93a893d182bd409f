/- Package tallageref02: the reference's calendar: Last, Days, Date, Months. -/
import Derived.WalkKit
import Derived.Outline
import Derived.Lib.Hide
import Derived.Handy
import Derived.Test.YtcjkofgbijdkcaaCivM
import Derived.Test.YtcjkofgbijdkcaaNum
namespace Go.Proofs.Ytcjkofgbijdkcaa
open Go.RowKit

theorem r2long_any (y : Int) (w : World) (h : 1 ≤ y) (h2 : y ≤ 10000) : Calls Try.prog 56 #[.int .i64 y] w fun e w' => e = .returned (.bool (leapB y)) ∧ w = w' := by
  by_cases c1 : y % 4 = 0
  · by_cases c2 : y % 100 = 0
    · by_cases c3 : y % 400 = 0
      · have hr : leapB y = true := by simp [leapB, c1, c2, c3]
        have HR := Lib.hid hr; clear hr
        go_enter Try.func56, Try.ntmps56
        go_wp2
        go_ret
        exact ⟨ret_bool HR.out.symm, rfl⟩
      · have hr : leapB y = false := by simp [leapB, c1, c2, c3]
        have HR := Lib.hid hr; clear hr
        go_enter Try.func56, Try.ntmps56
        go_wp2
        go_ret
        exact ⟨ret_bool (by rw [HR.out]; simp [c3]), rfl⟩
    · have hr : leapB y = true := by simp [leapB, c1, c2]
      have HR := Lib.hid hr; clear hr
      go_enter Try.func56, Try.ntmps56
      go_wp2
      go_ret
      exact ⟨ret_bool HR.out.symm, rfl⟩
  · have hr : leapB y = false := by simp [leapB, c1]
    have HR := Lib.hid hr; clear hr
    go_enter Try.func56, Try.ntmps56
    go_wp2
    go_ret
    exact ⟨ret_bool HR.out.symm, rfl⟩

theorem r2year_any (y : Int) (w : World) (h : 1 ≤ y) (h2 : y ≤ 10000) : Calls Try.prog 55 #[.int .i64 y] w fun e w' => e = .returned (.int .i64 (365 + leapN y)) ∧ w = w' := by
  cases hl : leapB y with
  | true =>
    have hr : 365 + leapN y = 366 := by simp [leapN, hl]
    rw [hr]; clear hr
    have HL := Lib.hid hl; clear hl
    go_enter Try.func55, Try.ntmps55
    go_wp2_with fail
    refine (r2long_any y _ h h2).mono ?_
    rintro e w' ⟨rfl, rfl⟩
    rw [HL.out]
    go_wp2_with fail
    go_ret
    exact ⟨rfl, rfl⟩
  | false =>
    have hr : 365 + leapN y = 365 := by simp [leapN, hl]
    rw [hr]; clear hr
    have HL := Lib.hid hl; clear hl
    go_enter Try.func55, Try.ntmps55
    go_wp2_with fail
    refine (r2long_any y _ h h2).mono ?_
    rintro e w' ⟨rfl, rfl⟩
    rw [HL.out]
    go_wp2_with fail
    go_ret
    exact ⟨rfl, rfl⟩

theorem r2last_ok (y m : Int) (w : World) (h : 1 ≤ y) (h2 : y ≤ 9999) (m1 : 1 ≤ m) (m2 : m ≤ 12) :
    Calls Try.prog 46 #[.int .i64 y, .int .i64 m] w fun e w' => e = .returned (.tuple #[.int .i64 (lastD y m), .int .i64 0]) ∧ w = w' := by
  by_cases c2 : m = 2
  · subst c2
    cases hl : leapB y with
    | true =>
      have hr : lastD y 2 = 29 := by simp [lastD, leapN, hl]
      rw [hr]; clear hr
      have HL := Lib.hid hl; clear hl
      go_enter Try.func46, Try.ntmps46
      go_wp2_with fail
      refine (r2long_any y _ h (by omega)).mono ?_
      rintro e w' ⟨rfl, rfl⟩
      rw [HL.out]
      go_wp2_with fail
      go_ret2
      exact ⟨rfl, rfl⟩
    | false =>
      have hr : lastD y 2 = 28 := by simp [lastD, leapN, hl]
      rw [hr]; clear hr
      have HL := Lib.hid hl; clear hl
      go_enter Try.func46, Try.ntmps46
      go_wp2_with fail
      refine (r2long_any y _ h (by omega)).mono ?_
      rintro e w' ⟨rfl, rfl⟩
      rw [HL.out]
      go_wp2_with fail
      go_ret2
      exact ⟨rfl, rfl⟩
  · by_cases c4 : m = 4
    · subst c4
      simp only [lastD]
      go_enter Try.func46, Try.ntmps46
      go_wp2
      go_ret2
      exact ⟨rfl, rfl⟩
    · by_cases c6 : m = 6
      · subst c6
        simp only [lastD]
        go_enter Try.func46, Try.ntmps46
        go_wp2
        go_ret2
        exact ⟨rfl, rfl⟩
      · by_cases c9 : m = 9
        · subst c9
          simp only [lastD]
          go_enter Try.func46, Try.ntmps46
          go_wp2
          go_ret2
          exact ⟨rfl, rfl⟩
        · by_cases c11 : m = 11
          · subst c11
            simp only [lastD]
            go_enter Try.func46, Try.ntmps46
            go_wp2
            go_ret2
            exact ⟨rfl, rfl⟩
          · have hr : lastD y m = 31 := by unfold lastD; rw [if_neg c2, if_neg (by omega)]
            rw [hr]; clear hr
            go_enter Try.func46, Try.ntmps46
            go_wp2
            go_ret2
            exact ⟨rfl, rfl⟩

theorem r2last_no (y m : Int) (w : World) (h : ¬ (1 ≤ y ∧ y ≤ 9999 ∧ 1 ≤ m ∧ m ≤ 12)) :
    Calls Try.prog 46 #[.int .i64 y, .int .i64 m] w fun e w' => e = .returned (.tuple #[.int .i64 0, .int .i64 1]) ∧ w = w' := by
  by_cases c1 : 1 ≤ y
  · by_cases c2 : y ≤ 9999
    · by_cases c3 : 1 ≤ m
      · have c4 : ¬ m ≤ 12 := fun c4 => h ⟨c1, c2, c3, c4⟩
        clear h
        go_enter Try.func46, Try.ntmps46
        go_wp2
        go_ret2
        exact ⟨rfl, rfl⟩
      · clear h
        go_enter Try.func46, Try.ntmps46
        go_wp2
        go_ret2
        exact ⟨rfl, rfl⟩
    · clear h
      go_enter Try.func46, Try.ntmps46
      go_wp2
      go_ret2
      exact ⟨rfl, rfl⟩
  · clear h
    go_enter Try.func46, Try.ntmps46
    go_wp2
    go_ret2
    exact ⟨rfl, rfl⟩

set_option maxRecDepth 100000 in
set_option maxHeartbeats 1000000 in
theorem r2days_ok (y m d : Int) (w : World) (y1 : 1 ≤ y) (y2 : y ≤ 9999) (m1 : 1 ≤ m) (m2 : m ≤ 12) (d1 : 1 ≤ d) (d2 : d ≤ lastD y m) :
    Calls Try.prog 47 #[.int .i64 y, .int .i64 m, .int .i64 d] w fun e w' => e = .returned (.tuple #[.int .i64 (dayN y m d), .int .i64 0]) ∧ w = w' := by
  have lb := lastD_pos y m
  have HR : Hid (dayN y m d = yearD y + monD y m + d - 1) := Lib.hid rfl
  generalize dayN y m d = res at *
  go_enter Try.func47, Try.ntmps47
  go_wp2_with fail
  refine (r2last_ok y m _ y1 y2 m1 m2).mono ?_
  rintro e w' ⟨rfl, rfl⟩
  generalize lastD y m = l at *
  go_wp2_with fail
  go_loop [10, 11] (fun vo vi => ∃ i o : Int, vi = .int .i64 i ∧ vo = .int .i64 o ∧ 1 ≤ i ∧ i ≤ y ∧ Hid (o = d - 1 + yearD i) ∧ 0 ≤ o ∧ o ≤ 3700000) (fun _ vi => (10000 - intOf vi).toNat)
  case atStart => exact ⟨1, d - 1, rfl, rfl, by omega, by omega, Lib.hid (by have : yearD 1 = 0 := by decide
                                                                             omega), by omega, by omega⟩
  case round =>
    obtain ⟨i, o, rfl, rfl, i1, i2, HO, o1, o2⟩ := hrel
    by_cases c : i < y
    · go_wp2_with fail
      refine (r2year_any i _ i1 (by omega)).mono ?_
      rintro e w' ⟨rfl, rfl⟩
      have ln := leapN_01 i
      have hys := yearD_succ i i1
      have hyb : yearD (i + 1) ≤ 3652059 := by unfold yearD; omega
      generalize leapN i = lf at *
      have HS := Lib.hid hys
      have HB := Lib.hid hyb
      clear hys hyb
      go_wp2_with fail
      go_round
      case rel => exact ⟨i + 1, o + (365 + lf), by go_num, by go_num, by omega, by omega, Lib.hid (by have := HO.out; have := HS.out; omega), by omega, by have := HO.out; have := HS.out; have := HB.out; omega⟩
      case measure => simp [intOf]; omega
    · have ei : i = y := by omega
      subst ei
      go_wp2_with fail
      go_loop [10, 12] (fun vo vk => ∃ k p : Int, vk = .int .i64 k ∧ vo = .int .i64 p ∧ 1 ≤ k ∧ k ≤ m ∧ Hid (p = o + monD i k) ∧ 0 ≤ p ∧ p ≤ 3700400) (fun _ vk => (12 - intOf vk).toNat)
      case atStart => exact ⟨1, o, rfl, rfl, by omega, by omega, Lib.hid (by rw [monD_one]; omega), by omega, by omega⟩
      case round =>
        obtain ⟨k, p, rfl, rfl, k1, k2, HP, p1, p2⟩ := hrel
        by_cases c : k < m
        · go_wp2_with fail
          refine (r2last_ok i k _ y1 y2 k1 (by omega)).mono ?_
          rintro e w' ⟨rfl, rfl⟩
          have lb2 := lastD_pos i k
          have hm := monD_succ i k k1 (by omega)
          have hb := monD_bd i (k + 1)
          generalize lastD i k = l2 at *
          have HM := Lib.hid hm
          have HB := Lib.hid hb
          clear hm hb
          go_wp2_with fail
          go_round
          case rel => exact ⟨k + 1, p + l2, by go_num, by go_num, by omega, by omega, Lib.hid (by have := HP.out; have := HM.out; omega), by omega, by have := HP.out; have := HM.out; have := HB.out; omega⟩
          case measure => simp [intOf]; omega
        · have ek : k = m := by omega
          subst ek
          have e1 : p = res := by
            have q1 := HP.out
            have q2 := HR.out
            have q3 := HO.out
            omega
          subst e1
          go_wp2_with fail
          go_ret2
          exact ⟨rfl, rfl⟩

set_option maxRecDepth 100000 in
set_option maxHeartbeats 1000000 in
theorem r2date_ok (n : Int) (w : World) (h0 : 0 ≤ n) (h1 : n ≤ 3652058) :
    Calls Try.prog 45 #[.int .i64 n] w fun e w' => ∃ y m d, IsDate n y m d ∧ e = .returned (.tuple #[.int .i64 y, .int .i64 m, .int .i64 d, .int .i64 0]) ∧ w = w' := by
  go_enter Try.func45, Try.ntmps45
  go_wp2_with fail
  go_loop [0, 6] (fun vr vy => ∃ r y : Int, vr = .int .i64 r ∧ vy = .int .i64 y ∧ 1 ≤ y ∧ y ≤ 9999 ∧ Hid (n = yearD y + r) ∧ 0 ≤ r ∧ r ≤ 3652058) (fun _ vy => (10000 - intOf vy).toNat)
  case atStart => exact ⟨n, 1, rfl, rfl, by omega, by omega, Lib.hid (by have : yearD 1 = 0 := by decide
                                                                         omega), by omega, by omega⟩
  case round =>
    obtain ⟨r, y, rfl, rfl, y1, y2, HN, r1, r2⟩ := hrel
    go_wp2_with fail
    refine (r2year_any y _ y1 (by omega)).mono ?_
    rintro e w' ⟨rfl, rfl⟩
    have ln := leapN_01 y
    by_cases c : 365 + leapN y ≤ r
    · have hys := yearD_succ y y1
      have hyb : yearD (y + 1) ≤ n → y + 1 ≤ 9999 := by unfold yearD; omega
      have hy9 : y + 1 ≤ 9999 := hyb (by have := HN.out; omega)
      have HS := Lib.hid hys
      clear hys hyb
      have hyy := r2year_any y
      generalize leapN y = lf at *
      go_wp2_with fail
      refine (hyy _ y1 (by omega)).mono ?_
      rintro e w' ⟨rfl, rfl⟩
      clear hyy
      go_wp2_with fail
      go_round
      case rel => exact ⟨r - (365 + lf), y + 1, by go_num, by go_num, by omega, by omega, Lib.hid (by have := HN.out; have := HS.out; omega), by omega, by omega⟩
      case measure => simp [intOf]; omega
    · have hr3 : r < 366 := by omega
      have HZ := Lib.hid c
      generalize hlf : leapN y = lf at *
      go_wp2_with fail
      go_loop [0, 7] (fun vr vm => ∃ q m : Int, vr = .int .i64 q ∧ vm = .int .i64 m ∧ 1 ≤ m ∧ m ≤ 12 ∧ Hid (r = monD y m + q) ∧ 0 ≤ q ∧ q ≤ 366) (fun _ vm => (12 - intOf vm).toNat)
      case atStart => exact ⟨r, 1, rfl, rfl, by omega, by omega, Lib.hid (by rw [monD_one]; omega), by omega, by omega⟩
      case round =>
        obtain ⟨q, m, rfl, rfl, m1, m2, HQ, q1, q2⟩ := hrel
        go_wp2_with fail
        refine (r2last_ok y m _ y1 y2 m1 m2).mono ?_
        rintro e w' ⟨rfl, rfl⟩
        have lb := lastD_pos y m
        by_cases c2 : q < lastD y m
        · have hday : n = dayN y m (q + 1) := by
            have a1 := HN.out
            have a2 := HQ.out
            unfold dayN
            omega
          have HD := Lib.hid hday
          have HC := Lib.hid c2
          clear hday
          have HC2 : Hid (q + 1 ≤ lastD y m) := Lib.hid (by omega)
          generalize hl2 : lastD y m = l2 at *
          go_wp2_with fail
          refine bodyPost_ret (v := .tuple #[.int .i64 y, .int .i64 m, .int .i64 (q + 1), .int .i64 0]) (by simp [results, Try.results45, go_sem]) rfl ⟨y, m, q + 1, ⟨y1, y2, m1, m2, by omega, by rw [hl2]; exact HC2.out, HD.out⟩, rfl, rfl⟩
        · have hm := monD_succ y m m1 m2
          have e13 := monD_13 y
          have m12 : m < 12 := by
            by_cases g : m < 12
            · exact g
            · have em : m = 12 := by omega
              subst em
              rw [show ((12:Int) + 1) = 13 by omega, e13] at hm
              have a1 := HZ.out
              have a2 := HQ.out
              rw [hlf] at hm
              omega
          clear e13
          generalize lastD y m = l2 at *
          have HM := Lib.hid hm
          clear hm
          go_wp2_with fail
          go_round
          case rel => exact ⟨q - l2, m + 1, by go_num, by go_num, by omega, by omega, Lib.hid (by have := HQ.out; have := HM.out; omega), by omega, by omega⟩
          case measure => simp [intOf]; omega

set_option maxRecDepth 100000 in
set_option maxHeartbeats 1000000 in
theorem r2months_ok (n l : Int) (w : World) (h0 : 0 ≤ n) (h1 : n ≤ 3652058) (l1 : -120000 ≤ l) (l2 : l ≤ 120000) :
    Calls Try.prog 26 #[.int .i64 n, .int .i64 l] w fun e w' => ∃ y m d, IsDate n y m d ∧ e = .returned (.tuple #[.int .i64 (monthsR y m d l).1, .int .i64 (monthsR y m d l).2]) ∧ w = w' := by
  go_enter Try.func26, Try.ntmps26
  go_wp2_with fail
  refine (r2date_ok n _ h0 h1).mono ?_
  rintro e w1 ⟨y, m, d, hd, rfl, rfl⟩
  obtain ⟨y1, y2, m1, m2, d1, d2, hn⟩ := hd
  have lb := lastD_pos y m
  have HN := Lib.hid hn
  have HD := Lib.hid d2
  have d3 : d ≤ 31 := by omega
  clear hn d2 lb
  go_wp2_with fail
  generalize hT : 12 * y + m - 1 + l = T at *
  have HT := Lib.hid hT
  go_loop [7, 6] (fun vm vy => ∃ k z : Int, vm = .int .i64 k ∧ vy = .int .i64 z ∧ 12 * z + k - 1 = T ∧ -10100 ≤ z ∧ z ≤ 20100 ∧ -120000 ≤ k ∧ k ≤ 120012 ∧ (¬ z = y → 1 ≤ k)) (fun vm _ => (intOf vm).toNat)
  case atStart => exact ⟨m + l, y, rfl, rfl, by omega, by omega, by omega, by omega, by omega, by omega⟩
  case round =>
    obtain ⟨k, z, rfl, rfl, q1, q2, q3, q4, q5, q6⟩ := hrel
    by_cases c : 12 < k
    · go_wp2_with fail
      go_round
      case rel => exact ⟨k - 12, z + 1, by go_num, by go_num, by omega, by omega, by omega, by omega, by omega, by omega⟩
      case measure => simp [intOf]; omega
    · go_wp2_with fail
      go_loop [7, 6] (fun vm vy => ∃ k z : Int, vm = .int .i64 k ∧ vy = .int .i64 z ∧ 12 * z + k - 1 = T ∧ -10100 ≤ z ∧ z ≤ 20100 ∧ -120000 ≤ k ∧ k ≤ 12) (fun vm _ => (12 - intOf vm).toNat)
      case atStart => exact ⟨k, z, rfl, rfl, by omega, by omega, by omega, by omega, by omega⟩
      case round =>
        clear q1 q2 q3 q4 q5 q6 c
        obtain ⟨k, z, rfl, rfl, q1, q2, q3, q4, q5⟩ := hrel
        by_cases c : k < 1
        · go_wp2_with fail
          go_round
          case rel => exact ⟨k + 12, z - 1, by go_num, by go_num, by omega, by omega, by omega, by omega, by omega⟩
          case measure => simp [intOf]; omega
        · have ez : T / 12 = z := by omega
          have ek : T % 12 + 1 = k := by omega
          have HRd : Hid (monthsR y m d l = if 1 ≤ z ∧ z ≤ 9999 then (dayN z k (min d (lastD z k)), 0) else (0, 2)) := by
            refine Lib.hid ?_
            simp only [monthsR]
            rw [hT, ez, ek]
          clear ez ek
          by_cases c2 : 1 ≤ z ∧ z ≤ 9999
          · have HRe : Hid (monthsR y m d l = (dayN z k (min d (lastD z k)), 0)) := Lib.hid (by rw [HRd.out, if_pos c2])
            clear HRd
            obtain ⟨z1, z2⟩ := c2
            go_wp2_with fail
            refine (r2last_ok z k _ z1 z2 (by omega) (by omega)).mono ?_
            rintro e w2 ⟨rfl, rfl⟩
            have lb2 := lastD_pos z k
            have HL : Hid (min d (lastD z k) ≤ lastD z k) := Lib.hid (by omega)
            generalize hl : lastD z k = l2 at *
            go_wp2_with fail
            generalize hmn : min d l2 = dd at *
            have dd1 : 1 ≤ dd := by omega
            refine (r2days_ok z k dd _ z1 z2 (by omega) (by omega) dd1 (by rw [hl]; exact HL.out)).mono ?_
            rintro e w2 ⟨rfl, rfl⟩
            go_wp2_with fail
            go_ret2
            exact ⟨y, m, d, ⟨y1, y2, m1, m2, d1, HD.out, HN.out⟩, by rw [HRe.out]; rfl, rfl⟩
          · have HRe : Hid (monthsR y m d l = (0, 2)) := Lib.hid (by rw [HRd.out, if_neg c2])
            clear HRd
            go_wp2_with fail
            refine (r2last_no z k _ (fun h => c2 ⟨h.1, h.2.1⟩)).mono ?_
            rintro e w2 ⟨rfl, rfl⟩
            go_wp2_with fail
            go_ret2
            exact ⟨y, m, d, ⟨y1, y2, m1, m2, d1, HD.out, HN.out⟩, by rw [HRe.out]; rfl, rfl⟩
end Go.Proofs.Ytcjkofgbijdkcaa
