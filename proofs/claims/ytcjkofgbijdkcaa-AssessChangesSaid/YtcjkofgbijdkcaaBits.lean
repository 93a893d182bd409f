/- math/bits' product of two words and division of two words by one, as the library's own text does them: what they answer, and that they leave memory alone. -/
import Derived.WalkKit
import Derived.Outline
import Derived.Lib.Hide
import Derived.Deep.CutBlock
import Derived.Deep.DeepCutAuto
import Derived.Deep.QuietTactic
import Derived.BigQuiet
import Derived.Test.YtcjkofgbijdkcaaMath
import Derived.Test.YtcjkofgbijdkcaaShelf
namespace Go.Proofs.Ytcjkofgbijdkcaa
open Go.RowKit
theorem ret_pair {k l : IntKind} {a b c d : Int} (h1 : a = b) (h2 : c = d) : Ending.returned (.tuple #[.int k a, .int l c]) = .returned (.tuple #[.int k b, .int l d]) := by rw [h1, h2]

theorem mul64_any (a b : Int) (w : World) (a0 : 0 ≤ a) (a1 : a ≤ 18446744073709551615) (b0 : 0 ≤ b) (b1 : b ≤ 18446744073709551615) :
    Calls Try.prog 60 #[.int .u64 a, .int .u64 b] w fun e w' => e = .returned (.tuple #[.int .u64 (a * b / 18446744073709551616), .int .u64 (a * b % 18446744073709551616)]) ∧ w = w' := by
  obtain ⟨x, rfl⟩ := Int.eq_ofNat_of_zero_le a0
  obtain ⟨y, rfl⟩ := Int.eq_ofNat_of_zero_le b0
  refine (Try.bits_Mul64 x y (by omega) (by omega) w).mono ?_
  rintro e w' ⟨rfl, rfl⟩
  exact ⟨ret_pair (by simp) (by simp), rfl⟩

set_option maxHeartbeats 1600000 in
theorem div64_big (hi lo y : Int) (w : World) (h1 : 1 ≤ hi) (h2 : hi < y) (h3 : 0 ≤ lo) (h4 : lo ≤ 18446744073709551615) (h5 : y ≤ 4611686018427387904) :
    Calls Try.prog 61 #[.int .u64 hi, .int .u64 lo, .int .u64 y] w fun e w' =>
      e = .returned (.tuple #[.int .u64 ((hi * 18446744073709551616 + lo) / y), .int .u64 ((hi * 18446744073709551616 + lo) % y)]) ∧ w = w' := by
  obtain ⟨s, hs, hs1, hs2, hy1, hy2⟩ := lead_bd (y := y) (by omega) h5
  have hlz : ∀ w, Calls Try.prog 63 #[.int .u64 y] w fun e w' => e = .returned (.int .i64 s) ∧ w = w' := fun w =>
    (Try.bits_LeadingZeros64 y w (by omega) (by omega)).mono fun e w' ⟨ha, hb⟩ => ⟨by rw [ha, hs], hb.symm⟩
  have Hlz := Lib.hid hlz; clear hlz hs
  have hh1 : 0 ≤ hi * 2 ^ s := Int.mul_nonneg (by omega) (Int.pow_nonneg (by omega))
  have hh2 : hi * 2 ^ s ≤ y * 2 ^ s := Int.mul_le_mul_of_nonneg_right (by omega) (Int.pow_nonneg (by omega))
  obtain ⟨n0, ne, nl, u0', u1', nU⟩ := div_prep (hi := hi) (lo := lo) (s := s) (by omega) h3 h4 (by omega) (by omega)
  have nlt := div_less (y := y) h2 nl
  rw [← ne] at nlt
  have HN := Lib.hid nU
  clear ne nU nl
  obtain ⟨fin, hfin⟩ : ∃ v, v = Ending.returned (.tuple #[.int .u64 ((hi * 18446744073709551616 + lo) / y), .int .u64 ((hi * 18446744073709551616 + lo) % y)]) := ⟨_, rfl⟩
  rw [← hfin]
  have HF := Lib.hid hfin; clear hfin
  go_enter Try.func61, Try.ntmps61
  go_upto_region 9 with (go_at_call 63; refine (Hlz.out _).mono ?_; rintro e w' ⟨rfl, rfl⟩)
  generalize hY : y * 2 ^ s = Y at *
  have HY := Lib.hid hY; clear hY
  go_upto_region 15 with fail
  have ey0 := and32 (x := Y) (by omega) (by omega)
  have eu0 := and32 u0' u1'
  generalize hn : bits BinOp.or IntKind.u64 (hi * 2 ^ s) (lo / 2 ^ (64 - s)) = n at *
  clear hn
  generalize hu : IntKind.u64.wrap (lo * 2 ^ s) = u at *
  clear hu
  generalize hy0 : bits BinOp.and IntKind.u64 Y 4294967295 = y0 at *
  generalize hb0 : bits BinOp.and IntKind.u64 u 4294967295 = b0 at *
  generalize hy1' : Y / 4294967296 = y1 at *
  generalize hb1 : u / 4294967296 = b1 at *
  have hYe : y1 * 4294967296 + y0 = Y := by omega
  have hue : b1 * 4294967296 + b0 = u := by omega
  have c1 : 2147483648 ≤ y1 := by omega
  have c2 : y1 ≤ 4294967295 := by omega
  have c3 : 0 ≤ y0 := by omega
  have c4 : y0 ≤ 4294967295 := by omega
  have c5 : 0 ≤ b0 := by omega
  have c6 : b0 ≤ 4294967295 := by omega
  have c7 : 0 ≤ b1 := by omega
  have c8 : b1 ≤ 4294967295 := by omega
  have nlt' : n < y1 * 4294967296 + y0 := by omega
  have HYe := Lib.hid hYe
  have Hue := Lib.hid hue
  clear hy0 hb0 hy1' hb1 hYe hue ey0 eu0
  obtain ⟨Q1, hQ1⟩ : ∃ q, q = (n * 4294967296 + b1) / (y1 * 4294967296 + y0) := ⟨_, rfl⟩
  obtain ⟨st1, st2⟩ := digit_start (n := n) (y1 := y1) (y0 := y0) (u1 := b1) c1 c3 c4 c7 c8 n0
  rw [← hQ1] at st2
  have dr := digit_rest (n := n) (y1 := y1) (y0 := y0) (u1 := b1) (by omega) n0 nlt' c7 c8
  rw [← hQ1, HYe.out] at dr
  obtain ⟨d1, d2, d3, d4⟩ := dr
  have qm1 : 0 ≤ n / y1 := Int.ediv_nonneg n0 (by omega)
  have qm2 : n / y1 ≤ 8589934592 := by
    have : n / y1 < 8589934592 + 1 := by apply Int.ediv_lt_of_lt_mul (by omega); omega
    omega
  have rm1 := Int.emod_nonneg n (b := y1) (by omega)
  have rm2 := Int.emod_lt_of_pos n (b := y1) (by omega)
  have p1 : 0 ≤ n / y1 * y1 := Int.mul_nonneg qm1 (by omega)
  have p2 : n / y1 * y1 ≤ n := by omega
  have HQ1 := Lib.hid hQ1
  have Hst := Lib.hid st1
  clear hQ1 st1
  go_upto_block 0 with fail
  go_cut [15, 16] (fun q r wx => q = .int .u64 Q1 ∧ (∃ r' : Int, r = .int .u64 r') ∧ wx = w)
  case first =>
    go_wp2_with fail
    go_loop [15, 16] (fun q r => ∃ q' r' : Int, q = .int .u64 q' ∧ r = .int .u64 r' ∧ Hid (q' * y1 + r' = n) ∧ 0 ≤ r' ∧ r' ≤ 4294967295 ∧ Q1 ≤ q' ∧ q' ≤ 8589934592) (fun q _ => (intOf q).toNat)
    case atStart => exact ⟨n / y1, n - n / y1 * y1, rfl, rfl, Lib.hid (by omega), by omega, by have := Hst.out; omega, st2, qm2⟩
    case round =>
      obtain ⟨q, r, rfl, rfl, he, hr0, hr1, hq0, hq1⟩ := hrel
      by_cases c : 4294967296 ≤ q
      · obtain ⟨t1, t2, t3, t4⟩ := digit_step (u1 := b1) c1 c2 c3 c4 c7 c8 n0 nlt' he.out hr0 (by have := HQ1.out; rw [← this]; exact hq0) (.inl c)
        have T2 := Lib.hid t2
        have t3' : Q1 ≤ q - 1 := by have := HQ1.out; rw [this]; exact t3
        have T4 := Lib.hid t4
        clear t2 t3 t4
        go_wp2_with fail
        · go_meet
          exact ⟨congrArg (Value.int .u64) (by have := HQ1.out; rw [this]; exact T4.out (by assumption)), ⟨_, rfl⟩, rfl⟩
        · go_round
          case rel => exact ⟨q - 1, r + y1, rfl, rfl, Lib.hid T2.out, by omega, by omega, t3', by omega⟩
          case measure => simp [intOf]; omega
      · have c0 : q ≤ 4294967295 := by omega
        have pm := mul_bd (a := q) (b := y0) (A := 4294967295) (B := 4294967295) (by omega) c3 c0 c4
        obtain ⟨pm1, pm2⟩ := pm
        by_cases c' : 4294967296 * r + b1 < q * y0
        · obtain ⟨t1, t2, t3, t4⟩ := digit_step (u1 := b1) c1 c2 c3 c4 c7 c8 n0 nlt' he.out hr0 (by have := HQ1.out; rw [← this]; exact hq0) (.inr c')
          have T2 := Lib.hid t2
          have t3' : Q1 ≤ q - 1 := by have := HQ1.out; rw [this]; exact t3
          have T4 := Lib.hid t4
          clear t2 t3 t4
          go_wp2_with fail
          · go_meet
            exact ⟨congrArg (Value.int .u64) (by have := HQ1.out; rw [this]; exact T4.out (by assumption)), ⟨_, rfl⟩, rfl⟩
          · go_round
            case rel => exact ⟨q - 1, r + y1, rfl, rfl, Lib.hid T2.out, by omega, by omega, t3', by omega⟩
            case measure => simp [intOf]; omega
        · have t := digit_done (u1 := b1) c1 c3 he.out (by have := HQ1.out; rw [← this]; exact hq0) (by omega)
          have T := Lib.hid t
          clear t
          go_wp2_with fail
          go_meet
          exact ⟨congrArg (Value.int .u64) (by have := HQ1.out; rw [this]; exact T.out), ⟨_, rfl⟩, rfl⟩
  case rest =>
    obtain ⟨rfl, ⟨r', rfl⟩, rfl⟩ := hcut
    go_upto_region 22 with fail
    have em : IntKind.u64.wrap (IntKind.u64.wrap (IntKind.u64.wrap (n * 4294967296) + b1) - IntKind.u64.wrap (Q1 * Y)) = n * 4294967296 + b1 - Q1 * Y := by
      simp only [IntKind.wrap_u64]; omega
    rw [em]
    generalize hm : n * 4294967296 + b1 - Q1 * Y = m at *
    have HM := Lib.hid hm
    clear hm em
    have mlt : m < y1 * 4294967296 + y0 := by have := HYe.out; omega
    clear st2 qm1 qm2 rm1 rm2 p1 p2 Hst
    obtain ⟨Q0, hQ0⟩ : ∃ q, q = (m * 4294967296 + b0) / (y1 * 4294967296 + y0) := ⟨_, rfl⟩
    obtain ⟨st1, st2⟩ := digit_start (n := m) (y1 := y1) (y0 := y0) (u1 := b0) c1 c3 c4 c5 c6 d3
    rw [← hQ0] at st2
    have dr := digit_rest (n := m) (y1 := y1) (y0 := y0) (u1 := b0) (by omega) d3 mlt c5 c6
    rw [← hQ0, HYe.out] at dr
    obtain ⟨f1, f2, f3, f4⟩ := dr
    have qm1 : 0 ≤ m / y1 := Int.ediv_nonneg d3 (by omega)
    have qm2 : m / y1 ≤ 8589934592 := by
      have : m / y1 < 8589934592 + 1 := by apply Int.ediv_lt_of_lt_mul (by omega); omega
      omega
    have rm1 := Int.emod_nonneg m (b := y1) (by omega)
    have rm2 := Int.emod_lt_of_pos m (b := y1) (by omega)
    have p1 : 0 ≤ m / y1 * y1 := Int.mul_nonneg qm1 (by omega)
    have p2 : m / y1 * y1 ≤ m := by omega
    have HQ0 := Lib.hid hQ0
    have Hst := Lib.hid st1
    clear hQ0 st1
    go_upto_block 2 with fail
    go_cut [18, 16] (fun q r wx => q = .int .u64 Q0 ∧ (∃ r' : Int, r = .int .u64 r') ∧ wx = wc)
    case first =>
      go_wp2_with fail
      go_loop [18, 16] (fun q r => ∃ q' r' : Int, q = .int .u64 q' ∧ r = .int .u64 r' ∧ Hid (q' * y1 + r' = m) ∧ 0 ≤ r' ∧ r' ≤ 4294967295 ∧ Q0 ≤ q' ∧ q' ≤ 8589934592) (fun q _ => (intOf q).toNat)
      case atStart => exact ⟨m / y1, m - m / y1 * y1, rfl, rfl, Lib.hid (by omega), by omega, by have := Hst.out; omega, st2, qm2⟩
      case round =>
        obtain ⟨q, r, rfl, rfl, he, hr0, hr1, hq0, hq1⟩ := hrel
        by_cases c : 4294967296 ≤ q
        · obtain ⟨t1, t2, t3, t4⟩ := digit_step (u1 := b0) c1 c2 c3 c4 c5 c6 d3 mlt he.out hr0 (by have := HQ0.out; rw [← this]; exact hq0) (.inl c)
          have T2 := Lib.hid t2
          have t3' : Q0 ≤ q - 1 := by have := HQ0.out; rw [this]; exact t3
          have T4 := Lib.hid t4
          clear t2 t3 t4
          go_wp2_with fail
          · go_meet
            exact ⟨congrArg (Value.int .u64) (by have := HQ0.out; rw [this]; exact T4.out (by assumption)), ⟨_, rfl⟩, rfl⟩
          · go_round
            case rel => exact ⟨q - 1, r + y1, rfl, rfl, Lib.hid T2.out, by omega, by omega, t3', by omega⟩
            case measure => simp [intOf]; omega
        · have c0 : q ≤ 4294967295 := by omega
          have pm := mul_bd (a := q) (b := y0) (A := 4294967295) (B := 4294967295) (by omega) c3 c0 c4
          obtain ⟨pm1, pm2⟩ := pm
          by_cases c' : 4294967296 * r + b0 < q * y0
          · obtain ⟨t1, t2, t3, t4⟩ := digit_step (u1 := b0) c1 c2 c3 c4 c5 c6 d3 mlt he.out hr0 (by have := HQ0.out; rw [← this]; exact hq0) (.inr c')
            have T2 := Lib.hid t2
            have t3' : Q0 ≤ q - 1 := by have := HQ0.out; rw [this]; exact t3
            have T4 := Lib.hid t4
            clear t2 t3 t4
            go_wp2_with fail
            · go_meet
              exact ⟨congrArg (Value.int .u64) (by have := HQ0.out; rw [this]; exact T4.out (by assumption)), ⟨_, rfl⟩, rfl⟩
            · go_round
              case rel => exact ⟨q - 1, r + y1, rfl, rfl, Lib.hid T2.out, by omega, by omega, t3', by omega⟩
              case measure => simp [intOf]; omega
          · have t := digit_done (u1 := b0) c1 c3 he.out (by have := HQ0.out; rw [← this]; exact hq0) (by omega)
            have T := Lib.hid t
            clear t
            go_wp2_with fail
            go_meet
            exact ⟨congrArg (Value.int .u64) (by have := HQ0.out; rw [this]; exact T.out), ⟨_, rfl⟩, rfl⟩
    case rest =>
      obtain ⟨rfl, ⟨r2, rfl⟩, rfl⟩ := hcut
      go_wp2_with fail
      go_ret2
      have fin := div_fin (U := hi * 18446744073709551616 + lo) (y := y) (Y := Y) (n := n) (u1 := b1) (u0 := b0) (q1 := Q1) (q0 := Q0) (s := s) (by omega) HY.out
        (by have a := HN.out; have b := Hue.out; omega) (by rw [HM.out]; exact f3) (by rw [HM.out]; exact f4)
      rw [HM.out] at fin
      rw [HF.out]
      refine ⟨ret_pair fin.1 ?_, rfl⟩
      rw [← fin.2]
      have ew : IntKind.u64.wrap (IntKind.u64.wrap (IntKind.u64.wrap (m * 4294967296) + b0) - IntKind.u64.wrap (Q0 * Y)) = m * 4294967296 + b0 - Q0 * Y := by
        simp only [IntKind.wrap_u64]; omega
      rw [← ew]

theorem below_drewN {B : Nat} {a w : World} (h : Below B a w) (n : Nat) : Below B a (w.drewN n) := ⟨h.os, h.tape, h.output, h.size, h.block⟩

set_option maxHeartbeats 800000 in
theorem div64_small (lo y : Int) (w : World) (h2 : 1 ≤ y) (h3 : 0 ≤ lo) (h4 : lo ≤ 18446744073709551615) (h5 : y ≤ 4611686018427387904) :
    Calls Try.prog 61 #[.int .u64 0, .int .u64 lo, .int .u64 y] w fun e w' =>
      e = .returned (.tuple #[.int .u64 (lo / y), .int .u64 (lo % y)]) ∧ Below w.heap.size w w' := by
  go_enter Try.func61, Try.ntmps61
  have hne : ¬ y = 0 := by omega
  go_upto_region 6 with fail
  go_quiet (fail)
  go_wp2_with fail
  go_ret2
  exact ⟨rfl, below_drewN (Below.refl _ _) _⟩

theorem div64_any (hi lo y : Int) (w : World) (h1 : 0 ≤ hi) (h2 : hi < y) (h3 : 0 ≤ lo) (h4 : lo ≤ 18446744073709551615) (h5 : y ≤ 4611686018427387904) :
    Calls Try.prog 61 #[.int .u64 hi, .int .u64 lo, .int .u64 y] w fun e w' =>
      e = .returned (.tuple #[.int .u64 ((hi * 18446744073709551616 + lo) / y), .int .u64 ((hi * 18446744073709551616 + lo) % y)]) ∧ Below w.heap.size w w' := by
  by_cases h0 : hi = 0
  · subst h0
    refine (div64_small lo y w (by omega) h3 h4 h5).mono ?_
    rintro e w' ⟨rfl, hb⟩
    exact ⟨ret_pair (by simp) (by simp), hb⟩
  · refine (div64_big hi lo y w (by omega) h2 h3 h4 h5).mono ?_
    rintro e w' ⟨rfl, rfl⟩
    exact ⟨rfl, Below.refl _ _⟩
end Go.Proofs.Ytcjkofgbijdkcaa
