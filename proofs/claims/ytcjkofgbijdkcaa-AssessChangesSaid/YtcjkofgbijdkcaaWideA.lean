/- The reference's wide numbers (four digits of base 2^32 and a sign): Of, plus, minus, less: what they answer; memory that was there stays as it was. -/
import Derived.WalkKit
import Derived.Outline
import Derived.Lib.Hide
import Derived.Deep.QuietTactic
import Derived.BigQuiet
import Derived.Handy
import Derived.Test.YtcjkofgbijdkcaaNumB
import Derived.Test.YtcjkofgbijdkcaaWideM
namespace Go.Proofs.Ytcjkofgbijdkcaa
open Go.RowKit

theorem wide_of {s t : Bool} {a b c d n : Int} (hs : s = t) (a0 : 0 ≤ a) (a1 : a ≤ 4294967295) (b0 : 0 ≤ b) (b1 : b ≤ 4294967295) (c0 : 0 ≤ c) (c1 : c ≤ 4294967295) (d0 : 0 ≤ d) (d1 : d ≤ 4294967295)
    (h : n = a + 4294967296 * (b + 4294967296 * (c + 4294967296 * d))) : Value.agg #[.bool s, .int .u64 a, .int .u64 b, .int .u64 c, .int .u64 d] = Wide t n := by
  obtain ⟨e0, e1, e2, e3⟩ := dig_of a0 a1 b0 b1 c0 c1 d0 d1 h
  unfold Wide
  rw [e0, e1, e2, e3, hs]

theorem w4_of {a b c d n : Int} (a0 : 0 ≤ a) (a1 : a ≤ 4294967295) (b0 : 0 ≤ b) (b1 : b ≤ 4294967295) (c0 : 0 ≤ c) (c1 : c ≤ 4294967295) (d0 : 0 ≤ d) (d1 : d ≤ 4294967295)
    (h : n = a + 4294967296 * (b + 4294967296 * (c + 4294967296 * d))) : Value.agg #[.int .u64 a, .int .u64 b, .int .u64 c, .int .u64 d] = W4 n := by
  obtain ⟨e0, e1, e2, e3⟩ := dig_of a0 a1 b0 b1 c0 c1 d0 d1 h
  unfold W4
  rw [e0, e1, e2, e3]

theorem of_neg (a : Int) (w : World) (h1 : -9223372036854775808 ≤ a) (h2 : a < 0) :
    Calls Try.prog 32 #[.int .i64 a] w fun e w' => e = .returned (Wide true (-a)) ∧ Below w.heap.size w w' := by
  have hw := wide_of (s := true) (t := true) (n := -a) (a := (-(a + 1) + 1) % 4294967296) (b := (-(a + 1) + 1) / 4294967296) (c := 0) (d := 0) rfl (by omega) (by omega) (by omega) (by omega) (by omega) (by omega) (by omega) (by omega) (by omega)
  have HW := Lib.hid hw; clear hw
  go_enter Try.func32, Try.ntmps32
  go_wp2
  refine bodyPost_ret (v := .agg #[.bool true, .int .u64 ((-(a + 1) + 1) % 4294967296), .int .u64 ((-(a + 1) + 1) / 4294967296), .int .u64 0, .int .u64 0]) (by simp [results, Try.results32, go_sem]) rfl ⟨by rw [HW.out], ((Below.refl _ _).alloc (Nat.le_refl _) _).alloc (by simp) _⟩

theorem of_pos (a : Int) (w : World) (h1 : 0 ≤ a) (h2 : a ≤ 9223372036854775807) :
    Calls Try.prog 32 #[.int .i64 a] w fun e w' => e = .returned (Wide false a) ∧ Below w.heap.size w w' := by
  have hw := wide_of (s := false) (t := false) (n := a) (a := a % 4294967296) (b := a / 4294967296) (c := 0) (d := 0) rfl (by omega) (by omega) (by omega) (by omega) (by omega) (by omega) (by omega) (by omega) (by omega)
  have HW := Lib.hid hw; clear hw
  have hd : decide (a < 0) = false := by simp; omega
  go_enter Try.func32, Try.ntmps32
  go_wp2
  refine bodyPost_ret (v := .agg #[.bool false, .int .u64 (a % 4294967296), .int .u64 (a / 4294967296), .int .u64 0, .int .u64 0]) (by simp [results, Try.results32, go_sem]) rfl ⟨by rw [HW.out], ((Below.refl _ _).alloc (Nat.le_refl _) _).alloc (by simp) _⟩

set_option maxHeartbeats 1600000 in
theorem plus_any (n m : Int) (w : World) (n0 : 0 ≤ n) (m0 : 0 ≤ m) (h : n + m < 340282366920938463463374607431768211456) :
    Calls Try.prog 52 #[W4 n, W4 m] w fun e w' => e = .returned (W4 (n + m)) ∧ Below w.heap.size w w' := by
  have en := dig_sum n0 (by omega)
  have em := dig_sum m0 (by omega)
  have bn := dig_bd n
  have bm := dig_bd m
  obtain ⟨R, hR⟩ : ∃ R, R = W4 (n + m) := ⟨_, rfl⟩
  rw [← hR]
  have HR := Lib.hid hR; clear hR
  unfold W4
  generalize hx0 : dig0 n = a0 at *
  generalize hx1 : dig1 n = a1 at *
  generalize hx2 : dig2 n = a2 at *
  generalize hx3 : dig3 n = a3 at *
  generalize hz0 : dig0 m = b0 at *
  generalize hz1 : dig1 m = b1 at *
  generalize hz2 : dig2 m = b2 at *
  generalize hz3 : dig3 m = b3 at *
  obtain ⟨⟨p1, p2⟩, ⟨p3, p4⟩, ⟨p5, p6⟩, ⟨p7, p8⟩⟩ := bn
  obtain ⟨⟨q1, q2⟩, ⟨q3, q4⟩, ⟨q5, q6⟩, ⟨q7, q8⟩⟩ := bm
  have EN := Lib.hid en
  have EM := Lib.hid em
  have HH := Lib.hid h
  clear hx0 hx1 hx2 hx3 hz0 hz1 hz2 hz3 en em n0 m0 h
  go_enter Try.func52, Try.ntmps52
  go_wp2_with fail
  refine wp_loop_rounds 5 ?_
  rw [rounds_succ]
  go_wp2_with fail
  go_quiet (fail)
  go_wp2_with fail
  rw [rounds_succ]
  go_wp2_with fail
  go_quiet (fail)
  go_wp2_with fail
  rw [rounds_succ]
  go_wp2_with fail
  go_quiet (fail)
  go_wp2_with fail
  rw [rounds_succ]
  go_wp2_with fail
  go_quiet (fail)
  go_wp2_with fail
  rw [rounds_succ]
  go_wp2_with fail
  refine bodyPost_ret (v := .agg #[.int .u64 ((a0 + b0) % 4294967296), .int .u64 ((a1 + b1 + (a0 + b0) / 4294967296) % 4294967296),
    .int .u64 ((a2 + b2 + (a1 + b1 + (a0 + b0) / 4294967296) / 4294967296) % 4294967296),
    .int .u64 ((a3 + b3 + (a2 + b2 + (a1 + b1 + (a0 + b0) / 4294967296) / 4294967296) / 4294967296) % 4294967296)]) (by simp [results, Try.results52, go_sem]) rfl ⟨?_, ?_⟩
  · rw [HR.out]
    congr 1
    have k1 := EN.out
    have k2 := EM.out
    have k3 := HH.out
    exact w4_of (by omega) (by omega) (by omega) (by omega) (by omega) (by omega) (by omega) (by omega) (by omega)
  · repeat' (first | (with_reducible exact Below.refl _ _) | (with_reducible refine below_drewN ?_ _) | (with_reducible refine Below.setCell ?_ ?_ _) | (with_reducible refine Below.alloc ?_ ?_ _) | (simp; done) | (simp; omega))
set_option maxHeartbeats 1600000 in
theorem minus_any (n m : Int) (w : World) (m0 : 0 ≤ m) (h : m ≤ n) (n1 : n < 340282366920938463463374607431768211456) :
    Calls Try.prog 62 #[W4 n, W4 m] w fun e w' => e = .returned (W4 (n - m)) ∧ Below w.heap.size w w' := by
  have n0 : 0 ≤ n := by omega
  have en := dig_sum n0 (by omega)
  have em := dig_sum m0 (by omega)
  have bn := dig_bd n
  have bm := dig_bd m
  obtain ⟨R, hR⟩ : ∃ R, R = W4 (n - m) := ⟨_, rfl⟩
  rw [← hR]
  have HR := Lib.hid hR; clear hR
  unfold W4
  generalize hx0 : dig0 n = a0 at *
  generalize hx1 : dig1 n = a1 at *
  generalize hx2 : dig2 n = a2 at *
  generalize hx3 : dig3 n = a3 at *
  generalize hz0 : dig0 m = b0 at *
  generalize hz1 : dig1 m = b1 at *
  generalize hz2 : dig2 m = b2 at *
  generalize hz3 : dig3 m = b3 at *
  obtain ⟨⟨p1, p2⟩, ⟨p3, p4⟩, ⟨p5, p6⟩, ⟨p7, p8⟩⟩ := bn
  obtain ⟨⟨q1, q2⟩, ⟨q3, q4⟩, ⟨q5, q6⟩, ⟨q7, q8⟩⟩ := bm
  have EN := Lib.hid en
  have EM := Lib.hid em
  clear hx0 hx1 hx2 hx3 hz0 hz1 hz2 hz3 en em n0 m0
  have HH := Lib.hid h
  have HN := Lib.hid n1
  clear h n1
  go_enter Try.func62, Try.ntmps62
  go_wp2_with fail
  refine wp_loop_rounds 5 ?_
  rw [rounds_succ]
  go_wp2_with fail
  go_quiet (fail)
  go_wp2_with fail
  rw [rounds_succ]
  go_wp2_with fail
  go_quiet (fail)
  go_wp2_with fail
  rw [rounds_succ]
  go_wp2_with fail
  go_quiet (fail)
  go_wp2_with fail
  rw [rounds_succ]
  go_wp2_with fail
  go_quiet (fail)
  go_wp2_with fail
  rw [rounds_succ]
  go_wp2_with fail
  go_returns
  refine ⟨?_, ?_⟩
  · rw [HR.out]
    congr 1
    have k1 := EN.out
    have k2 := EM.out
    have k3 := HH.out
    have k4 := HN.out
    exact w4_of (by omega) (by omega) (by omega) (by omega) (by omega) (by omega) (by omega) (by omega) (by omega)
  · repeat' (first | (with_reducible exact Below.refl _ _) | (with_reducible refine below_drewN ?_ _) | (with_reducible refine Below.setCell ?_ ?_ _) | (with_reducible refine Below.alloc ?_ ?_ _) | (simp; done) | (simp; omega))

set_option maxHeartbeats 3200000 in
theorem less_any (n m : Int) (w : World) (n0 : 0 ≤ n) (m0 : 0 ≤ m) (n1 : n < 340282366920938463463374607431768211456) (m1 : m < 340282366920938463463374607431768211456) :
    Calls Try.prog 53 #[W4 n, W4 m] w fun e w' => e = .returned (.bool (decide (n < m))) ∧ Below w.heap.size w w' := by
  have en := dig_sum n0 (by omega)
  have em := dig_sum m0 (by omega)
  have bn := dig_bd n
  have bm := dig_bd m
  obtain ⟨R, hR⟩ : ∃ R, R = decide (n < m) := ⟨_, rfl⟩
  rw [← hR]
  have HR := Lib.hid hR; clear hR
  unfold W4
  generalize hx0 : dig0 n = a0 at *
  generalize hx1 : dig1 n = a1 at *
  generalize hx2 : dig2 n = a2 at *
  generalize hx3 : dig3 n = a3 at *
  generalize hz0 : dig0 m = b0 at *
  generalize hz1 : dig1 m = b1 at *
  generalize hz2 : dig2 m = b2 at *
  generalize hz3 : dig3 m = b3 at *
  obtain ⟨⟨p1, p2⟩, ⟨p3, p4⟩, ⟨p5, p6⟩, ⟨p7, p8⟩⟩ := bn
  obtain ⟨⟨q1, q2⟩, ⟨q3, q4⟩, ⟨q5, q6⟩, ⟨q7, q8⟩⟩ := bm
  have EN := Lib.hid en
  have EM := Lib.hid em
  clear hx0 hx1 hx2 hx3 hz0 hz1 hz2 hz3 en em n0 m0
  clear n1 m1
  by_cases c3 : a3 = b3
  · subst c3
    by_cases c2 : a2 = b2
    · subst c2
      by_cases c1 : a1 = b1
      · subst c1
        by_cases c0 : a0 = b0
        · subst c0
          go_enter Try.func53, Try.ntmps53
          go_wp2_with fail
          refine wp_loop_rounds 5 ?_
          rw [rounds_succ]
          go_wp2_with fail
          go_quiet (fail)
          go_wp2_with fail
          rw [rounds_succ]
          go_wp2_with fail
          go_quiet (fail)
          go_wp2_with fail
          rw [rounds_succ]
          go_wp2_with fail
          go_quiet (fail)
          go_wp2_with fail
          rw [rounds_succ]
          go_wp2_with fail
          go_quiet (fail)
          go_wp2_with fail
          rw [rounds_succ]
          go_wp2_with fail
          go_returns
          refine ⟨?_, ?_⟩
          · exact ret_bool (by rw [HR.out]; have k1 := EN.out; have k2 := EM.out; symm; first | (rw [decide_eq_true_iff]; omega) | (rw [decide_eq_false_iff_not]; omega) | (rw [eq_comm, decide_eq_decide]; omega))
          · repeat' (first | (with_reducible exact Below.refl _ _) | (with_reducible refine below_drewN ?_ _) | (with_reducible refine Below.setCell ?_ ?_ _) | (with_reducible refine Below.alloc ?_ ?_ _) | (simp; done) | (simp; omega))
        · have d0 : (a0 != b0) = true := by simpa using c0
          by_cases e0 : a0 < b0
          · go_enter Try.func53, Try.ntmps53
            go_wp2_with fail
            refine wp_loop_rounds 5 ?_
            rw [rounds_succ]
            go_wp2_with fail
            go_quiet (fail)
            go_wp2_with fail
            rw [rounds_succ]
            go_wp2_with fail
            go_quiet (fail)
            go_wp2_with fail
            rw [rounds_succ]
            go_wp2_with fail
            go_quiet (fail)
            go_wp2_with fail
            rw [rounds_succ]
            go_wp2_with fail
            go_quiet (fail)
            go_wp2_with fail
            go_quiet (fail)
            go_wp2_with fail
            go_returns
            refine ⟨?_, ?_⟩
            · exact ret_bool (by rw [HR.out]; have k1 := EN.out; have k2 := EM.out; symm; first | (rw [decide_eq_true_iff]; omega) | (rw [decide_eq_false_iff_not]; omega) | (rw [eq_comm, decide_eq_decide]; omega))
            · repeat' (first | (with_reducible exact Below.refl _ _) | (with_reducible refine below_drewN ?_ _) | (with_reducible refine Below.setCell ?_ ?_ _) | (with_reducible refine Below.alloc ?_ ?_ _) | (simp; done) | (simp; omega))
          · go_enter Try.func53, Try.ntmps53
            go_wp2_with fail
            refine wp_loop_rounds 5 ?_
            rw [rounds_succ]
            go_wp2_with fail
            go_quiet (fail)
            go_wp2_with fail
            rw [rounds_succ]
            go_wp2_with fail
            go_quiet (fail)
            go_wp2_with fail
            rw [rounds_succ]
            go_wp2_with fail
            go_quiet (fail)
            go_wp2_with fail
            rw [rounds_succ]
            go_wp2_with fail
            go_quiet (fail)
            go_wp2_with fail
            go_quiet (fail)
            go_wp2_with fail
            go_returns
            refine ⟨?_, ?_⟩
            · exact ret_bool (by rw [HR.out]; have k1 := EN.out; have k2 := EM.out; symm; first | (rw [decide_eq_true_iff]; omega) | (rw [decide_eq_false_iff_not]; omega) | (rw [eq_comm, decide_eq_decide]; omega))
            · repeat' (first | (with_reducible exact Below.refl _ _) | (with_reducible refine below_drewN ?_ _) | (with_reducible refine Below.setCell ?_ ?_ _) | (with_reducible refine Below.alloc ?_ ?_ _) | (simp; done) | (simp; omega))
      · have d1 : (a1 != b1) = true := by simpa using c1
        by_cases e1 : a1 < b1
        · go_enter Try.func53, Try.ntmps53
          go_wp2_with fail
          refine wp_loop_rounds 5 ?_
          rw [rounds_succ]
          go_wp2_with fail
          go_quiet (fail)
          go_wp2_with fail
          rw [rounds_succ]
          go_wp2_with fail
          go_quiet (fail)
          go_wp2_with fail
          rw [rounds_succ]
          go_wp2_with fail
          go_quiet (fail)
          go_wp2_with fail
          go_quiet (fail)
          go_wp2_with fail
          go_returns
          refine ⟨?_, ?_⟩
          · exact ret_bool (by rw [HR.out]; have k1 := EN.out; have k2 := EM.out; symm; first | (rw [decide_eq_true_iff]; omega) | (rw [decide_eq_false_iff_not]; omega) | (rw [eq_comm, decide_eq_decide]; omega))
          · repeat' (first | (with_reducible exact Below.refl _ _) | (with_reducible refine below_drewN ?_ _) | (with_reducible refine Below.setCell ?_ ?_ _) | (with_reducible refine Below.alloc ?_ ?_ _) | (simp; done) | (simp; omega))
        · go_enter Try.func53, Try.ntmps53
          go_wp2_with fail
          refine wp_loop_rounds 5 ?_
          rw [rounds_succ]
          go_wp2_with fail
          go_quiet (fail)
          go_wp2_with fail
          rw [rounds_succ]
          go_wp2_with fail
          go_quiet (fail)
          go_wp2_with fail
          rw [rounds_succ]
          go_wp2_with fail
          go_quiet (fail)
          go_wp2_with fail
          go_quiet (fail)
          go_wp2_with fail
          go_returns
          refine ⟨?_, ?_⟩
          · exact ret_bool (by rw [HR.out]; have k1 := EN.out; have k2 := EM.out; symm; first | (rw [decide_eq_true_iff]; omega) | (rw [decide_eq_false_iff_not]; omega) | (rw [eq_comm, decide_eq_decide]; omega))
          · repeat' (first | (with_reducible exact Below.refl _ _) | (with_reducible refine below_drewN ?_ _) | (with_reducible refine Below.setCell ?_ ?_ _) | (with_reducible refine Below.alloc ?_ ?_ _) | (simp; done) | (simp; omega))
    · have d2 : (a2 != b2) = true := by simpa using c2
      by_cases e2 : a2 < b2
      · go_enter Try.func53, Try.ntmps53
        go_wp2_with fail
        refine wp_loop_rounds 5 ?_
        rw [rounds_succ]
        go_wp2_with fail
        go_quiet (fail)
        go_wp2_with fail
        rw [rounds_succ]
        go_wp2_with fail
        go_quiet (fail)
        go_wp2_with fail
        go_quiet (fail)
        go_wp2_with fail
        go_returns
        refine ⟨?_, ?_⟩
        · exact ret_bool (by rw [HR.out]; have k1 := EN.out; have k2 := EM.out; symm; first | (rw [decide_eq_true_iff]; omega) | (rw [decide_eq_false_iff_not]; omega) | (rw [eq_comm, decide_eq_decide]; omega))
        · repeat' (first | (with_reducible exact Below.refl _ _) | (with_reducible refine below_drewN ?_ _) | (with_reducible refine Below.setCell ?_ ?_ _) | (with_reducible refine Below.alloc ?_ ?_ _) | (simp; done) | (simp; omega))
      · go_enter Try.func53, Try.ntmps53
        go_wp2_with fail
        refine wp_loop_rounds 5 ?_
        rw [rounds_succ]
        go_wp2_with fail
        go_quiet (fail)
        go_wp2_with fail
        rw [rounds_succ]
        go_wp2_with fail
        go_quiet (fail)
        go_wp2_with fail
        go_quiet (fail)
        go_wp2_with fail
        go_returns
        refine ⟨?_, ?_⟩
        · exact ret_bool (by rw [HR.out]; have k1 := EN.out; have k2 := EM.out; symm; first | (rw [decide_eq_true_iff]; omega) | (rw [decide_eq_false_iff_not]; omega) | (rw [eq_comm, decide_eq_decide]; omega))
        · repeat' (first | (with_reducible exact Below.refl _ _) | (with_reducible refine below_drewN ?_ _) | (with_reducible refine Below.setCell ?_ ?_ _) | (with_reducible refine Below.alloc ?_ ?_ _) | (simp; done) | (simp; omega))
  · have d3 : (a3 != b3) = true := by simpa using c3
    by_cases e3 : a3 < b3
    · go_enter Try.func53, Try.ntmps53
      go_wp2_with fail
      refine wp_loop_rounds 5 ?_
      rw [rounds_succ]
      go_wp2_with fail
      go_quiet (fail)
      go_wp2_with fail
      go_quiet (fail)
      go_wp2_with fail
      go_returns
      refine ⟨?_, ?_⟩
      · exact ret_bool (by rw [HR.out]; have k1 := EN.out; have k2 := EM.out; symm; first | (rw [decide_eq_true_iff]; omega) | (rw [decide_eq_false_iff_not]; omega) | (rw [eq_comm, decide_eq_decide]; omega))
      · repeat' (first | (with_reducible exact Below.refl _ _) | (with_reducible refine below_drewN ?_ _) | (with_reducible refine Below.setCell ?_ ?_ _) | (with_reducible refine Below.alloc ?_ ?_ _) | (simp; done) | (simp; omega))
    · go_enter Try.func53, Try.ntmps53
      go_wp2_with fail
      refine wp_loop_rounds 5 ?_
      rw [rounds_succ]
      go_wp2_with fail
      go_quiet (fail)
      go_wp2_with fail
      go_quiet (fail)
      go_wp2_with fail
      go_returns
      refine ⟨?_, ?_⟩
      · exact ret_bool (by rw [HR.out]; have k1 := EN.out; have k2 := EM.out; symm; first | (rw [decide_eq_true_iff]; omega) | (rw [decide_eq_false_iff_not]; omega) | (rw [eq_comm, decide_eq_decide]; omega))
      · repeat' (first | (with_reducible exact Below.refl _ _) | (with_reducible refine below_drewN ?_ _) | (with_reducible refine Below.setCell ?_ ?_ _) | (with_reducible refine Below.alloc ?_ ?_ _) | (simp; done) | (simp; omega))
end Go.Proofs.Ytcjkofgbijdkcaa
