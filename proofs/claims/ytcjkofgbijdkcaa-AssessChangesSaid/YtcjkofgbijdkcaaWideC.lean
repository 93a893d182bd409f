/- The reference's wide numbers: Told, Mul: what they answer; memory that was there stays as it was. -/
import Derived.WalkKit
import Derived.Outline
import Derived.Lib.Hide
import Derived.Deep.QuietTactic
import Derived.BigQuiet
import Derived.Deep.RegionHeld3
import Derived.Handy
import Derived.Test.YtcjkofgbijdkcaaWideB
import Derived.Test.YtcjkofgbijdkcaaOwn
namespace Go.Proofs.Ytcjkofgbijdkcaa
open Go.RowKit

def toldW (s : Bool) (n : Int) : Int × Int := if 4611686018427387904 < n then (0, 2) else (valW s n, 0)

set_option maxHeartbeats 1600000 in
theorem wtold_any (s : Bool) (n : Int) (w : World) (n0 : 0 ≤ n) (n1 : n < 340282366920938463463374607431768211456) :
    Calls Try.prog 35 #[Wide s n] w fun e w' => e = Pair (toldW s n) ∧ Below w.heap.size w w' := by
  have hl := fun W => less_any 4611686018427387904 n W (by omega) n0 (by omega) n1
  have ho := fun W => of_pos 4611686018427387904 W (by omega) (by omega)
  have en := dig_sum n0 n1
  have bn := dig_bd n
  unfold W4 at hl
  unfold Wide at ho ⊢
  generalize dig0 4611686018427387904 = l0 at *
  generalize dig1 4611686018427387904 = l1 at *
  generalize dig2 4611686018427387904 = l2 at *
  generalize dig3 4611686018427387904 = l3 at *
  generalize dig0 n = a0 at *
  generalize dig1 n = a1 at *
  generalize dig2 n = a2 at *
  generalize dig3 n = a3 at *
  obtain ⟨⟨p1, p2⟩, ⟨p3, p4⟩, ⟨p5, p6⟩, ⟨p7, p8⟩⟩ := bn
  have HL := Lib.hid hl
  have HO := Lib.hid ho
  clear hl ho
  by_cases c : 4611686018427387904 < n
  · have hr : toldW s n = (0, 2) := by simp [toldW, c]
    have HR := Lib.hid hr
    have HC := Lib.hid (decide_eq_true c)
    clear hr en c
    go_enter Try.func35, Try.ntmps35
    go_wp2_with fail
    refine (HO.out _).mono ?_
    rintro e w1 ⟨rfl, hb1⟩
    obtain ⟨hc1, hf1⟩ := bcell hb1
    have hz1 : w.heap.size < w1.heap.size := by have := hb1.size; simp at this; omega
    go_wp2_with fail
    refine (HL.out _).mono ?_
    rintro e w2 ⟨rfl, hb2⟩
    rw [HC.out]
    go_wp2_with fail
    go_ret2
    exact ⟨pair_of HR.out, ((((Below.refl _ _).alloc (Nat.le_refl _) _).trans (hb1.mono (by simp))).alloc (by omega) _).trans (hb2.mono (by simp; omega))⟩
  · have h1 : a2 = 0 := by omega
    have h2 : a3 = 0 := by omega
    have h3 : a1 ≤ 1073741824 := by omega
    have h4 : n = a0 + a1 * 4294967296 := by omega
    have hr : toldW s n = (valW s (a0 + a1 * 4294967296), 0) := by simp [toldW, c, ← h4]
    have h5 : a0 + a1 * 4294967296 ≤ 4611686018427387904 := by omega
    have HR := Lib.hid hr
    have HC := Lib.hid (decide_eq_false c)
    clear hr en c h1 h2 h4
    cases s
    all_goals
      go_enter Try.func35, Try.ntmps35
      go_wp2_with fail
      refine (HO.out _).mono ?_
      rintro e w1 ⟨rfl, hb1⟩
      obtain ⟨hc1, hf1⟩ := bcell hb1
      have hz1 : w.heap.size < w1.heap.size := by have := hb1.size; simp at this; omega
      go_wp2_with fail
      refine (HL.out _).mono ?_
      rintro e w2 ⟨rfl, hb2⟩
      obtain ⟨hc2, hf2⟩ := bcell hb2
      have hz2 : w.heap.size < w1.heap.size + 1 := by omega
      rw [HC.out]
      go_wp2_with fail
      go_ret2
      exact ⟨pair_of (by rw [HR.out]; rfl), ((((Below.refl _ _).alloc (Nat.le_refl _) _).trans (hb1.mono (by simp))).alloc (by omega) _).trans (hb2.mono (by simp; omega))⟩
set_option maxHeartbeats 6400000 in
theorem wmul_any (s t : Bool) (n m : Int) (w : World) (n0 : 0 ≤ n) (n1 : n < 18446744073709551616) (m0 : 0 ≤ m) (m1 : m < 18446744073709551616) :
    Calls Try.prog 33 #[Wide s n, Wide t m] w fun e w' => e = .returned (Wide (s != t) (n * m)) ∧ Below w.heap.size w w' := by
  have en := dig_sum n0 (by omega)
  have em := dig_sum m0 (by omega)
  have bn := dig_bd n
  have bm := dig_bd m
  have hp := plus_any
  obtain ⟨R, hR⟩ : ∃ R, R = Wide (s != t) (n * m) := ⟨_, rfl⟩
  rw [← hR]
  have HR := Lib.hid hR; clear hR
  unfold Wide
  generalize dig0 n = a0 at *
  generalize dig1 n = a1 at *
  generalize dig2 n = a2 at *
  generalize dig3 n = a3 at *
  generalize dig0 m = b0 at *
  generalize dig1 m = b1 at *
  generalize dig2 m = b2 at *
  generalize dig3 m = b3 at *
  obtain ⟨⟨p1, p2⟩, ⟨p3, p4⟩, ⟨p5, p6⟩, ⟨p7, p8⟩⟩ := bn
  obtain ⟨⟨q1, q2⟩, ⟨q3, q4⟩, ⟨q5, q6⟩, ⟨q7, q8⟩⟩ := bm
  have z1 : n = a0 + a1 * 4294967296 := by omega
  have z2 : m = b0 + b1 * 4294967296 := by omega
  obtain ⟨l00, u00'⟩ := mul_bd (a := a0) (b := b0) (A := 4294967295) (B := 4294967295) (by omega) (by omega) (by omega) (by omega)
  obtain ⟨l01, u01'⟩ := mul_bd (a := a0) (b := b1) (A := 4294967295) (B := 4294967295) (by omega) (by omega) (by omega) (by omega)
  obtain ⟨l10, u10'⟩ := mul_bd (a := a1) (b := b0) (A := 4294967295) (B := 4294967295) (by omega) (by omega) (by omega) (by omega)
  obtain ⟨l11, u11'⟩ := mul_bd (a := a1) (b := b1) (A := 4294967295) (B := 4294967295) (by omega) (by omega) (by omega) (by omega)
  have hnm : n * m = a0 * b0 + a0 * b1 * 4294967296 + a1 * b0 * 4294967296 + a1 * b1 * 18446744073709551616 := by
    rw [z1, z2, Int.add_mul, Int.mul_add, Int.mul_add]
    have e1 : a1 * 4294967296 * (b1 * 4294967296) = a1 * b1 * 18446744073709551616 := by rw [Int.mul_assoc, Int.mul_left_comm 4294967296 b1, ← Int.mul_assoc]; rfl
    have e2 : a1 * 4294967296 * b0 = a1 * b0 * 4294967296 := by rw [Int.mul_right_comm]
    have e3 : a0 * (b1 * 4294967296) = a0 * b1 * 4294967296 := by rw [Int.mul_assoc]
    rw [e1, e2, e3]; omega
  have HNM := Lib.hid hnm
  have HP := Lib.hid hp
  have hw0 : (Value.agg #[.int .u64 0, .int .u64 0, .int .u64 0, .int .u64 0]) = W4 0 := w4_of (by omega) (by omega) (by omega) (by omega) (by omega) (by omega) (by omega) (by omega) (by omega)
  have HW0 := Lib.hid hw0
  clear hp hnm en em z1 z2 n1 m1 n0 m0 hw0
  go_enter Try.func33, Try.ntmps33
  go_wp2_with fail
  obtain ⟨V0, hV0⟩ : ∃ V0, V0 = (((w.alloc (.cells #[.bool s, .int .u64 a0, .int .u64 a1, .int .u64 a2, .int .u64 a3] 59)).alloc (.cells #[.bool t, .int .u64 b0, .int .u64 b1, .int .u64 b2, .int .u64 b3] 59)).alloc (.cells #[.bool false, .int .u64 0, .int .u64 0, .int .u64 0, .int .u64 0] 59)).alloc (.cells #[.int .u64 0, .int .u64 0, .int .u64 0, .int .u64 0] 57) := ⟨_, rfl⟩
  rw [← hV0]
  have o0_0 : Own V0 w.heap.size #[.bool s, .int .u64 a0, .int .u64 a1, .int .u64 a2, .int .u64 a3] 59 := by rw [hV0]; exact own_alloc (own_alloc (own_alloc (own_new _ _ _) _) _) _
  have o1_0 : Own V0 (w.heap.size + 1) #[.bool t, .int .u64 b0, .int .u64 b1, .int .u64 b2, .int .u64 b3] 59 := by rw [hV0]; have := own_alloc (own_alloc (own_new (w.alloc (.cells #[.bool s, .int .u64 a0, .int .u64 a1, .int .u64 a2, .int .u64 a3] 59)) #[.bool t, .int .u64 b0, .int .u64 b1, .int .u64 b2, .int .u64 b3] 59) (.cells #[.bool false, .int .u64 0, .int .u64 0, .int .u64 0, .int .u64 0] 59)) (.cells #[.int .u64 0, .int .u64 0, .int .u64 0, .int .u64 0] 57); simpa using this
  have o2_0 : Own V0 (w.heap.size + 1 + 1) #[.bool false, .int .u64 0, .int .u64 0, .int .u64 0, .int .u64 0] 59 := by rw [hV0]; have := own_alloc (own_new ((w.alloc (.cells #[.bool s, .int .u64 a0, .int .u64 a1, .int .u64 a2, .int .u64 a3] 59)).alloc (.cells #[.bool t, .int .u64 b0, .int .u64 b1, .int .u64 b2, .int .u64 b3] 59)) #[.bool false, .int .u64 0, .int .u64 0, .int .u64 0, .int .u64 0] 59) (.cells #[.int .u64 0, .int .u64 0, .int .u64 0, .int .u64 0] 57); simpa using this
  have o3_0 : Own V0 (w.heap.size + 1 + 1 + 1) #[.int .u64 0, .int .u64 0, .int .u64 0, .int .u64 0] 57 := by rw [hV0]; have := own_new (((w.alloc (.cells #[.bool s, .int .u64 a0, .int .u64 a1, .int .u64 a2, .int .u64 a3] 59)).alloc (.cells #[.bool t, .int .u64 b0, .int .u64 b1, .int .u64 b2, .int .u64 b3] 59)).alloc (.cells #[.bool false, .int .u64 0, .int .u64 0, .int .u64 0, .int .u64 0] 59)) #[.int .u64 0, .int .u64 0, .int .u64 0, .int .u64 0] 57; simpa using this
  have bel0 : Below w.heap.size w V0 := by rw [hV0]; exact ((((Below.refl _ _).alloc (Nat.le_refl _) _).alloc (by simp) _).alloc (by simp; omega) _).alloc (by simp; omega) _
  have sz0 : w.heap.size + 4 ≤ V0.heap.size := by rw [hV0]; simp
  generalize hBe : w.heap.size = B at *
  have HBE := Lib.hid hBe
  clear hBe hV0
  refine wp_loop_rounds 3 ?_
  have c0_0 := own_cell o0_0
  have c1_0 := own_cell o1_0
  have c2_0 := own_cell o2_0
  have c3_0 := own_cell o3_0
  have f2_0 := own_frz o2_0
  have f3_0 := own_frz o3_0
  have O0_0 := Lib.hid o0_0; clear o0_0
  have O1_0 := Lib.hid o1_0; clear o1_0
  have O2_0 := Lib.hid o2_0; clear o2_0
  have O3_0 := Lib.hid o3_0; clear o3_0
  have l0_0 : B < V0.heap.size := by omega
  have l1_0 : B + 1 < V0.heap.size := by omega
  have l2_0 : B + 1 + 1 < V0.heap.size := by omega
  have l3_0 : B + 1 + 1 + 1 < V0.heap.size := by omega
  rw [rounds_succ]
  go_wp2_with fail
  refine wp_loop_rounds 3 ?_
  rw [rounds_succ]
  go_wp2_with fail
  go_quiet (fail)
  have q1_0 := frz_behind V0; have q2_0 := cell_behind V0; have q3_0 := set_behind V0; have q4_0 := cell_old_behind V0; have q5_0 := frz_old_behind V0
  go_wp2_with fail
  rw [show (Value.agg #[.int .u64 ((a0 * b0) % 4294967296), .int .u64 ((a0 * b0) / 4294967296), .int .u64 (0), .int .u64 (0)]) = W4 (a0 * b0) from w4_of (by omega) (by omega) (by omega) (by omega) (by omega) (by omega) (by omega) (by omega) (by omega)]
  rw [HW0.out]
  refine (HP.out (0) (a0 * b0) _ (by omega) (by omega) (by omega)).mono ?_
  rw [Int.zero_add]
  rintro e U0 ⟨rfl, hb0⟩
  have hs0 := hb0.size
  simp at hs0
  have o0_u0 := own_below (own_alloc (own_drewN O0_0.out _) _) hb0 (by simp; omega)
  have o1_u0 := own_below (own_alloc (own_drewN O1_0.out _) _) hb0 (by simp; omega)
  have o2_u0 := own_below (own_alloc (own_drewN O2_0.out _) _) hb0 (by simp; omega)
  have o3_u0 := own_below (own_alloc (own_drewN O3_0.out _) _) hb0 (by simp; omega)
  have bel_u0 := ((below_drewN bel0 _).alloc (by simp; omega) _).trans (hb0.mono (by simp; omega))
  have sz_u0 : B + 4 ≤ U0.heap.size := by omega
  clear c0_0 c1_0 c2_0 c3_0 f2_0 f3_0 l0_0 l1_0 l2_0 l3_0
  clear q1_0 q2_0 q3_0 q4_0 q5_0
  have cc0 := own_cell o3_u0; have ff0 := own_frz o3_u0
  have HO0 := Lib.hid (And.intro o0_u0 (And.intro o1_u0 (And.intro o2_u0 o3_u0))); clear o0_u0 o1_u0 o2_u0 o3_u0
  unfold W4
  go_wp2_with fail
  obtain ⟨V1, hV1⟩ : ∃ V, V = ((((U0.setCell ⟨B + 1 + 1 + 1, 0, none⟩ (.int .u64 (dig0 (a0 * b0)))).setCell ⟨B + 1 + 1 + 1, 1, none⟩ (.int .u64 (dig1 (a0 * b0)))).setCell ⟨B + 1 + 1 + 1, 2, none⟩ (.int .u64 (dig2 (a0 * b0)))).setCell ⟨B + 1 + 1 + 1, 3, none⟩ (.int .u64 (dig3 (a0 * b0)))) := ⟨_, rfl⟩
  rw [← hV1]
  obtain ⟨x0, x1, x2, x3⟩ := HO0.out
  have o0_1 := own_far (own_far (own_far (own_far x0 (g := B + 1 + 1 + 1) (by omega) 0 (.int .u64 (dig0 (a0 * b0)))) (g := B + 1 + 1 + 1) (by omega) 1 (.int .u64 (dig1 (a0 * b0)))) (g := B + 1 + 1 + 1) (by omega) 2 (.int .u64 (dig2 (a0 * b0)))) (g := B + 1 + 1 + 1) (by omega) 3 (.int .u64 (dig3 (a0 * b0)))
  rw [← hV1] at o0_1
  have o1_1 := own_far (own_far (own_far (own_far x1 (g := B + 1 + 1 + 1) (by omega) 0 (.int .u64 (dig0 (a0 * b0)))) (g := B + 1 + 1 + 1) (by omega) 1 (.int .u64 (dig1 (a0 * b0)))) (g := B + 1 + 1 + 1) (by omega) 2 (.int .u64 (dig2 (a0 * b0)))) (g := B + 1 + 1 + 1) (by omega) 3 (.int .u64 (dig3 (a0 * b0)))
  rw [← hV1] at o1_1
  have o2_1 := own_far (own_far (own_far (own_far x2 (g := B + 1 + 1 + 1) (by omega) 0 (.int .u64 (dig0 (a0 * b0)))) (g := B + 1 + 1 + 1) (by omega) 1 (.int .u64 (dig1 (a0 * b0)))) (g := B + 1 + 1 + 1) (by omega) 2 (.int .u64 (dig2 (a0 * b0)))) (g := B + 1 + 1 + 1) (by omega) 3 (.int .u64 (dig3 (a0 * b0)))
  rw [← hV1] at o2_1
  have o3_1 : Own V1 (B + 1 + 1 + 1) #[.int .u64 (dig0 (a0 * b0)), .int .u64 (dig1 (a0 * b0)), .int .u64 (dig2 (a0 * b0)), .int .u64 (dig3 (a0 * b0))] 57 := by rw [hV1]; have := own_set (own_set (own_set (own_set x3 0 (.int .u64 (dig0 (a0 * b0)))) 1 (.int .u64 (dig1 (a0 * b0)))) 2 (.int .u64 (dig2 (a0 * b0)))) 3 (.int .u64 (dig3 (a0 * b0))); simpa using this
  have bel1 := (((bel_u0.setCell (p := ⟨B + 1 + 1 + 1, 0, none⟩) (by simp; omega) (.int .u64 (dig0 (a0 * b0)))).setCell (p := ⟨B + 1 + 1 + 1, 1, none⟩) (by simp; omega) (.int .u64 (dig1 (a0 * b0)))).setCell (p := ⟨B + 1 + 1 + 1, 2, none⟩) (by simp; omega) (.int .u64 (dig2 (a0 * b0)))).setCell (p := ⟨B + 1 + 1 + 1, 3, none⟩) (by simp; omega) (.int .u64 (dig3 (a0 * b0)))
  rw [← hV1] at bel1
  have sz1 : B + 4 ≤ V1.heap.size := by rw [hV1]; simp; omega
  clear hV1 x0 x1 x2 x3 HO0 cc0 ff0 hb0 hs0 bel_u0 sz_u0 bel0 sz0 O0_0 O1_0 O2_0 O3_0
  have c0_1 := own_cell o0_1
  have c1_1 := own_cell o1_1
  have c2_1 := own_cell o2_1
  have c3_1 := own_cell o3_1
  have f2_1 := own_frz o2_1
  have f3_1 := own_frz o3_1
  have O0_1 := Lib.hid o0_1; clear o0_1
  have O1_1 := Lib.hid o1_1; clear o1_1
  have O2_1 := Lib.hid o2_1; clear o2_1
  have O3_1 := Lib.hid o3_1; clear o3_1
  have l0_1 : B < V1.heap.size := by omega
  have l1_1 : B + 1 < V1.heap.size := by omega
  have l2_1 : B + 1 + 1 < V1.heap.size := by omega
  have l3_1 : B + 1 + 1 + 1 < V1.heap.size := by omega
  rw [rounds_succ]
  go_wp2_with fail
  go_quiet (fail)
  have q1_1 := frz_behind V1; have q2_1 := cell_behind V1; have q3_1 := set_behind V1; have q4_1 := cell_old_behind V1; have q5_1 := frz_old_behind V1
  go_wp2_with fail
  rw [show (Value.agg #[.int .u64 (0), .int .u64 ((a0 * b1) % 4294967296), .int .u64 ((a0 * b1) / 4294967296), .int .u64 (0)]) = W4 (a0 * b1 * 4294967296) from w4_of (by omega) (by omega) (by omega) (by omega) (by omega) (by omega) (by omega) (by omega) (by omega)]
  rw [show (Value.agg #[.int .u64 (dig0 (a0 * b0)), .int .u64 (dig1 (a0 * b0)), .int .u64 (dig2 (a0 * b0)), .int .u64 (dig3 (a0 * b0))]) = W4 (a0 * b0) from rfl]
  refine (HP.out (a0 * b0) (a0 * b1 * 4294967296) _ (by omega) (by omega) (by omega)).mono ?_
  rintro e U1 ⟨rfl, hb1⟩
  have hs1 := hb1.size
  simp at hs1
  have o0_u1 := own_below (own_alloc (own_drewN O0_1.out _) _) hb1 (by simp; omega)
  have o1_u1 := own_below (own_alloc (own_drewN O1_1.out _) _) hb1 (by simp; omega)
  have o2_u1 := own_below (own_alloc (own_drewN O2_1.out _) _) hb1 (by simp; omega)
  have o3_u1 := own_below (own_alloc (own_drewN O3_1.out _) _) hb1 (by simp; omega)
  have bel_u1 := ((below_drewN bel1 _).alloc (by simp; omega) _).trans (hb1.mono (by simp; omega))
  have sz_u1 : B + 4 ≤ U1.heap.size := by omega
  clear c0_1 c1_1 c2_1 c3_1 f2_1 f3_1 l0_1 l1_1 l2_1 l3_1
  clear q1_1 q2_1 q3_1 q4_1 q5_1
  have cc1 := own_cell o3_u1; have ff1 := own_frz o3_u1
  have HO1 := Lib.hid (And.intro o0_u1 (And.intro o1_u1 (And.intro o2_u1 o3_u1))); clear o0_u1 o1_u1 o2_u1 o3_u1
  unfold W4
  go_wp2_with fail
  obtain ⟨V2, hV2⟩ : ∃ V, V = ((((U1.setCell ⟨B + 1 + 1 + 1, 0, none⟩ (.int .u64 (dig0 (a0 * b0 + a0 * b1 * 4294967296)))).setCell ⟨B + 1 + 1 + 1, 1, none⟩ (.int .u64 (dig1 (a0 * b0 + a0 * b1 * 4294967296)))).setCell ⟨B + 1 + 1 + 1, 2, none⟩ (.int .u64 (dig2 (a0 * b0 + a0 * b1 * 4294967296)))).setCell ⟨B + 1 + 1 + 1, 3, none⟩ (.int .u64 (dig3 (a0 * b0 + a0 * b1 * 4294967296)))) := ⟨_, rfl⟩
  rw [← hV2]
  obtain ⟨x0, x1, x2, x3⟩ := HO1.out
  have o0_2 := own_far (own_far (own_far (own_far x0 (g := B + 1 + 1 + 1) (by omega) 0 (.int .u64 (dig0 (a0 * b0 + a0 * b1 * 4294967296)))) (g := B + 1 + 1 + 1) (by omega) 1 (.int .u64 (dig1 (a0 * b0 + a0 * b1 * 4294967296)))) (g := B + 1 + 1 + 1) (by omega) 2 (.int .u64 (dig2 (a0 * b0 + a0 * b1 * 4294967296)))) (g := B + 1 + 1 + 1) (by omega) 3 (.int .u64 (dig3 (a0 * b0 + a0 * b1 * 4294967296)))
  rw [← hV2] at o0_2
  have o1_2 := own_far (own_far (own_far (own_far x1 (g := B + 1 + 1 + 1) (by omega) 0 (.int .u64 (dig0 (a0 * b0 + a0 * b1 * 4294967296)))) (g := B + 1 + 1 + 1) (by omega) 1 (.int .u64 (dig1 (a0 * b0 + a0 * b1 * 4294967296)))) (g := B + 1 + 1 + 1) (by omega) 2 (.int .u64 (dig2 (a0 * b0 + a0 * b1 * 4294967296)))) (g := B + 1 + 1 + 1) (by omega) 3 (.int .u64 (dig3 (a0 * b0 + a0 * b1 * 4294967296)))
  rw [← hV2] at o1_2
  have o2_2 := own_far (own_far (own_far (own_far x2 (g := B + 1 + 1 + 1) (by omega) 0 (.int .u64 (dig0 (a0 * b0 + a0 * b1 * 4294967296)))) (g := B + 1 + 1 + 1) (by omega) 1 (.int .u64 (dig1 (a0 * b0 + a0 * b1 * 4294967296)))) (g := B + 1 + 1 + 1) (by omega) 2 (.int .u64 (dig2 (a0 * b0 + a0 * b1 * 4294967296)))) (g := B + 1 + 1 + 1) (by omega) 3 (.int .u64 (dig3 (a0 * b0 + a0 * b1 * 4294967296)))
  rw [← hV2] at o2_2
  have o3_2 : Own V2 (B + 1 + 1 + 1) #[.int .u64 (dig0 (a0 * b0 + a0 * b1 * 4294967296)), .int .u64 (dig1 (a0 * b0 + a0 * b1 * 4294967296)), .int .u64 (dig2 (a0 * b0 + a0 * b1 * 4294967296)), .int .u64 (dig3 (a0 * b0 + a0 * b1 * 4294967296))] 57 := by rw [hV2]; have := own_set (own_set (own_set (own_set x3 0 (.int .u64 (dig0 (a0 * b0 + a0 * b1 * 4294967296)))) 1 (.int .u64 (dig1 (a0 * b0 + a0 * b1 * 4294967296)))) 2 (.int .u64 (dig2 (a0 * b0 + a0 * b1 * 4294967296)))) 3 (.int .u64 (dig3 (a0 * b0 + a0 * b1 * 4294967296))); simpa using this
  have bel2 := (((bel_u1.setCell (p := ⟨B + 1 + 1 + 1, 0, none⟩) (by simp; omega) (.int .u64 (dig0 (a0 * b0 + a0 * b1 * 4294967296)))).setCell (p := ⟨B + 1 + 1 + 1, 1, none⟩) (by simp; omega) (.int .u64 (dig1 (a0 * b0 + a0 * b1 * 4294967296)))).setCell (p := ⟨B + 1 + 1 + 1, 2, none⟩) (by simp; omega) (.int .u64 (dig2 (a0 * b0 + a0 * b1 * 4294967296)))).setCell (p := ⟨B + 1 + 1 + 1, 3, none⟩) (by simp; omega) (.int .u64 (dig3 (a0 * b0 + a0 * b1 * 4294967296)))
  rw [← hV2] at bel2
  have sz2 : B + 4 ≤ V2.heap.size := by rw [hV2]; simp; omega
  clear hV2 x0 x1 x2 x3 HO1 cc1 ff1 hb1 hs1 bel_u1 sz_u1 bel1 sz1 O0_1 O1_1 O2_1 O3_1
  have c0_2 := own_cell o0_2
  have c1_2 := own_cell o1_2
  have c2_2 := own_cell o2_2
  have c3_2 := own_cell o3_2
  have f2_2 := own_frz o2_2
  have f3_2 := own_frz o3_2
  have O0_2 := Lib.hid o0_2; clear o0_2
  have O1_2 := Lib.hid o1_2; clear o1_2
  have O2_2 := Lib.hid o2_2; clear o2_2
  have O3_2 := Lib.hid o3_2; clear o3_2
  have l0_2 : B < V2.heap.size := by omega
  have l1_2 : B + 1 < V2.heap.size := by omega
  have l2_2 : B + 1 + 1 < V2.heap.size := by omega
  have l3_2 : B + 1 + 1 + 1 < V2.heap.size := by omega
  rw [rounds_succ]
  go_wp2_with fail
  rw [rounds_succ]
  go_wp2_with fail
  refine wp_loop_rounds 3 ?_
  rw [rounds_succ]
  go_wp2_with fail
  go_quiet (fail)
  have q1_2 := frz_behind V2; have q2_2 := cell_behind V2; have q3_2 := set_behind V2; have q4_2 := cell_old_behind V2; have q5_2 := frz_old_behind V2
  go_wp2_with fail
  rw [show (Value.agg #[.int .u64 (0), .int .u64 ((a1 * b0) % 4294967296), .int .u64 ((a1 * b0) / 4294967296), .int .u64 (0)]) = W4 (a1 * b0 * 4294967296) from w4_of (by omega) (by omega) (by omega) (by omega) (by omega) (by omega) (by omega) (by omega) (by omega)]
  rw [show (Value.agg #[.int .u64 (dig0 (a0 * b0 + a0 * b1 * 4294967296)), .int .u64 (dig1 (a0 * b0 + a0 * b1 * 4294967296)), .int .u64 (dig2 (a0 * b0 + a0 * b1 * 4294967296)), .int .u64 (dig3 (a0 * b0 + a0 * b1 * 4294967296))]) = W4 (a0 * b0 + a0 * b1 * 4294967296) from rfl]
  refine (HP.out (a0 * b0 + a0 * b1 * 4294967296) (a1 * b0 * 4294967296) _ (by omega) (by omega) (by omega)).mono ?_
  rintro e U2 ⟨rfl, hb2⟩
  have hs2 := hb2.size
  simp at hs2
  have o0_u2 := own_below (own_alloc (own_drewN O0_2.out _) _) hb2 (by simp; omega)
  have o1_u2 := own_below (own_alloc (own_drewN O1_2.out _) _) hb2 (by simp; omega)
  have o2_u2 := own_below (own_alloc (own_drewN O2_2.out _) _) hb2 (by simp; omega)
  have o3_u2 := own_below (own_alloc (own_drewN O3_2.out _) _) hb2 (by simp; omega)
  have bel_u2 := ((below_drewN bel2 _).alloc (by simp; omega) _).trans (hb2.mono (by simp; omega))
  have sz_u2 : B + 4 ≤ U2.heap.size := by omega
  clear c0_2 c1_2 c2_2 c3_2 f2_2 f3_2 l0_2 l1_2 l2_2 l3_2
  clear q1_2 q2_2 q3_2 q4_2 q5_2
  have cc2 := own_cell o3_u2; have ff2 := own_frz o3_u2
  have HO2 := Lib.hid (And.intro o0_u2 (And.intro o1_u2 (And.intro o2_u2 o3_u2))); clear o0_u2 o1_u2 o2_u2 o3_u2
  unfold W4
  go_wp2_with fail
  obtain ⟨V3, hV3⟩ : ∃ V, V = ((((U2.setCell ⟨B + 1 + 1 + 1, 0, none⟩ (.int .u64 (dig0 (a0 * b0 + a0 * b1 * 4294967296 + a1 * b0 * 4294967296)))).setCell ⟨B + 1 + 1 + 1, 1, none⟩ (.int .u64 (dig1 (a0 * b0 + a0 * b1 * 4294967296 + a1 * b0 * 4294967296)))).setCell ⟨B + 1 + 1 + 1, 2, none⟩ (.int .u64 (dig2 (a0 * b0 + a0 * b1 * 4294967296 + a1 * b0 * 4294967296)))).setCell ⟨B + 1 + 1 + 1, 3, none⟩ (.int .u64 (dig3 (a0 * b0 + a0 * b1 * 4294967296 + a1 * b0 * 4294967296)))) := ⟨_, rfl⟩
  rw [← hV3]
  obtain ⟨x0, x1, x2, x3⟩ := HO2.out
  have o0_3 := own_far (own_far (own_far (own_far x0 (g := B + 1 + 1 + 1) (by omega) 0 (.int .u64 (dig0 (a0 * b0 + a0 * b1 * 4294967296 + a1 * b0 * 4294967296)))) (g := B + 1 + 1 + 1) (by omega) 1 (.int .u64 (dig1 (a0 * b0 + a0 * b1 * 4294967296 + a1 * b0 * 4294967296)))) (g := B + 1 + 1 + 1) (by omega) 2 (.int .u64 (dig2 (a0 * b0 + a0 * b1 * 4294967296 + a1 * b0 * 4294967296)))) (g := B + 1 + 1 + 1) (by omega) 3 (.int .u64 (dig3 (a0 * b0 + a0 * b1 * 4294967296 + a1 * b0 * 4294967296)))
  rw [← hV3] at o0_3
  have o1_3 := own_far (own_far (own_far (own_far x1 (g := B + 1 + 1 + 1) (by omega) 0 (.int .u64 (dig0 (a0 * b0 + a0 * b1 * 4294967296 + a1 * b0 * 4294967296)))) (g := B + 1 + 1 + 1) (by omega) 1 (.int .u64 (dig1 (a0 * b0 + a0 * b1 * 4294967296 + a1 * b0 * 4294967296)))) (g := B + 1 + 1 + 1) (by omega) 2 (.int .u64 (dig2 (a0 * b0 + a0 * b1 * 4294967296 + a1 * b0 * 4294967296)))) (g := B + 1 + 1 + 1) (by omega) 3 (.int .u64 (dig3 (a0 * b0 + a0 * b1 * 4294967296 + a1 * b0 * 4294967296)))
  rw [← hV3] at o1_3
  have o2_3 := own_far (own_far (own_far (own_far x2 (g := B + 1 + 1 + 1) (by omega) 0 (.int .u64 (dig0 (a0 * b0 + a0 * b1 * 4294967296 + a1 * b0 * 4294967296)))) (g := B + 1 + 1 + 1) (by omega) 1 (.int .u64 (dig1 (a0 * b0 + a0 * b1 * 4294967296 + a1 * b0 * 4294967296)))) (g := B + 1 + 1 + 1) (by omega) 2 (.int .u64 (dig2 (a0 * b0 + a0 * b1 * 4294967296 + a1 * b0 * 4294967296)))) (g := B + 1 + 1 + 1) (by omega) 3 (.int .u64 (dig3 (a0 * b0 + a0 * b1 * 4294967296 + a1 * b0 * 4294967296)))
  rw [← hV3] at o2_3
  have o3_3 : Own V3 (B + 1 + 1 + 1) #[.int .u64 (dig0 (a0 * b0 + a0 * b1 * 4294967296 + a1 * b0 * 4294967296)), .int .u64 (dig1 (a0 * b0 + a0 * b1 * 4294967296 + a1 * b0 * 4294967296)), .int .u64 (dig2 (a0 * b0 + a0 * b1 * 4294967296 + a1 * b0 * 4294967296)), .int .u64 (dig3 (a0 * b0 + a0 * b1 * 4294967296 + a1 * b0 * 4294967296))] 57 := by rw [hV3]; have := own_set (own_set (own_set (own_set x3 0 (.int .u64 (dig0 (a0 * b0 + a0 * b1 * 4294967296 + a1 * b0 * 4294967296)))) 1 (.int .u64 (dig1 (a0 * b0 + a0 * b1 * 4294967296 + a1 * b0 * 4294967296)))) 2 (.int .u64 (dig2 (a0 * b0 + a0 * b1 * 4294967296 + a1 * b0 * 4294967296)))) 3 (.int .u64 (dig3 (a0 * b0 + a0 * b1 * 4294967296 + a1 * b0 * 4294967296))); simpa using this
  have bel3 := (((bel_u2.setCell (p := ⟨B + 1 + 1 + 1, 0, none⟩) (by simp; omega) (.int .u64 (dig0 (a0 * b0 + a0 * b1 * 4294967296 + a1 * b0 * 4294967296)))).setCell (p := ⟨B + 1 + 1 + 1, 1, none⟩) (by simp; omega) (.int .u64 (dig1 (a0 * b0 + a0 * b1 * 4294967296 + a1 * b0 * 4294967296)))).setCell (p := ⟨B + 1 + 1 + 1, 2, none⟩) (by simp; omega) (.int .u64 (dig2 (a0 * b0 + a0 * b1 * 4294967296 + a1 * b0 * 4294967296)))).setCell (p := ⟨B + 1 + 1 + 1, 3, none⟩) (by simp; omega) (.int .u64 (dig3 (a0 * b0 + a0 * b1 * 4294967296 + a1 * b0 * 4294967296)))
  rw [← hV3] at bel3
  have sz3 : B + 4 ≤ V3.heap.size := by rw [hV3]; simp; omega
  clear hV3 x0 x1 x2 x3 HO2 cc2 ff2 hb2 hs2 bel_u2 sz_u2 bel2 sz2 O0_2 O1_2 O2_2 O3_2
  have c0_3 := own_cell o0_3
  have c1_3 := own_cell o1_3
  have c2_3 := own_cell o2_3
  have c3_3 := own_cell o3_3
  have f2_3 := own_frz o2_3
  have f3_3 := own_frz o3_3
  have O0_3 := Lib.hid o0_3; clear o0_3
  have O1_3 := Lib.hid o1_3; clear o1_3
  have O2_3 := Lib.hid o2_3; clear o2_3
  have O3_3 := Lib.hid o3_3; clear o3_3
  have l0_3 : B < V3.heap.size := by omega
  have l1_3 : B + 1 < V3.heap.size := by omega
  have l2_3 : B + 1 + 1 < V3.heap.size := by omega
  have l3_3 : B + 1 + 1 + 1 < V3.heap.size := by omega
  rw [rounds_succ]
  go_wp2_with fail
  go_quiet (fail)
  have q1_3 := frz_behind V3; have q2_3 := cell_behind V3; have q3_3 := set_behind V3; have q4_3 := cell_old_behind V3; have q5_3 := frz_old_behind V3
  go_wp2_with fail
  rw [show (Value.agg #[.int .u64 (0), .int .u64 (0), .int .u64 ((a1 * b1) % 4294967296), .int .u64 ((a1 * b1) / 4294967296)]) = W4 (a1 * b1 * 18446744073709551616) from w4_of (by omega) (by omega) (by omega) (by omega) (by omega) (by omega) (by omega) (by omega) (by omega)]
  rw [show (Value.agg #[.int .u64 (dig0 (a0 * b0 + a0 * b1 * 4294967296 + a1 * b0 * 4294967296)), .int .u64 (dig1 (a0 * b0 + a0 * b1 * 4294967296 + a1 * b0 * 4294967296)), .int .u64 (dig2 (a0 * b0 + a0 * b1 * 4294967296 + a1 * b0 * 4294967296)), .int .u64 (dig3 (a0 * b0 + a0 * b1 * 4294967296 + a1 * b0 * 4294967296))]) = W4 (a0 * b0 + a0 * b1 * 4294967296 + a1 * b0 * 4294967296) from rfl]
  refine (HP.out (a0 * b0 + a0 * b1 * 4294967296 + a1 * b0 * 4294967296) (a1 * b1 * 18446744073709551616) _ (by omega) (by omega) (by omega)).mono ?_
  rintro e U3 ⟨rfl, hb3⟩
  have hs3 := hb3.size
  simp at hs3
  have o0_u3 := own_below (own_alloc (own_drewN O0_3.out _) _) hb3 (by simp; omega)
  have o1_u3 := own_below (own_alloc (own_drewN O1_3.out _) _) hb3 (by simp; omega)
  have o2_u3 := own_below (own_alloc (own_drewN O2_3.out _) _) hb3 (by simp; omega)
  have o3_u3 := own_below (own_alloc (own_drewN O3_3.out _) _) hb3 (by simp; omega)
  have bel_u3 := ((below_drewN bel3 _).alloc (by simp; omega) _).trans (hb3.mono (by simp; omega))
  have sz_u3 : B + 4 ≤ U3.heap.size := by omega
  clear c0_3 c1_3 c2_3 c3_3 f2_3 f3_3 l0_3 l1_3 l2_3 l3_3
  clear q1_3 q2_3 q3_3 q4_3 q5_3
  have cc3 := own_cell o3_u3; have ff3 := own_frz o3_u3
  have HO3 := Lib.hid (And.intro o0_u3 (And.intro o1_u3 (And.intro o2_u3 o3_u3))); clear o0_u3 o1_u3 o2_u3 o3_u3
  unfold W4
  go_wp2_with fail
  obtain ⟨V4, hV4⟩ : ∃ V, V = ((((U3.setCell ⟨B + 1 + 1 + 1, 0, none⟩ (.int .u64 (dig0 (a0 * b0 + a0 * b1 * 4294967296 + a1 * b0 * 4294967296 + a1 * b1 * 18446744073709551616)))).setCell ⟨B + 1 + 1 + 1, 1, none⟩ (.int .u64 (dig1 (a0 * b0 + a0 * b1 * 4294967296 + a1 * b0 * 4294967296 + a1 * b1 * 18446744073709551616)))).setCell ⟨B + 1 + 1 + 1, 2, none⟩ (.int .u64 (dig2 (a0 * b0 + a0 * b1 * 4294967296 + a1 * b0 * 4294967296 + a1 * b1 * 18446744073709551616)))).setCell ⟨B + 1 + 1 + 1, 3, none⟩ (.int .u64 (dig3 (a0 * b0 + a0 * b1 * 4294967296 + a1 * b0 * 4294967296 + a1 * b1 * 18446744073709551616)))) := ⟨_, rfl⟩
  rw [← hV4]
  obtain ⟨x0, x1, x2, x3⟩ := HO3.out
  have o0_4 := own_far (own_far (own_far (own_far x0 (g := B + 1 + 1 + 1) (by omega) 0 (.int .u64 (dig0 (a0 * b0 + a0 * b1 * 4294967296 + a1 * b0 * 4294967296 + a1 * b1 * 18446744073709551616)))) (g := B + 1 + 1 + 1) (by omega) 1 (.int .u64 (dig1 (a0 * b0 + a0 * b1 * 4294967296 + a1 * b0 * 4294967296 + a1 * b1 * 18446744073709551616)))) (g := B + 1 + 1 + 1) (by omega) 2 (.int .u64 (dig2 (a0 * b0 + a0 * b1 * 4294967296 + a1 * b0 * 4294967296 + a1 * b1 * 18446744073709551616)))) (g := B + 1 + 1 + 1) (by omega) 3 (.int .u64 (dig3 (a0 * b0 + a0 * b1 * 4294967296 + a1 * b0 * 4294967296 + a1 * b1 * 18446744073709551616)))
  rw [← hV4] at o0_4
  have o1_4 := own_far (own_far (own_far (own_far x1 (g := B + 1 + 1 + 1) (by omega) 0 (.int .u64 (dig0 (a0 * b0 + a0 * b1 * 4294967296 + a1 * b0 * 4294967296 + a1 * b1 * 18446744073709551616)))) (g := B + 1 + 1 + 1) (by omega) 1 (.int .u64 (dig1 (a0 * b0 + a0 * b1 * 4294967296 + a1 * b0 * 4294967296 + a1 * b1 * 18446744073709551616)))) (g := B + 1 + 1 + 1) (by omega) 2 (.int .u64 (dig2 (a0 * b0 + a0 * b1 * 4294967296 + a1 * b0 * 4294967296 + a1 * b1 * 18446744073709551616)))) (g := B + 1 + 1 + 1) (by omega) 3 (.int .u64 (dig3 (a0 * b0 + a0 * b1 * 4294967296 + a1 * b0 * 4294967296 + a1 * b1 * 18446744073709551616)))
  rw [← hV4] at o1_4
  have o2_4 := own_far (own_far (own_far (own_far x2 (g := B + 1 + 1 + 1) (by omega) 0 (.int .u64 (dig0 (a0 * b0 + a0 * b1 * 4294967296 + a1 * b0 * 4294967296 + a1 * b1 * 18446744073709551616)))) (g := B + 1 + 1 + 1) (by omega) 1 (.int .u64 (dig1 (a0 * b0 + a0 * b1 * 4294967296 + a1 * b0 * 4294967296 + a1 * b1 * 18446744073709551616)))) (g := B + 1 + 1 + 1) (by omega) 2 (.int .u64 (dig2 (a0 * b0 + a0 * b1 * 4294967296 + a1 * b0 * 4294967296 + a1 * b1 * 18446744073709551616)))) (g := B + 1 + 1 + 1) (by omega) 3 (.int .u64 (dig3 (a0 * b0 + a0 * b1 * 4294967296 + a1 * b0 * 4294967296 + a1 * b1 * 18446744073709551616)))
  rw [← hV4] at o2_4
  have o3_4 : Own V4 (B + 1 + 1 + 1) #[.int .u64 (dig0 (a0 * b0 + a0 * b1 * 4294967296 + a1 * b0 * 4294967296 + a1 * b1 * 18446744073709551616)), .int .u64 (dig1 (a0 * b0 + a0 * b1 * 4294967296 + a1 * b0 * 4294967296 + a1 * b1 * 18446744073709551616)), .int .u64 (dig2 (a0 * b0 + a0 * b1 * 4294967296 + a1 * b0 * 4294967296 + a1 * b1 * 18446744073709551616)), .int .u64 (dig3 (a0 * b0 + a0 * b1 * 4294967296 + a1 * b0 * 4294967296 + a1 * b1 * 18446744073709551616))] 57 := by rw [hV4]; have := own_set (own_set (own_set (own_set x3 0 (.int .u64 (dig0 (a0 * b0 + a0 * b1 * 4294967296 + a1 * b0 * 4294967296 + a1 * b1 * 18446744073709551616)))) 1 (.int .u64 (dig1 (a0 * b0 + a0 * b1 * 4294967296 + a1 * b0 * 4294967296 + a1 * b1 * 18446744073709551616)))) 2 (.int .u64 (dig2 (a0 * b0 + a0 * b1 * 4294967296 + a1 * b0 * 4294967296 + a1 * b1 * 18446744073709551616)))) 3 (.int .u64 (dig3 (a0 * b0 + a0 * b1 * 4294967296 + a1 * b0 * 4294967296 + a1 * b1 * 18446744073709551616))); simpa using this
  have bel4 := (((bel_u3.setCell (p := ⟨B + 1 + 1 + 1, 0, none⟩) (by simp; omega) (.int .u64 (dig0 (a0 * b0 + a0 * b1 * 4294967296 + a1 * b0 * 4294967296 + a1 * b1 * 18446744073709551616)))).setCell (p := ⟨B + 1 + 1 + 1, 1, none⟩) (by simp; omega) (.int .u64 (dig1 (a0 * b0 + a0 * b1 * 4294967296 + a1 * b0 * 4294967296 + a1 * b1 * 18446744073709551616)))).setCell (p := ⟨B + 1 + 1 + 1, 2, none⟩) (by simp; omega) (.int .u64 (dig2 (a0 * b0 + a0 * b1 * 4294967296 + a1 * b0 * 4294967296 + a1 * b1 * 18446744073709551616)))).setCell (p := ⟨B + 1 + 1 + 1, 3, none⟩) (by simp; omega) (.int .u64 (dig3 (a0 * b0 + a0 * b1 * 4294967296 + a1 * b0 * 4294967296 + a1 * b1 * 18446744073709551616)))
  rw [← hV4] at bel4
  have sz4 : B + 4 ≤ V4.heap.size := by rw [hV4]; simp; omega
  clear hV4 x0 x1 x2 x3 HO3 cc3 ff3 hb3 hs3 bel_u3 sz_u3 bel3 sz3 O0_3 O1_3 O2_3 O3_3
  have c0_4 := own_cell o0_4
  have c1_4 := own_cell o1_4
  have c2_4 := own_cell o2_4
  have c3_4 := own_cell o3_4
  have f2_4 := own_frz o2_4
  have f3_4 := own_frz o3_4
  have O0_4 := Lib.hid o0_4; clear o0_4
  have O1_4 := Lib.hid o1_4; clear o1_4
  have O2_4 := Lib.hid o2_4; clear o2_4
  have O3_4 := Lib.hid o3_4; clear o3_4
  have l0_4 : B < V4.heap.size := by omega
  have l1_4 : B + 1 < V4.heap.size := by omega
  have l2_4 : B + 1 + 1 < V4.heap.size := by omega
  have l3_4 : B + 1 + 1 + 1 < V4.heap.size := by omega
  rw [rounds_succ]
  go_wp2_with fail
  rw [rounds_succ]
  go_wp2_with fail
  rw [← HNM.out]
  refine bodyPost_ret (v := .agg #[.bool (!s == t), .int .u64 (dig0 (n * m)), .int .u64 (dig1 (n * m)), .int .u64 (dig2 (n * m)), .int .u64 (dig3 (n * m))]) (by simp [results, Try.results33, go_sem, c2_4]) rfl ⟨?_, ?_⟩
  · rw [HR.out]; rfl
  · rw [HBE.out]
    repeat' (first | (with_reducible exact bel4) | (with_reducible refine below_drewN ?_ _) | (with_reducible refine Below.setCell ?_ ?_ _) | (simp; done) | (simp; omega))
end Go.Proofs.Ytcjkofgbijdkcaa
