/- Package num's scalar functions: what they answer. Amounts are numbers from -2^62 to 2^62. -/
import Derived.WalkKit
import Derived.Outline
import Derived.Lib.Hide
import Derived.Test.YtcjkofgbijdkcaaBits
namespace Go.Proofs.Ytcjkofgbijdkcaa
open Go.RowKit

theorem bcell {W w1 : World} (hb : Below W.heap.size W w1) : (∀ b o, b < W.heap.size → w1.cell? ⟨b, o, none⟩ = W.cell? ⟨b, o, none⟩) ∧ (∀ b o, b < W.heap.size → w1.frozen? ⟨b, o, none⟩ = W.frozen? ⟨b, o, none⟩) :=
  ⟨fun b o h => hb.cell (p := ⟨b, o, none⟩) h, fun b o h => hb.frozen (p := ⟨b, o, none⟩) h⟩

theorem ret_bool {a b : Bool} (h : a = b) : Ending.returned (.bool a) = .returned (.bool b) := by rw [h]
theorem ret_int {k : IntKind} {a b : Int} (h : a = b) : Ending.returned (.int k a) = .returned (.int k b) := by rw [h]
theorem ret_three {k l m : IntKind} {a b c d x y : Int} (h1 : a = b) (h2 : c = d) (h3 : x = y) : Ending.returned (.tuple #[.int k a, .int l c, .int m x]) = .returned (.tuple #[.int k b, .int l d, .int m y]) := by rw [h1, h2, h3]

/-- is a number an amount -/
def amt (a : Int) : Bool := decide (-4611686018427387904 ≤ a ∧ a ≤ 4611686018427387904)

set_option maxHeartbeats 400000 in
theorem is_any (b off cap : Nat) (xs : List Int) (w : World) (hc : ∀ k, k < xs.length → w.cell? ⟨b, off + k, none⟩ = some (.int .i64 (xs.getD k 0)))
    (hl : xs.length ≤ 9223372036854775807) :
    Calls Try.prog 49 #[.slice (some ⟨b, off, none⟩) xs.length cap] w fun e w' => e = .returned (.bool (xs.all amt)) ∧ w = w' := by
  go_enter Try.func49, Try.ntmps49
  go_wp2_with fail
  go_loop [7] (fun i => ∃ k : Nat, k ≤ xs.length ∧ i = .int .i64 k ∧ (xs.take k).all amt = true) (fun i => xs.length - (intOf i).toNat)
  case atStart => exact ⟨0, Nat.zero_le _, rfl, rfl⟩
  case round =>
    obtain ⟨k, hk, rfl, ht⟩ := hrel
    have HT := Lib.hid ht
    clear ht
    by_cases hlt : k < xs.length
    · have hcell := hc k hlt
      have hg : xs.getD k 0 = xs[k] := by simp [hlt]
      rw [hg] at hcell
      have htk : xs.take (k + 1) = xs.take k ++ [xs[k]] := by rw [List.take_succ_eq_append_getElem hlt]
      have hall : xs.all amt = ((xs.take (k + 1)).all amt && (xs.drop (k + 1)).all amt) := by rw [← List.all_append, List.take_append_drop]
      rw [htk] at hall
      simp only [List.all_append, HT.out, List.all_cons, List.all_nil, Bool.and_true, Bool.true_and] at hall
      generalize xs[k] = x at *
      have HA := Lib.hid hall
      have HK := Lib.hid htk
      clear hall htk hg
      clear hc
      by_cases c1 : x < -4611686018427387904
      · have hx : amt x = false := by simp [amt]; omega
        have HX := Lib.hid hx
        clear hx
        go_wp2_with fail
        go_ret
        exact ⟨by rw [HA.out, HX.out]; rfl, rfl⟩
      · by_cases c2 : 4611686018427387904 < x
        · have hx : amt x = false := by simp [amt]; omega
          have HX := Lib.hid hx
          clear hx
          go_wp2_with fail
          go_ret
          exact ⟨by rw [HA.out, HX.out]; rfl, rfl⟩
        · have hx : amt x = true := by simp [amt]; omega
          have HX := Lib.hid hx
          clear hx
          go_wp2_with fail
          go_round
          case rel => exact ⟨k + 1, by omega, by go_num, by rw [HK.out, List.all_append, HT.out]; simp [HX.out]⟩
          case measure => simp [intOf]; omega
    · clear hc
      go_wp2_with fail
      go_ret
      have e : xs.take k = xs := List.take_of_length_le (by omega)
      rw [e] at HT
      exact ⟨ret_bool HT.out.symm, rfl⟩

theorem size_neg (a : Int) (w : World) (h1 : -4611686018427387904 ≤ a) (h2 : a ≤ 4611686018427387904) (c : a < 0) :
    Calls Try.prog 59 #[.int .i64 a] w fun e w' => e = .returned (.tuple #[.int .u64 (-a), .bool true]) ∧ w = w' := by
  obtain ⟨fin, hfin⟩ : ∃ v, v = Ending.returned (.tuple #[.int .u64 (-a), .bool true]) := ⟨_, rfl⟩
  rw [← hfin]
  have HF := Lib.hid hfin; clear hfin
  go_enter Try.func59, Try.ntmps59
  go_wp2
  go_ret2
  have e : IntKind.u64.wrap (-IntKind.u64.wrap a) = -a := by simp only [IntKind.wrap_u64]; omega
  rw [HF.out, ← e]
  exact ⟨rfl, rfl⟩

theorem size_pos (a : Int) (w : World) (h1 : -4611686018427387904 ≤ a) (h2 : a ≤ 4611686018427387904) (c : 0 ≤ a) :
    Calls Try.prog 59 #[.int .i64 a] w fun e w' => e = .returned (.tuple #[.int .u64 (a), .bool false]) ∧ w = w' := by
  go_enter Try.func59, Try.ntmps59
  go_wp2
  go_ret2
  exact ⟨rfl, rfl⟩

/-- a product's part: the quotient, rounded down, the rest, and the error -/
def dvd (T c : Int) : Int × Int × Int := if -4611686018427387904 ≤ T / c ∧ T / c ≤ 4611686018427387904 then (T / c, T % c, 0) else (0, 0, 2)

theorem dvd_in {T c q r : Int} (hc : 1 ≤ c) (h : T = q * c + r) (r0 : 0 ≤ r) (r1 : r < c) (q0 : -4611686018427387904 ≤ q) (q1 : q ≤ 4611686018427387904) : dvd T c = (q, r, 0) := by
  have e1 : T / c = q := by rw [h, Int.add_comm, Int.add_mul_ediv_right _ _ (by omega), Int.ediv_eq_zero_of_lt r0 r1]; omega
  have e2 : T % c = r := by rw [h, Int.add_comm, Int.add_mul_emod_self_right, Int.emod_eq_of_lt r0 r1]
  unfold dvd
  rw [e1, e2, if_pos ⟨q0, q1⟩]

theorem dvd_out {T c : Int} (h : T / c < -4611686018427387904 ∨ 4611686018427387904 < T / c) : dvd T c = (0, 0, 2) := by
  unfold dvd
  rw [if_neg (by omega)]

theorem dvd_high {T c q r : Int} (hc : 1 ≤ c) (h : T = q * c + r) (r0 : 0 ≤ r) (r1 : r < c) (q1 : 4611686018427387904 < q ∨ q < -4611686018427387904) : dvd T c = (0, 0, 2) := by
  have e1 : T / c = q := by rw [h, Int.add_comm, Int.add_mul_ediv_right _ _ (by omega), Int.ediv_eq_zero_of_lt r0 r1]; omega
  exact dvd_out (by omega)

theorem dvd_great {P H L c : Int} (hc : 1 ≤ c) (h : P = H * 18446744073709551616 + L) (l0 : 0 ≤ L) (hH : c ≤ H) : dvd P c = (0, 0, 2) ∧ dvd (-P) c = (0, 0, 2) := by
  have k : 18446744073709551616 ≤ P / c := (Int.le_ediv_iff_mul_le (by omega)).2 (by omega)
  have k2 : -P / c < -4611686018427387904 := by
    have : -P / c ≤ -18446744073709551616 := by
      rcases Int.lt_or_le (-18446744073709551616) (-P / c) with g | g
      · have g2 : -18446744073709551616 + 1 ≤ -P / c := g
        have := (Int.le_ediv_iff_mul_le (by omega)).1 g2
        omega
      · exact g
    omega
  exact ⟨dvd_out (.inr (by omega)), dvd_out (.inl k2)⟩

theorem ret_dvd {T c q r e : Int} (h : dvd T c = (q, r, e)) : Ending.returned (.tuple #[.int .i64 q, .int .i64 r, .int .i64 e]) =
    .returned (.tuple #[.int .i64 (dvd T c).1, .int .i64 (dvd T c).2.1, .int .i64 (dvd T c).2.2]) := by rw [h]

set_option maxHeartbeats 800000 in
theorem divided_pp (a b c : Int) (w : World) (a1 : -4611686018427387904 ≤ a) (a2 : a ≤ 4611686018427387904) (b1 : -4611686018427387904 ≤ b) (b2 : b ≤ 4611686018427387904) (c1 : 1 ≤ c) (c2 : c ≤ 4611686018427387904)
    (ha : 0 ≤ a) (hb : 0 ≤ b) :
    Calls Try.prog 50 #[.int .i64 a, .int .i64 b, .int .i64 c] w fun e w' =>
      e = .returned (.tuple #[.int .i64 (dvd (a * b) c).1, .int .i64 (dvd (a * b) c).2.1, .int .i64 (dvd (a * b) c).2.2]) ∧ Below w.heap.size w w' := by
  have m := mul_bd (a := a) (b := b) (A := 4611686018427387904) (B := 4611686018427387904) (by omega) (by omega) (by omega) (by omega)
  obtain ⟨m1, m2⟩ := m
  have eT : a * b = (a * (b)) := rfl
  rw [eT]
  clear eT
  obtain ⟨P, hP⟩ : ∃ P, P = a * (b) := ⟨_, rfl⟩
  rw [← hP] at m1 m2 ⊢
  obtain ⟨fin, hfin⟩ : ∃ v, v = Ending.returned (.tuple #[.int .i64 (dvd (P) c).1, .int .i64 (dvd (P) c).2.1, .int .i64 (dvd (P) c).2.2]) := ⟨_, rfl⟩
  rw [← hfin]
  have HF := Lib.hid hfin; clear hfin
  have HP := Lib.hid hP; clear hP
  go_enter Try.func50, Try.ntmps50
  go_wp2_with fail
  refine (size_pos a _ a1 a2 ha).mono ?_
  rintro e w' ⟨rfl, rfl⟩
  go_wp2_with fail
  refine (size_pos b _ b1 b2 hb).mono ?_
  rintro e w' ⟨rfl, rfl⟩
  go_wp2_with fail
  refine (mul64_any _ _ _ (by omega) (by omega) (by omega) (by omega)).mono ?_
  rintro e w' ⟨rfl, rfl⟩
  rw [← HP.out]
  have eP : P = P / 18446744073709551616 * 18446744073709551616 + P % 18446744073709551616 := by omega
  have l0 : 0 ≤ P % 18446744073709551616 := by omega
  have l1 : P % 18446744073709551616 ≤ 18446744073709551615 := by omega
  have k0 : 0 ≤ P / 18446744073709551616 := by omega
  have k1 : P / 18446744073709551616 ≤ 18446744073709551615 := by omega
  generalize P % 18446744073709551616 = L at *
  generalize P / 18446744073709551616 = H at *
  have EP := Lib.hid eP
  clear eP
  by_cases hH : c ≤ H
  · go_wp2_with fail
    go_ret3
    have g := dvd_great c1 EP.out l0 hH
    rw [HF.out]
    exact ⟨ret_dvd g.1, Below.refl _ _⟩
  · have hH' : H < c := by omega
    go_wp2_with fail
    refine (div64_any H L c _ k0 hH' l0 l1 c2).mono ?_
    rintro e w' ⟨rfl, hbel⟩
    have r0 := Int.emod_nonneg (H * 18446744073709551616 + L) (b := c) (by omega)
    have r1 := Int.emod_lt_of_pos (H * 18446744073709551616 + L) (b := c) (by omega)
    have q0 : 0 ≤ (H * 18446744073709551616 + L) / c := Int.ediv_nonneg (by omega) (by omega)
    have e2 := Int.mul_ediv_add_emod (H * 18446744073709551616 + L) c
    have q2 : (H * 18446744073709551616 + L) / c ≤ 18446744073709551615 := by
      have : (H * 18446744073709551616 + L) / c < 18446744073709551616 := by apply Int.ediv_lt_of_lt_mul (by omega); omega
      omega
    generalize (H * 18446744073709551616 + L) / c = q at *
    generalize (H * 18446744073709551616 + L) % c = r at *
    rw [← EP.out, Int.mul_comm] at e2
    have E2 := Lib.hid e2
    clear e2
    by_cases hq : 4611686018427387904 < q
    · go_wp2_with fail
      go_ret3
      rw [HF.out]
      exact ⟨ret_dvd (dvd_high c1 E2.out.symm r0 r1 (.inl hq)), hbel⟩
    · go_wp2_with fail
      go_ret3
      rw [HF.out]
      exact ⟨ret_dvd (dvd_in c1 E2.out.symm r0 r1 (by omega) (by omega)), hbel⟩

set_option maxHeartbeats 800000 in
theorem divided_nn (a b c : Int) (w : World) (a1 : -4611686018427387904 ≤ a) (a2 : a ≤ 4611686018427387904) (b1 : -4611686018427387904 ≤ b) (b2 : b ≤ 4611686018427387904) (c1 : 1 ≤ c) (c2 : c ≤ 4611686018427387904)
    (ha : a < 0) (hb : b < 0) :
    Calls Try.prog 50 #[.int .i64 a, .int .i64 b, .int .i64 c] w fun e w' =>
      e = .returned (.tuple #[.int .i64 (dvd (a * b) c).1, .int .i64 (dvd (a * b) c).2.1, .int .i64 (dvd (a * b) c).2.2]) ∧ Below w.heap.size w w' := by
  have m := mul_bd (a := -a) (b := -b) (A := 4611686018427387904) (B := 4611686018427387904) (by omega) (by omega) (by omega) (by omega)
  obtain ⟨m1, m2⟩ := m
  have eT : a * b = (-a * (-b)) := by rw [Int.neg_mul_neg]
  rw [eT]
  clear eT
  obtain ⟨P, hP⟩ : ∃ P, P = -a * (-b) := ⟨_, rfl⟩
  rw [← hP] at m1 m2 ⊢
  obtain ⟨fin, hfin⟩ : ∃ v, v = Ending.returned (.tuple #[.int .i64 (dvd (P) c).1, .int .i64 (dvd (P) c).2.1, .int .i64 (dvd (P) c).2.2]) := ⟨_, rfl⟩
  rw [← hfin]
  have HF := Lib.hid hfin; clear hfin
  have HP := Lib.hid hP; clear hP
  go_enter Try.func50, Try.ntmps50
  go_wp2_with fail
  refine (size_neg a _ a1 a2 ha).mono ?_
  rintro e w' ⟨rfl, rfl⟩
  go_wp2_with fail
  refine (size_neg b _ b1 b2 hb).mono ?_
  rintro e w' ⟨rfl, rfl⟩
  go_wp2_with fail
  refine (mul64_any _ _ _ (by omega) (by omega) (by omega) (by omega)).mono ?_
  rintro e w' ⟨rfl, rfl⟩
  rw [← HP.out]
  have eP : P = P / 18446744073709551616 * 18446744073709551616 + P % 18446744073709551616 := by omega
  have l0 : 0 ≤ P % 18446744073709551616 := by omega
  have l1 : P % 18446744073709551616 ≤ 18446744073709551615 := by omega
  have k0 : 0 ≤ P / 18446744073709551616 := by omega
  have k1 : P / 18446744073709551616 ≤ 18446744073709551615 := by omega
  generalize P % 18446744073709551616 = L at *
  generalize P / 18446744073709551616 = H at *
  have EP := Lib.hid eP
  clear eP
  by_cases hH : c ≤ H
  · go_wp2_with fail
    go_ret3
    have g := dvd_great c1 EP.out l0 hH
    rw [HF.out]
    exact ⟨ret_dvd g.1, Below.refl _ _⟩
  · have hH' : H < c := by omega
    go_wp2_with fail
    refine (div64_any H L c _ k0 hH' l0 l1 c2).mono ?_
    rintro e w' ⟨rfl, hbel⟩
    have r0 := Int.emod_nonneg (H * 18446744073709551616 + L) (b := c) (by omega)
    have r1 := Int.emod_lt_of_pos (H * 18446744073709551616 + L) (b := c) (by omega)
    have q0 : 0 ≤ (H * 18446744073709551616 + L) / c := Int.ediv_nonneg (by omega) (by omega)
    have e2 := Int.mul_ediv_add_emod (H * 18446744073709551616 + L) c
    have q2 : (H * 18446744073709551616 + L) / c ≤ 18446744073709551615 := by
      have : (H * 18446744073709551616 + L) / c < 18446744073709551616 := by apply Int.ediv_lt_of_lt_mul (by omega); omega
      omega
    generalize (H * 18446744073709551616 + L) / c = q at *
    generalize (H * 18446744073709551616 + L) % c = r at *
    rw [← EP.out, Int.mul_comm] at e2
    have E2 := Lib.hid e2
    clear e2
    by_cases hq : 4611686018427387904 < q
    · go_wp2_with fail
      go_ret3
      rw [HF.out]
      exact ⟨ret_dvd (dvd_high c1 E2.out.symm r0 r1 (.inl hq)), hbel⟩
    · go_wp2_with fail
      go_ret3
      rw [HF.out]
      exact ⟨ret_dvd (dvd_in c1 E2.out.symm r0 r1 (by omega) (by omega)), hbel⟩

set_option maxHeartbeats 800000 in
theorem divided_pn (a b c : Int) (w : World) (a1 : -4611686018427387904 ≤ a) (a2 : a ≤ 4611686018427387904) (b1 : -4611686018427387904 ≤ b) (b2 : b ≤ 4611686018427387904) (c1 : 1 ≤ c) (c2 : c ≤ 4611686018427387904)
    (ha : 0 ≤ a) (hb : b < 0) :
    Calls Try.prog 50 #[.int .i64 a, .int .i64 b, .int .i64 c] w fun e w' =>
      e = .returned (.tuple #[.int .i64 (dvd (a * b) c).1, .int .i64 (dvd (a * b) c).2.1, .int .i64 (dvd (a * b) c).2.2]) ∧ Below w.heap.size w w' := by
  have m := mul_bd (a := a) (b := -b) (A := 4611686018427387904) (B := 4611686018427387904) (by omega) (by omega) (by omega) (by omega)
  obtain ⟨m1, m2⟩ := m
  have eT : a * b = -(a * (-b)) := by rw [Int.mul_neg, Int.neg_neg]
  rw [eT]
  clear eT
  obtain ⟨P, hP⟩ : ∃ P, P = a * (-b) := ⟨_, rfl⟩
  rw [← hP] at m1 m2 ⊢
  obtain ⟨fin, hfin⟩ : ∃ v, v = Ending.returned (.tuple #[.int .i64 (dvd (-P) c).1, .int .i64 (dvd (-P) c).2.1, .int .i64 (dvd (-P) c).2.2]) := ⟨_, rfl⟩
  rw [← hfin]
  have HF := Lib.hid hfin; clear hfin
  have HP := Lib.hid hP; clear hP
  go_enter Try.func50, Try.ntmps50
  go_wp2_with fail
  refine (size_pos a _ a1 a2 ha).mono ?_
  rintro e w' ⟨rfl, rfl⟩
  go_wp2_with fail
  refine (size_neg b _ b1 b2 hb).mono ?_
  rintro e w' ⟨rfl, rfl⟩
  go_wp2_with fail
  refine (mul64_any _ _ _ (by omega) (by omega) (by omega) (by omega)).mono ?_
  rintro e w' ⟨rfl, rfl⟩
  rw [← HP.out]
  have eP : P = P / 18446744073709551616 * 18446744073709551616 + P % 18446744073709551616 := by omega
  have l0 : 0 ≤ P % 18446744073709551616 := by omega
  have l1 : P % 18446744073709551616 ≤ 18446744073709551615 := by omega
  have k0 : 0 ≤ P / 18446744073709551616 := by omega
  have k1 : P / 18446744073709551616 ≤ 18446744073709551615 := by omega
  generalize P % 18446744073709551616 = L at *
  generalize P / 18446744073709551616 = H at *
  have EP := Lib.hid eP
  clear eP
  by_cases hH : c ≤ H
  · go_wp2_with fail
    go_ret3
    have g := dvd_great c1 EP.out l0 hH
    rw [HF.out]
    exact ⟨ret_dvd g.2, Below.refl _ _⟩
  · have hH' : H < c := by omega
    go_wp2_with fail
    refine (div64_any H L c _ k0 hH' l0 l1 c2).mono ?_
    rintro e w' ⟨rfl, hbel⟩
    have r0 := Int.emod_nonneg (H * 18446744073709551616 + L) (b := c) (by omega)
    have r1 := Int.emod_lt_of_pos (H * 18446744073709551616 + L) (b := c) (by omega)
    have q0 : 0 ≤ (H * 18446744073709551616 + L) / c := Int.ediv_nonneg (by omega) (by omega)
    have e2 := Int.mul_ediv_add_emod (H * 18446744073709551616 + L) c
    have q2 : (H * 18446744073709551616 + L) / c ≤ 18446744073709551615 := by
      have : (H * 18446744073709551616 + L) / c < 18446744073709551616 := by apply Int.ediv_lt_of_lt_mul (by omega); omega
      omega
    generalize (H * 18446744073709551616 + L) / c = q at *
    generalize (H * 18446744073709551616 + L) % c = r at *
    rw [← EP.out, Int.mul_comm] at e2
    have E2 := Lib.hid e2
    clear e2
    by_cases hq : 4611686018427387904 < q
    · go_wp2_with fail
      go_ret3
      rw [HF.out]
      by_cases hr : r = 0
      · exact ⟨ret_dvd (dvd_high (q := -q) (r := 0) c1 (by have := E2.out; rw [Int.neg_mul]; omega) (by omega) (by omega) (.inr (by omega))), hbel⟩
      · exact ⟨ret_dvd (dvd_high (q := -(q + 1)) (r := c - r) c1 (by have := E2.out; rw [Int.neg_mul, Int.add_mul]; omega) (by omega) (by omega) (.inr (by omega))), hbel⟩
    · by_cases hr : 0 < r
      · by_cases hq2 : 4611686018427387904 < q + 1
        · go_wp2_with fail
          go_ret3
          rw [HF.out]
          exact ⟨ret_dvd (dvd_high (q := -(q + 1)) (r := c - r) c1 (by have := E2.out; rw [Int.neg_mul, Int.add_mul]; omega) (by omega) (by omega) (.inr (by omega))), hbel⟩
        · go_wp2_with fail
          go_ret3
          rw [HF.out]
          exact ⟨ret_dvd (dvd_in (q := -(q + 1)) (r := c - r) c1 (by have := E2.out; rw [Int.neg_mul, Int.add_mul]; omega) (by omega) (by omega) (by omega) (by omega)), hbel⟩
      · go_wp2_with fail
        go_ret3
        rw [HF.out]
        exact ⟨ret_dvd (dvd_in (q := -q) (r := r) c1 (by have := E2.out; rw [Int.neg_mul]; omega) (by omega) (by omega) (by omega) (by omega)), hbel⟩

set_option maxHeartbeats 800000 in
theorem divided_np (a b c : Int) (w : World) (a1 : -4611686018427387904 ≤ a) (a2 : a ≤ 4611686018427387904) (b1 : -4611686018427387904 ≤ b) (b2 : b ≤ 4611686018427387904) (c1 : 1 ≤ c) (c2 : c ≤ 4611686018427387904)
    (ha : a < 0) (hb : 0 ≤ b) :
    Calls Try.prog 50 #[.int .i64 a, .int .i64 b, .int .i64 c] w fun e w' =>
      e = .returned (.tuple #[.int .i64 (dvd (a * b) c).1, .int .i64 (dvd (a * b) c).2.1, .int .i64 (dvd (a * b) c).2.2]) ∧ Below w.heap.size w w' := by
  have m := mul_bd (a := -a) (b := b) (A := 4611686018427387904) (B := 4611686018427387904) (by omega) (by omega) (by omega) (by omega)
  obtain ⟨m1, m2⟩ := m
  have eT : a * b = -(-a * (b)) := by rw [Int.neg_mul, Int.neg_neg]
  rw [eT]
  clear eT
  obtain ⟨P, hP⟩ : ∃ P, P = -a * (b) := ⟨_, rfl⟩
  rw [← hP] at m1 m2 ⊢
  obtain ⟨fin, hfin⟩ : ∃ v, v = Ending.returned (.tuple #[.int .i64 (dvd (-P) c).1, .int .i64 (dvd (-P) c).2.1, .int .i64 (dvd (-P) c).2.2]) := ⟨_, rfl⟩
  rw [← hfin]
  have HF := Lib.hid hfin; clear hfin
  have HP := Lib.hid hP; clear hP
  go_enter Try.func50, Try.ntmps50
  go_wp2_with fail
  refine (size_neg a _ a1 a2 ha).mono ?_
  rintro e w' ⟨rfl, rfl⟩
  go_wp2_with fail
  refine (size_pos b _ b1 b2 hb).mono ?_
  rintro e w' ⟨rfl, rfl⟩
  go_wp2_with fail
  refine (mul64_any _ _ _ (by omega) (by omega) (by omega) (by omega)).mono ?_
  rintro e w' ⟨rfl, rfl⟩
  rw [← HP.out]
  have eP : P = P / 18446744073709551616 * 18446744073709551616 + P % 18446744073709551616 := by omega
  have l0 : 0 ≤ P % 18446744073709551616 := by omega
  have l1 : P % 18446744073709551616 ≤ 18446744073709551615 := by omega
  have k0 : 0 ≤ P / 18446744073709551616 := by omega
  have k1 : P / 18446744073709551616 ≤ 18446744073709551615 := by omega
  generalize P % 18446744073709551616 = L at *
  generalize P / 18446744073709551616 = H at *
  have EP := Lib.hid eP
  clear eP
  by_cases hH : c ≤ H
  · go_wp2_with fail
    go_ret3
    have g := dvd_great c1 EP.out l0 hH
    rw [HF.out]
    exact ⟨ret_dvd g.2, Below.refl _ _⟩
  · have hH' : H < c := by omega
    go_wp2_with fail
    refine (div64_any H L c _ k0 hH' l0 l1 c2).mono ?_
    rintro e w' ⟨rfl, hbel⟩
    have r0 := Int.emod_nonneg (H * 18446744073709551616 + L) (b := c) (by omega)
    have r1 := Int.emod_lt_of_pos (H * 18446744073709551616 + L) (b := c) (by omega)
    have q0 : 0 ≤ (H * 18446744073709551616 + L) / c := Int.ediv_nonneg (by omega) (by omega)
    have e2 := Int.mul_ediv_add_emod (H * 18446744073709551616 + L) c
    have q2 : (H * 18446744073709551616 + L) / c ≤ 18446744073709551615 := by
      have : (H * 18446744073709551616 + L) / c < 18446744073709551616 := by apply Int.ediv_lt_of_lt_mul (by omega); omega
      omega
    generalize (H * 18446744073709551616 + L) / c = q at *
    generalize (H * 18446744073709551616 + L) % c = r at *
    rw [← EP.out, Int.mul_comm] at e2
    have E2 := Lib.hid e2
    clear e2
    by_cases hq : 4611686018427387904 < q
    · go_wp2_with fail
      go_ret3
      rw [HF.out]
      by_cases hr : r = 0
      · exact ⟨ret_dvd (dvd_high (q := -q) (r := 0) c1 (by have := E2.out; rw [Int.neg_mul]; omega) (by omega) (by omega) (.inr (by omega))), hbel⟩
      · exact ⟨ret_dvd (dvd_high (q := -(q + 1)) (r := c - r) c1 (by have := E2.out; rw [Int.neg_mul, Int.add_mul]; omega) (by omega) (by omega) (.inr (by omega))), hbel⟩
    · by_cases hr : 0 < r
      · by_cases hq2 : 4611686018427387904 < q + 1
        · go_wp2_with fail
          go_ret3
          rw [HF.out]
          exact ⟨ret_dvd (dvd_high (q := -(q + 1)) (r := c - r) c1 (by have := E2.out; rw [Int.neg_mul, Int.add_mul]; omega) (by omega) (by omega) (.inr (by omega))), hbel⟩
        · go_wp2_with fail
          go_ret3
          rw [HF.out]
          exact ⟨ret_dvd (dvd_in (q := -(q + 1)) (r := c - r) c1 (by have := E2.out; rw [Int.neg_mul, Int.add_mul]; omega) (by omega) (by omega) (by omega) (by omega)), hbel⟩
      · go_wp2_with fail
        go_ret3
        rw [HF.out]
        exact ⟨ret_dvd (dvd_in (q := -q) (r := r) c1 (by have := E2.out; rw [Int.neg_mul]; omega) (by omega) (by omega) (by omega) (by omega)), hbel⟩

theorem divided_any (a b c : Int) (w : World) (a1 : -4611686018427387904 ≤ a) (a2 : a ≤ 4611686018427387904) (b1 : -4611686018427387904 ≤ b) (b2 : b ≤ 4611686018427387904) (c1 : 1 ≤ c) (c2 : c ≤ 4611686018427387904) :
    Calls Try.prog 50 #[.int .i64 a, .int .i64 b, .int .i64 c] w fun e w' =>
      e = .returned (.tuple #[.int .i64 (dvd (a * b) c).1, .int .i64 (dvd (a * b) c).2.1, .int .i64 (dvd (a * b) c).2.2]) ∧ Below w.heap.size w w' := by
  rcases Int.lt_or_le a 0 with ha | ha <;> rcases Int.lt_or_le b 0 with hb | hb
  · exact divided_nn a b c w a1 a2 b1 b2 c1 c2 ha hb
  · exact divided_np a b c w a1 a2 b1 b2 c1 c2 ha hb
  · exact divided_pn a b c w a1 a2 b1 b2 c1 c2 ha hb
  · exact divided_pp a b c w a1 a2 b1 b2 c1 c2 ha hb
end Go.Proofs.Ytcjkofgbijdkcaa
