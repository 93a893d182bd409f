/- Package num: Sum, of any numbers. -/
import Derived.WalkKit
import Derived.Outline
import Derived.Lib.Hide
import Derived.Handy
import Derived.Deep.QuietTactic
import Derived.BigQuiet
import Derived.Laws.Externs
import Derived.Test.YthamonfomihncaaNumB
namespace Go.Proofs.Ythamonfomihncaa
open Go.RowKit

theorem add64_run (x y : Int) (w : World) (hx : 0 ≤ x) (hy : 0 ≤ y) :
    (callFunc 41 #[.int .u64 x, .int .u64 y, .int .u64 0]).run Try.prog w = .ok (.value (.tuple #[.int .u64 ((x + y) % 18446744073709551616), .int .u64 ((x + y) / 18446744073709551616)])) w := by
  rw [run_callFunc_extern Try.func41 (by kernel_rfl) (by kernel_rfl) (by kernel_rfl) (e := add64Entry) (by kernel_rfl), run_add64 x y 0 hx hy (by omega) (by omega)]
  simp only [Result.andThen, Int.add_zero]

attribute [local go_sem] add64_run
/-- the sum of the first k -/
def sumI (xs : List Int) : Nat → Int
  | 0 => 0
  | k + 1 => sumI xs k + xs.getD k 0
def sumR (xs : List Int) : Int × Int := if xs.all amt then told (sumI xs xs.length) else (0, 1)

set_option maxRecDepth 100000 in
set_option maxHeartbeats 1000000 in
theorem toldS_any (a : Int) (w : World) : Calls Try.prog 42 #[.int .i64 a] w fun e w' => e = Pair (told a) ∧ Below w.heap.size w w' := by
  have h1 : Calls Try.prog 32 #[.slice (some ⟨w.heap.size, 0, none⟩) 1 1] (w.alloc (.cells #[.int .i64 a] 2)) fun e w' => e = .returned (.bool (amt a)) ∧ w.alloc (.cells #[.int .i64 a] 2) = w' := by
    have := is_any w.heap.size 0 1 [a] (w.alloc (.cells #[.int .i64 a] 2)) (fun k hk => by
      match k, hk with
      | 0, _ => simp [go_sem]) (by simp)
    simpa using this
  have HI := Lib.hid h1
  clear h1
  unfold Pair
  cases h : amt a with
  | true =>
    have HR : Hid (told a = (a, 0)) := Lib.hid (by simp [told, h])
    rw [h] at HI
    go_enter Try.func42, Try.ntmps42
    go_wp2_with fail
    refine HI.out.mono ?_
    rintro e w1 ⟨rfl, rfl⟩
    go_wp2_with fail
    go_ret2
    exact ⟨pair_of HR.out, (Below.refl _ _).alloc (Nat.le_refl _) _⟩
  | false =>
    have HR : Hid (told a = (0, 2)) := Lib.hid (by simp [told, h])
    rw [h] at HI
    go_enter Try.func42, Try.ntmps42
    go_wp2_with fail
    refine HI.out.mono ?_
    rintro e w1 ⟨rfl, rfl⟩
    go_wp2_with fail
    go_ret2
    exact ⟨pair_of HR.out, (Below.refl _ _).alloc (Nat.le_refl _) _⟩

set_option maxRecDepth 100000 in
set_option maxHeartbeats 1000000 in
theorem numSum_any (b off cap : Nat) (xs : List Int) (w : World) (hc : ∀ k, k < xs.length → w.cell? ⟨b, off + k, none⟩ = some (.int .i64 (xs.getD k 0))) (hl : xs.length ≤ 1000000)
    (hb : ∀ k, -9223372036854775808 ≤ xs.getD k 0 ∧ xs.getD k 0 ≤ 9223372036854775807) :
    Calls Try.prog 14 #[.slice (some ⟨b, off, none⟩) xs.length cap] w fun e w' => e = Pair (sumR xs) ∧ Below w.heap.size w w' := by
  go_enter Try.func14, Try.ntmps14
  go_wp2_with fail
  refine (is_any b off cap xs _ hc (by omega)).mono ?_
  rintro e w1 ⟨rfl, rfl⟩
  cases ha : xs.all amt with
  | false =>
    have HR : Hid (sumR xs = (0, 1)) := Lib.hid (by simp [sumR, ha])
    clear ha
    go_wp2_with fail
    go_ret2
    exact ⟨pair_of HR.out, Below.refl _ _⟩
  | true =>
    have HR : Hid (sumR xs = told (sumI xs xs.length)) := Lib.hid (by simp [sumR, ha])
    have HA : Hid (∀ k, k < xs.length → amt (xs.getD k 0) = true) := Lib.hid (fun k hk => by
      have := List.all_eq_true.1 ha (xs.getD k 0) (by simp only [List.getD_eq_getElem?_getD]; rw [List.getElem?_eq_getElem hk]; exact List.getElem_mem hk)
      exact this)
    have HC := Lib.hid hc
    have HS : Hid (∀ k, sumI xs (k + 1) = sumI xs k + xs.getD k 0) := Lib.hid (fun k => rfl)
    have HS0 : Hid (sumI xs 0 = 0) := Lib.hid rfl
    clear ha hc hb
    generalize hX : xs.getD = X at *
    generalize sumI xs = sm at *
    generalize xs.length = n at *
    clear hX
    go_wp2_with fail
    go_loop [4, 5, 15] (fun vl vh vi => ∃ (k : Nat) (T : Int), k ≤ n ∧ vi = .int .i64 k ∧ vl = .int .u64 (T % 18446744073709551616) ∧ vh = .int .i64 (T / 18446744073709551616) ∧ -4611686018427387904 * k ≤ T ∧ T ≤ 4611686018427387904 * k ∧ Hid (sm k = T)) (fun _ _ vi => n - (intOf vi).toNat)
    case atStart => exact ⟨0, 0, by omega, rfl, rfl, rfl, by omega, by omega, HS0⟩
    case round =>
      obtain ⟨k, T, hk, rfl, rfl, rfl, t1, t2, HT⟩ := hrel
      by_cases hlt : k < n
      · have e1 := HC.out k hlt
        have ham := amt_iff.1 (HA.out k hlt)
        have hstep := HS.out k
        rw [HT.out] at hstep
        have HSt := Lib.hid hstep
        clear hstep
        generalize X k 0 = x at *
        have m1 : 0 ≤ T % 18446744073709551616 ∧ T % 18446744073709551616 < 18446744073709551616 := by omega
        go_wp2_with fail
        rw [IntKind.wrap_u64 x]
        refine ⟨⟨k + 1, T + x, by omega, by go_num, ?_, ?_, by push_cast; omega, by push_cast; omega, Lib.hid HSt.out⟩, by simp [intOf]; omega⟩
        · congr 1; omega
        · congr 1
          have T1 : -4611686018427387904000000 ≤ T ∧ T ≤ 4611686018427387904000000 := by omega
          have w1 : wrap64 ((T % 18446744073709551616 + x % 18446744073709551616) / 18446744073709551616) = (T % 18446744073709551616 + x % 18446744073709551616) / 18446744073709551616 := by simp only [wrap64]; omega
          rw [w1]
          have c0 : 0 ≤ (T % 18446744073709551616 + x % 18446744073709551616) / 18446744073709551616 ∧ (T % 18446744073709551616 + x % 18446744073709551616) / 18446744073709551616 ≤ 1 := by omega
          have c1 : T / 18446744073709551616 + (x / 9223372036854775808 + (T % 18446744073709551616 + x % 18446744073709551616) / 18446744073709551616) = (T + x) / 18446744073709551616 := by omega
          have c2 : -1 ≤ x / 9223372036854775808 ∧ x / 9223372036854775808 ≤ 0 := by omega
          have c3 : -250000 ≤ T / 18446744073709551616 ∧ T / 18446744073709551616 ≤ 250000 := by omega
          rw [← c1]
          generalize (T % 18446744073709551616 + x % 18446744073709551616) / 18446744073709551616 = c at *
          generalize x / 9223372036854775808 = y at *
          generalize T / 18446744073709551616 = z at *
          have w2 : wrap64 (y + c) = y + c := by simp only [wrap64]; omega
          rw [w2]
          simp only [wrap64]; omega
      · have hk2 : k = n := by omega
        subst hk2
        have HF : Hid (sumR xs = told T) := Lib.hid (by rw [HR.out, HT.out])
        by_cases c1 : -9223372036854775808 ≤ T ∧ T ≤ 9223372036854775807
        · have b1 : (T / 18446744073709551616 != wrap64 (T % 18446744073709551616) / 9223372036854775808) = false := by
            have : T / 18446744073709551616 = wrap64 (T % 18446744073709551616) / 9223372036854775808 := by simp only [wrap64]; omega
            simp [this]
          have b2 : wrap64 (T % 18446744073709551616) = T := by simp only [wrap64]; omega
          have HB2 := Lib.hid b2
          clear b2
          go_wp2_with fail
          rw [HB2.out]
          refine (toldS_any T _).mono ?_
          rintro e w' ⟨rfl, hb'⟩
          have HB' := Lib.hid hb'
          clear hb'
          unfold Pair
          go_wp2_with fail
          go_ret2
          exact ⟨pair_of HF.out, HB'.out⟩
        · have b1 : (T / 18446744073709551616 != wrap64 (T % 18446744073709551616) / 9223372036854775808) = true := by
            have : ¬ T / 18446744073709551616 = wrap64 (T % 18446744073709551616) / 9223372036854775808 := by simp only [wrap64]; omega
            simp [this]
          have HZ : Hid (told T = (0, 2)) := Lib.hid (by unfold told; rw [show amt T = false by simp [amt]; omega]; rfl)
          go_wp2_with fail
          go_ret2
          exact ⟨pair_of (HF.out.trans HZ.out), Below.refl _ _⟩
end Go.Proofs.Ythamonfomihncaa
