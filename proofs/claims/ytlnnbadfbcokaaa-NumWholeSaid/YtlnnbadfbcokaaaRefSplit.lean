/- Package tallageref01: Split, where an amount may not be split; and the first rows of it where it may. -/
import Derived.WalkKit
import Derived.Outline
import Derived.Lib.Hide
import Derived.Handy
import Derived.Deep.QuietTactic
import Derived.BigQuiet
import Derived.BigRegion
import Derived.Deep.RegionHeld3
import Derived.Deep.DeepCutAuto
import Derived.Test.YtlnnbadfbcokaaaSplitY
import Derived.Test.YtlnnbadfbcokaaaRefSum
import Derived.Test.YtlnnbadfbcokaaaShare
namespace Go.Proofs.Ytlnnbadfbcokaaa
open Go.RowKit

set_option maxRecDepth 100000 in
set_option maxHeartbeats 1000000 in
theorem refSplit_no1 (a : Int) (A : Option Addr) (n cap : Nat) (w : World) (h : amt a = false ∨ n < 1 ∨ 64 < n) (hn : n ≤ 9223372036854775807) :
    Calls Try.prog 35 #[.int .i64 a, .slice A n cap] w fun e w' => e = NoSplit ∧ Below w.heap.size w w' := by
  cases ha : amt a with
  | false =>
    have HA := Lib.hid ha
    clear h ha
    go_enter Try.func35, Try.ntmps35
    go_wp2_with fail
    refine (isAmt_any a _).mono ?_
    rintro e w1 ⟨rfl, rfl⟩
    rw [HA.out]
    go_wp2_with fail
    go_ret2
    exact ⟨rfl, Below.refl _ _⟩
  | true =>
    have HA := Lib.hid ha
    have h' : n < 1 ∨ 64 < n := by
      rcases h with h | h
      · rw [ha] at h; cases h
      · exact h
    clear h ha
    rcases h' with h | h
    · go_enter Try.func35, Try.ntmps35
      go_wp2_with fail
      refine (isAmt_any a _).mono ?_
      rintro e w1 ⟨rfl, rfl⟩
      rw [HA.out]
      go_wp2_with fail
      go_ret2
      exact ⟨rfl, Below.refl _ _⟩
    · go_enter Try.func35, Try.ntmps35
      go_wp2_with fail
      refine (isAmt_any a _).mono ?_
      rintro e w1 ⟨rfl, rfl⟩
      rw [HA.out]
      go_wp2_with fail
      go_ret2
      exact ⟨rfl, Below.refl _ _⟩

set_option maxRecDepth 100000 in
set_option maxHeartbeats 2000000 in
theorem refSplit_no2 (a : Int) (b off cap : Nat) (xs : List Int) (w : World) (hbw : b < w.heap.size) (hc : ∀ k, k < xs.length → w.cell? ⟨b, off + k, none⟩ = some (.int .i64 (xs.getD k 0)))
    (hb : ∀ k, -9223372036854775808 ≤ xs.getD k 0 ∧ xs.getD k 0 ≤ 9223372036854775807) (ha : amt a = true) (h1 : 1 ≤ xs.length) (h64 : xs.length ≤ 64)
    (h : xs.all (fun x => decide (0 ≤ x)) = false ∨ (sumR xs).2 ≠ 0 ∨ (sumR xs).1 = 0) :
    Calls Try.prog 35 #[.int .i64 a, .slice (some ⟨b, off, none⟩) xs.length cap] w fun e w' => e = NoSplit ∧ Below w.heap.size w w' := by
  have HA := Lib.hid ha
  have HS := Lib.hid (refSum_any b off cap xs w (fun _ => hbw) hc (by omega) hb)
  have HC := Lib.hid hc
  have HH : Hid ((∀ k, k < xs.length → 0 ≤ xs.getD k 0) → (sumR xs).2 ≠ 0 ∨ (sumR xs).1 = 0) := Lib.hid (fun hx => h.resolve_left (fun e => by
    have : xs.all (fun x => decide (0 ≤ x)) = true := List.all_eq_true.2 (fun x hx2 => by
      obtain ⟨k, hk, rfl⟩ := List.mem_iff_getElem.1 hx2
      have := hx k hk
      simp only [List.getD_eq_getElem?_getD] at this
      rw [List.getElem?_eq_getElem hk] at this; simpa using this)
    rw [e] at this; cases this))
  clear ha hc hb h hbw
  generalize sumR xs = S at *
  generalize hX : xs.getD = X at *
  generalize hN : xs.length = n at *
  clear hX hN xs
  go_enter Try.func35, Try.ntmps35
  go_wp2_with fail
  refine (isAmt_any a _).mono ?_
  rintro e w1 ⟨rfl, rfl⟩
  rw [HA.out]
  go_wp2_with fail
  go_loop [7] (fun vi => ∃ k : Nat, k ≤ n ∧ vi = .int .i64 k ∧ Hid (∀ j, j < k → 0 ≤ X j 0)) (fun vi => n - (intOf vi).toNat)
  case atStart => exact ⟨0, by omega, rfl, Lib.hid (fun j h => absurd h (by omega))⟩
  case round =>
    obtain ⟨k, hk, rfl, HX⟩ := hrel
    by_cases hlt : k < n
    · have e1 := HC.out k hlt
      have HX2 : Hid (0 ≤ X k 0 → ∀ j, j < k + 1 → 0 ≤ X j 0) := Lib.hid (fun h j hj => by
        by_cases g : j = k
        · subst g; exact h
        · exact HX.out j (by omega))
      generalize X k 0 = x at *
      by_cases hx : x < 0
      · go_wp2_with fail
        go_ret2
        exact ⟨rfl, Below.refl _ _⟩
      · have HX3 := Lib.hid (HX2.out (by omega))
        go_wp2_with fail
        go_round
        case rel => exact ⟨k + 1, by omega, by go_num, HX3⟩
        case measure => simp [intOf]; omega
    · have hkn : k = n := by omega
      subst hkn
      have hs := HH.out HX.out
      obtain ⟨s, e⟩ := S
      simp only at hs
      clear HH HC
      by_cases he : e = 0
      · subst he
        obtain rfl : s = 0 := hs.resolve_left (fun h => h rfl)
        clear hs
        go_wp2_with fail
        refine HS.out.mono ?_
        rintro e w1 ⟨rfl, hb1⟩
        have HB1 := Lib.hid hb1
        clear hb1
        unfold Pair
        go_wp2_with fail
        go_ret2
        exact ⟨rfl, HB1.out⟩
      · have he' : (e != 0) = true := by simpa using he
        clear hs
        go_wp2_with fail
        refine HS.out.mono ?_
        rintro e w1 ⟨rfl, hb1⟩
        have HB1 := Lib.hid hb1
        clear hb1
        unfold Pair
        go_wp2_with fail
        go_ret2
        exact ⟨rfl, HB1.out⟩
end Go.Proofs.Ytlnnbadfbcokaaa
