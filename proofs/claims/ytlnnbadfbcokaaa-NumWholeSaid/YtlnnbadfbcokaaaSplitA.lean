/- Split of any amount by any weights, by the program and by the reference; and Same of two rows that are the same. -/
import Derived.WalkKit
import Derived.Outline
import Derived.Lib.Hide
import Derived.Handy
import Derived.Deep.QuietTactic
import Derived.BigQuiet
import Derived.Test.YtlnnbadfbcokaaaRefSplitY
import Derived.Test.YtlnnbadfbcokaaaSplitB
namespace Go.Proofs.Ytlnnbadfbcokaaa
open Go.RowKit

theorem refSplit_no (a : Int) (A : Option Addr) (n cap : Nat) (l : List Int) (w : World) (hi : Ints w A n l) (hn : n ≤ 9223372036854775807) (h : splitOk a l = false) :
    Calls Try.prog 35 #[.int .i64 a, .slice A n cap] w fun e w' => e = NoSplit ∧ Below w.heap.size w w' := by
  by_cases c : amt a = false ∨ n < 1 ∨ 64 < n
  · exact refSplit_no1 a A n cap w c hn
  · have c1 : amt a = true := by
      cases g : amt a
      · exact absurd (Or.inl g) c
      · rfl
    obtain ⟨b, off, rfl, hlt, hc⟩ := hi.2.1 (by omega)
    obtain rfl := hi.1
    exact refSplit_no2 a b off cap l w hlt hc hi.2.2 c1 (by omega) (by omega) (splitOk_not h c1 (by omega) (by omega))
theorem refSplit_is (a : Int) (A : Option Addr) (n cap : Nat) (l : List Int) (w : World) (hi : Ints w A n l) (h : splitOk a l = true) :
    Calls Try.prog 35 #[.int .i64 a, .slice A n cap] w (SplitTo n (splL a l) w) := by
  obtain ⟨c1, c2, c3, c4, c5, c6, c7, c8⟩ := splitOk_is h
  obtain ⟨b, off, rfl, hlt, hc⟩ := hi.2.1 (by have := hi.1; omega)
  obtain rfl := hi.1
  exact refSplit_yes a b off cap l w hlt hc hi.2.2 c1 c2 c3 _ c5 c6 c7 c4 c8

set_option maxRecDepth 100000 in
set_option maxHeartbeats 1000000 in
theorem refSame_nil (w : World) : Calls Try.prog 36 #[.slice none 0 0, .slice none 0 0] w fun e w' => e = .returned (.bool true) ∧ w = w' := by
  go_enter Try.func36, Try.ntmps36
  go_wp2_with fail
  go_loop [5] (fun vi => vi = .int .i64 0) (fun _ => 0)
  case atStart => rfl
  case round =>
    obtain rfl := hrel
    go_wp2_with fail
    go_ret
    exact ⟨rfl, rfl⟩
set_option maxRecDepth 100000 in
set_option maxHeartbeats 1000000 in
theorem refSame_row (g q n : Nat) (c d : Nat) (f : Nat → Int) (w : World) (hn : n ≤ 9223372036854775807) (h1 : ∀ k, k < n → w.cell? ⟨g, k, none⟩ = some (.int .i64 (f k))) (h2 : ∀ k, k < n → w.cell? ⟨q, k, none⟩ = some (.int .i64 (f k))) :
    Calls Try.prog 36 #[.slice (some ⟨g, 0, none⟩) n c, .slice (some ⟨q, 0, none⟩) n d] w fun e w' => e = .returned (.bool true) ∧ Below w.heap.size w w' := by
  have H1 := Lib.hid h1; have H2 := Lib.hid h2
  clear h1 h2
  go_enter Try.func36, Try.ntmps36
  go_wp2_with fail
  go_loopw [5] (fun vi wr => ∃ k m : Nat, k ≤ n ∧ vi = .int .i64 k ∧ wr = w.drewN m) (fun vi _ => n - (intOf vi).toNat)
  case atStart => exact ⟨0, 0, by omega, rfl, rfl⟩
  case round =>
    obtain ⟨k, m, hk, rfl, rfl⟩ := hrel
    by_cases hlt : k < n
    · have e1 := H1.out k hlt
      have e2 := H2.out k hlt
      have i1 : (k : Int) < (n : Int) := by omega
      have i2 : (0 : Int) ≤ (k : Int) := by omega
      generalize f k = z at *
      go_wp2_with fail
      go_quiet (fail)
      go_wp2_with fail
      exact ⟨⟨k + 1, _, by omega, by go_num, rfl⟩, by simp [intOf]; omega⟩
    · obtain rfl : n = k := by omega
      go_wp2_with fail
      go_ret
      exact ⟨rfl, below_drewN (Below.refl _ _) _⟩
end Go.Proofs.Ytlnnbadfbcokaaa
