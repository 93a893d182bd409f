/- The law NumSums: sums, differences and products of any two numbers are the reference's: the walk. -/
import Derived.WalkKit
import Derived.Outline
import Derived.Lib.Hide
import Derived.Test.YtlnnbadfbcokaaaNumBack
import Derived.Test.YtlnnbadfbcokaaaRefNum
namespace Go.Proofs.Ytlnnbadfbcokaaa
open Go.RowKit
set_option maxHeartbeats 1600000 in
theorem numSums_walk (a b : Int) (w : World) (a1 : -9223372036854775808 ≤ a) (a2 : a ≤ 9223372036854775807) (b1 : -9223372036854775808 ≤ b) (b2 : b ≤ 9223372036854775807) :
    Calls Try.prog 7 #[.int .i64 a, .int .i64 b] w fun e w' => e = .returned (.bool true) ∧ Below w.heap.size w w' := by
  have h1 := fun W => add_any a b W a1 a2 b1 b2
  have h2 := fun W => sub_any a b W a1 a2 b1 b2
  have h3 := fun W => mul_any a b W a1 a2 b1 b2
  have h4 := fun W => refAdd_any a b W a1 a2 b1 b2
  have h5 := fun W => refSub_any a b W a1 a2 b1 b2
  have h6 := fun W => refMul_any a b W a1 a2 b1 b2
  generalize addR a b = x at *
  generalize subR a b = y at *
  generalize mulDivR a b 1 = z at *
  obtain ⟨x1, x2⟩ := x
  obtain ⟨y1, y2⟩ := y
  obtain ⟨z1, z2⟩ := z
  unfold Pair at h1 h2 h3 h4 h5 h6
  have H1 := Lib.hid h1; have H2 := Lib.hid h2; have H3 := Lib.hid h3; have H4 := Lib.hid h4; have H5 := Lib.hid h5; have H6 := Lib.hid h6
  clear h1 h2 h3 h4 h5 h6
  go_enter Try.func7, Try.ntmps7
  go_wp2_with fail
  refine (awake01 _).mono ?_
  rintro e w1 ⟨rfl, hb1⟩
  go_wp2_with fail
  refine (H1.out _).mono ?_
  rintro e w2 ⟨rfl, hb2⟩
  go_wp2_with fail
  refine (H2.out _).mono ?_
  rintro e w3 ⟨rfl, hb3⟩
  go_wp2_with fail
  refine (H3.out _).mono ?_
  rintro e w4 ⟨rfl, hb4⟩
  go_wp2_with fail
  refine (H4.out _).mono ?_
  rintro e w5 ⟨rfl, hb5⟩
  go_wp2_with fail
  refine (H5.out _).mono ?_
  rintro e w6 ⟨rfl, hb6⟩
  go_wp2_with fail
  refine (H6.out _).mono ?_
  rintro e w7 ⟨rfl, hb7⟩
  go_wp2_with fail
  go_ret
  have k1 := hb1.size
  have k2 := hb2.size
  have k3 := hb3.size
  have k4 := hb4.size
  have k5 := hb5.size
  have k6 := hb6.size
  exact ⟨rfl, (((((hb1.trans (hb2.mono k1)).trans (hb3.mono (by omega))).trans (hb4.mono (by omega))).trans (hb5.mono (by omega))).trans (hb6.mono (by omega))).trans (hb7.mono (by omega))⟩
end Go.Proofs.Ytlnnbadfbcokaaa
