/- The law NumSplits: any amount, split by any weights: the walk. -/
import Derived.WalkKit
import Derived.Outline
import Derived.Lib.Hide
import Derived.Test.YtlnnbadfbcokaaaNumBack
import Derived.Test.YtlnnbadfbcokaaaSplitA
namespace Go.Proofs.Ytlnnbadfbcokaaa
open Go.RowKit

set_option maxRecDepth 100000 in
set_option maxHeartbeats 2000000 in
theorem numSplits_walk (a : Int) (A : Option Addr) (n cap : Nat) (l : List Int) (w : World) (_ : -9223372036854775808 ≤ a) (_ : a ≤ 9223372036854775807) (hi : Ints w A n l) (hn : n ≤ 9223372036854775807) :
    Calls Try.prog 10 #[.int .i64 a, .slice A n cap] w fun e w' => e = .returned (.bool true) ∧ Below w.heap.size w w' := by
  have HI := Lib.hid hi
  clear hi
  by_cases c : 1000 < n
  · go_enter Try.func10, Try.ntmps10
    go_wp2_with fail
    refine (awake01 _).mono ?_
    rintro e w1 ⟨rfl, hb1⟩
    go_wp2_with fail
    go_ret
    exact ⟨rfl, hb1⟩
  · cases ho : splitOk a l with
    | false =>
      have H1 := Lib.hid (fun W (hb : Below w.heap.size w W) => numSplit_no a A n cap l W (HI.out.below hb) hn ho)
      have H2 := Lib.hid (fun W (hb : Below w.heap.size w W) => refSplit_no a A n cap l W (HI.out.below hb) hn ho)
      clear ho
      unfold NoSplit at H1 H2
      go_enter Try.func10, Try.ntmps10
      go_wp2_with fail
      refine (awake01 _).mono ?_
      rintro e w1 ⟨rfl, hb1⟩
      go_wp2_with fail
      refine (H1.out _ hb1).mono ?_
      rintro e w2 ⟨rfl, hb2⟩
      have hb12 := hb1.trans (hb2.mono hb1.size)
      clear hb2
      go_wp2_with fail
      refine (H2.out _ hb12).mono ?_
      rintro e w3 ⟨rfl, hb3⟩
      have hb13 := hb12.trans (hb3.mono hb12.size)
      clear hb3
      go_wp2_with fail
      refine (refSame_nil _).mono ?_
      rintro e w4 ⟨rfl, rfl⟩
      go_wp2_with fail
      go_ret
      exact ⟨rfl, hb13⟩
    | true =>
      have H1 := Lib.hid (fun W (hb : Below w.heap.size w W) => numSplit_is a A n cap l W (HI.out.below hb) ho)
      have H2 := Lib.hid (fun W (hb : Below w.heap.size w W) => refSplit_is a A n cap l W (HI.out.below hb) ho)
      clear ho
      generalize splL a l = F at *
      go_enter Try.func10, Try.ntmps10
      go_wp2_with fail
      refine (awake01 _).mono ?_
      rintro e w1 ⟨rfl, hb1⟩
      go_wp2_with fail
      refine (H1.out _ hb1).mono ?_
      rintro e w2 ⟨g, rfl, hr2, hg, hb2⟩
      have hb12 := hb1.trans (hb2.mono hb1.size)
      clear hb2
      go_wp2_with fail
      refine (H2.out _ hb12).mono ?_
      rintro e w3 ⟨q, rfl, hr3, hq, hb3⟩
      have hb13 := hb12.trans (hb3.mono hb12.size)
      have hr23 := hr2.call hb3
      clear hb3 hr2
      go_wp2_with fail
      refine (refSame_row g q n n n F _ hn (fun k hk => hr23.cell hk) (fun k hk => hr3.cell hk)).mono ?_
      rintro e w4 ⟨rfl, hb4⟩
      have hb14 := hb13.trans (hb4.mono hb13.size)
      clear hb4 hr23 hr3
      go_wp2_with fail
      go_ret
      exact ⟨rfl, hb14⟩
end Go.Proofs.Ytlnnbadfbcokaaa
