/- A product's part, reckoned by wide numbers: Of, Of, Mul, Div, Told, one behind the other; each step's value behind a name. -/
import Derived.WalkKit
import Derived.Outline
import Derived.Lib.Hide
import Derived.Test.YtlnnbadfbcokaaaRefNum
import Derived.Test.YtlnnbadfbcokaaaOwn
namespace Go.Proofs.Ytlnnbadfbcokaaa
open Go.RowKit

/-- five cells of a wide number -/
def wideV (s : Bool) (m : Int) : Value := .agg #[.bool s, .int .u64 (dig0 m), .int .u64 (dig1 m), .int .u64 (dig2 m), .int .u64 (dig3 m)]
theorem share_chain (a x c : Int) (a1 : -9223372036854775808 ≤ a) (a2 : a ≤ 9223372036854775807) (x1 : -9223372036854775808 ≤ x) (x2 : x ≤ 9223372036854775807) (c1 : 1 ≤ c) (c2 : c ≤ 4611686018427387904) :
    ∃ (va vx vp : Value) (s : Bool) (d0 d1 d2 d3 : Int),
      (∀ W, Calls Try.prog 38 #[.int .i64 a] W fun e w' => e = .returned va ∧ Below W.heap.size W w') ∧
      (∀ W, Calls Try.prog 38 #[.int .i64 x] W fun e w' => e = .returned vx ∧ Below W.heap.size W w') ∧
      (∀ W, Calls Try.prog 39 #[va, vx] W fun e w' => e = .returned vp ∧ Below W.heap.size W w') ∧
      (∀ W, Calls Try.prog 40 #[vp, .int .i64 c] W fun e w' => e = .returned (.tuple #[.agg #[.bool s, .int .u64 d0, .int .u64 d1, .int .u64 d2, .int .u64 d3], .int .i64 (a * x % c)]) ∧ Below W.heap.size W w') ∧
      (∀ W, Calls Try.prog 41 #[.agg #[.bool s, .int .u64 d0, .int .u64 d1, .int .u64 d2, .int .u64 d3]] W fun e w' => e = Pair (told (a * x / c)) ∧ Below W.heap.size W w') := by
  obtain ⟨p0, p1⟩ := mag_bd a1 a2
  obtain ⟨q0, q1⟩ := mag_bd x1 x2
  obtain ⟨m0, m1⟩ := mag_mul a1 a2 x1 x2
  obtain ⟨e1, e2⟩ := divW_val (s := decide (a < 0) != decide (x < 0)) (n := mag a * mag x) c1
  have hd := divW_bd (s := decide (a < 0) != decide (x < 0)) m0 m1 c1
  rw [valW_mul] at e1 e2
  refine ⟨Wide (decide (a < 0)) (mag a), Wide (decide (x < 0)) (mag x), Wide (decide (a < 0) != decide (x < 0)) (mag a * mag x), (divW (decide (a < 0) != decide (x < 0)) (mag a * mag x) c).1.1,
    dig0 (divW (decide (a < 0) != decide (x < 0)) (mag a * mag x) c).1.2, dig1 (divW (decide (a < 0) != decide (x < 0)) (mag a * mag x) c).1.2, dig2 (divW (decide (a < 0) != decide (x < 0)) (mag a * mag x) c).1.2, dig3 (divW (decide (a < 0) != decide (x < 0)) (mag a * mag x) c).1.2,
    fun W => of_any a W a1 a2, fun W => of_any x W x1 x2, fun W => wmul_any _ _ _ _ W p0 (by omega) q0 (by omega), fun W => ?_, fun W => ?_⟩
  · have h := wdiv_any (decide (a < 0) != decide (x < 0)) (mag a * mag x) c W m0 m1 c1 c2
    rw [e2] at h
    exact h
  · have h := wtold_any (divW (decide (a < 0) != decide (x < 0)) (mag a * mag x) c).1.1 (divW (decide (a < 0) != decide (x < 0)) (mag a * mag x) c).1.2 W hd.1 hd.2
    rw [toldW_eq hd.1, e1] at h
    exact h
theorem own_call {V V' : World} {b : Nat} {cs : Array Value} {t : TypeId} (h : Own V b cs t) (hb : Below V.heap.size V V') : Own V' b cs t := own_below h hb (own_lt h)
/-- a new wide number -/
abbrev wide0 : Array Value := #[.bool false, .int .u64 0, .int .u64 0, .int .u64 0, .int .u64 0]
end Go.Proofs.Ytlnnbadfbcokaaa
