/- A short array of whole numbers that came in, said for a walk. -/
import Derived.WalkKit
import Derived.OpenShut
import Derived.Deep.Slices
import Derived.Deep.Fields
import Derived.ChangeSame
import Derived.Lib.SmallJoins
namespace Go.Proofs.Ytcjkofgbijdkcaa
open Go.RowKit Go.ChangeShapes Go.WideShapes Go.Deep
section
variable {H : Type} {enc : TypeId × Value → H} {P : Program} {w : World} {base : Nat} {spare : Nat → Bool} {held : Bool}
theorem okWide_arr {r : Reach} {b0 n : Nat} {t e : TypeId} {v : Value} (ht : P.underlying t = some (.array n e)) (h : Value.okWide P w r b0 t v) : ∃ cs, v = .agg cs ∧ cs.size = P.cellsOf t := by
  simp only [Value.okWide, ht] at h
  obtain ⟨cs, h1, h2, _⟩ := h
  exact ⟨cs, h1, h2⟩
theorem open_arr {r : Reach} {b0 n : Nat} {t e : TypeId} {v : Value} {d : DataW H} {p : List MemPlace} (ht : P.underlying t = some (.array n e)) (he : P.underlying e = some (.int .i64)) (hce : P.cellsOf e = 1) (hC : P.cellsOf t = n)
    (hv : Value.okWide P w r b0 t v) (h : DataW.Trod enc P w base spare held t v d p) : ∃ cs : Array Value, v = .agg cs ∧ cs.size = n ∧ ∀ j, j < n → ∃ a : Int, cs[j]? = some (.int .i64 a) ∧ -9223372036854775808 ≤ a ∧ a ≤ 9223372036854775807 := by
  obtain ⟨cs, rfl, hsz⟩ := okWide_arr ht hv
  obtain ⟨fuel, hf⟩ := h
  obtain ⟨xs, m, _, _, _, hl, hx⟩ := DataW.trod_array ht hf
  refine ⟨cs, rfl, hsz.trans hC, fun j hj => ?_⟩
  have h1 := hx j hj
  rw [hce] at h1
  have hjc : j < cs.size := by omega
  have hone' : (((Value.cells (.agg cs)).toList).drop (j * 1)).take 1 = [cs[j]] := by
    simp only [Value.cells, Nat.mul_one]
    rw [List.drop_eq_getElem_cons (by simpa using hjc)]
    simp
  rw [hone'] at h1
  have hys : xs[j]? = some (xs[j]'(by omega)) := List.getElem?_eq_getElem (by omega)
  obtain ⟨z, e0, _, wz⟩ := DataW.trod_int he (h1.trans hys)
  simp only [List.cons.injEq, and_true] at e0
  exact ⟨z, by rw [Array.getElem?_eq_getElem hjc, e0], Go.bounds_i64 wz⟩
theorem open_arr4 {r : Reach} {b0 : Nat} {t e : TypeId} {v : Value} {d : DataW H} {p : List MemPlace} (ht : P.underlying t = some (.array 4 e)) (he : P.underlying e = some (.int .i64)) (hce : P.cellsOf e = 1) (hC : P.cellsOf t = 4)
    (hv : Value.okWide P w r b0 t v) (h : DataW.Trod enc P w base spare held t v d p) : ∃ a b c f : Int, v = .agg #[.int .i64 a, .int .i64 b, .int .i64 c, .int .i64 f] ∧ (-9223372036854775808 ≤ a ∧ a ≤ 9223372036854775807) ∧ (-9223372036854775808 ≤ b ∧ b ≤ 9223372036854775807) ∧
      (-9223372036854775808 ≤ c ∧ c ≤ 9223372036854775807) ∧ (-9223372036854775808 ≤ f ∧ f ≤ 9223372036854775807) := by
  obtain ⟨cs, rfl, hsz, hc⟩ := open_arr ht he hce hC hv h
  obtain ⟨a, e0, w0⟩ := hc 0 (by omega)
  obtain ⟨b, e1, w1⟩ := hc 1 (by omega)
  obtain ⟨c, e2, w2⟩ := hc 2 (by omega)
  obtain ⟨f, e3, w3⟩ := hc 3 (by omega)
  refine ⟨a, b, c, f, ?_, w0, w1, w2, w3⟩
  congr 1
  apply Array.ext_getElem?
  intro i
  match i with
  | 0 => exact e0
  | 1 => exact e1
  | 2 => exact e2
  | 3 => exact e3
  | i + 4 => rw [Array.getElem?_eq_none (by rw [hsz]; simp), Array.getElem?_eq_none (by simp)]
theorem open_arr2 {r : Reach} {b0 : Nat} {t e : TypeId} {v : Value} {d : DataW H} {p : List MemPlace} (ht : P.underlying t = some (.array 2 e)) (he : P.underlying e = some (.int .i64)) (hce : P.cellsOf e = 1) (hC : P.cellsOf t = 2)
    (hv : Value.okWide P w r b0 t v) (h : DataW.Trod enc P w base spare held t v d p) : ∃ a b : Int, v = .agg #[.int .i64 a, .int .i64 b] ∧ (-9223372036854775808 ≤ a ∧ a ≤ 9223372036854775807) ∧ (-9223372036854775808 ≤ b ∧ b ≤ 9223372036854775807) := by
  obtain ⟨cs, rfl, hsz, hc⟩ := open_arr ht he hce hC hv h
  obtain ⟨a, e0, w0⟩ := hc 0 (by omega)
  obtain ⟨b, e1, w1⟩ := hc 1 (by omega)
  refine ⟨a, b, ?_, w0, w1⟩
  congr 1
  apply Array.ext_getElem?
  intro i
  match i with
  | 0 => exact e0
  | 1 => exact e1
  | i + 2 => rw [Array.getElem?_eq_none (by rw [hsz]; simp), Array.getElem?_eq_none (by simp)]
end
end Go.Proofs.Ytcjkofgbijdkcaa
