/- A schedule, a return, that came in: said for a walk. -/
import Derived.WalkKit
import Derived.OpenShut
import Derived.Deep.Slices
import Derived.Deep.Fields
import Derived.ChangeSame
import Derived.Lib.SmallJoins
import Derived.Test.YtcjkofgbijdkcaaInts
import Derived.Test.YtcjkofgbijdkcaaBill
namespace Go.Proofs.Ytcjkofgbijdkcaa
open Go.RowKit Go.ChangeShapes Go.WideShapes Go.Deep
section
variable {H : Type} {enc : TypeId × Value → H} {P : Program} {w : World} {base : Nat} {spare : Nat → Bool} {held : Bool}
/-- a struct of one-cell fields: its cells, each read by itself -/
theorem open_row {r : Reach} {b0 : Nat} {t : TypeId} {fs : Array Field} {v : Value} {d : DataW H} {p : List MemPlace} (hs : P.underlying t = some (.struct fs)) (hone : oneCellFields P fs = true) (hC : P.cellsOf t = fs.size)
    (hv : Value.okWide P w r b0 t v) (h : DataW.Trod enc P w base spare held t v d p) :
    ∃ (cs : Array Value) (n : Nat), v = .agg cs ∧ cs.size = fs.size ∧ ∀ (j : Nat) (f : Field), fs[j]? = some f → ∃ x y, cs[j]? = some x ∧ DataW.trod enc P w base spare held n f.type [x] = some y := by
  obtain ⟨cs, rfl, hsz⟩ := okWide_struct hs hv
  obtain ⟨fuel, hf⟩ := h
  obtain ⟨ys, n, _, _, hlen, hyl, hff⟩ := DataW.trod_struct hs hf
  refine ⟨cs, n, rfl, hsz.trans hC, fun j f hj => ?_⟩
  obtain ⟨ho, hk⟩ := hone_of hone _ _ hj
  have hjl : j < fs.size := (Array.getElem?_eq_some_iff.1 hj).1
  have h1 := hff _ _ hj
  rw [ho, hk] at h1
  have hjc : j < cs.size := by omega
  have hone' : (((Value.cells (.agg cs)).toList).drop j).take 1 = [cs[j]] := by
    simp only [Value.cells]
    rw [List.drop_eq_getElem_cons (by simpa using hjc)]
    simp
  rw [hone'] at h1
  have hys : ys[j]? = some (ys[j]'(by omega)) := List.getElem?_eq_getElem (by omega)
  exact ⟨cs[j], ys[j]'(by omega), Array.getElem?_eq_getElem hjc, h1.trans hys⟩
theorem row_int {n : Nat} {t : TypeId} {x : Value} {y : DataW H × List MemPlace} (ht : P.underlying t = some (.int .i64)) (h : DataW.trod enc P w base spare held n t [x] = some y) : ∃ a : Int, x = .int .i64 a ∧ i64 a := by
  obtain ⟨z, e0, _, wz⟩ := DataW.trod_int ht h
  simp only [List.cons.injEq, and_true] at e0
  exact ⟨z, e0, Go.bounds_i64 wz⟩
end
section
variable {H : Type} {enc : TypeId × Value → H} {w : World} {base : Nat} {spare : Nat → Bool} {held : Bool}
theorem cellsSch : Try.prog.cellsOf 29 = 6 := by kernel_rfl
theorem cellsRet : Try.prog.cellsOf 31 = 5 := by kernel_rfl
theorem open_ret {r : Reach} {b0 : Nat} {v : Value} {d : DataW H} {p : List MemPlace} (hv : Value.okWide Try.prog w r b0 31 v) (h : DataW.Trod enc Try.prog w base spare held 31 v d p) : ∃ x : Ret, v = x.val ∧ x.In := by
  obtain ⟨cs, n, rfl, hsz, hf⟩ := open_row Try.underlying31 (by kernel_rfl) cellsRet hv h
  obtain ⟨x0, y0, e0, t0⟩ := hf 0 _ rfl
  obtain ⟨x1, y1, e1, t1⟩ := hf 1 _ rfl
  obtain ⟨x2, y2, e2, t2⟩ := hf 2 _ rfl
  obtain ⟨x3, y3, e3, t3⟩ := hf 3 _ rfl
  obtain ⟨x4, y4, e4, t4⟩ := hf 4 _ rfl
  obtain ⟨a0, rfl, w0⟩ := row_int Try.underlying3 t0
  obtain ⟨a1, rfl, w1⟩ := row_int Try.underlying3 t1
  obtain ⟨a2, rfl, w2⟩ := row_int Try.underlying3 t2
  obtain ⟨a3, rfl, w3⟩ := row_int Try.underlying2 t3
  obtain ⟨a4, rfl, w4⟩ := row_int Try.underlying2 t4
  refine ⟨⟨a0, a1, a2, a3, a4⟩, ?_, w0, w1, w2, w3, w4⟩
  unfold Ret.val
  congr 1
  apply Array.ext_getElem?
  intro i
  match i with
  | 0 => exact e0
  | 1 => exact e1
  | 2 => exact e2
  | 3 => exact e3
  | 4 => exact e4
  | i + 5 => rw [Array.getElem?_eq_none (by rw [hsz]; simp), Array.getElem?_eq_none (by simp)]
theorem open_sch {r : Reach} {b0 : Nat} {v : Value} {d : DataW H} {p : List MemPlace} (hv : Value.okWide Try.prog w r b0 29 v) (h : DataW.Trod enc Try.prog w base spare held 29 v d p) : ∃ x : Sch, v = x.val ∧ x.In w := by
  obtain ⟨cs, n, rfl, hsz, hf⟩ := open_row Try.underlying29 (by kernel_rfl) cellsSch hv h
  obtain ⟨x0, y0, e0, t0⟩ := hf 0 _ rfl
  obtain ⟨x1, y1, e1, t1⟩ := hf 1 _ rfl
  obtain ⟨x2, y2, e2, t2⟩ := hf 2 _ rfl
  obtain ⟨x3, y3, e3, t3⟩ := hf 3 _ rfl
  obtain ⟨x4, y4, e4, t4⟩ := hf 4 _ rfl
  obtain ⟨x5, y5, e5, t5⟩ := hf 5 _ rfl
  obtain ⟨a1, rfl, w1⟩ := row_int Try.underlying2 t1
  obtain ⟨a2, rfl, w2⟩ := row_int Try.underlying2 t2
  obtain ⟨a3, rfl, w3⟩ := row_int Try.underlying3 t3
  obtain ⟨a4, rfl, w4⟩ := row_int Try.underlying3 t4
  obtain ⟨a5, rfl, w5⟩ := row_int Try.underlying2 t5
  obtain ⟨A, len, cap, rfl⟩ : ∃ A len cap, x0 = .slice A len cap := by
    rcases open_slice Try.underlying27 t0 with ⟨hcs, _⟩ | ⟨a, l, c, m, n, D, Pl, hcs, _⟩
    · simp only [List.cons.injEq, and_true] at hcs; exact ⟨_, _, _, hcs⟩
    · simp only [List.cons.injEq, and_true] at hcs; exact ⟨_, _, _, hcs⟩
  obtain ⟨zs, hz⟩ := open_int_structs Try.underlying27 Try.underlying68 (by kernel_rfl) (by kernel_rfl) (fun j f hj => by
    match j, hj with
    | 0, hj => simp at hj; subst hj; exact Try.underlying2
    | 1, hj => simp at hj; subst hj; exact Try.underlying3
    | j + 2, hj => simp at hj) t0
  obtain ⟨h1, h2⟩ := ints_of_structs hz
  refine ⟨⟨A, len, cap, zs, a1, a2, a3, a4, a5⟩, ?_, h1, h2, w1, w2, w3, w4, w5⟩
  unfold Sch.val
  congr 1
  apply Array.ext_getElem?
  intro i
  match i with
  | 0 => exact e0
  | 1 => exact e1
  | 2 => exact e2
  | 3 => exact e3
  | 4 => exact e4
  | 5 => exact e5
  | i + 6 => rw [Array.getElem?_eq_none (by rw [hsz]; simp), Array.getElem?_eq_none (by simp)]
end
end Go.Proofs.Ytcjkofgbijdkcaa
