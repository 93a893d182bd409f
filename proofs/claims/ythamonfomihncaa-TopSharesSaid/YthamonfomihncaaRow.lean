/- A row of whole numbers in a block of its own: what a store, an exchange, makes of it. -/
import Derived.WalkKit
import Derived.Outline
import Derived.Lib.Hide
import Derived.Test.YthamonfomihncaaOwn
import Derived.Test.YthamonfomihncaaSortM
namespace Go.Proofs.Ythamonfomihncaa
open Go.RowKit

/-- only block g may have turned -/
structure Only (g : Nat) (w w' : World) : Prop where
  os : w'.os = w.os
  tape : w'.tape = w.tape
  output : w'.output = w.output
  size : w'.heap.size = w.heap.size
  block : ∀ k, k ≠ g → w'.heap[k]? = w.heap[k]?
theorem Only.refl (g : Nat) (w : World) : Only g w w := ⟨rfl, rfl, rfl, rfl, fun _ _ => rfl⟩
theorem Only.trans {g : Nat} {a b c : World} (h : Only g a b) (k : Only g b c) : Only g a c :=
  ⟨k.os.trans h.os, k.tape.trans h.tape, k.output.trans h.output, k.size.trans h.size, fun i hi => (k.block i hi).trans (h.block i hi)⟩
theorem Only.setCell {g : Nat} {a w : World} (h : Only g a w) (i : Nat) (v : Value) : Only g a (w.setCell ⟨g, i, none⟩ v) :=
  h.trans ⟨rfl, rfl, rfl, by simp [World.setCell], fun k hk => Below.heap_setCell _ _ _ _ hk⟩
theorem Only.drewN {g : Nat} {a w : World} (h : Only g a w) (n : Nat) : Only g a (w.drewN n) := h.trans ⟨rfl, rfl, rfl, rfl, fun _ _ => rfl⟩
theorem Only.drew {g : Nat} {a w : World} (h : Only g a w) : Only g a w.drew := h.trans ⟨rfl, rfl, rfl, rfl, fun _ _ => rfl⟩
theorem Only.below {g B : Nat} {a w : World} (h : Only g a w) (hB : B ≤ g) : Below B a w := ⟨h.os, h.tape, h.output, Nat.le_of_eq h.size.symm, fun k hk => h.block k (by omega)⟩
theorem Only.cell {g : Nat} {a w : World} (h : Only g a w) {b : Nat} (hb : b ≠ g) (i : Nat) : w.cell? ⟨b, i, none⟩ = a.cell? ⟨b, i, none⟩ := by
  simp only [World.cell?, h.block b hb]
theorem Only.own {g : Nat} {a w : World} (h : Only g a w) {b : Nat} {cs : Array Value} {t : TypeId} (hb : b ≠ g) (ho : Own a b cs t) : Own w b cs t := (h.block b hb).trans ho

/-- the first n numbers of d, as cells -/
def rowC (d : Nat → Int) (n : Nat) : Array Value := ((List.range n).map (fun k => Value.int .i64 (d k))).toArray
theorem rowC_size (d : Nat → Int) (n : Nat) : (rowC d n).size = n := by simp [rowC]
theorem rowC_get (d : Nat → Int) {n k : Nat} (h : k < n) : (rowC d n)[k]? = some (.int .i64 (d k)) := by
  simp [rowC, h]
theorem rowC_set (d : Nat → Int) {n i : Nat} (h : i < n) (v : Int) : (rowC d n).setIfInBounds i (.int .i64 v) = rowC (upd d i v) n := by
  apply Array.ext_getElem?
  intro k
  by_cases hk : k < n
  · rw [rowC_get _ hk, Array.getElem?_setIfInBounds]
    by_cases g : i = k
    · subst g
      rw [if_pos rfl, if_pos (by rw [rowC_size]; exact h)]
      simp [upd]
    · rw [if_neg g, rowC_get _ hk]
      have : upd d i v k = d k := if_neg (fun q => g q.symm)
      rw [this]
  · rw [Array.getElem?_eq_none (by simp [rowC_size]; omega), Array.getElem?_eq_none (by rw [rowC_size]; omega)]
/-- block g is the row of d's first n numbers -/
def Row (W : World) (g n : Nat) (t : TypeId) (d : Nat → Int) : Prop := Own W g (rowC d n) t
theorem Row.cell {W : World} {g n : Nat} {t : TypeId} {d : Nat → Int} (h : Row W g n t d) {k : Nat} (hk : k < n) : W.cell? ⟨g, k, none⟩ = some (.int .i64 (d k)) := (own_cell h k).trans (rowC_get d hk)
theorem Row.frz {W : World} {g n : Nat} {t : TypeId} {d : Nat → Int} (h : Row W g n t d) (k : Nat) : W.frozen? ⟨g, k, none⟩ = false := own_frz h k
theorem Row.set {W : World} {g n : Nat} {t : TypeId} {d : Nat → Int} (h : Row W g n t d) {i : Nat} (hi : i < n) (v : Int) : Row (W.setCell ⟨g, i, none⟩ (.int .i64 v)) g n t (upd d i v) := by
  have := own_set h i (.int .i64 v)
  rw [rowC_set d hi] at this
  exact this
theorem Row.swap {W : World} {g n : Nat} {t : TypeId} {d : Nat → Int} (h : Row W g n t d) {i j : Nat} (hi : i < n) (hj : j < n) :
    Row ((W.setCell ⟨g, i, none⟩ (.int .i64 (d j))).setCell ⟨g, j, none⟩ (.int .i64 (d i))) g n t (swp d i j) := (h.set hi (d j)).set hj (d i)
theorem Row.drewN {W : World} {g n : Nat} {t : TypeId} {d : Nat → Int} (h : Row W g n t d) (k : Nat) : Row (W.drewN k) g n t d := h
theorem Row.drew {W : World} {g n : Nat} {t : TypeId} {d : Nat → Int} (h : Row W g n t d) : Row W.drew g n t d := h
end Go.Proofs.Ythamonfomihncaa
