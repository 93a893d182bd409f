/- A block of memory that the call has made itself, known whole: how it stays known. -/
import Derived.WalkKit
import Derived.Lib.Hide
import Derived.Deep.Draws
namespace Go.Proofs.Ytcjkofgbijdkcaa
open Go.RowKit

/-- block b of the world holds just these cells, none of them frozen -/
def Own (V : World) (b : Nat) (cs : Array Value) (t : TypeId) : Prop := V.heap[b]? = some (.cells cs t (0, 0))

theorem own_new (w : World) (cs : Array Value) (t : TypeId) : Own (w.alloc (.cells cs t)) w.heap.size cs t := by
  show (w.heap.push _)[w.heap.size]? = _
  simp
theorem own_new_at (w : World) (cs : Array Value) (t : TypeId) (n : Nat) (h : n = w.heap.size) : Own (w.alloc (.cells cs t)) n cs t := by subst h; exact own_new w cs t
theorem own_lt {V : World} {b : Nat} {cs : Array Value} {t : TypeId} (h : Own V b cs t) : b < V.heap.size := by
  rcases Nat.lt_or_ge b V.heap.size with g | g
  · exact g
  · unfold Own at h; rw [Array.getElem?_eq_none g] at h; cases h
theorem own_cell {V : World} {b : Nat} {cs : Array Value} {t : TypeId} (h : Own V b cs t) (i : Nat) : V.cell? ⟨b, i, none⟩ = cs[i]? := by
  unfold Own at h
  simp [World.cell?, h]
theorem own_frz {V : World} {b : Nat} {cs : Array Value} {t : TypeId} (h : Own V b cs t) (i : Nat) : V.frozen? ⟨b, i, none⟩ = false := by
  unfold Own at h
  simp [World.frozen?, h]
theorem own_below {V V' : World} {B b : Nat} {cs : Array Value} {t : TypeId} (h : Own V b cs t) (hb : Below B V V') (hlt : b < B) : Own V' b cs t := (hb.block b hlt).trans h
theorem own_alloc {V : World} {b : Nat} {cs : Array Value} {t : TypeId} (h : Own V b cs t) (o : Obj) : Own (V.alloc o) b cs t := (Below.heap_alloc V o b (own_lt h)).trans h
theorem own_drew {V : World} {b : Nat} {cs : Array Value} {t : TypeId} (h : Own V b cs t) : Own V.drew b cs t := h
theorem own_drewN {V : World} {b : Nat} {cs : Array Value} {t : TypeId} (h : Own V b cs t) (n : Nat) : Own (V.drewN n) b cs t := h
theorem own_set {V : World} {b : Nat} {cs : Array Value} {t : TypeId} (h : Own V b cs t) (i : Nat) (v : Value) : Own (V.setCell ⟨b, i, none⟩ v) b (cs.setIfInBounds i v) t := by
  unfold Own at h ⊢
  simp [World.setCell, Array.getElem?_modify, h]
theorem own_far {V : World} {b g : Nat} {cs : Array Value} {t : TypeId} (h : Own V b cs t) (hne : b ≠ g) (i : Nat) (v : Value) : Own (V.setCell ⟨g, i, none⟩ v) b cs t :=
  (Below.heap_setCell V ⟨g, i, none⟩ v b hne).trans h
/-- a new block behind draws, said by the size that the world had ahead of them -/
theorem frz_behind (V : World) (n : Nat) (cs : Array Value) (t : TypeId) (i : Nat) : ((V.drewN n).alloc (.cells cs t)).frozen? ⟨V.heap.size, i, none⟩ = false := own_frz (own_new (V.drewN n) cs t) i
theorem cell_behind (V : World) (n : Nat) (cs : Array Value) (t : TypeId) (i : Nat) : ((V.drewN n).alloc (.cells cs t)).cell? ⟨V.heap.size, i, none⟩ = cs[i]? := own_cell (own_new (V.drewN n) cs t) i
theorem set_behind (V : World) (n : Nat) (cs : Array Value) (t : TypeId) (i : Nat) (v : Value) : ((V.drewN n).alloc (.cells cs t)).setCell ⟨V.heap.size, i, none⟩ v = (V.drewN n).alloc (.cells (cs.setIfInBounds i v) t) :=
  World.setCell_alloc_at (w := V.drewN n) cs t _ i v rfl
theorem cell_old_behind (V : World) (n : Nat) (o : Obj) (b i : Nat) (h : b < V.heap.size) : ((V.drewN n).alloc o).cell? ⟨b, i, none⟩ = V.cell? ⟨b, i, none⟩ := World.cell?_alloc_lt (V.drewN n) o ⟨b, i, none⟩ h
theorem frz_old_behind (V : World) (n : Nat) (o : Obj) (b i : Nat) (h : b < V.heap.size) : ((V.drewN n).alloc o).frozen? ⟨b, i, none⟩ = V.frozen? ⟨b, i, none⟩ :=
  World.frozen?_of_block (w := V) (Below.heap_alloc (V.drewN n) o b h)
/-- a callee that leaves the world alone, inside a region that draws its order -/
theorem quiet_same {P : Program} {f : FuncId} {args : Array Value} {w : World} {n : Nat} {v : Value}
    (h : Calls P f args (w.drewN n) fun e w' => e = .returned v ∧ w.drewN n = w') : Calls P f args (w.drewN n) fun e w'' => e = .returned v ∧ ∃ m, w'' = w.drewN m :=
  h.mono fun _ _ ⟨he, hw⟩ => ⟨he, n, hw.symm⟩
end Go.Proofs.Ytcjkofgbijdkcaa
