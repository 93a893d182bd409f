/- Blocks of a call that hold what they held; what was there ahead of the call is as it was. -/
import Derived.WalkKit
import Derived.Outline
import Derived.Lib.Hide
import Derived.Test.YtcjkofgbijdkcaaOwn
import Derived.Test.YtcjkofgbijdkcaaNumB
namespace Go.Proofs.Ytcjkofgbijdkcaa
open Go.RowKit

/-- a block, what it holds, its type -/
structure Blk where
  g : Nat
  c : Array Value
  t : TypeId
def OwnAll (W : World) : List Blk → Prop
  | [] => True
  | x :: l => Own W x.g x.c x.t ∧ OwnAll W l
def FarAll (g : Nat) : List Blk → Prop
  | [] => True
  | x :: l => x.g ≠ g ∧ FarAll g l
theorem OwnAll.below {W W' : World} (hb : Below W.heap.size W W') : ∀ {l : List Blk}, OwnAll W l → OwnAll W' l
  | [], _ => trivial
  | _ :: _, h => ⟨own_below h.1 hb (own_lt h.1), OwnAll.below hb h.2⟩
theorem OwnAll.alloc {W : World} (o : Obj) : ∀ {l : List Blk}, OwnAll W l → OwnAll (W.alloc o) l
  | [], _ => trivial
  | _ :: _, h => ⟨own_alloc h.1 o, OwnAll.alloc o h.2⟩
theorem OwnAll.drewN {W : World} (n : Nat) : ∀ {l : List Blk}, OwnAll W l → OwnAll (W.drewN n) l
  | [], _ => trivial
  | _ :: _, h => ⟨own_drewN h.1 n, OwnAll.drewN n h.2⟩
theorem OwnAll.far {W : World} {g : Nat} (i : Nat) (v : Value) : ∀ {l : List Blk}, FarAll g l → OwnAll W l → OwnAll (W.setCell ⟨g, i, none⟩ v) l
  | [], _, _ => trivial
  | _ :: _, hf, h => ⟨own_far h.1 hf.1 i v, OwnAll.far i v hf.2 h.2⟩
/-- the call's blocks -/
def HeldN (B : Nat) (l : List Blk) (w W : World) : Prop := OwnAll W l ∧ Below B w W ∧ B ≤ W.heap.size
theorem HeldN.start (w : World) : HeldN w.heap.size [] w w := ⟨trivial, Below.refl _ _, Nat.le_refl _⟩
theorem HeldN.call {B : Nat} {l : List Blk} {w W W' : World} (h : HeldN B l w W) (hb : Below W.heap.size W W') : HeldN B l w W' :=
  ⟨h.1.below hb, h.2.1.trans (hb.mono h.2.2), Nat.le_trans h.2.2 hb.size⟩
theorem HeldN.alloc {B : Nat} {l : List Blk} {w W : World} (h : HeldN B l w W) (o : Obj) : HeldN B l w (W.alloc o) := ⟨h.1.alloc o, h.2.1.alloc h.2.2 o, Nat.le_trans h.2.2 (by simp)⟩
theorem HeldN.drewN {B : Nat} {l : List Blk} {w W : World} (h : HeldN B l w W) (n : Nat) : HeldN B l w (W.drewN n) := ⟨h.1.drewN n, below_drewN h.2.1 n, h.2.2⟩
theorem HeldN.drew {B : Nat} {l : List Blk} {w W : World} (h : HeldN B l w W) : HeldN B l w W.drew := h.drewN 1
theorem HeldN.push {B : Nat} {l : List Blk} {w W : World} (h : HeldN B l w W) (c : Array Value) (t : TypeId) : HeldN B (⟨W.heap.size, c, t⟩ :: l) w (W.alloc (.cells c t)) :=
  ⟨⟨own_new _ _ _, h.1.alloc _⟩, h.2.1.alloc h.2.2 _, Nat.le_trans h.2.2 (by simp)⟩
/-- a block laid at a number that is told -/
theorem HeldN.push_at {B : Nat} {l : List Blk} {w W : World} (h : HeldN B l w W) (g : Nat) (hg : g = W.heap.size) (c : Array Value) (t : TypeId) : HeldN B (⟨g, c, t⟩ :: l) w (W.alloc (.cells c t)) := by
  subst hg; exact h.push c t
theorem HeldN.set {B g : Nat} {c : Array Value} {t : TypeId} {l : List Blk} {w W : World} (h : HeldN B (⟨g, c, t⟩ :: l) w W) (hB : B ≤ g) (hf : FarAll g l) (i : Nat) (v : Value) :
    HeldN B (⟨g, c.setIfInBounds i v, t⟩ :: l) w (W.setCell ⟨g, i, none⟩ v) :=
  ⟨⟨own_set h.1.1 i v, h.1.2.far i v hf⟩, h.2.1.setCell hB v, by simpa using h.2.2⟩
/-- a store elsewhere -/
theorem HeldN.far {B g : Nat} {l : List Blk} {w W : World} (h : HeldN B l w W) (hB : B ≤ g) (hf : FarAll g l) (i : Nat) (v : Value) : HeldN B l w (W.setCell ⟨g, i, none⟩ v) :=
  ⟨h.1.far i v hf, h.2.1.setCell hB v, by simpa using h.2.2⟩
theorem HeldN.swap {B : Nat} {x y : Blk} {l : List Blk} {w W : World} (h : HeldN B (x :: y :: l) w W) : HeldN B (y :: x :: l) w W := ⟨⟨h.1.2.1, h.1.1, h.1.2.2⟩, h.2⟩
theorem HeldN.rot {B : Nat} {x y z : Blk} {l : List Blk} {w W : World} (h : HeldN B (x :: y :: z :: l) w W) : HeldN B (z :: x :: y :: l) w W := ⟨⟨h.1.2.2.1, h.1.1, h.1.2.1, h.1.2.2.2⟩, h.2⟩
theorem HeldN.tail {B : Nat} {x : Blk} {l : List Blk} {w W : World} (h : HeldN B (x :: l) w W) : HeldN B l w W := ⟨h.1.2, h.2⟩
theorem HeldN.cell {B : Nat} {x : Blk} {l : List Blk} {w W : World} (h : HeldN B (x :: l) w W) : ∀ i, W.cell? ⟨x.g, i, none⟩ = x.c[i]? := own_cell h.1.1
theorem HeldN.frz {B : Nat} {x : Blk} {l : List Blk} {w W : World} (h : HeldN B (x :: l) w W) : ∀ i, W.frozen? ⟨x.g, i, none⟩ = false := own_frz h.1.1
theorem HeldN.lt {B : Nat} {x : Blk} {l : List Blk} {w W : World} (h : HeldN B (x :: l) w W) : x.g < W.heap.size := own_lt h.1.1
end Go.Proofs.Ytcjkofgbijdkcaa
