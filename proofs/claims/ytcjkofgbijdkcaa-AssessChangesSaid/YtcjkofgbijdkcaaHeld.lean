/- What a law keeps in memory while it calls: its schedule and its return. -/
import Derived.WalkKit
import Derived.Outline
import Derived.Lib.Hide
import Derived.Test.YtcjkofgbijdkcaaBillW
namespace Go.Proofs.Ytcjkofgbijdkcaa
open Go.RowKit

def schC (s : Sch) : Array Value := #[.slice s.A s.len s.cap, .int .i64 s.ded, .int .i64 s.cre, .int .i64 s.bp, .int .i64 s.most, .int .i64 s.least]
def retC (r : Ret) : Array Value := #[.int .i64 r.per, .int .i64 r.due, .int .i64 r.fil, .int .i64 r.inc, .int .i64 r.wit]
/-- the schedule lies in block a, the return in block b; what was there ahead of the call is as it was -/
def HeldL (s : Sch) (r : Ret) (a b : Nat) (w W : World) : Prop := Own W a (schC s) 29 ∧ Own W b (retC r) 31 ∧ Below w.heap.size w W ∧ w.heap.size ≤ W.heap.size
theorem HeldL.call {s : Sch} {r : Ret} {a b : Nat} {w W W' : World} (h : HeldL s r a b w W) (hb : Below W.heap.size W W') : HeldL s r a b w W' :=
  ⟨own_below h.1 hb (own_lt h.1), own_below h.2.1 hb (own_lt h.2.1), h.2.2.1.trans (hb.mono h.2.2.2), Nat.le_trans h.2.2.2 hb.size⟩
theorem HeldL.alloc {s : Sch} {r : Ret} {a b : Nat} {w W : World} (h : HeldL s r a b w W) (o : Obj) : HeldL s r a b w (W.alloc o) :=
  ⟨own_alloc h.1 o, own_alloc h.2.1 o, h.2.2.1.alloc h.2.2.2 o, Nat.le_trans h.2.2.2 (by simp)⟩
theorem HeldL.drewN {s : Sch} {r : Ret} {a b : Nat} {w W : World} (h : HeldL s r a b w W) (n : Nat) : HeldL s r a b w (W.drewN n) := ⟨h.1, h.2.1, below_drewN h.2.2.1 n, h.2.2.2⟩
theorem HeldL.inn {s : Sch} {r : Ret} {a b : Nat} {w W : World} (h : HeldL s r a b w W) (hs : s.In w) : s.In W := hs.below h.2.2.1 (Nat.le_refl _)
theorem HeldL.atS {s : Sch} {r : Ret} {a b : Nat} {w W : World} (h : HeldL s r a b w W) :
    ∀ i, W.cell? ⟨a, i, none⟩ = (#[.slice s.A s.len s.cap, .int .i64 s.ded, .int .i64 s.cre, .int .i64 s.bp, .int .i64 s.most, .int .i64 s.least] : Array Value)[i]? := own_cell h.1
theorem HeldL.atR {s : Sch} {r : Ret} {a b : Nat} {w W : World} (h : HeldL s r a b w W) :
    ∀ i, W.cell? ⟨b, i, none⟩ = (#[.int .i64 r.per, .int .i64 r.due, .int .i64 r.fil, .int .i64 r.inc, .int .i64 r.wit] : Array Value)[i]? := own_cell h.2.1
theorem HeldL.frzR {s : Sch} {r : Ret} {a b : Nat} {w W : World} (h : HeldL s r a b w W) : ∀ i, W.frozen? ⟨b, i, none⟩ = false := own_frz h.2.1
theorem heldL_new (s : Sch) (r : Ret) (w : World) : HeldL s r w.heap.size (w.heap.size + 1) w ((w.alloc (.cells #[.slice s.A s.len s.cap, .int .i64 s.ded, .int .i64 s.cre, .int .i64 s.bp, .int .i64 s.most, .int .i64 s.least] 29)).alloc
    (.cells #[.int .i64 r.per, .int .i64 r.due, .int .i64 r.fil, .int .i64 r.inc, .int .i64 r.wit] 31)) :=
  ⟨own_alloc (own_new _ _ _) _, own_new_at _ _ _ _ (by simp), ((Below.refl _ _).alloc (Nat.le_refl _) _).alloc (by simp) _, by simp; omega⟩
end Go.Proofs.Ytcjkofgbijdkcaa
