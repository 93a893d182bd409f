/- Package alloc: what an item is; a slice of items that came in; the order of two. -/
import Derived.WalkKit
import Derived.Outline
import Derived.Lib.Hide
import Derived.Handy
import Derived.Deep.QuietTactic
import Derived.BigQuiet
import Derived.BigRegion
import Derived.Deep.RegionHeld3
import Derived.Sort.Grow
import Derived.Shelf.SlSortCmp.QuietGrown
import Derived.Test.YthamonfomihncaaOwn
import Derived.Test.YthamonfomihncaaShelf
namespace Go.Proofs.Ythamonfomihncaa
open Go.RowKit Go.Sort

/-- something that is owed -/
structure It where
  due : Int
  kind : Int
  per : Int
  opn : Int
  deriving Inhabited
def It.cells (x : It) : Array Value := #[.int .i64 x.due, .int .i64 x.kind, .int .i64 x.per, .int .i64 x.opn]
def It.val (x : It) : Value := .agg #[.int .i64 x.due, .int .i64 x.kind, .int .i64 x.per, .int .i64 x.opn]
/-- each number a number of 64 bits -/
def It.wf (x : It) : Prop := (-9223372036854775808 ≤ x.due ∧ x.due ≤ 9223372036854775807) ∧ (-9223372036854775808 ≤ x.kind ∧ x.kind ≤ 9223372036854775807) ∧ (-9223372036854775808 ≤ x.per ∧ x.per ≤ 9223372036854775807) ∧ (-9223372036854775808 ≤ x.opn ∧ x.opn ≤ 9223372036854775807)
def cmpI (a b : Int) : Int := if a < b then -1 else if b < a then 1 else 0
/-- the first that is not 0 -/
def orI : List Int → Int
  | [] => 0
  | x :: l => if x = 0 then orI l else x
def ordI (x y : It) : Int := orI [cmpI x.due y.due, cmpI x.kind y.kind, cmpI x.per y.per]

/-- new blocks, draws: nothing else -/
def Grew (w w' : World) : Prop := ∃ q os, w' = grow (w.drewN q) os
theorem Grew.refl (w : World) : Grew w w := ⟨0, #[], by rw [grow_empty]; rfl⟩
theorem Grew.trans {a b c : World} (h : Grew a b) (g : Grew b c) : Grew a c := by
  obtain ⟨q, os, rfl⟩ := h
  obtain ⟨p, ot, rfl⟩ := g
  refine ⟨q + p, os ++ ot, ?_⟩
  show grow (grow ((a.drewN q).drewN p) os) ot = _
  rw [grow_grow, World.drewN_drewN]
theorem Grew.alloc {a w : World} (h : Grew a w) (o : Obj) : Grew a (w.alloc o) := h.trans ⟨0, #[o], by rw [alloc_eq_grow]; rfl⟩
theorem Grew.drewN {a w : World} (h : Grew a w) (n : Nat) : Grew a (w.drewN n) := h.trans ⟨n, #[], by rw [grow_empty]⟩
theorem Grew.drew {a w : World} (h : Grew a w) : Grew a w.drew := h.drewN 1
theorem Grew.size {a w : World} (h : Grew a w) : a.heap.size ≤ w.heap.size := by obtain ⟨q, os, rfl⟩ := h; rw [size_grow]; show a.heap.size ≤ a.heap.size + _; omega
theorem Grew.below {a w : World} (h : Grew a w) : Below a.heap.size a w := by
  obtain ⟨q, os, rfl⟩ := h
  exact ⟨rfl, rfl, rfl, by rw [size_grow]; show a.heap.size ≤ a.heap.size + _; omega, fun k hk => heap_grow_old (a.drewN q) os hk⟩

theorem Grew.cell {w w' : World} (h : Grew w w') {a : Addr} {v : Value} (hc : w.cell? a = some v) : w'.cell? a = some v := by
  have := h.below.cell (p := a) (World.block_lt_of_cell? w a hc)
  rw [this]; exact hc
theorem ret_i {a b : Int} (h : a = b) : Ending.returned (.int .i64 a) = .returned (.int .i64 b) := by rw [h]

set_option maxRecDepth 100000 in
set_option maxHeartbeats 1000000 in
theorem cmpOr_any (xs : List Int) (b : Nat) (w : World) (hc : ∀ k, k < xs.length → w.cell? ⟨b, k, none⟩ = some (.int .i64 (xs.getD k 0))) (hl : xs.length ≤ 1000) :
    Calls Try.prog 76 #[.slice (some ⟨b, 0, none⟩) xs.length xs.length] w fun e w' => e = .returned (.int .i64 (orI xs)) ∧ w = w' := by
  obtain ⟨D, hD⟩ : ∃ D : Nat → List Int, ∀ k, D k = xs.drop k := ⟨fun k => xs.drop k, fun k => rfl⟩
  have HC := Lib.hid hc
  have HD : Hid (∀ k, k < xs.length → orI (D k) = if xs.getD k 0 = 0 then orI (D (k + 1)) else xs.getD k 0) := Lib.hid (fun k hk => by
    rw [hD, hD, List.drop_eq_getElem_cons hk]; simp [orI, List.getD_eq_getElem?_getD, List.getElem?_eq_getElem hk])
  have HN : Hid (orI (D xs.length) = 0) := Lib.hid (by rw [hD]; simp [orI])
  have H0 : Hid (orI (D 0) = orI xs) := Lib.hid (by rw [hD]; simp)
  clear hc hD
  generalize orI xs = R at *
  generalize hX : xs.getD = X at *
  generalize xs.length = n at *
  clear hX xs
  go_enter Try.func76, Try.ntmps76
  go_wp2_with fail
  go_loop [8] (fun vi => ∃ k : Nat, k ≤ n ∧ vi = .int .i64 k ∧ Hid (orI (D k) = R)) (fun vi => n - (intOf vi).toNat)
  case atStart => exact ⟨0, by omega, rfl, H0⟩
  case round =>
    obtain ⟨k, hk, rfl, HR⟩ := hrel
    by_cases hlt : k < n
    · have e1 := HC.out k hlt
      have hd := HD.out k hlt
      generalize X k 0 = x at *
      by_cases hx : x = 0
      · rw [if_pos hx, HR.out] at hd
        have HD2 := Lib.hid hd.symm
        subst hx
        clear hd
        go_wp2_with fail
        go_round
        case rel => exact ⟨k + 1, by omega, by go_num, HD2⟩
        case measure => simp [intOf]; omega
      · rw [if_neg hx, HR.out] at hd
        have HD2 := Lib.hid hd
        have hx' : (x != 0) = true := by simpa using hx
        clear hd
        go_wp2_with fail
        go_ret
        exact ⟨ret_i HD2.out.symm, rfl⟩
    · obtain rfl : n = k := by omega
      have HZ := Lib.hid (HR.out.symm.trans HN.out)
      go_wp2_with fail
      go_ret
      exact ⟨ret_i HZ.out.symm, rfl⟩

theorem cmpInt_cmp (x y : Int) (w : World) : Calls Try.prog 77 #[.int .i64 x, .int .i64 y] w fun e w' => e = .returned (.int .i64 (cmpI x y)) ∧ w = w' :=
  (Try.cmp_Compare_int x y w).mono fun e w' ⟨he, hw⟩ => ⟨he, hw.symm⟩
set_option maxRecDepth 100000 in
set_option maxHeartbeats 1000000 in
theorem order_any (x y : It) (w : World) : Calls Try.prog 62 #[x.val, y.val] w fun e w' => e = .returned (.int .i64 (ordI x y)) ∧ Grew w w' := by
  obtain ⟨a1, a2, a3, a4⟩ := x
  obtain ⟨b1, b2, b3, b4⟩ := y
  simp only [It.val, ordI]
  have HC := Lib.hid cmpInt_cmp
  have HO : Hid (∀ W : World, Calls Try.prog 76 #[.slice (some ⟨W.heap.size, 0, none⟩) 3 3] (W.alloc (.cells #[.int .i64 (cmpI a1 b1), .int .i64 (cmpI a2 b2), .int .i64 (cmpI a3 b3)] 3)).drew fun e w' => e = .returned (.int .i64 (orI [cmpI a1 b1, cmpI a2 b2, cmpI a3 b3])) ∧ (W.alloc (.cells #[.int .i64 (cmpI a1 b1), .int .i64 (cmpI a2 b2), .int .i64 (cmpI a3 b3)] 3)).drew = w') :=
    Lib.hid (fun W => cmpOr_any [cmpI a1 b1, cmpI a2 b2, cmpI a3 b3] W.heap.size _ (fun k hk => by
      match k, hk with
      | 0, _ => simp [go_sem]
      | 1, _ => simp [go_sem]
      | 2, _ => simp [go_sem]) (by simp))
  generalize orI [cmpI a1 b1, cmpI a2 b2, cmpI a3 b3] = R at *
  go_enter Try.func62, Try.ntmps62
  go_wp2_with fail
  obtain ⟨Held, hh0, hdrew, hall, hat, hback⟩ : ∃ Held : World → Prop, Held ((w.alloc (.cells #[.int .i64 a1, .int .i64 a2, .int .i64 a3, .int .i64 a4] 51)).alloc (.cells #[.int .i64 b1, .int .i64 b2, .int .i64 b3, .int .i64 b4] 51)) ∧
      Hid (∀ W, Held W → Held W.drew) ∧ Hid (∀ W o, Held W → Held (W.alloc o)) ∧
      Hid (∀ W, Held W → ((∀ i, W.cell? ⟨w.heap.size, i, none⟩ = (#[.int .i64 a1, .int .i64 a2, .int .i64 a3, .int .i64 a4] : Array Value)[i]?) ∧ ∀ i, W.cell? ⟨w.heap.size + 1, i, none⟩ = (#[.int .i64 b1, .int .i64 b2, .int .i64 b3, .int .i64 b4] : Array Value)[i]?)) ∧ Hid (∀ W, Held W → Grew w W) :=
    ⟨fun W => (Own W w.heap.size #[.int .i64 a1, .int .i64 a2, .int .i64 a3, .int .i64 a4] 51 ∧ Own W (w.heap.size + 1) #[.int .i64 b1, .int .i64 b2, .int .i64 b3, .int .i64 b4] 51) ∧ Grew w W,
      ⟨⟨own_alloc (own_new _ _ _) _, own_new_at _ _ _ _ (by simp)⟩, ((Grew.refl w).alloc _).alloc _⟩, Lib.hid (fun W h => ⟨h.1, h.2.drew⟩), Lib.hid (fun W o h => ⟨⟨own_alloc h.1.1 o, own_alloc h.1.2 o⟩, h.2.alloc o⟩), Lib.hid (fun W h => ⟨own_cell h.1.1, own_cell h.1.2⟩), Lib.hid (fun W h => h.2)⟩
  generalize (w.alloc (.cells #[.int .i64 a1, .int .i64 a2, .int .i64 a3, .int .i64 a4] 51)).alloc (.cells #[.int .i64 b1, .int .i64 b2, .int .i64 b3, .int .i64 b4] 51) = W0 at *
  go_region_held3 (fun W => (∀ i, W.cell? ⟨w.heap.size, i, none⟩ = (#[.int .i64 a1, .int .i64 a2, .int .i64 a3, .int .i64 a4] : Array Value)[i]?) ∧ ∀ i, W.cell? ⟨w.heap.size + 1, i, none⟩ = (#[.int .i64 b1, .int .i64 b2, .int .i64 b3, .int .i64 b4] : Array Value)[i]?)
    (first | with_reducible exact hat.out _ hh0 | with_reducible exact hat.out _ (hdrew.out _ hh0) | with_reducible exact hat.out _ (hall.out _ _ (hdrew.out _ hh0)) | with_reducible exact hat.out _ (hdrew.out _ (hall.out _ _ hh0)))
    (first
      | (go_at_call 77; (with_reducible refine (HC.out _ _ _).mono ?_); rintro e WA ⟨rfl, rfl⟩)
      | (go_at_call 76; (with_reducible refine (HO.out _).mono ?_); rintro e WA ⟨rfl, rfl⟩))
  go_wp2_with fail
  go_ret
  exact ⟨rfl, hback.out _ (hdrew.out _ (hall.out _ _ hh0))⟩
end Go.Proofs.Ythamonfomihncaa
