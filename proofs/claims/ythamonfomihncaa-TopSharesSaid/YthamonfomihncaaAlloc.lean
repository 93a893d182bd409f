/- Package alloc: places, Pay, Total, of items no two of which are of one place. -/
import Derived.WalkKit
import Derived.Outline
import Derived.Lib.Hide
import Derived.Handy
import Derived.Deep.QuietTactic
import Derived.BigQuiet
import Derived.BigRegion
import Derived.Deep.RegionHeld3
import Derived.Deep.DeepCutAuto
import Derived.Test.YthamonfomihncaaItems
import Derived.Test.YthamonfomihncaaPlcM
import Derived.Test.YthamonfomihncaaTail
namespace Go.Proofs.Ythamonfomihncaa
open Go.RowKit Go.Sort

/-- n items lie from off on in block b -/
def ItsAt (W : World) (b off n : Nat) (x : Nat → It) : Prop :=
  ∀ k, k < n → W.cell? ⟨b, off + k * 4, none⟩ = some (.int .i64 (x k).due) ∧ W.cell? ⟨b, off + k * 4 + 1, none⟩ = some (.int .i64 (x k).kind) ∧ W.cell? ⟨b, off + k * 4 + 2, none⟩ = some (.int .i64 (x k).per) ∧ W.cell? ⟨b, off + k * 4 + 3, none⟩ = some (.int .i64 (x k).opn)

set_option maxRecDepth 100000 in
set_option maxHeartbeats 1000000 in
theorem places1_any (h b off n cap : Nat) (x : Nat → It) (i k : Nat) (w : World) (hi : i < n) (hk : k < n) (hh : w.cell? ⟨h, 0, none⟩ = some (.slice (some ⟨b, off, none⟩) n cap)) (hx : ItsAt w b off n x) :
    Calls Try.prog 61 #[.int .i64 i, .int .i64 k, .pointer (some ⟨h, 0, none⟩)] w fun e w' => e = .returned (.int .i64 (ordI (x i) (x k))) ∧ Grew w w' := by
  obtain ⟨a0, a1, a2, a3⟩ := hx i hi
  obtain ⟨b0, b1, b2, b3⟩ := hx k hk
  have HO := Lib.hid (fun W => order_any (x i) (x k) W)
  have HOV : Hid (ordI (x i) (x k) = ordI (x i) (x k)) := Lib.hid rfl
  clear HOV hx
  generalize x i = y at *
  generalize x k = z at *
  generalize ordI y z = R at *
  obtain ⟨y0, y1, y2, y3⟩ := y
  obtain ⟨z0, z1, z2, z3⟩ := z
  simp only [It.val] at *
  have i1 : (i : Int) < (n : Int) := by omega
  have i2 : (0 : Int) ≤ (i : Int) := by omega
  have i3 : (k : Int) < (n : Int) := by omega
  have i4 : (0 : Int) ≤ (k : Int) := by omega
  go_enter Try.func61, Try.ntmps61
  obtain ⟨Held, hh0, hdrew, hcall, hat, hback⟩ : ∃ Held : World → Prop, Held w ∧ Hid (∀ W, Held W → Held W.drew) ∧ Hid (∀ W W', Held W → Grew W W' → Held W') ∧
      Hid (∀ W, Held W → (W.cell? ⟨h, 0, none⟩ = some (.slice (some ⟨b, off, none⟩) n cap) ∧ W.cell? ⟨b, off + i * 4, none⟩ = some (.int .i64 y0) ∧ W.cell? ⟨b, off + i * 4 + 1, none⟩ = some (.int .i64 y1) ∧ W.cell? ⟨b, off + i * 4 + 2, none⟩ = some (.int .i64 y2) ∧ W.cell? ⟨b, off + i * 4 + 3, none⟩ = some (.int .i64 y3) ∧ W.cell? ⟨b, off + k * 4, none⟩ = some (.int .i64 z0) ∧ W.cell? ⟨b, off + k * 4 + 1, none⟩ = some (.int .i64 z1) ∧ W.cell? ⟨b, off + k * 4 + 2, none⟩ = some (.int .i64 z2) ∧ W.cell? ⟨b, off + k * 4 + 3, none⟩ = some (.int .i64 z3))) ∧ Hid (∀ W, Held W → Grew w W) :=
    ⟨fun W => Grew w W, Grew.refl w, Lib.hid (fun W h => h.drew), Lib.hid (fun W W' h g => h.trans g), Lib.hid (fun W h => ⟨h.cell hh, h.cell a0, h.cell a1, h.cell a2, h.cell a3, h.cell b0, h.cell b1, h.cell b2, h.cell b3⟩), Lib.hid (fun W h => h)⟩
  clear hh a0 a1 a2 a3 b0 b1 b2 b3
  go_wp2_with fail
  go_region_held3 (fun W => W.cell? ⟨h, 0, none⟩ = some (.slice (some ⟨b, off, none⟩) n cap) ∧ W.cell? ⟨b, off + i * 4, none⟩ = some (.int .i64 y0) ∧ W.cell? ⟨b, off + i * 4 + 1, none⟩ = some (.int .i64 y1) ∧ W.cell? ⟨b, off + i * 4 + 2, none⟩ = some (.int .i64 y2) ∧ W.cell? ⟨b, off + i * 4 + 3, none⟩ = some (.int .i64 y3) ∧ W.cell? ⟨b, off + k * 4, none⟩ = some (.int .i64 z0) ∧ W.cell? ⟨b, off + k * 4 + 1, none⟩ = some (.int .i64 z1) ∧ W.cell? ⟨b, off + k * 4 + 2, none⟩ = some (.int .i64 z2) ∧ W.cell? ⟨b, off + k * 4 + 3, none⟩ = some (.int .i64 z3))
    (first | with_reducible exact hat.out _ hh0 | with_reducible exact hat.out _ (hdrew.out _ hh0) | with_reducible exact hat.out _ hhA)
    (first
      | (go_at_call 62; (with_reducible refine (HO.out _).mono ?_); rintro e WA ⟨rfl, hgA⟩; (have hhA : Held WA := by with_reducible exact hcall.out _ _ (hdrew.out _ hh0) hgA)))
  go_wp2_with fail
  go_ret
  exact ⟨rfl, hback.out _ hhA⟩

/-- block g's first numbers are places -/
def RowN (W : World) (g : Nat) (l : List Nat) : Prop := ∀ k, k < l.length → W.cell? ⟨g, k, none⟩ = some (.int .i64 ((l.getD k 0 : Nat) : Int)) ∧ W.frozen? ⟨g, k, none⟩ = false
theorem RowN.cell {W : World} {g : Nat} {l : List Nat} (h : RowN W g l) {k : Nat} (hk : k < l.length) : W.cell? ⟨g, k, none⟩ = some (.int .i64 ((l.getD k 0 : Nat) : Int)) := (h k hk).1

theorem enters_places1 : ∀ args w, (callFunc 61 args).run Try.prog w = .ok (.enter 61 args) w := enters_of Try.func61 (by kernel_rfl) rfl

theorem cell_sortW {α : Type} [Inhabited α] (enc : α → Value) (w : World) (g m : Nat) (dk : Array α) (os : Array Obj) {a : Addr} {v : Value} (hne : a.block ≠ g) (hc : w.cell? a = some v) : (sortWorld enc w g 0 m dk os).cell? a = some v := by
  have hlt := World.block_lt_of_cell? w a hc
  unfold sortWorld
  rw [cell?_grow _ _ _ (by rw [size_putRow]; exact hlt), cell?_putRow_other _ _ _ _ _ _ (Or.inl hne)]
  exact hc

/-- the sort of the places of n items that are apart -/
theorem sort_places (h b off n c0 g cap : Nat) (x : Nat → It) (w : World) (hn : 1 ≤ n) (hn2 : n ≤ 1000) (hh : w.cell? ⟨h, 0, none⟩ = some (.slice (some ⟨b, off, none⟩) n c0)) (hx : ItsAt w b off n x) (hg : RowN w g (List.range n)) (hgl : g < w.heap.size) (h1 : h ≠ g) (h2 : b ≠ g) (ha : Apart x n) :
    Calls Try.prog 60 #[.slice (some ⟨g, 0, none⟩) n cap, .func (Fn.func 61) #[] #[.pointer (some ⟨h, 0, none⟩)]] w fun e w' => e = .returned (.tuple #[]) ∧ RowN w' g (plc x n) ∧ w.grownBy w' (some g) := by
  haveI : Inhabited (Fin n) := ⟨⟨0, hn⟩⟩
  have hsz : (List.finRange n).toArray.size = n := by simp
  have hH : Holds (fun i : Fin n => Value.int .i64 (i.val : Int)) w g 0 (List.finRange n).toArray := fun j hj => by
    have hj' : j < n := by simpa using hj
    have := hg j (by simpa using hj')
    rw [Nat.zero_add]
    refine ⟨?_, this.2⟩
    rw [this.1]
    simp [hj']
  have H := Try.slices_SortFunc_total (fun i : Fin n => Value.int .i64 (i.val : Int)) (fun _ => rfl) (fun i k => ordI (x i.val) (x k.val)) (swo_fin x n _ (fun _ _ => rfl)) 61 #[.pointer (some ⟨h, 0, none⟩)] g 0 cap (List.finRange n).toArray w enters_places1
    (fun m os dk hs i k => (places1_any h b off n c0 x i.val k.val _ i.isLt k.isLt (cell_sortW _ w g m dk os h1 hh) (fun j hj => by
      obtain ⟨q0, q1, q2, q3⟩ := hx j hj
      exact ⟨cell_sortW _ w g m dk os h2 q0, cell_sortW _ w g m dk os h2 q1, cell_sortW _ w g m dk os h2 q2, cell_sortW _ w g m dk os h2 q3⟩)).mono fun e w' ⟨he, hw⟩ => ⟨he, hw⟩) hH hgl (by rw [hsz]; omega) (total_fin x n ha _ (fun _ _ => rfl))
  rw [hsz] at H
  refine H.mono fun e w' ⟨he, m, os, hw⟩ => ⟨he, ?_, ?_⟩
  · subst hw
    intro k hk
    have hk' : k < n := by rw [plc_length] at hk; exact hk
    have hl : ((List.finRange n).mergeSort fun i k => !(ltOf fun i k => ordI (x i.val) (x k.val)) k i).length = n := by simp
    have := holds_sortWorld (fun i : Fin n => Value.int .i64 (i.val : Int)) w g 0 m (List.finRange n).toArray ((List.finRange n).mergeSort fun i k => !(ltOf fun i k => ordI (x i.val) (x k.val)) k i).toArray os hgl hH (by simp) k (by simpa using hk')
    rw [Nat.zero_add] at this
    refine ⟨?_, this.2⟩
    have e1 := this.1
    simp only [List.toList_toArray] at e1 ⊢
    rw [e1, ← plc_fin x n (fun i k => ordI (x i.val) (x k.val)) (fun _ _ => rfl)]
    congr 2
    simp [hl, hk', List.getD_eq_getElem?_getD]
  · subst hw
    refine ⟨rfl, rfl, rfl, ?_, fun k hk hne => ?_⟩
    · unfold sortWorld; rw [size_grow, size_putRow]; show w.heap.size ≤ w.heap.size + _; omega
    · unfold sortWorld
      rw [heap_grow_old _ _ (by rw [size_putRow]; exact hk)]
      have : g ≠ k := fun e => hne (by rw [e])
      simp [putRow, mapBlock, Sort.ahead, Array.getElem?_modify, this]
end Go.Proofs.Ythamonfomihncaa
