/- Package assess: Change. -/
import Derived.WalkKit
import Derived.Outline
import Derived.Lib.Hide
import Derived.Handy
import Derived.Deep.QuietTactic
import Derived.BigQuiet
import Derived.Deep.RegionHeld3
import Derived.Test.YtcjkofgbijdkcaaAsLawS
import Derived.Test.YtcjkofgbijdkcaaHeldN
namespace Go.Proofs.Ytcjkofgbijdkcaa
open Go.RowKit

/-- what an amended return adds -/
def chgR (s : Sch) (a b : Ret) : Bil :=
  if s.right && a.right && b.right then
    if a.per = b.per ∧ a.fil ≤ b.fil then
      ⟨(billR s { b with due := a.due, fil := a.fil }).tax - (billR s a).tax, (billR s { b with due := a.due, fil := a.fil }).pri - (billR s a).pri, (billR s { b with due := a.due, fil := a.fil }).pen - (billR s a).pen, (billR s { b with due := a.due, fil := a.fil }).exc - (billR s a).exc, 0⟩
    else ⟨0, 0, 0, 0, 10⟩
  else ⟨0, 0, 0, 0, 1⟩

def Two (gb ga : Nat) (y0 y1 y2 y3 x0 x1 x2 x3 : Int) (W : World) : Prop :=
  (∀ i, W.cell? ⟨gb, i, none⟩ = (#[.int .i64 y0, .int .i64 y1, .int .i64 y2, .int .i64 y3] : Array Value)[i]?) ∧ (∀ i, W.cell? ⟨ga, i, none⟩ = (#[.int .i64 x0, .int .i64 x1, .int .i64 x2, .int .i64 x3] : Array Value)[i]?)
theorem Two.call {gb ga : Nat} {y0 y1 y2 y3 x0 x1 x2 x3 : Int} {W W' : World} (h : Two gb ga y0 y1 y2 y3 x0 x1 x2 x3 W) (hb : Below W.heap.size W W') : Two gb ga y0 y1 y2 y3 x0 x1 x2 x3 W' := by
  have h1 : gb < W.heap.size := World.block_lt_of_cell? W ⟨gb, 0, none⟩ (h.1 0)
  have h2 : ga < W.heap.size := World.block_lt_of_cell? W ⟨ga, 0, none⟩ (h.2 0)
  exact ⟨fun i => (hb.cell (p := ⟨gb, i, none⟩) h1).trans (h.1 i), fun i => (hb.cell (p := ⟨ga, i, none⟩) h2).trans (h.2 i)⟩
theorem Two.drew {gb ga : Nat} {y0 y1 y2 y3 x0 x1 x2 x3 : Int} {W : World} (h : Two gb ga y0 y1 y2 y3 x0 x1 x2 x3 W) : Two gb ga y0 y1 y2 y3 x0 x1 x2 x3 W.drew := h

theorem of2_any (x0 x1 x2 x3 : Int) (W : World) : Calls Try.prog 41 #[.agg #[.int .i64 x0, .int .i64 x1, .int .i64 x2, .int .i64 x3]] W fun e w' => e = .returned (.int .i64 x0) ∧ Below W.heap.size W w' := by
  go_enter Try.func41, Try.ntmps41
  go_wp2_with fail
  go_ret
  exact ⟨rfl, (Below.refl _ _).alloc (Nat.le_refl _) _⟩

theorem of3_any (x0 x1 x2 x3 : Int) (W : World) : Calls Try.prog 42 #[.agg #[.int .i64 x0, .int .i64 x1, .int .i64 x2, .int .i64 x3]] W fun e w' => e = .returned (.int .i64 x1) ∧ Below W.heap.size W w' := by
  go_enter Try.func42, Try.ntmps42
  go_wp2_with fail
  go_ret
  exact ⟨rfl, (Below.refl _ _).alloc (Nat.le_refl _) _⟩

theorem of4_any (x0 x1 x2 x3 : Int) (W : World) : Calls Try.prog 43 #[.agg #[.int .i64 x0, .int .i64 x1, .int .i64 x2, .int .i64 x3]] W fun e w' => e = .returned (.int .i64 x2) ∧ Below W.heap.size W w' := by
  go_enter Try.func43, Try.ntmps43
  go_wp2_with fail
  go_ret
  exact ⟨rfl, (Below.refl _ _).alloc (Nat.le_refl _) _⟩

theorem of5_any (x0 x1 x2 x3 : Int) (W : World) : Calls Try.prog 44 #[.agg #[.int .i64 x0, .int .i64 x1, .int .i64 x2, .int .i64 x3]] W fun e w' => e = .returned (.int .i64 x3) ∧ Below W.heap.size W w' := by
  go_enter Try.func44, Try.ntmps44
  go_wp2_with fail
  go_ret
  exact ⟨rfl, (Below.refl _ _).alloc (Nat.le_refl _) _⟩

set_option maxHeartbeats 800000 in
theorem more2_any (gb ga : Nat) (y0 y1 y2 y3 x0 x1 x2 x3 : Int) (W : World) (hb : ∀ i, W.cell? ⟨gb, i, none⟩ = (#[.int .i64 y0, .int .i64 y1, .int .i64 y2, .int .i64 y3] : Array Value)[i]?)
    (ha : ∀ i, W.cell? ⟨ga, i, none⟩ = (#[.int .i64 x0, .int .i64 x1, .int .i64 x2, .int .i64 x3] : Array Value)[i]?) (d0 : -9223372036854775808 ≤ y0 - x0) (d1 : y0 - x0 ≤ 9223372036854775807) :
    Calls Try.prog 40 #[.func (Fn.func 41) #[] #[], .pointer (some ⟨gb, 0, none⟩), .pointer (some ⟨ga, 0, none⟩)] W fun e w' => e = .returned (.int .i64 (y0 - x0)) ∧ Below W.heap.size W w' := by
  have hw : IntKind.i64.wrap (y0 - x0) = y0 - x0 := by rw [IntKind.wrap_i64]; omega
  obtain ⟨Held, hh0, hcall, hdrew, hat, hback⟩ : ∃ Held : World → Prop, Held W ∧ Hid (∀ V V', Held V → Below V.heap.size V V' → Held V') ∧ Hid (∀ V, Held V → Held V.drew) ∧
      Hid (∀ V, Held V → ((∀ i, V.cell? ⟨gb, i, none⟩ = (#[.int .i64 y0, .int .i64 y1, .int .i64 y2, .int .i64 y3] : Array Value)[i]?) ∧ (∀ i, V.cell? ⟨ga, i, none⟩ = (#[.int .i64 x0, .int .i64 x1, .int .i64 x2, .int .i64 x3] : Array Value)[i]?))) ∧
      Hid (∀ V, Held V → Below W.heap.size W V) :=
    ⟨fun V => Two gb ga y0 y1 y2 y3 x0 x1 x2 x3 V ∧ Below W.heap.size W V ∧ W.heap.size ≤ V.heap.size, ⟨⟨hb, ha⟩, Below.refl _ _, Nat.le_refl _⟩, Lib.hid (fun V V' h hb => ⟨h.1.call hb, h.2.1.trans (hb.mono h.2.2), Nat.le_trans h.2.2 hb.size⟩),
      Lib.hid (fun V h => ⟨h.1.drew, below_drewN h.2.1 1, h.2.2⟩), Lib.hid (fun V h => h.1), Lib.hid (fun V h => h.2.1)⟩
  go_enter Try.func40, Try.ntmps40
  go_wp2_with fail
  go_region_held3 (fun V => (∀ i, V.cell? ⟨gb, i, none⟩ = (#[.int .i64 y0, .int .i64 y1, .int .i64 y2, .int .i64 y3] : Array Value)[i]?) ∧ (∀ i, V.cell? ⟨ga, i, none⟩ = (#[.int .i64 x0, .int .i64 x1, .int .i64 x2, .int .i64 x3] : Array Value)[i]?))
    (first | exact hat.out _ (by assumption) | exact hat.out _ (hdrew.out _ (by assumption)) | go_keep)
    (first
      | (go_at_call 41; refine (of2_any _ _ _ _ _).mono ?_; rintro e W' ⟨rfl, hbb⟩; have hh : Held W' := by first | exact hcall.out _ _ (by assumption) hbb | exact hcall.out _ _ (hdrew.out _ (by assumption)) hbb))
  go_wp2_with fail
  go_ret
  exact ⟨rfl, hback.out _ hh⟩

set_option maxHeartbeats 800000 in
theorem more3_any (gb ga : Nat) (y0 y1 y2 y3 x0 x1 x2 x3 : Int) (W : World) (hb : ∀ i, W.cell? ⟨gb, i, none⟩ = (#[.int .i64 y0, .int .i64 y1, .int .i64 y2, .int .i64 y3] : Array Value)[i]?)
    (ha : ∀ i, W.cell? ⟨ga, i, none⟩ = (#[.int .i64 x0, .int .i64 x1, .int .i64 x2, .int .i64 x3] : Array Value)[i]?) (d0 : -9223372036854775808 ≤ y1 - x1) (d1 : y1 - x1 ≤ 9223372036854775807) :
    Calls Try.prog 40 #[.func (Fn.func 42) #[] #[], .pointer (some ⟨gb, 0, none⟩), .pointer (some ⟨ga, 0, none⟩)] W fun e w' => e = .returned (.int .i64 (y1 - x1)) ∧ Below W.heap.size W w' := by
  have hw : IntKind.i64.wrap (y1 - x1) = y1 - x1 := by rw [IntKind.wrap_i64]; omega
  obtain ⟨Held, hh0, hcall, hdrew, hat, hback⟩ : ∃ Held : World → Prop, Held W ∧ Hid (∀ V V', Held V → Below V.heap.size V V' → Held V') ∧ Hid (∀ V, Held V → Held V.drew) ∧
      Hid (∀ V, Held V → ((∀ i, V.cell? ⟨gb, i, none⟩ = (#[.int .i64 y0, .int .i64 y1, .int .i64 y2, .int .i64 y3] : Array Value)[i]?) ∧ (∀ i, V.cell? ⟨ga, i, none⟩ = (#[.int .i64 x0, .int .i64 x1, .int .i64 x2, .int .i64 x3] : Array Value)[i]?))) ∧
      Hid (∀ V, Held V → Below W.heap.size W V) :=
    ⟨fun V => Two gb ga y0 y1 y2 y3 x0 x1 x2 x3 V ∧ Below W.heap.size W V ∧ W.heap.size ≤ V.heap.size, ⟨⟨hb, ha⟩, Below.refl _ _, Nat.le_refl _⟩, Lib.hid (fun V V' h hb => ⟨h.1.call hb, h.2.1.trans (hb.mono h.2.2), Nat.le_trans h.2.2 hb.size⟩),
      Lib.hid (fun V h => ⟨h.1.drew, below_drewN h.2.1 1, h.2.2⟩), Lib.hid (fun V h => h.1), Lib.hid (fun V h => h.2.1)⟩
  go_enter Try.func40, Try.ntmps40
  go_wp2_with fail
  go_region_held3 (fun V => (∀ i, V.cell? ⟨gb, i, none⟩ = (#[.int .i64 y0, .int .i64 y1, .int .i64 y2, .int .i64 y3] : Array Value)[i]?) ∧ (∀ i, V.cell? ⟨ga, i, none⟩ = (#[.int .i64 x0, .int .i64 x1, .int .i64 x2, .int .i64 x3] : Array Value)[i]?))
    (first | exact hat.out _ (by assumption) | exact hat.out _ (hdrew.out _ (by assumption)) | go_keep)
    (first
      | (go_at_call 42; refine (of3_any _ _ _ _ _).mono ?_; rintro e W' ⟨rfl, hbb⟩; have hh : Held W' := by first | exact hcall.out _ _ (by assumption) hbb | exact hcall.out _ _ (hdrew.out _ (by assumption)) hbb))
  go_wp2_with fail
  go_ret
  exact ⟨rfl, hback.out _ hh⟩

set_option maxHeartbeats 800000 in
theorem more4_any (gb ga : Nat) (y0 y1 y2 y3 x0 x1 x2 x3 : Int) (W : World) (hb : ∀ i, W.cell? ⟨gb, i, none⟩ = (#[.int .i64 y0, .int .i64 y1, .int .i64 y2, .int .i64 y3] : Array Value)[i]?)
    (ha : ∀ i, W.cell? ⟨ga, i, none⟩ = (#[.int .i64 x0, .int .i64 x1, .int .i64 x2, .int .i64 x3] : Array Value)[i]?) (d0 : -9223372036854775808 ≤ y2 - x2) (d1 : y2 - x2 ≤ 9223372036854775807) :
    Calls Try.prog 40 #[.func (Fn.func 43) #[] #[], .pointer (some ⟨gb, 0, none⟩), .pointer (some ⟨ga, 0, none⟩)] W fun e w' => e = .returned (.int .i64 (y2 - x2)) ∧ Below W.heap.size W w' := by
  have hw : IntKind.i64.wrap (y2 - x2) = y2 - x2 := by rw [IntKind.wrap_i64]; omega
  obtain ⟨Held, hh0, hcall, hdrew, hat, hback⟩ : ∃ Held : World → Prop, Held W ∧ Hid (∀ V V', Held V → Below V.heap.size V V' → Held V') ∧ Hid (∀ V, Held V → Held V.drew) ∧
      Hid (∀ V, Held V → ((∀ i, V.cell? ⟨gb, i, none⟩ = (#[.int .i64 y0, .int .i64 y1, .int .i64 y2, .int .i64 y3] : Array Value)[i]?) ∧ (∀ i, V.cell? ⟨ga, i, none⟩ = (#[.int .i64 x0, .int .i64 x1, .int .i64 x2, .int .i64 x3] : Array Value)[i]?))) ∧
      Hid (∀ V, Held V → Below W.heap.size W V) :=
    ⟨fun V => Two gb ga y0 y1 y2 y3 x0 x1 x2 x3 V ∧ Below W.heap.size W V ∧ W.heap.size ≤ V.heap.size, ⟨⟨hb, ha⟩, Below.refl _ _, Nat.le_refl _⟩, Lib.hid (fun V V' h hb => ⟨h.1.call hb, h.2.1.trans (hb.mono h.2.2), Nat.le_trans h.2.2 hb.size⟩),
      Lib.hid (fun V h => ⟨h.1.drew, below_drewN h.2.1 1, h.2.2⟩), Lib.hid (fun V h => h.1), Lib.hid (fun V h => h.2.1)⟩
  go_enter Try.func40, Try.ntmps40
  go_wp2_with fail
  go_region_held3 (fun V => (∀ i, V.cell? ⟨gb, i, none⟩ = (#[.int .i64 y0, .int .i64 y1, .int .i64 y2, .int .i64 y3] : Array Value)[i]?) ∧ (∀ i, V.cell? ⟨ga, i, none⟩ = (#[.int .i64 x0, .int .i64 x1, .int .i64 x2, .int .i64 x3] : Array Value)[i]?))
    (first | exact hat.out _ (by assumption) | exact hat.out _ (hdrew.out _ (by assumption)) | go_keep)
    (first
      | (go_at_call 43; refine (of4_any _ _ _ _ _).mono ?_; rintro e W' ⟨rfl, hbb⟩; have hh : Held W' := by first | exact hcall.out _ _ (by assumption) hbb | exact hcall.out _ _ (hdrew.out _ (by assumption)) hbb))
  go_wp2_with fail
  go_ret
  exact ⟨rfl, hback.out _ hh⟩

set_option maxHeartbeats 800000 in
theorem more5_any (gb ga : Nat) (y0 y1 y2 y3 x0 x1 x2 x3 : Int) (W : World) (hb : ∀ i, W.cell? ⟨gb, i, none⟩ = (#[.int .i64 y0, .int .i64 y1, .int .i64 y2, .int .i64 y3] : Array Value)[i]?)
    (ha : ∀ i, W.cell? ⟨ga, i, none⟩ = (#[.int .i64 x0, .int .i64 x1, .int .i64 x2, .int .i64 x3] : Array Value)[i]?) (d0 : -9223372036854775808 ≤ y3 - x3) (d1 : y3 - x3 ≤ 9223372036854775807) :
    Calls Try.prog 40 #[.func (Fn.func 44) #[] #[], .pointer (some ⟨gb, 0, none⟩), .pointer (some ⟨ga, 0, none⟩)] W fun e w' => e = .returned (.int .i64 (y3 - x3)) ∧ Below W.heap.size W w' := by
  have hw : IntKind.i64.wrap (y3 - x3) = y3 - x3 := by rw [IntKind.wrap_i64]; omega
  obtain ⟨Held, hh0, hcall, hdrew, hat, hback⟩ : ∃ Held : World → Prop, Held W ∧ Hid (∀ V V', Held V → Below V.heap.size V V' → Held V') ∧ Hid (∀ V, Held V → Held V.drew) ∧
      Hid (∀ V, Held V → ((∀ i, V.cell? ⟨gb, i, none⟩ = (#[.int .i64 y0, .int .i64 y1, .int .i64 y2, .int .i64 y3] : Array Value)[i]?) ∧ (∀ i, V.cell? ⟨ga, i, none⟩ = (#[.int .i64 x0, .int .i64 x1, .int .i64 x2, .int .i64 x3] : Array Value)[i]?))) ∧
      Hid (∀ V, Held V → Below W.heap.size W V) :=
    ⟨fun V => Two gb ga y0 y1 y2 y3 x0 x1 x2 x3 V ∧ Below W.heap.size W V ∧ W.heap.size ≤ V.heap.size, ⟨⟨hb, ha⟩, Below.refl _ _, Nat.le_refl _⟩, Lib.hid (fun V V' h hb => ⟨h.1.call hb, h.2.1.trans (hb.mono h.2.2), Nat.le_trans h.2.2 hb.size⟩),
      Lib.hid (fun V h => ⟨h.1.drew, below_drewN h.2.1 1, h.2.2⟩), Lib.hid (fun V h => h.1), Lib.hid (fun V h => h.2.1)⟩
  go_enter Try.func40, Try.ntmps40
  go_wp2_with fail
  go_region_held3 (fun V => (∀ i, V.cell? ⟨gb, i, none⟩ = (#[.int .i64 y0, .int .i64 y1, .int .i64 y2, .int .i64 y3] : Array Value)[i]?) ∧ (∀ i, V.cell? ⟨ga, i, none⟩ = (#[.int .i64 x0, .int .i64 x1, .int .i64 x2, .int .i64 x3] : Array Value)[i]?))
    (first | exact hat.out _ (by assumption) | exact hat.out _ (hdrew.out _ (by assumption)) | go_keep)
    (first
      | (go_at_call 44; refine (of5_any _ _ _ _ _).mono ?_; rintro e W' ⟨rfl, hbb⟩; have hh : Held W' := by first | exact hcall.out _ _ (by assumption) hbb | exact hcall.out _ _ (hdrew.out _ (by assumption)) hbb))
  go_wp2_with fail
  go_ret
  exact ⟨rfl, hback.out _ hh⟩

set_option maxRecDepth 100000 in
set_option maxHeartbeats 1000000 in
theorem asChange_any (s : Sch) (a b : Ret) (w : World) (hs : s.In w) (ha : a.In) (hb : b.In) :
    Calls Try.prog 20 #[s.val, a.val, b.val] w fun e w' => e = .returned (chgR s a b).val ∧ Below w.heap.size w w' := by
  have HA := Lib.hid (fun W h => asBill_any s a W h ha)
  have HR := Lib.hid (fun W => asRight_any b W hb)
  have HI := Lib.hid hs
  have HA2 := Lib.hid (fun W h => asBill_any s { b with due := a.due, fil := a.fil } W h ⟨hb.per, ha.due, ha.fil, hb.inc, hb.wit⟩)
  have HRI := Lib.hid (@Ret.right_iff a); have HRJ := Lib.hid (@Ret.right_iff b); have HRK := Lib.hid (@Ret.right_iff { b with due := a.due, fil := a.fil })
  have HBD := Lib.hid (@bill_bd s { b with due := a.due, fil := a.fil })
  simp only [Sch.val, Ret.val] at *
  go_enter Try.func20, Try.ntmps20
  go_wp2_with fail
  have HH0 := Lib.hid (((((HeldN.start w).push #[.slice s.A s.len s.cap, .int .i64 s.ded, .int .i64 s.cre, .int .i64 s.bp, .int .i64 s.most, .int .i64 s.least] 29).push_at (w.heap.size + 1) (by simp) #[.int .i64 a.per, .int .i64 a.due, .int .i64 a.fil, .int .i64 a.inc, .int .i64 a.wit] 31).push_at (w.heap.size + 1 + 1) (by simp) #[.int .i64 b.per, .int .i64 b.due, .int .i64 b.fil, .int .i64 b.inc, .int .i64 b.wit] 31).push_at (w.heap.size + 1 + 1 + 1) (by simp) #[.int .i64 0, .int .i64 0, .int .i64 0, .int .i64 0] 33)
  generalize (((w.alloc (.cells #[.slice s.A s.len s.cap, .int .i64 s.ded, .int .i64 s.cre, .int .i64 s.bp, .int .i64 s.most, .int .i64 s.least] 29)).alloc (.cells #[.int .i64 a.per, .int .i64 a.due, .int .i64 a.fil, .int .i64 a.inc, .int .i64 a.wit] 31)).alloc (.cells #[.int .i64 b.per, .int .i64 b.due, .int .i64 b.fil, .int .i64 b.inc, .int .i64 b.wit] 31)).alloc (.cells #[.int .i64 0, .int .i64 0, .int .i64 0, .int .i64 0] 33) = W0 at *
  refine (HA.out _ (HI.out.below HH0.out.2.1 (Nat.le_refl _))).mono ?_
  rintro e w1 ⟨rfl, hb1⟩
  have HH1 := Lib.hid (HH0.out.call hb1)
  have eZ := HH1.out.cell
  have eB := HH1.out.tail.cell
  have eA := HH1.out.tail.tail.cell
  have eS := HH1.out.tail.tail.tail.cell
  have zZ := HH1.out.lt
  have zB := HH1.out.tail.lt
  have zA := HH1.out.tail.tail.lt
  have zS := HH1.out.tail.tail.tail.lt
  simp only [] at eZ eB eA eS zZ zB zA zS
  clear hb1
  have fZ := HH1.out.frz
  simp only [] at fZ
  have HB1 := Lib.hid HH1.out.2.1
  cases hsa : (s.right && a.right) with
  | false =>
    have hbl : billR s a = ⟨0, 0, 0, 0, 1⟩ := bill_no hsa
    have HRe : Hid (chgR s a b = ⟨0, 0, 0, 0, 1⟩) := Lib.hid (by unfold chgR; rw [hsa]; rfl)
    rw [hbl]
    clear hbl hsa
    simp only [Bil.val]
    go_wp2_with fail
    refine bodyPost_ret (v := Bil.val ⟨0, 0, 0, 0, 1⟩) (by simp [results, Try.results20, go_sem, Bil.val, eZ, zZ]) rfl ⟨by rw [HRe.out], ?_⟩
    repeat' (first | (with_reducible exact HB1.out) | (with_reducible refine below_drewN ?_ _) | (with_reducible refine Below.setCell ?_ ?_ _) | (with_reducible refine Below.alloc ?_ ?_ _) | (simp; done) | (simp; omega) | omega)
  | true =>
    obtain ⟨hs1, ha1⟩ := (Bool.and_eq_true _ _).mp hsa
    have hbd := bill_bd hs1 ha1
    generalize hBL : billR s a = BL at *
    obtain ⟨p1, p2, p3, p4, p5⟩ := BL
    simp only [] at hbd
    obtain ⟨rfl, q1, q2, q3, q4, q5, q6, q7, q8, q9, q10⟩ := hbd
    have HBL := Lib.hid hBL
    have HS1 := Lib.hid hs1; have HA1 := Lib.hid ha1
    clear hBL q6 q7 hsa hs1 ha1
    simp only [Bil.val]
    go_wp2_with fail
    have HH1b := Lib.hid ((HH1.out.push #[.int .i64 p1, .int .i64 p2, .int .i64 p3, .int .i64 p4] 33).swap)
    clear eZ eB eA eS zZ zB zA zS fZ HB1
    generalize w1.alloc (.cells #[.int .i64 p1, .int .i64 p2, .int .i64 p3, .int .i64 p4] 33) = v1 at *
    refine (HR.out _).mono ?_
    rintro e w2 ⟨rfl, hb2⟩
    have HH2 := Lib.hid (HH1b.out.call hb2)
    have eZ := HH2.out.cell
    have eP := HH2.out.tail.cell
    have eB := HH2.out.tail.tail.cell
    have eA := HH2.out.tail.tail.tail.cell
    have eS := HH2.out.tail.tail.tail.tail.cell
    have zZ := HH2.out.lt
    have zP := HH2.out.tail.lt
    have zB := HH2.out.tail.tail.lt
    have zA := HH2.out.tail.tail.tail.lt
    have zS := HH2.out.tail.tail.tail.tail.lt
    have fZ := HH2.out.frz
    have fB := HH2.out.tail.tail.frz
    simp only [] at eZ eB eA eS zZ zB zA zS eP zP fZ fB
    have HB2 := Lib.hid HH2.out.2.1
    clear hb2 HH1b
    cases hbr : b.right with
    | false =>
      have HRe : Hid (chgR s a b = ⟨0, 0, 0, 0, 1⟩) := Lib.hid (by unfold chgR; rw [hbr]; simp)
      clear hbr
      go_wp2_with fail
      refine bodyPost_ret (v := Bil.val ⟨0, 0, 0, 0, 1⟩) (by simp [results, Try.results20, go_sem, Bil.val, eZ, zZ]) rfl ⟨by rw [HRe.out], ?_⟩
      repeat' (first | (with_reducible exact HB2.out) | (with_reducible refine below_drewN ?_ _) | (with_reducible refine Below.setCell ?_ ?_ _) | (with_reducible refine Below.alloc ?_ ?_ _) | (simp; done) | (simp; omega) | omega)
    | true =>
      have HC : Hid (chgR s a b = if a.per = b.per ∧ a.fil ≤ b.fil then
        ⟨(billR s { b with due := a.due, fil := a.fil }).tax - (billR s a).tax, (billR s { b with due := a.due, fil := a.fil }).pri - (billR s a).pri, (billR s { b with due := a.due, fil := a.fil }).pen - (billR s a).pen, (billR s { b with due := a.due, fil := a.fil }).exc - (billR s a).exc, 0⟩ else ⟨0, 0, 0, 0, 10⟩) := Lib.hid (by
          unfold chgR; rw [HS1.out, HA1.out, hbr]; rfl)
      have HBr := Lib.hid hbr
      clear hbr
      by_cases c1 : a.per = b.per
      · by_cases c2 : b.fil < a.fil
        · have HRe : Hid (chgR s a b = ⟨0, 0, 0, 0, 10⟩) := Lib.hid (by rw [HC.out, if_neg (by omega)])
          clear HC
          go_wp2_with fail
          refine bodyPost_ret (v := Bil.val ⟨0, 0, 0, 0, 10⟩) (by simp [results, Try.results20, go_sem, Bil.val, eZ, zZ]) rfl ⟨by rw [HRe.out], ?_⟩
          repeat' (first | (with_reducible exact HB2.out) | (with_reducible refine below_drewN ?_ _) | (with_reducible refine Below.setCell ?_ ?_ _) | (with_reducible refine Below.alloc ?_ ?_ _) | (simp; done) | (simp; omega) | omega)
        · have hC := HC.out
          rw [if_pos (by omega), HBL.out] at hC
          have HC2 := Lib.hid hC
          have hr2 : Ret.right { b with due := a.due, fil := a.fil } = true := by
            have g1 := HRI.out.1 HA1.out
            have g2 := HRJ.out.1 HBr.out
            exact HRK.out.2 ⟨g2.1, g1.2.1, g2.2.2⟩
          have hbd := HBD.out HS1.out hr2
          clear HC hC hr2
          go_wp2_with fail
          go_region
          all_goals go_wp2_with fail
          have hw1 : w.heap.size + 1 + 1 + 1 < w1.heap.size := HH1.out.lt
          have hh := (((HH2.out.rot.set (by omega) ⟨by simp only []; omega, by simp only []; omega, by simp only []; omega, by simp only []; omega, trivial⟩ 1 (.int .i64 a.due)).set (by omega) ⟨by simp only []; omega, by simp only []; omega, by simp only []; omega, by simp only []; omega, trivial⟩ 2 (.int .i64 a.fil)).drew)
          have HH3 := Lib.hid hh
          clear hh eZ eP eB eA eS zZ zP zB zA zS fZ fB
          generalize ((w2.setCell ⟨w.heap.size + 1 + 1, 1, none⟩ (.int .i64 a.due)).setCell ⟨w.heap.size + 1 + 1, 2, none⟩ (.int .i64 a.fil)).drew = v2 at *
          generalize billR s { b with due := a.due, fil := a.fil } = B2 at *
          obtain ⟨q1, q2, q3, q4, q5⟩ := B2
          simp only [] at hbd HC2 HA2
          obtain ⟨rfl, r1, r2, r3, r4, r5, r6, r7, r8, r9, rt⟩ := hbd
          clear r6 r7
          refine (HA2.out _ (HI.out.below HH3.out.2.1 (Nat.le_refl _))).mono ?_
          rintro e w3 ⟨rfl, hb3⟩
          have HH4 := Lib.hid (HH3.out.call hb3)
          have eP := HH4.out.tail.tail.cell
          have eZ := HH4.out.tail.cell
          have fZ := HH4.out.tail.frz
          have zP := HH4.out.tail.tail.lt
          have zZ := HH4.out.tail.lt
          have HB4 := Lib.hid HH4.out.2.1
          simp only [] at eP zP eZ zZ fZ
          clear hb3
          simp only [Bil.val]
          go_wp2_with fail
          have HH5 := Lib.hid (HH4.out.alloc (.cells #[.int .i64 q1, .int .i64 q2, .int .i64 q3, .int .i64 q4] 33))
          have hT : Two w3.heap.size w1.heap.size q1 q2 q3 q4 p1 p2 p3 p4 (w3.alloc (.cells #[.int .i64 q1, .int .i64 q2, .int .i64 q3, .int .i64 q4] 33)) := ⟨own_cell (own_new _ _ _), HH5.out.tail.tail.cell⟩
          have HT := Lib.hid hT
          clear hT eP eZ fZ zP zZ
          generalize w3.alloc (.cells #[.int .i64 q1, .int .i64 q2, .int .i64 q3, .int .i64 q4] 33) = w4 at *
          refine (more2_any _ _ q1 q2 q3 q4 p1 p2 p3 p4 _ HT.out.1 HT.out.2 (by omega) (by omega)).mono ?_
          rintro e w5 ⟨rfl, hb5⟩
          have HH6 := Lib.hid (HH5.out.call hb5)
          have HT2 := Lib.hid (HT.out.call hb5)
          clear hb5
          go_wp2_with fail
          refine (more3_any _ _ q1 q2 q3 q4 p1 p2 p3 p4 _ HT2.out.1 HT2.out.2 (by omega) (by omega)).mono ?_
          rintro e w6 ⟨rfl, hb6⟩
          have HH7 := Lib.hid (HH6.out.call hb6)
          have HT3 := Lib.hid (HT2.out.call hb6)
          clear hb6
          go_wp2_with fail
          refine (more4_any _ _ q1 q2 q3 q4 p1 p2 p3 p4 _ HT3.out.1 HT3.out.2 (by omega) (by omega)).mono ?_
          rintro e w7 ⟨rfl, hb7⟩
          have HH8 := Lib.hid (HH7.out.call hb7)
          have HT4 := Lib.hid (HT3.out.call hb7)
          clear hb7
          go_wp2_with fail
          refine (more5_any _ _ q1 q2 q3 q4 p1 p2 p3 p4 _ HT4.out.1 HT4.out.2 (by omega) (by omega)).mono ?_
          rintro e w8 ⟨rfl, hb8⟩
          have HH9 := Lib.hid (HH8.out.call hb8)
          have eZ := HH9.out.tail.cell
          have fZ := HH9.out.tail.frz
          have zZ := HH9.out.tail.lt
          have HB9 := Lib.hid HH9.out.2.1
          simp only [] at eZ fZ zZ
          clear hb8
          go_wp2_with fail
          refine bodyPost_ret (v := Bil.val ⟨q1 - p1, q2 - p2, q3 - p3, q4 - p4, 0⟩) (by simp [results, Try.results20, go_sem, Bil.val, eZ, zZ]) rfl ⟨by rw [HC2.out], ?_⟩
          repeat' (first | (with_reducible exact HB9.out) | (with_reducible refine below_drewN ?_ _) | (with_reducible refine Below.setCell ?_ ?_ _) | (with_reducible refine Below.alloc ?_ ?_ _) | (simp; done) | (simp; omega) | omega)
      · have HRe : Hid (chgR s a b = ⟨0, 0, 0, 0, 10⟩) := Lib.hid (by rw [HC.out, if_neg (fun g => c1 g.1)])
        clear HC
        go_wp2_with fail
        refine bodyPost_ret (v := Bil.val ⟨0, 0, 0, 0, 10⟩) (by simp [results, Try.results20, go_sem, Bil.val, eZ, zZ]) rfl ⟨by rw [HRe.out], ?_⟩
        repeat' (first | (with_reducible exact HB2.out) | (with_reducible refine below_drewN ?_ _) | (with_reducible refine Below.setCell ?_ ?_ _) | (with_reducible refine Below.alloc ?_ ?_ _) | (simp; done) | (simp; omega) | omega)
end Go.Proofs.Ytcjkofgbijdkcaa
