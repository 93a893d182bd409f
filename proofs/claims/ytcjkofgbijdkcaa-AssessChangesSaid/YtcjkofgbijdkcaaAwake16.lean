/- The law's first look: a bill of 35 days late, by a schedule of one rate. -/
import Derived.WalkKit
import Derived.Outline
import Derived.Lib.Hide
import Derived.Handy
import Derived.Deep.QuietTactic
import Derived.BigQuiet
import Derived.Test.YtcjkofgbijdkcaaBillW
namespace Go.Proofs.Ytcjkofgbijdkcaa
open Go.RowKit

def flatS (g : Nat) : Sch := ⟨some ⟨g, 0, none⟩, 1, 1, [0, 1000], 0, 0, 500, 5, 10⟩
def awakeR : Ret := ⟨1, 100, 135, 1000, 40⟩
theorem flatS_in {g : Nat} {w : World} (h : Own w g #[.int .i64 0, .int .i64 1000] 68) : (flatS g).In w := by
  refine ⟨⟨rfl, fun _ => ⟨g, 0, rfl, own_lt h, fun k hk => ?_⟩, fun k => ?_⟩, by simp [flatS], by simp [flatS, i64], by simp [flatS, i64], by simp [flatS, i64], by simp [flatS, i64], by simp [flatS, i64]⟩
  · rw [Nat.zero_add, own_cell h]
    match k, hk with
    | 0, _ => rfl
    | 1, _ => rfl
  · match k with
    | 0 => simp [flatS]
    | 1 => simp [flatS]
    | k + 2 => simp [flatS]
theorem awakeR_in : awakeR.In := by refine ⟨?_, ?_, ?_, ?_, ?_⟩ <;> simp [awakeR, i64]
theorem flatS_right (g : Nat) : (flatS g).right = true := by
  simp only [Sch.right, Sch.heads, Sch.tails, Sch.okAt, Sch.f, Sch.b, flatS, isMon]
  have : ∀ k, k < 1 → k = 0 := fun k hk => by omega
  simp only [Bool.and_eq_true, decide_eq_true_eq]
  refine ⟨⟨⟨by simp, fun k hk => ?_⟩, by simp⟩, by simp⟩
  rw [this k hk]
  simp
theorem late_awake : lateF 100 135 = 2 := by decide +kernel
theorem awake_bill (g : Nat) : billR (flatS g) awakeR = ⟨100, 60, 10, 0, 0⟩ := by
  have h1 : taxR (flatS g) awakeR.inc = (100, 0) := by
    unfold taxR
    rw [flatS_right]
    simp only [sumTo, seg, Sch.f, Sch.b, flatS, awakeR]
    decide
  unfold billR
  rw [flatS_right, h1]
  have h2 : awakeR.right = true := by decide
  rw [h2]
  simp only [awakeR, flatS, penR, late_awake]
  simp
  decide

set_option maxRecDepth 100000 in
set_option maxHeartbeats 1000000 in
theorem flat_any (w : World) : Calls Try.prog 22 #[] w fun e w' => e = .returned (flatS (w.heap.size + 1)).val ∧ Below w.heap.size w w' ∧ Own w' (w.heap.size + 1) #[.int .i64 0, .int .i64 1000] 68 := by
  simp only [Sch.val, flatS]
  go_enter Try.func22, Try.ntmps22
  go_wp2_with fail
  refine bodyPost_ret (v := (flatS (w.heap.size + 1)).val) (by simp [results, Try.results22, go_sem, Sch.val, flatS]) rfl ⟨rfl, ?_, own_new_at _ _ _ _ (by simp)⟩
  exact ((Below.refl _ _).alloc (Nat.le_refl _) _).alloc (by simp) _

set_option maxRecDepth 100000 in
set_option maxHeartbeats 1000000 in
theorem awake16 (w : World) : Calls Try.prog 10 #[] w fun e w' => e = .returned (.bool true) ∧ Below w.heap.size w w' := by
  go_enter Try.func10, Try.ntmps10
  go_wp2_with fail
  refine (flat_any _).mono ?_
  rintro e w1 ⟨rfl, hb1, ho1⟩
  have HS := Lib.hid (flatS_in ho1)
  have HE := awake_bill (w.heap.size + 1)
  generalize flatS (w.heap.size + 1) = S at *
  have HB := Lib.hid (fun W h => asBill_any S awakeR W h awakeR_in)
  rw [HE] at HB
  simp only [Sch.val, Ret.val, awakeR, Bil.val] at *
  have HB1 := Lib.hid hb1
  have hs1 := hb1.size
  clear hb1 ho1 HE
  go_wp2_with fail
  refine (HB.out _ HS.out).mono ?_
  rintro e w2 ⟨rfl, hb2⟩
  go_wp2_with fail
  go_ret
  have k := hb2.size
  exact ⟨rfl, (HB1.out.trans (hb2.mono hs1)).alloc (by omega) _⟩
end Go.Proofs.Ytcjkofgbijdkcaa
