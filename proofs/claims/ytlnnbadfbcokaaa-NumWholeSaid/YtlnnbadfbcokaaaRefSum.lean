/- Package tallageref01: Sum, of at most some numbers. -/
import Derived.WalkKit
import Derived.Outline
import Derived.Lib.Hide
import Derived.Handy
import Derived.Deep.QuietTactic
import Derived.BigQuiet
import Derived.BigRegion
import Derived.Deep.DeepCutAuto
import Derived.Test.YtlnnbadfbcokaaaNumSum
import Derived.Test.YtlnnbadfbcokaaaRefNum
import Derived.Test.YtlnnbadfbcokaaaHeldN
import Derived.Test.YtlnnbadfbcokaaaTail
namespace Go.Proofs.Ytlnnbadfbcokaaa
open Go.RowKit

/-- a wide number's cells -/
def wideC (s : Bool) (m : Int) : Array Value := #[.bool s, .int .u64 (dig0 m), .int .u64 (dig1 m), .int .u64 (dig2 m), .int .u64 (dig3 m)]
theorem wide_cells (s : Bool) (m : Int) : Wide s m = .agg (wideC s m) := rfl
theorem of_wide (a : Int) (w : World) (a1 : -9223372036854775808 ≤ a) (a2 : a ≤ 9223372036854775807) :
    Calls Try.prog 38 #[.int .i64 a] w fun e w' => e = .returned (Wide (decide (a < 0)) (mag a)) ∧ Below w.heap.size w w' := of_any a w a1 a2
theorem wadd_told (s t : Bool) (n m : Int) (S : Bool) (M : Int) (w : World) (n0 : 0 ≤ n) (m0 : 0 ≤ m) (h : n + m < 340282366920938463463374607431768211456) (hS : (addW s n t m).1 = S) (hM : (addW s n t m).2 = M) :
    Calls Try.prog 51 #[.agg #[.bool s, .int .u64 (dig0 n), .int .u64 (dig1 n), .int .u64 (dig2 n), .int .u64 (dig3 n)], Wide t m] w fun e w' => e = .returned (.agg #[.bool S, .int .u64 (dig0 M), .int .u64 (dig1 M), .int .u64 (dig2 M), .int .u64 (dig3 M)]) ∧ Below w.heap.size w w' := by
  subst hS hM; exact wadd_any s t n m w n0 m0 h
/-- five stores into a wide number's block -/
theorem wide_set {W : World} {c : Nat} {s : Bool} {m : Int} (h : Own W c (wideC s m) 59) (S : Bool) (M : Int) :
    Own (((((W.setCell ⟨c, 0, none⟩ (.bool S)).setCell ⟨c, 1, none⟩ (.int .u64 (dig0 M))).setCell ⟨c, 2, none⟩ (.int .u64 (dig1 M))).setCell ⟨c, 3, none⟩ (.int .u64 (dig2 M))).setCell ⟨c, 4, none⟩ (.int .u64 (dig3 M))) c (wideC S M) 59 :=
  own_set (own_set (own_set (own_set (own_set h 0 (.bool S)) 1 (.int .u64 (dig0 M))) 2 (.int .u64 (dig1 M))) 3 (.int .u64 (dig2 M))) 4 (.int .u64 (dig3 M))
/-- the sum's block; what was there ahead of the call is as it was -/
structure SumB (B c : Nat) (s : Bool) (m : Int) (w W : World) : Prop where
  own : Own W c (wideC s m) 59
  new : B ≤ c
  low : Below B w W
  size : B ≤ W.heap.size
theorem SumB.call {B c : Nat} {s : Bool} {m : Int} {w W W' : World} (h : SumB B c s m w W) (hb : Below W.heap.size W W') : SumB B c s m w W' :=
  ⟨own_below h.own hb (own_lt h.own), h.new, h.low.trans (hb.mono h.size), Nat.le_trans h.size hb.size⟩
theorem SumB.drew {B c : Nat} {s : Bool} {m : Int} {w W : World} (h : SumB B c s m w W) : SumB B c s m w W.drew := ⟨h.own, h.new, below_drewN h.low 1, h.size⟩
theorem SumB.set {B c : Nat} {s : Bool} {m : Int} {w W : World} (h : SumB B c s m w W) (S : Bool) (M : Int) :
    SumB B c S M w (((((W.setCell ⟨c, 0, none⟩ (.bool S)).setCell ⟨c, 1, none⟩ (.int .u64 (dig0 M))).setCell ⟨c, 2, none⟩ (.int .u64 (dig1 M))).setCell ⟨c, 3, none⟩ (.int .u64 (dig2 M))).setCell ⟨c, 4, none⟩ (.int .u64 (dig3 M))) :=
  ⟨wide_set h.own S M, h.new, ((((h.low.setCell h.new _).setCell h.new _).setCell h.new _).setCell h.new _).setCell h.new _, by simpa using h.size⟩

set_option maxRecDepth 100000 in
set_option maxHeartbeats 4000000 in
theorem refSum_any (b off cap : Nat) (xs : List Int) (w : World) (hbw : 0 < xs.length → b < w.heap.size) (hc : ∀ k, k < xs.length → w.cell? ⟨b, off + k, none⟩ = some (.int .i64 (xs.getD k 0))) (hl : xs.length ≤ 1000000)
    (hb : ∀ k, -9223372036854775808 ≤ xs.getD k 0 ∧ xs.getD k 0 ≤ 9223372036854775807) :
    Calls Try.prog 59 #[.slice (some ⟨b, off, none⟩) xs.length cap] w fun e w' => e = Pair (sumR xs) ∧ Below w.heap.size w w' := by
  have HC : Hid (∀ W, Below w.heap.size w W → ∀ k, k < xs.length → W.cell? ⟨b, off + k, none⟩ = some (.int .i64 (xs.getD k 0))) := Lib.hid (fun W hB k hk => by rw [← hc k hk]; exact hB.cell (p := ⟨b, off + k, none⟩) (hbw (by omega)))
  have HR1 : Hid (∀ k, k < xs.length → amt (xs.getD k 0) = false → sumR xs = (0, 1)) := Lib.hid (fun k hk hf => by
    have : xs.all amt = false := by
      rw [Bool.eq_false_iff]; intro ht
      have := List.all_eq_true.1 ht (xs.getD k 0) (by simp only [List.getD_eq_getElem?_getD]; rw [List.getElem?_eq_getElem hk]; exact List.getElem_mem hk)
      rw [hf] at this; cases this
    simp [sumR, this])
  have HR2 : Hid ((∀ k, k < xs.length → amt (xs.getD k 0) = true) → sumR xs = told (sumI xs xs.length)) := Lib.hid (fun h => by
    have : xs.all amt = true := List.all_eq_true.2 (fun x hx => by
      obtain ⟨k, hk, rfl⟩ := List.mem_iff_getElem.1 hx
      have := h k hk
      simp only [List.getD_eq_getElem?_getD] at this
      rw [List.getElem?_eq_getElem hk] at this; exact this)
    simp [sumR, this])
  have HS : Hid (∀ k, sumI xs (k + 1) = sumI xs k + xs.getD k 0) := Lib.hid (fun k => rfl)
  have HS0 : Hid (sumI xs 0 = 0) := Lib.hid rfl
  have HB := Lib.hid hb
  clear hc hb hbw
  generalize sumR xs = R at *
  generalize hX : xs.getD = X at *
  generalize sumI xs = sm at *
  generalize xs.length = n at *
  clear hX
  go_enter Try.func59, Try.ntmps59
  go_wp2_with fail
  have HH0 : Hid (SumB w.heap.size w.heap.size false 0 w (w.alloc (.cells #[.bool false, .int .u64 0, .int .u64 0, .int .u64 0, .int .u64 0] 59))) :=
    Lib.hid ⟨own_new _ _ _, Nat.le_refl _, (Below.refl _ _).alloc (Nat.le_refl _) _, by simp⟩
  generalize w.alloc (.cells #[.bool false, .int .u64 0, .int .u64 0, .int .u64 0, .int .u64 0] 59) = W0 at *
  go_loopw [5] (fun vi wr => ∃ (k : Nat) (s : Bool) (m : Int), k ≤ n ∧ vi = .int .i64 k ∧ 0 ≤ m ∧ m ≤ 4611686018427387904 * k ∧ Hid (valW s m = sm k) ∧ Hid (∀ j, j < k → amt (X j 0) = true) ∧ Hid (SumB w.heap.size w.heap.size s m w wr)) (fun vi _ => n - (intOf vi).toNat)
  case atStart => exact ⟨0, false, 0, by omega, rfl, by omega, by omega, Lib.hid (by rw [HS0.out]; rfl), Lib.hid (fun j h => absurd h (by omega)), HH0⟩
  case round =>
    obtain ⟨k, s, m, hk, rfl, m0, m1, HV, HA, HH⟩ := hrel
    clear HH0
    by_cases hlt : k < n
    · have e1 := HC.out wr HH.out.low k hlt
      have i1 : (k : Int) < (n : Int) := by omega
      have i2 : (0 : Int) ≤ (k : Int) := by omega
      have hst := HS.out k
      have hxb := HB.out k
      have hr1 := HR1.out k hlt
      have HCk := Lib.hid (fun W hB => HC.out W hB k hlt)
      generalize hx : X k 0 = x at *
      have HX := Lib.hid hx
      clear hx
      cases ha : amt x with
      | false =>
        have HE := Lib.hid (hr1 ha)
        have HF := Lib.hid ha
        clear hr1 ha hst
        go_wp2_with fail
        refine (isAmt_any x _).mono ?_
        rintro e w1 ⟨rfl, rfl⟩
        rw [HF.out]
        go_wp2_with fail
        go_ret2
        exact ⟨pair_of HE.out, HH.out.low⟩
      | true =>
        obtain ⟨x1, x2⟩ := amt_iff.1 ha
        have hmg : 0 ≤ mag x ∧ mag x ≤ 4611686018427387904 := by unfold mag; split <;> omega
        have hbd := addW_bd (s := s) (t := decide (x < 0)) m0 hmg.1
        have hval : valW (addW s m (decide (x < 0)) (mag x)).1 (addW s m (decide (x < 0)) (mag x)).2 = sm (k + 1) := by rw [valW_add, mag_val, HV.out, hst]
        have HF := Lib.hid ha
        have HA2 : Hid (∀ j, j < k + 1 → amt (X j 0) = true) := Lib.hid (fun j hj => by
          by_cases g : j = k
          · subst g; rw [HX.out]; exact ha
          · exact HA.out j (by omega))
        obtain ⟨S, hS⟩ : ∃ S, (addW s m (decide (x < 0)) (mag x)).1 = S := ⟨_, rfl⟩
        obtain ⟨M, hM⟩ : ∃ M, (addW s m (decide (x < 0)) (mag x)).2 = M := ⟨_, rfl⟩
        have HAdd := Lib.hid (fun W => wadd_told s (decide (x < 0)) m (mag x) S M W m0 hmg.1 (by omega) hS hM)
        have HOf := Lib.hid (fun W => of_wide x W (by omega) (by omega))
        rw [hM] at hbd
        rw [hS, hM] at hval
        have HVal := Lib.hid hval
        clear ha hr1 hst hval hS hM HA
        generalize Wide (decide (x < 0)) (mag x) = wx at *
        have hM1 : M ≤ 4611686018427387904 * (k + 1 : Nat) := by push_cast; omega
        have hM0 := hbd.1
        clear hbd hmg hxb
        go_wp2_with fail
        refine (isAmt_any x _).mono ?_
        rintro e w1 ⟨rfl, rfl⟩
        rw [HF.out]
        go_upto_region 8 with fail
        obtain ⟨Held, hh0, hcall, hdrew, hat, hat1, hafter, hback⟩ : ∃ Held : World → Prop, Held wr ∧ Hid (∀ W W', Held W → Below W.heap.size W W' → Held W') ∧ Hid (∀ W, Held W → Held W.drew) ∧
            Hid (∀ W, Held W → W.cell? ⟨b, off + k, none⟩ = some (.int .i64 x)) ∧
            Hid (∀ W, Held W → (∀ i, W.cell? ⟨w.heap.size, i, none⟩ = (#[.bool s, .int .u64 (dig0 m), .int .u64 (dig1 m), .int .u64 (dig2 m), .int .u64 (dig3 m)] : Array Value)[i]?) ∧ ∀ i, W.frozen? ⟨w.heap.size, i, none⟩ = false) ∧
            Hid (∀ W, Held W → (((((W.setCell ⟨w.heap.size, 0, none⟩ (.bool S)).setCell ⟨w.heap.size, 1, none⟩ (.int .u64 (dig0 M))).setCell ⟨w.heap.size, 2, none⟩ (.int .u64 (dig1 M))).setCell ⟨w.heap.size, 3, none⟩ (.int .u64 (dig2 M))).setCell ⟨w.heap.size, 4, none⟩ (.int .u64 (dig3 M))).cell? ⟨b, off + k, none⟩ = some (.int .i64 x)) ∧
            Hid (∀ W, Held W → SumB w.heap.size w.heap.size s m w W) :=
          ⟨_, HH.out, Lib.hid (fun W W' h hb => h.call hb), Lib.hid (fun W h => h.drew), Lib.hid (fun W h => HCk.out W h.low), Lib.hid (fun W h => ⟨own_cell h.own, own_frz h.own⟩), Lib.hid (fun W h => HCk.out _ (h.set S M).low), Lib.hid (fun W h => h)⟩
        clear e1
        have ec := hat1.out _ hh0
        have hw1 : ∀ p : HW Held, p.w.cell? ⟨b, off + k, none⟩ = some (.int .i64 x) := fun p => hat.out _ p.h
        have hw2 : ∀ (p : HW Held) i, p.w.cell? ⟨w.heap.size, i, none⟩ = (#[.bool s, .int .u64 (dig0 m), .int .u64 (dig1 m), .int .u64 (dig2 m), .int .u64 (dig3 m)] : Array Value)[i]? := fun p => (hat1.out _ p.h).1
        clear ec
        have hne : Nonempty (HW Held) := ⟨⟨_, hh0⟩⟩
        refine region_held_tail Held 7 (by kernel_rfl) (by kernel_rfl) (hdrew.out _ hh0) ?_
        simp only [List.take_succ_cons, List.take_zero, List.drop_succ_cons, List.drop_zero]
        repeat (quiet_step (first
            | (go_at_call 38; exact HW.call hcall.out HOf.out _)
            | (go_at_call 51; exact HW.call hcall.out HAdd.out _)))
        refine wpQuiet_nil ?_
        rintro W2 ⟨⟨_, hh2⟩, rfl⟩
        clear hw1 hw2
        have hA2 := hat1.out _ hh2
        have HS2 := Lib.hid ((hback.out _ hh2).set S M)
        clear hh0 hne
        go_wp2_with fail
        exact ⟨⟨k + 1, S, M, by omega, by go_num, hM0, hM1, HVal, HA2, HS2⟩, by simp [intOf]; omega⟩
    · have hkn : k = n := by omega
      subst hkn
      have hr2 := HR2.out HA.out
      rw [← HV.out, ← toldW_eq m0] at hr2
      have HRR := Lib.hid hr2
      have hz := own_lt HH.out.own
      clear hr2
      have ec := own_cell HH.out.own
      simp only [wideC] at ec
      go_wp2_with fail
      refine (wtold_any s m _ m0 (by omega)).mono ?_
      rintro e w4 ⟨rfl, hb4⟩
      unfold Pair
      go_wp2_with fail
      go_ret2
      exact ⟨pair_of HRR.out, HH.out.low.trans (hb4.mono HH.out.size)⟩
end Go.Proofs.Ytlnnbadfbcokaaa
