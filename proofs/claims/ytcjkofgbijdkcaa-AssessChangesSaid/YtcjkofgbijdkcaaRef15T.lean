/- Package tallageref15: Tax, of any schedule and income. -/
import Derived.WalkKit
import Derived.Outline
import Derived.Lib.Hide
import Derived.Handy
import Derived.Deep.QuietTactic
import Derived.BigQuiet
import Derived.Test.YtcjkofgbijdkcaaTail
import Derived.Test.YtcjkofgbijdkcaaRef15S
import Derived.Test.YtcjkofgbijdkcaaWideD
namespace Go.Proofs.Ytcjkofgbijdkcaa
open Go.RowKit

/-- three blocks of this call hold what they held; what was there ahead of it is as it was -/
def HeldT (B g0 g1 g2 : Nat) (c0 c1 c2 : Array Value) (t0 t1 t2 : TypeId) (w W : World) : Prop :=
  Own W g0 c0 t0 ∧ Own W g1 c1 t1 ∧ Own W g2 c2 t2 ∧ Below B w W ∧ B ≤ W.heap.size
theorem HeldT.call {B g0 g1 g2 : Nat} {c0 c1 c2 : Array Value} {t0 t1 t2 : TypeId} {w W W' : World} (h : HeldT B g0 g1 g2 c0 c1 c2 t0 t1 t2 w W) (hb : Below W.heap.size W W') : HeldT B g0 g1 g2 c0 c1 c2 t0 t1 t2 w W' :=
  ⟨own_below h.1 hb (own_lt h.1), own_below h.2.1 hb (own_lt h.2.1), own_below h.2.2.1 hb (own_lt h.2.2.1), h.2.2.2.1.trans (hb.mono h.2.2.2.2), Nat.le_trans h.2.2.2.2 hb.size⟩
theorem HeldT.drew {B g0 g1 g2 : Nat} {c0 c1 c2 : Array Value} {t0 t1 t2 : TypeId} {w W : World} (h : HeldT B g0 g1 g2 c0 c1 c2 t0 t1 t2 w W) : HeldT B g0 g1 g2 c0 c1 c2 t0 t1 t2 w W.drew :=
  ⟨h.1, h.2.1, h.2.2.1, below_drewN h.2.2.2.1 1, h.2.2.2.2⟩
theorem HeldT.alloc {B g0 g1 g2 : Nat} {c0 c1 c2 : Array Value} {t0 t1 t2 : TypeId} {w W : World} (h : HeldT B g0 g1 g2 c0 c1 c2 t0 t1 t2 w W) (o : Obj) : HeldT B g0 g1 g2 c0 c1 c2 t0 t1 t2 w (W.alloc o) :=
  ⟨own_alloc h.1 o, own_alloc h.2.1 o, own_alloc h.2.2.1 o, h.2.2.2.1.alloc h.2.2.2.2 o, Nat.le_trans h.2.2.2.2 (by simp)⟩
theorem HeldT.at1 {B g0 g1 g2 : Nat} {c0 c1 c2 : Array Value} {t0 t1 t2 : TypeId} {w W : World} (h : HeldT B g0 g1 g2 c0 c1 c2 t0 t1 t2 w W) : ∀ i, W.cell? ⟨g1, i, none⟩ = c1[i]? := own_cell h.2.1
theorem HeldT.at2 {B g0 g1 g2 : Nat} {c0 c1 c2 : Array Value} {t0 t1 t2 : TypeId} {w W : World} (h : HeldT B g0 g1 g2 c0 c1 c2 t0 t1 t2 w W) : ∀ i, W.cell? ⟨g2, i, none⟩ = c2[i]? := own_cell h.2.2.1
theorem HeldT.frz1 {B g0 g1 g2 : Nat} {c0 c1 c2 : Array Value} {t0 t1 t2 : TypeId} {w W : World} (h : HeldT B g0 g1 g2 c0 c1 c2 t0 t1 t2 w W) : ∀ i, W.frozen? ⟨g1, i, none⟩ = false := own_frz h.2.1
theorem keep5 {W : World} {g g2 : Nat} {cs : Array Value} (h : ∀ i, W.cell? ⟨g2, i, none⟩ = cs[i]?) (hne : g ≠ g2) (v0 v1 v2 v3 v4 : Value) :
    ∀ i, (((((W.setCell ⟨g, 0, none⟩ v0).setCell ⟨g, 1, none⟩ v1).setCell ⟨g, 2, none⟩ v2).setCell ⟨g, 3, none⟩ v3).setCell ⟨g, 4, none⟩ v4).cell? ⟨g2, i, none⟩ = cs[i]? := fun i => by
  rw [World.cell?_setCell_far _ _ _ _ hne, World.cell?_setCell_far _ _ _ _ hne, World.cell?_setCell_far _ _ _ _ hne, World.cell?_setCell_far _ _ _ _ hne, World.cell?_setCell_far _ _ _ _ hne]
  exact h i
theorem HeldT.store {B g0 g1 g2 : Nat} {c0 c2 : Array Value} {a0 a1 a2 a3 a4 : Value} {t0 t1 t2 : TypeId} {w W : World} (h : HeldT B g0 g1 g2 c0 #[a0, a1, a2, a3, a4] c2 t0 t1 t2 w W) (hne : g0 ≠ g1) (hB : B ≤ g1) (v0 v1 v2 v3 v4 : Value) :
    Below B w (((((W.setCell ⟨g1, 0, none⟩ v0).setCell ⟨g1, 1, none⟩ v1).setCell ⟨g1, 2, none⟩ v2).setCell ⟨g1, 3, none⟩ v3).setCell ⟨g1, 4, none⟩ v4) ∧
      Own (((((W.setCell ⟨g1, 0, none⟩ v0).setCell ⟨g1, 1, none⟩ v1).setCell ⟨g1, 2, none⟩ v2).setCell ⟨g1, 3, none⟩ v3).setCell ⟨g1, 4, none⟩ v4) g1 #[v0, v1, v2, v3, v4] t1 ∧
      Own (((((W.setCell ⟨g1, 0, none⟩ v0).setCell ⟨g1, 1, none⟩ v1).setCell ⟨g1, 2, none⟩ v2).setCell ⟨g1, 3, none⟩ v3).setCell ⟨g1, 4, none⟩ v4) g0 c0 t0 ∧
      g1 < (((((W.setCell ⟨g1, 0, none⟩ v0).setCell ⟨g1, 1, none⟩ v1).setCell ⟨g1, 2, none⟩ v2).setCell ⟨g1, 3, none⟩ v3).setCell ⟨g1, 4, none⟩ v4).heap.size := by
  have ho : Own (((((W.setCell ⟨g1, 0, none⟩ v0).setCell ⟨g1, 1, none⟩ v1).setCell ⟨g1, 2, none⟩ v2).setCell ⟨g1, 3, none⟩ v3).setCell ⟨g1, 4, none⟩ v4) g1 #[v0, v1, v2, v3, v4] t1 :=
    own_set (own_set (own_set (own_set (own_set h.2.1 0 v0) 1 v1) 2 v2) 3 v3) 4 v4
  refine ⟨?_, ho, own_far (own_far (own_far (own_far (own_far h.1 hne 0 v0) hne 1 v1) hne 2 v2) hne 3 v3) hne 4 v4, own_lt ho⟩
  repeat' (first | exact h.2.2.2.1 | (refine Below.setCell ?_ ?_ _) | exact hB)
theorem wmul_pos (n m : Int) (w : World) (n0 : 0 ≤ n) (n1 : n < 18446744073709551616) (m0 : 0 ≤ m) (m1 : m < 18446744073709551616) :
    Calls Try.prog 33 #[Wide false n, Wide false m] w fun e w' => e = .returned (Wide false (n * m)) ∧ Below w.heap.size w w' := wmul_any false false n m w n0 n1 m0 m1
theorem wadd_cells (n m : Int) (w : World) (n0 : 0 ≤ n) (m0 : 0 ≤ m) (h : n + m < 340282366920938463463374607431768211456) :
    Calls Try.prog 51 #[.agg #[.bool false, .int .u64 (dig0 n), .int .u64 (dig1 n), .int .u64 (dig2 n), .int .u64 (dig3 n)], Wide false m] w fun e w' =>
      e = .returned (.agg #[.bool false, .int .u64 (dig0 (n + m)), .int .u64 (dig1 (n + m)), .int .u64 (dig2 (n + m)), .int .u64 (dig3 (n + m))]) ∧ Below w.heap.size w w' := wadd_same false n m w n0 m0 h
theorem wdiv_cells (n c : Int) (w : World) (n0 : 0 ≤ n) (n1 : n < 340282366920938463463374607431768211456) (c0 : 1 ≤ c) (c1 : c ≤ 4611686018427387904) :
    Calls Try.prog 34 #[.agg #[.bool false, .int .u64 (dig0 n), .int .u64 (dig1 n), .int .u64 (dig2 n), .int .u64 (dig3 n)], .int .i64 c] w fun e w' =>
      e = .returned (.tuple #[(.agg #[.bool false, .int .u64 (dig0 (n / c)), .int .u64 (dig1 (n / c)), .int .u64 (dig2 (n / c)), .int .u64 (dig3 (n / c))]), .int .i64 (n % c)]) ∧ Below w.heap.size w w' := by
  have := wdiv_any false n c w n0 n1 c0 c1
  simpa [divW, Wide] using this
theorem wtold_pos (n : Int) (w : World) (n0 : 0 ≤ n) (n1 : n ≤ 4611686018427387904) :
    Calls Try.prog 35 #[.agg #[.bool false, .int .u64 (dig0 n), .int .u64 (dig1 n), .int .u64 (dig2 n), .int .u64 (dig3 n)]] w fun e w' => e = .returned (.tuple #[.int .i64 n, .int .i64 0]) ∧ Below w.heap.size w w' := by
  have := wtold_any false n w n0 (by omega)
  rw [show toldW false n = (n, 0) by unfold toldW; rw [if_neg (by omega)]; rfl] at this
  exact this

set_option maxRecDepth 100000 in
set_option maxHeartbeats 16000000 in
theorem r15tax_any (s : Sch) (x : Int) (w : World) (hi : s.In w) (x1 : i64 x) :
    Calls Try.prog 30 #[s.val, .int .i64 x] w fun e w' => e = Pair (taxR s x) ∧ Below w.heap.size w w' := by
  have ht := r15right_any s
  simp only [Sch.val] at ht ⊢
  have HIn : Hid (∀ w', Below w.heap.size w w' → s.In w') := Lib.hid (fun w' hb => hi.below hb (Nat.le_refl _))
  have hb0 : Below w.heap.size w (w.alloc (.cells #[.slice s.A s.len s.cap, .int .i64 s.ded, .int .i64 s.cre, .int .i64 s.bp, .int .i64 s.most, .int .i64 s.least] 29)) := (Below.refl _ _).alloc (Nat.le_refl _) _
  have hin := HIn.out _ hb0
  have ho0 : Own (w.alloc (.cells #[.slice s.A s.len s.cap, .int .i64 s.ded, .int .i64 s.cre, .int .i64 s.bp, .int .i64 s.most, .int .i64 s.least] 29)) w.heap.size #[.slice s.A s.len s.cap, .int .i64 s.ded, .int .i64 s.cre, .int .i64 s.bp, .int .i64 s.most, .int .i64 s.least] 29 := own_new _ _ _
  have hs0 : w.heap.size < (w.alloc (.cells #[.slice s.A s.len s.cap, .int .i64 s.ded, .int .i64 s.cre, .int .i64 s.bp, .int .i64 s.most, .int .i64 s.least] 29)).heap.size := by simp
  have HB0 := Lib.hid hb0; have HI0 := Lib.hid hin; have HO0 := Lib.hid ho0; have HTX := Lib.hid ht
  have HSI := Lib.hid hi
  clear hb0 hin ho0 ht hi
  go_enter Try.func30, Try.ntmps30
  go_wp2_with fail
  generalize w.alloc (.cells #[.slice s.A s.len s.cap, .int .i64 s.ded, .int .i64 s.cre, .int .i64 s.bp, .int .i64 s.most, .int .i64 s.least] 29) = W0 at *
  refine (HTX.out _ HI0.out).mono ?_
  rintro e w1 ⟨rfl, hb1⟩
  have hs1 := hb1.size
  have ho1 : Own w1 w.heap.size #[.slice s.A s.len s.cap, .int .i64 s.ded, .int .i64 s.cre, .int .i64 s.bp, .int .i64 s.most, .int .i64 s.least] 29 := own_below HO0.out hb1 hs0
  have hbl : Below w.heap.size w w1 := HB0.out.trans (hb1.mono (by omega))
  have HO1 := Lib.hid ho1; have HBL := Lib.hid hbl
  clear hb1 ho1 hbl HB0 HI0 HO0 HTX
  have HTR : Hid (taxR s x = if s.right && isMon x then (max (sumTo s (max (x - s.ded) 0) s.len / 10000 - s.cre) 0, 0) else (0, 1)) := Lib.hid rfl
  go_wp2_with fail
  refine (r15isMoney_any x _).mono ?_
  rintro e w' ⟨rfl, rfl⟩
  cases hz : (s.right && isMon x) with
  | false =>
    have hr : taxR s x = (0, 1) := by rw [HTR.out, hz]; rfl
    have HRe := Lib.hid hr
    cases hy : s.right with
    | false =>
      clear hr hz hy
      go_wp2_with fail
      go_ret2
      exact ⟨pair_of HRe.out, HBL.out⟩
    | true =>
      have hm : isMon x = false := by rw [hy] at hz; simpa using hz
      rw [hm]
      clear hr hz hy hm
      go_wp2_with fail
      go_ret2
      exact ⟨pair_of HRe.out, HBL.out⟩
  | true =>
    have hr : taxR s x = (max (sumTo s (max (x - s.ded) 0) s.len / 10000 - s.cre) 0, 0) := by rw [HTR.out, hz]; rfl
    obtain ⟨hr1, hm⟩ := (Bool.and_eq_true _ _).mp hz
    rw [hr1, hm]
    obtain ⟨n1, n2, f0, hfk⟩ := Sch.right_at hr1
    obtain ⟨d1, d2, c1, c2, _⟩ := Sch.right_ded hr1
    obtain ⟨x3, x4⟩ := isMon_iff.1 hm
    obtain ⟨bb, off, hA, hbb, hcell⟩ := HSI.out.ints.2.1 (by omega)
    have HF : Hid (∀ k, k < s.len → w.cell? ⟨bb, off + k * 2, none⟩ = some (.int .i64 (s.f k)) ∧ w.cell? ⟨bb, off + k * 2 + 1, none⟩ = some (.int .i64 (s.b k)) ∧ 0 ≤ s.f k ∧ s.f k ≤ 1125899906842624 ∧ (k = 0 ∨ s.f (k - 1) < s.f k) ∧ 0 ≤ s.b k ∧ s.b k ≤ 10000) := Lib.hid (fun k hk =>
      ⟨hcell (k * 2) (by omega), hcell (k * 2 + 1) (by omega), hfk k hk⟩)
    have hp0 : 0 ≤ max (x - s.ded) 0 ∧ max (x - s.ded) 0 ≤ 1125899906842624 := by omega
    have HS : Hid (∀ p k, sumTo s p (k + 1) = sumTo s p k + (max 0 ((if k + 1 = s.len then p else min p (s.f (k + 1))) - s.f k)) * s.b k) := Lib.hid (fun p k => rfl)
    have HS0 : Hid (∀ p, sumTo s p 0 = 0) := Lib.hid (fun p => rfl)
    have HSB : Hid (∀ p, 0 ≤ p → ∀ k, k ≤ s.len → 0 ≤ sumTo s p k ∧ sumTo s p k ≤ 10000 * p) := Lib.hid (fun p p0 k hk => by
      obtain ⟨q1, q2⟩ := sumTo_bd hr1 p0 k hk
      refine ⟨q1, ?_⟩
      by_cases g : k = s.len
      · rw [if_pos g] at q2; exact q2
      · rw [if_neg g] at q2; omega)
    have HRe := Lib.hid hr
    clear hr hz hr1 hfk hcell f0 HSI HIn hm
    have e1 : ∀ i, w1.cell? ⟨w.heap.size, i, none⟩ = (#[.slice s.A s.len s.cap, .int .i64 s.ded, .int .i64 s.cre, .int .i64 s.bp, .int .i64 s.most, .int .i64 s.least] : Array Value)[i]? := own_cell HO1.out
    generalize hpe : max (x - s.ded) 0 = p at *
    have HPE := Lib.hid hpe
    clear hpe
    generalize s.A = A at *
    generalize s.len = len at *
    generalize s.cap = cap at *
    generalize s.ded = ded at *
    generalize s.cre = cre at *
    generalize s.bp = bp at *
    generalize s.most = most at *
    generalize s.least = least at *
    generalize s.f = f at *
    generalize s.b = b at *
    generalize sumTo s = sm at *
    subst hA
    go_wp2_with fail
    rw [HPE.out]
    clear e1
    have hw1 : w.heap.size < w1.heap.size := by omega
    have ho2 : Own (w1.alloc (.cells #[.bool false, .int .u64 0, .int .u64 0, .int .u64 0, .int .u64 0] 59)) w1.heap.size #[.bool false, .int .u64 (dig0 0), .int .u64 (dig1 0), .int .u64 (dig2 0), .int .u64 (dig3 0)] 59 := own_new _ _ _
    have ho1 := own_alloc HO1.out (.cells #[.bool false, .int .u64 0, .int .u64 0, .int .u64 0, .int .u64 0] 59)
    have hb2 := HBL.out.alloc (by omega) (.cells #[.bool false, .int .u64 0, .int .u64 0, .int .u64 0, .int .u64 0] 59)
    have HO2 := Lib.hid ho2; have HO3 := Lib.hid ho1; have HB2 := Lib.hid hb2
    clear ho1 ho2 hb2 HO1 HBL
    have hsb := HSB.out p hp0.1
    have HSBp := Lib.hid hsb
    clear hsb HSB
    go_loopw [10] (fun vi wr => ∃ k : Nat, k ≤ len ∧ vi = .int .i64 k ∧ Hid (Below w.heap.size w wr) ∧
      Hid (Own wr w1.heap.size #[.bool false, .int .u64 (dig0 (sm p k)), .int .u64 (dig1 (sm p k)), .int .u64 (dig2 (sm p k)), .int .u64 (dig3 (sm p k))] 59) ∧
      Hid (Own wr w.heap.size #[.slice (some ⟨bb, off, none⟩) len cap, .int .i64 ded, .int .i64 cre, .int .i64 bp, .int .i64 most, .int .i64 least] 29) ∧ w1.heap.size < wr.heap.size) (fun vi _ => len - (intOf vi).toNat)
    case atStart => exact ⟨0, by omega, rfl, HB2, by rw [HS0.out]; exact HO2, HO3, by simp⟩
    case round =>
      obtain ⟨k, hk, rfl, HB, HO, HP, hsz⟩ := hrel
      have e0 : ∀ i, wr.cell? ⟨w.heap.size, i, none⟩ = (#[.slice (some ⟨bb, off, none⟩) len cap, .int .i64 ded, .int .i64 cre, .int .i64 bp, .int .i64 most, .int .i64 least] : Array Value)[i]? := own_cell HP.out
      have e1 : ∀ i, wr.cell? ⟨w1.heap.size, i, none⟩ = (#[.bool false, .int .u64 (dig0 (sm p k)), .int .u64 (dig1 (sm p k)), .int .u64 (dig2 (sm p k)), .int .u64 (dig3 (sm p k))] : Array Value)[i]? := own_cell HO.out
      obtain ⟨g1, g2⟩ := HSBp.out k hk
      have hz0 : w.heap.size < wr.heap.size := by omega
      have hz1 : bb < wr.heap.size := by omega
      by_cases hlt : k < len
      · obtain ⟨e2, e3, y1, y2, _, y3, y4⟩ := HF.out k hlt
        have e4 : wr.cell? ⟨bb, off + k * 2, none⟩ = some (.int .i64 (f k)) := (HB.out.cell (p := ⟨bb, off + k * 2, none⟩) hbb).trans e2
        have e5 : wr.cell? ⟨bb, off + k * 2 + 1, none⟩ = some (.int .i64 (b k)) := (HB.out.cell (p := ⟨bb, off + k * 2 + 1, none⟩) hbb).trans e3
        obtain ⟨g3, g4⟩ := HSBp.out (k + 1) hlt
        have HSum := Lib.hid (HS.out p k)
        clear e2 e3
        by_cases cl : k + 1 = len
        · have cl2 : ¬ ((k : Int) + 1 < (len : Int)) := by omega
          have hbl : Below w.heap.size w (wr.alloc (.cells #[.int .i64 (f k), .int .i64 (b k)] 68)) := HB.out.alloc (by omega) _
          have hoS : Own (wr.alloc (.cells #[.int .i64 (f k), .int .i64 (b k)] 68)) w.heap.size #[.slice (some ⟨bb, off, none⟩) len cap, .int .i64 ded, .int .i64 cre, .int .i64 bp, .int .i64 most, .int .i64 least] 29 := own_alloc HP.out _
          have hoW := own_alloc HO.out (.cells #[.int .i64 (f k), .int .i64 (b k)] 68)
          have hoB : Own (wr.alloc (.cells #[.int .i64 (f k), .int .i64 (b k)] 68)) wr.heap.size #[.int .i64 (f k), .int .i64 (b k)] 68 := own_new _ _ _
          have hsum := HSum.out
          rw [if_pos cl] at hsum
          have hkk : w1.heap.size < (wr.alloc (.cells #[.int .i64 (f k), .int .i64 (b k)] 68)).heap.size := by simp; omega
          have HBL := Lib.hid hbl; have HOS := Lib.hid hoS; have HOW := Lib.hid hoW; have HOB := Lib.hid hoB
          by_cases c : p ≤ f k
          · have hs2 : sm p (k + 1) = sm p k := by rw [hsum, show max 0 (p - f k) = 0 by omega, Int.zero_mul]; omega
            have HOW2 : Hid (Own (wr.alloc (.cells #[.int .i64 (f k), .int .i64 (b k)] 68)) w1.heap.size #[.bool false, .int .u64 (dig0 (sm p (k + 1))), .int .u64 (dig1 (sm p (k + 1))), .int .u64 (dig2 (sm p (k + 1))), .int .u64 (dig3 (sm p (k + 1)))] 59) := by rw [hs2]; exact HOW
            clear hs2 hsum hbl hoS hoW hoB
            go_wp2_with fail
            go_roundw
            case rel => exact ⟨k + 1, by omega, by go_num, HBL, HOW2, HOS, hkk⟩
            case measure => simp [intOf]; omega
          · have hs2 : sm p (k + 1) = sm p k + (p - f k) * b k := by rw [hsum, show max 0 (p - f k) = p - f k by omega]
            clear hsum hbl hoS hoW hoB
            go_wp2_with fail
            have hw' : IntKind.i64.wrap (p - f k) = p - f k := by rw [IntKind.wrap_i64]; omega
            have ho' : 0 ≤ p - f k ∧ p - f k ≤ 1125899906842624 := by omega
            have hHeld : HeldT w.heap.size w.heap.size w1.heap.size wr.heap.size #[.slice (some ⟨bb, off, none⟩) len cap, .int .i64 ded, .int .i64 cre, .int .i64 bp, .int .i64 most, .int .i64 least]
                #[.bool false, .int .u64 (dig0 (sm p k)), .int .u64 (dig1 (sm p k)), .int .u64 (dig2 (sm p k)), .int .u64 (dig3 (sm p k))] #[.int .i64 (f k), .int .i64 (b k)] 29 59 68 w
                (wr.alloc (.cells #[.int .i64 (f k), .int .i64 (b k)] 68)) := ⟨HOS.out, HOW.out, HOB.out, HBL.out, by simp; omega⟩
            have hm := Int.mul_nonneg ho'.1 y3
            have hm2 := Int.mul_le_mul ho'.2 y4 y3 (by omega)
            have hs3 : sm p k + (p - f k) * b k = sm p (k + 1) := hs2.symm
            have HS3 := Lib.hid hs3
            clear hs3 hs2 e0 e1 e4 e5
            generalize wr.alloc (.cells #[.int .i64 (f k), .int .i64 (b k)] 68) = WB at *
            generalize hfx : f k = z at *
            generalize hby : b k = y at *
            have eA := hHeld.at1
            have eB := hHeld.at2
            obtain ⟨Held, hh0, hcall, hdrew, hat1, hat2, hfrz, hback⟩ : ∃ Held : World → Prop, Held WB ∧ Hid (∀ W W', Held W → Below W.heap.size W W' → Held W') ∧ Hid (∀ W, Held W → Held W.drew) ∧
                Hid (∀ W, Held W → ∀ i, W.cell? ⟨w1.heap.size, i, none⟩ = (#[.bool false, .int .u64 (dig0 (sm p k)), .int .u64 (dig1 (sm p k)), .int .u64 (dig2 (sm p k)), .int .u64 (dig3 (sm p k))] : Array Value)[i]?) ∧
                Hid (∀ W, Held W → ∀ i, W.cell? ⟨wr.heap.size, i, none⟩ = (#[.int .i64 z, .int .i64 y] : Array Value)[i]?) ∧
                Hid (∀ W, Held W → ∀ i, W.frozen? ⟨w1.heap.size, i, none⟩ = false) ∧
                Hid (∀ W, Held W → HeldT w.heap.size w.heap.size w1.heap.size wr.heap.size #[.slice (some ⟨bb, off, none⟩) len cap, .int .i64 ded, .int .i64 cre, .int .i64 bp, .int .i64 most, .int .i64 least]
                  #[.bool false, .int .u64 (dig0 (sm p k)), .int .u64 (dig1 (sm p k)), .int .u64 (dig2 (sm p k)), .int .u64 (dig3 (sm p k))] #[.int .i64 z, .int .i64 y] 29 59 68 w W) :=
              ⟨_, hHeld, Lib.hid (fun W W' h hb => h.call hb), Lib.hid (fun W h => h.drew), Lib.hid (fun W h => h.at1), Lib.hid (fun W h => h.at2), Lib.hid (fun W h => h.frz1), Lib.hid (fun W h => h)⟩
            clear hHeld
            have hw1 : ∀ (pw : HW Held) i, pw.w.cell? ⟨wr.heap.size, i, none⟩ = (#[.int .i64 z, .int .i64 y] : Array Value)[i]? := fun pw => hat2.out _ pw.h
            have hw2 : ∀ (pw : HW Held) i, pw.w.cell? ⟨w1.heap.size, i, none⟩ = (#[.bool false, .int .u64 (dig0 (sm p k)), .int .u64 (dig1 (sm p k)), .int .u64 (dig2 (sm p k)), .int .u64 (dig3 (sm p k))] : Array Value)[i]? := fun pw => hat1.out _ pw.h
            have hne : Nonempty (HW Held) := ⟨⟨_, hh0⟩⟩
            clear eA eB
            refine region_held_tail Held 11 (by kernel_rfl) (by kernel_rfl) (hdrew.out _ hh0) ?_
            simp only [List.take_succ_cons, List.take_zero, List.drop_succ_cons, List.drop_zero]
            repeat (quiet_step (first
              | (go_at_call 32; exact HW.call hcall.out (fun W => of_pos _ W (by omega) (by omega)) _)
              | (go_at_call 33; exact HW.call hcall.out (fun W => wmul_pos _ _ W (by omega) (by omega) (by omega) (by omega)) _)
              | (go_at_call 51; exact HW.call hcall.out (fun W => wadd_cells _ _ W (by omega) (by omega) (by omega)) _)))
            refine wpQuiet_nil ?_
            rintro W' ⟨⟨_, hh⟩, rfl⟩
            clear hw1 hw2 hne
            have hA := hat1.out _ hh
            have hF := hfrz.out _ hh
            go_wp2_with fail
            all_goals
              have hfin := (hback.out _ hh).store (by omega) (by omega) (.bool false) (.int .u64 (dig0 (sm p k + (p - z) * y))) (.int .u64 (dig1 (sm p k + (p - z) * y))) (.int .u64 (dig2 (sm p k + (p - z) * y))) (.int .u64 (dig3 (sm p k + (p - z) * y)))
              obtain ⟨q1, q2, q3, q4⟩ := hfin
              rw [HS3.out] at q1 q2 q3 q4 ⊢
              generalize ((((W'.setCell ⟨w1.heap.size, 0, none⟩ (.bool false)).setCell ⟨w1.heap.size, 1, none⟩ (.int .u64 (dig0 (sm p (k + 1))))).setCell ⟨w1.heap.size, 2, none⟩ (.int .u64 (dig1 (sm p (k + 1))))).setCell ⟨w1.heap.size, 3, none⟩ (.int .u64 (dig2 (sm p (k + 1))))).setCell ⟨w1.heap.size, 4, none⟩ (.int .u64 (dig3 (sm p (k + 1)))) = WE at *
              have Q1 := Lib.hid q1; have Q2 := Lib.hid q2; have Q3 := Lib.hid q3
              clear q1 q2 q3
              go_wp2_with fail
              go_roundw
              case rel => exact ⟨k + 1, by omega, by go_num, Q1, Q2, Q3, q4⟩
              case measure => simp [intOf]; omega
        · have cl2 : (k : Int) + 1 < (len : Int) := by omega
          have e6 : wr.cell? ⟨bb, off + (k + 1) * 2, none⟩ = some (.int .i64 (f (k + 1))) := (HB.out.cell (p := ⟨bb, off + (k + 1) * 2, none⟩) hbb).trans (HF.out (k + 1) (by omega)).1
          have y5 := (HF.out (k + 1) (by omega)).2.2.1
          have y6 := (HF.out (k + 1) (by omega)).2.2.2.1
          have hbl : Below w.heap.size w (wr.alloc (.cells #[.int .i64 (f k), .int .i64 (b k)] 68)) := HB.out.alloc (by omega) _
          have hoS : Own (wr.alloc (.cells #[.int .i64 (f k), .int .i64 (b k)] 68)) w.heap.size #[.slice (some ⟨bb, off, none⟩) len cap, .int .i64 ded, .int .i64 cre, .int .i64 bp, .int .i64 most, .int .i64 least] 29 := own_alloc HP.out _
          have hoW := own_alloc HO.out (.cells #[.int .i64 (f k), .int .i64 (b k)] 68)
          have hoB : Own (wr.alloc (.cells #[.int .i64 (f k), .int .i64 (b k)] 68)) wr.heap.size #[.int .i64 (f k), .int .i64 (b k)] 68 := own_new _ _ _
          have hsum := HSum.out
          rw [if_neg cl] at hsum
          have hkk : w1.heap.size < (wr.alloc (.cells #[.int .i64 (f k), .int .i64 (b k)] 68)).heap.size := by simp; omega
          have HBL := Lib.hid hbl; have HOS := Lib.hid hoS; have HOW := Lib.hid hoW; have HOB := Lib.hid hoB
          by_cases c : min p (f (k + 1)) ≤ f k
          · have hs2 : sm p (k + 1) = sm p k := by rw [hsum, show max 0 (min p (f (k + 1)) - f k) = 0 by omega, Int.zero_mul]; omega
            have HOW2 : Hid (Own (wr.alloc (.cells #[.int .i64 (f k), .int .i64 (b k)] 68)) w1.heap.size #[.bool false, .int .u64 (dig0 (sm p (k + 1))), .int .u64 (dig1 (sm p (k + 1))), .int .u64 (dig2 (sm p (k + 1))), .int .u64 (dig3 (sm p (k + 1)))] 59) := by rw [hs2]; exact HOW
            clear hs2 hsum hbl hoS hoW hoB
            go_wp2_with fail
            go_roundw
            case rel => exact ⟨k + 1, by omega, by go_num, HBL, HOW2, HOS, hkk⟩
            case measure => simp [intOf]; omega
          · have hs2 : sm p (k + 1) = sm p k + (min p (f (k + 1)) - f k) * b k := by rw [hsum, show max 0 (min p (f (k + 1)) - f k) = min p (f (k + 1)) - f k by omega]
            clear hsum hbl hoS hoW hoB
            go_wp2_with fail
            have hw' : IntKind.i64.wrap (min p (f (k + 1)) - f k) = min p (f (k + 1)) - f k := by rw [IntKind.wrap_i64]; omega
            have ho' : 0 ≤ min p (f (k + 1)) - f k ∧ min p (f (k + 1)) - f k ≤ 1125899906842624 := by omega
            have hHeld : HeldT w.heap.size w.heap.size w1.heap.size wr.heap.size #[.slice (some ⟨bb, off, none⟩) len cap, .int .i64 ded, .int .i64 cre, .int .i64 bp, .int .i64 most, .int .i64 least]
                #[.bool false, .int .u64 (dig0 (sm p k)), .int .u64 (dig1 (sm p k)), .int .u64 (dig2 (sm p k)), .int .u64 (dig3 (sm p k))] #[.int .i64 (f k), .int .i64 (b k)] 29 59 68 w
                (wr.alloc (.cells #[.int .i64 (f k), .int .i64 (b k)] 68)) := ⟨HOS.out, HOW.out, HOB.out, HBL.out, by simp; omega⟩
            have hm := Int.mul_nonneg ho'.1 y3
            have hm2 := Int.mul_le_mul ho'.2 y4 y3 (by omega)
            have hs3 : sm p k + (min p (f (k + 1)) - f k) * b k = sm p (k + 1) := hs2.symm
            have HS3 := Lib.hid hs3
            clear hs3 hs2 e0 e1 e4 e5
            generalize wr.alloc (.cells #[.int .i64 (f k), .int .i64 (b k)] 68) = WB at *
            generalize hfx : f k = z at *
            generalize hby : b k = y at *
            have eA := hHeld.at1
            have eB := hHeld.at2
            obtain ⟨Held, hh0, hcall, hdrew, hat1, hat2, hfrz, hback⟩ : ∃ Held : World → Prop, Held WB ∧ Hid (∀ W W', Held W → Below W.heap.size W W' → Held W') ∧ Hid (∀ W, Held W → Held W.drew) ∧
                Hid (∀ W, Held W → ∀ i, W.cell? ⟨w1.heap.size, i, none⟩ = (#[.bool false, .int .u64 (dig0 (sm p k)), .int .u64 (dig1 (sm p k)), .int .u64 (dig2 (sm p k)), .int .u64 (dig3 (sm p k))] : Array Value)[i]?) ∧
                Hid (∀ W, Held W → ∀ i, W.cell? ⟨wr.heap.size, i, none⟩ = (#[.int .i64 z, .int .i64 y] : Array Value)[i]?) ∧
                Hid (∀ W, Held W → ∀ i, W.frozen? ⟨w1.heap.size, i, none⟩ = false) ∧
                Hid (∀ W, Held W → HeldT w.heap.size w.heap.size w1.heap.size wr.heap.size #[.slice (some ⟨bb, off, none⟩) len cap, .int .i64 ded, .int .i64 cre, .int .i64 bp, .int .i64 most, .int .i64 least]
                  #[.bool false, .int .u64 (dig0 (sm p k)), .int .u64 (dig1 (sm p k)), .int .u64 (dig2 (sm p k)), .int .u64 (dig3 (sm p k))] #[.int .i64 z, .int .i64 y] 29 59 68 w W) :=
              ⟨_, hHeld, Lib.hid (fun W W' h hb => h.call hb), Lib.hid (fun W h => h.drew), Lib.hid (fun W h => h.at1), Lib.hid (fun W h => h.at2), Lib.hid (fun W h => h.frz1), Lib.hid (fun W h => h)⟩
            clear hHeld
            have hw1 : ∀ (pw : HW Held) i, pw.w.cell? ⟨wr.heap.size, i, none⟩ = (#[.int .i64 z, .int .i64 y] : Array Value)[i]? := fun pw => hat2.out _ pw.h
            have hw2 : ∀ (pw : HW Held) i, pw.w.cell? ⟨w1.heap.size, i, none⟩ = (#[.bool false, .int .u64 (dig0 (sm p k)), .int .u64 (dig1 (sm p k)), .int .u64 (dig2 (sm p k)), .int .u64 (dig3 (sm p k))] : Array Value)[i]? := fun pw => hat1.out _ pw.h
            have hne : Nonempty (HW Held) := ⟨⟨_, hh0⟩⟩
            clear eA eB
            refine region_held_tail Held 11 (by kernel_rfl) (by kernel_rfl) (hdrew.out _ hh0) ?_
            simp only [List.take_succ_cons, List.take_zero, List.drop_succ_cons, List.drop_zero]
            repeat (quiet_step (first
              | (go_at_call 32; exact HW.call hcall.out (fun W => of_pos _ W (by omega) (by omega)) _)
              | (go_at_call 33; exact HW.call hcall.out (fun W => wmul_pos _ _ W (by omega) (by omega) (by omega) (by omega)) _)
              | (go_at_call 51; exact HW.call hcall.out (fun W => wadd_cells _ _ W (by omega) (by omega) (by omega)) _)))
            refine wpQuiet_nil ?_
            rintro W' ⟨⟨_, hh⟩, rfl⟩
            clear hw1 hw2 hne
            have hA := hat1.out _ hh
            have hF := hfrz.out _ hh
            go_wp2_with fail
            all_goals
              have hfin := (hback.out _ hh).store (by omega) (by omega) (.bool false) (.int .u64 (dig0 (sm p k + (min p (f (k + 1)) - z) * y))) (.int .u64 (dig1 (sm p k + (min p (f (k + 1)) - z) * y))) (.int .u64 (dig2 (sm p k + (min p (f (k + 1)) - z) * y))) (.int .u64 (dig3 (sm p k + (min p (f (k + 1)) - z) * y)))
              obtain ⟨q1, q2, q3, q4⟩ := hfin
              rw [HS3.out] at q1 q2 q3 q4 ⊢
              generalize ((((W'.setCell ⟨w1.heap.size, 0, none⟩ (.bool false)).setCell ⟨w1.heap.size, 1, none⟩ (.int .u64 (dig0 (sm p (k + 1))))).setCell ⟨w1.heap.size, 2, none⟩ (.int .u64 (dig1 (sm p (k + 1))))).setCell ⟨w1.heap.size, 3, none⟩ (.int .u64 (dig2 (sm p (k + 1))))).setCell ⟨w1.heap.size, 4, none⟩ (.int .u64 (dig3 (sm p (k + 1)))) = WE at *
              have Q1 := Lib.hid q1; have Q2 := Lib.hid q2; have Q3 := Lib.hid q3
              clear q1 q2 q3
              go_wp2_with fail
              go_roundw
              case rel => exact ⟨k + 1, by omega, by go_num, Q1, Q2, Q3, q4⟩
              case measure => simp [intOf]; omega
      · have ek : k = len := by omega
        subst ek
        have hz0 : w.heap.size < wr.heap.size := by omega
        have HHd : Hid (HeldT w.heap.size w.heap.size w1.heap.size w1.heap.size #[.slice (some ⟨bb, off, none⟩) k cap, .int .i64 ded, .int .i64 cre, .int .i64 bp, .int .i64 most, .int .i64 least]
            #[.bool false, .int .u64 (dig0 (sm p k)), .int .u64 (dig1 (sm p k)), .int .u64 (dig2 (sm p k)), .int .u64 (dig3 (sm p k))] #[.bool false, .int .u64 (dig0 (sm p k)), .int .u64 (dig1 (sm p k)), .int .u64 (dig2 (sm p k)), .int .u64 (dig3 (sm p k))] 29 59 59 w wr) := Lib.hid ⟨HP.out, HO.out, HO.out, HB.out, by omega⟩
        go_wp2_with fail
        refine (wdiv_cells _ _ _ g1 (by omega) (by omega) (by omega)).mono ?_
        rintro e w2 ⟨rfl, hb2⟩
        have HH2 := Lib.hid (HHd.out.call hb2)
        clear hb2 e0 e1
        go_wp2_with fail
        refine (wtold_pos _ _ (by omega) (by omega)).mono ?_
        rintro e w3 ⟨rfl, hb3⟩
        have HH3 := Lib.hid ((HH2.out.alloc _).call hb3)
        have e0 : ∀ i, w3.cell? ⟨w.heap.size, i, none⟩ = (#[.slice (some ⟨bb, off, none⟩) k cap, .int .i64 ded, .int .i64 cre, .int .i64 bp, .int .i64 most, .int .i64 least] : Array Value)[i]? := own_cell HH3.out.1
        have HBX := Lib.hid HH3.out.2.2.2.1
        have hq : 0 ≤ sm p k / 10000 ∧ sm p k / 10000 ≤ 1125899906842624 := by omega
        clear hb3 HHd HH2 HH3
        generalize sm p k / 10000 = Q at *
        go_wp2_with fail
        go_ret2
        exact ⟨pair_of HRe.out, HBX.out⟩
end Go.Proofs.Ytcjkofgbijdkcaa
