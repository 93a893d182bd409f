/- Package rates: Tax. -/
import Derived.WalkKit
import Derived.Outline
import Derived.Lib.Hide
import Derived.Handy
import Derived.Deep.QuietTactic
import Derived.BigQuiet
import Derived.Test.YtcjkofgbijdkcaaRatesC
namespace Go.Proofs.Ytcjkofgbijdkcaa
open Go.RowKit

/-- how much of a part lies in bracket j -/
def seg (s : Sch) (p : Int) (j : Nat) : Int := max 0 ((if j + 1 = s.len then p else min p (s.f (j + 1))) - s.f j)
def sumTo (s : Sch) (p : Int) : Nat → Int
  | 0 => 0
  | n + 1 => sumTo s p n + seg s p n * s.b n
def taxR (s : Sch) (x : Int) : Int × Int := if s.right && isMon x then (max (sumTo s (max (x - s.ded) 0) s.len / 10000 - s.cre) 0, 0) else (0, 1)

theorem Sch.right_at {s : Sch} (h : s.right = true) : 1 ≤ s.len ∧ s.len ≤ 10 ∧ s.f 0 = 0 ∧ ∀ k, k < s.len → (0 ≤ s.f k ∧ s.f k ≤ 1125899906842624 ∧ (k = 0 ∨ s.f (k - 1) < s.f k) ∧ 0 ≤ s.b k ∧ s.b k ≤ 10000) := by
  simp only [Sch.right, Sch.heads, Bool.and_eq_true, decide_eq_true_eq] at h
  obtain ⟨⟨⟨h1, h2⟩, h3⟩, h4⟩ := h
  refine ⟨h1.1, h1.2.1, h3, fun k hk => ?_⟩
  have := h2 k hk
  simp only [Sch.okAt, Bool.and_eq_true, Bool.or_eq_true, decide_eq_true_eq, isMon_iff] at this
  omega

theorem quo_bd {i y : Int} (h0 : 0 ≤ i) (y0 : 0 ≤ y) (y1 : y ≤ 10000) : 0 ≤ i / 10000 * y ∧ i / 10000 * y ≤ i ∧ 0 ≤ i % 10000 * y ∧ i % 10000 * y ≤ 99990000 ∧ i / 10000 * y * 10000 + i % 10000 * y = i * y := by
  have a1 : 0 ≤ i / 10000 := by omega
  have a2 : 0 ≤ i % 10000 ∧ i % 10000 ≤ 9999 := by omega
  have b1 := Int.mul_le_mul_of_nonneg_left y1 a1
  have b2 := Int.mul_le_mul a2.2 y1 y0 (by omega)
  refine ⟨Int.mul_nonneg a1 y0, by omega, Int.mul_nonneg a2.1 y0, by omega, ?_⟩
  have e : i = i / 10000 * 10000 + i % 10000 := by omega
  calc i / 10000 * y * 10000 + i % 10000 * y = (i / 10000 * 10000 + i % 10000) * y := by rw [Int.add_mul, Int.mul_right_comm]
    _ = i * y := by rw [← e]

set_option maxRecDepth 100000 in
set_option maxHeartbeats 1000000 in
theorem tax_any (s : Sch) (x : Int) (w : World) (hi : s.In w) (x1 : i64 x) :
    Calls Try.prog 27 #[s.val, .int .i64 x] w fun e w' => e = Pair (taxR s x) ∧ Below w.heap.size w w' := by
  have ht := taxed_any s x
  simp only [Sch.val] at ht ⊢
  have HIn : Hid (∀ w', Below w.heap.size w w' → s.In w') := Lib.hid (fun w' hb => hi.below hb (Nat.le_refl _))
  have hb0 : Below w.heap.size w (w.alloc (.cells #[.slice s.A s.len s.cap, .int .i64 s.ded, .int .i64 s.cre, .int .i64 s.bp, .int .i64 s.most, .int .i64 s.least] 29)) := (Below.refl _ _).alloc (Nat.le_refl _) _
  have hin := HIn.out _ hb0
  have ho0 : Own (w.alloc (.cells #[.slice s.A s.len s.cap, .int .i64 s.ded, .int .i64 s.cre, .int .i64 s.bp, .int .i64 s.most, .int .i64 s.least] 29)) w.heap.size #[.slice s.A s.len s.cap, .int .i64 s.ded, .int .i64 s.cre, .int .i64 s.bp, .int .i64 s.most, .int .i64 s.least] 29 := own_new _ _ _
  have hs0 : w.heap.size < (w.alloc (.cells #[.slice s.A s.len s.cap, .int .i64 s.ded, .int .i64 s.cre, .int .i64 s.bp, .int .i64 s.most, .int .i64 s.least] 29)).heap.size := by simp
  have HB0 := Lib.hid hb0; have HI0 := Lib.hid hin; have HO0 := Lib.hid ho0; have HTX := Lib.hid ht
  have HSI := Lib.hid hi
  clear hb0 hin ho0 ht hi
  go_enter Try.func27, Try.ntmps27
  go_wp2_with fail
  generalize w.alloc (.cells #[.slice s.A s.len s.cap, .int .i64 s.ded, .int .i64 s.cre, .int .i64 s.bp, .int .i64 s.most, .int .i64 s.least] 29) = W0 at *
  refine (HTX.out _ HI0.out x1).mono ?_
  rintro e w1 ⟨rfl, hb1⟩
  have hs1 := hb1.size
  have ho1 : Own w1 w.heap.size #[.slice s.A s.len s.cap, .int .i64 s.ded, .int .i64 s.cre, .int .i64 s.bp, .int .i64 s.most, .int .i64 s.least] 29 := own_below HO0.out hb1 hs0
  have hbl : Below w.heap.size w w1 := HB0.out.trans (hb1.mono (by omega))
  have HO1 := Lib.hid ho1; have HBL := Lib.hid hbl
  clear hb1 ho1 hbl HB0 HI0 HO0 HTX
  unfold Pair
  cases hz : (s.right && isMon x) with
  | false =>
    have ha : taxedR s x = (0, 1) := by simp [taxedR, hz]
    have hr : taxR s x = (0, 1) := by simp [taxR, hz]
    rw [ha]
    have HRe := Lib.hid hr
    clear ha hr hz
    go_wp2_with fail
    go_ret2
    exact ⟨pair_of HRe.out, HBL.out⟩
  | true =>
    have ha : taxedR s x = (max (x - s.ded) 0, 0) := by simp [taxedR, hz]
    have hr : taxR s x = (max (sumTo s (max (x - s.ded) 0) s.len / 10000 - s.cre) 0, 0) := by simp [taxR, hz]
    rw [ha]
    obtain ⟨hr1, hm⟩ := (Bool.and_eq_true _ _).mp hz
    obtain ⟨n1, n2, f0, hfk⟩ := Sch.right_at hr1
    obtain ⟨d1, d2, c1, c2, _⟩ := Sch.right_ded hr1
    obtain ⟨x3, x4⟩ := isMon_iff.1 hm
    obtain ⟨bb, off, hA, hbb, hcell⟩ := HSI.out.ints.2.1 (by omega)
    have HF : Hid (∀ k, k < s.len → w.cell? ⟨bb, off + k * 2, none⟩ = some (.int .i64 (s.f k)) ∧ w.cell? ⟨bb, off + k * 2 + 1, none⟩ = some (.int .i64 (s.b k)) ∧ 0 ≤ s.f k ∧ s.f k ≤ 1125899906842624 ∧ (k = 0 ∨ s.f (k - 1) < s.f k) ∧ 0 ≤ s.b k ∧ s.b k ≤ 10000) := Lib.hid (fun k hk =>
      ⟨hcell (k * 2) (by omega), hcell (k * 2 + 1) (by omega), hfk k hk⟩)
    have hp0 : 0 ≤ max (x - s.ded) 0 ∧ max (x - s.ded) 0 ≤ 1125899906842624 := by omega
    have HS : Hid (∀ p k, sumTo s p (k + 1) = sumTo s p k + (max 0 ((if k + 1 = s.len then p else min p (s.f (k + 1))) - s.f k)) * s.b k) := Lib.hid (fun p k => rfl)
    have HS0 : Hid (∀ p, sumTo s p 0 = 0) := Lib.hid (fun p => rfl)
    have HRe := Lib.hid hr
    have HF0 := Lib.hid f0
    clear ha hr hz hr1 hfk hcell f0 HSI HIn hm
    have e1 : ∀ i, w1.cell? ⟨w.heap.size, i, none⟩ = (#[.slice s.A s.len s.cap, .int .i64 s.ded, .int .i64 s.cre, .int .i64 s.bp, .int .i64 s.most, .int .i64 s.least] : Array Value)[i]? := own_cell HO1.out
    generalize max (x - s.ded) 0 = p at *
    generalize s.A = A at *
    generalize s.len = len at *
    generalize s.cap = cap at *
    generalize s.ded = ded at *
    generalize s.cre = cre at *
    generalize s.bp = bp at *
    generalize s.most = most at *
    generalize s.least = least at *
    generalize s.f = f at *
    generalize s.b = b at *
    generalize sumTo s = sm at *
    subst hA
    go_wp2_with fail
    clear e1
    have hw1 : w.heap.size < w1.heap.size := by omega
    go_loopw [8, 9, 6, 10] (fun vu vv vl vi wr => ∃ (k : Nat) (u v l : Int), k ≤ len ∧ vi = .int .i64 (k - 1) ∧ vu = .int .i64 u ∧ vv = .int .i64 v ∧ vl = .int .i64 l ∧ 0 ≤ u ∧ u ≤ p - l ∧ 0 ≤ l ∧ 0 ≤ v ∧ v ≤ 99990000 * (len - k) ∧
      Hid (l = if k = len then p else min p (f k)) ∧ Hid (u * 10000 + v = sm p len - sm p k) ∧ Hid (Below w.heap.size w wr) ∧ Hid (Own wr w.heap.size #[.slice (some ⟨bb, off, none⟩) len cap, .int .i64 ded, .int .i64 cre, .int .i64 bp, .int .i64 most, .int .i64 least] 29) ∧ w.heap.size < wr.heap.size) (fun _ _ _ vi _ => (intOf vi + 1).toNat)
    case atStart => exact ⟨len, 0, 0, p, by omega, rfl, rfl, rfl, rfl, by omega, by omega, by omega, by omega, by omega, Lib.hid (by rw [if_pos rfl]), Lib.hid (by omega), HBL, HO1, hw1⟩
    case round =>
      obtain ⟨k, u, v, l, hk, rfl, rfl, rfl, rfl, u1, u2, l1, v1, v2, HL, HU, HB, HO, hsz⟩ := hrel
      have e0 : ∀ i, wr.cell? ⟨w.heap.size, i, none⟩ = (#[.slice (some ⟨bb, off, none⟩) len cap, .int .i64 ded, .int .i64 cre, .int .i64 bp, .int .i64 most, .int .i64 least] : Array Value)[i]? := own_cell HO.out
      rcases Nat.eq_zero_or_pos k with hk0 | hk0
      · subst hk0
        have hfin : sm p len / 10000 = u + v / 10000 := by
          have := HU.out
          rw [HS0.out] at this
          omega
        have HFin := Lib.hid hfin
        clear hfin
        go_wp2_with fail
        go_ret2
        exact ⟨pair_of (by rw [HRe.out, HFin.out]), HB.out⟩
      · obtain ⟨j, rfl⟩ : ∃ j, k = j + 1 := ⟨k - 1, by omega⟩
        obtain ⟨e1, e2, x5, x6, _, y1, y2⟩ := HF.out j (by omega)
        have hord : j + 1 < len → f j < f (j + 1) := fun g => by
          obtain ⟨_, _, _, _, h5, _, _⟩ := HF.out (j + 1) g
          rcases h5 with h5 | h5
          · omega
          · simpa using h5
        have e3 : wr.cell? ⟨bb, off + j * 2, none⟩ = some (.int .i64 (f j)) := (HB.out.cell (p := ⟨bb, off + j * 2, none⟩) hbb).trans e1
        have e4 : wr.cell? ⟨bb, off + j * 2 + 1, none⟩ = some (.int .i64 (b j)) := (HB.out.cell (p := ⟨bb, off + j * 2 + 1, none⟩) hbb).trans e2
        have hsum := HS.out p j
        have hll := HL.out
        have hseg : (max 0 ((if j + 1 = len then p else min p (f (j + 1))) - f j)) = max 0 (l - f j) := by rw [hll]
        rw [hseg] at hsum
        have hnew : min l (f j) = if j = len then p else min p (f j) := by
          rw [if_neg (by omega), hll]
          by_cases g : j + 1 = len
          · rw [if_pos g]
          · rw [if_neg g]; have := hord (by omega); omega
        have HSum := Lib.hid hsum
        have HNew := Lib.hid hnew
        have ej : ((j + 1 : Nat) : Int) - 1 = j := by push_cast; omega
        rw [ej]
        have v3 : v ≤ 99990000 * (len - j) - 99990000 := by push_cast at v2; omega
        have hbl : Below w.heap.size w (wr.alloc (.cells #[.int .i64 (f j), .int .i64 (b j)] 68)) := HB.out.alloc (by omega) _
        have hown : Own (wr.alloc (.cells #[.int .i64 (f j), .int .i64 (b j)] 68)) w.heap.size #[.slice (some ⟨bb, off, none⟩) len cap, .int .i64 ded, .int .i64 cre, .int .i64 bp, .int .i64 most, .int .i64 least] 29 := own_alloc HO.out _
        have HBL2 := Lib.hid hbl
        have HOWN := Lib.hid hown
        clear hsum hnew hseg hll hord e1 e2 ej v2 hbl hown
        generalize hfx : f j = z at *
        generalize hby : b j = y at *
        by_cases c : l ≤ z
        · have hs2 : sm p (j + 1) = sm p j := by
            rw [HSum.out, show max 0 (l - z) = 0 by omega, Int.zero_mul]; omega
          have HS2 := Lib.hid hs2
          clear hs2
          go_wp2_with fail
          go_roundw
          case rel => exact ⟨j, u, v, l, by omega, by go_num, rfl, rfl, rfl, by omega, by omega, by omega, by omega, by omega, Lib.hid (by rw [hfx, ← HNew.out]; omega), Lib.hid (by rw [← HS2.out]; exact HU.out), HBL2, HOWN, by simp; omega⟩
          case measure => simp [intOf]
        · have hq := quo_bd (i := l - z) (y := y) (by omega) y1 y2
          obtain ⟨g1, g2, g3, g4, g5⟩ := hq
          have hs2 : sm p (j + 1) = sm p j + (l - z) * y := by
            rw [HSum.out, show max 0 (l - z) = l - z by omega]
          have HS2 := Lib.hid hs2
          have G5 := Lib.hid g5
          have G6 : Hid (∀ a c, a = (l - z) / 10000 * y → c = (l - z) % 10000 * y → (u + a) * 10000 + (v + c) = sm p len - sm p j) := Lib.hid (fun a c ha hc => by
            rw [← ha, ← hc] at g5
            have := HU.out
            rw [hs2] at this
            omega)
          clear g5 hs2
          go_wp2_with fail
          go_quiet (fail)
          go_wp2_with fail
          go_roundw
          case rel => exact ⟨j, u + (l - z) / 10000 * y, v + (l - z) % 10000 * y, z, by omega, by go_num, rfl, rfl, rfl, by omega, by omega, by omega, by omega, by omega, Lib.hid (by rw [hfx, ← HNew.out]; omega), Lib.hid (G6.out _ _ rfl rfl), Lib.hid (below_drewN HBL2.out _), Lib.hid (own_drewN HOWN.out _), by simp; omega⟩
          case measure => simp [intOf]
end Go.Proofs.Ytcjkofgbijdkcaa
