/- Package tallageref16: Bill, of any schedule and return. -/
import Derived.WalkKit
import Derived.Outline
import Derived.Lib.Hide
import Derived.Handy
import Derived.Deep.QuietTactic
import Derived.BigQuiet
import Derived.Deep.RegionHeld3
import Derived.Deep.DeepCutAuto
import Derived.Test.YtcjkofgbijdkcaaRef15T
import Derived.Test.YtcjkofgbijdkcaaAsLawS
namespace Go.Proofs.Ytcjkofgbijdkcaa
open Go.RowKit

theorem wdiv_wide (n c : Int) (w : World) (n0 : 0 ≤ n) (n1 : n < 340282366920938463463374607431768211456) (c0 : 1 ≤ c) (c1 : c ≤ 4611686018427387904) :
    Calls Try.prog 34 #[Wide false n, .int .i64 c] w fun e w' =>
      e = .returned (.tuple #[.agg #[.bool false, .int .u64 (dig0 (n / c)), .int .u64 (dig1 (n / c)), .int .u64 (dig2 (n / c)), .int .u64 (dig3 (n / c))], .int .i64 (n % c)]) ∧ Below w.heap.size w w' := wdiv_cells n c w n0 n1 c0 c1
theorem keep3 {W : World} {g g0 g2 i j k : Nat} {x y z : Value} (hS : W.cell? ⟨g2, i, none⟩ = some x ∧ W.cell? ⟨g0, j, none⟩ = some y ∧ W.cell? ⟨g0, k, none⟩ = some z) (h0 : g ≠ g0) (h2 : g ≠ g2) (v0 v1 v2 v3 v4 : Value) :
    (((((W.setCell ⟨g, 0, none⟩ v0).setCell ⟨g, 1, none⟩ v1).setCell ⟨g, 2, none⟩ v2).setCell ⟨g, 3, none⟩ v3).setCell ⟨g, 4, none⟩ v4).cell? ⟨g2, i, none⟩ = some x ∧
    (((((W.setCell ⟨g, 0, none⟩ v0).setCell ⟨g, 1, none⟩ v1).setCell ⟨g, 2, none⟩ v2).setCell ⟨g, 3, none⟩ v3).setCell ⟨g, 4, none⟩ v4).cell? ⟨g0, j, none⟩ = some y ∧
    (((((W.setCell ⟨g, 0, none⟩ v0).setCell ⟨g, 1, none⟩ v1).setCell ⟨g, 2, none⟩ v2).setCell ⟨g, 3, none⟩ v3).setCell ⟨g, 4, none⟩ v4).cell? ⟨g0, k, none⟩ = some z := by
  refine ⟨?_, ?_, ?_⟩
  · rw [World.cell?_setCell_far _ _ _ _ h2, World.cell?_setCell_far _ _ _ _ h2, World.cell?_setCell_far _ _ _ _ h2, World.cell?_setCell_far _ _ _ _ h2, World.cell?_setCell_far _ _ _ _ h2]; exact hS.1
  · rw [World.cell?_setCell_far _ _ _ _ h0, World.cell?_setCell_far _ _ _ _ h0, World.cell?_setCell_far _ _ _ _ h0, World.cell?_setCell_far _ _ _ _ h0, World.cell?_setCell_far _ _ _ _ h0]; exact hS.2.1
  · rw [World.cell?_setCell_far _ _ _ _ h0, World.cell?_setCell_far _ _ _ _ h0, World.cell?_setCell_far _ _ _ _ h0, World.cell?_setCell_far _ _ _ _ h0, World.cell?_setCell_far _ _ _ _ h0]; exact hS.2.2
/-- a wide number's block, laid and not yet written -/
def Fresh (W : World) (g : Nat) : Prop := Own W g #[.bool false, .int .u64 0, .int .u64 0, .int .u64 0, .int .u64 0] 59 ∧ ((∀ i, W.cell? ⟨g, i, none⟩ = (#[.bool false, .int .u64 0, .int .u64 0, .int .u64 0, .int .u64 0] : Array Value)[i]?) ∧ ∀ i, W.frozen? ⟨g, i, none⟩ = false)
theorem held_fresh {B g0 g1 g2 g : Nat} {c0 c1 c2 cs : Array Value} {t0 t1 t2 t : TypeId} {w W : World} (h : HeldT B g0 g1 g2 c0 c1 c2 t0 t1 t2 w W) (hB : B ≤ g) (h0 : g0 ≠ g) (h1 : g1 ≠ g) (h2 : g2 ≠ g) (v0 v1 v2 v3 v4 : Value) :
    HeldT B g0 g1 g2 c0 c1 c2 t0 t1 t2 w (((((W.setCell ⟨g, 0, none⟩ v0).setCell ⟨g, 1, none⟩ v1).setCell ⟨g, 2, none⟩ v2).setCell ⟨g, 3, none⟩ v3).setCell ⟨g, 4, none⟩ v4) :=
  ⟨own_far (own_far (own_far (own_far (own_far h.1 h0 0 v0) h0 1 v1) h0 2 v2) h0 3 v3) h0 4 v4, own_far (own_far (own_far (own_far (own_far h.2.1 h1 0 v0) h1 1 v1) h1 2 v2) h1 3 v3) h1 4 v4,
    own_far (own_far (own_far (own_far (own_far h.2.2.1 h2 0 v0) h2 1 v1) h2 2 v2) h2 3 v3) h2 4 v4, ((((h.2.2.2.1.setCell hB v0).setCell hB v1).setCell hB v2).setCell hB v3).setCell hB v4, by simpa using h.2.2.2.2⟩
theorem Fresh.call {W W' : World} {g : Nat} (h : Fresh W g) (hb : Below W.heap.size W W') : Fresh W' g := ⟨own_below h.1 hb (own_lt h.1), own_cell (own_below h.1 hb (own_lt h.1)), own_frz (own_below h.1 hb (own_lt h.1))⟩
theorem new_call {B : Nat} {V V' : World} (hb : Below B (V.alloc (.cells #[.bool false, .int .u64 0, .int .u64 0, .int .u64 0, .int .u64 0] 59)) V') (hB : V.heap.size < B) : Fresh V' V.heap.size :=
  ⟨own_below (own_new _ _ _) hb hB, own_cell (own_below (own_new _ _ _) hb hB), own_frz (own_below (own_new _ _ _) hb hB)⟩
theorem new_drew {B : Nat} {V V' : World} (hb : Below B (V.alloc (.cells #[.bool false, .int .u64 0, .int .u64 0, .int .u64 0, .int .u64 0] 59)).drew V') (hB : V.heap.size < B) : Fresh V' V.heap.size :=
  ⟨own_below (own_drew (own_new _ _ _)) hb hB, own_cell (own_below (own_drew (own_new _ _ _)) hb hB), own_frz (own_below (own_drew (own_new _ _ _)) hb hB)⟩

theorem own_call {V V' : World} {b : Nat} {cs : Array Value} {t : TypeId} (h : Own V b cs t) (hb : Below V.heap.size V V') : Own V' b cs t := own_below h hb (own_lt h)
/-- a new wide number -/
abbrev wide0 : Array Value := #[.bool false, .int .u64 0, .int .u64 0, .int .u64 0, .int .u64 0]
/-- a product's part, by wide numbers, each step's value behind a name -/
theorem share_pos (a x c : Int) (a1 : 0 ≤ a) (a2 : a ≤ 9223372036854775807) (x1 : 0 ≤ x) (x2 : x ≤ 9223372036854775807) (c1 : 1 ≤ c) (c2 : c ≤ 4611686018427387904) (hm : 0 ≤ a * x) (hm2 : a * x < 340282366920938463463374607431768211456) (hq0 : 0 ≤ a * x / c) (hq : a * x / c ≤ 4611686018427387904) :
    ∃ (va vx vp : Value) (d0 d1 d2 d3 : Int),
      (∀ W, Calls Try.prog 32 #[.int .i64 a] W fun e w' => e = .returned va ∧ Below W.heap.size W w') ∧
      (∀ W, Calls Try.prog 32 #[.int .i64 x] W fun e w' => e = .returned vx ∧ Below W.heap.size W w') ∧
      (∀ W, Calls Try.prog 33 #[va, vx] W fun e w' => e = .returned vp ∧ Below W.heap.size W w') ∧
      (∀ W, Calls Try.prog 34 #[vp, .int .i64 c] W fun e w' => e = .returned (.tuple #[.agg #[.bool false, .int .u64 d0, .int .u64 d1, .int .u64 d2, .int .u64 d3], .int .i64 (a * x % c)]) ∧ Below W.heap.size W w') ∧
      (∀ W, Calls Try.prog 35 #[.agg #[.bool false, .int .u64 d0, .int .u64 d1, .int .u64 d2, .int .u64 d3]] W fun e w' => e = .returned (.tuple #[.int .i64 (a * x / c), .int .i64 0]) ∧ Below W.heap.size W w') :=
  ⟨Wide false a, Wide false x, Wide false (a * x), dig0 (a * x / c), dig1 (a * x / c), dig2 (a * x / c), dig3 (a * x / c), fun W => of_pos a W a1 a2, fun W => of_pos x W x1 x2, fun W => wmul_pos a x W a1 (by omega) x1 (by omega), fun W => wdiv_wide (a * x) c W hm hm2 c1 c2, fun W => wtold_pos (a * x / c) W hq0 hq⟩

set_option maxRecDepth 100000 in
set_option maxHeartbeats 60000000 in
theorem r16bill_any (s : Sch) (r : Ret) (w : World) (hs : s.In w) (hr : r.In) :
    Calls Try.prog 14 #[s.val, r.val] w fun e w' => e = .returned (billR s r).val ∧ Below w.heap.size w w' := by
  have HT := Lib.hid (fun W (h : s.In W) => r15tax_any s r.inc W h hr.inc)
  have HRt := Lib.hid (fun W => r16right_any r W hr)
  have HI := Lib.hid hs
  have HRI := Lib.hid hr
  have hwit := hr.wit
  have hfil := hr.fil
  have hdue := hr.due
  have HBI : Hid (billR s r = if s.right && r.right then ⟨(taxR s r.inc).1, max ((taxR s r.inc).1 - r.wit) 0, penR s (max ((taxR s r.inc).1 - r.wit) 0) (lateF r.due r.fil), max (r.wit - (taxR s r.inc).1) 0, 0⟩ else ⟨0, 0, 0, 0, 1⟩) := Lib.hid rfl
  have HTB := Lib.hid (@tax_bd s r.inc)
  have HRR := Lib.hid (@Ret.right_iff r)
  have HF := Lib.hid (fun W (a : isDy r.due = true) (b : isDy r.fil = true) => r16few_any r.due r.fil W a b)
  simp only [Sch.val, Ret.val, i64] at *
  clear hs hr
  go_enter Try.func14, Try.ntmps14
  go_wp2_with fail
  have HH0 : Hid (HeldT w.heap.size w.heap.size (w.heap.size + 1) (w.heap.size + 1 + 1) #[.slice s.A s.len s.cap, .int .i64 s.ded, .int .i64 s.cre, .int .i64 s.bp, .int .i64 s.most, .int .i64 s.least] #[.int .i64 r.per, .int .i64 r.due, .int .i64 r.fil, .int .i64 r.inc, .int .i64 r.wit] #[.int .i64 0, .int .i64 0, .int .i64 0, .int .i64 0] 29 31 33 w (((w.alloc (.cells #[.slice s.A s.len s.cap, .int .i64 s.ded, .int .i64 s.cre, .int .i64 s.bp, .int .i64 s.most, .int .i64 s.least] 29)).alloc (.cells #[.int .i64 r.per, .int .i64 r.due, .int .i64 r.fil, .int .i64 r.inc, .int .i64 r.wit] 31)).alloc (.cells #[.int .i64 0, .int .i64 0, .int .i64 0, .int .i64 0] 33))) :=
    Lib.hid ⟨own_alloc (own_alloc (own_new _ _ _) _) _, own_alloc (own_new_at _ _ _ _ (by simp)) _, own_new_at _ _ _ _ (by simp), (((Below.refl _ _).alloc (Nat.le_refl _) _).alloc (by simp) _).alloc (by simp; omega) _, by simp; omega⟩
  generalize ((w.alloc (.cells #[.slice s.A s.len s.cap, .int .i64 s.ded, .int .i64 s.cre, .int .i64 s.bp, .int .i64 s.most, .int .i64 s.least] 29)).alloc (.cells #[.int .i64 r.per, .int .i64 r.due, .int .i64 r.fil, .int .i64 r.inc, .int .i64 r.wit] 31)).alloc (.cells #[.int .i64 0, .int .i64 0, .int .i64 0, .int .i64 0] 33) = W0 at *
  refine (HRt.out _).mono ?_
  rintro e w1 ⟨rfl, hb1⟩
  have HH1 := Lib.hid (HH0.out.call hb1)
  have e0 := own_cell HH1.out.1
  have e1 := HH1.out.at1
  have e2 := HH1.out.at2
  have hz0 := own_lt HH1.out.1
  have hz1 := own_lt HH1.out.2.1
  have hz2 := own_lt HH1.out.2.2.1
  clear hb1
  go_wp2_with fail
  refine (HT.out _ (HI.out.below HH1.out.2.2.2.1 (Nat.le_refl _))).mono ?_
  rintro e w2 ⟨rfl, hb2⟩
  have HH2 := Lib.hid (HH1.out.call hb2)
  clear e0 e1 e2 hz0 hz1 hz2
  have e0 := own_cell HH2.out.1
  have e1 := HH2.out.at1
  have e2 := HH2.out.at2
  have ez := own_frz HH2.out.2.2.1
  have hz0 := own_lt HH2.out.1
  have hz1 := own_lt HH2.out.2.1
  have hz2 := own_lt HH2.out.2.2.1
  have HB2 := Lib.hid HH2.out.2.2.2.1
  clear hb2
  unfold Pair
  have htb := HTB.out
  generalize taxR s r.inc = T at *
  obtain ⟨t, te⟩ := T
  simp only [] at htb HBI ⊢
  obtain ⟨t1, t2, t3⟩ := htb
  cases hrr : r.right with
  | false =>
    have HBE : Hid (billR s r = ⟨0, 0, 0, 0, 1⟩) := Lib.hid (by rw [HBI.out, hrr]; simp)
    clear hrr t3
    go_wp2_with fail
    refine bodyPost_ret (v := Bil.val ⟨0, 0, 0, 0, 1⟩) (by simp [results, Try.results14, go_sem, Bil.val, e2, hz2]) rfl ⟨by rw [HBE.out], ?_⟩
    repeat' (first | (with_reducible exact HB2.out) | (with_reducible refine below_drewN ?_ _) | (with_reducible refine Below.setCell ?_ ?_ _) | (with_reducible refine Below.alloc ?_ ?_ _) | (simp; done) | (simp; omega))
  | true =>
    by_cases ce : te = 0
    · have hsr := t3.1 ce
      obtain ⟨hsr, hm⟩ := (Bool.and_eq_true _ _).mp hsr
      have HSR := Lib.hid hsr
      have HBE : Hid (billR s r = ⟨t, max (t - r.wit) 0, penR s (max (t - r.wit) 0) (lateF r.due r.fil), max (r.wit - t) 0, 0⟩) := Lib.hid (by rw [HBI.out, hrr, hsr]; simp)
      obtain ⟨_, ⟨hdd, hdf⟩, _, hw⟩ := HRR.out.1 hrr
      have HDD := Lib.hid hdd; have HDF := Lib.hid hdf
      have hdu := isDy_iff.1 hdd
      have hdx := isDy_iff.1 hdf
      have hlb := lateF_bd r.due r.fil hdd hdf
      clear hsr hm t3 hrr hdd hdf HBI
      subst ce
      have hP : 0 ≤ max (t - r.wit) 0 ∧ max (t - r.wit) 0 ≤ 1125899906842624 := by omega
      by_cases cP : 0 < max (t - r.wit) 0 ∧ r.due < r.fil
      · obtain ⟨cp, cl⟩ := cP
        obtain ⟨h1, h2, h3, h4, h5, h6⟩ := Sch.heads_iff.1 (show s.heads = true by have := HSR.out; simp only [Sch.right, Bool.and_eq_true] at this; exact this.1.1.1)
        have hL : 0 < lateF r.due r.fil := hlb.2.2.2 cl
        have hld := Sch.right_ded HSR.out
        have HPen : Hid (penR s (max (t - r.wit) 0) (lateF r.due r.fil) = min (max (max (t - r.wit) 0 * (s.bp * min (lateF r.due r.fil) s.most) / 10000) s.least) (max (t - r.wit) 0)) := Lib.hid (by unfold penR; rw [if_pos ⟨cp, hL⟩])
        have hrb := rate_bd h3 h4 h5 h6 (show 0 ≤ lateF r.due r.fil by omega)
        have hmp := mulDivR_pen hP.1 hP.2 hrb.1 hrb.2
        have hmin : min (min (min (lateF r.due r.fil) 61) 61) s.most = min (lateF r.due r.fil) s.most := by omega
        have HMin := Lib.hid hmin
        have cp' : 0 < t - r.wit := by omega
        have HFe := Lib.hid (fun W => HF.out W HDD.out HDF.out)
        clear hmin
        go_upto_region 8 with fail
        have hX : 0 ≤ max (r.wit - t) 0 ∧ max (r.wit - t) 0 ≤ 1125899906842624 := by omega
        have hpq := hmp.2
        have hm2 : min (min (lateF r.due r.fil) 61) s.most = min (lateF r.due r.fil) s.most := by omega
        have hfe2 : ∀ W, Calls Try.prog 31 #[.int .i64 r.due, .int .i64 r.fil] W fun e W' => e = .returned (.int .i64 (min (lateF r.due r.fil) 61)) ∧ W = W' := HFe.out
        have hl61 : 0 < min (lateF r.due r.fil) 61 ∧ min (lateF r.due r.fil) 61 ≤ 61 := by omega
        generalize hPP : max (t - r.wit) 0 = P at *
        generalize hXX : max (r.wit - t) 0 = X at *
        clear hPP hXX hmp cp'
        generalize lateF r.due r.fil = L at *
        rw [← hm2] at hrb hpq HPen
        generalize min L 61 = L6 at *
        generalize hmm : min L6 s.most = m at *
        obtain ⟨R, hR⟩ : ∃ R, R = s.bp * m := ⟨_, rfl⟩
        rw [← hR] at hrb hpq HPen
        have hwr : IntKind.i64.wrap (s.bp * m) = R := by rw [IntKind.wrap_i64, ← hR]; omega
        have hwr2 : IntKind.i64.wrap R = R := by rw [IntKind.wrap_i64]; omega
        clear hR
        have hpr0 := Int.mul_nonneg hP.1 hrb.1
        have hpr1 : P * R < 340282366920938463463374607431768211456 := by omega
        have hp0 := hP.1
        have hp1 : P ≤ 9223372036854775807 := by omega
        have hp2 : P < 18446744073709551616 := by omega
        have hq0 := hrb.1
        have hq1 : R ≤ 9223372036854775807 := by omega
        have hq2 : R < 18446744073709551616 := by omega
        have hhe : HeldT w.heap.size w.heap.size (w.heap.size + 1 + 1) w2.heap.size #[.slice s.A s.len s.cap, .int .i64 s.ded, .int .i64 s.cre, .int .i64 s.bp, .int .i64 s.most, .int .i64 s.least] #[.int .i64 0, .int .i64 0, .int .i64 0, .int .i64 0] #[.int .i64 t, .int .i64 P, .int .i64 0, .int .i64 X] 29 33 33 w (w2.alloc (.cells #[.int .i64 t, .int .i64 P, .int .i64 0, .int .i64 X] 33)) :=
          ⟨own_alloc HH2.out.1 _, own_alloc HH2.out.2.2.1 _, own_new _ _ _, HB2.out.alloc (by omega) _, by simp; omega⟩
        have hww : w2.heap.size < (w2.alloc (.cells #[.int .i64 t, .int .i64 P, .int .i64 0, .int .i64 X] 33)).heap.size := by simp
        have f1 : (w2.alloc (.cells #[.int .i64 t, .int .i64 P, .int .i64 0, .int .i64 X] 33)).cell? ⟨w.heap.size + 1, 1, none⟩ = some (.int .i64 r.due) := own_cell (own_alloc HH2.out.2.1 _) 1
        have f2 : (w2.alloc (.cells #[.int .i64 t, .int .i64 P, .int .i64 0, .int .i64 X] 33)).cell? ⟨w.heap.size + 1, 2, none⟩ = some (.int .i64 r.fil) := own_cell (own_alloc HH2.out.2.1 _) 2
        clear hm2 HMin HH0 HH1 HH2 HB2 e0 e1 e2 ez HF HFe HRR HTB HT HRt HI HRI hwit hfil hdue hdu hdx hlb hz1 hP hrb hL cp cl h1 h2 h3 h4 h5 h6 HSR HDD HDF
        generalize w2.alloc (.cells #[.int .i64 t, .int .i64 P, .int .i64 0, .int .i64 X] 33) = WB at *
        have HF2 := Lib.hid hfe2
        have HWW := Lib.hid hww
        clear hfe2
        go_cut [10] (fun s10 wx => s10 = .int .i64 L6 ∧ wx = WB)
        case first =>
          go_wp2_with fail
          refine (HF2.out _).mono ?_
          rintro e w3 ⟨rfl, rfl⟩
          have hmn : min L6 61 = L6 := by omega
          go_wp2_with fail
          go_meet
          exact ⟨rfl, rfl⟩
        obtain ⟨rfl, rfl⟩ := hcut
        clear f1 f2 HF2
        go_upto_region 10 with fail
        have hww := HWW.out
        have e0 : wc.cell? ⟨w.heap.size, 3, none⟩ = some (.int .i64 s.bp) := own_cell hhe.1 3
        have e1 : wc.cell? ⟨w.heap.size, 4, none⟩ = some (.int .i64 s.most) := own_cell hhe.1 4
        have e2 : wc.cell? ⟨w2.heap.size, 1, none⟩ = some (.int .i64 P) := hhe.at2 1
        obtain ⟨va, vx, vp, d0, d1, d2, d3, c1, c2, c3, c4, c5⟩ := share_pos P R 10000 hp0 hp1 hq0 hq1 (by decide) (by decide) hpr0 hpr1 hpq.1 (by have := hpq.2; omega)
        have HOa := Lib.hid c1; have HOx := Lib.hid c2; have HMu := Lib.hid c3; have HDi := Lib.hid c4; have HTo := Lib.hid c5
        clear c1 c2 c3 c4 c5
        obtain ⟨Held, hh0, hcall, hdrew, hall, hat, hlt, hset, hback⟩ : ∃ Held : World → Prop, Held wc ∧ Hid (∀ W W', Held W → Below W.heap.size W W' → Held W') ∧ Hid (∀ W, Held W → Held W.drew) ∧ Hid (∀ W o, Held W → Held (W.alloc o)) ∧
            Hid (∀ W, Held W → (W.cell? ⟨w2.heap.size, 1, none⟩ = some (.int .i64 P) ∧ W.cell? ⟨w.heap.size, 3, none⟩ = some (.int .i64 s.bp) ∧ W.cell? ⟨w.heap.size, 4, none⟩ = some (.int .i64 s.most))) ∧ Hid (∀ W, Held W → wc.heap.size ≤ W.heap.size) ∧
            Hid (∀ W c v0 v1 v2 v3 v4, Held W → wc.heap.size ≤ c → Held (((((W.setCell ⟨c, 0, none⟩ v0).setCell ⟨c, 1, none⟩ v1).setCell ⟨c, 2, none⟩ v2).setCell ⟨c, 3, none⟩ v3).setCell ⟨c, 4, none⟩ v4)) ∧
            Hid (∀ W, Held W → HeldT w.heap.size w.heap.size (w.heap.size + 1 + 1) w2.heap.size #[.slice s.A s.len s.cap, .int .i64 s.ded, .int .i64 s.cre, .int .i64 s.bp, .int .i64 s.most, .int .i64 s.least] #[.int .i64 0, .int .i64 0, .int .i64 0, .int .i64 0] #[.int .i64 t, .int .i64 P, .int .i64 0, .int .i64 X] 29 33 33 w W) :=
          ⟨fun W => HeldT w.heap.size w.heap.size (w.heap.size + 1 + 1) w2.heap.size #[.slice s.A s.len s.cap, .int .i64 s.ded, .int .i64 s.cre, .int .i64 s.bp, .int .i64 s.most, .int .i64 s.least] #[.int .i64 0, .int .i64 0, .int .i64 0, .int .i64 0] #[.int .i64 t, .int .i64 P, .int .i64 0, .int .i64 X] 29 33 33 w W ∧ wc.heap.size ≤ W.heap.size, ⟨hhe, Nat.le_refl _⟩, Lib.hid (fun W W' h hb => ⟨h.1.call hb, Nat.le_trans h.2 hb.size⟩), Lib.hid (fun W h => ⟨h.1.drew, h.2⟩), Lib.hid (fun W o h => ⟨h.1.alloc o, Nat.le_trans h.2 (by simp)⟩),
            Lib.hid (fun W h => ⟨h.1.at2 1, own_cell h.1.1 3, own_cell h.1.1 4⟩), Lib.hid (fun W h => h.2), Lib.hid (fun W c v0 v1 v2 v3 v4 h hc => ⟨held_fresh (cs := #[]) (t := 0) h.1 (by omega) (by omega) (by omega) (by omega) _ _ _ _ _, by simpa using h.2⟩), Lib.hid (fun W h => h.1)⟩
        clear hhe
        go_cut [11, 12] (fun s11 s12 wx => ∃ g : Nat, s11 = .pointer (some ⟨g, 0, none⟩) ∧ s12 = .int .i64 (P * R % 10000) ∧ Hid (HeldT w.heap.size w.heap.size (w.heap.size + 1 + 1) w2.heap.size #[.slice s.A s.len s.cap, .int .i64 s.ded, .int .i64 s.cre, .int .i64 s.bp, .int .i64 s.most, .int .i64 s.least] #[.int .i64 0, .int .i64 0, .int .i64 0, .int .i64 0] #[.int .i64 t, .int .i64 P, .int .i64 0, .int .i64 X] 29 33 33 w wx) ∧
          Hid (Own wx g #[.bool false, .int .u64 d0, .int .u64 d1, .int .u64 d2, .int .u64 d3] 59))
        case rest =>
          obtain ⟨g, rfl, rfl, HHe, HOw⟩ := hcut
          clear hh0 hcall hdrew hall hat hlt hset hback e0 e1 e2
          have e0 : ∀ i, wc.cell? ⟨w.heap.size, i, none⟩ = (#[.slice s.A s.len s.cap, .int .i64 s.ded, .int .i64 s.cre, .int .i64 s.bp, .int .i64 s.most, .int .i64 s.least] : Array Value)[i]? := own_cell HHe.out.1
          have eg := own_cell HOw.out
          have hq := hpq
          go_wp2_with fail
          refine (HTo.out _).mono ?_
          rintro e w4 ⟨rfl, hb4⟩
          have HH4 := Lib.hid (HHe.out.call hb4)
          clear e0 eg hb4
          have e0 : ∀ i, w4.cell? ⟨w.heap.size, i, none⟩ = (#[.slice s.A s.len s.cap, .int .i64 s.ded, .int .i64 s.cre, .int .i64 s.bp, .int .i64 s.most, .int .i64 s.least] : Array Value)[i]? := own_cell HH4.out.1
          have e1 := HH4.out.at1
          have e2 := HH4.out.at2
          have f1 := HH4.out.frz1
          have f2 := own_frz HH4.out.2.2.1
          have z1 := own_lt HH4.out.2.1
          have z2 := own_lt HH4.out.2.2.1
          have HB4 := Lib.hid HH4.out.2.2.2.1
          generalize P * R / 10000 = q at *
          go_wp2_with fail
          refine bodyPost_ret (v := Bil.val ⟨t, P, min (max q s.least) P, X, 0⟩) (by simp [results, Try.results14, go_sem, Bil.val, e1, e2, f1]) rfl ⟨by rw [HBE.out, HPen.out], ?_⟩
          repeat' (first | (with_reducible exact HB4.out) | (with_reducible refine below_drewN ?_ _) | (with_reducible refine Below.setCell ?_ ?_ _) | (with_reducible refine Below.alloc ?_ ?_ _) | (simp; done) | (simp; omega) | omega)
        case first =>
        clear hpr0 hpr1 hp0 hp1 hp2 hq0 hq1 hq2 hpq HBE HPen HTo
        go_region_held3 (fun W => W.cell? ⟨w2.heap.size, 1, none⟩ = some (.int .i64 P) ∧ W.cell? ⟨w.heap.size, 3, none⟩ = some (.int .i64 s.bp) ∧ W.cell? ⟨w.heap.size, 4, none⟩ = some (.int .i64 s.most))
          (first | with_reducible exact hat.out _ (by assumption) | with_reducible exact hat.out _ (hdrew.out _ (by assumption)) | with_reducible exact hat.out _ (hall.out _ _ (by assumption)) | with_reducible exact hat.out _ (hdrew.out _ (hall.out _ _ (by assumption))) | with_reducible exact hat.out _ (hset.out _ _ _ _ _ _ _ (by assumption) (by omega)) | with_reducible exact hat.out _ (hset.out _ _ _ _ _ _ _ (hall.out _ _ (by assumption)) (by omega)))
          (first
            | (go_at_call 32; (with_reducible refine (HOa.out _).mono ?_); rintro e WA ⟨rfl, hbA⟩
               (have hhA : Held WA := by first | with_reducible exact hcall.out _ _ hh0 hbA | with_reducible exact hcall.out _ _ (hdrew.out _ hh0) hbA | with_reducible exact hcall.out _ _ (hall.out _ _ hh0) hbA | with_reducible exact hcall.out _ _ (hdrew.out _ (hall.out _ _ hh0)) hbA)
               have hlA := hlt.out _ hhA)
            | (go_at_call 32; (with_reducible refine (HOx.out _).mono ?_); rintro e WX ⟨rfl, hbX⟩
               (have hhX : Held WX := by first | with_reducible exact hcall.out _ _ hhA hbX | with_reducible exact hcall.out _ _ (hall.out _ _ hhA) hbX)
               have hlX := hlt.out _ hhX)
            | (go_at_call 33; (with_reducible refine (HMu.out _).mono ?_); rintro e WM ⟨rfl, hbM⟩
               (have hhM : Held WM := by first | with_reducible exact hcall.out _ _ hhX hbM | with_reducible exact hcall.out _ _ (hall.out _ _ hhX) hbM)
               have hlM := hlt.out _ hhM)
            | (go_at_call 34; (with_reducible refine (HDi.out _).mono ?_); rintro e WD ⟨rfl, hbD⟩
               (have hhD : Held WD := by first | with_reducible exact hcall.out _ _ hhM hbD | with_reducible exact hcall.out _ _ (hall.out _ _ hhM) hbD)
               have hlD := hlt.out _ hhD
               (first
                 | (have hO := own_call (own_new _ wide0 59) hbD; have hgc := own_cell hO; have hgf := own_frz hO)
                 | (have hO := own_call (own_call (own_new _ wide0 59) hbM) hbD; have hgc := own_cell hO; have hgf := own_frz hO)
                 | (have hO := own_call (own_call (own_call (own_new _ wide0 59) hbX) hbM) hbD; have hgc := own_cell hO; have hgf := own_frz hO)
                 | (have hO := own_call (own_call (own_call (own_call (own_new _ wide0 59) hbA) hbX) hbM) hbD; have hgc := own_cell hO; have hgf := own_frz hO)
                 | (have hO := own_call (own_call (own_call (own_call (own_drew (own_new _ wide0 59)) hbA) hbX) hbM) hbD; have hgc := own_cell hO; have hgf := own_frz hO)
                 | skip)))
        all_goals go_wp2_with fail
        all_goals go_meet
        all_goals first
          | ((with_reducible refine ⟨_, rfl, rfl, Lib.hid (hback.out _ (hall.out _ _ hhD)), Lib.hid ?_⟩); exact own_new _ _ _)
          | ((with_reducible refine ⟨_, rfl, rfl, Lib.hid (hback.out _ (hset.out _ _ _ _ _ _ _ hhD (by omega))), Lib.hid ?_⟩); exact own_set (own_set (own_set (own_set (own_set hO 0 _) 1 _) 2 _) 3 _) 4 _)
      · have HPen : Hid (penR s (max (t - r.wit) 0) (lateF r.due r.fil) = 0) := Lib.hid (by
          unfold penR; rw [if_neg (fun g => cP ⟨g.1, hlb.2.2.1 g.2⟩)])
        by_cases cp : 0 < max (t - r.wit) 0
        · have cl : ¬ r.due < r.fil := fun g => cP ⟨cp, g⟩
          clear cP
          go_wp2_with fail
          refine bodyPost_ret (v := Bil.val ⟨t, max (t - r.wit) 0, 0, max (r.wit - t) 0, 0⟩) (by simp [results, Try.results14, go_sem, Bil.val, e2, hz2]) rfl ⟨by rw [HBE.out, HPen.out], ?_⟩
          repeat' (first | (with_reducible exact HB2.out) | (with_reducible refine below_drewN ?_ _) | (with_reducible refine Below.setCell ?_ ?_ _) | (with_reducible refine Below.alloc ?_ ?_ _) | (simp; done) | (simp; omega))
        · clear cP
          go_wp2_with fail
          refine bodyPost_ret (v := Bil.val ⟨t, max (t - r.wit) 0, 0, max (r.wit - t) 0, 0⟩) (by simp [results, Try.results14, go_sem, Bil.val, e2, hz2]) rfl ⟨by rw [HBE.out, HPen.out], ?_⟩
          repeat' (first | (with_reducible exact HB2.out) | (with_reducible refine below_drewN ?_ _) | (with_reducible refine Below.setCell ?_ ?_ _) | (with_reducible refine Below.alloc ?_ ?_ _) | (simp; done) | (simp; omega))
    · have hsr : s.right = false := by
        cases g : s.right
        · rfl
        · exfalso
          have hi := (HRR.out.1 hrr).2.2.1
          exact ce (t3.2 (by rw [g, isMon_iff.2 hi]; rfl))
      have HBE : Hid (billR s r = ⟨0, 0, 0, 0, 1⟩) := Lib.hid (by rw [HBI.out, hsr]; simp)
      have ce' : (te == 0) = false := by simpa using ce
      clear hrr t3 hsr
      go_wp2_with fail
      refine bodyPost_ret (v := Bil.val ⟨0, 0, 0, 0, 1⟩) (by simp [results, Try.results14, go_sem, Bil.val, e2, hz2]) rfl ⟨by rw [HBE.out], ?_⟩
      repeat' (first | (with_reducible exact HB2.out) | (with_reducible refine below_drewN ?_ _) | (with_reducible refine Below.setCell ?_ ?_ _) | (with_reducible refine Below.alloc ?_ ?_ _) | (simp; done) | (simp; omega))
end Go.Proofs.Ytcjkofgbijdkcaa
