/- Package assess: what comes of a return. -/
import Derived.WalkKit
import Derived.Outline
import Derived.Lib.Hide
import Derived.Handy
import Derived.Deep.QuietTactic
import Derived.BigQuiet
import Derived.Test.YtcjkofgbijdkcaaBillM
namespace Go.Proofs.Ytcjkofgbijdkcaa
open Go.RowKit

set_option maxRecDepth 100000 in
set_option maxHeartbeats 1000000 in
theorem asBill_any (s : Sch) (r : Ret) (w : World) (hs : s.In w) (hr : r.In) :
    Calls Try.prog 13 #[s.val, r.val] w fun e w' => e = .returned (billR s r).val ∧ Below w.heap.size w w' := by
  have HT := Lib.hid (fun W (h : s.In W) => tax_any s r.inc W h hr.inc)
  have HRt := Lib.hid (fun W => asRight_any r W hr)
  have HLt := Lib.hid (fun W h => asLate_any r W hr h)
  have HIn : Hid (∀ w', Below w.heap.size w w' → s.In w') := Lib.hid (fun w' hb => hs.below hb (Nat.le_refl _))
  have hri := Lib.hid hr
  clear hs hr
  simp only [Sch.val, Ret.val] at *
  go_enter Try.func13, Try.ntmps13
  go_wp2_with fail
  have hb0 : Below w.heap.size w (((w.alloc (.cells #[.slice s.A s.len s.cap, .int .i64 s.ded, .int .i64 s.cre, .int .i64 s.bp, .int .i64 s.most, .int .i64 s.least] 29)).alloc (.cells #[.int .i64 r.per, .int .i64 r.due, .int .i64 r.fil, .int .i64 r.inc, .int .i64 r.wit] 31)).alloc (.cells #[.int .i64 0, .int .i64 0, .int .i64 0, .int .i64 0] 33)) := (((Below.refl _ _).alloc (Nat.le_refl _) _).alloc (by simp) _).alloc (by simp; omega) _
  have hin := HIn.out _ hb0
  have hoS : Own (((w.alloc (.cells #[.slice s.A s.len s.cap, .int .i64 s.ded, .int .i64 s.cre, .int .i64 s.bp, .int .i64 s.most, .int .i64 s.least] 29)).alloc (.cells #[.int .i64 r.per, .int .i64 r.due, .int .i64 r.fil, .int .i64 r.inc, .int .i64 r.wit] 31)).alloc (.cells #[.int .i64 0, .int .i64 0, .int .i64 0, .int .i64 0] 33)) w.heap.size #[.slice s.A s.len s.cap, .int .i64 s.ded, .int .i64 s.cre, .int .i64 s.bp, .int .i64 s.most, .int .i64 s.least] 29 := own_alloc (own_alloc (own_new _ _ _) _) _
  have hoR : Own (((w.alloc (.cells #[.slice s.A s.len s.cap, .int .i64 s.ded, .int .i64 s.cre, .int .i64 s.bp, .int .i64 s.most, .int .i64 s.least] 29)).alloc (.cells #[.int .i64 r.per, .int .i64 r.due, .int .i64 r.fil, .int .i64 r.inc, .int .i64 r.wit] 31)).alloc (.cells #[.int .i64 0, .int .i64 0, .int .i64 0, .int .i64 0] 33)) (w.heap.size + 1) #[.int .i64 r.per, .int .i64 r.due, .int .i64 r.fil, .int .i64 r.inc, .int .i64 r.wit] 31 := own_alloc (own_new_at _ _ _ _ (by simp)) _
  have hoB : Own (((w.alloc (.cells #[.slice s.A s.len s.cap, .int .i64 s.ded, .int .i64 s.cre, .int .i64 s.bp, .int .i64 s.most, .int .i64 s.least] 29)).alloc (.cells #[.int .i64 r.per, .int .i64 r.due, .int .i64 r.fil, .int .i64 r.inc, .int .i64 r.wit] 31)).alloc (.cells #[.int .i64 0, .int .i64 0, .int .i64 0, .int .i64 0] 33)) (w.heap.size + 1 + 1) #[.int .i64 0, .int .i64 0, .int .i64 0, .int .i64 0] 33 := own_new_at _ _ _ _ (by simp)
  have hs0 : w.heap.size + 1 + 1 < (((w.alloc (.cells #[.slice s.A s.len s.cap, .int .i64 s.ded, .int .i64 s.cre, .int .i64 s.bp, .int .i64 s.most, .int .i64 s.least] 29)).alloc (.cells #[.int .i64 r.per, .int .i64 r.due, .int .i64 r.fil, .int .i64 r.inc, .int .i64 r.wit] 31)).alloc (.cells #[.int .i64 0, .int .i64 0, .int .i64 0, .int .i64 0] 33)).heap.size := by simp
  have HB0 := Lib.hid hb0; have HI0 := Lib.hid hin; have HS0 := Lib.hid hoS; have HR0 := Lib.hid hoR; have HO0 := Lib.hid hoB
  clear hb0 hin hoS hoR hoB
  generalize ((w.alloc (.cells #[.slice s.A s.len s.cap, .int .i64 s.ded, .int .i64 s.cre, .int .i64 s.bp, .int .i64 s.most, .int .i64 s.least] 29)).alloc (.cells #[.int .i64 r.per, .int .i64 r.due, .int .i64 r.fil, .int .i64 r.inc, .int .i64 r.wit] 31)).alloc (.cells #[.int .i64 0, .int .i64 0, .int .i64 0, .int .i64 0] 33) = W0 at *
  refine (HT.out _ HI0.out).mono ?_
  rintro e w1 ⟨rfl, hb1⟩
  have hs1 := hb1.size
  have HB1 := Lib.hid (HB0.out.trans (hb1.mono (by omega)))
  have hoS := own_below HS0.out hb1 (by omega)
  have hoR := own_below HR0.out hb1 (by omega)
  have hoB := own_below HO0.out hb1 (by omega)
  have e1 : ∀ i, w1.cell? ⟨w.heap.size + 1, i, none⟩ = (#[.int .i64 r.per, .int .i64 r.due, .int .i64 r.fil, .int .i64 r.inc, .int .i64 r.wit] : Array Value)[i]? := own_cell hoR
  have eb : ∀ i, w1.cell? ⟨w.heap.size + 1 + 1, i, none⟩ = (#[.int .i64 0, .int .i64 0, .int .i64 0, .int .i64 0] : Array Value)[i]? := own_cell hoB
  have ez : ∀ i, w1.frozen? ⟨w.heap.size + 1 + 1, i, none⟩ = false := own_frz hoB
  have HS1 := Lib.hid hoS; have HR1 := Lib.hid hoR; have HO1 := Lib.hid hoB
  clear hb1 hoS hoR hoB HB0 HI0 HS0 HR0 HO0
  unfold Pair
  have htb := @tax_bd s r.inc
  have HBI : Hid (billR s r = if s.right && r.right then ⟨(taxR s r.inc).1, max ((taxR s r.inc).1 - r.wit) 0, penR s (max ((taxR s r.inc).1 - r.wit) 0) (lateF r.due r.fil), max (r.wit - (taxR s r.inc).1) 0, 0⟩ else ⟨0, 0, 0, 0, 1⟩) := Lib.hid rfl
  generalize taxR s r.inc = T at *
  obtain ⟨t, te⟩ := T
  simp only [] at htb HBI ⊢
  obtain ⟨t1, t2, t3⟩ := htb
  by_cases ce : te = 0
  · subst ce
    have hsr := t3.1 rfl
    obtain ⟨hs, hm⟩ := (Bool.and_eq_true _ _).mp hsr
    have HSR := Lib.hid hs
    clear hsr hs hm t3
    go_wp2_with fail
    refine (HRt.out _).mono ?_
    rintro e w2 ⟨rfl, hb2⟩
    have hs2 := hb2.size
    have HB2 := Lib.hid (HB1.out.trans (hb2.mono (by omega)))
    have hoS := own_below HS1.out hb2 (by omega)
    have hoR := own_below HR1.out hb2 (by omega)
    have hoB := own_below HO1.out hb2 (by omega)
    clear e1 eb ez
    have e1 : ∀ i, w2.cell? ⟨w.heap.size + 1, i, none⟩ = (#[.int .i64 r.per, .int .i64 r.due, .int .i64 r.fil, .int .i64 r.inc, .int .i64 r.wit] : Array Value)[i]? := own_cell hoR
    have e2 : ∀ i, w2.cell? ⟨w.heap.size, i, none⟩ = (#[.slice s.A s.len s.cap, .int .i64 s.ded, .int .i64 s.cre, .int .i64 s.bp, .int .i64 s.most, .int .i64 s.least] : Array Value)[i]? := own_cell hoS
    have eb : ∀ i, w2.cell? ⟨w.heap.size + 1 + 1, i, none⟩ = (#[.int .i64 0, .int .i64 0, .int .i64 0, .int .i64 0] : Array Value)[i]? := own_cell hoB
    have ez : ∀ i, w2.frozen? ⟨w.heap.size + 1 + 1, i, none⟩ = false := own_frz hoB
    have HS2 := Lib.hid hoS; have HR2 := Lib.hid hoR; have HO2 := Lib.hid hoB
    clear hb2 hoS hoR hoB HB1 HS1 HR1 HO1
    have k0 : w.heap.size < w2.heap.size := by omega
    have k1 : w.heap.size + 1 < w2.heap.size := by omega
    have k2 : w.heap.size + 1 + 1 < w2.heap.size := by omega
    cases hrr : r.right with
    | false =>
      have HBE : Hid (billR s r = ⟨0, 0, 0, 0, 1⟩) := Lib.hid (by rw [HBI.out, hrr]; simp)
      clear hrr
      go_wp2_with fail
      refine bodyPost_ret (v := Bil.val ⟨0, 0, 0, 0, 1⟩) (by simp [results, Try.results13, go_sem, Bil.val, eb]) rfl ⟨by rw [HBE.out], ?_⟩
      repeat' (first | (with_reducible exact HB2.out) | (with_reducible refine below_drewN ?_ _) | (with_reducible refine Below.setCell ?_ ?_ _) | (with_reducible refine Below.alloc ?_ ?_ _) | (simp; done) | (simp; omega))
    | true =>
      have HBE : Hid (billR s r = ⟨t, max (t - r.wit) 0, penR s (max (t - r.wit) 0) (lateF r.due r.fil), max (r.wit - t) 0, 0⟩) := Lib.hid (by rw [HBI.out, hrr, HSR.out]; simp)
      have hw : 0 ≤ r.wit ∧ r.wit ≤ 1125899906842624 := by
        simp only [Ret.right, Bool.and_eq_true, isMon_iff] at hrr
        omega
      have HRR := Lib.hid hrr
      clear hrr HBI
      go_wp2_with fail
      have hbA : Below w.heap.size w (w2.alloc (.cells #[.int .i64 t, .int .i64 (max (t - r.wit) 0), .int .i64 0, .int .i64 (max (r.wit - t) 0)] 33)) := HB2.out.alloc (by omega) _
      have hoS := own_alloc HS2.out (.cells #[.int .i64 t, .int .i64 (max (t - r.wit) 0), .int .i64 0, .int .i64 (max (r.wit - t) 0)] 33)
      have hoB := own_alloc HO2.out (.cells #[.int .i64 t, .int .i64 (max (t - r.wit) 0), .int .i64 0, .int .i64 (max (r.wit - t) 0)] 33)
      have hoN : Own (w2.alloc (.cells #[.int .i64 t, .int .i64 (max (t - r.wit) 0), .int .i64 0, .int .i64 (max (r.wit - t) 0)] 33)) w2.heap.size #[.int .i64 t, .int .i64 (max (t - r.wit) 0), .int .i64 0, .int .i64 (max (r.wit - t) 0)] 33 := own_new _ _ _
      have kA : w2.heap.size < (w2.alloc (.cells #[.int .i64 t, .int .i64 (max (t - r.wit) 0), .int .i64 0, .int .i64 (max (r.wit - t) 0)] 33)).heap.size := by simp
      have HBA := Lib.hid hbA; have HSA := Lib.hid hoS; have HOA := Lib.hid hoB; have HNA := Lib.hid hoN
      clear hbA hoS hoB hoN e1 e2 eb ez HB2 HS2 HR2 HO2
      generalize w2.alloc (.cells #[.int .i64 t, .int .i64 (max (t - r.wit) 0), .int .i64 0, .int .i64 (max (r.wit - t) 0)] 33) = WA at *
      refine (HLt.out _ HRR.out).mono ?_
      rintro e w3 ⟨rfl, hb3⟩
      have hs3 := hb3.size
      have HB3 := Lib.hid (HBA.out.trans (hb3.mono (by omega)))
      have hoS := own_below HSA.out hb3 (by omega)
      have hoB := own_below HOA.out hb3 (by omega)
      have hoN := own_below HNA.out hb3 (by omega)
      have e2 : ∀ i, w3.cell? ⟨w.heap.size, i, none⟩ = (#[.slice s.A s.len s.cap, .int .i64 s.ded, .int .i64 s.cre, .int .i64 s.bp, .int .i64 s.most, .int .i64 s.least] : Array Value)[i]? := own_cell hoS
      have eb : ∀ i, w3.cell? ⟨w.heap.size + 1 + 1, i, none⟩ = (#[.int .i64 0, .int .i64 0, .int .i64 0, .int .i64 0] : Array Value)[i]? := own_cell hoB
      have ez : ∀ i, w3.frozen? ⟨w.heap.size + 1 + 1, i, none⟩ = false := own_frz hoB
      have en : ∀ i, w3.cell? ⟨w2.heap.size, i, none⟩ = (#[.int .i64 t, .int .i64 (max (t - r.wit) 0), .int .i64 0, .int .i64 (max (r.wit - t) 0)] : Array Value)[i]? := own_cell hoN
      have ey : ∀ i, w3.frozen? ⟨w2.heap.size, i, none⟩ = false := own_frz hoN
      have HS3 := Lib.hid hoS; have HO3 := Lib.hid hoB; have HN3 := Lib.hid hoN
      have k3 : w2.heap.size < w3.heap.size := by omega
      clear hb3 hoS hoB hoN HBA HSA HOA HNA
      have hP : 0 ≤ max (t - r.wit) 0 ∧ max (t - r.wit) 0 ≤ 1125899906842624 := by omega
      have hX : 0 ≤ max (r.wit - t) 0 ∧ max (r.wit - t) 0 ≤ 1125899906842624 := by omega
      generalize max (t - r.wit) 0 = P at *
      generalize max (r.wit - t) 0 = X at *
      generalize lateF r.due r.fil = L at *
      by_cases cP : 0 < P ∧ 0 < L
      · obtain ⟨cp, cl⟩ := cP
        obtain ⟨h1, h2, h3, h4, h5, h6⟩ := Sch.heads_iff.1 (show s.heads = true by have := HSR.out; simp only [Sch.right, Bool.and_eq_true] at this; exact this.1.1.1)
        have hrb := rate_bd h3 h4 h5 h6 (show 0 ≤ L by omega)
        have hmp := mulDivR_pen hP.1 hP.2 hrb.1 hrb.2
        go_wp2_with fail
        have HPen : Hid (penR s P L = min (max (P * (s.bp * min L s.most) / 10000) s.least) P) := Lib.hid (by unfold penR; rw [if_pos ⟨cp, cl⟩])
        have hld := Sch.right_ded HSR.out
        refine (mulDiv_any P (s.bp * min L s.most) 10000 _ (by omega) (by omega) (by omega) (by omega) (by omega) (by omega)).mono ?_
        rintro e w4 ⟨rfl, hb4⟩
        rw [hmp.1]
        unfold Pair
        have hq := hmp.2
        generalize P * (s.bp * min L s.most) / 10000 = q at *
        have hs4 := hb4.size
        have HB4 := Lib.hid (HB3.out.trans (hb4.mono (by omega)))
        have hoS := own_below HS3.out hb4 (by omega)
        have hoB := own_below HO3.out hb4 (by omega)
        have hoN := own_below HN3.out hb4 (by omega)
        clear e2 eb ez en ey hmp hrb
        have e2 : ∀ i, w4.cell? ⟨w.heap.size, i, none⟩ = (#[.slice s.A s.len s.cap, .int .i64 s.ded, .int .i64 s.cre, .int .i64 s.bp, .int .i64 s.most, .int .i64 s.least] : Array Value)[i]? := own_cell hoS
        have eb : ∀ i, w4.cell? ⟨w.heap.size + 1 + 1, i, none⟩ = (#[.int .i64 0, .int .i64 0, .int .i64 0, .int .i64 0] : Array Value)[i]? := own_cell hoB
        have ez : ∀ i, w4.frozen? ⟨w.heap.size + 1 + 1, i, none⟩ = false := own_frz hoB
        have en : ∀ i, w4.cell? ⟨w2.heap.size, i, none⟩ = (#[.int .i64 t, .int .i64 P, .int .i64 0, .int .i64 X] : Array Value)[i]? := own_cell hoN
        have ey : ∀ i, w4.frozen? ⟨w2.heap.size, i, none⟩ = false := own_frz hoN
        clear hb4 hoS hoB hoN HB3 HS3 HO3 HN3
        go_wp2_with fail
        refine bodyPost_ret (v := Bil.val ⟨t, P, min (max q s.least) P, X, 0⟩) (by simp [results, Try.results13, go_sem, Bil.val, eb]) rfl ⟨by rw [HBE.out, HPen.out], ?_⟩
        repeat' (first | (with_reducible exact HB4.out) | (with_reducible refine below_drewN ?_ _) | (with_reducible refine Below.setCell ?_ ?_ _) | (with_reducible refine Below.alloc ?_ ?_ _) | (simp; done) | (simp; omega))
      · have HPen : Hid (penR s P L = 0) := Lib.hid (by unfold penR; rw [if_neg cP])
        by_cases cp : 0 < P
        · have cl : ¬ 0 < L := fun g => cP ⟨cp, g⟩
          clear cP
          go_wp2_with fail
          refine bodyPost_ret (v := Bil.val ⟨t, P, 0, X, 0⟩) (by simp [results, Try.results13, go_sem, Bil.val, eb]) rfl ⟨by rw [HBE.out, HPen.out], ?_⟩
          repeat' (first | (with_reducible exact HB3.out) | (with_reducible refine below_drewN ?_ _) | (with_reducible refine Below.setCell ?_ ?_ _) | (with_reducible refine Below.alloc ?_ ?_ _) | (simp; done) | (simp; omega))
        · clear cP
          go_wp2_with fail
          refine bodyPost_ret (v := Bil.val ⟨t, P, 0, X, 0⟩) (by simp [results, Try.results13, go_sem, Bil.val, eb]) rfl ⟨by rw [HBE.out, HPen.out], ?_⟩
          repeat' (first | (with_reducible exact HB3.out) | (with_reducible refine below_drewN ?_ _) | (with_reducible refine Below.setCell ?_ ?_ _) | (with_reducible refine Below.alloc ?_ ?_ _) | (simp; done) | (simp; omega))
  · have hbi : billR s r = ⟨0, 0, 0, 0, 1⟩ := by
      rw [HBI.out]
      have : ¬ (s.right && r.right) = true := fun g => ce (t3.2 (by
        obtain ⟨g1, g2⟩ := (Bool.and_eq_true _ _).mp g
        simp only [Ret.right, Bool.and_eq_true] at g2
        rw [g1, g2.2.1]; rfl))
      rw [if_neg this]
    have HBE := Lib.hid hbi
    clear t3 hbi
    go_wp2_with fail
    refine bodyPost_ret (v := Bil.val ⟨0, 0, 0, 0, 1⟩) (by simp [results, Try.results13, go_sem, Bil.val, eb]) rfl ⟨by rw [HBE.out], ?_⟩
    repeat' (first | (with_reducible exact HB1.out) | (with_reducible refine below_drewN ?_ _) | (with_reducible refine Below.setCell ?_ ?_ _) | (with_reducible refine Below.alloc ?_ ?_ _) | (simp; done) | (simp; omega))
end Go.Proofs.Ytcjkofgbijdkcaa
