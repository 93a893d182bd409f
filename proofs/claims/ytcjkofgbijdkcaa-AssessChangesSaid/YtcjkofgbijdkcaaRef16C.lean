/- Package tallageref16: Change. -/
import Derived.WalkKit
import Derived.Outline
import Derived.Lib.Hide
import Derived.Handy
import Derived.Deep.QuietTactic
import Derived.BigQuiet
import Derived.Deep.RegionHeld3
import Derived.Test.YtcjkofgbijdkcaaChange
import Derived.Test.YtcjkofgbijdkcaaRef16B
namespace Go.Proofs.Ytcjkofgbijdkcaa
open Go.RowKit

set_option maxRecDepth 100000 in
set_option maxHeartbeats 2000000 in
theorem r16change_any (s : Sch) (a b : Ret) (w : World) (hs : s.In w) (ha : a.In) (hb : b.In) :
    Calls Try.prog 21 #[s.val, a.val, b.val] w fun e w' => e = .returned (chgR s a b).val ∧ Below w.heap.size w w' := by
  have HA := Lib.hid (fun W h => r16bill_any s a W h ha)
  have HBB := Lib.hid (fun W h => r16bill_any s b W h hb)
  have HA2 := Lib.hid (fun W h => r16bill_any s { b with due := a.due, fil := a.fil } W h ⟨hb.per, ha.due, ha.fil, hb.inc, hb.wit⟩)
  have HI := Lib.hid hs
  have HRI := Lib.hid (@Ret.right_iff a); have HRJ := Lib.hid (@Ret.right_iff b); have HRK := Lib.hid (@Ret.right_iff { b with due := a.due, fil := a.fil })
  have HBD := Lib.hid (@bill_bd s { b with due := a.due, fil := a.fil })
  simp only [Sch.val, Ret.val] at *
  go_enter Try.func21, Try.ntmps21
  go_wp2_with fail
  have HH0 := Lib.hid (((((HeldN.start w).push #[.slice s.A s.len s.cap, .int .i64 s.ded, .int .i64 s.cre, .int .i64 s.bp, .int .i64 s.most, .int .i64 s.least] 29).push_at (w.heap.size + 1) (by simp) #[.int .i64 a.per, .int .i64 a.due, .int .i64 a.fil, .int .i64 a.inc, .int .i64 a.wit] 31).push_at (w.heap.size + 1 + 1) (by simp) #[.int .i64 b.per, .int .i64 b.due, .int .i64 b.fil, .int .i64 b.inc, .int .i64 b.wit] 31).push_at (w.heap.size + 1 + 1 + 1) (by simp) #[.int .i64 0, .int .i64 0, .int .i64 0, .int .i64 0] 33)
  generalize (((w.alloc (.cells #[.slice s.A s.len s.cap, .int .i64 s.ded, .int .i64 s.cre, .int .i64 s.bp, .int .i64 s.most, .int .i64 s.least] 29)).alloc (.cells #[.int .i64 a.per, .int .i64 a.due, .int .i64 a.fil, .int .i64 a.inc, .int .i64 a.wit] 31)).alloc (.cells #[.int .i64 b.per, .int .i64 b.due, .int .i64 b.fil, .int .i64 b.inc, .int .i64 b.wit] 31)).alloc (.cells #[.int .i64 0, .int .i64 0, .int .i64 0, .int .i64 0] 33) = W0 at *
  refine (HA.out _ (HI.out.below HH0.out.2.1 (Nat.le_refl _))).mono ?_
  rintro e w1 ⟨rfl, hb1⟩
  have HH1 := Lib.hid (HH0.out.call hb1)
  have eZ := HH1.out.cell
  have zZ := HH1.out.lt
  have eB := HH1.out.tail.cell
  have zB := HH1.out.tail.lt
  have eA := HH1.out.tail.tail.cell
  have zA := HH1.out.tail.tail.lt
  have eS := HH1.out.tail.tail.tail.cell
  have zS := HH1.out.tail.tail.tail.lt
  have fZ := HH1.out.frz
  have fB := HH1.out.tail.frz
  simp only [] at eZ eB eA eS zZ zB zA zS fZ fB
  clear hb1
  generalize hBL : billR s a = BL at *
  obtain ⟨p1, p2, p3, p4, p5⟩ := BL
  have HBL := Lib.hid hBL
  clear hBL
  simp only [Bil.val]
  go_wp2_with fail
  have HH1b := Lib.hid (HH1.out.push #[.int .i64 p1, .int .i64 p2, .int .i64 p3, .int .i64 p4] 33)
  clear eZ eB eA eS zZ zB zA zS fZ fB
  generalize w1.alloc (.cells #[.int .i64 p1, .int .i64 p2, .int .i64 p3, .int .i64 p4] 33) = v1 at *
  refine (HBB.out _ (HI.out.below HH1b.out.2.1 (Nat.le_refl _))).mono ?_
  rintro e w2 ⟨rfl, hb2⟩
  have HH2 := Lib.hid (HH1b.out.call hb2)
  have eZ := HH2.out.tail.cell
  have zZ := HH2.out.tail.lt
  have eB := HH2.out.tail.tail.cell
  have zB := HH2.out.tail.tail.lt
  have eA := HH2.out.tail.tail.tail.cell
  have zA := HH2.out.tail.tail.tail.lt
  have eS := HH2.out.tail.tail.tail.tail.cell
  have zS := HH2.out.tail.tail.tail.tail.lt
  have fZ := HH2.out.tail.frz
  have fB := HH2.out.tail.tail.frz
  simp only [] at eZ eB eA eS zZ zB zA zS fZ fB
  have eP := HH2.out.cell
  have zP := HH2.out.lt
  have HB2 := Lib.hid HH2.out.2.1
  have hw1 : w.heap.size + 1 + 1 + 1 < w1.heap.size := HH1.out.lt
  simp only [] at eP zP
  clear hb2
  generalize hBM : billR s b = BM at *
  obtain ⟨u1, u2, u3, u4, u5⟩ := BM
  have HBM := Lib.hid hBM
  clear hBM
  simp only [Bil.val]
  cases hsa : (s.right && a.right) with
  | false =>
    have hbl : (⟨p1, p2, p3, p4, p5⟩ : Bil) = ⟨0, 0, 0, 0, 1⟩ := by rw [← HBL.out]; exact bill_no hsa
    have HRe : Hid (chgR s a b = ⟨0, 0, 0, 0, 1⟩) := Lib.hid (by unfold chgR; rw [hsa]; rfl)
    simp only [Bil.mk.injEq] at hbl
    obtain ⟨rfl, rfl, rfl, rfl, rfl⟩ := hbl
    clear hsa
    go_wp2_with fail
    refine bodyPost_ret (v := Bil.val ⟨0, 0, 0, 0, 1⟩) (by simp [results, Try.results21, go_sem, Bil.val, eZ, zZ]) rfl ⟨by rw [HRe.out], ?_⟩
    repeat' (first | (with_reducible exact HB2.out) | (with_reducible refine below_drewN ?_ _) | (with_reducible refine Below.setCell ?_ ?_ _) | (with_reducible refine Below.alloc ?_ ?_ _) | (simp; done) | (simp; omega) | omega)
  | true =>
    obtain ⟨hs1, ha1⟩ := (Bool.and_eq_true _ _).mp hsa
    have hbd := bill_bd hs1 ha1
    rw [HBL.out] at hbd
    simp only [] at hbd
    obtain ⟨rfl, q1, q2, q3, q4, q5, q6, q7, q8, q9, q10⟩ := hbd
    have HS1 := Lib.hid hs1; have HA1 := Lib.hid ha1
    clear q6 q7 hsa hs1 ha1
    cases hbr : b.right with
    | false =>
      have hbl : (⟨u1, u2, u3, u4, u5⟩ : Bil) = ⟨0, 0, 0, 0, 1⟩ := by rw [← HBM.out]; exact bill_no (by rw [hbr]; simp)
      have HRe : Hid (chgR s a b = ⟨0, 0, 0, 0, 1⟩) := Lib.hid (by unfold chgR; rw [hbr]; simp)
      simp only [Bil.mk.injEq] at hbl
      obtain ⟨rfl, rfl, rfl, rfl, rfl⟩ := hbl
      clear hbr
      go_wp2_with fail
      refine bodyPost_ret (v := Bil.val ⟨0, 0, 0, 0, 1⟩) (by simp [results, Try.results21, go_sem, Bil.val, eZ, zZ]) rfl ⟨by rw [HRe.out], ?_⟩
      repeat' (first | (with_reducible exact HB2.out) | (with_reducible refine below_drewN ?_ _) | (with_reducible refine Below.setCell ?_ ?_ _) | (with_reducible refine Below.alloc ?_ ?_ _) | (simp; done) | (simp; omega) | omega)
    | true =>
      have hbm := bill_bd HS1.out hbr
      rw [HBM.out] at hbm
      simp only [] at hbm
      obtain ⟨rfl, hbm⟩ := hbm
      clear hbm
      have HC : Hid (chgR s a b = if a.per = b.per ∧ a.fil ≤ b.fil then
        ⟨(billR s { b with due := a.due, fil := a.fil }).tax - (billR s a).tax, (billR s { b with due := a.due, fil := a.fil }).pri - (billR s a).pri, (billR s { b with due := a.due, fil := a.fil }).pen - (billR s a).pen, (billR s { b with due := a.due, fil := a.fil }).exc - (billR s a).exc, 0⟩ else ⟨0, 0, 0, 0, 10⟩) := Lib.hid (by
          unfold chgR; rw [HS1.out, HA1.out, hbr]; rfl)
      have HBr := Lib.hid hbr
      clear hbr
      by_cases c1 : a.per = b.per
      · by_cases c2 : b.fil < a.fil
        · have HRe : Hid (chgR s a b = ⟨0, 0, 0, 0, 10⟩) := Lib.hid (by rw [HC.out, if_neg (by omega)])
          clear HC
          go_wp2_with fail
          refine bodyPost_ret (v := Bil.val ⟨0, 0, 0, 0, 10⟩) (by simp [results, Try.results21, go_sem, Bil.val, eZ, zZ]) rfl ⟨by rw [HRe.out], ?_⟩
          repeat' (first | (with_reducible exact HB2.out) | (with_reducible refine below_drewN ?_ _) | (with_reducible refine Below.setCell ?_ ?_ _) | (with_reducible refine Below.alloc ?_ ?_ _) | (simp; done) | (simp; omega) | omega)
        · have hC := HC.out
          rw [if_pos (by omega), HBL.out] at hC
          have HC2 := Lib.hid hC
          have hr2 : Ret.right { b with due := a.due, fil := a.fil } = true := by
            have g1 := HRI.out.1 HA1.out
            have g2 := HRJ.out.1 HBr.out
            exact HRK.out.2 ⟨g2.1, g1.2.1, g2.2.2⟩
          have hbd := HBD.out HS1.out hr2
          clear HC hC hr2
          go_wp2_with fail
          have hh := ((((HH2.out.rot.set (by omega) ⟨by simp only []; omega, by simp only []; omega, by simp only []; omega, by simp only []; omega, trivial⟩ 1 (.int .i64 a.due)).set (by omega) ⟨by simp only []; omega, by simp only []; omega, by simp only []; omega, by simp only []; omega, trivial⟩ 2 (.int .i64 a.fil)).alloc (.cells #[.int .i64 u1, .int .i64 u2, .int .i64 u3, .int .i64 u4] 33)))
          have HH3 := Lib.hid hh
          clear hh eZ eP eB eA eS zZ zP zB zA zS fZ fB
          generalize ((w2.setCell ⟨w.heap.size + 1 + 1, 1, none⟩ (.int .i64 a.due)).setCell ⟨w.heap.size + 1 + 1, 2, none⟩ (.int .i64 a.fil)).alloc (.cells #[.int .i64 u1, .int .i64 u2, .int .i64 u3, .int .i64 u4] 33) = v2 at *
          generalize billR s { b with due := a.due, fil := a.fil } = B2 at *
          obtain ⟨y1, y2, y3, y4, y5⟩ := B2
          simp only [] at hbd HC2 HA2
          obtain ⟨rfl, r1, r2, r3, r4, r5, r6, r7, r8, r9, rt⟩ := hbd
          clear r6 r7
          refine (HA2.out _ (HI.out.below HH3.out.2.1 (Nat.le_refl _))).mono ?_
          rintro e w3 ⟨rfl, hb3⟩
          have HH4 := Lib.hid (HH3.out.call hb3)
          have eP := HH4.out.tail.cell
          have eZ := HH4.out.tail.tail.cell
          have fZ := HH4.out.tail.tail.frz
          have zP := HH4.out.tail.lt
          have zZ := HH4.out.tail.tail.lt
          have HB4 := Lib.hid HH4.out.2.1
          simp only [] at eP zP eZ zZ fZ
          clear hb3
          simp only [Bil.val]
          go_wp2_with fail
          refine bodyPost_ret (v := Bil.val ⟨y1 - p1, y2 - p2, y3 - p3, y4 - p4, 0⟩) (by simp [results, Try.results21, go_sem, Bil.val, eZ, zZ]) rfl ⟨by rw [HC2.out], ?_⟩
          repeat' (first | (with_reducible exact HB4.out) | (with_reducible refine below_drewN ?_ _) | (with_reducible refine Below.setCell ?_ ?_ _) | (with_reducible refine Below.alloc ?_ ?_ _) | (simp; done) | (simp; omega) | omega)
      · have HRe : Hid (chgR s a b = ⟨0, 0, 0, 0, 10⟩) := Lib.hid (by rw [HC.out, if_neg (fun g => c1 g.1)])
        clear HC
        go_wp2_with fail
        refine bodyPost_ret (v := Bil.val ⟨0, 0, 0, 0, 10⟩) (by simp [results, Try.results21, go_sem, Bil.val, eZ, zZ]) rfl ⟨by rw [HRe.out], ?_⟩
        repeat' (first | (with_reducible exact HB2.out) | (with_reducible refine below_drewN ?_ _) | (with_reducible refine Below.setCell ?_ ?_ _) | (with_reducible refine Below.alloc ?_ ?_ _) | (simp; done) | (simp; omega) | omega)
end Go.Proofs.Ytcjkofgbijdkcaa
