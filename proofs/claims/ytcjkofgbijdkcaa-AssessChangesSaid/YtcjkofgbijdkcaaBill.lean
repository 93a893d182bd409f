/- Package assess: whether a return may be; how late it is. -/
import Derived.WalkKit
import Derived.Outline
import Derived.Lib.Hide
import Derived.Handy
import Derived.Deep.QuietTactic
import Derived.BigQuiet
import Derived.Test.YtcjkofgbijdkcaaRatesD
import Derived.Test.YtcjkofgbijdkcaaAsM
namespace Go.Proofs.Ytcjkofgbijdkcaa
open Go.RowKit

/-- a return -/
structure Ret where
  per : Int
  due : Int
  fil : Int
  inc : Int
  wit : Int
def Ret.val (r : Ret) : Value := .agg #[.int .i64 r.per, .int .i64 r.due, .int .i64 r.fil, .int .i64 r.inc, .int .i64 r.wit]
structure Ret.In (r : Ret) : Prop where
  per : i64 r.per
  due : i64 r.due
  fil : i64 r.fil
  inc : i64 r.inc
  wit : i64 r.wit
def Ret.right (r : Ret) : Bool := decide (1 ≤ r.per ∧ r.per ≤ 99999) && (isDy r.due && isDy r.fil) && (isMon r.inc && isMon r.wit)

theorem asDay_at (a b : Int) (g : Nat) (W : World) (e0 : W.cell? ⟨g, 0, none⟩ = some (.int .i64 a)) (e1 : W.cell? ⟨g, 1, none⟩ = some (.int .i64 b)) :
    Calls Try.prog 23 #[.slice (some ⟨g, 0, none⟩) 2 2] W fun e w' => e = .returned (.bool (isDy a && isDy b)) ∧ W = w' := by
  cases ha : isDy a with
  | false =>
    have ha' := isDy_not.1 ha
    clear ha
    go_enter Try.func23, Try.ntmps23
    go_wp2_with fail
    refine wp_loop_rounds 3 ?_
    rw [rounds_succ]
    by_cases c : a < 0
    · go_wp2_with fail
      go_ret
      exact ⟨rfl, rfl⟩
    · have c2 : 3652058 < a := by omega
      go_wp2_with fail
      go_ret
      exact ⟨rfl, rfl⟩
  | true =>
    have ha' := isDy_iff.1 ha
    clear ha
    cases hb : isDy b with
    | false =>
      have hb' := isDy_not.1 hb
      clear hb
      go_enter Try.func23, Try.ntmps23
      go_wp2_with fail
      refine wp_loop_rounds 3 ?_
      rw [rounds_succ]
      go_wp2_with fail
      rw [rounds_succ]
      by_cases c : b < 0
      · go_wp2_with fail
        go_ret
        exact ⟨rfl, rfl⟩
      · have c2 : 3652058 < b := by omega
        go_wp2_with fail
        go_ret
        exact ⟨rfl, rfl⟩
    | true =>
      have hb' := isDy_iff.1 hb
      clear hb
      go_enter Try.func23, Try.ntmps23
      go_wp2_with fail
      refine wp_loop_rounds 3 ?_
      rw [rounds_succ]
      go_wp2_with fail
      rw [rounds_succ]
      go_wp2_with fail
      rw [rounds_succ]
      go_wp2_with fail
      go_ret
      exact ⟨rfl, rfl⟩

set_option maxRecDepth 100000 in
set_option maxHeartbeats 1000000 in
theorem asFright_any (r : Ret) (w : World) (hi : r.In) :
    Calls Try.prog 36 #[r.val] w fun e w' => e = .returned (.bool r.right) ∧ Below w.heap.size w w' := by
  obtain ⟨per, due, fil, inc, wit⟩ := r
  obtain ⟨p1, p2, p3, p4, p5⟩ := hi
  have HR : Hid (Ret.right ⟨per, due, fil, inc, wit⟩ = (decide (1 ≤ per ∧ per ≤ 99999) && (isDy due && isDy fil) && (isMon inc && isMon wit))) := Lib.hid rfl
  generalize Ret.right ⟨per, due, fil, inc, wit⟩ = R at *
  simp only [i64, Ret.val] at *
  have hM : (isMon inc && isMon wit) = (decide (0 ≤ min inc wit) && decide (max inc wit ≤ 1125899906842624)) := by
    simp only [isMon]
    rw [Bool.eq_iff_iff]
    simp only [Bool.and_eq_true, decide_eq_true_eq]
    omega
  have HM := Lib.hid hM
  clear hM
  by_cases c1 : 1 ≤ per
  · by_cases c2 : per ≤ 99999
    · have hr : R = ((isDy due && isDy fil) && (isMon inc && isMon wit)) := by rw [HR.out, decide_eq_true ⟨c1, c2⟩]; simp
      have HRR := Lib.hid hr
      clear hr
      have z0 : ((w.alloc (.cells #[.int .i64 per, .int .i64 due, .int .i64 fil, .int .i64 inc, .int .i64 wit] 52)).alloc (.cells #[.int .i64 due, .int .i64 fil] 3)).cell? ⟨w.heap.size + 1, 0, none⟩ = some (.int .i64 due) := by simp [go_sem]
      have z1 : ((w.alloc (.cells #[.int .i64 per, .int .i64 due, .int .i64 fil, .int .i64 inc, .int .i64 wit] 52)).alloc (.cells #[.int .i64 due, .int .i64 fil] 3)).cell? ⟨w.heap.size + 1, 1, none⟩ = some (.int .i64 fil) := by simp [go_sem]
      have hbl : Below w.heap.size w ((w.alloc (.cells #[.int .i64 per, .int .i64 due, .int .i64 fil, .int .i64 inc, .int .i64 wit] 52)).alloc (.cells #[.int .i64 due, .int .i64 fil] 3)) := ((Below.refl _ _).alloc (Nat.le_refl _) _).alloc (by simp) _
      have HBL := Lib.hid hbl
      clear hbl
      by_cases m1 : 0 ≤ min inc wit
      · by_cases m2 : max inc wit ≤ 1125899906842624
        · go_enter Try.func36, Try.ntmps36
          go_wp2_with fail
          refine (asDay_at due fil _ _ z0 z1).mono ?_
          rintro e w' ⟨rfl, rfl⟩
          have HV : Hid ((isMon inc && isMon wit) = true) := Lib.hid (by rw [HM.out, decide_eq_true m1, decide_eq_true m2]; rfl)
          generalize (isDy due && isDy fil) = D at *
          cases D
          · go_wp2_with fail
            go_ret
            exact ⟨ret_bool (by rw [HRR.out, HV.out]; rfl), HBL.out⟩
          · go_wp2_with fail
            go_ret
            exact ⟨ret_bool (by rw [HRR.out, HV.out]; rfl), HBL.out⟩
        · go_enter Try.func36, Try.ntmps36
          go_wp2_with fail
          refine (asDay_at due fil _ _ z0 z1).mono ?_
          rintro e w' ⟨rfl, rfl⟩
          have HV : Hid ((isMon inc && isMon wit) = false) := Lib.hid (by rw [HM.out, decide_eq_true m1, decide_eq_false (show ¬ max inc wit ≤ 1125899906842624 by omega)]; rfl)
          generalize (isDy due && isDy fil) = D at *
          cases D
          · go_wp2_with fail
            go_ret
            exact ⟨ret_bool (by rw [HRR.out, HV.out]; rfl), HBL.out⟩
          · go_wp2_with fail
            go_ret
            exact ⟨ret_bool (by rw [HRR.out, HV.out]; rfl), HBL.out⟩
      · go_enter Try.func36, Try.ntmps36
        go_wp2_with fail
        refine (asDay_at due fil _ _ z0 z1).mono ?_
        rintro e w' ⟨rfl, rfl⟩
        have HV : Hid ((isMon inc && isMon wit) = false) := Lib.hid (by rw [HM.out, decide_eq_false (show ¬ 0 ≤ min inc wit by omega)]; rfl)
        generalize (isDy due && isDy fil) = D at *
        cases D
        · go_wp2_with fail
          go_ret
          exact ⟨ret_bool (by rw [HRR.out, HV.out]; rfl), HBL.out⟩
        · go_wp2_with fail
          go_ret
          exact ⟨ret_bool (by rw [HRR.out, HV.out]; rfl), HBL.out⟩
    · have hr : R = false := by rw [HR.out, decide_eq_false (fun g => by omega)]; rfl
      have HRR := Lib.hid hr
      clear hr
      by_cases m1 : 0 ≤ min inc wit
      · by_cases m2 : max inc wit ≤ 1125899906842624
        · go_enter Try.func36, Try.ntmps36
          go_wp2_with fail
          go_ret
          exact ⟨ret_bool HRR.out.symm, (Below.refl _ _).alloc (Nat.le_refl _) _⟩
        · go_enter Try.func36, Try.ntmps36
          go_wp2_with fail
          go_ret
          exact ⟨ret_bool HRR.out.symm, (Below.refl _ _).alloc (Nat.le_refl _) _⟩
      · go_enter Try.func36, Try.ntmps36
        go_wp2_with fail
        go_ret
        exact ⟨ret_bool HRR.out.symm, (Below.refl _ _).alloc (Nat.le_refl _) _⟩
  · have hr : R = false := by rw [HR.out, decide_eq_false (fun g => by omega)]; rfl
    have HRR := Lib.hid hr
    clear hr
    by_cases m1 : 0 ≤ min inc wit
    · by_cases m2 : max inc wit ≤ 1125899906842624
      · go_enter Try.func36, Try.ntmps36
        go_wp2_with fail
        go_ret
        exact ⟨ret_bool HRR.out.symm, (Below.refl _ _).alloc (Nat.le_refl _) _⟩
      · go_enter Try.func36, Try.ntmps36
        go_wp2_with fail
        go_ret
        exact ⟨ret_bool HRR.out.symm, (Below.refl _ _).alloc (Nat.le_refl _) _⟩
    · go_enter Try.func36, Try.ntmps36
      go_wp2_with fail
      go_ret
      exact ⟨ret_bool HRR.out.symm, (Below.refl _ _).alloc (Nat.le_refl _) _⟩

theorem asRight_any (r : Ret) (w : World) (hi : r.In) :
    Calls Try.prog 15 #[r.val] w fun e w' => e = .returned (.bool r.right) ∧ Below w.heap.size w w' := by
  have h := asFright_any r
  generalize r.right = R at *
  simp only [Ret.val] at *
  have H := Lib.hid h
  clear h
  go_enter Try.func15, Try.ntmps15
  go_wp2_with fail
  refine (H.out _ hi).mono ?_
  rintro e w1 ⟨rfl, hb⟩
  have hbl : Below w.heap.size w w1 := ((Below.refl _ _).alloc (Nat.le_refl _) _).trans (hb.mono (by simp))
  have HB := Lib.hid hbl
  clear hb hbl
  go_wp2_with fail
  go_ret
  exact ⟨rfl, HB.out⟩

theorem asLate_any (r : Ret) (w : World) (hi : r.In) (h : r.right = true) :
    Calls Try.prog 28 #[r.val] w fun e w' => e = .returned (.int .i64 (lateF r.due r.fil)) ∧ Below w.heap.size w w' := by
  have hm : monthsL r.due r.fil = (lateF r.due r.fil, 0) := by
    simp only [Ret.right, Bool.and_eq_true] at h
    simp [monthsL, h.1.2.1, h.1.2.2]
  have hd := hi.due
  have hf := hi.fil
  have hc := fun W => asMonths_any r.due r.fil W hd.1 hd.2 hf.1 hf.2
  generalize lateF r.due r.fil = L at *
  simp only [Ret.val] at *
  obtain ⟨per, due, fil, inc, wit⟩ := r
  simp only [] at *
  rw [hm] at hc
  have H := Lib.hid hc
  clear hc h hm hi hd hf
  have hb0 : Below w.heap.size w (w.alloc (.cells #[.int .i64 per, .int .i64 due, .int .i64 fil, .int .i64 inc, .int .i64 wit] 52)) := (Below.refl _ _).alloc (Nat.le_refl _) _
  have HB0 := Lib.hid hb0
  clear hb0
  go_enter Try.func28, Try.ntmps28
  go_wp2_with fail
  refine (H.out _).mono ?_
  rintro e w1 ⟨rfl, hb⟩
  unfold Pair
  have hbl : Below w.heap.size w w1 := HB0.out.trans (hb.mono HB0.out.size)
  have HB := Lib.hid hbl
  clear hb hbl
  go_wp2_with fail
  go_ret
  exact ⟨rfl, HB.out⟩
end Go.Proofs.Ytcjkofgbijdkcaa
