/- The law AssessAdds: the walk. -/
import Derived.WalkKit
import Derived.Outline
import Derived.Lib.Hide
import Derived.Handy
import Derived.Deep.QuietTactic
import Derived.BigQuiet
import Derived.Test.YtcjkofgbijdkcaaChange
namespace Go.Proofs.Ytcjkofgbijdkcaa
open Go.RowKit

theorem chg_same {s : Sch} {a b : Ret} (hp : a.per = b.per) (hd : b.due = a.due) (hf : b.fil = a.fil) :
    chgR s a b = if s.right && a.right && b.right then ⟨(billR s b).tax - (billR s a).tax, (billR s b).pri - (billR s a).pri, (billR s b).pen - (billR s a).pen, (billR s b).exc - (billR s a).exc, 0⟩ else ⟨0, 0, 0, 0, 1⟩ := by
  unfold chgR
  have e : ({ b with due := a.due, fil := a.fil } : Ret) = b := by rw [← hd, ← hf]
  rw [e, if_pos (⟨hp, by omega⟩ : a.per = b.per ∧ a.fil ≤ b.fil)]
theorem chg_err {s : Sch} {a b : Ret} : (chgR s a b).err = 0 → s.right = true ∧ a.right = true ∧ b.right = true := by
  unfold chgR
  cases h : (s.right && a.right && b.right)
  · simp
  · intro _
    simp only [Bool.and_eq_true] at h
    exact ⟨h.1.1, h.1.2, h.2⟩
theorem chg_bd {s : Sch} {a b : Ret} (hp : a.per = b.per) (hd : b.due = a.due) (hf : b.fil = a.fil) :
    (-1125899906842624 ≤ (chgR s a b).tax ∧ (chgR s a b).tax ≤ 1125899906842624) ∧ (-1125899906842624 ≤ (chgR s a b).pri ∧ (chgR s a b).pri ≤ 1125899906842624) ∧ (-1125899906842624 ≤ (chgR s a b).pen ∧ (chgR s a b).pen ≤ 1125899906842624) ∧ (-1125899906842624 ≤ (chgR s a b).exc ∧ (chgR s a b).exc ≤ 1125899906842624) := by
  rw [chg_same hp hd hf]
  split
  · rename_i h
    simp only [Bool.and_eq_true] at h
    have := bill_bd h.1.1 h.1.2
    have := bill_bd h.1.1 h.2
    simp only []
    omega
  · simp
theorem chg_adds {s : Sch} {a b c : Ret} (hp : a.per = b.per) (hd : b.due = a.due) (hf : b.fil = a.fil) (hp2 : b.per = c.per) (hd2 : c.due = b.due) (hf2 : c.fil = b.fil) (e1 : (chgR s a b).err = 0) (e2 : (chgR s b c).err = 0) :
    (chgR s a c).err = 0 ∧ (chgR s a b).tax + (chgR s b c).tax = (chgR s a c).tax ∧ (chgR s a b).pri + (chgR s b c).pri = (chgR s a c).pri ∧ (chgR s a b).pen + (chgR s b c).pen = (chgR s a c).pen ∧ (chgR s a b).exc + (chgR s b c).exc = (chgR s a c).exc := by
  obtain ⟨hs, ha, hb⟩ := chg_err e1
  obtain ⟨_, _, hc⟩ := chg_err e2
  rw [chg_same hp hd hf, chg_same hp2 hd2 hf2, chg_same (hp.trans hp2) (hd2.trans hd) (hf2.trans hf), hs, ha, hb, hc]
  refine ⟨rfl, ?_⟩
  simp only [Bool.and_self, if_true]
  omega

set_option maxRecDepth 100000 in
set_option maxHeartbeats 2000000 in
theorem assessAdds_walk (s : Sch) (a : Ret) (x0 x1 x2 x3 : Int) (w : World) (hs : s.In w) (ha : a.In) (h0 : i64 x0) (h1 : i64 x1) (h2 : i64 x2) (h3 : i64 x3) :
    Calls Try.prog 9 #[s.val, a.val, .agg #[.int .i64 x0, .int .i64 x1, .int .i64 x2, .int .i64 x3]] w fun e w' => e = .returned (.bool true) ∧ Below w.heap.size w w' := by
  have HI := Lib.hid hs
  have hib : Ret.In ⟨a.per, a.due, a.fil, x0, x1⟩ := ⟨ha.per, ha.due, ha.fil, h0, h1⟩
  have hic : Ret.In ⟨a.per, a.due, a.fil, x2, x3⟩ := ⟨ha.per, ha.due, ha.fil, h2, h3⟩
  have H1 := Lib.hid (fun W h => asChange_any s a ⟨a.per, a.due, a.fil, x0, x1⟩ W h ha hib)
  have H2 := Lib.hid (fun W h => asChange_any s ⟨a.per, a.due, a.fil, x0, x1⟩ ⟨a.per, a.due, a.fil, x2, x3⟩ W h hib hic)
  have H3 := Lib.hid (fun W h => asChange_any s a ⟨a.per, a.due, a.fil, x2, x3⟩ W h ha hic)
  have HM := Lib.hid (@chg_adds s a ⟨a.per, a.due, a.fil, x0, x1⟩ ⟨a.per, a.due, a.fil, x2, x3⟩ rfl rfl rfl rfl rfl rfl)
  have k1 := @chg_bd s a ⟨a.per, a.due, a.fil, x0, x1⟩ rfl rfl rfl
  have k2 := @chg_bd s ⟨a.per, a.due, a.fil, x0, x1⟩ ⟨a.per, a.due, a.fil, x2, x3⟩ rfl rfl rfl
  simp only [Sch.val, Ret.val, i64] at *
  generalize chgR s a ⟨a.per, a.due, a.fil, x0, x1⟩ = B1 at *
  generalize chgR s ⟨a.per, a.due, a.fil, x0, x1⟩ ⟨a.per, a.due, a.fil, x2, x3⟩ = B2 at *
  generalize chgR s a ⟨a.per, a.due, a.fil, x2, x3⟩ = B3 at *
  obtain ⟨p1, p2, p3, p4, p5⟩ := B1
  obtain ⟨q1, q2, q3, q4, q5⟩ := B2
  obtain ⟨t1, t2, t3, t4, t5⟩ := B3
  simp only [] at HM k1 k2
  simp only [Bil.val] at *
  clear hs ha hib hic
  go_enter Try.func9, Try.ntmps9
  go_wp2_with fail
  have HH0 := Lib.hid ((((HeldN.start w).push #[.slice s.A s.len s.cap, .int .i64 s.ded, .int .i64 s.cre, .int .i64 s.bp, .int .i64 s.most, .int .i64 s.least] 29).push_at (w.heap.size + 1) (by simp) #[.int .i64 a.per, .int .i64 a.due, .int .i64 a.fil, .int .i64 a.inc, .int .i64 a.wit] 31).push_at (w.heap.size + 1 + 1) (by simp) #[.int .i64 x0, .int .i64 x1, .int .i64 x2, .int .i64 x3] 43)
  generalize ((w.alloc (.cells #[.slice s.A s.len s.cap, .int .i64 s.ded, .int .i64 s.cre, .int .i64 s.bp, .int .i64 s.most, .int .i64 s.least] 29)).alloc (.cells #[.int .i64 a.per, .int .i64 a.due, .int .i64 a.fil, .int .i64 a.inc, .int .i64 a.wit] 31)).alloc (.cells #[.int .i64 x0, .int .i64 x1, .int .i64 x2, .int .i64 x3] 43) = W0 at *
  refine (awake16 _).mono ?_
  rintro e w1 ⟨rfl, hb1⟩
  have HH1 := Lib.hid (HH0.out.call hb1)
  have eX := HH1.out.cell
  have eA := HH1.out.tail.cell
  have eS := HH1.out.tail.tail.cell
  have zX := HH1.out.lt
  have zA := HH1.out.tail.lt
  have zS := HH1.out.tail.tail.lt
  have HB1 := Lib.hid HH1.out.2.1
  simp only [] at eX eA eS zX zA zS
  clear hb1
  by_cases cl : 1000 < s.len
  · have cl2 : decide ((1000 : Int) < (s.len : Int)) = true := decide_eq_true (by omega)
    go_wp2_with fail
    go_ret
    exact ⟨rfl, HB1.out⟩
  · have cl2 : decide ((1000 : Int) < (s.len : Int)) = false := decide_eq_false (by omega)
    go_wp2_with fail
    have HH2 := Lib.hid ((HH1.out.push #[.int .i64 a.per, .int .i64 a.due, .int .i64 a.fil, .int .i64 x0, .int .i64 x1] 31).push_at (w1.heap.size + 1) (by simp) #[.int .i64 a.per, .int .i64 a.due, .int .i64 a.fil, .int .i64 x2, .int .i64 x3] 31)
    clear eX eA eS zX zA zS HB1
    generalize (w1.alloc (.cells #[.int .i64 a.per, .int .i64 a.due, .int .i64 a.fil, .int .i64 x0, .int .i64 x1] 31)).alloc (.cells #[.int .i64 a.per, .int .i64 a.due, .int .i64 a.fil, .int .i64 x2, .int .i64 x3] 31) = v1 at *
    refine (H1.out _ (HI.out.below HH2.out.2.1 (Nat.le_refl _))).mono ?_
    rintro e w2 ⟨rfl, hb2⟩
    have HH3 := Lib.hid ((HH2.out.call hb2).push #[.int .i64 p1, .int .i64 p2, .int .i64 p3, .int .i64 p4] 33)
    have eC := (HH2.out.call hb2).cell
    have eB := (HH2.out.call hb2).tail.cell
    have eA := (HH2.out.call hb2).tail.tail.tail.cell
    have eS := (HH2.out.call hb2).tail.tail.tail.tail.cell
    have zC := (HH2.out.call hb2).lt
    have zB := (HH2.out.call hb2).tail.lt
    have zA := (HH2.out.call hb2).tail.tail.tail.lt
    have zS := (HH2.out.call hb2).tail.tail.tail.tail.lt
    simp only [] at eC eB eA eS zC zB zA zS
    clear hb2
    go_wp2_with fail
    clear eC eB eA eS zC zB zA zS
    generalize w2.alloc (.cells #[.int .i64 p1, .int .i64 p2, .int .i64 p3, .int .i64 p4] 33) = v2 at *
    refine (H2.out _ (HI.out.below HH3.out.2.1 (Nat.le_refl _))).mono ?_
    rintro e w3 ⟨rfl, hb3⟩
    have HH4 := Lib.hid ((HH3.out.call hb3).push #[.int .i64 q1, .int .i64 q2, .int .i64 q3, .int .i64 q4] 33)
    have eC := (HH3.out.call hb3).tail.cell
    have eA := (HH3.out.call hb3).tail.tail.tail.tail.cell
    have eS := (HH3.out.call hb3).tail.tail.tail.tail.tail.cell
    have zC := (HH3.out.call hb3).tail.lt
    have zA := (HH3.out.call hb3).tail.tail.tail.tail.lt
    have zS := (HH3.out.call hb3).tail.tail.tail.tail.tail.lt
    simp only [] at eC eA eS zC zA zS
    clear hb3
    go_wp2_with fail
    clear eC eA eS zC zA zS
    generalize w3.alloc (.cells #[.int .i64 q1, .int .i64 q2, .int .i64 q3, .int .i64 q4] 33) = v3 at *
    refine (H3.out _ (HI.out.below HH4.out.2.1 (Nat.le_refl _))).mono ?_
    rintro e w4 ⟨rfl, hb4⟩
    have HH5 := Lib.hid (HH4.out.call hb4)
    have eQ := HH5.out.cell
    have eP := HH5.out.tail.cell
    have zQ := HH5.out.lt
    have zP := HH5.out.tail.lt
    have HB5 := Lib.hid HH5.out.2.1
    have hw4 := HH5.out.2.2
    simp only [] at eQ eP zQ zP
    clear hb4
    by_cases c1 : p5 = 0
    · by_cases c2 : q5 = 0
      · obtain ⟨rfl, m1, m2, m3, m4⟩ := HM.out c1 c2
        subst c1 c2
        have e1 : IntKind.i64.wrap (p1 + q1) = t1 := by rw [m1, IntKind.wrap_i64]; omega
        have e2 : IntKind.i64.wrap (p2 + q2) = t2 := by rw [m2, IntKind.wrap_i64]; omega
        have e3 : IntKind.i64.wrap (p3 + q3) = t3 := by rw [m3, IntKind.wrap_i64]; omega
        have e4 : IntKind.i64.wrap (p4 + q4) = t4 := by rw [m4, IntKind.wrap_i64]; omega
        go_wp2_with fail
        go_ret
        exact ⟨rfl, by
          repeat' (first | (with_reducible exact HB5.out) | (with_reducible refine Below.alloc ?_ ?_ _) | omega | (simp; omega))⟩
      · have c2' : (q5 == 0) = false := by simpa using c2
        go_wp2_with fail
        go_ret
        exact ⟨rfl, by
          repeat' (first | (with_reducible exact HB5.out) | (with_reducible refine Below.alloc ?_ ?_ _) | omega | (simp; omega))⟩
    · have c1' : (p5 == 0) = false := by simpa using c1
      go_wp2_with fail
      go_ret
      exact ⟨rfl, by
          repeat' (first | (with_reducible exact HB5.out) | (with_reducible refine Below.alloc ?_ ?_ _) | omega | (simp; omega))⟩
end Go.Proofs.Ytcjkofgbijdkcaa
