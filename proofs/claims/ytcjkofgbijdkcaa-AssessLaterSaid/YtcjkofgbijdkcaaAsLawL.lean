/- The law AssessLater: the walk. -/
import Derived.WalkKit
import Derived.Outline
import Derived.Lib.Hide
import Derived.Handy
import Derived.Deep.QuietTactic
import Derived.BigQuiet
import Derived.Test.YtcjkofgbijdkcaaAsLawS
namespace Go.Proofs.Ytcjkofgbijdkcaa
open Go.RowKit

theorem penR_mono {s : Sch} {P l m : Int} (hs : s.right = true) (p0 : 0 ≤ P) (p1 : P ≤ 1125899906842624) (l0 : 0 ≤ l) (h : l ≤ m) : penR s P l ≤ penR s P m := by
  obtain ⟨h1, h2, h3, h4, h5, h6⟩ := Sch.heads_iff.1 (show s.heads = true by simp only [Sch.right, Bool.and_eq_true] at hs; exact hs.1.1.1)
  have hld := Sch.right_ded hs
  have hb := penR_bd (l := m) hs p0 p1 (by omega)
  by_cases c : 0 < P ∧ 0 < l
  · unfold penR
    rw [if_pos c, if_pos ⟨c.1, by omega⟩]
    have q1 : s.bp * min l s.most ≤ s.bp * min m s.most := Int.mul_le_mul_of_nonneg_left (by omega) h3
    have q2 := Int.mul_le_mul_of_nonneg_left q1 p0
    have q3 : P * (s.bp * min l s.most) / 10000 ≤ P * (s.bp * min m s.most) / 10000 := Int.ediv_le_ediv (by omega) q2
    omega
  · have : penR s P l = 0 := by unfold penR; rw [if_neg c]
    omega
/-- a bill of a return that was filed later -/
theorem bill_later {s : Sch} {r : Ret} {d : Int} (hs : s.right = true) (hr : r.right = true) (d0 : 0 ≤ d) (d1 : d ≤ 3652058 - r.fil) :
    (billR s r).err = 0 ∧ (billR s { r with fil := r.fil + d }).err = 0 ∧ (billR s { r with fil := r.due }).err = 0 ∧ (billR s r).pen ≤ (billR s { r with fil := r.fil + d }).pen ∧ (billR s { r with fil := r.due }).pen = 0 ∧
    (billR s r).pri = (billR s { r with fil := r.fil + d }).pri ∧ (billR s { r with fil := r.fil + d }).pri = (billR s { r with fil := r.due }).pri ∧ (billR s r).tax = (billR s { r with fil := r.fil + d }).tax ∧ (billR s r).exc = (billR s { r with fil := r.due }).exc := by
  obtain ⟨hp, ⟨hd, hf⟩, hi, hw⟩ := Ret.right_iff.1 hr
  have hf' := isDy_iff.1 hf
  have hfl : isDy (r.fil + d) = true := isDy_iff.2 (by omega)
  have hr2 : Ret.right { r with fil := r.fil + d } = true := Ret.right_iff.2 ⟨hp, ⟨hd, hfl⟩, hi, hw⟩
  have hr3 : Ret.right { r with fil := r.due } = true := Ret.right_iff.2 ⟨hp, ⟨hd, hd⟩, hi, hw⟩
  have hb := @tax_bd s r.inc
  have e1 : billR s r = ⟨(taxR s r.inc).1, max ((taxR s r.inc).1 - r.wit) 0, penR s (max ((taxR s r.inc).1 - r.wit) 0) (lateF r.due r.fil), max (r.wit - (taxR s r.inc).1) 0, 0⟩ := by simp [billR, hs, hr]
  have e2 : billR s { r with fil := r.fil + d } = ⟨(taxR s r.inc).1, max ((taxR s r.inc).1 - r.wit) 0, penR s (max ((taxR s r.inc).1 - r.wit) 0) (lateF r.due (r.fil + d)), max (r.wit - (taxR s r.inc).1) 0, 0⟩ := by simp [billR, hs, hr2]
  have e3 : billR s { r with fil := r.due } = ⟨(taxR s r.inc).1, max ((taxR s r.inc).1 - r.wit) 0, penR s (max ((taxR s r.inc).1 - r.wit) 0) (lateF r.due r.due), max (r.wit - (taxR s r.inc).1) 0, 0⟩ := by simp [billR, hs, hr3]
  rw [e1, e2, e3]
  have hl := lateF_bd r.due r.fil hd hf
  have hm := lateF_mono r.due r.fil (r.fil + d) hd hf hfl (by omega)
  have hpm := penR_mono (P := max ((taxR s r.inc).1 - r.wit) 0) hs (by omega) (by omega) hl.1 hm
  refine ⟨rfl, rfl, rfl, hpm, ?_, rfl, rfl, rfl, rfl⟩
  show penR s _ (lateF r.due r.due) = 0
  rw [lateF_none (Int.le_refl _)]
  unfold penR
  rw [if_neg (by omega)]

set_option maxRecDepth 100000 in
set_option maxHeartbeats 1000000 in
theorem assessLater_walk (s : Sch) (r : Ret) (d : Int) (w : World) (hs : s.In w) (hr : r.In) (d1 : -9223372036854775808 ≤ d) (d2 : d ≤ 9223372036854775807) :
    Calls Try.prog 7 #[s.val, r.val, .int .i64 d] w fun e w' => e = .returned (.bool true) ∧ Below w.heap.size w w' := by
  have HI := Lib.hid hs
  have H1 := Lib.hid (fun W h => r15right_any s W h)
  have H2 := Lib.hid (fun W => r16right_any r W hr)
  have HH0 := Lib.hid (heldL_new s r w)
  have HRight := Lib.hid (@Ret.right_iff r)
  have HL := Lib.hid (@bill_later s r d)
  have HB1 := Lib.hid (fun W h => asBill_any s r W h hr)
  have HB2 := Lib.hid (fun x W h hr => asBill_any s { r with fil := x } W h hr)
  have HRI := Lib.hid (fun (x : Int) (hx : i64 x) => (⟨hr.per, hr.due, hx, hr.inc, hr.wit⟩ : Ret.In { r with fil := x }))
  have hdu := hr.due
  have hfi := hr.fil
  simp only [Sch.val, Ret.val, Bil.val, i64] at *
  clear hs hr
  go_enter Try.func7, Try.ntmps7
  go_wp2_with fail
  generalize ((w.alloc (.cells #[.slice s.A s.len s.cap, .int .i64 s.ded, .int .i64 s.cre, .int .i64 s.bp, .int .i64 s.most, .int .i64 s.least] 29)).alloc (.cells #[.int .i64 r.per, .int .i64 r.due, .int .i64 r.fil, .int .i64 r.inc, .int .i64 r.wit] 31)) = W0 at *
  refine (awake16 _).mono ?_
  rintro e w1 ⟨rfl, hb1⟩
  have HH1 := Lib.hid (HH0.out.call hb1)
  have eS := HH1.out.atS
  clear hb1
  go_wp2_with fail
  refine (H1.out _ (HH1.out.inn HI.out)).mono ?_
  rintro e w2 ⟨rfl, hb2⟩
  have HH2 := Lib.hid (HH1.out.call hb2)
  have eR := HH2.out.atR
  clear hb2 eS
  go_wp2_with fail
  refine (H2.out _).mono ?_
  rintro e w3 ⟨rfl, hb3⟩
  have HH3 := Lib.hid (HH2.out.call hb3)
  clear eR
  have eS := HH3.out.atS
  have eR := HH3.out.atR
  have hsS := own_lt HH3.out.1
  have hsR := own_lt HH3.out.2.1
  have HB3 := Lib.hid HH3.out.2.2.1
  clear hb3
  generalize hq1 : s.right = R1 at *
  generalize hq2 : r.right = R2 at *
  have HQ1 := Lib.hid hq1; have HQ2 := Lib.hid hq2
  clear hq1 hq2
  cases R1
  case false =>
    go_wp2_with fail
    go_ret
    exact ⟨rfl, HB3.out⟩
  case true =>
  cases R2
  case false =>
    go_wp2_with fail
    go_ret
    exact ⟨rfl, HB3.out⟩
  case true =>
    have hdy := isDy_iff.1 (HRight.out.1 rfl).2.1.2
    have hdz := isDy_iff.1 (HRight.out.1 rfl).2.1.1
    have c3 : decide (r.fil < 0) = false := decide_eq_false (by omega)
    by_cases c1 : d < 0
    · go_wp2_with fail
      go_ret
      exact ⟨rfl, HB3.out⟩
    · by_cases c2 : 3652058 - r.fil < d
      · go_wp2_with fail
        go_ret
        exact ⟨rfl, HB3.out⟩
      · have hl := HL.out rfl rfl (by omega) (by omega)
        have HX2 := Lib.hid (fun W h => HB2.out (r.fil + d) W h (HRI.out _ (by omega)))
        have HX3 := Lib.hid (fun W h => HB2.out r.due W h (HRI.out _ (by omega)))
        generalize billR s r = B1 at *
        generalize billR s { r with fil := r.fil + d } = B2 at *
        generalize billR s { r with fil := r.due } = B3 at *
        obtain ⟨p1, p2, p3, p4, p5⟩ := B1
        obtain ⟨q1, q2, q3, q4, q5⟩ := B2
        obtain ⟨t1, t2, t3, t4, t5⟩ := B3
        simp only [] at hl HX2 HX3 HB1
        obtain ⟨rfl, rfl, rfl, l1, rfl, l2, l3, l4, l5⟩ := hl
        clear HL HRight HB2 HRI HQ1 HQ2
        have L1 := Lib.hid l1; have L2 := Lib.hid l2; have L3 := Lib.hid l3; have L4 := Lib.hid l4; have L5 := Lib.hid l5
        clear l1 l2 l3 l4 l5
        go_wp2_with fail
        have hh4 := (HH3.out.alloc (.cells #[.int .i64 r.per, .int .i64 r.due, .int .i64 (r.fil + d), .int .i64 r.inc, .int .i64 r.wit] 31)).alloc (.cells #[.int .i64 r.per, .int .i64 r.due, .int .i64 r.due, .int .i64 r.inc, .int .i64 r.wit] 31)
        have ho1 : Own ((w3.alloc (.cells #[.int .i64 r.per, .int .i64 r.due, .int .i64 (r.fil + d), .int .i64 r.inc, .int .i64 r.wit] 31)).alloc (.cells #[.int .i64 r.per, .int .i64 r.due, .int .i64 r.due, .int .i64 r.inc, .int .i64 r.wit] 31)) w3.heap.size #[.int .i64 r.per, .int .i64 r.due, .int .i64 (r.fil + d), .int .i64 r.inc, .int .i64 r.wit] 31 := own_alloc (own_new _ _ _) _
        have ho2 : Own ((w3.alloc (.cells #[.int .i64 r.per, .int .i64 r.due, .int .i64 (r.fil + d), .int .i64 r.inc, .int .i64 r.wit] 31)).alloc (.cells #[.int .i64 r.per, .int .i64 r.due, .int .i64 r.due, .int .i64 r.inc, .int .i64 r.wit] 31)) (w3.heap.size + 1) #[.int .i64 r.per, .int .i64 r.due, .int .i64 r.due, .int .i64 r.inc, .int .i64 r.wit] 31 := own_new_at _ _ _ _ (by simp)
        have HH4 := Lib.hid hh4; have HO1 := Lib.hid ho1; have HO2 := Lib.hid ho2
        clear hh4 ho1 ho2
        generalize (w3.alloc (.cells #[.int .i64 r.per, .int .i64 r.due, .int .i64 (r.fil + d), .int .i64 r.inc, .int .i64 r.wit] 31)).alloc (.cells #[.int .i64 r.per, .int .i64 r.due, .int .i64 r.due, .int .i64 r.inc, .int .i64 r.wit] 31) = w4 at *
        refine (HB1.out _ (HH4.out.inn HI.out)).mono ?_
        rintro e w5 ⟨rfl, hb5⟩
        have HH5 := Lib.hid (HH4.out.call hb5)
        have ho1 := own_below HO1.out hb5 (own_lt HO1.out)
        have ho2 := own_below HO2.out hb5 (own_lt HO2.out)
        clear eS eR hsS hsR
        have eS := HH5.out.atS
        have eL := own_cell ho1
        have hz1 := own_lt ho1
        have hz0 := own_lt HH5.out.1
        have HP1 := Lib.hid ho1; have HP2 := Lib.hid ho2
        clear ho1 ho2 hb5
        go_wp2_with fail
        have hh := HH5.out.alloc (.cells #[.int .i64 p1, .int .i64 p2, .int .i64 p3, .int .i64 p4] 33)
        have ho2 := own_alloc HP2.out (.cells #[.int .i64 p1, .int .i64 p2, .int .i64 p3, .int .i64 p4] 33)
        have ho3 : Own (w5.alloc (.cells #[.int .i64 p1, .int .i64 p2, .int .i64 p3, .int .i64 p4] 33)) w5.heap.size #[.int .i64 p1, .int .i64 p2, .int .i64 p3, .int .i64 p4] 33 := own_new _ _ _
        clear eS eL
        generalize w5.alloc (.cells #[.int .i64 p1, .int .i64 p2, .int .i64 p3, .int .i64 p4] 33) = v5 at *
        refine (HX2.out _ (hh.inn HI.out)).mono ?_
        rintro e w6 ⟨rfl, hb6⟩
        have HH6 := Lib.hid (hh.call hb6)
        have hr2 := own_below ho2 hb6 (own_lt ho2)
        have ha := own_below ho3 hb6 (own_lt ho3)
        have eS := HH6.out.atS
        have eL := own_cell hr2
        have hz1 := own_lt hr2
        have hz0 := own_lt HH6.out.1
        have HA6 := Lib.hid ha
        clear hh ho2 ho3 hr2 ha hb6 HP1 HP2 HO1 HO2
        go_wp2_with fail
        have hh := HH6.out.alloc (.cells #[.int .i64 q1, .int .i64 q2, .int .i64 q3, .int .i64 q4] 33)
        have ho2 := own_alloc HA6.out (.cells #[.int .i64 q1, .int .i64 q2, .int .i64 q3, .int .i64 q4] 33)
        have ho3 : Own (w6.alloc (.cells #[.int .i64 q1, .int .i64 q2, .int .i64 q3, .int .i64 q4] 33)) w6.heap.size #[.int .i64 q1, .int .i64 q2, .int .i64 q3, .int .i64 q4] 33 := own_new _ _ _
        clear eS eL
        generalize w6.alloc (.cells #[.int .i64 q1, .int .i64 q2, .int .i64 q3, .int .i64 q4] 33) = v6 at *
        refine (HX3.out _ (hh.inn HI.out)).mono ?_
        rintro e w7 ⟨rfl, hb7⟩
        have HH7 := Lib.hid (hh.call hb7)
        have ha := own_below ho2 hb7 (own_lt ho2)
        have hb := own_below ho3 hb7 (own_lt ho3)
        have eA := own_cell ha
        have eB := own_cell hb
        have hz5 := own_lt ha
        have hz6 := own_lt hb
        have HB7 := Lib.hid HH7.out.2.2.1
        have hz7 := own_lt HH7.out.1
        clear hh ho2 ho3 ha hb hb7
        obtain l1 := L1.out
        obtain l2 := L2.out
        obtain l3 := L3.out
        obtain l4 := L4.out
        obtain l5 := L5.out
        subst l2 l3 l4 l5
        go_wp2_with fail
        go_ret
        exact ⟨rfl, HB7.out.alloc (by omega) _⟩
end Go.Proofs.Ytcjkofgbijdkcaa
