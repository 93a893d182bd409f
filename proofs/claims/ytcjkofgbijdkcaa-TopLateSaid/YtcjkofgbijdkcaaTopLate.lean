/- The law TopLate: the walk. -/
import Derived.WalkKit
import Derived.Outline
import Derived.Lib.Hide
import Derived.Handy
import Derived.Deep.QuietTactic
import Derived.BigQuiet
import Derived.Deep.RegionHeld3
import Derived.Test.YtcjkofgbijdkcaaAsLawS
import Derived.Test.YtcjkofgbijdkcaaTopLateM
namespace Go.Proofs.Ytcjkofgbijdkcaa
open Go.RowKit

set_option maxRecDepth 100000 in
set_option maxHeartbeats 1000000 in
theorem topPenalty_any (s : Sch) (P l : Int) (w : World) (hr : s.right = true) (p0 : 0 ≤ P) (p1 : P ≤ 1125899906842624) (l0 : 0 ≤ l) (l1 : l ≤ 1000) :
    Calls Try.prog 19 #[s.val, .int .i64 P, .int .i64 l] w fun e w' => e = .returned (.int .i64 (penR s P l)) ∧ Below w.heap.size w w' := by
  obtain ⟨h1, h2, h3, h4, h5, h6⟩ := Sch.heads_iff.1 (show s.heads = true by simp only [Sch.right, Bool.and_eq_true] at hr; exact hr.1.1.1)
  have hld := Sch.right_ded hr
  have HPn : Hid (penR s P l = if 0 < P ∧ 0 < l then min (max (P * (s.bp * min l s.most) / 10000) s.least) P else 0) := Lib.hid rfl
  have hrb := rate_bd h3 h4 h5 h6 (show 0 ≤ l by omega)
  have hmp := mulDivR_pen p0 p1 hrb.1 hrb.2
  generalize penR s P l = R at *
  obtain ⟨A, len, cap, zs, ded, cre, bp, most, least⟩ := s
  simp only [Sch.val] at *
  clear hr
  by_cases c1 : l = 0
  · have hR : R = 0 := by rw [HPn.out, if_neg (by omega)]
    have HR := Lib.hid hR
    clear hR hmp
    subst c1
    go_enter Try.func19, Try.ntmps19
    go_wp2_with fail
    go_ret
    exact ⟨ret_int HR.out.symm, (Below.refl _ _).alloc (Nat.le_refl _) _⟩
  · by_cases c2 : P = 0
    · have hR : R = 0 := by rw [HPn.out, if_neg (by omega)]
      have HR := Lib.hid hR
      clear hR hmp
      subst c2
      go_enter Try.func19, Try.ntmps19
      go_wp2_with fail
      go_ret
      exact ⟨ret_int HR.out.symm, (Below.refl _ _).alloc (Nat.le_refl _) _⟩
    · have hR : R = min (max (P * (bp * min l most) / 10000) least) P := by rw [HPn.out, if_pos (by omega)]
      have HR := Lib.hid hR
      clear hR
      have c1' : (l == 0) = false := by simpa using c1
      have c2' : (P == 0) = false := by simpa using c2
      go_enter Try.func19, Try.ntmps19
      go_wp2_with fail
      have ho : Own (w.alloc (.cells #[.slice A len cap, .int .i64 ded, .int .i64 cre, .int .i64 bp, .int .i64 most, .int .i64 least] 29)) w.heap.size #[.slice A len cap, .int .i64 ded, .int .i64 cre, .int .i64 bp, .int .i64 most, .int .i64 least] 29 := own_new _ _ _
      have hb : Below w.heap.size w (w.alloc (.cells #[.slice A len cap, .int .i64 ded, .int .i64 cre, .int .i64 bp, .int .i64 most, .int .i64 least] 29)) := (Below.refl _ _).alloc (Nat.le_refl _) _
      have hs : w.heap.size < (w.alloc (.cells #[.slice A len cap, .int .i64 ded, .int .i64 cre, .int .i64 bp, .int .i64 most, .int .i64 least] 29)).heap.size := by simp
      generalize w.alloc (.cells #[.slice A len cap, .int .i64 ded, .int .i64 cre, .int .i64 bp, .int .i64 most, .int .i64 least] 29) = w1 at *
      refine (mulDiv_any P (bp * min l most) 10000 _ (by omega) (by omega) (by omega) (by omega) (by omega) (by omega)).mono ?_
      rintro e w2 ⟨rfl, hb2⟩
      rw [hmp.1]
      unfold Pair
      have hq := hmp.2
      generalize P * (bp * min l most) / 10000 = q at *
      have e2 := own_cell (own_below ho hb2 hs)
      have HB2 := Lib.hid (hb.trans (hb2.mono (by omega)))
      clear hb hb2 ho hmp
      go_wp2_with fail
      go_ret
      exact ⟨ret_int HR.out.symm, HB2.out⟩

theorem HeldL.fil {s : Sch} {r : Ret} {a b : Nat} {w W : World} (h : HeldL s r a b w W) (hab : a ≠ b) (hB : w.heap.size ≤ b) (x : Int) : HeldL s { r with fil := x } a b w (W.setCell ⟨b, 2, none⟩ (.int .i64 x)) :=
  ⟨own_far h.1 hab _ _, own_set h.2.1 2 (.int .i64 x), h.2.2.1.setCell hB _, by simpa using h.2.2.2⟩

/-- three blocks of this call hold what they held; what was there ahead of it is as it was -/
def Held3 (B g0 g1 g2 : Nat) (c0 c1 c2 : Array Value) (t0 t1 t2 : TypeId) (w W : World) : Prop :=
  Own W g0 c0 t0 ∧ Own W g1 c1 t1 ∧ Own W g2 c2 t2 ∧ Below B w W ∧ B ≤ W.heap.size
theorem Held3.call {B g0 g1 g2 : Nat} {c0 c1 c2 : Array Value} {t0 t1 t2 : TypeId} {w W W' : World} (h : Held3 B g0 g1 g2 c0 c1 c2 t0 t1 t2 w W) (hb : Below W.heap.size W W') : Held3 B g0 g1 g2 c0 c1 c2 t0 t1 t2 w W' :=
  ⟨own_below h.1 hb (own_lt h.1), own_below h.2.1 hb (own_lt h.2.1), own_below h.2.2.1 hb (own_lt h.2.2.1), h.2.2.2.1.trans (hb.mono h.2.2.2.2), Nat.le_trans h.2.2.2.2 hb.size⟩
theorem Held3.drew {B g0 g1 g2 : Nat} {c0 c1 c2 : Array Value} {t0 t1 t2 : TypeId} {w W : World} (h : Held3 B g0 g1 g2 c0 c1 c2 t0 t1 t2 w W) : Held3 B g0 g1 g2 c0 c1 c2 t0 t1 t2 w W.drew :=
  ⟨h.1, h.2.1, h.2.2.1, below_drewN h.2.2.2.1 1, h.2.2.2.2⟩
theorem Held3.alloc {B g0 g1 g2 : Nat} {c0 c1 c2 : Array Value} {t0 t1 t2 : TypeId} {w W : World} (h : Held3 B g0 g1 g2 c0 c1 c2 t0 t1 t2 w W) (o : Obj) : Held3 B g0 g1 g2 c0 c1 c2 t0 t1 t2 w (W.alloc o) :=
  ⟨own_alloc h.1 o, own_alloc h.2.1 o, own_alloc h.2.2.1 o, h.2.2.2.1.alloc h.2.2.2.2 o, Nat.le_trans h.2.2.2.2 (by simp)⟩
theorem Held3.at0 {B g0 g1 g2 : Nat} {c0 c1 c2 : Array Value} {t0 t1 t2 : TypeId} {w W : World} (h : Held3 B g0 g1 g2 c0 c1 c2 t0 t1 t2 w W) : ∀ i, W.cell? ⟨g0, i, none⟩ = c0[i]? := own_cell h.1
theorem Held3.at1 {B g0 g1 g2 : Nat} {c0 c1 c2 : Array Value} {t0 t1 t2 : TypeId} {w W : World} (h : Held3 B g0 g1 g2 c0 c1 c2 t0 t1 t2 w W) : ∀ i, W.cell? ⟨g1, i, none⟩ = c1[i]? := own_cell h.2.1
theorem Held3.at2 {B g0 g1 g2 : Nat} {c0 c1 c2 : Array Value} {t0 t1 t2 : TypeId} {w W : World} (h : Held3 B g0 g1 g2 c0 c1 c2 t0 t1 t2 w W) : ∀ i, W.cell? ⟨g2, i, none⟩ = c2[i]? := own_cell h.2.2.1
theorem Held3.frz1 {B g0 g1 g2 : Nat} {c0 c1 c2 : Array Value} {t0 t1 t2 : TypeId} {w W : World} (h : Held3 B g0 g1 g2 c0 c1 c2 t0 t1 t2 w W) : ∀ i, W.frozen? ⟨g1, i, none⟩ = false := own_frz h.2.1

/-- two bills: filed l months behind the due day; a day later -/
theorem bills_late {s : Sch} {r : Ret} {y m d l : Int} (hs : s.right = true) (hr : r.right = true) (h : IsDate r.due y m d) (l0 : 0 ≤ l) (c : (monthsR y m d l).2 = 0) (c2 : (monthsR y m d l).1 < 3652058) :
    (billR s { r with fil := (monthsR y m d l).1 }).err = 0 ∧ (billR s { r with fil := (monthsR y m d l).1 + 1 }).err = 0 ∧
    penR s (billR s { r with fil := (monthsR y m d l).1 }).pri l = (billR s { r with fil := (monthsR y m d l).1 }).pen ∧ penR s (billR s { r with fil := (monthsR y m d l).1 + 1 }).pri (l + 1) = (billR s { r with fil := (monthsR y m d l).1 + 1 }).pen ∧
    0 ≤ (billR s { r with fil := (monthsR y m d l).1 }).pri ∧ (billR s { r with fil := (monthsR y m d l).1 }).pri ≤ 1125899906842624 ∧ 0 ≤ (billR s { r with fil := (monthsR y m d l).1 + 1 }).pri ∧ (billR s { r with fil := (monthsR y m d l).1 + 1 }).pri ≤ 1125899906842624 := by
  obtain ⟨hp, ⟨hd, hf⟩, hi, hw⟩ := Ret.right_iff.1 hr
  obtain ⟨hb, e1, e2⟩ := late_at h l0 c
  have e2 := e2 c2
  generalize (monthsR y m d l).1 = n at *
  have hr2 : Ret.right { r with fil := n } = true := Ret.right_iff.2 ⟨hp, ⟨hd, isDy_iff.2 hb⟩, hi, hw⟩
  have hr3 : Ret.right { r with fil := n + 1 } = true := Ret.right_iff.2 ⟨hp, ⟨hd, isDy_iff.2 (show 0 ≤ n + 1 ∧ n + 1 ≤ 3652058 by omega)⟩, hi, hw⟩
  have b2 := bill_bd hs hr2
  have b3 := bill_bd hs hr3
  refine ⟨b2.1, b3.1, ?_, ?_, b2.2.1, b2.2.2.1, b3.2.1, b3.2.2.1⟩
  · simp only [billR, hs, hr2, Bool.and_self, if_true, e1]
  · simp only [billR, hs, hr3, Bool.and_self, if_true, e2]

theorem civMonths_at {n l y m d : Int} (w : World) (h : IsDate n y m d) (l1 : -120000 ≤ l) (l2 : l ≤ 120000) :
    Calls Try.prog 17 #[.int .i64 n, .int .i64 l] w fun e w' => e = .returned (.tuple #[.int .i64 (monthsR y m d l).1, .int .i64 (monthsR y m d l).2]) ∧ Below w.heap.size w w' := by
  refine (civMonths_ok n l w h.bd.1 h.bd.2 l1 l2).mono ?_
  rintro e w' ⟨y', m', d', h', rfl, hb⟩
  obtain ⟨rfl, rfl, rfl⟩ := h.uniq h'
  exact ⟨rfl, hb⟩

set_option maxRecDepth 100000 in
set_option maxHeartbeats 2000000 in
theorem topLate_walk (s : Sch) (r : Ret) (l : Int) (w : World) (hs : s.In w) (hr : r.In) (l1 : -9223372036854775808 ≤ l) (l2 : l ≤ 9223372036854775807) :
    Calls Try.prog 5 #[s.val, r.val, .int .i64 l] w fun e w' => e = .returned (.bool true) ∧ Below w.heap.size w w' := by
  have HI := Lib.hid hs
  have H1 := Lib.hid (fun W h => r15right_any s W h)
  have H2 := Lib.hid (fun W => r16right_any r W hr)
  have HH0 := Lib.hid (heldL_new s r w)
  have HRight := Lib.hid (@Ret.right_iff r)
  have HR10 := Lib.hid (@Sch.right_at s)
  have HL := Lib.hid (fun y m d => @bills_late s r y m d l)
  have HPn := Lib.hid (fun P k W a b c d e => topPenalty_any s P k W a b c d e)
  have HB2 := Lib.hid (fun x W h hr => asBill_any s { r with fil := x } W h hr)
  have HRI := Lib.hid (fun (x : Int) (hx : i64 x) => (⟨hr.per, hr.due, hx, hr.inc, hr.wit⟩ : Ret.In { r with fil := x }))
  have hM := fun W => civMonths_at (l := 1) W date_100 (by omega) (by omega)
  rw [months_100] at hM
  have HM := Lib.hid hM
  have hdu := hr.due
  have hfi := hr.fil
  simp only [Sch.val, Ret.val, Bil.val, i64] at *
  clear hs hr hM
  go_enter Try.func5, Try.ntmps5
  go_wp2_with fail
  generalize ((w.alloc (.cells #[.slice s.A s.len s.cap, .int .i64 s.ded, .int .i64 s.cre, .int .i64 s.bp, .int .i64 s.most, .int .i64 s.least] 29)).alloc (.cells #[.int .i64 r.per, .int .i64 r.due, .int .i64 r.fil, .int .i64 r.inc, .int .i64 r.wit] 31)) = W0 at *
  refine (HM.out _).mono ?_
  rintro e w1 ⟨rfl, hb1⟩
  have HH1 := Lib.hid (HH0.out.call hb1)
  have eS := HH1.out.atS
  clear hb1
  go_wp2_with fail
  refine (H1.out _ (HH1.out.inn HI.out)).mono ?_
  rintro e w2 ⟨rfl, hb2⟩
  have HH2 := Lib.hid (HH1.out.call hb2)
  have eR := HH2.out.atR
  clear hb2 eS
  go_wp2_with fail
  refine (H2.out _).mono ?_
  rintro e w3 ⟨rfl, hb3⟩
  have HH3 := Lib.hid (HH2.out.call hb3)
  clear eR
  have eS := HH3.out.atS
  have eR := HH3.out.atR
  have eF := HH3.out.frzR
  have hsS := own_lt HH3.out.1
  have hsR := own_lt HH3.out.2.1
  have HB3 := Lib.hid HH3.out.2.2.1
  clear hb3
  generalize hq1 : s.right = R1 at *
  generalize hq2 : r.right = R2 at *
  clear hq1 hq2
  cases R1
  case false =>
    go_wp2_with fail
    go_ret
    exact ⟨rfl, HB3.out⟩
  case true =>
  cases R2
  case false =>
    go_wp2_with fail
    go_ret
    exact ⟨rfl, HB3.out⟩
  case true =>
    have hdy := isDy_iff.1 (HRight.out.1 rfl).2.1.2
    have hdz := isDy_iff.1 (HRight.out.1 rfl).2.1.1
    have hten := (HR10.out rfl).2.1
    by_cases c1 : l < 0
    · go_wp2_with fail
      go_ret
      exact ⟨rfl, HB3.out⟩
    · by_cases c2 : 100 < l
      · go_wp2_with fail
        go_ret
        exact ⟨rfl, HB3.out⟩
      · have c3 : decide ((100 : Int) < (s.len : Int)) = false := decide_eq_false (by omega)
        obtain ⟨y, m, d, hdate⟩ := date_ex r.due hdz.1 hdz.2
        have HD := Lib.hid hdate
        have hl := HL.out y m d rfl rfl hdate (by omega)
        have HMM := Lib.hid (fun W => civMonths_at (l := l) W hdate (by omega) (by omega))
        have hn : (monthsR y m d l).2 = 0 → 0 ≤ (monthsR y m d l).1 ∧ (monthsR y m d l).1 ≤ 3652058 := fun g => (late_at hdate (by omega) g).1
        clear HL hdate
        generalize monthsR y m d l = M at *
        obtain ⟨n, ee⟩ := M
        simp only [] at hl HMM hn
        have HLL := Lib.hid hl
        clear hl
        go_wp2_with fail
        refine (HMM.out _).mono ?_
        rintro e w4 ⟨rfl, hb4⟩
        have HH4 := Lib.hid (HH3.out.call hb4)
        clear eR eF hsS hsR eS
        have eS := HH4.out.atS
        have eR := HH4.out.atR
        have eF := HH4.out.frzR
        have hsS := own_lt HH4.out.1
        have hsR := own_lt HH4.out.2.1
        have HB4 := Lib.hid HH4.out.2.2.1
        clear hb4
        by_cases c4 : ee = 0
        · by_cases c5 : 3652058 ≤ n
          · go_wp2_with fail
            go_ret
            exact ⟨rfl, HB4.out⟩
          · have hn := hn c4
            have hl := HLL.out c4 (by omega)
            subst c4
            have HX1 := Lib.hid (fun W h => HB2.out n W h (HRI.out _ (by omega)))
            have HX2 := Lib.hid (fun W h => HB2.out (n + 1) W h (HRI.out _ (by omega)))
            have HF1 := Lib.hid (HH4.out.fil (by omega) (by omega) n)
            generalize billR s { r with fil := n } = B1 at *
            generalize billR s { r with fil := n + 1 } = B2 at *
            obtain ⟨p1, p2, p3, p4, p5⟩ := B1
            obtain ⟨q1, q2, q3, q4, q5⟩ := B2
            simp only [] at hl HX1 HX2
            obtain ⟨rfl, rfl, l1, l2, l3, l4, l5, l6⟩ := hl
            have L1 := Lib.hid l1; have L2 := Lib.hid l2
            clear l1 l2 HLL HRight HB2 HRI
            go_wp2_with fail
            clear eS eR eF hsS hsR
            generalize w4.setCell ⟨w.heap.size + 1, 2, none⟩ (.int .i64 n) = v4 at *
            refine (HX1.out _ (HF1.out.inn HI.out)).mono ?_
            rintro e w5 ⟨rfl, hb5⟩
            have HH5 := Lib.hid (HF1.out.call hb5)
            have eS := HH5.out.atS
            have eR := HH5.out.atR
            have eF := HH5.out.frzR
            have hsS := own_lt HH5.out.1
            have hsR := own_lt HH5.out.2.1
            clear hb5
            go_wp2_with fail
            have hh := (HH5.out.fil (by omega) (by omega) (n + 1)).alloc (.cells #[.int .i64 p1, .int .i64 p2, .int .i64 p3, .int .i64 p4] 33)
            have ho : Own ((w5.setCell ⟨w.heap.size + 1, 2, none⟩ (.int .i64 (n + 1))).alloc (.cells #[.int .i64 p1, .int .i64 p2, .int .i64 p3, .int .i64 p4] 33)) w5.heap.size #[.int .i64 p1, .int .i64 p2, .int .i64 p3, .int .i64 p4] 33 := own_new_at _ _ _ _ (by simp)
            clear eS eR eF hsS hsR
            generalize (w5.setCell ⟨w.heap.size + 1, 2, none⟩ (.int .i64 (n + 1))).alloc (.cells #[.int .i64 p1, .int .i64 p2, .int .i64 p3, .int .i64 p4] 33) = v5 at *
            refine (HX2.out _ (hh.inn HI.out)).mono ?_
            rintro e w6 ⟨rfl, hb6⟩
            have HH6 := Lib.hid (hh.call hb6)
            have ha := own_below ho hb6 (own_lt ho)
            have eS := HH6.out.atS
            have eA := own_cell ha
            have hsS := own_lt HH6.out.1
            have hsA := own_lt ha
            have HA := Lib.hid ha
            have HB6 := Lib.hid HH6.out.2.2.1
            clear hh ho ha hb6
            go_wp2_with fail
            have hw' : IntKind.i64.wrap (l + 1) = l + 1 := by rw [IntKind.wrap_i64]; omega
            have hHeld : Held3 w.heap.size w.heap.size w5.heap.size w6.heap.size #[.slice s.A s.len s.cap, .int .i64 s.ded, .int .i64 s.cre, .int .i64 s.bp, .int .i64 s.most, .int .i64 s.least] #[.int .i64 p1, .int .i64 p2, .int .i64 p3, .int .i64 p4] #[.int .i64 q1, .int .i64 q2, .int .i64 q3, .int .i64 q4]
                29 33 33 w (w6.alloc (.cells #[.int .i64 q1, .int .i64 q2, .int .i64 q3, .int .i64 q4] 33)) :=
              ⟨own_alloc HH6.out.1 _, own_alloc HA.out _, own_new _ _ _, HB6.out.alloc (by omega) _, by simp; omega⟩
            clear eS eA HMM HX1 HX2 HI H1 H2 HH0 HH1 HH2 HH3 HH4 HH5 HH6 HA HF1 HM
            generalize w6.alloc (.cells #[.int .i64 q1, .int .i64 q2, .int .i64 q3, .int .i64 q4] 33) = WB at *
            have e0 := hHeld.at0
            have e1 := hHeld.at1
            have e2 := hHeld.at2
            obtain ⟨Held, hh0, hcall, hdrew, hat, hback⟩ : ∃ Held : World → Prop, Held WB ∧ Hid (∀ W W', Held W → Below W.heap.size W W' → Held W') ∧ Hid (∀ W, Held W → Held W.drew) ∧
                Hid (∀ W, Held W → ((∀ i, W.cell? ⟨w.heap.size, i, none⟩ = (#[.slice s.A s.len s.cap, .int .i64 s.ded, .int .i64 s.cre, .int .i64 s.bp, .int .i64 s.most, .int .i64 s.least] : Array Value)[i]?) ∧ (∀ i, W.cell? ⟨w5.heap.size, i, none⟩ = (#[.int .i64 p1, .int .i64 p2, .int .i64 p3, .int .i64 p4] : Array Value)[i]?) ∧
                  (∀ i, W.cell? ⟨w6.heap.size, i, none⟩ = (#[.int .i64 q1, .int .i64 q2, .int .i64 q3, .int .i64 q4] : Array Value)[i]?))) ∧
                Hid (∀ W, Held W → Below w.heap.size w W) :=
              ⟨_, hHeld, Lib.hid (fun W W' h hb => h.call hb), Lib.hid (fun W h => h.drew), Lib.hid (fun W h => ⟨h.at0, h.at1, h.at2⟩), Lib.hid (fun W h => h.2.2.2.1)⟩
            clear hHeld
            go_region_held3 (fun W => (∀ i, W.cell? ⟨w.heap.size, i, none⟩ = (#[.slice s.A s.len s.cap, .int .i64 s.ded, .int .i64 s.cre, .int .i64 s.bp, .int .i64 s.most, .int .i64 s.least] : Array Value)[i]?) ∧ (∀ i, W.cell? ⟨w5.heap.size, i, none⟩ = (#[.int .i64 p1, .int .i64 p2, .int .i64 p3, .int .i64 p4] : Array Value)[i]?) ∧
                  (∀ i, W.cell? ⟨w6.heap.size, i, none⟩ = (#[.int .i64 q1, .int .i64 q2, .int .i64 q3, .int .i64 q4] : Array Value)[i]?))
              (first | exact hat.out _ (by assumption) | exact hat.out _ (hdrew.out _ (by assumption)) | go_keep)
              (first
                | (go_at_call 19; refine (HPn.out _ _ _ trivial (by omega) (by omega) (by omega) (by omega)).mono ?_; rintro e W' ⟨rfl, hb⟩; (first | rw [L1.out] | rw [L2.out]); have hh : Held W' := by first | exact hcall.out _ _ (by assumption) hb | exact hcall.out _ _ (hdrew.out _ (by assumption)) hb))
            go_wp2_with fail
            go_ret
            exact ⟨rfl, hback.out _ hh⟩
        · have c4' : (ee == 0) = false := by simpa using c4
          go_wp2_with fail
          go_ret
          exact ⟨rfl, HB4.out⟩
end Go.Proofs.Ytcjkofgbijdkcaa
