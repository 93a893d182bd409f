/- The law AssessChanges: the walk. -/
import Derived.WalkKit
import Derived.Outline
import Derived.Lib.Hide
import Derived.Handy
import Derived.Deep.QuietTactic
import Derived.BigQuiet
import Derived.Test.YtcjkofgbijdkcaaRef16C
namespace Go.Proofs.Ytcjkofgbijdkcaa
open Go.RowKit

set_option maxRecDepth 100000 in
set_option maxHeartbeats 1000000 in
theorem assessChanges_walk (s : Sch) (a b : Ret) (w : World) (hs : s.In w) (ha : a.In) (hb : b.In) :
    Calls Try.prog 8 #[s.val, a.val, b.val] w fun e w' => e = .returned (.bool true) ∧ Below w.heap.size w w' := by
  have HI := Lib.hid hs
  have H1 := Lib.hid (fun W h => asChange_any s a b W h ha hb)
  have H2 := Lib.hid (fun W h => r16change_any s a b W h ha hb)
  simp only [Sch.val, Ret.val, Bil.val] at *
  clear hs ha hb
  generalize chgR s a b = B at *
  obtain ⟨b1, b2, b3, b4, b5⟩ := B
  simp only [] at H1 H2
  go_enter Try.func8, Try.ntmps8
  go_wp2_with fail
  have HH0 := Lib.hid ((((HeldN.start w).push #[.slice s.A s.len s.cap, .int .i64 s.ded, .int .i64 s.cre, .int .i64 s.bp, .int .i64 s.most, .int .i64 s.least] 29).push_at (w.heap.size + 1) (by simp) #[.int .i64 a.per, .int .i64 a.due, .int .i64 a.fil, .int .i64 a.inc, .int .i64 a.wit] 31).push_at (w.heap.size + 1 + 1) (by simp) #[.int .i64 b.per, .int .i64 b.due, .int .i64 b.fil, .int .i64 b.inc, .int .i64 b.wit] 31)
  generalize ((w.alloc (.cells #[.slice s.A s.len s.cap, .int .i64 s.ded, .int .i64 s.cre, .int .i64 s.bp, .int .i64 s.most, .int .i64 s.least] 29)).alloc (.cells #[.int .i64 a.per, .int .i64 a.due, .int .i64 a.fil, .int .i64 a.inc, .int .i64 a.wit] 31)).alloc (.cells #[.int .i64 b.per, .int .i64 b.due, .int .i64 b.fil, .int .i64 b.inc, .int .i64 b.wit] 31) = W0 at *
  refine (awake16 _).mono ?_
  rintro e w1 ⟨rfl, hb1⟩
  have HH1 := Lib.hid (HH0.out.call hb1)
  have eB := HH1.out.cell
  have eA := HH1.out.tail.cell
  have eS := HH1.out.tail.tail.cell
  have zB := HH1.out.lt
  have zA := HH1.out.tail.lt
  have zS := HH1.out.tail.tail.lt
  have HB1 := Lib.hid HH1.out.2.1
  simp only [] at eB eA eS zB zA zS
  clear hb1
  by_cases cl : 1000 < s.len
  · have cl2 : decide ((1000 : Int) < (s.len : Int)) = true := decide_eq_true (by omega)
    go_wp2_with fail
    go_ret
    exact ⟨rfl, HB1.out⟩
  · have cl2 : decide ((1000 : Int) < (s.len : Int)) = false := decide_eq_false (by omega)
    go_wp2_with fail
    refine (H1.out _ (HI.out.below HH1.out.2.1 (Nat.le_refl _))).mono ?_
    rintro e w2 ⟨rfl, hb2⟩
    have HH2 := Lib.hid (HH1.out.call hb2)
    clear eS eA eB zB zA zS
    have eB := HH2.out.cell
    have eA := HH2.out.tail.cell
    have eS := HH2.out.tail.tail.cell
    have zB := HH2.out.lt
    have zA := HH2.out.tail.lt
    have zS := HH2.out.tail.tail.lt
    simp only [] at eB eA eS zB zA zS
    clear hb2
    go_wp2_with fail
    have HH3 := Lib.hid (HH2.out.push #[.int .i64 b1, .int .i64 b2, .int .i64 b3, .int .i64 b4] 33)
    clear eS eA eB zB zA zS
    generalize w2.alloc (.cells #[.int .i64 b1, .int .i64 b2, .int .i64 b3, .int .i64 b4] 33) = v2 at *
    refine (H2.out _ (HI.out.below HH3.out.2.1 (Nat.le_refl _))).mono ?_
    rintro e w3 ⟨rfl, hb3⟩
    have HH4 := Lib.hid (HH3.out.call hb3)
    have eP := HH4.out.cell
    have zP := HH4.out.lt
    have HB4 := Lib.hid HH4.out.2.1
    have zW := HH4.out.2.2
    simp only [] at eP zP
    clear hb3
    go_wp2_with fail
    go_ret
    exact ⟨rfl, by
      repeat' (first | (with_reducible exact HB4.out) | (with_reducible refine below_drewN ?_ _) | (with_reducible refine Below.alloc ?_ ?_ _) | omega | (simp; omega))⟩
end Go.Proofs.Ytcjkofgbijdkcaa
