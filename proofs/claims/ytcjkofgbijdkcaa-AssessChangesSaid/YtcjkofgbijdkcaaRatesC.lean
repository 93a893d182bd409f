/- Package rates: taxed. -/
import Derived.WalkKit
import Derived.Outline
import Derived.Lib.Hide
import Derived.Handy
import Derived.Deep.QuietTactic
import Derived.BigQuiet
import Derived.Test.YtcjkofgbijdkcaaRatesB
namespace Go.Proofs.Ytcjkofgbijdkcaa
open Go.RowKit

theorem Sch.right_ded {s : Sch} (h : s.right = true) : 0 ≤ s.ded ∧ s.ded ≤ 1125899906842624 ∧ 0 ≤ s.cre ∧ s.cre ≤ 1125899906842624 ∧ 0 ≤ s.least ∧ s.least ≤ 1125899906842624 := by
  simp only [Sch.right, Sch.tails, Bool.and_eq_true, isMon_iff] at h
  omega

def taxedR (s : Sch) (x : Int) : Int × Int := if s.right && isMon x then (max (x - s.ded) 0, 0) else (0, 1)

set_option maxRecDepth 100000 in
set_option maxHeartbeats 1000000 in
theorem taxed_any (s : Sch) (x : Int) (w : World) (hi : s.In w) (x1 : i64 x) :
    Calls Try.prog 48 #[s.val, .int .i64 x] w fun e w' => e = Pair (taxedR s x) ∧ Below w.heap.size w w' := by
  have hr := ratesRight_any s
  have hdd := @Sch.right_ded s
  have HR : Hid (taxedR s x = if s.right && isMon x then (max (x - s.ded) 0, 0) else (0, 1)) := Lib.hid rfl
  have hI := Lib.hid hi
  have HIn : Hid (∀ w', Below w.heap.size w w' → s.In w') := Lib.hid (fun w' hb => hi.below hb (Nat.le_refl _))
  have hd := hi.ded
  clear hi
  generalize hRt : s.right = R at *
  generalize taxedR s x = res at *
  obtain ⟨A, len, cap, zs, ded, cre, bp, most, least⟩ := s
  simp only [i64, Sch.val] at *
  have HRC := Lib.hid hr
  have HDD := Lib.hid hdd
  clear hr hdd hRt
  have hb0 : Below w.heap.size w (w.alloc (.cells #[.slice A len cap, .int .i64 ded, .int .i64 cre, .int .i64 bp, .int .i64 most, .int .i64 least] 29)) := (Below.refl _ _).alloc (Nat.le_refl _) _
  have hin := HIn.out _ hb0
  have ho0 : Own (w.alloc (.cells #[.slice A len cap, .int .i64 ded, .int .i64 cre, .int .i64 bp, .int .i64 most, .int .i64 least] 29)) w.heap.size #[.slice A len cap, .int .i64 ded, .int .i64 cre, .int .i64 bp, .int .i64 most, .int .i64 least] 29 := own_new _ _ _
  have hs0 : w.heap.size < (w.alloc (.cells #[.slice A len cap, .int .i64 ded, .int .i64 cre, .int .i64 bp, .int .i64 most, .int .i64 least] 29)).heap.size := by simp
  have HB0 := Lib.hid hb0; have HI0 := Lib.hid hin; have HO0 := Lib.hid ho0
  clear hb0 hin ho0
  go_enter Try.func48, Try.ntmps48
  go_wp2_with fail
  generalize w.alloc (.cells #[.slice A len cap, .int .i64 ded, .int .i64 cre, .int .i64 bp, .int .i64 most, .int .i64 least] 29) = W0 at *
  refine (HRC.out _ HI0.out).mono ?_
  rintro e w1 ⟨rfl, hb1⟩
  have hs1 := hb1.size
  have ho1 : Own w1 w.heap.size #[.slice A len cap, .int .i64 ded, .int .i64 cre, .int .i64 bp, .int .i64 most, .int .i64 least] 29 := own_below HO0.out hb1 hs0
  have hbl : Below w.heap.size w w1 := HB0.out.trans (hb1.mono (by omega))
  have HO1 := Lib.hid ho1; have HBL := Lib.hid hbl
  clear hb1 ho1 hbl
  cases hR : R with
  | false =>
    rw [hR] at HR HRC HDD
    have HRe : Hid (res = (0, 1)) := Lib.hid (by rw [HR.out]; rfl)
    subst hR
    go_wp2_with fail
    go_ret2
    exact ⟨pair_of HRe.out, HBL.out⟩
  | true =>
    rw [hR] at HR HRC HDD
    obtain ⟨d1, d2, _⟩ := HDD.out rfl
    have hb2 : Below w.heap.size w (w1.alloc (.cells #[.int .i64 x] 2)) := HBL.out.alloc (by omega) _
    have ho2 : Own (w1.alloc (.cells #[.int .i64 x] 2)) w.heap.size #[.slice A len cap, .int .i64 ded, .int .i64 cre, .int .i64 bp, .int .i64 most, .int .i64 least] 29 := own_alloc HO1.out _
    have z0 : (w1.alloc (.cells #[.int .i64 x] 2)).cell? ⟨w1.heap.size, 0, none⟩ = some (.int .i64 x) := by simp [go_sem]
    have e2 : ∀ i, (w1.alloc (.cells #[.int .i64 x] 2)).cell? ⟨w.heap.size, i, none⟩ = (#[.slice A len cap, .int .i64 ded, .int .i64 cre, .int .i64 bp, .int .i64 most, .int .i64 least] : Array Value)[i]? := own_cell ho2
    have HB2 := Lib.hid hb2
    clear hb2 ho2
    subst hR
    go_wp2_with fail
    generalize w1.alloc (.cells #[.int .i64 x] 2) = W2 at *
    refine (money_at x _ _ z0).mono ?_
    rintro e w' ⟨rfl, rfl⟩
    cases hm : isMon x with
    | false =>
      have HRe : Hid (res = (0, 1)) := Lib.hid (by rw [HR.out, hm]; rfl)
      clear hm
      go_wp2_with fail
      go_ret2
      exact ⟨pair_of HRe.out, HB2.out⟩
    | true =>
      obtain ⟨x3, x4⟩ := isMon_iff.1 hm
      have HRe : Hid (res = (max (x - ded) 0, 0)) := Lib.hid (by rw [HR.out, hm]; rfl)
      clear hm
      go_wp2_with fail
      go_ret2
      exact ⟨pair_of HRe.out, HB2.out⟩
end Go.Proofs.Ytcjkofgbijdkcaa
