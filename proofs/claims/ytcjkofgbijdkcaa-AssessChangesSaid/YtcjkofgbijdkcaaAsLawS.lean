/- The law AssessSums: the walk. -/
import Derived.WalkKit
import Derived.Outline
import Derived.Lib.Hide
import Derived.Handy
import Derived.Deep.QuietTactic
import Derived.BigQuiet
import Derived.Test.YtcjkofgbijdkcaaAwake16
import Derived.Test.YtcjkofgbijdkcaaRef15S
import Derived.Test.YtcjkofgbijdkcaaRef16R
import Derived.Test.YtcjkofgbijdkcaaHeld
namespace Go.Proofs.Ytcjkofgbijdkcaa
open Go.RowKit

theorem penR_bd {s : Sch} {P l : Int} (hs : s.right = true) (p0 : 0 ≤ P) (p1 : P ≤ 1125899906842624) (l0 : 0 ≤ l) : 0 ≤ penR s P l ∧ penR s P l ≤ P := by
  unfold penR
  obtain ⟨h1, h2, h3, h4, h5, h6⟩ := Sch.heads_iff.1 (show s.heads = true by simp only [Sch.right, Bool.and_eq_true] at hs; exact hs.1.1.1)
  have hld := Sch.right_ded hs
  split
  · omega
  · omega
theorem Ret.right_iff {r : Ret} : r.right = true ↔ (1 ≤ r.per ∧ r.per ≤ 99999) ∧ (isDy r.due = true ∧ isDy r.fil = true) ∧ (0 ≤ r.inc ∧ r.inc ≤ 1125899906842624) ∧ (0 ≤ r.wit ∧ r.wit ≤ 1125899906842624) := by
  simp only [Ret.right, Bool.and_eq_true, isMon_iff, decide_eq_true_eq]
  constructor
  · rintro ⟨⟨h1, h2⟩, h3⟩; exact ⟨h1, h2, h3⟩
  · rintro ⟨h1, h2, h3⟩; exact ⟨⟨h1, h2⟩, h3⟩
/-- what a bill says of itself -/
theorem bill_bd {s : Sch} {r : Ret} (hs : s.right = true) (hr : r.right = true) : (billR s r).err = 0 ∧ 0 ≤ (billR s r).pri ∧ (billR s r).pri ≤ 1125899906842624 ∧ 0 ≤ (billR s r).exc ∧ (billR s r).exc ≤ 1125899906842624 ∧ 0 ≤ (billR s r).pen ∧
    ((billR s r).pri = 0 ∨ (billR s r).exc = 0) ∧ (billR s r).tax = (billR s r).pri + r.wit - (billR s r).exc ∧ (billR s r).pen ≤ (billR s r).pri ∧ 0 ≤ (billR s r).tax ∧ (billR s r).tax ≤ 1125899906842624 := by
  obtain ⟨_, ⟨hd, hf⟩, hi, hw⟩ := Ret.right_iff.1 hr
  have hb := @tax_bd s r.inc
  have hl := lateF_bd r.due r.fil hd hf
  have hp := penR_bd (P := max ((taxR s r.inc).1 - r.wit) 0) (l := lateF r.due r.fil) hs (by omega) (by omega) hl.1
  have he : billR s r = ⟨(taxR s r.inc).1, max ((taxR s r.inc).1 - r.wit) 0, penR s (max ((taxR s r.inc).1 - r.wit) 0) (lateF r.due r.fil), max (r.wit - (taxR s r.inc).1) 0, 0⟩ := by simp [billR, hs, hr]
  rw [he]
  refine ⟨rfl, ?_⟩
  simp only []
  omega
theorem bill_no {s : Sch} {r : Ret} (h : (s.right && r.right) = false) : billR s r = ⟨0, 0, 0, 0, 1⟩ := by simp [billR, h]

set_option maxRecDepth 100000 in
set_option maxHeartbeats 1000000 in
theorem assessSums_walk (s : Sch) (r : Ret) (w : World) (hs : s.In w) (hr : r.In) :
    Calls Try.prog 6 #[s.val, r.val] w fun e w' => e = .returned (.bool true) ∧ Below w.heap.size w w' := by
  have HI := Lib.hid hs
  have H1 := Lib.hid (fun W h => r15right_any s W h)
  have H2 := Lib.hid (fun W => r16right_any r W hr)
  have H3 := Lib.hid (fun W h => asBill_any s r W h hr)
  have HH0 := Lib.hid (heldL_new s r w)
  have HG := @bill_bd s r
  have HN := @bill_no s r
  simp only [Sch.val, Ret.val, Bil.val] at *
  have HRW := hr.wit
  clear hs hr
  generalize billR s r = B at *
  generalize s.right = R1 at *
  generalize r.right = R2 at *
  obtain ⟨b1, b2, b3, b4, b5⟩ := B
  simp only [] at HG HN H3
  have HG := Lib.hid HG; have HN := Lib.hid HN
  go_enter Try.func6, Try.ntmps6
  go_wp2_with fail
  generalize ((w.alloc (.cells #[.slice s.A s.len s.cap, .int .i64 s.ded, .int .i64 s.cre, .int .i64 s.bp, .int .i64 s.most, .int .i64 s.least] 29)).alloc (.cells #[.int .i64 r.per, .int .i64 r.due, .int .i64 r.fil, .int .i64 r.inc, .int .i64 r.wit] 31)) = W0 at *
  refine (awake16 _).mono ?_
  rintro e w1 ⟨rfl, hb1⟩
  have HH1 := Lib.hid (HH0.out.call hb1)
  have eS := HH1.out.atS
  clear hb1
  go_wp2_with fail
  refine (H1.out _ (HH1.out.inn HI.out)).mono ?_
  rintro e w2 ⟨rfl, hb2⟩
  have HH2 := Lib.hid (HH1.out.call hb2)
  have eR := HH2.out.atR
  clear hb2 eS
  go_wp2_with fail
  refine (H2.out _).mono ?_
  rintro e w3 ⟨rfl, hb3⟩
  have HH3 := Lib.hid (HH2.out.call hb3)
  have eS := HH3.out.atS
  clear eR
  have eR := HH3.out.atR
  clear hb3
  go_wp2_with fail
  refine (H3.out _ (HH3.out.inn HI.out)).mono ?_
  rintro e w4 ⟨rfl, hb4⟩
  have HH4 := Lib.hid (HH3.out.call hb4)
  clear eS eR
  have eS := HH4.out.atS
  have eR := HH4.out.atR
  have hsS := own_lt HH4.out.1
  have hsR := own_lt HH4.out.2.1
  have HB4 := Lib.hid HH4.out.2.2.1
  clear hb4
  cases R1
  case false =>
    have hz := HN.out (by rfl)
    simp only [Bil.mk.injEq] at hz
    obtain ⟨rfl, rfl, rfl, rfl, rfl⟩ := hz
    clear HG HN
    go_wp2_with fail
    go_ret
    exact ⟨rfl, HB4.out.alloc (by omega) _⟩
  case true =>
  cases R2
  case false =>
    have hz := HN.out (by rfl)
    simp only [Bil.mk.injEq] at hz
    obtain ⟨rfl, rfl, rfl, rfl, rfl⟩ := hz
    clear HG HN
    go_wp2_with fail
    go_ret
    exact ⟨rfl, HB4.out.alloc (by omega) _⟩
  case true =>
    have hz := HG.out rfl rfl
    obtain ⟨z1, z2, z3, z4, z5, z6, z7, z8, z9, zt, zu⟩ := hz
    subst z1
    clear HG HN
    by_cases cl : 1000 < s.len
    · have cl2 : decide ((1000 : Int) < (s.len : Int)) = true := decide_eq_true (by omega)
      go_wp2_with fail
      all_goals go_ret
      all_goals exact ⟨ret_bool (by first | rfl | (simp; omega)), HB4.out.alloc (by omega) _⟩
    · have cl2 : decide ((1000 : Int) < (s.len : Int)) = false := decide_eq_false (by omega)
      go_wp2_with fail
      all_goals go_ret
      all_goals exact ⟨ret_bool (by first | rfl | (simp; omega)), HB4.out.alloc (by omega) _⟩
end Go.Proofs.Ytcjkofgbijdkcaa
