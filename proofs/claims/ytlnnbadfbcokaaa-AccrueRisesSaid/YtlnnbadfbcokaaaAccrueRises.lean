/- The law AccrueRises: the walk. -/
import Derived.WalkKit
import Derived.Outline
import Derived.Lib.Hide
import Derived.Test.YtlnnbadfbcokaaaAccrue
namespace Go.Proofs.Ytlnnbadfbcokaaa
open Go.RowKit
set_option maxHeartbeats 1600000 in
theorem accrueRises_walk (ao ad ap ab bo bd bp bb : Int) (w : World) (q1 : -9223372036854775808 ≤ ao) (q2 : ao ≤ 9223372036854775807) (r1 : -9223372036854775808 ≤ ad) (r2 : ad ≤ 9223372036854775807) (a1 : -9223372036854775808 ≤ ap) (a2 : ap ≤ 9223372036854775807) (s1 : -9223372036854775808 ≤ ab) (s2 : ab ≤ 9223372036854775807) (t1 : -9223372036854775808 ≤ bo) (t2 : bo ≤ 9223372036854775807) (u1 : -9223372036854775808 ≤ bd) (u2 : bd ≤ 9223372036854775807) (b1 : -9223372036854775808 ≤ bp) (b2 : bp ≤ 9223372036854775807) (v1 : -9223372036854775808 ≤ bb) (v2 : bb ≤ 9223372036854775807) :
    Calls Try.prog 4 #[.agg #[.int .i64 ao, .int .i64 ad, .int .i64 ap, .int .i64 ab], .agg #[.int .i64 bo, .int .i64 bd, .int .i64 bp, .int .i64 bb]] w fun e w' => e = .returned (.bool true) ∧ Below w.heap.size w w' := by
  have hrise := @simple_rises (min ap bp) (min ab bb) (min ad bd) (max ap bp) (max ab bb) (max ad bd)
  generalize hr1 : simpleR (min ap bp) (min ab bb) (min ad bd) = r1 at *
  generalize hr2 : simpleR (max ap bp) (max ab bb) (max ad bd) = r2 at *
  obtain ⟨x, e1⟩ := r1
  obtain ⟨y, e2⟩ := r2
  have HR := Lib.hid hrise
  have H1 := Lib.hid hr1
  have H2 := Lib.hid hr2
  clear hrise hr1 hr2
  go_enter Try.func4, Try.ntmps4
  go_wp2_with fail
  refine (awake18 _).mono ?_
  rintro e w1 ⟨rfl, hb1⟩
  obtain ⟨hc, hf⟩ := bcell hb1
  go_wp2_with fail
  refine (simple_any _ _ _ _ (by omega) (by omega)).mono ?_
  rintro e w2 ⟨rfl, hb2⟩
  rw [H1.out]; unfold Pair
  have hb : Below (w.heap.size + 2) _ w2 := (hb1.mono (by simp)).trans (hb2.mono (by have := hb1.size; simp at this; omega))
  have hw : Below w.heap.size w w2 := (((Below.refl _ _).alloc (Nat.le_refl _) _).alloc (by simp) _).trans (hb.mono (by omega))
  have hc' : (∀ o, w2.cell? ⟨w.heap.size, o, none⟩ = w1.cell? ⟨w.heap.size, o, none⟩) ∧ (∀ o, w2.cell? ⟨w.heap.size + 1, o, none⟩ = w1.cell? ⟨w.heap.size + 1, o, none⟩) := by
    have h := hb1.size
    simp at h
    exact ⟨fun o => hb2.cell (p := ⟨w.heap.size, o, none⟩) (by simp; omega), fun o => hb2.cell (p := ⟨w.heap.size + 1, o, none⟩) (by simp; omega)⟩
  obtain ⟨hc1, hc2⟩ := hc'
  clear hb hb1 hb2
  go_wp2_with fail
  refine (simple_any _ _ _ _ (by omega) (by omega)).mono ?_
  rintro e w3 ⟨rfl, hb3⟩
  rw [H2.out]; unfold Pair
  have hw3 : Below w.heap.size w w3 := hw.trans (hb3.mono hw.size)
  clear hc hf hc1 hc2 hb3 hw
  by_cases k1 : e1 = 0
  · by_cases k2 : e2 = 0
    · have hle : x ≤ y := HR.out k1 k2 (by omega) (by omega) (by omega)
      subst k1; subst k2
      go_wp2_with fail
      go_ret
      exact ⟨rfl, hw3⟩
    · have k2' : (e2 != 0) = true := by simpa using k2
      subst k1
      go_wp2_with fail
      go_ret
      exact ⟨rfl, hw3⟩
  · have k1' : (e1 != 0) = true := by simpa using k1
    go_wp2_with fail
    go_ret
    exact ⟨rfl, hw3⟩
end Go.Proofs.Ytlnnbadfbcokaaa
