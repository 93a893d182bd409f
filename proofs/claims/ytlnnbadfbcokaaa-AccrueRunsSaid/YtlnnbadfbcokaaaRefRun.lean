/- The reference's Run: New, At, Change, Rate; they answer what package accrue's answer. -/
import Derived.WalkKit
import Derived.Outline
import Derived.Lib.Hide
import Derived.Handy
import Derived.Deep.RegionHeld3
import Derived.Laws.EntriesVeiled
import Derived.Test.YtlnnbadfbcokaaaRefAccrue
import Derived.Test.YtlnnbadfbcokaaaRun
namespace Go.Proofs.Ytlnnbadfbcokaaa
open Go.RowKit

theorem refDay_any (a : Int) (w : World) : Calls Try.prog 54 #[.int .i64 a] w fun e w' => e = .returned (.bool (isDay a)) ∧ w = w' := by
  by_cases h : 0 ≤ a
  · by_cases h2 : a ≤ 3652058
    · have hr : isDay a = true := by simp [isDay]; omega
      have HR := Lib.hid hr; clear hr
      go_enter Try.func54, Try.ntmps54
      go_wp2
      go_ret
      exact ⟨ret_bool HR.out.symm, rfl⟩
    · have hr : isDay a = false := by simp [isDay]; omega
      have HR := Lib.hid hr; clear hr
      go_enter Try.func54, Try.ntmps54
      go_wp2
      go_ret
      exact ⟨ret_bool HR.out.symm, rfl⟩
  · have hr : isDay a = false := by simp [isDay]; omega
    have HR := Lib.hid hr; clear hr
    go_enter Try.func54, Try.ntmps54
    go_wp2
    go_ret
    exact ⟨ret_bool HR.out.symm, rfl⟩

theorem refNew_ok (p bp d : Int) (w : World) (h : (isPrin p && (isRate bp && isDay d)) = true) :
    Calls Try.prog 29 #[.int .i64 p, .int .i64 bp, .int .i64 d] w fun e w' =>
      e = .returned (.tuple #[.pointer (some ⟨w.heap.size, 0, none⟩), .int .i64 0]) ∧ w.alloc (.cells #[.int .i64 p, .int .i64 bp, .int .i64 d, .int .i64 0] 48) = w' := by
  simp only [Bool.and_eq_true] at h
  obtain ⟨h1, h2, h3⟩ := h
  have H1 := Lib.hid h1; have H2 := Lib.hid h2; have H3 := Lib.hid h3; clear h1 h2 h3
  go_enter Try.func29, Try.ntmps29
  go_wp2_with fail
  refine (refPrin_any p _).mono ?_
  rintro e w' ⟨rfl, rfl⟩
  rw [H1.out]
  go_wp2_with fail
  refine (refRate_any bp _).mono ?_
  rintro e w' ⟨rfl, rfl⟩
  rw [H2.out]
  go_wp2_with fail
  refine (refDay_any d _).mono ?_
  rintro e w' ⟨rfl, rfl⟩
  rw [H3.out]
  go_wp2_with fail
  go_ret2
  exact ⟨rfl, rfl⟩

theorem refNew_no (p bp d : Int) (w : World) (h : (isPrin p && (isRate bp && isDay d)) = false) :
    Calls Try.prog 29 #[.int .i64 p, .int .i64 bp, .int .i64 d] w fun e w' => e = .returned (.tuple #[.pointer none, .int .i64 1]) ∧ w = w' := by
  cases h1 : isPrin p
  · cases h2 : isRate bp
    · cases h3 : isDay d
      · have H1 := Lib.hid h1; have H2 := Lib.hid h2; have H3 := Lib.hid h3; clear h1 h2 h3 h
        go_enter Try.func29, Try.ntmps29
        go_wp2_with fail
        refine (refPrin_any p _).mono ?_
        rintro e w' ⟨rfl, rfl⟩
        rw [H1.out]
        go_wp2_with fail
        refine (refRate_any bp _).mono ?_
        rintro e w' ⟨rfl, rfl⟩
        rw [H2.out]
        go_wp2_with fail
        refine (refDay_any d _).mono ?_
        rintro e w' ⟨rfl, rfl⟩
        rw [H3.out]
        go_wp2_with fail
        go_ret2
        exact ⟨rfl, rfl⟩
      · have H1 := Lib.hid h1; have H2 := Lib.hid h2; have H3 := Lib.hid h3; clear h1 h2 h3 h
        go_enter Try.func29, Try.ntmps29
        go_wp2_with fail
        refine (refPrin_any p _).mono ?_
        rintro e w' ⟨rfl, rfl⟩
        rw [H1.out]
        go_wp2_with fail
        refine (refRate_any bp _).mono ?_
        rintro e w' ⟨rfl, rfl⟩
        rw [H2.out]
        go_wp2_with fail
        refine (refDay_any d _).mono ?_
        rintro e w' ⟨rfl, rfl⟩
        rw [H3.out]
        go_wp2_with fail
        go_ret2
        exact ⟨rfl, rfl⟩
    · cases h3 : isDay d
      · have H1 := Lib.hid h1; have H2 := Lib.hid h2; have H3 := Lib.hid h3; clear h1 h2 h3 h
        go_enter Try.func29, Try.ntmps29
        go_wp2_with fail
        refine (refPrin_any p _).mono ?_
        rintro e w' ⟨rfl, rfl⟩
        rw [H1.out]
        go_wp2_with fail
        refine (refRate_any bp _).mono ?_
        rintro e w' ⟨rfl, rfl⟩
        rw [H2.out]
        go_wp2_with fail
        refine (refDay_any d _).mono ?_
        rintro e w' ⟨rfl, rfl⟩
        rw [H3.out]
        go_wp2_with fail
        go_ret2
        exact ⟨rfl, rfl⟩
      · have H1 := Lib.hid h1; have H2 := Lib.hid h2; have H3 := Lib.hid h3; clear h1 h2 h3 h
        go_enter Try.func29, Try.ntmps29
        go_wp2_with fail
        refine (refPrin_any p _).mono ?_
        rintro e w' ⟨rfl, rfl⟩
        rw [H1.out]
        go_wp2_with fail
        refine (refRate_any bp _).mono ?_
        rintro e w' ⟨rfl, rfl⟩
        rw [H2.out]
        go_wp2_with fail
        refine (refDay_any d _).mono ?_
        rintro e w' ⟨rfl, rfl⟩
        rw [H3.out]
        go_wp2_with fail
        go_ret2
        exact ⟨rfl, rfl⟩
  · cases h2 : isRate bp
    · cases h3 : isDay d
      · have H1 := Lib.hid h1; have H2 := Lib.hid h2; have H3 := Lib.hid h3; clear h1 h2 h3 h
        go_enter Try.func29, Try.ntmps29
        go_wp2_with fail
        refine (refPrin_any p _).mono ?_
        rintro e w' ⟨rfl, rfl⟩
        rw [H1.out]
        go_wp2_with fail
        refine (refRate_any bp _).mono ?_
        rintro e w' ⟨rfl, rfl⟩
        rw [H2.out]
        go_wp2_with fail
        refine (refDay_any d _).mono ?_
        rintro e w' ⟨rfl, rfl⟩
        rw [H3.out]
        go_wp2_with fail
        go_ret2
        exact ⟨rfl, rfl⟩
      · have H1 := Lib.hid h1; have H2 := Lib.hid h2; have H3 := Lib.hid h3; clear h1 h2 h3 h
        go_enter Try.func29, Try.ntmps29
        go_wp2_with fail
        refine (refPrin_any p _).mono ?_
        rintro e w' ⟨rfl, rfl⟩
        rw [H1.out]
        go_wp2_with fail
        refine (refRate_any bp _).mono ?_
        rintro e w' ⟨rfl, rfl⟩
        rw [H2.out]
        go_wp2_with fail
        refine (refDay_any d _).mono ?_
        rintro e w' ⟨rfl, rfl⟩
        rw [H3.out]
        go_wp2_with fail
        go_ret2
        exact ⟨rfl, rfl⟩
    · cases h3 : isDay d
      · have H1 := Lib.hid h1; have H2 := Lib.hid h2; have H3 := Lib.hid h3; clear h1 h2 h3 h
        go_enter Try.func29, Try.ntmps29
        go_wp2_with fail
        refine (refPrin_any p _).mono ?_
        rintro e w' ⟨rfl, rfl⟩
        rw [H1.out]
        go_wp2_with fail
        refine (refRate_any bp _).mono ?_
        rintro e w' ⟨rfl, rfl⟩
        rw [H2.out]
        go_wp2_with fail
        refine (refDay_any d _).mono ?_
        rintro e w' ⟨rfl, rfl⟩
        rw [H3.out]
        go_wp2_with fail
        go_ret2
        exact ⟨rfl, rfl⟩
      · rw [h1, h2, h3] at h
        simp at h

set_option maxHeartbeats 1600000 in
theorem refAt_any (r : RunS) (n : Int) (g : Nat) (w : World) (hr : r.Ok) (ho : Own w g r.cells 48) (n1 : -9223372036854775808 ≤ n) (n2 : n ≤ 9223372036854775807) :
    Calls Try.prog 30 #[.pointer (some ⟨g, 0, none⟩), .int .i64 n] w fun e w' => e = Pair (atR r n) ∧ Below w.heap.size w w' := by
  obtain ⟨p, bp, s, d⟩ := r
  obtain ⟨⟨a1, a2⟩, ⟨b1, b2⟩, ⟨c1, c2⟩, ⟨d1, d2⟩⟩ := hr
  simp only [] at a1 a2 b1 b2 c1 c2 d1 d2
  have e0 : w.cell? ⟨g, 0, none⟩ = some (.int .i64 p) := own_cell ho 0
  have e1 : w.cell? ⟨g, 1, none⟩ = some (.int .i64 bp) := own_cell ho 1
  have e2 : w.cell? ⟨g, 2, none⟩ = some (.int .i64 s) := own_cell ho 2
  have e3 : w.cell? ⟨g, 3, none⟩ = some (.int .i64 d) := own_cell ho 3
  have hg := own_lt ho
  clear ho
  cases hD : isDay n
  · have hr : atR ⟨p, bp, s, d⟩ n = (0, 1) := by simp [atR, hD]
    have HR := Lib.hid hr; have HD := Lib.hid hD; clear hr hD
    go_enter Try.func30, Try.ntmps30
    go_wp2_with fail
    refine (refDay_any n _).mono ?_
    rintro e w' ⟨rfl, rfl⟩
    rw [HD.out]
    go_wp2_with fail
    go_ret2
    exact ⟨pair_of HR.out, Below.refl _ _⟩
  · obtain ⟨n3, n4⟩ := isDay_iff.1 hD
    by_cases hlt : n < s
    · have hr : atR ⟨p, bp, s, d⟩ n = (0, 10) := by simp [atR, hD, hlt]
      have HR := Lib.hid hr; have HD := Lib.hid hD; clear hr hD
      go_enter Try.func30, Try.ntmps30
      go_wp2_with fail
      refine (refDay_any n _).mono ?_
      rintro e w' ⟨rfl, rfl⟩
      rw [HD.out]
      go_wp2_with fail
      go_ret2
      exact ⟨pair_of HR.out, Below.refl _ _⟩
    · have hs := fun W => refSimple_any p bp (n - s) W (by omega) (by omega)
      have hr : atR ⟨p, bp, s, d⟩ n = if (simpleR p bp (n - s)).2 = 0 then addR d (simpleR p bp (n - s)).1 else (0, (simpleR p bp (n - s)).2) := by simp [atR, hD, hlt]
      have hb := @simple_bd p bp (n - s)
      generalize simpleR p bp (n - s) = m at *
      obtain ⟨m1, m2⟩ := m
      simp only [] at hr hb
      unfold Pair at hs
      have HR := Lib.hid hr; have HD := Lib.hid hD; have HS := Lib.hid hs; clear hr hD hs
      go_enter Try.func30, Try.ntmps30
      go_wp2_with fail
      refine (refDay_any n _).mono ?_
      rintro e w' ⟨rfl, rfl⟩
      rw [HD.out]
      go_upto_region 6 with fail
      have hwr : IntKind.i64.wrap (n - s) = n - s := IntWalk.i64_in _ (by omega)
      go_region_held3 (fun w' => w'.cell? ⟨g, 0, none⟩ = some (.int .i64 p) ∧ w'.cell? ⟨g, 1, none⟩ = some (.int .i64 bp) ∧ w'.cell? ⟨g, 2, none⟩ = some (.int .i64 s)) (go_keep)
        (first | (go_at_call 14; refine (HS.out _).mono ?_; rintro e w1 ⟨rfl, hb1⟩; have x0 := (hb1.cell (p := ⟨g, 0, none⟩) (by simpa using hg)).trans e0; have x1 := (hb1.cell (p := ⟨g, 1, none⟩) (by simpa using hg)).trans e1; have x2 := (hb1.cell (p := ⟨g, 2, none⟩) (by simpa using hg)).trans e2; have x3 := (hb1.cell (p := ⟨g, 3, none⟩) (by simpa using hg)).trans e3))
      have hbw : Below w.heap.size w w1 := ((Below.refl _ _).drew).trans (hb1.mono (by simp))
      clear hb1
      by_cases hm : m2 = 0
      · subst hm
        go_wp2_with fail
        refine (refAdd_any d m1 _ (by omega) (by omega) (by omega) (by omega)).mono ?_
        rintro e w2 ⟨rfl, hb2⟩
        unfold Pair
        go_wp2_with fail
        go_ret2
        exact ⟨pair_of (by rw [HR.out]; rfl), hbw.trans (hb2.mono hbw.size)⟩
      · have hm' : (m2 != 0) = true := by simpa using hm
        go_wp2_with fail
        go_ret2
        exact ⟨pair_of (by rw [HR.out, if_neg hm]), hbw⟩

set_option maxHeartbeats 1600000 in
theorem refRunChange_any (r : RunS) (x n : Int) (g : Nat) (w : World) (hr : r.Ok) (ho : Own w g r.cells 48) (n1 : -9223372036854775808 ≤ n) (n2 : n ≤ 9223372036854775807) :
    Calls Try.prog 31 #[.pointer (some ⟨g, 0, none⟩), .int .i64 x, .int .i64 n] w fun e w' =>
      e = .returned (.int .i64 (changeR r x n).2) ∧ (changeR r x n).1.Ok ∧ Own w' g (changeR r x n).1.cells 48 ∧ w.grownBy w' (some g) := by
  have hat := fun W h => refAt_any r n g W hr h n1 n2
  cases hP : isPrin x
  · have hc : changeR r x n = (r, 1) := by simp [changeR, hP]
    rw [hc]
    have HP := Lib.hid hP; have HO := Lib.hid ho; clear hP hc ho hat
    go_enter Try.func31, Try.ntmps31
    go_wp2_with fail
    refine (refPrin_any x _).mono ?_
    rintro e w' ⟨rfl, rfl⟩
    rw [HP.out]
    go_wp2_with fail
    go_ret
    exact ⟨rfl, hr, HO.out, World.grownBy.refl _ _⟩
  · have ha := @atR_bd r n
    have hday := @atR_day r n
    have hc : changeR r x n = if (atR r n).2 = 0 then if r.p = x then (r, 0) else (⟨x, r.bp, n, (atR r n).1⟩, 0) else (r, (atR r n).2) := by simp [changeR, hP]
    obtain ⟨x1, x2⟩ := isPrin_iff.1 hP
    rw [hc]
    generalize atR r n = a at *
    obtain ⟨a1, a2⟩ := a
    obtain ⟨p, bp, s, d⟩ := r
    simp only [] at ha hday ⊢
    have HP := Lib.hid hP; have HA := Lib.hid hat; clear hP hc hat
    have hlt := own_lt ho
    have HO := Lib.hid ho; clear ho
    by_cases h2 : a2 = 0
    · obtain ⟨n3, n4⟩ := isDay_iff.1 (hday h2)
      clear hday
      subst h2
      by_cases hpx : p = x
      · rw [if_pos rfl, if_pos hpx]
        have heq : (x == p) = true := by simpa using hpx.symm
        clear hpx
        go_enter Try.func31, Try.ntmps31
        go_wp2_with fail
        refine (refPrin_any x _).mono ?_
        rintro e w' ⟨rfl, rfl⟩
        rw [HP.out]
        go_wp2_with fail
        refine (HA.out _ HO.out).mono ?_
        rintro e w1 ⟨rfl, hb1⟩
        unfold Pair
        have ho1 := own_below HO.out hb1 hlt
        have g0 : w1.cell? ⟨g, 0, none⟩ = some (.int .i64 p) := own_cell ho1 0
        have g1 : w1.cell? ⟨g, 1, none⟩ = some (.int .i64 bp) := own_cell ho1 1
        have g2 : w1.cell? ⟨g, 2, none⟩ = some (.int .i64 s) := own_cell ho1 2
        have g3 : w1.cell? ⟨g, 3, none⟩ = some (.int .i64 d) := own_cell ho1 3
        have z0 := own_frz ho1 0
        have z1 := own_frz ho1 1
        have z2 := own_frz ho1 2
        have z3 := own_frz ho1 3
        have O1 := Lib.hid ho1; have B1 := Lib.hid hb1
        clear ho1 hb1
        go_wp2_with fail
        go_ret
        exact ⟨rfl, hr, O1.out, ⟨B1.out.os, B1.out.tape, B1.out.output, B1.out.size, fun i hi _ => B1.out.block i hi⟩⟩
      · rw [if_pos rfl, if_neg hpx]
        have hne : (x == p) = false := by simpa using fun h => hpx h.symm
        go_enter Try.func31, Try.ntmps31
        go_wp2_with fail
        refine (refPrin_any x _).mono ?_
        rintro e w' ⟨rfl, rfl⟩
        rw [HP.out]
        go_wp2_with fail
        refine (HA.out _ HO.out).mono ?_
        rintro e w1 ⟨rfl, hb1⟩
        unfold Pair
        have ho1 := own_below HO.out hb1 hlt
        have g0 : w1.cell? ⟨g, 0, none⟩ = some (.int .i64 p) := own_cell ho1 0
        have g1 : w1.cell? ⟨g, 1, none⟩ = some (.int .i64 bp) := own_cell ho1 1
        have g2 : w1.cell? ⟨g, 2, none⟩ = some (.int .i64 s) := own_cell ho1 2
        have g3 : w1.cell? ⟨g, 3, none⟩ = some (.int .i64 d) := own_cell ho1 3
        have z0 := own_frz ho1 0
        have z1 := own_frz ho1 1
        have z2 := own_frz ho1 2
        have z3 := own_frz ho1 3
        have O1 := Lib.hid ho1; have B1 := Lib.hid hb1
        clear ho1 hb1
        go_wp2_with fail
        go_ret
        have hown := own_set (own_set (own_set O1.out 3 (.int .i64 a1)) 2 (.int .i64 n)) 0 (.int .i64 x)
        refine ⟨rfl, ?_, hown, ?_⟩
        · obtain ⟨k1, k2, k3, k4⟩ := hr
          exact ⟨⟨x1, x2⟩, k2, ⟨n3, n4⟩, ha⟩
        · have hb := B1.out
          have hG : w.grownBy w1 (some g) := ⟨hb.os, hb.tape, hb.output, hb.size, fun i hi _ => hb.block i hi⟩
          exact grown_set (grown_set (grown_set hG 3 _) 2 _) 0 _
    · have hne : (a2 != 0) = true := by simpa using h2
      rw [if_neg h2]
      clear hday
      go_enter Try.func31, Try.ntmps31
      go_wp2_with fail
      refine (refPrin_any x _).mono ?_
      rintro e w' ⟨rfl, rfl⟩
      rw [HP.out]
      go_wp2_with fail
      refine (HA.out _ HO.out).mono ?_
      rintro e w1 ⟨rfl, hb1⟩
      unfold Pair
      have ho1 := own_below HO.out hb1 hlt
      have g0 : w1.cell? ⟨g, 0, none⟩ = some (.int .i64 p) := own_cell ho1 0
      have g1 : w1.cell? ⟨g, 1, none⟩ = some (.int .i64 bp) := own_cell ho1 1
      have g2 : w1.cell? ⟨g, 2, none⟩ = some (.int .i64 s) := own_cell ho1 2
      have g3 : w1.cell? ⟨g, 3, none⟩ = some (.int .i64 d) := own_cell ho1 3
      have z0 := own_frz ho1 0
      have z1 := own_frz ho1 1
      have z2 := own_frz ho1 2
      have z3 := own_frz ho1 3
      have O1 := Lib.hid ho1; have B1 := Lib.hid hb1
      clear ho1 hb1
      go_wp2_with fail
      go_ret
      exact ⟨rfl, hr, O1.out, ⟨B1.out.os, B1.out.tape, B1.out.output, B1.out.size, fun i hi _ => B1.out.block i hi⟩⟩

set_option maxHeartbeats 1600000 in
theorem refRunRate_any (r : RunS) (x n : Int) (g : Nat) (w : World) (hr : r.Ok) (ho : Own w g r.cells 48) (n1 : -9223372036854775808 ≤ n) (n2 : n ≤ 9223372036854775807) :
    Calls Try.prog 32 #[.pointer (some ⟨g, 0, none⟩), .int .i64 x, .int .i64 n] w fun e w' =>
      e = .returned (.int .i64 (rateR r x n).2) ∧ (rateR r x n).1.Ok ∧ Own w' g (rateR r x n).1.cells 48 ∧ w.grownBy w' (some g) := by
  have hat := fun W h => refAt_any r n g W hr h n1 n2
  cases hP : isRate x
  · have hc : rateR r x n = (r, 1) := by simp [rateR, hP]
    rw [hc]
    have HP := Lib.hid hP; have HO := Lib.hid ho; clear hP hc ho hat
    go_enter Try.func32, Try.ntmps32
    go_wp2_with fail
    refine (refRate_any x _).mono ?_
    rintro e w' ⟨rfl, rfl⟩
    rw [HP.out]
    go_wp2_with fail
    go_ret
    exact ⟨rfl, hr, HO.out, World.grownBy.refl _ _⟩
  · have ha := @atR_bd r n
    have hday := @atR_day r n
    have hc : rateR r x n = if (atR r n).2 = 0 then if r.bp = x then (r, 0) else (⟨r.p, x, n, (atR r n).1⟩, 0) else (r, (atR r n).2) := by simp [rateR, hP]
    obtain ⟨x1, x2⟩ := isRate_iff.1 hP
    rw [hc]
    generalize atR r n = a at *
    obtain ⟨a1, a2⟩ := a
    obtain ⟨p, bp, s, d⟩ := r
    simp only [] at ha hday ⊢
    have HP := Lib.hid hP; have HA := Lib.hid hat; clear hP hc hat
    have hlt := own_lt ho
    have HO := Lib.hid ho; clear ho
    by_cases h2 : a2 = 0
    · obtain ⟨n3, n4⟩ := isDay_iff.1 (hday h2)
      clear hday
      subst h2
      by_cases hpx : bp = x
      · rw [if_pos rfl, if_pos hpx]
        have heq : (x == bp) = true := by simpa using hpx.symm
        clear hpx
        go_enter Try.func32, Try.ntmps32
        go_wp2_with fail
        refine (refRate_any x _).mono ?_
        rintro e w' ⟨rfl, rfl⟩
        rw [HP.out]
        go_wp2_with fail
        refine (HA.out _ HO.out).mono ?_
        rintro e w1 ⟨rfl, hb1⟩
        unfold Pair
        have ho1 := own_below HO.out hb1 hlt
        have g0 : w1.cell? ⟨g, 0, none⟩ = some (.int .i64 p) := own_cell ho1 0
        have g1 : w1.cell? ⟨g, 1, none⟩ = some (.int .i64 bp) := own_cell ho1 1
        have g2 : w1.cell? ⟨g, 2, none⟩ = some (.int .i64 s) := own_cell ho1 2
        have g3 : w1.cell? ⟨g, 3, none⟩ = some (.int .i64 d) := own_cell ho1 3
        have z0 := own_frz ho1 0
        have z1 := own_frz ho1 1
        have z2 := own_frz ho1 2
        have z3 := own_frz ho1 3
        have O1 := Lib.hid ho1; have B1 := Lib.hid hb1
        clear ho1 hb1
        go_wp2_with fail
        go_ret
        exact ⟨rfl, hr, O1.out, ⟨B1.out.os, B1.out.tape, B1.out.output, B1.out.size, fun i hi _ => B1.out.block i hi⟩⟩
      · rw [if_pos rfl, if_neg hpx]
        have hne : (x == bp) = false := by simpa using fun h => hpx h.symm
        go_enter Try.func32, Try.ntmps32
        go_wp2_with fail
        refine (refRate_any x _).mono ?_
        rintro e w' ⟨rfl, rfl⟩
        rw [HP.out]
        go_wp2_with fail
        refine (HA.out _ HO.out).mono ?_
        rintro e w1 ⟨rfl, hb1⟩
        unfold Pair
        have ho1 := own_below HO.out hb1 hlt
        have g0 : w1.cell? ⟨g, 0, none⟩ = some (.int .i64 p) := own_cell ho1 0
        have g1 : w1.cell? ⟨g, 1, none⟩ = some (.int .i64 bp) := own_cell ho1 1
        have g2 : w1.cell? ⟨g, 2, none⟩ = some (.int .i64 s) := own_cell ho1 2
        have g3 : w1.cell? ⟨g, 3, none⟩ = some (.int .i64 d) := own_cell ho1 3
        have z0 := own_frz ho1 0
        have z1 := own_frz ho1 1
        have z2 := own_frz ho1 2
        have z3 := own_frz ho1 3
        have O1 := Lib.hid ho1; have B1 := Lib.hid hb1
        clear ho1 hb1
        go_wp2_with fail
        go_ret
        have hown := own_set (own_set (own_set O1.out 3 (.int .i64 a1)) 2 (.int .i64 n)) 1 (.int .i64 x)
        refine ⟨rfl, ?_, hown, ?_⟩
        · obtain ⟨k1, k2, k3, k4⟩ := hr
          exact ⟨k1, ⟨x1, x2⟩, ⟨n3, n4⟩, ha⟩
        · have hb := B1.out
          have hG : w.grownBy w1 (some g) := ⟨hb.os, hb.tape, hb.output, hb.size, fun i hi _ => hb.block i hi⟩
          exact grown_set (grown_set (grown_set hG 3 _) 2 _) 1 _
    · have hne : (a2 != 0) = true := by simpa using h2
      rw [if_neg h2]
      clear hday
      go_enter Try.func32, Try.ntmps32
      go_wp2_with fail
      refine (refRate_any x _).mono ?_
      rintro e w' ⟨rfl, rfl⟩
      rw [HP.out]
      go_wp2_with fail
      refine (HA.out _ HO.out).mono ?_
      rintro e w1 ⟨rfl, hb1⟩
      unfold Pair
      have ho1 := own_below HO.out hb1 hlt
      have g0 : w1.cell? ⟨g, 0, none⟩ = some (.int .i64 p) := own_cell ho1 0
      have g1 : w1.cell? ⟨g, 1, none⟩ = some (.int .i64 bp) := own_cell ho1 1
      have g2 : w1.cell? ⟨g, 2, none⟩ = some (.int .i64 s) := own_cell ho1 2
      have g3 : w1.cell? ⟨g, 3, none⟩ = some (.int .i64 d) := own_cell ho1 3
      have z0 := own_frz ho1 0
      have z1 := own_frz ho1 1
      have z2 := own_frz ho1 2
      have z3 := own_frz ho1 3
      have O1 := Lib.hid ho1; have B1 := Lib.hid hb1
      clear ho1 hb1
      go_wp2_with fail
      go_ret
      exact ⟨rfl, hr, O1.out, ⟨B1.out.os, B1.out.tape, B1.out.output, B1.out.size, fun i hi _ => B1.out.block i hi⟩⟩

end Go.Proofs.Ytlnnbadfbcokaaa
