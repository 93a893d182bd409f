/- Package accrue's Run: New, At, Change, Rate; what they answer, and what becomes of the run. -/
import Derived.WalkKit
import Derived.Outline
import Derived.Lib.Hide
import Derived.Handy
import Derived.Deep.RegionHeld3
import Derived.Laws.EntriesVeiled
import Derived.Test.YtlnnbadfbcokaaaAccrue
import Derived.Test.YtlnnbadfbcokaaaOwn
namespace Go.Proofs.Ytlnnbadfbcokaaa
open Go.RowKit

/-- a run: its principal, rate, day, and what was done ahead of that -/
structure RunS where
  p : Int
  bp : Int
  day : Int
  done : Int

def RunS.cells (r : RunS) : Array Value := #[.int .i64 r.p, .int .i64 r.bp, .int .i64 r.day, .int .i64 r.done]
/-- it is one that New and the changes make -/
def RunS.Ok (r : RunS) : Prop := (0 ≤ r.p ∧ r.p ≤ 4611686018427387904) ∧ (0 ≤ r.bp ∧ r.bp ≤ 100000) ∧ (0 ≤ r.day ∧ r.day ≤ 3652058) ∧ (-4611686018427387904 ≤ r.done ∧ r.done ≤ 4611686018427387904)
def atR (r : RunS) (n : Int) : Int × Int :=
  if isDay n then if n < r.day then (0, 10) else if (simpleR r.p r.bp (n - r.day)).2 = 0 then addR r.done (simpleR r.p r.bp (n - r.day)).1 else (0, (simpleR r.p r.bp (n - r.day)).2) else (0, 1)

set_option maxHeartbeats 1600000 in
theorem at_any (r : RunS) (n : Int) (g : Nat) (w : World) (hr : r.Ok) (ho : Own w g r.cells 71) (n1 : -9223372036854775808 ≤ n) (n2 : n ≤ 9223372036854775807) :
    Calls Try.prog 25 #[.pointer (some ⟨g, 0, none⟩), .int .i64 n] w fun e w' => e = Pair (atR r n) ∧ Below w.heap.size w w' := by
  obtain ⟨p, bp, s, d⟩ := r
  obtain ⟨⟨a1, a2⟩, ⟨b1, b2⟩, ⟨c1, c2⟩, ⟨d1, d2⟩⟩ := hr
  simp only [] at a1 a2 b1 b2 c1 c2 d1 d2
  have e0 : w.cell? ⟨g, 0, none⟩ = some (.int .i64 p) := own_cell ho 0
  have e1 : w.cell? ⟨g, 1, none⟩ = some (.int .i64 bp) := own_cell ho 1
  have e2 : w.cell? ⟨g, 2, none⟩ = some (.int .i64 s) := own_cell ho 2
  have e3 : w.cell? ⟨g, 3, none⟩ = some (.int .i64 d) := own_cell ho 3
  have hg := own_lt ho
  clear ho
  cases hD : isDay n
  · have hr : atR ⟨p, bp, s, d⟩ n = (0, 1) := by simp [atR, hD]
    have HR := Lib.hid hr; have HD := Lib.hid hD; clear hr hD
    go_enter Try.func25, Try.ntmps25
    go_wp2_with fail
    refine (day_any n _).mono ?_
    rintro e w' ⟨rfl, rfl⟩
    rw [HD.out]
    go_wp2_with fail
    go_ret2
    exact ⟨pair_of HR.out, Below.refl _ _⟩
  · obtain ⟨n3, n4⟩ := isDay_iff.1 hD
    by_cases hlt : n < s
    · have hr : atR ⟨p, bp, s, d⟩ n = (0, 10) := by simp [atR, hD, hlt]
      have HR := Lib.hid hr; have HD := Lib.hid hD; clear hr hD
      go_enter Try.func25, Try.ntmps25
      go_wp2_with fail
      refine (day_any n _).mono ?_
      rintro e w' ⟨rfl, rfl⟩
      rw [HD.out]
      go_wp2_with fail
      go_ret2
      exact ⟨pair_of HR.out, Below.refl _ _⟩
    · have hs := fun W => simple_any p bp (n - s) W (by omega) (by omega)
      have hr : atR ⟨p, bp, s, d⟩ n = if (simpleR p bp (n - s)).2 = 0 then addR d (simpleR p bp (n - s)).1 else (0, (simpleR p bp (n - s)).2) := by simp [atR, hD, hlt]
      have hb := @simple_bd p bp (n - s)
      generalize simpleR p bp (n - s) = m at *
      obtain ⟨m1, m2⟩ := m
      simp only [] at hr hb
      unfold Pair at hs
      have HR := Lib.hid hr; have HD := Lib.hid hD; have HS := Lib.hid hs; clear hr hD hs
      go_enter Try.func25, Try.ntmps25
      go_wp2_with fail
      refine (day_any n _).mono ?_
      rintro e w' ⟨rfl, rfl⟩
      rw [HD.out]
      go_upto_region 5 with fail
      have hwr : IntKind.i64.wrap (n - s) = n - s := IntWalk.i64_in _ (by omega)
      go_region_held3 (fun w' => w'.cell? ⟨g, 0, none⟩ = some (.int .i64 p) ∧ w'.cell? ⟨g, 1, none⟩ = some (.int .i64 bp) ∧ w'.cell? ⟨g, 2, none⟩ = some (.int .i64 s)) (go_keep)
        (first | (go_at_call 13; refine (HS.out _).mono ?_; rintro e w1 ⟨rfl, hb1⟩; have x0 := (hb1.cell (p := ⟨g, 0, none⟩) (by simpa using hg)).trans e0; have x1 := (hb1.cell (p := ⟨g, 1, none⟩) (by simpa using hg)).trans e1; have x2 := (hb1.cell (p := ⟨g, 2, none⟩) (by simpa using hg)).trans e2; have x3 := (hb1.cell (p := ⟨g, 3, none⟩) (by simpa using hg)).trans e3))
      have hbw : Below w.heap.size w w1 := ((Below.refl _ _).drew).trans (hb1.mono (by simp))
      clear hb1
      by_cases hm : m2 = 0
      · subst hm
        go_wp2_with fail
        refine (add_any d m1 _ (by omega) (by omega) (by omega) (by omega)).mono ?_
        rintro e w2 ⟨rfl, hb2⟩
        unfold Pair
        go_wp2_with fail
        go_ret2
        exact ⟨pair_of (by rw [HR.out]; rfl), hbw.trans (hb2.mono hbw.size)⟩
      · have hm' : (m2 != 0) = true := by simpa using hm
        go_wp2_with fail
        go_ret2
        exact ⟨pair_of (by rw [HR.out, if_neg hm]), hbw⟩

theorem grown_set {a w : World} {g : Nat} (h : a.grownBy w (some g)) (i : Nat) (v : Value) : a.grownBy (w.setCell ⟨g, i, none⟩ v) (some g) :=
  ⟨h.os, h.tape, h.output, by simpa [World.setCell] using h.size, fun k hk hne => (Below.heap_setCell w ⟨g, i, none⟩ v k (by rintro rfl; exact hne rfl)).trans (h.block k hk hne)⟩

theorem addR_bd {a b : Int} : -4611686018427387904 ≤ (addR a b).1 ∧ (addR a b).1 ≤ 4611686018427387904 := by
  unfold addR told amt
  split
  · split
    · rename_i h; simpa using h
    · simp
  · simp
theorem atR_bd {r : RunS} {n : Int} : -4611686018427387904 ≤ (atR r n).1 ∧ (atR r n).1 ≤ 4611686018427387904 := by
  unfold atR
  split
  · split
    · simp
    · split
      · exact addR_bd
      · simp
  · simp
theorem atR_day {r : RunS} {n : Int} (h : (atR r n).2 = 0) : isDay n = true := by
  unfold atR at h
  split at h
  · assumption
  · simp at h

/-- what a change comes to: the run behind it, the error -/
def changeR (r : RunS) (x n : Int) : RunS × Int :=
  if isPrin x then if (atR r n).2 = 0 then if r.p = x then (r, 0) else (⟨x, r.bp, n, (atR r n).1⟩, 0) else (r, (atR r n).2) else (r, 1)

set_option maxHeartbeats 1600000 in
theorem runChange_any (r : RunS) (x n : Int) (g : Nat) (w : World) (hr : r.Ok) (ho : Own w g r.cells 71) (n1 : -9223372036854775808 ≤ n) (n2 : n ≤ 9223372036854775807) :
    Calls Try.prog 26 #[.pointer (some ⟨g, 0, none⟩), .int .i64 x, .int .i64 n] w fun e w' =>
      e = .returned (.int .i64 (changeR r x n).2) ∧ (changeR r x n).1.Ok ∧ Own w' g (changeR r x n).1.cells 71 ∧ w.grownBy w' (some g) := by
  have hat := fun W h => at_any r n g W hr h n1 n2
  have hmf : ∀ (fn : Fn) (first cap : Array Value) (w : World), (Instr.makeFunc fn first cap).run Try.prog w = .ok (.func fn first cap) w := fun _ _ _ _ => rfl
  cases hP : isPrin x
  · have hc : changeR r x n = (r, 1) := by simp [changeR, hP]
    rw [hc]
    have HP := Lib.hid hP; have HO := Lib.hid ho; clear hP hc ho hat
    go_enter Try.func26, Try.ntmps26
    go_wp2_with fail
    refine (prin_any x _).mono ?_
    rintro e w' ⟨rfl, rfl⟩
    rw [HP.out]
    go_wp2_with fail
    go_ret
    exact ⟨rfl, hr, HO.out, World.grownBy.refl _ _⟩
  · have ha := @atR_bd r n
    have hday := @atR_day r n
    have hc : changeR r x n = if (atR r n).2 = 0 then if r.p = x then (r, 0) else (⟨x, r.bp, n, (atR r n).1⟩, 0) else (r, (atR r n).2) := by simp [changeR, hP]
    obtain ⟨x1, x2⟩ := isPrin_iff.1 hP
    rw [hc]
    generalize atR r n = a at *
    obtain ⟨a1, a2⟩ := a
    obtain ⟨p, bp, s, d⟩ := r
    simp only [] at ha hday ⊢
    have HP := Lib.hid hP; have HA := Lib.hid hat; clear hP hc hat
    have hlt := own_lt ho
    have e0 : w.cell? ⟨g, 0, none⟩ = some (.int .i64 p) := own_cell ho 0
    have HO := Lib.hid ho; clear ho
    by_cases h2 : a2 = 0
    · obtain ⟨n3, n4⟩ := isDay_iff.1 (hday h2)
      clear hday
      subst h2
      by_cases hpx : p = x
      · rw [if_pos rfl, if_pos hpx]
        have heq : (p == x) = true := by simpa using hpx
        clear hpx
        go_enter Try.func26, Try.ntmps26
        go_wp2_with fail
        refine (prin_any x _).mono ?_
        rintro e w' ⟨rfl, rfl⟩
        rw [HP.out]
        go_wp2_with fail
        go_in
        go_wp2_with fail
        refine (HA.out _ HO.out).mono ?_
        rintro e w1 ⟨rfl, hb1⟩
        unfold Pair
        have ho1 := own_below HO.out hb1 hlt
        have g0 : w1.cell? ⟨g, 0, none⟩ = some (.int .i64 p) := own_cell ho1 0
        have g1 : w1.cell? ⟨g, 1, none⟩ = some (.int .i64 bp) := own_cell ho1 1
        have g2 : w1.cell? ⟨g, 2, none⟩ = some (.int .i64 s) := own_cell ho1 2
        have g3 : w1.cell? ⟨g, 3, none⟩ = some (.int .i64 d) := own_cell ho1 3
        have z0 := own_frz ho1 0
        have z1 := own_frz ho1 1
        have z2 := own_frz ho1 2
        have z3 := own_frz ho1 3
        have O1 := Lib.hid ho1; have B1 := Lib.hid hb1
        clear ho1 hb1
        go_wp2_with fail
        go_ret
        exact ⟨rfl, hr, O1.out, ⟨B1.out.os, B1.out.tape, B1.out.output, B1.out.size, fun i hi _ => B1.out.block i hi⟩⟩
      · rw [if_pos rfl, if_neg hpx]
        have hne : (p == x) = false := by simpa using hpx
        go_enter Try.func26, Try.ntmps26
        go_wp2_with fail
        refine (prin_any x _).mono ?_
        rintro e w' ⟨rfl, rfl⟩
        rw [HP.out]
        go_wp2_with fail
        go_in
        go_wp2_with fail
        refine (HA.out _ HO.out).mono ?_
        rintro e w1 ⟨rfl, hb1⟩
        unfold Pair
        have ho1 := own_below HO.out hb1 hlt
        have g0 : w1.cell? ⟨g, 0, none⟩ = some (.int .i64 p) := own_cell ho1 0
        have g1 : w1.cell? ⟨g, 1, none⟩ = some (.int .i64 bp) := own_cell ho1 1
        have g2 : w1.cell? ⟨g, 2, none⟩ = some (.int .i64 s) := own_cell ho1 2
        have g3 : w1.cell? ⟨g, 3, none⟩ = some (.int .i64 d) := own_cell ho1 3
        have z0 := own_frz ho1 0
        have z1 := own_frz ho1 1
        have z2 := own_frz ho1 2
        have z3 := own_frz ho1 3
        have O1 := Lib.hid ho1; have B1 := Lib.hid hb1
        clear ho1 hb1
        go_wp2_with fail
        go_ret
        have hown := own_set (own_set (own_set O1.out 0 (.int .i64 x)) 3 (.int .i64 a1)) 2 (.int .i64 n)
        refine ⟨rfl, ?_, hown, ?_⟩
        · obtain ⟨k1, k2, k3, k4⟩ := hr
          exact ⟨⟨x1, x2⟩, k2, ⟨n3, n4⟩, ha⟩
        · have hb := B1.out
          have hG : w.grownBy w1 (some g) := ⟨hb.os, hb.tape, hb.output, hb.size, fun i hi _ => hb.block i hi⟩
          exact grown_set (grown_set (grown_set hG 0 _) 3 _) 2 _
    · have hne : (a2 != 0) = true := by simpa using h2
      rw [if_neg h2]
      clear hday
      go_enter Try.func26, Try.ntmps26
      go_wp2_with fail
      refine (prin_any x _).mono ?_
      rintro e w' ⟨rfl, rfl⟩
      rw [HP.out]
      go_wp2_with fail
      go_in
      go_wp2_with fail
      refine (HA.out _ HO.out).mono ?_
      rintro e w1 ⟨rfl, hb1⟩
      unfold Pair
      have ho1 := own_below HO.out hb1 hlt
      have g0 : w1.cell? ⟨g, 0, none⟩ = some (.int .i64 p) := own_cell ho1 0
      have g1 : w1.cell? ⟨g, 1, none⟩ = some (.int .i64 bp) := own_cell ho1 1
      have g2 : w1.cell? ⟨g, 2, none⟩ = some (.int .i64 s) := own_cell ho1 2
      have g3 : w1.cell? ⟨g, 3, none⟩ = some (.int .i64 d) := own_cell ho1 3
      have z0 := own_frz ho1 0
      have z1 := own_frz ho1 1
      have z2 := own_frz ho1 2
      have z3 := own_frz ho1 3
      have O1 := Lib.hid ho1; have B1 := Lib.hid hb1
      clear ho1 hb1
      go_wp2_with fail
      go_ret
      exact ⟨rfl, hr, O1.out, ⟨B1.out.os, B1.out.tape, B1.out.output, B1.out.size, fun i hi _ => B1.out.block i hi⟩⟩

/-- what a change comes to: the run behind it, the error -/
def rateR (r : RunS) (x n : Int) : RunS × Int :=
  if isRate x then if (atR r n).2 = 0 then if r.bp = x then (r, 0) else (⟨r.p, x, n, (atR r n).1⟩, 0) else (r, (atR r n).2) else (r, 1)

set_option maxHeartbeats 1600000 in
theorem runRate_any (r : RunS) (x n : Int) (g : Nat) (w : World) (hr : r.Ok) (ho : Own w g r.cells 71) (n1 : -9223372036854775808 ≤ n) (n2 : n ≤ 9223372036854775807) :
    Calls Try.prog 27 #[.pointer (some ⟨g, 0, none⟩), .int .i64 x, .int .i64 n] w fun e w' =>
      e = .returned (.int .i64 (rateR r x n).2) ∧ (rateR r x n).1.Ok ∧ Own w' g (rateR r x n).1.cells 71 ∧ w.grownBy w' (some g) := by
  have hat := fun W h => at_any r n g W hr h n1 n2
  have hmf : ∀ (fn : Fn) (first cap : Array Value) (w : World), (Instr.makeFunc fn first cap).run Try.prog w = .ok (.func fn first cap) w := fun _ _ _ _ => rfl
  cases hP : isRate x
  · have hc : rateR r x n = (r, 1) := by simp [rateR, hP]
    rw [hc]
    have HP := Lib.hid hP; have HO := Lib.hid ho; clear hP hc ho hat
    go_enter Try.func27, Try.ntmps27
    go_wp2_with fail
    refine (rate_any x _).mono ?_
    rintro e w' ⟨rfl, rfl⟩
    rw [HP.out]
    go_wp2_with fail
    go_ret
    exact ⟨rfl, hr, HO.out, World.grownBy.refl _ _⟩
  · have ha := @atR_bd r n
    have hday := @atR_day r n
    have hc : rateR r x n = if (atR r n).2 = 0 then if r.bp = x then (r, 0) else (⟨r.p, x, n, (atR r n).1⟩, 0) else (r, (atR r n).2) := by simp [rateR, hP]
    obtain ⟨x1, x2⟩ := isRate_iff.1 hP
    rw [hc]
    generalize atR r n = a at *
    obtain ⟨a1, a2⟩ := a
    obtain ⟨p, bp, s, d⟩ := r
    simp only [] at ha hday ⊢
    have HP := Lib.hid hP; have HA := Lib.hid hat; clear hP hc hat
    have hlt := own_lt ho
    have e0 : w.cell? ⟨g, 1, none⟩ = some (.int .i64 bp) := own_cell ho 1
    have HO := Lib.hid ho; clear ho
    by_cases h2 : a2 = 0
    · obtain ⟨n3, n4⟩ := isDay_iff.1 (hday h2)
      clear hday
      subst h2
      by_cases hpx : bp = x
      · rw [if_pos rfl, if_pos hpx]
        have heq : (bp == x) = true := by simpa using hpx
        clear hpx
        go_enter Try.func27, Try.ntmps27
        go_wp2_with fail
        refine (rate_any x _).mono ?_
        rintro e w' ⟨rfl, rfl⟩
        rw [HP.out]
        go_wp2_with fail
        go_in
        go_wp2_with fail
        refine (HA.out _ HO.out).mono ?_
        rintro e w1 ⟨rfl, hb1⟩
        unfold Pair
        have ho1 := own_below HO.out hb1 hlt
        have g0 : w1.cell? ⟨g, 0, none⟩ = some (.int .i64 p) := own_cell ho1 0
        have g1 : w1.cell? ⟨g, 1, none⟩ = some (.int .i64 bp) := own_cell ho1 1
        have g2 : w1.cell? ⟨g, 2, none⟩ = some (.int .i64 s) := own_cell ho1 2
        have g3 : w1.cell? ⟨g, 3, none⟩ = some (.int .i64 d) := own_cell ho1 3
        have z0 := own_frz ho1 0
        have z1 := own_frz ho1 1
        have z2 := own_frz ho1 2
        have z3 := own_frz ho1 3
        have O1 := Lib.hid ho1; have B1 := Lib.hid hb1
        clear ho1 hb1
        go_wp2_with fail
        go_ret
        exact ⟨rfl, hr, O1.out, ⟨B1.out.os, B1.out.tape, B1.out.output, B1.out.size, fun i hi _ => B1.out.block i hi⟩⟩
      · rw [if_pos rfl, if_neg hpx]
        have hne : (bp == x) = false := by simpa using hpx
        go_enter Try.func27, Try.ntmps27
        go_wp2_with fail
        refine (rate_any x _).mono ?_
        rintro e w' ⟨rfl, rfl⟩
        rw [HP.out]
        go_wp2_with fail
        go_in
        go_wp2_with fail
        refine (HA.out _ HO.out).mono ?_
        rintro e w1 ⟨rfl, hb1⟩
        unfold Pair
        have ho1 := own_below HO.out hb1 hlt
        have g0 : w1.cell? ⟨g, 0, none⟩ = some (.int .i64 p) := own_cell ho1 0
        have g1 : w1.cell? ⟨g, 1, none⟩ = some (.int .i64 bp) := own_cell ho1 1
        have g2 : w1.cell? ⟨g, 2, none⟩ = some (.int .i64 s) := own_cell ho1 2
        have g3 : w1.cell? ⟨g, 3, none⟩ = some (.int .i64 d) := own_cell ho1 3
        have z0 := own_frz ho1 0
        have z1 := own_frz ho1 1
        have z2 := own_frz ho1 2
        have z3 := own_frz ho1 3
        have O1 := Lib.hid ho1; have B1 := Lib.hid hb1
        clear ho1 hb1
        go_wp2_with fail
        go_ret
        have hown := own_set (own_set (own_set O1.out 1 (.int .i64 x)) 3 (.int .i64 a1)) 2 (.int .i64 n)
        refine ⟨rfl, ?_, hown, ?_⟩
        · obtain ⟨k1, k2, k3, k4⟩ := hr
          exact ⟨k1, ⟨x1, x2⟩, ⟨n3, n4⟩, ha⟩
        · have hb := B1.out
          have hG : w.grownBy w1 (some g) := ⟨hb.os, hb.tape, hb.output, hb.size, fun i hi _ => hb.block i hi⟩
          exact grown_set (grown_set (grown_set hG 1 _) 3 _) 2 _
    · have hne : (a2 != 0) = true := by simpa using h2
      rw [if_neg h2]
      clear hday
      go_enter Try.func27, Try.ntmps27
      go_wp2_with fail
      refine (rate_any x _).mono ?_
      rintro e w' ⟨rfl, rfl⟩
      rw [HP.out]
      go_wp2_with fail
      go_in
      go_wp2_with fail
      refine (HA.out _ HO.out).mono ?_
      rintro e w1 ⟨rfl, hb1⟩
      unfold Pair
      have ho1 := own_below HO.out hb1 hlt
      have g0 : w1.cell? ⟨g, 0, none⟩ = some (.int .i64 p) := own_cell ho1 0
      have g1 : w1.cell? ⟨g, 1, none⟩ = some (.int .i64 bp) := own_cell ho1 1
      have g2 : w1.cell? ⟨g, 2, none⟩ = some (.int .i64 s) := own_cell ho1 2
      have g3 : w1.cell? ⟨g, 3, none⟩ = some (.int .i64 d) := own_cell ho1 3
      have z0 := own_frz ho1 0
      have z1 := own_frz ho1 1
      have z2 := own_frz ho1 2
      have z3 := own_frz ho1 3
      have O1 := Lib.hid ho1; have B1 := Lib.hid hb1
      clear ho1 hb1
      go_wp2_with fail
      go_ret
      exact ⟨rfl, hr, O1.out, ⟨B1.out.os, B1.out.tape, B1.out.output, B1.out.size, fun i hi _ => B1.out.block i hi⟩⟩
end Go.Proofs.Ytlnnbadfbcokaaa
