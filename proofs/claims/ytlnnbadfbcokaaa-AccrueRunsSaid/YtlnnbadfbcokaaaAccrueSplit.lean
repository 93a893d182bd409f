/- The law AccrueSplit: however often a run was asked for in between, its interest is that of the days at once: the walk. -/
import Derived.WalkKit
import Derived.Outline
import Derived.Lib.Hide
import Derived.Handy
import Derived.Deep.QuietTactic
import Derived.BigQuiet
import Derived.Test.YtlnnbadfbcokaaaRun
import Derived.Test.YtlnnbadfbcokaaaInts
namespace Go.Proofs.Ytlnnbadfbcokaaa
open Go.RowKit

theorem new_ok (p bp d : Int) (w : World) (h : (isPrin p && (isRate bp && isDay d)) = true) :
    Calls Try.prog 24 #[.int .i64 p, .int .i64 bp, .int .i64 d] w fun e w' =>
      e = .returned (.tuple #[.pointer (some ⟨w.heap.size, 0, none⟩), .int .i64 0]) ∧ w.alloc (.cells #[.int .i64 p, .int .i64 bp, .int .i64 d, .int .i64 0] 71) = w' := by
  simp only [Bool.and_eq_true] at h
  obtain ⟨h1, h2, h3⟩ := h
  have H1 := Lib.hid h1; have H2 := Lib.hid h2; have H3 := Lib.hid h3; clear h1 h2 h3
  go_enter Try.func24, Try.ntmps24
  go_wp2_with fail
  refine (prin_any p _).mono ?_
  rintro e w' ⟨rfl, rfl⟩
  rw [H1.out]
  go_wp2_with fail
  refine (rate_any bp _).mono ?_
  rintro e w' ⟨rfl, rfl⟩
  rw [H2.out]
  go_wp2_with fail
  refine (day_any d _).mono ?_
  rintro e w' ⟨rfl, rfl⟩
  rw [H3.out]
  go_wp2_with fail
  go_ret2
  exact ⟨rfl, rfl⟩

theorem new_no (p bp d : Int) (w : World) (h : (isPrin p && (isRate bp && isDay d)) = false) :
    Calls Try.prog 24 #[.int .i64 p, .int .i64 bp, .int .i64 d] w fun e w' => e = .returned (.tuple #[.pointer none, .int .i64 1]) ∧ w = w' := by
  cases h1 : isPrin p
  · have H1 := Lib.hid h1; clear h1 h
    go_enter Try.func24, Try.ntmps24
    go_wp2_with fail
    refine (prin_any p _).mono ?_
    rintro e w' ⟨rfl, rfl⟩
    rw [H1.out]
    go_wp2_with fail
    go_ret2
    exact ⟨rfl, rfl⟩
  · cases h2 : isRate bp
    · have H1 := Lib.hid h1; have H2 := Lib.hid h2; clear h1 h2 h
      go_enter Try.func24, Try.ntmps24
      go_wp2_with fail
      refine (prin_any p _).mono ?_
      rintro e w' ⟨rfl, rfl⟩
      rw [H1.out]
      go_wp2_with fail
      refine (rate_any bp _).mono ?_
      rintro e w' ⟨rfl, rfl⟩
      rw [H2.out]
      go_wp2_with fail
      go_ret2
      exact ⟨rfl, rfl⟩
    · have h3 : isDay d = false := by rw [h1, h2] at h; simpa using h
      have H1 := Lib.hid h1; have H2 := Lib.hid h2; have H3 := Lib.hid h3; clear h1 h2 h3 h
      go_enter Try.func24, Try.ntmps24
      go_wp2_with fail
      refine (prin_any p _).mono ?_
      rintro e w' ⟨rfl, rfl⟩
      rw [H1.out]
      go_wp2_with fail
      refine (rate_any bp _).mono ?_
      rintro e w' ⟨rfl, rfl⟩
      rw [H2.out]
      go_wp2_with fail
      refine (day_any d _).mono ?_
      rintro e w' ⟨rfl, rfl⟩
      rw [H3.out]
      go_wp2_with fail
      go_ret2
      exact ⟨rfl, rfl⟩

theorem since_any (r : RunS) (g : Nat) (w : World) (ho : Own w g r.cells 71) :
    Calls Try.prog 28 #[.pointer (some ⟨g, 0, none⟩)] w fun e w' => e = .returned (.int .i64 r.day) ∧ w = w' := by
  have e2 : w.cell? ⟨g, 2, none⟩ = some (.int .i64 r.day) := own_cell ho 2
  clear ho
  go_enter Try.func28, Try.ntmps28
  go_wp2_with fail
  go_ret
  exact ⟨rfl, rfl⟩

theorem principal_any (r : RunS) (g : Nat) (w : World) (ho : Own w g r.cells 71) :
    Calls Try.prog 33 #[.pointer (some ⟨g, 0, none⟩)] w fun e w' => e = .returned (.int .i64 r.p) ∧ w = w' := by
  have e2 : w.cell? ⟨g, 0, none⟩ = some (.int .i64 r.p) := own_cell ho 0
  clear ho
  go_enter Try.func33, Try.ntmps33
  go_wp2_with fail
  go_ret
  exact ⟨rfl, rfl⟩

theorem simple_err {p bp d : Int} (h : ¬ (simpleR p bp d).2 = 0) : (simpleR p bp d).1 = 0 := by
  unfold simpleR mulDivR dvd at *
  split at h
  · rename_i c
    rw [if_pos c]
    split at h
    · rename_i c2
      rw [if_pos c2]
      split at h
      · simp at h
      · rename_i c3; simp [c3]
    · rename_i c2; rw [if_neg c2]
  · rename_i c; simp [c]

theorem at_still {p bp s n : Int} (h1 : isDay n = true) (h2 : ¬ n < s) : atR ⟨p, bp, s, 0⟩ n = simpleR p bp (n - s) := by
  unfold atR
  simp only [h1, if_true, h2, if_false]
  have hb := @simple_bd p bp (n - s)
  have he := @simple_err p bp (n - s)
  generalize simpleR p bp (n - s) = m at *
  obtain ⟨a, b⟩ := m
  simp only [] at hb he ⊢
  by_cases c : b = 0
  · subst c
    have h0 : amt 0 = true := by decide
    have ha : amt a = true := amt_iff.2 hb
    simp [addR, told, h0, ha]
  · rw [if_neg c, he c]

theorem change_still {r : RunS} {n : Int} : (changeR r r.p n).1 = r := by
  unfold changeR
  split
  · split
    · simp
    · rfl
  · rfl
theorem rate_still {r : RunS} {n : Int} : (rateR r r.bp n).1 = r := by
  unfold rateR
  split
  · split
    · simp
    · rfl
  · rfl
set_option maxRecDepth 100000 in
set_option maxHeartbeats 6400000 in
theorem accrueSplit_some (so sd sp sb : Int) (b off len cap : Nat) (l : List Int) (w : World) (q1 : -9223372036854775808 ≤ so) (q2 : so ≤ 9223372036854775807) (d1 : -9223372036854775808 ≤ sd) (d2 : sd ≤ 9223372036854775807)
    (p1 : -9223372036854775808 ≤ sp) (p2 : sp ≤ 9223372036854775807) (b1 : -9223372036854775808 ≤ sb) (b2 : sb ≤ 9223372036854775807) (hb : b < w.heap.size) (hcl : ∀ k, k < len → w.cell? ⟨b, off + k, none⟩ = some (.int .i64 (l.getD k 0))) (hbd : ∀ k, -9223372036854775808 ≤ l.getD k 0 ∧ l.getD k 0 ≤ 9223372036854775807) (hm : len ≤ 9223372036854775807) :
    Calls Try.prog 8 #[.agg #[.int .i64 so, .int .i64 sd, .int .i64 sp, .int .i64 sb], .slice (some ⟨b, off, none⟩) len cap] w fun e w' => e = .returned (.bool true) ∧ Below w.heap.size w w' := by
  cases hok : (isPrin sp && (isRate sb && isDay sd))
  · have hn := fun W => new_no sp sb sd W hok
    have HN := Lib.hid hn
    clear hok hn hcl hbd
    go_enter Try.func8, Try.ntmps8
    go_wp2_with fail
    refine (awake18 _).mono ?_
    rintro e w1 ⟨rfl, hb1⟩
    obtain ⟨hc, hf⟩ := bcell hb1
    go_wp2_with fail
    refine (HN.out _).mono ?_
    rintro e w2 ⟨rfl, rfl⟩
    go_wp2_with fail
    go_ret
    exact ⟨rfl, ((Below.refl _ _).alloc (Nat.le_refl _) _).trans (hb1.mono (by simp))⟩
  · have hn := fun W => new_ok sp sb sd W hok
    have hk := hok
    simp only [Bool.and_eq_true] at hk
    obtain ⟨k1, k2, k3⟩ := hk
    obtain ⟨a1, a2⟩ := isPrin_iff.1 k1
    obtain ⟨a3, a4⟩ := isRate_iff.1 k2
    obtain ⟨a5, a6⟩ := isDay_iff.1 k3
    have hrok : RunS.Ok ⟨sp, sb, sd, 0⟩ := ⟨⟨a1, a2⟩, ⟨a3, a4⟩, ⟨a5, a6⟩, by simp⟩
    have HN := Lib.hid hn
    have HAD := Lib.hid hcl
    have HBD := Lib.hid hbd
    have HRO := Lib.hid hrok
    clear hok hn k1 k2 k3 hcl hbd hrok
    go_enter Try.func8, Try.ntmps8
    go_wp2_with fail
    refine (awake18 _).mono ?_
    rintro e w1 ⟨rfl, hb1⟩
    obtain ⟨hc, hf⟩ := bcell hb1
    go_wp2_with fail
    refine (HN.out _).mono ?_
    rintro e w2 ⟨rfl, hw2⟩
    have hs1 := hb1.size
    simp at hs1
    have ho0 : Own w2 w.heap.size #[.int .i64 so, .int .i64 sd, .int .i64 sp, .int .i64 sb] 28 := by
      rw [← hw2]; exact own_alloc (own_below (own_new _ _ _) hb1 (by simp)) _
    have ho1 : Own w2 w1.heap.size (RunS.cells ⟨sp, sb, sd, 0⟩) 71 := by rw [← hw2]; exact own_new _ _ _
    have hbw : Below w.heap.size w w2 := by rw [← hw2]; exact (((Below.refl _ _).alloc (Nat.le_refl _) _).trans (hb1.mono (by simp))).alloc (by omega) _
    have hsz : w1.heap.size < w2.heap.size := by rw [← hw2]; simp
    have hlt : w.heap.size < w1.heap.size := by omega
    clear hw2 hb1 hc hf
    generalize w1.heap.size = g at *
    have e0 : ∀ i, w2.cell? ⟨w.heap.size, i, none⟩ = (#[.int .i64 so, .int .i64 sd, .int .i64 sp, .int .i64 sb] : Array Value)[i]? := own_cell ho0
    go_wp2_with fail
    have HO0 := Lib.hid ho0
    have HO1 := Lib.hid ho1
    have HBW := Lib.hid hbw
    clear ho0 ho1 hbw e0
    go_loopw [8, 9] (fun vt vi wr => ∃ (k : Nat) (t : Int), k ≤ len ∧ vi = .int .i64 k ∧ vt = .int .i64 t ∧ sd ≤ t ∧ t ≤ 3652058 ∧ Hid (Below w.heap.size w wr) ∧
      Hid (Own wr w.heap.size #[.int .i64 so, .int .i64 sd, .int .i64 sp, .int .i64 sb] 28) ∧ Hid (Own wr g (RunS.cells ⟨sp, sb, sd, 0⟩) 71) ∧ g < wr.heap.size) (fun _ vi _ => len - (intOf vi).toNat)
    case atStart => exact ⟨0, sd, by omega, rfl, rfl, by omega, by omega, HBW, HO0, HO1, by omega⟩
    case round =>
      obtain ⟨k, t, hk, rfl, rfl, t1, t2, HB, HS, HR, hg⟩ := hrel
      have e0 : ∀ i, wr.cell? ⟨w.heap.size, i, none⟩ = (#[.int .i64 so, .int .i64 sd, .int .i64 sp, .int .i64 sb] : Array Value)[i]? := own_cell HS.out
      by_cases hlt : k < len
      · by_cases h100 : k < 100
        · have hx0 : wr.cell? ⟨b, off + k, none⟩ = some (.int .i64 (l.getD k 0)) := (HB.out.cell (p := ⟨b, off + k, none⟩) hb).trans (HAD.out k hlt)
          obtain ⟨x1, x2⟩ := HBD.out k
          generalize l.getD k 0 = x at *
          by_cases c1 : x < 0
          · go_wp2_with fail
            clear e0 hx0
            go_roundw
            case rel => exact ⟨k + 1, t, by omega, by go_num, rfl, by omega, by omega, HB, HS, HR, hg⟩
            case measure => simp [intOf]; omega
          · by_cases c2 : 3652058 - t < x
            · go_wp2_with fail
              clear e0 hx0
              go_roundw
              case rel => exact ⟨k + 1, t, by omega, by go_num, rfl, by omega, by omega, HB, HS, HR, hg⟩
              case measure => simp [intOf]; omega
            · go_wp2_with fail
              refine (at_any ⟨sp, sb, sd, 0⟩ (t + x) g wr HRO.out HR.out (by omega) (by omega)).mono ?_
              rintro e wd1 ⟨rfl, hb1⟩
              unfold Pair
              have R1 := Lib.hid (own_below HR.out hb1 hg)
              have S1 := Lib.hid (own_below HS.out hb1 (by omega))
              have B1 := Lib.hid (HB.out.trans (hb1.mono (by omega)))
              have g1 : g < wd1.heap.size := by have := hb1.size; omega
              clear hb1 e0 hx0
              have e0 : ∀ i, wd1.cell? ⟨w.heap.size, i, none⟩ = (#[.int .i64 so, .int .i64 sd, .int .i64 sp, .int .i64 sb] : Array Value)[i]? := own_cell S1.out
              go_wp2_with fail
              refine (runChange_any ⟨sp, sb, sd, 0⟩ sp (t + x) g wd1 HRO.out R1.out (by omega) (by omega)).mono ?_
              rintro e wd2 ⟨rfl, _, ho2, hg2⟩
              rw [show (changeR ⟨sp, sb, sd, 0⟩ sp (t + x)).1 = ⟨sp, sb, sd, 0⟩ from change_still] at ho2
              have R2 := Lib.hid ho2
              have S2 := Lib.hid ((hg2.block w.heap.size (by omega) (by intro h; injection h; omega)).trans S1.out)
              have B2 := Lib.hid (B1.out.grown hg2 (by omega) (fun q hq => by injection hq; omega))
              have g2 : g < wd2.heap.size := by have := hg2.size; omega
              clear ho2 hg2 e0
              have e0 : ∀ i, wd2.cell? ⟨w.heap.size, i, none⟩ = (#[.int .i64 so, .int .i64 sd, .int .i64 sp, .int .i64 sb] : Array Value)[i]? := own_cell S2.out
              go_wp2_with fail
              refine (runRate_any ⟨sp, sb, sd, 0⟩ sb (t + x) g wd2 HRO.out R2.out (by omega) (by omega)).mono ?_
              rintro e wd3 ⟨rfl, _, ho3, hg3⟩
              rw [show (rateR ⟨sp, sb, sd, 0⟩ sb (t + x)).1 = ⟨sp, sb, sd, 0⟩ from rate_still] at ho3
              have R3 := Lib.hid ho3
              have S3 := Lib.hid ((hg3.block w.heap.size (by omega) (by intro h; injection h; omega)).trans S2.out)
              have B3 := Lib.hid (B2.out.grown hg3 (by omega) (fun q hq => by injection hq; omega))
              have g3 : g < wd3.heap.size := by have := hg3.size; omega
              clear ho3 hg3 e0
              go_wp2_with fail
              refine (at_any ⟨sp, sb, sd, 0⟩ (t + x) g wd3 HRO.out R3.out (by omega) (by omega)).mono ?_
              rintro e wd4 ⟨rfl, hb4⟩
              rw [at_still (isDay_iff.2 ⟨by omega, by omega⟩) (by omega)]
              have hsm := fun W => simple_any sp sb (t + x - sd) W p1 p2
              generalize simpleR sp sb (t + x - sd) = m at *
              obtain ⟨m1, m2⟩ := m
              have R4 := Lib.hid (own_below R3.out hb4 g3)
              have S4 := Lib.hid (own_below S3.out hb4 (by omega))
              have B4 := Lib.hid (B3.out.trans (hb4.mono (by omega)))
              have g4 : g < wd4.heap.size := by have := hb4.size; omega
              have HSM := Lib.hid hsm
              clear hb4 hsm
              unfold Pair at HSM ⊢
              have e0 : ∀ i, wd4.cell? ⟨w.heap.size, i, none⟩ = (#[.int .i64 so, .int .i64 sd, .int .i64 sp, .int .i64 sb] : Array Value)[i]? := own_cell S4.out
              go_wp2_with fail
              refine (HSM.out _).mono ?_
              rintro e wd5 ⟨rfl, hb5⟩
              have R5 := Lib.hid (own_below R4.out hb5 g4)
              have S5 := Lib.hid (own_below S4.out hb5 (by omega))
              have B5 := Lib.hid (B4.out.trans (hb5.mono (by omega)))
              have g5 : g < wd5.heap.size := by have := hb5.size; omega
              clear hb5 e0
              go_wp2_with fail
              go_roundw
              case rel => exact ⟨k + 1, t + x, by omega, by go_num, rfl, by omega, by omega, B5, S5, R5, g5⟩
              case measure => simp [intOf]; omega
        · go_wp2_with fail
          go_quiet ((go_at_call 28; exact quiet_same (since_any ⟨sp, sb, sd, 0⟩ g _ (own_drewN HR.out _))))
          go_wp2_with fail
          go_ret
          exact ⟨rfl, below_drewN HB.out _⟩
      · go_wp2_with fail
        go_quiet ((go_at_call 28; exact quiet_same (since_any ⟨sp, sb, sd, 0⟩ g _ (own_drewN HR.out _))))
        go_wp2_with fail
        go_ret
        exact ⟨rfl, below_drewN HB.out _⟩

set_option maxRecDepth 100000 in
set_option maxHeartbeats 6400000 in
theorem accrueSplit_zero (so sd sp sb : Int) (A : Option Addr) (cap : Nat) (w : World) (q1 : -9223372036854775808 ≤ so) (q2 : so ≤ 9223372036854775807) (d1 : -9223372036854775808 ≤ sd) (d2 : sd ≤ 9223372036854775807)
    (p1 : -9223372036854775808 ≤ sp) (p2 : sp ≤ 9223372036854775807) (b1 : -9223372036854775808 ≤ sb) (b2 : sb ≤ 9223372036854775807) :
    Calls Try.prog 8 #[.agg #[.int .i64 so, .int .i64 sd, .int .i64 sp, .int .i64 sb], .slice A 0 cap] w fun e w' => e = .returned (.bool true) ∧ Below w.heap.size w w' := by
  cases hok : (isPrin sp && (isRate sb && isDay sd))
  · have hn := fun W => new_no sp sb sd W hok
    have HN := Lib.hid hn
    clear hok hn
    go_enter Try.func8, Try.ntmps8
    go_wp2_with fail
    refine (awake18 _).mono ?_
    rintro e w1 ⟨rfl, hb1⟩
    obtain ⟨hc, hf⟩ := bcell hb1
    go_wp2_with fail
    refine (HN.out _).mono ?_
    rintro e w2 ⟨rfl, rfl⟩
    go_wp2_with fail
    go_ret
    exact ⟨rfl, ((Below.refl _ _).alloc (Nat.le_refl _) _).trans (hb1.mono (by simp))⟩
  · have hn := fun W => new_ok sp sb sd W hok
    have hk := hok
    simp only [Bool.and_eq_true] at hk
    obtain ⟨k1, k2, k3⟩ := hk
    obtain ⟨a1, a2⟩ := isPrin_iff.1 k1
    obtain ⟨a3, a4⟩ := isRate_iff.1 k2
    obtain ⟨a5, a6⟩ := isDay_iff.1 k3
    have hrok : RunS.Ok ⟨sp, sb, sd, 0⟩ := ⟨⟨a1, a2⟩, ⟨a3, a4⟩, ⟨a5, a6⟩, by simp⟩
    have HN := Lib.hid hn
    have HRO := Lib.hid hrok
    clear hok hn k1 k2 k3 hrok
    go_enter Try.func8, Try.ntmps8
    go_wp2_with fail
    refine (awake18 _).mono ?_
    rintro e w1 ⟨rfl, hb1⟩
    obtain ⟨hc, hf⟩ := bcell hb1
    go_wp2_with fail
    refine (HN.out _).mono ?_
    rintro e w2 ⟨rfl, hw2⟩
    have hs1 := hb1.size
    simp at hs1
    have ho0 : Own w2 w.heap.size #[.int .i64 so, .int .i64 sd, .int .i64 sp, .int .i64 sb] 28 := by
      rw [← hw2]; exact own_alloc (own_below (own_new _ _ _) hb1 (by simp)) _
    have ho1 : Own w2 w1.heap.size (RunS.cells ⟨sp, sb, sd, 0⟩) 71 := by rw [← hw2]; exact own_new _ _ _
    have hbw : Below w.heap.size w w2 := by rw [← hw2]; exact (((Below.refl _ _).alloc (Nat.le_refl _) _).trans (hb1.mono (by simp))).alloc (by omega) _
    have hsz : w1.heap.size < w2.heap.size := by rw [← hw2]; simp
    have hlt : w.heap.size < w1.heap.size := by omega
    clear hw2 hb1 hc hf
    generalize w1.heap.size = g at *
    have e0 : ∀ i, w2.cell? ⟨w.heap.size, i, none⟩ = (#[.int .i64 so, .int .i64 sd, .int .i64 sp, .int .i64 sb] : Array Value)[i]? := own_cell ho0
    go_wp2_with fail
    have HO0 := Lib.hid ho0
    have HO1 := Lib.hid ho1
    have HBW := Lib.hid hbw
    clear ho0 ho1 hbw
    refine wp_loop_rounds 1 ?_
    rw [rounds_succ]
    go_wp2_with fail
    go_quiet ((go_at_call 28; exact quiet_same (since_any ⟨sp, sb, sd, 0⟩ g _ (own_drewN HO1.out _))))
    go_wp2_with fail
    go_ret
    exact ⟨rfl, below_drewN HBW.out _⟩

theorem accrueSplit_walk (so sd sp sb : Int) (A : Option Addr) (len cap : Nat) (l : List Int) (w : World) (q1 : -9223372036854775808 ≤ so) (q2 : so ≤ 9223372036854775807) (d1 : -9223372036854775808 ≤ sd) (d2 : sd ≤ 9223372036854775807)
    (p1 : -9223372036854775808 ≤ sp) (p2 : sp ≤ 9223372036854775807) (b1 : -9223372036854775808 ≤ sb) (b2 : sb ≤ 9223372036854775807) (hl : Ints w A len l) (hm : len ≤ 9223372036854775807) :
    Calls Try.prog 8 #[.agg #[.int .i64 so, .int .i64 sd, .int .i64 sp, .int .i64 sb], .slice A len cap] w fun e w' => e = .returned (.bool true) ∧ Below w.heap.size w w' := by
  obtain ⟨hlen, haddr, hbd⟩ := hl
  rcases Nat.eq_zero_or_pos len with h0 | h0
  · subst h0
    exact accrueSplit_zero so sd sp sb A cap w q1 q2 d1 d2 p1 p2 b1 b2
  · obtain ⟨b, off, rfl, hb, hc⟩ := haddr h0
    exact accrueSplit_some so sd sp sb b off len cap l w q1 q2 d1 d2 p1 p2 b1 b2 hb hc hbd hm
end Go.Proofs.Ytlnnbadfbcokaaa
