/- The law AccrueRuns: a run of any principal and rate, asked and changed at any days, answers as the reference's does: the walk. -/
import Derived.WalkKit
import Derived.Outline
import Derived.Lib.Hide
import Derived.Handy
import Derived.Deep.QuietTactic
import Derived.BigQuiet
import Derived.Deep.RegionHeld3
import Derived.Test.YtlnnbadfbcokaaaRefRun
import Derived.Test.YtlnnbadfbcokaaaAccrueSplit
namespace Go.Proofs.Ytlnnbadfbcokaaa
open Go.RowKit

set_option maxRecDepth 100000 in
set_option maxHeartbeats 6400000 in
theorem accrueRuns_some (so sd sp sb : Int) (b off len cap : Nat) (l : List Int) (w : World) (q1 : -9223372036854775808 ≤ so) (q2 : so ≤ 9223372036854775807) (d1 : -9223372036854775808 ≤ sd) (d2 : sd ≤ 9223372036854775807)
    (p1 : -9223372036854775808 ≤ sp) (p2 : sp ≤ 9223372036854775807) (b1 : -9223372036854775808 ≤ sb) (b2 : sb ≤ 9223372036854775807) (hb : b < w.heap.size)
    (hcl : ∀ k j, k < len → j < 4 → w.cell? ⟨b, off + (k * 4 + j), none⟩ = some (.int .i64 (l.getD (k * 4 + j) 0))) (hbd : ∀ k, -9223372036854775808 ≤ l.getD k 0 ∧ l.getD k 0 ≤ 9223372036854775807) (hm : len ≤ 9223372036854775807) :
    Calls Try.prog 9 #[.agg #[.int .i64 so, .int .i64 sd, .int .i64 sp, .int .i64 sb], .slice (some ⟨b, off, none⟩) len cap] w fun e w' => e = .returned (.bool true) ∧ Below w.heap.size w w' := by
  cases hok : (isPrin sp && (isRate sb && isDay sd))
  · have hn := fun W => new_no sp sb sd W hok
    have hn' := fun W => refNew_no sp sb sd W hok
    have HN := Lib.hid hn
    have HN' := Lib.hid hn'
    clear hok hn hn' hcl hbd
    go_enter Try.func9, Try.ntmps9
    go_wp2_with fail
    refine (awake18 _).mono ?_
    rintro e w1 ⟨rfl, hb1⟩
    obtain ⟨hc, hf⟩ := bcell hb1
    go_wp2_with fail
    refine (HN.out _).mono ?_
    rintro e w2 ⟨rfl, rfl⟩
    go_wp2_with fail
    refine (HN'.out _).mono ?_
    rintro e w2 ⟨rfl, rfl⟩
    go_wp2_with fail
    refine wp_loop_rounds 1 ?_
    rw [rounds_succ]
    go_wp2_with fail
    all_goals (go_ret; exact ⟨rfl, ((Below.refl _ _).alloc (Nat.le_refl _) _).trans (hb1.mono (by simp))⟩)
  · have hn := fun W => new_ok sp sb sd W hok
    have hn' := fun W => refNew_ok sp sb sd W hok
    have hk := hok
    simp only [Bool.and_eq_true] at hk
    obtain ⟨k1, k2, k3⟩ := hk
    obtain ⟨a1, a2⟩ := isPrin_iff.1 k1
    obtain ⟨a3, a4⟩ := isRate_iff.1 k2
    obtain ⟨a5, a6⟩ := isDay_iff.1 k3
    have hrok : RunS.Ok ⟨sp, sb, sd, 0⟩ := ⟨⟨a1, a2⟩, ⟨a3, a4⟩, ⟨a5, a6⟩, by simp⟩
    have HN := Lib.hid hn
    have HN' := Lib.hid hn'
    have HCL := Lib.hid hcl
    have HBD := Lib.hid hbd
    have HRO := Lib.hid hrok
    clear hok hn hn' k1 k2 k3 hcl hbd hrok
    go_enter Try.func9, Try.ntmps9
    go_wp2_with fail
    refine (awake18 _).mono ?_
    rintro e w1 ⟨rfl, hb1⟩
    obtain ⟨hc, hf⟩ := bcell hb1
    have hs1 := hb1.size
    simp at hs1
    have hs2 : w.heap.size < w1.heap.size := by omega
    go_wp2_with fail
    refine (HN.out _).mono ?_
    rintro e w2 ⟨rfl, rfl⟩
    go_wp2_with fail
    refine (HN'.out _).mono ?_
    rintro e w2 ⟨rfl, hw2⟩
    have ho1 : Own w2 w1.heap.size (RunS.cells ⟨sp, sb, sd, 0⟩) 71 := by rw [← hw2]; exact own_alloc (own_new _ _ _) _
    have ho2 : Own w2 (w1.heap.size + 1) (RunS.cells ⟨sp, sb, sd, 0⟩) 48 := by
      rw [← hw2]; exact own_new_at _ _ _ _ (by simp)
    have hbw : Below w.heap.size w w2 := by rw [← hw2]; exact ((((Below.refl _ _).alloc (Nat.le_refl _) _).trans (hb1.mono (by simp))).alloc (by omega) _).alloc (by simp; omega) _
    have hsz : w1.heap.size + 1 < w2.heap.size := by rw [← hw2]; simp
    clear hw2 hb1 hc hf
    go_wp2_with fail
    generalize w1.heap.size = g at *
    have HO1 := Lib.hid ho1
    have HO2 := Lib.hid ho2
    have HBW := Lib.hid hbw
    clear ho1 ho2 hbw
    go_loopw [10] (fun vi wr => ∃ (k : Nat) (r : RunS), k ≤ len ∧ vi = .int .i64 k ∧ Hid r.Ok ∧ Hid (Below w.heap.size w wr) ∧
      Hid (Own wr g r.cells 71) ∧ Hid (Own wr (g + 1) r.cells 48) ∧ g + 1 < wr.heap.size) (fun vi _ => len - (intOf vi).toNat)
    case atStart => exact ⟨0, _, by omega, rfl, HRO, HBW, HO1, HO2, by omega⟩
    case round =>
      obtain ⟨k, r, hk, rfl, HK, HB, H1, H2, hg⟩ := hrel
      by_cases hlt : k < len
      · by_cases h100 : k < 100
        · have hx : ∀ W, Below w.heap.size w W → W.cell? ⟨b, off + k * 4, none⟩ = some (.int .i64 (l.getD (k * 4 + 0) 0)) ∧ W.cell? ⟨b, off + k * 4 + 1, none⟩ = some (.int .i64 (l.getD (k * 4 + 1) 0)) ∧ W.cell? ⟨b, off + k * 4 + 2, none⟩ = some (.int .i64 (l.getD (k * 4 + 2) 0)) ∧ W.cell? ⟨b, off + k * 4 + 3, none⟩ = some (.int .i64 (l.getD (k * 4 + 3) 0)) := fun W hW =>
            ⟨(hW.cell (p := ⟨b, off + k * 4, none⟩) hb).trans (HCL.out k 0 hlt (by omega)), (hW.cell (p := ⟨b, off + k * 4 + 1, none⟩) hb).trans (HCL.out k 1 hlt (by omega)), (hW.cell (p := ⟨b, off + k * 4 + 2, none⟩) hb).trans (HCL.out k 2 hlt (by omega)), (hW.cell (p := ⟨b, off + k * 4 + 3, none⟩) hb).trans (HCL.out k 3 hlt (by omega))⟩
          obtain ⟨y0, y0'⟩ := HBD.out (k * 4 + 0)
          obtain ⟨y1, y1'⟩ := HBD.out (k * 4 + 1)
          obtain ⟨y2, y2'⟩ := HBD.out (k * 4 + 2)
          obtain ⟨y3, y3'⟩ := HBD.out (k * 4 + 3)
          generalize l.getD (k * 4 + 0) 0 = do_ at *
          generalize l.getD (k * 4 + 1) 0 = dy at *
          generalize l.getD (k * 4 + 2) 0 = pr at *
          generalize l.getD (k * 4 + 3) 0 = rt at *
          have HX := Lib.hid hx
          clear hx
          obtain ⟨x0, x1, x2, x3⟩ := HX.out wr HB.out
          go_wp2_with fail
          refine (at_any r dy g wr HK.out H1.out (by omega) (by omega)).mono ?_
          rintro e wa ⟨rfl, hba⟩
          have A1 := Lib.hid (own_below H1.out hba (by omega))
          have A2 := Lib.hid (own_below H2.out hba (by omega))
          have BA := Lib.hid (HB.out.trans (hba.mono (by omega)))
          have gA : g + 1 < wa.heap.size := by have := hba.size; omega
          clear hba x0 x1 x2 x3
          obtain ⟨x0, x1, x2, x3⟩ := HX.out wa BA.out
          have hra := fun W h => refAt_any r dy (g + 1) W HK.out h (by omega) (by omega)
          have hch := fun W h => runChange_any r pr dy g W HK.out h (by omega) (by omega)
          have hch' := fun W h => refRunChange_any r pr dy (g + 1) W HK.out h (by omega) (by omega)
          have hrt := fun W h => runRate_any r rt dy g W HK.out h (by omega) (by omega)
          have hrt' := fun W h => refRunRate_any r rt dy (g + 1) W HK.out h (by omega) (by omega)
          generalize atR r dy = m at *
          obtain ⟨m1, m2⟩ := m
          generalize changeR r pr dy = ch at *
          obtain ⟨cr, ce⟩ := ch
          generalize rateR r rt dy = rt_ at *
          obtain ⟨tr, te⟩ := rt_
          simp only [] at hch hch' hrt hrt'
          unfold Pair at hra ⊢
          have HRA := Lib.hid hra; have HCH := Lib.hid hch; have HCH' := Lib.hid hch'; have HRT := Lib.hid hrt; have HRT' := Lib.hid hrt'; clear hra hch hch' hrt hrt'
          go_wp2_with fail
          refine (HRA.out wa A2.out).mono ?_
          rintro e wb ⟨rfl, hbb⟩
          have C1 := Lib.hid (own_below A1.out hbb (by omega))
          have C2 := Lib.hid (own_below A2.out hbb (by omega))
          have BC := Lib.hid (BA.out.trans (hbb.mono (by omega)))
          have gC : g + 1 < wb.heap.size := by have := hbb.size; omega
          clear hbb x0 x1 x2 x3
          obtain ⟨x0, x1, x2, x3⟩ := HX.out wb BC.out
          by_cases c1 : do_ = 1
          · have c1' : (do_ == 1) = true := by simpa using c1
            have c2' : (do_ == 2) = false := by simp [c1]
            clear c1
            go_upto_region 14 with fail
            go_region_held3 (fun w' => w'.cell? ⟨b, off + k * 4 + 2, none⟩ = some (.int .i64 pr) ∧ w'.cell? ⟨b, off + k * 4 + 1, none⟩ = some (.int .i64 dy)) (go_keep)
              (first | (go_at_call 26; refine (HCH.out _ (own_drew C1.out)).mono ?_; rintro e wc ⟨rfl, hok2, ho2, hg2⟩; have BD := Lib.hid ((BC.out.drew).grown hg2 (by simp; omega) (fun q hq => by injection hq; omega)); obtain ⟨x0, x1, x2, x3⟩ := HX.out wc BD.out))
            have D1 := Lib.hid ho2; have D2 := Lib.hid ((hg2.block (g + 1) (by simp; omega) (by intro h; injection h; omega)).trans C2.out)
            have gD : g + 1 < wc.heap.size := by have := hg2.size; simp at this; omega
            have HK2 := Lib.hid hok2; clear ho2 hok2 hg2
            go_upto_region 15 with fail
            go_region_held3 (fun w' => w'.cell? ⟨b, off + k * 4 + 2, none⟩ = some (.int .i64 pr) ∧ w'.cell? ⟨b, off + k * 4 + 1, none⟩ = some (.int .i64 dy)) (go_keep)
              (first | (go_at_call 31; refine (HCH'.out _ (own_drew D2.out)).mono ?_; rintro e wd ⟨rfl, hok3, ho3, hg3⟩; have BE := Lib.hid ((BD.out.drew).grown hg3 (by simp; omega) (fun q hq => by injection hq; omega)); obtain ⟨x0, x1, x2, x3⟩ := HX.out wd BE.out))
            have E2 := Lib.hid ho3; have E1 := Lib.hid ((hg3.block g (by simp; omega) (by intro h; injection h; omega)).trans D1.out)
            have gE : g + 1 < wd.heap.size := by have := hg3.size; simp at this; omega
            clear ho3 hok3 hg3
            have e20 : wd.cell? ⟨g + 1, 0, none⟩ = some (.int .i64 cr.p) := own_cell E2.out 0
            have e22 : wd.cell? ⟨g + 1, 2, none⟩ = some (.int .i64 cr.day) := own_cell E2.out 2
            go_wp2_with fail
            go_quiet ((first | (go_at_call 28; exact quiet_same (since_any cr g _ (own_drewN E1.out _))) | (go_at_call 33; exact quiet_same (principal_any cr g _ (own_drewN E1.out _)))))
            go_wp2_with fail
            go_roundw
            case rel => exact ⟨k + 1, cr, by omega, by go_num, HK2, Lib.hid (below_drewN BE.out _), Lib.hid (own_drewN E1.out _), Lib.hid (own_drewN E2.out _), by simp; omega⟩
            case measure => simp [intOf]; omega
          by_cases c2 : do_ = 2
          · have c2' : (do_ == 2) = true := by simpa using c2
            have c1' : (do_ == 1) = false := by simpa using c1
            clear c1 c2
            go_upto_region 17 with fail
            go_region_held3 (fun w' => w'.cell? ⟨b, off + k * 4 + 3, none⟩ = some (.int .i64 rt) ∧ w'.cell? ⟨b, off + k * 4 + 1, none⟩ = some (.int .i64 dy)) (go_keep)
              (first | (go_at_call 27; refine (HRT.out _ (own_drew C1.out)).mono ?_; rintro e wc ⟨rfl, hok2, ho2, hg2⟩; have BD := Lib.hid ((BC.out.drew).grown hg2 (by simp; omega) (fun q hq => by injection hq; omega)); obtain ⟨x0, x1, x2, x3⟩ := HX.out wc BD.out))
            have D1 := Lib.hid ho2; have D2 := Lib.hid ((hg2.block (g + 1) (by simp; omega) (by intro h; injection h; omega)).trans C2.out)
            have gD : g + 1 < wc.heap.size := by have := hg2.size; simp at this; omega
            have HK2 := Lib.hid hok2; clear ho2 hok2 hg2
            go_upto_region 18 with fail
            go_region_held3 (fun w' => w'.cell? ⟨b, off + k * 4 + 3, none⟩ = some (.int .i64 rt) ∧ w'.cell? ⟨b, off + k * 4 + 1, none⟩ = some (.int .i64 dy)) (go_keep)
              (first | (go_at_call 32; refine (HRT'.out _ (own_drew D2.out)).mono ?_; rintro e wd ⟨rfl, hok3, ho3, hg3⟩; have BE := Lib.hid ((BD.out.drew).grown hg3 (by simp; omega) (fun q hq => by injection hq; omega)); obtain ⟨x0, x1, x2, x3⟩ := HX.out wd BE.out))
            have E2 := Lib.hid ho3; have E1 := Lib.hid ((hg3.block g (by simp; omega) (by intro h; injection h; omega)).trans D1.out)
            have gE : g + 1 < wd.heap.size := by have := hg3.size; simp at this; omega
            clear ho3 hok3 hg3
            have e20 : wd.cell? ⟨g + 1, 0, none⟩ = some (.int .i64 tr.p) := own_cell E2.out 0
            have e22 : wd.cell? ⟨g + 1, 2, none⟩ = some (.int .i64 tr.day) := own_cell E2.out 2
            go_wp2_with fail
            go_quiet ((first | (go_at_call 28; exact quiet_same (since_any tr g _ (own_drewN E1.out _))) | (go_at_call 33; exact quiet_same (principal_any tr g _ (own_drewN E1.out _)))))
            go_wp2_with fail
            go_roundw
            case rel => exact ⟨k + 1, tr, by omega, by go_num, HK2, Lib.hid (below_drewN BE.out _), Lib.hid (own_drewN E1.out _), Lib.hid (own_drewN E2.out _), by simp; omega⟩
            case measure => simp [intOf]; omega
          have c1' : (do_ == 1) = false := by simpa using c1
          have c2' : (do_ == 2) = false := by simpa using c2
          clear c1 c2
          have e20 : wb.cell? ⟨g + 1, 0, none⟩ = some (.int .i64 r.p) := own_cell C2.out 0
          have e22 : wb.cell? ⟨g + 1, 2, none⟩ = some (.int .i64 r.day) := own_cell C2.out 2
          go_wp2_with fail
          go_quiet ((first | (go_at_call 28; exact quiet_same (since_any r g _ (own_drewN C1.out _))) | (go_at_call 33; exact quiet_same (principal_any r g _ (own_drewN C1.out _)))))
          go_wp2_with fail
          go_roundw
          case rel => exact ⟨k + 1, r, by omega, by go_num, HK, Lib.hid (below_drewN BC.out _), Lib.hid (own_drewN C1.out _), Lib.hid (own_drewN C2.out _), by simp; omega⟩
          case measure => simp [intOf]; omega
        · go_wp2_with fail
          go_ret
          exact ⟨rfl, HB.out⟩
      · go_wp2_with fail
        go_ret
        exact ⟨rfl, HB.out⟩

set_option maxRecDepth 100000 in
set_option maxHeartbeats 6400000 in
theorem accrueRuns_zero (so sd sp sb : Int) (A : Option Addr) (cap : Nat) (w : World) (q1 : -9223372036854775808 ≤ so) (q2 : so ≤ 9223372036854775807) (d1 : -9223372036854775808 ≤ sd) (d2 : sd ≤ 9223372036854775807)
    (p1 : -9223372036854775808 ≤ sp) (p2 : sp ≤ 9223372036854775807) (b1 : -9223372036854775808 ≤ sb) (b2 : sb ≤ 9223372036854775807) :
    Calls Try.prog 9 #[.agg #[.int .i64 so, .int .i64 sd, .int .i64 sp, .int .i64 sb], .slice A 0 cap] w fun e w' => e = .returned (.bool true) ∧ Below w.heap.size w w' := by
  cases hok : (isPrin sp && (isRate sb && isDay sd))
  · have hn := fun W => new_no sp sb sd W hok
    have hn' := fun W => refNew_no sp sb sd W hok
    have HN := Lib.hid hn
    have HN' := Lib.hid hn'
    clear hok hn hn'
    go_enter Try.func9, Try.ntmps9
    go_wp2_with fail
    refine (awake18 _).mono ?_
    rintro e w1 ⟨rfl, hb1⟩
    obtain ⟨hc, hf⟩ := bcell hb1
    go_wp2_with fail
    refine (HN.out _).mono ?_
    rintro e w2 ⟨rfl, rfl⟩
    go_wp2_with fail
    refine (HN'.out _).mono ?_
    rintro e w2 ⟨rfl, rfl⟩
    go_wp2_with fail
    refine wp_loop_rounds 1 ?_
    rw [rounds_succ]
    go_wp2_with fail
    all_goals (go_ret; exact ⟨rfl, ((Below.refl _ _).alloc (Nat.le_refl _) _).trans (hb1.mono (by simp))⟩)
  · have hn := fun W => new_ok sp sb sd W hok
    have hn' := fun W => refNew_ok sp sb sd W hok
    have hk := hok
    simp only [Bool.and_eq_true] at hk
    obtain ⟨k1, k2, k3⟩ := hk
    obtain ⟨a1, a2⟩ := isPrin_iff.1 k1
    obtain ⟨a3, a4⟩ := isRate_iff.1 k2
    obtain ⟨a5, a6⟩ := isDay_iff.1 k3
    have hrok : RunS.Ok ⟨sp, sb, sd, 0⟩ := ⟨⟨a1, a2⟩, ⟨a3, a4⟩, ⟨a5, a6⟩, by simp⟩
    have HN := Lib.hid hn
    have HN' := Lib.hid hn'
    have HRO := Lib.hid hrok
    clear hok hn hn' k1 k2 k3 hrok
    go_enter Try.func9, Try.ntmps9
    go_wp2_with fail
    refine (awake18 _).mono ?_
    rintro e w1 ⟨rfl, hb1⟩
    obtain ⟨hc, hf⟩ := bcell hb1
    have hs1 := hb1.size
    simp at hs1
    have hs2 : w.heap.size < w1.heap.size := by omega
    go_wp2_with fail
    refine (HN.out _).mono ?_
    rintro e w2 ⟨rfl, rfl⟩
    go_wp2_with fail
    refine (HN'.out _).mono ?_
    rintro e w2 ⟨rfl, hw2⟩
    have ho1 : Own w2 w1.heap.size (RunS.cells ⟨sp, sb, sd, 0⟩) 71 := by rw [← hw2]; exact own_alloc (own_new _ _ _) _
    have ho2 : Own w2 (w1.heap.size + 1) (RunS.cells ⟨sp, sb, sd, 0⟩) 48 := by
      rw [← hw2]; exact own_new_at _ _ _ _ (by simp)
    have hbw : Below w.heap.size w w2 := by rw [← hw2]; exact ((((Below.refl _ _).alloc (Nat.le_refl _) _).trans (hb1.mono (by simp))).alloc (by omega) _).alloc (by simp; omega) _
    have hsz : w1.heap.size + 1 < w2.heap.size := by rw [← hw2]; simp
    clear hw2 hb1 hc hf
    go_wp2_with fail
    generalize w1.heap.size = g at *
    have HO1 := Lib.hid ho1
    have HO2 := Lib.hid ho2
    have HBW := Lib.hid hbw
    clear ho1 ho2 hbw
    refine wp_loop_rounds 1 ?_
    rw [rounds_succ]
    go_wp2_with fail
    go_ret
    exact ⟨rfl, HBW.out⟩

theorem accrueRuns_walk (so sd sp sb : Int) (A : Option Addr) (len cap : Nat) (l : List Int) (w : World) (q1 : -9223372036854775808 ≤ so) (q2 : so ≤ 9223372036854775807) (d1 : -9223372036854775808 ≤ sd) (d2 : sd ≤ 9223372036854775807)
    (p1 : -9223372036854775808 ≤ sp) (p2 : sp ≤ 9223372036854775807) (b1 : -9223372036854775808 ≤ sb) (b2 : sb ≤ 9223372036854775807) (hl : Ints w A (len * 4) l) (hm : len ≤ 9223372036854775807) :
    Calls Try.prog 9 #[.agg #[.int .i64 so, .int .i64 sd, .int .i64 sp, .int .i64 sb], .slice A len cap] w fun e w' => e = .returned (.bool true) ∧ Below w.heap.size w w' := by
  obtain ⟨hlen, haddr, hbd⟩ := hl
  rcases Nat.eq_zero_or_pos len with h0 | h0
  · subst h0
    exact accrueRuns_zero so sd sp sb A cap w q1 q2 d1 d2 p1 p2 b1 b2
  · obtain ⟨b, off, rfl, hb, hc⟩ := haddr (by omega)
    exact accrueRuns_some so sd sp sb b off len cap l w q1 q2 d1 d2 p1 p2 b1 b2 hb (fun k j hk hj => hc (k * 4 + j) (by omega)) hbd hm
end Go.Proofs.Ytlnnbadfbcokaaa
