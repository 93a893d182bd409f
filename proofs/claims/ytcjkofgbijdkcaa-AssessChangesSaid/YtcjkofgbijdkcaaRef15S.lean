/- Package tallageref15: Right, of any schedule. -/
import Derived.WalkKit
import Derived.Outline
import Derived.Lib.Hide
import Derived.Handy
import Derived.Deep.QuietTactic
import Derived.BigQuiet
import Derived.Test.YtcjkofgbijdkcaaRef15R
namespace Go.Proofs.Ytcjkofgbijdkcaa
open Go.RowKit

set_option maxRecDepth 100000 in
set_option maxHeartbeats 2000000 in
theorem r15right_any (s : Sch) (w : World) (hi : s.In w) :
    Calls Try.prog 18 #[s.val] w fun e w' => e = .returned (.bool s.right) ∧ Below w.heap.size w w' := by
  by_cases hh : s.heads = true ∧ s.f 0 = 0
  case neg =>
    refine (r15right_heads s w hi hh).mono ?_
    rintro e w' ⟨rfl, hb⟩
    have hz : s.right = false := by
      cases g : s.right
      · rfl
      · simp only [Sch.right, Bool.and_eq_true, decide_eq_true_eq] at g
        exact absurd ⟨g.1.1.1, g.1.2⟩ hh
    exact ⟨by rw [hz], hb⟩
  case pos =>
    obtain ⟨hh, h0⟩ := hh
    obtain ⟨q1, q2, q3, q4, q5, q6⟩ := Sch.heads_iff.1 hh
    obtain ⟨⟨_, haddr, hbd⟩, _, hd, hc, hb, hm, hl⟩ := hi
    obtain ⟨bb, off, hA, hbb, hcell⟩ := haddr (by omega)
    have HR : Hid (s.right = (decide (∀ k, k < s.len → s.okAt k = true) && s.tails)) := Lib.hid (by simp [Sch.right, hh, h0])
    have HOK : Hid (∀ k, s.okAt k = (isMon (s.f k) && (decide (k = 0) || decide (s.f (k - 1) < s.f k)) && decide (0 ≤ s.b k ∧ s.b k ≤ 10000))) := Lib.hid (fun k => rfl)
    have HT : Hid (s.tails = (isMon s.ded && (isMon s.cre && isMon s.least))) := Lib.hid rfl
    have HF : Hid (∀ k, k < s.len → w.cell? ⟨bb, off + k * 2, none⟩ = some (.int .i64 (s.f k)) ∧ w.cell? ⟨bb, off + k * 2 + 1, none⟩ = some (.int .i64 (s.b k)) ∧ i64 (s.f k) ∧ i64 (s.b k)) := Lib.hid (fun k hk =>
      ⟨hcell (k * 2) (by omega), hcell (k * 2 + 1) (by omega), hbd _, hbd _⟩)
    clear hcell hbd hh haddr
    obtain ⟨A, len, cap, zs, ded, cre, bp, most, least⟩ := s
    simp only [i64, Sch.val] at *
    generalize Sch.right ⟨A, len, cap, zs, ded, cre, bp, most, least⟩ = R at *
    generalize Sch.tails ⟨A, len, cap, zs, ded, cre, bp, most, least⟩ = T at *
    generalize Sch.okAt ⟨A, len, cap, zs, ded, cre, bp, most, least⟩ = ok at *
    generalize Sch.f ⟨A, len, cap, zs, ded, cre, bp, most, least⟩ = f at *
    generalize Sch.b ⟨A, len, cap, zs, ded, cre, bp, most, least⟩ = b at *
    subst hA
    have e00 : w.cell? ⟨bb, off, none⟩ = some (.int .i64 0) := by
      have := (HF.out 0 (by omega)).1
      rw [h0] at this
      simpa using this
    have ho0 : Own (w.alloc (.cells #[.slice (some ⟨bb, off, none⟩) len cap, .int .i64 ded, .int .i64 cre, .int .i64 bp, .int .i64 most, .int .i64 least] 29)) w.heap.size #[.slice (some ⟨bb, off, none⟩) len cap, .int .i64 ded, .int .i64 cre, .int .i64 bp, .int .i64 most, .int .i64 least] 29 := own_new _ _ _
    have hb0 : Below w.heap.size w (w.alloc (.cells #[.slice (some ⟨bb, off, none⟩) len cap, .int .i64 ded, .int .i64 cre, .int .i64 bp, .int .i64 most, .int .i64 least] 29)) := (Below.refl _ _).alloc (Nat.le_refl _) _
    have hs0 : w.heap.size < (w.alloc (.cells #[.slice (some ⟨bb, off, none⟩) len cap, .int .i64 ded, .int .i64 cre, .int .i64 bp, .int .i64 most, .int .i64 least] 29)).heap.size := by simp
    have e01 : (w.alloc (.cells #[.slice (some ⟨bb, off, none⟩) len cap, .int .i64 ded, .int .i64 cre, .int .i64 bp, .int .i64 most, .int .i64 least] 29)).cell? ⟨bb, off, none⟩ = some (.int .i64 0) := by rw [← e00]; exact Below.cell (B := w.heap.size) hb0 hbb
    have HO0 := Lib.hid ho0
    have HB0 := Lib.hid hb0
    clear ho0 hb0 e00
    go_enter Try.func18, Try.ntmps18
    go_wp2_with fail
    go_loopw [3] (fun vi wr => ∃ k : Nat, k ≤ len ∧ vi = .int .i64 k ∧ Hid (∀ j, j < k → ok j = true) ∧ Hid (Below w.heap.size w wr) ∧
      Hid (Own wr w.heap.size #[.slice (some ⟨bb, off, none⟩) len cap, .int .i64 ded, .int .i64 cre, .int .i64 bp, .int .i64 most, .int .i64 least] 29) ∧ w.heap.size < wr.heap.size) (fun vi _ => len - (intOf vi).toNat)
    case atStart => exact ⟨0, by omega, rfl, Lib.hid (fun j hj => absurd hj (by omega)), HB0, HO0, hs0⟩
    case round =>
      obtain ⟨k, hk, rfl, HAll, HB, HO, hsz⟩ := hrel
      have e0 : ∀ i, wr.cell? ⟨w.heap.size, i, none⟩ = (#[.slice (some ⟨bb, off, none⟩) len cap, .int .i64 ded, .int .i64 cre, .int .i64 bp, .int .i64 most, .int .i64 least] : Array Value)[i]? := own_cell HO.out
      clear e01
      by_cases hlt : k < len
      · obtain ⟨e1, e2, x1, y1⟩ := HF.out k hlt
        have e3 : wr.cell? ⟨bb, off + k * 2, none⟩ = some (.int .i64 (f k)) := (HB.out.cell (p := ⟨bb, off + k * 2, none⟩) hbb).trans e1
        have e4 : wr.cell? ⟨bb, off + k * 2 + 1, none⟩ = some (.int .i64 (b k)) := (HB.out.cell (p := ⟨bb, off + k * 2 + 1, none⟩) hbb).trans e2
        have HOk := Lib.hid (HOK.out k)
        have hR0 : ok k = false → R = false := fun g => by rw [HR.out, decide_eq_false (fun hall => by have := hall k hlt; rw [g] at this; cases this)]; rfl
        have HR0 := Lib.hid hR0
        have hbl : Below w.heap.size w (wr.alloc (.cells #[.int .i64 (f k), .int .i64 (b k)] 68)) := HB.out.alloc (by omega) _
        have hown : Own (wr.alloc (.cells #[.int .i64 (f k), .int .i64 (b k)] 68)) w.heap.size #[.slice (some ⟨bb, off, none⟩) len cap, .int .i64 ded, .int .i64 cre, .int .i64 bp, .int .i64 most, .int .i64 least] 29 := own_alloc HO.out _
        have z3 : w.heap.size < (wr.alloc (.cells #[.int .i64 (f k), .int .i64 (b k)] 68)).heap.size := by simp; omega
        have HBL := Lib.hid hbl
        have HOWN := Lib.hid hown
        clear hR0 hbl hown e1 e2
        cases hm : isMon (f k) with
        | false =>
          have hz : R = false := HR0.out (by rw [HOk.out, hm]; rfl)
          have HZ := Lib.hid hz
          clear hz
          have HM := Lib.hid hm
          clear hm
          go_wp2_with fail
          refine (r15isMoney_any _ _).mono ?_
          rintro e w' ⟨rfl, rfl⟩
          rw [HM.out]
          go_wp2_with fail
          go_quiet (fail)
          go_wp2_with fail
          go_ret
          exact ⟨ret_bool HZ.out.symm, below_drewN HBL.out _⟩
        | true =>
          have HM := Lib.hid hm
          clear hm
          by_cases c2 : b k < 0
          · have c2' : decide (b k < 0) = true := decide_eq_true c2
            have hz : R = false := HR0.out (by rw [HOk.out, decide_eq_false (by omega : ¬ (0 ≤ b k ∧ b k ≤ 10000)), Bool.and_false])
            have HZ := Lib.hid hz
            clear hz
            go_wp2_with fail
            refine (r15isMoney_any _ _).mono ?_
            rintro e w' ⟨rfl, rfl⟩
            rw [HM.out]
            go_wp2_with fail
            go_quiet (fail)
            go_wp2_with fail
            go_ret
            exact ⟨ret_bool HZ.out.symm, below_drewN HBL.out _⟩
          · have c2' : decide (b k < 0) = false := decide_eq_false c2
            by_cases c3 : 10000 < b k
            · have c3' : decide (10000 < b k) = true := decide_eq_true c3
              have hz : R = false := HR0.out (by rw [HOk.out, decide_eq_false (by omega : ¬ (0 ≤ b k ∧ b k ≤ 10000)), Bool.and_false])
              have HZ := Lib.hid hz
              clear hz
              go_wp2_with fail
              refine (r15isMoney_any _ _).mono ?_
              rintro e w' ⟨rfl, rfl⟩
              rw [HM.out]
              go_wp2_with fail
              go_quiet (fail)
              go_wp2_with fail
              go_ret
              exact ⟨ret_bool HZ.out.symm, below_drewN HBL.out _⟩
            · have c3' : decide (10000 < b k) = false := decide_eq_false c3
              rcases k with _ | j
              · have hz : ok 0 = true := by rw [HOk.out, HM.out, decide_eq_true (by omega : 0 ≤ b 0 ∧ b 0 ≤ 10000)]; rfl
                have HAll2 : Hid (∀ j, j < 0 + 1 → ok j = true) := Lib.hid (fun j hj => by rw [show j = 0 by omega]; exact hz)
                clear hz HAll HOk HR0
                simp only [Nat.zero_mul, Nat.add_zero] at e3 e4
                rw [h0] at HM HBL HOWN z3 e3
                go_wp2_with fail
                refine (r15isMoney_any _ _).mono ?_
                rintro e w' ⟨rfl, rfl⟩
                rw [HM.out]
                go_wp2_with fail
                go_quiet (fail)
                go_wp2_with fail
                go_roundw
                case rel => exact ⟨0 + 1, by omega, by go_num, HAll2, Lib.hid (below_drewN HBL.out _), Lib.hid (own_drewN HOWN.out _), by simpa using z3⟩
                case measure => simp [intOf]; omega
              · obtain ⟨e1, _, y3, _⟩ := HF.out j (by omega)
                have e5 : wr.cell? ⟨bb, off + j * 2, none⟩ = some (.int .i64 (f j)) := (HB.out.cell (p := ⟨bb, off + j * 2, none⟩) hbb).trans e1
                have e6 : (wr.alloc (.cells #[.int .i64 (f (j + 1)), .int .i64 (b (j + 1))] 68)).cell? ⟨bb, off + j * 2, none⟩ = some (.int .i64 (f j)) := (HBL.out.cell (p := ⟨bb, off + j * 2, none⟩) hbb).trans e1
                have ej : ((j + 1 : Nat) : Int) = j + 1 := by omega
                rw [ej]
                clear e1
                have c5' : decide ((0 : Int) < (j : Int) + 1) = true := decide_eq_true (by omega)
                have c6' : IntKind.i64.wrap ((j : Int) + 1 - 1) = j := by rw [IntKind.wrap_i64]; omega
                have c7' : IntKind.i64.wrap (j : Int) = j := by rw [IntKind.wrap_i64]; omega
                have c8' : (j : Int) < (len : Int) := by omega
                have c9' : (0 : Int) ≤ (j : Int) := by omega
                have c0' : (j : Int).toNat = j := by omega
                by_cases c4 : f (j + 1) ≤ f j
                · have c4' : decide (f (j + 1) ≤ f j) = true := decide_eq_true c4
                  have hz : R = false := HR0.out (by
                    rw [HOk.out, HM.out, decide_eq_false (by omega : ¬ (j + 1 = 0)), decide_eq_false (by simpa using c4 : ¬ (f (j + 1 - 1) < f (j + 1)))]; rfl)
                  have HZ := Lib.hid hz
                  clear hz
                  go_wp2_with fail
                  refine (r15isMoney_any _ _).mono ?_
                  rintro e w' ⟨rfl, rfl⟩
                  rw [HM.out]
                  go_wp2_with fail
                  go_quiet (fail)
                  go_wp2_with fail
                  go_ret
                  exact ⟨ret_bool HZ.out.symm, below_drewN HBL.out _⟩
                · have c4' : decide (f (j + 1) ≤ f j) = false := decide_eq_false c4
                  have hz : ok (j + 1) = true := by
                    rw [HOk.out, HM.out, decide_eq_true (by omega : 0 ≤ b (j + 1) ∧ b (j + 1) ≤ 10000), decide_eq_true (by simp; omega : f (j + 1 - 1) < f (j + 1))]; simp
                  have HAll2 : Hid (∀ i, i < j + 1 + 1 → ok i = true) := Lib.hid (fun i hi => by
                    by_cases g : i = j + 1
                    · rw [g]; exact hz
                    · exact HAll.out i (by omega))
                  clear hz HAll HOk HR0
                  go_wp2_with fail
                  refine (r15isMoney_any _ _).mono ?_
                  rintro e w' ⟨rfl, rfl⟩
                  rw [HM.out]
                  go_wp2_with fail
                  go_quiet (fail)
                  go_wp2_with fail
                  go_roundw
                  case rel => exact ⟨j + 1 + 1, by omega, by go_num, HAll2, Lib.hid (below_drewN HBL.out _), Lib.hid (own_drewN HOWN.out _), by simpa using z3⟩
                  case measure => simp [intOf]; omega
      · have ek : k = len := by omega
        subst ek
        have hall : decide (∀ j, j < k → ok j = true) = true := decide_eq_true HAll.out
        have hR1 : R = T := by rw [HR.out, hall]; simp
        have HR1 := Lib.hid (hR1.trans HT.out)
        clear hall hR1
        go_wp2_with fail
        refine (r15isMoney_any _ _).mono ?_
        rintro e w' ⟨rfl, rfl⟩
        cases m1 : isMon ded with
        | false =>
          have HZ : Hid (R = false) := Lib.hid (by rw [HR1.out, m1]; rfl)
          clear m1
          go_wp2_with fail
          go_ret
          exact ⟨ret_bool HZ.out.symm, HB.out⟩
        | true =>
          have HZ1 : Hid (R = (isMon cre && isMon least)) := Lib.hid (by rw [HR1.out, m1]; rfl)
          clear m1
          go_wp2_with fail
          refine (r15isMoney_any _ _).mono ?_
          rintro e w' ⟨rfl, rfl⟩
          cases m2 : isMon cre with
          | false =>
            have HZ : Hid (R = false) := Lib.hid (by rw [HZ1.out, m2]; rfl)
            clear m2
            go_wp2_with fail
            go_ret
            exact ⟨ret_bool HZ.out.symm, HB.out⟩
          | true =>
            have HZ : Hid (R = isMon least) := Lib.hid (by rw [HZ1.out, m2]; rfl)
            clear m2
            go_wp2_with fail
            refine (r15isMoney_any _ _).mono ?_
            rintro e w' ⟨rfl, rfl⟩
            go_wp2_with fail
            go_ret
            exact ⟨ret_bool HZ.out.symm, HB.out⟩
end Go.Proofs.Ytcjkofgbijdkcaa
