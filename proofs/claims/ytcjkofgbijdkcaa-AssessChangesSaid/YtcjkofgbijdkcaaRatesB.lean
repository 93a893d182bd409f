/- Package rates: Right. -/
import Derived.WalkKit
import Derived.Outline
import Derived.Lib.Hide
import Derived.Handy
import Derived.Deep.QuietTactic
import Derived.BigQuiet
import Derived.Test.YtcjkofgbijdkcaaRates
namespace Go.Proofs.Ytcjkofgbijdkcaa
open Go.RowKit

theorem Sch.heads_iff {s : Sch} : s.heads = true ↔ 1 ≤ s.len ∧ s.len ≤ 10 ∧ 0 ≤ s.bp ∧ s.bp ≤ 10000 ∧ 0 ≤ s.most ∧ s.most ≤ 60 := by simp [Sch.heads]

set_option maxRecDepth 100000 in
set_option maxHeartbeats 2000000 in
theorem ratesRight_heads (s : Sch) (w : World) (hi : s.In w) (h : s.heads = false) :
    Calls Try.prog 57 #[s.val] w fun e w' => e = .returned (.bool false) ∧ Below w.heap.size w w' := by
  obtain ⟨_, hlen, hd, hc, hb, hm, hl⟩ := hi
  obtain ⟨A, len, cap, zs, ded, cre, bp, most, least⟩ := s
  simp only [Sch.heads, decide_eq_false_iff_not, i64, Sch.val] at *
  clear hd hc hl
  by_cases c1 : 1 ≤ len
  · by_cases c2 : len ≤ 10
    · by_cases c3 : 0 ≤ bp
      · by_cases c4 : bp ≤ 10000
        · by_cases c5 : 0 ≤ most
          · have c6 : ¬ most ≤ 60 := fun c6 => h ⟨c1, c2, c3, c4, c5, c6⟩
            clear h
            go_enter Try.func57, Try.ntmps57
            go_wp2_with fail
            go_ret
            exact ⟨rfl, (Below.refl _ _).alloc (Nat.le_refl _) _⟩
          · clear h
            go_enter Try.func57, Try.ntmps57
            go_wp2_with fail
            go_ret
            exact ⟨rfl, (Below.refl _ _).alloc (Nat.le_refl _) _⟩
        · clear h
          go_enter Try.func57, Try.ntmps57
          go_wp2_with fail
          go_ret
          exact ⟨rfl, (Below.refl _ _).alloc (Nat.le_refl _) _⟩
      · clear h
        go_enter Try.func57, Try.ntmps57
        go_wp2_with fail
        go_ret
        exact ⟨rfl, (Below.refl _ _).alloc (Nat.le_refl _) _⟩
    · clear h
      go_enter Try.func57, Try.ntmps57
      go_wp2_with fail
      go_ret
      exact ⟨rfl, (Below.refl _ _).alloc (Nat.le_refl _) _⟩
  · clear h
    go_enter Try.func57, Try.ntmps57
    go_wp2_with fail
    go_ret
    exact ⟨rfl, (Below.refl _ _).alloc (Nat.le_refl _) _⟩

set_option maxRecDepth 100000 in
set_option maxHeartbeats 1000000 in
theorem ratesRight_any (s : Sch) (w : World) (hi : s.In w) :
    Calls Try.prog 57 #[s.val] w fun e w' => e = .returned (.bool s.right) ∧ Below w.heap.size w w' := by
  cases hh : s.heads with
  | false =>
    refine (ratesRight_heads s w hi hh).mono ?_
    rintro e w' ⟨rfl, hb⟩
    exact ⟨by simp [Sch.right, hh], hb⟩
  | true =>
    obtain ⟨q1, q2, q3, q4, q5, q6⟩ := Sch.heads_iff.1 hh
    obtain ⟨⟨_, haddr, hbd⟩, _, hd, hc, hb, hm, hl⟩ := hi
    obtain ⟨bb, off, hA, hbb, hcell⟩ := haddr (by omega)
    have HR : Hid (s.right = (decide (∀ k, k < s.len → s.okAt k = true) && decide (s.f 0 = 0) && s.tails)) := Lib.hid (by simp [Sch.right, hh])
    have HOK : Hid (∀ k, s.okAt k = (isMon (s.f k) && (decide (k = 0) || decide (s.f (k - 1) < s.f k)) && decide (0 ≤ s.b k ∧ s.b k ≤ 10000))) := Lib.hid (fun k => rfl)
    have HT : Hid (s.tails = (isMon s.ded && (isMon s.cre && isMon s.least))) := Lib.hid rfl
    have HF : Hid (∀ k, k < s.len → w.cell? ⟨bb, off + k * 2, none⟩ = some (.int .i64 (s.f k)) ∧ w.cell? ⟨bb, off + k * 2 + 1, none⟩ = some (.int .i64 (s.b k)) ∧ i64 (s.f k) ∧ i64 (s.b k)) := Lib.hid (fun k hk =>
      ⟨hcell (k * 2) (by omega), hcell (k * 2 + 1) (by omega), hbd _, hbd _⟩)
    clear hcell hbd hh haddr
    obtain ⟨A, len, cap, zs, ded, cre, bp, most, least⟩ := s
    simp only [i64, Sch.val] at *
    generalize Sch.right ⟨A, len, cap, zs, ded, cre, bp, most, least⟩ = R at *
    generalize Sch.tails ⟨A, len, cap, zs, ded, cre, bp, most, least⟩ = T at *
    generalize Sch.okAt ⟨A, len, cap, zs, ded, cre, bp, most, least⟩ = ok at *
    generalize Sch.f ⟨A, len, cap, zs, ded, cre, bp, most, least⟩ = f at *
    generalize Sch.b ⟨A, len, cap, zs, ded, cre, bp, most, least⟩ = b at *
    subst hA
    go_enter Try.func57, Try.ntmps57
    go_wp2_with fail
    have ho0 : Own (w.alloc (.cells #[.slice (some ⟨bb, off, none⟩) len cap, .int .i64 ded, .int .i64 cre, .int .i64 bp, .int .i64 most, .int .i64 least] 29)) w.heap.size #[.slice (some ⟨bb, off, none⟩) len cap, .int .i64 ded, .int .i64 cre, .int .i64 bp, .int .i64 most, .int .i64 least] 29 := own_new _ _ _
    have hb0 : Below w.heap.size w (w.alloc (.cells #[.slice (some ⟨bb, off, none⟩) len cap, .int .i64 ded, .int .i64 cre, .int .i64 bp, .int .i64 most, .int .i64 least] 29)) := (Below.refl _ _).alloc (Nat.le_refl _) _
    have hs0 : w.heap.size < (w.alloc (.cells #[.slice (some ⟨bb, off, none⟩) len cap, .int .i64 ded, .int .i64 cre, .int .i64 bp, .int .i64 most, .int .i64 least] 29)).heap.size := by simp
    generalize w.alloc (.cells #[.slice (some ⟨bb, off, none⟩) len cap, .int .i64 ded, .int .i64 cre, .int .i64 bp, .int .i64 most, .int .i64 least] 29) = W at *
    have HO0 := Lib.hid ho0
    have HB0 := Lib.hid hb0
    clear ho0 hb0
    go_loopw [3, 39] (fun vl vi wr => ∃ (k : Nat) (l : Int), k ≤ len ∧ vi = .int .i64 k ∧ vl = .int .i64 l ∧ -1 ≤ l ∧ l ≤ 1125899906842624 ∧ Hid (l = if k = 0 then -1 else f (k - 1)) ∧ Hid (∀ j, j < k → ok j = true) ∧ Hid (Below w.heap.size w wr) ∧
      Hid (Own wr w.heap.size #[.slice (some ⟨bb, off, none⟩) len cap, .int .i64 ded, .int .i64 cre, .int .i64 bp, .int .i64 most, .int .i64 least] 29) ∧ w.heap.size < wr.heap.size) (fun _ vi _ => len - (intOf vi).toNat)
    case atStart => exact ⟨0, -1, by omega, rfl, rfl, by omega, by omega, Lib.hid rfl, Lib.hid (fun j hj => absurd hj (by omega)), HB0, HO0, by omega⟩
    case round =>
      obtain ⟨k, l, hk, rfl, rfl, l1, l2, HLst, HAll, HB, HO, hsz⟩ := hrel
      by_cases hlt : k < len
      · obtain ⟨e1, e2, x1, y1⟩ := HF.out k hlt
        have e3 : wr.cell? ⟨bb, off + k * 2, none⟩ = some (.int .i64 (f k)) := (HB.out.cell (p := ⟨bb, off + k * 2, none⟩) hbb).trans e1
        have e4 : wr.cell? ⟨bb, off + k * 2 + 1, none⟩ = some (.int .i64 (b k)) := (HB.out.cell (p := ⟨bb, off + k * 2 + 1, none⟩) hbb).trans e2
        have hok := HOK.out k
        have hl0 : k = 0 ∨ l = f (k - 1) := by
          have := HLst.out
          by_cases g : k = 0
          · exact .inl g
          · rw [if_neg g] at this; exact .inr this
        have hl3 : (decide (k = 0) || decide (f (k - 1) < f k)) = true → isMon (f k) = true → l < f k := by
          intro g1 g2
          have g3 := isMon_iff.1 g2
          have := HLst.out
          by_cases g : k = 0
          · rw [if_pos g] at this; omega
          · rw [if_neg g] at this; simp [g] at g1; omega
        have hl4 : isMon (f k) = true → l < f k → (decide (k = 0) || decide (f (k - 1) < f k)) = true := by
          intro g2 g1
          rcases hl0 with g | g
          · simp [g]
          · rw [g] at g1; simp [g1]
        have HNext : Hid (∀ x, x = f k → x = if k + 1 = 0 then -1 else f (k + 1 - 1)) := Lib.hid (fun x hx => by simp [hx])
        have HOk := Lib.hid hok
        have HL3 := Lib.hid hl3
        have HL4 := Lib.hid hl4
        clear hok hl0 hl3 hl4 e1 e2
        generalize hfx : f k = x at *
        generalize hby : b k = y at *
        generalize (decide (k = 0) || decide (f (k - 1) < x)) = ord at *
        have hR0 : ok k = false → R = false := fun g => by rw [HR.out, decide_eq_false (fun hall => by have := hall k hlt; rw [g] at this; cases this)]; rfl
        have HR0 := Lib.hid hR0
        have e0 : ∀ i, wr.cell? ⟨w.heap.size, i, none⟩ = (#[.slice (some ⟨bb, off, none⟩) len cap, .int .i64 ded, .int .i64 cre, .int .i64 bp, .int .i64 most, .int .i64 least] : Array Value)[i]? := own_cell HO.out
        have hbl : Below w.heap.size w ((wr.alloc (.cells #[.int .i64 x, .int .i64 y] 68)).alloc (.cells #[.int .i64 x] 2)) := (HB.out.alloc (by omega) _).alloc (by simp; omega) _
        have hown : Own ((wr.alloc (.cells #[.int .i64 x, .int .i64 y] 68)).alloc (.cells #[.int .i64 x] 2)) w.heap.size #[.slice (some ⟨bb, off, none⟩) len cap, .int .i64 ded, .int .i64 cre, .int .i64 bp, .int .i64 most, .int .i64 least] 29 := own_alloc (own_alloc HO.out _) _
        have HBL := Lib.hid hbl
        have HOWN := Lib.hid hown
        clear hR0 hbl hown
        go_wp2_with fail
        have z0 : ((wr.alloc (.cells #[.int .i64 x, .int .i64 y] 68)).alloc (.cells #[.int .i64 x] 2)).cell? ⟨wr.heap.size + 1, 0, none⟩ = some (.int .i64 x) := by simp [go_sem]
        have z1 : ((wr.alloc (.cells #[.int .i64 x, .int .i64 y] 68)).alloc (.cells #[.int .i64 x] 2)).cell? ⟨wr.heap.size, 0, none⟩ = some (.int .i64 x) := by simp [go_sem]
        have z2 : ((wr.alloc (.cells #[.int .i64 x, .int .i64 y] 68)).alloc (.cells #[.int .i64 x] 2)).cell? ⟨wr.heap.size, 1, none⟩ = some (.int .i64 y) := by simp [go_sem]
        have z3 : w.heap.size < ((wr.alloc (.cells #[.int .i64 x, .int .i64 y] 68)).alloc (.cells #[.int .i64 x] 2)).heap.size := by simp; omega
        generalize (wr.alloc (.cells #[.int .i64 x, .int .i64 y] 68)).alloc (.cells #[.int .i64 x] 2) = W2 at *
        refine (money_at x _ _ z0).mono ?_
        rintro e w' ⟨rfl, rfl⟩
        clear z0 e0 e3 e4
        cases hm : isMon x with
        | false =>
          have hz : R = false := HR0.out (by rw [HOk.out, hm]; rfl)
          have HZ := Lib.hid hz
          clear hz hm
          go_wp2_with fail
          go_ret
          exact ⟨ret_bool HZ.out.symm, HBL.out⟩
        | true =>
          obtain ⟨x3, x4⟩ := isMon_iff.1 hm
          have HM := Lib.hid hm
          clear hm
          by_cases c1 : x ≤ l
          · have hz : R = false := HR0.out (by
              rw [HOk.out, HM.out]
              cases g : ord
              · rfl
              · have := HL3.out g HM.out; omega)
            have HZ := Lib.hid hz
            clear hz
            go_wp2_with fail
            go_ret
            exact ⟨ret_bool HZ.out.symm, HBL.out⟩
          · have ho : ord = true := HL4.out HM.out (by omega)
            have HOrd := Lib.hid ho
            clear ho
            by_cases c2 : y < 0
            · have hz : R = false := HR0.out (by rw [HOk.out, HM.out, HOrd.out, decide_eq_false (by omega)]; rfl)
              have HZ := Lib.hid hz
              clear hz
              go_wp2_with fail
              go_ret
              exact ⟨ret_bool HZ.out.symm, HBL.out⟩
            · by_cases c3 : 10000 < y
              · have hz : R = false := HR0.out (by rw [HOk.out, HM.out, HOrd.out, decide_eq_false (by omega)]; rfl)
                have HZ := Lib.hid hz
                clear hz
                go_wp2_with fail
                go_ret
                exact ⟨ret_bool HZ.out.symm, HBL.out⟩
              · have hz : ok k = true := by rw [HOk.out, HM.out, HOrd.out, decide_eq_true (by omega)]; rfl
                have HZ := Lib.hid hz
                clear hz
                go_wp2_with fail
                go_roundw
                case rel => exact ⟨k + 1, x, by omega, by go_num, rfl, by omega, by omega, Lib.hid (HNext.out x rfl), Lib.hid (fun j hj => by
                    by_cases g : j = k
                    · rw [g]; exact HZ.out
                    · exact HAll.out j (by omega)), HBL, HOWN, z3⟩
                case measure => simp [intOf]; omega
      · have ek : k = len := by omega
        subst ek
        have hall : decide (∀ j, j < k → ok j = true) = true := decide_eq_true HAll.out
        have hR1 : R = (decide (f 0 = 0) && T) := by rw [HR.out, hall]; simp
        have HR1 := Lib.hid hR1
        obtain ⟨e1, _, x1, _⟩ := HF.out 0 (by omega)
        have e3 : wr.cell? ⟨bb, off, none⟩ = some (.int .i64 (f 0)) := (HB.out.cell (p := ⟨bb, off, none⟩) hbb).trans (by simpa using e1)
        have e0 : ∀ i, wr.cell? ⟨w.heap.size, i, none⟩ = (#[.slice (some ⟨bb, off, none⟩) k cap, .int .i64 ded, .int .i64 cre, .int .i64 bp, .int .i64 most, .int .i64 least] : Array Value)[i]? := own_cell HO.out
        clear hall hR1 e1
        generalize f 0 = x at *
        by_cases c : x = 0
        · have hr : R = T := by rw [HR1.out, decide_eq_true c]; rfl
          have HRT := Lib.hid (hr.trans HT.out)
          clear hr
          have hbl : Below w.heap.size w (wr.alloc (.cells #[.int .i64 ded, .int .i64 cre, .int .i64 least] 2)) := HB.out.alloc (by omega) _
          have HBL := Lib.hid hbl
          clear hbl
          go_wp2_with fail
          refine (money_at3 ded cre least _ _ (by simp [go_sem]) (by simp [go_sem]) (by simp [go_sem])).mono ?_
          rintro e w' ⟨rfl, rfl⟩
          go_wp2_with fail
          go_ret
          exact ⟨ret_bool HRT.out.symm, HBL.out⟩
        · have hr : R = false := by rw [HR1.out, decide_eq_false c]; rfl
          have HRT := Lib.hid hr
          clear hr
          go_wp2_with fail
          go_ret
          exact ⟨ret_bool HRT.out.symm, HB.out⟩
end Go.Proofs.Ytcjkofgbijdkcaa
