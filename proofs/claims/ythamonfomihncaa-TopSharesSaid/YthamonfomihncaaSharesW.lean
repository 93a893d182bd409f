/- The law TopShares: a payment over items whose shares were split by weights: the walk. -/
import Derived.WalkKit
import Derived.Outline
import Derived.Lib.Hide
import Derived.Handy
import Derived.Deep.QuietTactic
import Derived.BigQuiet
import Derived.BigRegion
import Derived.Deep.DeepCutAuto
import Derived.Laws.AppendOwn
import Derived.Test.YthamonfomihncaaShares
namespace Go.Proofs.Ythamonfomihncaa
open Go.RowKit Go.Sort

/-- the parts of a split of an amount from 0 on -/
structure Parts (F : Nat → Int) (n : Nat) (a : Int) : Prop where
  nn : ∀ k, k < n → 0 ≤ F k ∧ F k ≤ 4611686018427387904
  sum : sumF F n = a
theorem parts_of {a : Int} {l : List Int} (h : splitOk a l = true) (h0 : 0 ≤ a) : Parts (splL a l) l.length a := by
  obtain ⟨c1, c2, c3, c4, c5, c6, c7, c8⟩ := splitOk_is h
  obtain ⟨p1, p2⟩ := spl_parts h
  refine ⟨fun k hk => ?_, p2⟩
  obtain ⟨q1, q2, _⟩ := p1 k hk
  have q3 := amt_iff.1 q2
  have : 0 ≤ a * l.getD k 0 / (sumR l).1 := Int.ediv_nonneg (Int.mul_nonneg h0 (c4 k hk)) (by omega)
  rcases q1 with q1 | q1 <;> omega
theorem shIt_ok {F : Nat → Int} {n : Nat} (hn : n ≤ 60) (h : ∀ k, k < n → 0 ≤ F k ∧ F k ≤ 4611686018427387904) : ∀ k, k < n → (shIt F k).ok := fun k hk => by
  have := h k hk
  refine ⟨⟨?_, ?_⟩, ⟨?_, ?_⟩, ⟨?_, ?_⟩, this.1, this.2⟩ <;> simp only [shIt] <;> omega
theorem shIt_fore (F : Nat → Int) {i j : Nat} (h : i < j) : Fore (shIt F i) (shIt F j) := by
  left; simp only [shIt]; omega
theorem shIt_apart (F : Nat → Int) (n : Nat) : Apart (shIt F) n := fun i j _ _ hne => by
  rcases Nat.lt_or_gt_of_ne hne with h | h
  · exact Or.inl (shIt_fore F h)
  · exact Or.inr (shIt_fore F h)
theorem sum_le_amt {f : Nat → Int} {n : Nat} (h : ∀ k, k < n → 0 ≤ f k) : ∀ k, k < n → f k ≤ sumF f n := fun k hk => one_le_sum h hk

set_option maxRecDepth 100000 in
set_option maxHeartbeats 8000000 in
theorem topShares_walk (a : Int) (A : Option Addr) (n cap : Nat) (l : List Int) (pd : Int) (w : World) (_ : -9223372036854775808 ≤ a) (_ : a ≤ 9223372036854775807) (hi : Ints w A n l) (hn : n ≤ 9223372036854775807) (_ : -9223372036854775808 ≤ pd) (_ : pd ≤ 9223372036854775807) :
    Calls Try.prog 4 #[.int .i64 a, .slice A n cap, .int .i64 pd] w fun e w' => e = .returned (.bool true) ∧ Below w.heap.size w w' := by
  have HI := Lib.hid hi
  have hl := hi.1
  have HTwo : Hid (Calls Try.prog 11 #[.int .i64 2, .slice (some ⟨w.heap.size, 0, none⟩) 2 2] (w.alloc (.cells #[.int .i64 1, .int .i64 1] 2)) (SplitTo 2 (splL 2 [1, 1]) (w.alloc (.cells #[.int .i64 1, .int .i64 1] 2)))) :=
    Lib.hid (numSplit_is 2 _ 2 2 [1, 1] _ ⟨rfl, fun _ => ⟨w.heap.size, 0, rfl, by simp, fun k hk => by
      match k, hk with
      | 0, _ => simp [go_sem]
      | 1, _ => simp [go_sem]⟩, fun k => by
        match k with
        | 0 => simp
        | 1 => simp
        | k + 2 => simp⟩ two_split.1)
  have hT1 := two_split.2
  clear hi
  go_enter Try.func4, Try.ntmps4
  go_wp2_with fail
  refine HTwo.out.mono ?_
  rintro e w1 ⟨g2, rfl, hr1, _, hb1⟩
  have e1 := hr1.cell (show 0 < 2 by omega)
  rw [hT1] at e1
  have HB1 : Hid (Below w.heap.size w w1) := Lib.hid (((Below.refl _ _).alloc (Nat.le_refl _) _).trans (hb1.mono (by simp)))
  clear hr1 hb1 HTwo hT1
  by_cases c1 : a < 0
  · go_wp2_with fail
    go_ret
    exact ⟨rfl, HB1.out⟩
  by_cases c2 : 1125899906842624 < a
  · go_wp2_with fail
    go_ret
    exact ⟨rfl, HB1.out⟩
  by_cases c3 : pd < 0
  · go_wp2_with fail
    go_ret
    exact ⟨rfl, HB1.out⟩
  by_cases c4 : 1125899906842624 < pd
  · go_wp2_with fail
    go_ret
    exact ⟨rfl, HB1.out⟩
  by_cases c5 : 60 < n
  · go_wp2_with fail
    go_ret
    exact ⟨rfl, HB1.out⟩
  cases ho : splitOk a l with
  | false =>
    have H1 := Lib.hid (fun W (hb : Below w.heap.size w W) => numSplit_no a A n cap l W (HI.out.below hb) hn ho)
    clear ho
    unfold NoSplit at H1
    go_wp2_with fail
    refine (H1.out _ HB1.out).mono ?_
    rintro e w2 ⟨rfl, hb2⟩
    have hb12 := HB1.out.trans (hb2.mono HB1.out.size)
    clear hb2
    go_wp2_with fail
    go_ret
    exact ⟨rfl, hb12⟩
  | true =>
    have H1 := Lib.hid (fun W (hb : Below w.heap.size w W) => numSplit_is a A n cap l W (HI.out.below hb) ho)
    have hp := parts_of ho (by omega)
    have hn1 : 1 ≤ n := by have := (splitOk_is ho).2.1; omega
    rw [hl] at hp
    have HPs := Lib.hid hp
    clear ho HI hp hl
    generalize splL a l = F at *
    clear l
    obtain ⟨i0, hi0, hz0, hz1, hz2⟩ := info_parts infoS_item
    go_wp2_with fail
    refine (H1.out _ HB1.out).mono ?_
    rintro e w2 ⟨g, rfl, hr2, _, hb2⟩
    have HR2 := Lib.hid hr2
    have HB2 := Lib.hid (HB1.out.trans (hb2.mono HB1.out.size))
    have HN0 : Hid (w2.ownsRow w2.heap.size 51 4 (.slice none 0 0) 0 (itsC (shIt F) 0)) := Lib.hid (World.ownsRow_nil _ _ _ _)
    have hg2 := own_lt hr2
    have HB2' := HB2
    clear hr2 hb2 HB1 H1 e1
    go_wp2_with fail
    go_loopw [11, 12] (fun v vi wr => ∃ k : Nat, k ≤ n ∧ vi = .int .i64 k ∧ Hid (wr.ownsRow w2.heap.size 51 4 v k (itsC (shIt F) k)) ∧ Hid (Row wr g n 2 F) ∧ Hid (Below w.heap.size w wr) ∧ Hid (w2.heap.size ≤ wr.heap.size)) (fun _ vi _ => n - (intOf vi).toNat)
    case atStart => exact ⟨0, by omega, rfl, HN0, HR2, HB2, Lib.hid (Nat.le_refl _)⟩
    case round =>
      obtain ⟨k, hk, rfl, HN, HR, HB, HZ⟩ := hrel
      clear HN0 HR2 HB2
      by_cases hlt : k < n
      · have e1 := HR.out.cell hlt
        have hz := HZ.out
        have HS : Hid (itsC (shIt F) k ++ [.int .i64 (100 + (k : Int)), .int .i64 ((k : Int) % 3), .int .i64 (1 + (k : Int)), .int .i64 (F k)] = itsC (shIt F) (k + 1)) := Lib.hid rfl
        generalize F k = f at *
        go_wp2_with ((at_builtin; refine wpList_append_own _ rfl (.tmp 74) (.tmp 86) 49 rfl w2.heap.size 51 i0 (.agg #[.int .i64 0, .int .i64 0, .int .i64 0, .int .i64 0]) 4 32 Try.underlying49 hi0 hz0 hz1 hz2 rfl (by decide) _ _ _ rfl (HN.out.alloc _) ⟨wr.heap.size, 0, none⟩ 1 1 [.int .i64 (100 + (k : Int)), .int .i64 ((k : Int) % 3), .int .i64 (1 + (k : Int)), .int .i64 f] rfl rfl (four_new _ _ _ _ _ rfl) (by simp [Value.oneCell']) (by unfold maxLen; omega) (by omega) (by simp; omega) ?_; intro v' w' hown' hgrow' hnil'))
        have hr' := hown'
        rw [HS.out] at hr'
        have HN' := Lib.hid hr'
        have HR' : Hid (Row w' g n 2 F) := Lib.hid (own_grown (own_alloc HR.out _) hgrow' (fun h => by have := (HN.out.lt _ h.symm).1; omega))
        have HB' : Hid (Below w.heap.size w w') := Lib.hid ((HB.out.alloc (by have := HB.out.size; omega) _).grown hgrow' (by have := HB.out.size; simp; omega) (fun j hj => by have := (HN.out.lt _ hj).1; have := HB2'.out.size; omega))
        have HZ' : Hid (w2.heap.size ≤ w'.heap.size) := Lib.hid (by have := hgrow'.size; simp at this; omega)
        clear hown' hgrow' hnil' hr'
        exact ⟨⟨k + 1, by omega, by go_num, HN', HR', HB', HZ'⟩, by simp [intOf]; omega⟩
      · obtain rfl : n = k := by omega
        have ho := HN.out
        rcases ho.2 with ⟨_, h0⟩ | ⟨gi, c, cur, rfl, hgi, hheap, _⟩
        · omega
        · have hgl : gi < wr.heap.size := (Array.getElem?_eq_some_iff.1 hheap).1
          have hits := its_of_owns ho
          have HIt : Hid (∀ W, Below wr.heap.size wr W → ItsAt W gi 0 n (shIt F)) := Lib.hid (fun W hb k hk => by
            obtain ⟨q0, q1, q2, q3⟩ := hits k hk
            exact ⟨held_cell hb q0, held_cell hb q1, held_cell hb q2, held_cell hb q3⟩)
          have hok := shIt_ok (F := F) (n := n) (by omega) HPs.out.nn
          have hpl : plc (shIt F) n = List.range n := plc_asc (fun i j hij _ => shIt_fore F hij)
          have HPay := Lib.hid (fun W (hb : Below wr.heap.size wr W) => pay_ok gi 0 n c (shIt F) pd W hn1 (by omega) (Nat.lt_of_lt_of_le hgl hb.size) (HIt.out W hb) hok (shIt_apart F n) (by omega) (by omega))
          have HTot := Lib.hid (fun W (hb : Below wr.heap.size wr W) => total_ok gi 0 n c (shIt F) W hn1 (by omega) (Nat.lt_of_lt_of_le hgl hb.size) (HIt.out W hb) hok (shIt_apart F n))
          rw [hpl] at HPay
          have hto : sumR (opens (shIt F) n) = (a, 0) := sumR_row F n a (fun k hk => by have := HPs.out.nn k hk; exact amt_iff.2 (by omega)) HPs.out.sum (amt_iff.2 (by omega))
          rw [hto] at HTot
          have hsF : sumF (fun i => (shIt F i).opn) n = a := HPs.out.sum
          have hleft := payA_row (x := shIt F) (n := n) (amt := pd) (by omega) (fun k hk => (HPs.out.nn k hk).1) n (Nat.le_refl n)
          rw [hsF] at hleft
          have hsum := sum_paid (x := shIt F) (n := n) (amt := pd) n (Nat.le_refl n)
          rw [hleft] at hsum HPay
          have hP : ∀ k, k < n → 0 ≤ payO (shIt F) (List.range n) pd n k ∧ payO (shIt F) (List.range n) pd n k ≤ F k := fun k hk => by
            rw [payO_row n (Nat.le_refl n) k, if_pos hk, payA_row (by omega) (fun k hk => (HPs.out.nn k hk).1) k (by omega)]
            have := (HPs.out.nn k hk).1
            show 0 ≤ min (F k) _ ∧ min (F k) _ ≤ F k
            omega
          have HP := Lib.hid hP
          generalize payO (shIt F) (List.range n) pd n = P at *
          have HSm := Lib.hid (fun W q (hr : ∀ k, k < n → W.cell? ⟨q, k, none⟩ = some (.int .i64 (P k))) => numSum_row q n n P (pd - max (pd - a) 0) W (by omega) hr (fun k hk => by have := hP k hk; have := HPs.out.nn k hk; exact amt_iff.2 (by omega)) hsum (amt_iff.2 (by omega)))
          clear hits hok hpl hto hsF hleft hsum hP ho hheap HN HZ HIt
          go_wp2_with fail
          refine (HPay.out _ (Below.refl _ _)).mono ?_
          rintro e w3 ⟨q, rfl, hr3, _, hb3⟩
          have HQ3 := Lib.hid hr3
          have HR3 := Lib.hid (HR.out.call hb3)
          have HB3 := Lib.hid hb3
          have HBw3 := Lib.hid (HB.out.trans (hb3.mono HB.out.size))
          clear hr3 hb3 HR HB HPay
          go_wp2_with fail
          refine (HTot.out _ HB3.out).mono ?_
          rintro e w4 ⟨rfl, hb4⟩
          have HQ4 := Lib.hid (HQ3.out.call hb4)
          have HR4 := Lib.hid (HR3.out.call hb4)
          have HBw4 := Lib.hid (HBw3.out.trans (hb4.mono HBw3.out.size))
          clear hb4 HQ3 HR3 HB3 HBw3 HTot
          unfold Pair
          go_wp2_with fail
          refine (HSm.out _ q (fun k hk => HQ4.out.cell hk)).mono ?_
          rintro e w5 ⟨rfl, hb5⟩
          have HQ5 := Lib.hid (HQ4.out.call hb5)
          have HR5 := Lib.hid (HR4.out.call hb5)
          have HBw5 := Lib.hid (HBw4.out.trans (hb5.mono HBw4.out.size))
          clear hb5 HQ4 HR4 HBw4 HSm
          unfold Pair
          go_wp2_with fail
          go_loopw [20] (fun vi wq => ∃ j : Nat, j ≤ n ∧ vi = .int .i64 j ∧ Hid (Row wq q n 2 P) ∧ Hid (Row wq g n 2 F) ∧ Hid (Below w.heap.size w wq)) (fun vi _ => n - (intOf vi).toNat)
          case atStart => exact ⟨0, by omega, rfl, HQ5, HR5, HBw5⟩
          case round =>
            obtain ⟨j, hj, rfl, HQ, HR, HB⟩ := hrel
            clear HQ5 HR5 HBw5
            by_cases hlt : j < n
            · have e1 := HQ.out.cell hlt
              have e2 := HR.out.cell hlt
              have hpb := HP.out j hlt
              have i1 : (j : Int) < (n : Int) := by omega
              have i2 : (0 : Int) ≤ (j : Int) := by omega
              generalize P j = pj at *
              generalize F j = fj at *
              have d1 : decide (fj < pj) = false := by simp; omega
              have d2 : decide (pj < 0) = false := by simp; omega
              go_wp2_with fail
              go_quiet (fail)
              go_wp2_with fail
              exact ⟨⟨j + 1, by omega, by go_num, Lib.hid (HQ.out.drewN _), Lib.hid (HR.out.drewN _), Lib.hid (drewN_of HB.out _)⟩, by simp [intOf]; omega⟩
            · obtain rfl : n = j := by omega
              have b1 : (pd - max (pd - a) 0 == min a pd) = true := by simp; omega
              have b2 : IntKind.i64.wrap (pd - (pd - max (pd - a) 0)) = max (pd - a) 0 := by rw [IntKind.wrap_i64]; omega
              go_wp2_with fail
              go_ret
              exact ⟨by first | rfl | (simp; omega), HB.out⟩
end Go.Proofs.Ythamonfomihncaa
