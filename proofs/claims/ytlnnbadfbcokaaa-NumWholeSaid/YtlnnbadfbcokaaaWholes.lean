/- The law NumWhole: a split's parts sum to the amount; each lies less than 1 from its share: the walk. -/
import Derived.WalkKit
import Derived.Outline
import Derived.Lib.Hide
import Derived.Handy
import Derived.Deep.QuietTactic
import Derived.BigQuiet
import Derived.BigRegion
import Derived.Deep.RegionHeld3
import Derived.Deep.DeepCutAuto
import Derived.Test.YtlnnbadfbcokaaaNumBack
import Derived.Test.YtlnnbadfbcokaaaSplitA
namespace Go.Proofs.Ytlnnbadfbcokaaa
open Go.RowKit

set_option maxRecDepth 100000 in
set_option maxHeartbeats 8000000 in
theorem numWhole_walk (a : Int) (A : Option Addr) (n cap : Nat) (l : List Int) (w : World) (b1 : -9223372036854775808 ≤ a) (b2 : a ≤ 9223372036854775807) (hi : Ints w A n l) (hn : n ≤ 9223372036854775807) :
    Calls Try.prog 11 #[.int .i64 a, .slice A n cap] w fun e w' => e = .returned (.bool true) ∧ Below w.heap.size w w' := by
  have HI := Lib.hid hi
  by_cases c : 1000 < n
  · clear hi
    go_enter Try.func11, Try.ntmps11
    go_wp2_with fail
    refine (awake01 _).mono ?_
    rintro e w1 ⟨rfl, hb1⟩
    go_wp2_with fail
    go_ret
    exact ⟨rfl, hb1⟩
  · cases ho : splitOk a l with
    | false =>
      clear hi
      have H1 := Lib.hid (fun W (hb : Below w.heap.size w W) => numSplit_no a A n cap l W (HI.out.below hb) hn ho)
      clear ho
      unfold NoSplit at H1
      go_enter Try.func11, Try.ntmps11
      go_wp2_with fail
      refine (awake01 _).mono ?_
      rintro e w1 ⟨rfl, hb1⟩
      go_wp2_with fail
      refine (H1.out _ hb1).mono ?_
      rintro e w2 ⟨rfl, hb2⟩
      have hb12 := hb1.trans (hb2.mono hb1.size)
      clear hb2
      go_wp2_with fail
      go_ret
      exact ⟨rfl, hb12⟩
    | true =>
      have H1 := Lib.hid (fun W (hb : Below w.heap.size w W) => numSplit_is a A n cap l W (HI.out.below hb) ho)
      obtain ⟨c1, c2, c3, c4, c5, c6, c7, c8⟩ := splitOk_is ho
      obtain ⟨p1, p2⟩ := spl_parts ho
      obtain ⟨b, off, rfl, hbw, hc⟩ := hi.2.1 (by have := hi.1; omega)
      obtain rfl := hi.1
      have HS2 := Lib.hid (fun W (hb : Below w.heap.size w W) => by
        have h := numSum_any b off cap l W (fun k hk => by rw [← hc k hk]; exact hb.cell (p := ⟨b, off + k, none⟩) hbw) (by omega) hi.2.2
        rw [c5] at h
        exact h)
      have HC : Hid (∀ W, Below w.heap.size w W → ∀ k, k < l.length → W.cell? ⟨b, off + k, none⟩ = some (.int .i64 (l.getD k 0))) := Lib.hid (fun W hB k hk => by rw [← hc k hk]; exact hB.cell (p := ⟨b, off + k, none⟩) hbw)
      have HCh : Hid (∀ k, k < l.length → ∃ (va vx vp : Value) (s : Bool) (d0 d1 d2 d3 r : Int),
          (∀ W, Calls Try.prog 38 #[.int .i64 a] W fun e w' => e = .returned va ∧ Below W.heap.size W w') ∧
          (∀ W, Calls Try.prog 38 #[.int .i64 (l.getD k 0)] W fun e w' => e = .returned vx ∧ Below W.heap.size W w') ∧
          (∀ W, Calls Try.prog 39 #[va, vx] W fun e w' => e = .returned vp ∧ Below W.heap.size W w') ∧
          (∀ W, Calls Try.prog 40 #[vp, .int .i64 (sumR l).1] W fun e w' => e = .returned (.tuple #[.agg #[.bool s, .int .u64 d0, .int .u64 d1, .int .u64 d2, .int .u64 d3], .int .i64 r]) ∧ Below W.heap.size W w') ∧
          (∀ W, Calls Try.prog 41 #[.agg #[.bool s, .int .u64 d0, .int .u64 d1, .int .u64 d2, .int .u64 d3]] W fun e w' => e = Pair (a * l.getD k 0 / (sumR l).1, 0) ∧ Below W.heap.size W w')) := Lib.hid (fun k hk => by
        have hv := hi.2.2 k
        obtain ⟨va, vx, vp, s, d0, d1, d2, d3, q1, q2, q3, q4, q5⟩ := share_chain a (l.getD k 0) (sumR l).1 b1 b2 hv.1 hv.2 c6 c7
        have e : told (a * l.getD k 0 / (sumR l).1) = (a * l.getD k 0 / (sumR l).1, 0) := by unfold told; rw [if_pos (p1 k hk).2.2]
        rw [e] at q5
        exact ⟨va, vx, vp, s, d0, d1, d2, d3, _, q1, q2, q3, q4, q5⟩)
      have HP : Hid (∀ k, k < l.length → (splL a l k = a * l.getD k 0 / (sumR l).1 ∨ splL a l k = a * l.getD k 0 / (sumR l).1 + 1) ∧ amt (splL a l k) = true) := Lib.hid (fun k hk => ⟨(p1 k hk).1, (p1 k hk).2.1⟩)
      have HS1 : Hid (∀ W g, (∀ k, k < l.length → W.cell? ⟨g, k, none⟩ = some (.int .i64 (splL a l k))) → Calls Try.prog 37 #[.slice (some ⟨g, 0, none⟩) l.length l.length] W fun e w' => e = Pair (a, 0) ∧ Below W.heap.size W w') :=
        Lib.hid (fun W g hr => numSum_row g l.length l.length (splL a l) a W (by omega) hr (fun k hk => (p1 k hk).2.1) p2 c1)
      clear p1 p2 ho hi HI hc c4 c5 c8 c1
      generalize splL a l = F at *
      generalize (sumR l).1 = all at *
      obtain ⟨x, hxd⟩ : ∃ x : Nat → Int, x = fun k => l.getD k 0 := ⟨_, rfl⟩
      have hxd' : ∀ k, l.getD k 0 = x k := fun k => by rw [hxd]
      simp only [hxd'] at HC HCh HP
      generalize l.length = n at *
      clear hxd hxd' l
      go_enter Try.func11, Try.ntmps11
      go_wp2_with fail
      refine (awake01 _).mono ?_
      rintro e w1 ⟨rfl, hb1⟩
      go_wp2_with fail
      refine (H1.out _ hb1).mono ?_
      rintro e w2 ⟨g, rfl, hr2, hg, hb2⟩
      have hb12 := hb1.trans (hb2.mono hb1.size)
      clear hb2
      have HR2 := Lib.hid hr2
      clear hr2
      go_wp2_with fail
      refine (HS1.out _ g (fun k hk => HR2.out.cell hk)).mono ?_
      rintro e w3 ⟨rfl, hb3⟩
      have hb13 := hb12.trans (hb3.mono hb12.size)
      have HR3 := Lib.hid (HR2.out.call hb3)
      clear hb3 HR2 hb1 hb12
      unfold Pair
      go_wp2_with fail
      refine (HS2.out _ hb13).mono ?_
      rintro e w4 ⟨rfl, hb4⟩
      have HB4 := Lib.hid (hb13.trans (hb4.mono hb13.size))
      have HR4 := Lib.hid (HR3.out.call hb4)
      clear hb4 HR3 hb13 HS1 HS2 H1
      unfold Pair
      go_wp2_with fail
      go_loopw [12] (fun vi wr => ∃ j : Nat, j ≤ n ∧ vi = .int .i64 j ∧ Hid (Row wr g n 2 F) ∧ Hid (Below w.heap.size w wr)) (fun vi _ => n - (intOf vi).toNat)
      case atStart => exact ⟨0, by omega, rfl, HR4, HB4⟩
      case round =>
        obtain ⟨j, hj, rfl, HR, HB⟩ := hrel
        clear HR4 HB4
        by_cases hlt : j < n
        · obtain ⟨va, vx, vp, s, d0, d1, d2, d3, r, q1, q2, q3, q4, q5⟩ := HCh.out j hlt
          have HOa := Lib.hid q1; have HOx := Lib.hid q2; have HMu := Lib.hid q3; have HDi := Lib.hid q4; have HTo := Lib.hid q5
          have HCj := Lib.hid (fun W hB => HC.out W hB j hlt)
          have hpj := HP.out j hlt
          clear q1 q2 q3 q4 q5 HCh HC HP
          generalize hF : F j = f at *
          have HF := Lib.hid hF
          clear hF
          generalize a * x j / all = y at *
          generalize x j = xj at *
          have HPj := Lib.hid hpj
          clear hpj
          have i1 : (j : Int) < (n : Int) := by omega
          have i2 : (0 : Int) ≤ (j : Int) := by omega
          have hgl := own_lt HR.out
          have hBl := HB.out.size
          obtain ⟨Held, hh0, hcall, hdrew, hall', hat, hlt', hset, hback⟩ : ∃ Held : World → Prop, Held wr ∧ Hid (∀ W W', Held W → Below W.heap.size W W' → Held W') ∧ Hid (∀ W, Held W → Held W.drew) ∧ Hid (∀ W o, Held W → Held (W.alloc o)) ∧
              Hid (∀ W, Held W → W.cell? ⟨b, off + j, none⟩ = some (.int .i64 xj)) ∧ Hid (∀ W, Held W → wr.heap.size ≤ W.heap.size) ∧
              Hid (∀ W c v0 v1 v2 v3 v4, Held W → wr.heap.size ≤ c → Held (((((W.setCell ⟨c, 0, none⟩ v0).setCell ⟨c, 1, none⟩ v1).setCell ⟨c, 2, none⟩ v2).setCell ⟨c, 3, none⟩ v3).setCell ⟨c, 4, none⟩ v4)) ∧
              Hid (∀ W, Held W → Row W g n 2 F ∧ Below w.heap.size w W) :=
            ⟨fun W => (Row W g n 2 F ∧ Below w.heap.size w W) ∧ wr.heap.size ≤ W.heap.size, ⟨⟨HR.out, HB.out⟩, Nat.le_refl _⟩, Lib.hid (fun W W' h hb => ⟨⟨h.1.1.call hb, h.1.2.trans (hb.mono h.1.2.size)⟩, Nat.le_trans h.2 hb.size⟩), Lib.hid (fun W h => ⟨⟨h.1.1, below_drewN h.1.2 1⟩, h.2⟩),
              Lib.hid (fun W o h => ⟨⟨h.1.1.alloc o, h.1.2.alloc h.1.2.size o⟩, Nat.le_trans h.2 (by simp)⟩), Lib.hid (fun W h => HCj.out W h.1.2), Lib.hid (fun W h => h.2),
              Lib.hid (fun W c v0 v1 v2 v3 v4 h hc => ⟨⟨((((h.1.1.far (show g ≠ c by omega) _ _).far (show g ≠ c by omega) _ _).far (show g ≠ c by omega) _ _).far (show g ≠ c by omega) _ _).far (show g ≠ c by omega) _ _, ((((h.1.2.setCell (show w.heap.size ≤ c by omega) _).setCell (show w.heap.size ≤ c by omega) _).setCell (show w.heap.size ≤ c by omega) _).setCell (show w.heap.size ≤ c by omega) _).setCell (show w.heap.size ≤ c by omega) _⟩, by simpa using h.2⟩), Lib.hid (fun W h => h.1)⟩
          clear HR HB hgl hBl hbw
          go_upto_region 14 with fail
          go_cut [13, 14] (fun v13 v14 wx => ∃ c : Nat, v13 = .pointer (some ⟨c, 0, none⟩) ∧ Hid (Held wx) ∧ Hid (Own wx c #[.bool s, .int .u64 d0, .int .u64 d1, .int .u64 d2, .int .u64 d3] 59))
          case first =>
            clear HPj HTo
            go_region_held3 (fun W => W.cell? ⟨b, off + j, none⟩ = some (.int .i64 xj))
              (first | with_reducible exact hat.out _ (by assumption) | with_reducible exact hat.out _ (hdrew.out _ (by assumption)) | with_reducible exact hat.out _ (hall'.out _ _ (by assumption)) | with_reducible exact hat.out _ (hdrew.out _ (hall'.out _ _ (by assumption))) | with_reducible exact hat.out _ (hset.out _ _ _ _ _ _ _ (by assumption) (by omega)) | with_reducible exact hat.out _ (hset.out _ _ _ _ _ _ _ (hall'.out _ _ (by assumption)) (by omega)))
              (first
                | (go_at_call 38; (with_reducible refine (HOa.out _).mono ?_); rintro e WA ⟨rfl, hbA⟩
                   (have hhA : Held WA := by first | with_reducible exact hcall.out _ _ hh0 hbA | with_reducible exact hcall.out _ _ (hdrew.out _ hh0) hbA | with_reducible exact hcall.out _ _ (hall'.out _ _ hh0) hbA | with_reducible exact hcall.out _ _ (hdrew.out _ (hall'.out _ _ hh0)) hbA)
                   have hlA := hlt'.out _ hhA)
                | (go_at_call 38; (with_reducible refine (HOx.out _).mono ?_); rintro e WX ⟨rfl, hbX⟩
                   (have hhX : Held WX := by first | with_reducible exact hcall.out _ _ hhA hbX | with_reducible exact hcall.out _ _ (hall'.out _ _ hhA) hbX)
                   have hlX := hlt'.out _ hhX)
                | (go_at_call 39; (with_reducible refine (HMu.out _).mono ?_); rintro e WM ⟨rfl, hbM⟩
                   (have hhM : Held WM := by first | with_reducible exact hcall.out _ _ hhX hbM | with_reducible exact hcall.out _ _ (hall'.out _ _ hhX) hbM)
                   have hlM := hlt'.out _ hhM)
                | (go_at_call 40; (with_reducible refine (HDi.out _).mono ?_); rintro e WD ⟨rfl, hbD⟩
                   (have hhD : Held WD := by first | with_reducible exact hcall.out _ _ hhM hbD | with_reducible exact hcall.out _ _ (hall'.out _ _ hhM) hbD)
                   have hlD := hlt'.out _ hhD
                   (first
                     | (have hO := own_call (own_new _ wide0 59) hbD; have hgc := own_cell hO; have hgf := own_frz hO)
                     | (have hO := own_call (own_call (own_new _ wide0 59) hbM) hbD; have hgc := own_cell hO; have hgf := own_frz hO)
                     | (have hO := own_call (own_call (own_call (own_new _ wide0 59) hbX) hbM) hbD; have hgc := own_cell hO; have hgf := own_frz hO)
                     | (have hO := own_call (own_call (own_call (own_call (own_new _ wide0 59) hbA) hbX) hbM) hbD; have hgc := own_cell hO; have hgf := own_frz hO)
                     | (have hO := own_call (own_call (own_call (own_call (own_drew (own_new _ wide0 59)) hbA) hbX) hbM) hbD; have hgc := own_cell hO; have hgf := own_frz hO)
                     | skip)))
            all_goals go_wp2_with fail
            all_goals go_meet
            all_goals first
              | ((with_reducible refine ⟨_, rfl, Lib.hid (hall'.out _ _ hhD), Lib.hid ?_⟩); exact own_new _ _ _)
              | ((with_reducible refine ⟨_, rfl, Lib.hid (hset.out _ _ _ _ _ _ _ hhD (by omega)), Lib.hid ?_⟩); exact own_set (own_set (own_set (own_set (own_set hO 0 _) 1 _) 2 _) 3 _) 4 _)
          obtain ⟨c, rfl, HHe, HOw⟩ := hcut
          have ec := own_cell HOw.out
          clear hh0
          go_wp2_with fail
          refine (HTo.out _).mono ?_
          rintro e wt ⟨rfl, hbt⟩
          have HH2 := Lib.hid (hback.out _ (hcall.out _ _ HHe.out hbt))
          clear hbt ec
          unfold Pair
          have e1 := HH2.out.1.cell hlt
          rw [HF.out] at e1
          have HX2 := Lib.hid HH2.out.1; have HX3 := Lib.hid HH2.out.2
          obtain ⟨p1, p2⟩ := HPj.out
          have p3 := amt_iff.1 p2
          clear p2
          rcases p1 with p1 | p1
          · subst p1
            clear p3
            go_wp2_with fail
            exact ⟨⟨j + 1, by omega, by go_num, HX2, HX3⟩, by simp [intOf]; omega⟩
          · have q1 : (f != y) = true := by simp; omega
            have q2 : IntKind.i64.wrap (f - 1) = f - 1 := by rw [IntKind.wrap_i64]; omega
            have q3 : (f - 1 != y) = false := by simp; omega
            clear p1 p3
            go_wp2_with fail
            exact ⟨⟨j + 1, by omega, by go_num, HX2, HX3⟩, by simp [intOf]; omega⟩
        · obtain rfl : n = j := by omega
          go_wp2_with fail
          go_ret
          exact ⟨rfl, HB.out⟩
end Go.Proofs.Ytlnnbadfbcokaaa
