/- Package tallageref01: Split, where an amount may be split: the parts, in a new block; memory that was there stays as it was. -/
import Derived.WalkKit
import Derived.Outline
import Derived.Lib.Hide
import Derived.Handy
import Derived.Deep.QuietTactic
import Derived.BigQuiet
import Derived.BigRegion
import Derived.Deep.RegionHeld3
import Derived.Deep.DeepCutAuto
import Derived.Test.YtlnnbadfbcokaaaRefSplit
namespace Go.Proofs.Ytlnnbadfbcokaaa
open Go.RowKit

/-- two rows of the call's own; what was there ahead of the call is as it was -/
structure Two (B g q n : Nat) (f1 f3 : Nat → Int) (w W : World) : Prop where
  out : Row W g n 2 f1
  rst : Row W q n 2 f3
  far : g ≠ q
  new : B ≤ g ∧ B ≤ q
  low : Below B w W
  size : B ≤ W.heap.size
theorem Two.call {B g q n : Nat} {f1 f3 : Nat → Int} {w W W' : World} (s : Two B g q n f1 f3 w W) (hb : Below W.heap.size W W') : Two B g q n f1 f3 w W' :=
  ⟨s.out.call hb, s.rst.call hb, s.far, s.new, s.low.trans (hb.mono s.size), Nat.le_trans s.size hb.size⟩
theorem Two.drew {B g q n : Nat} {f1 f3 : Nat → Int} {w W : World} (s : Two B g q n f1 f3 w W) : Two B g q n f1 f3 w W.drew := ⟨s.out, s.rst, s.far, s.new, below_drewN s.low 1, s.size⟩
theorem Two.drewN {B g q n : Nat} {f1 f3 : Nat → Int} {w W : World} (s : Two B g q n f1 f3 w W) (k : Nat) : Two B g q n f1 f3 w (W.drewN k) := ⟨s.out, s.rst, s.far, s.new, below_drewN s.low k, s.size⟩
theorem Two.alloc {B g q n : Nat} {f1 f3 : Nat → Int} {w W : World} (s : Two B g q n f1 f3 w W) (o : Obj) : Two B g q n f1 f3 w (W.alloc o) :=
  ⟨s.out.alloc o, s.rst.alloc o, s.far, s.new, s.low.alloc s.size o, Nat.le_trans s.size (by simp)⟩
theorem Two.set1 {B g q n : Nat} {f1 f3 : Nat → Int} {w W : World} (s : Two B g q n f1 f3 w W) {i : Nat} (hi : i < n) (v : Int) : Two B g q n (upd f1 i v) f3 w (W.setCell ⟨g, i, none⟩ (.int .i64 v)) :=
  ⟨s.out.set hi v, s.rst.far (Ne.symm s.far) _ _, s.far, s.new, s.low.setCell s.new.1 _, by simpa using s.size⟩
theorem Two.set3 {B g q n : Nat} {f1 f3 : Nat → Int} {w W : World} (s : Two B g q n f1 f3 w W) {i : Nat} (hi : i < n) (v : Int) : Two B g q n f1 (upd f3 i v) w (W.setCell ⟨q, i, none⟩ (.int .i64 v)) :=
  ⟨s.out.far s.far _ _, s.rst.set hi v, s.far, s.new, s.low.setCell s.new.2 _, by simpa using s.size⟩
theorem Two.other {B g q n : Nat} {f1 f3 : Nat → Int} {w W : World} (s : Two B g q n f1 f3 w W) {c : Nat} (h1 : g ≠ c) (h2 : q ≠ c) (h3 : B ≤ c) (i : Nat) (v : Value) : Two B g q n f1 f3 w (W.setCell ⟨c, i, none⟩ v) :=
  ⟨s.out.far h1 _ _, s.rst.far h2 _ _, s.far, s.new, s.low.setCell h3 _, by simpa using s.size⟩
theorem Two.other5 {B g q n : Nat} {f1 f3 : Nat → Int} {w W : World} (s : Two B g q n f1 f3 w W) {c : Nat} (h1 : g ≠ c) (h2 : q ≠ c) (h3 : B ≤ c) (v0 v1 v2 v3 v4 : Value) :
    Two B g q n f1 f3 w (((((W.setCell ⟨c, 0, none⟩ v0).setCell ⟨c, 1, none⟩ v1).setCell ⟨c, 2, none⟩ v2).setCell ⟨c, 3, none⟩ v3).setCell ⟨c, 4, none⟩ v4) :=
  ((((s.other h1 h2 h3 _ _).other h1 h2 h3 _ _).other h1 h2 h3 _ _).other h1 h2 h3 _ _).other h1 h2 h3 _ _

set_option maxRecDepth 100000 in
set_option maxHeartbeats 8000000 in
theorem refSplit_yes (a : Int) (b off cap : Nat) (xs : List Int) (w : World) (hbw : b < w.heap.size) (hc : ∀ k, k < xs.length → w.cell? ⟨b, off + k, none⟩ = some (.int .i64 (xs.getD k 0)))
    (hb : ∀ k, -9223372036854775808 ≤ xs.getD k 0 ∧ xs.getD k 0 ≤ 9223372036854775807) (ha : amt a = true) (h1 : 1 ≤ xs.length) (h64 : xs.length ≤ 64) (all : Int) (hs : sumR xs = (all, 0)) (hall : 1 ≤ all)
    (hall2 : all ≤ 4611686018427387904) (hx : ∀ k, k < xs.length → 0 ≤ xs.getD k 0) (hsum : sumF (fun k => xs.getD k 0) xs.length = all) :
    Calls Try.prog 35 #[.int .i64 a, .slice (some ⟨b, off, none⟩) xs.length cap] w (SplitTo xs.length (splF a all (fun k => xs.getD k 0) xs.length) w) := by
  have HA := Lib.hid ha
  have HS := Lib.hid (refSum_any b off cap xs w (fun _ => hbw) hc (by omega) hb)
  have HC : Hid (∀ W, Below w.heap.size w W → ∀ k, k < xs.length → W.cell? ⟨b, off + k, none⟩ = some (.int .i64 (xs.getD k 0))) := Lib.hid (fun W hB k hk => by rw [← hc k hk]; exact hB.cell (p := ⟨b, off + k, none⟩) hbw)
  rw [hs] at HS
  have hm6 := make_int64 xs.length (by omega)
  clear ha hc hb hs
  obtain ⟨x, hxd⟩ : ∃ x : Nat → Int, x = fun k => xs.getD k 0 := ⟨_, rfl⟩
  have hxd' : ∀ k, xs.getD k 0 = x k := fun k => by rw [hxd]
  simp only [hxd'] at HC hx hsum
  rw [← hxd]
  generalize hN : xs.length = n at *
  obtain ⟨a1, a2⟩ := amt_iff.1 HA.out
  have HX : Hid (∀ k, k < n → 0 ≤ x k ∧ x k ≤ all) := Lib.hid (fun k hk => ⟨hx k hk, by have := one_le_sum hx hk; rw [hsum] at this; exact this⟩)
  have HTold : Hid (∀ k, k < n → told (shr a all x k) = (shr a all x k, 0)) := Lib.hid (fun k hk => by
    have := shr_bd (a := a) hall (HX.out k hk).1 (HX.out k hk).2
    unfold told; rw [show amt (shr a all x k) = true from amt_iff.2 (by omega)]; rfl)
  have HP : Hid (∀ k, k ≤ n → min a 0 ≤ a - sumF (shr a all x) k ∧ a - sumF (shr a all x) k ≤ max a 0 + k) := Lib.hid (fun k hk => part_bd hall hx hsum hk)
  have HSB : Hid (∀ k, k < n → min a 0 ≤ shr a all x k ∧ shr a all x k ≤ max a 0) := Lib.hid (fun k hk => shr_bd hall (HX.out k hk).1 (HX.out k hk).2)
  have HSF : Hid (∀ k, sumF (shr a all x) (k + 1) = sumF (shr a all x) k + shr a all x k) := Lib.hid (fun k => rfl)
  have HSF0 : Hid (sumF (shr a all x) 0 = 0) := Lib.hid rfl
  have HF : Hid (splF a all x n = bmp (ordR a all x n) (shr a all x) (a - sumF (shr a all x) n).toNat) := Lib.hid rfl
  have HL : Hid (0 ≤ a - sumF (shr a all x) n ∧ a - sumF (shr a all x) n < n) := Lib.hid (left_bd a all x n hall hsum h1)
  have HT : Hid (Turn n (ordR a all x n)) := Lib.hid (turn_ord a all x n)
  have HPick : Hid (∀ t, t < n → bst (usd (ordR a all x n) (rst a all x) t) n = ordR a all x n t) := Lib.hid (fun t ht => pick_is _ _ n (turn_ord a all x n) (fun k hk => Int.emod_nonneg _ (by omega)) (srt_ord a all x n) t ht)
  have HCh : Hid (∀ k, k < n → ∃ (va vx vp : Value) (s : Bool) (d0 d1 d2 d3 : Int),
      (∀ W, Calls Try.prog 38 #[.int .i64 a] W fun e w' => e = .returned va ∧ Below W.heap.size W w') ∧
      (∀ W, Calls Try.prog 38 #[.int .i64 (x k)] W fun e w' => e = .returned vx ∧ Below W.heap.size W w') ∧
      (∀ W, Calls Try.prog 39 #[va, vx] W fun e w' => e = .returned vp ∧ Below W.heap.size W w') ∧
      (∀ W, Calls Try.prog 40 #[vp, .int .i64 all] W fun e w' => e = .returned (.tuple #[.agg #[.bool s, .int .u64 d0, .int .u64 d1, .int .u64 d2, .int .u64 d3], .int .i64 (rst a all x k)]) ∧ Below W.heap.size W w') ∧
      (∀ W, Calls Try.prog 41 #[.agg #[.bool s, .int .u64 d0, .int .u64 d1, .int .u64 d2, .int .u64 d3]] W fun e w' => e = Pair (shr a all x k, 0) ∧ Below W.heap.size W w')) := Lib.hid (fun k hk => by
    have h := share_chain a (x k) all (by omega) (by omega) (by have := (HX.out k hk); omega) (by have := (HX.out k hk); omega) hall hall2
    have e : told (a * x k / all) = (shr a all x k, 0) := HTold.out k hk
    rw [e] at h
    exact h)
  have HR0 : Hid (∀ k, k < n → 0 ≤ rst a all x k) := Lib.hid (fun k hk => Int.emod_nonneg _ (by omega))
  generalize splF a all x n = FF at *
  generalize ordR a all x n = O at *
  generalize shr a all x = sh at *
  generalize rst a all x = rs at *
  generalize sumF sh = Z at *
  clear hN hxd hxd' hx hsum HTold xs
  have ha1 : (all == 0) = false := by simp; omega
  go_enter Try.func35, Try.ntmps35
  go_wp2_with fail
  refine (isAmt_any a _).mono ?_
  rintro e w1 ⟨rfl, rfl⟩
  rw [HA.out]
  go_wp2_with fail
  go_loop [7] (fun vi => ∃ k : Nat, k ≤ n ∧ vi = .int .i64 k) (fun vi => n - (intOf vi).toNat)
  case atStart => exact ⟨0, by omega, rfl⟩
  case round =>
    obtain ⟨k, hk, rfl⟩ := hrel
    by_cases hlt : k < n
    · have e1 := HC.out w (Below.refl _ _) k hlt
      have hx0 := (HX.out k hlt).1
      generalize x k = xk at *
      have hx1 : ¬ xk < 0 := by omega
      go_wp2_with fail
      go_round
      case rel => exact ⟨k + 1, by omega, by go_num⟩
      case measure => simp [intOf]; omega
    · obtain rfl : n = k := by omega
      go_wp2_with fail
      refine HS.out.mono ?_
      rintro e w1 ⟨rfl, hb1⟩
      have HB1 := Lib.hid hb1
      have hz1 := hb1.size
      clear hb1 HS
      unfold Pair
      go_wp2_with fail
      have hh0 : Two w.heap.size w1.heap.size (w1.heap.size + 1) n (fun _ => 0) (fun _ => 0) w ((w1.alloc (.cells (rowC (fun _ => 0) n) 2)).alloc (.cells (rowC (fun _ => 0) n) 2)) :=
        ⟨own_alloc (own_new _ _ _) _, own_new_at _ _ _ _ (by simp), by omega, ⟨hz1, by omega⟩, (HB1.out.alloc hz1 _).alloc (by simp; omega) _, by simp; omega⟩
      have HH0 := Lib.hid hh0
      clear hh0 HB1 hm6
      generalize (w1.alloc (.cells (rowC (fun _ => 0) n) 2)).alloc (.cells (rowC (fun _ => 0) n) 2) = W0 at *
      generalize w1.heap.size + 1 = q at *
      generalize w1.heap.size = g at *
      go_loopw [12, 13] (fun vl vi wr => ∃ j : Nat, j ≤ n ∧ vi = .int .i64 j ∧ vl = .int .i64 (a - Z j) ∧ Hid (Two w.heap.size g q n (upTo sh j) (upTo rs j) w wr)) (fun _ vi _ => n - (intOf vi).toNat)
      case atStart => exact ⟨0, by omega, rfl, by rw [HSF0.out, Int.sub_zero], by rw [upTo_zero, upTo_zero]; exact HH0⟩
      case round =>
        obtain ⟨j, hj, rfl, rfl, HS⟩ := hrel
        clear HH0
        by_cases hlt : j < n
        · obtain ⟨va, vx, vp, s, d0, d1, d2, d3, c1, c2, c3, c4, c5⟩ := HCh.out j hlt
          have HOa := Lib.hid c1; have HOx := Lib.hid c2; have HMu := Lib.hid c3; have HDi := Lib.hid c4; have HTo := Lib.hid c5
          have HCj := Lib.hid (fun W hB => HC.out W hB j hlt)
          have HPj := Lib.hid (HP.out j (by omega)); have HPj2 := Lib.hid (HP.out (j + 1) (by omega))
          have hsf := HSF.out j
          have HSj := Lib.hid (HSB.out j hlt)
          clear c1 c2 c3 c4 c5
          have hup1 := upTo_succ sh j
          have hup2 := upTo_succ rs j
          have HUp1 := Lib.hid hup1; have HUp2 := Lib.hid hup2
          clear hup1 hup2
          generalize x j = xj at *
          generalize rs j = r at *
          generalize sh j = y at *
          have HSf := Lib.hid hsf
          clear hsf
          have i1 : (j : Int) < (n : Int) := by omega
          have i2 : (0 : Int) ≤ (j : Int) := by omega
          have hgl := own_lt HS.out.out
          have hql := own_lt HS.out.rst
          have hBl := HS.out.size
          obtain ⟨Held, hh0, hcall, hdrew, hall', hat, hlt', hset, hback⟩ : ∃ Held : World → Prop, Held wr ∧ Hid (∀ W W', Held W → Below W.heap.size W W' → Held W') ∧ Hid (∀ W, Held W → Held W.drew) ∧ Hid (∀ W o, Held W → Held (W.alloc o)) ∧
              Hid (∀ W, Held W → W.cell? ⟨b, off + j, none⟩ = some (.int .i64 xj)) ∧ Hid (∀ W, Held W → wr.heap.size ≤ W.heap.size) ∧
              Hid (∀ W c v0 v1 v2 v3 v4, Held W → wr.heap.size ≤ c → Held (((((W.setCell ⟨c, 0, none⟩ v0).setCell ⟨c, 1, none⟩ v1).setCell ⟨c, 2, none⟩ v2).setCell ⟨c, 3, none⟩ v3).setCell ⟨c, 4, none⟩ v4)) ∧
              Hid (∀ W, Held W → Two w.heap.size g q n (upTo sh j) (upTo rs j) w W) :=
            ⟨fun W => Two w.heap.size g q n (upTo sh j) (upTo rs j) w W ∧ wr.heap.size ≤ W.heap.size, ⟨HS.out, Nat.le_refl _⟩, Lib.hid (fun W W' h hb => ⟨h.1.call hb, Nat.le_trans h.2 hb.size⟩), Lib.hid (fun W h => ⟨h.1.drew, h.2⟩), Lib.hid (fun W o h => ⟨h.1.alloc o, Nat.le_trans h.2 (by simp)⟩),
              Lib.hid (fun W h => HCj.out W h.1.low), Lib.hid (fun W h => h.2), Lib.hid (fun W c v0 v1 v2 v3 v4 h hc => ⟨h.1.other5 (by omega) (by omega) (by omega) _ _ _ _ _, by simpa using h.2⟩), Lib.hid (fun W h => h.1)⟩
          clear HS hgl hql hBl hbw
          go_upto_region 18 with fail
          go_cut [14, 15] (fun v14 v15 wx => ∃ c : Nat, v14 = .pointer (some ⟨c, 0, none⟩) ∧ v15 = .int .i64 r ∧ Hid (Held wx) ∧ Hid (wr.heap.size ≤ c) ∧ Hid (Own wx c #[.bool s, .int .u64 d0, .int .u64 d1, .int .u64 d2, .int .u64 d3] 59))
          case first =>
            go_region_held3 (fun W => W.cell? ⟨b, off + j, none⟩ = some (.int .i64 xj))
              (first | with_reducible exact hat.out _ (by assumption) | with_reducible exact hat.out _ (hdrew.out _ (by assumption)) | with_reducible exact hat.out _ (hall'.out _ _ (by assumption)) | with_reducible exact hat.out _ (hdrew.out _ (hall'.out _ _ (by assumption))) | with_reducible exact hat.out _ (hset.out _ _ _ _ _ _ _ (by assumption) (by omega)) | with_reducible exact hat.out _ (hset.out _ _ _ _ _ _ _ (hall'.out _ _ (by assumption)) (by omega)))
              (first
                | (go_at_call 38; (with_reducible refine (HOa.out _).mono ?_); rintro e WA ⟨rfl, hbA⟩
                   (have hhA : Held WA := by first | with_reducible exact hcall.out _ _ hh0 hbA | with_reducible exact hcall.out _ _ (hdrew.out _ hh0) hbA | with_reducible exact hcall.out _ _ (hall'.out _ _ hh0) hbA | with_reducible exact hcall.out _ _ (hdrew.out _ (hall'.out _ _ hh0)) hbA)
                   have hlA := hlt'.out _ hhA)
                | (go_at_call 38; (with_reducible refine (HOx.out _).mono ?_); rintro e WX ⟨rfl, hbX⟩
                   (have hhX : Held WX := by first | with_reducible exact hcall.out _ _ hhA hbX | with_reducible exact hcall.out _ _ (hall'.out _ _ hhA) hbX)
                   have hlX := hlt'.out _ hhX)
                | (go_at_call 39; (with_reducible refine (HMu.out _).mono ?_); rintro e WM ⟨rfl, hbM⟩
                   (have hhM : Held WM := by first | with_reducible exact hcall.out _ _ hhX hbM | with_reducible exact hcall.out _ _ (hall'.out _ _ hhX) hbM)
                   have hlM := hlt'.out _ hhM)
                | (go_at_call 40; (with_reducible refine (HDi.out _).mono ?_); rintro e WD ⟨rfl, hbD⟩
                   (have hhD : Held WD := by first | with_reducible exact hcall.out _ _ hhM hbD | with_reducible exact hcall.out _ _ (hall'.out _ _ hhM) hbD)
                   have hlD := hlt'.out _ hhD
                   (first
                     | (have hO := own_call (own_new _ wide0 59) hbD; have hgc := own_cell hO; have hgf := own_frz hO)
                     | (have hO := own_call (own_call (own_new _ wide0 59) hbM) hbD; have hgc := own_cell hO; have hgf := own_frz hO)
                     | (have hO := own_call (own_call (own_call (own_new _ wide0 59) hbX) hbM) hbD; have hgc := own_cell hO; have hgf := own_frz hO)
                     | (have hO := own_call (own_call (own_call (own_call (own_new _ wide0 59) hbA) hbX) hbM) hbD; have hgc := own_cell hO; have hgf := own_frz hO)
                     | (have hO := own_call (own_call (own_call (own_call (own_drew (own_new _ wide0 59)) hbA) hbX) hbM) hbD; have hgc := own_cell hO; have hgf := own_frz hO)
                     | skip)))
            all_goals go_wp2_with fail
            all_goals go_meet
            all_goals first
              | ((with_reducible refine ⟨_, rfl, rfl, Lib.hid (hall'.out _ _ hhD), Lib.hid hlD, Lib.hid ?_⟩); exact own_new _ _ _)
              | ((with_reducible refine ⟨_, rfl, rfl, Lib.hid (hset.out _ _ _ _ _ _ _ hhD (by omega)), Lib.hid (by omega), Lib.hid ?_⟩); exact own_set (own_set (own_set (own_set (own_set hO 0 _) 1 _) 2 _) 3 _) 4 _)
          obtain ⟨c, rfl, rfl, HHe, HCl, HOw⟩ := hcut
          have ec := own_cell HOw.out
          clear hh0
          go_wp2_with fail
          refine (HTo.out _).mono ?_
          rintro e wt ⟨rfl, hbt⟩
          have HH2 := Lib.hid (hback.out _ (hcall.out _ _ HHe.out hbt))
          clear hbt ec
          unfold Pair
          have e1 := HH2.out.out.cell hlt
          have e2 := HH2.out.out.frz j
          have e3 := (HH2.out.set1 hlt y).rst.cell hlt
          have e4 := (HH2.out.set1 hlt y).rst.frz j
          have hs6 := (HH2.out.set1 hlt y).set3 hlt r
          rw [HUp1.out, HUp2.out] at hs6
          have HS6 := Lib.hid hs6
          have hpj := HPj2.out
          rw [HSf.out] at hpj
          have hpi := HPj.out
          have hsj := HSj.out
          have hw : IntKind.i64.wrap (a - Z j - y) = a - Z j - y := by rw [IntKind.wrap_i64]; omega
          have HFin := Lib.hid (show a - Z j - y = a - Z (j + 1) by rw [HSf.out]; omega)
          clear hs6 hpj hpi hsj
          go_wp2_with fail
          exact ⟨⟨j + 1, by omega, by go_num, by rw [HFin.out], HS6⟩, by simp [intOf]; omega⟩
        · obtain rfl : n = j := by omega
          obtain ⟨l, hl⟩ : ∃ l : Nat, a - Z n = l := ⟨(a - Z n).toNat, by have := HL.out; omega⟩
          have hln : l < n := by have := HL.out; omega
          rw [hl]
          have HLl := Lib.hid hl
          have HS2 : Hid (Two w.heap.size g q n (bmp O sh 0) (usd O rs 0) w wr) := Lib.hid ⟨HS.out.out.congr (fun i hi => upTo_at _ hi), HS.out.rst.congr (fun i hi => upTo_at _ hi), HS.out.far, HS.out.new, HS.out.low, HS.out.size⟩
          have HBM : Hid (∀ t, bmp O sh (t + 1) = upd (bmp O sh t) (O t).toNat (bmp O sh t (O t).toNat + 1)) := Lib.hid (fun t => rfl)
          have HUM : Hid (∀ t, usd O rs (t + 1) = upd (usd O rs t) (O t).toNat (-1)) := Lib.hid (fun t => rfl)
          have HBA : Hid (∀ t, t ≤ n → ∀ j, j < n → -4611686018427387904 ≤ bmp O sh t j ∧ bmp O sh t j ≤ 4611686018427387905) := Lib.hid (fun t ht j hj => by
            have := HSB.out j hj
            rcases bmp_at O sh n HT.out t ht j with e | ⟨e, _⟩ <;> rw [e] <;> omega)
          have HB0 : Hid (∀ s, bst s 0 = -1) := Lib.hid (fun s => rfl)
          have HBS : Hid (∀ s i, bst s (i + 1) = if 0 ≤ s i ∧ (bst s i < 0 ∨ s (bst s i).toNat < s i) then (i : Int) else bst s i) := Lib.hid (fun s i => rfl)
          have HBR : Hid (∀ s i, bst s i < 0 ∨ (0 ≤ bst s i ∧ bst s i < i)) := Lib.hid (fun s i => by rcases bst_is s i with h | h <;> omega)
          clear HS hl HCh HX HP HSB HSF HSF0 HC hlt HR0
          generalize bmp O sh = F at *
          generalize usd O rs = U at *
          go_wp2_with fail
          go_loopw [12] (fun vl wr => ∃ t : Nat, t ≤ l ∧ vl = .int .i64 ((l : Int) - t) ∧ Hid (Two w.heap.size g q n (F t) (U t) w wr)) (fun vl _ => (intOf vl).toNat)
          case atStart => exact ⟨0, by omega, by simp, HS2⟩
          case round =>
            obtain ⟨t, ht, rfl, HS⟩ := hrel
            clear HS2
            by_cases htl : t < l
            · have c0 : (0 : Int) < (l : Int) - t := by omega
              obtain ⟨wo, rfl⟩ : ∃ wo : World, wo = wr := ⟨_, rfl⟩
              have HPt := Lib.hid (HPick.out t (by omega))
              go_wp2_with fail
              go_loopw [18, 19] (fun vb vi wq => ∃ i : Nat, i ≤ n ∧ vi = .int .i64 i ∧ vb = .int .i64 (bst (U t) i) ∧ Hid (Two w.heap.size g q n (F t) (U t) w wq)) (fun _ vi _ => n - (intOf vi).toNat)
              case atStart => exact ⟨0, by omega, rfl, by rw [HB0.out], HS⟩
              case round =>
                obtain ⟨i, hi, rfl, rfl, HQ⟩ := hrel
                by_cases hin : i < n
                · have e1 := HQ.out.rst.cell hin
                  have hbs := HBS.out (U t) i
                  have hbr := HBR.out (U t) i
                  have i1 : (i : Int) < (n : Int) := by omega
                  have i2 : (0 : Int) ≤ (i : Int) := by omega
                  by_cases b0 : bst (U t) i < 0
                  · generalize bst (U t) i = be at *
                    generalize U t i = si at *
                    by_cases s0 : 0 ≤ si
                    · rw [if_pos ⟨s0, Or.inl b0⟩] at hbs
                      have HE := Lib.hid hbs
                      clear hbs hbr
                      go_wp2_with fail
                      go_quiet (fail)
                      go_wp2_with fail
                      exact ⟨⟨i + 1, by omega, by go_num, by rw [HE.out], Lib.hid (HQ.out.drewN _)⟩, by simp [intOf]; omega⟩
                    · rw [if_neg (fun h => s0 h.1)] at hbs
                      have HE := Lib.hid hbs
                      have s1 : decide (0 ≤ si) = false := by simpa using s0
                      clear hbs hbr s0
                      go_wp2_with fail
                      go_quiet (fail)
                      go_wp2_with fail
                      exact ⟨⟨i + 1, by omega, by go_num, by rw [HE.out], Lib.hid (HQ.out.drewN _)⟩, by simp [intOf]; omega⟩
                  · obtain ⟨m, hm⟩ : ∃ m : Nat, bst (U t) i = m := ⟨(bst (U t) i).toNat, by omega⟩
                    rw [hm] at hbs hbr
                    have hmi : m < i := by omega
                    have e2 := HQ.out.rst.cell (show m < n by omega)
                    have m1 : (m : Int) < (n : Int) := by omega
                    have m2 : (0 : Int) ≤ (m : Int) := by omega
                    rw [Int.toNat_natCast] at hbs
                    rw [hm]
                    have b1 : decide ((m : Int) < 0) = false := by simp
                    clear b0 hbr
                    generalize hsi : U t i = si at *
                    generalize hsm : U t m = sm at *
                    have HSm := Lib.hid hsm; have HSi := Lib.hid hsi
                    have HM := Lib.hid hm
                    clear hsi hsm hm
                    by_cases s0 : 0 ≤ si
                    · by_cases s2 : sm < si
                      · rw [if_pos ⟨s0, Or.inr s2⟩] at hbs
                        have HE := Lib.hid hbs
                        clear hbs
                        go_wp2_with fail
                        go_quiet (fail)
                        go_wp2_with fail
                        exact ⟨⟨i + 1, by omega, by go_num, by rw [HE.out], Lib.hid (HQ.out.drewN _)⟩, by simp [intOf]; omega⟩
                      · rw [if_neg (by rintro ⟨_, h | h⟩ <;> omega)] at hbs
                        have HE := Lib.hid hbs
                        have s3 : decide (sm < si) = false := by simpa using s2
                        clear hbs
                        go_wp2_with fail
                        go_quiet (fail)
                        go_wp2_with fail
                        exact ⟨⟨i + 1, by omega, by go_num, by rw [HE.out], Lib.hid (HQ.out.drewN _)⟩, by simp [intOf]; omega⟩
                    · rw [if_neg (fun h => s0 h.1)] at hbs
                      have HE := Lib.hid hbs
                      have s1 : decide (0 ≤ si) = false := by simpa using s0
                      clear hbs s0
                      go_wp2_with fail
                      go_quiet (fail)
                      go_wp2_with fail
                      exact ⟨⟨i + 1, by omega, by go_num, by rw [HE.out], Lib.hid (HQ.out.drewN _)⟩, by simp [intOf]; omega⟩
                · obtain rfl : n = i := by omega
                  have hto := HT.out.rng t (by omega)
                  obtain ⟨m, hm⟩ : ∃ m : Nat, O t = m := ⟨(O t).toNat, by omega⟩
                  have hmn : m < n := by omega
                  rw [HPt.out, hm]
                  have e1 := HQ.out.out.cell hmn
                  have e2 := HQ.out.out.frz m
                  have e3 := (HQ.out.set1 hmn (F t m + 1)).rst.cell hmn
                  have e4 := (HQ.out.set1 hmn (F t m + 1)).rst.frz m
                  have hs6 := (HQ.out.set1 hmn (F t m + 1)).set3 hmn (-1)
                  have hst := HBM.out t
                  have hsu := HUM.out t
                  rw [hm, Int.toNat_natCast] at hst hsu
                  rw [← hst, ← hsu] at hs6
                  have HS6 := Lib.hid hs6
                  have hba := HBA.out t (by omega) m hmn
                  have HM := Lib.hid hm
                  clear hs6 hst hsu hm hto HS
                  generalize F t m = v at *
                  generalize U t m = u at *
                  have m1 : (m : Int) < (n : Int) := by omega
                  have m2 : (0 : Int) ≤ (m : Int) := by omega
                  go_wp2_with fail
                  exact ⟨⟨t + 1, by omega, by push_cast; congr 1; omega, HS6⟩, by simp [intOf]; omega⟩
            · obtain rfl : l = t := by omega
              have c0 : ¬ (0 : Int) < (l : Int) - l := by omega
              go_wp2_with fail
              go_ret2
              exact ⟨g, rfl, by rw [HF.out, HLl.out, Int.toNat_natCast]; exact HS.out.out, HS.out.new.1, HS.out.low⟩
end Go.Proofs.Ytlnnbadfbcokaaa
