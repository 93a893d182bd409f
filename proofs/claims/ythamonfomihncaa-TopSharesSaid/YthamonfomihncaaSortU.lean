/- The library's stable sort: merging, where the first run is one place. The walk. -/
import Derived.WalkKit
import Derived.Outline
import Derived.Lib.Hide
import Derived.Handy
import Derived.Deep.QuietTactic
import Derived.BigQuiet
import Derived.BigRegion
import Derived.Test.YthamonfomihncaaSortW
namespace Go.Proofs.Ythamonfomihncaa
open Go.RowKit

set_option maxRecDepth 100000 in
set_option maxHeartbeats 2000000 in
theorem sym_one (g n ty hr gr : Nat) (r : Int → Int) (hn : n ≤ 1000) (h1 : hr ≠ g) (h2 : gr ≠ g) (f a m b : Nat) (d : Nat → Int) (w : World) (k1 : a < m) (k2 : m < b) (k3 : b ≤ n) (h : Row w g n ty d) (hq : Rests hr gr n r w) (hd : InR n d) (c1 : m - a = 1) :
    Calls Try.prog 73 #[.slice (some ⟨g, 0, none⟩) n n, .int .i64 a, .int .i64 m, .int .i64 b, fnV hr] w fun e w' => e = .returned (.tuple #[]) ∧ Row w' g n ty (sym (cR r) (f + 1) a m b d) ∧ Only g w w' := by
  have HW := Lib.hid h; have HQ := Lib.hid hq; have HDD := Lib.hid hd
  have HCV : Hid (∀ x y, decide (cvR r x y < 0) = cR r x y) := Lib.hid (fun x y => cvR_lt)
  clear h hq hd
  obtain ⟨D, hD⟩ : ∃ D, D = sym (cR r) (f + 1) a m b d := ⟨_, rfl⟩
  rw [← hD]
  have hD2 : D = shUp a (bsr (fun k => cR r (d k) (d a)) m b - 1 - a) d := by rw [hD, sym, if_pos c1]
  have HBD := bsr_bd (fun k => cR r (d k) (d a)) m b (by omega)
  have HB1 : Hid (∀ i j, i < j → cR r (d ((i + j) / 2)) (d a) = true → bsr (fun k => cR r (d k) (d a)) i j = bsr (fun k => cR r (d k) (d a)) ((i + j) / 2 + 1) j) := Lib.hid (fun i j g1 g2 => by rw [bsr, if_pos g1, if_pos g2])
  have HB2 : Hid (∀ i j, i < j → cR r (d ((i + j) / 2)) (d a) = false → bsr (fun k => cR r (d k) (d a)) i j = bsr (fun k => cR r (d k) (d a)) i ((i + j) / 2)) := Lib.hid (fun i j g1 g2 => by rw [bsr, if_pos g1, if_neg (by rw [g2]; simp)])
  have HB3 : Hid (∀ i j, ¬ i < j → bsr (fun k => cR r (d k) (d a)) i j = i) := Lib.hid (fun i j g1 => by rw [bsr, if_neg g1])
  have HU : Hid (∀ k, a ≤ k → shUp a (k + 1 - a) d = swp (shUp a (k - a) d) k (k + 1)) := Lib.hid (fun k hk => by
    obtain ⟨t, rfl⟩ : ∃ t, k = a + t := ⟨k - a, by omega⟩
    rw [show a + t + 1 - a = t + 1 by omega, show a + t - a = t by omega]; rfl)
  have HU0 : Hid (shUp a 0 d = d) := Lib.hid rfl
  have HUI : Hid (∀ t, a + t < n → InR n (shUp a t d)) := Lib.hid (fun t ht => by
    induction t with
    | zero => exact HDD.out
    | succ t iht => exact (iht (by omega)).swp (by omega) (by omega))
  generalize hZ : bsr (fun k => cR r (d k) (d a)) m b = Z at *
  generalize hbs : bsr (fun k => cR r (d k) (d a)) = Bs at *
  generalize hsh : shUp a = Sh at *
  have HD := Lib.hid hD2
  have HZ := Lib.hid hZ
  clear hD hD2 hbs hsh hZ
  have hm : m = a + 1 := by omega
  have hm2 : (m : Int) - (a : Int) = 1 := by omega
  unfold fnV
  go_enter Try.func73, Try.ntmps73
  go_wp2_with fail
  go_loopw [10, 11] (fun vi vj wr => ∃ i j : Nat, vi = .int .i64 i ∧ vj = .int .i64 j ∧ m ≤ i ∧ i ≤ j ∧ j ≤ b ∧ Hid (Row wr g n ty d) ∧ Hid (Only g w wr) ∧ Hid (Bs i j = Z)) (fun vi vj _ => (intOf vj - intOf vi).toNat)
  case atStart => exact ⟨m, b, by go_num, by go_num, by omega, by omega, by omega, HW, Lib.hid (Only.refl _ _), HZ⟩
  case round =>
    obtain ⟨i, j, rfl, rfl, i1, i2, i3, HR, HO, HB⟩ := hrel
    by_cases hlt : i < j
    · have hx : ((i : Int) + (j : Int)) / 2 = (((i + j) / 2 : Nat) : Int) := by omega
      have q0 : (i + j) / 2 < n := by omega
      have q1 := HR.out.cell q0
      have q2 := HR.out.cell (show a < n by omega)
      have HC := Lib.hid (fun W (hr' : Rests hr gr n r W) => cmpRow_any HDD.out q0 (show a < n by omega) hr')
      have HRs := Lib.hid (HQ.out.only HO.out h1 h2)
      have hcv := HCV.out (d ((i + j) / 2)) (d a)
      generalize cvR r (d ((i + j) / 2)) (d a) = v at *
      have j1 : (((i + j) / 2 : Nat) : Int) < (n : Int) := by omega
      have j2 : (0 : Int) ≤ (((i + j) / 2 : Nat) : Int) := by omega
      have j3 : (a : Int) < (n : Int) := by omega
      have j4 : (0 : Int) ≤ (a : Int) := by omega
      have j5 : i ≤ (i + j) / 2 ∧ (i + j) / 2 < j := by omega
      cases hc : cR r (d ((i + j) / 2)) (d a) with
      | true =>
        have iv : decide (v < 0) = true := by rw [hcv, hc]
        have hstep := HB1.out i j hlt hc
        rw [HB.out] at hstep
        have HSt := Lib.hid hstep
        clear hstep hc hcv
        generalize d ((i + j) / 2) = va at *
        generalize hh : (i + j) / 2 = h at *
        clear hh
        generalize d a = vb at *
        go_wp2_with fail
        go_quiet ((go_at_call 36; exact Calls.quiet_of (HC.out _ (HRs.out.drewN _))))
        go_wp2_with fail
        go_roundw
        case rel => exact ⟨h + 1, j, by go_num, rfl, by omega, by omega, by omega, HR, Lib.hid (HO.out.drewN _), Lib.hid HSt.out.symm⟩
        case measure => simp [intOf] <;> omega
      | false =>
        have iv : decide (v < 0) = false := by rw [hcv, hc]
        have hstep := HB2.out i j hlt hc
        rw [HB.out] at hstep
        have HSt := Lib.hid hstep
        clear hstep hc hcv
        generalize d ((i + j) / 2) = va at *
        generalize hh : (i + j) / 2 = h at *
        clear hh
        generalize d a = vb at *
        go_wp2_with fail
        go_quiet ((go_at_call 36; exact Calls.quiet_of (HC.out _ (HRs.out.drewN _))))
        go_wp2_with fail
        go_roundw
        case rel => exact ⟨i, h, rfl, by go_num, by omega, by omega, by omega, HR, Lib.hid (HO.out.drewN _), Lib.hid HSt.out.symm⟩
        case measure => simp [intOf] <;> omega
    · have hiz : i = Z := by rw [← HB3.out i j hlt]; exact HB.out
      have iz : a + 1 ≤ i := by omega
      subst hiz
      clear HB1 HB2 HB3 HB HZ
      go_wp2_with fail
      go_loopw [13] (fun vk wq => ∃ k : Nat, vk = .int .i64 k ∧ a ≤ k ∧ k ≤ i - 1 ∧ Hid (Row wq g n ty (Sh (k - a) d)) ∧ Hid (Only g w wq)) (fun vk _ => (i - intOf vk).toNat)
      case atStart => exact ⟨a, rfl, by omega, by omega, by rw [Nat.sub_self, HU0.out]; exact HR, HO⟩
      case round =>
        obtain ⟨k, rfl, hk1, hk2, HRq, HOq⟩ := hrel
        by_cases hl2 : k < i - 1
        · have l2 : (k : Int) < (i : Int) - 1 := by omega
          have e1 := HRq.out.cell (show k < n by omega)
          have e2 := HRq.out.cell (show k + 1 < n by omega)
          have f1 := HRq.out.frz k
          have f2 := HRq.out.frz (k + 1)
          have e3 := (HRq.out.set (show k < n by omega) (Sh (k - a) d (k + 1))).cell (show k + 1 < n by omega)
          have f3 := (HRq.out.set (show k < n by omega) (Sh (k - a) d (k + 1))).frz (k + 1)
          generalize upd (Sh (k - a) d) k (Sh (k - a) d (k + 1)) (k + 1) = vz at e3
          have hs := HRq.out.swap (show k < n by omega) (show k + 1 < n by omega)
          rw [← HU.out k hk1] at hs
          have HR2 := Lib.hid hs
          clear hs
          generalize Sh (k - a) d k = va at *
          generalize Sh (k - a) d (k + 1) = vb at *
          have n1 : IntKind.i64.wrap ((k : Int) + 1) = (k : Int) + 1 := by rw [IntKind.wrap_i64]; omega
          have n3 : ((k : Int) + 1).toNat = k + 1 := by omega
          have n5 : (k : Int) < (n : Int) := by omega
          have n6 : (k : Int) + 1 < (n : Int) := by omega
          have n7 : (0 : Int) ≤ (k : Int) := by omega
          have n8 : (0 : Int) ≤ (k : Int) + 1 := by omega
          go_wp2_with fail
          go_region
          go_wp2_with fail
          go_roundw
          case rel => exact ⟨k + 1, by go_num, by omega, by omega, HR2, Lib.hid ((HOq.out.drew.setCell _ _).setCell _ _)⟩
          case measure => simp [intOf] <;> omega
        · have l1 : ¬ (k : Int) < (i : Int) - 1 := by omega
          have et : k - a = i - 1 - a := by omega
          go_wp2_with fail
          refine bodyPost_ret (results_none Try.results73 _ _ _) rfl ⟨rfl, by rw [HD.out, ← et]; exact HRq.out, HOq.out⟩
end Go.Proofs.Ythamonfomihncaa
