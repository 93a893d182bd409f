/- The library's stable sort: merging, where the second run is one place. The walk. -/
import Derived.WalkKit
import Derived.Outline
import Derived.Lib.Hide
import Derived.Handy
import Derived.Deep.QuietTactic
import Derived.BigQuiet
import Derived.BigRegion
import Derived.Test.YthamonfomihncaaSortW
namespace Go.Proofs.Ythamonfomihncaa
open Go.RowKit

set_option maxRecDepth 100000 in
set_option maxHeartbeats 2000000 in
theorem sym_two (g n ty hr gr : Nat) (r : Int → Int) (hn : n ≤ 1000) (h1 : hr ≠ g) (h2 : gr ≠ g) (f a m b : Nat) (d : Nat → Int) (w : World) (k1 : a < m) (k2 : m < b) (k3 : b ≤ n) (h : Row w g n ty d) (hq : Rests hr gr n r w) (hd : InR n d) (c1 : ¬ m - a = 1) (c2 : b - m = 1) :
    Calls Try.prog 73 #[.slice (some ⟨g, 0, none⟩) n n, .int .i64 a, .int .i64 m, .int .i64 b, fnV hr] w fun e w' => e = .returned (.tuple #[]) ∧ Row w' g n ty (sym (cR r) (f + 1) a m b d) ∧ Only g w w' := by
  have HW := Lib.hid h; have HQ := Lib.hid hq; have HDD := Lib.hid hd
  have HCV : Hid (∀ x y, decide (cvR r x y < 0) = cR r x y) := Lib.hid (fun x y => cvR_lt)
  clear h hq hd
  obtain ⟨D, hD⟩ : ∃ D, D = sym (cR r) (f + 1) a m b d := ⟨_, rfl⟩
  rw [← hD]
  have hD2 : D = shDn m (m - bsr (fun k => !cR r (d m) (d k)) a m) d := by rw [hD, sym, if_neg c1, if_pos c2]
  have HBD := bsr_bd (fun k => !cR r (d m) (d k)) a m (by omega)
  have HB1 : Hid (∀ i j, i < j → cR r (d m) (d ((i + j) / 2)) = false → bsr (fun k => !cR r (d m) (d k)) i j = bsr (fun k => !cR r (d m) (d k)) ((i + j) / 2 + 1) j) := Lib.hid (fun i j g1 g2 => by rw [bsr, if_pos g1, if_pos (by rw [g2]; rfl)])
  have HB2 : Hid (∀ i j, i < j → cR r (d m) (d ((i + j) / 2)) = true → bsr (fun k => !cR r (d m) (d k)) i j = bsr (fun k => !cR r (d m) (d k)) i ((i + j) / 2)) := Lib.hid (fun i j g1 g2 => by rw [bsr, if_pos g1, if_neg (by rw [g2]; simp)])
  have HB3 : Hid (∀ i j, ¬ i < j → bsr (fun k => !cR r (d m) (d k)) i j = i) := Lib.hid (fun i j g1 => by rw [bsr, if_neg g1])
  have HU : Hid (∀ k, k + 1 ≤ m → shDn m (m - k) d = swp (shDn m (m - (k + 1)) d) (k + 1) k) := Lib.hid (fun k hk => by
    obtain ⟨t, ht⟩ : ∃ t, m - (k + 1) = t := ⟨_, rfl⟩
    rw [ht, show m - k = t + 1 by omega]
    show swp (shDn m t d) (m - t) (m - t - 1) = _
    rw [show m - t = k + 1 by omega, show k + 1 - 1 = k by omega])
  have HU0 : Hid (shDn m 0 d = d) := Lib.hid rfl
  generalize hZ : bsr (fun k => !cR r (d m) (d k)) a m = Z at *
  generalize hbs : bsr (fun k => !cR r (d m) (d k)) = Bs at *
  generalize hsh : shDn m = Sh at *
  have HD := Lib.hid hD2
  have HZ := Lib.hid hZ
  clear hD hD2 hbs hsh hZ
  have hm : b = m + 1 := by omega
  have hm2 : (b : Int) - (m : Int) = 1 := by omega
  have hm3 : ((m : Int) - (a : Int) == 1) = false := by simp; omega
  unfold fnV
  go_enter Try.func73, Try.ntmps73
  go_wp2_with fail
  go_loopw [14, 15] (fun vi vj wr => ∃ i j : Nat, vi = .int .i64 i ∧ vj = .int .i64 j ∧ a ≤ i ∧ i ≤ j ∧ j ≤ m ∧ Hid (Row wr g n ty d) ∧ Hid (Only g w wr) ∧ Hid (Bs i j = Z)) (fun vi vj _ => (intOf vj - intOf vi).toNat)
  case atStart => exact ⟨a, m, by go_num, by go_num, by omega, by omega, by omega, HW, Lib.hid (Only.refl _ _), HZ⟩
  case round =>
    obtain ⟨i, j, rfl, rfl, i1, i2, i3, HR, HO, HB⟩ := hrel
    by_cases hlt : i < j
    · have hx : ((i : Int) + (j : Int)) / 2 = (((i + j) / 2 : Nat) : Int) := by omega
      have q0 : (i + j) / 2 < n := by omega
      have q1 := HR.out.cell q0
      have q2 := HR.out.cell (show m < n by omega)
      have HC := Lib.hid (fun W (hr' : Rests hr gr n r W) => cmpRow_any HDD.out (show m < n by omega) q0 hr')
      have HRs := Lib.hid (HQ.out.only HO.out h1 h2)
      have hcv := HCV.out (d m) (d ((i + j) / 2))
      generalize cvR r (d m) (d ((i + j) / 2)) = v at *
      have j1 : (((i + j) / 2 : Nat) : Int) < (n : Int) := by omega
      have j2 : (0 : Int) ≤ (((i + j) / 2 : Nat) : Int) := by omega
      have j3 : (m : Int) < (n : Int) := by omega
      have j4 : (0 : Int) ≤ (m : Int) := by omega
      have j5 : i ≤ (i + j) / 2 ∧ (i + j) / 2 < j := by omega
      cases hc : cR r (d m) (d ((i + j) / 2)) with
      | false =>
        have iv : decide (v < 0) = false := by rw [hcv, hc]
        have hstep := HB1.out i j hlt hc
        rw [HB.out] at hstep
        have HSt := Lib.hid hstep
        clear hstep hc hcv
        generalize d ((i + j) / 2) = va at *
        generalize hh : (i + j) / 2 = h at *
        clear hh
        generalize d m = vb at *
        go_wp2_with fail
        go_quiet ((go_at_call 36; exact Calls.quiet_of (HC.out _ (HRs.out.drewN _))))
        go_wp2_with fail
        go_roundw
        case rel => exact ⟨h + 1, j, by go_num, rfl, by omega, by omega, by omega, HR, Lib.hid (HO.out.drewN _), Lib.hid HSt.out.symm⟩
        case measure => simp [intOf] <;> omega
      | true =>
        have iv : decide (v < 0) = true := by rw [hcv, hc]
        have hstep := HB2.out i j hlt hc
        rw [HB.out] at hstep
        have HSt := Lib.hid hstep
        clear hstep hc hcv
        generalize d ((i + j) / 2) = va at *
        generalize hh : (i + j) / 2 = h at *
        clear hh
        generalize d m = vb at *
        go_wp2_with fail
        go_quiet ((go_at_call 36; exact Calls.quiet_of (HC.out _ (HRs.out.drewN _))))
        go_wp2_with fail
        go_roundw
        case rel => exact ⟨i, h, rfl, by go_num, by omega, by omega, by omega, HR, Lib.hid (HO.out.drewN _), Lib.hid HSt.out.symm⟩
        case measure => simp [intOf] <;> omega
    · have hiz : i = Z := by rw [← HB3.out i j hlt]; exact HB.out
      have iz : i ≤ m ∧ m < n := by omega
      subst hiz
      clear HB1 HB2 HB3 HB HZ
      go_wp2_with fail
      go_loopw [17] (fun vk wq => ∃ k : Nat, vk = .int .i64 k ∧ i ≤ k ∧ k ≤ m ∧ Hid (Row wq g n ty (Sh (m - k) d)) ∧ Hid (Only g w wq)) (fun vk _ => (intOf vk).toNat)
      case atStart => exact ⟨m, rfl, by omega, by omega, by rw [Nat.sub_self, HU0.out]; exact HR, HO⟩
      case round =>
        obtain ⟨k, rfl, hk1, hk2, HRq, HOq⟩ := hrel
        by_cases hl2 : i < k
        · obtain ⟨q, rfl⟩ : ∃ q, k = q + 1 := ⟨k - 1, by omega⟩
          have ec : ((q + 1 : Nat) : Int) = (q : Int) + 1 := by omega
          rw [ec]
          have l2 : (i : Int) < (q : Int) + 1 := by omega
          have e1 := HRq.out.cell (show q < n by omega)
          have e2 := HRq.out.cell (show q + 1 < n by omega)
          have f1 := HRq.out.frz q
          have f2 := HRq.out.frz (q + 1)
          have e3 := (HRq.out.set (show q + 1 < n by omega) (Sh (m - (q + 1)) d q)).cell (show q < n by omega)
          have f3 := (HRq.out.set (show q + 1 < n by omega) (Sh (m - (q + 1)) d q)).frz q
          generalize upd (Sh (m - (q + 1)) d) (q + 1) (Sh (m - (q + 1)) d q) q = vz at e3
          have hs := HRq.out.swap (show q + 1 < n by omega) (show q < n by omega)
          rw [← HU.out q hk2] at hs
          have HR2 := Lib.hid hs
          clear hs
          generalize Sh (m - (q + 1)) d q = va at *
          generalize Sh (m - (q + 1)) d (q + 1) = vb at *
          have n1 : IntKind.i64.wrap ((q : Int) + 1 - 1) = (q : Int) := by rw [IntKind.wrap_i64]; omega
          have n2 : IntKind.i64.wrap (q : Int) = (q : Int) := by rw [IntKind.wrap_i64]; omega
          have n3 : ((q : Int) + 1).toNat = q + 1 := by omega
          have n5 : (q : Int) < (n : Int) := by omega
          have n6 : (q : Int) + 1 < (n : Int) := by omega
          have n7 : (0 : Int) ≤ (q : Int) := by omega
          have n8 : (0 : Int) ≤ (q : Int) + 1 := by omega
          go_wp2_with fail
          go_region
          go_wp2_with fail
          go_roundw
          case rel => exact ⟨q, by go_num, by omega, by omega, HR2, Lib.hid ((HOq.out.drew.setCell _ _).setCell _ _)⟩
          case measure => simp [intOf] <;> omega
        · have l1 : ¬ (i : Int) < (k : Int) := by omega
          have et : k = i := by omega
          go_wp2_with fail
          refine bodyPost_ret (results_none Try.results73 _ _ _) rfl ⟨rfl, by rw [HD.out, ← et]; exact HRq.out, HOq.out⟩
end Go.Proofs.Ythamonfomihncaa
