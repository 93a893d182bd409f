/- The library's stable sort, whole: at a row of places, by the comparison of num.Split. The walk. -/
import Derived.WalkKit
import Derived.Outline
import Derived.Lib.Hide
import Derived.Handy
import Derived.Deep.QuietTactic
import Derived.BigQuiet
import Derived.BigRegion
import Derived.Test.YthamonfomihncaaSortY
namespace Go.Proofs.Ythamonfomihncaa
open Go.RowKit

theorem sym_any (g n ty hr gr : Nat) (r : Int → Int) (hn : n ≤ 1000) (h1 : hr ≠ g) (h2 : gr ≠ g) : ∀ (f a m b : Nat) (d : Nat → Int) (w : World), b - a ≤ f → a < m → m < b → b ≤ n → Row w g n ty d → Rests hr gr n r w → InR n d →
    Calls Try.prog 73 #[.slice (some ⟨g, 0, none⟩) n n, .int .i64 a, .int .i64 m, .int .i64 b, .func (Fn.func 36) #[] #[.pointer (some ⟨hr, 0, none⟩)]] w fun e w' => e = .returned (.tuple #[]) ∧ Row w' g n ty (sym (cR r) f a m b d) ∧ Only g w w'
  | 0, _, _, _, _, _, h0, k1, k2, _, _, _, _ => absurd h0 (by omega)
  | f + 1, a, m, b, d, w, h0, k1, k2, k3, h, hq, hd => by
    by_cases c1 : m - a = 1
    · exact sym_one g n ty hr gr r hn h1 h2 f a m b d w k1 k2 k3 h hq hd c1
    · by_cases c2 : b - m = 1
      · exact sym_two g n ty hr gr r hn h1 h2 f a m b d w k1 k2 k3 h hq hd c1 c2
      · exact sym_big g n ty hr gr r hn h1 h2 f (sym_any g n ty hr gr r hn h1 h2 f) a m b d w h0 k1 k2 k3 h hq hd c1 c2

set_option maxRecDepth 100000 in
set_option maxHeartbeats 2000000 in
theorem stable_any (g n ty hr gr : Nat) (r : Int → Int) (d : Nat → Int) (w : World) (hn : n ≤ 1000) (h : Row w g n ty d) (hq : Rests hr gr n r w) (h1 : hr ≠ g) (h2 : gr ≠ g) (hd : InR n d) :
    Calls Try.prog 57 #[.slice (some ⟨g, 0, none⟩) n n, .int .i64 n, .func (Fn.func 36) #[] #[.pointer (some ⟨hr, 0, none⟩)]] w fun e w' => e = .returned (.tuple #[]) ∧ Row w' g n ty (stab (cR r) n d) ∧ Only g w w' := by
  obtain ⟨D, hD⟩ : ∃ D, D = stab (cR r) n d := ⟨_, rfl⟩
  rw [← hD]
  have HDm : Hid (merges (cR r) n 20 (blocks (cR r) n 0 d) = D) := Lib.hid (by rw [hD]; rfl)
  have HBl : Hid (∀ a e, a + 20 ≤ n → blocks (cR r) n a e = blocks (cR r) n (a + 20) (insTo (cR r) a 19 e)) := Lib.hid (fun a e g => by rw [blocks, if_pos g])
  have HBe : Hid (∀ a e, ¬ a + 20 ≤ n → blocks (cR r) n a e = insTo (cR r) a (n - a - 1) e) := Lib.hid (fun a e g => by rw [blocks, if_neg g])
  have HMr : Hid (∀ s e, 0 < s → s < n → merges (cR r) n s e = merges (cR r) n (2 * s) (pass (cR r) n s 0 e)) := Lib.hid (fun s e g1 g2 => by rw [merges, if_pos ⟨g1, g2⟩])
  have HMe : Hid (∀ s e, ¬ s < n → merges (cR r) n s e = e) := Lib.hid (fun s e g => by rw [merges, if_neg (by omega)])
  have HPr : Hid (∀ s a e, 0 < s → a + 2 * s ≤ n → pass (cR r) n s a e = pass (cR r) n s (a + 2 * s) (sym (cR r) (2 * s) a (a + s) (a + 2 * s) e)) := Lib.hid (fun s a e g1 g2 => by rw [pass, if_pos ⟨g1, g2⟩])
  have HPm : Hid (∀ s a e, ¬ a + 2 * s ≤ n → a + s < n → pass (cR r) n s a e = sym (cR r) (n - a) a (a + s) n e) := Lib.hid (fun s a e g1 g2 => by rw [pass, if_neg (by omega), if_pos g2])
  have HPe : Hid (∀ s a e, ¬ a + 2 * s ≤ n → ¬ a + s < n → pass (cR r) n s a e = e) := Lib.hid (fun s a e g1 g2 => by rw [pass, if_neg (by omega), if_neg g2])
  have HIn := Lib.hid (fun a b e W hrow hrest (hin : InR n e) (hb : b ≤ n) (ha : a ≤ n) => (insertion_any g n ty hr gr a b r e W hn hrow hrest h1 h2 hin hb ha).mono (R' := fun ee w' => (ee = .returned (.tuple #[]) ∧ Row w' g n ty (insTo (cR r) a (b - a - 1) e) ∧ Only g W w') ∧ InR n (insTo (cR r) a (b - a - 1) e)) (fun _ _ hh => ⟨hh, hin.same (same_insTo (cR r) n a _ e (by omega))⟩))
  have HSy := Lib.hid (fun f a m b e W q1 q2 q3 q4 hrow hrest (hin : InR n e) => (sym_any g n ty hr gr r hn h1 h2 f a m b e W q1 q2 q3 q4 hrow hrest hin).mono (R' := fun ee w' => (ee = .returned (.tuple #[]) ∧ Row w' g n ty (sym (cR r) f a m b e) ∧ Only g W w') ∧ InR n (sym (cR r) f a m b e)) (fun _ _ hh => ⟨hh, hin.same (same_sym (cR r) n f a m b e q2 q3 q4)⟩))
  unfold fnV at HIn
  have HW := Lib.hid h; have HQ := Lib.hid hq; have HDD := Lib.hid hd
  clear h hq hd hD
  generalize hBk : blocks (cR r) n = Bk at *
  generalize hMg : merges (cR r) n = Mg at *
  generalize hPs : pass (cR r) n = Ps at *
  clear hBk hMg hPs
  generalize hD1 : Bk 0 d = D1 at *
  have HD1 := Lib.hid hD1
  clear hD1
  go_enter Try.func57, Try.ntmps57
  go_wp2_with fail
  go_loopw [7, 8] (fun va vb wr => ∃ (a : Nat) (e : Nat → Int), va = .int .i64 a ∧ vb = .int .i64 (a + 20) ∧ a ≤ n ∧ Hid (Row wr g n ty e) ∧ Hid (Only g w wr) ∧ Hid (InR n e) ∧ Hid (Bk a e = D1)) (fun va _ _ => (n + 20 - intOf va).toNat)
  case atStart => exact ⟨0, d, by go_num, by go_num, by omega, HW, Lib.hid (Only.refl _ _), HDD, HD1⟩
  case round =>
    obtain ⟨a, e, rfl, rfl, ha, HR, HO, HI, HB⟩ := hrel
    by_cases hlt : a + 20 ≤ n
    · have l1 : (a : Int) + 20 ≤ (n : Int) := by omega
      have ec : (a : Int) + 20 = ((a + 20 : Nat) : Int) := by omega
      have hstep := HBl.out a e hlt
      rw [HB.out] at hstep
      have HSt := Lib.hid hstep
      clear hstep
      have hcal := HIn.out a (a + 20) e wr HR.out (HQ.out.only HO.out h1 h2) HI.out (by omega) (by omega)
      rw [← ec] at hcal
      have HCal := Lib.hid hcal
      clear hcal ec
      go_wp2_with fail
      refine HCal.out.mono ?_
      rintro ee w' ⟨⟨rfl, hr', ho'⟩, hi'⟩
      rw [show a + 20 - a - 1 = 19 by omega] at hr' hi'
      have HRn := Lib.hid hr'; have HOn := Lib.hid (HO.out.trans ho'); have HI2 := Lib.hid hi'
      clear hr' ho' hi'
      go_wp2_with fail
      go_roundw
      case rel => exact ⟨a + 20, _, by go_num, by go_num, by omega, HRn, HOn, HI2, Lib.hid HSt.out.symm⟩
      case measure => simp [intOf] <;> omega
    · have l1 : ¬ (a : Int) + 20 ≤ (n : Int) := by omega
      have hstep := HBe.out a e hlt
      rw [HB.out] at hstep
      have HSt := Lib.hid hstep
      clear hstep
      go_wp2_with fail
      refine (HIn.out a n e _ HR.out (HQ.out.only HO.out h1 h2) HI.out (by omega) (by omega)).mono ?_
      rintro ee w1 ⟨⟨rfl, hr', ho'⟩, hi'⟩
      rw [← HSt.out] at hr' hi'
      have HR1 := Lib.hid hr'; have HO1 := Lib.hid (HO.out.trans ho'); have HI1 := Lib.hid hi'
      clear hr' ho' hi' HR HO HI HB HSt HBl HBe
      go_wp2_with fail
      go_loopw [6] (fun vs wq => ∃ (S : Nat) (e : Nat → Int), vs = .int .i64 S ∧ 20 ≤ S ∧ S ≤ 2000 ∧ Hid (Row wq g n ty e) ∧ Hid (Only g w wq) ∧ Hid (InR n e) ∧ Hid (Mg S e = D)) (fun vs _ => (n - intOf vs).toNat)
      case atStart => exact ⟨20, D1, rfl, by omega, by omega, HR1, HO1, HI1, HDm⟩
      case round =>
        obtain ⟨S, e, rfl, hS1, hS2, HR, HO, HI, HM⟩ := hrel
        by_cases hlt : S < n
        · have l2 : (S : Int) < (n : Int) := by omega
          have hstep := HMr.out S e (by omega) hlt
          rw [HM.out] at hstep
          have HSt := Lib.hid hstep
          clear hstep
          go_wp2_with fail
          go_loopw [7, 8] (fun va vb wt => ∃ (a : Nat) (x : Nat → Int), va = .int .i64 a ∧ vb = .int .i64 (a + 2 * S) ∧ a ≤ n ∧ Hid (Row wt g n ty x) ∧ Hid (Only g w wt) ∧ Hid (InR n x) ∧ Hid (Ps S a x = Ps S 0 e)) (fun va _ _ => (n + 1 - intOf va).toNat)
          case atStart => exact ⟨0, e, by go_num, by go_num, by omega, HR, HO, HI, Lib.hid rfl⟩
          case round =>
            obtain ⟨a, x, rfl, rfl, ha, HRx, HOx, HIx, HPx⟩ := hrel
            by_cases hl3 : a + 2 * S ≤ n
            · have l3 : (a : Int) + 2 * (S : Int) ≤ (n : Int) := by omega
              have hst := HPr.out S a x (by omega) hl3
              rw [HPx.out] at hst
              have HS3 := Lib.hid hst
              have hcal := HSy.out (2 * S) a (a + S) (a + 2 * S) x wr (by omega) (by omega) (by omega) (by omega) HRx.out (HQ.out.only HOx.out h1 h2) HIx.out
              rw [show ((a + S : Nat) : Int) = (a : Int) + (S : Int) by omega, show ((a + 2 * S : Nat) : Int) = (a : Int) + 2 * (S : Int) by omega] at hcal
              have HCal := Lib.hid hcal
              clear hst hcal
              go_wp2_with fail
              refine HCal.out.mono ?_
              rintro ee w' ⟨⟨rfl, hr', ho'⟩, hi'⟩
              have HRn := Lib.hid hr'; have HOn := Lib.hid (HOx.out.trans ho'); have HI2 := Lib.hid hi'
              clear hr' ho' hi'
              go_wp2_with fail
              go_roundw
              case rel => exact ⟨a + 2 * S, _, by go_num, by go_num, by omega, HRn, HOn, HI2, Lib.hid HS3.out.symm⟩
              case measure => simp [intOf] <;> omega
            · have l3 : ¬ (a : Int) + 2 * (S : Int) ≤ (n : Int) := by omega
              by_cases hl4 : a + S < n
              · have l4 : (a : Int) + (S : Int) < (n : Int) := by omega
                have hst := HPm.out S a x hl3 hl4
                rw [HPx.out] at hst
                have HS3 := Lib.hid hst
                have hcal := HSy.out (n - a) a (a + S) n x wr (by omega) (by omega) (by omega) (by omega) HRx.out (HQ.out.only HOx.out h1 h2) HIx.out
                rw [show ((a + S : Nat) : Int) = (a : Int) + (S : Int) by omega] at hcal
                have HCal := Lib.hid hcal
                clear hst hcal
                go_wp2_with fail
                refine HCal.out.mono ?_
                rintro ee w' ⟨⟨rfl, hr', ho'⟩, hi'⟩
                rw [← HS3.out] at hr' hi'
                have HRn := Lib.hid hr'; have HOn := Lib.hid (HOx.out.trans ho'); have HI2 := Lib.hid hi'
                clear hr' ho' hi'
                go_wp2_with fail
                go_roundw
                case rel => exact ⟨2 * S, _, by go_num, by omega, by omega, HRn, HOn, HI2, Lib.hid HSt.out.symm⟩
                case measure => simp [intOf] <;> omega
              · have l4 : ¬ (a : Int) + (S : Int) < (n : Int) := by omega
                have hst := HPe.out S a x hl3 hl4
                rw [HPx.out] at hst
                have HS3 : Hid (Mg (2 * S) x = D) := Lib.hid (by rw [← hst]; exact HSt.out.symm)
                clear hst
                go_wp2_with fail
                go_roundw
                case rel => exact ⟨2 * S, x, by go_num, by omega, by omega, HRx, HOx, HIx, HS3⟩
                case measure => simp [intOf] <;> omega
        · have l2 : ¬ (S : Int) < (n : Int) := by omega
          have he : e = D := by rw [← HMe.out S e hlt]; exact HM.out
          have HE2 := Lib.hid he
          clear he
          go_wp2_with fail
          refine bodyPost_end (results_none Try.results57 _ _ _) rfl ⟨rfl, by rw [← HE2.out]; exact HR.out, HO.out⟩

set_option maxRecDepth 100000 in
set_option maxHeartbeats 1000000 in
theorem sortStable_any (g n ty hr gr : Nat) (r : Int → Int) (d : Nat → Int) (w : World) (hn : n ≤ 1000) (h : Row w g n ty d) (hq : Rests hr gr n r w) (h1 : hr ≠ g) (h2 : gr ≠ g) (hd : InR n d) :
    Calls Try.prog 35 #[.slice (some ⟨g, 0, none⟩) n n, .func (Fn.func 36) #[] #[.pointer (some ⟨hr, 0, none⟩)]] w fun e w' => e = .returned (.tuple #[]) ∧ Row w' g n ty (stab (cR r) n d) ∧ Only g w w' := by
  have HS := Lib.hid (stable_any g n ty hr gr r d w hn h hq h1 h2 hd)
  clear h hq hd
  go_enter Try.func35, Try.ntmps35
  go_wp2_with fail
  refine HS.out.mono ?_
  rintro e w' ⟨rfl, hr', ho'⟩
  have HR' := Lib.hid hr'; have HO' := Lib.hid ho'
  clear hr' ho'
  go_wp2_with fail
  refine bodyPost_end (results_none Try.results35 _ _ _) rfl ⟨rfl, HR'.out, HO'.out⟩
end Go.Proofs.Ythamonfomihncaa
