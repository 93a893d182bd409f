/- The library's stable sort: rotation, merging, the whole. The walk. -/
import Derived.WalkKit
import Derived.Outline
import Derived.Lib.Hide
import Derived.Handy
import Derived.Deep.QuietTactic
import Derived.BigQuiet
import Derived.BigRegion
import Derived.Test.YthamonfomihncaaSortW
namespace Go.Proofs.Ythamonfomihncaa
open Go.RowKit

set_option maxRecDepth 100000 in
set_option maxHeartbeats 1000000 in
theorem rotate_any (g n ty a m b : Nat) (F : Value) (d : Nat → Int) (w : World) (hn : n ≤ 1000) (h : Row w g n ty d) (h1 : a < m) (h2 : m < b) (h3 : b ≤ n) :
    Calls Try.prog 84 #[.slice (some ⟨g, 0, none⟩) n n, .int .i64 a, .int .i64 m, .int .i64 b, F] w fun e w' => e = .returned (.tuple #[]) ∧ Row w' g n ty (rot m (m - a) (b - m) d) ∧ Only g w w' := by
  have HE : Hid (∀ i e, 0 < i → rot m i i e = swr (m - i) m i e) := Lib.hid (fun i e _ => by rw [rot, if_pos (.inl rfl), Nat.min_self])
  have HG : Hid (∀ i j e, 0 < j → j < i → rot m i j e = rot m (i - j) j (swr (m - i) m j e)) := Lib.hid (fun i j e g1 g2 => by rw [rot, if_neg (by omega), if_pos g2])
  have HL : Hid (∀ i j e, 0 < i → i < j → rot m i j e = rot m i (j - i) (swr (m - i) (m + j - i) i e)) := Lib.hid (fun i j e g1 g2 => by rw [rot, if_neg (by omega), if_neg (by omega)])
  have HSW := Lib.hid (fun a b t e W h ha hb => swr_any g n ty a b t F e W hn h ha hb)
  have HW := Lib.hid h
  clear h
  obtain ⟨D, hD⟩ : ∃ D, D = rot m (m - a) (b - m) d := ⟨_, rfl⟩
  rw [← hD]
  have HD := Lib.hid hD
  clear hD
  generalize hrot : rot m = Rt at *
  clear hrot
  go_enter Try.func84, Try.ntmps84
  go_wp2_with fail
  go_loopw [10, 11] (fun vi vj wr => ∃ (i j : Nat) (e : Nat → Int), vi = .int .i64 i ∧ vj = .int .i64 j ∧ 0 < i ∧ 0 < j ∧ i ≤ m ∧ m + j ≤ n ∧ Hid (Row wr g n ty e) ∧ Hid (Only g w wr) ∧ Hid (Rt i j e = D)) (fun vi vj _ => (intOf vi + intOf vj).toNat)
  case atStart => exact ⟨m - a, b - m, d, by go_num, by go_num, by omega, by omega, by omega, by omega, HW, Lib.hid (Only.refl _ _), Lib.hid HD.out.symm⟩
  case round =>
    obtain ⟨i, j, e, rfl, rfl, i0, j0, im, jn, HR, HO, HDe⟩ := hrel
    by_cases c1 : i = j
    · subst c1
      have hx : (m : Int) - (i : Int) = ((m - i : Nat) : Int) := by omega
      have hfin := HE.out i e i0
      rw [HDe.out] at hfin
      have HF := Lib.hid hfin
      clear hfin
      go_wp2_with fail
      refine (HSW.out _ _ _ _ _ HR.out (by omega) (by omega)).mono ?_
      rintro ee w' ⟨rfl, hr', ho'⟩
      rw [← HF.out] at hr'
      have HR' := Lib.hid hr'; have HO' := Lib.hid ho'
      clear hr' ho'
      go_wp2_with fail
      refine bodyPost_end (results_none Try.results84 _ _ _) rfl ⟨rfl, HR'.out, HO.out.trans HO'.out⟩
    · have b1 : ((i : Int) != (j : Int)) = true := by simp; omega
      by_cases c2 : j < i
      · have hx : (m : Int) - (i : Int) = ((m - i : Nat) : Int) := by omega
        have hstep := HG.out i j e j0 c2
        rw [HDe.out] at hstep
        have HF := Lib.hid hstep
        have l1 : (j : Int) < (i : Int) := by omega
        clear hstep
        go_wp2_with fail
        refine (HSW.out _ _ _ _ _ HR.out (by omega) (by omega)).mono ?_
        rintro ee w' ⟨rfl, hr', ho'⟩
        have HR' := Lib.hid hr'; have HO' := Lib.hid ho'
        clear hr' ho'
        go_wp2_with fail
        go_roundw
        case rel => exact ⟨i - j, j, _, by go_num, by go_num, by omega, by omega, by omega, by omega, HR', Lib.hid (HO.out.trans HO'.out), Lib.hid HF.out.symm⟩
        case measure => simp [intOf] <;> omega
      · have hx : (m : Int) - (i : Int) = ((m - i : Nat) : Int) := by omega
        have hy : (m : Int) + (j : Int) - (i : Int) = ((m + j - i : Nat) : Int) := by omega
        have hstep := HL.out i j e i0 (by omega)
        rw [HDe.out] at hstep
        have HF := Lib.hid hstep
        have l1 : ¬ (j : Int) < (i : Int) := by omega
        clear hstep
        go_wp2_with fail
        refine (HSW.out _ _ _ _ _ HR.out (by omega) (by omega)).mono ?_
        rintro ee w' ⟨rfl, hr', ho'⟩
        have HR' := Lib.hid hr'; have HO' := Lib.hid ho'
        clear hr' ho'
        go_wp2_with fail
        go_roundw
        case rel => exact ⟨i, j - i, _, by go_num, by go_num, by omega, by omega, by omega, by omega, HR', Lib.hid (HO.out.trans HO'.out), Lib.hid HF.out.symm⟩
        case measure => simp [intOf] <;> omega
end Go.Proofs.Ythamonfomihncaa
