/- The reference's wide numbers: Div: what it answers; memory that was there stays as it was. -/
import Derived.WalkKit
import Derived.Outline
import Derived.Lib.Hide
import Derived.Deep.QuietTactic
import Derived.BigQuiet
import Derived.Handy
import Derived.Deep.CutBlock
import Derived.Test.YtcjkofgbijdkcaaWideC
import Derived.Test.YtcjkofgbijdkcaaWideE
namespace Go.Proofs.Ytcjkofgbijdkcaa
open Go.RowKit

set_option maxHeartbeats 6400000 in
theorem wdiv_any (s : Bool) (n c : Int) (w : World) (n0 : 0 ≤ n) (n1 : n < 340282366920938463463374607431768211456) (c0 : 1 ≤ c) (c1 : c ≤ 4611686018427387904) :
    Calls Try.prog 34 #[Wide s n, .int .i64 c] w fun e w' => e = .returned (.tuple #[Wide (divW s n c).1.1 (divW s n c).1.2, .int .i64 (divW s n c).2]) ∧ Below w.heap.size w w' := by
  obtain ⟨R, hR⟩ : ∃ R, R = Value.tuple #[Wide (divW s n c).1.1 (divW s n c).1.2, .int .i64 (divW s n c).2] := ⟨_, rfl⟩
  rw [← hR]
  have HR := Lib.hid hR; clear hR
  have bn := dig_bd n
  have ho := fun W => of_neg (-1) W (by omega) (by omega)
  have ha := wadd_same true
  rw [show (-(-1) : Int) = 1 from rfl] at ho
  unfold Wide
  generalize hx0 : dig0 n = a0 at *
  generalize hx1 : dig1 n = a1 at *
  generalize hx2 : dig2 n = a2 at *
  generalize hx3 : dig3 n = a3 at *
  obtain ⟨⟨p1, p2⟩, ⟨p3, p4⟩, ⟨p5, p6⟩, ⟨p7, p8⟩⟩ := bn
  have HX := Lib.hid (And.intro hx0 (And.intro hx1 (And.intro hx2 hx3)))
  have HO := Lib.hid ho
  have HA := Lib.hid ha
  clear hx0 hx1 hx2 hx3 ho ha
  go_enter Try.func34, Try.ntmps34
  go_wp2_with fail
  go_loopw [7, 8] (fun vr vi wr => ∃ i r Q : Int, vr = .int .u64 r ∧ vi = .int .i64 i ∧ -1 ≤ i ∧ i ≤ 127 ∧ 0 ≤ r ∧ r < c ∧ Hid (DivInv n c i r Q) ∧
    wr = ((w.alloc (.cells #[.bool s, .int .u64 a0, .int .u64 a1, .int .u64 a2, .int .u64 a3] 59)).alloc (.cells #[.bool false, .int .u64 0, .int .u64 0, .int .u64 0, .int .u64 0] 59)).alloc
      (.cells #[.int .u64 (dig0 Q), .int .u64 (dig1 Q), .int .u64 (dig2 Q), .int .u64 (dig3 Q)] 57)) (fun _ vi _ => (intOf vi + 1).toNat)
  case atStart =>
    exact ⟨127, 0, 0, rfl, rfl, by omega, by omega, by omega, by omega, Lib.hid (divInv_start n0 n1), rfl⟩
  case round =>
    obtain ⟨i, r, Q, rfl, rfl, i0, i1, r0, r1, hI, rfl⟩ := hrel
    by_cases hi : 0 ≤ i
    · by_cases h0 : i < 32
      · obtain ⟨s, hs⟩ : ∃ s : Nat, i = (s : Int) := ⟨(i - 0).toNat, by omega⟩
        have hs31 : s ≤ 31 := by omega
        have e1 : (s : Int) / 32 = 0 := by omega
        have e2 : (s : Int) % 32 = s := by omega
        rw [hs] at hI
        have hw := div_word0 (n := n) (c := c) (r := r) (Q := Q) (s := s) c0 hs31 r0 hI.out
        rw [HX.out.1] at hw
        obtain ⟨p, q, hp, pb1, pb2, _, _⟩ := pow_cut s hs31
        have pw1 : (1 : Int) ≤ 2 ^ s := by rw [hp]; exact pb1
        have pw2 : (2 : Int) ^ s ≤ 2147483648 := by rw [hp]; exact pb2
        clear hp pb1 pb2
        have hd0 : 0 ≤ a0 / 2 ^ s := Int.ediv_nonneg (by omega) (by omega)
        have HW := Lib.hid hw
        clear hw hI
        subst hs
        obtain ⟨⟨g1, g2⟩, ⟨g3, g4⟩, ⟨g5, g6⟩, ⟨g7, g8⟩⟩ := dig_bd Q
        go_upto_region 7 with fail
        have hb0 : 0 ≤ a0 / 2 ^ s % 2 := by omega
        have hb1 : a0 / 2 ^ s % 2 ≤ 1 := by omega
        generalize a0 / 2 ^ s % 2 = bt at *
        clear hd0
        by_cases hge : c ≤ 2 * r + bt
        · obtain ⟨v1, v2, v3, v4, v5⟩ := HW.out.2 hge
          have V := Lib.hid (And.intro v1 (And.intro v2 (And.intro v3 (And.intro v4 v5))))
          clear v1 v2 v3 v4 v5
          go_wp2_with fail
          go_roundw
          case rel => exact ⟨(s : Int) - 1, 2 * r + bt - c, Q + 2 ^ s, rfl, rfl, by omega, by omega, by omega, by omega, Lib.hid V.out.1, by rw [V.out.2.1, V.out.2.2.1, V.out.2.2.2.1, V.out.2.2.2.2]⟩
          case measure => simp [intOf] <;> omega
        · go_wp2_with fail
          go_roundw
          case rel => exact ⟨(s : Int) - 1, 2 * r + bt, Q, rfl, rfl, by omega, by omega, by omega, by omega, Lib.hid HW.out.1, rfl⟩
          case measure => simp [intOf] <;> omega
      · by_cases h1 : i < 64
        · obtain ⟨s, hs⟩ : ∃ s : Nat, i = 32 + (s : Int) := ⟨(i - 32).toNat, by omega⟩
          have hs31 : s ≤ 31 := by omega
          have e1 : (32 + (s : Int)) / 32 = 1 := by omega
          have e2 : (32 + (s : Int)) % 32 = s := by omega
          rw [hs] at hI
          have hw := div_word1 (n := n) (c := c) (r := r) (Q := Q) (s := s) c0 hs31 r0 hI.out
          rw [HX.out.2.1] at hw
          obtain ⟨p, q, hp, pb1, pb2, _, _⟩ := pow_cut s hs31
          have pw1 : (1 : Int) ≤ 2 ^ s := by rw [hp]; exact pb1
          have pw2 : (2 : Int) ^ s ≤ 2147483648 := by rw [hp]; exact pb2
          clear hp pb1 pb2
          have hd0 : 0 ≤ a1 / 2 ^ s := Int.ediv_nonneg (by omega) (by omega)
          have HW := Lib.hid hw
          clear hw hI
          subst hs
          obtain ⟨⟨g1, g2⟩, ⟨g3, g4⟩, ⟨g5, g6⟩, ⟨g7, g8⟩⟩ := dig_bd Q
          go_upto_region 7 with fail
          have hb0 : 0 ≤ a1 / 2 ^ s % 2 := by omega
          have hb1 : a1 / 2 ^ s % 2 ≤ 1 := by omega
          generalize a1 / 2 ^ s % 2 = bt at *
          clear hd0
          by_cases hge : c ≤ 2 * r + bt
          · obtain ⟨v1, v2, v3, v4, v5⟩ := HW.out.2 hge
            have V := Lib.hid (And.intro v1 (And.intro v2 (And.intro v3 (And.intro v4 v5))))
            clear v1 v2 v3 v4 v5
            go_wp2_with fail
            go_roundw
            case rel => exact ⟨(32 + (s : Int)) - 1, 2 * r + bt - c, Q + 4294967296 * 2 ^ s, rfl, rfl, by omega, by omega, by omega, by omega, Lib.hid V.out.1, by rw [V.out.2.1, V.out.2.2.1, V.out.2.2.2.1, V.out.2.2.2.2]⟩
            case measure => simp [intOf] <;> omega
          · go_wp2_with fail
            go_roundw
            case rel => exact ⟨(32 + (s : Int)) - 1, 2 * r + bt, Q, rfl, rfl, by omega, by omega, by omega, by omega, Lib.hid HW.out.1, rfl⟩
            case measure => simp [intOf] <;> omega
        · by_cases h2 : i < 96
          · obtain ⟨s, hs⟩ : ∃ s : Nat, i = 64 + (s : Int) := ⟨(i - 64).toNat, by omega⟩
            have hs31 : s ≤ 31 := by omega
            have e1 : (64 + (s : Int)) / 32 = 2 := by omega
            have e2 : (64 + (s : Int)) % 32 = s := by omega
            rw [hs] at hI
            have hw := div_word2 (n := n) (c := c) (r := r) (Q := Q) (s := s) c0 hs31 r0 hI.out
            rw [HX.out.2.2.1] at hw
            obtain ⟨p, q, hp, pb1, pb2, _, _⟩ := pow_cut s hs31
            have pw1 : (1 : Int) ≤ 2 ^ s := by rw [hp]; exact pb1
            have pw2 : (2 : Int) ^ s ≤ 2147483648 := by rw [hp]; exact pb2
            clear hp pb1 pb2
            have hd0 : 0 ≤ a2 / 2 ^ s := Int.ediv_nonneg (by omega) (by omega)
            have HW := Lib.hid hw
            clear hw hI
            subst hs
            obtain ⟨⟨g1, g2⟩, ⟨g3, g4⟩, ⟨g5, g6⟩, ⟨g7, g8⟩⟩ := dig_bd Q
            go_upto_region 7 with fail
            have hb0 : 0 ≤ a2 / 2 ^ s % 2 := by omega
            have hb1 : a2 / 2 ^ s % 2 ≤ 1 := by omega
            generalize a2 / 2 ^ s % 2 = bt at *
            clear hd0
            by_cases hge : c ≤ 2 * r + bt
            · obtain ⟨v1, v2, v3, v4, v5⟩ := HW.out.2 hge
              have V := Lib.hid (And.intro v1 (And.intro v2 (And.intro v3 (And.intro v4 v5))))
              clear v1 v2 v3 v4 v5
              go_wp2_with fail
              go_roundw
              case rel => exact ⟨(64 + (s : Int)) - 1, 2 * r + bt - c, Q + 18446744073709551616 * 2 ^ s, rfl, rfl, by omega, by omega, by omega, by omega, Lib.hid V.out.1, by rw [V.out.2.1, V.out.2.2.1, V.out.2.2.2.1, V.out.2.2.2.2]⟩
              case measure => simp [intOf] <;> omega
            · go_wp2_with fail
              go_roundw
              case rel => exact ⟨(64 + (s : Int)) - 1, 2 * r + bt, Q, rfl, rfl, by omega, by omega, by omega, by omega, Lib.hid HW.out.1, rfl⟩
              case measure => simp [intOf] <;> omega
          · obtain ⟨s, hs⟩ : ∃ s : Nat, i = 96 + (s : Int) := ⟨(i - 96).toNat, by omega⟩
            have hs31 : s ≤ 31 := by omega
            have e1 : (96 + (s : Int)) / 32 = 3 := by omega
            have e2 : (96 + (s : Int)) % 32 = s := by omega
            rw [hs] at hI
            have hw := div_word3 (n := n) (c := c) (r := r) (Q := Q) (s := s) c0 hs31 r0 hI.out
            rw [HX.out.2.2.2] at hw
            obtain ⟨p, q, hp, pb1, pb2, _, _⟩ := pow_cut s hs31
            have pw1 : (1 : Int) ≤ 2 ^ s := by rw [hp]; exact pb1
            have pw2 : (2 : Int) ^ s ≤ 2147483648 := by rw [hp]; exact pb2
            clear hp pb1 pb2
            have hd0 : 0 ≤ a3 / 2 ^ s := Int.ediv_nonneg (by omega) (by omega)
            have HW := Lib.hid hw
            clear hw hI
            subst hs
            obtain ⟨⟨g1, g2⟩, ⟨g3, g4⟩, ⟨g5, g6⟩, ⟨g7, g8⟩⟩ := dig_bd Q
            go_upto_region 7 with fail
            have hb0 : 0 ≤ a3 / 2 ^ s % 2 := by omega
            have hb1 : a3 / 2 ^ s % 2 ≤ 1 := by omega
            generalize a3 / 2 ^ s % 2 = bt at *
            clear hd0
            by_cases hge : c ≤ 2 * r + bt
            · obtain ⟨v1, v2, v3, v4, v5⟩ := HW.out.2 hge
              have V := Lib.hid (And.intro v1 (And.intro v2 (And.intro v3 (And.intro v4 v5))))
              clear v1 v2 v3 v4 v5
              go_wp2_with fail
              go_roundw
              case rel => exact ⟨(96 + (s : Int)) - 1, 2 * r + bt - c, Q + 79228162514264337593543950336 * 2 ^ s, rfl, rfl, by omega, by omega, by omega, by omega, Lib.hid V.out.1, by rw [V.out.2.1, V.out.2.2.1, V.out.2.2.2.1, V.out.2.2.2.2]⟩
              case measure => simp [intOf] <;> omega
            · go_wp2_with fail
              go_roundw
              case rel => exact ⟨(96 + (s : Int)) - 1, 2 * r + bt, Q, rfl, rfl, by omega, by omega, by omega, by omega, Lib.hid HW.out.1, rfl⟩
              case measure => simp [intOf] <;> omega
    · obtain rfl : i = -1 := by omega
      obtain ⟨hQ, hr⟩ := divInv_end c0 r0 r1 hI.out
      clear hI hi i0 i1
      have q0 : 0 ≤ Q := by rw [hQ]; exact Int.ediv_nonneg n0 (by omega)
      have qn : Q + (if 0 < r then 1 else 0) < 340282366920938463463374607431768211456 := by
        have e := Int.mul_ediv_add_emod n c
        rw [← hQ, ← hr] at e
        have := Int.mul_le_mul_of_nonneg_right (a := 1) (b := c) (c := Q) c0 q0
        split <;> omega
      have hR2 := HR.out
      unfold divW at hR2
      rw [← hQ, ← hr] at hR2
      by_cases hp : 0 < r
      · have qn1 : Q + 1 < 340282366920938463463374607431768211456 := by simpa [hp] using qn
        clear qn hQ hr
        cases s with
        | true =>
          have hfin : R = Value.tuple #[Wide true (Q + 1), .int .i64 (c - r)] := by simpa [hp] using hR2
          have HF := Lib.hid hfin; clear hfin hR2
          have ha := HA.out Q 1
          have ho := HO.out
          unfold Wide at ha ho
          generalize dig0 1 = u0 at *
          generalize dig1 1 = u1 at *
          generalize dig2 1 = u2 at *
          generalize dig3 1 = u3 at *
          have HA2 := Lib.hid ha; have HO2 := Lib.hid ho; clear ha ho
          go_wp2_with fail
          refine (HO2.out _).mono ?_
          rintro e w1 ⟨rfl, hb1⟩
          obtain ⟨hc1, hf1⟩ := bcell hb1
          have hz1 : w.heap.size + 4 ≤ w1.heap.size := by have := hb1.size; simp at this; omega
          have z0 : w.heap.size < w1.heap.size := by omega
          have z1 : w.heap.size + 1 < w1.heap.size := by omega
          have z2 : w.heap.size + 1 + 1 < w1.heap.size := by omega
          have z3 : w.heap.size + 1 + 1 + 1 < w1.heap.size := by omega
          go_wp2_with fail
          refine (HA2.out _ q0 (by omega) qn1).mono ?_
          rintro e w2 ⟨rfl, hb2⟩
          obtain ⟨hc2, hf2⟩ := bcell hb2
          have y0 : w.heap.size < w1.heap.size + 1 := by omega
          have y1 : w.heap.size + 1 < w1.heap.size + 1 := by omega
          have y2 : w.heap.size + 1 + 1 < w1.heap.size + 1 := by omega
          have y3 : w.heap.size + 1 + 1 + 1 < w1.heap.size + 1 := by omega
          go_wp2_with fail
          refine bodyPost_ret (v := .tuple #[.agg #[.bool true, .int .u64 (dig0 (Q + 1)), .int .u64 (dig1 (Q + 1)), .int .u64 (dig2 (Q + 1)), .int .u64 (dig3 (Q + 1))], .int .i64 (c - r)]) (by simp [results, Try.results34, go_sem, hc2, hc1, y1, z1]) rfl ⟨?_, ?_⟩
          · rw [HF.out]; rfl
          · have hbel : Below w.heap.size w w2 := by
              refine Below.trans ?_ (hb2.mono (by simp; omega))
              refine Below.alloc ?_ (by omega) _
              refine Below.trans ?_ (hb1.mono (by simp; omega))
              repeat' (first | (with_reducible exact Below.refl _ _) | (with_reducible refine below_drewN ?_ _) | (with_reducible refine Below.setCell ?_ ?_ _) | (with_reducible refine Below.alloc ?_ ?_ _) | (simp; done) | (simp; omega))
            repeat' (first | (with_reducible exact Below.refl _ _) | (with_reducible exact hbel) | (with_reducible refine below_drewN ?_ _) | (with_reducible refine Below.setCell ?_ ?_ _) | (with_reducible refine Below.alloc ?_ ?_ _) | (simp; done) | (simp; omega))
        | false =>
          have hfin : R = Value.tuple #[Wide false Q, .int .i64 r] := by simpa using hR2
          have HF := Lib.hid hfin; clear hfin hR2
          go_wp2_with fail
          go_returns
          refine ⟨by rw [HF.out]; rfl, ?_⟩
          repeat' (first | (with_reducible exact Below.refl _ _) | (with_reducible refine below_drewN ?_ _) | (with_reducible refine Below.setCell ?_ ?_ _) | (with_reducible refine Below.alloc ?_ ?_ _) | (simp; done) | (simp; omega))
      · clear qn hQ hr
        cases s with
        | true =>
          have hfin : R = Value.tuple #[Wide true Q, .int .i64 r] := by simpa [hp] using hR2
          have HF := Lib.hid hfin; clear hfin hR2
          go_wp2_with fail
          go_returns
          refine ⟨by rw [HF.out]; rfl, ?_⟩
          repeat' (first | (with_reducible exact Below.refl _ _) | (with_reducible refine below_drewN ?_ _) | (with_reducible refine Below.setCell ?_ ?_ _) | (with_reducible refine Below.alloc ?_ ?_ _) | (simp; done) | (simp; omega))
        | false =>
          have hfin : R = Value.tuple #[Wide false Q, .int .i64 r] := by simpa [hp] using hR2
          have HF := Lib.hid hfin; clear hfin hR2
          go_wp2_with fail
          go_returns
          refine ⟨by rw [HF.out]; rfl, ?_⟩
          repeat' (first | (with_reducible exact Below.refl _ _) | (with_reducible refine below_drewN ?_ _) | (with_reducible refine Below.setCell ?_ ?_ _) | (with_reducible refine Below.alloc ?_ ?_ _) | (simp; done) | (simp; omega))
end Go.Proofs.Ytcjkofgbijdkcaa
