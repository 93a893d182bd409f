/- The library's stable sort: what its parts do to a row. The walk. -/
import Derived.WalkKit
import Derived.Outline
import Derived.Lib.Hide
import Derived.Handy
import Derived.Deep.QuietTactic
import Derived.BigQuiet
import Derived.BigRegion
import Derived.Deep.RegionHeld3
import Derived.Test.YthamonfomihncaaShelf
import Derived.Test.YthamonfomihncaaRow
import Derived.Test.YthamonfomihncaaSortT
import Derived.Test.YthamonfomihncaaNumB
namespace Go.Proofs.Ythamonfomihncaa
open Go.RowKit

/-- the rests that the comparison reads: a variable's block, and a row -/
structure Rests (hr gr n : Nat) (r : Int → Int) (W : World) : Prop where
  head : W.cell? ⟨hr, 0, none⟩ = some (.slice (some ⟨gr, 0, none⟩) n n)
  row : ∀ k, k < n → W.cell? ⟨gr, k, none⟩ = some (.int .i64 (r k))
theorem Rests.only {hr gr n g : Nat} {r : Int → Int} {W W' : World} (h : Rests hr gr n r W) (ho : Only g W W') (h1 : hr ≠ g) (h2 : gr ≠ g) : Rests hr gr n r W' :=
  ⟨(ho.cell h1 0).trans h.head, fun k hk => (ho.cell h2 k).trans (h.row k hk)⟩
theorem Rests.drewN {hr gr n : Nat} {r : Int → Int} {W : World} (h : Rests hr gr n r W) (m : Nat) : Rests hr gr n r (W.drewN m) := ⟨h.head, h.row⟩
/-- what the comparison answers -/
def cvR (r : Int → Int) (x y : Int) : Int := if r y < r x then -1 else if r x < r y then 1 else 0
theorem cvR_lt {r : Int → Int} {x y : Int} : decide (cvR r x y < 0) = decide (r y < r x) := by
  unfold cvR
  by_cases h : r y < r x
  · simp [h]
  · rw [if_neg h]
    by_cases g : r x < r y
    · simp [g]; omega
    · simp [g]; omega

/-- draws alone -/
def Drew (w w' : World) : Prop := ∃ m, w' = w.drewN m
theorem isNaN_any (x : Int) (w : World) : Calls Try.prog 58 #[.int .i64 x] w fun e w' => e = .returned (.bool false) ∧ w = w' := by
  go_enter Try.func58, Try.ntmps58
  go_wp2_with fail
  go_ret
  exact ⟨rfl, rfl⟩

set_option maxRecDepth 100000 in
set_option maxHeartbeats 1000000 in
theorem cmpInt_any (x y : Int) (w : World) : Calls Try.prog 37 #[.int .i64 x, .int .i64 y] w fun e w' => e = .returned (.int .i64 (if x < y then -1 else if y < x then 1 else 0)) ∧ w = w' := by
  obtain ⟨R, hR⟩ : ∃ R : Int, R = if x < y then -1 else if y < x then 1 else 0 := ⟨_, rfl⟩
  rw [← hR]
  have HR := Lib.hid hR
  clear hR
  by_cases c1 : x < y
  · rw [if_pos c1] at HR
    go_enter Try.func37, Try.ntmps37
    go_wp2_with fail
    refine (isNaN_any x _).mono ?_
    rintro e w1 ⟨rfl, rfl⟩
    go_wp2_with fail
    refine (isNaN_any y _).mono ?_
    rintro e w1 ⟨rfl, rfl⟩
    go_wp2_with fail
    go_ret
    exact ⟨ret_int HR.out.symm, rfl⟩
  · rw [if_neg c1] at HR
    by_cases c2 : y < x
    · rw [if_pos c2] at HR
      go_enter Try.func37, Try.ntmps37
      go_wp2_with fail
      refine (isNaN_any x _).mono ?_
      rintro e w1 ⟨rfl, rfl⟩
      go_wp2_with fail
      refine (isNaN_any y _).mono ?_
      rintro e w1 ⟨rfl, rfl⟩
      go_wp2_with fail
      go_ret
      exact ⟨ret_int HR.out.symm, rfl⟩
    · rw [if_neg c2] at HR
      go_enter Try.func37, Try.ntmps37
      go_wp2_with fail
      refine (isNaN_any x _).mono ?_
      rintro e w1 ⟨rfl, rfl⟩
      go_wp2_with fail
      refine (isNaN_any y _).mono ?_
      rintro e w1 ⟨rfl, rfl⟩
      go_wp2_with fail
      go_ret
      exact ⟨ret_int HR.out.symm, rfl⟩

set_option maxRecDepth 100000 in
set_option maxHeartbeats 1000000 in
theorem split1_any (hr gr n : Nat) (r : Int → Int) (x y : Nat) (w : World) (hx : x < n) (hy : y < n) (h : Rests hr gr n r w) :
    Calls Try.prog 36 #[.int .i64 x, .int .i64 y, .pointer (some ⟨hr, 0, none⟩)] w fun e w' => e = .returned (.int .i64 (cvR r x y)) ∧ Drew w w' := by
  have e0 := h.head
  have e1 := h.row x hx
  have e2 := h.row y hy
  have HC := Lib.hid (fun W => cmpInt_any (r y) (r x) W)
  have HV : Hid ((if r y < r x then -1 else if r x < r y then 1 else 0 : Int) = cvR r x y) := Lib.hid rfl
  rw [HV.out] at HC
  have i1 : (x : Int) < (n : Int) := by omega
  have i2 : (y : Int) < (n : Int) := by omega
  have i3 : (0 : Int) ≤ (x : Int) := by omega
  have i4 : (0 : Int) ≤ (y : Int) := by omega
  generalize cvR r x y = v at *
  generalize r x = rx at *
  generalize r y = ry at *
  clear h
  go_enter Try.func36, Try.ntmps36
  go_wp2_with fail
  go_quiet ((go_at_call 37; exact quiet_same (HC.out _)))
  go_wp2_with fail
  go_ret
  exact ⟨rfl, _, rfl⟩

set_option maxRecDepth 100000 in
set_option maxHeartbeats 1000000 in
theorem swr_any (g n ty a b t : Nat) (F : Value) (d : Nat → Int) (w : World) (hn : n ≤ 1000) (h : Row w g n ty d) (ha : a + t ≤ n) (hb : b + t ≤ n) :
    Calls Try.prog 95 #[.slice (some ⟨g, 0, none⟩) n n, .int .i64 a, .int .i64 b, .int .i64 t, F] w fun e w' => e = .returned (.tuple #[]) ∧ Row w' g n ty (swr a b t d) ∧ Only g w w' := by
  have HS : Hid (∀ k, swr a b (k + 1) d = swp (swr a b k d) (a + k) (b + k)) := Lib.hid (fun k => rfl)
  have H0 : Hid (swr a b 0 d = d) := Lib.hid rfl
  generalize swr a b = S at *
  have HW := Lib.hid h
  clear h
  go_enter Try.func95, Try.ntmps95
  go_wp2_with fail
  go_loopw [10] (fun vi wr => ∃ k : Nat, k ≤ t ∧ vi = .int .i64 k ∧ Hid (Row wr g n ty (S k d)) ∧ Hid (Only g w wr)) (fun vi _ => t - (intOf vi).toNat)
  case atStart => exact ⟨0, by omega, rfl, by rw [H0.out]; exact HW, Lib.hid (Only.refl _ _)⟩
  case round =>
    obtain ⟨k, hk, rfl, HR, HO⟩ := hrel
    by_cases hlt : k < t
    · have ea := HR.out.cell (show a + k < n by omega)
      have eb := HR.out.cell (show b + k < n by omega)
      have fa := HR.out.frz (a + k)
      have fb := HR.out.frz (b + k)
      have e2 := (HR.out.set (show a + k < n by omega) (S k d (b + k))).cell (show b + k < n by omega)
      have f2 := (HR.out.set (show a + k < n by omega) (S k d (b + k))).frz (b + k)
      generalize upd (S k d) (a + k) (S k d (b + k)) (b + k) = vz at e2
      have hs := HR.out.swap (show a + k < n by omega) (show b + k < n by omega)
      rw [← HS.out k] at hs
      have HR2 := Lib.hid hs
      clear hs
      generalize S k d (a + k) = va at *
      generalize S k d (b + k) = vb at *
      have n1 : IntKind.i64.wrap ((a : Int) + (k : Int)) = (a : Int) + (k : Int) := by rw [IntKind.wrap_i64]; omega
      have n2 : IntKind.i64.wrap ((b : Int) + (k : Int)) = (b : Int) + (k : Int) := by rw [IntKind.wrap_i64]; omega
      have n3 : ((a : Int) + (k : Int)).toNat = a + k := by omega
      have n4 : ((b : Int) + (k : Int)).toNat = b + k := by omega
      have n5 : (a : Int) + (k : Int) < (n : Int) := by omega
      have n6 : (b : Int) + (k : Int) < (n : Int) := by omega
      have n7 : (0 : Int) ≤ (a : Int) + (k : Int) := by omega
      have n8 : (0 : Int) ≤ (b : Int) + (k : Int) := by omega
      go_wp2_with fail
      go_region
      go_wp2_with fail
      go_roundw
      case rel => exact ⟨k + 1, by omega, by go_num, HR2, Lib.hid ((HO.out.setCell _ _).setCell _ _).drew⟩
      case measure => simp [intOf]; omega
    · have hk2 : k = t := by omega
      subst hk2
      go_wp2_with fail
      refine bodyPost_end (results_none Try.results95 _ _ _) rfl ⟨rfl, HR.out, HO.out⟩

/-- the comparison, as it is handed to the sort -/
def fnV (hr : Nat) : Value := .func (Fn.func 36) #[] #[.pointer (some ⟨hr, 0, none⟩)]
/-- all numbers of a row are places of it -/
def InR (n : Nat) (d : Nat → Int) : Prop := ∀ k, k < n → ∃ x : Nat, x < n ∧ d k = x
theorem InR.swp {n : Nat} {d : Nat → Int} (h : InR n d) {i j : Nat} (hi : i < n) (hj : j < n) : InR n (swp d i j) := fun k hk => by
  rw [swp_at]
  by_cases g : k = j
  · rw [if_pos g]; exact h i hi
  · rw [if_neg g]
    by_cases g2 : k = i
    · rw [if_pos g2]; exact h j hj
    · rw [if_neg g2]; exact h k hk
/-- the comparison at two numbers of a row -/
theorem cmpRow_any {hr gr n : Nat} {r : Int → Int} {d : Nat → Int} {i j : Nat} {w : World} (hd : InR n d) (hi : i < n) (hj : j < n) (h : Rests hr gr n r w) :
    Calls Try.prog 36 #[.int .i64 (d i), .int .i64 (d j), .pointer (some ⟨hr, 0, none⟩)] w fun e w' => e = .returned (.int .i64 (cvR r (d i) (d j))) ∧ Drew w w' := by
  obtain ⟨x, hx, e1⟩ := hd i hi
  obtain ⟨y, hy, e2⟩ := hd j hj
  rw [e1, e2]
  exact split1_any hr gr n r x y w hx hy h

set_option maxRecDepth 100000 in
set_option maxHeartbeats 1000000 in
theorem insertion_any (g n ty hr gr a b : Nat) (r : Int → Int) (d : Nat → Int) (w : World) (hn : n ≤ 1000) (h : Row w g n ty d) (hq : Rests hr gr n r w) (h1 : hr ≠ g) (h2 : gr ≠ g) (hd : InR n d) (hb : b ≤ n) (ha : a ≤ n) :
    Calls Try.prog 72 #[.slice (some ⟨g, 0, none⟩) n n, .int .i64 a, .int .i64 b, fnV hr] w fun e w' => e = .returned (.tuple #[]) ∧ Row w' g n ty (insTo (cR r) a (b - a - 1) d) ∧ Only g w w' := by
  unfold fnV
  have HS : Hid (∀ t, insTo (cR r) a (t + 1) d = ins (cR r) a (a + t + 1) (insTo (cR r) a t d)) := Lib.hid (fun t => rfl)
  have H0 : Hid (insTo (cR r) a 0 d = d) := Lib.hid rfl
  have HI : Hid (∀ j e, a < j + 1 ∧ cR r (e (j + 1)) (e j) = true → ins (cR r) a (j + 1) e = ins (cR r) a j (swp e (j + 1) j)) := Lib.hid (fun j e g => by rw [ins, if_pos g])
  have HE : Hid (∀ j e, ¬ (a < j + 1 ∧ cR r (e (j + 1)) (e j) = true) → ins (cR r) a (j + 1) e = e) := Lib.hid (fun j e g => by rw [ins, if_neg g])
  have HZ : Hid (∀ j e, j ≤ a → ins (cR r) a j e = e) := Lib.hid (fun j e g => by
    cases j with
    | zero => rfl
    | succ j => rw [ins, if_neg (by omega)])
  have HCV : Hid (∀ x y, decide (cvR r x y < 0) = cR r x y) := Lib.hid (fun x y => cvR_lt)
  have HW := Lib.hid h; have HQ := Lib.hid hq; have HDD := Lib.hid hd
  clear h hq hd
  generalize insTo (cR r) a = T at *
  generalize hIns : ins (cR r) a = I at *
  clear hIns
  go_enter Try.func72, Try.ntmps72
  go_wp2_with fail
  go_loopw [8] (fun vi wr => ∃ t : Nat, (t = 0 ∨ a + t < b) ∧ vi = .int .i64 (a + 1 + t) ∧ Hid (Row wr g n ty (T t d)) ∧ Hid (Only g w wr) ∧ Hid (InR n (T t d))) (fun vi _ => b - (intOf vi).toNat)
  case atStart => exact ⟨0, by omega, by go_num, by rw [H0.out]; exact HW, Lib.hid (Only.refl _ _), by rw [H0.out]; exact HDD⟩
  case round =>
    obtain ⟨t, ht, rfl, HR, HO, HD⟩ := hrel
    by_cases hlt : a + 1 + t < b
    · have l1 : (a : Int) + 1 + (t : Int) < (b : Int) := by omega
      go_wp2_with fail
      go_loopw [9] (fun vj wq => ∃ (j : Nat) (e : Nat → Int), vj = .int .i64 j ∧ a ≤ j ∧ j ≤ a + 1 + t ∧ Hid (Row wq g n ty e) ∧ Hid (Only g w wq) ∧ Hid (InR n e) ∧ Hid (I j e = T (t + 1) d)) (fun vj _ => (intOf vj).toNat)
      case atStart => exact ⟨a + 1 + t, T t d, by go_num, by omega, by omega, HR, HO, HD, Lib.hid (by rw [HS.out, show a + 1 + t = a + t + 1 by omega])⟩
      case round =>
        obtain ⟨j, e, rfl, hj1, hj2, HRq, HOq, HDq, HIq⟩ := hrel
        by_cases c1 : a < j
        · obtain ⟨k, rfl⟩ : ∃ k, j = k + 1 := ⟨j - 1, by omega⟩
          have ec : ((k + 1 : Nat) : Int) = (k : Int) + 1 := by omega
          rw [ec]
          have e1 := HRq.out.cell (show k + 1 < n by omega)
          have e2 := HRq.out.cell (show k < n by omega)
          have i1 : decide ((a : Int) < (k : Int) + 1) = true := decide_eq_true (by omega)
          have i2 : (k : Int) + 1 < (n : Int) := by omega
          have i3 : (0 : Int) ≤ (k : Int) + 1 := by omega
          have i4 : ((k : Int) + 1).toNat = k + 1 := by omega
          have i5 : IntKind.i64.wrap ((k : Int) + 1 - 1) = (k : Int) := by rw [IntKind.wrap_i64]; omega
          have i6 : IntKind.i64.wrap (k : Int) = (k : Int) := by rw [IntKind.wrap_i64]; omega
          have i7 : (k : Int) < (n : Int) := by omega
          have i8 : (0 : Int) ≤ (k : Int) := by omega
          have HC := Lib.hid (fun W (hr' : Rests hr gr n r W) => cmpRow_any HDq.out (show k + 1 < n by omega) (show k < n by omega) hr')
          have HRs := Lib.hid (HQ.out.only HOq.out h1 h2)
          have hcv := HCV.out (e (k + 1)) (e k)
          generalize cvR r (e (k + 1)) (e k) = v at *
          cases hc : cR r (e (k + 1)) (e k) with
          | true =>
            have iv : decide (v < 0) = true := by rw [hcv, hc]
            have hstep := HI.out k e ⟨c1, hc⟩
            have HSt := Lib.hid hstep
            clear hstep hc hcv
            have f1 := HRq.out.frz (k + 1)
            have f2 := HRq.out.frz k
            have e3 := (HRq.out.set (show k + 1 < n by omega) (e k)).cell (show k < n by omega)
            have f3 := (HRq.out.set (show k + 1 < n by omega) (e k)).frz k
            generalize upd e (k + 1) (e k) k = vz at e3
            have hs := HRq.out.swap (show k + 1 < n by omega) (show k < n by omega)
            have HRs2 := Lib.hid hs
            clear hs
            have HDs := Lib.hid (HDq.out.swp (show k + 1 < n by omega) (show k < n by omega))
            generalize hva : e (k + 1) = va at *
            generalize hvb : e k = vb at *
            go_wp2_with fail
            go_quiet ((go_at_call 36; exact Calls.quiet_of (HC.out _ (HRs.out.drewN _))))
            go_wp2_with fail
            go_region
            go_wp2_with fail
            go_roundw
            case rel => exact ⟨k, swp e (k + 1) k, by go_num, by omega, by omega, Lib.hid (HRs2.out), Lib.hid ((((HOq.out.drewN _).drew.setCell _ _).setCell _ _)), HDs, Lib.hid (by rw [← HSt.out]; exact HIq.out)⟩
            case measure => simp [intOf] <;> omega
          | false =>
            have iv : decide (v < 0) = false := by rw [hcv, hc]
            have hstep := HE.out k e (fun g => by rw [hc] at g; exact absurd g.2 (by simp))
            have hfin : e = T (t + 1) d := by rw [← hstep]; exact HIq.out
            have HF := Lib.hid hfin
            clear hstep hc hcv hfin
            generalize hva : e (k + 1) = va at *
            generalize hvb : e k = vb at *
            go_wp2_with fail
            go_quiet ((go_at_call 36; exact Calls.quiet_of (HC.out _ (HRs.out.drewN _))))
            go_wp2_with fail
            go_roundw
            case rel => exact ⟨t + 1, by omega, by go_num, by rw [← HF.out]; exact HRq, Lib.hid (HOq.out.drewN _), by rw [← HF.out]; exact HDq⟩
            case measure => simp [intOf]; omega
        · have hj : j = a := by omega
          have hfin : e = T (t + 1) d := by rw [← HZ.out j e (by omega)]; exact HIq.out
          have HF := Lib.hid hfin
          clear hfin
          have i1 : decide ((a : Int) < (j : Int)) = false := decide_eq_false (by omega)
          go_wp2_with fail
          go_quiet (fail)
          go_wp2_with fail
          go_roundw
          case rel => exact ⟨t + 1, by omega, by go_num, by rw [← HF.out]; exact HRq, Lib.hid (HOq.out.drewN _), by rw [← HF.out]; exact HDq⟩
          case measure => simp [intOf]; omega
    · have l1 : ¬ ((a : Int) + 1 + (t : Int) < (b : Int)) := by omega
      go_wp2_with fail
      have et : t = b - a - 1 := by omega
      refine bodyPost_end (results_none Try.results72 _ _ _) rfl ⟨rfl, by rw [← et]; exact HR.out, HO.out⟩
end Go.Proofs.Ythamonfomihncaa
