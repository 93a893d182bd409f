/- The library's stable sort: merging two runs. The walk. -/
import Derived.WalkKit
import Derived.Outline
import Derived.Lib.Hide
import Derived.Handy
import Derived.Deep.QuietTactic
import Derived.BigQuiet
import Derived.BigRegion
import Derived.Test.YthamonfomihncaaSortV
import Derived.Test.YthamonfomihncaaSortU
import Derived.Test.YthamonfomihncaaSortX
namespace Go.Proofs.Ythamonfomihncaa
open Go.RowKit

theorem cnt_nonneg (d : Nat → Int) (x : Int) : ∀ n, 0 ≤ cnt d x n
  | 0 => by simp [cnt]
  | n + 1 => by
    have := cnt_nonneg d x n
    simp only [cnt]
    split <;> omega
theorem cnt_pos (d : Nat → Int) (x : Int) : ∀ n, 0 < cnt d x n → ∃ k, k < n ∧ d k = x
  | 0, h => by simp [cnt] at h
  | n + 1, h => by
    simp only [cnt] at h
    by_cases g : d n = x
    · exact ⟨n, by omega, g⟩
    · rw [if_neg g] at h
      obtain ⟨k, h1, h2⟩ := cnt_pos d x n (by omega)
      exact ⟨k, by omega, h2⟩
theorem cnt_of (d : Nat → Int) {n k : Nat} (h : k < n) : 0 < cnt d (d k) n := by
  induction n with
  | zero => omega
  | succ n ih =>
    simp only [cnt]
    have := cnt_nonneg d (d k) n
    by_cases g : k = n
    · subst g; rw [if_pos rfl]; omega
    · have := ih (by omega)
      split <;> omega
theorem InR.same {n : Nat} {d e : Nat → Int} (h : InR n d) (hs : Same n d e) : InR n e := fun k hk => by
  have h1 := cnt_of e hk
  rw [hs.1] at h1
  obtain ⟨j, g1, g2⟩ := cnt_pos d _ n h1
  obtain ⟨x, x1, x2⟩ := h j g1
  exact ⟨x, x1, g2.symm.trans x2⟩

set_option maxRecDepth 100000 in
set_option maxHeartbeats 8000000 in
theorem sym_big (g n ty hr gr : Nat) (r : Int → Int) (hn : n ≤ 1000) (h1 : hr ≠ g) (h2 : gr ≠ g) (f : Nat)
    (ih : ∀ (a m b : Nat) (d : Nat → Int) (w : World), b - a ≤ f → a < m → m < b → b ≤ n → Row w g n ty d → Rests hr gr n r w → InR n d →
      Calls Try.prog 73 #[.slice (some ⟨g, 0, none⟩) n n, .int .i64 a, .int .i64 m, .int .i64 b, .func (Fn.func 36) #[] #[.pointer (some ⟨hr, 0, none⟩)]] w fun e w' => e = .returned (.tuple #[]) ∧ Row w' g n ty (sym (cR r) f a m b d) ∧ Only g w w')
    (a m b : Nat) (d : Nat → Int) (w : World) (h0 : b - a ≤ f + 1) (k1 : a < m) (k2 : m < b) (k3 : b ≤ n) (h : Row w g n ty d) (hq : Rests hr gr n r w) (hd : InR n d) (c1 : ¬ m - a = 1) (c2 : ¬ b - m = 1) :
    Calls Try.prog 73 #[.slice (some ⟨g, 0, none⟩) n n, .int .i64 a, .int .i64 m, .int .i64 b, .func (Fn.func 36) #[] #[.pointer (some ⟨hr, 0, none⟩)]] w fun e w' => e = .returned (.tuple #[]) ∧ Row w' g n ty (sym (cR r) (f + 1) a m b d) ∧ Only g w w' := by
  obtain ⟨mid, hmid⟩ : ∃ mid, mid = (a + b) / 2 := ⟨_, rfl⟩
  obtain ⟨s0, hs0⟩ : ∃ s0, s0 = if mid < m then mid + m - b else a := ⟨_, rfl⟩
  obtain ⟨r0, hr0⟩ : ∃ r0, r0 = if mid < m then mid else m := ⟨_, rfl⟩
  obtain ⟨Z, hZ⟩ : ∃ Z, Z = bsr (fun k => !cR r (d (mid + m - 1 - k)) (d k)) s0 r0 := ⟨_, rfl⟩
  obtain ⟨E, hE⟩ : ∃ E, E = mid + m - Z := ⟨_, rfl⟩
  obtain ⟨D, hD⟩ : ∃ D, D = sym (cR r) (f + 1) a m b d := ⟨_, rfl⟩
  rw [← hD]
  have hcut : cut (cR r) a m b d = Z := by unfold cut; rw [hZ, hs0, hr0, hmid]
  have hcb := cut_bd (cR r) a m b d (by omega) (by omega) (by omega)
  rw [hcut, ← hmid, ← hE] at hcb
  have hD2 : D = if mid < E ∧ E < b then sym (cR r) f mid E b (if a < Z ∧ Z < mid then sym (cR r) f a Z mid (if Z < m ∧ m < E then rot m (m - Z) (E - m) d else d) else (if Z < m ∧ m < E then rot m (m - Z) (E - m) d else d))
      else (if a < Z ∧ Z < mid then sym (cR r) f a Z mid (if Z < m ∧ m < E then rot m (m - Z) (E - m) d else d) else (if Z < m ∧ m < E then rot m (m - Z) (E - m) d else d)) := by
    rw [hD, sym, if_neg c1, if_neg c2]
    simp only []
    rw [hcut, ← hmid, ← hE]
  have hbb : s0 ≤ r0 ∧ (∀ c, s0 ≤ c → c < r0 → c ≤ mid + m - 1 ∧ mid + m - 1 - c < n ∧ c < n) := by
    by_cases q : mid < m
    · rw [if_pos q] at hs0 hr0; exact ⟨by omega, fun c _ _ => by omega⟩
    · rw [if_neg q] at hs0 hr0; exact ⟨by omega, fun c _ _ => by omega⟩
  have HBB := Lib.hid hbb.2
  have hsr := hbb.1
  have HB1 : Hid (∀ i j, i < j → cR r (d (mid + m - 1 - (i + j) / 2)) (d ((i + j) / 2)) = false → bsr (fun k => !cR r (d (mid + m - 1 - k)) (d k)) i j = bsr (fun k => !cR r (d (mid + m - 1 - k)) (d k)) ((i + j) / 2 + 1) j) := Lib.hid (fun i j g1 g2 => by rw [bsr, if_pos g1, if_pos (by rw [g2]; rfl)])
  have HB2 : Hid (∀ i j, i < j → cR r (d (mid + m - 1 - (i + j) / 2)) (d ((i + j) / 2)) = true → bsr (fun k => !cR r (d (mid + m - 1 - k)) (d k)) i j = bsr (fun k => !cR r (d (mid + m - 1 - k)) (d k)) i ((i + j) / 2)) := Lib.hid (fun i j g1 g2 => by rw [bsr, if_pos g1, if_neg (by rw [g2]; simp)])
  have HB3 : Hid (∀ i j, ¬ i < j → bsr (fun k => !cR r (d (mid + m - 1 - k)) (d k)) i j = i) := Lib.hid (fun i j g1 => by rw [bsr, if_neg g1])
  generalize bsr (fun k => !cR r (d (mid + m - 1 - k)) (d k)) = Bs at *
  have HW := Lib.hid h; have HQ := Lib.hid hq; have HDD := Lib.hid hd; have HIH := Lib.hid ih
  have HCV : Hid (∀ x y, decide (cvR r x y < 0) = cR r x y) := Lib.hid (fun x y => cvR_lt)
  have HZ := Lib.hid hZ; have HD := Lib.hid hD2
  have HRot := Lib.hid (fun a b e W F hrow (hin : InR n e) g1 g2 g3 => (rotate_any g n ty a m b F e W hn hrow g1 g2 g3).mono (R' := fun ee w' => (ee = .returned (.tuple #[]) ∧ Row w' g n ty (rot m (m - a) (b - m) e) ∧ Only g W w') ∧ InR n (rot m (m - a) (b - m) e)) (fun _ _ hh => ⟨hh, hin.same (same_rot n m (m - a) (b - m) e (by omega) (by omega))⟩))
  have HSy := Lib.hid (fun a m b e W q1 q2 q3 q4 hrow hrest (hin : InR n e) => (ih a m b e W q1 q2 q3 q4 hrow hrest hin).mono (R' := fun ee w' => (ee = .returned (.tuple #[]) ∧ Row w' g n ty (sym (cR r) f a m b e) ∧ Only g W w') ∧ InR n (sym (cR r) f a m b e)) (fun _ _ hh => ⟨hh, hin.same (same_sym (cR r) n f a m b e q2 q3 q4)⟩))
  have hmI : ((a : Int) + (b : Int)) / 2 = (mid : Int) := by omega
  have hEI : (mid : Int) + (m : Int) - (Z : Int) = (E : Int) := by omega
  have c1' : ((m : Int) - (a : Int) == 1) = false := by simp; omega
  have c2' : ((b : Int) - (m : Int) == 1) = false := by simp; omega
  have hab : a < mid ∧ mid < b := by omega
  have hfm : mid - a ≤ f ∧ b - mid ≤ f := by omega
  clear h hq hd ih hbb hZ hD2 hD hcut hE hmid
  by_cases q : mid < m
  · rw [if_pos q] at hs0 hr0
    have qI : (mid : Int) < (m : Int) := by omega
    have hsI : (mid : Int) + (m : Int) - (b : Int) = (s0 : Int) := by omega
    go_enter Try.func73, Try.ntmps73
    go_wp2_with fail
    go_loopw [20, 21] (fun vi vj wr => ∃ i j : Nat, vi = .int .i64 i ∧ vj = .int .i64 j ∧ s0 ≤ i ∧ i ≤ j ∧ j ≤ r0 ∧ Hid (Row wr g n ty d) ∧ Hid (Only g w wr) ∧ Hid (Bs i j = Z)) (fun vi vj _ => (intOf vj - intOf vi).toNat)
    case atStart => exact ⟨s0, r0, by go_num, by go_num, by omega, by omega, by omega, HW, Lib.hid (Only.refl _ _), Lib.hid HZ.out.symm⟩
    case round =>
      obtain ⟨i, j, rfl, rfl, i1, i2, i3, HR, HO, HB⟩ := hrel
      by_cases hlt : i < j
      · have hx : ((i : Int) + (j : Int)) / 2 = (((i + j) / 2 : Nat) : Int) := by omega
        obtain ⟨b1, b2, b3⟩ := HBB.out ((i + j) / 2) (by omega) (by omega)
        have q1 := HR.out.cell b2
        have q2 := HR.out.cell b3
        have HC := Lib.hid (fun W (hr' : Rests hr gr n r W) => cmpRow_any HDD.out b2 b3 hr')
        have HRs := Lib.hid (HQ.out.only HO.out h1 h2)
        have hcv := HCV.out (d (mid + m - 1 - (i + j) / 2)) (d ((i + j) / 2))
        generalize cvR r (d (mid + m - 1 - (i + j) / 2)) (d ((i + j) / 2)) = v at *
        have hp : (mid : Int) + (m : Int) - 1 - (((i + j) / 2 : Nat) : Int) = ((mid + m - 1 - (i + j) / 2 : Nat) : Int) := by omega
        have j1 : (((i + j) / 2 : Nat) : Int) < (n : Int) := by omega
        have j2 : (0 : Int) ≤ (((i + j) / 2 : Nat) : Int) := by omega
        have j3 : ((mid + m - 1 - (i + j) / 2 : Nat) : Int) < (n : Int) := by omega
        have j4 : (0 : Int) ≤ ((mid + m - 1 - (i + j) / 2 : Nat) : Int) := by omega
        have j5 : i ≤ (i + j) / 2 ∧ (i + j) / 2 < j := by omega
        have j6 : IntKind.i64.wrap ((mid : Int) + (m : Int) - 1 - (((i + j) / 2 : Nat) : Int)) = ((mid + m - 1 - (i + j) / 2 : Nat) : Int) := by rw [IntKind.wrap_i64]; omega
        have j7 : IntKind.i64.wrap ((mid + m - 1 - (i + j) / 2 : Nat) : Int) = ((mid + m - 1 - (i + j) / 2 : Nat) : Int) := by rw [IntKind.wrap_i64]; omega
        cases hc : cR r (d (mid + m - 1 - (i + j) / 2)) (d ((i + j) / 2)) with
        | false =>
          have iv : decide (v < 0) = false := by rw [hcv, hc]
          have hstep := HB1.out i j hlt hc
          rw [HB.out] at hstep
          have HSt := Lib.hid hstep
          clear hstep hc hcv b1
          generalize d (mid + m - 1 - (i + j) / 2) = va at *
          generalize mid + m - 1 - (i + j) / 2 = p at *
          generalize d ((i + j) / 2) = vb at *
          generalize hh : (i + j) / 2 = h at *
          clear hh
          go_wp2_with fail
          go_quiet ((go_at_call 36; exact Calls.quiet_of (HC.out _ (HRs.out.drewN _))))
          go_wp2_with fail
          go_roundw
          case rel => exact ⟨h + 1, j, by go_num, rfl, by omega, by omega, by omega, HR, Lib.hid (HO.out.drewN _), Lib.hid HSt.out.symm⟩
          case measure => simp [intOf] <;> omega
        | true =>
          have iv : decide (v < 0) = true := by rw [hcv, hc]
          have hstep := HB2.out i j hlt hc
          rw [HB.out] at hstep
          have HSt := Lib.hid hstep
          clear hstep hc hcv b1
          generalize d (mid + m - 1 - (i + j) / 2) = va at *
          generalize mid + m - 1 - (i + j) / 2 = p at *
          generalize d ((i + j) / 2) = vb at *
          generalize hh : (i + j) / 2 = h at *
          clear hh
          go_wp2_with fail
          go_quiet ((go_at_call 36; exact Calls.quiet_of (HC.out _ (HRs.out.drewN _))))
          go_wp2_with fail
          go_roundw
          case rel => exact ⟨i, h, rfl, by go_num, by omega, by omega, by omega, HR, Lib.hid (HO.out.drewN _), Lib.hid HSt.out.symm⟩
          case measure => simp [intOf] <;> omega
      · have hiz : i = Z := by rw [← HB3.out i j hlt]; exact HB.out
        subst hiz
        clear HB1 HB2 HB3 HB HZ HBB HCV
        clear HIH
        go_wp2_with fail
        repeat' (first
          | (refine (HRot.out _ _ _ _ _ (Hid.out (by assumption)) (Hid.out (by assumption)) (by omega) (by omega) (by omega)).mono ?_
             rintro ee w' ⟨⟨rfl, hr', ho'⟩, hi'⟩
             have HRn := Lib.hid hr'; have HOn : Hid (Only g w w') := Lib.hid (Only.trans (Hid.out (by assumption)) ho'); have HIn := Lib.hid hi'
             clear hr' ho' hi'
             clear HR HO
             go_wp2_with fail)
          | (refine (HSy.out _ _ _ _ _ (by omega) (by omega) (by omega) (by omega) (Hid.out (by assumption)) (HQ.out.only (Hid.out (by assumption)) h1 h2) (Hid.out (by assumption))).mono ?_
             rintro ee w' ⟨⟨rfl, hr', ho'⟩, hi'⟩
             have HRn := Lib.hid hr'; have HOn : Hid (Only g w w') := Lib.hid (Only.trans (Hid.out (by assumption)) ho'); have HIn := Lib.hid hi'
             clear hr' ho' hi'
             go_wp2_with fail)
          | (have hD' := HD.out
             (first | rw [if_pos (show mid < E ∧ E < b by omega)] at hD' | rw [if_neg (show ¬ (mid < E ∧ E < b) by omega)] at hD')
             (first | rw [if_pos (show a < i ∧ i < mid by omega)] at hD' | rw [if_neg (show ¬ (a < i ∧ i < mid) by omega)] at hD')
             (first | rw [if_pos (show i < m ∧ m < E by omega)] at hD' | rw [if_neg (show ¬ (i < m ∧ m < E) by omega)] at hD')
             refine bodyPost_end (results_none Try.results73 _ _ _) rfl ⟨rfl, by rw [hD']; exact Hid.out (by assumption), Hid.out (by assumption)⟩))
  · rw [if_neg q] at hs0 hr0
    have qI : ¬ (mid : Int) < (m : Int) := by omega
    go_enter Try.func73, Try.ntmps73
    go_wp2_with fail
    go_loopw [20, 21] (fun vi vj wr => ∃ i j : Nat, vi = .int .i64 i ∧ vj = .int .i64 j ∧ s0 ≤ i ∧ i ≤ j ∧ j ≤ r0 ∧ Hid (Row wr g n ty d) ∧ Hid (Only g w wr) ∧ Hid (Bs i j = Z)) (fun vi vj _ => (intOf vj - intOf vi).toNat)
    case atStart => exact ⟨s0, r0, by go_num, by go_num, by omega, by omega, by omega, HW, Lib.hid (Only.refl _ _), Lib.hid HZ.out.symm⟩
    case round =>
      obtain ⟨i, j, rfl, rfl, i1, i2, i3, HR, HO, HB⟩ := hrel
      by_cases hlt : i < j
      · have hx : ((i : Int) + (j : Int)) / 2 = (((i + j) / 2 : Nat) : Int) := by omega
        obtain ⟨b1, b2, b3⟩ := HBB.out ((i + j) / 2) (by omega) (by omega)
        have q1 := HR.out.cell b2
        have q2 := HR.out.cell b3
        have HC := Lib.hid (fun W (hr' : Rests hr gr n r W) => cmpRow_any HDD.out b2 b3 hr')
        have HRs := Lib.hid (HQ.out.only HO.out h1 h2)
        have hcv := HCV.out (d (mid + m - 1 - (i + j) / 2)) (d ((i + j) / 2))
        generalize cvR r (d (mid + m - 1 - (i + j) / 2)) (d ((i + j) / 2)) = v at *
        have hp : (mid : Int) + (m : Int) - 1 - (((i + j) / 2 : Nat) : Int) = ((mid + m - 1 - (i + j) / 2 : Nat) : Int) := by omega
        have j1 : (((i + j) / 2 : Nat) : Int) < (n : Int) := by omega
        have j2 : (0 : Int) ≤ (((i + j) / 2 : Nat) : Int) := by omega
        have j3 : ((mid + m - 1 - (i + j) / 2 : Nat) : Int) < (n : Int) := by omega
        have j4 : (0 : Int) ≤ ((mid + m - 1 - (i + j) / 2 : Nat) : Int) := by omega
        have j5 : i ≤ (i + j) / 2 ∧ (i + j) / 2 < j := by omega
        have j6 : IntKind.i64.wrap ((mid : Int) + (m : Int) - 1 - (((i + j) / 2 : Nat) : Int)) = ((mid + m - 1 - (i + j) / 2 : Nat) : Int) := by rw [IntKind.wrap_i64]; omega
        have j7 : IntKind.i64.wrap ((mid + m - 1 - (i + j) / 2 : Nat) : Int) = ((mid + m - 1 - (i + j) / 2 : Nat) : Int) := by rw [IntKind.wrap_i64]; omega
        cases hc : cR r (d (mid + m - 1 - (i + j) / 2)) (d ((i + j) / 2)) with
        | false =>
          have iv : decide (v < 0) = false := by rw [hcv, hc]
          have hstep := HB1.out i j hlt hc
          rw [HB.out] at hstep
          have HSt := Lib.hid hstep
          clear hstep hc hcv b1
          generalize d (mid + m - 1 - (i + j) / 2) = va at *
          generalize mid + m - 1 - (i + j) / 2 = p at *
          generalize d ((i + j) / 2) = vb at *
          generalize hh : (i + j) / 2 = h at *
          clear hh
          go_wp2_with fail
          go_quiet ((go_at_call 36; exact Calls.quiet_of (HC.out _ (HRs.out.drewN _))))
          go_wp2_with fail
          go_roundw
          case rel => exact ⟨h + 1, j, by go_num, rfl, by omega, by omega, by omega, HR, Lib.hid (HO.out.drewN _), Lib.hid HSt.out.symm⟩
          case measure => simp [intOf] <;> omega
        | true =>
          have iv : decide (v < 0) = true := by rw [hcv, hc]
          have hstep := HB2.out i j hlt hc
          rw [HB.out] at hstep
          have HSt := Lib.hid hstep
          clear hstep hc hcv b1
          generalize d (mid + m - 1 - (i + j) / 2) = va at *
          generalize mid + m - 1 - (i + j) / 2 = p at *
          generalize d ((i + j) / 2) = vb at *
          generalize hh : (i + j) / 2 = h at *
          clear hh
          go_wp2_with fail
          go_quiet ((go_at_call 36; exact Calls.quiet_of (HC.out _ (HRs.out.drewN _))))
          go_wp2_with fail
          go_roundw
          case rel => exact ⟨i, h, rfl, by go_num, by omega, by omega, by omega, HR, Lib.hid (HO.out.drewN _), Lib.hid HSt.out.symm⟩
          case measure => simp [intOf] <;> omega
      · have hiz : i = Z := by rw [← HB3.out i j hlt]; exact HB.out
        subst hiz
        clear HB1 HB2 HB3 HB HZ HBB HCV
        clear HIH
        go_wp2_with fail
        repeat' (first
          | (refine (HRot.out _ _ _ _ _ (Hid.out (by assumption)) (Hid.out (by assumption)) (by omega) (by omega) (by omega)).mono ?_
             rintro ee w' ⟨⟨rfl, hr', ho'⟩, hi'⟩
             have HRn := Lib.hid hr'; have HOn : Hid (Only g w w') := Lib.hid (Only.trans (Hid.out (by assumption)) ho'); have HIn := Lib.hid hi'
             clear hr' ho' hi'
             clear HR HO
             go_wp2_with fail)
          | (refine (HSy.out _ _ _ _ _ (by omega) (by omega) (by omega) (by omega) (Hid.out (by assumption)) (HQ.out.only (Hid.out (by assumption)) h1 h2) (Hid.out (by assumption))).mono ?_
             rintro ee w' ⟨⟨rfl, hr', ho'⟩, hi'⟩
             have HRn := Lib.hid hr'; have HOn : Hid (Only g w w') := Lib.hid (Only.trans (Hid.out (by assumption)) ho'); have HIn := Lib.hid hi'
             clear hr' ho' hi'
             go_wp2_with fail)
          | (have hD' := HD.out
             (first | rw [if_pos (show mid < E ∧ E < b by omega)] at hD' | rw [if_neg (show ¬ (mid < E ∧ E < b) by omega)] at hD')
             (first | rw [if_pos (show a < i ∧ i < mid by omega)] at hD' | rw [if_neg (show ¬ (a < i ∧ i < mid) by omega)] at hD')
             (first | rw [if_pos (show i < m ∧ m < E by omega)] at hD' | rw [if_neg (show ¬ (i < m ∧ m < E) by omega)] at hD')
             refine bodyPost_end (results_none Try.results73 _ _ _) rfl ⟨rfl, by rw [hD']; exact Hid.out (by assumption), Hid.out (by assumption)⟩))
end Go.Proofs.Ythamonfomihncaa
