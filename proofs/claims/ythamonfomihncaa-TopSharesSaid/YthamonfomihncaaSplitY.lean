/- Package num: Split, where an amount may be split: the parts, in a new block; memory that was there stays as it was. -/
import Derived.WalkKit
import Derived.Outline
import Derived.Lib.Hide
import Derived.Handy
import Derived.Deep.QuietTactic
import Derived.BigQuiet
import Derived.BigRegion
import Derived.Deep.RegionHeld3
import Derived.Deep.DeepCutAuto
import Derived.Laws.MakeOwn
import Derived.Test.YthamonfomihncaaSplit
import Derived.Test.YthamonfomihncaaHeldN
namespace Go.Proofs.Ythamonfomihncaa
open Go.RowKit

theorem info_int64 : (Try.prog.info? 2).map (fun i => (i.zero, i.size, i.bytes)) = some (some (.int .i64 0), 1, 8) := by kernel_rfl
theorem info_int : (Try.prog.info? 3).map (fun i => (i.zero, i.size, i.bytes)) = some (some (.int .i64 0), 1, 8) := by kernel_rfl
theorem und_int64s : Try.prog.underlying 46 = some (.slice 2) := by kernel_rfl
theorem und_ints : Try.prog.underlying 83 = some (.slice 3) := by kernel_rfl
theorem made_row (n : Nat) : madeCells (Value.int .i64 0).cells (n * 1) = rowC (fun _ => 0) n := by
  apply Array.ext'
  simp only [madeCells, rowC, Value.cells, Array.toList_map, Array.toList_range, Nat.mul_one]
  apply List.map_congr_left
  intro k _
  simp [Nat.mod_one]
theorem make_int64 (n : Nat) (hn : n ≤ 1000) (W : World) : (Instr.makeSlice 46 (.int .i64 n) (.int .i64 n)).run Try.prog W = .ok (.slice (some ⟨W.heap.size, 0, none⟩) n n) (W.alloc (.cells (rowC (fun _ => 0) n) 2)) := by
  obtain ⟨i0, hi, hz0, hz1, hz2⟩ := info_parts info_int64
  rw [run_make W _ _ i0 _ und_int64s hi hz0 .i64 .i64 n n (by omega) (Int.le_refl _) (by rw [hz2]; omega) (by omega), hz1, Int.toNat_natCast, made_row]
theorem make_int (n : Nat) (hn : n ≤ 1000) (W : World) : (Instr.makeSlice 83 (.int .i64 n) (.int .i64 n)).run Try.prog W = .ok (.slice (some ⟨W.heap.size, 0, none⟩) n n) (W.alloc (.cells (rowC (fun _ => 0) n) 3)) := by
  obtain ⟨i0, hi, hz0, hz1, hz2⟩ := info_parts info_int
  rw [run_make W _ _ i0 _ und_ints hi hz0 .i64 .i64 n n (by omega) (Int.le_refl _) (by rw [hz2]; omega) (by omega), hz1, Int.toNat_natCast, made_row]
theorem rowC_congr {d e : Nat → Int} {n : Nat} (h : ∀ k, k < n → d k = e k) : rowC d n = rowC e n := by
  unfold rowC
  congr 1
  apply List.map_congr_left
  intro k hk
  rw [h k (List.mem_range.1 hk)]
theorem Row.congr {W : World} {g n : Nat} {t : TypeId} {d e : Nat → Int} (h : Row W g n t d) (he : ∀ k, k < n → d k = e k) : Row W g n t e := by
  unfold Row at *; rw [← rowC_congr he]; exact h
theorem Row.far {W : World} {g n g2 : Nat} {t : TypeId} {d : Nat → Int} (h : Row W g n t d) (hne : g ≠ g2) (i : Nat) (v : Value) : Row (W.setCell ⟨g2, i, none⟩ v) g n t d := own_far h hne i v
theorem Row.alloc {W : World} {g n : Nat} {t : TypeId} {d : Nat → Int} (h : Row W g n t d) (o : Obj) : Row (W.alloc o) g n t d := own_alloc h o
theorem Row.call {W W' : World} {g n : Nat} {t : TypeId} {d : Nat → Int} (h : Row W g n t d) (hb : Below W.heap.size W W') : Row W' g n t d := own_below h hb (own_lt h)

/-- the three rows and the variable that holds the rests, behind k weights; what was there ahead of the call is as it was -/
structure Spl (B g o q h n : Nat) (f1 f2 f3 : Nat → Int) (w W : World) : Prop where
  out : Row W g n 2 f1
  ord : Row W o n 3 f2
  rst : Row W q n 2 f3
  box : Own W h #[.slice (some ⟨q, 0, none⟩) n n] 46
  far : g ≠ o ∧ g ≠ q ∧ g ≠ h ∧ o ≠ q ∧ o ≠ h ∧ q ≠ h
  new : B ≤ g ∧ B ≤ o ∧ B ≤ q ∧ B ≤ h
  low : Below B w W
  size : B ≤ W.heap.size
theorem Spl.call {B g o q h n : Nat} {f1 f2 f3 : Nat → Int} {w W W' : World} (s : Spl B g o q h n f1 f2 f3 w W) (hb : Below W.heap.size W W') : Spl B g o q h n f1 f2 f3 w W' :=
  ⟨s.out.call hb, s.ord.call hb, s.rst.call hb, own_below s.box hb (own_lt s.box), s.far, s.new, s.low.trans (hb.mono s.size), Nat.le_trans s.size hb.size⟩
theorem Spl.drew {B g o q h n : Nat} {f1 f2 f3 : Nat → Int} {w W : World} (s : Spl B g o q h n f1 f2 f3 w W) : Spl B g o q h n f1 f2 f3 w W.drew :=
  ⟨s.out, s.ord, s.rst, s.box, s.far, s.new, below_drewN s.low 1, s.size⟩
theorem Spl.set1 {B g o q h n : Nat} {f1 f2 f3 : Nat → Int} {w W : World} (s : Spl B g o q h n f1 f2 f3 w W) {i : Nat} (hi : i < n) (v : Int) : Spl B g o q h n (upd f1 i v) f2 f3 w (W.setCell ⟨g, i, none⟩ (.int .i64 v)) := by
  obtain ⟨a1, a2, a3, a4, a5, a6⟩ := s.far
  exact ⟨s.out.set hi v, s.ord.far (Ne.symm a1) _ _, s.rst.far (Ne.symm a2) _ _, own_far s.box (Ne.symm a3) _ _, s.far, s.new, s.low.setCell s.new.1 _, by simpa using s.size⟩
theorem Spl.set2 {B g o q h n : Nat} {f1 f2 f3 : Nat → Int} {w W : World} (s : Spl B g o q h n f1 f2 f3 w W) {i : Nat} (hi : i < n) (v : Int) : Spl B g o q h n f1 (upd f2 i v) f3 w (W.setCell ⟨o, i, none⟩ (.int .i64 v)) := by
  obtain ⟨a1, a2, a3, a4, a5, a6⟩ := s.far
  exact ⟨s.out.far a1 _ _, s.ord.set hi v, s.rst.far (Ne.symm a4) _ _, own_far s.box (Ne.symm a5) _ _, s.far, s.new, s.low.setCell s.new.2.1 _, by simpa using s.size⟩
theorem Spl.set3 {B g o q h n : Nat} {f1 f2 f3 : Nat → Int} {w W : World} (s : Spl B g o q h n f1 f2 f3 w W) {i : Nat} (hi : i < n) (v : Int) : Spl B g o q h n f1 f2 (upd f3 i v) w (W.setCell ⟨q, i, none⟩ (.int .i64 v)) := by
  obtain ⟨a1, a2, a3, a4, a5, a6⟩ := s.far
  exact ⟨s.out.far a2 _ _, s.ord.far a4 _ _, s.rst.set hi v, own_far s.box (Ne.symm a6) _ _, s.far, s.new, s.low.setCell s.new.2.2.1 _, by simpa using s.size⟩

/-- what the program's product and quotient tell of a weight -/
theorem divided_shr (a all : Int) (x : Nat → Int) (k : Nat) (w : World) (a1 : -4611686018427387904 ≤ a) (a2 : a ≤ 4611686018427387904) (c1 : 1 ≤ all) (c2 : all ≤ 4611686018427387904) (x0 : 0 ≤ x k) (x1 : x k ≤ all) :
    Calls Try.prog 34 #[.int .i64 a, .int .i64 (x k), .int .i64 all] w fun e w' => e = .returned (.tuple #[.int .i64 (shr a all x k), .int .i64 (rst a all x k), .int .i64 0]) ∧ Below w.heap.size w w' := by
  have h := divided_any a (x k) all w a1 a2 (by omega) (by omega) c1 c2
  have hb := shr_bd (a := a) c1 x0 x1
  have e : dvd (a * x k) all = (shr a all x k, rst a all x k, 0) := by unfold dvd; exact if_pos ⟨by show _ ≤ shr a all x k; omega, by show shr a all x k ≤ _; omega⟩
  rw [e] at h
  exact h
/-- the parts of a split -/
def splF (a all : Int) (x : Nat → Int) (n : Nat) : Nat → Int := bmp (ordR a all x n) (shr a all x) (a - sumF (shr a all x) n).toNat
/-- a new row of parts, and that nothing was amiss; what was there ahead of the call is as it was -/
def SplitTo (n : Nat) (f : Nat → Int) (w : World) (e : Ending) (w' : World) : Prop :=
  ∃ g : Nat, e = .returned (.tuple #[.slice (some ⟨g, 0, none⟩) n n, .int .i64 0]) ∧ Row w' g n 2 f ∧ w.heap.size ≤ g ∧ Below w.heap.size w w'
theorem inR_id {n : Nat} : InR n idR := fun k hk => ⟨k, hk, rfl⟩

set_option maxRecDepth 100000 in
set_option maxHeartbeats 4000000 in
theorem numSplit_yes (a : Int) (b off cap : Nat) (xs : List Int) (w : World) (hbw : b < w.heap.size) (hc : ∀ k, k < xs.length → w.cell? ⟨b, off + k, none⟩ = some (.int .i64 (xs.getD k 0)))
    (hb : ∀ k, -9223372036854775808 ≤ xs.getD k 0 ∧ xs.getD k 0 ≤ 9223372036854775807) (ha : amt a = true) (h1 : 1 ≤ xs.length) (h64 : xs.length ≤ 64) (hneg : ¬ Lib.minOf xs < 0) (all : Int) (hs : sumR xs = (all, 0)) (hall : 1 ≤ all)
    (hall2 : all ≤ 4611686018427387904) (hx : ∀ k, k < xs.length → 0 ≤ xs.getD k 0) (hsum : sumF (fun k => xs.getD k 0) xs.length = all) :
    Calls Try.prog 11 #[.int .i64 a, .slice (some ⟨b, off, none⟩) xs.length cap] w (SplitTo xs.length (splF a all (fun k => xs.getD k 0) xs.length) w) := by
  have HA := Lib.hid ha
  have hc2 : ∀ k, k < xs.length → (w.alloc (.cells #[.int .i64 a] 2)).cell? ⟨b, off + k, none⟩ = some (.int .i64 (xs.getD k 0)) := fun k hk => by rw [← hc k hk]; exact World.cell?_alloc_lt _ _ _ hbw
  have HM := Lib.hid (Try.slices_Min_int b off xs.length cap xs (w.alloc (.cells #[.int .i64 a] 2)) (by omega) (by omega) (by omega) hc2)
  have HS := Lib.hid (numSum_any b off cap xs (w.alloc (.cells #[.int .i64 a] 2)) hc2 (by omega) hb)
  have HC : Hid (∀ W, Below w.heap.size w W → ∀ k, k < xs.length → W.cell? ⟨b, off + k, none⟩ = some (.int .i64 (xs.getD k 0))) := Lib.hid (fun W hB k hk => by rw [← hc k hk]; exact hB.cell (p := ⟨b, off + k, none⟩) hbw)
  rw [List.take_length] at HM
  rw [hs] at HS
  have hm6 := make_int64 xs.length (by omega)
  have hm3 := make_int xs.length (by omega)
  clear ha hc hc2 hb hs
  obtain ⟨x, hxd⟩ : ∃ x : Nat → Int, x = fun k => xs.getD k 0 := ⟨_, rfl⟩
  have hxd' : ∀ k, xs.getD k 0 = x k := fun k => by rw [hxd]
  simp only [hxd'] at HC hx hsum
  rw [← hxd]
  have HF : Hid (splF a all x xs.length = bmp (ordR a all x xs.length) (shr a all x) (a - sumF (shr a all x) xs.length).toNat) := Lib.hid rfl
  generalize splF a all x xs.length = FF at *
  generalize hN : xs.length = n at *
  obtain ⟨a1, a2⟩ := amt_iff.1 HA.out
  have HD : Hid (∀ k, k < n → ∀ W, Calls Try.prog 34 #[.int .i64 a, .int .i64 (x k), .int .i64 all] W fun e W' => e = .returned (.tuple #[.int .i64 (shr a all x k), .int .i64 (rst a all x k), .int .i64 0]) ∧ Below W.heap.size W W') :=
    Lib.hid (fun k hk W => divided_shr a all x k W a1 a2 hall hall2 (hx k hk) (by have := one_le_sum hx hk; rw [hsum] at this; exact this))
  have HP : Hid (∀ k, k ≤ n → min a 0 ≤ a - sumF (shr a all x) k ∧ a - sumF (shr a all x) k ≤ max a 0 + k) := Lib.hid (fun k hk => part_bd hall hx hsum hk)
  have HSB : Hid (∀ k, k < n → min a 0 ≤ shr a all x k ∧ shr a all x k ≤ max a 0) := Lib.hid (fun k hk => shr_bd hall (hx k hk) (by have := one_le_sum hx hk; rw [hsum] at this; exact this))
  have HSF : Hid (∀ k, sumF (shr a all x) (k + 1) = sumF (shr a all x) k + shr a all x k) := Lib.hid (fun k => rfl)
  have HSF0 : Hid (sumF (shr a all x) 0 = 0) := Lib.hid rfl
  have HL : Hid (0 ≤ a - sumF (shr a all x) n ∧ a - sumF (shr a all x) n < n) := Lib.hid (left_bd a all x n hall hsum h1)
  have HO : Hid (stab (cR (fun i => rst a all x i.toNat)) n idR = ordR a all x n) := Lib.hid rfl
  have HT : Hid (Turn n (ordR a all x n)) := Lib.hid (turn_ord a all x n)
  generalize ordR a all x n = O at *
  generalize shr a all x = sh at *
  generalize rst a all x = rs at *
  generalize sumF sh = Z at *
  clear hN hxd hxd' hx hsum
  generalize Lib.minOf xs = mn at *
  clear xs
  have ha1 : (all == 0) = false := by simp; omega
  go_enter Try.func11, Try.ntmps11
  go_wp2_with fail
  refine (isOne_any a _).mono ?_
  rintro e w1 ⟨rfl, rfl⟩
  rw [HA.out]
  go_wp2_with fail
  refine HM.out.mono ?_
  rintro e w1 ⟨rfl, rfl⟩
  go_wp2_with fail
  refine HS.out.mono ?_
  rintro e w1 ⟨rfl, hb1⟩
  have HB1 : Hid (Below w.heap.size w w1) := Lib.hid (((Below.refl _ _).alloc (Nat.le_refl _) _).trans (hb1.mono (by simp)))
  have hz1 : w.heap.size ≤ w1.heap.size := by have := hb1.size; simp at this; omega
  clear hb1 HS HM
  unfold Pair
  go_upto_region 6 with fail
  go_cut [8, 9] (fun v8 v9 wx => ∃ g o : Nat, g ≠ o ∧ w.heap.size ≤ g ∧ w.heap.size ≤ o ∧ v8 = .slice (some ⟨g, 0, none⟩) n n ∧ v9 = .slice (some ⟨o, 0, none⟩) n n ∧ Hid (Row wx g n 2 (fun _ => 0)) ∧ Hid (Row wx o n 3 (fun _ => 0)) ∧ Hid (Below w.heap.size w wx))
  case first =>
    go_region
    all_goals go_wp2_with fail
    all_goals go_meet
    · exact ⟨w1.heap.size, w1.heap.size + 1, by omega, by omega, by omega, rfl, rfl, Lib.hid (own_alloc (own_new _ _ _) _), Lib.hid (own_new_at _ _ _ _ (by simp)), Lib.hid (below_drewN ((HB1.out.alloc hz1 _).alloc (by simp; omega) _) 1)⟩
    · exact ⟨w1.heap.size + 1, w1.heap.size, by omega, by omega, by omega, rfl, rfl, Lib.hid (own_new_at _ _ _ _ (by simp)), Lib.hid (own_alloc (own_new _ _ _) _), Lib.hid (below_drewN ((HB1.out.alloc hz1 _).alloc (by simp; omega) _) 1)⟩
  obtain ⟨g, o, hgo, hg, ho, rfl, rfl, HG, HO, HB⟩ := hcut
  clear HB1 hz1 hm3
  have hgz := own_lt HG.out
  have hoz := own_lt HO.out
  go_wp2_with fail
  have hs0 : Spl w.heap.size g o wc.heap.size (wc.heap.size + 1) n (fun _ => 0) (fun _ => 0) (fun _ => 0) w ((wc.alloc (.cells (rowC (fun _ => 0) n) 2)).alloc (.cells #[.slice (some ⟨wc.heap.size, 0, none⟩) n n] 46)) :=
    ⟨(HG.out.alloc _).alloc _, (HO.out.alloc _).alloc _, Row.alloc (own_new _ _ _) _, own_new_at _ _ _ _ (by simp), ⟨hgo, by omega, by omega, by omega, by omega, by omega⟩, ⟨hg, ho, by omega, by omega⟩, (HB.out.alloc (by omega) _).alloc (by simp; omega) _, by simp; omega⟩
  have HS0 := Lib.hid hs0
  clear hs0 HG HO HB hgz hoz hm6
  generalize (wc.alloc (.cells (rowC (fun _ => 0) n) 2)).alloc (.cells #[.slice (some ⟨wc.heap.size, 0, none⟩) n n] 46) = W0 at *
  generalize wc.heap.size + 1 = h at *
  generalize wc.heap.size = q at *
  clear hgo hg ho
  go_loopw [11, 58] (fun vl vi wr => ∃ k : Nat, k ≤ n ∧ vi = .int .i64 k ∧ vl = .int .i64 (a - Z k) ∧ Hid (Spl w.heap.size g o q h n (upTo sh k) (upTo idR k) (upTo rs k) w wr)) (fun _ vi _ => n - (intOf vi).toNat)
  case atStart => exact ⟨0, by omega, rfl, by rw [HSF0.out, Int.sub_zero], by rw [upTo_zero, upTo_zero, upTo_zero]; exact HS0⟩
  case round =>
    obtain ⟨k, hk, rfl, rfl, HS⟩ := hrel
    by_cases hlt : k < n
    · have e1 := HC.out wr HS.out.low k hlt
      have HDk := Lib.hid (HD.out k hlt)
      have e2 := own_cell HS.out.box 0
      have i1 : (k : Int) < (n : Int) := by omega
      have i2 : (0 : Int) ≤ (k : Int) := by omega
      clear HS0
      go_upto_region 12 with fail
      obtain ⟨Held, hh0, hcall, hdrew, hat, hafter, hback⟩ : ∃ Held : World → Prop, Held wr ∧ Hid (∀ W W', Held W → Below W.heap.size W W' → Held W') ∧ Hid (∀ W, Held W → Held W.drew) ∧
          Hid (∀ W, Held W → W.cell? ⟨h, 0, none⟩ = some (.slice (some ⟨q, 0, none⟩) n n)) ∧
          Hid (∀ W, Held W → W.cell? ⟨g, k, none⟩ = some (.int .i64 (upTo sh k k)) ∧ W.frozen? ⟨g, k, none⟩ = false ∧ (W.setCell ⟨g, k, none⟩ (.int .i64 (sh k))).cell? ⟨q, k, none⟩ = some (.int .i64 (upTo rs k k)) ∧ (W.setCell ⟨g, k, none⟩ (.int .i64 (sh k))).frozen? ⟨q, k, none⟩ = false ∧
            (W.setCell ⟨g, k, none⟩ (.int .i64 (sh k))).cell? ⟨h, 0, none⟩ = some (.slice (some ⟨q, 0, none⟩) n n) ∧ ((W.setCell ⟨g, k, none⟩ (.int .i64 (sh k))).setCell ⟨q, k, none⟩ (.int .i64 (rs k))).cell? ⟨h, 0, none⟩ = some (.slice (some ⟨q, 0, none⟩) n n)) ∧
          Hid (∀ W, Held W → Spl w.heap.size g o q h n (upTo sh k) (upTo idR k) (upTo rs k) w W) :=
        ⟨_, HS.out, Lib.hid (fun W W' s hb => s.call hb), Lib.hid (fun W s => s.drew), Lib.hid (fun W s => own_cell s.box 0),
          Lib.hid (fun W s => ⟨s.out.cell hlt, s.out.frz k, (s.set1 hlt _).rst.cell hlt, (s.set1 hlt _).rst.frz k, own_cell (s.set1 hlt _).box 0, own_cell ((s.set1 hlt _).set3 hlt _).box 0⟩), Lib.hid (fun W s => s)⟩
      clear e2
      go_region_held3 (fun W => W.cell? ⟨h, 0, none⟩ = some (.slice (some ⟨q, 0, none⟩) n n))
        (first | exact hat.out _ (by assumption) | exact hat.out _ (hdrew.out _ (by assumption)) | assumption)
        (first | (go_at_call 34; refine (HDk.out _).mono ?_; rintro e W' ⟨rfl, hb⟩
                  (have hh : Held W' := by first | exact hcall.out _ _ (by assumption) hb | exact hcall.out _ _ (hdrew.out _ (by assumption)) hb)
                  obtain ⟨c1, c2, c3, c4, c5, c6⟩ := hafter.out _ hh
                  clear hb))
      have hs3 := ((hback.out _ hh).set1 hlt (sh k)).set3 hlt (rs k)
      rw [upTo_succ, upTo_succ] at hs3
      have HS3 := Lib.hid hs3
      have d1 := hs3.out.cell hlt
      rw [upTo_at _ (Nat.lt_succ_self k)] at d1
      have d2 := hs3.ord.cell hlt
      have d3 := hs3.ord.frz k
      have d4 := (hs3.set2 hlt (k : Int)).out.cell hlt
      rw [upTo_at _ (Nat.lt_succ_self k)] at d4
      have hs4 := hs3.set2 hlt (k : Int)
      have hu : upd (upTo idR k) k (k : Int) = upTo idR (k + 1) := upTo_succ idR k
      rw [hu] at hs4
      have HS4 := Lib.hid hs4
      have hp := HP.out (k + 1) (by omega)
      have hp0 := HP.out k (by omega)
      rw [HSF.out] at hp
      have hw : IntKind.i64.wrap (a - Z k - sh k) = a - Z k - sh k := by rw [IntKind.wrap_i64]; omega
      have hfin : a - Z k - sh k = a - Z (k + 1) := by rw [HSF.out]; omega
      have HFin := Lib.hid hfin
      clear hs3 hs4 hu hfin c1 c2 c3 c4 c5 c6 hh hh0 hcall hdrew hat hafter hback
      clear hp hp0
      generalize (W'.setCell ⟨g, k, none⟩ (.int .i64 (sh k))).setCell ⟨q, k, none⟩ (.int .i64 (rs k)) = W2 at *
      go_wp2_with fail
      exact ⟨⟨k + 1, by omega, by go_num, by rw [HFin.out], HS4⟩, by simp [intOf]; omega⟩
    · have hk2 : k = n := by omega
      subst hk2
      have hs2 : Spl w.heap.size g o q h k sh idR rs w wr := ⟨HS.out.out.congr (fun i hi => upTo_at _ hi), HS.out.ord.congr (fun i hi => upTo_at _ hi), HS.out.rst.congr (fun i hi => upTo_at _ hi), HS.out.box, HS.out.far, HS.out.new, HS.out.low, HS.out.size⟩
      have HS2 := Lib.hid hs2
      have HSo := Lib.hid (sortStable_any o k 3 h q (fun i => rs i.toNat) idR wr (by omega) hs2.ord ⟨own_cell hs2.box 0, fun i hi => hs2.rst.cell hi⟩ (Ne.symm hs2.far.2.2.2.2.1) (Ne.symm hs2.far.2.2.2.1) inR_id)
      rw [HO.out] at HSo
      obtain ⟨l, hl⟩ : ∃ l : Nat, a - Z k = l := ⟨(a - Z k).toNat, by have := HL.out; omega⟩
      have hlk : l < k := by have := HL.out; omega
      rw [hl]
      have HLl := Lib.hid hl
      clear hs2 HS HS0 HC HD HP HSF HSF0 hl
      go_wp2_with fail
      refine HSo.out.mono ?_
      rintro e w5 ⟨rfl, hrow, honly⟩
      have HS5 : Hid (Spl w.heap.size g o q h k (bmp O sh 0) O rs w w5) := Lib.hid ⟨honly.own HS2.out.far.1 HS2.out.out, hrow, honly.own (Ne.symm HS2.out.far.2.2.2.1) HS2.out.rst, honly.own (Ne.symm HS2.out.far.2.2.2.2.1) HS2.out.box,
        HS2.out.far, HS2.out.new, HS2.out.low.trans (honly.below HS2.out.new.2.1), Nat.le_trans HS2.out.size (Nat.le_of_eq honly.size.symm)⟩
      have HBM : Hid (∀ t, bmp O sh (t + 1) = upd (bmp O sh t) (O t).toNat (bmp O sh t (O t).toNat + 1)) := Lib.hid (fun t => rfl)
      have HBA : Hid (∀ t, t ≤ k → ∀ j, j < k → -4611686018427387904 ≤ bmp O sh t j ∧ bmp O sh t j ≤ 4611686018427387905) := Lib.hid (fun t ht j hj => by
        have := HSB.out j hj
        rcases bmp_at O sh k HT.out t ht j with e | ⟨e, _⟩ <;> rw [e] <;> omega)
      clear hrow honly HS2 HSo
      generalize bmp O sh = F at *
      go_wp2_with fail
      go_loopw [95] (fun vi wr => ∃ t : Nat, t ≤ l ∧ vi = .int .i64 t ∧ Hid (Spl w.heap.size g o q h k (F t) O rs w wr)) (fun vi _ => l - (intOf vi).toNat)
      case atStart => exact ⟨0, by omega, rfl, HS5⟩
      case round =>
        obtain ⟨t, ht, rfl, HS⟩ := hrel
        by_cases hlt : t < l
        · have htk : t < k := by omega
          obtain ⟨j, hj⟩ : ∃ j : Nat, O t = j := ⟨(O t).toNat, by have := HT.out.rng t htk; omega⟩
          have hjk : j < k := by have := HT.out.rng t htk; omega
          have e1 := HS.out.ord.cell htk
          rw [hj] at e1
          have e2 := HS.out.out.cell hjk
          have e3 := HS.out.out.frz j
          have hstep := HBM.out t
          rw [hj, Int.toNat_natCast] at hstep
          have hs6 := HS.out.set1 hjk (F t j + 1)
          rw [← hstep] at hs6
          have HS6 := Lib.hid hs6
          have hba := HBA.out t (by omega) j hjk
          clear hs6 hstep hj HS5
          generalize F t j = v at *
          go_wp2_with fail
          exact ⟨⟨t + 1, by omega, by go_num, HS6⟩, by simp [intOf]; omega⟩
        · have htl : t = l := by omega
          subst htl
          go_wp2_with fail
          go_ret2
          exact ⟨g, rfl, by rw [HF.out, HLl.out, Int.toNat_natCast]; exact HS.out.out, HS.out.new.1, HS.out.low⟩
end Go.Proofs.Ythamonfomihncaa
