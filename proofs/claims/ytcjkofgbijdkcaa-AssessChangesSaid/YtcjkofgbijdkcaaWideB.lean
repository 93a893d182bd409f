/- The reference's wide numbers: Add, Told, Mul, Div: what they answer; memory that was there stays as it was. -/
import Derived.WalkKit
import Derived.Outline
import Derived.Lib.Hide
import Derived.Deep.QuietTactic
import Derived.BigQuiet
import Derived.Deep.RegionHeld3
import Derived.Handy
import Derived.Test.YtcjkofgbijdkcaaWideA
namespace Go.Proofs.Ytcjkofgbijdkcaa
open Go.RowKit

set_option maxHeartbeats 3200000 in
theorem wadd_same (s : Bool) (n m : Int) (w : World) (n0 : 0 ≤ n) (m0 : 0 ≤ m) (h : n + m < 340282366920938463463374607431768211456) :
    Calls Try.prog 51 #[Wide s n, Wide s m] w fun e w' => e = .returned (Wide s (n + m)) ∧ Below w.heap.size w w' := by
  have hp := fun W => plus_any n m W n0 m0 h
  unfold W4 at hp
  unfold Wide
  generalize dig0 n = a0 at *
  generalize dig1 n = a1 at *
  generalize dig2 n = a2 at *
  generalize dig3 n = a3 at *
  generalize dig0 m = b0 at *
  generalize dig1 m = b1 at *
  generalize dig2 m = b2 at *
  generalize dig3 m = b3 at *
  generalize dig0 (n + m) = c0 at *
  generalize dig1 (n + m) = c1 at *
  generalize dig2 (n + m) = c2 at *
  generalize dig3 (n + m) = c3 at *
  have HP := Lib.hid hp
  clear hp
  go_enter Try.func51, Try.ntmps51
  go_upto_region 2 with fail
  obtain ⟨W0, hW0⟩ : ∃ W0, W0 = ((w.alloc (.cells #[.bool s, .int .u64 a0, .int .u64 a1, .int .u64 a2, .int .u64 a3] 59)).alloc (.cells #[.bool s, .int .u64 b0, .int .u64 b1, .int .u64 b2, .int .u64 b3] 59)).alloc
      (.cells #[.bool false, .int .u64 0, .int .u64 0, .int .u64 0, .int .u64 0] 59) := ⟨_, rfl⟩
  rw [← hW0]
  have hsz : W0.heap.size = w.heap.size + 3 := by rw [hW0]; simp
  have hbl : Below w.heap.size w W0 := by rw [hW0]; exact (((Below.refl _ _).alloc (Nat.le_refl _) _).alloc (by simp) _).alloc (by simp; omega) _
  have r0 : W0.cell? ⟨w.heap.size, 0, none⟩ = some (.bool s) := by rw [hW0]; simp [go_sem]
  have r1 : W0.cell? ⟨w.heap.size, 1, none⟩ = some (.int .u64 a0) := by rw [hW0]; simp [go_sem]
  have r2 : W0.cell? ⟨w.heap.size, 2, none⟩ = some (.int .u64 a1) := by rw [hW0]; simp [go_sem]
  have r3 : W0.cell? ⟨w.heap.size, 3, none⟩ = some (.int .u64 a2) := by rw [hW0]; simp [go_sem]
  have r4 : W0.cell? ⟨w.heap.size, 4, none⟩ = some (.int .u64 a3) := by rw [hW0]; simp [go_sem]
  have s0 : W0.cell? ⟨w.heap.size + 1, 0, none⟩ = some (.bool s) := by rw [hW0]; simp [go_sem]
  have s1 : W0.cell? ⟨w.heap.size + 1, 1, none⟩ = some (.int .u64 b0) := by rw [hW0]; simp [go_sem]
  have s2 : W0.cell? ⟨w.heap.size + 1, 2, none⟩ = some (.int .u64 b1) := by rw [hW0]; simp [go_sem]
  have s3 : W0.cell? ⟨w.heap.size + 1, 3, none⟩ = some (.int .u64 b2) := by rw [hW0]; simp [go_sem]
  have s4 : W0.cell? ⟨w.heap.size + 1, 4, none⟩ = some (.int .u64 b3) := by rw [hW0]; simp [go_sem]
  have o0 : W0.cell? ⟨w.heap.size + 1 + 1, 0, none⟩ = some (.bool false) := by rw [hW0]; simp [go_sem]
  have o1 : W0.cell? ⟨w.heap.size + 1 + 1, 1, none⟩ = some (.int .u64 0) := by rw [hW0]; simp [go_sem]
  have o2 : W0.cell? ⟨w.heap.size + 1 + 1, 2, none⟩ = some (.int .u64 0) := by rw [hW0]; simp [go_sem]
  have o3 : W0.cell? ⟨w.heap.size + 1 + 1, 3, none⟩ = some (.int .u64 0) := by rw [hW0]; simp [go_sem]
  have o4 : W0.cell? ⟨w.heap.size + 1 + 1, 4, none⟩ = some (.int .u64 0) := by rw [hW0]; simp [go_sem]
  have f0 : ∀ i, W0.frozen? ⟨w.heap.size + 1 + 1, i, none⟩ = false := fun i => by rw [hW0]; simp [go_sem]
  have hBE : w.heap.size = w.heap.size := rfl
  generalize hBE' : w.heap.size = B at *
  clear hBE
  have HBE := Lib.hid hBE'
  clear hBE'
  have HS := Lib.hid hsz
  have hn1 : ¬ (B + 1 + 1 = B) := by omega
  have hn2 : ¬ (B = B + 1 + 1) := by omega
  have hkeep : ∀ (w : World) (o o' : Nat) (u : Value), (w.setCell ⟨B + 1 + 1, o, none⟩ u).cell? ⟨B, o', none⟩ = w.cell? ⟨B, o', none⟩ := fun w o o' u => World.cell?_setCell_other w _ _ u (by intro e; injection e; omega)
  clear hW0 hsz
  go_region_held3 (fun w' => w'.cell? ⟨B, 0, none⟩ = some (.bool s) ∧ w'.cell? ⟨B, 1, none⟩ = some (.int .u64 a0) ∧ w'.cell? ⟨B, 2, none⟩ = some (.int .u64 a1) ∧ w'.cell? ⟨B, 3, none⟩ = some (.int .u64 a2) ∧ w'.cell? ⟨B, 4, none⟩ = some (.int .u64 a3) ∧ w'.cell? ⟨B + 1, 0, none⟩ = some (.bool s) ∧ w'.cell? ⟨B + 1, 1, none⟩ = some (.int .u64 b0) ∧ w'.cell? ⟨B + 1, 2, none⟩ = some (.int .u64 b1) ∧ w'.cell? ⟨B + 1, 3, none⟩ = some (.int .u64 b2) ∧ w'.cell? ⟨B + 1, 4, none⟩ = some (.int .u64 b3)) (go_keep)
    (first | (go_at_call 52; refine (HP.out _).mono ?_; rintro e w1 ⟨rfl, hb1⟩; have r0' : w1.cell? ⟨B, 0, none⟩ = some (.bool s) := (hb1.cell (p := ⟨B, 0, none⟩) (by have := HS.out; simp; omega)).trans r0; have r1' : w1.cell? ⟨B, 1, none⟩ = some (.int .u64 a0) := (hb1.cell (p := ⟨B, 1, none⟩) (by have := HS.out; simp; omega)).trans r1; have r2' : w1.cell? ⟨B, 2, none⟩ = some (.int .u64 a1) := (hb1.cell (p := ⟨B, 2, none⟩) (by have := HS.out; simp; omega)).trans r2; have r3' : w1.cell? ⟨B, 3, none⟩ = some (.int .u64 a2) := (hb1.cell (p := ⟨B, 3, none⟩) (by have := HS.out; simp; omega)).trans r3; have r4' : w1.cell? ⟨B, 4, none⟩ = some (.int .u64 a3) := (hb1.cell (p := ⟨B, 4, none⟩) (by have := HS.out; simp; omega)).trans r4; have s0' : w1.cell? ⟨B + 1, 0, none⟩ = some (.bool s) := (hb1.cell (p := ⟨B + 1, 0, none⟩) (by have := HS.out; simp; omega)).trans s0; have s1' : w1.cell? ⟨B + 1, 1, none⟩ = some (.int .u64 b0) := (hb1.cell (p := ⟨B + 1, 1, none⟩) (by have := HS.out; simp; omega)).trans s1; have s2' : w1.cell? ⟨B + 1, 2, none⟩ = some (.int .u64 b1) := (hb1.cell (p := ⟨B + 1, 2, none⟩) (by have := HS.out; simp; omega)).trans s2; have s3' : w1.cell? ⟨B + 1, 3, none⟩ = some (.int .u64 b2) := (hb1.cell (p := ⟨B + 1, 3, none⟩) (by have := HS.out; simp; omega)).trans s3; have s4' : w1.cell? ⟨B + 1, 4, none⟩ = some (.int .u64 b3) := (hb1.cell (p := ⟨B + 1, 4, none⟩) (by have := HS.out; simp; omega)).trans s4; have o0' : w1.cell? ⟨B + 1 + 1, 0, none⟩ = some (.bool false) := (hb1.cell (p := ⟨B + 1 + 1, 0, none⟩) (by have := HS.out; simp; omega)).trans o0; have o1' : w1.cell? ⟨B + 1 + 1, 1, none⟩ = some (.int .u64 0) := (hb1.cell (p := ⟨B + 1 + 1, 1, none⟩) (by have := HS.out; simp; omega)).trans o1; have o2' : w1.cell? ⟨B + 1 + 1, 2, none⟩ = some (.int .u64 0) := (hb1.cell (p := ⟨B + 1 + 1, 2, none⟩) (by have := HS.out; simp; omega)).trans o2; have o3' : w1.cell? ⟨B + 1 + 1, 3, none⟩ = some (.int .u64 0) := (hb1.cell (p := ⟨B + 1 + 1, 3, none⟩) (by have := HS.out; simp; omega)).trans o3; have o4' : w1.cell? ⟨B + 1 + 1, 4, none⟩ = some (.int .u64 0) := (hb1.cell (p := ⟨B + 1 + 1, 4, none⟩) (by have := HS.out; simp; omega)).trans o4; have f0' : ∀ i, w1.frozen? ⟨B + 1 + 1, i, none⟩ = false := fun i => (hb1.frozen (p := ⟨B + 1 + 1, i, none⟩) (by have := HS.out; simp; omega)).trans (f0 i)))
  go_wp2_with fail
  refine bodyPost_ret (v := .agg #[.bool s, .int .u64 c0, .int .u64 c1, .int .u64 c2, .int .u64 c3]) (by simp [results, Try.results51, go_sem, o0', o1', o2', o3', o4']) rfl ⟨rfl, ?_⟩
  rw [HBE.out]
  have hb : Below B w w1 := (hbl.drew).trans (hb1.mono (by have := HS.out; simp; omega))
  repeat' (first | (with_reducible exact Below.refl _ _) | (with_reducible refine below_drewN ?_ _) | (with_reducible refine Below.drew ?_) | (with_reducible refine Below.setCell ?_ ?_ _) | (with_reducible refine Below.alloc ?_ ?_ _) | (with_reducible assumption) | (simp; done) | (simp; omega))

set_option maxHeartbeats 3200000 in
theorem wadd_lt (s t : Bool) (n m : Int) (w : World) (n0 : 0 ≤ n) (h : n < m) (m1 : m < 340282366920938463463374607431768211456) (hst : (s == t) = false) :
    Calls Try.prog 51 #[Wide s n, Wide t m] w fun e w' => e = .returned (Wide t (m - n)) ∧ Below w.heap.size w w' := by
  have hp := fun W => minus_any m n W n0 (by omega) m1
  have hl : ∀ W : World, Calls Try.prog 53 #[W4 n, W4 m] W fun e w' => e = .returned (.bool true) ∧ Below W.heap.size W w' := fun W => (less_any n m W (by omega) (by omega) (by omega) (by omega)).mono fun e w' ⟨he, hb⟩ => ⟨by rw [he, decide_eq_true h], hb⟩
  unfold W4 at hl
  unfold W4 at hp
  unfold Wide
  generalize dig0 n = a0 at *
  generalize dig1 n = a1 at *
  generalize dig2 n = a2 at *
  generalize dig3 n = a3 at *
  generalize dig0 m = b0 at *
  generalize dig1 m = b1 at *
  generalize dig2 m = b2 at *
  generalize dig3 m = b3 at *
  generalize dig0 (m - n) = c0 at *
  generalize dig1 (m - n) = c1 at *
  generalize dig2 (m - n) = c2 at *
  generalize dig3 (m - n) = c3 at *
  have HP := Lib.hid hp
  clear hp
  have HL := Lib.hid hl
  clear hl
  go_enter Try.func51, Try.ntmps51
  go_upto_region 3 with fail
  obtain ⟨W0, hW0⟩ : ∃ W0, W0 = ((w.alloc (.cells #[.bool s, .int .u64 a0, .int .u64 a1, .int .u64 a2, .int .u64 a3] 59)).alloc (.cells #[.bool t, .int .u64 b0, .int .u64 b1, .int .u64 b2, .int .u64 b3] 59)).alloc
      (.cells #[.bool false, .int .u64 0, .int .u64 0, .int .u64 0, .int .u64 0] 59) := ⟨_, rfl⟩
  rw [← hW0]
  have hsz : W0.heap.size = w.heap.size + 3 := by rw [hW0]; simp
  have hbl : Below w.heap.size w W0 := by rw [hW0]; exact (((Below.refl _ _).alloc (Nat.le_refl _) _).alloc (by simp) _).alloc (by simp; omega) _
  have r0 : W0.cell? ⟨w.heap.size, 0, none⟩ = some (.bool s) := by rw [hW0]; simp [go_sem]
  have r1 : W0.cell? ⟨w.heap.size, 1, none⟩ = some (.int .u64 a0) := by rw [hW0]; simp [go_sem]
  have r2 : W0.cell? ⟨w.heap.size, 2, none⟩ = some (.int .u64 a1) := by rw [hW0]; simp [go_sem]
  have r3 : W0.cell? ⟨w.heap.size, 3, none⟩ = some (.int .u64 a2) := by rw [hW0]; simp [go_sem]
  have r4 : W0.cell? ⟨w.heap.size, 4, none⟩ = some (.int .u64 a3) := by rw [hW0]; simp [go_sem]
  have s0 : W0.cell? ⟨w.heap.size + 1, 0, none⟩ = some (.bool t) := by rw [hW0]; simp [go_sem]
  have s1 : W0.cell? ⟨w.heap.size + 1, 1, none⟩ = some (.int .u64 b0) := by rw [hW0]; simp [go_sem]
  have s2 : W0.cell? ⟨w.heap.size + 1, 2, none⟩ = some (.int .u64 b1) := by rw [hW0]; simp [go_sem]
  have s3 : W0.cell? ⟨w.heap.size + 1, 3, none⟩ = some (.int .u64 b2) := by rw [hW0]; simp [go_sem]
  have s4 : W0.cell? ⟨w.heap.size + 1, 4, none⟩ = some (.int .u64 b3) := by rw [hW0]; simp [go_sem]
  have o0 : W0.cell? ⟨w.heap.size + 1 + 1, 0, none⟩ = some (.bool false) := by rw [hW0]; simp [go_sem]
  have o1 : W0.cell? ⟨w.heap.size + 1 + 1, 1, none⟩ = some (.int .u64 0) := by rw [hW0]; simp [go_sem]
  have o2 : W0.cell? ⟨w.heap.size + 1 + 1, 2, none⟩ = some (.int .u64 0) := by rw [hW0]; simp [go_sem]
  have o3 : W0.cell? ⟨w.heap.size + 1 + 1, 3, none⟩ = some (.int .u64 0) := by rw [hW0]; simp [go_sem]
  have o4 : W0.cell? ⟨w.heap.size + 1 + 1, 4, none⟩ = some (.int .u64 0) := by rw [hW0]; simp [go_sem]
  have f0 : ∀ i, W0.frozen? ⟨w.heap.size + 1 + 1, i, none⟩ = false := fun i => by rw [hW0]; simp [go_sem]
  have hBE : w.heap.size = w.heap.size := rfl
  generalize hBE' : w.heap.size = B at *
  clear hBE
  have HBE := Lib.hid hBE'
  clear hBE'
  have HS := Lib.hid hsz
  have hn1 : ¬ (B + 1 + 1 = B) := by omega
  have hn2 : ¬ (B = B + 1 + 1) := by omega
  have hkeep : ∀ (w : World) (o o' : Nat) (u : Value), (w.setCell ⟨B + 1 + 1, o, none⟩ u).cell? ⟨B, o', none⟩ = w.cell? ⟨B, o', none⟩ := fun w o o' u => World.cell?_setCell_other w _ _ u (by intro e; injection e; omega)
  clear hW0 hsz
  go_wp2_with fail
  refine (HL.out _).mono ?_
  rintro e w1 ⟨rfl, hb1⟩
  have hz1 : B + 3 ≤ w1.heap.size := by have h1 := hb1.size; have h2 := HS.out; omega
  have r01 : w1.cell? ⟨B, 0, none⟩ = some (.bool s) := (hb1.cell (p := ⟨B, 0, none⟩) (by have := HS.out; simp; omega)).trans r0
  have r11 : w1.cell? ⟨B, 1, none⟩ = some (.int .u64 a0) := (hb1.cell (p := ⟨B, 1, none⟩) (by have := HS.out; simp; omega)).trans r1
  have r21 : w1.cell? ⟨B, 2, none⟩ = some (.int .u64 a1) := (hb1.cell (p := ⟨B, 2, none⟩) (by have := HS.out; simp; omega)).trans r2
  have r31 : w1.cell? ⟨B, 3, none⟩ = some (.int .u64 a2) := (hb1.cell (p := ⟨B, 3, none⟩) (by have := HS.out; simp; omega)).trans r3
  have r41 : w1.cell? ⟨B, 4, none⟩ = some (.int .u64 a3) := (hb1.cell (p := ⟨B, 4, none⟩) (by have := HS.out; simp; omega)).trans r4
  have s01 : w1.cell? ⟨B + 1, 0, none⟩ = some (.bool t) := (hb1.cell (p := ⟨B + 1, 0, none⟩) (by have := HS.out; simp; omega)).trans s0
  have s11 : w1.cell? ⟨B + 1, 1, none⟩ = some (.int .u64 b0) := (hb1.cell (p := ⟨B + 1, 1, none⟩) (by have := HS.out; simp; omega)).trans s1
  have s21 : w1.cell? ⟨B + 1, 2, none⟩ = some (.int .u64 b1) := (hb1.cell (p := ⟨B + 1, 2, none⟩) (by have := HS.out; simp; omega)).trans s2
  have s31 : w1.cell? ⟨B + 1, 3, none⟩ = some (.int .u64 b2) := (hb1.cell (p := ⟨B + 1, 3, none⟩) (by have := HS.out; simp; omega)).trans s3
  have s41 : w1.cell? ⟨B + 1, 4, none⟩ = some (.int .u64 b3) := (hb1.cell (p := ⟨B + 1, 4, none⟩) (by have := HS.out; simp; omega)).trans s4
  have o01 : w1.cell? ⟨B + 1 + 1, 0, none⟩ = some (.bool false) := (hb1.cell (p := ⟨B + 1 + 1, 0, none⟩) (by have := HS.out; simp; omega)).trans o0
  have o11 : w1.cell? ⟨B + 1 + 1, 1, none⟩ = some (.int .u64 0) := (hb1.cell (p := ⟨B + 1 + 1, 1, none⟩) (by have := HS.out; simp; omega)).trans o1
  have o21 : w1.cell? ⟨B + 1 + 1, 2, none⟩ = some (.int .u64 0) := (hb1.cell (p := ⟨B + 1 + 1, 2, none⟩) (by have := HS.out; simp; omega)).trans o2
  have o31 : w1.cell? ⟨B + 1 + 1, 3, none⟩ = some (.int .u64 0) := (hb1.cell (p := ⟨B + 1 + 1, 3, none⟩) (by have := HS.out; simp; omega)).trans o3
  have o41 : w1.cell? ⟨B + 1 + 1, 4, none⟩ = some (.int .u64 0) := (hb1.cell (p := ⟨B + 1 + 1, 4, none⟩) (by have := HS.out; simp; omega)).trans o4
  have f01 : ∀ i, w1.frozen? ⟨B + 1 + 1, i, none⟩ = false := fun i => (hb1.frozen (p := ⟨B + 1 + 1, i, none⟩) (by have := HS.out; simp; omega)).trans (f0 i)
  clear r0 r1 r2 r3 r4 s0 s1 s2 s3 s4 o0 o1 o2 o3 o4 f0
  go_upto_region 5 with fail
  go_region_held3 (fun w' => w'.cell? ⟨B, 0, none⟩ = some (.bool s) ∧ w'.cell? ⟨B, 1, none⟩ = some (.int .u64 a0) ∧ w'.cell? ⟨B, 2, none⟩ = some (.int .u64 a1) ∧ w'.cell? ⟨B, 3, none⟩ = some (.int .u64 a2) ∧ w'.cell? ⟨B, 4, none⟩ = some (.int .u64 a3) ∧ w'.cell? ⟨B + 1, 0, none⟩ = some (.bool t) ∧ w'.cell? ⟨B + 1, 1, none⟩ = some (.int .u64 b0) ∧ w'.cell? ⟨B + 1, 2, none⟩ = some (.int .u64 b1) ∧ w'.cell? ⟨B + 1, 3, none⟩ = some (.int .u64 b2) ∧ w'.cell? ⟨B + 1, 4, none⟩ = some (.int .u64 b3)) (go_keep)
    (first | (go_at_call 62; refine (HP.out _).mono ?_; rintro e w2 ⟨rfl, hb2⟩; have r02 : w2.cell? ⟨B, 0, none⟩ = some (.bool s) := (hb2.cell (p := ⟨B, 0, none⟩) (by have := hz1; simp; omega)).trans r01; have r12 : w2.cell? ⟨B, 1, none⟩ = some (.int .u64 a0) := (hb2.cell (p := ⟨B, 1, none⟩) (by have := hz1; simp; omega)).trans r11; have r22 : w2.cell? ⟨B, 2, none⟩ = some (.int .u64 a1) := (hb2.cell (p := ⟨B, 2, none⟩) (by have := hz1; simp; omega)).trans r21; have r32 : w2.cell? ⟨B, 3, none⟩ = some (.int .u64 a2) := (hb2.cell (p := ⟨B, 3, none⟩) (by have := hz1; simp; omega)).trans r31; have r42 : w2.cell? ⟨B, 4, none⟩ = some (.int .u64 a3) := (hb2.cell (p := ⟨B, 4, none⟩) (by have := hz1; simp; omega)).trans r41; have s02 : w2.cell? ⟨B + 1, 0, none⟩ = some (.bool t) := (hb2.cell (p := ⟨B + 1, 0, none⟩) (by have := hz1; simp; omega)).trans s01; have s12 : w2.cell? ⟨B + 1, 1, none⟩ = some (.int .u64 b0) := (hb2.cell (p := ⟨B + 1, 1, none⟩) (by have := hz1; simp; omega)).trans s11; have s22 : w2.cell? ⟨B + 1, 2, none⟩ = some (.int .u64 b1) := (hb2.cell (p := ⟨B + 1, 2, none⟩) (by have := hz1; simp; omega)).trans s21; have s32 : w2.cell? ⟨B + 1, 3, none⟩ = some (.int .u64 b2) := (hb2.cell (p := ⟨B + 1, 3, none⟩) (by have := hz1; simp; omega)).trans s31; have s42 : w2.cell? ⟨B + 1, 4, none⟩ = some (.int .u64 b3) := (hb2.cell (p := ⟨B + 1, 4, none⟩) (by have := hz1; simp; omega)).trans s41; have o02 : w2.cell? ⟨B + 1 + 1, 0, none⟩ = some (.bool false) := (hb2.cell (p := ⟨B + 1 + 1, 0, none⟩) (by have := hz1; simp; omega)).trans o01; have o12 : w2.cell? ⟨B + 1 + 1, 1, none⟩ = some (.int .u64 0) := (hb2.cell (p := ⟨B + 1 + 1, 1, none⟩) (by have := hz1; simp; omega)).trans o11; have o22 : w2.cell? ⟨B + 1 + 1, 2, none⟩ = some (.int .u64 0) := (hb2.cell (p := ⟨B + 1 + 1, 2, none⟩) (by have := hz1; simp; omega)).trans o21; have o32 : w2.cell? ⟨B + 1 + 1, 3, none⟩ = some (.int .u64 0) := (hb2.cell (p := ⟨B + 1 + 1, 3, none⟩) (by have := hz1; simp; omega)).trans o31; have o42 : w2.cell? ⟨B + 1 + 1, 4, none⟩ = some (.int .u64 0) := (hb2.cell (p := ⟨B + 1 + 1, 4, none⟩) (by have := hz1; simp; omega)).trans o41; have f02 : ∀ i, w2.frozen? ⟨B + 1 + 1, i, none⟩ = false := fun i => (hb2.frozen (p := ⟨B + 1 + 1, i, none⟩) (by have := hz1; simp; omega)).trans (f01 i)))
  go_wp2_with fail
  refine bodyPost_ret (v := .agg #[.bool t, .int .u64 c0, .int .u64 c1, .int .u64 c2, .int .u64 c3]) (by simp [results, Try.results51, go_sem, o02, o12, o22, o32, o42]) rfl ⟨rfl, ?_⟩
  rw [HBE.out]
  have hb : Below B w w2 := (hbl.trans (hb1.mono (by have := HS.out; omega))).drew.trans (hb2.mono (by have := hz1; simp; omega))
  repeat' (first | (with_reducible exact Below.refl _ _) | (with_reducible refine below_drewN ?_ _) | (with_reducible refine Below.drew ?_) | (with_reducible refine Below.setCell ?_ ?_ _) | (with_reducible refine Below.alloc ?_ ?_ _) | (with_reducible assumption) | (simp; done) | (simp; omega))

set_option maxHeartbeats 3200000 in
theorem wadd_ge (s t : Bool) (n m : Int) (w : World) (m0 : 0 ≤ m) (h : m ≤ n) (n1 : n < 340282366920938463463374607431768211456) (hst : (s == t) = false) :
    Calls Try.prog 51 #[Wide s n, Wide t m] w fun e w' => e = .returned (Wide s (n - m)) ∧ Below w.heap.size w w' := by
  have hp := fun W => minus_any n m W m0 h n1
  have hl : ∀ W : World, Calls Try.prog 53 #[W4 n, W4 m] W fun e w' => e = .returned (.bool false) ∧ Below W.heap.size W w' := fun W => (less_any n m W (by omega) (by omega) (by omega) (by omega)).mono fun e w' ⟨he, hb⟩ => ⟨by rw [he, decide_eq_false (by omega)], hb⟩
  unfold W4 at hl
  unfold W4 at hp
  unfold Wide
  generalize dig0 n = a0 at *
  generalize dig1 n = a1 at *
  generalize dig2 n = a2 at *
  generalize dig3 n = a3 at *
  generalize dig0 m = b0 at *
  generalize dig1 m = b1 at *
  generalize dig2 m = b2 at *
  generalize dig3 m = b3 at *
  generalize dig0 (n - m) = c0 at *
  generalize dig1 (n - m) = c1 at *
  generalize dig2 (n - m) = c2 at *
  generalize dig3 (n - m) = c3 at *
  have HP := Lib.hid hp
  clear hp
  have HL := Lib.hid hl
  clear hl
  go_enter Try.func51, Try.ntmps51
  go_upto_region 3 with fail
  obtain ⟨W0, hW0⟩ : ∃ W0, W0 = ((w.alloc (.cells #[.bool s, .int .u64 a0, .int .u64 a1, .int .u64 a2, .int .u64 a3] 59)).alloc (.cells #[.bool t, .int .u64 b0, .int .u64 b1, .int .u64 b2, .int .u64 b3] 59)).alloc
      (.cells #[.bool false, .int .u64 0, .int .u64 0, .int .u64 0, .int .u64 0] 59) := ⟨_, rfl⟩
  rw [← hW0]
  have hsz : W0.heap.size = w.heap.size + 3 := by rw [hW0]; simp
  have hbl : Below w.heap.size w W0 := by rw [hW0]; exact (((Below.refl _ _).alloc (Nat.le_refl _) _).alloc (by simp) _).alloc (by simp; omega) _
  have r0 : W0.cell? ⟨w.heap.size, 0, none⟩ = some (.bool s) := by rw [hW0]; simp [go_sem]
  have r1 : W0.cell? ⟨w.heap.size, 1, none⟩ = some (.int .u64 a0) := by rw [hW0]; simp [go_sem]
  have r2 : W0.cell? ⟨w.heap.size, 2, none⟩ = some (.int .u64 a1) := by rw [hW0]; simp [go_sem]
  have r3 : W0.cell? ⟨w.heap.size, 3, none⟩ = some (.int .u64 a2) := by rw [hW0]; simp [go_sem]
  have r4 : W0.cell? ⟨w.heap.size, 4, none⟩ = some (.int .u64 a3) := by rw [hW0]; simp [go_sem]
  have s0 : W0.cell? ⟨w.heap.size + 1, 0, none⟩ = some (.bool t) := by rw [hW0]; simp [go_sem]
  have s1 : W0.cell? ⟨w.heap.size + 1, 1, none⟩ = some (.int .u64 b0) := by rw [hW0]; simp [go_sem]
  have s2 : W0.cell? ⟨w.heap.size + 1, 2, none⟩ = some (.int .u64 b1) := by rw [hW0]; simp [go_sem]
  have s3 : W0.cell? ⟨w.heap.size + 1, 3, none⟩ = some (.int .u64 b2) := by rw [hW0]; simp [go_sem]
  have s4 : W0.cell? ⟨w.heap.size + 1, 4, none⟩ = some (.int .u64 b3) := by rw [hW0]; simp [go_sem]
  have o0 : W0.cell? ⟨w.heap.size + 1 + 1, 0, none⟩ = some (.bool false) := by rw [hW0]; simp [go_sem]
  have o1 : W0.cell? ⟨w.heap.size + 1 + 1, 1, none⟩ = some (.int .u64 0) := by rw [hW0]; simp [go_sem]
  have o2 : W0.cell? ⟨w.heap.size + 1 + 1, 2, none⟩ = some (.int .u64 0) := by rw [hW0]; simp [go_sem]
  have o3 : W0.cell? ⟨w.heap.size + 1 + 1, 3, none⟩ = some (.int .u64 0) := by rw [hW0]; simp [go_sem]
  have o4 : W0.cell? ⟨w.heap.size + 1 + 1, 4, none⟩ = some (.int .u64 0) := by rw [hW0]; simp [go_sem]
  have f0 : ∀ i, W0.frozen? ⟨w.heap.size + 1 + 1, i, none⟩ = false := fun i => by rw [hW0]; simp [go_sem]
  have hBE : w.heap.size = w.heap.size := rfl
  generalize hBE' : w.heap.size = B at *
  clear hBE
  have HBE := Lib.hid hBE'
  clear hBE'
  have HS := Lib.hid hsz
  have hn1 : ¬ (B + 1 + 1 = B) := by omega
  have hn2 : ¬ (B = B + 1 + 1) := by omega
  have hkeep : ∀ (w : World) (o o' : Nat) (u : Value), (w.setCell ⟨B + 1 + 1, o, none⟩ u).cell? ⟨B, o', none⟩ = w.cell? ⟨B, o', none⟩ := fun w o o' u => World.cell?_setCell_other w _ _ u (by intro e; injection e; omega)
  clear hW0 hsz
  go_wp2_with fail
  refine (HL.out _).mono ?_
  rintro e w1 ⟨rfl, hb1⟩
  have hz1 : B + 3 ≤ w1.heap.size := by have h1 := hb1.size; have h2 := HS.out; omega
  have r01 : w1.cell? ⟨B, 0, none⟩ = some (.bool s) := (hb1.cell (p := ⟨B, 0, none⟩) (by have := HS.out; simp; omega)).trans r0
  have r11 : w1.cell? ⟨B, 1, none⟩ = some (.int .u64 a0) := (hb1.cell (p := ⟨B, 1, none⟩) (by have := HS.out; simp; omega)).trans r1
  have r21 : w1.cell? ⟨B, 2, none⟩ = some (.int .u64 a1) := (hb1.cell (p := ⟨B, 2, none⟩) (by have := HS.out; simp; omega)).trans r2
  have r31 : w1.cell? ⟨B, 3, none⟩ = some (.int .u64 a2) := (hb1.cell (p := ⟨B, 3, none⟩) (by have := HS.out; simp; omega)).trans r3
  have r41 : w1.cell? ⟨B, 4, none⟩ = some (.int .u64 a3) := (hb1.cell (p := ⟨B, 4, none⟩) (by have := HS.out; simp; omega)).trans r4
  have s01 : w1.cell? ⟨B + 1, 0, none⟩ = some (.bool t) := (hb1.cell (p := ⟨B + 1, 0, none⟩) (by have := HS.out; simp; omega)).trans s0
  have s11 : w1.cell? ⟨B + 1, 1, none⟩ = some (.int .u64 b0) := (hb1.cell (p := ⟨B + 1, 1, none⟩) (by have := HS.out; simp; omega)).trans s1
  have s21 : w1.cell? ⟨B + 1, 2, none⟩ = some (.int .u64 b1) := (hb1.cell (p := ⟨B + 1, 2, none⟩) (by have := HS.out; simp; omega)).trans s2
  have s31 : w1.cell? ⟨B + 1, 3, none⟩ = some (.int .u64 b2) := (hb1.cell (p := ⟨B + 1, 3, none⟩) (by have := HS.out; simp; omega)).trans s3
  have s41 : w1.cell? ⟨B + 1, 4, none⟩ = some (.int .u64 b3) := (hb1.cell (p := ⟨B + 1, 4, none⟩) (by have := HS.out; simp; omega)).trans s4
  have o01 : w1.cell? ⟨B + 1 + 1, 0, none⟩ = some (.bool false) := (hb1.cell (p := ⟨B + 1 + 1, 0, none⟩) (by have := HS.out; simp; omega)).trans o0
  have o11 : w1.cell? ⟨B + 1 + 1, 1, none⟩ = some (.int .u64 0) := (hb1.cell (p := ⟨B + 1 + 1, 1, none⟩) (by have := HS.out; simp; omega)).trans o1
  have o21 : w1.cell? ⟨B + 1 + 1, 2, none⟩ = some (.int .u64 0) := (hb1.cell (p := ⟨B + 1 + 1, 2, none⟩) (by have := HS.out; simp; omega)).trans o2
  have o31 : w1.cell? ⟨B + 1 + 1, 3, none⟩ = some (.int .u64 0) := (hb1.cell (p := ⟨B + 1 + 1, 3, none⟩) (by have := HS.out; simp; omega)).trans o3
  have o41 : w1.cell? ⟨B + 1 + 1, 4, none⟩ = some (.int .u64 0) := (hb1.cell (p := ⟨B + 1 + 1, 4, none⟩) (by have := HS.out; simp; omega)).trans o4
  have f01 : ∀ i, w1.frozen? ⟨B + 1 + 1, i, none⟩ = false := fun i => (hb1.frozen (p := ⟨B + 1 + 1, i, none⟩) (by have := HS.out; simp; omega)).trans (f0 i)
  clear r0 r1 r2 r3 r4 s0 s1 s2 s3 s4 o0 o1 o2 o3 o4 f0
  go_upto_region 6 with fail
  go_region_held3 (fun w' => w'.cell? ⟨B, 0, none⟩ = some (.bool s) ∧ w'.cell? ⟨B, 1, none⟩ = some (.int .u64 a0) ∧ w'.cell? ⟨B, 2, none⟩ = some (.int .u64 a1) ∧ w'.cell? ⟨B, 3, none⟩ = some (.int .u64 a2) ∧ w'.cell? ⟨B, 4, none⟩ = some (.int .u64 a3) ∧ w'.cell? ⟨B + 1, 0, none⟩ = some (.bool t) ∧ w'.cell? ⟨B + 1, 1, none⟩ = some (.int .u64 b0) ∧ w'.cell? ⟨B + 1, 2, none⟩ = some (.int .u64 b1) ∧ w'.cell? ⟨B + 1, 3, none⟩ = some (.int .u64 b2) ∧ w'.cell? ⟨B + 1, 4, none⟩ = some (.int .u64 b3)) (go_keep)
    (first | (go_at_call 62; refine (HP.out _).mono ?_; rintro e w2 ⟨rfl, hb2⟩; have r02 : w2.cell? ⟨B, 0, none⟩ = some (.bool s) := (hb2.cell (p := ⟨B, 0, none⟩) (by have := hz1; simp; omega)).trans r01; have r12 : w2.cell? ⟨B, 1, none⟩ = some (.int .u64 a0) := (hb2.cell (p := ⟨B, 1, none⟩) (by have := hz1; simp; omega)).trans r11; have r22 : w2.cell? ⟨B, 2, none⟩ = some (.int .u64 a1) := (hb2.cell (p := ⟨B, 2, none⟩) (by have := hz1; simp; omega)).trans r21; have r32 : w2.cell? ⟨B, 3, none⟩ = some (.int .u64 a2) := (hb2.cell (p := ⟨B, 3, none⟩) (by have := hz1; simp; omega)).trans r31; have r42 : w2.cell? ⟨B, 4, none⟩ = some (.int .u64 a3) := (hb2.cell (p := ⟨B, 4, none⟩) (by have := hz1; simp; omega)).trans r41; have s02 : w2.cell? ⟨B + 1, 0, none⟩ = some (.bool t) := (hb2.cell (p := ⟨B + 1, 0, none⟩) (by have := hz1; simp; omega)).trans s01; have s12 : w2.cell? ⟨B + 1, 1, none⟩ = some (.int .u64 b0) := (hb2.cell (p := ⟨B + 1, 1, none⟩) (by have := hz1; simp; omega)).trans s11; have s22 : w2.cell? ⟨B + 1, 2, none⟩ = some (.int .u64 b1) := (hb2.cell (p := ⟨B + 1, 2, none⟩) (by have := hz1; simp; omega)).trans s21; have s32 : w2.cell? ⟨B + 1, 3, none⟩ = some (.int .u64 b2) := (hb2.cell (p := ⟨B + 1, 3, none⟩) (by have := hz1; simp; omega)).trans s31; have s42 : w2.cell? ⟨B + 1, 4, none⟩ = some (.int .u64 b3) := (hb2.cell (p := ⟨B + 1, 4, none⟩) (by have := hz1; simp; omega)).trans s41; have o02 : w2.cell? ⟨B + 1 + 1, 0, none⟩ = some (.bool false) := (hb2.cell (p := ⟨B + 1 + 1, 0, none⟩) (by have := hz1; simp; omega)).trans o01; have o12 : w2.cell? ⟨B + 1 + 1, 1, none⟩ = some (.int .u64 0) := (hb2.cell (p := ⟨B + 1 + 1, 1, none⟩) (by have := hz1; simp; omega)).trans o11; have o22 : w2.cell? ⟨B + 1 + 1, 2, none⟩ = some (.int .u64 0) := (hb2.cell (p := ⟨B + 1 + 1, 2, none⟩) (by have := hz1; simp; omega)).trans o21; have o32 : w2.cell? ⟨B + 1 + 1, 3, none⟩ = some (.int .u64 0) := (hb2.cell (p := ⟨B + 1 + 1, 3, none⟩) (by have := hz1; simp; omega)).trans o31; have o42 : w2.cell? ⟨B + 1 + 1, 4, none⟩ = some (.int .u64 0) := (hb2.cell (p := ⟨B + 1 + 1, 4, none⟩) (by have := hz1; simp; omega)).trans o41; have f02 : ∀ i, w2.frozen? ⟨B + 1 + 1, i, none⟩ = false := fun i => (hb2.frozen (p := ⟨B + 1 + 1, i, none⟩) (by have := hz1; simp; omega)).trans (f01 i)))
  go_wp2_with fail
  refine bodyPost_ret (v := .agg #[.bool s, .int .u64 c0, .int .u64 c1, .int .u64 c2, .int .u64 c3]) (by simp [results, Try.results51, go_sem, o02, o12, o22, o32, o42]) rfl ⟨rfl, ?_⟩
  rw [HBE.out]
  have hb : Below B w w2 := (hbl.trans (hb1.mono (by have := HS.out; omega))).drew.trans (hb2.mono (by have := hz1; simp; omega))
  repeat' (first | (with_reducible exact Below.refl _ _) | (with_reducible refine below_drewN ?_ _) | (with_reducible refine Below.drew ?_) | (with_reducible refine Below.setCell ?_ ?_ _) | (with_reducible refine Below.alloc ?_ ?_ _) | (with_reducible assumption) | (simp; done) | (simp; omega))

theorem wadd_any (s t : Bool) (n m : Int) (w : World) (n0 : 0 ≤ n) (m0 : 0 ≤ m) (h : n + m < 340282366920938463463374607431768211456) :
    Calls Try.prog 51 #[Wide s n, Wide t m] w fun e w' => e = .returned (Wide (addW s n t m).1 (addW s n t m).2) ∧ Below w.heap.size w w' := by
  by_cases c : s = t
  · subst c
    have := wadd_same s n m w n0 m0 h
    simpa [addW] using this
  · have hst : (s == t) = false := by simpa using c
    by_cases d : n < m
    · have := wadd_lt s t n m w n0 d (by omega) hst
      simpa [addW, c, d] using this
    · have := wadd_ge s t n m w m0 (by omega) (by omega) hst
      simpa [addW, c, d] using this
end Go.Proofs.Ytcjkofgbijdkcaa
