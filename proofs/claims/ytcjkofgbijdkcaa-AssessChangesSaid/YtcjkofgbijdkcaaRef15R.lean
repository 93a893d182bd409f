/- Package tallageref15: Right. -/
import Derived.WalkKit
import Derived.Outline
import Derived.Lib.Hide
import Derived.Handy
import Derived.Deep.QuietTactic
import Derived.BigQuiet
import Derived.Test.YtcjkofgbijdkcaaRef15
namespace Go.Proofs.Ytcjkofgbijdkcaa
open Go.RowKit

theorem Sch.heads_not {s : Sch} (h : s.heads = false) : s.right = false := by simp [Sch.right, h]

set_option maxRecDepth 100000 in
set_option maxHeartbeats 4000000 in
theorem r15right_heads (s : Sch) (w : World) (hi : s.In w) (h : ¬ (s.heads = true ∧ s.f 0 = 0)) :
    Calls Try.prog 18 #[s.val] w fun e w' => e = .returned (.bool false) ∧ Below w.heap.size w w' := by
  obtain ⟨⟨_, haddr, hbd⟩, hlen, hd, hc, hb, hm, hl⟩ := hi
  have hA : 1 ≤ s.len → ∃ bb off, s.A = some ⟨bb, off, none⟩ ∧ bb < w.heap.size ∧ w.cell? ⟨bb, off, none⟩ = some (.int .i64 (s.f 0)) := fun g => by
    obtain ⟨bb, off, e1, e2, e3⟩ := haddr (by omega)
    exact ⟨bb, off, e1, e2, by simpa [Sch.f] using e3 0 (by omega)⟩
  rw [Sch.heads_iff] at h
  have hf := hbd (0 * 2)
  clear haddr hbd
  have hf2 : i64 (s.f 0) := hf
  clear hf
  generalize s.f 0 = f0 at *
  obtain ⟨A, len, cap, zs, ded, cre, bp, most, least⟩ := s
  simp only [i64, Sch.val] at *
  clear hd hc hl
  by_cases c1 : 1 ≤ len
  · obtain ⟨bb, off, rfl, hbb, e0⟩ := hA c1
    have e1 : (w.alloc (.cells #[.slice (some ⟨bb, off, none⟩) len cap, .int .i64 ded, .int .i64 cre, .int .i64 bp, .int .i64 most, .int .i64 least] 29)).cell? ⟨bb, off, none⟩ = some (.int .i64 f0) := by rw [← e0]; exact Below.cell (B := w.heap.size) ((Below.refl _ _).alloc (Nat.le_refl _) _) hbb
    clear hA
    by_cases c2 : len ≤ 10
    · by_cases c3 : f0 = 0
      · by_cases c4 : 0 ≤ bp
        · by_cases c5 : bp ≤ 10000
          · by_cases c6 : 0 ≤ most
            · have c7 : ¬ most ≤ 60 := fun c7 => h ⟨⟨c1, c2, c4, c5, c6, c7⟩, c3⟩
              clear h
              go_enter Try.func18, Try.ntmps18
              go_wp2_with fail
              go_ret
              exact ⟨rfl, (Below.refl _ _).alloc (Nat.le_refl _) _⟩
            · clear h
              go_enter Try.func18, Try.ntmps18
              go_wp2_with fail
              go_ret
              exact ⟨rfl, (Below.refl _ _).alloc (Nat.le_refl _) _⟩
          · clear h
            go_enter Try.func18, Try.ntmps18
            go_wp2_with fail
            go_ret
            exact ⟨rfl, (Below.refl _ _).alloc (Nat.le_refl _) _⟩
        · clear h
          go_enter Try.func18, Try.ntmps18
          go_wp2_with fail
          go_ret
          exact ⟨rfl, (Below.refl _ _).alloc (Nat.le_refl _) _⟩
      · clear h
        go_enter Try.func18, Try.ntmps18
        go_wp2_with fail
        go_ret
        exact ⟨rfl, (Below.refl _ _).alloc (Nat.le_refl _) _⟩
    · clear h
      go_enter Try.func18, Try.ntmps18
      go_wp2_with fail
      go_ret
      exact ⟨rfl, (Below.refl _ _).alloc (Nat.le_refl _) _⟩
  · clear h hA
    go_enter Try.func18, Try.ntmps18
    go_wp2_with fail
    go_ret
    exact ⟨rfl, (Below.refl _ _).alloc (Nat.le_refl _) _⟩
end Go.Proofs.Ytcjkofgbijdkcaa
