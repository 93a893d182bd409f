/- Package num: Split, of any amount and weights: what it answers; memory that was there stays as it was. -/
import Derived.WalkKit
import Derived.Outline
import Derived.Lib.Hide
import Derived.Handy
import Derived.Deep.QuietTactic
import Derived.BigQuiet
import Derived.Deep.RegionHeld3
import Derived.Deep.DeepCutAuto
import Derived.Laws.MakeOwn
import Derived.Test.YthamonfomihncaaNumSum
import Derived.Test.YthamonfomihncaaSortZ
import Derived.Test.YthamonfomihncaaSplitM
import Derived.Test.YthamonfomihncaaInts
namespace Go.Proofs.Ythamonfomihncaa
open Go.RowKit

/-- may an amount be split by these weights? -/
def splitOk (a : Int) (l : List Int) : Bool := amt a && decide (1 ≤ l.length ∧ l.length ≤ 64) && l.all (fun x => decide (0 ≤ x)) && ((sumR l).2 == 0 && (sumR l).1 != 0)
theorem foldl_min_neg : ∀ (l : List Int) (a : Int), l.foldl min a < 0 ↔ a < 0 ∨ l.all (fun x => decide (0 ≤ x)) = false
  | [], a => by simp
  | x :: l, a => by
    rw [List.foldl_cons, foldl_min_neg l (min a x)]
    by_cases h : 0 ≤ x
    · simp only [List.all_cons, h, decide_true, Bool.true_and]; constructor
      · rintro (g | g)
        · left; omega
        · right; exact g
      · rintro (g | g)
        · left; omega
        · right; exact g
    · simp only [List.all_cons, h, decide_false, Bool.false_and]
      constructor
      · intro _; right; trivial
      · intro _; left; omega
theorem min_neg (l : List Int) (h : 0 < l.length) : Lib.minOf l < 0 ↔ l.all (fun x => decide (0 ≤ x)) = false := by
  unfold Lib.minOf
  rw [foldl_min_neg]
  constructor
  · rintro (g | g)
    · cases l with
      | nil => simp at h
      | cons x l => simp only [List.headD_cons] at g; simp [show ¬ 0 ≤ x by omega]
    · exact g
  · intro g; right; exact g

set_option maxRecDepth 100000 in
set_option maxHeartbeats 1000000 in
theorem isOne_any (a : Int) (w : World) : Calls Try.prog 32 #[.slice (some ⟨w.heap.size, 0, none⟩) 1 1] (w.alloc (.cells #[.int .i64 a] 2)) fun e w' => e = .returned (.bool (amt a)) ∧ w.alloc (.cells #[.int .i64 a] 2) = w' := by
  have := is_any w.heap.size 0 1 [a] (w.alloc (.cells #[.int .i64 a] 2)) (fun k hk => by
    match k, hk with
    | 0, _ => simp [go_sem]) (by simp)
  simpa using this

/-- nothing, and that an argument is amiss -/
def NoSplit : Ending := .returned (.tuple #[.slice none 0 0, .int .i64 1])

set_option maxRecDepth 100000 in
set_option maxHeartbeats 1000000 in
theorem numSplit_no1 (a : Int) (A : Option Addr) (n cap : Nat) (w : World) (h : amt a = false ∨ n < 1 ∨ 64 < n) (hn : n ≤ 9223372036854775807) :
    Calls Try.prog 11 #[.int .i64 a, .slice A n cap] w fun e w' => e = NoSplit ∧ Below w.heap.size w w' := by
  cases ha : amt a with
  | false =>
    have HA := Lib.hid ha
    clear h ha
    go_enter Try.func11, Try.ntmps11
    go_wp2_with fail
    refine (isOne_any a _).mono ?_
    rintro e w1 ⟨rfl, rfl⟩
    rw [HA.out]
    go_wp2_with fail
    go_ret2
    exact ⟨rfl, (Below.refl _ _).alloc (Nat.le_refl _) _⟩
  | true =>
    have HA := Lib.hid ha
    have h' : n < 1 ∨ 64 < n := by
      rcases h with h | h
      · rw [ha] at h; cases h
      · exact h
    clear h ha
    rcases h' with h | h
    · go_enter Try.func11, Try.ntmps11
      go_wp2_with fail
      refine (isOne_any a _).mono ?_
      rintro e w1 ⟨rfl, rfl⟩
      rw [HA.out]
      go_wp2_with fail
      go_ret2
      exact ⟨rfl, (Below.refl _ _).alloc (Nat.le_refl _) _⟩
    · go_enter Try.func11, Try.ntmps11
      go_wp2_with fail
      refine (isOne_any a _).mono ?_
      rintro e w1 ⟨rfl, rfl⟩
      rw [HA.out]
      go_wp2_with fail
      go_ret2
      exact ⟨rfl, (Below.refl _ _).alloc (Nat.le_refl _) _⟩

set_option maxRecDepth 100000 in
set_option maxHeartbeats 2000000 in
theorem numSplit_no2 (a : Int) (b off cap : Nat) (xs : List Int) (w : World) (hbw : b < w.heap.size) (hc : ∀ k, k < xs.length → w.cell? ⟨b, off + k, none⟩ = some (.int .i64 (xs.getD k 0)))
    (hb : ∀ k, -9223372036854775808 ≤ xs.getD k 0 ∧ xs.getD k 0 ≤ 9223372036854775807) (ha : amt a = true) (h1 : 1 ≤ xs.length) (h64 : xs.length ≤ 64)
    (h : xs.all (fun x => decide (0 ≤ x)) = false ∨ (sumR xs).2 ≠ 0 ∨ (sumR xs).1 = 0) :
    Calls Try.prog 11 #[.int .i64 a, .slice (some ⟨b, off, none⟩) xs.length cap] w fun e w' => e = NoSplit ∧ Below w.heap.size w w' := by
  have HA := Lib.hid ha
  have hc2 : ∀ k, k < xs.length → (w.alloc (.cells #[.int .i64 a] 2)).cell? ⟨b, off + k, none⟩ = some (.int .i64 (xs.getD k 0)) := fun k hk => by rw [← hc k hk]; exact World.cell?_alloc_lt _ _ _ hbw
  have HM := Lib.hid (Try.slices_Min_int b off xs.length cap xs (w.alloc (.cells #[.int .i64 a] 2)) (by omega) (by omega) (by omega) hc2)
  have HS := Lib.hid (numSum_any b off cap xs (w.alloc (.cells #[.int .i64 a] 2)) hc2 (by omega) hb)
  have hmn := min_neg xs (by omega)
  rw [List.take_length] at HM
  clear ha hc hc2 hb
  generalize hN : xs.length = n at *
  by_cases hneg : Lib.minOf xs < 0
  · clear h hmn
    generalize Lib.minOf xs = mn at *
    go_enter Try.func11, Try.ntmps11
    go_wp2_with fail
    refine (isOne_any a _).mono ?_
    rintro e w1 ⟨rfl, rfl⟩
    rw [HA.out]
    go_wp2_with fail
    refine HM.out.mono ?_
    rintro e w1 ⟨rfl, rfl⟩
    go_wp2_with fail
    go_ret2
    exact ⟨rfl, (Below.refl _ _).alloc (Nat.le_refl _) _⟩
  · have h' : (sumR xs).2 ≠ 0 ∨ (sumR xs).1 = 0 := by
      rcases h with h | h
      · exact absurd (hmn.2 h) hneg
      · exact h
    clear h hmn
    generalize Lib.minOf xs = mn at *
    generalize sumR xs = S at *
    obtain ⟨s, e⟩ := S
    simp only at h'
    by_cases he : e = 0
    · subst he
      have hs : s = 0 := h'.resolve_left (fun h => h rfl)
      subst hs
      clear h'
      go_enter Try.func11, Try.ntmps11
      go_wp2_with fail
      refine (isOne_any a _).mono ?_
      rintro e w1 ⟨rfl, rfl⟩
      rw [HA.out]
      go_wp2_with fail
      refine HM.out.mono ?_
      rintro e w1 ⟨rfl, rfl⟩
      go_wp2_with fail
      refine HS.out.mono ?_
      rintro e w1 ⟨rfl, hb1⟩
      have HB1 := Lib.hid hb1
      clear hb1
      unfold Pair
      go_wp2_with fail
      go_ret2
      exact ⟨rfl, ((Below.refl _ _).alloc (Nat.le_refl _) _).trans (HB1.out.mono (by simp))⟩
    · clear h'
      have he' : (e != 0) = true := by simpa using he
      go_enter Try.func11, Try.ntmps11
      go_wp2_with fail
      refine (isOne_any a _).mono ?_
      rintro e w1 ⟨rfl, rfl⟩
      rw [HA.out]
      go_wp2_with fail
      refine HM.out.mono ?_
      rintro e w1 ⟨rfl, rfl⟩
      go_wp2_with fail
      refine HS.out.mono ?_
      rintro e w1 ⟨rfl, hb1⟩
      have HB1 := Lib.hid hb1
      clear hb1
      unfold Pair
      go_wp2_with fail
      go_ret2
      exact ⟨rfl, ((Below.refl _ _).alloc (Nat.le_refl _) _).trans (HB1.out.mono (by simp))⟩
end Go.Proofs.Ythamonfomihncaa
