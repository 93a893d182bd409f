/- Split of any amount by any weights, by the program. -/
import Derived.WalkKit
import Derived.Outline
import Derived.Lib.Hide
import Derived.Handy
import Derived.Test.YthamonfomihncaaSplitY
namespace Go.Proofs.Ythamonfomihncaa
open Go.RowKit

theorem sumI_eq (xs : List Int) : ∀ n, sumI xs n = sumF (fun k => xs.getD k 0) n
  | 0 => rfl
  | n + 1 => by simp only [sumI, sumF]; rw [sumI_eq xs n]
/-- what weights are by which an amount may be split -/
theorem splitOk_is {a : Int} {l : List Int} (h : splitOk a l = true) : amt a = true ∧ 1 ≤ l.length ∧ l.length ≤ 64 ∧ (∀ k, k < l.length → 0 ≤ l.getD k 0) ∧ sumR l = ((sumR l).1, 0) ∧ 1 ≤ (sumR l).1 ∧ (sumR l).1 ≤ 4611686018427387904 ∧
    sumF (fun k => l.getD k 0) l.length = (sumR l).1 := by
  simp only [splitOk, Bool.and_eq_true, decide_eq_true_eq, beq_iff_eq, bne_iff_ne, ne_eq] at h
  obtain ⟨⟨⟨h1, h2, h3⟩, h4⟩, h5, h6⟩ := h
  have hx : ∀ k, k < l.length → 0 ≤ l.getD k 0 := fun k hk => by
    have := List.all_eq_true.1 h4 (l.getD k 0) (by simp only [List.getD_eq_getElem?_getD]; rw [List.getElem?_eq_getElem hk]; exact List.getElem_mem hk)
    simpa using this
  have hsn := sum_nn (x := fun k => l.getD k 0) l.length hx
  have hs : sumR l = (sumI l l.length, 0) ∧ amt (sumI l l.length) = true := by
    unfold sumR at h5 ⊢
    cases g : l.all amt with
    | false => rw [g] at h5; simp at h5
    | true =>
      rw [g] at h5
      simp only [if_true] at h5 ⊢
      unfold told at h5 ⊢
      cases q : amt (sumI l l.length) with
      | false => rw [q] at h5; simp at h5
      | true => simp
  obtain ⟨e1, e2⟩ := hs
  have e3 := amt_iff.1 e2
  rw [sumI_eq] at e1 e2 e3
  rw [e1] at h6 ⊢
  simp only at h6 ⊢
  exact ⟨h1, h2, h3, hx, trivial, by omega, e3.2, trivial⟩
theorem splitOk_not {a : Int} {l : List Int} (h : splitOk a l = false) (h1 : amt a = true) (h2 : 1 ≤ l.length) (h3 : l.length ≤ 64) : l.all (fun x => decide (0 ≤ x)) = false ∨ (sumR l).2 ≠ 0 ∨ (sumR l).1 = 0 := by
  cases g : l.all (fun x => decide (0 ≤ x)) with
  | false => exact Or.inl rfl
  | true =>
    right
    by_cases q : (sumR l).2 = 0
    · right
      by_cases r : (sumR l).1 = 0
      · exact r
      · exfalso
        have : splitOk a l = true := by simp only [splitOk, h1, g, q, h2, h3, decide_true, Bool.true_and, beq_self_eq_true, and_self]; simpa using r
        rw [h] at this; cases this
    · exact Or.inl q

theorem Ints.below {w W : World} {A : Option Addr} {n : Nat} {l : List Int} (h : Ints w A n l) (hb : Below w.heap.size w W) : Ints W A n l :=
  ⟨h.1, fun h0 => by
    obtain ⟨b, off, e, hlt, hc⟩ := h.2.1 h0
    exact ⟨b, off, e, Nat.lt_of_lt_of_le hlt hb.size, fun k hk => by rw [← hc k hk]; exact hb.cell (p := ⟨b, off + k, none⟩) hlt⟩, h.2.2⟩

theorem numSplit_no (a : Int) (A : Option Addr) (n cap : Nat) (l : List Int) (w : World) (hi : Ints w A n l) (hn : n ≤ 9223372036854775807) (h : splitOk a l = false) :
    Calls Try.prog 11 #[.int .i64 a, .slice A n cap] w fun e w' => e = NoSplit ∧ Below w.heap.size w w' := by
  by_cases c : amt a = false ∨ n < 1 ∨ 64 < n
  · exact numSplit_no1 a A n cap w c hn
  · have c1 : amt a = true := by
      cases g : amt a
      · exact absurd (Or.inl g) c
      · rfl
    obtain ⟨b, off, rfl, hlt, hc⟩ := hi.2.1 (by omega)
    obtain rfl := hi.1
    exact numSplit_no2 a b off cap l w hlt hc hi.2.2 c1 (by omega) (by omega) (splitOk_not h c1 (by omega) (by omega))
/-- the parts, by the list of the weights -/
def splL (a : Int) (l : List Int) : Nat → Int := splF a (sumR l).1 (fun k => l.getD k 0) l.length
theorem numSplit_is (a : Int) (A : Option Addr) (n cap : Nat) (l : List Int) (w : World) (hi : Ints w A n l) (h : splitOk a l = true) :
    Calls Try.prog 11 #[.int .i64 a, .slice A n cap] w (SplitTo n (splL a l) w) := by
  obtain ⟨c1, c2, c3, c4, c5, c6, c7, c8⟩ := splitOk_is h
  obtain ⟨b, off, rfl, hlt, hc⟩ := hi.2.1 (by have := hi.1; omega)
  obtain rfl := hi.1
  refine numSplit_yes a b off cap l w hlt hc hi.2.2 c1 c2 c3 (fun g => ?_) _ c5 c6 c7 c4 c8
  have := (min_neg l (by omega)).1 g
  have h2 : l.all (fun x => decide (0 ≤ x)) = true := by
    simp only [splitOk, Bool.and_eq_true] at h
    exact h.1.2
  rw [h2] at this; cases this
/-- the sum of a row's first numbers, as the program tells it -/
theorem sumR_row (f : Nat → Int) (n : Nat) (a : Int) (hf : ∀ k, k < n → amt (f k) = true) (hs : sumF f n = a) (ha : amt a = true) : sumR ((List.range n).map f) = (a, 0) := by
  have hget : ∀ k, k < n → ((List.range n).map f).getD k 0 = f k := fun k hk => by simp [hk]
  have hsum : ∀ k, k ≤ n → sumI ((List.range n).map f) k = sumF f k := fun k hk => by
    induction k with
    | zero => rfl
    | succ k ih => simp only [sumI, sumF]; rw [ih (by omega), hget k (by omega)]
  have hall : ((List.range n).map f).all amt = true := List.all_eq_true.2 (fun x hx => by
    obtain ⟨k, hk, rfl⟩ := List.mem_map.1 hx
    exact hf k (List.mem_range.1 hk))
  unfold sumR
  rw [if_pos hall]
  have : sumI ((List.range n).map f) ((List.range n).map f).length = a := by rw [List.length_map, List.length_range, hsum n (Nat.le_refl n), hs]
  rw [this]; unfold told; rw [if_pos ha]
theorem numSum_row (g n c : Nat) (f : Nat → Int) (a : Int) (w : World) (hn : n ≤ 1000) (hr : ∀ k, k < n → w.cell? ⟨g, k, none⟩ = some (.int .i64 (f k))) (hf : ∀ k, k < n → amt (f k) = true) (hs : sumF f n = a) (ha : amt a = true) :
    Calls Try.prog 14 #[.slice (some ⟨g, 0, none⟩) n c] w fun e w' => e = Pair (a, 0) ∧ Below w.heap.size w w' := by
  have h := numSum_any g 0 c ((List.range n).map f) w (fun k hk => by
    have hk' : k < n := by simpa using hk
    rw [Nat.zero_add, hr k hk']; simp [hk']) (by simp; omega) (fun k => by
    by_cases hk : k < n
    · have := amt_iff.1 (hf k hk); simp [hk]; omega
    · simp [hk])
  rw [sumR_row f n a hf hs ha] at h
  simpa using h
/-- the parts of a split: each its share or one more, all of them amounts; they sum to the amount -/
theorem spl_parts {a : Int} {l : List Int} (h : splitOk a l = true) : (∀ k, k < l.length → (splL a l k = a * l.getD k 0 / (sumR l).1 ∨ splL a l k = a * l.getD k 0 / (sumR l).1 + 1) ∧ amt (splL a l k) = true ∧ amt (a * l.getD k 0 / (sumR l).1) = true) ∧ sumF (splL a l) l.length = a := by
  obtain ⟨c1, c2, c3, c4, c5, c6, c7, c8⟩ := splitOk_is h
  obtain ⟨a1, a2⟩ := amt_iff.1 c1
  have hL := left_bd a (sumR l).1 (fun k => l.getD k 0) l.length c6 c8 c2
  have hT := turn_ord a (sumR l).1 (fun k => l.getD k 0) l.length
  have hB := fun k (hk : k < l.length) => shr_bd (a := a) (all := (sumR l).1) (x := fun k => l.getD k 0) (k := k) c6 (c4 k hk) (by have := one_le_sum (x := fun k => l.getD k 0) c4 hk; rw [c8] at this; exact this)
  have hS := bmp_sum _ (shr a (sumR l).1 (fun k => l.getD k 0)) l.length hT (a - sumF (shr a (sumR l).1 (fun k => l.getD k 0)) l.length).toNat (by omega)
  refine ⟨fun k hk => ?_, ?_⟩
  · have hb := hB k hk
    have hat := bmp_at _ (shr a (sumR l).1 (fun k => l.getD k 0)) l.length hT (a - sumF (shr a (sumR l).1 (fun k => l.getD k 0)) l.length).toNat (by omega) k
    have hat' : splL a l k = shr a (sumR l).1 (fun k => l.getD k 0) k ∨ splL a l k = shr a (sumR l).1 (fun k => l.getD k 0) k + 1 := by
      rcases hat with e | ⟨e, _⟩
      · exact Or.inl e
      · exact Or.inr e
    -- a part is no more than the amount, or than 1
    have hone : splL a l k ≤ max a 0 + 1 := by rcases hat' with e | e <;> omega
    have hle : splL a l k ≤ 4611686018427387904 := by
      rcases hat' with e | e
      · omega
      · by_cases q : shr a (sumR l).1 (fun k => l.getD k 0) k < 4611686018427387904
        · omega
        · -- the share is the whole amount: nothing is left, so there is no more
          exfalso
          rcases hat with e2 | ⟨_, j, hj, _⟩
          · have : splL a l k = shr a (sumR l).1 (fun k => l.getD k 0) k := e2
            omega
          · have hnn : ∀ i, i < l.length → 0 ≤ shr a (sumR l).1 (fun k => l.getD k 0) i := fun i hi => by have := hB i hi; omega
            have h2 := one_le_sum hnn hk
            have h3 : sumF (shr a (sumR l).1 (fun k => l.getD k 0)) l.length < a := by
              have : 0 < (a - sumF (shr a (sumR l).1 (fun k => l.getD k 0)) l.length).toNat := by omega
              omega
            clear hS hL
            omega
    refine ⟨hat', amt_iff.2 ⟨by rcases hat' with e | e <;> omega, hle⟩, amt_iff.2 ⟨?_, ?_⟩⟩
    · show -4611686018427387904 ≤ shr a (sumR l).1 (fun k => l.getD k 0) k
      clear hS hL hat hat' hone hle
      omega
    · show shr a (sumR l).1 (fun k => l.getD k 0) k ≤ 4611686018427387904
      clear hS hL hat hat' hone hle
      omega
  · have : sumF (splL a l) l.length = sumF (shr a (sumR l).1 (fun k => l.getD k 0)) l.length + ((a - sumF (shr a (sumR l).1 (fun k => l.getD k 0)) l.length).toNat : Int) := hS
    rw [this]; omega

end Go.Proofs.Ythamonfomihncaa
