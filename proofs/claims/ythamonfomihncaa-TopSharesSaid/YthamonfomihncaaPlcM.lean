/- The order of items in plain numbers, and the places of a list of items in it. -/
import Derived.Sort.Statements
import Derived.Shelf.SlSortCmp.NoneTotal
import Derived.Test.YthamonfomihncaaItems
namespace Go.Proofs.Ythamonfomihncaa
open Go.Sort

/-- an item is paid ahead of another one -/
def Fore (x y : It) : Prop := x.due < y.due ∨ (x.due = y.due ∧ (x.kind < y.kind ∨ (x.kind = y.kind ∧ x.per < y.per)))
instance (x y : It) : Decidable (Fore x y) := by unfold Fore; infer_instance
theorem cmpI_cases (a b : Int) : (a < b ∧ cmpI a b = -1) ∨ (a = b ∧ cmpI a b = 0) ∨ (b < a ∧ cmpI a b = 1) := by
  unfold cmpI
  by_cases h : a < b
  · left; exact ⟨h, if_pos h⟩
  · by_cases g : b < a
    · right; right; exact ⟨g, by rw [if_neg h, if_pos g]⟩
    · right; left; exact ⟨by omega, by rw [if_neg h, if_neg g]⟩
theorem ordI_lt {x y : It} : ordI x y < 0 ↔ Fore x y := by
  unfold ordI Fore
  simp only [orI]
  rcases cmpI_cases x.due y.due with ⟨h, e⟩ | ⟨h, e⟩ | ⟨h, e⟩ <;> rw [e]
  · simp; omega
  · rcases cmpI_cases x.kind y.kind with ⟨h1, e1⟩ | ⟨h1, e1⟩ | ⟨h1, e1⟩ <;> rw [e1]
    · simp; omega
    · rcases cmpI_cases x.per y.per with ⟨h2, e2⟩ | ⟨h2, e2⟩ | ⟨h2, e2⟩ <;> rw [e2] <;> simp <;> omega
    · simp; omega
  · simp; omega
theorem ordI_zero {x y : It} : ordI x y = 0 ↔ ¬ Fore x y ∧ ¬ Fore y x := by
  unfold ordI Fore
  simp only [orI]
  rcases cmpI_cases x.due y.due with ⟨h, e⟩ | ⟨h, e⟩ | ⟨h, e⟩ <;> rw [e]
  · simp; omega
  · rcases cmpI_cases x.kind y.kind with ⟨h1, e1⟩ | ⟨h1, e1⟩ | ⟨h1, e1⟩ <;> rw [e1]
    · simp; omega
    · rcases cmpI_cases x.per y.per with ⟨h2, e2⟩ | ⟨h2, e2⟩ | ⟨h2, e2⟩ <;> rw [e2] <;> simp <;> omega
    · simp; omega
  · simp; omega
theorem Fore.irrefl (x : It) : ¬ Fore x x := by unfold Fore; omega
theorem Fore.trans {x y z : It} (h : Fore x y) (g : Fore y z) : Fore x z := by unfold Fore at *; omega
theorem Fore.ntrans {x y z : It} (h : ¬ Fore x y) (g : ¬ Fore y z) : ¬ Fore x z := by unfold Fore at *; omega
/-- no two of n items are of one place -/
def Apart (x : Nat → It) (n : Nat) : Prop := ∀ i j, i < n → j < n → i ≠ j → Fore (x i) (x j) ∨ Fore (x j) (x i)
/-- the places of n items, in order -/
def plc (x : Nat → It) (n : Nat) : List Nat := (List.range n).mergeSort (fun i k => !decide (Fore (x k) (x i)))
theorem plc_length (x : Nat → It) (n : Nat) : (plc x n).length = n := by simp [plc]
theorem plc_perm (x : Nat → It) (n : Nat) : (plc x n).Perm (List.range n) := List.mergeSort_perm _ _
theorem plc_mem {x : Nat → It} {n k : Nat} : k ∈ plc x n ↔ k < n := by rw [(plc_perm x n).mem_iff]; simp
theorem plc_nodup (x : Nat → It) (n : Nat) : (plc x n).Nodup := (plc_perm x n).nodup_iff.2 List.nodup_range
theorem plc_pairwise (x : Nat → It) (n : Nat) : (plc x n).Pairwise (fun i k => ¬ Fore (x k) (x i)) := by
  have h := List.pairwise_mergeSort (le := fun i k => !decide (Fore (x k) (x i))) (fun a b c h1 h2 => by
    simp only [Bool.not_eq_true', decide_eq_false_iff_not] at *
    exact Fore.ntrans h2 h1) (fun a b => by
    by_cases h : Fore (x b) (x a)
    · have : ¬ Fore (x a) (x b) := fun g => Fore.irrefl _ (h.trans g)
      simp [h, this]
    · simp [h]) (List.range n)
  exact h.imp (fun h => by simpa using h)
/-- items that stand in order already -/
theorem plc_asc {x : Nat → It} {n : Nat} (h : ∀ i j, i < j → j < n → Fore (x i) (x j)) : plc x n = List.range n := by
  unfold plc
  apply List.mergeSort_of_pairwise
  rw [List.pairwise_iff_getElem]
  intro i j hi hj hij
  simp only [List.getElem_range]
  rw [List.length_range] at hj
  have : ¬ Fore (x j) (x i) := fun g => Fore.irrefl _ (g.trans (h i j hij hj))
  simp [this]
/-- what the sort of the places leaves -/
theorem plc_fin (x : Nat → It) (n : Nat) (c : Fin n → Fin n → Int) (hc : ∀ i k, c i k = ordI (x i.val) (x k.val)) :
    ((List.finRange n).mergeSort fun i k => !(ltOf c) k i).map Fin.val = plc x n := by
  unfold plc
  rw [List.map_mergeSort (s := fun i k => !decide (Fore (x k) (x i)))]
  · congr 1
    apply List.ext_getElem
    · simp
    · intro i h1 h2
      simp
  · intro a _ b _
    unfold ltOf
    rw [hc]
    congr 1
    exact decide_eq_decide.2 ordI_lt
theorem swo_fin (x : Nat → It) (n : Nat) (c : Fin n → Fin n → Int) (hc : ∀ i k, c i k = ordI (x i.val) (x k.val)) : SWO (ltOf c) := by
  have hl : ∀ i k, ltOf c i k = decide (Fore (x i.val) (x k.val)) := fun i k => by unfold ltOf; rw [hc]; exact decide_eq_decide.2 ordI_lt
  refine ⟨fun i => ?_, fun i j k h g => ?_, fun i j k h g => ?_⟩
  · rw [hl]; simpa using Fore.irrefl _
  · rw [hl] at *; simp only [decide_eq_true_eq] at *; exact h.trans g
  · rw [hl] at *; simp only [decide_eq_false_iff_not] at *; exact Fore.ntrans h g
theorem total_fin (x : Nat → It) (n : Nat) (ha : Apart x n) (c : Fin n → Fin n → Int) (hc : ∀ i k, c i k = ordI (x i.val) (x k.val)) : ∀ i k, ltOf c i k = false → ltOf c k i = false → i = k := by
  have hl : ∀ i k, ltOf c i k = decide (Fore (x i.val) (x k.val)) := fun i k => by unfold ltOf; rw [hc]; exact decide_eq_decide.2 ordI_lt
  intro i k h g
  rw [hl] at *
  simp only [decide_eq_false_iff_not] at *
  by_cases e : i.val = k.val
  · exact Fin.ext e
  · rcases ha i.val k.val i.isLt k.isLt e with q | q
    · exact absurd q h
    · exact absurd q g
end Go.Proofs.Ythamonfomihncaa
