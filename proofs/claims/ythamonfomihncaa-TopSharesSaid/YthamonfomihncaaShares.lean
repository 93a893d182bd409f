/- The law TopShares: a payment over items whose shares were split by weights: the walk. -/
import Derived.WalkKit
import Derived.Outline
import Derived.Lib.Hide
import Derived.Handy
import Derived.Deep.QuietTactic
import Derived.BigQuiet
import Derived.BigRegion
import Derived.Deep.DeepCutAuto
import Derived.Laws.AppendOwn
import Derived.Test.YthamonfomihncaaSplitB
import Derived.Test.YthamonfomihncaaTotal
namespace Go.Proofs.Ythamonfomihncaa
open Go.RowKit Go.Sort

/-- the items of the parts -/
def shIt (F : Nat → Int) (i : Nat) : It := ⟨100 + i, (i : Int) % 3, 1 + i, F i⟩
/-- the cells of the first k items -/
def itsC (x : Nat → It) : Nat → List Value
  | 0 => []
  | k + 1 => itsC x k ++ [.int .i64 (x k).due, .int .i64 (x k).kind, .int .i64 (x k).per, .int .i64 (x k).opn]
theorem itsC_length (x : Nat → It) : ∀ k, (itsC x k).length = k * 4
  | 0 => rfl
  | k + 1 => by simp only [itsC, List.length_append, itsC_length x k]; simp; omega
theorem itsC_get (x : Nat → It) : ∀ n i, i < n → (itsC x n)[i * 4]? = some (.int .i64 (x i).due) ∧ (itsC x n)[i * 4 + 1]? = some (.int .i64 (x i).kind) ∧ (itsC x n)[i * 4 + 2]? = some (.int .i64 (x i).per) ∧ (itsC x n)[i * 4 + 3]? = some (.int .i64 (x i).opn)
  | 0, i, h => absurd h (by omega)
  | n + 1, i, h => by
    have hl := itsC_length x n
    by_cases g : i = n
    · subst g
      simp only [itsC]
      refine ⟨?_, ?_, ?_, ?_⟩
      · rw [List.getElem?_append_right (by omega), hl]; simp
      · rw [List.getElem?_append_right (by omega), hl]; simp
      · rw [List.getElem?_append_right (by omega), hl]; simp
      · rw [List.getElem?_append_right (by omega), hl]; simp
    · have ih := itsC_get x n i (by omega)
      simp only [itsC]
      refine ⟨?_, ?_, ?_, ?_⟩
      · rw [List.getElem?_append_left (by omega)]; exact ih.1
      · rw [List.getElem?_append_left (by omega)]; exact ih.2.1
      · rw [List.getElem?_append_left (by omega)]; exact ih.2.2.1
      · rw [List.getElem?_append_left (by omega)]; exact ih.2.2.2
theorem its_of_owns {W : World} {B g n c : Nat} {t : TypeId} {x : Nat → It} (h : W.ownsRow B t 4 (.slice (some ⟨g, 0, none⟩) n c) n (itsC x n)) : ItsAt W g 0 n x := fun k hk => by
  obtain ⟨q0, q1, q2, q3⟩ := itsC_get x n k hk
  have hadd : ∀ j, (⟨g, 0, none⟩ : Addr).add j = ⟨g, 0 + j, none⟩ := fun j => by unfold Addr.add; split <;> simp_all
  have f := fun j u (hu : (itsC x n)[j]? = some u) => h.cells (g := g) rfl j u hu
  simp only [hadd] at f
  exact ⟨f _ _ q0, f _ _ q1, f _ _ q2, f _ _ q3⟩

/-- by a row that stands in order: what is left, what is paid -/
theorem payA_row {x : Nat → It} {n : Nat} {amt : Int} (h0 : 0 ≤ amt) (h : ∀ k, k < n → 0 ≤ (x k).opn) : ∀ k, k ≤ n → payA x (List.range n) amt k = max (amt - sumF (fun i => (x i).opn) k) 0
  | 0, _ => by simp only [payA, sumF]; omega
  | k + 1, hk => by
    have i := payA_row h0 h k (by omega)
    have hg : (List.range n).getD k 0 = k := by simp [List.getD_eq_getElem?_getD, show k < n by omega]
    have := h k (by omega)
    simp only [payA, hg, i, sumF]
    omega
theorem payO_row {x : Nat → It} {n : Nat} {amt : Int} : ∀ k, k ≤ n → ∀ i, payO x (List.range n) amt k i = if i < k then min (x i).opn (payA x (List.range n) amt i) else 0
  | 0, _, i => by simp [payO]
  | k + 1, hk, i => by
    have hg : (List.range n).getD k 0 = k := by simp [List.getD_eq_getElem?_getD, show k < n by omega]
    simp only [payO, hg, upd]
    by_cases g : i = k
    · subst g; simp
    · rw [if_neg g, payO_row k (by omega) i]
      by_cases q : i < k
      · rw [if_pos q, if_pos (by omega)]
      · rw [if_neg q, if_neg (by omega)]
theorem sum_paid {x : Nat → It} {n : Nat} {amt : Int} : ∀ k, k ≤ n → sumF (payO x (List.range n) amt k) n = amt - payA x (List.range n) amt k
  | 0, _ => by
    have : ∀ n, sumF (fun _ => (0 : Int)) n = 0 := fun n => by induction n with
      | zero => rfl
      | succ n ih => simp only [sumF, ih]; rfl
    simp only [payO, payA, this]; omega
  | k + 1, hk => by
    have hg : (List.range n).getD k 0 = k := by simp [List.getD_eq_getElem?_getD, show k < n by omega]
    have h0 : payO x (List.range n) amt k k = 0 := by rw [payO_row k (by omega) k, if_neg (by omega)]
    simp only [payO, payA, hg]
    rw [sum_upd _ _ _ n (by omega), sum_paid k (by omega), h0]
    omega
theorem two_split : splitOk 2 [1, 1] = true ∧ splL 2 [1, 1] 0 = 1 := by
  constructor
  · decide
  · have e : (sumR [1, 1]).1 = 2 := by decide
    unfold splL splF
    rw [e]
    have : ((2 : Int) - sumF (shr 2 2 (fun k => ([1, 1] : List Int).getD k 0)) ([1, 1] : List Int).length).toNat = 0 := by decide
    rw [this]
    decide
theorem infoS_item : (Try.prog.info? 51).map (fun i => (i.zero, i.size, i.bytes)) = some (some (.agg #[.int .i64 0, .int .i64 0, .int .i64 0, .int .i64 0]), 4, 32) := by kernel_rfl
/-- four new cells -/
theorem four_new {W : World} {t : TypeId} (a b c d : Value) (g : Nat) (hg : g = W.heap.size) : ∀ (j : Nat) (u : Value), [a, b, c, d][j]? = some u → (W.alloc (.cells #[a, b, c, d] t)).cell? ((⟨g, 0, none⟩ : Addr).add j) = some u := by
  intro j u hu
  have hadd : (⟨g, 0, none⟩ : Addr).add j = ⟨g, 0 + j, none⟩ := by unfold Addr.add; split <;> simp_all
  rw [hadd, Nat.zero_add, own_cell (own_new_at W #[a, b, c, d] t g hg) j]
  simpa using hu
end Go.Proofs.Ythamonfomihncaa
