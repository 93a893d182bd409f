/- A slice of whole numbers that came in, said for a walk. -/
import Derived.WalkKit
import Derived.OpenShut
import Derived.Deep.Slices
import Derived.Deep.Fields
import Derived.ChangeSame
namespace Go.Proofs.Ytcjkofgbijdkcaa
open Go.RowKit

/-- a slice of whole numbers reads as this list -/
def Ints (w : World) (A : Option Addr) (n : Nat) (l : List Int) : Prop :=
  l.length = n ∧ (0 < n → ∃ b off, A = some ⟨b, off, none⟩ ∧ b < w.heap.size ∧ ∀ k, k < n → w.cell? ⟨b, off + k, none⟩ = some (.int .i64 (l.getD k 0))) ∧
    ∀ k, -9223372036854775808 ≤ l.getD k 0 ∧ l.getD k 0 ≤ 9223372036854775807

theorem ints_of {w : World} {A : Option Addr} {len cap : Nat} {zs : List Int} (h : (A = none ∧ len = 0 ∧ cap = 0 ∧ zs = []) ∨
    ∃ x, A = some x ∧ len ≤ cap ∧ cap ≤ maxLen ∧ zs.length = cap ∧ (∀ i, i < zs.length → w.cell? (x.add i) = some (.int .i64 (zs.getD i 0))) ∧ ∀ n ∈ zs, (Lit.int .i64 n).wf = true) :
    Ints w A len (zs.take len) ∧ len ≤ 9223372036854775807 := by
  rcases h with ⟨rfl, rfl, rfl, rfl⟩ | ⟨x, rfl, h1, h2, h3, h4, h5⟩
  · exact ⟨⟨rfl, fun h => absurd h (by omega), fun k => by simp⟩, by omega⟩
  · unfold maxLen at h2
    refine ⟨⟨by rw [List.length_take]; omega, fun h0 => ?_, fun k => ?_⟩, by omega⟩
    · obtain ⟨b, off, rfl, hc⟩ := ints_at h4 (by omega)
      refine ⟨b, off, rfl, World.block_lt_of_cell? w ⟨b, off + 0, none⟩ (hc 0 (by omega)), fun k hk => ?_⟩
      rw [hc k (by omega)]
      congr 2
      simp only [List.getD_eq_getElem?_getD]
      rw [List.getElem?_take_of_lt hk]
    · by_cases hk : k < (zs.take len).length
      · have : (zs.take len).getD k 0 ∈ zs := by
          simp only [List.getD_eq_getElem?_getD]
          rw [List.getElem?_eq_getElem hk]
          exact List.mem_of_mem_take (List.getElem_mem hk)
        exact Go.bounds_i64 (h5 _ this)
      · simp only [List.getD_eq_getElem?_getD]
        rw [List.getElem?_eq_none (by omega)]
        simp
section
open Go.ChangeShapes Go.WideShapes Go.Deep
variable {H : Type} {enc : TypeId × Value → H} {P : Program} {w : World} {base : Nat} {spare : Nat → Bool} {held : Bool}
/-- a slice of structs whose fields are all whole numbers: its cells are whole numbers -/
theorem open_int_structs {t e : TypeId} {fs : Array Field} {fuel : Nat} {A : Option Addr} {len cap : Nat} {x : DataW H × List MemPlace} (ht : P.underlying t = some (.slice e)) (he : P.underlying e = some (.struct fs))
    (hone : oneCellFields P fs = true) (hC : P.cellsOf e = fs.size) (hint : ∀ (j : Nat) (f : Field), fs[j]? = some f → P.underlying f.type = some (.int .i64)) (h : DataW.trod enc P w base spare held fuel t [.slice A len cap] = some x) :
    ∃ zs : List Int, (A = none ∧ len = 0 ∧ cap = 0 ∧ zs = []) ∨
      ∃ a, A = some a ∧ len ≤ cap ∧ cap ≤ maxLen ∧ zs.length = len * fs.size ∧ (∀ i, i < zs.length → w.cell? (a.add i) = some (.int .i64 (zs.getD i 0))) ∧ ∀ n ∈ zs, (Lit.int .i64 n).wf = true := by
  rcases open_slice ht h with ⟨hcs, _⟩ | ⟨a, l, c, m, n, D, Pl, hcs, _, hl, hm, hmm, _, hi⟩
  · simp only [List.cons.injEq, Value.slice.injEq, and_true] at hcs
    obtain ⟨rfl, rfl, rfl⟩ := hcs
    exact ⟨[], .inl ⟨rfl, rfl, rfl, rfl⟩⟩
  · simp only [List.cons.injEq, Value.slice.injEq, and_true] at hcs
    obtain ⟨rfl, rfl, rfl⟩ := hcs
    have hlm : len ≤ m := by rw [hmm]; split <;> omega
    have key : ∀ q, q < len * fs.size → ∃ z : Int, w.cell? (a.add q) = some (.int .i64 z) ∧ (Lit.int .i64 z).wf = true := by
      intro q hq
      have hfs : 0 < fs.size := by
        rcases Nat.eq_zero_or_pos fs.size with g | g
        · rw [g] at hq; omega
        · exact g
      have hqi : q / fs.size < len := (Nat.div_lt_iff_lt_mul hfs).2 hq
      have hqj : q % fs.size < fs.size := Nat.mod_lt _ hfs
      obtain ⟨cs', hc, ht'⟩ := hi (q / fs.size) (by omega)
      rw [hC] at hc
      obtain ⟨ys, n', hn', hy, hlen, hyl, hf⟩ := DataW.trod_struct he ht'
      obtain ⟨_, hcl, hat⟩ := World.cells?_some hc
      have hj : fs[q % fs.size]? = some fs[q % fs.size] := Array.getElem?_eq_getElem hqj
      obtain ⟨ho, hk⟩ := hone_of hone _ _ hj
      have hcell := hat _ hqj
      have hv : cs'[q % fs.size]? = some (cs'[q % fs.size]'(by omega)) := List.getElem?_eq_getElem (by omega)
      have h1 := hf _ _ hj
      rw [ho, hk] at h1
      have hone' : (cs'.drop (q % fs.size)).take 1 = [cs'[q % fs.size]'(by omega)] := by
        rw [List.drop_eq_getElem_cons (by omega)]
        rfl
      rw [hone'] at h1
      have hys : ys[q % fs.size]? = some (ys[q % fs.size]'(by omega)) := List.getElem?_eq_getElem (by omega)
      obtain ⟨z, e0, _, wz⟩ := DataW.trod_int (hint _ _ hj) (h1.trans hys)
      simp only [List.cons.injEq, and_true] at e0
      refine ⟨z, ?_, wz⟩
      have hq' : q / fs.size * fs.size + q % fs.size = q := by rw [Nat.mul_comm]; exact Nat.div_add_mod q fs.size
      rw [Go.Deep.add_add, hq', hv, e0] at hcell
      exact hcell
    have hex : ∃ f : Nat → Int, ∀ q, q < len * fs.size → w.cell? (a.add q) = some (.int .i64 (f q)) ∧ (Lit.int .i64 (f q)).wf = true := by
      refine ⟨fun q => if hq : q < len * fs.size then Classical.choose (key q hq) else 0, fun q hq => ?_⟩
      simp only [hq, dif_pos]
      exact Classical.choose_spec (key q hq)
    obtain ⟨f, hf⟩ := hex
    refine ⟨(List.range (len * fs.size)).map f, .inr ⟨a, rfl, hl, hm, by simp, fun i hi => ?_, fun n hn => ?_⟩⟩
    · have hi' : i < len * fs.size := by simpa using hi
      rw [(hf i hi').1]
      congr 2
      simp [hi']
    · obtain ⟨q, hq, rfl⟩ := List.mem_map.1 hn
      exact (hf q (List.mem_range.1 hq)).2
end

theorem ints_of_structs {w : World} {A : Option Addr} {len cap size : Nat} {zs : List Int} (h : (A = none ∧ len = 0 ∧ cap = 0 ∧ zs = []) ∨
    ∃ x, A = some x ∧ len ≤ cap ∧ cap ≤ maxLen ∧ zs.length = len * size ∧ (∀ i, i < zs.length → w.cell? (x.add i) = some (.int .i64 (zs.getD i 0))) ∧ ∀ n ∈ zs, (Lit.int .i64 n).wf = true) :
    Ints w A (len * size) zs ∧ len ≤ 9223372036854775807 := by
  rcases h with ⟨rfl, rfl, rfl, rfl⟩ | ⟨x, rfl, h1, h2, h3, h4, h5⟩
  · exact ⟨⟨by simp, fun h => absurd h (by omega), fun k => by simp⟩, by omega⟩
  · unfold maxLen at h2
    refine ⟨⟨h3, fun h0 => ?_, fun k => ?_⟩, by omega⟩
    · obtain ⟨b, off, rfl, hc⟩ := ints_at h4 (by omega)
      exact ⟨b, off, rfl, World.block_lt_of_cell? w ⟨b, off + 0, none⟩ (hc 0 (by omega)), fun k hk => hc k (by omega)⟩
    · by_cases hk : k < zs.length
      · have : zs.getD k 0 ∈ zs := by
          simp only [List.getD_eq_getElem?_getD]
          rw [List.getElem?_eq_getElem hk]
          exact List.getElem_mem hk
        exact Go.bounds_i64 (h5 _ this)
      · simp only [List.getD_eq_getElem?_getD]
        rw [List.getElem?_eq_none (by omega)]
        simp
end Go.Proofs.Ytcjkofgbijdkcaa
