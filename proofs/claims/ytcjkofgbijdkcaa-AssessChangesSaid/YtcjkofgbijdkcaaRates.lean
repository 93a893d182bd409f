/- Package rates: money, Right. -/
import Derived.WalkKit
import Derived.Outline
import Derived.Lib.Hide
import Derived.Handy
import Derived.Deep.QuietTactic
import Derived.BigQuiet
import Derived.Test.YtcjkofgbijdkcaaNumB
import Derived.Test.YtcjkofgbijdkcaaOwn
import Derived.Test.YtcjkofgbijdkcaaInts
namespace Go.Proofs.Ytcjkofgbijdkcaa
open Go.RowKit

/-- is a number money -/
def isMon (a : Int) : Bool := decide (0 ≤ a ∧ a ≤ 1125899906842624)
theorem isMon_iff {a : Int} : isMon a = true ↔ 0 ≤ a ∧ a ≤ 1125899906842624 := by simp [isMon]
theorem isMon_not {a : Int} : isMon a = false ↔ ¬ (0 ≤ a ∧ a ≤ 1125899906842624) := by simp [isMon]

set_option maxHeartbeats 400000 in
theorem money_any (b off cap : Nat) (xs : List Int) (w : World) (hc : ∀ k, k < xs.length → w.cell? ⟨b, off + k, none⟩ = some (.int .i64 (xs.getD k 0)))
    (hl : xs.length ≤ 9223372036854775807) :
    Calls Try.prog 58 #[.slice (some ⟨b, off, none⟩) xs.length cap] w fun e w' => e = .returned (.bool (xs.all isMon)) ∧ w = w' := by
  go_enter Try.func58, Try.ntmps58
  go_wp2_with fail
  go_loop [7] (fun i => ∃ k : Nat, k ≤ xs.length ∧ i = .int .i64 k ∧ (xs.take k).all isMon = true) (fun i => xs.length - (intOf i).toNat)
  case atStart => exact ⟨0, Nat.zero_le _, rfl, rfl⟩
  case round =>
    obtain ⟨k, hk, rfl, ht⟩ := hrel
    have HT := Lib.hid ht
    clear ht
    by_cases hlt : k < xs.length
    · have hcell := hc k hlt
      have hg : xs.getD k 0 = xs[k] := by simp [hlt]
      rw [hg] at hcell
      have htk : xs.take (k + 1) = xs.take k ++ [xs[k]] := by rw [List.take_succ_eq_append_getElem hlt]
      have hall : xs.all isMon = ((xs.take (k + 1)).all isMon && (xs.drop (k + 1)).all isMon) := by rw [← List.all_append, List.take_append_drop]
      rw [htk] at hall
      simp only [List.all_append, HT.out, List.all_cons, List.all_nil, Bool.and_true, Bool.true_and] at hall
      generalize xs[k] = x at *
      have HA := Lib.hid hall
      have HK := Lib.hid htk
      clear hall htk hg
      clear hc
      by_cases c1 : x < 0
      · have hx : isMon x = false := by simp [isMon]; omega
        have HX := Lib.hid hx
        clear hx
        go_wp2_with fail
        go_ret
        exact ⟨by rw [HA.out, HX.out]; rfl, rfl⟩
      · by_cases c2 : 1125899906842624 < x
        · have hx : isMon x = false := by simp [isMon]; omega
          have HX := Lib.hid hx
          clear hx
          go_wp2_with fail
          go_ret
          exact ⟨by rw [HA.out, HX.out]; rfl, rfl⟩
        · have hx : isMon x = true := by simp [isMon]; omega
          have HX := Lib.hid hx
          clear hx
          go_wp2_with fail
          go_round
          case rel => exact ⟨k + 1, hlt, by go_num, by rw [HK.out]; simp [HT.out, HX.out]⟩
          case measure => simp [intOf]; omega
    · have hk2 : k = xs.length := by omega
      subst hk2
      rw [List.take_length] at HT
      clear hc
      go_wp2_with fail
      go_ret
      exact ⟨by rw [HT.out]; rfl, rfl⟩

theorem money_one (a : Int) (w : World) : Calls Try.prog 58 #[.slice (some ⟨w.heap.size, 0, none⟩) 1 1] (w.alloc (.cells #[.int .i64 a] 2)) fun e w' =>
    e = .returned (.bool (isMon a)) ∧ w.alloc (.cells #[.int .i64 a] 2) = w' := by
  have := money_any w.heap.size 0 1 [a] (w.alloc (.cells #[.int .i64 a] 2)) (fun k hk => by
    match k, hk with
    | 0, _ => simp [go_sem]) (by simp)
  simpa using this
theorem money_at (a : Int) (g : Nat) (W : World) (h : W.cell? ⟨g, 0, none⟩ = some (.int .i64 a)) : Calls Try.prog 58 #[.slice (some ⟨g, 0, none⟩) 1 1] W fun e w' =>
    e = .returned (.bool (isMon a)) ∧ W = w' := by
  have := money_any g 0 1 [a] W (fun k hk => by
    match k, hk with
    | 0, _ => simpa using h) (by simp)
  simpa using this
theorem money_at3 (a b c : Int) (g : Nat) (W : World) (h0 : W.cell? ⟨g, 0, none⟩ = some (.int .i64 a)) (h1 : W.cell? ⟨g, 1, none⟩ = some (.int .i64 b)) (h2 : W.cell? ⟨g, 2, none⟩ = some (.int .i64 c)) :
    Calls Try.prog 58 #[.slice (some ⟨g, 0, none⟩) 3 3] W fun e w' => e = .returned (.bool (isMon a && (isMon b && isMon c))) ∧ W = w' := by
  have := money_any g 0 3 [a, b, c] W (fun k hk => by
    match k, hk with
    | 0, _ => simpa using h0
    | 1, _ => simpa using h1
    | 2, _ => simpa using h2) (by simp)
  simpa using this
theorem money_three (a b c : Int) (w : World) : Calls Try.prog 58 #[.slice (some ⟨w.heap.size, 0, none⟩) 3 3] (w.alloc (.cells #[.int .i64 a, .int .i64 b, .int .i64 c] 2)) fun e w' =>
    e = .returned (.bool (isMon a && (isMon b && isMon c))) ∧ w.alloc (.cells #[.int .i64 a, .int .i64 b, .int .i64 c] 2) = w' := by
  have := money_any w.heap.size 0 3 [a, b, c] (w.alloc (.cells #[.int .i64 a, .int .i64 b, .int .i64 c] 2)) (fun k hk => by
    match k, hk with
    | 0, _ => simp [go_sem]
    | 1, _ => simp [go_sem]
    | 2, _ => simp [go_sem]) (by simp)
  simpa using this

/-- a schedule: its brackets stand in 'len' pairs of cells -/
structure Sch where
  A : Option Addr
  len : Nat
  cap : Nat
  zs : List Int
  ded : Int
  cre : Int
  bp : Int
  most : Int
  least : Int
def Sch.val (s : Sch) : Value := .agg #[.slice s.A s.len s.cap, .int .i64 s.ded, .int .i64 s.cre, .int .i64 s.bp, .int .i64 s.most, .int .i64 s.least]
def Sch.f (s : Sch) (k : Nat) : Int := s.zs.getD (k * 2) 0
def Sch.b (s : Sch) (k : Nat) : Int := s.zs.getD (k * 2 + 1) 0
/-- a whole number of 64 bits -/
def i64 (a : Int) : Prop := -9223372036854775808 ≤ a ∧ a ≤ 9223372036854775807
structure Sch.In (s : Sch) (w : World) : Prop where
  ints : Ints w s.A (s.len * 2) s.zs
  len : s.len ≤ 9223372036854775807
  ded : i64 s.ded
  cre : i64 s.cre
  bp : i64 s.bp
  most : i64 s.most
  least : i64 s.least
theorem Sch.In.below {s : Sch} {B : Nat} {w w' : World} (h : s.In w) (hb : Below B w w') (hB : w.heap.size ≤ B) : s.In w' := by
  obtain ⟨⟨h1, h2, h3⟩, h4, h5, h6, h7, h8, h9⟩ := h
  refine ⟨⟨h1, fun g => ?_, h3⟩, h4, h5, h6, h7, h8, h9⟩
  obtain ⟨b, off, e, hb', hc⟩ := h2 g
  exact ⟨b, off, e, Nat.lt_of_lt_of_le hb' hb.size, fun k hk => by rw [hb.cell (p := ⟨b, off + k, none⟩) (Nat.lt_of_lt_of_le hb' hB)]; exact hc k hk⟩
/-- bracket k may stand behind the ones ahead of it -/
def Sch.okAt (s : Sch) (k : Nat) : Bool := isMon (s.f k) && (decide (k = 0) || decide (s.f (k - 1) < s.f k)) && decide (0 ≤ s.b k ∧ s.b k ≤ 10000)
def Sch.heads (s : Sch) : Bool := decide (1 ≤ s.len ∧ s.len ≤ 10 ∧ 0 ≤ s.bp ∧ s.bp ≤ 10000 ∧ 0 ≤ s.most ∧ s.most ≤ 60)
def Sch.tails (s : Sch) : Bool := isMon s.ded && (isMon s.cre && isMon s.least)
def Sch.right (s : Sch) : Bool := s.heads && decide (∀ k, k < s.len → s.okAt k = true) && decide (s.f 0 = 0) && s.tails
end Go.Proofs.Ytcjkofgbijdkcaa
