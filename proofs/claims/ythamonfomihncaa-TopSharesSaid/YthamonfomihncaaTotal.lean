/- Package alloc: Total, of items that are apart. -/
import Derived.WalkKit
import Derived.Outline
import Derived.Lib.Hide
import Derived.Handy
import Derived.Deep.QuietTactic
import Derived.BigQuiet
import Derived.BigRegion
import Derived.Deep.DeepCutAuto
import Derived.Laws.AppendOwn
import Derived.Test.YthamonfomihncaaNumSum
import Derived.Test.YthamonfomihncaaPay
namespace Go.Proofs.Ythamonfomihncaa
open Go.RowKit Go.Sort

/-- what is open of the first k, as cells -/
def openC (x : Nat → It) (k : Nat) : List Value := (List.range k).map (fun (i : Nat) => Value.int .i64 (x i).opn)
theorem openC_succ (x : Nat → It) (k : Nat) : openC x k ++ [.int .i64 (x k).opn] = openC x (k + 1) := by simp [openC, List.range_succ]
def opens (x : Nat → It) (n : Nat) : List Int := (List.range n).map (fun k => (x k).opn)

set_option maxRecDepth 100000 in
set_option maxHeartbeats 4000000 in
theorem total_ok (b off n cap : Nat) (x : Nat → It) (w : World) (hn : 1 ≤ n) (hn2 : n ≤ 200) (hb : b < w.heap.size) (hx : ItsAt w b off n x) (hok : ∀ k, k < n → (x k).ok) (ha : Apart x n) :
    Calls Try.prog 13 #[.slice (some ⟨b, off, none⟩) n cap] w fun e w' => e = Pair (sumR (opens x n)) ∧ Below w.heap.size w w' := by
  have HX : Hid (∀ W, Below w.heap.size w W → ItsAt W b off n x) := Lib.hid (fun W hB k hk => by
    obtain ⟨q0, q1, q2, q3⟩ := hx k hk
    exact ⟨held_cell hB q0, held_cell hB q1, held_cell hB q2, held_cell hB q3⟩)
  have HPl := Lib.hid (places_ok b off n cap x w hn hn2 hb hx hok ha)
  have HK := Lib.hid hok
  have HSum : Hid (∀ W g c, W.ownsRow w.heap.size 2 1 (.slice (some ⟨g, 0, none⟩) n c) n (openC x n) → Calls Try.prog 14 #[.slice (some ⟨g, 0, none⟩) n c] W fun e w' => e = Pair (sumR (opens x n)) ∧ Below W.heap.size W w') := Lib.hid (fun W g c ho => by
    have hl : (opens x n).length = n := by simp [opens]
    have h := numSum_any g 0 c (opens x n) W (fun k hk => by
      have hk' : k < n := by rw [hl] at hk; exact hk
      have := ho.cells (g := g) rfl k (.int .i64 (x k).opn) (by simp [openC, hk'])
      have hadd : (⟨g, 0, none⟩ : Addr).add k = ⟨g, 0 + k, none⟩ := by unfold Addr.add; split <;> simp_all
      rw [hadd] at this
      rw [this]; simp [opens, hk']) (by rw [hl]; omega) (fun k => by
      by_cases hk : k < n
      · have := (hok k hk).2.2.2; simp [opens, hk]; omega
      · simp [opens, hk])
    rw [hl] at h
    exact h)
  clear hx hok ha
  obtain ⟨i0, hi, hz0, hz1, hz2⟩ := info_parts infoP_int64
  generalize sumR (opens x n) = R at *
  go_enter Try.func13, Try.ntmps13
  go_wp2_with fail
  refine HPl.out.mono ?_
  rintro e w2 ⟨v, rfl, _, hb2⟩
  have HB2 := Lib.hid hb2
  have hz := hb2.size
  have HR0 : Hid (w2.ownsRow w.heap.size 2 1 (.slice none 0 0) 0 (openC x 0)) := Lib.hid (World.ownsRow_nil _ _ _ _)
  clear hb2 HPl
  go_wp2_with fail
  go_loopw [6, 19] (fun v vi wr => ∃ k : Nat, k ≤ n ∧ vi = .int .i64 k ∧ Hid (wr.ownsRow w.heap.size 2 1 v k (openC x k)) ∧ Hid (Below w.heap.size w wr)) (fun _ vi _ => n - (intOf vi).toNat)
  case atStart => exact ⟨0, by omega, rfl, HR0, HB2⟩
  case round =>
    obtain ⟨k, hk, rfl, HR, HB⟩ := hrel
    clear HR0 HB2
    by_cases hlt : k < n
    · obtain ⟨e0, e1, e2, e3⟩ := HX.out wr HB.out k hlt
      have hsz := HB.out.size
      have HS := Lib.hid (openC_succ x k)
      generalize (x k).due = x0 at *
      generalize (x k).kind = x1 at *
      generalize (x k).per = x2 at *
      generalize (x k).opn = x3 at *
      go_wp2_with ((at_builtin; refine wpList_append_own _ rfl (.tmp 23) (.tmp 26) 46 rfl w.heap.size 2 i0 (.int .i64 0) 1 8 Try.underlying46 hi hz0 hz1 hz2 rfl (by decide) _ _ _ rfl ((HR.out.alloc _).alloc _) ⟨wr.heap.size + 1, 0, none⟩ 1 1 [.int .i64 x3] rfl rfl (one_new _ _ _ (by simp)) (by simp [Value.oneCell']) (by unfold maxLen; omega) (by omega) (by simp; omega) ?_; intro v' w' hown' hgrow' hnil'))
      have hr' := hown'
      rw [HS.out] at hr'
      have HR' := Lib.hid hr'
      have HB' : Hid (Below w.heap.size w w') := Lib.hid (((HB.out.alloc hsz _).alloc (by simp; omega) _).grown hgrow' (by simp; omega) (fun j hj => by have := (HR.out.lt _ hj).1; omega))
      clear hown' hgrow' hnil' hr'
      exact ⟨⟨k + 1, by omega, by go_num, HR', HB'⟩, by simp [intOf]; omega⟩
    · obtain rfl : n = k := by omega
      have ho := HR.out
      rcases ho.2 with ⟨_, h0⟩ | ⟨g, c, cur, rfl, _⟩
      · omega
      · have HS := Lib.hid (HSum.out wr g c ho)
        clear ho HSum HR
        go_wp2_with fail
        refine HS.out.mono ?_
        rintro e w5 ⟨rfl, hb5⟩
        have HB5 := Lib.hid (HB.out.trans (hb5.mono HB.out.size))
        clear hb5
        unfold Pair
        go_wp2_with fail
        go_ret2
        exact ⟨rfl, HB5.out⟩
end Go.Proofs.Ythamonfomihncaa
