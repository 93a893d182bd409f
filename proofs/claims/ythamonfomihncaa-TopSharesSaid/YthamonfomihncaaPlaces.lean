/- Package alloc: places, of items that are apart. -/
import Derived.WalkKit
import Derived.Outline
import Derived.Lib.Hide
import Derived.Handy
import Derived.Deep.QuietTactic
import Derived.BigQuiet
import Derived.BigRegion
import Derived.Deep.DeepCutAuto
import Derived.Laws.AppendOwn
import Derived.Test.YthamonfomihncaaAlloc
namespace Go.Proofs.Ythamonfomihncaa
open Go.RowKit Go.Sort

/-- may an item be? -/
def It.ok (x : It) : Prop := (0 ≤ x.due ∧ x.due ≤ 3652058) ∧ (0 ≤ x.kind ∧ x.kind ≤ 2) ∧ (1 ≤ x.per ∧ x.per ≤ 99999) ∧ (0 ≤ x.opn ∧ x.opn ≤ 4611686018427387904)

set_option maxRecDepth 100000 in
set_option maxHeartbeats 400000 in
theorem within_yes (n l h : Int) (w : World) (h1 : l ≤ n) (h2 : n ≤ h) : Calls Try.prog 59 #[.int .i64 n, .int .i64 l, .int .i64 h] w fun e w' => e = .returned (.bool true) ∧ w = w' := by
  go_enter Try.func59, Try.ntmps59
  go_wp2_with fail
  go_ret
  exact ⟨rfl, rfl⟩
set_option maxRecDepth 100000 in
set_option maxHeartbeats 400000 in
theorem within64_yes (n l h : Int) (w : World) (h1 : l ≤ n) (h2 : n ≤ h) : Calls Try.prog 38 #[.int .i64 n, .int .i64 l, .int .i64 h] w fun e w' => e = .returned (.bool true) ∧ w = w' := by
  go_enter Try.func38, Try.ntmps38
  go_wp2_with fail
  go_ret
  exact ⟨rfl, rfl⟩
theorem infoI_int : (Try.prog.info? 3).map (fun i => (i.zero, i.size, i.bytes)) = some (some (.int .i64 0), 1, 8) := by kernel_rfl
/-- a new cell -/
theorem one_new {W : World} {t : TypeId} (v : Value) (g : Nat) (o : Obj) (hg : g = W.heap.size + 1) : ∀ (j : Nat) (u : Value), [v][j]? = some u → ((W.alloc o).alloc (.cells #[v] t)).cell? ((⟨g, 0, none⟩ : Addr).add j) = some u := by
  intro j u hu
  match j, hu with
  | 0, hu =>
    simp at hu
    subst hu hg
    have h := own_cell (own_new_at (W.alloc o) #[v] t (W.heap.size + 1) (by simp)) 0
    simp [Addr.add] at h ⊢
/-- the numbers below k, as cells -/
def rangeC (k : Nat) : List Value := (List.range k).map (fun (i : Nat) => Value.int .i64 (i : Int))
theorem rangeC_succ (k : Nat) : rangeC k ++ [.int .i64 (k : Int)] = rangeC (k + 1) := by simp [rangeC, List.range_succ]
theorem row_range {W : World} {g n : Nat} {cur : Array Value} {t : TypeId} (hh : W.heap[g]? = some (.cells cur t (0, 0))) (ht : cur.toList.take n = rangeC n) (_ : 0 < n) : RowN W g (List.range n) := by
  intro k hk
  have hk' : k < n := by simpa using hk
  refine ⟨?_, own_frz hh k⟩
  rw [own_cell hh k]
  have h1 : (cur.toList.take n)[k]? = (rangeC n)[k]? := by rw [ht]
  rw [List.getElem?_take_of_lt hk'] at h1
  rw [← Array.getElem?_toList, h1]
  simp [rangeC, hk', List.getD_eq_getElem?_getD]
theorem drewN_below (B : Nat) (w : World) (n : Nat) : Below B w (w.drewN n) := ⟨rfl, rfl, rfl, Nat.le_refl _, fun _ _ => rfl⟩
theorem held_cell {W W' : World} {a : Addr} {v : Value} (hb : Below W.heap.size W W') (hc : W.cell? a = some v) : W'.cell? a = some v := (hb.cell (p := a) (World.block_lt_of_cell? W a hc)).trans hc
theorem getD_mem (l : List Nat) (k : Nat) (h : k < l.length) : l.getD k 0 ∈ l := by
  simp only [List.getD_eq_getElem?_getD]; rw [List.getElem?_eq_getElem h]; exact List.getElem_mem h
theorem getD_ne {l : List Nat} (hn : l.Nodup) {i j : Nat} (hi : i < l.length) (hj : j < l.length) (h : i ≠ j) : l.getD i 0 ≠ l.getD j 0 := by
  simp only [List.getD_eq_getElem?_getD]; rw [List.getElem?_eq_getElem hi, List.getElem?_eq_getElem hj]
  intro e
  exact h ((List.getElem_inj hn).1 e)
theorem own_grown {w w' : World} {row : Option Nat} {g : Nat} {cs : Array Value} {t : TypeId} (h : Own w g cs t) (hg : w.grownBy w' row) (hne : some g ≠ row) : Own w' g cs t := (hg.block g (own_lt h) hne).trans h
/-- a row of places of the call's own, or none -/
def PlacesTo (B n : Nat) (l : List Nat) (w : World) (e : Ending) (w' : World) : Prop :=
  ∃ v, e = .returned (.tuple #[v, .int .i64 0]) ∧ ((n = 0 ∧ v = .slice none 0 0) ∨ ∃ g c, v = .slice (some ⟨g, 0, none⟩) n c ∧ RowN w' g l ∧ B ≤ g ∧ g < w'.heap.size) ∧ Below B w w'

set_option maxRecDepth 100000 in
set_option maxHeartbeats 4000000 in
theorem places_ok (b off n cap : Nat) (x : Nat → It) (w : World) (hn : 1 ≤ n) (hn2 : n ≤ 200) (hb : b < w.heap.size) (hx : ItsAt w b off n x) (hok : ∀ k, k < n → (x k).ok) (ha : Apart x n) :
    Calls Try.prog 39 #[.slice (some ⟨b, off, none⟩) n cap] w (PlacesTo w.heap.size n (plc x n) w) := by
  have HX : Hid (∀ W, Below w.heap.size w W → ItsAt W b off n x) := Lib.hid (fun W hB k hk => by
    obtain ⟨q0, q1, q2, q3⟩ := hx k hk
    exact ⟨(hB.cell (p := ⟨b, off + k * 4, none⟩) hb).trans q0, (hB.cell (p := ⟨b, off + k * 4 + 1, none⟩) hb).trans q1, (hB.cell (p := ⟨b, off + k * 4 + 2, none⟩) hb).trans q2, (hB.cell (p := ⟨b, off + k * 4 + 3, none⟩) hb).trans q3⟩)
  have HK := Lib.hid hok
  have HAp := Lib.hid ha
  clear hx hok ha
  obtain ⟨i0, hi, hz0, hz1, hz2⟩ := info_parts infoI_int
  go_enter Try.func39, Try.ntmps39
  go_wp2_with fail
  have hown0 : Own (w.alloc (.cells #[.slice (some ⟨b, off, none⟩) n cap] 49)) w.heap.size #[.slice (some ⟨b, off, none⟩) n cap] 49 := own_new _ _ _
  have hbel0 : Below w.heap.size w (w.alloc (.cells #[.slice (some ⟨b, off, none⟩) n cap] 49)) := (Below.refl _ _).alloc (Nat.le_refl _) _
  have HO0 := Lib.hid hown0; have HB0 := Lib.hid hbel0
  have hz : w.heap.size < (w.alloc (.cells #[.slice (some ⟨b, off, none⟩) n cap] 49)).heap.size := by simp
  have hr0 : (w.alloc (.cells #[.slice (some ⟨b, off, none⟩) n cap] 49)).ownsRow (w.heap.size + 1) 3 1 (.slice none 0 0) 0 [] := World.ownsRow_nil _ _ _ _
  have HR0 := Lib.hid hr0
  clear hown0 hbel0 hr0
  generalize w.alloc (.cells #[.slice (some ⟨b, off, none⟩) n cap] 49) = W0 at *
  go_loopw [4, 13] (fun v vi wr => ∃ k : Nat, k ≤ n ∧ vi = .int .i64 k ∧ Hid (wr.ownsRow (w.heap.size + 1) 3 1 v k (rangeC k)) ∧ Hid (Own wr w.heap.size #[.slice (some ⟨b, off, none⟩) n cap] 49) ∧ Hid (Below w.heap.size w wr)) (fun _ vi _ => n - (intOf vi).toNat)
  case atStart => exact ⟨0, by omega, rfl, HR0, HO0, HB0⟩
  case round =>
    obtain ⟨k, hk, rfl, HR, HO, HB⟩ := hrel
    clear HR0 HO0 HB0
    by_cases hlt : k < n
    · obtain ⟨e0, e1, e2, e3⟩ := HX.out wr HB.out k hlt
      obtain ⟨⟨o1, o2⟩, ⟨o3, o4⟩, ⟨o5, o6⟩, ⟨o7, o8⟩⟩ := HK.out k hlt
      have hzr := own_lt HO.out
      generalize (x k).due = x0 at *
      generalize (x k).kind = x1 at *
      generalize (x k).per = x2 at *
      generalize (x k).opn = x3 at *
      go_wp2_with fail
      refine (within_yes _ _ _ _ o1 o2).mono ?_
      rintro e W1 ⟨rfl, rfl⟩
      go_wp2_with fail
      refine (within_yes _ _ _ _ o3 o4).mono ?_
      rintro e W1 ⟨rfl, rfl⟩
      go_wp2_with fail
      refine (within_yes _ _ _ _ o5 o6).mono ?_
      rintro e W1 ⟨rfl, rfl⟩
      go_wp2_with fail
      refine (within64_yes _ _ _ _ o7 o8).mono ?_
      rintro e W1 ⟨rfl, rfl⟩
      go_wp2_with ((at_builtin; refine wpList_append_own _ rfl (.tmp 40) (.tmp 42) 83 rfl (w.heap.size + 1) 3 i0 (.int .i64 0) 1 8 Try.underlying83 hi hz0 hz1 hz2 rfl (by decide) _ _ _ rfl ((HR.out.alloc _).alloc _) ⟨wr.heap.size + 1, 0, none⟩ 1 1 [.int .i64 (k : Int)] rfl rfl (one_new _ _ _ (by simp)) (by simp [Value.oneCell']) (by unfold maxLen; omega) (by omega) (by simp; omega) ?_; intro v' w' hown' hgrow' hnil'))
      have hr' := hown'
      rw [rangeC_succ] at hr'
      have HR' := Lib.hid hr'
      have HO' : Hid (Own w' w.heap.size #[.slice (some ⟨b, off, none⟩) n cap] 49) := Lib.hid (own_grown (own_alloc (own_alloc HO.out _) _) hgrow' (fun h => by have := (HR.out.lt _ h.symm).1; omega))
      have HB' : Hid (Below w.heap.size w w') := Lib.hid (((HB.out.alloc (by omega) _).alloc (by simp; omega) _).grown hgrow' (by simp; omega) (fun j hj => by have := (HR.out.lt _ hj).1; omega))
      clear hown' hgrow' hnil' hr'
      exact ⟨⟨k + 1, by omega, by go_num, HR', HO', HB'⟩, by simp [intOf]; omega⟩
    · obtain rfl : n = k := by omega
      rcases HR.out.2 with ⟨_, h0⟩ | ⟨g, c, cur, rfl, hbg, hheap, hnc, hcm, hsz, htake⟩
      · omega
      · have hrow : RowN wr g (List.range n) := row_range hheap (by rw [Nat.mul_one] at htake; exact htake) (by omega)
        have hgl : g < wr.heap.size := (Array.getElem?_eq_some_iff.1 hheap).1
        have HSo := Lib.hid (sort_places w.heap.size b off n cap g c x wr hn (by omega) (own_cell HO.out 0) (HX.out wr HB.out) hrow hgl (by omega) (by omega) HAp.out)
        clear HR hheap htake hrow hlt
        go_wp2_with fail
        refine HSo.out.mono ?_
        rintro e w2 ⟨rfl, hrow2, hgrow2⟩
        have HN2 := Lib.hid hrow2
        have HO2 := Lib.hid (own_grown HO.out hgrow2 (fun h => by simp at h; omega))
        have HB2 : Hid (Below w.heap.size w w2) := Lib.hid (HB.out.grown hgrow2 (by omega) (fun j hj => by simp at hj; omega))
        have hgl2 : g < w2.heap.size := Nat.lt_of_lt_of_le hgl hgrow2.size
        clear hrow2 hgrow2 HO HB HSo hgl hsz
        go_wp2_with fail
        go_loopw [7] (fun vi wq => ∃ k : Nat, 1 ≤ k ∧ k ≤ n ∧ vi = .int .i64 k ∧ Hid (RowN wq g (plc x n)) ∧ Hid (Own wq w.heap.size #[.slice (some ⟨b, off, none⟩) n cap] 49) ∧ Hid (Below w.heap.size w wq) ∧ Hid (g < wq.heap.size)) (fun vi _ => n - (intOf vi).toNat)
        case atStart => exact ⟨1, by omega, by omega, rfl, HN2, HO2, HB2, Lib.hid hgl2⟩
        case round =>
          obtain ⟨k, hk1, hk, rfl, HN, HO, HB, HG⟩ := hrel
          clear HN2 HO2 HB2
          by_cases hlt : k < n
          · obtain ⟨m, rfl⟩ : ∃ m, k = m + 1 := ⟨k - 1, by omega⟩
            have hlp := plc_length x n
            have hnd := plc_nodup x n
            have q1 := HN.out.cell (k := m) (by omega)
            have q2 := HN.out.cell (k := m + 1) (by omega)
            have hin : (plc x n).getD m 0 < n := plc_mem.1 (getD_mem _ _ (by omega))
            have hjn : (plc x n).getD (m + 1) 0 < n := plc_mem.1 (getD_mem _ _ (by omega))
            have hne : (plc x n).getD m 0 ≠ (plc x n).getD (m + 1) 0 := getD_ne hnd (by omega) (by omega) (by omega)
            generalize (plc x n).getD m 0 = i at *
            generalize (plc x n).getD (m + 1) 0 = j at *
            clear hlp hnd
            obtain ⟨c0, c1, c2, c3⟩ := HX.out wr HB.out i hin
            obtain ⟨d0, d1, d2, d3⟩ := HX.out wr HB.out j hjn
            have HOrd := Lib.hid (fun W => (order_any (x i) (x j) W).mono fun e w' (h : _ ∧ _) => (⟨h.1, h.2.below⟩ : e = .returned (.int .i64 (ordI (x i) (x j))) ∧ Below W.heap.size W w'))
            have hnz : (ordI (x i) (x j) == 0) = false := by
              simp only [beq_eq_false_iff_ne, ne_eq]
              intro h
              have := ordI_zero.1 h
              rcases HAp.out i j hin hjn hne with f | f
              · exact this.1 f
              · exact this.2 f
            have e0 := own_cell HO.out 0
            obtain ⟨Held, hh0, hcall, hdrew, f0, f1, f2, fc0, fc1, fc2, fc3, fd0, fd1, fd2, fd3, hback⟩ : ∃ Held : World → Prop, Held wr ∧ Hid (∀ W W', Held W → Below W.heap.size W W' → Held W') ∧ Hid (∀ W, Held W → Held W.drew) ∧
                (∀ p : HW Held, p.w.cell? ⟨w.heap.size, 0, none⟩ = some (.slice (some ⟨b, off, none⟩) n cap)) ∧ (∀ p : HW Held, p.w.cell? ⟨g, m, none⟩ = some (.int .i64 (i : Int))) ∧ (∀ p : HW Held, p.w.cell? ⟨g, m + 1, none⟩ = some (.int .i64 (j : Int))) ∧
                (∀ p : HW Held, p.w.cell? ⟨b, off + i * 4, none⟩ = some (.int .i64 (x i).due)) ∧ (∀ p : HW Held, p.w.cell? ⟨b, off + i * 4 + 1, none⟩ = some (.int .i64 (x i).kind)) ∧ (∀ p : HW Held, p.w.cell? ⟨b, off + i * 4 + 2, none⟩ = some (.int .i64 (x i).per)) ∧ (∀ p : HW Held, p.w.cell? ⟨b, off + i * 4 + 3, none⟩ = some (.int .i64 (x i).opn)) ∧
                (∀ p : HW Held, p.w.cell? ⟨b, off + j * 4, none⟩ = some (.int .i64 (x j).due)) ∧ (∀ p : HW Held, p.w.cell? ⟨b, off + j * 4 + 1, none⟩ = some (.int .i64 (x j).kind)) ∧ (∀ p : HW Held, p.w.cell? ⟨b, off + j * 4 + 2, none⟩ = some (.int .i64 (x j).per)) ∧ (∀ p : HW Held, p.w.cell? ⟨b, off + j * 4 + 3, none⟩ = some (.int .i64 (x j).opn)) ∧
                Hid (∀ W, Held W → RowN W g (plc x n) ∧ Own W w.heap.size #[.slice (some ⟨b, off, none⟩) n cap] 49 ∧ Below w.heap.size w W ∧ g < W.heap.size) :=
              ⟨fun W => Below wr.heap.size wr W, Below.refl _ _, Lib.hid (fun W W' h hb => h.trans (hb.mono h.size)), Lib.hid (fun W h => h.trans (drewN_below _ W 1)),
                fun p => held_cell p.h e0, fun p => held_cell p.h q1, fun p => held_cell p.h q2, fun p => held_cell p.h c0, fun p => held_cell p.h c1, fun p => held_cell p.h c2, fun p => held_cell p.h c3, fun p => held_cell p.h d0, fun p => held_cell p.h d1, fun p => held_cell p.h d2, fun p => held_cell p.h d3,
                Lib.hid (fun W h => ⟨fun k hk => ⟨held_cell h (HN.out k hk).1, (h.frozen (p := ⟨g, k, none⟩) HG.out).trans (HN.out k hk).2⟩, own_below HO.out h (own_lt HO.out), HB.out.trans (h.mono HB.out.size), Nat.lt_of_lt_of_le HG.out h.size⟩)⟩
            clear c0 c1 c2 c3 d0 d1 d2 d3 q1 q2 e0 HN HO HB HG
            unfold It.val at HOrd
            generalize ordI (x i) (x j) = R at *
            have i1 : (i : Int) < (n : Int) := by omega
            have i2 : (j : Int) < (n : Int) := by omega
            have i3 : (0 : Int) ≤ (i : Int) := by omega
            have i4 : (0 : Int) ≤ (j : Int) := by omega
            have i5 : (m : Int) < (n : Int) := by omega
            have i6 : (0 : Int) ≤ (m : Int) := by omega
            have i7 : (m : Int) + 1 < (n : Int) := by omega
            have i8 : (0 : Int) ≤ (m : Int) + 1 := by omega
            have s1 : IntKind.i64.wrap ((m : Int) + 1 - 1) = (m : Int) := by rw [IntKind.wrap_i64]; omega
            have s2 : IntKind.i64.wrap (m : Int) = (m : Int) := by rw [IntKind.wrap_i64]; omega
            have s3 : ((m : Int) + 1).toNat = m + 1 := by omega
            have hne' : Nonempty (HW Held) := ⟨⟨_, hh0⟩⟩
            go_wp2_with fail
            refine region_held Held (by kernel_rfl) (by kernel_rfl) (hdrew.out _ hh0) ?_
            repeat (quiet_step (first
              | (go_at_call 62; exact HW.call hcall.out HOrd.out _)))
            refine wpQuiet_nil ?_
            rintro W2 ⟨⟨_, hh2⟩, rfl⟩
            obtain ⟨n1, n2, n3, n4⟩ := hback.out _ hh2
            have N1 := Lib.hid n1; have N2 := Lib.hid n2; have N3 := Lib.hid n3; have N4 := Lib.hid n4
            clear f0 f1 f2 fc0 fc1 fc2 fc3 fd0 fd1 fd2 fd3 s1 s2 s3 n1 n2 n3 n4 hne' hback hh2
            go_wp2_with fail
            exact ⟨⟨m + 1 + 1, by omega, by omega, by go_num, N1, N2, N3, N4⟩, by simp [intOf]; omega⟩
          · obtain rfl : n = k := by omega
            go_wp2_with fail
            go_ret2
            exact ⟨_, rfl, Or.inr ⟨g, c, rfl, HN.out, by omega, HG.out⟩, HB.out⟩
end Go.Proofs.Ythamonfomihncaa
