/- Package alloc: Pay and Total, of items that are apart. -/
import Derived.WalkKit
import Derived.Outline
import Derived.Lib.Hide
import Derived.Handy
import Derived.Deep.QuietTactic
import Derived.BigQuiet
import Derived.BigRegion
import Derived.Deep.DeepCutAuto
import Derived.Laws.AppendOwn
import Derived.Laws.MakeOwn
import Derived.Test.YthamonfomihncaaPlaces
import Derived.Test.YthamonfomihncaaRow
namespace Go.Proofs.Ythamonfomihncaa
open Go.RowKit Go.Sort

/-- what is left of an amount behind the first k of the places -/
def payA (x : Nat → It) (p : List Nat) (amt : Int) : Nat → Int
  | 0 => amt
  | k + 1 => payA x p amt k - min (x (p.getD k 0)).opn (payA x p amt k)
/-- what is paid of each item by then -/
def payO (x : Nat → It) (p : List Nat) (amt : Int) : Nat → (Nat → Int)
  | 0 => fun _ => 0
  | k + 1 => upd (payO x p amt k) (p.getD k 0) (min (x (p.getD k 0)).opn (payA x p amt k))

set_option maxRecDepth 100000 in
set_option maxHeartbeats 400000 in
theorem take_any (m amt : Int) (c : Nat) (w : World) (h : Own w c #[.int .i64 amt] 2) (h1 : 0 ≤ m) (h2 : m ≤ 4611686018427387904) (h3 : 0 ≤ amt) (h4 : amt ≤ 4611686018427387904) :
    Calls Try.prog 40 #[.int .i64 m, .pointer (some ⟨c, 0, none⟩)] w fun e w' => e = .returned (.int .i64 (min m amt)) ∧ Own w' c #[.int .i64 (amt - min m amt)] 2 ∧ Only c w w' := by
  have e1 := own_cell h 0
  have e2 := own_frz h 0
  have hs := own_set h 0 (.int .i64 (amt - min m amt))
  have HS := Lib.hid hs
  have hb : 0 ≤ min m amt ∧ min m amt ≤ amt := by omega
  clear h hs
  go_enter Try.func40, Try.ntmps40
  go_wp2_with fail
  go_ret
  exact ⟨rfl, HS.out, (Only.refl _ _).setCell _ _⟩

theorem infoP_int64 : (Try.prog.info? 2).map (fun i => (i.zero, i.size, i.bytes)) = some (some (.int .i64 0), 1, 8) := by kernel_rfl
theorem made_rowP (n : Nat) : madeCells (Value.int .i64 0).cells (n * 1) = rowC (fun _ => 0) n := by
  apply Array.ext'
  simp only [madeCells, rowC, Value.cells, Array.toList_map, Array.toList_range, Nat.mul_one]
  apply List.map_congr_left
  intro k _
  simp [Nat.mod_one]
theorem makeP_int64 (n : Nat) (hn : n ≤ 1000) (W : World) : (Instr.makeSlice 46 (.int .i64 n) (.int .i64 n)).run Try.prog W = .ok (.slice (some ⟨W.heap.size, 0, none⟩) n n) (W.alloc (.cells (rowC (fun _ => 0) n) 2)) := by
  obtain ⟨i0, hi, hz0, hz1, hz2⟩ := info_parts infoP_int64
  rw [run_make W _ _ i0 _ Try.underlying46 hi hz0 .i64 .i64 n n (by omega) (Int.le_refl _) (by rw [hz2]; omega) (by omega), hz1, Int.toNat_natCast, made_rowP]
theorem payA_bd {x : Nat → It} {p : List Nat} {amt : Int} (h0 : 0 ≤ amt) (h : ∀ k, k < p.length → 0 ≤ (x (p.getD k 0)).opn) : ∀ k, k ≤ p.length → 0 ≤ payA x p amt k ∧ payA x p amt k ≤ amt
  | 0, _ => ⟨h0, Int.le_refl _⟩
  | k + 1, hk => by
    have i := payA_bd h0 h k (by omega)
    have := h k (by omega)
    simp only [payA]
    omega
/-- the parts that are paid, what is left, and that nothing was amiss -/
def PaidTo (n : Nat) (f : Nat → Int) (left : Int) (w : World) (e : Ending) (w' : World) : Prop :=
  ∃ g : Nat, e = .returned (.tuple #[.slice (some ⟨g, 0, none⟩) n n, .int .i64 left, .int .i64 0]) ∧ Row w' g n 2 f ∧ w.heap.size ≤ g ∧ Below w.heap.size w w'
theorem drewN_of {B : Nat} {a w : World} (h : Below B a w) (n : Nat) : Below B a (w.drewN n) := ⟨h.os, h.tape, h.output, h.size, h.block⟩
theorem RowN.below {W W' : World} {g : Nat} {l : List Nat} (h : RowN W g l) (hg : g < W.heap.size) (hb : Below W.heap.size W W') : RowN W' g l :=
  fun k hk => ⟨held_cell hb (h k hk).1, (hb.frozen (p := ⟨g, k, none⟩) hg).trans (h k hk).2⟩
theorem RowN.only {W W' : World} {g c : Nat} {l : List Nat} (h : RowN W g l) (ho : Only c W W') (hne : g ≠ c) : RowN W' g l :=
  fun k hk => ⟨(ho.cell hne k).trans (h k hk).1, by rw [← (h k hk).2]; exact World.frozen?_of_block (ho.block g hne)⟩

set_option maxRecDepth 100000 in
set_option maxHeartbeats 4000000 in
theorem pay_ok (b off n cap : Nat) (x : Nat → It) (amt : Int) (w : World) (hn : 1 ≤ n) (hn2 : n ≤ 200) (hb : b < w.heap.size) (hx : ItsAt w b off n x) (hok : ∀ k, k < n → (x k).ok) (ha : Apart x n) (h1 : 0 ≤ amt) (h2 : amt ≤ 4611686018427387904) :
    Calls Try.prog 12 #[.slice (some ⟨b, off, none⟩) n cap, .int .i64 amt] w (PaidTo n (payO x (plc x n) amt n) (payA x (plc x n) amt n) w) := by
  have HX : Hid (∀ W, Below w.heap.size w W → ItsAt W b off n x) := Lib.hid (fun W hB k hk => by
    obtain ⟨q0, q1, q2, q3⟩ := hx k hk
    exact ⟨held_cell (hB.mono (Nat.le_refl _)) q0, held_cell hB q1, held_cell hB q2, held_cell hB q3⟩)
  have HPl := Lib.hid (fun W (hB : Below w.heap.size w W) => places_ok b off n cap x W hn hn2 (Nat.lt_of_lt_of_le hb hB.size) (HX.out W hB) hok ha)
  have HK := Lib.hid hok
  have HL := Lib.hid (plc_length x n)
  have HM : Hid (∀ k, k < n → (plc x n).getD k 0 < n) := Lib.hid (fun k hk => plc_mem.1 (getD_mem _ _ (by rw [plc_length]; exact hk)))
  have HB0 : Hid (∀ k, k ≤ n → 0 ≤ payA x (plc x n) amt k ∧ payA x (plc x n) amt k ≤ amt) := Lib.hid (fun k hk => payA_bd h1 (fun j hj => (hok _ (plc_mem.1 (getD_mem _ _ hj))).2.2.2.1) k (by rw [plc_length]; exact hk))
  have hmk := makeP_int64 n (by omega)
  clear hx hok ha
  generalize plc x n = p at *
  go_enter Try.func12, Try.ntmps12
  go_wp2_with fail
  refine (within64_yes _ _ _ _ h1 h2).mono ?_
  rintro e w1 ⟨rfl, rfl⟩
  have HA0 : Hid (Own (w.alloc (.cells #[.int .i64 amt] 2)) w.heap.size #[.int .i64 amt] 2) := Lib.hid (own_new _ _ _)
  have HBl0 : Hid (Below w.heap.size w (w.alloc (.cells #[.int .i64 amt] 2))) := Lib.hid ((Below.refl _ _).alloc (Nat.le_refl _) _)
  have hz : w.heap.size < (w.alloc (.cells #[.int .i64 amt] 2)).heap.size := by simp
  go_wp2_with fail
  generalize w.alloc (.cells #[.int .i64 amt] 2) = W0 at *
  refine (HPl.out _ HBl0.out).mono ?_
  rintro e w2 ⟨v, rfl, hv, hb2⟩
  have hv2 : ∃ g c, v = .slice (some ⟨g, 0, none⟩) n c ∧ RowN w2 g p ∧ W0.heap.size ≤ g ∧ g < w2.heap.size := by
    rcases hv with ⟨h0, _⟩ | h
    · omega
    · exact h
  obtain ⟨g, c, rfl, hrow, hg0, hg1⟩ := hv2
  have HR2 := Lib.hid hrow
  have HA2 := Lib.hid (own_below HA0.out hb2 hz)
  have HBl2 := Lib.hid (HBl0.out.trans (hb2.mono HBl0.out.size))
  have hz2 := own_lt HA2.out
  clear hv hrow hb2 HPl HA0 HBl0
  go_wp2_with fail
  have HA3 := Lib.hid (own_alloc HA2.out (.cells (rowC (fun _ => 0) n) 2))
  have HR3 : Hid (RowN (w2.alloc (.cells (rowC (fun _ => 0) n) 2)) g p) := Lib.hid (HR2.out.below hg1 ((Below.refl _ _).alloc (Nat.le_refl _) _))
  have HO3 : Hid (Row (w2.alloc (.cells (rowC (fun _ => 0) n) 2)) w2.heap.size n 2 (payO x p amt 0)) := Lib.hid (own_new _ _ _)
  have HB3 := Lib.hid (HBl2.out.alloc (by omega) (.cells (rowC (fun _ => 0) n) 2))
  clear HA2 HR2 HBl2 hmk
  generalize w2.alloc (.cells (rowC (fun _ => 0) n) 2) = W3 at *
  generalize w2.heap.size = q at *
  have HAs : Hid (∀ k, payA x p amt (k + 1) = payA x p amt k - min (x (p.getD k 0)).opn (payA x p amt k)) := Lib.hid (fun k => rfl)
  have HOs : Hid (∀ k, payO x p amt (k + 1) = upd (payO x p amt k) (p.getD k 0) (min (x (p.getD k 0)).opn (payA x p amt k))) := Lib.hid (fun k => rfl)
  have HA3' : Hid (Own W3 w.heap.size #[.int .i64 (payA x p amt 0)] 2) := HA3
  clear HA3
  generalize payA x p amt = PA at *
  generalize payO x p amt = PO at *
  go_loopw [30] (fun vi wr => ∃ k : Nat, k ≤ n ∧ vi = .int .i64 k ∧ Hid (Row wr q n 2 (PO k)) ∧ Hid (Own wr w.heap.size #[.int .i64 (PA k)] 2) ∧ Hid (RowN wr g p) ∧ Hid (Below w.heap.size w wr)) (fun vi _ => n - (intOf vi).toNat)
  case atStart => exact ⟨0, by omega, rfl, HO3, HA3', HR3, HB3⟩
  case round =>
    obtain ⟨k, hk, rfl, HO, HA, HR, HB⟩ := hrel
    clear HO3 HA3' HR3 HB3
    by_cases hlt : k < n
    · have e1 := HR.out.cell (k := k) (by rw [HL.out]; exact hlt)
      have hin := HM.out k hlt
      have hs := HOs.out k
      have hsa := HAs.out k
      generalize p.getD k 0 = i at *
      obtain ⟨_, _, _, e2⟩ := HX.out wr HB.out i hin
      obtain ⟨_, _, _, o1, o2⟩ := HK.out i hin
      have hpb := HB0.out k hk
      have HT := Lib.hid (take_any (x i).opn (PA k) w.heap.size wr HA.out o1 o2 hpb.1 (by omega))
      generalize (x i).opn = y at *
      rw [← hsa] at HT
      generalize min y (PA k) = z at *
      have HOk := Lib.hid hs
      have i1 : (i : Int) < (n : Int) := by omega
      have i2 : (0 : Int) ≤ (i : Int) := by omega
      clear hs hsa hpb
      go_wp2_with fail
      refine HT.out.mono ?_
      rintro e w4 ⟨rfl, hA4, hO4⟩
      have hr4 : Row w4 q n 2 (PO k) := hO4.own (by omega) HO.out
      have c1 := hr4.cell hin
      have c2 := hr4.frz i
      have hr5 := hr4.set hin z
      rw [← HOk.out] at hr5
      have HO5 := Lib.hid hr5
      have HA5 := Lib.hid (own_far hA4 (show w.heap.size ≠ q by omega) i (.int .i64 z))
      have HR5 : Hid (RowN (w4.setCell ⟨q, i, none⟩ (.int .i64 z)) g p) := Lib.hid ((HR.out.only hO4 (by omega)).only ((Only.refl _ _).setCell i _) (by omega))
      have HB5 := Lib.hid ((HB.out.trans (hO4.below (Nat.le_refl _))).trans (((Only.refl q w4).setCell i (.int .i64 z)).below (show w.heap.size ≤ q by omega)))
      clear hA4 hO4 hr4 hr5 HO HA HR HB HT
      go_wp2_with fail
      exact ⟨⟨k + 1, by omega, by go_num, HO5, HA5, HR5, HB5⟩, by simp [intOf]; omega⟩
    · obtain rfl : n = k := by omega
      have e0 := own_cell HA.out 0
      clear HL HM HB0 HX HK HAs HOs
      go_wp2_with fail
      go_quiet (fail)
      go_wp2_with fail
      go_ret3
      exact ⟨q, rfl, HO.out.drewN _, by omega, drewN_of HB.out _⟩
end Go.Proofs.Ythamonfomihncaa
