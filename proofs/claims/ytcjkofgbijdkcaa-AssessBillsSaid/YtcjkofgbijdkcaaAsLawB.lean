/- The law AssessBills: the walk. -/
import Derived.WalkKit
import Derived.Outline
import Derived.Lib.Hide
import Derived.Handy
import Derived.Deep.QuietTactic
import Derived.BigQuiet
import Derived.Deep.RegionHeld3
import Derived.Test.YtcjkofgbijdkcaaRef16B
import Derived.Test.YtcjkofgbijdkcaaHeldN
namespace Go.Proofs.Ytcjkofgbijdkcaa
open Go.RowKit

set_option maxRecDepth 100000 in
set_option maxHeartbeats 1000000 in
theorem assessBills_walk (s : Sch) (r : Ret) (w : World) (hs : s.In w) (hr : r.In) :
    Calls Try.prog 4 #[s.val, r.val] w fun e w' => e = .returned (.bool true) ∧ Below w.heap.size w w' := by
  have HI := Lib.hid hs
  have H1 := Lib.hid (fun W h => asBill_any s r W h hr)
  have H2 := Lib.hid (fun W h => r16bill_any s r W h hr)
  have H3 := Lib.hid (fun W => asRight_any r W hr)
  have H4 := Lib.hid (fun W => r16right_any r W hr)
  have HH0 := Lib.hid (heldL_new s r w)
  simp only [Sch.val, Ret.val, Bil.val] at *
  clear hs hr
  generalize billR s r = B at *
  generalize r.right = R2 at *
  obtain ⟨b1, b2, b3, b4, b5⟩ := B
  simp only [] at H1 H2
  go_enter Try.func4, Try.ntmps4
  go_wp2_with fail
  generalize ((w.alloc (.cells #[.slice s.A s.len s.cap, .int .i64 s.ded, .int .i64 s.cre, .int .i64 s.bp, .int .i64 s.most, .int .i64 s.least] 29)).alloc (.cells #[.int .i64 r.per, .int .i64 r.due, .int .i64 r.fil, .int .i64 r.inc, .int .i64 r.wit] 31)) = W0 at *
  refine (awake16 _).mono ?_
  rintro e w1 ⟨rfl, hb1⟩
  have HH1 := Lib.hid (HH0.out.call hb1)
  have eS := HH1.out.atS
  have eR := HH1.out.atR
  have hsS := own_lt HH1.out.1
  have hsR := own_lt HH1.out.2.1
  have HB1 := Lib.hid HH1.out.2.2.1
  clear hb1
  by_cases cl : 1000 < s.len
  · have cl2 : decide ((1000 : Int) < (s.len : Int)) = true := decide_eq_true (by omega)
    go_wp2_with fail
    go_ret
    exact ⟨rfl, HB1.out⟩
  · have cl2 : decide ((1000 : Int) < (s.len : Int)) = false := decide_eq_false (by omega)
    go_wp2_with fail
    refine (H1.out _ (HH1.out.inn HI.out)).mono ?_
    rintro e w2 ⟨rfl, hb2⟩
    have HH2 := Lib.hid (HH1.out.call hb2)
    clear eS eR hsS hsR
    have eS := HH2.out.atS
    have eR := HH2.out.atR
    have hsS := own_lt HH2.out.1
    have hsR := own_lt HH2.out.2.1
    clear hb2
    go_wp2_with fail
    have HH3 := Lib.hid (HH2.out.alloc (.cells #[.int .i64 b1, .int .i64 b2, .int .i64 b3, .int .i64 b4] 33))
    have ho := own_new w2 #[.int .i64 b1, .int .i64 b2, .int .i64 b3, .int .i64 b4] 33
    clear eS eR hsS hsR
    generalize w2.alloc (.cells #[.int .i64 b1, .int .i64 b2, .int .i64 b3, .int .i64 b4] 33) = v2 at *
    refine (H2.out _ (HH3.out.inn HI.out)).mono ?_
    rintro e w3 ⟨rfl, hb3⟩
    have HH4 := Lib.hid (HH3.out.call hb3)
    have eR := HH4.out.atR
    have hsR := own_lt HH4.out.2.1
    have hob := own_below ho hb3 (own_lt ho)
    have eB := own_cell hob
    have hsB := own_lt hob
    have HOB := Lib.hid hob
    clear ho hob hb3
    go_wp2_with fail
    have hN0 : HeldN w.heap.size [⟨w2.heap.size, #[.int .i64 b1, .int .i64 b2, .int .i64 b3, .int .i64 b4], 33⟩, ⟨w.heap.size + 1, #[.int .i64 r.per, .int .i64 r.due, .int .i64 r.fil, .int .i64 r.inc, .int .i64 r.wit], 31⟩] w w3 := ⟨⟨HOB.out, HH4.out.2.1, trivial⟩, HH4.out.2.2.1, HH4.out.2.2.2⟩
    have hN : HeldN w.heap.size [⟨w3.heap.size, #[.int .i64 b1, .int .i64 b2, .int .i64 b3, .int .i64 b4], 33⟩, ⟨w2.heap.size, #[.int .i64 b1, .int .i64 b2, .int .i64 b3, .int .i64 b4], 33⟩, ⟨w.heap.size + 1, #[.int .i64 r.per, .int .i64 r.due, .int .i64 r.fil, .int .i64 r.inc, .int .i64 r.wit], 31⟩] w (w3.alloc (.cells #[.int .i64 b1, .int .i64 b2, .int .i64 b3, .int .i64 b4] 33)) :=
      hN0.push _ _
    clear eR eB
    generalize w3.alloc (.cells #[.int .i64 b1, .int .i64 b2, .int .i64 b3, .int .i64 b4] 33) = WB at *
    have eW : ∀ i, WB.cell? ⟨w3.heap.size, i, none⟩ = (#[.int .i64 b1, .int .i64 b2, .int .i64 b3, .int .i64 b4] : Array Value)[i]? := hN.cell
    have eB : ∀ i, WB.cell? ⟨w2.heap.size, i, none⟩ = (#[.int .i64 b1, .int .i64 b2, .int .i64 b3, .int .i64 b4] : Array Value)[i]? := hN.tail.cell
    have eR : ∀ i, WB.cell? ⟨w.heap.size + 1, i, none⟩ = (#[.int .i64 r.per, .int .i64 r.due, .int .i64 r.fil, .int .i64 r.inc, .int .i64 r.wit] : Array Value)[i]? := hN.tail.tail.cell
    obtain ⟨Held, hh0, hcall, hdrew, hat, hback⟩ : ∃ Held : World → Prop, Held WB ∧ Hid (∀ V V', Held V → Below V.heap.size V V' → Held V') ∧ Hid (∀ V, Held V → Held V.drew) ∧ Hid (∀ V, Held V → ((∀ i, V.cell? ⟨w2.heap.size, i, none⟩ = (#[.int .i64 b1, .int .i64 b2, .int .i64 b3, .int .i64 b4] : Array Value)[i]?) ∧ (∀ i, V.cell? ⟨w3.heap.size, i, none⟩ = (#[.int .i64 b1, .int .i64 b2, .int .i64 b3, .int .i64 b4] : Array Value)[i]?) ∧ (∀ i, V.cell? ⟨w.heap.size + 1, i, none⟩ = (#[.int .i64 r.per, .int .i64 r.due, .int .i64 r.fil, .int .i64 r.inc, .int .i64 r.wit] : Array Value)[i]?))) ∧ Hid (∀ V, Held V → Below w.heap.size w V) :=
      ⟨_, hN, Lib.hid (fun V V' h hb => h.call hb), Lib.hid (fun V h => h.drew), Lib.hid (fun V h => ⟨h.tail.cell, h.cell, h.tail.tail.cell⟩), Lib.hid (fun V h => h.2.1)⟩
    clear hN hN0
    go_region_held3 (fun V => (∀ i, V.cell? ⟨w2.heap.size, i, none⟩ = (#[.int .i64 b1, .int .i64 b2, .int .i64 b3, .int .i64 b4] : Array Value)[i]?) ∧ (∀ i, V.cell? ⟨w3.heap.size, i, none⟩ = (#[.int .i64 b1, .int .i64 b2, .int .i64 b3, .int .i64 b4] : Array Value)[i]?) ∧ (∀ i, V.cell? ⟨w.heap.size + 1, i, none⟩ = (#[.int .i64 r.per, .int .i64 r.due, .int .i64 r.fil, .int .i64 r.inc, .int .i64 r.wit] : Array Value)[i]?))
      (first | exact hat.out _ (by assumption) | exact hat.out _ (hdrew.out _ (by assumption)) | go_keep)
      (first
        | (go_at_call 15; refine (H3.out _).mono ?_; rintro e W' ⟨rfl, hb⟩; have hh : Held W' := by first | exact hcall.out _ _ (by assumption) hb | exact hcall.out _ _ (hdrew.out _ (by assumption)) hb)
        | (go_at_call 16; refine (H4.out _).mono ?_; rintro e W' ⟨rfl, hb⟩; have hh : Held W' := by first | exact hcall.out _ _ (by assumption) hb | exact hcall.out _ _ (hdrew.out _ (by assumption)) hb))
    go_wp2_with fail
    go_ret
    exact ⟨rfl, hback.out _ hh⟩
end Go.Proofs.Ytcjkofgbijdkcaa
