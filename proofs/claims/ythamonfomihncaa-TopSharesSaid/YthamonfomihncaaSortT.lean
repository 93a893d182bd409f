/- The library's stable sort puts a row that rises in order: by the rest, the greatest first; at the same rest as they stood. No program in sight. -/
import Derived.WalkKit
import Derived.Test.YthamonfomihncaaSortR
namespace Go.Proofs.Ythamonfomihncaa

theorem dvd_gap {s a p : Nat} (ha : s ∣ a) (hp : s ∣ p) (h : a < p) : a + s ≤ p := by
  have := Nat.le_of_dvd (by omega) (Nat.dvd_sub hp ha)
  omega
/-- runs of s places, each in order, each of less numbers than those behind it -/
def Runs (r : Int → Int) (n s : Nat) (d : Nat → Int) : Prop := (∀ p, s ∣ p → Srt r d p (min (p + s) n)) ∧ ∀ p i j, s ∣ p → i < p → p ≤ j → j < n → d i < d j
theorem runs_blocks {r : Int → Int} (n a : Nat) (d : Nat → Int) (h20 : 20 ∣ a) (h1 : ∀ p, 20 ∣ p → p < a → Srt r d p (min (p + 20) n)) (h2 : ∀ p i j, 20 ∣ p → p ≤ a → i < p → p ≤ j → d i < d j) (h3 : ∀ i j, a ≤ i → i < j → d i < d j) :
    Runs r n 20 (blocks (cR r) n a d) := by
  induction a, d using blocks.induct (c := cR r) (n := n) with
  | case1 a d h ih =>
    rw [blocks, if_pos h]
    obtain ⟨s1, f1⟩ := srt_insTo (r := r) (a := a) h3 19
    have e : a + 19 + 1 = a + 20 := by omega
    rw [e] at s1 f1
    generalize insTo (cR r) a 19 d = d' at *
    refine ih (Nat.dvd_add h20 (Nat.dvd_refl _)) (fun p hp hlt => ?_) (fun p i j hp hle hi hj => ?_) (fun i j hi hj => ?_)
    · by_cases g : p = a
      · subst g
        intro i j g1 g2 g3
        exact s1 i j g1 g2 (by omega)
      · have hpa : p < a := by
          rcases Nat.lt_trichotomy p a with q | q | q
          · exact q
          · exact absurd q g
          · have := dvd_gap h20 hp q; omega
        have := dvd_gap hp h20 hpa
        intro i j g1 g2 g3
        rw [f1.1 i (by omega), f1.1 j (by omega)]
        exact h1 p hp hpa i j g1 g2 g3
    · have hcase : p ≤ a ∨ p = a + 20 := by
        rcases Nat.lt_trichotomy p (a + 20) with q | q | q
        · by_cases q2 : a < p
          · have := dvd_gap h20 hp q2; omega
          · exact .inl (by omega)
        · exact .inr q
        · omega
      rcases hcase with q | q
      · rw [f1.1 i (by omega)]
        by_cases q2 : a ≤ j ∧ j < a + 20
        · obtain ⟨j', x1, x2, x3⟩ := f1.2 j q2.1 q2.2
          rw [x3]; exact h2 p i j' hp q hi (by omega)
        · rw [f1.1 j (by omega)]; exact h2 p i j hp q hi hj
      · rw [f1.1 j (by omega)]
        by_cases q2 : a ≤ i
        · obtain ⟨i', x1, x2, x3⟩ := f1.2 i q2 (by omega)
          rw [x3]; exact h3 i' j x1 (by omega)
        · rw [f1.1 i (by omega)]; exact h2 a i j h20 (Nat.le_refl _) (by omega) (by omega)
    · rw [f1.1 i (by omega), f1.1 j (by omega)]; exact h3 i j (by omega) hj
  | case2 a d h =>
    rw [blocks, if_neg h]
    by_cases hn : n ≤ a
    · have e0 : n - a - 1 = 0 := by omega
      rw [e0]
      simp only [insTo]
      refine ⟨fun p hp => ?_, fun p i j hp hi hj hjn => ?_⟩
      · by_cases g : p < a
        · exact h1 p hp g
        · intro i j g1 g2 g3; omega
      · exact h2 p i j hp (by omega) hi hj
    · obtain ⟨s1, f1⟩ := srt_insTo (r := r) (a := a) h3 (n - a - 1)
      have e : a + (n - a - 1) + 1 = n := by omega
      rw [e] at s1 f1
      generalize insTo (cR r) a (n - a - 1) d = d' at *
      refine ⟨fun p hp => ?_, fun p i j hp hi hj hjn => ?_⟩
      · by_cases g : p = a
        · subst g
          intro i j g1 g2 g3
          exact s1 i j g1 g2 (by omega)
        · by_cases g2 : p < a
          · have := dvd_gap hp h20 g2
            intro i j g1 g2' g3
            rw [f1.1 i (by omega), f1.1 j (by omega)]
            exact h1 p hp g2 i j g1 g2' g3
          · have := dvd_gap h20 hp (by omega)
            intro i j g1 g2' g3; omega
      · have hpa : p ≤ a := by
          by_cases q2 : a < p
          · have := dvd_gap h20 hp q2; omega
          · omega
        rw [f1.1 i (by omega)]
        by_cases q2 : a ≤ j
        · obtain ⟨j', x1, x2, x3⟩ := f1.2 j q2 hjn
          rw [x3]; exact h2 p i j' hp hpa hi (by omega)
        · rw [f1.1 j (by omega)]; exact h2 p i j hp hpa hi hj
theorem runs_pass {r : Int → Int} (n s a : Nat) (d : Nat → Int) (hs : 0 < s) (h2s : 2 * s ∣ a) (h1 : ∀ p, 2 * s ∣ p → p < a → Srt r d p (min (p + 2 * s) n)) (h2 : ∀ p, s ∣ p → a ≤ p → Srt r d p (min (p + s) n))
    (h3 : ∀ p i j, (2 * s ∣ p ∧ p ≤ a ∨ s ∣ p ∧ a ≤ p) → i < p → p ≤ j → j < n → d i < d j) : Runs r n (2 * s) (pass (cR r) n s a d) := by
  have hss : s ∣ a := Nat.dvd_trans (Nat.dvd_mul_left s 2) h2s
  induction a, d using pass.induct (c := cR r) (n := n) (s := s) with
  | case1 a d h ih =>
    rw [pass, if_pos h]
    have S1 : Srt r d a (a + s) := fun i j g1 g2 g3 => h2 a hss (Nat.le_refl _) i j g1 g2 (by omega)
    have S2 : Srt r d (a + s) (a + 2 * s) := fun i j g1 g2 g3 => h2 (a + s) (Nat.dvd_add hss (Nat.dvd_refl _)) (by omega) i j g1 g2 (by omega)
    obtain ⟨s1, f1⟩ := srt_sym (r := r) (2 * s) a (a + s) (a + 2 * s) d (by omega) (by omega) (by omega) S1 S2 (fun i j g1 g2 g3 g4 => h3 (a + s) i j (.inr ⟨Nat.dvd_add hss (Nat.dvd_refl _), by omega⟩) g2 g3 (by omega))
    generalize sym (cR r) (2 * s) a (a + s) (a + 2 * s) d = d' at *
    have h2s' : 2 * s ∣ a + 2 * s := Nat.dvd_add h2s (Nat.dvd_refl _)
    refine ih h2s' (fun p hp hlt => ?_) (fun p hp hle => ?_) (fun p i j hp hi hj hjn => ?_) (Nat.dvd_trans (Nat.dvd_mul_left s 2) h2s')
    · by_cases g : p = a
      · subst g
        intro i j g1 g2 g3
        exact s1 i j g1 g2 (by omega)
      · have hpa : p < a := by
          rcases Nat.lt_trichotomy p a with q | q | q
          · exact q
          · exact absurd q g
          · have := dvd_gap h2s hp q; omega
        have := dvd_gap hp h2s hpa
        intro i j g1 g2 g3
        rw [f1.1 i (by omega), f1.1 j (by omega)]
        exact h1 p hp hpa i j g1 g2 g3
    · intro i j g1 g2 g3
      rw [f1.1 i (by omega), f1.1 j (by omega)]
      exact h2 p hp (by omega) i j g1 g2 g3
    · have hcase : p ≤ a ∧ 2 * s ∣ p ∨ s ∣ p ∧ a + 2 * s ≤ p := by
        rcases hp with hp | hp
        · by_cases q2 : a < p
          · have := dvd_gap h2s hp.1 q2
            exact .inr ⟨Nat.dvd_trans (Nat.dvd_mul_left s 2) hp.1, by omega⟩
          · exact .inl ⟨by omega, hp.1⟩
        · exact .inr hp
      rcases hcase with q | q
      · rw [f1.1 i (by omega)]
        by_cases q2 : a ≤ j ∧ j < a + 2 * s
        · obtain ⟨j', x1, x2, x3⟩ := f1.2 j q2.1 q2.2
          rw [x3]; exact h3 p i j' (.inl ⟨q.2, q.1⟩) hi (by omega) (by omega)
        · rw [f1.1 j (by omega)]; exact h3 p i j (.inl ⟨q.2, q.1⟩) hi hj hjn
      · rw [f1.1 j (by omega)]
        by_cases q2 : a ≤ i ∧ i < a + 2 * s
        · obtain ⟨i', x1, x2, x3⟩ := f1.2 i q2.1 q2.2
          rw [x3]; exact h3 p i' j (.inr ⟨q.1, by omega⟩) (by omega) hj hjn
        · rw [f1.1 i (by omega)]; exact h3 p i j (.inr ⟨q.1, by omega⟩) hi hj hjn
  | case2 a d h g =>
    rw [pass, if_neg h, if_pos g]
    have S1 : Srt r d a (a + s) := fun i j g1 g2 g3 => h2 a hss (Nat.le_refl _) i j g1 g2 (by omega)
    have S2 : Srt r d (a + s) n := fun i j g1 g2 g3 => h2 (a + s) (Nat.dvd_add hss (Nat.dvd_refl _)) (by omega) i j g1 g2 (by omega)
    obtain ⟨s1, f1⟩ := srt_sym (r := r) (n - a) a (a + s) n d (by omega) (by omega) (by omega) S1 S2 (fun i j g1 g2 g3 g4 => h3 (a + s) i j (.inr ⟨Nat.dvd_add hss (Nat.dvd_refl _), by omega⟩) g2 g3 (by omega))
    generalize sym (cR r) (n - a) a (a + s) n d = d' at *
    refine ⟨fun p hp => ?_, fun p i j hp hi hj hjn => ?_⟩
    · by_cases q : p = a
      · subst q
        intro i j g1 g2 g3
        exact s1 i j g1 g2 (by omega)
      · by_cases q2 : p < a
        · have := dvd_gap hp h2s q2
          intro i j g1 g2 g3
          rw [f1.1 i (by omega), f1.1 j (by omega)]
          exact h1 p hp q2 i j g1 g2 g3
        · have := dvd_gap h2s hp (by omega)
          intro i j g1 g2 g3; omega
    · have hpa : p ≤ a := by
        by_cases q2 : a < p
        · have := dvd_gap h2s hp q2; omega
        · omega
      rw [f1.1 i (by omega)]
      by_cases q2 : a ≤ j
      · obtain ⟨j', x1, x2, x3⟩ := f1.2 j q2 hjn
        rw [x3]; exact h3 p i j' (.inl ⟨hp, hpa⟩) hi (by omega) x2
      · rw [f1.1 j (by omega)]; exact h3 p i j (.inl ⟨hp, hpa⟩) hi hj hjn
  | case3 a d h g =>
    rw [pass, if_neg h, if_neg g]
    refine ⟨fun p hp => ?_, fun p i j hp hi hj hjn => ?_⟩
    · by_cases q2 : p < a
      · exact h1 p hp q2
      · by_cases q : p = a
        · subst q
          intro i j g1 g2 g3
          exact h2 p hss (Nat.le_refl _) i j g1 g2 (by omega)
        · have := dvd_gap h2s hp (by omega)
          intro i j g1 g2 g3; omega
    · by_cases q2 : a < p
      · have := dvd_gap h2s hp q2; omega
      · exact h3 p i j (.inl ⟨hp, by omega⟩) hi hj hjn
theorem srt_merges {r : Int → Int} (n s : Nat) (d : Nat → Int) (hs : 0 < s) (h : Runs r n s d) : Srt r (merges (cR r) n s d) 0 n := by
  induction s, d using merges.induct (c := cR r) (n := n) with
  | case1 s d g ih =>
    rw [merges, if_pos g]
    refine ih (by omega) (runs_pass n s 0 d g.1 (Nat.dvd_zero _) (fun p _ hlt => absurd hlt (by omega)) (fun p hp _ => h.1 p hp) (fun p i j hp hi hj hjn => ?_))
    rcases hp with hp | hp
    · omega
    · exact h.2 p i j hp.1 hi hj hjn
  | case2 s d g =>
    rw [merges, if_neg g]
    intro i j g1 g2 g3
    exact h.1 0 (Nat.dvd_zero _) i j g1 g2 (by omega)
/-- a row that rises, sorted -/
theorem srt_stab {r : Int → Int} (n : Nat) (d : Nat → Int) (hd : ∀ i j, i < j → d i < d j) : Srt r (stab (cR r) n d) 0 n :=
  srt_merges n 20 _ (by omega) (runs_blocks n 0 d (Nat.dvd_zero _) (fun p _ hlt => absurd hlt (by omega)) (fun p i j _ hle hi => absurd hi (by omega)) (fun i j _ hj => hd i j hj))
end Go.Proofs.Ythamonfomihncaa
