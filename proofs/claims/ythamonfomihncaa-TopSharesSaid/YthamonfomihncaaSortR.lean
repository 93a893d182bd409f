/- What the library's stable sort does to a row: rotations and merges, and that the whole is in order. No program in sight. -/
import Derived.WalkKit
import Derived.Test.YthamonfomihncaaSortS
namespace Go.Proofs.Ythamonfomihncaa

theorem shUp_at (a : Nat) : ∀ t d k, (a ≤ k ∧ k < a + t → shUp a t d k = d (k + 1)) ∧ (k = a + t → shUp a t d k = d a) ∧ (k < a ∨ a + t < k → shUp a t d k = d k)
  | 0, d, k => ⟨fun h => by omega, fun h => by rw [h]; rfl, fun _ => rfl⟩
  | t + 1, d, k => by
    have h0 := shUp_at a t d
    have e1 := (h0 (a + t)).2.1 rfl
    have e2 := (h0 (a + t + 1)).2.2 (by omega)
    simp only [shUp, swp_at]
    refine ⟨fun h => ?_, fun h => ?_, fun h => ?_⟩
    · rw [if_neg (by omega)]
      by_cases g : k = a + t
      · rw [if_pos g, e2, g]
      · rw [if_neg g]; exact (h0 k).1 (by omega)
    · rw [if_pos (by omega)]; exact e1
    · rw [if_neg (by omega), if_neg (by omega)]; exact (h0 k).2.2 (by omega)
theorem shDn_at (m : Nat) : ∀ t d k, t ≤ m → (m - t < k ∧ k ≤ m → shDn m t d k = d (k - 1)) ∧ (k = m - t → shDn m t d k = d m) ∧ (k < m - t ∨ m < k → shDn m t d k = d k)
  | 0, d, k, _ => ⟨fun h => by omega, fun h => by rw [h]; rfl, fun _ => rfl⟩
  | t + 1, d, k, ht => by
    have h0 := fun k => shDn_at m t d k (by omega)
    have e1 := (h0 (m - t)).2.1 rfl
    have e2 := (h0 (m - t - 1)).2.2 (by omega)
    simp only [shDn, swp_at]
    refine ⟨fun h => ?_, fun h => ?_, fun h => ?_⟩
    · rw [if_neg (by omega)]
      by_cases g : k = m - t
      · rw [if_pos g, e2, g]
      · rw [if_neg g]; exact (h0 k).1 (by omega)
    · rw [if_pos (by omega)]; exact e1
    · rw [if_neg (by omega), if_neg (by omega)]; exact (h0 k).2.2 (by omega)
theorem swr_at (a b : Nat) : ∀ t d k, a + t ≤ b → (a ≤ k ∧ k < a + t → swr a b t d k = d (k - a + b)) ∧ (b ≤ k ∧ k < b + t → swr a b t d k = d (k - b + a)) ∧ (¬ (a ≤ k ∧ k < a + t) ∧ ¬ (b ≤ k ∧ k < b + t) → swr a b t d k = d k)
  | 0, d, k, _ => ⟨fun h => by omega, fun h => by omega, fun _ => rfl⟩
  | t + 1, d, k, ht => by
    have h0 := fun k => swr_at a b t d k (by omega)
    have e1 := (h0 (a + t)).2.2 (by omega)
    have e2 := (h0 (b + t)).2.2 (by omega)
    simp only [swr, swp_at]
    refine ⟨fun h => ?_, fun h => ?_, fun h => ?_⟩
    · rw [if_neg (by omega)]
      by_cases g : k = a + t
      · rw [if_pos g, e2]; exact congrArg d (by omega)
      · rw [if_neg g]; exact (h0 k).1 (by omega)
    · by_cases g : k = b + t
      · rw [if_pos g, e1]; exact congrArg d (by omega)
      · rw [if_neg g, if_neg (by omega)]; exact (h0 k).2.1 (by omega)
    · rw [if_neg (by omega), if_neg (by omega)]; exact (h0 k).2.2 (by omega)
theorem rot_at (m i j : Nat) (d : Nat → Int) (hi : i ≤ m) : ∀ k, (m - i ≤ k ∧ k < m - i + j → rot m i j d k = d (k + i)) ∧ (m - i + j ≤ k ∧ k < m + j → rot m i j d k = d (k - j)) ∧ (k < m - i ∨ m + j ≤ k → rot m i j d k = d k) := by
  induction i, j, d using rot.induct (m := m) with
  | case1 i j d h =>
    intro k
    rw [rot, if_pos h]
    have h0 := swr_at (m - i) m (min i j) d k (by omega)
    refine ⟨fun g => ?_, fun g => ?_, fun g => ?_⟩
    · by_cases c : i = 0
      · rw [h0.2.2 (by omega)]; exact congrArg d (by omega)
      · rw [h0.1 (by omega)]; exact congrArg d (by omega)
    · by_cases c : j = 0
      · rw [h0.2.2 (by omega)]; exact congrArg d (by omega)
      · rw [h0.2.1 (by omega)]; exact congrArg d (by omega)
    · exact h0.2.2 (by omega)
  | case2 i j d h g ih =>
    intro k
    rw [rot, if_neg h, if_pos g]
    have hs := fun k => swr_at (m - i) m j d k (by omega)
    have h0 := ih (by omega) k
    refine ⟨fun c => ?_, fun c => ?_, fun c => ?_⟩
    · rw [h0.2.2 (by omega), (hs k).1 (by omega)]; exact congrArg d (by omega)
    · by_cases c2 : k < m - i + j + j
      · rw [h0.1 (by omega)]
        by_cases c3 : k + (i - j) < m
        · omega
        · rw [(hs _).2.1 (by omega)]; exact congrArg d (by omega)
      · rw [h0.2.1 (by omega)]
        rw [(hs _).2.2 (by omega)]
    · rw [h0.2.2 (by omega), (hs k).2.2 (by omega)]
  | case3 i j d h g ih =>
    intro k
    rw [rot, if_neg h, if_neg g]
    have hs := fun k => swr_at (m - i) (m + j - i) i d k (by omega)
    have h0 := ih hi k
    refine ⟨fun c => ?_, fun c => ?_, fun c => ?_⟩
    · by_cases c2 : k < m - i + (j - i)
      · rw [h0.1 (by omega)]
        by_cases c3 : k + i < m + j - i
        · rw [(hs _).2.2 (by omega)]
        · omega
      · rw [h0.2.1 (by omega), (hs _).1 (by omega)]; exact congrArg d (by omega)
    · rw [h0.2.2 (by omega), (hs k).2.1 (by omega)]; exact congrArg d (by omega)
    · rw [h0.2.2 (by omega), (hs k).2.2 (by omega)]
theorem fr_of {a b : Nat} {d e : Nat → Int} (f : Nat → Nat) (h1 : ∀ k, (k < a ∨ b ≤ k) → e k = d k) (h2 : ∀ k, a ≤ k → k < b → a ≤ f k ∧ f k < b ∧ e k = d (f k)) : Fr a b d e :=
  ⟨h1, fun k g1 g2 => ⟨f k, h2 k g1 g2⟩⟩
theorem bsr_is (p : Nat → Bool) (i j : Nat) (h : i ≤ j) : (bsr p i j = i ∨ p (bsr p i j - 1) = true) ∧ (bsr p i j = j ∨ p (bsr p i j) = false) := by
  induction i, j using bsr.induct (p := p) with
  | case1 i j hlt hp ih =>
    rw [bsr, if_pos hlt, if_pos hp]
    obtain ⟨h1, h2⟩ := ih (by omega)
    refine ⟨?_, h2⟩
    rcases h1 with h1 | h1
    · right; rw [h1]; exact hp
    · exact .inr h1
  | case2 i j hlt hp ih =>
    rw [bsr, if_pos hlt, if_neg hp]
    obtain ⟨h1, h2⟩ := ih (by omega)
    refine ⟨h1, ?_⟩
    rcases h2 with h2 | h2
    · right; rw [h2]; simpa using hp
    · exact .inr h2
  | case3 i j hlt => rw [bsr, if_neg hlt]; exact ⟨.inl rfl, .inl (by omega)⟩

/-- two runs, the numbers of the first one less than those of the second one, become one -/
theorem srt_sym {r : Int → Int} : ∀ f a m b d, b - a ≤ f → a < m → m < b → Srt r d a m → Srt r d m b → (∀ i j, a ≤ i → i < m → m ≤ j → j < b → d i < d j) →
    Srt r (sym (cR r) f a m b d) a b ∧ Fr a b d (sym (cR r) f a m b d)
  | 0, a, m, b, d, h0, h1, h2, _, _, _ => absurd h0 (by omega)
  | f + 1, a, m, b, d, h0, h1, h2, s1, s2, hl => by
    unfold sym
    by_cases c1 : m - a = 1
    · rw [if_pos c1]
      have hb := bsr_bd (fun k => cR r (d k) (d a)) m b (by omega)
      obtain ⟨b1, b2⟩ := bsr_is (fun k => cR r (d k) (d a)) m b (by omega)
      generalize bsr (fun k => cR r (d k) (d a)) m b = i at *
      have hm : m = a + 1 := by omega
      subst hm
      have hs := shUp_at a (i - 1 - a) d
      have up : ∀ k, i ≤ k → k < b → Lx r (d a) (d k) := fun k g1 g2 => by
        rcases b2 with b2 | b2
        · omega
        · have := cR_not.1 b2
          have q := hl a i (Nat.le_refl _) (by omega) (by omega) (by omega)
          have l1 : Lx r (d a) (d i) := by unfold Lx; omega
          by_cases g : k = i
          · rw [g]; exact l1
          · exact l1.trans (s2 i k (by omega) (by omega) g2)
      have dn : ∀ k, a + 1 ≤ k → k < i → Lx r (d k) (d a) := fun k g1 g2 => by
        rcases b1 with b1 | b1
        · omega
        · have l1 : Lx r (d (i - 1)) (d a) := .inl (cR_iff.1 b1)
          by_cases g : k = i - 1
          · rw [g]; exact l1
          · exact (s2 k (i - 1) g1 (by omega) (by omega)).trans l1
      constructor
      · intro x y g1 g2 g3
        by_cases e1 : x < i - 1
        · rw [(hs x).1 (by omega)]
          by_cases e2 : y < i - 1
          · rw [(hs y).1 (by omega)]; exact s2 _ _ (by omega) (by omega) (by omega)
          · by_cases e3 : y = i - 1
            · rw [(hs y).2.1 (by omega)]; exact dn _ (by omega) (by omega)
            · rw [(hs y).2.2 (by omega)]; exact s2 _ _ (by omega) (by omega) (by omega)
        · by_cases e3 : x = i - 1
          · rw [(hs x).2.1 (by omega), (hs y).2.2 (by omega)]; exact up _ (by omega) (by omega)
          · rw [(hs x).2.2 (by omega), (hs y).2.2 (by omega)]; exact s2 _ _ (by omega) (by omega) (by omega)
      · refine fr_of (fun k => if k < i - 1 then k + 1 else if k = i - 1 then a else k) (fun k hk => (hs k).2.2 (by omega)) (fun k g1 g2 => ?_)
        by_cases e1 : k < i - 1
        · simp only [if_pos e1]; exact ⟨by omega, by omega, (hs k).1 (by omega)⟩
        · by_cases e2 : k = i - 1
          · simp only [if_neg e1, if_pos e2]; exact ⟨by omega, by omega, (hs k).2.1 (by omega)⟩
          · simp only [if_neg e1, if_neg e2]; exact ⟨g1, g2, (hs k).2.2 (by omega)⟩
    · rw [if_neg c1]
      by_cases c2 : b - m = 1
      · rw [if_pos c2]
        have hb := bsr_bd (fun k => !cR r (d m) (d k)) a m (by omega)
        obtain ⟨b1, b2⟩ := bsr_is (fun k => !cR r (d m) (d k)) a m (by omega)
        generalize bsr (fun k => !cR r (d m) (d k)) a m = i at *
        simp only [Bool.not_eq_true', Bool.not_eq_false'] at b1 b2
        have hs := fun k => shDn_at m (m - i) d k (by omega)
        have e0 : m - (m - i) = i := by omega
        simp only [e0] at hs
        have up : ∀ k, i ≤ k → k < m → Lx r (d m) (d k) := fun k g1 g2 => by
          rcases b2 with b2 | b2
          · omega
          · have l1 : Lx r (d m) (d i) := .inl (cR_iff.1 b2)
            by_cases g : k = i
            · rw [g]; exact l1
            · exact l1.trans (s1 i k (by omega) (by omega) g2)
        have dn : ∀ k, a ≤ k → k < i → Lx r (d k) (d m) := fun k g1 g2 => by
          rcases b1 with b1 | b1
          · omega
          · have := cR_not.1 b1
            have q := hl (i - 1) m (by omega) (by omega) (Nat.le_refl _) (by omega)
            have l1 : Lx r (d (i - 1)) (d m) := by unfold Lx; omega
            by_cases g : k = i - 1
            · rw [g]; exact l1
            · exact (s1 k (i - 1) g1 (by omega) (by omega)).trans l1
        constructor
        · intro x y g1 g2 g3
          by_cases e1 : x < i
          · rw [(hs x).2.2 (by omega)]
            by_cases e2 : y < i
            · rw [(hs y).2.2 (by omega)]; exact s1 _ _ (by omega) (by omega) (by omega)
            · by_cases e3 : y = i
              · rw [(hs y).2.1 (by omega)]; exact dn _ (by omega) (by omega)
              · rw [(hs y).1 (by omega)]; exact s1 _ _ (by omega) (by omega) (by omega)
          · by_cases e3 : x = i
            · rw [(hs x).2.1 (by omega), (hs y).1 (by omega)]; exact up _ (by omega) (by omega)
            · rw [(hs x).1 (by omega), (hs y).1 (by omega)]; exact s1 _ _ (by omega) (by omega) (by omega)
        · refine fr_of (fun k => if k < i then k else if k = i then m else k - 1) (fun k hk => (hs k).2.2 (by omega)) (fun k g1 g2 => ?_)
          by_cases e1 : k < i
          · simp only [if_pos e1]; exact ⟨g1, g2, (hs k).2.2 (by omega)⟩
          · by_cases e2 : k = i
            · simp only [if_neg e1, if_pos e2]; exact ⟨by omega, by omega, (hs k).2.1 (by omega)⟩
            · simp only [if_neg e1, if_neg e2]; exact ⟨by omega, by omega, (hs k).1 (by omega)⟩
      · rw [if_neg c2]
        have hc := cut_bd (cR r) a m b d (by omega) (by omega) (by omega)
        have hbs : (cut (cR r) a m b d = (if (a + b) / 2 < m then (a + b) / 2 + m - b else a) ∨ (!cR r (d ((a + b) / 2 + m - 1 - (cut (cR r) a m b d - 1))) (d (cut (cR r) a m b d - 1))) = true) ∧
            (cut (cR r) a m b d = (if (a + b) / 2 < m then (a + b) / 2 else m) ∨ (!cR r (d ((a + b) / 2 + m - 1 - cut (cR r) a m b d)) (d (cut (cR r) a m b d))) = false) :=
          bsr_is (fun k => !cR r (d ((a + b) / 2 + m - 1 - k)) (d k)) _ _ (by split <;> omega)
        simp only []
        generalize cut (cR r) a m b d = s at *
        obtain ⟨e, he⟩ : ∃ e, e = (a + b) / 2 + m - s := ⟨_, rfl⟩
        obtain ⟨mid, hmid⟩ : ∃ mid, mid = (a + b) / 2 := ⟨_, rfl⟩
        rw [← hmid] at hc hbs he ⊢
        rw [← he] at hc ⊢
        simp only [Bool.not_eq_true', Bool.not_eq_false'] at hbs
        have K1 : ∀ y x, m ≤ y → y < e → s ≤ x → x < m → Lx r (d y) (d x) := fun y x g1 g2 g3 g4 => by
          have base : Lx r (d (e - 1)) (d s) := by
            rcases hbs.2 with q | q
            · split at q <;> omega
            · have : mid + m - 1 - s = e - 1 := by omega
              rw [this] at q
              exact .inl (cR_iff.1 q)
          have t1 : Lx r (d y) (d s) := by
            by_cases g : y = e - 1
            · rw [g]; exact base
            · exact (s2 y (e - 1) g1 (by omega) (by omega)).trans base
          by_cases g : x = s
          · rw [g]; exact t1
          · exact t1.trans (s1 s x (by omega) (by omega) g4)
        have K2 : ∀ x y, a ≤ x → x < s → e ≤ y → y < b → Lx r (d x) (d y) := fun x y g1 g2 g3 g4 => by
          have base : Lx r (d (s - 1)) (d e) := by
            rcases hbs.1 with q | q
            · split at q <;> omega
            · have : mid + m - 1 - (s - 1) = e := by omega
              rw [this] at q
              have q := cR_not.1 q
              have := hl (s - 1) e (by omega) (by omega) (by omega) (by omega)
              unfold Lx; omega
          have t1 : Lx r (d x) (d e) := by
            by_cases g : x = s - 1
            · rw [g]; exact base
            · exact (s1 x (s - 1) g1 (by omega) (by omega)).trans base
          by_cases g : y = e
          · rw [g]; exact t1
          · exact t1.trans (s2 e y (by omega) (by omega) g4)
        have H1 : ∀ k, (s ≤ k ∧ k < mid → (if s < m ∧ m < e then rot m (m - s) (e - m) d else d) k = d (k + (m - s))) ∧ (mid ≤ k ∧ k < e → (if s < m ∧ m < e then rot m (m - s) (e - m) d else d) k = d (k - (e - m))) ∧
            (k < s ∨ e ≤ k → (if s < m ∧ m < e then rot m (m - s) (e - m) d else d) k = d k) := fun k => by
          by_cases g : s < m ∧ m < e
          · rw [if_pos g]
            have hr := rot_at m (m - s) (e - m) d (by omega) k
            exact ⟨fun q => hr.1 (by omega), fun q => hr.2.1 (by omega), fun q => hr.2.2 (by omega)⟩
          · rw [if_neg g]
            exact ⟨fun q => congrArg d (by omega), fun q => congrArg d (by omega), fun _ => rfl⟩
        generalize (if s < m ∧ m < e then rot m (m - s) (e - m) d else d) = d1 at *
        have F1 : Fr a b d d1 := fr_of (fun k => if k < s then k else if k < mid then k + (m - s) else if k < e then k - (e - m) else k) (fun k hk => (H1 k).2.2 (by omega)) (fun k g1 g2 => by
          by_cases q1 : k < s
          · simp only [if_pos q1]; exact ⟨g1, g2, (H1 k).2.2 (by omega)⟩
          · by_cases q2 : k < mid
            · simp only [if_neg q1, if_pos q2]; exact ⟨by omega, by omega, (H1 k).1 (by omega)⟩
            · by_cases q3 : k < e
              · simp only [if_neg q1, if_neg q2, if_pos q3]; exact ⟨by omega, by omega, (H1 k).2.1 (by omega)⟩
              · simp only [if_neg q1, if_neg q2, if_neg q3]; exact ⟨g1, g2, (H1 k).2.2 (by omega)⟩)
        have HLR : ∀ x y, a ≤ x → x < mid → mid ≤ y → y < b → Lx r (d1 x) (d1 y) := fun x y g1 g2 g3 g4 => by
          by_cases q1 : x < s
          · rw [(H1 x).2.2 (by omega)]
            by_cases q2 : y < e
            · rw [(H1 y).2.1 (by omega)]; exact s1 _ _ (by omega) (by omega) (by omega)
            · rw [(H1 y).2.2 (by omega)]; exact K2 _ _ (by omega) (by omega) (by omega) (by omega)
          · rw [(H1 x).1 (by omega)]
            by_cases q2 : y < e
            · rw [(H1 y).2.1 (by omega)]; exact K1 _ _ (by omega) (by omega) (by omega) (by omega)
            · rw [(H1 y).2.2 (by omega)]; exact s2 _ _ (by omega) (by omega) (by omega)
        have S1 : Srt r d1 a s := fun x y g1 g2 g3 => by
          rw [(H1 x).2.2 (by omega), (H1 y).2.2 (by omega)]; exact s1 _ _ (by omega) (by omega) (by omega)
        have S2 : Srt r d1 s mid := fun x y g1 g2 g3 => by
          rw [(H1 x).1 (by omega), (H1 y).1 (by omega)]; exact s2 _ _ (by omega) (by omega) (by omega)
        have S3 : Srt r d1 mid e := fun x y g1 g2 g3 => by
          rw [(H1 x).2.1 (by omega), (H1 y).2.1 (by omega)]; exact s1 _ _ (by omega) (by omega) (by omega)
        have S4 : Srt r d1 e b := fun x y g1 g2 g3 => by
          rw [(H1 x).2.2 (by omega), (H1 y).2.2 (by omega)]; exact s2 _ _ (by omega) (by omega) (by omega)
        have N1 : ∀ i j, a ≤ i → i < s → s ≤ j → j < mid → d1 i < d1 j := fun i j g1 g2 g3 g4 => by
          rw [(H1 i).2.2 (by omega), (H1 j).1 (by omega)]; exact hl _ _ (by omega) (by omega) (by omega) (by omega)
        have N2 : ∀ i j, mid ≤ i → i < e → e ≤ j → j < b → d1 i < d1 j := fun i j g1 g2 g3 g4 => by
          rw [(H1 i).2.1 (by omega), (H1 j).2.2 (by omega)]; exact hl _ _ (by omega) (by omega) (by omega) (by omega)
        have P2 : Srt r (if a < s ∧ s < mid then sym (cR r) f a s mid d1 else d1) a mid ∧ Fr a mid d1 (if a < s ∧ s < mid then sym (cR r) f a s mid d1 else d1) := by
          by_cases g : a < s ∧ s < mid
          · rw [if_pos g]; exact srt_sym f a s mid d1 (by omega) g.1 g.2 S1 S2 N1
          · rw [if_neg g]
            refine ⟨?_, Fr.refl _ _ _⟩
            by_cases g2 : s = a
            · rw [← g2]; exact S2
            · have : mid = s := by omega
              rw [this]; exact S1
        generalize (if a < s ∧ s < mid then sym (cR r) f a s mid d1 else d1) = d2 at *
        obtain ⟨T2, F2⟩ := P2
        have E2 : ∀ k, mid ≤ k → d2 k = d1 k := fun k hk => F2.1 k (by omega)
        have P3 : Srt r (if mid < e ∧ e < b then sym (cR r) f mid e b d2 else d2) mid b ∧ Fr mid b d2 (if mid < e ∧ e < b then sym (cR r) f mid e b d2 else d2) := by
          have S3' : Srt r d2 mid e := fun x y g1 g2 g3 => by rw [E2 x (by omega), E2 y (by omega)]; exact S3 x y g1 g2 g3
          have S4' : Srt r d2 e b := fun x y g1 g2 g3 => by rw [E2 x (by omega), E2 y (by omega)]; exact S4 x y g1 g2 g3
          by_cases g : mid < e ∧ e < b
          · rw [if_pos g]
            exact srt_sym f mid e b d2 (by omega) g.1 g.2 S3' S4' (fun i j g1 g2 g3 g4 => by rw [E2 i (by omega), E2 j (by omega)]; exact N2 i j g1 g2 g3 g4)
          · rw [if_neg g]
            refine ⟨?_, Fr.refl _ _ _⟩
            by_cases g2 : e = mid
            · rw [← g2]; exact S4'
            · have : b = e := by omega
              rw [this]; exact S3'
        generalize (if mid < e ∧ e < b then sym (cR r) f mid e b d2 else d2) = d3 at *
        obtain ⟨T3, F3⟩ := P3
        refine ⟨fun i j g1 g2 g3 => ?_, (F1.trans (F2.wide (Nat.le_refl _) (by omega))).trans (F3.wide (by omega) (Nat.le_refl _))⟩
        by_cases q1 : j < mid
        · rw [F3.1 i (by omega), F3.1 j (by omega)]; exact T2 i j g1 g2 q1
        · by_cases q2 : mid ≤ i
          · exact T3 i j q2 g2 g3
          · rw [F3.1 i (by omega)]
            obtain ⟨j', x1, x2, x3⟩ := F3.2 j (by omega) g3
            obtain ⟨i', y1, y2, y3⟩ := F2.2 i g1 (by omega)
            rw [x3, y3, E2 j' x1]
            exact HLR i' j' y1 y2 x1 x2
end Go.Proofs.Ythamonfomihncaa
