/- What the library's stable sort does to a row that rises: it is in order afterwards. No program in sight. -/
import Derived.WalkKit
import Derived.Test.YthamonfomihncaaSortM
namespace Go.Proofs.Ythamonfomihncaa

/-- x stands ahead of y: by a greater rest, or, at the same one, by being less -/
def Lx (r : Int → Int) (x y : Int) : Prop := r y < r x ∨ (r x = r y ∧ x < y)
/-- the comparison of the sort -/
def cR (r : Int → Int) (x y : Int) : Bool := decide (r y < r x)
theorem cR_iff {r : Int → Int} {x y : Int} : cR r x y = true ↔ r y < r x := by simp [cR]
theorem cR_not {r : Int → Int} {x y : Int} : cR r x y = false ↔ ¬ r y < r x := by simp [cR]
theorem Lx.trans {r : Int → Int} {x y z : Int} (h : Lx r x y) (g : Lx r y z) : Lx r x z := by unfold Lx at *; omega
/-- in order, from a to b -/
def Srt (r : Int → Int) (d : Nat → Int) (a b : Nat) : Prop := ∀ i j, a ≤ i → i < j → j < b → Lx r (d i) (d j)
/-- what lies from a to b came from there; elsewhere nothing turned -/
def Fr (a b : Nat) (d e : Nat → Int) : Prop := (∀ k, (k < a ∨ b ≤ k) → e k = d k) ∧ ∀ k, a ≤ k → k < b → ∃ k', a ≤ k' ∧ k' < b ∧ e k = d k'
theorem Fr.refl (a b : Nat) (d : Nat → Int) : Fr a b d d := ⟨fun _ _ => rfl, fun k h g => ⟨k, h, g, rfl⟩⟩
theorem Fr.trans {a b : Nat} {d e f : Nat → Int} (h : Fr a b d e) (g : Fr a b e f) : Fr a b d f := by
  refine ⟨fun k hk => (g.1 k hk).trans (h.1 k hk), fun k h1 h2 => ?_⟩
  obtain ⟨k1, x1, x2, x3⟩ := g.2 k h1 h2
  obtain ⟨k2, y1, y2, y3⟩ := h.2 k1 x1 x2
  exact ⟨k2, y1, y2, x3.trans y3⟩
theorem Fr.wide {a b a' b' : Nat} {d e : Nat → Int} (h : Fr a b d e) (ha : a' ≤ a) (hb : b ≤ b') : Fr a' b' d e := by
  refine ⟨fun k hk => h.1 k (by omega), fun k h1 h2 => ?_⟩
  by_cases g : a ≤ k ∧ k < b
  · obtain ⟨k1, x1, x2, x3⟩ := h.2 k g.1 g.2
    exact ⟨k1, by omega, by omega, x3⟩
  · exact ⟨k, h1, h2, h.1 k (by omega)⟩
theorem fr_swp (d : Nat → Int) {a b i j : Nat} (h1 : a ≤ i) (h2 : i < b) (h3 : a ≤ j) (h4 : j < b) : Fr a b d (swp d i j) := by
  refine ⟨fun k hk => by rw [swp_at, if_neg (by omega), if_neg (by omega)], fun k g1 g2 => ?_⟩
  rw [swp_at]
  by_cases e1 : k = j
  · rw [if_pos e1]; exact ⟨i, h1, h2, rfl⟩
  · rw [if_neg e1]
    by_cases e2 : k = i
    · rw [if_pos e2]; exact ⟨j, h3, h4, rfl⟩
    · rw [if_neg e2]; exact ⟨k, g1, g2, rfl⟩

/-- one place that goes down into its place: what it was, and where the others came to lie -/
theorem ins_at (r : Int → Int) (a : Nat) : ∀ j d, a ≤ j → ∃ p, a ≤ p ∧ p ≤ j ∧ (∀ k, ins (cR r) a j d k = if k < p then d k else if k = p then d j else if k ≤ j then d (k - 1) else d k) ∧
    (∀ k, p ≤ k → k < j → r (d k) < r (d j)) ∧ (p = a ∨ ¬ r (d (p - 1)) < r (d j))
  | 0, d, h => ⟨0, by omega, by omega, fun k => by
      unfold ins
      by_cases g : k = 0
      · subst g; simp
      · rw [if_neg (by omega), if_neg g, if_neg (by omega)], fun k _ h2 => absurd h2 (by omega), .inl (by omega)⟩
  | j + 1, d, h => by
    by_cases c : a < j + 1 ∧ cR r (d (j + 1)) (d j) = true
    · have hc := cR_iff.1 c.2
      obtain ⟨p, q1, q2, q3, q4, q5⟩ := ins_at r a j (swp d (j + 1) j) (by omega)
      have e1 : swp d (j + 1) j j = d (j + 1) := by rw [swp_at, if_pos rfl]
      have e2 : swp d (j + 1) j (j + 1) = d j := by rw [swp_at, if_neg (by omega), if_pos rfl]
      have e3 : ∀ k, k < j → swp d (j + 1) j k = d k := fun k hk => by rw [swp_at, if_neg (by omega), if_neg (by omega)]
      have e4 : ∀ k, j + 1 < k → swp d (j + 1) j k = d k := fun k hk => by rw [swp_at, if_neg (by omega), if_neg (by omega)]
      refine ⟨p, q1, by omega, fun k => ?_, fun k h1 h2 => ?_, ?_⟩
      · unfold ins
        rw [if_pos c, q3 k, e1]
        by_cases g1 : k < p
        · rw [if_pos g1, if_pos g1, e3 k (by omega)]
        · rw [if_neg g1, if_neg g1]
          by_cases g2 : k = p
          · rw [if_pos g2, if_pos g2]
          · rw [if_neg g2, if_neg g2]
            by_cases g3 : k ≤ j
            · rw [if_pos g3, if_pos (by omega), e3 _ (by omega)]
            · rw [if_neg g3]
              by_cases g4 : k = j + 1
              · subst g4; rw [if_pos (by omega), e2]; rfl
              · rw [if_neg (by omega), e4 k (by omega)]
      · by_cases g : k = j
        · subst g; exact hc
        · have := q4 k h1 (by omega)
          rw [e1, e3 k (by omega)] at this
          exact this
      · rcases q5 with q5 | q5
        · exact .inl q5
        · by_cases g : p = a
          · exact .inl g
          · right
            rw [e1, e3 (p - 1) (by omega)] at q5
            exact q5
    · refine ⟨j + 1, h, Nat.le_refl _, fun k => ?_, fun k h1 h2 => absurd h2 (by omega), ?_⟩
      · unfold ins
        rw [if_neg c]
        by_cases g1 : k < j + 1
        · rw [if_pos g1]
        · rw [if_neg g1]
          by_cases g2 : k = j + 1
          · rw [if_pos g2, g2]
          · rw [if_neg g2, if_neg (by omega)]
      · by_cases g : a < j + 1
        · right
          intro hc
          exact c ⟨g, cR_iff.2 hc⟩
        · exact .inl (by omega)

/-- a place that is put in: the run is one longer -/
theorem srt_ins {r : Int → Int} {a j : Nat} {d : Nat → Int} (h : a ≤ j) (hs : Srt r d a j) (hl : ∀ k, a ≤ k → k < j → d k < d j) : Srt r (ins (cR r) a j d) a (j + 1) ∧ Fr a (j + 1) d (ins (cR r) a j d) := by
  obtain ⟨p, q1, q2, q3, q4, q5⟩ := ins_at r a j d h
  constructor
  · intro i k h1 h2 h3
    rw [q3 i, q3 k]
    -- all at or behind p are behind what was put in; all ahead of p are ahead of it
    have up : ∀ k, p ≤ k → k < j → Lx r (d j) (d k) := fun k g1 g2 => .inl (q4 k g1 g2)
    have dn : ∀ k, a ≤ k → k < p → Lx r (d k) (d j) := fun k g1 g2 => by
      have hb : ¬ r (d (p - 1)) < r (d j) := by rcases q5 with q5 | q5; · omega
                                                · exact q5
      have hl1 := hl (p - 1) (by omega) (by omega)
      have l1 : Lx r (d (p - 1)) (d j) := by unfold Lx; omega
      by_cases g : k = p - 1
      · rw [g]; exact l1
      · exact (hs k (p - 1) g1 (by omega) (by omega)).trans l1
    by_cases c1 : i < p
    · rw [if_pos c1]
      by_cases c2 : k < p
      · rw [if_pos c2]; exact hs i k h1 h2 (by omega)
      · rw [if_neg c2]
        by_cases c3 : k = p
        · rw [if_pos c3]; exact dn i h1 c1
        · rw [if_neg c3, if_pos (by omega)]; exact hs i (k - 1) h1 (by omega) (by omega)
    · rw [if_neg c1]
      by_cases c2 : i = p
      · rw [if_pos c2, if_neg (by omega), if_neg (by omega), if_pos (by omega)]; exact up (k - 1) (by omega) (by omega)
      · rw [if_neg c2, if_pos (by omega), if_neg (by omega), if_neg (by omega), if_pos (by omega)]; exact hs (i - 1) (k - 1) (by omega) (by omega) (by omega)
  · refine ⟨fun k hk => ?_, fun k h1 h2 => ?_⟩
    · rw [q3 k]
      rcases hk with hk | hk
      · rw [if_pos (by omega)]
      · rw [if_neg (by omega), if_neg (by omega), if_neg (by omega)]
    · rw [q3 k]
      by_cases c1 : k < p
      · rw [if_pos c1]; exact ⟨k, h1, h2, rfl⟩
      · rw [if_neg c1]
        by_cases c2 : k = p
        · rw [if_pos c2]; exact ⟨j, h, by omega, rfl⟩
        · rw [if_neg c2, if_pos (by omega)]; exact ⟨k - 1, by omega, by omega, rfl⟩
/-- a run of a row that rises is put in order -/
theorem srt_insTo {r : Int → Int} {a : Nat} {d : Nat → Int} (hd : ∀ i j, a ≤ i → i < j → d i < d j) : ∀ t, Srt r (insTo (cR r) a t d) a (a + t + 1) ∧ Fr a (a + t + 1) d (insTo (cR r) a t d)
  | 0 => ⟨fun i j h1 h2 h3 => absurd h3 (by omega), Fr.refl _ _ _⟩
  | t + 1 => by
    obtain ⟨s1, f1⟩ := srt_insTo hd (a := a) (r := r) t
    have hl : ∀ k, a ≤ k → k < a + t + 1 → insTo (cR r) a t d k < insTo (cR r) a t d (a + t + 1) := fun k g1 g2 => by
      obtain ⟨k', x1, x2, x3⟩ := f1.2 k g1 g2
      rw [x3, f1.1 (a + t + 1) (by omega)]
      exact hd _ _ x1 (by omega)
    obtain ⟨s2, f2⟩ := srt_ins (r := r) (a := a) (j := a + t + 1) (d := insTo (cR r) a t d) (by omega) s1 hl
    exact ⟨s2, (f1.wide (Nat.le_refl _) (by omega)).trans f2⟩
end Go.Proofs.Ythamonfomihncaa
