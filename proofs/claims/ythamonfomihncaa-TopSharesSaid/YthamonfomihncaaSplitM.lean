/- A split of an amount by weights, in plain numbers: the shares rounded down, one more to the greatest rests; its parts sum to the amount; and picking the greatest rest again and again is going along the sorted row. -/
import Derived.Test.YthamonfomihncaaSortT
namespace Go.Proofs.Ythamonfomihncaa

/-- the sum of the first k of a row -/
def sumF (f : Nat → Int) : Nat → Int
  | 0 => 0
  | k + 1 => sumF f k + f k
/-- a weight's share, rounded down, and its rest -/
def shr (a all : Int) (x : Nat → Int) (k : Nat) : Int := a * x k / all
def rst (a all : Int) (x : Nat → Int) (k : Nat) : Int := a * x k % all
/-- the places in the order of the sort -/
def idR : Nat → Int := fun k => k
def ordR (a all : Int) (x : Nat → Int) (n : Nat) : Nat → Int := stab (cR (fun i => rst a all x i.toNat)) n idR
/-- one more at each of the first t places of a row -/
def bmp (o : Nat → Int) (f : Nat → Int) : Nat → (Nat → Int)
  | 0 => f
  | t + 1 => upd (bmp o f t) (o t).toNat (bmp o f t (o t).toNat + 1)

theorem sum_split (a all : Int) (x : Nat → Int) : ∀ n, a * sumF x n = all * sumF (shr a all x) n + sumF (rst a all x) n
  | 0 => by simp [sumF]
  | n + 1 => by
    simp only [sumF]
    have h := sum_split a all x n
    have g : a * x n = all * shr a all x n + rst a all x n := (Int.mul_ediv_add_emod _ _).symm
    rw [Int.mul_add, Int.mul_add, h, g]
    omega
theorem sum_rst (a all : Int) (x : Nat → Int) (h : 1 ≤ all) : ∀ n : Nat, 0 ≤ sumF (rst a all x) n ∧ sumF (rst a all x) n + n ≤ n * all
  | 0 => by simp [sumF]
  | n + 1 => by
    have i := sum_rst a all x h n
    have g1 : 0 ≤ rst a all x n := Int.emod_nonneg _ (by omega)
    have g2 : rst a all x n < all := Int.emod_lt_of_pos _ (by omega)
    simp only [sumF]
    have e : ((n + 1 : Nat) : Int) * all = (n : Int) * all + all := by push_cast; rw [Int.add_mul, Int.one_mul]
    rw [e]
    push_cast
    omega
/-- what is left when all shares are rounded down: less than there are weights -/
theorem left_bd (a all : Int) (x : Nat → Int) (n : Nat) (h : 1 ≤ all) (hs : sumF x n = all) (hn : 1 ≤ n) : 0 ≤ a - sumF (shr a all x) n ∧ a - sumF (shr a all x) n < n := by
  have e := sum_split a all x n
  rw [hs] at e
  have r := sum_rst a all x h n
  have e2 : all * (a - sumF (shr a all x) n) = sumF (rst a all x) n := by rw [Int.mul_sub, Int.mul_comm all a]; omega
  constructor
  · apply Int.le_of_mul_le_mul_left (a := all) _ (by omega)
    rw [Int.mul_zero, e2]; exact r.1
  · apply Int.lt_of_mul_lt_mul_left (a := all) _ (by omega)
    rw [e2, Int.mul_comm all n]
    omega

/-! ### the order is a turning of the places -/
theorem cnt_id (x : Int) : ∀ n : Nat, cnt idR x n = if 0 ≤ x ∧ x < n then 1 else 0
  | 0 => by
    rw [if_neg (by omega)]; rfl
  | n + 1 => by
    simp only [cnt]
    rw [cnt_id x n]
    show _ + (if (n : Int) = x then 1 else 0) = _
    push_cast
    split <;> split <;> split <;> omega
theorem cnt_zero {d : Nat → Int} {x : Int} : ∀ n, (∀ k, k < n → d k ≠ x) → cnt d x n = 0
  | 0, _ => rfl
  | n + 1, h => by simp only [cnt]; rw [cnt_zero n (fun k hk => h k (by omega)), if_neg (h n (by omega))]; rfl
theorem cnt_ge0 (d : Nat → Int) (x : Int) : ∀ n, 0 ≤ cnt d x n
  | 0 => Int.le_refl 0
  | n + 1 => by
    simp only [cnt]
    have := cnt_ge0 d x n
    split <;> omega
theorem cnt_has {d : Nat → Int} {x : Int} : ∀ n k, k < n → d k = x → 1 ≤ cnt d x n
  | 0, _, h, _ => absurd h (by omega)
  | n + 1, k, h, e => by
    simp only [cnt]
    by_cases g : k = n
    · subst g; rw [if_pos e]; have := cnt_ge0 d x k; omega
    · have := cnt_has n k (by omega) e; split <;> omega
theorem cnt_two {d : Nat → Int} {x : Int} : ∀ n i j, i < j → j < n → d i = x → d j = x → 2 ≤ cnt d x n
  | 0, _, _, _, h, _, _ => absurd h (by omega)
  | n + 1, i, j, hij, h, e, g => by
    simp only [cnt]
    by_cases q : j = n
    · subst q; rw [if_pos g]; have := cnt_has j i hij e; omega
    · have := cnt_two n i j hij (by omega) e g; split <;> omega
/-- a row that is a turning of the places -/
structure Turn (n : Nat) (o : Nat → Int) : Prop where
  rng : ∀ k, k < n → 0 ≤ o k ∧ o k < n
  inj : ∀ i j, i < j → j < n → o i ≠ o j
  sur : ∀ x : Nat, x < n → ∃ k, k < n ∧ o k = x
theorem turn_of {n : Nat} {o : Nat → Int} (h : Same n idR o) : Turn n o := by
  have hc := h.1
  refine ⟨?_, ?_, ?_⟩
  · intro k hk
    have g := cnt_has n k hk (rfl : o k = o k)
    rw [hc, cnt_id] at g
    split at g
    · assumption
    · omega
  · intro i j hij hj e
    have g := cnt_two n i j hij hj e rfl
    rw [hc, cnt_id] at g
    split at g <;> omega
  · intro x hx
    by_cases q : ∃ k, k < n ∧ o k = x
    · exact q
    · have g := cnt_zero (d := o) (x := x) n (fun k hk e => q ⟨k, hk, e⟩)
      rw [hc, cnt_id, if_pos (by omega)] at g
      omega
theorem turn_ord (a all : Int) (x : Nat → Int) (n : Nat) : Turn n (ordR a all x n) := turn_of (same_stab _ n _)
theorem srt_ord (a all : Int) (x : Nat → Int) (n : Nat) : Srt (fun i => rst a all x i.toNat) (ordR a all x n) 0 n := srt_stab n _ (fun i j h => by show (i : Int) < j; omega)

/-! ### one more here and there -/
theorem sum_upd_lt (f : Nat → Int) (i : Nat) (v : Int) : ∀ n, n ≤ i → sumF (upd f i v) n = sumF f n
  | 0, _ => rfl
  | n + 1, h => by
    have e : upd f i v n = f n := if_neg (by omega)
    simp only [sumF, e]; rw [sum_upd_lt f i v n (by omega)]
theorem sum_upd (f : Nat → Int) (i : Nat) (v : Int) : ∀ n, i < n → sumF (upd f i v) n = sumF f n - f i + v
  | 0, h => absurd h (by omega)
  | n + 1, h => by
    by_cases g : n = i
    · subst g
      have e : upd f n v n = v := if_pos rfl
      simp only [sumF, e]; rw [sum_upd_lt f n v n (by omega)]; omega
    · have e : upd f i v n = f n := if_neg g
      simp only [sumF, e]; rw [sum_upd f i v n (by omega)]; omega
theorem bmp_sum (o f : Nat → Int) (n : Nat) (h : Turn n o) : ∀ t, t ≤ n → sumF (bmp o f t) n = sumF f n + t
  | 0, _ => by simp [bmp]
  | t + 1, ht => by
    have r := h.rng t (by omega)
    simp only [bmp]
    rw [sum_upd _ _ _ n (by omega), bmp_sum o f n h t (by omega)]
    push_cast; omega
theorem bmp_at (o f : Nat → Int) (n : Nat) (h : Turn n o) : ∀ t, t ≤ n → ∀ k, bmp o f t k = f k ∨ bmp o f t k = f k + 1 ∧ ∃ j, j < t ∧ o j = k
  | 0, _, k => Or.inl rfl
  | t + 1, ht, k => by
    have r := h.rng t (by omega)
    have i := bmp_at o f n h t (by omega) k
    by_cases g : k = (o t).toNat
    · have hv : bmp o f (t + 1) k = bmp o f t k + 1 := by simp only [bmp, upd]; rw [if_pos g, ← g]
      rcases i with i | ⟨_, j, hj, e⟩
      · exact Or.inr ⟨by rw [hv, i], t, by omega, by omega⟩
      · exact absurd (show o j = o t by omega) (h.inj j t hj (by omega))
    · have hv : bmp o f (t + 1) k = bmp o f t k := by simp only [bmp, upd]; rw [if_neg g]
      rw [hv]
      rcases i with i | ⟨i, j, hj, e⟩
      · exact Or.inl i
      · exact Or.inr ⟨i, j, by omega, e⟩

/-! ### picking the greatest rest -/
/-- the first place of the greatest number that is not below 0; -1: none -/
def bst (s : Nat → Int) : Nat → Int
  | 0 => -1
  | k + 1 => if 0 ≤ s k ∧ (bst s k < 0 ∨ s (bst s k).toNat < s k) then k else bst s k
theorem bst_is (s : Nat → Int) : ∀ n : Nat, (bst s n = -1 ∧ ∀ k, k < n → s k < 0) ∨ (0 ≤ bst s n ∧ bst s n < n ∧ 0 ≤ s (bst s n).toNat ∧ (∀ k, k < n → s k ≤ s (bst s n).toNat) ∧ ∀ k : Nat, (k : Int) < bst s n → s k < s (bst s n).toNat)
  | 0 => Or.inl ⟨rfl, fun k h => absurd h (by omega)⟩
  | n + 1 => by
    rcases bst_is s n with ⟨h, g⟩ | ⟨h0, h1, h2, h3, h4⟩
    · by_cases c : 0 ≤ s n
      · have e : bst s (n + 1) = n := by simp only [bst]; rw [if_pos ⟨c, Or.inl (by omega)⟩]
        refine Or.inr ⟨by omega, by omega, by rw [e]; simpa using c, ?_, ?_⟩
        · rw [e]; intro k hk
          by_cases q : k = n
          · subst q; simp
          · have := g k (by omega); simp; omega
        · rw [e]; intro k hk
          have := g k (by omega); simp; omega
      · have e : bst s (n + 1) = bst s n := by simp only [bst]; rw [if_neg (fun q => c q.1)]
        refine Or.inl ⟨by omega, ?_⟩
        intro k hk
        by_cases q : k = n
        · subst q; omega
        · exact g k (by omega)
    · by_cases c : s (bst s n).toNat < s n
      · have e : bst s (n + 1) = n := by simp only [bst]; rw [if_pos ⟨by omega, Or.inr c⟩]
        refine Or.inr ⟨by omega, by omega, by rw [e]; simp; omega, ?_, ?_⟩
        · rw [e]; intro k hk
          by_cases q : k = n
          · subst q; simp
          · have := h3 k (by omega); simp; omega
        · rw [e]; intro k hk
          have := h3 k (by omega); simp; omega
      · have e : bst s (n + 1) = bst s n := by simp only [bst]; rw [if_neg (by rintro ⟨_, q | q⟩ <;> omega)]
        rw [e]
        refine Or.inr ⟨h0, by omega, h2, ?_, h4⟩
        intro k hk
        by_cases q : k = n
        · subst q; omega
        · exact h3 k (by omega)
/-- the rests behind t picks -/
def usd (o s : Nat → Int) : Nat → (Nat → Int)
  | 0 => s
  | t + 1 => upd (usd o s t) (o t).toNat (-1)
theorem usd_at (o s : Nat → Int) (n : Nat) (h : Turn n o) : ∀ t, t ≤ n → ∀ k, (usd o s t k = -1 ∧ ∃ j, j < t ∧ o j = k) ∨ (usd o s t k = s k ∧ ∀ j, j < t → o j ≠ k)
  | 0, _, k => Or.inr ⟨rfl, fun j h => absurd h (by omega)⟩
  | t + 1, ht, k => by
    have r := h.rng t (by omega)
    by_cases g : k = (o t).toNat
    · exact Or.inl ⟨by simp only [usd, upd]; rw [if_pos g], t, by omega, by omega⟩
    · have hv : usd o s (t + 1) k = usd o s t k := by simp only [usd, upd]; rw [if_neg g]
      rw [hv]
      rcases usd_at o s n h t (by omega) k with ⟨e, j, hj, q⟩ | ⟨e, q⟩
      · exact Or.inl ⟨e, j, by omega, q⟩
      · refine Or.inr ⟨e, fun j hj => ?_⟩
        by_cases c : j = t
        · subst c; omega
        · exact q j (by omega)
/-- the pick behind t picks is the sorted row's next place -/
theorem pick_is (o s : Nat → Int) (n : Nat) (h : Turn n o) (hs : ∀ k, k < n → 0 ≤ s k) (hr : Srt (fun i => s i.toNat) o 0 n) (t : Nat) (ht : t < n) : bst (usd o s t) n = o t := by
  have r := h.rng t ht
  have ut : usd o s t (o t).toNat = s (o t).toNat := by
    rcases usd_at o s n h t (by omega) (o t).toNat with ⟨_, j, hj, q⟩ | ⟨e, _⟩
    · exact absurd (show o j = o t by omega) (h.inj j t hj ht)
    · exact e
  have s0 := hs (o t).toNat (by omega)
  -- of all that are left the sorted row's next one is the greatest, and the first of these
  have top : ∀ k : Nat, k < n → k ≠ (o t).toNat → usd o s t k < s (o t).toNat ∨ (usd o s t k = s (o t).toNat ∧ (o t).toNat < k) := by
    intro k hk hne
    rcases usd_at o s n h t (by omega) k with ⟨e, _⟩ | ⟨e, q⟩
    · left; omega
    · obtain ⟨j, hj, hjk⟩ := h.sur k hk
      have h1 : ¬ j < t := fun c => q j c hjk
      have h2 : j ≠ t := fun c => by subst c; omega
      have hl := hr t j (by omega) (by omega) hj
      unfold Lx at hl
      rw [hjk] at hl
      simp only [Int.toNat_natCast] at hl
      rw [e]
      rcases hl with hl | ⟨hl1, hl2⟩
      · left; exact hl
      · right; exact ⟨hl1.symm, by omega⟩
  rcases bst_is (usd o s t) n with ⟨_, g⟩ | ⟨g0, g1, g2, g3, g4⟩
  · have := g (o t).toNat (by omega); omega
  · by_cases c : (bst (usd o s t) n).toNat = (o t).toNat
    · omega
    · exfalso
      have a1 := g3 (o t).toNat (by omega)
      have a2 := top (bst (usd o s t) n).toNat (by omega) c
      rw [ut] at a1
      rcases a2 with a2 | ⟨a2, a3⟩
      · omega
      · have := g4 (o t).toNat (by omega)
        rw [ut] at this
        omega

/-! ### bounds -/
theorem shr_bd {a all : Int} {x : Nat → Int} {k : Nat} (h : 1 ≤ all) (x0 : 0 ≤ x k) (x1 : x k ≤ all) : min a 0 ≤ shr a all x k ∧ shr a all x k ≤ max a 0 := by
  unfold shr
  have h0 : 0 ≤ all - x k := by omega
  constructor
  · apply Int.le_ediv_of_mul_le (by omega)
    rcases Int.le_total 0 a with g | g
    · rw [show min a 0 = 0 by omega, Int.zero_mul]; exact Int.mul_nonneg g x0
    · rw [show min a 0 = a by omega]; exact Int.mul_le_mul_of_nonpos_left g x1
  · apply Int.ediv_le_of_le_mul (by omega)
    rcases Int.le_total 0 a with g | g
    · rw [show max a 0 = a by omega]; exact Int.mul_le_mul_of_nonneg_left x1 g
    · rw [show max a 0 = 0 by omega, Int.zero_mul]; exact Int.mul_nonpos_of_nonpos_of_nonneg g x0
theorem sum_nn {x : Nat → Int} : ∀ n, (∀ k, k < n → 0 ≤ x k) → 0 ≤ sumF x n
  | 0, _ => Int.le_refl 0
  | n + 1, h => by
    have i := sum_nn n (fun k hk => h k (by omega))
    have := h n (by omega)
    simp only [sumF]; omega
theorem sum_mono {x : Nat → Int} : ∀ n k, k ≤ n → (∀ k, k < n → 0 ≤ x k) → sumF x k ≤ sumF x n
  | 0, k, h, _ => by obtain rfl : k = 0 := by omega
                     exact Int.le_refl _
  | n + 1, k, h, hx => by
    by_cases g : k = n + 1
    · subst g; exact Int.le_refl _
    · have i := sum_mono n k (by omega) (fun j hj => hx j (by omega))
      have := hx n (by omega)
      simp only [sumF]; omega
theorem one_le_sum {x : Nat → Int} {n k : Nat} (hx : ∀ k, k < n → 0 ≤ x k) (h : k < n) : x k ≤ sumF x n := by
  have i := sum_mono n (k + 1) (by omega) hx
  have j := sum_nn k (fun j hj => hx j (by omega))
  simp only [sumF] at i; omega
/-- what is left on the way -/
theorem part_bd {a all : Int} {x : Nat → Int} {n k : Nat} (h : 1 ≤ all) (hx : ∀ k, k < n → 0 ≤ x k) (hs : sumF x n = all) (hk : k ≤ n) : min a 0 ≤ a - sumF (shr a all x) k ∧ a - sumF (shr a all x) k ≤ max a 0 + k := by
  have e := sum_split a all x k
  have r := sum_rst a all x h k
  have s0 := sum_nn k (fun j hj => hx j (by omega))
  have s1 := sum_mono n k hk hx
  rw [hs] at s1
  have e2 : all * (a - sumF (shr a all x) k) = a * (all - sumF x k) + sumF (rst a all x) k := by rw [Int.mul_sub, Int.mul_sub, Int.mul_comm all a]; omega
  constructor
  · apply Int.le_of_mul_le_mul_left (a := all) _ (by omega)
    rw [e2]
    rcases Int.le_total 0 a with g | g
    · have := Int.mul_nonneg g (show 0 ≤ all - sumF x k by omega)
      rw [show min a 0 = 0 by omega, Int.mul_zero]; omega
    · have := Int.mul_le_mul_of_nonpos_left g (show all - sumF x k ≤ all by omega)
      rw [show min a 0 = a by omega, Int.mul_comm all a]; omega
  · apply Int.le_of_mul_le_mul_left (a := all) _ (by omega)
    rw [e2, Int.mul_add, Int.mul_comm all k]
    rcases Int.le_total 0 a with g | g
    · have := Int.mul_le_mul_of_nonneg_left (show all - sumF x k ≤ all by omega) g
      rw [show max a 0 = a by omega, Int.mul_comm all a]; omega
    · have := Int.mul_nonpos_of_nonpos_of_nonneg g (show 0 ≤ all - sumF x k by omega)
      rw [show max a 0 = 0 by omega, Int.mul_zero]; omega
/-- a row up to k, nothing behind it -/
def upTo (f : Nat → Int) (k : Nat) : Nat → Int := fun i => if i < k then f i else 0
theorem upTo_zero (f : Nat → Int) : upTo f 0 = fun _ => 0 := by funext i; simp [upTo]
theorem upTo_succ (f : Nat → Int) (k : Nat) : upd (upTo f k) k (f k) = upTo f (k + 1) := by
  funext i
  simp only [upd, upTo]
  by_cases h : i = k
  · subst h; simp
  · rw [if_neg h]
    by_cases g : i < k
    · rw [if_pos g, if_pos (by omega)]
    · rw [if_neg g, if_neg (by omega)]
theorem upTo_at (f : Nat → Int) {k i : Nat} (h : i < k) : upTo f k i = f i := if_pos h
end Go.Proofs.Ythamonfomihncaa
