/- What the library's stable sort does to a row, as plain functions: swaps, insertion, rotation, merging. No program in sight. -/
import Derived.WalkKit
namespace Go.Proofs.Ythamonfomihncaa

/-- a row with one place written anew -/
def upd (d : Nat → Int) (i : Nat) (v : Int) : Nat → Int := fun k => if k = i then v else d k
/-- a row with two places exchanged -/
def swp (d : Nat → Int) (i j : Nat) : Nat → Int := upd (upd d i (d j)) j (d i)
theorem swp_at (d : Nat → Int) (i j k : Nat) : swp d i j k = if k = j then d i else if k = i then d j else d k := rfl

/-- place j goes down towards a, as long as it is ahead of the one below it -/
def ins (c : Int → Int → Bool) (a : Nat) : Nat → (Nat → Int) → (Nat → Int)
  | 0, d => d
  | j + 1, d => if a < j + 1 ∧ c (d (j + 1)) (d j) = true then ins c a j (swp d (j + 1) j) else d
/-- t places behind a are put in -/
def insTo (c : Int → Int → Bool) (a : Nat) : Nat → (Nat → Int) → (Nat → Int)
  | 0, d => d
  | t + 1, d => ins c a (a + t + 1) (insTo c a t d)
/-- t places from a on are exchanged with those from b on -/
def swr (a b : Nat) : Nat → (Nat → Int) → (Nat → Int)
  | 0, d => d
  | t + 1, d => swp (swr a b t d) (a + t) (b + t)
/-- the i places below m, and the j from m on, change sides -/
def rot (m i j : Nat) (d : Nat → Int) : Nat → Int :=
  if i = j ∨ i = 0 ∨ j = 0 then swr (m - i) m (min i j) d
  else if j < i then rot m (i - j) j (swr (m - i) m j d)
  else rot m i (j - i) (swr (m - i) (m + j - i) i d)
termination_by i + j
/-- the first place from i on, below j, at which p does not hold, if p holds at the first ones -/
def bsr (p : Nat → Bool) (i j : Nat) : Nat :=
  if i < j then if p ((i + j) / 2) then bsr p ((i + j) / 2 + 1) j else bsr p i ((i + j) / 2) else i
termination_by j - i
theorem bsr_bd (p : Nat → Bool) (i j : Nat) (h : i ≤ j) : i ≤ bsr p i j ∧ bsr p i j ≤ j := by
  induction i, j using bsr.induct (p := p) with
  | case1 i j hlt hp ih =>
    rw [bsr, if_pos hlt, if_pos hp]
    have := ih (by omega)
    omega
  | case2 i j hlt hp ih =>
    rw [bsr, if_pos hlt, if_neg hp]
    have := ih (by omega)
    omega
  | case3 i j hlt => rw [bsr, if_neg hlt]; omega
/-- place a goes up by t places -/
def shUp (a : Nat) : Nat → (Nat → Int) → (Nat → Int)
  | 0, d => d
  | t + 1, d => swp (shUp a t d) (a + t) (a + t + 1)
/-- place m goes down by t places -/
def shDn (m : Nat) : Nat → (Nat → Int) → (Nat → Int)
  | 0, d => d
  | t + 1, d => swp (shDn m t d) (m - t) (m - t - 1)
/-- where the merging cuts -/
def cut (c : Int → Int → Bool) (a m b : Nat) (d : Nat → Int) : Nat :=
  bsr (fun k => !c (d ((a + b) / 2 + m - 1 - k)) (d k)) (if (a + b) / 2 < m then (a + b) / 2 + m - b else a) (if (a + b) / 2 < m then (a + b) / 2 else m)
theorem cut_bd (c : Int → Int → Bool) (a m b : Nat) (d : Nat → Int) (h1 : a ≤ m) (h2 : m ≤ b) (h3 : a < b) :
    a ≤ cut c a m b d ∧ cut c a m b d ≤ (a + b) / 2 ∧ m ≤ (a + b) / 2 + m - cut c a m b d ∧ (a + b) / 2 + m - cut c a m b d ≤ b ∧ cut c a m b d ≤ m ∧ (a + b) / 2 ≤ (a + b) / 2 + m - cut c a m b d := by
  unfold cut
  by_cases h : (a + b) / 2 < m
  · rw [if_pos h, if_pos h]
    have := bsr_bd (fun k => !c (d ((a + b) / 2 + m - 1 - k)) (d k)) ((a + b) / 2 + m - b) ((a + b) / 2) (by omega)
    omega
  · rw [if_neg h, if_neg h]
    have := bsr_bd (fun k => !c (d ((a + b) / 2 + m - 1 - k)) (d k)) a m (by omega)
    omega
/-- the runs from a to m and from m to b become one; f is at least as great as b - a -/
def sym (c : Int → Int → Bool) : Nat → Nat → Nat → Nat → (Nat → Int) → (Nat → Int)
  | 0, _, _, _, d => d
  | f + 1, a, m, b, d =>
    if m - a = 1 then shUp a (bsr (fun k => c (d k) (d a)) m b - 1 - a) d
    else if b - m = 1 then shDn m (m - bsr (fun k => !c (d m) (d k)) a m) d
    else
      let s := cut c a m b d
      let e := (a + b) / 2 + m - s
      let d1 := if s < m ∧ m < e then rot m (m - s) (e - m) d else d
      let d2 := if a < s ∧ s < (a + b) / 2 then sym c f a s ((a + b) / 2) d1 else d1
      if (a + b) / 2 < e ∧ e < b then sym c f ((a + b) / 2) e b d2 else d2
/-- blocks of 20, from a on -/
def blocks (c : Int → Int → Bool) (n a : Nat) (d : Nat → Int) : Nat → Int :=
  if a + 20 ≤ n then blocks c n (a + 20) (insTo c a 19 d) else insTo c a (n - a - 1) d
termination_by n - a
/-- runs of s places are merged two by two, from a on -/
def pass (c : Int → Int → Bool) (n s a : Nat) (d : Nat → Int) : Nat → Int :=
  if 0 < s ∧ a + 2 * s ≤ n then pass c n s (a + 2 * s) (sym c (2 * s) a (a + s) (a + 2 * s) d) else if a + s < n then sym c (n - a) a (a + s) n d else d
termination_by n - a
def merges (c : Int → Int → Bool) (n s : Nat) (d : Nat → Int) : Nat → Int :=
  if 0 < s ∧ s < n then merges c n (2 * s) (pass c n s 0 d) else d
termination_by n - s
def stab (c : Int → Int → Bool) (n : Nat) (d : Nat → Int) : Nat → Int := merges c n 20 (blocks c n 0 d)

/-! ### None is lost -/
/-- how often a number stands among the first n -/
def cnt (d : Nat → Int) (x : Int) : Nat → Int
  | 0 => 0
  | n + 1 => cnt d x n + if d n = x then 1 else 0
theorem cnt_upd_lt (d : Nat → Int) (x : Int) (i : Nat) (v : Int) : ∀ n, n ≤ i → cnt (upd d i v) x n = cnt d x n
  | 0, _ => rfl
  | n + 1, h => by
    have e : upd d i v n = d n := if_neg (by omega)
    simp only [cnt, e]
    rw [cnt_upd_lt d x i v n (by omega)]
theorem cnt_upd (d : Nat → Int) (x : Int) (i : Nat) (v : Int) : ∀ n, i < n → cnt (upd d i v) x n = cnt d x n - (if d i = x then 1 else 0) + (if v = x then 1 else 0)
  | 0, h => absurd h (by omega)
  | n + 1, h => by
    by_cases g : n = i
    · subst g
      have e : upd d n v n = v := if_pos rfl
      simp only [cnt, e]
      rw [cnt_upd_lt d x n v n (by omega)]
      omega
    · have e : upd d i v n = d n := if_neg g
      simp only [cnt, e]
      rw [cnt_upd d x i v n (by omega)]
      omega
/-- a row whose first n places hold what those of another one hold, and which is it elsewhere -/
def Same (n : Nat) (d e : Nat → Int) : Prop := (∀ x, cnt e x n = cnt d x n) ∧ ∀ k, n ≤ k → e k = d k
theorem Same.refl (n : Nat) (d : Nat → Int) : Same n d d := ⟨fun _ => rfl, fun _ _ => rfl⟩
theorem Same.trans {n : Nat} {d e f : Nat → Int} (h : Same n d e) (g : Same n e f) : Same n d f := ⟨fun x => (g.1 x).trans (h.1 x), fun k hk => (g.2 k hk).trans (h.2 k hk)⟩
theorem same_swp (n : Nat) (d : Nat → Int) {i j : Nat} (hi : i < n) (hj : j < n) : Same n d (swp d i j) := by
  refine ⟨fun x => ?_, fun k hk => ?_⟩
  · unfold swp
    rw [cnt_upd _ _ _ _ _ hj, cnt_upd _ _ _ _ _ hi]
    by_cases h : j = i
    · subst h
      have e : upd d j (d j) j = d j := if_pos rfl
      rw [e]
      omega
    · have e : upd d i (d j) j = d j := if_neg h
      rw [e]
      omega
  · rw [swp_at, if_neg (by omega), if_neg (by omega)]
theorem same_ins (c : Int → Int → Bool) (n a : Nat) : ∀ j d, j < n → Same n d (ins c a j d)
  | 0, d, _ => Same.refl n d
  | j + 1, d, h => by
    unfold ins
    split
    · exact (same_swp n d h (by omega)).trans (same_ins c n a j _ (by omega))
    · exact Same.refl n d
theorem same_insTo (c : Int → Int → Bool) (n a : Nat) : ∀ t d, (t = 0 ∨ a + t < n) → Same n d (insTo c a t d)
  | 0, d, _ => Same.refl n d
  | t + 1, d, h => (same_insTo c n a t d (by omega)).trans (same_ins c n a _ _ (by omega))
theorem same_swr (n a b : Nat) : ∀ t d, a + t ≤ n → b + t ≤ n → Same n d (swr a b t d)
  | 0, d, _, _ => Same.refl n d
  | t + 1, d, h, g => (same_swr n a b t d (by omega) (by omega)).trans (same_swp n _ (by omega) (by omega))
theorem same_rot (n m i j : Nat) (d : Nat → Int) (hi : i ≤ m) (hj : m + j ≤ n) : Same n d (rot m i j d) := by
  induction i, j, d using rot.induct (m := m) with
  | case1 i j d h =>
    rw [rot, if_pos h]
    exact same_swr n _ _ _ _ (by omega) (by omega)
  | case2 i j d h g ih =>
    rw [rot, if_neg h, if_pos g]
    exact (same_swr n _ _ _ _ (by omega) (by omega)).trans (ih (by omega) (by omega))
  | case3 i j d h g ih =>
    rw [rot, if_neg h, if_neg g]
    exact (same_swr n _ _ _ _ (by omega) (by omega)).trans (ih (by omega) (by omega))
theorem same_shUp (n a : Nat) : ∀ t d, (t = 0 ∨ a + t < n) → Same n d (shUp a t d)
  | 0, d, _ => Same.refl n d
  | t + 1, d, h => (same_shUp n a t d (by omega)).trans (same_swp n _ (by omega) (by omega))
theorem same_shDn (n m : Nat) : ∀ t d, (t = 0 ∨ m < n) → Same n d (shDn m t d)
  | 0, d, _ => Same.refl n d
  | t + 1, d, h => (same_shDn n m t d (by omega)).trans (same_swp n _ (by omega) (by omega))
theorem same_sym (c : Int → Int → Bool) (n : Nat) : ∀ f a m b d, a < m → m < b → b ≤ n → Same n d (sym c f a m b d)
  | 0, _, _, _, d, _, _, _ => Same.refl n d
  | f + 1, a, m, b, d, h1, h2, h3 => by
    unfold sym
    split
    · have := bsr_bd (fun k => c (d k) (d a)) m b (by omega)
      exact same_shUp n _ _ _ (by omega)
    · split
      · exact same_shDn n _ _ _ (by omega)
      · have hc := cut_bd c a m b d (by omega) (by omega) (by omega)
        simp only []
        generalize cut c a m b d = s at *
        have e1 : Same n d (if s < m ∧ m < (a + b) / 2 + m - s then rot m (m - s) ((a + b) / 2 + m - s - m) d else d) := by
          split
          · exact same_rot n _ _ _ _ (by omega) (by omega)
          · exact Same.refl n d
        generalize (if s < m ∧ m < (a + b) / 2 + m - s then rot m (m - s) ((a + b) / 2 + m - s - m) d else d) = d1 at *
        have e2 : Same n d (if a < s ∧ s < (a + b) / 2 then sym c f a s ((a + b) / 2) d1 else d1) := by
          split
          · exact e1.trans (same_sym c n f _ _ _ _ (by omega) (by omega) (by omega))
          · exact e1
        generalize (if a < s ∧ s < (a + b) / 2 then sym c f a s ((a + b) / 2) d1 else d1) = d2 at *
        split
        · exact e2.trans (same_sym c n f _ _ _ _ (by omega) (by omega) (by omega))
        · exact e2
theorem same_blocks (c : Int → Int → Bool) (n a : Nat) (d : Nat → Int) : Same n d (blocks c n a d) := by
  induction a, d using blocks.induct (c := c) (n := n) with
  | case1 a d h ih =>
    rw [blocks, if_pos h]
    exact (same_insTo c n a _ _ (by omega)).trans ih
  | case2 a d h =>
    rw [blocks, if_neg h]
    exact same_insTo c n a _ _ (by omega)
theorem same_pass (c : Int → Int → Bool) (n s a : Nat) (d : Nat → Int) (hs : 0 < s) : Same n d (pass c n s a d) := by
  induction a, d using pass.induct (c := c) (n := n) (s := s) with
  | case1 a d h ih =>
    rw [pass, if_pos h]
    exact (same_sym c n _ _ _ _ _ (by omega) (by omega) (by omega)).trans ih
  | case2 a d h g =>
    rw [pass, if_neg h, if_pos g]
    exact same_sym c n _ _ _ _ _ (by omega) (by omega) (by omega)
  | case3 a d h g =>
    rw [pass, if_neg h, if_neg g]
    exact Same.refl n d
theorem same_merges (c : Int → Int → Bool) (n s : Nat) (d : Nat → Int) : Same n d (merges c n s d) := by
  induction s, d using merges.induct (c := c) (n := n) with
  | case1 s d h ih =>
    rw [merges, if_pos h]
    exact (same_pass c n s 0 d h.1).trans ih
  | case2 s d h =>
    rw [merges, if_neg h]
    exact Same.refl n d
/-- the stable sort loses none -/
theorem same_stab (c : Int → Int → Bool) (n : Nat) (d : Nat → Int) : Same n d (stab c n d) := (same_blocks c n 0 d).trans (same_merges c n 20 _)
end Go.Proofs.Ythamonfomihncaa
