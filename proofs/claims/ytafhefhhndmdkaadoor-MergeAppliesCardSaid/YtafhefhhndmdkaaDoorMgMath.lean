/- Common lines of two lists: the greatest number of pairs, the least list of them, the reference's first pair. No condition. -/
namespace Go.Proofs.YtafhefhhndmdkaaDoor.Mg
variable {α : Type} [DecidableEq α]

/-- the greatest number of common pairs -/
def L : List α → List α → Nat
  | [], _ => 0
  | _ :: _, [] => 0
  | x :: a, y :: b => max (max (L (x :: a) b) (L a (y :: b))) (if x = y then 1 + L a b else 0)
termination_by a b => a.length + b.length

theorem L_nil (b : List α) : L [] b = 0 := by unfold L; rfl
theorem L_nil' (a : List α) : L a [] = 0 := by cases a <;> (unfold L; rfl)
theorem L_cons (x y : α) (a b : List α) : L (x :: a) (y :: b) = max (max (L (x :: a) b) (L a (y :: b))) (if x = y then 1 + L a b else 0) := by
  conv => lhs; unfold L

theorem L_le_l (y : α) (a b : List α) : L a b ≤ L a (y :: b) := by
  cases a with
  | nil => simp [L_nil]
  | cons x a => rw [L_cons]; omega
theorem L_le_a (x : α) (a b : List α) : L a b ≤ L (x :: a) b := by
  cases b with
  | nil => simp [L_nil']
  | cons y b => rw [L_cons]; omega
theorem L_both (n : Nat) : ∀ (a b : List α), a.length + b.length ≤ n → (∀ x, L (x :: a) b ≤ 1 + L a b) ∧ (∀ y, L a (y :: b) ≤ 1 + L a b) := by
  induction n with
  | zero =>
    intro a b h
    have ha : a = [] := List.eq_nil_of_length_eq_zero (by omega)
    have hb : b = [] := List.eq_nil_of_length_eq_zero (by omega)
    subst ha hb
    simp [L_nil, L_nil']
  | succ n ih =>
    intro a b h
    refine ⟨fun x => ?_, fun y => ?_⟩
    · cases b with
      | nil => simp [L_nil']
      | cons y b =>
        rw [L_cons]
        have h1 := (ih a b (by simp at h; omega)).1 x
        have h2 := L_le_l y a b
        split <;> omega
    · cases a with
      | nil => simp [L_nil]
      | cons x a =>
        rw [L_cons]
        have h1 := (ih a b (by simp at h; omega)).2 y
        have h2 := L_le_a x a b
        split <;> omega
theorem L_up_a (x : α) (a b : List α) : L (x :: a) b ≤ 1 + L a b := (L_both _ a b (Nat.le_refl _)).1 x
theorem L_up_l (y : α) (a b : List α) : L a (y :: b) ≤ 1 + L a b := (L_both _ a b (Nat.le_refl _)).2 y
theorem L_le_len_a : ∀ (a b : List α), L a b ≤ a.length
  | [], b => by simp [L_nil]
  | x :: a, b => by have := L_up_a x a b; have := L_le_len_a a b; simp; omega
theorem L_le_len_b : ∀ (a b : List α), L a b ≤ b.length
  | a, [] => by simp [L_nil']
  | a, y :: b => by have := L_up_l y a b; have := L_le_len_b a b; simp; omega
theorem L_le_append (a : List α) : ∀ u v : List α, L a v ≤ L a (u ++ v)
  | [], _ => Nat.le_refl _
  | y :: u, v => Nat.le_trans (L_le_append a u v) (L_le_l y a (u ++ v))
theorem L_le_drop (a b : List α) (k : Nat) : L a (b.drop k) ≤ L a b := by
  have := L_le_append a (b.take k) (b.drop k)
  rwa [List.take_append_drop] at this

theorem L_skip (x : α) (a : List α) : ∀ b : List α, x ∉ b → L (x :: a) b = L a b
  | [], _ => by simp [L_nil']
  | y :: b, h => by
    rw [L_cons, L_skip x a b (by simp at h; exact h.2), if_neg (by simp at h; exact h.1)]
    have := L_le_l y a b; omega
theorem L_hit (x : α) (a v : List α) : ∀ u : List α, x ∉ u → L (x :: a) (u ++ x :: v) = max (L a (u ++ x :: v)) (1 + L a v)
  | [], _ => by
    simp only [List.nil_append]
    rw [L_cons, if_pos rfl]
    have := L_up_a x a v; omega
  | y :: u, h => by
    simp at h
    simp only [List.cons_append]
    rw [L_cons, if_neg h.1, L_hit x a v u h.2]
    have := L_le_l y a (u ++ x :: v); omega

/-- the place of the first x -/
def idx (x : α) : List α → Option Nat
  | [] => none
  | y :: b => if y = x then some 0 else (idx x b).map (· + 1)

theorem idx_none {x : α} : ∀ {b : List α}, idx x b = none → x ∉ b
  | [], _ => by simp
  | y :: b, h => by
    unfold idx at h
    split at h
    · cases h
    · rename_i hne
      simp at h
      simp only [List.mem_cons, not_or]
      exact ⟨fun e => hne e.symm, idx_none h⟩
theorem idx_some {x : α} : ∀ {b : List α} {k : Nat}, idx x b = some k → k < b.length ∧ b = b.take k ++ x :: b.drop (k + 1) ∧ x ∉ b.take k
  | [], k, h => by simp [idx] at h
  | y :: b, k, h => by
    unfold idx at h
    split at h
    · rename_i e; simp at h; subst h; subst e; simp
    · rename_i hne
      simp at h
      obtain ⟨j, hj, rfl⟩ := h
      obtain ⟨h1, h2, h3⟩ := idx_some hj
      refine ⟨by simp; omega, ?_, ?_⟩
      · simp only [List.take_succ_cons, List.drop_succ_cons, List.cons_append]
        exact congrArg (y :: ·) h2
      · simp only [List.take_succ_cons, List.mem_cons, not_or]
        exact ⟨fun e => hne e.symm, h3⟩

/-- the common pairs: from line i of the one and line j of the other on -/
def prs : Nat → Nat → List α → List α → List (Nat × Nat)
  | _, _, [], _ => []
  | i, j, x :: a, b =>
    match idx x b with
    | none => prs (i + 1) j a b
    | some k => if 1 + L a (b.drop (k + 1)) = L (x :: a) b then (i, j + k) :: prs (i + 1) (j + k + 1) a (b.drop (k + 1)) else prs (i + 1) j a b

theorem prs_none {x : α} {b : List α} (i j : Nat) (a : List α) (h : idx x b = none) : prs i j (x :: a) b = prs (i + 1) j a b := by
  rw [prs]; simp [h]
theorem prs_some {x : α} {b : List α} {k : Nat} (i j : Nat) (a : List α) (h : idx x b = some k) (hk : 1 + L a (b.drop (k + 1)) = L (x :: a) b) : prs i j (x :: a) b = (i, j + k) :: prs (i + 1) (j + k + 1) a (b.drop (k + 1)) := by
  rw [prs]; simp [h, hk]
theorem prs_pass {x : α} {b : List α} {k : Nat} (i j : Nat) (a : List α) (h : idx x b = some k) (hk : ¬ 1 + L a (b.drop (k + 1)) = L (x :: a) b) : prs i j (x :: a) b = prs (i + 1) j a b := by
  rw [prs]; simp [h, hk]

theorem L_pass {x : α} {a b : List α} {k : Nat} (h : idx x b = some k) (hk : ¬ 1 + L a (b.drop (k + 1)) = L (x :: a) b) : L (x :: a) b = L a b := by
  obtain ⟨_, h2, h3⟩ := idx_some h
  have e : L (x :: a) b = max (L a b) (1 + L a (b.drop (k + 1))) := by
    conv => lhs; rw [h2]
    rw [L_hit x a _ _ h3, ← h2]
  omega

theorem prs_len : ∀ (a b : List α) (i j : Nat), (prs i j a b).length = L a b
  | [], b, i, j => by simp [prs, L_nil]
  | x :: a, b, i, j => by
    cases h : idx x b with
    | none => rw [prs_none i j a h, prs_len a b, L_skip x a b (idx_none h)]
    | some k =>
      by_cases hk : 1 + L a (b.drop (k + 1)) = L (x :: a) b
      · rw [prs_some i j a h hk, List.length_cons, prs_len a, ← hk]; omega
      · rw [prs_pass i j a h hk, prs_len a b, L_pass h hk]
/-- (x, y) begins as many pairs as m says -/
def Beg (a b : List α) (m x y : Nat) : Prop := ∃ s, a[x]? = some s ∧ b[y]? = some s ∧ L (a.drop (x + 1)) (b.drop (y + 1)) + 1 = m

theorem idx_least {x : α} : ∀ {b : List α} {k y : Nat}, idx x b = some k → b[y]? = some x → k ≤ y
  | [], _, _, h, _ => by simp [idx] at h
  | c :: b, k, y, h, hy => by
    unfold idx at h
    split at h
    · simp at h; omega
    · rename_i hne
      simp at h
      obtain ⟨j, hj, rfl⟩ := h
      cases y with
      | zero => simp at hy; exact absurd hy hne
      | succ y => simp at hy; have := idx_least hj hy; omega
theorem idx_at {x : α} : ∀ {b : List α} {k : Nat}, idx x b = some k → b[k]? = some x
  | [], _, h => by simp [idx] at h
  | c :: b, k, h => by
    unfold idx at h
    split at h
    · rename_i e; simp at h; subst h; simp [e]
    · simp at h
      obtain ⟨j, hj, rfl⟩ := h
      simpa using idx_at hj
theorem L_drop_anti (a b : List α) {k y : Nat} (h : k ≤ y) : L a (b.drop y) ≤ L a (b.drop k) := by
  have := L_le_drop a (b.drop k) (y - k)
  rwa [List.drop_drop, show k + (y - k) = y from by omega] at this

/-- the first pair in the reference's order: the pairs begin with it -/
theorem prs_first (a b : List α) (k m : Nat) (d : Nat) : ∀ (i : Nat), a.length - i = d → L (a.drop i) (b.drop k) = m → 0 < m →
    ∃ x y, i ≤ x ∧ x < a.length ∧ k ≤ y ∧ y < b.length ∧ Beg a b m x y ∧
      (∀ x' y', i ≤ x' → k ≤ y' → x' < x ∨ x' = x ∧ y' < y → ¬ Beg a b m x' y') ∧
      prs i k (a.drop i) (b.drop k) = (x, y) :: prs (x + 1) (y + 1) (a.drop (x + 1)) (b.drop (y + 1)) := by
  induction d with
  | zero =>
    intro i hd hm h0
    rw [List.drop_eq_nil_of_le (by omega), L_nil] at hm
    omega
  | succ d ih =>
    intro i hd hm h0
    have hi : i < a.length := by omega
    have ea : a.drop i = a[i] :: a.drop (i + 1) := List.drop_eq_getElem_cons hi
    rw [ea] at hm ⊢
    have skip : L (a.drop (i + 1)) (b.drop k) = m → (∀ y', k ≤ y' → ¬ Beg a b m i y') → prs i k (a[i] :: a.drop (i + 1)) (b.drop k) = prs (i + 1) k (a.drop (i + 1)) (b.drop k) →
        ∃ x y, i ≤ x ∧ x < a.length ∧ k ≤ y ∧ y < b.length ∧ Beg a b m x y ∧
          (∀ x' y', i ≤ x' → k ≤ y' → x' < x ∨ x' = x ∧ y' < y → ¬ Beg a b m x' y') ∧
          prs i k (a[i] :: a.drop (i + 1)) (b.drop k) = (x, y) :: prs (x + 1) (y + 1) (a.drop (x + 1)) (b.drop (y + 1)) := by
      intro h1 h2 h3
      obtain ⟨x, y, g1, g2, g3, g4, g5, g6, g7⟩ := ih (i + 1) (by omega) h1 h0
      refine ⟨x, y, by omega, g2, g3, g4, g5, fun x' y' e1 e2 e3 => ?_, by rw [h3]; exact g7⟩
      by_cases e : x' = i
      · subst e; exact h2 y' e2
      · exact g6 x' y' (by omega) e2 e3
    cases h : idx a[i] (b.drop k) with
    | none =>
      have hn := idx_none h
      refine skip (by rw [← hm, L_skip _ _ _ hn]) (fun y' hy' hB => ?_) (prs_none _ _ _ h)
      obtain ⟨s, s1, s2, s3⟩ := hB
      rw [List.getElem?_eq_getElem hi] at s1
      obtain rfl : a[i] = s := by simpa using s1
      exact hn (List.mem_of_getElem? (i := y' - k) (by rw [List.getElem?_drop, show k + (y' - k) = y' from by omega]; exact s2))
    | some t =>
      have ht := idx_at h
      rw [List.getElem?_drop] at ht
      have htl : k + t < b.length := by
        rcases Nat.lt_or_ge (k + t) b.length with h | h
        · exact h
        · rw [List.getElem?_eq_none h] at ht; cases ht
      have hup : 1 + L (a.drop (i + 1)) (b.drop (k + (t + 1))) ≤ m := by
        obtain ⟨_, h2, h3⟩ := idx_some h
        rw [← hm, h2, L_hit _ _ _ _ h3, List.drop_drop]; omega
      by_cases hk : 1 + L (a.drop (i + 1)) ((b.drop k).drop (t + 1)) = L (a[i] :: a.drop (i + 1)) (b.drop k)
      · refine ⟨i, k + t, Nat.le_refl _, hi, by omega, htl, ⟨a[i], List.getElem?_eq_getElem hi, ht, ?_⟩, fun x' y' e1 e2 e3 hB => ?_, ?_⟩
        · rw [← hm, ← hk, List.drop_drop]; rw [show k + t + 1 = k + (t + 1) from by omega]; omega
        · obtain ⟨s, s1, s2, s3⟩ := hB
          obtain rfl : x' = i := by omega
          rw [List.getElem?_eq_getElem hi] at s1
          obtain rfl : a[x'] = s := by simpa using s1
          have := idx_least (y := y' - k) h (by rw [List.getElem?_drop, show k + (y' - k) = y' from by omega]; exact s2)
          omega
        · rw [prs_some _ _ _ h hk, List.drop_drop]; rfl
      · refine skip (by rw [← hm, L_pass h hk]) (fun y' hy' hB => ?_) (prs_pass _ _ _ h hk)
        obtain ⟨s, s1, s2, s3⟩ := hB
        rw [List.getElem?_eq_getElem hi] at s1
        obtain rfl : a[i] = s := by simpa using s1
        have h1 := idx_least (y := y' - k) h (by rw [List.getElem?_drop, show k + (y' - k) = y' from by omega]; exact s2)
        have h2 := L_drop_anti (a.drop (i + 1)) b (k := k + (t + 1)) (y := y' + 1) (by omega)
        rw [List.drop_drop, hm] at hk
        omega
end Go.Proofs.YtafhefhhndmdkaaDoor.Mg
