/- Applying the script between two texts gives the second; the script of a text to itself is empty. No condition. -/
import Derived.Test.YtafhefhhndmdkaaDoorMgApply
namespace Go.Proofs.YtafhefhhndmdkaaDoor
open Mg

/-- a script's hunks as hunks that may be any -/
def hunksI (l : List (Nat × Nat × List ByteArray)) : List Hunk := l.map fun h => ((h.1 : Int), (h.2.1 : Int), h.2.2)

theorem prs_eq : ∀ (a b : List ByteArray) (i j : Nat), ∀ p ∈ prs i j a b, i ≤ p.1 ∧ j ≤ p.2 ∧ ∃ s, a[p.1 - i]? = some s ∧ b[p.2 - j]? = some s
  | [], b, i, j, p, h => by simp [prs] at h
  | x :: a, b, i, j, p, h => by
    have pass : p ∈ prs (i + 1) j a b → i ≤ p.1 ∧ j ≤ p.2 ∧ ∃ s, (x :: a)[p.1 - i]? = some s ∧ b[p.2 - j]? = some s := fun hp => by
      obtain ⟨h1, h2, s, h3, h4⟩ := prs_eq a b (i + 1) j p hp
      refine ⟨by omega, h2, s, ?_, h4⟩
      rw [show p.1 - i = (p.1 - (i + 1)) + 1 from by omega, List.getElem?_cons_succ]; exact h3
    cases hx : idx x b with
    | none => rw [prs_none i j a hx] at h; exact pass h
    | some k =>
      by_cases hk : 1 + L a (b.drop (k + 1)) = L (x :: a) b
      · rw [prs_some i j a hx hk] at h
        rcases List.mem_cons.1 h with rfl | h
        · exact ⟨Nat.le_refl _, Nat.le_add_right _ _, x, by simp, by show b[j + k - j]? = _; rw [Nat.add_sub_cancel_left]; exact idx_at hx⟩
        · obtain ⟨h1, h2, s, h3, h4⟩ := prs_eq a (b.drop (k + 1)) (i + 1) (j + k + 1) p h
          refine ⟨by omega, by omega, s, ?_, ?_⟩
          · rw [show p.1 - i = (p.1 - (i + 1)) + 1 from by omega, List.getElem?_cons_succ]; exact h3
          · rw [List.getElem?_drop, show k + 1 + (p.2 - (j + k + 1)) = p.2 - j from by omega] at h4; exact h4
      · rw [prs_pass i j a hx hk] at h; exact pass h

theorem apH_scr (la lb : List ByteArray) (hw : ∀ s ∈ lb, wholeB s = true) : ∀ (ps : List (Nat × Nat)) (i j k : Nat) (first : Bool), k ≤ i → (first = true ∨ k < i) → i ≤ la.length → j ≤ lb.length →
    Asc la.length lb.length i j (ps ++ [(la.length, lb.length)]) → (∀ p ∈ ps, ∃ s, la[p.1]? = some s ∧ lb[p.2]? = some s) →
    apH la first k (hunksI (scr lb i j (ps ++ [(la.length, lb.length)]))) = some ((la.drop k).take (i - k) ++ lb.drop j)
  | [], i, j, k, first, h1, h2, h3, h4, h5, _ => by
    simp only [List.nil_append] at h5 ⊢
    by_cases he : (la.length, lb.length) = (i, j)
    · obtain ⟨rfl, rfl⟩ : la.length = i ∧ lb.length = j := by simpa using he
      rw [scr_same]
      simp only [scr, hunksI, List.map_nil, apH]
      rw [List.drop_length, List.append_nil, List.take_of_length_le (by simp)]
    · rw [scr_other _ _ _ _ _ he]
      simp only [scr, hunksI, List.map_cons, List.map_nil]
      rw [apH_good (badH_no h1 h2 h3 (Nat.le_refl _) (by
        rintro ⟨e1, e2⟩
        apply he
        have : ((lb.drop j).take (lb.length - j)).length = 0 := e2
        simp at this
        simp; omega) (by
        rw [List.any_eq_false]
        intro s hs
        simp [hw s (List.mem_of_mem_drop (List.mem_of_mem_take hs))]))]
      simp only [apH, Int.toNat_natCast, List.drop_length, Option.map_some, List.append_nil]
      rw [List.take_of_length_le (l := lb.drop j) (by simp)]
  | p :: ps, i, j, k, first, h1, h2, h3, h4, h5, h6 => by
    simp only [List.cons_append] at h5 ⊢
    obtain ⟨a1, a2, a3, a4, a5⟩ := h5
    obtain ⟨s, s1, s2⟩ := h6 p (List.mem_cons_self ..)
    have l1 := (List.getElem?_eq_some_iff.1 s1).1
    have l2 := (List.getElem?_eq_some_iff.1 s2).1
    have g1 : la.drop p.1 = s :: la.drop (p.1 + 1) := by rw [List.drop_eq_getElem_cons l1, (List.getElem?_eq_some_iff.1 s1).2]
    have g2 : lb.drop p.2 = s :: lb.drop (p.2 + 1) := by rw [List.drop_eq_getElem_cons l2, (List.getElem?_eq_some_iff.1 s2).2]
    have h6' : ∀ q ∈ ps, ∃ s, la[q.1]? = some s ∧ lb[q.2]? = some s := fun q hq => h6 q (List.mem_cons_of_mem _ hq)
    by_cases he : p = (i, j)
    · subst he
      simp only at a5 l1 l2 g1 g2
      rw [scr_same, apH_scr la lb hw ps (i + 1) (j + 1) k first (by omega) (h2.imp_right (by omega)) (by omega) (by omega) a5 h6']
      have e : (la.drop k).take (i + 1 - k) = (la.drop k).take (i - k) ++ [s] := by
        rw [show i + 1 - k = (i - k) + 1 from by omega, List.take_add_one]
        rw [List.getElem?_drop, show k + (i - k) = i from by omega]
        simp only at s1
        rw [s1]; rfl
      rw [e, g2]; simp
    · rw [scr_other _ _ _ _ _ he]
      simp only [hunksI, List.map_cons]
      rw [apH_good (badH_no h1 h2 a1 a3 (by
        rintro ⟨e1, e2⟩
        apply he
        have : ((lb.drop j).take (p.2 - j)).length = 0 := e2
        simp at this
        ext <;> simp <;> omega) (by
        rw [List.any_eq_false]
        intro s hs
        simp [hw s (List.mem_of_mem_drop (List.mem_of_mem_take hs))]))]
      have ih := apH_scr la lb hw ps (p.1 + 1) (p.2 + 1) p.1 false (by omega) (.inr (by omega)) (by omega) (by omega) a5 h6'
      simp only [hunksI] at ih
      simp only [Int.toNat_natCast]
      rw [ih, Option.map_some]
      congr 1
      rw [show p.1 + 1 - p.1 = 1 from by omega, g1]
      simp only [List.take_succ_cons, List.take_zero, List.append_assoc]
      congr 1
      rw [List.singleton_append, ← g2]
      have : lb.drop p.2 = (lb.drop j).drop (p.2 - j) := by rw [List.drop_drop, show j + (p.2 - j) = p.2 from by omega]
      rw [this, List.take_append_drop]

theorem lns_whole : ∀ (l : List UInt8), ∀ x ∈ lns l, x ≠ [] ∧ Lib.indexByte (x.take (x.length - 1)) 10 = -1
  | [], x, h => by simp [lns] at h
  | c :: l, x, h => by
    have ih := lns_whole l
    unfold lns at h
    split at h
    · rcases List.mem_cons.1 h with rfl | h
      · exact ⟨by simp, by simp [Lib.indexByte]⟩
      · exact ih x h
    · rename_i hc
      cases hl : lns l with
      | nil =>
        rw [hl] at h
        simp at h; subst h
        exact ⟨by simp, by simp [Lib.indexByte]⟩
      | cons y r =>
        rw [hl] at h ih
        rcases List.mem_cons.1 h with rfl | h
        · obtain ⟨h1, h2⟩ := ih y (List.mem_cons_self ..)
          refine ⟨by simp, ?_⟩
          have hy : 0 < y.length := List.length_pos_iff.2 h1
          rw [show (c :: y).length - 1 = (y.length - 1) + 1 from by simp; omega, List.take_succ_cons]
          unfold Lib.indexByte
          rw [if_neg (by simpa using hc), h2]
          rfl
        · exact ih x (List.mem_cons_of_mem _ h)
theorem linesOf_whole (b : ByteArray) : ∀ s ∈ linesOf b, wholeB s = true := by
  intro s hs
  unfold linesOf at hs
  rw [List.mem_map] at hs
  obtain ⟨x, hx, rfl⟩ := hs
  obtain ⟨h1, h2⟩ := lns_whole _ x hx
  unfold wholeB
  have e : (str x).size = x.length := rfl
  rw [data_str, e, h2]
  cases x with
  | nil => exact absurd rfl h1
  | cons c x => rfl
theorem lns_ends : ∀ (l : List UInt8) (j : Nat) (x : List UInt8), j + 1 < (lns l).length → (lns l)[j]? = some x → Lib.hasSuffix x [10] = true
  | [], j, x, h, _ => by simp [lns] at h
  | c :: l, j, x, h, hx => by
    have ih := lns_ends l
    unfold lns at h hx
    split at h
    · rename_i hc
      rw [if_pos hc] at hx
      subst hc
      cases j with
      | zero => simp at hx; subst hx; decide
      | succ j => exact ih j x (by simp at h; omega) (by simpa using hx)
    · rename_i hc
      rw [if_neg hc] at hx
      cases hl : lns l with
      | nil => rw [hl] at h; simp at h
      | cons y r =>
        rw [hl] at h hx ih
        cases j with
        | zero =>
          simp at hx; subst hx
          have h1 := ih 0 y (by simp at h ⊢; omega) rfl
          unfold Lib.hasSuffix at h1 ⊢
          rw [List.isSuffixOf_iff_suffix] at h1 ⊢
          exact h1.trans (List.suffix_cons c y)
        | succ j => exact ih (j + 1) x (by simp at h ⊢; omega) (by simpa using hx)
theorem linesOf_ends (b : ByteArray) : endsB (linesOf b) = true := by
  refine endsB_all _ fun j s h1 h2 => ?_
  unfold linesOf at h1 h2
  rw [List.getElem?_map, Option.map_eq_some_iff] at h2
  obtain ⟨x, hx, rfl⟩ := h2
  exact lns_ends _ j x (by simpa using h1) hx
theorem joinS_lines (b : ByteArray) : joinS (linesOf b) = b := by
  have h := joinS_flat (linesOf b)
  have e : ((linesOf b).map (·.data.toList)).flatten = b.data.toList := by
    unfold linesOf
    rw [List.map_map]
    have : ((fun x : ByteArray => x.data.toList) ∘ str) = id := by funext x; rfl
    rw [this, List.map_id, lns_flat]
  rw [e] at h
  rw [← str_data (joinS (linesOf b)), h, str_data]
/-- applying the script between two texts gives the second -/
theorem apply_script (a b : ByteArray) : applyP a (hunksI (script (linesOf a) (linesOf b))) = some b := by
  have h := apH_scr (linesOf a) (linesOf b) (linesOf_whole b) (prs 0 0 (linesOf a) (linesOf b)) 0 0 0 true (Nat.le_refl _) (.inl rfl) (Nat.zero_le _) (Nat.zero_le _)
    (prs_asc (linesOf a) (linesOf b) 0 0 _ _ (Nat.zero_add _) (Nat.zero_add _)) (fun p hp => by
      obtain ⟨_, _, s, h1, h2⟩ := prs_eq (linesOf a) (linesOf b) 0 0 p hp
      exact ⟨s, by simpa using h1, by simpa using h2⟩)
  unfold applyP script
  rw [h]
  simp only [Nat.sub_self, List.take_zero, List.nil_append, List.drop_zero, linesOf_ends, if_true, joinS_lines]
theorem L_self : ∀ (a : List ByteArray), L a a = a.length
  | [] => by simp [L_nil]
  | x :: a => by
    rw [L_cons, if_pos rfl, L_self a]
    have h1 := L_le_len_b (x :: a) a
    have h2 := L_le_len_a a (x :: a)
    simp; omega
theorem scr_self : ∀ (a : List ByteArray) (i : Nat) (b : List ByteArray), scr b i i (prs i i a a ++ [(i + a.length, i + a.length)]) = []
  | [], i, b => by
    simp only [prs, List.nil_append, List.length_nil, Nat.add_zero]
    rw [scr_same]; rfl
  | x :: a, i, b => by
    have hx : idx x (x :: a) = some 0 := by simp [idx]
    rw [prs_some i i a hx (by simp only [List.drop_succ_cons, List.drop_zero, L_self]; simp; omega)]
    simp only [Nat.add_zero, List.cons_append, List.drop_succ_cons, List.drop_zero]
    rw [scr_same, show i + (x :: a).length = i + 1 + a.length from by simp; omega]
    exact scr_self a (i + 1) b
theorem script_self (a : List ByteArray) : script a a = [] := by
  have h := scr_self a 0 a
  simp only [Nat.zero_add] at h
  exact h
theorem script_nil {a b : ByteArray} : script (linesOf a) (linesOf b) = [] ↔ a = b := by
  constructor
  · intro h
    have h1 := apply_script a b
    have h2 := apply_script a a
    rw [script_self] at h2
    rw [h, h2] at h1
    exact Option.some.inj h1
  · rintro rfl; exact script_self _
theorem scr_len (b : List ByteArray) : ∀ (ps : List (Nat × Nat)) (i k : Nat), (scr b i k ps).length ≤ ps.length
  | [], _, _ => Nat.le_refl _
  | p :: ps, i, k => by
    by_cases h : p = (i, k)
    · subst h
      rw [scr_same]; have := scr_len b ps (i + 1) (k + 1); simp; omega
    · rw [scr_other _ _ _ _ _ h]; have := scr_len b ps (p.1 + 1) (p.2 + 1); simp; omega
theorem scr_lines (b : List ByteArray) : ∀ (ps : List (Nat × Nat)) (i k : Nat), ∀ h ∈ scr b i k ps, h.2.2.length ≤ b.length ∧ ∀ s ∈ h.2.2, s ∈ b
  | [], _, _, h, hh => by simp [scr] at hh
  | p :: ps, i, k, h, hh => by
    by_cases he : p = (i, k)
    · subst he; rw [scr_same] at hh; exact scr_lines b ps _ _ h hh
    · rw [scr_other _ _ _ _ _ he] at hh
      rcases List.mem_cons.1 hh with rfl | hh
      · exact ⟨by simp; omega, fun s hs => List.mem_of_mem_drop (List.mem_of_mem_take hs)⟩
      · exact scr_lines b ps _ _ h hh
end Go.Proofs.YtafhefhhndmdkaaDoor
