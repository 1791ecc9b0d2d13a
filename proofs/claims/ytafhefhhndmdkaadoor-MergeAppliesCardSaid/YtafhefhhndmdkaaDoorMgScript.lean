/- The script between two lists of lines as a plain function of their common lines. No condition. -/
import Derived.Test.YtafhefhhndmdkaaDoorMgMath
namespace Go.Proofs.YtafhefhhndmdkaaDoor.Mg
variable {α : Type} [DecidableEq α]

/-- the hunks between pairs: (from, to, lines) -/
def scr (b : List α) : Nat → Nat → List (Nat × Nat) → List (Nat × Nat × List α)
  | _, _, [] => []
  | i, k, p :: ps => (if p = (i, k) then [] else [(i, p.1, (b.drop k).take (p.2 - k))]) ++ scr b (p.1 + 1) (p.2 + 1) ps
/-- the script between two lists -/
def script (a b : List α) : List (Nat × Nat × List α) := scr b 0 0 (prs 0 0 a b ++ [(a.length, b.length)])

/-- pairs that ascend from (i, k) on -/
def Asc (na nb : Nat) : Nat → Nat → List (Nat × Nat) → Prop
  | _, _, [] => True
  | i, k, p :: ps => i ≤ p.1 ∧ k ≤ p.2 ∧ p.1 ≤ na ∧ p.2 ≤ nb ∧ Asc na nb (p.1 + 1) (p.2 + 1) ps

theorem Asc.weak {na nb : Nat} : ∀ {ps : List (Nat × Nat)} {i k i' k' : Nat}, i' ≤ i → k' ≤ k → Asc na nb i k ps → Asc na nb i' k' ps
  | [], _, _, _, _, _, _, _ => trivial
  | _ :: _, _, _, _, _, h1, h2, h => ⟨Nat.le_trans h1 h.1, Nat.le_trans h2 h.2.1, h.2.2⟩
theorem prs_asc : ∀ (a b : List α) (i j na nb : Nat), i + a.length = na → j + b.length = nb → Asc na nb i j (prs i j a b ++ [(na, nb)])
  | [], b, i, j, na, nb, h1, h2 => by
    simp [prs, Asc] at h1 ⊢; omega
  | x :: a, b, i, j, na, nb, h1, h2 => by
    simp at h1
    cases h : idx x b with
    | none => rw [prs_none i j a h]; exact (prs_asc a b (i + 1) j na nb (by omega) h2).weak (by omega) (Nat.le_refl _)
    | some k =>
      by_cases hk : 1 + L a (b.drop (k + 1)) = L (x :: a) b
      · obtain ⟨h3, _⟩ := idx_some h
        rw [prs_some i j a h hk]
        exact ⟨Nat.le_refl _, Nat.le_add_right _ _, by show i ≤ na; omega, by show j + k ≤ nb; omega, prs_asc a (b.drop (k + 1)) (i + 1) (j + k + 1) na nb (by omega) (by simp; omega)⟩
      · rw [prs_pass i j a h hk]; exact (prs_asc a b (i + 1) j na nb (by omega) h2).weak (by omega) (Nat.le_refl _)
theorem prs_pairs_len (a b : List α) (i j : Nat) : (prs i j a b).length ≤ a.length := by
  rw [prs_len]; exact L_le_len_a a b
omit [DecidableEq α] in
theorem scr_same (b : List α) (i k : Nat) (ps : List (Nat × Nat)) : scr b i k ((i, k) :: ps) = scr b (i + 1) (k + 1) ps := by
  rw [scr]; simp
omit [DecidableEq α] in
theorem scr_other (b : List α) (i k : Nat) (p : Nat × Nat) (ps : List (Nat × Nat)) (h : p ≠ (i, k)) : scr b i k (p :: ps) = (i, p.1, (b.drop k).take (p.2 - k)) :: scr b (p.1 + 1) (p.2 + 1) ps := by
  rw [scr, if_neg h]; rfl
end Go.Proofs.YtafhefhhndmdkaaDoor.Mg
