/- The text of a merge with an unchanged side, and of equal sides, in plain words. No condition. -/
import Derived.Test.YtafhefhhndmdkaaMgPiMath
import Derived.Test.YtafhefhhndmdkaaMgText
namespace Go.Proofs.Ytafhefhhndmdkaa
open Mg

theorem chosen_toI (p : Pc) : chosenI (toI p) = chosen p := by
  unfold chosenI toI chosen
  simp only
  by_cases h1 : p.1 = 1 ∨ p.1 = 2 ∨ p.1 = 4
  · rw [if_pos h1, if_pos (by omega)]
  · rw [if_neg h1, if_neg (by omega)]
    by_cases h3 : p.1 = 3
    · rw [if_pos h3, if_pos (by omega)]
    · rw [if_neg h3, if_neg (by omega)]
theorem text_toI : ∀ ps : List Pc, textI (ps.map toI) = textP ps
  | [] => rfl
  | p :: ps => by rw [List.map_cons, textI, textP, chosen_toI, text_toI ps]
theorem prs_diag : ∀ (a : List ByteArray) (i : Nat), ∀ p ∈ prs i i a a, p.1 = p.2
  | [], i, p, h => by simp [prs] at h
  | x :: a, i, p, h => by
    rw [prs_head] at h
    rcases List.mem_cons.1 h with rfl | h
    · rfl
    · exact prs_diag a (i + 1) p h
theorem merge_each {o a b : List ByteArray} {P : Pc → Prop} {D : T3 → Prop} (hD : ∀ t : T3, D t → D (t.1 + 1, t.2.1 + 1, t.2.2 + 1)) (h0 : D (0, 0, 0)) (he : D (o.length, a.length, b.length)) (ht : ∀ t ∈ trip (prs 0 0 o a) (prs 0 0 o b), D t) (h1 : ∀ l, l ≠ [] → P (1, l, l, l))
    (hR : ∀ f t, D f → D t → P (kindOf (cut o f.1 t.1) (cut a f.2.1 t.2.1) (cut b f.2.2 t.2.2), cut o f.1 t.1, cut a f.2.1 t.2.1, cut b f.2.2 t.2.2)) : ∀ p ∈ mergeP o a b, P p := by
  unfold mergeP
  rw [mgo_mgt]
  exact mgt_each (R := fun f t => D f ∧ D t) h1 (fun f t h _ => hR f t h.1 h.2) _ (0, 0, 0) ([], []) (along_both hD he h0 ht) (fun p h => by cases h)
theorem chosen_one (l : List ByteArray) : chosen (1, l, l, l) = some l := rfl
/-- ours is unchanged -/
theorem text_ours (o b : List ByteArray) : textP (mergeP o o b) = some b := by
  have h : ∀ p ∈ mergeP o o b, chosen p = some p.2.2.2 := by
    refine merge_each (D := fun t => t.2.1 = t.1) (fun t h => by show t.2.1 + 1 = t.1 + 1; omega) rfl rfl (fun t ht => (prs_diag o 0 _ ((trip_mem (prs_pairwise o b)).1 ht).1).symm) (fun l _ => rfl) (fun f t hf ht => ?_)
    rw [hf, ht]
    unfold kindOf
    by_cases h1 : cut b f.2.2 t.2.2 = cut o f.1 t.1
    · rw [if_pos h1]; show some _ = some _; rw [h1]
    · rw [if_neg h1, if_pos rfl]; rfl
  rw [textP_side (·.2.2.2) _ h, merge_theirs]
/-- theirs is unchanged -/
theorem text_theirs (o a : List ByteArray) : textP (mergeP o a o) = some a := by
  have h : ∀ p ∈ mergeP o a o, chosen p = some p.2.2.1 := by
    refine merge_each (D := fun t => t.2.2 = t.1) (fun t h => by show t.2.2 + 1 = t.1 + 1; omega) rfl rfl (fun t ht => (prs_diag o 0 _ ((trip_mem (prs_pairwise o o)).1 ht).2).symm) (fun l _ => rfl) (fun f t hf ht => ?_)
    rw [hf, ht]
    unfold kindOf
    rw [if_pos rfl]; rfl
  rw [textP_side (·.2.2.1) _ h, merge_ours]
/-- both sides are equal -/
theorem text_both (o a : List ByteArray) : textP (mergeP o a a) = some a := by
  have h : ∀ p ∈ mergeP o a a, chosen p = some p.2.2.1 := by
    refine merge_each (D := fun t => t.2.1 = t.2.2) (fun t h => by show t.2.1 + 1 = t.2.2 + 1; omega) rfl rfl (fun t ht => ?_) (fun l _ => rfl) (fun f t hf ht => ?_)
    · obtain ⟨k1, k2⟩ := (trip_mem (prs_pairwise o a)).1 ht
      rcases up_mem (prs_pairwise o a) k1 k2 with k | k | k
      · injection k
      · exact absurd k.1 (Nat.lt_irrefl _)
      · exact absurd k.1 (Nat.lt_irrefl _)
    · rw [hf, ht]
      unfold kindOf
      by_cases h1 : cut a f.2.2 t.2.2 = cut o f.1 t.1
      · rw [if_pos h1]; rfl
      · rw [if_neg h1, if_neg h1, if_pos rfl]; rfl
  rw [textP_side (·.2.2.1) _ h, merge_ours]
theorem mgt_len (o a b : List ByteArray) : ∀ (ts : List T3) (f : T3) (st : St), (mgt o a b ts f st).length ≤ st.1.length + 2 * ts.length + 3
  | [], f, st => by
    have h1 := part_len o a b f (o.length, a.length, b.length) st
    have h2 := pieces_len (Mg.part o a b f (o.length, a.length, b.length) st)
    show (pieces (Mg.part o a b f (o.length, a.length, b.length) st)).length ≤ _
    simp only [List.length_nil]
    omega
  | t :: ts, f, st => by
    have h1 := part_len o a b f t st
    have h2 := mgt_len o a b ts (t.1 + 1, t.2.1 + 1, t.2.2 + 1) ((Mg.part o a b f t st).1, (Mg.part o a b f t st).2 ++ [o.getD t.1 ByteArray.empty])
    rw [mgt, List.length_cons]
    simp only at h2
    omega
theorem merge_len (o a b : List ByteArray) : (mergeP o a b).length ≤ 2 * o.length + 3 := by
  unfold mergeP
  rw [mgo_mgt]
  have h1 := mgt_len o a b (trip (prs 0 0 o a) (prs 0 0 o b)) (0, 0, 0) ([], [])
  have h2 : (trip (prs 0 0 o a) (prs 0 0 o b)).length ≤ (prs 0 0 o a).length := List.length_filterMap_le _ _
  have h3 := prs_pairs_len o a 0 0
  simp only [List.length_nil] at h1
  omega
theorem mem_side_elem {g : Pc → List ByteArray} {ps : List Pc} {p : Pc} (h : p ∈ ps) {s : ByteArray} (hs : s ∈ g p) : s ∈ side g ps := by
  unfold side
  exact List.mem_flatten.2 ⟨g p, List.mem_map.2 ⟨p, h, rfl⟩, hs⟩
/-- what Text asks of the pieces -/
theorem merge_small (o a b : ByteArray) (ho : (linesOf o).length ≤ 400) (ha : (linesOf a).length ≤ 400) (hb : (linesOf b).length ≤ 400) (hsa : a.size ≤ 1000000) (hsb : b.size ≤ 1000000) : SmallI ((mergeP (linesOf o) (linesOf a) (linesOf b)).map toI) := by
  refine ⟨by have := merge_len (linesOf o) (linesOf a) (linesOf b); rw [List.length_map]; omega, fun p hp => ?_⟩
  obtain ⟨q, hq, rfl⟩ := List.mem_map.1 hp
  obtain ⟨_, h2, h3⟩ := merge_lens _ _ _ hq
  refine ⟨by show q.2.2.1.length ≤ 1000; omega, by show q.2.2.2.length ≤ 1000; omega, fun s hs => ?_, fun s hs => ?_⟩
  · have := mem_side_elem (g := (·.2.2.1)) hq hs
    rw [merge_ours] at this
    exact Nat.le_trans (linesOf_size a s this) hsa
  · have := mem_side_elem (g := (·.2.2.2)) hq hs
    rw [merge_theirs] at this
    exact Nat.le_trans (linesOf_size b s this) hsb
end Go.Proofs.Ytafhefhhndmdkaa
