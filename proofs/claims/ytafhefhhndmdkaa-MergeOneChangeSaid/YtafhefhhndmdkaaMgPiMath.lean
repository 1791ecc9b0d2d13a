/- The pieces of a merge, in plain words: they are the three texts, part by part; what each kind says; no two parts that differ stand side by side. No condition. -/
import Derived.Test.YtafhefhhndmdkaaMgExMath
namespace Go.Proofs.Ytafhefhhndmdkaa
open Mg

theorem cut_drop (l : List ByteArray) (i j : Nat) (h : i ≤ j) : cut l i j ++ l.drop j = l.drop i := by
  unfold cut
  conv => rhs; rw [← List.take_append_drop (j - i) (l.drop i)]
  rw [List.drop_drop, show i + (j - i) = j by omega]
theorem cut_all (l : List ByteArray) (i : Nat) : cut l i l.length = l.drop i := by
  unfold cut
  rw [List.take_of_length_le (by simp)]
/-- the lists of one side, one behind the other -/
def side (g : Pc → List ByteArray) (ps : List Pc) : List ByteArray := (ps.map g).flatten
theorem side_append (g : Pc → List ByteArray) (p q : List Pc) : side g (p ++ q) = side g p ++ side g q := by simp [side]
theorem side_one (g : Pc → List ByteArray) (p : Pc) : side g [p] = g p := by simp [side]
theorem side_open (g : Pc → List ByteArray) (hg : ∀ l, g (1, l, l, l) = l) (d : List Pc) (l : List ByteArray) : side g (pieces (d, l)) = side g d ++ l := by
  unfold pieces
  by_cases h : l = []
  · simp [h]
  · simp [h, side_append, side_one, hg]
theorem side_part (g : Pc → List ByteArray) (hg : ∀ l, g (1, l, l, l) = l) (o a b : List ByteArray) (f t : T3) (st : St) (c : List ByteArray)
    (hc : g (kindOf (cut o f.1 t.1) (cut a f.2.1 t.2.1) (cut b f.2.2 t.2.2), cut o f.1 t.1, cut a f.2.1 t.2.1, cut b f.2.2 t.2.2) = c) (h0 : (cut o f.1 t.1).length + (cut a f.2.1 t.2.1).length + (cut b f.2.2 t.2.2).length = 0 → c = []) :
    side g (pieces (Mg.part o a b f t st)) = side g (pieces st) ++ c := by
  unfold Mg.part
  split
  · rename_i h; rw [h0 h, List.append_nil]
  · rw [side_open g hg, side_append, side_one, hc, List.append_nil]
/-- where the triples may lie -/
def Fit (o a b : List ByteArray) : List T3 → T3 → Prop := fun ts f => f.1 ≤ o.length ∧ f.2.1 ≤ a.length ∧ f.2.2 ≤ b.length ∧
  (∀ t ∈ ts, f.1 ≤ t.1 ∧ f.2.1 ≤ t.2.1 ∧ f.2.2 ≤ t.2.2 ∧ ∃ s, o[t.1]? = some s ∧ a[t.2.1]? = some s ∧ b[t.2.2]? = some s) ∧ ts.Pairwise Up3
theorem Fit.next {o a b : List ByteArray} {t : T3} {ts : List T3} {f : T3} (h : Fit o a b (t :: ts) f) : Fit o a b ts (t.1 + 1, t.2.1 + 1, t.2.2 + 1) := by
  obtain ⟨_, _, _, h4, h5⟩ := h
  obtain ⟨_, _, _, s, k1, k2, k3⟩ := h4 t (.head _)
  obtain ⟨u1, u2⟩ := List.pairwise_cons.1 h5
  refine ⟨(List.getElem?_eq_some_iff.1 k1).1, (List.getElem?_eq_some_iff.1 k2).1, (List.getElem?_eq_some_iff.1 k3).1, fun u hu => ?_, u2⟩
  have := u1 u hu
  exact ⟨this.1, this.2.1, this.2.2, (h4 u (.tail _ hu)).2.2.2⟩
theorem merge_fit (o a b : List ByteArray) : Fit o a b (trip (prs 0 0 o a) (prs 0 0 o b)) (0, 0, 0) := by
  refine ⟨Nat.zero_le _, Nat.zero_le _, Nat.zero_le _, fun t ht => ?_, trip_up (prs_pairwise o a) (prs_pairwise o b)⟩
  obtain ⟨h1, h2⟩ := (trip_mem (prs_pairwise o b)).1 ht
  obtain ⟨_, _, s, k1, k2⟩ := prs_eq o a 0 0 _ h1
  obtain ⟨_, _, s', k3, k4⟩ := prs_eq o b 0 0 _ h2
  simp only [Nat.sub_zero] at k1 k2 k3 k4
  rw [k1] at k3
  injection k3 with k3
  subst k3
  exact ⟨Nat.zero_le _, Nat.zero_le _, Nat.zero_le _, s, k1, k2, k4⟩
/-- one side of the pieces is one of the texts (k: which place of a triple; l: the text), if each part's is -/
theorem mgt_side (g : Pc → List ByteArray) (hg : ∀ l, g (1, l, l, l) = l) (o a b l : List ByteArray) (k : T3 → Nat) (hk : ∀ t, k (t.1 + 1, t.2.1 + 1, t.2.2 + 1) = k t + 1) (hl : k (o.length, a.length, b.length) = l.length)
    (R : T3 → T3 → Prop) (hR : ∀ f t, R f t → g (kindOf (cut o f.1 t.1) (cut a f.2.1 t.2.1) (cut b f.2.2 t.2.2), cut o f.1 t.1, cut a f.2.1 t.2.1, cut b f.2.2 t.2.2) = cut l (k f) (k t))
    (hz : ∀ f t, R f t → (cut o f.1 t.1).length + (cut a f.2.1 t.2.1).length + (cut b f.2.2 t.2.2).length = 0 → cut l (k f) (k t) = []) :
    ∀ (ts : List T3) (f : T3) (st : St), Along o a b R ts f → (∀ t ∈ ts, k f ≤ k t ∧ l[k t]? = o[t.1]? ∧ k t < l.length ∧ t.1 < o.length) → ts.Pairwise (fun s t => k s < k t) → k f ≤ l.length →
      side g (mgt o a b ts f st) = side g (pieces st) ++ l.drop (k f)
  | [], f, st, hal, _, _, hf => by
    show side g (pieces (Mg.part o a b f (o.length, a.length, b.length) st)) = _
    rw [side_part g hg o a b f (o.length, a.length, b.length) st _ (hR f (o.length, a.length, b.length) hal) (hz f (o.length, a.length, b.length) hal), hl, cut_all]
  | t :: ts, f, st, hal, hts, hup, hf => by
    obtain ⟨k1, k2, k3, k4⟩ := hts t (.head _)
    obtain ⟨u1, u2⟩ := List.pairwise_cons.1 hup
    have ho : o.getD t.1 ByteArray.empty = o[t.1] := by rw [List.getD_eq_getElem?_getD, List.getElem?_eq_getElem k4]; rfl
    have he : o[t.1] = l[k t] := by
      rw [List.getElem?_eq_getElem k4, List.getElem?_eq_getElem k3] at k2
      injection k2 with k2
      exact k2.symm
    rw [mgt, mgt_side g hg o a b l k hk hl R hR hz ts _ _ hal.2 (fun s hs => ⟨by rw [hk]; exact u1 s hs, (hts s (.tail _ hs)).2⟩) u2 (by rw [hk]; exact k3), side_open g hg]
    have hp := side_part g hg o a b f t st _ (hR f t hal.1) (hz f t hal.1)
    have hs := side_open g hg (Mg.part o a b f t st).1 (Mg.part o a b f t st).2
    rw [show ((Mg.part o a b f t st).1, (Mg.part o a b f t st).2) = Mg.part o a b f t st from rfl, hp] at hs
    rw [← List.append_assoc, ← hs, hk, ho, he, List.append_assoc, List.append_assoc, List.singleton_append, ← List.drop_eq_getElem_cons k3, cut_drop l (k f) (k t) k1]

/-- the text of pieces -/
def chosen (p : Pc) : Option (List ByteArray) := if p.1 = 1 ∨ p.1 = 2 ∨ p.1 = 4 then some p.2.2.1 else if p.1 = 3 then some p.2.2.2 else none
def textP : List Pc → Option (List ByteArray)
  | [] => some []
  | p :: ps => (chosen p).bind fun l => (textP ps).map (l ++ ·)
theorem textP_side (g : Pc → List ByteArray) : ∀ (ps : List Pc), (∀ p ∈ ps, chosen p = some (g p)) → textP ps = some (side g ps)
  | [], _ => rfl
  | p :: ps, h => by
    rw [textP, h p (.head _), textP_side g ps fun q hq => h q (.tail _ hq)]
    simp [side]
/-- what holds of all pieces -/
theorem mgt_each {o a b : List ByteArray} {P : Pc → Prop} {R : T3 → T3 → Prop} (h1 : ∀ l, l ≠ [] → P (1, l, l, l))
    (hR : ∀ f t, R f t → (cut o f.1 t.1).length + (cut a f.2.1 t.2.1).length + (cut b f.2.2 t.2.2).length ≠ 0 → P (kindOf (cut o f.1 t.1) (cut a f.2.1 t.2.1) (cut b f.2.2 t.2.2), cut o f.1 t.1, cut a f.2.1 t.2.1, cut b f.2.2 t.2.2)) :
    ∀ (ts : List T3) (f : T3) (st : St), Along o a b R ts f → (∀ p ∈ st.1, P p) → ∀ p ∈ mgt o a b ts f st, P p := by
  have hpc : ∀ st : St, (∀ p ∈ st.1, P p) → ∀ p ∈ pieces st, P p := fun st h p hp => by
    unfold pieces at hp
    rcases List.mem_append.1 hp with hp | hp
    · exact h p hp
    · by_cases hl : st.2 = []
      · simp [hl] at hp
      · simp only [hl, if_false, List.mem_singleton] at hp
        rw [hp]; exact h1 _ hl
  have hpt : ∀ (f t : T3) (st : St), R f t → (∀ p ∈ st.1, P p) → ∀ p ∈ (Mg.part o a b f t st).1, P p := fun f t st hr h p hp => by
    unfold Mg.part at hp
    split at hp
    · exact h p hp
    · rename_i h0
      rcases List.mem_append.1 hp with hp | hp
      · exact hpc st h p hp
      · rw [List.mem_singleton] at hp
        rw [hp]; exact hR f t hr h0
  intro ts
  induction ts with
  | nil => intro f st hal h; exact hpc _ (hpt f _ st hal h)
  | cons t ts ih => intro f st hal h; exact ih _ _ hal.2 (hpt f t st hal.1 h)
/-- no two parts that differ stand side by side -/
def Alt (ps : List Pc) : Prop := ∀ (i : Nat) (p q : Pc), ps[i]? = some p → ps[i + 1]? = some q → p.1 = 1 ∨ q.1 = 1
theorem Alt.snoc {ps : List Pc} {q : Pc} (h : Alt ps) (hq : q.1 = 1 ∨ ∀ p, ps.getLast? = some p → p.1 = 1) : Alt (ps ++ [q]) := by
  intro i p r h1 h2
  have hi : i + 1 < ps.length + 1 := by have := (List.getElem?_eq_some_iff.1 h2).1; simpa using this
  rcases Nat.lt_or_ge (i + 1) ps.length with h3 | h3
  · rw [List.getElem?_append_left (by omega)] at h1
    rw [List.getElem?_append_left h3] at h2
    exact h i p r h1 h2
  · have h4 : i + 1 = ps.length := by omega
    rw [List.getElem?_append_right h3, h4, Nat.sub_self] at h2
    simp at h2
    subst h2
    rcases hq with hq | hq
    · exact .inr hq
    · left
      rw [List.getElem?_append_left (by omega)] at h1
      exact hq p (by rw [List.getLast?_eq_getElem?, ← h4, Nat.add_sub_cancel]; exact h1)
theorem pieces_alt {st : St} (h : Alt st.1) : Alt (pieces st) := by
  unfold pieces
  split
  · simpa using h
  · exact h.snoc (.inl rfl)
theorem mgt_alt (o a b : List ByteArray) : ∀ (ts : List T3) (f : T3) (st : St), Alt st.1 → (st.2 ≠ [] ∨ st.1 = []) → Alt (mgt o a b ts f st) := by
  have hpt : ∀ (f t : T3) (st : St), Alt st.1 → (st.2 ≠ [] ∨ st.1 = []) → Alt (Mg.part o a b f t st).1 := fun f t st h hs => by
    unfold Mg.part
    split
    · exact h
    · refine (pieces_alt h).snoc (.inr fun p hp => ?_)
      unfold pieces at hp
      rcases hs with hs | hs
      · simp only [hs, if_false, List.getLast?_append, List.getLast?_singleton, Option.some_or, Option.some.injEq] at hp
        rw [← hp]
      · rw [hs, List.nil_append] at hp
        split at hp
        · simp at hp
        · simp at hp; rw [← hp]
  intro ts
  induction ts with
  | nil => intro f st h hs; exact pieces_alt (hpt f _ st h hs)
  | cons t ts ih => intro f st h hs; exact ih _ _ (hpt f t st h hs) (.inl (by simp))

/-- the three texts -/
theorem merge_base (o a b : List ByteArray) : side (·.2.1) (mergeP o a b) = o := by
  unfold mergeP
  rw [mgo_mgt]
  obtain ⟨_, _, _, h4, h5⟩ := merge_fit o a b
  have := mgt_side (·.2.1) (fun _ => rfl) o a b o (·.1) (fun _ => rfl) rfl (fun _ _ => True) (fun _ _ _ => rfl) (fun f t _ h => List.eq_nil_of_length_eq_zero (by omega)) _ (0, 0, 0) ([], []) (along_both (D := fun _ => True) (fun _ _ => trivial) trivial trivial (fun _ _ => trivial) |>.mono fun _ _ _ => trivial)
    (fun t ht => by obtain ⟨k1, _, _, s, k2, _, _⟩ := h4 t ht; exact ⟨k1, rfl, (List.getElem?_eq_some_iff.1 k2).1, (List.getElem?_eq_some_iff.1 k2).1⟩) (h5.imp fun h => h.1) (Nat.zero_le _)
  rw [this]
  simp [side, pieces]
theorem merge_ours (o a b : List ByteArray) : side (·.2.2.1) (mergeP o a b) = a := by
  unfold mergeP
  rw [mgo_mgt]
  obtain ⟨_, _, _, h4, h5⟩ := merge_fit o a b
  have := mgt_side (·.2.2.1) (fun _ => rfl) o a b a (·.2.1) (fun _ => rfl) rfl (fun _ _ => True) (fun _ _ _ => rfl) (fun f t _ h => List.eq_nil_of_length_eq_zero (by omega)) _ (0, 0, 0) ([], []) (along_both (D := fun _ => True) (fun _ _ => trivial) trivial trivial (fun _ _ => trivial) |>.mono fun _ _ _ => trivial)
    (fun t ht => by obtain ⟨_, k1, _, s, k2, k3, _⟩ := h4 t ht; exact ⟨k1, k3.trans k2.symm, (List.getElem?_eq_some_iff.1 k3).1, (List.getElem?_eq_some_iff.1 k2).1⟩) (h5.imp fun h => h.2.1) (Nat.zero_le _)
  rw [this]
  simp [side, pieces]
theorem merge_theirs (o a b : List ByteArray) : side (·.2.2.2) (mergeP o a b) = b := by
  unfold mergeP
  rw [mgo_mgt]
  obtain ⟨_, _, _, h4, h5⟩ := merge_fit o a b
  have := mgt_side (·.2.2.2) (fun _ => rfl) o a b b (·.2.2) (fun _ => rfl) rfl (fun _ _ => True) (fun _ _ _ => rfl) (fun f t _ h => List.eq_nil_of_length_eq_zero (by omega)) _ (0, 0, 0) ([], []) (along_both (D := fun _ => True) (fun _ _ => trivial) trivial trivial (fun _ _ => trivial) |>.mono fun _ _ _ => trivial)
    (fun t ht => by obtain ⟨_, _, k1, s, k2, _, k3⟩ := h4 t ht; exact ⟨k1, k3.trans k2.symm, (List.getElem?_eq_some_iff.1 k3).1, (List.getElem?_eq_some_iff.1 k2).1⟩) (h5.imp fun h => h.2.2) (Nat.zero_le _)
  rw [this]
  simp [side, pieces]
theorem mem_side {g : Pc → List ByteArray} {ps : List Pc} {p : Pc} (h : p ∈ ps) : (g p).length ≤ (side g ps).length := by
  induction ps with
  | nil => cases h
  | cons q ps ih =>
    have e : side g (q :: ps) = g q ++ side g ps := by simp [side]
    rw [e, List.length_append]
    rcases List.mem_cons.1 h with rfl | h
    · omega
    · have := ih h; omega
/-- each piece's lists are no longer than the texts -/
theorem merge_lens (o a b : List ByteArray) {p : Pc} (h : p ∈ mergeP o a b) : p.2.1.length ≤ o.length ∧ p.2.2.1.length ≤ a.length ∧ p.2.2.2.length ≤ b.length := by
  have h1 := mem_side (g := (·.2.1)) h
  have h2 := mem_side (g := (·.2.2.1)) h
  have h3 := mem_side (g := (·.2.2.2)) h
  rw [merge_base] at h1
  rw [merge_ours] at h2
  rw [merge_theirs] at h3
  exact ⟨h1, h2, h3⟩
theorem merge_alt (o a b : List ByteArray) : Alt (mergeP o a b) := by
  unfold mergeP
  rw [mgo_mgt]
  exact mgt_alt o a b _ _ _ (fun i p q h => by simp at h) (.inr rfl)
/-- what each kind says -/
def Kinds (p : Pc) : Prop := (p.1 = 1 ∧ p.2.2.1 = p.2.1 ∧ p.2.2.2 = p.2.1 ∧ p.2.1 ≠ []) ∨ (p.1 = 2 ∧ p.2.2.2 = p.2.1 ∧ p.2.2.1 ≠ p.2.1) ∨ (p.1 = 3 ∧ p.2.2.1 = p.2.1 ∧ p.2.2.2 ≠ p.2.1) ∨
  (p.1 = 4 ∧ p.2.2.1 = p.2.2.2 ∧ p.2.2.1 ≠ p.2.1) ∨ (p.1 = 5 ∧ p.2.2.1 ≠ p.2.1 ∧ p.2.2.2 ≠ p.2.1 ∧ p.2.2.1 ≠ p.2.2.2)
theorem merge_kinds (o a b : List ByteArray) : ∀ p ∈ mergeP o a b, Kinds p := by
  unfold mergeP
  rw [mgo_mgt]
  refine mgt_each (R := fun f t => ¬ AllEq o a b f t) (fun l hl => .inl ⟨rfl, rfl, rfl, hl⟩) (fun f t hr h0 => ?_) _ (0, 0, 0) ([], []) (noAll o a b _ [] _ rfl (fun t ht => by cases ht) (fun s h1 h2 => prs_start o a 0 0 s h1 h2) (fun s h1 h2 => prs_start o b 0 0 s h1 h2)) (fun p h => by cases h)
  have hne : ¬ (cut a f.2.1 t.2.1 = cut o f.1 t.1 ∧ cut b f.2.2 t.2.2 = cut o f.1 t.1) := fun ⟨h1, h2⟩ => hr ⟨fun e => by rw [h1, h2, e] at h0; exact h0 rfl, h1, h2⟩
  generalize cut o f.1 t.1 = x at *
  generalize cut a f.2.1 t.2.1 = y at *
  generalize cut b f.2.2 t.2.2 = z at *
  unfold kindOf
  by_cases h1 : z = x
  · exact .inr (.inl ⟨if_pos h1, h1, fun e => hne ⟨e, h1⟩⟩)
  · by_cases h2 : y = x
    · exact .inr (.inr (.inl ⟨by rw [if_neg h1, if_pos h2], h2, h1⟩))
    · by_cases h3 : y = z
      · exact .inr (.inr (.inr (.inl ⟨by rw [if_neg h1, if_neg h2, if_pos h3], h3, h2⟩)))
      · exact .inr (.inr (.inr (.inr ⟨by rw [if_neg h1, if_neg h2, if_neg h3], h2, h1, h3⟩)))
end Go.Proofs.Ytafhefhhndmdkaa
