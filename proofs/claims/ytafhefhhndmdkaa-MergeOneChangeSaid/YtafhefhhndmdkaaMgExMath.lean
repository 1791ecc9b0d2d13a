/- The pieces of a merge, in plain words: they are the three texts, part by part; exchanging the sides exchanges them; no part is the same in all three. No condition. -/
import Derived.Test.YtafhefhhndmdkaaMgLoop
import Derived.Test.YtafhefhhndmdkaaMgBackMath
namespace Go.Proofs.Ytafhefhhndmdkaa
open Mg

/-- a line of base, with its partners in ours and theirs -/
abbrev T3 := Nat × Nat × Nat
abbrev Up3 (s t : T3) : Prop := s.1 < t.1 ∧ s.2.1 < t.2.1 ∧ s.2.2 < t.2.2
def trip (p1 p2 : List (Nat × Nat)) : List T3 := p1.filterMap fun p => (mate p2 p.1).map fun z => (p.1, p.2, z)
def mgt (o a b : List ByteArray) : List T3 → T3 → St → List Pc
  | [], f, st => pieces (Mg.part o a b f (o.length, a.length, b.length) st)
  | t :: ts, f, st => mgt o a b ts (t.1 + 1, t.2.1 + 1, t.2.2 + 1) ((Mg.part o a b f t st).1, (Mg.part o a b f t st).2 ++ [o.getD t.1 ByteArray.empty])
theorem mgo_mgt (o a b : List ByteArray) (p2 : List (Nat × Nat)) : ∀ (p1 : List (Nat × Nat)) (f : T3) (st : St), mgo o a b (mate p2) p1 f st = mgt o a b (trip p1 p2) f st
  | [], _, _ => rfl
  | (x, y) :: p1, f, st => by
    rcases h : mate p2 x with _ | z
    · have e : trip ((x, y) :: p1) p2 = trip p1 p2 := by simp [trip, h]
      rw [e, mgo]
      simp only [h]
      exact mgo_mgt o a b p2 p1 f st
    · have e : trip ((x, y) :: p1) p2 = (x, y, z) :: trip p1 p2 := by simp [trip, h]
      rw [e, mgo, mgt]
      simp only [h]
      exact mgo_mgt o a b p2 p1 _ _
theorem mem_trip {p1 p2 : List (Nat × Nat)} {t : T3} : t ∈ trip p1 p2 ↔ (t.1, t.2.1) ∈ p1 ∧ mate p2 t.1 = some t.2.2 := by
  obtain ⟨x, y, z⟩ := t
  simp only [trip, List.mem_filterMap, Option.map_eq_some_iff]
  constructor
  · rintro ⟨⟨x', y'⟩, h1, z', h2, h3⟩
    simp only [Prod.mk.injEq] at h3
    obtain ⟨rfl, rfl, rfl⟩ := h3
    exact ⟨h1, h2⟩
  · rintro ⟨h1, h2⟩
    exact ⟨(x, y), h1, z, h2, rfl⟩
theorem trip_mem {p1 p2 : List (Nat × Nat)} (h2 : p2.Pairwise Up) {t : T3} : t ∈ trip p1 p2 ↔ (t.1, t.2.1) ∈ p1 ∧ (t.1, t.2.2) ∈ p2 :=
  mem_trip.trans ⟨fun h => ⟨h.1, mate_mem h.2⟩, fun h => ⟨h.1, mate_of_mem h2 h.2⟩⟩
theorem trip_up {p1 p2 : List (Nat × Nat)} (h1 : p1.Pairwise Up) (h2 : p2.Pairwise Up) : (trip p1 p2).Pairwise Up3 := by
  unfold trip
  rw [List.pairwise_filterMap]
  refine h1.imp fun {p q} hu s hs t ht => ?_
  simp only [Option.map_eq_some_iff] at hs ht
  obtain ⟨z, hz, rfl⟩ := hs
  obtain ⟨z', hz', rfl⟩ := ht
  refine ⟨hu.1, hu.2, ?_⟩
  rcases up_mem h2 (mate_mem hz) (mate_mem hz') with k | k | k
  · injection k with k _; have := hu.1; omega
  · exact k.2
  · have := k.1; have := hu.1; simp at *; omega
theorem sorted_ext {R : T3 → T3 → Prop} (hr : ∀ s, ¬ R s s) (ha : ∀ s t, R s t → ¬ R t s) : ∀ {l m : List T3}, l.Pairwise R → m.Pairwise R → (∀ t, t ∈ l ↔ t ∈ m) → l = m
  | [], [], _, _, _ => rfl
  | [], t :: _, _, _, h => absurd ((h t).2 (.head _)) (by simp)
  | s :: _, [], _, _, h => absurd ((h s).1 (.head _)) (by simp)
  | s :: l, t :: m, hl, hm, h => by
    obtain ⟨l1, l2⟩ := List.pairwise_cons.1 hl
    obtain ⟨m1, m2⟩ := List.pairwise_cons.1 hm
    have e : s = t := by
      rcases List.mem_cons.1 ((h s).1 (.head _)) with e | e
      · exact e
      · rcases List.mem_cons.1 ((h t).2 (.head _)) with e2 | e2
        · exact e2.symm
        · exact absurd (m1 s e) (ha _ _ (l1 t e2))
    subst e
    congr 1
    refine sorted_ext hr ha l2 m2 fun u => ⟨fun hu => ?_, fun hu => ?_⟩
    · rcases List.mem_cons.1 ((h u).1 (.tail _ hu)) with e | e
      · exact absurd (e ▸ l1 u hu) (hr s)
      · exact e
    · rcases List.mem_cons.1 ((h u).2 (.tail _ hu)) with e | e
      · exact absurd (e ▸ m1 u hu) (hr s)
      · exact e
/-- the sides exchanged -/
def sw (t : T3) : T3 := (t.1, t.2.2, t.2.1)
theorem trip_sw {p1 p2 : List (Nat × Nat)} (h1 : p1.Pairwise Up) (h2 : p2.Pairwise Up) : trip p2 p1 = (trip p1 p2).map sw := by
  refine sorted_ext (R := Up3) (fun s h => Nat.lt_irrefl _ h.1) (fun s t h h' => Nat.lt_asymm h.1 h'.1) (trip_up h2 h1) ?_ fun t => ?_
  · rw [List.pairwise_map]
    exact (trip_up h1 h2).imp fun {s t} h => ⟨h.1, h.2.2, h.2.1⟩
  · rw [trip_mem h1, List.mem_map]
    constructor
    · rintro ⟨k1, k2⟩
      exact ⟨sw t, (trip_mem h2).2 ⟨k2, k1⟩, rfl⟩
    · rintro ⟨s, hs, rfl⟩
      have := (trip_mem h2).1 hs
      exact ⟨this.2, this.1⟩

/-- what holds of each part: between one triple and the next -/
def Along (o a b : List ByteArray) (R : T3 → T3 → Prop) : List T3 → T3 → Prop
  | [], f => R f (o.length, a.length, b.length)
  | t :: ts, f => R f t ∧ Along o a b R ts (t.1 + 1, t.2.1 + 1, t.2.2 + 1)
theorem Along.mono {o a b : List ByteArray} {R R' : T3 → T3 → Prop} (h : ∀ f t, R f t → R' f t) : ∀ {ts : List T3} {f : T3}, Along o a b R ts f → Along o a b R' ts f
  | [], _, k => h _ _ k
  | _ :: _, _, k => ⟨h _ _ k.1, Along.mono h k.2⟩
theorem Along.and {o a b : List ByteArray} {R R' : T3 → T3 → Prop} : ∀ {ts : List T3} {f : T3}, Along o a b R ts f → Along o a b R' ts f → Along o a b (fun f t => R f t ∧ R' f t) ts f
  | [], _, k, k' => ⟨k, k'⟩
  | _ :: _, _, k, k' => ⟨⟨k.1, k'.1⟩, Along.and k.2 k'.2⟩
theorem along_both {o a b : List ByteArray} {D : T3 → Prop} (hD : ∀ t : T3, D t → D (t.1 + 1, t.2.1 + 1, t.2.2 + 1)) (he : D (o.length, a.length, b.length)) : ∀ {ts : List T3} {f : T3}, D f → (∀ t ∈ ts, D t) → Along o a b (fun f t => D f ∧ D t) ts f
  | [], _, hf, _ => ⟨hf, he⟩
  | t :: _, _, hf, h => ⟨⟨hf, h t (.head _)⟩, along_both hD he (hD t (h t (.head _))) fun s hs => h s (.tail _ hs)⟩

/-- a part that is the same in all three -/
def AllEq (o a b : List ByteArray) (f t : T3) : Prop := cut o f.1 t.1 ≠ [] ∧ cut a f.2.1 t.2.1 = cut o f.1 t.1 ∧ cut b f.2.2 t.2.2 = cut o f.1 t.1
theorem prs_head (x : ByteArray) (a b : List ByteArray) (i j : Nat) : prs i j (x :: a) (x :: b) = (i, j) :: prs (i + 1) (j + 1) a b := by
  have h0 : idx x (x :: b) = some 0 := by simp [idx]
  have h1 : 1 + L a ((x :: b).drop (0 + 1)) = L (x :: a) (x :: b) := by
    rw [L_cons, if_pos rfl]
    have := L_up_a x a b
    have := L_up_l x a b
    simp
    omega
  rw [prs_some i j a h0 h1]
  rfl
theorem prs_start (a b : List ByteArray) (i j : Nat) (s : ByteArray) (ha : a[0]? = some s) (hb : b[0]? = some s) : (i, j) ∈ prs i j a b := by
  match a, b, ha, hb with
  | x :: a, y :: b, ha, hb =>
    simp at ha hb
    subst ha hb
    rw [prs_head]
    exact .head _
theorem prs_next : ∀ (a b : List ByteArray) (i j x y : Nat) (s : ByteArray), (x, y) ∈ prs i j a b → a[x + 1 - i]? = some s → b[y + 1 - j]? = some s → (x + 1, y + 1) ∈ prs i j a b
  | [], b, i, j, x, y, s, h, _, _ => by simp [prs] at h
  | u :: a, b, i, j, x, y, s, h, ha, hb => by
    have pass : (x, y) ∈ prs (i + 1) j a b → (x + 1, y + 1) ∈ prs (i + 1) j a b := fun hp => by
      have hi := (prs_eq a b (i + 1) j _ hp).1
      refine prs_next a b (i + 1) j x y s hp ?_ hb
      rw [show x + 1 - i = (x + 1 - (i + 1)) + 1 by simp at hi; omega, List.getElem?_cons_succ] at ha
      exact ha
    cases hx : idx u b with
    | none => rw [prs_none i j a hx] at h ⊢; exact pass h
    | some k =>
      by_cases hk : 1 + L a (b.drop (k + 1)) = L (u :: a) b
      · rw [prs_some i j a hx hk] at h ⊢
        rcases List.mem_cons.1 h with h | h
        · injection h with h1 h2
          subst h1 h2
          right
          refine prs_start a _ (x + 1) (j + k + 1) s ?_ ?_
          · rw [show x + 1 - x = 0 + 1 by omega, List.getElem?_cons_succ] at ha; exact ha
          · rw [show j + k + 1 - j = k + 1 + 0 by omega] at hb; rw [List.getElem?_drop]; exact hb
        · right
          have hq := prs_eq a (b.drop (k + 1)) (i + 1) (j + k + 1) _ h
          refine prs_next a _ (i + 1) (j + k + 1) x y s h ?_ ?_
          · rw [show x + 1 - i = (x + 1 - (i + 1)) + 1 by have := hq.1; simp at this; omega, List.getElem?_cons_succ] at ha
            exact ha
          · rw [List.getElem?_drop, show k + 1 + (y + 1 - (j + k + 1)) = y + 1 - j by have := hq.2.1; simp at this; omega]
            exact hb
      · rw [prs_pass i j a hx hk] at h ⊢; exact pass h
theorem cut_head {l : List ByteArray} {i j : Nat} {s : ByteArray} {r : List ByteArray} (h : cut l i j = s :: r) : l[i]? = some s ∧ i < j := by
  unfold cut at h
  have h1 : ((l.drop i).take (j - i))[0]? = some s := by rw [h]; rfl
  rw [List.getElem?_take] at h1
  split at h1
  · rw [List.getElem?_drop] at h1
    exact ⟨by simpa using h1, by omega⟩
  · cases h1
/-- no part is the same in all three -/
theorem noAll (o a b : List ByteArray) : ∀ (ts T0 : List T3) (f : T3), trip (prs 0 0 o a) (prs 0 0 o b) = T0 ++ ts → (∀ t ∈ T0, t.1 < f.1) →
    (∀ s, o[f.1]? = some s → a[f.2.1]? = some s → (f.1, f.2.1) ∈ prs 0 0 o a) → (∀ s, o[f.1]? = some s → b[f.2.2]? = some s → (f.1, f.2.2) ∈ prs 0 0 o b) →
    Along o a b (fun f t => ¬ AllEq o a b f t) ts f := by
  have key : ∀ (vs T0 : List T3) (f t : T3), trip (prs 0 0 o a) (prs 0 0 o b) = T0 ++ vs → (∀ t ∈ T0, t.1 < f.1) →
      (∀ s, o[f.1]? = some s → a[f.2.1]? = some s → (f.1, f.2.1) ∈ prs 0 0 o a) → (∀ s, o[f.1]? = some s → b[f.2.2]? = some s → (f.1, f.2.2) ∈ prs 0 0 o b) →
      (∀ u ∈ vs, t.1 ≤ u.1) → ¬ AllEq o a b f t := by
    intro vs T0 f t hT h0 hA hB hts ⟨h1, h2, h3⟩
    rcases hc : cut o f.1 t.1 with _ | ⟨s, r⟩
    · exact h1 hc
    · rw [hc] at h2 h3
      obtain ⟨k1, k2⟩ := cut_head hc
      obtain ⟨k3, _⟩ := cut_head h2
      obtain ⟨k4, _⟩ := cut_head h3
      have hm := (trip_mem (prs_pairwise o b)).2 ⟨hA s k1 k3, hB s k1 k4⟩
      rw [hT] at hm
      rcases List.mem_append.1 hm with hm | hm
      · exact Nat.lt_irrefl _ (h0 _ hm)
      · have := hts _ hm
        omega
  intro ts
  induction ts with
  | nil => intro T0 f hT h0 hA hB; exact key [] T0 f _ hT h0 hA hB (fun u hu => by cases hu)
  | cons t ts ih =>
    intro T0 f hT h0 hA hB
    have hup := trip_up (prs_pairwise o a) (prs_pairwise o b)
    have hmem : t ∈ trip (prs 0 0 o a) (prs 0 0 o b) := by rw [hT]; simp
    rw [hT] at hup
    have hup2 := (List.pairwise_append.1 hup).2.1
    have hup3 := (List.pairwise_append.1 hup).2.2
    refine ⟨key (t :: ts) T0 f t hT h0 hA hB fun u hu => ?_, ih (T0 ++ [t]) _ (by rw [hT]; simp) (fun u hu => ?_) (fun s h1 h2 => ?_) (fun s h1 h2 => ?_)⟩
    · rcases List.mem_cons.1 hu with rfl | hu
      · exact Nat.le_refl _
      · exact Nat.le_of_lt ((List.pairwise_cons.1 hup2).1 u hu).1
    · rcases List.mem_append.1 hu with hu | hu
      · have := (hup3 u hu t (.head _)).1
        show u.1 < t.1 + 1
        omega
      · rw [List.mem_singleton] at hu
        subst hu
        exact Nat.lt_succ_self _
    · exact prs_next o a 0 0 _ _ s ((trip_mem (prs_pairwise o b)).1 hmem).1 h1 h2
    · exact prs_next o b 0 0 _ _ s ((trip_mem (prs_pairwise o b)).1 hmem).2 h1 h2

/-- a piece with the sides exchanged -/
def turnK (k : Nat) : Nat := if k = 2 then 3 else if k = 3 then 2 else k
def turnP (p : Pc) : Pc := (turnK p.1, p.2.1, p.2.2.2, p.2.2.1)
def turnS (st : St) : St := (st.1.map turnP, st.2)
theorem pieces_turn (st : St) : pieces (turnS st) = (pieces st).map turnP := by
  unfold pieces turnS
  simp only [List.map_append]
  congr 1
  split <;> simp [turnP, turnK]
theorem kind_turn {x y z : List ByteArray} (h : ¬ (y = x ∧ z = x)) : kindOf x z y = turnK (kindOf x y z) := by
  unfold kindOf turnK
  by_cases h1 : z = x
  · have h2 : ¬ y = x := fun e => h ⟨e, h1⟩
    simp [h1, h2]
  · by_cases h2 : y = x
    · simp [h1, h2]
    · by_cases h3 : y = z
      · simp [h1, h3]
      · have h4 : ¬ z = y := fun e => h3 e.symm
        simp [h1, h2, h3, h4]
theorem part_turn (o a b : List ByteArray) (f t : T3) (st : St) (h : ¬ AllEq o a b f t) : Mg.part o b a (sw f) (sw t) (turnS st) = turnS (Mg.part o a b f t st) := by
  unfold Mg.part sw
  simp only
  by_cases h0 : (cut o f.1 t.1).length + (cut a f.2.1 t.2.1).length + (cut b f.2.2 t.2.2).length = 0
  · rw [if_pos h0, if_pos (by omega)]
  · rw [if_neg h0, if_neg (by omega), pieces_turn, kind_turn]
    · simp [turnS, turnP]
    · intro ⟨h1, h2⟩
      refine h ⟨fun e => ?_, h1, h2⟩
      rw [h1, h2, e] at h0
      exact h0 rfl
theorem mgt_turn (o a b : List ByteArray) : ∀ (ts : List T3) (f : T3) (st : St), Along o a b (fun f t => ¬ AllEq o a b f t) ts f → mgt o b a (ts.map sw) (sw f) (turnS st) = (mgt o a b ts f st).map turnP
  | [], f, st, h => by
    show pieces (Mg.part o b a (sw f) (sw (o.length, a.length, b.length)) (turnS st)) = _
    rw [part_turn o a b f _ st h, pieces_turn]
    rfl
  | t :: ts, f, st, h => by
    have ih := mgt_turn o a b ts (t.1 + 1, t.2.1 + 1, t.2.2 + 1) ((Mg.part o a b f t st).1, (Mg.part o a b f t st).2 ++ [o.getD t.1 ByteArray.empty]) h.2
    rw [mgt, ← ih, List.map_cons, mgt, part_turn o a b f t st h.1]
    rfl
/-- exchanging the sides exchanges them in all pieces -/
theorem merge_turn (o a b : List ByteArray) : mergeP o b a = (mergeP o a b).map turnP := by
  unfold mergeP
  rw [mgo_mgt, mgo_mgt, trip_sw (prs_pairwise o a) (prs_pairwise o b)]
  refine mgt_turn o a b _ (0, 0, 0) ([], []) (noAll o a b _ [] _ rfl (fun t ht => by cases ht) (fun s h1 h2 => prs_start o a 0 0 s h1 h2) (fun s h1 h2 => prs_start o b 0 0 s h1 h2))
end Go.Proofs.Ytafhefhhndmdkaa
