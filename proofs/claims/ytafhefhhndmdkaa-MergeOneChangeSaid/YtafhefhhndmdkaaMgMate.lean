/- The map of partners: what a map filled from a list of pairs holds; and merge.texts of three texts. Texts of at most a million bytes and 400 lines. -/
import Derived.Test.YtafhefhhndmdkaaMgTexts2
import Derived.Test.YtafhefhhndmdkaaMgPartMath
import Derived.Test.YtafhefhhndmdkaaMgScript
import Derived.Maps.OwnSet
namespace Go.Proofs.Ytafhefhhndmdkaa
open Go.RowKit Mg

/-- the datum of a map filled from pairs -/
def pmap (ps : List (Nat × Nat)) : DataW Unit := ps.foldl (fun m p => m.put (.int .i64 p.1) (.lit (.int .i64 p.2))) (.map [])
theorem pmap_snoc (ps : List (Nat × Nat)) (p : Nat × Nat) : pmap (ps ++ [p]) = (pmap ps).put (.int .i64 p.1) (.lit (.int .i64 p.2)) := by simp [pmap, List.foldl_append]
theorem isMap_fold : ∀ (ps : List (Nat × Nat)) (m : DataW Unit), Maps.IsMap m → Maps.IsMap (ps.foldl (fun m p => m.put (.int .i64 p.1) (.lit (.int .i64 p.2))) m)
  | [], _, h => h
  | _ :: ps, _, h => isMap_fold ps _ (h.put _ _)
theorem pmap_isMap (ps : List (Nat × Nat)) : Maps.IsMap (pmap ps) := isMap_fold ps _ Maps.isMap_empty
theorem mate_snoc (ps : List (Nat × Nat)) (p : Nat × Nat) (k : Nat) : mate (ps ++ [p]) k = if p.1 = k then some p.2 else mate ps k := by
  unfold mate
  rw [List.reverse_append, List.reverse_singleton, List.singleton_append, List.find?_cons]
  by_cases h : p.1 = k
  · simp [h]
  · have h2 : (p.1 == k) = false := by simpa using h
    rw [h2, if_neg h]

/-- what the map says of a key -/
theorem pmap_at (k : Nat) : ∀ (n : Nat) (ps : List (Nat × Nat)), ps.length = n → Maps.has (pmap ps) (.int .i64 k) = (mate ps k).isSome ∧ ∀ z, mate ps k = some z → ∀ d, (pmap ps).atKey (.int .i64 k) d = .lit (.int .i64 z)
  | 0, ps, h => by
    obtain rfl := List.eq_nil_of_length_eq_zero h
    exact ⟨rfl, fun z hz => by simp [mate] at hz⟩
  | n + 1, ps, h => by
    rcases List.eq_nil_or_concat ps with rfl | ⟨qs, p, rfl⟩
    · simp at h
    rw [List.concat_eq_append] at *
    have ih := pmap_at k n qs (by simpa using h)
    rw [pmap_snoc, mate_snoc]
    by_cases hk : p.1 = k
    · subst hk
      rw [if_pos rfl]
      refine ⟨Maps.has_put_same (pmap_isMap qs) (k := .int .i64 p.1) (by simp [WideAt.IsKeyLit]) _, fun z hz d => ?_⟩
      rw [Maps.atKey_put_same (pmap_isMap qs) (k := .int .i64 p.1) (by simp [WideAt.IsKeyLit])]
      injection hz with hz
      rw [hz]
    · have hne : (Lit.int .i64 (k : Int)) ≠ Lit.int .i64 (p.1 : Int) := fun e => hk (by injection e with _ e; omega)
      rw [if_neg hk]
      exact ⟨(Maps.has_put_other hne _).trans ih.1, fun z hz d => (Maps.atKey_put_other hne _ d).trans (ih.2 z hz d)⟩

theorem asc_bound {na nb : Nat} : ∀ (ps : List (Nat × Nat)) (i k : Nat), Asc na nb i k (ps ++ [(na, nb)]) → i ≤ na ∧ k ≤ nb ∧ ∀ p ∈ ps, p.1 < na ∧ p.2 < nb
  | [], _, _, h => ⟨h.1, h.2.1, fun _ hp => by simp at hp⟩
  | q :: ps, _, _, h => by
    obtain ⟨h1, h2, h3⟩ := asc_bound ps _ _ h.2.2.2.2
    have g1 := h.1
    have g2 := h.2.1
    refine ⟨by omega, by omega, fun p hp => ?_⟩
    rcases List.mem_cons.1 hp with rfl | hp
    · omega
    · exact h3 p hp
theorem prs_bound (a b : List ByteArray) : ∀ p ∈ prs 0 0 a b, p.1 < a.length ∧ p.2 < b.length := (asc_bound _ _ _ (prs_asc a b 0 0 _ _ (Nat.zero_add _) (Nat.zero_add _))).2.2

theorem texts3_any (a b d : ByteArray) (A : Option Addr) (c : Nat) (w : World) (hr : Reads w w.heap.size 1 A 3 [.string a, .string b, .string d]) (ha : a.size ≤ 1000000) (hb : b.size ≤ 1000000) (hd : d.size ≤ 1000000)
    (hla : (linesOf a).length ≤ 400) (hlb : (linesOf b).length ≤ 400) (hld : (linesOf d).length ≤ 400) :
    Calls Try.prog 24 #[.slice A 3 c] w fun e w' => ∃ gl cap A0 c0 A1 c1 A2 c2, e = .returned (.tuple #[.slice (some ⟨gl, 0, none⟩) 3 cap, .bool true]) ∧ gl < w'.heap.size ∧ w.heap.size ≤ gl ∧ 3 ≤ cap ∧
      w'.cell? ⟨gl, 0, none⟩ = some (.slice A0 (linesOf a).length c0) ∧ w'.cell? ⟨gl, 1, none⟩ = some (.slice A1 (linesOf b).length c1) ∧ w'.cell? ⟨gl, 2, none⟩ = some (.slice A2 (linesOf d).length c2) ∧
      Strs w' w'.heap.size A0 c0 (linesOf a) ∧ Strs w' w'.heap.size A1 c1 (linesOf b) ∧ Strs w' w'.heap.size A2 c2 (linesOf d) ∧ Below w.heap.size w w' := by
  refine (texts_any A c [a, b, d] w hr (by simp) (by simp [ha, hb, hd]) (by simp [hla, hlb, hld])).mono fun e w' h => ?_
  obtain ⟨v, us, rfl, hown, hol, hbel⟩ := h
  obtain ⟨g, cap, rfl, hlt⟩ : ∃ g cap, v = .slice (some ⟨g, 0, none⟩) 3 cap ∧ w.heap.size ≤ g ∧ g < w'.heap.size ∧ 3 ≤ cap := by
    rcases hown.2 with ⟨_, h0⟩ | ⟨g, cap, cur, rfl, h1, hh, h2, _⟩
    · simp at h0
    · exact ⟨g, cap, rfl, h1, (hown.lt g rfl).2, h2⟩
  match us, hol.1 with
  | [u0, u1, u2], _ =>
    obtain ⟨A0, c0, rfl, s0⟩ := Strs.of_own (hol.2 0 u0 a rfl rfl)
    obtain ⟨A1, c1, rfl, s1⟩ := Strs.of_own (hol.2 1 u1 b rfl rfl)
    obtain ⟨A2, c2, rfl, s2⟩ := Strs.of_own (hol.2 2 u2 d rfl rfl)
    have get : ∀ (j : Nat) (u : Value), [Value.slice A0 (linesOf a).length c0, Value.slice A1 (linesOf b).length c1, Value.slice A2 (linesOf d).length c2][j]? = some u → w'.cell? ⟨g, j, none⟩ = some u := fun j u hj => by
      have := hown.cells (g := g) rfl j u hj
      rwa [addr_add, Nat.zero_add] at this
    exact ⟨g, cap, A0, c0, A1, c1, A2, c2, rfl, hlt.2.1, hlt.1, hlt.2.2, get 0 _ rfl, get 1 _ rfl, get 2 _ rfl, s0, s1, s2, hbel⟩
end Go.Proofs.Ytafhefhhndmdkaa
