/- Opening an argument that is a list of pieces. No condition. -/
import Derived.Test.YtafhefhhndmdkaaMgOpen0
import Derived.Test.YtafhefhhndmdkaaMgText
namespace Go.Proofs.Ytafhefhhndmdkaa
open Go.ChangeShapes Go.WideShapes Go.Deep Go.RowKit

/-- what is known of the pieces that came in -/
def BigI (ps : List PcI) : Prop := ∀ p ∈ ps, p.2.1.length ≤ 8796093022208 ∧ p.2.2.length ≤ 8796093022208 ∧ (∀ s ∈ p.2.1, s.size ≤ maxLen) ∧ ∀ s ∈ p.2.2, s.size ≤ maxLen
/-- a list of pieces that came in -/
theorem open_chunks {H : Type} {enc : TypeId × Value → H} {w : World} {base fuel : Nat} {A : Option Addr} {n c : Nat} {x : DataW H × List MemPlace} (h : DataW.trod enc Try.prog w base (fun _ => true) true fuel 24 [.slice A n c] = some x)
    (hr : ∀ n ∈ x.1.weights Try.prog 24, n ≤ reachBytes) : ∃ ps : List PcI, n = ps.length ∧ n ≤ maxLen ∧ TxtAt w w.heap.size A ps ∧ BigI ps := by
  rcases open_slice_fields Try.underlying24 Try.underlying30 (by kernel_rfl) (by kernel_rfl) h with ⟨hcs, _⟩ | ⟨a, len, cap, m, D, Pl, hcs, _, hl, hm, hmm, hx, hf⟩
  · simp only [List.cons.injEq, Value.slice.injEq, and_true] at hcs
    obtain ⟨rfl, rfl, rfl⟩ := hcs
    exact ⟨[], rfl, Nat.zero_le _, fun j x hj => by simp at hj, fun p hp => by cases hp⟩
  · simp only [List.cons.injEq, Value.slice.injEq, and_true] at hcs
    obtain ⟨rfl, rfl, rfl⟩ := hcs
    simp only [if_true] at hmm
    subst hmm
    have hrD : ∀ i, i < n → ∀ k ∈ (D i).weights Try.prog 30, k ≤ reachBytes := fun i hi k hk => by
      refine hr k ?_
      rw [hx]
      simp only [DataW.weights, Try.underlying24, List.mem_cons, List.mem_append]
      exact .inr (.inl (weightsAll_mem (List.mem_map.2 ⟨i, List.mem_range.2 hi, rfl⟩) hk))
    have each : ∀ i, i < n → ∃ p : PcI, (∃ b o A0 n0 c0 A1 c1 A2 c2, a = ⟨b, o, none⟩ ∧ b < w.heap.size ∧ w.cell? ⟨b, o + i * 4, none⟩ = some (.int .i64 p.1) ∧ w.cell? ⟨b, o + i * 4 + 1, none⟩ = some (.slice A0 n0 c0) ∧
        w.cell? ⟨b, o + i * 4 + 2, none⟩ = some (.slice A1 p.2.1.length c1) ∧ w.cell? ⟨b, o + i * 4 + 3, none⟩ = some (.slice A2 p.2.2.length c2) ∧ Strs w w.heap.size A1 c1 p.2.1 ∧ Strs w w.heap.size A2 c2 p.2.2) ∧
        p.2.1.length ≤ 8796093022208 ∧ p.2.2.length ≤ 8796093022208 ∧ (∀ s ∈ p.2.1, s.size ≤ maxLen) ∧ ∀ s ∈ p.2.2, s.size ≤ maxLen := by
      intro i hi
      obtain ⟨ys, nn, hD, _, _, hj⟩ := hf i (by omega)
      obtain ⟨ys0, nn0, _, _, _, hj0⟩ := hf 0 (by omega)
      obtain ⟨v0, y0, k0, _, t0⟩ := hj 0 _ rfl
      obtain ⟨v1, y1, k1, _, t1⟩ := hj 1 _ rfl
      obtain ⟨v2, y2, k2, g2, t2⟩ := hj 2 _ rfl
      obtain ⟨v3, y3, k3, g3, t3⟩ := hj 3 _ rfl
      obtain ⟨v00, _, k00, _, _⟩ := hj0 0 _ rfl
      obtain ⟨f, e0, _, _⟩ := DataW.trod_int Try.underlying3 t0
      obtain ⟨A0, c0, ss0, e1, _, _, _⟩ := open_strs_Strs t1
      obtain ⟨A1, c1, ss1, e2, hst1, hsz1, hr1⟩ := open_strs_Strs t2
      obtain ⟨A2, c2, ss2, e3, hst2, hsz2, hr2⟩ := open_strs_Strs t3
      simp only [List.cons.injEq, and_true] at e0
      subst e0 e1 e2 e3
      have hw := hrD i hi
      rw [hD] at hw
      simp only [DataW.weights, Try.underlying30] at hw
      have w1 := hr1 fun k hk => hw k (DataW.weights_mem_each (j := 2) (t := 28) rfl (by rw [List.getElem?_map, g2]; rfl) k hk)
      have w2 := hr2 fun k hk => hw k (DataW.weights_mem_each (j := 3) (t := 28) rfl (by rw [List.getElem?_map, g3]; rfl) k hk)
      have hc1 := hst1.1
      have hc2 := hst2.1
      unfold reachBytes at w1 w2
      obtain ⟨b, off, spot⟩ := a
      have hspot : spot = none := by simpa [Addr.add] using World.cell?_spot k00
      subst hspot
      rw [addr_add] at k0 k1 k2 k3
      exact ⟨(f, ss1, ss2), ⟨b, off, A0, _, c0, A1, c1, A2, c2, rfl, World.block_lt_of_cell? w _ k0, by simpa using k0, by simpa [Nat.add_assoc] using k1, by simpa [Nat.add_assoc] using k2, by simpa [Nat.add_assoc] using k3, hst1, hst2⟩, by show ss1.length ≤ _; omega, by show ss2.length ≤ _; omega, hsz1, hsz2⟩
    obtain ⟨F, hF⟩ : ∃ F : Nat → PcI, ∀ i, i < n → (∃ b o A0 n0 c0 A1 c1 A2 c2, a = ⟨b, o, none⟩ ∧ b < w.heap.size ∧ w.cell? ⟨b, o + i * 4, none⟩ = some (.int .i64 (F i).1) ∧ w.cell? ⟨b, o + i * 4 + 1, none⟩ = some (.slice A0 n0 c0) ∧
        w.cell? ⟨b, o + i * 4 + 2, none⟩ = some (.slice A1 (F i).2.1.length c1) ∧ w.cell? ⟨b, o + i * 4 + 3, none⟩ = some (.slice A2 (F i).2.2.length c2) ∧ Strs w w.heap.size A1 c1 (F i).2.1 ∧ Strs w w.heap.size A2 c2 (F i).2.2) ∧
        (F i).2.1.length ≤ 8796093022208 ∧ (F i).2.2.length ≤ 8796093022208 ∧ (∀ s ∈ (F i).2.1, s.size ≤ maxLen) ∧ ∀ s ∈ (F i).2.2, s.size ≤ maxLen := by
      refine ⟨fun i => if h : i < n then Classical.choose (each i h) else (0, [], []), fun i hi => ?_⟩
      simp only [dif_pos hi]
      exact Classical.choose_spec (each i hi)
    refine ⟨(List.range n).map F, by simp, Nat.le_trans hl hm, fun j x hj => ?_, fun x hx => ?_⟩
    · rw [List.getElem?_map] at hj
      obtain ⟨i, hi, rfl⟩ := Option.map_eq_some_iff.1 hj
      have hjl := (List.getElem?_eq_some_iff.1 hi).1
      simp at hjl
      rw [List.getElem?_range (by simpa using hjl)] at hi
      obtain rfl : j = i := by simpa using hi
      obtain ⟨⟨b, o, A0, n0, c0, A1, c1, A2, c2, rfl, r⟩, _⟩ := hF j hjl
      exact ⟨b, o, A0, n0, c0, A1, c1, A2, c2, rfl, r⟩
    · rw [List.mem_map] at hx
      obtain ⟨i, hi, rfl⟩ := hx
      exact (hF i (List.mem_range.1 hi)).2
end Go.Proofs.Ytafhefhhndmdkaa
