/- Opening an argument that is a list of hunks; a slice of structs of any number of one-cell fields (turned from the guide's block to copy). No condition. -/
import Derived.Test.YtafhefhhndmdkaaDoorMgApply
import Derived.Deep.Slices
import Derived.Deep.Fields
import Derived.Deep.Strs
import Derived.ChangeSame
import Derived.ProofKit
namespace Go.Proofs.YtafhefhhndmdkaaDoor
open Go.ChangeShapes Go.WideShapes Go.Deep Go.RowKit

section
variable {H : Type} {enc : TypeId × Value → H} {P : Program} {w : World} {base : Nat} {spare : Nat → Bool} {held : Bool}
theorem open_slice_fields {t e : TypeId} {fs : Array Field} {fuel : Nat} {cs : List Value} {x : DataW H × List MemPlace} (ht : P.underlying t = some (.slice e)) (he : P.underlying e = some (.struct fs))
    (hone : oneCellFields P fs = true) (hC : P.cellsOf e = fs.size) (h : DataW.trod enc P w base spare held fuel t cs = some x) :
    (cs = [.slice none 0 0] ∧ x = (.nil, [])) ∨
    ∃ (a : Addr) (len cap m : Nat) (D : Nat → DataW H) (Pl : Nat → List MemPlace), cs = [.slice (some a) len cap] ∧ base ≤ a.block ∧ len ≤ cap ∧ cap ≤ maxLen ∧ m = (if spare a.block then cap else len) ∧
      x = (.slice ((List.range len).map D) ((List.range (m - len)).map fun j => D (len + j)), MemPlace.row a (m * fs.size) ++ (List.range m).flatMap Pl) ∧
      ∀ i, i < m → ∃ (ys : List (DataW H × List MemPlace)) (n : Nat), D i = .agg (ys.map (·.1)) ∧ Pl i = ys.flatMap (·.2) ∧ ys.length = fs.size ∧
        ∀ (j : Nat) (f : Field), fs[j]? = some f → ∃ (v : Value) (y : DataW H × List MemPlace), w.cell? (a.add (i * fs.size + j)) = some v ∧ ys[j]? = some y ∧ DataW.trod enc P w base spare held n f.type [v] = some y := by
  rcases open_slice ht h with h0 | ⟨a, len, cap, m, n, D, Pl, hcs, hb, hl, hm, hmm, hx, hi⟩
  · exact .inl h0
  · refine .inr ⟨a, len, cap, m, D, Pl, hcs, hb, hl, hm, hmm, by rw [hC] at hx; exact hx, fun i him => ?_⟩
    obtain ⟨cs', hc, ht'⟩ := hi i him
    rw [hC] at hc
    obtain ⟨ys, n', hn', hy, hlen, hyl, hf⟩ := DataW.trod_struct he ht'
    obtain ⟨_, hcl, hat⟩ := World.cells?_some hc
    simp only [Prod.mk.injEq] at hy
    refine ⟨ys, n', hy.1, hy.2, hyl, fun j f hj => ?_⟩
    obtain ⟨ho, hk⟩ := hone_of hone j f hj
    have hjl : j < fs.size := (Array.getElem?_eq_some_iff.1 hj).1
    have hcell := hat j hjl
    have hv : cs'[j]? = some (cs'[j]'(by omega)) := List.getElem?_eq_getElem (by omega)
    have h1 := hf j f hj
    rw [ho, hk] at h1
    have hone' : (cs'.drop j).take 1 = [cs'[j]'(by omega)] := by
      rw [List.drop_eq_getElem_cons (by omega)]
      rfl
    rw [hone'] at h1
    have hys : ys[j]? = some (ys[j]'(by omega)) := List.getElem?_eq_getElem (by omega)
    refine ⟨_, _, ?_, hys, h1.trans hys⟩
    rw [← Go.Deep.add_add, hcell, hv]
end

theorem hunk_ty : Tryd.prog.underlying 24 = some (.slice 36) := Tryd.underlying24

/-- a slice of strings that came in -/
theorem open_strs_Strs {H : Type} {enc : TypeId × Value → H} {w : World} {base fuel : Nat} {v : Value} {x : DataW H × List MemPlace} (h : DataW.trod enc Tryd.prog w base (fun _ => true) true fuel 30 [v] = some x) :
    ∃ (A : Option Addr) (c : Nat) (ss : List ByteArray), v = .slice A ss.length c ∧ Strs w w.heap.size A c ss ∧ ∀ s ∈ ss, s.size ≤ maxLen := by
  rcases open_strs Tryd.underlying30 Tryd.underlying9 (by kernel_rfl) h with ⟨hcs, _⟩ | ⟨a, len, cap, m, Sx, hcs, _, hl, hm, hmm, _, hcell⟩
  · simp only [List.cons.injEq, and_true] at hcs
    subst hcs
    exact ⟨none, 0, [], rfl, ⟨Nat.le_refl _, fun j s hj => by simp at hj⟩, by simp⟩
  · simp only [List.cons.injEq, and_true] at hcs
    subst hcs
    simp only [if_true] at hmm
    subst hmm
    refine ⟨some a, m, (List.range len).map Sx, by simp, ⟨by simpa using hl, fun j s hj => ?_⟩, fun s hs => ?_⟩
    · rw [List.getElem?_map] at hj
      obtain ⟨i, hi, rfl⟩ := Option.map_eq_some_iff.1 hj
      have hjl := (List.getElem?_eq_some_iff.1 hi).1
      simp at hjl
      rw [List.getElem?_range (by simpa using hjl)] at hi
      obtain rfl : j = i := by simpa using hi
      obtain ⟨b, off, spot⟩ := a
      have hc := (hcell j (by omega)).1
      have hspot : spot = none := by simpa [Addr.add] using World.cell?_spot (hcell 0 (by omega)).1
      subst hspot
      rw [addr_add] at hc
      exact ⟨b, off, rfl, World.block_lt_of_cell? w _ hc, hc⟩
    · rw [List.mem_map] at hs
      obtain ⟨i, hi, rfl⟩ := hs
      exact (hcell i (by have := List.mem_range.1 hi; omega)).2

/-- a list of hunks that came in -/
theorem open_hunks {H : Type} {enc : TypeId × Value → H} {w : World} {base fuel : Nat} {A : Option Addr} {n c : Nat} {x : DataW H × List MemPlace} (h : DataW.trod enc Tryd.prog w base (fun _ => true) true fuel 24 [.slice A n c] = some x) :
    ∃ hs : List Hunk, n = hs.length ∧ n ≤ maxLen ∧ Hunks w w.heap.size A hs ∧ ∀ h ∈ hs, ∀ s ∈ h.2.2, s.size ≤ maxLen := by
  rcases open_slice_fields Tryd.underlying24 Tryd.underlying36 (by kernel_rfl) (by kernel_rfl) h with ⟨hcs, _⟩ | ⟨a, len, cap, m, D, Pl, hcs, _, hl, hm, hmm, _, hf⟩
  · simp only [List.cons.injEq, Value.slice.injEq, and_true] at hcs
    obtain ⟨rfl, rfl, rfl⟩ := hcs
    exact ⟨[], rfl, Nat.zero_le _, fun j x hj => by simp at hj, by simp⟩
  · simp only [List.cons.injEq, Value.slice.injEq, and_true] at hcs
    obtain ⟨rfl, rfl, rfl⟩ := hcs
    simp only [if_true] at hmm
    subst hmm
    have each : ∀ i, i < n → ∃ h : Hunk, (∃ b o Aj cj, a = ⟨b, o, none⟩ ∧ b < w.heap.size ∧ w.cell? ⟨b, o + i * 3, none⟩ = some (.int .i64 h.1) ∧ w.cell? ⟨b, o + i * 3 + 1, none⟩ = some (.int .i64 h.2.1) ∧
        w.cell? ⟨b, o + i * 3 + 2, none⟩ = some (.slice Aj h.2.2.length cj) ∧ Strs w w.heap.size Aj cj h.2.2) ∧ ∀ s ∈ h.2.2, s.size ≤ maxLen := by
      intro i hi
      obtain ⟨ys, nn, _, _, _, hj⟩ := hf i (by omega)
      obtain ⟨ys0, nn0, _, _, _, hj0⟩ := hf 0 (by omega)
      obtain ⟨v0, y0, k0, _, t0⟩ := hj 0 _ rfl
      obtain ⟨v1, y1, k1, _, t1⟩ := hj 1 _ rfl
      obtain ⟨v2, y2, k2, _, t2⟩ := hj 2 _ rfl
      obtain ⟨v00, _, k00, _, _⟩ := hj0 0 _ rfl
      obtain ⟨f, e0, _, _⟩ := DataW.trod_int Tryd.underlying3 t0
      obtain ⟨t, e1, _, _⟩ := DataW.trod_int Tryd.underlying3 t1
      obtain ⟨Aj, cj, ss, e2, hst, hsz⟩ := open_strs_Strs t2
      simp only [List.cons.injEq, and_true] at e0 e1
      subst e0 e1 e2
      obtain ⟨b, off, spot⟩ := a
      have hspot : spot = none := by simpa [Addr.add] using World.cell?_spot k00
      subst hspot
      rw [addr_add] at k0 k1 k2
      exact ⟨(f, t, ss), ⟨b, off, Aj, cj, rfl, World.block_lt_of_cell? w _ k0, by simpa using k0, by simpa [Nat.add_assoc] using k1, by simpa [Nat.add_assoc] using k2, hst⟩, hsz⟩
    obtain ⟨F, hF⟩ : ∃ F : Nat → Hunk, ∀ i, i < n → (∃ b o Aj cj, a = ⟨b, o, none⟩ ∧ b < w.heap.size ∧ w.cell? ⟨b, o + i * 3, none⟩ = some (.int .i64 (F i).1) ∧ w.cell? ⟨b, o + i * 3 + 1, none⟩ = some (.int .i64 (F i).2.1) ∧
        w.cell? ⟨b, o + i * 3 + 2, none⟩ = some (.slice Aj (F i).2.2.length cj) ∧ Strs w w.heap.size Aj cj (F i).2.2) ∧ ∀ s ∈ (F i).2.2, s.size ≤ maxLen := by
      refine ⟨fun i => if h : i < n then Classical.choose (each i h) else (0, 0, []), fun i hi => ?_⟩
      simp only [dif_pos hi]
      exact Classical.choose_spec (each i hi)
    refine ⟨(List.range n).map F, by simp, Nat.le_trans hl hm, fun j x hj => ?_, fun x hx => ?_⟩
    · rw [List.getElem?_map] at hj
      obtain ⟨i, hi, rfl⟩ := Option.map_eq_some_iff.1 hj
      have hjl := (List.getElem?_eq_some_iff.1 hi).1
      simp at hjl
      rw [List.getElem?_range (by simpa using hjl)] at hi
      obtain rfl : j = i := by simpa using hi
      obtain ⟨⟨b, o, Aj, cj, rfl, r⟩, _⟩ := hF j hjl
      exact ⟨b, o, Aj, cj, rfl, r⟩
    · rw [List.mem_map] at hx
      obtain ⟨i, hi, rfl⟩ := hx
      exact (hF i (List.mem_range.1 hi)).2
end Go.Proofs.YtafhefhhndmdkaaDoor
