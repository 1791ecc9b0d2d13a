/- The table of stockyardref16.Pairs as memory: a row of rows, made from the last one on. No condition. -/
import Derived.Test.YtafhefhhndmdkaaDoorMgTab
namespace Go.Proofs.YtafhefhhndmdkaaDoor
open Go.RowKit Mg

/-- block T is a row of na + 1 rows of M numbers each, of which those behind i are made -/
structure PT (w wr : World) (na M : Nat) (i : Int) (v : Nat → Nat → Nat) : Prop where
  top : ∃ cs, Blk wr w.heap.size 83 cs ∧ cs.size = na + 1 ∧ ∀ r, r ≤ na → i < (r : Int) → cs[r]? = some (.slice (some ⟨w.heap.size + 1 + (na - r), 0, none⟩) M M)
  rows : ∀ r, r ≤ na → i < (r : Int) → ∃ cs, Blk wr (w.heap.size + 1 + (na - r)) 3 cs ∧ cs.size = M ∧ ∀ c, c < M → cs[c]? = some (.int .i64 (v r c))
  below : Below w.heap.size w wr
  heap : (wr.heap.size : Int) = w.heap.size + 1 + ((na : Int) - i)

section
variable {w wr : World} {na M : Nat} {i : Int} {v v' : Nat → Nat → Nat}
theorem PT.drewN (h : PT w wr na M i v) (n : Nat) : PT w (wr.drewN n) na M i v := ⟨h.top, h.rows, ⟨h.below.os, h.below.tape, h.below.output, h.below.size, h.below.block⟩, h.heap⟩
theorem PT.drew (h : PT w wr na M i v) : PT w wr.drew na M i v := ⟨h.top, h.rows, ⟨h.below.os, h.below.tape, h.below.output, h.below.size, h.below.block⟩, h.heap⟩
theorem PT.congr (h : PT w wr na M i v) (ho : ∀ r c, r ≤ na → c < M → i < (r : Int) → v' r c = v r c) : PT w wr na M i v' :=
  ⟨h.top, fun r hr hi => by obtain ⟨cs, h1, h2, h3⟩ := h.rows r hr hi; exact ⟨cs, h1, h2, fun c hc => by rw [h3 c hc, ho r c hr hc hi]⟩, h.below, h.heap⟩
theorem PT.slot (h : PT w wr na M i v) {r : Nat} (hr : r ≤ na) (hi : i < (r : Int)) : wr.cell? ⟨w.heap.size, r, none⟩ = some (.slice (some ⟨w.heap.size + 1 + (na - r), 0, none⟩) M M) := by
  obtain ⟨cs, h1, _, h3⟩ := h.top
  rw [h1.cell]; exact h3 r hr hi
theorem PT.slotf (h : PT w wr na M i v) (k : Nat) : wr.frozen? ⟨w.heap.size, k, none⟩ = false := by
  obtain ⟨cs, h1, _, h3⟩ := h.top
  exact h1.frozen k
theorem PT.slot0 (h : PT w wr na M i v) {r : Nat} (hr : r ≤ na) : ∃ u, wr.cell? ⟨w.heap.size, r, none⟩ = some u := by
  obtain ⟨cs, h1, h2, h3⟩ := h.top
  rw [h1.cell]; exact ⟨_, Array.getElem?_eq_getElem (by omega)⟩
theorem PT.cell (h : PT w wr na M i v) {r c : Nat} (hr : r ≤ na) (hi : i < (r : Int)) (hc : c < M) : wr.cell? ⟨w.heap.size + 1 + (na - r), c, none⟩ = some (.int .i64 (v r c)) := by
  obtain ⟨cs, h1, _, h3⟩ := h.rows r hr hi
  rw [h1.cell]; exact h3 c hc
theorem PT.cellf (h : PT w wr na M i v) {r : Nat} (hr : r ≤ na) (hi : i < (r : Int)) (c : Nat) : wr.frozen? ⟨w.heap.size + 1 + (na - r), c, none⟩ = false := by
  obtain ⟨cs, h1, _, h3⟩ := h.rows r hr hi
  exact h1.frozen c
theorem PT.set (h : PT w wr na M i v) {r c : Nat} (hr : r ≤ na) (hi : i < (r : Int)) (hc : c < M) (x : Nat) (hx : v' r c = x) (ho : ∀ r' c', r' ≤ na → c' < M → r' ≠ r ∨ c' ≠ c → v' r' c' = v r' c') :
    PT w (wr.setCell ⟨w.heap.size + 1 + (na - r), c, none⟩ (.int .i64 x)) na M i v' := by
  refine ⟨?_, fun r' hr' hi' => ?_, h.below.setCell (by simp; omega) _, by simpa using h.heap⟩
  · obtain ⟨cs, h1, h2⟩ := h.top
    exact ⟨cs, h1.far (p := ⟨_, c, none⟩) (by simp; omega) _, h2⟩
  · obtain ⟨cs, h1, h2, h3⟩ := h.rows r' hr' hi'
    by_cases he : r' = r
    · subst he
      refine ⟨_, h1.set_ _ _, by simpa using h2, fun c' hc' => ?_⟩
      rw [Array.getElem?_setIfInBounds]
      by_cases hcc : c = c'
      · subst hcc
        rw [if_pos rfl, if_pos (by omega), hx]
      · rw [if_neg hcc, h3 c' hc', ho r' c' hr' hc' (.inr (by omega))]
    · exact ⟨cs, h1.far (p := ⟨_, c, none⟩) (by simp; omega) _, h2, fun c' hc' => by rw [h3 c' hc', ho r' c' hr' hc' (.inl he)]⟩
/-- the next row is made and laid -/
theorem PT.next {k : Nat} (h : PT w wr na M k v) (hk : k ≤ na) (hM : ∀ c, c < M → v k c = 0) (hw : w.heap.size < wr.heap.size) :
    PT w ((wr.setCell ⟨w.heap.size, k, none⟩ (.slice (some ⟨wr.heap.size, 0, none⟩) M M)).alloc (.cells (madeCells #[.int .i64 0] M) 3)) na M ((k : Int) - 1) v := by
  have hz : wr.heap.size = w.heap.size + 1 + (na - k) := by have := h.heap; omega
  have hnew := Blk.new (wr.setCell ⟨w.heap.size, k, none⟩ (.slice (some ⟨wr.heap.size, 0, none⟩) M M)) 3 (madeCells #[.int .i64 0] M)
  rw [show (wr.setCell ⟨w.heap.size, k, none⟩ (.slice (some ⟨wr.heap.size, 0, none⟩) M M)).heap.size = wr.heap.size by simp] at hnew
  refine ⟨?_, fun r hr hi => ?_, (h.below.setCell (by simp) _).alloc (by simp; omega) _, by have := h.heap; simp; omega⟩
  · obtain ⟨cs, h1, h2, h3⟩ := h.top
    refine ⟨_, (h1.set_ _ _).alloc _, by simpa using h2, fun r hr hi => ?_⟩
    rw [Array.getElem?_setIfInBounds]
    by_cases he : k = r
    · subst he
      rw [if_pos rfl, if_pos (by omega), hz]
    · rw [if_neg he]; exact h3 r hr (by omega)
  · by_cases he : r = k
    · subst he
      rw [← hz]
      refine ⟨_, hnew, by rw [size_madeCells], fun c hc => ?_⟩
      rw [hM c hc]
      simp [madeCells, hc, Nat.mod_one]
    · obtain ⟨cs, h1, h2⟩ := h.rows r hr (by omega)
      exact ⟨cs, (h1.far (p := ⟨_, k, none⟩) (by simp; omega) _).alloc _, h2⟩
end

theorem pt_start (w : World) (na N M : Nat) (hN : N = na + 1) (v : Nat → Nat → Nat) :
    PT w (w.alloc (.cells (madeCells #[.slice none 0 0] N) 83)) na M na v := by
  refine ⟨⟨_, Blk.new w _ _, by rw [size_madeCells, hN], fun r hr hi => by omega⟩, fun r hr hi => by omega, (Below.refl _ _).alloc (Nat.le_refl _) _, by simp⟩
/-- the finished table: kept under what comes later -/
structure PF (T : Nat) (wr : World) (na M : Nat) (v : Nat → Nat → Nat) : Prop where
  top : ∃ cs, Blk wr T 83 cs ∧ ∀ r, r ≤ na → cs[r]? = some (.slice (some ⟨T + 1 + (na - r), 0, none⟩) M M)
  rows : ∀ r, r ≤ na → ∃ cs, Blk wr (T + 1 + (na - r)) 3 cs ∧ ∀ c, c < M → cs[c]? = some (.int .i64 (v r c))
theorem PT.pf {w wr : World} {na M : Nat} {v : Nat → Nat → Nat} (h : PT w wr na M (-1) v) : PF w.heap.size wr na M v := by
  obtain ⟨cs, h1, _, h3⟩ := h.top
  exact ⟨⟨cs, h1, fun r hr => h3 r hr (by omega)⟩, fun r hr => by obtain ⟨cs, h1, _, h3⟩ := h.rows r hr (by omega); exact ⟨cs, h1, h3⟩⟩
section
variable {T : Nat} {wr w' : World} {na M : Nat} {v : Nat → Nat → Nat}
theorem PF.drewN (h : PF T wr na M v) (n : Nat) : PF T (wr.drewN n) na M v := ⟨h.top, h.rows⟩
theorem PF.alloc (h : PF T wr na M v) (o : Obj) : PF T (wr.alloc o) na M v := by
  obtain ⟨cs, h1, h2⟩ := h.top
  exact ⟨⟨cs, h1.alloc o, h2⟩, fun r hr => by obtain ⟨cs, h1, h2⟩ := h.rows r hr; exact ⟨cs, h1.alloc o, h2⟩⟩
theorem PF.slot (h : PF T wr na M v) {r : Nat} (hr : r ≤ na) : wr.cell? ⟨T, r, none⟩ = some (.slice (some ⟨T + 1 + (na - r), 0, none⟩) M M) := by
  obtain ⟨cs, h1, h2⟩ := h.top
  rw [h1.cell]; exact h2 r hr
theorem PF.cell (h : PF T wr na M v) {r c : Nat} (hr : r ≤ na) (hc : c < M) : wr.cell? ⟨T + 1 + (na - r), c, none⟩ = some (.int .i64 (v r c)) := by
  obtain ⟨cs, h1, h2⟩ := h.rows r hr
  rw [h1.cell]; exact h2 c hc
theorem PF.grown (h : PF T wr na M v) {b : Nat} {e : TypeId} {size n : Nat} {u : Value} {xs : List Value} (ho : wr.ownsRow b e size u n xs) (he : e ≠ 83) (he2 : e ≠ 3) (hg : wr.grownBy w' u.ownBlock) : PF T w' na M v := by
  obtain ⟨cs, h1, h2⟩ := h.top
  exact ⟨⟨cs, h1.grown hg (fun e => own_blk_ne ho h1 he e.symm), h2⟩, fun r hr => by obtain ⟨cs, h1, h2⟩ := h.rows r hr; exact ⟨cs, h1.grown hg (fun e => own_blk_ne ho h1 he2 e.symm), h2⟩⟩
end
end Go.Proofs.YtafhefhhndmdkaaDoor
