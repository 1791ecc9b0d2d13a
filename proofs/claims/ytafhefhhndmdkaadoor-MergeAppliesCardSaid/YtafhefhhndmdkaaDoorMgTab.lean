/- The table of merge.common as memory: a block of na + 1 rows of nb + 1 numbers. No condition. -/
import Derived.Test.YtafhefhhndmdkaaDoorMgWords2
import Derived.Test.YtafhefhhndmdkaaDoorMgMath
import Derived.Lib.Strings
namespace Go.Proofs.YtafhefhhndmdkaaDoor
open Go.RowKit

/-- block g is a table of na + 1 rows of W numbers -/
def Tab (w : World) (g na W : Nat) (v : Nat → Nat → Nat) : Prop :=
  ∃ cs, Blk w g 3 cs ∧ cs.size = (na + 1) * W ∧ ∀ r c, r ≤ na → c < W → cs[r * W + c]? = some (.int .i64 (v r c))

theorem tab_place {r c r' c' W : Nat} (hc : c < W) (hc' : c' < W) (h : r * W + c = r' * W + c') : r = r' ∧ c = c' := by
  have h1 : (r * W + c) / W = r := by rw [Nat.mul_comm, Nat.mul_add_div (by omega), Nat.div_eq_of_lt hc]; rfl
  have h2 : (r' * W + c') / W = r' := by rw [Nat.mul_comm, Nat.mul_add_div (by omega), Nat.div_eq_of_lt hc']; rfl
  rw [h] at h1
  have : r = r' := by omega
  subst this
  exact ⟨rfl, by omega⟩
theorem Tab.cell {w : World} {g na W : Nat} {v : Nat → Nat → Nat} (h : Tab w g na W v) {r c : Nat} (hr : r ≤ na) (hc : c < W) : w.cell? ⟨g, r * W + c, none⟩ = some (.int .i64 (v r c)) := by
  obtain ⟨cs, h1, _, h2⟩ := h
  rw [h1.cell]; exact h2 r c hr hc
theorem Tab.frozen {w : World} {g na W : Nat} {v : Nat → Nat → Nat} (h : Tab w g na W v) (i : Nat) : w.frozen? ⟨g, i, none⟩ = false := by
  obtain ⟨cs, h1, _⟩ := h
  exact h1.frozen i
theorem Tab.set {w : World} {g na W : Nat} {v v' : Nat → Nat → Nat} (h : Tab w g na W v) {r c : Nat} (hr : r ≤ na) (hc : c < W) (x : Nat) (hx : v' r c = x) (ho : ∀ r' c', r' ≤ na → c' < W → r' ≠ r ∨ c' ≠ c → v' r' c' = v r' c') :
    Tab (w.setCell ⟨g, r * W + c, none⟩ (.int .i64 x)) g na W v' := by
  obtain ⟨cs, h1, h2, h3⟩ := h
  refine ⟨_, h1.set_ _ _, by simpa using h2, fun r' c' hr' hc' => ?_⟩
  rw [Array.getElem?_setIfInBounds]
  by_cases he : r * W + c = r' * W + c'
  · obtain ⟨rfl, rfl⟩ := tab_place hc hc' he
    have hlt : r * W + c < cs.size := (Array.getElem?_eq_some_iff.1 (h3 r c hr hc)).1
    rw [if_pos rfl, if_pos hlt, hx]
  · rw [if_neg he, h3 r' c' hr' hc', ho r' c' hr' hc']
    by_cases e1 : r' = r
    · right; rintro rfl; exact he (by rw [e1])
    · exact .inl e1
theorem Tab.congr {w : World} {g na W : Nat} {v v' : Nat → Nat → Nat} (h : Tab w g na W v) (ho : ∀ r c, r ≤ na → c < W → v' r c = v r c) : Tab w g na W v' := by
  obtain ⟨cs, h1, h2, h3⟩ := h
  exact ⟨cs, h1, h2, fun r c hr hc => by rw [h3 r c hr hc, ho r c hr hc]⟩
theorem Tab.drewN {w : World} {g na W : Nat} {v : Nat → Nat → Nat} (h : Tab w g na W v) (n : Nat) : Tab (w.drewN n) g na W v := h
theorem Tab.drew {w : World} {g na W : Nat} {v : Nat → Nat → Nat} (h : Tab w g na W v) : Tab w.drew g na W v := h
theorem Tab.alloc {w : World} {g na W : Nat} {v : Nat → Nat → Nat} (h : Tab w g na W v) (o : Obj) : Tab (w.alloc o) g na W v := by
  obtain ⟨cs, h1, h2⟩ := h
  exact ⟨cs, h1.alloc o, h2⟩
theorem Tab.below {w w' : World} {g na W B : Nat} {v : Nat → Nat → Nat} (h : Tab w g na W v) (hb : Below B w w') (hg : g < B) : Tab w' g na W v := by
  obtain ⟨cs, h1, h2⟩ := h
  exact ⟨cs, h1.below hb hg, h2⟩

/-- the table's numbers when all behind (i, j) is filled -/
def val (a b : List ByteArray) (i j : Int) (r c : Nat) : Nat := if i < (r : Int) ∨ i = (r : Int) ∧ j < (c : Int) then Mg.L (a.drop r) (b.drop c) else 0

theorem val_edge (a b : List ByteArray) (k : Int) (r c : Nat) (hc : c < b.length + 1) : val a b k ((b.length : Int) - 1) r c = val a b k b.length r c := by
  unfold val
  by_cases h1 : k < (r : Int)
  · simp [h1]
  · by_cases h2 : k = (r : Int)
    · by_cases h4 : (b.length : Int) - 1 < (c : Int)
      · have hz : Mg.L (a.drop r) (b.drop c) = 0 := by rw [List.drop_eq_nil_of_le (show b.length ≤ c by omega), Mg.L_nil']
        simp [hz]
      · rw [if_neg (by omega), if_neg (by omega)]
    · rw [if_neg (by omega), if_neg (by omega)]
theorem val_next (a b : List ByteArray) (k : Nat) (r c : Nat) : val a b k (-1) r c = val a b ((k : Int) - 1) b.length r c ∨ ¬ c < b.length + 1 := by
  by_cases hc : c < b.length + 1
  · left
    unfold val
    by_cases h1 : (k : Int) ≤ (r : Int)
    · rw [if_pos (by omega), if_pos (by omega)]
    · rw [if_neg (by omega), if_neg (by omega)]
  · exact .inr hc
theorem val_hit (a b : List ByteArray) (k : Nat) (j : Int) (c : Nat) (h : j < (c : Int)) : val a b k j k c = Mg.L (a.drop k) (b.drop c) := by
  unfold val; rw [if_pos (.inr ⟨rfl, h⟩)]
theorem val_below (a b : List ByteArray) (k : Nat) (j : Int) (c : Nat) : val a b k j (k + 1) c = Mg.L (a.drop (k + 1)) (b.drop c) := by
  unfold val; rw [if_pos (by omega)]
theorem val_other (a b : List ByteArray) (k c : Nat) (r' c' : Nat) (h : r' ≠ k ∨ c' ≠ c) : val a b k ((c : Int) - 1) r' c' = val a b k c r' c' := by
  unfold val
  by_cases h1 : (k : Int) < (r' : Int) ∨ (k : Int) = (r' : Int) ∧ (c : Int) < (c' : Int)
  · rw [if_pos (by omega), if_pos h1]
  · rw [if_neg (by omega), if_neg h1]
theorem L_step (a b : List ByteArray) {k c : Nat} (hk : k < a.length) (hc : c < b.length) : Mg.L (a.drop k) (b.drop c) = max (max (Mg.L (a.drop k) (b.drop (c + 1))) (Mg.L (a.drop (k + 1)) (b.drop c))) (if a[k] = b[c] then 1 + Mg.L (a.drop (k + 1)) (b.drop (c + 1)) else 0) := by
  rw [List.drop_eq_getElem_cons hk, List.drop_eq_getElem_cons hc, Mg.L_cons]
theorem bytes_eq {s t : ByteArray} (h : s.toList = t.toList) : s = t := by
  rw [Lib.toList_data, Lib.toList_data] at h
  cases s; cases t
  exact congrArg ByteArray.mk (Array.toList_inj.1 h)
theorem eq_yes {s t : ByteArray} (h : s = t) : (s.toList == t.toList) = true := by subst h; simp
theorem eq_no {s t : ByteArray} (h : ¬ s = t) : (s.toList == t.toList) = false := by
  rw [beq_eq_false_iff_ne]; exact fun e => h (bytes_eq e)
/-- the memory of merge.common: the width, the table, the variable that holds it -/
structure CMem (w wr : World) (na nb N : Nat) (v : Nat → Nat → Nat) : Prop where
  size : N = (na + 1) * (nb + 1)
  tab : Tab wr (w.heap.size + 1) na (nb + 1) v
  wid : Blk wr w.heap.size 3 #[.int .i64 ((nb : Int) + 1)]
  tb : Blk wr (w.heap.size + 1 + 1) 83 #[.slice (some ⟨w.heap.size + 1, 0, none⟩) N N]
  below : Below w.heap.size w wr
  top : w.heap.size + 1 + 1 < wr.heap.size

section
variable {w wr : World} {na nb N : Nat} {v v' : Nat → Nat → Nat}
theorem CMem.drewN (h : CMem w wr na nb N v) (n : Nat) : CMem w (wr.drewN n) na nb N v := ⟨h.size, h.tab, h.wid, h.tb, ⟨h.below.os, h.below.tape, h.below.output, h.below.size, h.below.block⟩, h.top⟩
theorem CMem.drew (h : CMem w wr na nb N v) : CMem w wr.drew na nb N v := ⟨h.size, h.tab, h.wid, h.tb, ⟨h.below.os, h.below.tape, h.below.output, h.below.size, h.below.block⟩, h.top⟩
theorem CMem.alloc (h : CMem w wr na nb N v) (o : Obj) : CMem w (wr.alloc o) na nb N v :=
  ⟨h.size, h.tab.alloc o, h.wid.alloc o, h.tb.alloc o, h.below.alloc h.below.size o, by have := h.top; simp; omega⟩
theorem CMem.grown {w' : World} {e : TypeId} {size n : Nat} {u : Value} {xs : List Value} (h : CMem w wr na nb N v) (hown : wr.ownsRow w.heap.size e size u n xs) (h1 : e ≠ 3) (h2 : e ≠ 83) (hg : wr.grownBy w' u.ownBlock) : CMem w w' na nb N v := by
  refine ⟨h.size, ?_, h.wid.grown hg (fun e' => own_blk_ne hown h.wid h1 e'.symm), h.tb.grown hg (fun e' => own_blk_ne hown h.tb h2 e'.symm), h.below.grown hg h.below.size (fun g hg' => (hown.lt g hg').1), Nat.lt_of_lt_of_le h.top hg.size⟩
  obtain ⟨cs, hb, h3⟩ := h.tab
  exact ⟨cs, hb.grown hg (fun e' => own_blk_ne hown hb h1 e'.symm), h3⟩
theorem CMem.congr (h : CMem w wr na nb N v) (ho : ∀ r c, r ≤ na → c < nb + 1 → v' r c = v r c) : CMem w wr na nb N v' := ⟨h.size, h.tab.congr ho, h.wid, h.tb, h.below, h.top⟩
theorem CMem.set (h : CMem w wr na nb N v) {r c p : Nat} (hr : r ≤ na) (hc : c < nb + 1) (hp : p = r * (nb + 1)) (x : Nat) (hx : v' r c = x) (ho : ∀ r' c', r' ≤ na → c' < nb + 1 → r' ≠ r ∨ c' ≠ c → v' r' c' = v r' c') :
    CMem w (wr.setCell ⟨w.heap.size + 1, p + c, none⟩ (.int .i64 x)) na nb N v' := by
  subst hp
  exact ⟨h.size, h.tab.set hr hc x hx ho, h.wid.far (p := ⟨w.heap.size + 1, _, none⟩) (by simp) _, h.tb.far (p := ⟨w.heap.size + 1, _, none⟩) (by simp) _, h.below.setCell (by simp) _, by simpa using h.top⟩
theorem CMem.cell (h : CMem w wr na nb N v) {r c p : Nat} (hr : r ≤ na) (hc : c < nb + 1) (hp : p = r * (nb + 1)) : wr.cell? ⟨w.heap.size + 1, p + c, none⟩ = some (.int .i64 (v r c)) := by
  subst hp; exact h.tab.cell hr hc
end

theorem cmem_start (w : World) (a b : List ByteArray) (N : Nat) (hN : N = (a.length + 1) * (b.length + 1)) :
    CMem w (((w.alloc (.cells #[.int .i64 ((b.length : Int) + 1)] 3)).alloc (.cells (madeCells #[.int .i64 0] N) 3)).alloc (.cells #[.slice (some ⟨w.heap.size + 1, 0, none⟩) N N] 83)) a.length b.length N (val a b ((a.length : Int) - 1) b.length) := by
  refine ⟨hN, ?_, ?_, ?_, ?_, ?_⟩
  · refine ⟨madeCells #[.int .i64 0] N, ?_, ?_, ?_⟩
    · have h := Blk.new (w.alloc (.cells #[.int .i64 ((b.length : Int) + 1)] 3)) 3 (madeCells #[.int .i64 0] N)
      have h2 := h.alloc (.cells #[.slice (some ⟨w.heap.size + 1, 0, none⟩) N N] 83)
      simpa using h2
    · rw [size_madeCells, hN]
    · intro r c hr hc
      have h1 : r * (b.length + 1) + c < N := by
        have : (r + 1) * (b.length + 1) ≤ (a.length + 1) * (b.length + 1) := Nat.mul_le_mul_right _ (by omega)
        rw [Nat.succ_mul] at this
        omega
      have h2 : val a b ((a.length : Int) - 1) b.length r c = 0 := by
        unfold val
        split
        · rw [List.drop_eq_nil_of_le (show a.length ≤ r by omega), Mg.L_nil]
        · rfl
      rw [h2]
      simp [madeCells, h1, Nat.mod_one]
  · exact ((Blk.new w _ _).alloc _).alloc _
  · have h := Blk.new ((w.alloc (.cells #[.int .i64 ((b.length : Int) + 1)] 3)).alloc (.cells (madeCells #[.int .i64 0] N) 3)) 83 #[.slice (some ⟨w.heap.size + 1, 0, none⟩) N N]
    simpa using h
  · exact (((Below.refl _ _).alloc (Nat.le_refl _) _).alloc (by simp) _).alloc (by simp; omega) _
  · simp
end Go.Proofs.YtafhefhhndmdkaaDoor
