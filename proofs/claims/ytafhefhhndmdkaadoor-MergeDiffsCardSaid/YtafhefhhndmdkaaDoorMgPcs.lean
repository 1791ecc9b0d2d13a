/- Pieces in memory: their lists of lines in rows of the call's own, below a bound. No condition. -/
import Derived.Test.YtafhefhhndmdkaaDoorMgPart
import Derived.Maps.OwnSet
namespace Go.Proofs.YtafhefhhndmdkaaDoor
open Go.RowKit Mg

/-- the cells of pieces, whose lists are the slices us -/
def pccells : List Pc → List (Value × Value × Value) → List Value
  | p :: ps, u :: us => [.int .i64 p.1, u.1, u.2.1, u.2.2] ++ pccells ps us
  | _, _ => []
theorem pccells_snoc : ∀ (ps : List Pc) (us : List (Value × Value × Value)) (p : Pc) (u : Value × Value × Value), us.length = ps.length → pccells (ps ++ [p]) (us ++ [u]) = pccells ps us ++ [.int .i64 p.1, u.1, u.2.1, u.2.2]
  | [], [], _, _, _ => rfl
  | [], _ :: _, _, _, e => by simp at e
  | _ :: _, [], _, _, e => by simp at e
  | x :: ps, y :: us, p, u, e => by
    have := pccells_snoc ps us p u (by simpa using e)
    simp only [List.cons_append, pccells, this, List.nil_append]
theorem pccells_len : ∀ (ps : List Pc) (us : List (Value × Value × Value)), us.length = ps.length → (pccells ps us).length = ps.length * 4
  | [], [], _ => rfl
  | [], _ :: _, e => by simp at e
  | _ :: _, [], e => by simp at e
  | x :: ps, y :: us, e => by
    have := pccells_len ps us (by simpa using e)
    simp only [pccells, List.length_append, List.length_cons, List.length_nil, this]
    omega

/-- one list of lines in a row of the call's own, below B -/
def Own1 (w : World) (b B : Nat) (u : Value) (l : List ByteArray) : Prop := w.ownsRow b 9 1 u l.length (l.map Value.string) ∧ ∀ k, u.ownBlock = some k → k < B
def Own3 (w : World) (b B : Nat) (u : Value × Value × Value) (p : Pc) : Prop := Own1 w b B u.1 p.2.1 ∧ Own1 w b B u.2.1 p.2.2.1 ∧ Own1 w b B u.2.2 p.2.2.2
def OwnsPcs (w : World) (b B : Nat) (us : List (Value × Value × Value)) (ps : List Pc) : Prop := us.length = ps.length ∧ ∀ (i : Nat) (u : Value × Value × Value) (p : Pc), us[i]? = some u → ps[i]? = some p → Own3 w b B u p

section
variable {w w' : World} {b B B' : Nat}
theorem Own1.more {u : Value} {l : List ByteArray} (h : Own1 w b B u l) (hB : B ≤ B') : Own1 w b B' u l := ⟨h.1, fun k hk => Nat.lt_of_lt_of_le (h.2 k hk) hB⟩
theorem OwnsPcs.map {us : List (Value × Value × Value)} {ps : List Pc} (h : OwnsPcs w b B us ps) (f : ∀ u l, Own1 w b B u l → Own1 w' b B' u l) : OwnsPcs w' b B' us ps :=
  ⟨h.1, fun i u p h1 h2 => let ⟨a1, a2, a3⟩ := h.2 i u p h1 h2; ⟨f _ _ a1, f _ _ a2, f _ _ a3⟩⟩
/-- behind a step that turns only rows from B on -/
theorem Own1.grown {u : Value} {l : List ByteArray} {row : Option Nat} (h : Own1 w b B u l) (hg : w.grownBy w' row) (hr : ∀ k, row = some k → B ≤ k) : Own1 w' b B u l :=
  ⟨h.1.kept hg (by
    rcases hu : u.ownBlock with _ | k
    · exact .inl rfl
    · right
      intro e
      have h1 := h.2 k hu
      have h2 := hr k e.symm
      omega), h.2⟩
/-- behind a step that turns only a row of another type -/
theorem Own1.other {u : Value} {l : List ByteArray} {b' : Nat} {e : TypeId} {size n : Nat} {v : Value} {xs : List Value} (h : Own1 w b B u l) (h' : w.ownsRow b' e size v n xs) (hne : 9 ≠ e) (hg : w.grownBy w' v.ownBlock) : Own1 w' b B u l :=
  ⟨own_kept h.1 h' hne hg, h.2⟩
theorem Own1.set {u : Value} {l : List ByteArray} {g : Nat} {t : TypeId} {cs : Array Value} (h : Own1 w b B u l) (hb : Blk w g t cs) (hne : 9 ≠ t) (i : Nat) (x : Value) : Own1 (w.setCell ⟨g, i, none⟩ x) b B u l :=
  ⟨own_set h.1 hb hne i x, h.2⟩
theorem Own1.alloc {u : Value} {l : List ByteArray} (h : Own1 w b B u l) (o : Obj) : Own1 (w.alloc o) b B u l := ⟨h.1.alloc o, h.2⟩
theorem Own1.below {u : Value} {l : List ByteArray} (h : Own1 w b B u l) (hb : Below w.heap.size w w') : Own1 w' b B u l := ⟨own_below h.1 hb, h.2⟩
theorem OwnsPcs.snoc {us : List (Value × Value × Value)} {ps : List Pc} {u : Value × Value × Value} {p : Pc} (h : OwnsPcs w b B us ps) (h3 : Own3 w b B u p) : OwnsPcs w b B (us ++ [u]) (ps ++ [p]) := by
  refine ⟨by simp [h.1], fun i x y h1 h2 => ?_⟩
  by_cases hi : i < us.length
  · rw [List.getElem?_append_left hi] at h1
    rw [List.getElem?_append_left (by rw [← h.1]; exact hi)] at h2
    exact h.2 i x y h1 h2
  · have h5 : i = us.length := by
      have := (List.getElem?_eq_some_iff.1 h1).1
      simp at this; omega
    subst h5
    simp at h1
    rw [h.1] at h2
    simp at h2
    subst h1 h2
    exact h3
theorem Only.own {S : Nat → Prop} {e : TypeId} {size n : Nat} {v : Value} {xs : List Value} (h : Only S w w') (ho : w.ownsRow b e size v n xs) (hs : ∀ k, v.ownBlock = some k → ¬ S k) : w'.ownsRow b e size v n xs := by
  have hlt := ho.lt
  refine ⟨ho.1, ?_⟩
  rcases ho.2 with h1 | ⟨g, cap, cur, h1, h2, h3, h4⟩
  · exact .inl h1
  · refine .inr ⟨g, cap, cur, h1, h2, ?_, h4⟩
    have hv : v.ownBlock = some g := by rw [h1]; rfl
    exact (h.block g (hlt g hv).2 (hs g hv)).trans h3
theorem Only.blk {S : Nat → Prop} {g : Nat} {t : TypeId} {cs : Array Value} (h : Only S w w') (hb : Blk w g t cs) (hs : ¬ S g) : Blk w' g t cs := (h.block g hb.lt hs).trans hb
theorem Only.map_ {S : Nat → Prop} {P : Program} {k : TypeId} {R : Value → Option (DataW Unit × List MemPlace)} {g n : Nat} {D : DataW Unit} (h : Only S w w') (hm : w.ownsMap P k R g n D) (hs : ¬ S g) : w'.ownsMap P k R g n D := by
  have hlt := hm.lt
  obtain ⟨es, clock, hb, hr⟩ := hm
  exact ⟨es, clock, (h.block g hlt hs).trans hb, hr⟩
theorem Only.below {S : Nat → Prop} {B0 : Nat} (h : Only S w w') (hB : B0 ≤ w.heap.size) (hs : ∀ k, k < B0 → ¬ S k) : Below B0 w w' := ⟨h.os, h.tape, h.output, h.size, fun k hk => h.block k (Nat.lt_of_lt_of_le hk hB) (hs k hk)⟩
/-- a row's block is no block of another type, and no row's of another type -/
theorem own_apart {bo bs : Nat} {e t1 t2 e3 : TypeId} {size n : Nat} {v : Value} {xs : List Value} {c1 c2 : Array Value} {b3 : Nat} {size3 n3 : Nat} {v3 : Value} {xs3 : List Value} (h : w.ownsRow b e size v n xs) (h1 : Blk w bo t1 c1) (h2 : Blk w bs t2 c2)
    (h3 : w.ownsRow b3 e3 size3 v3 n3 xs3) (n1 : e ≠ t1) (n2 : e ≠ t2) (nn3 : e ≠ e3) : ∀ k, v.ownBlock = some k → ¬ (k = bo ∨ k = bs ∨ v3.ownBlock = some k) := by
  intro k hk hs
  rcases hs with rfl | rfl | hs
  · exact own_blk_ne h h1 n1 hk
  · exact own_blk_ne h h2 n2 hk
  · rcases own_own_ne h h3 nn3 with h4 | h4
    · rw [h4] at hk; cases hk
    · exact h4 (hk.trans hs.symm)
end
end Go.Proofs.YtafhefhhndmdkaaDoor
