/- The three appends of one line to the open piece of a merge, in memory, one after the other in whatever order. No condition. -/
import Derived.Test.YtafhefhhndmdkaaMgInv
import Derived.Deep.AppendLies
namespace Go.Proofs.Ytafhefhhndmdkaa
open Go.RowKit Mg

/-- amid the statement that appends a line to the three lists of the open piece: their values are p, q and r, of the lines lp, lq and lr; the piece still holds c -/
structure S24 (w : World) (gp : Nat) (cs : Array Value) (bo bf bs BA : Nat) (f : Nat × Nat × Nat) (d : List Pc) (v : Value) (us : List (Value × Value × Value)) (c : Value × Value × Value) (B1 : Nat) (p q r : Value) (lp lq lr : List ByteArray) : Prop where
  from_ : Blk w bf 60 #[.int .i64 f.1, .int .i64 f.2.1, .int .i64 f.2.2]
  out : Blk w bo 24 #[v]
  same : Blk w bs 4 #[.bool true]
  old : OwnsPcs w BA B1 us d
  top : B1 ≤ w.heap.size
  base : BA ≤ B1
  row : w.ownsRow BA 30 4 v (d.length + 1) (pccells d us ++ [.int .i64 1, c.1, c.2.1, c.2.2])
  op : w.ownsRow B1 9 1 p lp.length (lp.map Value.string)
  oq : w.ownsRow B1 9 1 q lq.length (lq.map Value.string)
  or_ : w.ownsRow B1 9 1 r lr.length (lr.map Value.string)
  pq : p.ownBlock = none ∨ p.ownBlock ≠ q.ownBlock
  pr : p.ownBlock = none ∨ p.ownBlock ≠ r.ownBlock
  qr : q.ownBlock = none ∨ q.ownBlock ≠ r.ownBlock
  box : Blk w gp 59 cs
/-- a block of one line, of the call's own, that is none of the three lists -/
structure Pend (w : World) (p q r : Value) (s : ByteArray) (g : Nat) : Prop where
  blk : Blk w g 9 #[.string s]
  np : p.ownBlock ≠ some g
  nq : q.ownBlock ≠ some g
  nr : r.ownBlock ≠ some g
theorem MOpen.s24 {w : World} {gp : Nat} {cs : Array Value} {bo bf bs BA B1 : Nat} {f : Nat × Nat × Nat} {d : List Pc} {l : List ByteArray} {v : Value} {us : List (Value × Value × Value)} {u : Value × Value × Value} (h : MOpen w bo bf bs BA f d l v us u B1 true) (hb : Blk w gp 59 cs) :
    S24 w gp cs bo bf bs BA f d v us u B1 u.1 u.2.1 u.2.2 l l l :=
  ⟨h.from_, h.out, h.same, h.old, h.top, h.base, h.row, h.open_.1, h.open_.2.1, h.open_.2.2.1, h.open_.2.2.2.1, h.open_.2.2.2.2.1, h.open_.2.2.2.2.2, hb⟩

section
variable {w w' : World} {gp : Nat} {cs : Array Value} {bo bf bs BA B1 : Nat} {f : Nat × Nat × Nat} {d : List Pc} {v : Value} {us : List (Value × Value × Value)} {c : Value × Value × Value} {p q r : Value} {lp lq lr : List ByteArray}
theorem S24.alloc (h : S24 w gp cs bo bf bs BA f d v us c B1 p q r lp lq lr) (o : Obj) : S24 (w.alloc o) gp cs bo bf bs BA f d v us c B1 p q r lp lq lr :=
  ⟨h.from_.alloc o, h.out.alloc o, h.same.alloc o, h.old.map fun _ _ k => k.alloc o, by have := h.top; simp; omega, h.base, h.row.alloc o, h.op.alloc o, h.oq.alloc o, h.or_.alloc o, h.pq, h.pr, h.qr, h.box.alloc o⟩
theorem S24.drewd (h : S24 w gp cs bo bf bs BA f d v us c B1 p q r lp lq lr) (n : Nat) : S24 (w.drewN n).drew gp cs bo bf bs BA f d v us c B1 p q r lp lq lr :=
  ⟨h.from_, h.out, h.same, h.old, h.top, h.base, h.row, h.op, h.oq, h.or_, h.pq, h.pr, h.qr, h.box⟩
theorem Pend.alloc {s : ByteArray} {g : Nat} (h : Pend w p q r s g) (o : Obj) : Pend (w.alloc o) p q r s g := ⟨h.blk.alloc o, h.np, h.nq, h.nr⟩
theorem S24.pend (h : S24 w gp cs bo bf bs BA f d v us c B1 p q r lp lq lr) (s : ByteArray) : Pend (w.alloc (.cells #[.string s] 9)) p q r s w.heap.size :=
  ⟨Blk.new _ _ _, fun e => Nat.lt_irrefl _ (h.op.lt _ e).2, fun e => Nat.lt_irrefl _ (h.oq.lt _ e).2, fun e => Nat.lt_irrefl _ (h.or_.lt _ e).2⟩
/-- behind a growing of a row of lines from B1 on -/
theorem S24.keep (h : S24 w gp cs bo bf bs BA f d v us c B1 p q r lp lq lr) {x : Value} {lx : List ByteArray} (hx : w.ownsRow B1 9 1 x lx.length (lx.map Value.string)) (hg : w.grownBy w' x.ownBlock) :
    Blk w' bf 60 #[.int .i64 f.1, .int .i64 f.2.1, .int .i64 f.2.2] ∧ Blk w' bo 24 #[v] ∧ Blk w' bs 4 #[.bool true] ∧ OwnsPcs w' BA B1 us d ∧ B1 ≤ w'.heap.size ∧
      w'.ownsRow BA 30 4 v (d.length + 1) (pccells d us ++ [.int .i64 1, c.1, c.2.1, c.2.2]) ∧ Blk w' gp 59 cs :=
  ⟨h.from_.grown hg (fun e => own_blk_ne hx h.from_ (by decide) e.symm), h.out.grown hg (fun e => own_blk_ne hx h.out (by decide) e.symm), h.same.grown hg (fun e => own_blk_ne hx h.same (by decide) e.symm),
    h.old.map fun _ _ k => k.grown hg (fun j hj => (hx.lt j hj).1), Nat.le_trans h.top hg.size, own_kept h.row hx (by decide) hg, h.box.grown hg (fun e => own_blk_ne hx h.box (by decide) e.symm)⟩

theorem apart_new {x : Option Nat} {y : Option Nat} {g H : Nat} (h : x = none ∨ x ≠ y) (hat : x = some g ∨ g = H) (hy : ∀ k, y = some k → k < H) : (some g) ≠ y := by
  intro e
  rcases hat with h1 | h1
  · rcases h with h2 | h2
    · rw [h2] at h1; cases h1
    · exact h2 (h1.trans e)
  · have := hy g e.symm; omega
theorem apart_turn {x y : Option Nat} (h : x = none ∨ x ≠ y) : y = none ∨ y ≠ x := by
  rcases h with rfl | h
  · cases y
    · exact .inl rfl
    · right; simp
  · exact .inr (Ne.symm h)
theorem Pend.grown {s : ByteArray} {g g' cap n : Nat} {x : Value} (h : Blk w g 9 #[.string s]) (hx : x.ownBlock ≠ some g) (hg : w.grownBy w' x.ownBlock) (hat : x.ownBlock = some g' ∨ g' = w.heap.size) :
    Blk w' g 9 #[.string s] ∧ (Value.slice (some ⟨g', 0, none⟩) n cap).ownBlock ≠ some g := by
  refine ⟨h.grown hg (fun e => hx e.symm), fun e => ?_⟩
  have e' : g' = g := by simpa [Value.ownBlock] using e
  subst e'
  rcases hat with h1 | h1
  · exact hx h1
  · have := h.lt; omega

theorem S24.addP (h : S24 w gp cs bo bf bs BA f d v us c B1 p q r lp lq lr) {s : ByteArray} {g cap : Nat} (hown : w'.ownsRow B1 9 1 (.slice (some ⟨g, 0, none⟩) (lp.length + 1) cap) (lp.length + 1) (lp.map Value.string ++ [.string s]))
    (hg : w.grownBy w' p.ownBlock) (hat : p.ownBlock = some g ∨ g = w.heap.size) : S24 w' gp cs bo bf bs BA f d v us c B1 (.slice (some ⟨g, 0, none⟩) (lp.length + 1) cap) q r (lp ++ [s]) lq lr := by
  obtain ⟨k1, k2, k3, k4, k5, k6, k7⟩ := h.keep h.op hg
  refine ⟨k1, k2, k3, k4, k5, h.base, k6, by simpa using hown, h.oq.kept hg (apart_turn h.pq), h.or_.kept hg (apart_turn h.pr), .inr ?_, .inr ?_, h.qr, k7⟩
  · exact apart_new h.pq hat (fun k hk => (h.oq.lt k hk).2)
  · exact apart_new h.pr hat (fun k hk => (h.or_.lt k hk).2)
theorem S24.addQ (h : S24 w gp cs bo bf bs BA f d v us c B1 p q r lp lq lr) {s : ByteArray} {g cap : Nat} (hown : w'.ownsRow B1 9 1 (.slice (some ⟨g, 0, none⟩) (lq.length + 1) cap) (lq.length + 1) (lq.map Value.string ++ [.string s]))
    (hg : w.grownBy w' q.ownBlock) (hat : q.ownBlock = some g ∨ g = w.heap.size) : S24 w' gp cs bo bf bs BA f d v us c B1 p (.slice (some ⟨g, 0, none⟩) (lq.length + 1) cap) r lp (lq ++ [s]) lr := by
  obtain ⟨k1, k2, k3, k4, k5, k6, k7⟩ := h.keep h.oq hg
  refine ⟨k1, k2, k3, k4, k5, h.base, k6, h.op.kept hg h.pq, by simpa using hown, h.or_.kept hg (apart_turn h.qr), apart_turn (.inr ?_), h.pr, .inr ?_, k7⟩
  · exact apart_new (apart_turn h.pq) hat (fun k hk => (h.op.lt k hk).2)
  · exact apart_new h.qr hat (fun k hk => (h.or_.lt k hk).2)
theorem S24.addR (h : S24 w gp cs bo bf bs BA f d v us c B1 p q r lp lq lr) {s : ByteArray} {g cap : Nat} (hown : w'.ownsRow B1 9 1 (.slice (some ⟨g, 0, none⟩) (lr.length + 1) cap) (lr.length + 1) (lr.map Value.string ++ [.string s]))
    (hg : w.grownBy w' r.ownBlock) (hat : r.ownBlock = some g ∨ g = w.heap.size) : S24 w' gp cs bo bf bs BA f d v us c B1 p q (.slice (some ⟨g, 0, none⟩) (lr.length + 1) cap) lp lq (lr ++ [s]) := by
  obtain ⟨k1, k2, k3, k4, k5, k6, k7⟩ := h.keep h.or_ hg
  refine ⟨k1, k2, k3, k4, k5, h.base, k6, h.op.kept hg h.pr, h.oq.kept hg h.qr, by simpa using hown, h.pq, apart_turn (.inr ?_), apart_turn (.inr ?_), k7⟩
  · exact apart_new (apart_turn h.pr) hat (fun k hk => (h.op.lt k hk).2)
  · exact apart_new (apart_turn h.qr) hat (fun k hk => (h.oq.lt k hk).2)
theorem Pend.addP {s : ByteArray} {g g' cap n : Nat} (h : Pend w p q r s g) (hg : w.grownBy w' p.ownBlock) (hat : p.ownBlock = some g' ∨ g' = w.heap.size) : Pend w' (.slice (some ⟨g', 0, none⟩) n cap) q r s g :=
  have k := Pend.grown (n := n) (cap := cap) h.blk h.np hg hat; ⟨k.1, k.2, h.nq, h.nr⟩
theorem Pend.addQ {s : ByteArray} {g g' cap n : Nat} (h : Pend w p q r s g) (hg : w.grownBy w' q.ownBlock) (hat : q.ownBlock = some g' ∨ g' = w.heap.size) : Pend w' p (.slice (some ⟨g', 0, none⟩) n cap) r s g :=
  have k := Pend.grown (n := n) (cap := cap) h.blk h.nq hg hat; ⟨k.1, h.np, k.2, h.nr⟩

/-- the cells of the open piece -/
theorem S24.cells (h : S24 w gp cs bo bf bs BA f d v us c B1 p q r lp lq lr) {g cap : Nat} (hv : v = .slice (some ⟨g, 0, none⟩) (d.length + 1) cap) : w.cell? ⟨g, d.length * 4 + 1, none⟩ = some c.1 ∧ w.cell? ⟨g, d.length * 4 + 2, none⟩ = some c.2.1 ∧ w.cell? ⟨g, d.length * 4 + 3, none⟩ = some c.2.2 ∧
    w.frozen? ⟨g, d.length * 4 + 1, none⟩ = false ∧ w.frozen? ⟨g, d.length * 4 + 2, none⟩ = false ∧ w.frozen? ⟨g, d.length * 4 + 3, none⟩ = false := by
  subst hv
  have hl := pccells_len d us h.old.1
  have hr := h.row
  refine ⟨?_, ?_, ?_, hr.frozenAt _, hr.frozenAt _, hr.frozenAt _⟩
  · rw [hr.cellAt _ (by omega), List.getElem?_append_right (by omega), hl, show d.length * 4 + 1 - d.length * 4 = 1 by omega]; rfl
  · rw [hr.cellAt _ (by omega), List.getElem?_append_right (by omega), hl, show d.length * 4 + 2 - d.length * 4 = 2 by omega]; rfl
  · rw [hr.cellAt _ (by omega), List.getElem?_append_right (by omega), hl, show d.length * 4 + 3 - d.length * 4 = 3 by omega]; rfl
/-- a store into the open piece's cells -/
theorem S24.store (h : S24 w gp cs bo bf bs BA f d v us c B1 p q r lp lq lr) {g cap : Nat} (hv : v = .slice (some ⟨g, 0, none⟩) (d.length + 1) cap) (j : Nat) (x : Value) (c' : Value × Value × Value)
    (hc : [Value.int .i64 1, c.1, c.2.1, c.2.2].set j x = [.int .i64 1, c'.1, c'.2.1, c'.2.2]) : S24 (w.setCell ⟨g, d.length * 4 + j, none⟩ x) gp cs bo bf bs BA f d v us c' B1 p q r lp lq lr := by
  subst hv
  have hl := pccells_len d us h.old.1
  obtain ⟨k1, k2⟩ := h.row.stored (d.length * 4 + j) x
  rw [List.set_append_right _ _ (by omega), hl, show d.length * 4 + j - d.length * 4 = j by omega, hc] at k1
  have hgo : ∀ (t : TypeId) (b : Nat) (cs : Array Value), Blk w b t cs → 30 ≠ t → b ≠ (⟨g, d.length * 4 + j, none⟩ : Addr).block := fun t b cs hb hne e => own_blk_ne h.row hb hne (by rw [e]; rfl)
  have hne : ∀ {e : TypeId} {b size n : Nat} {y : Value} {xs : List Value}, w.ownsRow b e size y n xs → e ≠ 30 → y.ownBlock = none ∨ y.ownBlock ≠ some g := fun k hne => own_own_ne k h.row hne
  exact ⟨h.from_.far (hgo _ _ _ h.from_ (by decide)) _, h.out.far (hgo _ _ _ h.out (by decide)) _, h.same.far (hgo _ _ _ h.same (by decide)) _, h.old.map fun _ _ k => k.other h.row (by decide) k2, by simpa [World.setCell] using h.top, h.base, k1,
    h.op.kept k2 (hne h.op (by decide)), h.oq.kept k2 (hne h.oq (by decide)), h.or_.kept k2 (hne h.or_ (by decide)), h.pq, h.pr, h.qr, h.box.far (hgo _ _ _ h.box (by decide)) _⟩
/-- behind all three -/
theorem S24.done {l : List ByteArray} (h : S24 w gp cs bo bf bs BA f d v us (p, q, r) B1 p q r l l l) (hl : l ≠ []) (np : p.ownBlock ≠ none) (nq : q.ownBlock ≠ none) : MInv w bo bf bs BA f (d, l) v us (p, q, r) B1 := by
  refine ⟨h.from_, h.out, ?_, h.old, h.top, h.base, ?_, fun _ => ⟨h.op, h.oq, h.or_, h.pq.resolve_left np, h.pr.resolve_left np, h.qr.resolve_left nq⟩⟩
  · have e : l.isEmpty = false := by simpa using hl
    simpa [e] using h.same
  · rw [pieces_cons d hl]
    simp only [hl, if_false]
    rw [pccells_snoc _ _ _ _ h.old.1]
    simpa using h.row
end
end Go.Proofs.Ytafhefhhndmdkaa
