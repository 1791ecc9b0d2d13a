/- The state of the merge in memory, and what one part does to it. No condition. -/
import Derived.Test.YtafhefhhndmdkaaMgPcs
namespace Go.Proofs.Ytafhefhhndmdkaa
open Go.RowKit Mg

/-- the open piece's three lists: in rows of their own, in three different blocks -/
def OpenPc (w : World) (B1 : Nat) (l : List ByteArray) (u : Value × Value × Value) : Prop :=
  w.ownsRow B1 9 1 u.1 l.length (l.map Value.string) ∧ w.ownsRow B1 9 1 u.2.1 l.length (l.map Value.string) ∧ w.ownsRow B1 9 1 u.2.2 l.length (l.map Value.string) ∧
  u.1.ownBlock ≠ u.2.1.ownBlock ∧ u.1.ownBlock ≠ u.2.2.ownBlock ∧ u.2.1.ownBlock ≠ u.2.2.ownBlock
/-- the state of the merge in memory: the boxes bo (the pieces), bf (from), bs (same); the call's own rows from BA on -/
structure MInv (w : World) (bo bf bs BA : Nat) (f : Nat × Nat × Nat) (st : St) (v : Value) (us : List (Value × Value × Value)) (u : Value × Value × Value) (B1 : Nat) : Prop where
  from_ : Blk w bf 60 #[.int .i64 f.1, .int .i64 f.2.1, .int .i64 f.2.2]
  out : Blk w bo 24 #[v]
  same : Blk w bs 4 #[.bool (!st.2.isEmpty)]
  old : OwnsPcs w BA B1 us st.1
  top : B1 ≤ w.heap.size
  base : BA ≤ B1
  row : w.ownsRow BA 30 4 v (pieces st).length (pccells (pieces st) (us ++ (if st.2 = [] then [] else [u])))
  open_ : st.2 ≠ [] → OpenPc w B1 st.2 u

theorem pieces_nil (d : List Pc) : pieces (d, []) = d := by simp [pieces]
theorem pieces_cons (d : List Pc) {l : List ByteArray} (h : l ≠ []) : pieces (d, l) = d ++ [(1, l, l, l)] := by simp [pieces, h]
theorem own_lt {w : World} {b : Nat} {e : TypeId} {size n : Nat} {v : Value} {xs : List Value} (h : w.ownsRow b e size v n xs) : ∀ k, v.ownBlock = some k → k < w.heap.size := fun k hk => (h.lt k hk).2
/-- all pieces, the open one too, as pieces below the heap's top -/
theorem MInv.all {w : World} {bo bf bs BA B1 : Nat} {f : Nat × Nat × Nat} {st : St} {v : Value} {us : List (Value × Value × Value)} {u : Value × Value × Value} (h : MInv w bo bf bs BA f st v us u B1) :
    OwnsPcs w BA w.heap.size (us ++ (if st.2 = [] then [] else [u])) (pieces st) := by
  obtain ⟨d, l⟩ := st
  have h0 : OwnsPcs w BA w.heap.size us d := h.old.map fun _ _ k => k.more h.top
  by_cases hl : l = []
  · subst hl
    simpa [pieces] using h0
  · have ho := h.open_ hl
    simp only [hl, if_false, pieces]
    exact h0.snoc ⟨⟨own_base ho.1 h.base, own_lt ho.1⟩, ⟨own_base ho.2.1 h.base, own_lt ho.2.1⟩, ⟨own_base ho.2.2.1 h.base, own_lt ho.2.2.1⟩⟩

/-- one part, in memory -/
theorem MInv.part {w w' : World} {bo bf bs BA B1 : Nat} {f : Nat × Nat × Nat} {st : St} {v : Value} {us : List (Value × Value × Value)} {u : Value × Value × Value} (h : MInv w bo bf bs BA f st v us u B1) (o a b : List ByteArray) (t : Nat × Nat × Nat)
    (hp : PartPost bo bs BA v (pccells (pieces st) (us ++ (if st.2 = [] then [] else [u]))) (pieces st).length (cut o f.1 t.1) (cut a f.2.1 t.2.1) (cut b f.2.2 t.2.2) w w') :
    ∃ v' us' u' B1', MInv w' bo bf bs BA f (Mg.part o a b f t st) v' us' u' B1' := by
  have hall := h.all
  rcases hp with ⟨h0, hb⟩ | ⟨h0, v', u0, u1, u2, hrow, r0, r1, r2, hbo, hbs, hon⟩
  · refine ⟨v, us, u, B1, ?_⟩
    have e : Mg.part o a b f t st = st := by unfold Mg.part; rw [if_pos h0]
    rw [e]
    refine ⟨h.from_.below hb h.from_.lt, h.out.below hb h.out.lt, h.same.below hb h.same.lt, h.old.map fun _ _ k => k.below hb, Nat.le_trans h.top hb.size, h.base, own_below h.row hb, fun hl => ?_⟩
    obtain ⟨o1, o2, o3, o4⟩ := h.open_ hl
    exact ⟨own_below o1 hb, own_below o2 hb, own_below o3 hb, o4⟩
  · have e : Mg.part o a b f t st = (pieces st ++ [(kindOf (cut o f.1 t.1) (cut a f.2.1 t.2.1) (cut b f.2.2 t.2.2), cut o f.1 t.1, cut a f.2.1 t.2.1, cut b f.2.2 t.2.2)], []) := by unfold Mg.part; rw [if_neg h0]
    rw [e]
    have hBA : BA ≤ w.heap.size := Nat.le_trans h.base h.top
    have hsz := hon.size
    have hold : OwnsPcs w' BA w'.heap.size (us ++ (if st.2 = [] then [] else [u])) (pieces st) := hall.map fun x l k => ⟨hon.own k.1 (own_apart k.1 h.out h.same h.row (by decide) (by decide) (by decide)), fun j hj => Nat.lt_of_lt_of_le (k.2 j hj) hsz⟩
    have hnew := hold.snoc (u := (u0, u1, u2)) (p := (kindOf (cut o f.1 t.1) (cut a f.2.1 t.2.1) (cut b f.2.2 t.2.2), cut o f.1 t.1, cut a f.2.1 t.2.1, cut b f.2.2 t.2.2)) ⟨⟨own_base r0 hBA, own_lt r0⟩, ⟨own_base r1 hBA, own_lt r1⟩, ⟨own_base r2 hBA, own_lt r2⟩⟩
    refine ⟨v', us ++ (if st.2 = [] then [] else [u]) ++ [(u0, u1, u2)], (u0, u1, u2), w'.heap.size, ?_, hbo, hbs, hnew, Nat.le_refl _, by omega, ?_, fun hl => absurd rfl hl⟩
    · refine hon.blk h.from_ (fun k => ?_)
      rcases k with k | k | k
      · exact Blk.ne_ h.from_ h.out (by decide) k
      · exact Blk.ne_ h.from_ h.same (by decide) k
      · exact own_blk_ne h.row h.from_ (by decide) k
    · rw [pieces_nil]
      simp only [if_true, List.append_nil, List.length_append, List.length_cons, List.length_nil]
      rw [pccells_snoc _ _ _ _ hold.1]
      exact hrow

/-- a store into the box of from keeps the rest -/
theorem MInv.rest {w : World} {bo bf bs BA B1 : Nat} {f : Nat × Nat × Nat} {st : St} {v : Value} {us : List (Value × Value × Value)} {u : Value × Value × Value} (h : MInv w bo bf bs BA f st v us u B1) {cs : Array Value} (hf : Blk w bf 60 cs) (i : Nat) (x : Value) (f' : Nat × Nat × Nat)
    (h' : Blk (w.setCell ⟨bf, i, none⟩ x) bf 60 #[.int .i64 f'.1, .int .i64 f'.2.1, .int .i64 f'.2.2]) : MInv (w.setCell ⟨bf, i, none⟩ x) bo bf bs BA f' st v us u B1 :=
  ⟨h', h.out.far (p := ⟨bf, i, none⟩) (Blk.ne_ h.out hf (by decide)) x, h.same.far (p := ⟨bf, i, none⟩) (Blk.ne_ h.same hf (by decide)) x, h.old.map fun _ _ k => k.set hf (by decide) i x, by simpa [World.setCell] using h.top, h.base,
    own_set h.row hf (by decide) i x, fun hl => let ⟨o1, o2, o3, o4⟩ := h.open_ hl; ⟨own_set o1 hf (by decide) i x, own_set o2 hf (by decide) i x, own_set o3 hf (by decide) i x, o4⟩⟩
theorem MInv.go {w : World} {bo bf bs BA B1 : Nat} {f : Nat × Nat × Nat} {st : St} {v : Value} {us : List (Value × Value × Value)} {u : Value × Value × Value} (h : MInv w bo bf bs BA f st v us u B1) (x y z : Nat) :
    MInv (((w.setCell ⟨bf, 0, none⟩ (.int .i64 x)).setCell ⟨bf, 1, none⟩ (.int .i64 y)).setCell ⟨bf, 2, none⟩ (.int .i64 z)) bo bf bs BA (x, y, z) st v us u B1 := by
  have h1 := h.rest h.from_ 0 (.int .i64 x) (x, f.2.1, f.2.2) (h.from_.set_ 0 _)
  have h2 := h1.rest h1.from_ 1 (.int .i64 y) (x, y, f.2.2) (h1.from_.set_ 1 _)
  exact h2.rest h2.from_ 2 (.int .i64 z) (x, y, z) (h2.from_.set_ 2 _)

/-- a new piece of equal lines is opened: its three lists are nil -/
structure MOpen (w : World) (bo bf bs BA : Nat) (f : Nat × Nat × Nat) (d : List Pc) (l : List ByteArray) (v : Value) (us : List (Value × Value × Value)) (u : Value × Value × Value) (B1 : Nat) (s : Bool) : Prop where
  from_ : Blk w bf 60 #[.int .i64 f.1, .int .i64 f.2.1, .int .i64 f.2.2]
  out : Blk w bo 24 #[v]
  same : Blk w bs 4 #[.bool s]
  old : OwnsPcs w BA B1 us d
  top : B1 ≤ w.heap.size
  base : BA ≤ B1
  row : w.ownsRow BA 30 4 v (d.length + 1) (pccells d us ++ [.int .i64 1, u.1, u.2.1, u.2.2])
  open_ : w.ownsRow B1 9 1 u.1 l.length (l.map Value.string) ∧ w.ownsRow B1 9 1 u.2.1 l.length (l.map Value.string) ∧ w.ownsRow B1 9 1 u.2.2 l.length (l.map Value.string) ∧
    (u.1.ownBlock = none ∨ u.1.ownBlock ≠ u.2.1.ownBlock) ∧ (u.1.ownBlock = none ∨ u.1.ownBlock ≠ u.2.2.ownBlock) ∧ (u.2.1.ownBlock = none ∨ u.2.1.ownBlock ≠ u.2.2.ownBlock)
theorem MInv.isOpen {w : World} {bo bf bs BA B1 : Nat} {f : Nat × Nat × Nat} {d : List Pc} {l : List ByteArray} {v : Value} {us : List (Value × Value × Value)} {u : Value × Value × Value} (h : MInv w bo bf bs BA f (d, l) v us u B1) (hl : l ≠ []) : MOpen w bo bf bs BA f d l v us u B1 true := by
  obtain ⟨o1, o2, o3, o4, o5, o6⟩ := h.open_ hl
  refine ⟨h.from_, h.out, ?_, h.old, h.top, h.base, ?_, o1, o2, o3, .inr o4, .inr o5, .inr o6⟩
  · have := h.same
    have e : l.isEmpty = false := by simpa using hl
    simpa [e] using this
  · have := h.row
    rw [pieces_cons d hl] at this
    simp only [hl, if_false] at this
    rw [pccells_snoc _ _ _ _ h.old.1] at this
    simpa using this

theorem MInv.opened {w w6 : World} {bo bf bs BA B1 : Nat} {f : Nat × Nat × Nat} {d : List Pc} {v v6 : Value} {us : List (Value × Value × Value)} {u : Value × Value × Value} (h : MInv w bo bf bs BA f (d, []) v us u B1) (o : Obj) 
    (hrow : w6.ownsRow BA 30 4 v6 (d.length + 1) (pccells d us ++ [.int .i64 1, .slice none 0 0, .slice none 0 0, .slice none 0 0])) (hg : (w.alloc o).grownBy w6 v.ownBlock) :
    MOpen ((w6.setCell ⟨bo, 0, none⟩ v6).setCell ⟨bs, 0, none⟩ (.bool true)) bo bf bs BA f d [] v6 us (.slice none 0 0, .slice none 0 0, .slice none 0 0) w6.heap.size true := by
  have hr := h.row.alloc o
  have b1 := (h.out.alloc o).grown hg (fun e => own_blk_ne hr (h.out.alloc o) (by decide) e.symm)
  have b2 := (h.same.alloc o).grown hg (fun e => own_blk_ne hr (h.same.alloc o) (by decide) e.symm)
  have b3 := (h.from_.alloc o).grown hg (fun e => own_blk_ne hr (h.from_.alloc o) (by decide) e.symm)
  have n12 := Blk.ne_ b1 b2 (by decide)
  have n31 := Blk.ne_ b3 b1 (by decide)
  have n32 := Blk.ne_ b3 b2 (by decide)
  have c2 := b2.far (p := ⟨bo, 0, none⟩) n12.symm v6
  have hsz := hg.size
  have htop := h.top
  have hbase := h.base
  have hnil : ∀ (wx : World) (B : Nat), wx.ownsRow B 9 1 (.slice none 0 0) 0 [] := fun _ _ => ⟨rfl, .inl ⟨rfl, rfl⟩⟩
  have hsz6 : w.heap.size ≤ w6.heap.size := by simp at hsz; omega
  refine ⟨(b3.far (p := ⟨bo, 0, none⟩) n31 v6).far (p := ⟨bs, 0, none⟩) n32 _, (b1.set_ 0 v6).far (p := ⟨bs, 0, none⟩) n12 _, c2.set_ 0 _, h.old.map fun x l k => (((((k.alloc o).other hr (by decide) hg).set b1 (by decide) 0 v6).set c2 (by decide) 0 _).more (Nat.le_trans htop hsz6)), by simp [World.setCell], by omega, own_set (own_set hrow b1 (by decide) 0 v6) c2 (by decide) 0 _, hnil _ _, hnil _ _, hnil _ _, .inl rfl, .inl rfl, .inl rfl⟩
end Go.Proofs.Ytafhefhhndmdkaa
