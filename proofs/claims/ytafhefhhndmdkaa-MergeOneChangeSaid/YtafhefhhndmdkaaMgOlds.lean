/- What the second loop of a merge only reads, in memory. No condition. -/
import Derived.Test.YtafhefhhndmdkaaMgLoop
namespace Go.Proofs.Ytafhefhhndmdkaa
open Go.RowKit Mg

/-- the blocks that the second loop writes: the three boxes from bo on, and those from BA on -/
abbrev S2 (bo BA : Nat) (k : Nat) : Prop := (bo ≤ k ∧ k < bo + 3) ∨ BA ≤ k
/-- what it only reads -/
structure Olds (w : World) (bl gl cl bm bo BA : Nat) (A0 A1 A2 : Option Addr) (c0 c1 c2 : Nat) (o a b : List ByteArray) (p1 p2 : List (Nat × Nat)) (vp : Value) : Prop where
  lbl : bl < bo
  lgl : gl < bl
  lbm : bm < bo
  lBA : bo + 3 ≤ BA
  top : BA ≤ w.heap.size
  l : w.cell? ⟨bl, 0, none⟩ = some (.slice (some ⟨gl, 0, none⟩) 3 cl)
  g0 : w.cell? ⟨gl, 0, none⟩ = some (.slice A0 o.length c0)
  g1 : w.cell? ⟨gl, 1, none⟩ = some (.slice A1 a.length c1)
  g2 : w.cell? ⟨gl, 2, none⟩ = some (.slice A2 b.length c2)
  s0 : Strs w bl A0 c0 o
  s1 : Strs w bl A1 c1 a
  s2 : Strs w bl A2 c2 b
  map : w.ownsMap Try.prog 3 (plainElem (H := Unit) Try.prog 3) bm p2.length (pmap p2)
  row : w.ownsRow (bo + 3) 59 2 vp p1.length (pcells p1)
  lvp : ∀ k, vp.ownBlock = some k → k < BA

section
variable {w w' : World} {bl gl cl bm bo BA : Nat} {A0 A1 A2 : Option Addr} {c0 c1 c2 : Nat} {o a b : List ByteArray} {p1 p2 : List (Nat × Nat)} {vp : Value}
theorem Olds.below (h : Olds w bl gl cl bm bo BA A0 A1 A2 c0 c1 c2 o a b p1 p2 vp) (hon : Only (S2 bo BA) w w') : Below bo w w' :=
  hon.below (Nat.le_trans (by have := h.lBA; omega) h.top) (fun k hk => by have := h.lBA; rintro (⟨h1, _⟩ | h1) <;> omega)
theorem Olds.only (h : Olds w bl gl cl bm bo BA A0 A1 A2 c0 c1 c2 o a b p1 p2 vp) (hon : Only (S2 bo BA) w w') : Olds w' bl gl cl bm bo BA A0 A1 A2 c0 c1 c2 o a b p1 p2 vp := by
  have hb := h.below hon
  have hlgl : gl < bo := Nat.lt_trans h.lgl h.lbl
  have hb' := hb.mono (Nat.le_of_lt h.lbl)
  refine ⟨h.lbl, h.lgl, h.lbm, h.lBA, Nat.le_trans h.top hon.size, (hb.cell (p := ⟨bl, 0, none⟩) h.lbl).trans h.l, (hb.cell (p := ⟨gl, 0, none⟩) hlgl).trans h.g0, (hb.cell (p := ⟨gl, 1, none⟩) hlgl).trans h.g1, (hb.cell (p := ⟨gl, 2, none⟩) hlgl).trans h.g2,
    h.s0.below hb', h.s1.below hb', h.s2.below hb', hon.map_ h.map ?_, hon.own h.row ?_, h.lvp⟩
  · have := h.lbm
    have := h.lBA
    rintro (⟨h1, _⟩ | h1) <;> omega
  · intro k hk
    have h1 := h.lvp k hk
    have h2 := (h.row.lt k hk).1
    rintro (⟨h3, h4⟩ | h3) <;> omega
/-- a pair -/
theorem Olds.pair (h : Olds w bl gl cl bm bo BA A0 A1 A2 c0 c1 c2 o a b p1 p2 vp) {Aw : Option Addr} {cw : Nat} (hv : vp = .slice Aw p1.length cw) {t : Nat} {x y : Nat} (hp : p1[t]? = some (x, y)) :
    ∃ g, Aw = some ⟨g, 0, none⟩ ∧ w.cell? ⟨g, t * 2, none⟩ = some (.int .i64 x) ∧ w.cell? ⟨g, t * 2 + 1, none⟩ = some (.int .i64 y) := by
  have hlt := (List.getElem?_eq_some_iff.1 hp).1
  obtain ⟨g, c', hv', _, _, _⟩ := own_form h.row (by omega)
  rw [hv] at hv'
  simp only [Value.slice.injEq] at hv'
  obtain ⟨rfl, -⟩ := hv'
  obtain ⟨hp1, hp2⟩ := pcells_get (l := p1) (t := t) (p1 := x) (p2 := y) hp
  have hr := h.row
  rw [hv] at hr
  refine ⟨g, rfl, ?_, ?_⟩
  · have := hr.cells (g := g) rfl _ _ hp1; rwa [addr_add, Nat.zero_add] at this
  · have := hr.cells (g := g) rfl _ _ hp2; rwa [addr_add, Nat.zero_add] at this

/-- one part, in memory: what it turns -/
theorem MInv.only {bf bs B1 n : Nat} {f : Nat × Nat × Nat} {st : St} {v : Value} {us : List (Value × Value × Value)} {u : Value × Value × Value} {xs : List Value} {x0 x1 x2 : List ByteArray} (h : MInv w bo bf bs BA f st v us u B1)
    (hs : bs = bo + 2) (hp : PartPost bo bs BA v xs n x0 x1 x2 w w') : Only (S2 bo BA) w w' :=
  hp.only.mono fun k hk => by
    rcases hk with h1 | h1 | h1
    · left; omega
    · left; omega
    · right; exact (h.row.lt k h1).1
theorem MInv.start (hBA : w.heap.size = BA) {bf bs : Nat} (h1 : Blk w bf 60 #[.int .i64 0, .int .i64 0, .int .i64 0]) (h2 : Blk w bo 24 #[.slice none 0 0]) (h3 : Blk w bs 4 #[.bool false]) :
    MInv w bo bf bs BA (0, 0, 0) ([], []) (.slice none 0 0) [] (undef, undef, undef) BA :=
  ⟨h1, h2, h3, ⟨rfl, fun _ _ _ h => by cases h⟩, Nat.le_of_eq hBA.symm, Nat.le_refl _, ⟨rfl, .inl ⟨rfl, rfl⟩⟩, fun h => absurd rfl h⟩
/-- the box of the round's pair, behind a part -/
theorem MInv.box {bf bs B1 n gp : Nat} {cs : Array Value} {f : Nat × Nat × Nat} {st : St} {v : Value} {us : List (Value × Value × Value)} {u : Value × Value × Value} {xs : List Value} {x0 x1 x2 : List ByteArray} (h : MInv w bo bf bs BA f st v us u B1)
    (hb : Blk w gp 59 cs) (hp : PartPost bo bs BA v xs n x0 x1 x2 w w') : Blk w' gp 59 cs :=
  hp.only.blk hb fun k => by
    rcases k with h1 | h1 | h1
    · exact Blk.ne_ hb h.out (by decide) h1
    · exact Blk.ne_ hb h.same (by decide) h1
    · exact own_blk_ne h.row hb (by decide) h1
/-- and behind the opening of a piece -/
theorem MInv.openedBox {w6 : World} {bf bs B1 gp : Nat} {cs : Array Value} {f : Nat × Nat × Nat} {st : St} {v v6 : Value} {us : List (Value × Value × Value)} {u : Value × Value × Value} (h : MInv w bo bf bs BA f st v us u B1) (ob : Obj) (hb : Blk w gp 59 cs)
    (hg : (w.alloc ob).grownBy w6 v.ownBlock) : Blk ((w6.setCell ⟨bo, 0, none⟩ v6).setCell ⟨bs, 0, none⟩ (.bool true)) gp 59 cs := by
  have hr := h.row.alloc ob
  have n1 := Blk.ne_ hb h.out (by decide)
  have n2 := Blk.ne_ hb h.same (by decide)
  exact ((((hb.alloc ob).grown hg (fun e => own_blk_ne hr (hb.alloc ob) (by decide) e.symm)).far (p := ⟨bo, 0, none⟩) n1 v6).far (p := ⟨bs, 0, none⟩) n2 _)
theorem MInv.openedOnly {w6 : World} {bf bs B1 : Nat} {f : Nat × Nat × Nat} {st : St} {v v6 : Value} {us : List (Value × Value × Value)} {u : Value × Value × Value} (h : MInv w bo bf bs BA f st v us u B1) (hs : bs = bo + 2) (ob : Obj)
    (hg : (w.alloc ob).grownBy w6 v.ownBlock) : Only (S2 bo BA) w ((w6.setCell ⟨bo, 0, none⟩ v6).setCell ⟨bs, 0, none⟩ (.bool true)) := by
  have h0 : Only (S2 bo BA) w w := Only.of_below (Below.refl _ _)
  exact ((((h0.alloc ob).grown hg (fun k hk => .inr (h.row.lt k hk).1)).set _ (.inl (by show bo ≤ bo ∧ bo < bo + 3; omega)) v6).set _ (.inl (by show bo ≤ bs ∧ bs < bo + 3; omega)) _)
theorem MInv.goOnly {bf bs B1 : Nat} {f : Nat × Nat × Nat} {st : St} {v : Value} {us : List (Value × Value × Value)} {u : Value × Value × Value} (_h : MInv w bo bf bs BA f st v us u B1) (hs : bf = bo + 1) (x y z : Nat) :
    Only (S2 bo BA) w (((w.setCell ⟨bf, 0, none⟩ (.int .i64 x)).setCell ⟨bf, 1, none⟩ (.int .i64 y)).setCell ⟨bf, 2, none⟩ (.int .i64 z)) := by
  have h0 : Only (S2 bo BA) w w := Only.of_below (Below.refl _ _)
  have hb : S2 bo BA bf := .inl (by omega)
  exact ((h0.set ⟨bf, 0, none⟩ hb _).set ⟨bf, 1, none⟩ hb _).set ⟨bf, 2, none⟩ hb _
end
/-- the loop's state, in plain words -/
structure Plain (o a b : List ByteArray) (p1 p2 : List (Nat × Nat)) (t : Nat) (f : Nat × Nat × Nat) (st : St) : Prop where
  good : Good o a b p2 (p1.drop t) f
  go_ : mgo o a b (mate p2) p1 (0, 0, 0) ([], []) = mgo o a b (mate p2) (p1.drop t) f st
  len1 : st.1.length ≤ 2 * t
  len2 : st.2.length ≤ t
theorem Plain.skip {o a b : List ByteArray} {p1 p2 : List (Nat × Nat)} {t x y : Nat} {f : Nat × Nat × Nat} {st : St} (h : Plain o a b p1 p2 t f st) (hp : p1[t]? = some (x, y)) (hm : mate p2 x = none) : Plain o a b p1 p2 (t + 1) f st := by
  have hd : p1.drop t = (x, y) :: p1.drop (t + 1) := by
    obtain ⟨h1, h2⟩ := List.getElem?_eq_some_iff.1 hp
    rw [List.drop_eq_getElem_cons h1, h2]
  have hg := h.good
  have hgo := h.go_
  rw [hd] at hg hgo
  refine ⟨hg.skip, hgo.trans ?_, by have := h.len1; omega, by have := h.len2; omega⟩
  simp only [mgo, hm]
theorem Plain.go {o a b : List ByteArray} {p1 p2 : List (Nat × Nat)} {t x y z : Nat} {f : Nat × Nat × Nat} {st : St} (h : Plain o a b p1 p2 t f st) (hp : p1[t]? = some (x, y)) (hm : mate p2 x = some z) :
    (f.1 ≤ x ∧ x < o.length ∧ f.2.1 ≤ y ∧ y < a.length ∧ f.2.2 ≤ z ∧ z < b.length) ∧
    Plain o a b p1 p2 (t + 1) (x + 1, y + 1, z + 1) ((Mg.part o a b f (x, y, z) st).1, (Mg.part o a b f (x, y, z) st).2 ++ [o.getD x ByteArray.empty]) := by
  have hd : p1.drop t = (x, y) :: p1.drop (t + 1) := by
    obtain ⟨h1, h2⟩ := List.getElem?_eq_some_iff.1 hp
    rw [List.drop_eq_getElem_cons h1, h2]
  have hg := h.good
  have hgo := h.go_
  rw [hd] at hg hgo
  have k1 := hg.ahead (x, y) (.head _)
  have k2 := hg.mates (x, y) (.head _) z hm
  have k3 := part_len o a b f (x, y, z) st
  have h1 := h.len1
  have h2 := h.len2
  refine ⟨⟨k1.1, k1.2.1, k1.2.2.1, k1.2.2.2, k2.1, k2.2⟩, hg.go hm, hgo.trans ?_, by simp only; omega, by simp only [List.length_append, List.length_cons, List.length_nil]; omega⟩
  simp only [mgo, hm]
end Go.Proofs.Ytafhefhhndmdkaa
