/- What the second loop of a merge keeps: the pairs that are still to come, and the memory. No condition. -/
import Derived.Test.YtafhefhhndmdkaaMgAdd
import Derived.Test.YtafhefhhndmdkaaMgMate
namespace Go.Proofs.Ytafhefhhndmdkaa
open Go.RowKit Mg

/-- one pair is ahead of another in both -/
abbrev Up (p q : Nat × Nat) : Prop := p.1 < q.1 ∧ p.2 < q.2
theorem asc_pairwise {na nb : Nat} : ∀ (ps : List (Nat × Nat)) (i k : Nat), Asc na nb i k ps → ps.Pairwise Up ∧ ∀ p ∈ ps, i ≤ p.1 ∧ k ≤ p.2
  | [], _, _, _ => ⟨List.Pairwise.nil, fun _ h => by cases h⟩
  | q :: ps, i, k, h => by
    obtain ⟨h1, h2⟩ := asc_pairwise ps _ _ h.2.2.2.2
    refine ⟨List.Pairwise.cons (fun p hp => ?_) h1, fun p hp => ?_⟩
    · have := h2 p hp
      exact ⟨by omega, by omega⟩
    · have g1 := h.1
      have g2 := h.2.1
      rcases List.mem_cons.1 hp with rfl | hp
      · exact ⟨g1, g2⟩
      · have := h2 p hp
        exact ⟨by omega, by omega⟩
theorem prs_pairwise (a b : List ByteArray) : (prs 0 0 a b).Pairwise Up :=
  ((asc_pairwise _ 0 0 (prs_asc a b 0 0 _ _ (Nat.zero_add _) (Nat.zero_add _))).1.sublist (List.sublist_append_left _ _))
theorem mate_mem {ps : List (Nat × Nat)} {x z : Nat} (h : mate ps x = some z) : (x, z) ∈ ps := by
  unfold mate at h
  rcases hf : ps.reverse.find? (fun p => p.1 == x) with _ | p
  · simp [hf] at h
  · rw [hf] at h
    have h1 := List.find?_some hf
    have h2 := List.mem_of_find?_eq_some hf
    simp at h1 h
    have : p = (x, z) := by rw [← h1, ← h]
    rw [← this]
    simpa using h2
theorem up_mem {ps : List (Nat × Nat)} (h : ps.Pairwise Up) {p q : Nat × Nat} (hp : p ∈ ps) (hq : q ∈ ps) : p = q ∨ Up p q ∨ Up q p := by
  induction h with
  | nil => cases hp
  | cons h1 _ ih =>
    rcases List.mem_cons.1 hp with ep | hp <;> rcases List.mem_cons.1 hq with eq | hq
    · exact .inl (ep.trans eq.symm)
    · exact .inr (.inl (ep ▸ h1 _ hq))
    · exact .inr (.inr (eq ▸ h1 _ hp))
    · exact ih hp hq
theorem mate_of_mem {ps : List (Nat × Nat)} (h : ps.Pairwise Up) {x z : Nat} (hm : (x, z) ∈ ps) : mate ps x = some z := by
  rcases hf : ps.reverse.find? (fun p => p.1 == x) with _ | p
  · have := List.find?_eq_none.1 hf (x, z) (by simpa using hm)
    simp at this
  · have h1 := List.find?_some hf
    have h2 := List.mem_of_find?_eq_some hf
    simp at h1 h2
    unfold mate
    rw [hf]
    rcases up_mem h h2 hm with rfl | k | k
    · rfl
    · have := k.1; simp at this; omega
    · have := k.1; simp at this; omega

/-- the pairs ps, with their partners in p2, lie behind f -/
structure Good (o a b : List ByteArray) (p2 ps : List (Nat × Nat)) (f : Nat × Nat × Nat) : Prop where
  fo : f.1 ≤ o.length
  fa : f.2.1 ≤ a.length
  fb : f.2.2 ≤ b.length
  ahead : ∀ p ∈ ps, f.1 ≤ p.1 ∧ p.1 < o.length ∧ f.2.1 ≤ p.2 ∧ p.2 < a.length
  mates : ∀ p ∈ ps, ∀ z, mate p2 p.1 = some z → f.2.2 ≤ z ∧ z < b.length
  up1 : ps.Pairwise Up
  up2 : p2.Pairwise Up
theorem good_start (o a b : List ByteArray) : Good o a b (prs 0 0 o b) (prs 0 0 o a) (0, 0, 0) :=
  ⟨Nat.zero_le _, Nat.zero_le _, Nat.zero_le _, fun p hp => have := prs_bound o a p hp; ⟨Nat.zero_le _, this.1, Nat.zero_le _, this.2⟩, fun _ _ _ hz => ⟨Nat.zero_le _, (prs_bound o b _ (mate_mem hz)).2⟩, prs_pairwise _ _, prs_pairwise _ _⟩
theorem Good.skip {o a b : List ByteArray} {p2 ps : List (Nat × Nat)} {p : Nat × Nat} {f : Nat × Nat × Nat} (h : Good o a b p2 (p :: ps) f) : Good o a b p2 ps f :=
  ⟨h.fo, h.fa, h.fb, fun q hq => h.ahead q (.tail _ hq), fun q hq => h.mates q (.tail _ hq), (List.pairwise_cons.1 h.up1).2, h.up2⟩
theorem Good.go {o a b : List ByteArray} {p2 ps : List (Nat × Nat)} {x y z : Nat} {f : Nat × Nat × Nat} (h : Good o a b p2 ((x, y) :: ps) f) (hz : mate p2 x = some z) : Good o a b p2 ps (x + 1, y + 1, z + 1) := by
  have h1 := h.ahead (x, y) (.head _)
  have h2 := h.mates (x, y) (.head _) z hz
  obtain ⟨u1, u2⟩ := List.pairwise_cons.1 h.up1
  refine ⟨h1.2.1, h1.2.2.2, h2.2, fun q hq => ?_, fun q hq z' hz' => ⟨?_, (h.mates q (.tail _ hq) z' hz').2⟩, u2, h.up2⟩
  · have := u1 q hq
    have := h.ahead q (.tail _ hq)
    simp at *
    omega
  · have hu := u1 q hq
    rcases up_mem h.up2 (mate_mem hz) (mate_mem hz') with k | k | k
    · injection k with k _
      have := hu.1
      simp at this
      omega
    · exact k.2
    · have := k.1
      have := hu.1
      simp at *
      omega
theorem part_len (o a b : List ByteArray) (f t : Nat × Nat × Nat) (st : St) : (Mg.part o a b f t st).1.length ≤ st.1.length + 2 ∧ (Mg.part o a b f t st).2.length ≤ st.2.length := by
  unfold Mg.part
  split
  · exact ⟨Nat.le_add_right _ _, Nat.le_refl _⟩
  · refine ⟨?_, Nat.zero_le _⟩
    unfold pieces
    split <;> simp
theorem pieces_len (st : St) : (pieces st).length ≤ st.1.length + 1 := by
  unfold pieces
  split <;> simp

section
variable {w w' w'' : World} {bo bf bs BA B1 : Nat} {f : Nat × Nat × Nat} {st : St} {v : Value} {us : List (Value × Value × Value)} {u : Value × Value × Value}
theorem MInv.alloc (h : MInv w bo bf bs BA f st v us u B1) (o : Obj) : MInv (w.alloc o) bo bf bs BA f st v us u B1 :=
  ⟨h.from_.alloc o, h.out.alloc o, h.same.alloc o, h.old.map fun _ _ k => k.alloc o, by have := h.top; simp; omega, h.base, h.row.alloc o, fun hl => let ⟨o1, o2, o3, o4⟩ := h.open_ hl; ⟨o1.alloc o, o2.alloc o, o3.alloc o, o4⟩⟩
theorem Only.trans {S : Nat → Prop} (h : Only S w w') (h' : Only S w' w'') : Only S w w'' :=
  ⟨h'.os.trans h.os, h'.tape.trans h.tape, h'.output.trans h.output, Nat.le_trans h.size h'.size, fun k hk hs => (h'.block k (Nat.lt_of_lt_of_le hk h.size) hs).trans (h.block k hk hs)⟩
theorem Only.mono {S S' : Nat → Prop} (h : Only S w w') (hs : ∀ k, S k → S' k) : Only S' w w' := ⟨h.os, h.tape, h.output, h.size, fun k hk hn => h.block k hk (fun e => hn (hs k e))⟩
theorem Only.alloc {S : Nat → Prop} (h : Only S w w') (o : Obj) : Only S w (w'.alloc o) := h.trans (Only.of_below ((Below.refl _ _).alloc (Nat.le_refl _) _))
theorem Only.set {S : Nat → Prop} (h : Only S w w') (p : Addr) (hp : S p.block) (x : Value) : Only S w (w'.setCell p x) := h.grown (grownBy_setCell _ _ _) (fun k hk => by injection hk with e; rw [← e]; exact hp)
theorem PartPost.only {B n : Nat} {xs : List Value} {x0 x1 x2 : List ByteArray} (h : PartPost bo bs B v xs n x0 x1 x2 w w') : Only (fun k => k = bo ∨ k = bs ∨ v.ownBlock = some k) w w' := by
  rcases h with ⟨_, h⟩ | ⟨_, _, _, _, _, _, _, _, _, _, _, h⟩
  · exact Only.of_below h
  · exact h
end
end Go.Proofs.Ytafhefhhndmdkaa
