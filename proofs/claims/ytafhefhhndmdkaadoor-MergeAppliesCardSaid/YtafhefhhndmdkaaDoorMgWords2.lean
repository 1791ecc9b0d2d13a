/- Words for memory, on: slices of strings, owned rows of different element types. No condition. -/
import Derived.Test.YtafhefhhndmdkaaDoorMgWords
namespace Go.Proofs.YtafhefhhndmdkaaDoor
open Go.RowKit

theorem own_own_ne {w : World} {b b' : Nat} {e e' : TypeId} {size size' n n' : Nat} {v v' : Value} {xs xs' : List Value} (h : w.ownsRow b e size v n xs) (h' : w.ownsRow b' e' size' v' n' xs') (hne : e ≠ e') :
    v.ownBlock = none ∨ v.ownBlock ≠ v'.ownBlock := by
  rcases h.2 with ⟨rfl, _⟩ | ⟨g, cap, cur, rfl, _, hh, _⟩
  · exact .inl rfl
  · right
    rcases h'.2 with ⟨rfl, _⟩ | ⟨g', cap', cur', rfl, _, hh', _⟩
    · simp [Value.ownBlock]
    · intro he
      have : g = g' := by simpa [Value.ownBlock] using he
      subst this
      rw [hh] at hh'
      injection hh' with hh'
      injection hh' with _ ht
      exact hne ht
theorem own_kept {w w' : World} {b b' : Nat} {e e' : TypeId} {size size' n n' : Nat} {v v' : Value} {xs xs' : List Value} (h : w.ownsRow b e size v n xs) (h' : w.ownsRow b' e' size' v' n' xs') (hne : e ≠ e')
    (hg : w.grownBy w' v'.ownBlock) : w'.ownsRow b e size v n xs := h.kept hg (own_own_ne h h' hne)
theorem own_slice {w : World} {b : Nat} {e : TypeId} {size n : Nat} {v : Value} {xs : List Value} (h : w.ownsRow b e size v n xs) :
    ∃ A c, v = .slice A n c ∧ n ≤ c ∧ Reads w w.heap.size size A n xs := by
  have hc := h
  rcases h.2 with ⟨rfl, rfl⟩ | ⟨g, cap, cur, rfl, _, hh, hnc, _⟩
  · obtain rfl : xs = [] := List.eq_nil_of_length_eq_zero (by have := h.1; simpa using this)
    exact ⟨none, 0, rfl, Nat.le_refl _, Reads.none_⟩
  · exact ⟨_, _, rfl, hnc, Reads.of_own hc⟩
theorem own_base {w : World} {b b' : Nat} {e : TypeId} {size n : Nat} {v : Value} {xs : List Value} (h : w.ownsRow b e size v n xs) (hb : b' ≤ b) : w.ownsRow b' e size v n xs := by
  refine ⟨h.1, ?_⟩
  rcases h.2 with h1 | ⟨g, cap, cur, h1, h2, h3⟩
  · exact .inl h1
  · exact .inr ⟨g, cap, cur, h1, by omega, h3⟩
theorem own_below {w w' : World} {b : Nat} {e : TypeId} {size n : Nat} {v : Value} {xs : List Value} (h : w.ownsRow b e size v n xs) (hb : Below w.heap.size w w') : w'.ownsRow b e size v n xs :=
  h.kept (row := some w.heap.size) ⟨hb.os, hb.tape, hb.output, hb.size, fun k hk _ => hb.block k hk⟩ (by
    rcases h' : v.ownBlock with _ | g
    · exact .inl rfl
    · right; have := (h.lt g h').2; intro e; injection e with e; omega)
theorem own_drewN {w : World} {b : Nat} {e : TypeId} {size n : Nat} {v : Value} {xs : List Value} (h : w.ownsRow b e size v n xs) (m : Nat) : (w.drewN m).ownsRow b e size v n xs := h
/-- a slice of strings that lies below block B -/
def StrSl (w : World) (B : Nat) (v : Value) (ls : List ByteArray) : Prop := ∃ A c, v = .slice A ls.length c ∧ ls.length ≤ c ∧ Reads w B 1 A ls.length (ls.map Value.string)
theorem StrSl.of_own {w : World} {b : Nat} {e : TypeId} {v : Value} {ls : List ByteArray} (h : w.ownsRow b e 1 v ls.length (ls.map Value.string)) : StrSl w w.heap.size v ls := by
  obtain ⟨A, c, h1, h2, h3⟩ := own_slice h
  exact ⟨A, c, h1, h2, h3⟩
theorem StrSl.below {w w' : World} {B : Nat} {v : Value} {ls : List ByteArray} (h : StrSl w B v ls) (hb : Below B w w') : StrSl w' B v ls := by
  obtain ⟨A, c, h1, h2, h3⟩ := h
  exact ⟨A, c, h1, h2, h3.below hb⟩
theorem StrSl.more {w : World} {B B' : Nat} {v : Value} {ls : List ByteArray} (h : StrSl w B v ls) (hb : B ≤ B') : StrSl w B' v ls := by
  obtain ⟨A, c, h1, h2, h3⟩ := h
  exact ⟨A, c, h1, h2, h3.more hb⟩
theorem str_cell {w : World} {B n : Nat} {A : Option Addr} {ls : List ByteArray} (h : Reads w B 1 A n (ls.map Value.string)) {k : Nat} (hk : k < ls.length) :
    ∃ ad, A = some ad ∧ ad.block < B ∧ w.cell? (ad.add k) = some (.string ls[k]) := by
  have hn : n = ls.length := by have := h.1; simpa using this.symm
  subst hn
  obtain ⟨ad, u, h1, h2, h3, h4⟩ := h.at_ hk
  refine ⟨ad, h1, h2, h4.trans ?_⟩
  rw [List.getElem?_map, List.getElem?_eq_getElem hk] at h3
  exact h3.symm
/-- a slice of strings, read at plain addresses -/
def Strs (w : World) (B : Nat) (A : Option Addr) (c : Nat) (ls : List ByteArray) : Prop :=
  ls.length ≤ c ∧ ∀ (j : Nat) (s : ByteArray), ls[j]? = some s → ∃ b o, A = some ⟨b, o, none⟩ ∧ b < B ∧ w.cell? ⟨b, o + j, none⟩ = some (.string s)
theorem addr_add (b o j : Nat) : (⟨b, o, none⟩ : Addr).add j = ⟨b, o + j, none⟩ := by
  unfold Addr.add
  split
  · rename_i h; subst h; rfl
  · rfl
theorem Strs.of_own {w : World} {b : Nat} {e : TypeId} {v : Value} {ls : List ByteArray} (h : w.ownsRow b e 1 v ls.length (ls.map Value.string)) : ∃ A c, v = .slice A ls.length c ∧ Strs w w.heap.size A c ls := by
  have hc := h
  rcases h.2 with ⟨rfl, h0⟩ | ⟨g, cap, cur, rfl, _, hh, hnc, _⟩
  · have : ls = [] := List.eq_nil_of_length_eq_zero h0
    subst this
    exact ⟨none, 0, rfl, Nat.le_refl _, fun j s h => by simp at h⟩
  · refine ⟨_, _, rfl, hnc, fun j s hj => ⟨g, 0, rfl, (hc.lt g rfl).2, ?_⟩⟩
    have := hc.cells (g := g) rfl j (.string s) (by rw [List.getElem?_map, hj]; rfl)
    rwa [addr_add] at this
theorem Strs.below {w w' : World} {B c : Nat} {A : Option Addr} {ls : List ByteArray} (h : Strs w B A c ls) (hb : Below B w w') : Strs w' B A c ls :=
  ⟨h.1, fun j s hj => by
    obtain ⟨b, o, h1, h2, h3⟩ := h.2 j s hj
    exact ⟨b, o, h1, h2, (hb.cell (p := ⟨b, o + j, none⟩) h2).trans h3⟩⟩
theorem Strs.more {w : World} {B B' c : Nat} {A : Option Addr} {ls : List ByteArray} (h : Strs w B A c ls) (hB : B ≤ B') : Strs w B' A c ls :=
  ⟨h.1, fun j s hj => by
    obtain ⟨b, o, h1, h2, h3⟩ := h.2 j s hj
    exact ⟨b, o, h1, by omega, h3⟩⟩
theorem Strs.reads {w : World} {B c : Nat} {A : Option Addr} {ls : List ByteArray} (h : Strs w B A c ls) : Reads w B 1 A ls.length (ls.map Value.string) := by
  refine ⟨by simp, fun hn => ?_⟩
  obtain ⟨b, o, h1, h2, _⟩ := h.2 0 ls[0] (List.getElem?_eq_getElem hn)
  refine ⟨_, h1, h2, fun j u hu => ?_⟩
  rw [List.getElem?_map, Option.map_eq_some_iff] at hu
  obtain ⟨s, hs, rfl⟩ := hu
  obtain ⟨b', o', h1', _, h3'⟩ := h.2 j s hs
  rw [h1] at h1'
  simp only [Option.some.injEq, Addr.mk.injEq] at h1'
  obtain ⟨rfl, rfl, _⟩ := h1'
  rw [addr_add]; exact h3'
theorem Strs.at_ {w : World} {B c : Nat} {A : Option Addr} {ls : List ByteArray} (h : Strs w B A c ls) {k : Nat} (hk : k < ls.length) : ∃ b o, A = some ⟨b, o, none⟩ ∧ b < B ∧ w.cell? ⟨b, o + k, none⟩ = some (.string ls[k]) :=
  h.2 k ls[k] (List.getElem?_eq_getElem hk)
theorem Strs.drewN {w : World} {B c : Nat} {A : Option Addr} {ls : List ByteArray} (h : Strs w B A c ls) (n : Nat) : Strs (w.drewN n) B A c ls := h
theorem Strs.cutIf {w : World} {B c : Nat} {A : Option Addr} {ls : List ByteArray} (h : Strs w B A c ls) (k : Nat) : Strs w B (if c = k then A else A.map (fun x => x.add k)) (c - k) (ls.drop k) := by
  refine ⟨by have := h.1; simp; omega, fun j s hj => ?_⟩
  rw [List.getElem?_drop] at hj
  obtain ⟨b', o', rfl, h2, h3⟩ := h.2 (k + j) s hj
  have := (List.getElem?_eq_some_iff.1 hj).1
  have hc := h.1
  exact ⟨b', o' + k, by rw [if_neg (by omega), Option.map_some, addr_add], h2, by rw [Nat.add_assoc]; exact h3⟩
theorem Strs.take {w : World} {B c : Nat} {A : Option Addr} {ls : List ByteArray} (h : Strs w B A c ls) (k : Nat) : Strs w B A c (ls.take k) :=
  ⟨by have := h.1; simp; omega, fun j s hj => h.2 j s (by rw [List.getElem?_take] at hj; split at hj <;> simp_all)⟩
theorem Strs.alloc {w : World} {B c : Nat} {A : Option Addr} {ls : List ByteArray} (h : Strs w B A c ls) (hB : B ≤ w.heap.size) (o : Obj) : Strs (w.alloc o) B A c ls := h.below ((Below.refl _ _).alloc hB o)
theorem Strs.cut {w : World} {B c : Nat} {b o : Nat} {ls : List ByteArray} (h : Strs w B (some ⟨b, o, none⟩) c ls) (k : Nat) (A : Option Addr) (hA : k < ls.length → A = some ⟨b, o + k, none⟩) : Strs w B A (c - k) (ls.drop k) := by
  refine ⟨by have := h.1; simp; omega, fun j s hj => ?_⟩
  rw [List.getElem?_drop] at hj
  obtain ⟨b', o', h1, h2, h3⟩ := h.2 (k + j) s hj
  simp only [Option.some.injEq, Addr.mk.injEq] at h1
  obtain ⟨rfl, rfl, _⟩ := h1
  have := (List.getElem?_eq_some_iff.1 hj).1
  exact ⟨b, o + k, hA (by omega), h2, by rw [Nat.add_assoc]; exact h3⟩
theorem reads_blk {w : World} {g B : Nat} {t : TypeId} {cs : List Value} (n : Nat) (h : Blk w g t cs.toArray) (hg : g < B) (size : Nat) (hn : cs.length = n * size) : Reads w B size (some ⟨g, 0, none⟩) n cs := by
  refine ⟨hn, fun _ => ⟨_, rfl, hg, fun j u hu => ?_⟩⟩
  rw [addr_add, h.cell]
  simpa using hu
theorem own_form {w : World} {b : Nat} {e : TypeId} {size n : Nat} {v : Value} {xs : List Value} (h : w.ownsRow b e size v n xs) (hn : 0 < n) :
    ∃ g c, v = .slice (some ⟨g, 0, none⟩) n c ∧ n ≤ c ∧ b ≤ g ∧ g < w.heap.size := by
  have hc := h
  rcases h.2 with ⟨_, h0⟩ | ⟨g, cap, cur, rfl, h1, _, h2, _⟩
  · omega
  · exact ⟨g, cap, rfl, h2, h1, (hc.lt g rfl).2⟩
end Go.Proofs.YtafhefhhndmdkaaDoor
