/- The lines of a text as a plain function on bytes. No condition. -/
import Derived.Lib.IndexLaws
import Derived.Lib.IndexBytes
namespace Go.Proofs.YtafhefhhndmdkaaDoor.Mg

/-- the lines of a list of bytes -/
def lns : List UInt8 → List (List UInt8)
  | [] => []
  | c :: l => if c = 10 then [c] :: lns l else match lns l with
    | [] => [[c]]
    | x :: r => (c :: x) :: r

theorem lns_some : ∀ {l : List UInt8} {k : Nat}, Lib.indexByte l 10 = (k : Int) → k < l.length ∧ lns l = l.take (k + 1) :: lns (l.drop (k + 1))
  | [], k, h => by simp [Lib.indexByte] at h
  | c :: l, k, h => by
    unfold Lib.indexByte at h
    by_cases e : c = 10
    · subst e
      simp at h
      obtain rfl : k = 0 := by omega
      simp [lns]
    · rw [if_neg (by simpa using e)] at h
      split at h
      · omega
      · rename_i h2
        have hge := Lib.indexByte_ge l 10
        have h3 : Lib.indexByte l 10 = ((k - 1 : Nat) : Int) := by simp at h2; omega
        obtain ⟨h4, h5⟩ := lns_some h3
        have hk : 1 ≤ k := by simp at h2; omega
        refine ⟨by simp; omega, ?_⟩
        obtain ⟨j, rfl⟩ : ∃ j, k = j + 1 := ⟨k - 1, by omega⟩
        simp only [Nat.add_sub_cancel] at h5
        simp only [lns, if_neg e, h5, List.take_succ_cons, List.drop_succ_cons]
theorem lns_none : ∀ {l : List UInt8}, l ≠ [] → Lib.indexByte l 10 = -1 → lns l = [l]
  | [], h, _ => absurd rfl h
  | c :: l, _, h => by
    unfold Lib.indexByte at h
    by_cases e : c = 10
    · rw [if_pos (by simpa using e)] at h; omega
    · rw [if_neg (by simpa using e)] at h
      have h2 : Lib.indexByte l 10 = -1 := by
        split at h
        · rename_i h2; simpa using h2
        · have := Lib.indexByte_ge l 10; omega
      cases l with
      | nil => simp [lns, e]
      | cons d l =>
        have := lns_none (l := d :: l) (by simp) h2
        simp only [lns, if_neg e] at this ⊢
        rw [this]

/-- a string of bytes -/
def str (l : List UInt8) : ByteArray := ⟨l.toArray⟩
/-- the lines of a text -/
def linesOf (s : ByteArray) : List ByteArray := (lns s.data.toList).map str
theorem str_data (s : ByteArray) : str s.data.toList = s := by cases s; rfl
theorem data_str (l : List UInt8) : (str l).data.toList = l := rfl
theorem linesOf_nil {s : ByteArray} (h : s.data.toList = []) : linesOf s = [] := by unfold linesOf; rw [h]; rfl
theorem str_extract (s : ByteArray) (a b : Nat) : s.extract a b = str ((s.data.toList.drop a).take (b - a)) := by
  rw [← str_data (s.extract a b), Lib.extract_data]
theorem linesOf_none {s : ByteArray} (h : s.data.toList ≠ []) (hi : Lib.indexByte s.data.toList 10 = -1) : linesOf s = [s] := by
  unfold linesOf; rw [lns_none h hi]; simp [str_data]
theorem linesOf_some {s : ByteArray} {k : Nat} (hi : Lib.indexByte s.data.toList 10 = (k : Int)) : k < s.size ∧ linesOf s = s.extract 0 (k + 1) :: linesOf (s.extract (k + 1) s.size) := by
  obtain ⟨h1, h2⟩ := lns_some hi
  refine ⟨h1, ?_⟩
  unfold linesOf
  rw [h2, List.map_cons, Lib.extract_to_end, str_extract]; rfl
theorem lns_flat : ∀ l : List UInt8, (lns l).flatten = l
  | [] => rfl
  | c :: l => by
    unfold lns
    split
    · simp [lns_flat l]
    · have := lns_flat l
      cases h : lns l with
      | nil => rw [h] at this; simp at this; simp [← this]
      | cons x r => rw [h] at this; simp at this; simp [this]
theorem lns_ne : ∀ (l : List UInt8), ∀ x ∈ lns l, x ≠ []
  | [], x, h => by simp [lns] at h
  | c :: l, x, h => by
    have := lns_ne l
    unfold lns at h
    split at h
    · simp at h; rcases h with rfl | h
      · simp
      · exact this x h
    · cases h' : lns l with
      | nil => rw [h'] at h; simp at h; subst h; simp
      | cons y r =>
        rw [h'] at h this; simp at h; rcases h with rfl | h
        · simp
        · exact this x (by simp [h])
theorem lns_len : ∀ l : List UInt8, (lns l).length ≤ l.length
  | [] => by simp [lns]
  | c :: l => by
    have := lns_len l
    unfold lns
    split
    · simp; omega
    · cases h : lns l with
      | nil => simp
      | cons x r => rw [h] at this; simp at this ⊢; omega
theorem linesOf_len (s : ByteArray) : (linesOf s).length ≤ s.size := by
  unfold linesOf; rw [List.length_map]; exact lns_len _
end Go.Proofs.YtafhefhhndmdkaaDoor.Mg
