/- What stockyardref16.Apply computes is what merge.Apply computes, in plain words. No condition. -/
import Derived.Test.YtafhefhhndmdkaaDoorMgShortMath
namespace Go.Proofs.YtafhefhhndmdkaaDoor
open Mg

/-- whether a hunk may not stand, its lines left aside -/
def badR (n : Nat) (first : Bool) (k : Nat) (h : Hunk) : Bool :=
  decide (h.1 < k) || (!first && decide (h.1 = k)) || decide (h.2.1 < h.1) || decide ((n : Int) < h.2.1) || (decide (h.2.1 = h.1) && h.2.2.isEmpty)
theorem badH_split (n : Nat) (first : Bool) (k : Nat) (h : Hunk) : badH n first k h = (badR n first k h || h.2.2.any fun s => !wholeB s) := rfl
def rfH (la : List ByteArray) : Bool → Nat → List Hunk → Option (List ByteArray)
  | _, k, [] => some (la.drop k)
  | first, k, h :: hs => if badR la.length first k h then none else (rfH la false h.2.1.toNat hs).map fun r => (la.drop k).take (h.1.toNat - k) ++ h.2.2 ++ r
theorem rfH_bad {la : List ByteArray} {first : Bool} {k : Nat} {h : Hunk} {hs : List Hunk} (hb : badR la.length first k h = true) : rfH la first k (h :: hs) = none := by
  rw [rfH, if_pos hb]
theorem rfH_next {la : List ByteArray} {first : Bool} {k fn tn : Nat} {ls : List ByteArray} {hs : List Hunk} {o : Option (List ByteArray)} {out : List ByteArray} (hb : badR la.length first k ((fn : Int), (tn : Int), ls) = false)
    (h : o = (rfH la first k (((fn : Int), (tn : Int), ls) :: hs)).map fun r => out ++ r) : o = (rfH la false tn hs).map fun r => (out ++ (la.drop k).take (fn - k) ++ ls) ++ r := by
  rw [h, rfH, if_neg (by simp [hb]), Option.map_map]
  simp only [Int.toNat_natCast]
  congr 1
  funext r
  simp [List.append_assoc]
theorem badR_no {n k fn tn : Nat} {first : Bool} {ls : List ByteArray} (h1 : k ≤ fn) (h2 : first = true ∨ k < fn) (h3 : fn ≤ tn) (h4 : tn ≤ n) (h5 : ¬ (tn = fn ∧ ls.length = 0)) : badR n first k ((fn : Int), (tn : Int), ls) = false := by
  have h := badH_no (ls := ls) h1 h2 h3 h4 h5
  by_cases hw : (ls.any fun s => !wholeB s) = false
  · have := h hw
    rw [badH_split] at this
    exact (Bool.or_eq_false_iff.1 this).1
  · have hl : ls ≠ [] := by rintro rfl; exact hw rfl
    have h0 := badH_no (ls := [str [10]]) h1 h2 h3 h4 (by simp) (by decide)
    rw [badH_split] at h0
    have h9 := (Bool.or_eq_false_iff.1 h0).1
    unfold badR at h9 ⊢
    simp only [Bool.or_eq_false_iff] at h9 ⊢
    refine ⟨h9.1, ?_⟩
    cases ls with
    | nil => exact absurd rfl hl
    | cons x l => simp
/-- all lines of hunks are single lines -/
def wholes (hs : List Hunk) : Bool := hs.all fun h => h.2.2.all wholeB
theorem any_not (l : List ByteArray) : (l.any fun s => !wholeB s) = !(l.all wholeB) := by
  induction l with
  | nil => rfl
  | cons x l ih => simp only [List.any_cons, List.all_cons, ih, Bool.not_and]
theorem apH_rf (la : List ByteArray) : ∀ (hs : List Hunk) (first : Bool) (k : Nat), apH la first k hs = if wholes hs then rfH la first k hs else none
  | [], _, _ => rfl
  | h :: hs, first, k => by
    have ih := apH_rf la hs false h.2.1.toNat
    rw [apH, rfH, badH_split, any_not]
    have hw : wholes (h :: hs) = (h.2.2.all wholeB && wholes hs) := rfl
    rw [hw]
    rcases h.2.2.all wholeB with _ | _
    · simp
    · rcases badR la.length first k h with _ | _
      · simp only [Bool.not_true, Bool.or_self, Bool.false_eq_true, if_false, Bool.true_and, ih]
        split <;> simp
      · simp
theorem rfH_all (la : List ByteArray) (hla : la.all wholeB = true) : ∀ (hs : List Hunk) (first : Bool) (k : Nat) (out : List ByteArray), rfH la first k hs = some out → out.all wholeB = wholes hs
  | [], _, k, out, h => by
    rw [rfH] at h
    injection h with h
    subst h
    rw [List.all_eq_true] at hla
    have e : wholes [] = true := rfl
    rw [e, List.all_eq_true]
    exact fun s hs => hla s (List.mem_of_mem_drop hs)
  | h :: hs, first, k, out, hh => by
    rw [rfH] at hh
    split at hh
    · cases hh
    · obtain ⟨r, hr, rfl⟩ := Option.map_eq_some_iff.1 hh
      have ih := rfH_all la hla hs false _ r hr
      have hw : wholes (h :: hs) = (h.2.2.all wholeB && wholes hs) := rfl
      have h0 : ((la.drop k).take (h.1.toNat - k)).all wholeB = true := by
        rw [List.all_eq_true] at hla ⊢
        exact fun s hs => hla s (List.mem_of_mem_drop (List.mem_of_mem_take hs))
      rw [List.all_append, List.all_append, h0, ih, hw, Bool.true_and]
/-- what the reference makes of a text -/
def refP (a : ByteArray) (hs : List Hunk) : Option ByteArray := match rfH (linesOf a) true 0 hs with
  | none => none
  | some out => if out.all wholeB && endsB out then some (joinS out) else none
theorem refP_eq (a : ByteArray) (hs : List Hunk) : refP a hs = applyP a hs := by
  unfold refP applyP
  rw [apH_rf]
  have hla : (linesOf a).all wholeB = true := by rw [List.all_eq_true]; exact linesOf_whole a
  rcases hr : rfH (linesOf a) true 0 hs with _ | out
  · rcases wholes hs <;> rfl
  · have := rfH_all _ hla hs true 0 out hr
    simp only [this]
    rcases wholes hs with _ | _
    · rfl
    · simp
theorem one_line (s : ByteArray) : (linesOf s).length = 1 ↔ wholeB s = true := by
  constructor
  · intro h
    obtain ⟨x, hx⟩ := List.length_eq_one_iff.1 h
    have h1 := joinS_lines s
    rw [hx] at h1
    have h2 := linesOf_whole s x (by rw [hx]; exact .head _)
    have h3 : x = s := by
      rw [← h1]
      apply ByteArray.ext
      apply Array.toList_inj.1
      rw [joinS_flat]
      simp
    rwa [h3] at h2
  · intro h
    have hs : str s.data.toList = s := str_data s
    rw [← hs] at h
    obtain ⟨h1, h2⟩ := whole_parts h
    unfold linesOf
    rw [lns_last _ h1 h2]
    rfl
end Go.Proofs.YtafhefhhndmdkaaDoor
