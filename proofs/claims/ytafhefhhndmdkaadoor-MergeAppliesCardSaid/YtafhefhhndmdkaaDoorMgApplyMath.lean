/- What a script makes of a list of lines, as a plain function. No condition. -/
import Derived.Test.YtafhefhhndmdkaaDoorMgWhole
namespace Go.Proofs.YtafhefhhndmdkaaDoor
open Mg

/-- a hunk that may be any: from, to, lines -/
abbrev Hunk := Int × Int × List ByteArray

/-- whether a hunk may not stand -/
def badH (n : Nat) (first : Bool) (k : Nat) (h : Hunk) : Bool :=
  decide (h.1 < k) || (!first && decide (h.1 = k)) || decide (h.2.1 < h.1) || decide ((n : Int) < h.2.1) || (decide (h.2.1 = h.1) && h.2.2.isEmpty) || h.2.2.any fun s => !wholeB s
/-- the lines from line k on that hunks make -/
def apH (la : List ByteArray) : Bool → Nat → List Hunk → Option (List ByteArray)
  | _, k, [] => some (la.drop k)
  | first, k, h :: hs => if badH la.length first k h then none else (apH la false h.2.1.toNat hs).map fun r => (la.drop k).take (h.1.toNat - k) ++ h.2.2 ++ r
/-- whether all lines but the last end with a line feed -/
def endsB : List ByteArray → Bool
  | [] => true
  | [_] => true
  | s :: t :: r => Lib.hasSuffix s.data.toList [10] && endsB (t :: r)
/-- the text of lines -/
def joinS (l : List ByteArray) : ByteArray := ⟨(Lib.join (l.map (·.data.toList)) []).toArray⟩
/-- what a script makes of a text -/
def applyP (a : ByteArray) (hs : List Hunk) : Option ByteArray := match apH (linesOf a) true 0 hs with
  | none => none
  | some out => if endsB out then some (joinS out) else none

theorem apH_bad {la : List ByteArray} {first : Bool} {k : Nat} {h : Hunk} {hs : List Hunk} (hb : badH la.length first k h = true) : apH la first k (h :: hs) = none := by
  rw [apH, if_pos hb]
theorem apH_good {la : List ByteArray} {first : Bool} {k : Nat} {h : Hunk} {hs : List Hunk} (hb : badH la.length first k h = false) : apH la first k (h :: hs) = (apH la false h.2.1.toNat hs).map fun r => (la.drop k).take (h.1.toNat - k) ++ h.2.2 ++ r := by
  rw [apH, if_neg (by simp [hb])]
theorem badH_no {n k fn tn : Nat} {first : Bool} {ls : List ByteArray} (h1 : k ≤ fn) (h2 : first = true ∨ k < fn) (h3 : fn ≤ tn) (h4 : tn ≤ n) (h5 : ¬ (tn = fn ∧ ls.length = 0)) (h6 : (ls.any fun s => !wholeB s) = false) :
    badH n first k ((fn : Int), (tn : Int), ls) = false := by
  unfold badH
  have e1 : decide ((fn : Int) < (k : Int)) = false := by simp; omega
  have e2 : (!first && decide ((fn : Int) = (k : Int))) = false := by
    rcases h2 with h | h
    · rw [h]; rfl
    · rw [decide_eq_false (by omega)]; simp
  have e3 : decide ((tn : Int) < (fn : Int)) = false := by simp; omega
  have e4 : decide ((n : Int) < (tn : Int)) = false := by simp; omega
  have e5 : (decide ((tn : Int) = (fn : Int)) && ls.isEmpty) = false := by
    by_cases h : tn = fn
    · have : ls ≠ [] := by rintro rfl; exact h5 ⟨h, rfl⟩
      cases ls with
      | nil => exact absurd rfl this
      | cons x l => simp
    · rw [decide_eq_false (by omega)]; rfl
  simp only [e1, e2, e3, e4, e5, h6, Bool.or_self]
theorem apH_next {la : List ByteArray} {first : Bool} {k fn tn : Nat} {ls : List ByteArray} {hs : List Hunk} {o : Option (List ByteArray)} {out : List ByteArray} (hb : badH la.length first k ((fn : Int), (tn : Int), ls) = false)
    (h : o = (apH la first k (((fn : Int), (tn : Int), ls) :: hs)).map fun r => out ++ r) : o = (apH la false tn hs).map fun r => (out ++ (la.drop k).take (fn - k) ++ ls) ++ r := by
  rw [h, apH_good hb, Option.map_map]
  simp only [Int.toNat_natCast]
  congr 1
  funext r
  simp [List.append_assoc]
theorem endsB_all : ∀ (l : List ByteArray), (∀ j s, j + 1 < l.length → l[j]? = some s → Lib.hasSuffix s.data.toList [10] = true) → endsB l = true
  | [], _ => rfl
  | [_], _ => rfl
  | s :: t :: r, h => by
    unfold endsB
    rw [h 0 s (by simp) rfl, endsB_all (t :: r) (fun j u h1 h2 => h (j + 1) u (by simp at h1 ⊢; omega) (by simpa using h2))]
    rfl
theorem endsB_not : ∀ (l : List ByteArray) (j : Nat) (s : ByteArray), j + 1 < l.length → l[j]? = some s → Lib.hasSuffix s.data.toList [10] = false → endsB l = false
  | [], _, _, h, _, _ => by simp at h
  | [_], j, _, h, _, _ => by simp at h
  | s :: t :: r, 0, u, _, h2, h3 => by
    simp at h2; subst h2
    unfold endsB; rw [h3]; rfl
  | s :: t :: r, j + 1, u, h1, h2, h3 => by
    unfold endsB
    rw [endsB_not (t :: r) j u (by simp at h1 ⊢; omega) (by simpa using h2) h3]
    simp
theorem join_flat (l : List (List UInt8)) : Lib.join l [] = l.flatten := by
  cases l with
  | nil => rfl
  | cons x r => rw [Lib.join_cons]; unfold Lib.joinTail; simp
theorem flat_size : ∀ (l : List (List UInt8)) (m : Nat), (∀ x ∈ l, x.length ≤ m) → l.flatten.length ≤ l.length * m
  | [], _, _ => by simp
  | x :: l, m, h => by
    have h1 := flat_size l m (fun y hy => h y (List.mem_cons_of_mem _ hy))
    have h2 := h x (List.mem_cons_self ..)
    simp only [List.flatten_cons, List.length_append, List.length_cons, Nat.succ_mul]
    omega
theorem joinS_flat (l : List ByteArray) : (joinS l).data.toList = (l.map (·.data.toList)).flatten := by
  unfold joinS; rw [join_flat]
theorem mem_flat_len : ∀ (l : List (List UInt8)) (x : List UInt8), x ∈ l → x.length ≤ l.flatten.length
  | [], _, h => by simp at h
  | y :: l, x, h => by
    simp only [List.flatten_cons, List.length_append]
    rcases List.mem_cons.1 h with rfl | h
    · omega
    · have := mem_flat_len l x h; omega
theorem linesOf_size (s : ByteArray) : ∀ x ∈ linesOf s, x.size ≤ s.size := by
  intro x hx
  unfold linesOf at hx
  rw [List.mem_map] at hx
  obtain ⟨y, hy, rfl⟩ := hx
  have h := mem_flat_len _ y hy
  rw [lns_flat] at h
  exact h
end Go.Proofs.YtafhefhhndmdkaaDoor
