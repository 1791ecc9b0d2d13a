/- No script of a text leaves more of its lines than the script to the text that it makes. No condition. -/
import Derived.Test.YtafhefhhndmdkaaDoorMgBackMath
namespace Go.Proofs.YtafhefhhndmdkaaDoor
open Mg

theorem L_pre (u : List ByteArray) : ∀ v w : List ByteArray, u.length + L v w ≤ L (u ++ v) (u ++ w) := by
  induction u with
  | nil => intro v w; simp
  | cons x u ih =>
    intro v w
    have := ih v w
    simp only [List.cons_append, List.length_cons]
    rw [L_cons, if_pos rfl]
    omega
theorem L_left (u : List ByteArray) : ∀ v w : List ByteArray, L v w ≤ L (u ++ v) w := by
  induction u with
  | nil => intro v w; exact Nat.le_refl _
  | cons x u ih => intro v w; exact Nat.le_trans (ih v w) (L_le_a x (u ++ v) w)

/-- how many lines hunks take away -/
def cutI (hs : List Hunk) : Int := (hs.map fun h => h.2.1 - h.1).sum
/-- hunks within n lines -/
def inR (n : Int) (hs : List Hunk) : Prop := ∀ h ∈ hs, 0 ≤ h.1 ∧ h.1 ≤ h.2.1 ∧ h.2.1 ≤ n

theorem badH_parts {n k : Nat} {first : Bool} {h : Hunk} (hb : badH n first k h = false) : (k : Int) ≤ h.1 ∧ h.1 ≤ h.2.1 ∧ h.2.1 ≤ n ∧ ∀ s ∈ h.2.2, wholeB s = true := by
  unfold badH at hb
  simp only [Bool.or_eq_false_iff, decide_eq_false_iff_not, Int.not_lt] at hb
  obtain ⟨⟨⟨⟨⟨h1, _⟩, h3⟩, h4⟩, _⟩, h6⟩ := hb
  refine ⟨h1, h3, h4, fun s hs => ?_⟩
  rw [List.any_eq_false] at h6
  simpa using h6 s hs

theorem apH_kept (la : List ByteArray) : ∀ (hs : List Hunk) (first : Bool) (k : Nat) (r : List ByteArray), k ≤ la.length → apH la first k hs = some r →
    ((la.length : Int) - k) - cutI hs ≤ L (la.drop k) r ∧ inR la.length hs ∧ ((∀ s ∈ la, wholeB s = true) → ∀ s ∈ r, wholeB s = true)
  | [], first, k, r, hk, h => by
    simp only [apH, Option.some.injEq] at h
    subst h
    refine ⟨?_, fun h hh => by simp at hh, fun hw s hs => hw s (List.mem_of_mem_drop hs)⟩
    rw [L_self]
    simp [cutI]; omega
  | h :: hs, first, k, r, hk, hr => by
    by_cases hb : badH la.length first k h = true
    · rw [apH_bad hb] at hr; cases hr
    · have hb' : badH la.length first k h = false := by simpa using hb
      rw [apH_good hb'] at hr
      obtain ⟨h1, h2, h3, h4⟩ := badH_parts hb'
      obtain ⟨f, t, ls⟩ := h
      simp only at h1 h2 h3 h4 hr
      obtain ⟨fn, rfl⟩ := Int.eq_ofNat_of_zero_le (show 0 ≤ f by omega)
      obtain ⟨tn, rfl⟩ := Int.eq_ofNat_of_zero_le (show 0 ≤ t by omega)
      simp only [Int.toNat_natCast] at hr
      cases hr' : apH la false tn hs with
      | none => rw [hr'] at hr; simp at hr
      | some r' =>
        rw [hr'] at hr
        simp only [Option.map_some, Option.some.injEq] at hr
        subst hr
        obtain ⟨i1, i2, i3⟩ := apH_kept la hs false tn r' (by omega) hr'
        refine ⟨?_, ?_, ?_⟩
        · have e1 : la.drop k = (la.drop k).take (fn - k) ++ ((la.drop fn).take (tn - fn) ++ la.drop tn) := by
            have a1 : la.drop tn = (la.drop fn).drop (tn - fn) := by rw [List.drop_drop, show fn + (tn - fn) = tn from by omega]
            have a2 : la.drop fn = (la.drop k).drop (fn - k) := by rw [List.drop_drop, show k + (fn - k) = fn from by omega]
            rw [a1, List.take_append_drop, a2, List.take_append_drop]
          have b1 := L_pre ((la.drop k).take (fn - k)) ((la.drop fn).take (tn - fn) ++ la.drop tn) (ls ++ r')
          rw [← e1, ← List.append_assoc] at b1
          have b2 := L_left ((la.drop fn).take (tn - fn)) (la.drop tn) (ls ++ r')
          have b3 := L_le_append (la.drop tn) ls r'
          have b4 : ((la.drop k).take (fn - k)).length = fn - k := by simp; omega
          have b5 : cutI (((fn : Int), (tn : Int), ls) :: hs) = ((tn : Int) - fn) + cutI hs := by simp [cutI]
          rw [b5]
          omega
        · intro x hx
          rcases List.mem_cons.1 hx with rfl | hx
          · exact ⟨by simp, h2, h3⟩
          · exact i2 x hx
        · intro hw s hs'
          rcases List.mem_append.1 hs' with h | h
          · rcases List.mem_append.1 h with h | h
            · exact hw s (List.mem_of_mem_drop (List.mem_of_mem_take h))
            · exact h4 s h
          · exact i3 hw s h

theorem scr_cut (lb : List ByteArray) (na nb : Nat) : ∀ (ps : List (Nat × Nat)) (i j : Nat), i ≤ na → Asc na nb i j (ps ++ [(na, nb)]) → (∀ p ∈ ps, p.1 < na) → cutI (hunksI (scr lb i j (ps ++ [(na, nb)]))) = ((na : Int) - i) - ps.length
  | [], i, j, hi, _, _ => by
    simp only [List.nil_append]
    by_cases he : (na, nb) = (i, j)
    · obtain ⟨rfl, rfl⟩ : na = i ∧ nb = j := by simpa using he
      rw [scr_same]; simp [scr, hunksI, cutI]
    · rw [scr_other _ _ _ _ _ he]
      simp [scr, hunksI, cutI]
  | p :: ps, i, j, hi, h, hlt => by
    obtain ⟨a1, a2, a3, a4, a5⟩ := h
    have hp := hlt p (List.mem_cons_self ..)
    have ih := scr_cut lb na nb ps (p.1 + 1) (p.2 + 1) (by omega) a5 (fun q hq => hlt q (List.mem_cons_of_mem _ hq))
    by_cases he : p = (i, j)
    · subst he
      simp only [List.cons_append]
      rw [scr_same, ih]
      simp; omega
    · simp only [List.cons_append]
      rw [scr_other _ _ _ _ _ he]
      have e : cutI (hunksI ((i, p.1, (lb.drop j).take (p.2 - j)) :: scr lb (p.1 + 1) (p.2 + 1) (ps ++ [(na, nb)]))) = ((p.1 : Int) - i) + cutI (hunksI (scr lb (p.1 + 1) (p.2 + 1) (ps ++ [(na, nb)]))) := by simp [cutI, hunksI]
      rw [e, ih]
      simp; omega
theorem script_cut (la lb : List ByteArray) : (la.length : Int) - cutI (hunksI (script la lb)) = L la lb := by
  unfold script
  rw [scr_cut lb la.length lb.length (prs 0 0 la lb) 0 0 (Nat.zero_le _) (prs_asc la lb 0 0 _ _ (Nat.zero_add _) (Nat.zero_add _)) (fun p hp => by
    obtain ⟨_, _, s, h1, _⟩ := prs_eq la lb 0 0 p hp
    have := (List.getElem?_eq_some_iff.1 h1).1
    simpa using this), prs_len]
  omega
theorem scr_inR (lb : List ByteArray) (na nb : Nat) : ∀ (ps : List (Nat × Nat)) (i j : Nat), Asc na nb i j ps → inR na (hunksI (scr lb i j ps))
  | [], i, j, _ => by intro h hh; simp [scr, hunksI] at hh
  | p :: ps, i, j, h => by
    obtain ⟨a1, a2, a3, a4, a5⟩ := h
    have ih := scr_inR lb na nb ps (p.1 + 1) (p.2 + 1) a5
    by_cases he : p = (i, j)
    · subst he; rw [scr_same]; exact ih
    · rw [scr_other _ _ _ _ _ he]
      intro x hx
      simp only [hunksI, List.map_cons] at hx
      rcases List.mem_cons.1 hx with rfl | hx
      · exact ⟨by simp, by simp; omega, by simp; omega⟩
      · exact ih x hx

/-- a line: no line feed but at its end -/
theorem whole_parts {x : List UInt8} (h : wholeB (str x) = true) : x ≠ [] ∧ ∀ j, j + 1 < x.length → x[j]? ≠ some 10 := by
  unfold wholeB at h
  rw [data_str] at h
  have e : (str x).size = x.length := rfl
  rw [e] at h
  simp only [Bool.and_eq_true, Bool.not_eq_true', decide_eq_false_iff_not, Int.not_le] at h
  obtain ⟨h1, h2⟩ := h
  have hi : Lib.indexByte (x.take (x.length - 1)) 10 = -1 := by have := Lib.indexByte_ge (x.take (x.length - 1)) 10; omega
  refine ⟨by rintro rfl; simp at h1, fun j hj hx => ?_⟩
  apply Lib.indexByte_none hi j
  rw [List.getElem?_take, if_pos (by omega)]
  exact hx
theorem lns_line : ∀ (x l : List UInt8), x ≠ [] → (∀ j, j + 1 < x.length → x[j]? ≠ some 10) → Lib.hasSuffix x [10] = true → lns (x ++ l) = x :: lns l
  | [], _, h, _, _ => absurd rfl h
  | [c], l, _, _, h => by
    have : c = 10 := by
      unfold Lib.hasSuffix at h
      rw [List.isSuffixOf_iff_suffix] at h
      have := List.suffix_iff_eq_append.1 h
      simpa using this.symm
    subst this
    simp [lns]
  | c :: d :: x, l, _, hn, h => by
    have hc : c ≠ 10 := fun e => hn 0 (by simp) (by simp [e])
    have ih := lns_line (d :: x) l (by simp) (fun j hj => by have := hn (j + 1) (by simp at hj ⊢; omega); simpa using this) (by
      unfold Lib.hasSuffix at h ⊢
      rw [List.isSuffixOf_iff_suffix] at h ⊢
      rcases List.suffix_cons_iff.1 h with h | h
      · simp at h
      · exact h)
    simp only [List.cons_append] at ih ⊢
    rw [lns, if_neg hc, ih]
theorem lns_last : ∀ (x : List UInt8), x ≠ [] → (∀ j, j + 1 < x.length → x[j]? ≠ some 10) → lns x = [x]
  | [], h, _ => absurd rfl h
  | [c], _, _ => by unfold lns; split <;> simp [lns]
  | c :: d :: x, _, hn => by
    have hc : c ≠ 10 := fun e => hn 0 (by simp) (by simp [e])
    have ih := lns_last (d :: x) (by simp) (fun j hj => by have := hn (j + 1) (by simp at hj ⊢; omega); simpa using this)
    rw [lns, if_neg hc, ih]
theorem lns_join : ∀ (l : List ByteArray), (∀ s ∈ l, wholeB s = true) → endsB l = true → lns ((l.map (·.data.toList)).flatten) = l.map (·.data.toList)
  | [], _, _ => rfl
  | [s], hw, _ => by
    have := whole_parts (x := s.data.toList) (by rw [str_data]; exact hw s (by simp))
    simp only [List.map_cons, List.map_nil, List.flatten_cons, List.flatten_nil, List.append_nil]
    exact lns_last _ this.1 this.2
  | s :: t :: r, hw, he => by
    have := whole_parts (x := s.data.toList) (by rw [str_data]; exact hw s (by simp))
    unfold endsB at he
    rw [Bool.and_eq_true] at he
    have ih := lns_join (t :: r) (fun u hu => hw u (List.mem_cons_of_mem _ hu)) he.2
    rw [List.map_cons, List.flatten_cons, lns_line _ _ this.1 this.2 he.1, ih]
theorem linesOf_join (l : List ByteArray) (hw : ∀ s ∈ l, wholeB s = true) (he : endsB l = true) : linesOf (joinS l) = l := by
  unfold linesOf
  rw [joinS_flat, lns_join l hw he, List.map_map]
  have : (str ∘ fun x : ByteArray => x.data.toList) = id := by funext x; exact str_data x
  rw [this, List.map_id]
/-- how many bytes lines have -/
def fl (l : List ByteArray) : Nat := ((l.map (·.data.toList)).flatten).length
theorem fl_append (u v : List ByteArray) : fl (u ++ v) = fl u + fl v := by simp [fl]
theorem apH_bytes (la : List ByteArray) : ∀ (hs : List Hunk) (first : Bool) (k : Nat) (r : List ByteArray), k ≤ la.length → apH la first k hs = some r → fl r ≤ fl (la.drop k) + (hs.map fun h => fl h.2.2).sum
  | [], first, k, r, hk, h => by
    simp only [apH, Option.some.injEq] at h
    subst h; simp
  | h :: hs, first, k, r, hk, hr => by
    by_cases hb : badH la.length first k h = true
    · rw [apH_bad hb] at hr; cases hr
    · have hb' : badH la.length first k h = false := by simpa using hb
      rw [apH_good hb'] at hr
      obtain ⟨h1, h2, h3, _⟩ := badH_parts hb'
      obtain ⟨f, t, ls⟩ := h
      simp only at h1 h2 h3 hr
      obtain ⟨fn, rfl⟩ := Int.eq_ofNat_of_zero_le (show 0 ≤ f by omega)
      obtain ⟨tn, rfl⟩ := Int.eq_ofNat_of_zero_le (show 0 ≤ t by omega)
      simp only [Int.toNat_natCast] at hr
      cases hr' : apH la false tn hs with
      | none => rw [hr'] at hr; simp at hr
      | some r' =>
        rw [hr'] at hr
        simp only [Option.map_some, Option.some.injEq] at hr
        subst hr
        have ih := apH_bytes la hs false tn r' (by omega) hr'
        have e1 : la.drop k = (la.drop k).take (fn - k) ++ ((la.drop fn).take (tn - fn) ++ la.drop tn) := by
          have a1 : la.drop tn = (la.drop fn).drop (tn - fn) := by rw [List.drop_drop, show fn + (tn - fn) = tn from by omega]
          have a2 : la.drop fn = (la.drop k).drop (fn - k) := by rw [List.drop_drop, show k + (fn - k) = fn from by omega]
          rw [a1, List.take_append_drop, a2, List.take_append_drop]
        have e2 := congrArg fl e1
        rw [fl_append, fl_append] at e2
        rw [fl_append, fl_append]
        simp only [List.map_cons, List.sum_cons]
        omega
theorem fl_le (l : List ByteArray) (m : Nat) (h : ∀ s ∈ l, s.size ≤ m) : fl l ≤ l.length * m := by
  have := flat_size (l.map (·.data.toList)) m (fun x hx => by
    rw [List.mem_map] at hx
    obtain ⟨s, hs, rfl⟩ := hx
    exact h s hs)
  rwa [List.length_map] at this
theorem apply_bytes (a b : ByteArray) (hs : List Hunk) (h : applyP a hs = some b) (hl : ∀ h ∈ hs, h.2.2.length ≤ 20 ∧ ∀ s ∈ h.2.2, s.size ≤ 1000) : b.size ≤ a.size + hs.length * 20000 := by
  unfold applyP at h
  cases hap : apH (linesOf a) true 0 hs with
  | none => rw [hap] at h; simp at h
  | some out =>
    rw [hap] at h
    simp only at h
    by_cases he : endsB out = true
    · rw [if_pos he] at h
      simp only [Option.some.injEq] at h
      subst h
      have h1 := apH_bytes (linesOf a) hs true 0 out (Nat.zero_le _) hap
      have h2 : fl (linesOf a) = a.size := by
        have := congrArg (fun s : ByteArray => s.data.toList.length) (joinS_lines a)
        simp only [joinS_flat] at this
        exact this
      have h3 : (joinS out).size = fl out := by
        have := congrArg List.length (joinS_flat out)
        exact this
      have h4 : ∀ l : List Hunk, (∀ h ∈ l, h.2.2.length ≤ 20 ∧ ∀ s ∈ h.2.2, s.size ≤ 1000) → (l.map fun h => fl h.2.2).sum ≤ l.length * 20000 := by
        intro l
        induction l with
        | nil => intro _; simp
        | cons x l ih =>
          intro hx
          have i1 := ih fun h hh => hx h (List.mem_cons_of_mem _ hh)
          have i2 := hx x (List.mem_cons_self ..)
          have i3 := fl_le x.2.2 1000 i2.2
          simp only [List.map_cons, List.sum_cons, List.length_cons]
          have i4 := i2.1
          omega
      have h5 := h4 hs hl
      rw [List.drop_zero] at h1
      omega
    · rw [if_neg he] at h; cases h
/-- the law's heart -/
theorem shortest (a b : ByteArray) (hs : List Hunk) (h : applyP a hs = some b) :
    ((linesOf a).length : Int) - cutI hs ≤ ((linesOf a).length : Int) - cutI (hunksI (script (linesOf a) (linesOf b))) ∧ inR (linesOf a).length hs := by
  unfold applyP at h
  cases hap : apH (linesOf a) true 0 hs with
  | none => rw [hap] at h; simp at h
  | some out =>
    rw [hap] at h
    simp only at h
    by_cases he : endsB out = true
    · rw [if_pos he] at h
      simp only [Option.some.injEq] at h
      subst h
      obtain ⟨h1, h2, h3⟩ := apH_kept (linesOf a) hs true 0 out (Nat.zero_le _) hap
      rw [script_cut, linesOf_join out (h3 (linesOf_whole a)) he]
      simp only [List.drop_zero] at h1
      exact ⟨by simpa using h1, h2⟩
    · rw [if_neg he] at h; cases h
end Go.Proofs.YtafhefhhndmdkaaDoor
