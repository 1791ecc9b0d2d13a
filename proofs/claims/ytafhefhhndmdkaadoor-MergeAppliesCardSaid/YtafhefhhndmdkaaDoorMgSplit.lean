/- strings.SplitAfter at a line end, and stockyardref16.Lines: the lines of a text; for texts of at most a million bytes. -/
import Derived.Test.YtafhefhhndmdkaaDoorMgLines
import Derived.Test.YtafhefhhndmdkaaDoorMgShelf2
import Derived.Test.YtafhefhhndmdkaaDoorMgWords2
import Derived.Outline
import Derived.Deep.DeepCutAuto
namespace Go.Proofs.YtafhefhhndmdkaaDoor
open Go.RowKit Mg

theorem count_none {l : List UInt8} (h : Lib.indexByte l 10 = -1) : l.count 10 = 0 := by
  rw [List.count_eq_zero]
  intro hm
  obtain ⟨k, hk⟩ := List.mem_iff_getElem?.1 hm
  exact Lib.indexByte_none h k hk
theorem count_some {l : List UInt8} {k : Nat} (h : Lib.indexByte l 10 = (k : Int)) : l.count 10 = (l.drop (k + 1)).count 10 + 1 := by
  obtain ⟨h1, h2⟩ := Lib.indexByte_some h
  have hlt := (List.getElem?_eq_some_iff.1 h1).1
  have he := (List.getElem?_eq_some_iff.1 h1).2
  conv => lhs; rw [← List.take_append_drop k l]
  rw [List.count_append, List.drop_eq_getElem_cons hlt, he, List.count_cons_self]
  have h0 : (l.take k).count 10 = 0 := by
    rw [List.count_eq_zero]
    intro hm
    obtain ⟨j, hj⟩ := List.mem_iff_getElem?.1 hm
    rw [List.getElem?_take] at hj
    split at hj
    · rename_i hjk; exact h2 j hjk hj
    · cases hj
  omega
theorem count_zero {l : List UInt8} (h : l.count 10 = 0) : Lib.indexByte l 10 = -1 := by
  have h1 := Lib.indexByte_ge l 10
  rcases Int.lt_or_le (Lib.indexByte l 10) 0 with h2 | h2
  · omega
  · obtain ⟨k, hk⟩ := Int.eq_ofNat_of_zero_le h2
    have := count_some hk
    omega
theorem count_pos {l : List UInt8} (h : 0 < l.count 10) : ∃ k : Nat, Lib.indexByte l 10 = (k : Int) := by
  have h1 := Lib.indexByte_ge l 10
  rcases Int.lt_or_le (Lib.indexByte l 10) 0 with h2 | h2
  · have := count_none (l := l) (by omega); omega
  · exact Int.eq_ofNat_of_zero_le h2
/-- the pieces of a text behind each line end: its lines, and a last piece that may be empty -/
def pcs (s : ByteArray) (d : List ByteArray) (r : ByteArray) : Prop := linesOf s = d ++ linesOf r

set_option maxHeartbeats 2000000 in
set_option maxRecDepth 100000 in
theorem genSplit_any (s : ByteArray) (w : World) (hs : s.size ≤ 1000000) :
    Calls Tryd.prog 48 #[.string s, .string ⟨#[10]⟩, .int .i64 1, .int .i64 (-1)] w fun e w' => ∃ g N d r, e = .returned (.slice (some ⟨g, 0, none⟩) (d.length + 1) N) ∧ d.length + 1 ≤ N ∧ linesOf s = d ++ linesOf r ∧ r.data.toList.count 10 = 0 ∧
      d.length ≤ 1000000 ∧ g < w'.heap.size ∧ (∀ (j : Nat) (x : ByteArray), (d ++ [r])[j]? = some x → w'.cell? ⟨g, j, none⟩ = some (.string x)) ∧ Below w.heap.size w w' := by
  obtain ⟨c, hc⟩ : ∃ c, c = s.data.toList.count 10 := ⟨_, rfl⟩
  have hcs : c ≤ s.size := by rw [hc]; have := List.count_le_length (a := (10 : UInt8)) (l := s.data.toList); rwa [Array.length_toList] at this
  have HCn := Lib.hid ((Tryd.strings_Count_one s 10 w).mono (fun e w' h => show e = .returned (.int .i64 (c : Nat)) ∧ w = w' from ⟨by rw [hc]; exact h.1, h.2.symm⟩))
  have HIx := Lib.hid (fun (t : ByteArray) (W : World) => (Tryd.strings_Index_one t 10 W).mono fun _ _ h => And.intro h.1 h.2.symm)
  have HC := Lib.hid hc
  clear hc
  have hmk := run_make_row' (P := Tryd.prog) 30 9 (.string ⟨#[]⟩) 16 Tryd.underlying30 str_info rfl .i64 .i64 (c + 1) (by omega) (by omega)
  have e1 : ((c + 1 : Nat) : Int) = (c : Int) + 1 := by omega
  simp only [e1] at hmk
  clear e1
  have hmin : min (c : Int) (s.size : Int) = (c : Int) := by omega
  go_enter Tryd.func48, Tryd.ntmps48
  go_wp2_with (go_at_call 23; refine HCn.out.mono ?_; rintro e w1 ⟨rfl, rfl⟩)
  have hb0 := Blk.new w 9 (madeCells #[Value.string ⟨#[]⟩] (c + 1))
  have hz0 : (madeCells #[Value.string ⟨#[]⟩] (c + 1)).size = c + 1 := by simp [madeCells]
  have hbw0 : Below w.heap.size w (w.alloc (.cells (madeCells #[Value.string ⟨#[]⟩] (c + 1)) 9)) := (Below.refl _ _).alloc (Nat.le_refl _) _
  clear hmk hmin
  generalize madeCells #[Value.string ⟨#[]⟩] (c + 1) = cs0 at *
  generalize w.alloc (.cells cs0 9) = w1 at *
  go_loopg [0, 10] c (fun gk t iv wr => ∃ (t0 : ByteArray) (d : List ByteArray) (cs : Array Value), t = .string t0 ∧ iv = .int .i64 d.length ∧ d.length ≤ c ∧ c - d.length ≤ gk ∧ t0.size ≤ s.size ∧ Hid (d.length + t0.data.toList.count 10 = c) ∧ Hid (linesOf s = d ++ linesOf t0) ∧
      Blk wr w.heap.size 9 cs ∧ Hid (cs.size = c + 1) ∧ Hid (∀ (j : Nat) (x : ByteArray), d[j]? = some x → cs[j]? = some (Value.string x)) ∧ Below w.heap.size w wr)
  case atStart => exact ⟨s, [], cs0, rfl, rfl, Nat.zero_le _, by omega, Nat.le_refl _, Lib.hid (by rw [HC.out]; simp), Lib.hid rfl, hb0, Lib.hid hz0, Lib.hid (fun j x h => by simp at h), hbw0⟩
  case round =>
    clear hb0 hz0 hbw0
    obtain ⟨t0, d, cs, rfl, rfl, hd, hgk, hts, HD, HL, hbk, HZ, HX, hbw⟩ := hrel
    have hf := hbk.frozen d.length
    obtain ⟨v0, hv0⟩ : ∃ v0, cs[d.length]? = some v0 := ⟨_, Array.getElem?_eq_getElem (by rw [HZ.out]; omega)⟩
    have hcell : wr.cell? ⟨w.heap.size, d.length, none⟩ = some v0 := (hbk.cell _).trans hv0
    have HV := Lib.hid hv0
    clear hv0
    by_cases hlt : d.length < c
    · obtain ⟨k, hk⟩ := count_pos (l := t0.data.toList) (by have := HD.out; omega)
      obtain ⟨hkl, hl2⟩ := linesOf_some hk
      have hcn := count_some hk
      have R := Lib.hid (show linesOf s = (d ++ [t0.extract 0 (k + 1)]) ++ linesOf (t0.extract (k + 1) t0.size) by rw [HL.out, hl2]; simp)
      have HD2 : Hid ((d ++ [t0.extract 0 (k + 1)]).length + (t0.extract (k + 1) t0.size).data.toList.count 10 = c) := Lib.hid (by
        rw [Lib.extract_to_end]
        have := HD.out
        simp only [List.length_append, List.length_cons, List.length_nil]
        omega)
      have hz2 : (t0.extract (k + 1) t0.size).size ≤ s.size := by simp; omega
      have HK := Lib.hid (fun W : World => by have h := HIx.out t0 W; rw [hk] at h; exact h)
      clear hk hl2 hcn
      go_wp2_with (go_at_call 43; refine (HK.out _).mono ?_; rintro e w2 ⟨rfl, rfl⟩)
      have HX2 : Hid (∀ (j : Nat) (x : ByteArray), (d ++ [t0.extract 0 (k + 1)])[j]? = some x → (cs.setIfInBounds d.length (.string (t0.extract 0 (k + 1))))[j]? = some (Value.string x)) := Lib.hid (fun j x h => by
        rw [Array.getElem?_setIfInBounds]
        rcases Nat.lt_trichotomy j d.length with hj | hj | hj
        · rw [if_neg (by omega)]
          rw [List.getElem?_append_left hj] at h
          exact HX.out j x h
        · subst hj
          rw [List.getElem?_append_right (Nat.le_refl _), Nat.sub_self] at h
          simp only [List.getElem?_cons_zero, Option.some.injEq] at h
          subst h
          rw [if_pos rfl, if_pos (by rw [HZ.out]; omega)]
        · rw [List.getElem?_eq_none (by simp; omega)] at h
          cases h)
      go_roundg (gk - 1)
      case measure => omega
      case rel => exact ⟨_, d ++ [t0.extract 0 (k + 1)], _, rfl, by simp, by simp; omega, by simp; omega, hz2, HD2, R, hbk.set_ d.length _, Lib.hid (by simp [HZ.out]), HX2, hbw.setCell (p := ⟨w.heap.size, d.length, none⟩) (Nat.le_refl _) _⟩
    · have hdc : d.length = c := by omega
      have HZ2 := Lib.hid (show t0.data.toList.count 10 = 0 by have := HD.out; omega)
      have HDC := Lib.hid hdc
      have i1 : (c : Int) ≤ (d.length : Int) := by omega
      have i2 : (d.length : Int) < ((c + 1 : Nat) : Int) := by omega
      clear hdc
      go_wp2
      go_ret
      refine ⟨w.heap.size, c + 1, d, t0, rfl, by omega, HL.out, HZ2.out, by omega, (hbk.set_ d.length (.string t0)).lt, fun j x hj => ?_, hbw.setCell (p := ⟨w.heap.size, d.length, none⟩) (Nat.le_refl _) _⟩
      rw [(hbk.set_ d.length (.string t0)).cell, Array.getElem?_setIfInBounds]
      rcases Nat.lt_trichotomy j d.length with h1 | h1 | h1
      · rw [if_neg (by omega)]
        rw [List.getElem?_append_left h1] at hj
        exact HX.out j x hj
      · subst h1
        rw [List.getElem?_append_right (Nat.le_refl _), Nat.sub_self] at hj
        simp only [List.getElem?_cons_zero, Option.some.injEq] at hj
        subst hj
        rw [if_pos rfl, if_pos (by rw [HZ.out]; omega)]
      · rw [List.getElem?_eq_none (by simp; omega)] at hj
        cases hj

set_option maxHeartbeats 1000000 in
set_option maxRecDepth 100000 in
theorem splitAfter_any (s : ByteArray) (w : World) (hs : s.size ≤ 1000000) :
    Calls Tryd.prog 30 #[.string s, .string ⟨#[10]⟩] w fun e w' => ∃ g N d r, e = .returned (.slice (some ⟨g, 0, none⟩) (d.length + 1) N) ∧ d.length + 1 ≤ N ∧ linesOf s = d ++ linesOf r ∧ r.data.toList.count 10 = 0 ∧
      d.length ≤ 1000000 ∧ g < w'.heap.size ∧ (∀ (j : Nat) (x : ByteArray), (d ++ [r])[j]? = some x → w'.cell? ⟨g, j, none⟩ = some (.string x)) ∧ Below w.heap.size w w' := by
  have HG := Lib.hid (genSplit_any s w hs)
  go_enter Tryd.func30, Tryd.ntmps30
  go_wp2_with (go_at_call 48; refine HG.out.mono ?_; rintro e w1 ⟨g, N, d, r, rfl, h1, h2, h3, h4, h5, h6, h7⟩)
  go_ret
  exact ⟨g, N, d, r, rfl, h1, h2, h3, h4, h5, h6, h7⟩

set_option maxHeartbeats 2000000 in
set_option maxRecDepth 100000 in
theorem refLines_any (s : ByteArray) (w : World) (hs : s.size ≤ 1000000) :
    Calls Tryd.prog 14 #[.string s] w fun e w' => ∃ A c, e = .returned (.slice A (linesOf s).length c) ∧ Strs w' w'.heap.size A c (linesOf s) ∧ (linesOf s).length ≤ 1000001 ∧ Below w.heap.size w w' := by
  have HG := Lib.hid (splitAfter_any s w hs)
  go_enter Tryd.func14, Tryd.ntmps14
  go_upto_region 2 with (go_at_call 30; refine HG.out.mono ?_; rintro e w1 ⟨g, N, d, r, rfl, h1, h2, h3, h4, h5, h6, h7⟩)
  have c0 := h6 d.length r (by simp)
  have H2 := Lib.hid h2
  have H6 := Lib.hid h6
  have H3 := Lib.hid (count_zero h3)
  clear h2 h6 h3
  have i1 : (0 : Int) ≤ (d.length : Int) := by omega
  by_cases he : r.data.toList = []
  · have hr : r.toList = [] := by rw [Lib.toList_data]; exact he
    have hr2 : r.toList.isEmpty = true := by rw [hr]; rfl
    have HE : Hid (linesOf s = d) := Lib.hid (by rw [H2.out, linesOf_nil he, List.append_nil])
    have HL : Hid (d.length = (linesOf s).length) := Lib.hid (by rw [HE.out])
    clear he
    go_wp2
    go_ret
    refine ⟨some ⟨g, 0, none⟩, N, by rw [HE.out]; rfl, ?_, by rw [← HL.out]; omega, h7⟩
    rw [HE.out]
    refine ⟨by omega, fun j x hj => ⟨g, 0, rfl, h5, ?_⟩⟩
    rw [Nat.zero_add]
    exact H6.out j x (by rw [List.getElem?_append_left (List.getElem?_eq_some_iff.1 hj).1]; exact hj)
  · have hne : r.toList.isEmpty = false := by rw [Lib.toList_data]; simpa using he
    have HE : Hid (linesOf s = d ++ [r]) := Lib.hid (by rw [H2.out, linesOf_none he H3.out])
    clear he
    have HL : Hid ((linesOf s).length = d.length + 1) := Lib.hid (by rw [HE.out]; simp)
    go_wp2
    go_ret
    refine ⟨some ⟨g, 0, none⟩, N, by rw [HL.out]; rfl, ?_, by rw [HL.out]; omega, h7⟩
    rw [HE.out]
    refine ⟨by simp; omega, fun j x hj => ⟨g, 0, rfl, h5, ?_⟩⟩
    rw [Nat.zero_add]
    exact H6.out j x hj
end Go.Proofs.YtafhefhhndmdkaaDoor
