/- The walk of MergeBack: it returns true and writes nothing that was there; for every two strings. -/
import Derived.Test.YtafhefhhndmdkaaMgBackMath
namespace Go.Proofs.Ytafhefhhndmdkaa
open Go.RowKit Mg

/-- hunks in memory of a call's own read as hunks -/
theorem OwnsHunks.hunks {w : World} {base : Nat} {v : Value} {hs : List (Nat × Nat × List ByteArray)} (h : OwnsHunks w base v hs) : ∃ A c, v = .slice A hs.length c ∧ Hunks w w.heap.size A (hunksI hs) := by
  obtain ⟨us, h1, h2, h3⟩ := h
  rcases h2.2 with ⟨rfl, h0⟩ | ⟨g, cap, cur, rfl, hb, hh, hnc, _⟩
  · obtain rfl : hs = [] := List.eq_nil_of_length_eq_zero h0
    exact ⟨none, 0, rfl, fun j x hj => by simp [hunksI] at hj⟩
  · refine ⟨_, _, rfl, fun j x hj => ?_⟩
    unfold hunksI at hj
    rw [List.getElem?_map, Option.map_eq_some_iff] at hj
    obtain ⟨y, hy, rfl⟩ := hj
    have hjl := (List.getElem?_eq_some_iff.1 hy).1
    have hju : us[j]? = some us[j] := List.getElem?_eq_getElem (by omega)
    obtain ⟨Aj, cj, hu, hst⟩ := Strs.of_own (h3 j us[j] y hju hy)
    have get : ∀ (hs : List (Nat × Nat × List ByteArray)) (us : List Value) (j : Nat) (y : Nat × Nat × List ByteArray) (u : Value), hs[j]? = some y → us[j]? = some u →
        (hcells hs us)[j * 3]? = some (.int .i64 y.1) ∧ (hcells hs us)[j * 3 + 1]? = some (.int .i64 y.2.1) ∧ (hcells hs us)[j * 3 + 2]? = some u := by
      intro hs
      induction hs with
      | nil => intro us j y u h1 _; simp at h1
      | cons z hs ih =>
        intro us j y u h1 h2
        cases us with
        | nil => simp at h2
        | cons a us =>
          cases j with
          | zero =>
            simp at h1 h2; subst h1 h2
            simp [hcells]
          | succ j =>
            have := ih us j y u (by simpa using h1) (by simpa using h2)
            rw [show (j + 1) * 3 = j * 3 + 3 from by omega]
            simpa [hcells] using this
    obtain ⟨g1, g2, g3⟩ := get hs us j y us[j] hy hju
    have k1 := h2.cells (g := g) rfl _ _ g1
    have k2 := h2.cells (g := g) rfl _ _ g2
    have k3 := h2.cells (g := g) rfl _ _ g3
    rw [addr_add] at k1 k2 k3
    refine ⟨g, 0, Aj, cj, rfl, (h2.lt g rfl).2, k1, k2, ?_, hst⟩
    rw [← hu]; exact k3

theorem applyRes_some (s : ByteArray) : applyRes (some s) = .tuple #[.string s, .int .i64 0] := rfl

set_option maxHeartbeats 4000000 in
set_option maxRecDepth 100000 in
theorem mergeBack_law (a b : ByteArray) (w : World) (ha : a.size ≤ maxLen) (hb : b.size ≤ maxLen) :
    Calls Try.prog 6 #[.string a, .string b] w fun e w' => e = .returned (.bool true) ∧ Below w.heap.size w w' := by
  unfold maxLen at ha hb
  have hr0 := reads_new w [a, b] 9 (w.heap.size + 1) (by omega)
  obtain ⟨r, hr⟩ : ∃ r, [a, b].any lgB = r := ⟨_, rfl⟩
  have HLG : Hid (∀ W : World, Reads W W.heap.size 1 (some ⟨w.heap.size, 0, none⟩) 2 [.string a, .string b] → Calls Try.prog 10 #[.slice (some ⟨w.heap.size, 0, none⟩) 2 2] W fun e w' => e = .returned (.bool r) ∧ W = w') :=
    Lib.hid (fun W hW => by rw [← hr]; exact long_any (some ⟨w.heap.size, 0, none⟩) 2 [a, b] W hW (by simp) (by simp; omega))
  have hbw : Below w.heap.size w (w.alloc (.cells #[.string a, .string b] 9)) := (Below.refl _ _).alloc (Nat.le_refl _) _
  cases r with
  | true =>
    clear hr
    go_enter Try.func6, Try.ntmps6
    go_wp2_with (first
      | (go_at_call 10; refine (HLG.out _ (by simpa using hr0)).mono ?_; rintro e w1 ⟨rfl, rfl⟩)
      | (go_at_call 11; refine (awake_any _).mono ?_; rintro e w1 ⟨rfl, hb1⟩))
    go_ret
    exact ⟨rfl, hbw.trans (hb1.mono (by simp))⟩
  | false =>
    have hlg : lgB a = false ∧ lgB b = false := by simpa using hr
    have hsa := lgB_no hlg.1
    have hsb := lgB_no hlg.2
    clear hr hlg
    by_cases hl : 400 < (linesOf a).length ∨ 400 < (linesOf b).length
    · have HO := Lib.hid (fun W : World => diff_over a b W (by omega) (by omega) hl)
      clear hl
      go_enter Try.func6, Try.ntmps6
      go_wp2_with (first
        | (go_at_call 10; refine (HLG.out _ (by simpa using hr0)).mono ?_; rintro e w1 ⟨rfl, rfl⟩)
        | (go_at_call 17; refine (HO.out _).mono ?_; rintro e w1 ⟨rfl, hb1⟩)
        | (go_at_call 11; refine (awake_any _).mono ?_; rintro e w2 ⟨rfl, hb2⟩))
      go_ret
      exact ⟨rfl, (hbw.trans (hb1.mono (by simp))).trans (hb2.mono (by have := hb1.size; simp at this; omega))⟩
    · have hla : (linesOf a).length ≤ 400 := by omega
      have hlb : (linesOf b).length ≤ 400 := by omega
      clear hl
      have HD1 : Hid (∀ W : World, Calls Try.prog 17 #[.string a, .string b] W fun e w' => ∃ A c, e = .returned (.tuple #[.slice A (script (linesOf a) (linesOf b)).length c, .int .i64 0]) ∧ Hunks w' w'.heap.size A (hunksI (script (linesOf a) (linesOf b))) ∧ Below W.heap.size W w') :=
        Lib.hid (fun W => (diff_any a b W (by omega) (by omega) hla hlb).mono fun e w' ⟨v, h1, h2, h3⟩ => by
          obtain ⟨A, c, rfl, h4⟩ := h2.hunks
          exact ⟨A, c, h1, h4, h3⟩)
      have HD2 : Hid (∀ W : World, Calls Try.prog 17 #[.string a, .string a] W fun e w' => ∃ A c, e = .returned (.tuple #[.slice A 0 c, .int .i64 0]) ∧ Below W.heap.size W w') :=
        Lib.hid (fun W => (diff_any a a W (by omega) (by omega) hla hla).mono fun e w' ⟨v, h1, h2, h3⟩ => by
          obtain ⟨A, c, rfl, h4⟩ := h2.hunks
          rw [script_self] at h1
          exact ⟨A, c, h1, h3⟩)
      obtain ⟨m, hm⟩ : ∃ m, m = (script (linesOf a) (linesOf b)).length := ⟨_, rfl⟩
      have hml : m ≤ 401 := by
        rw [hm]
        have h1 := scr_len (linesOf b) (prs 0 0 (linesOf a) (linesOf b) ++ [((linesOf a).length, (linesOf b).length)]) 0 0
        have h2 := prs_pairs_len (linesOf a) (linesOf b) 0 0
        unfold script
        simp at h1; omega
      have HA : Hid (∀ (W : World) (A : Option Addr) (c : Nat), Hunks W W.heap.size A (hunksI (script (linesOf a) (linesOf b))) → Calls Try.prog 18 #[.string a, .slice A m c] W fun e w' => e = .returned (.tuple #[.string b, .int .i64 0]) ∧ Below W.heap.size W w') :=
        Lib.hid (fun W A c hH => by
          have hml2 : m = (hunksI (script (linesOf a) (linesOf b))).length := by rw [hm]; simp [hunksI]
          have h := apply_any a A c (hunksI (script (linesOf a) (linesOf b))) W hsa hH (by rw [← hml2]; omega) (fun x hx => by
            unfold hunksI at hx
            rw [List.mem_map] at hx
            obtain ⟨y, hy, rfl⟩ := hx
            obtain ⟨e1, e2⟩ := scr_lines (linesOf b) _ _ _ y hy
            exact ⟨Nat.le_trans e1 (by omega), fun s hs => Nat.le_trans (linesOf_size b s (e2 s hs)) hsb⟩)
          rw [apply_script, applyRes_some, ← hml2] at h
          exact h)
      have hbeq : (b.toList == b.toList) = true := eq_yes rfl
      have hnil : m = 0 ↔ a = b := by
        rw [hm, List.length_eq_zero_iff]; exact script_nil
      rw [← hm] at HD1
      by_cases hab : a = b
      · obtain rfl : m = 0 := hnil.2 hab
        subst hab
        have hx := eq_yes (rfl : a = a)
        have tok1 : True := trivial
        clear hm hnil
        go_enter Try.func6, Try.ntmps6
        go_wp2_with (first
          | (go_at_call 10; refine (HLG.out _ (by simpa using hr0)).mono ?_; rintro e w1 ⟨rfl, rfl⟩)
          | (go_at_call 17; have _t := tok1; refine (HD1.out _).mono ?_; rintro e w1 ⟨A1, c1, rfl, hH, hb1⟩; clear tok1 _t)
          | (go_at_call 18; refine (HA.out _ _ _ hH).mono ?_; rintro e w2 ⟨rfl, hb2⟩)
          | (go_at_call 17; refine (HD2.out _).mono ?_; rintro e w3 ⟨A3, c3, rfl, hb3⟩)
          | (go_at_call 11; refine (awake_any _).mono ?_; rintro e w4 ⟨rfl, hb4⟩))
        go_ret
        have z1 := hb1.size
        have z2 := hb2.size
        have z3 := hb3.size
        simp at z1
        exact ⟨by simp, (((hbw.trans (hb1.mono (by simp))).trans (hb2.mono (by omega))).trans (hb3.mono (by omega))).trans (hb4.mono (by omega))⟩
      · have hab1 := eq_no hab
        have hm0 : ((m : Int) == 0) = false := by rw [beq_eq_false_iff_ne]; have := mt hnil.1 hab; omega
        have HM := Lib.hid hm
        clear hab hm hnil
        go_enter Try.func6, Try.ntmps6
        go_wp2_with (first
          | (go_at_call 10; refine (HLG.out _ (by simpa using hr0)).mono ?_; rintro e w1 ⟨rfl, rfl⟩)
          | (go_at_call_of 17 (Value.string b); refine (HD1.out _).mono ?_; rintro e w1 ⟨A1, c1, rfl, hH, hb1⟩)
          | (go_at_call 18; refine (HA.out _ _ _ hH).mono ?_; rintro e w2 ⟨rfl, hb2⟩)
          | (go_at_call 17; refine (HD2.out _).mono ?_; rintro e w3 ⟨A3, c3, rfl, hb3⟩)
          | (go_at_call 11; refine (awake_any _).mono ?_; rintro e w4 ⟨rfl, hb4⟩))
        go_ret
        have z1 := hb1.size
        have z2 := hb2.size
        have z3 := hb3.size
        simp at z1
        exact ⟨by simp, (((hbw.trans (hb1.mono (by simp))).trans (hb2.mono (by omega))).trans (hb3.mono (by omega))).trans (hb4.mono (by omega))⟩
end Go.Proofs.Ytafhefhhndmdkaa
