/- The walk of MergeDiffs: it returns true and writes nothing that was there; for every two strings. -/
import Derived.Test.YtafhefhhndmdkaaDoorMgPairs
import Derived.Test.YtafhefhhndmdkaaDoorMgScr
import Derived.Test.YtafhefhhndmdkaaDoorMgSplit
import Derived.Test.YtafhefhhndmdkaaDoorMgEq
import Derived.Test.YtafhefhhndmdkaaDoorMgLong
import Derived.Test.YtafhefhhndmdkaaDoorMgBackMath
namespace Go.Proofs.YtafhefhhndmdkaaDoor
open Go.RowKit Mg
attribute [local go_sem ↓] Go.wp_at_zero Go.wp_at_succ

/-- hunks in memory of a call's own read as hunks -/
theorem OwnsHunks.hunks {w : World} {base : Nat} {v : Value} {hs : List (Nat × Nat × List ByteArray)} (h : OwnsHunks w base v hs) : ∃ A c, v = .slice A hs.length c ∧ Hunks w w.heap.size A (hunksI hs) := by
  obtain ⟨us, h1, h2, h3⟩ := h
  rcases h2.2 with ⟨rfl, h0⟩ | ⟨g, cap, cur, rfl, hb, hh, hnc, _⟩
  · obtain rfl : hs = [] := List.eq_nil_of_length_eq_zero h0
    exact ⟨none, 0, rfl, fun j x hj => by simp [hunksI] at hj⟩
  · refine ⟨_, _, rfl, fun j x hj => ?_⟩
    unfold hunksI at hj
    rw [List.getElem?_map, Option.map_eq_some_iff] at hj
    obtain ⟨y, hy, rfl⟩ := hj
    have hjl := (List.getElem?_eq_some_iff.1 hy).1
    have hju : us[j]? = some us[j] := List.getElem?_eq_getElem (by omega)
    obtain ⟨Aj, cj, hu, hst⟩ := Strs.of_own (h3 j us[j] y hju hy)
    have get : ∀ (hs : List (Nat × Nat × List ByteArray)) (us : List Value) (j : Nat) (y : Nat × Nat × List ByteArray) (u : Value), hs[j]? = some y → us[j]? = some u →
        (hcells hs us)[j * 3]? = some (.int .i64 y.1) ∧ (hcells hs us)[j * 3 + 1]? = some (.int .i64 y.2.1) ∧ (hcells hs us)[j * 3 + 2]? = some u := by
      intro hs
      induction hs with
      | nil => intro us j y u h1 _; simp at h1
      | cons z hs ih =>
        intro us j y u h1 h2
        cases us with
        | nil => simp at h2
        | cons a us =>
          cases j with
          | zero =>
            simp at h1 h2; subst h1 h2
            simp [hcells]
          | succ j =>
            have := ih us j y u (by simpa using h1) (by simpa using h2)
            rw [show (j + 1) * 3 = j * 3 + 3 from by omega]
            simpa [hcells] using this
    obtain ⟨g1, g2, g3⟩ := get hs us j y us[j] hy hju
    have k1 := h2.cells (g := g) rfl _ _ g1
    have k2 := h2.cells (g := g) rfl _ _ g2
    have k3 := h2.cells (g := g) rfl _ _ g3
    rw [addr_add] at k1 k2 k3
    refine ⟨g, 0, Aj, cj, rfl, (h2.lt g rfl).2, k1, k2, ?_, hst⟩
    rw [← hu]; exact k3

theorem applyRes_some (s : ByteArray) : applyRes (some s) = .tuple #[.string s, .int .i64 0] := rfl

theorem Hunks.none_ (w : World) (B : Nat) : Hunks w B none [] := fun j h hj => by simp at hj

set_option maxHeartbeats 4000000 in
set_option maxRecDepth 100000 in
theorem same_any (A C : Option Addr) (ca cc n m : Nat) (hs : List Hunk) (w : World) (ha : Hunks w w.heap.size A hs) (hc : Hunks w w.heap.size C hs) (hn : n = hs.length) (hm : m = n) (hn2 : n ≤ 1000000) (hl : ∀ h ∈ hs, h.2.2.length ≤ 1000000) :
    Calls Tryd.prog 11 #[.slice A n ca, .slice C m cc] w fun e w' => e = .returned (.bool true) ∧ Below w.heap.size w w' := by
  subst hm
  have HL := Lib.hid hl
  have HN := Lib.hid hn
  clear hl hn
  go_enter Tryd.func11, Tryd.ntmps11
  go_wp2
  go_loopg [13] m (fun gk z wr => ∃ k : Nat, z = .int .i64 k ∧ k ≤ m ∧ m - k ≤ gk ∧ Below w.heap.size w wr)
  case atStart => exact ⟨0, rfl, Nat.zero_le _, by omega, Below.refl _ _⟩
  case round =>
    obtain ⟨k, rfl, hk, hg, hbl⟩ := hrel
    by_cases hlt : k < m
    · have hkl : k < hs.length := by rw [← HN.out]; exact hlt
      obtain ⟨⟨f, t, ls⟩, hx⟩ : ∃ x, hs[k] = x := ⟨_, rfl⟩
      have hmem : (f, t, ls) ∈ hs := by rw [← hx]; exact List.getElem_mem hkl
      have hll : ls.length ≤ 1000000 := HL.out _ hmem
      clear hmem
      obtain ⟨b, o, Aj, cj, rfl, hbB, cf, ct, cl, hsj⟩ := (ha.below hbl) k (f, t, ls) (by rw [List.getElem?_eq_getElem hkl, hx])
      obtain ⟨b2, o2, Cj, dj, rfl, hbB2, cf2, ct2, cl2, hsj2⟩ := (hc.below hbl) k (f, t, ls) (by rw [List.getElem?_eq_getElem hkl, hx])
      simp only at cf ct cl hsj cf2 ct2 cl2 hsj2
      have HE := Lib.hid (fun q : Nat => refEqual_any Aj Cj cj dj _ _ ls ls (hsj.drewN q) (hsj2.drewN q) rfl rfl hll hll true (by simp))
      have i1 : (0 : Int) ≤ (k : Int) := by omega
      have i2 : (k : Int) < (m : Int) := by omega
      clear hx hsj hsj2 hkl
      go_wp2
      go_quiet ((go_at_call 13; exact Calls.quiet_of (HE.out _)))
      go_wp2
      go_roundg (gk - 1)
      case measure => omega
      case rel => exact ⟨k + 1, by go_num, by omega, by omega, ⟨hbl.os, hbl.tape, hbl.output, hbl.size, hbl.block⟩⟩
    · have hke : k = m := by omega
      subst hke
      go_wp2
      go_ret
      exact ⟨rfl, hbl⟩

set_option maxHeartbeats 2000000 in
theorem refDiff_over (a b : ByteArray) (w : World) (ha : a.size ≤ 1000) (hb : b.size ≤ 1000) (hl : 400 < (linesOf a).length ∨ 400 < (linesOf b).length) :
    Calls Tryd.prog 10 #[.string a, .string b] w fun e w' => e = .returned (.tuple #[.slice none 0 0, .int .i64 160]) ∧ Below w.heap.size w w' := by
  have HR := Lib.hid (fun (s : ByteArray) (W : World) (hs : s.size ≤ 1000) => refLines_any s W (by omega))
  obtain ⟨la, hla⟩ : ∃ la, la = (linesOf a).length := ⟨_, rfl⟩
  obtain ⟨lb, hlb⟩ : ∃ lb, lb = (linesOf b).length := ⟨_, rfl⟩
  have z1 : la ≤ 1000 := by rw [hla]; exact Nat.le_trans (linesOf_len a) ha
  have z2 : lb ≤ 1000 := by rw [hlb]; exact Nat.le_trans (linesOf_len b) hb
  have HRA := HR.out a w ha
  have HRB := fun W => HR.out b W hb
  rw [← hla] at HRA hl
  rw [← hlb] at hl
  simp only [← hlb] at HRB
  have HRA := Lib.hid HRA
  have HRB := Lib.hid HRB
  clear hla hlb
  have hcase : (400 : Int) < (la : Int) ∨ (¬ (400 : Int) < (la : Int) ∧ (400 : Int) < (lb : Int)) := by omega
  clear hl
  rcases hcase with h1 | ⟨h1, h2⟩
  all_goals
    go_enter Tryd.func10, Tryd.ntmps10
    go_wp2_with (first
      | (go_at_call 14; ((with_reducible refine (HRA.out).mono ?_); rintro e w1 ⟨A1, c1, rfl, hs1, _, hb1⟩))
      | (go_at_call 14; ((with_reducible refine (HRB.out _).mono ?_); rintro e w2 ⟨A2, c2, rfl, hs2, _, hb2⟩)))
    go_ret2
    exact ⟨rfl, hb1.trans (hb2.mono hb1.size)⟩

set_option maxHeartbeats 2000000 in
theorem refDiff_any (a b : ByteArray) (w : World) (ha : a.size ≤ 1000) (hb : b.size ≤ 1000) (hla : (linesOf a).length ≤ 400) (hlb : (linesOf b).length ≤ 400) :
    Calls Tryd.prog 10 #[.string a, .string b] w fun e w' => ∃ v, e = .returned (.tuple #[v, .int .i64 0]) ∧ OwnsHunks w' w.heap.size v (script (linesOf a) (linesOf b)) ∧ Below w.heap.size w w' := by
  have HRA := Lib.hid (refLines_any a w (by omega))
  have HRB := Lib.hid (fun W : World => refLines_any b W (by omega))
  have HASC := Lib.hid (prs_asc (linesOf a) (linesOf b) 0 0 _ _ (Nat.zero_add _) (Nat.zero_add _))
  have HPL := Lib.hid (prs_pairs_len (linesOf a) (linesOf b) 0 0)
  have HSC : Hid (script (linesOf a) (linesOf b) = scr (linesOf b) 0 0 (prs 0 0 (linesOf a) (linesOf b) ++ [((linesOf a).length, (linesOf b).length)])) := Lib.hid rfl
  generalize linesOf a = x at *
  generalize linesOf b = y at *
  go_enter Tryd.func10, Tryd.ntmps10
  go_wp2_with (first
    | (go_at_call 14; ((with_reducible refine (HRA.out).mono ?_); rintro e w1 ⟨A1, c1, rfl, hs1, _, hb1⟩))
    | (go_at_call 14; ((with_reducible refine (HRB.out _).mono ?_); rintro e w2 ⟨A2, c2, rfl, hs2, _, hb2⟩))
    | (go_at_call 28; refine (refPairs_any A1 A2 c1 c2 x y w2 ((hs1.below hb2).more hb2.size) hs2 hla hlb).mono ?_; rintro e w3 ⟨v3, rfl, hown3, hb3⟩; obtain ⟨P, cp, rfl, _, hrp⟩ := own_slice hown3)
    | (go_at_call 27; refine (refScript_any A1 A2 P c1 c2 cp x y (prs 0 0 x y) w3 ((hs2.below hb3).more hb3.size) hrp hla hlb (Nat.le_trans HPL.out hla) HASC.out).mono ?_; rintro e w4 ⟨v4, rfl, how4, hb4⟩))
  go_ret2
  have z1 := hb1.size
  have z2 := hb2.size
  have z3 := hb3.size
  refine ⟨_, rfl, ?_, ((hb1.trans (hb2.mono z1)).trans (hb3.mono (by omega))).trans (hb4.mono (by omega))⟩
  rw [HSC.out]
  obtain ⟨us, h1, h2, h3⟩ := how4
  exact ⟨us, h1, own_base h2 (by omega), fun i u h e1 e2 => own_base (h3 i u h e1 e2) (by omega)⟩

theorem hunks_lines (a b : ByteArray) (hlb : (linesOf b).length ≤ 400) : ∀ h ∈ hunksI (script (linesOf a) (linesOf b)), h.2.2.length ≤ 1000000 := by
  have key : ∀ (ps : List (Nat × Nat)) (i k : Nat), ∀ h ∈ scr (linesOf b) i k ps, h.2.2.length ≤ (linesOf b).length := by
    intro ps
    induction ps with
    | nil => intro i k h hh; simp [scr] at hh
    | cons p ps ih =>
      intro i k h hh
      rw [scr, List.mem_append] at hh
      rcases hh with hh | hh
      · split at hh
        · simp at hh
        · simp at hh; subst hh; simp; omega
      · exact ih _ _ h hh
  intro h hh
  unfold hunksI at hh
  rw [List.mem_map] at hh
  obtain ⟨x, hx, rfl⟩ := hh
  have := key _ _ _ x hx
  simp only
  omega
theorem script_len (a b : ByteArray) (hla : (linesOf a).length ≤ 400) : (script (linesOf a) (linesOf b)).length ≤ 1000 := by
  have key : ∀ (ps : List (Nat × Nat)) (i k : Nat), (scr (linesOf b) i k ps).length ≤ ps.length := by
    intro ps
    induction ps with
    | nil => intro i k; simp [scr]
    | cons p ps ih =>
      intro i k
      have := ih (p.1 + 1) (p.2 + 1)
      rw [scr, List.length_append, List.length_cons]
      split <;> simp <;> omega
  have h1 := key (prs 0 0 (linesOf a) (linesOf b) ++ [((linesOf a).length, (linesOf b).length)]) 0 0
  have h2 := prs_pairs_len (linesOf a) (linesOf b) 0 0
  unfold script
  simp at h1
  omega

set_option maxHeartbeats 4000000 in
set_option maxRecDepth 100000 in
theorem mergeDiffs_law (a b : ByteArray) (w : World) (ha : a.size ≤ maxLen) (hb : b.size ≤ maxLen) :
    Calls Tryd.prog 3 #[.string a, .string b] w fun e w' => e = .returned (.bool true) ∧ Below w.heap.size w w' := by
  unfold maxLen at ha hb
  have hr0 := reads_new w [a, b] 9 (w.heap.size + 1) (by omega)
  obtain ⟨r, hr⟩ : ∃ r, [a, b].any lgB = r := ⟨_, rfl⟩
  have HLG : Hid (∀ W : World, Reads W W.heap.size 1 (some ⟨w.heap.size, 0, none⟩) 2 [.string a, .string b] → Calls Tryd.prog 7 #[.slice (some ⟨w.heap.size, 0, none⟩) 2 2] W fun e w' => e = .returned (.bool r) ∧ W = w') :=
    Lib.hid (fun W hW => by rw [← hr]; exact long_any (some ⟨w.heap.size, 0, none⟩) 2 [a, b] W hW (by simp) (by simp; omega))
  have hbw : Below w.heap.size w (w.alloc (.cells #[.string a, .string b] 9)) := (Below.refl _ _).alloc (Nat.le_refl _) _
  have hbz : w.heap.size ≤ (w.alloc (.cells #[.string a, .string b] 9)).heap.size := by simp
  cases r with
  | true =>
    clear hr
    go_enter Tryd.func3, Tryd.ntmps3
    go_wp2_with (first
      | (go_at_call 7; refine (HLG.out _ (by simpa using hr0)).mono ?_; rintro e w1 ⟨rfl, rfl⟩)
      | (go_at_call 8; refine (awake_any _).mono ?_; rintro e w1 ⟨rfl, hb1⟩))
    go_ret
    exact ⟨rfl, hbw.trans (hb1.mono (by simp))⟩
  | false =>
    have hlg : lgB a = false ∧ lgB b = false := by simpa using hr
    have hsa := lgB_no hlg.1
    have hsb := lgB_no hlg.2
    clear hr hlg
    by_cases hov : 400 < (linesOf a).length ∨ 400 < (linesOf b).length
    · have HD := Lib.hid (fun W : World => diff_over a b W (by omega) (by omega) hov)
      have HRD := Lib.hid (fun W : World => refDiff_over a b W hsa hsb hov)
      have HS := Lib.hid (fun W : World => same_any none none 0 0 0 0 [] W (Hunks.none_ _ _) (Hunks.none_ _ _) rfl rfl (by omega) (by simp))
      clear hov
      go_enter Tryd.func3, Tryd.ntmps3
      go_wp2_with (first
        | (go_at_call 7; refine (HLG.out _ (by simpa using hr0)).mono ?_; rintro e w1 ⟨rfl, rfl⟩)
        | (go_at_call 9; refine (HD.out _).mono ?_; rintro e w2 ⟨rfl, hb2⟩)
        | (go_at_call 10; refine (HRD.out _).mono ?_; rintro e w3 ⟨rfl, hb3⟩)
        | (go_at_call 11; refine (HS.out _).mono ?_; rintro e w4 ⟨rfl, hb4⟩)
        | (go_at_call 8; refine (awake_any _).mono ?_; rintro e w5 ⟨rfl, hb5⟩))
      go_ret
      have z2 := hb2.size
      have z3 := hb3.size
      have z4 := hb4.size
      exact ⟨rfl, (((hbw.trans (hb2.mono hbz)).trans (hb3.mono (by omega))).trans (hb4.mono (by omega))).trans (hb5.mono (by omega))⟩
    · have hla : (linesOf a).length ≤ 400 := by omega
      have hlb : (linesOf b).length ≤ 400 := by omega
      have HD := Lib.hid (fun W : World => diff_any a b W (by omega) (by omega) hla hlb)
      have HRD := Lib.hid (fun W : World => refDiff_any a b W hsa hsb hla hlb)
      have HHL := Lib.hid (hunks_lines a b hlb)
      have hsl := script_len a b hla
      have HSL : Hid ((script (linesOf a) (linesOf b)).length = (hunksI (script (linesOf a) (linesOf b))).length) := Lib.hid (by unfold hunksI; simp)
      clear hov hla hlb
      generalize script (linesOf a) (linesOf b) = sc at *
      go_enter Tryd.func3, Tryd.ntmps3
      go_wp2_with (first
        | (go_at_call 7; refine (HLG.out _ (by simpa using hr0)).mono ?_; rintro e w1 ⟨rfl, rfl⟩)
        | (go_at_call 9; refine (HD.out _).mono ?_; rintro e w2 ⟨v2, rfl, hh2, hb2⟩; obtain ⟨A2, c2, rfl, hk2⟩ := hh2.hunks)
        | (go_at_call 10; refine (HRD.out _).mono ?_; rintro e w3 ⟨v3, rfl, hh3, hb3⟩; obtain ⟨A3, c3, rfl, hk3⟩ := hh3.hunks; have hk2' := (hk2.below hb3).more hb3.size)
        | (go_at_call 11; refine (same_any A2 A3 c2 c3 _ _ _ _ hk2' hk3 HSL.out rfl (by omega) HHL.out).mono ?_; rintro e w4 ⟨rfl, hb4⟩)
        | (go_at_call 8; refine (awake_any _).mono ?_; rintro e w5 ⟨rfl, hb5⟩))
      go_ret
      have z2 := hb2.size
      have z3 := hb3.size
      have z4 := hb4.size
      exact ⟨rfl, (((hbw.trans (hb2.mono hbz)).trans (hb3.mono (by omega))).trans (hb4.mono (by omega))).trans (hb5.mono (by omega))⟩
end Go.Proofs.YtafhefhhndmdkaaDoor
