/- The walk of MergeShortest: it returns true and writes nothing that was there; for every string and every list of hunks in memory. -/
import Derived.Test.YtafhefhhndmdkaaMgShortMath
import Derived.Test.YtafhefhhndmdkaaMgBack
namespace Go.Proofs.Ytafhefhhndmdkaa
open Go.RowKit Mg

set_option maxHeartbeats 1000000 in
theorem kept_any (a : ByteArray) (A : Option Addr) (ch n : Nat) (hs : List Hunk) (w : World) (ha : a.size ≤ 1000) (hh : Hunks w w.heap.size A hs) (hnl : n = hs.length) (hn : hs.length ≤ 1000) (hin : inR 1000 hs) :
    Calls Try.prog 19 #[.string a, .slice A n ch] w fun e w' => e = .returned (.int .i64 (((linesOf a).length : Int) - cutI hs)) ∧ Below w.heap.size w w' := by
  subst hnl
  have hla0 : (linesOf a).length ≤ 1000 := Nat.le_trans (linesOf_len a) ha
  have HIN := Lib.hid hin
  clear hin
  go_enter Try.func19, Try.ntmps19
  go_wp2_with (go_at_call 31; refine (lines_any a _ (by omega)).mono ?_; rintro e w1 ⟨v1, rfl, hownl, hb1⟩; obtain ⟨A1, c1, rfl, _, _⟩ := own_slice hownl)
  have hh1 := (hh.below hb1).more hb1.size
  have hsz1 := hb1.size
  clear hownl hh
  go_loopg [5, 13] hs.length (fun gk u z wr => ∃ (i : Nat) (m : Int), z = .int .i64 i ∧ u = .int .i64 m ∧ i ≤ hs.length ∧ hs.length - i ≤ gk ∧ m - cutI (hs.drop i) = ((linesOf a).length : Int) - cutI hs ∧ m ≤ 1000 ∧ -1000 * (i : Int) ≤ m ∧ Below w1.heap.size w1 wr)
  case atStart => exact ⟨0, _, rfl, rfl, Nat.zero_le _, by omega, rfl, by omega, by omega, Below.refl _ _⟩
  case round =>
    obtain ⟨i, m, rfl, rfl, hi, hg, hm, hm1, hm2, hbl⟩ := hrel
    have HM := Lib.hid hm
    clear hm
    have hblw := hbl.size
    by_cases hlt : i < hs.length
    · obtain ⟨⟨f, t, ls⟩, hx⟩ : ∃ x, hs[i] = x := ⟨_, rfl⟩
      have hmem : (f, t, ls) ∈ hs := by rw [← hx]; exact List.getElem_mem hlt
      obtain ⟨hf0, hft, ht1⟩ := HIN.out _ hmem
      obtain ⟨b, o, Aj, cj, rfl, hbB, cf, ct, cl, hsj⟩ := (hh1.below hbl) i (f, t, ls) (by rw [List.getElem?_eq_getElem hlt, hx])
      simp only at hf0 hft ht1 cf ct cl hsj
      have HD : Hid (m - (t - f) - cutI (hs.drop (i + 1)) = ((linesOf a).length : Int) - cutI hs) := Lib.hid (by
        have h := HM.out
        rw [List.drop_eq_getElem_cons hlt, hx] at h
        have e : cutI ((f, t, ls) :: hs.drop (i + 1)) = (t - f) + cutI (hs.drop (i + 1)) := by simp [cutI]
        rw [e] at h
        omega)
      clear hmem hx hsj
      go_wp2
      go_roundg (gk - 1)
      case measure => omega
      case rel => exact ⟨i + 1, m - (t - f), by go_num, rfl, by omega, by omega, HD.out, by omega, by push_cast; omega, hbl.alloc hblw _⟩
    · have HD : Hid (m = ((linesOf a).length : Int) - cutI hs) := Lib.hid (by
        have h := HM.out
        rw [List.drop_eq_nil_of_le (by omega)] at h
        simpa [cutI] using h)
      go_wp2
      go_ret
      exact ⟨by rw [← HD.out]; rfl, hb1.trans (hbl.mono hsz1)⟩

theorem hunksI_len (l : List (Nat × Nat × List ByteArray)) : (hunksI l).length = l.length := by simp [hunksI]

set_option maxHeartbeats 8000000 in
set_option maxRecDepth 100000 in
theorem mergeShortest_law (a : ByteArray) (A : Option Addr) (n ch : Nat) (hs : List Hunk) (w : World) (ha : a.size ≤ maxLen) (hn : n = hs.length) (hn2 : n ≤ maxLen) (hh : Hunks w w.heap.size A hs) (hss : ∀ h ∈ hs, ∀ s ∈ h.2.2, s.size ≤ maxLen) :
    Calls Try.prog 7 #[.string a, .slice A n ch] w fun e w' => e = .returned (.bool true) ∧ Below w.heap.size w w' := by
  subst hn
  unfold maxLen at ha hn2 hss
  have HSS := Lib.hid hss
  clear hss
  have hr0 := reads_new w [a] 9 (w.heap.size + 1) (by omega)
  have HLG : ∀ r, [a].any lgB = r → Hid (∀ W : World, Reads W W.heap.size 1 (some ⟨w.heap.size, 0, none⟩) 1 [.string a] → Calls Try.prog 10 #[.slice (some ⟨w.heap.size, 0, none⟩) 1 1] W fun e w' => e = .returned (.bool r) ∧ W = w') :=
    fun r hr => Lib.hid (fun W hW => by rw [← hr]; exact long_any (some ⟨w.heap.size, 0, none⟩) 1 [a] W hW (by simp) (by simp; omega))
  have hbw : Below w.heap.size w (w.alloc (.cells #[.string a] 9)) := (Below.refl _ _).alloc (Nat.le_refl _) _
  by_cases h1 : lgB a = true
  · have H1 := HLG true (by simp [h1])
    clear HLG h1
    go_enter Try.func7, Try.ntmps7
    go_wp2_with (first
      | (go_at_call 10; refine (H1.out _ (by simpa using hr0)).mono ?_; rintro e w1 ⟨rfl, rfl⟩)
      | (go_at_call 11; refine (awake_any _).mono ?_; rintro e w1 ⟨rfl, hb1⟩))
    go_ret
    exact ⟨rfl, hbw.trans (hb1.mono (by simp))⟩
  · have h1' : lgB a = false := by simpa using h1
    have H1 := HLG false (by simp [h1'])
    have hsa := lgB_no h1'
    clear HLG h1 h1'
    by_cases h2 : 20 < hs.length
    · have h2' : (20 : Int) < (hs.length : Int) := by omega
      go_enter Try.func7, Try.ntmps7
      go_wp2_with (first
        | (go_at_call 10; refine (H1.out _ (by simpa using hr0)).mono ?_; rintro e w1 ⟨rfl, rfl⟩)
        | (go_at_call 11; refine (awake_any _).mono ?_; rintro e w1 ⟨rfl, hb1⟩))
      go_ret
      exact ⟨rfl, hbw.trans (hb1.mono (by simp))⟩
    · have h2' : (hs.length : Int) ≤ 20 := by omega
      have hsz : w.heap.size < (w.alloc (.cells #[.string a] 9)).heap.size := by simp
      go_enter Try.func7, Try.ntmps7
      go_wp2_with (go_at_call 10; refine (H1.out _ (by simpa using hr0)).mono ?_; rintro e w1 ⟨rfl, rfl⟩)
      generalize w.alloc (.cells #[.string a] 9) = wa at *
      go_loopg [21] hs.length (fun gk z wr => ∃ i : Nat, z = .int .i64 i ∧ i ≤ hs.length ∧ hs.length - i ≤ gk ∧ (∀ h ∈ hs.take i, h.2.2.length ≤ 20 ∧ ∀ s ∈ h.2.2, s.size ≤ 1000) ∧ Below w.heap.size w wr)
      case atStart => exact ⟨0, rfl, Nat.zero_le _, by omega, by simp, hbw⟩
      case round =>
        obtain ⟨i, rfl, hi, hg, hall, hbl⟩ := hrel
        have HALL := Lib.hid hall
        clear hall
        have hblw := hbl.size
        by_cases hlt : i < hs.length
        · obtain ⟨⟨f, t, ls⟩, hx⟩ : ∃ x, hs[i] = x := ⟨_, rfl⟩
          have hmem : (f, t, ls) ∈ hs := by rw [← hx]; exact List.getElem_mem hlt
          have HSL := Lib.hid (HSS.out _ hmem)
          have HTK : Hid (hs.take (i + 1) = hs.take i ++ [(f, t, ls)]) := Lib.hid (by rw [List.take_succ_eq_append_getElem hlt, hx])
          obtain ⟨b, o, Aj, cj, rfl, hbB, cf, ct, cl, hsj⟩ := (hh.below hbl) i (f, t, ls) (by rw [List.getElem?_eq_getElem hlt, hx])
          simp only at cf ct cl hsj
          have hrd := hsj.reads
          clear hmem hx
          by_cases h3 : 20 < ls.length
          · have h3' : (20 : Int) < (ls.length : Int) := by omega
            go_wp2_with (go_at_call 11; refine (awake_any _).mono ?_; rintro e w2 ⟨rfl, hb2⟩)
            go_ret
            exact ⟨rfl, (hbl.alloc hblw _).trans (hb2.mono (by simp; omega))⟩
          · have h3' : (ls.length : Int) ≤ 20 := by omega
            have HL2 : ∀ r, ls.any lgB = r → Hid (∀ W : World, Reads W W.heap.size 1 Aj ls.length (ls.map Value.string) → Calls Try.prog 10 #[.slice Aj ls.length cj] W fun e w' => e = .returned (.bool r) ∧ W = w') :=
              fun r hr => Lib.hid (fun W hW => by rw [← hr]; exact long_any Aj cj ls W hW (by omega) HSL.out)
            have hrdA := (hrd.alloc hblw (.cells #[.int .i64 f, .int .i64 t, .slice Aj ls.length cj] 45)).more (show w.heap.size ≤ (wr.alloc (.cells #[.int .i64 f, .int .i64 t, .slice Aj ls.length cj] 45)).heap.size by simp; omega)
            by_cases h4 : ls.any lgB = true
            · have H4 := HL2 true h4
              clear HL2 h4
              go_wp2_with (first
                | (go_at_call 10; refine (H4.out _ hrdA).mono ?_; rintro e w2 ⟨rfl, rfl⟩)
                | (go_at_call 11; refine (awake_any _).mono ?_; rintro e w2 ⟨rfl, hb2⟩))
              go_ret
              exact ⟨rfl, (hbl.alloc hblw _).trans (hb2.mono (by simp; omega))⟩
            · have h4' : ls.any lgB = false := by simpa using h4
              have H4 := HL2 false h4'
              have HALL2 : Hid (∀ h ∈ hs.take (i + 1), h.2.2.length ≤ 20 ∧ ∀ s ∈ h.2.2, s.size ≤ 1000) := Lib.hid (by
                intro h hh'
                rw [HTK.out, List.mem_append] at hh'
                rcases hh' with hh' | hh'
                · exact HALL.out h hh'
                · simp at hh'; subst hh'
                  refine ⟨by show ls.length ≤ 20; omega, fun s hs' => lgB_no ?_⟩
                  rw [List.any_eq_false] at h4'
                  simpa using h4' s hs')
              clear HL2 h4 h4'
              go_wp2_with (go_at_call 10; refine (H4.out _ hrdA).mono ?_; rintro e w2 ⟨rfl, rfl⟩)
              go_roundg (gk - 1)
              case measure => omega
              case rel => exact ⟨i + 1, by go_num, by omega, by omega, HALL2.out, hbl.alloc hblw _⟩
        · have hie : i = hs.length := by omega
          have HB : Hid (∀ h ∈ hs, h.2.2.length ≤ 1000 ∧ ∀ s ∈ h.2.2, s.size ≤ 1000) := Lib.hid (by
            intro h hh'
            have := HALL.out h (by rw [hie, List.take_length]; exact hh')
            exact ⟨by omega, this.2⟩)
          have hhr := (hh.below hbl).more hblw
          have HA := Lib.hid (apply_any a A ch hs wr hsa hhr (by omega) HB.out)
          clear hie hsz hr0
          cases hap : applyP a hs with
          | none =>
            have HA2 : Hid (Calls Try.prog 18 #[.string a, .slice A hs.length ch] wr fun e w' => e = .returned (.tuple #[.string ⟨#[]⟩, .int .i64 161]) ∧ Below wr.heap.size wr w') := Lib.hid (by have h := HA.out; rw [hap] at h; exact h)
            clear HA hap
            go_wp2_with (first
              | (go_at_call 18; refine (HA2.out).mono ?_; rintro e w2 ⟨rfl, hb2⟩)
              | (go_at_call 11; refine (awake_any _).mono ?_; rintro e w3 ⟨rfl, hb3⟩))
            go_ret
            exact ⟨rfl, (hbl.trans (hb2.mono hblw)).trans (hb3.mono (Nat.le_trans hblw hb2.size))⟩
          | some b =>
            have HA2 : Hid (Calls Try.prog 18 #[.string a, .slice A hs.length ch] wr fun e w' => e = .returned (.tuple #[.string b, .int .i64 0]) ∧ Below wr.heap.size wr w') := Lib.hid (by have h := HA.out; rw [hap] at h; exact h)
            obtain ⟨hle0, hin0⟩ := shortest a b hs hap
            have HLE := Lib.hid hle0
            have hla0 : (linesOf a).length ≤ 1000 := Nat.le_trans (linesOf_len a) hsa
            have HIN : Hid (inR 1000 hs) := Lib.hid (fun h hh' => by have := hin0 h hh'; exact ⟨this.1, this.2.1, by omega⟩)
            have hbsz : b.size ≤ 9223372036854775807 := by
              have := apply_bytes a b hs hap (fun h hh' => HALL.out h (by rw [show i = hs.length by omega, List.take_length]; exact hh'))
              omega
            clear HA hap hle0 hin0
            have HLG2 : ∀ r, [b].any lgB = r → Hid (∀ (g : Nat) (W : World), Reads W W.heap.size 1 (some ⟨g, 0, none⟩) 1 [.string b] → Calls Try.prog 10 #[.slice (some ⟨g, 0, none⟩) 1 1] W fun e w' => e = .returned (.bool r) ∧ W = w') :=
              fun r hr => Lib.hid (fun g W hW => by rw [← hr]; exact long_any (some ⟨g, 0, none⟩) 1 [b] W hW (by simp) (by simp; omega))
            have HRN : Hid (∀ W : World, Reads (W.alloc (.cells #[.string b] 9)) (W.heap.size + 1) 1 (some ⟨W.heap.size, 0, none⟩) 1 [.string b]) := Lib.hid (fun W => by simpa using reads_new W [b] 9 (W.heap.size + 1) (by omega))
            by_cases h5 : lgB b = true
            · have H5 := HLG2 true (by simp [h5])
              clear HLG2 h5
              go_wp2_with (first
                | (go_at_call 18; refine (HA2.out).mono ?_; rintro e w2 ⟨rfl, hb2⟩)
                | (go_at_call 10; refine (H5.out _ _ (by simpa using HRN.out w2)).mono ?_; rintro e w3 ⟨rfl, rfl⟩)
                | (go_at_call 11; refine (awake_any _).mono ?_; rintro e w4 ⟨rfl, hb4⟩))
              go_ret
              have z2 := hb2.size
              exact ⟨rfl, ((hbl.trans (hb2.mono hblw)).alloc (by omega) _).trans (hb4.mono (by simp; omega))⟩
            · have h5' : lgB b = false := by simpa using h5
              have H5 := HLG2 false (by simp [h5'])
              have hsb := lgB_no h5'
              clear HLG2 h5 h5'
              by_cases hl : 400 < (linesOf a).length ∨ 400 < (linesOf b).length
              · have HO := Lib.hid (fun W : World => diff_over a b W (by omega) (by omega) hl)
                clear hl
                go_wp2_with (first
                  | (go_at_call 18; refine (HA2.out).mono ?_; rintro e w2 ⟨rfl, hb2⟩)
                  | (go_at_call 10; refine (H5.out _ _ (by simpa using HRN.out w2)).mono ?_; rintro e w3 ⟨rfl, rfl⟩)
                  | (go_at_call 17; refine (HO.out _).mono ?_; rintro e w4 ⟨rfl, hb4⟩)
                  | (go_at_call 11; refine (awake_any _).mono ?_; rintro e w5 ⟨rfl, hb5⟩))
                go_ret
                have z2 := hb2.size
                have z4 := hb4.size
                simp at z4
                exact ⟨rfl, (((hbl.trans (hb2.mono hblw)).alloc (by omega) _).trans (hb4.mono (by simp; omega))).trans (hb5.mono (by omega))⟩
              · have hla : (linesOf a).length ≤ 400 := by omega
                have hlb : (linesOf b).length ≤ 400 := by omega
                clear hl
                have HD1 : Hid (∀ W : World, Calls Try.prog 17 #[.string a, .string b] W fun e w' => ∃ A c, e = .returned (.tuple #[.slice A (script (linesOf a) (linesOf b)).length c, .int .i64 0]) ∧ Hunks w' w'.heap.size A (hunksI (script (linesOf a) (linesOf b))) ∧ Below W.heap.size W w') :=
                  Lib.hid (fun W => (diff_any a b W (by omega) (by omega) hla hlb).mono fun e w' ⟨v, h1, h2, h3⟩ => by
                    obtain ⟨A, c, rfl, h4⟩ := h2.hunks
                    exact ⟨A, c, h1, h4, h3⟩)
                have hml : (script (linesOf a) (linesOf b)).length ≤ 401 := by
                  have h1 := scr_len (linesOf b) (prs 0 0 (linesOf a) (linesOf b) ++ [((linesOf a).length, (linesOf b).length)]) 0 0
                  have h2 := prs_pairs_len (linesOf a) (linesOf b) 0 0
                  unfold script
                  simp at h1; omega
                have HIN2 : Hid (inR 1000 (hunksI (script (linesOf a) (linesOf b)))) := Lib.hid (fun h hh' => by
                  have := scr_inR (linesOf b) _ _ _ 0 0 (prs_asc (linesOf a) (linesOf b) 0 0 _ _ (Nat.zero_add _) (Nat.zero_add _)) h hh'
                  exact ⟨this.1, this.2.1, by omega⟩)
                obtain ⟨K1, hK1⟩ : ∃ K1 : Int, K1 = ((linesOf a).length : Int) - cutI (hunksI (script (linesOf a) (linesOf b))) := ⟨_, rfl⟩
                obtain ⟨K2, hK2⟩ : ∃ K2 : Int, K2 = ((linesOf a).length : Int) - cutI hs := ⟨_, rfl⟩
                have hKK : K2 ≤ K1 := by rw [hK1, hK2]; exact HLE.out
                obtain ⟨m, hm⟩ : ∃ m, m = (script (linesOf a) (linesOf b)).length := ⟨_, rfl⟩
                have HKA : Hid (∀ (W : World) (A : Option Addr) (c : Nat), Hunks W W.heap.size A (hunksI (script (linesOf a) (linesOf b))) → Calls Try.prog 19 #[.string a, .slice A m c] W fun e w' => e = .returned (.int .i64 K1) ∧ Below W.heap.size W w') :=
                  Lib.hid (fun W A c hW => by rw [hK1]; exact kept_any a A c m (hunksI (script (linesOf a) (linesOf b))) W hsa hW (by rw [hunksI_len]; exact hm) (by rw [hunksI_len]; omega) HIN2.out)
                have HKB : Hid (∀ W : World, Hunks W W.heap.size A hs → Calls Try.prog 19 #[.string a, .slice A hs.length ch] W fun e w' => e = .returned (.int .i64 K2) ∧ Below W.heap.size W w') :=
                  Lib.hid (fun W hW => by rw [hK2]; exact kept_any a A ch hs.length hs W hsa hW rfl (by omega) HIN.out)
                rw [← hm] at HD1
                have HM := Lib.hid hm
                have HK := Lib.hid (And.intro hK1 hK2)
                have tok1 : True := trivial
                clear hm hK1 hK2 hml
                go_wp2_with (first
                  | (go_at_call 18; refine (HA2.out).mono ?_; rintro e w2 ⟨rfl, hb2⟩)
                  | (go_at_call 10; refine (H5.out _ _ (by simpa using HRN.out w2)).mono ?_; rintro e w3 ⟨rfl, rfl⟩)
                  | (go_at_call 17; refine (HD1.out _).mono ?_; rintro e w4 ⟨A4, c4, rfl, hH4, hb4⟩)
                  | (go_at_call 19; have _t := tok1; refine (HKA.out _ _ _ hH4).mono ?_; rintro e w5 ⟨rfl, hb5⟩; clear tok1 _t; have z2 := hb2.size; have z4 := hb4.size; simp at z4; have z5 := hb5.size; have hh5 := (hhr.below ((((Below.refl _ _).trans hb2).alloc (by omega) _).trans ((hb4.mono (by simp; omega)).trans (hb5.mono (by omega))))).more (show wr.heap.size ≤ w5.heap.size by omega))
                  | (go_at_call 19; refine (HKB.out _ hh5).mono ?_; rintro e w6 ⟨rfl, hb6⟩)
                  | (go_at_call 11; refine (awake_any _).mono ?_; rintro e w7 ⟨rfl, hb7⟩))
                go_ret
                have z6 := hb6.size
                exact ⟨by simp, (((((hbl.trans (hb2.mono hblw)).alloc (by omega) _).trans (hb4.mono (by simp; omega))).trans (hb5.mono (by omega))).trans (hb6.mono (by omega))).trans (hb7.mono (by omega))⟩
end Go.Proofs.Ytafhefhhndmdkaa
