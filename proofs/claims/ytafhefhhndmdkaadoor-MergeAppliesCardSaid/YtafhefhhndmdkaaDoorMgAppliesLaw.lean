/- The walk of MergeApplies: it returns true and writes nothing that was there; for every string and every list of hunks in memory; the reference's contract is given. -/
import Derived.Test.YtafhefhhndmdkaaDoorMgRefApMath
import Derived.Test.YtafhefhhndmdkaaDoorMgLong
import Derived.Test.YtafhefhhndmdkaaDoorMgApply
namespace Go.Proofs.YtafhefhhndmdkaaDoor
open Go.RowKit Mg
attribute [local go_sem ↓] Go.wp_at_zero Go.wp_at_succ

set_option maxHeartbeats 8000000 in
set_option maxRecDepth 100000 in
theorem mergeApplies_law0 (a : ByteArray) (A : Option Addr) (n ch : Nat) (hs : List Hunk) (w : World) (ha : a.size ≤ maxLen) (hn : n = hs.length) (hn2 : n ≤ maxLen) (hh : Hunks w w.heap.size A hs) (hss : ∀ h ∈ hs, ∀ s ∈ h.2.2, s.size ≤ maxLen)
    (href : ∀ W : World, a.size ≤ 1000 → Hunks W W.heap.size A hs → hs.length ≤ 1000 → (∀ h ∈ hs, h.2.2.length ≤ 1000 ∧ ∀ s ∈ h.2.2, s.size ≤ 1000) →
      Calls Tryd.prog 17 #[.string a, .slice A hs.length ch] W fun e w' => e = .returned (applyRes (refP a hs)) ∧ Below W.heap.size W w') :
    Calls Tryd.prog 5 #[.string a, .slice A n ch] w fun e w' => e = .returned (.bool true) ∧ Below w.heap.size w w' := by
  subst hn
  have HREF := Lib.hid href
  clear href
  unfold maxLen at ha hn2 hss
  have HSS := Lib.hid hss
  clear hss
  have hr0 := reads_new w [a] 9 (w.heap.size + 1) (by omega)
  have HLG : ∀ r, [a].any lgB = r → Hid (∀ W : World, Reads W W.heap.size 1 (some ⟨w.heap.size, 0, none⟩) 1 [.string a] → Calls Tryd.prog 7 #[.slice (some ⟨w.heap.size, 0, none⟩) 1 1] W fun e w' => e = .returned (.bool r) ∧ W = w') :=
    fun r hr => Lib.hid (fun W hW => by rw [← hr]; exact long_any (some ⟨w.heap.size, 0, none⟩) 1 [a] W hW (by simp) (by simp; omega))
  have hbw : Below w.heap.size w (w.alloc (.cells #[.string a] 9)) := (Below.refl _ _).alloc (Nat.le_refl _) _
  by_cases h1 : lgB a = true
  · have H1 := HLG true (by simp [h1])
    clear HLG h1
    go_enter Tryd.func5, Tryd.ntmps5
    go_wp2_with (first
      | (go_at_call 7; refine (H1.out _ (by simpa using hr0)).mono ?_; rintro e w1 ⟨rfl, rfl⟩)
      | (go_at_call 8; refine (awake_any _).mono ?_; rintro e w1 ⟨rfl, hb1⟩))
    go_ret
    exact ⟨rfl, hbw.trans (hb1.mono (by simp))⟩
  · have h1' : lgB a = false := by simpa using h1
    have H1 := HLG false (by simp [h1'])
    have hsa := lgB_no h1'
    clear HLG h1 h1'
    by_cases h2 : 20 < hs.length
    · have h2' : (20 : Int) < (hs.length : Int) := by omega
      go_enter Tryd.func5, Tryd.ntmps5
      go_wp2_with (first
        | (go_at_call 7; refine (H1.out _ (by simpa using hr0)).mono ?_; rintro e w1 ⟨rfl, rfl⟩)
        | (go_at_call 8; refine (awake_any _).mono ?_; rintro e w1 ⟨rfl, hb1⟩))
      go_ret
      exact ⟨rfl, hbw.trans (hb1.mono (by simp))⟩
    · have h2' : (hs.length : Int) ≤ 20 := by omega
      have hsz : w.heap.size < (w.alloc (.cells #[.string a] 9)).heap.size := by simp
      go_enter Tryd.func5, Tryd.ntmps5
      go_wp2_with (go_at_call 7; refine (H1.out _ (by simpa using hr0)).mono ?_; rintro e w1 ⟨rfl, rfl⟩)
      generalize w.alloc (.cells #[.string a] 9) = wa at *
      go_loopg [22] hs.length (fun gk z wr => ∃ i : Nat, z = .int .i64 i ∧ i ≤ hs.length ∧ hs.length - i ≤ gk ∧ (∀ h ∈ hs.take i, h.2.2.length ≤ 20 ∧ ∀ s ∈ h.2.2, s.size ≤ 1000) ∧ Below w.heap.size w wr)
      case atStart => exact ⟨0, rfl, Nat.zero_le _, by omega, by simp, hbw⟩
      case round =>
        obtain ⟨i, rfl, hi, hg, hall, hbl⟩ := hrel
        have HALL := Lib.hid hall
        clear hall
        have hblw := hbl.size
        by_cases hlt : i < hs.length
        · obtain ⟨⟨f, t, ls⟩, hx⟩ : ∃ x, hs[i] = x := ⟨_, rfl⟩
          have hmem : (f, t, ls) ∈ hs := by rw [← hx]; exact List.getElem_mem hlt
          have HSL := Lib.hid (HSS.out _ hmem)
          have HTK : Hid (hs.take (i + 1) = hs.take i ++ [(f, t, ls)]) := Lib.hid (by rw [List.take_succ_eq_append_getElem hlt, hx])
          obtain ⟨b, o, Aj, cj, rfl, hbB, cf, ct, cl, hsj⟩ := (hh.below hbl) i (f, t, ls) (by rw [List.getElem?_eq_getElem hlt, hx])
          simp only at cf ct cl hsj
          have hrd := hsj.reads
          clear hmem hx
          by_cases h3 : 20 < ls.length
          · have h3' : (20 : Int) < (ls.length : Int) := by omega
            go_wp2_with (go_at_call 8; refine (awake_any _).mono ?_; rintro e w2 ⟨rfl, hb2⟩)
            go_ret
            exact ⟨rfl, (hbl.alloc hblw _).trans (hb2.mono (by simp; omega))⟩
          · have h3' : (ls.length : Int) ≤ 20 := by omega
            have HL2 : ∀ r, ls.any lgB = r → Hid (∀ W : World, Reads W W.heap.size 1 Aj ls.length (ls.map Value.string) → Calls Tryd.prog 7 #[.slice Aj ls.length cj] W fun e w' => e = .returned (.bool r) ∧ W = w') :=
              fun r hr => Lib.hid (fun W hW => by rw [← hr]; exact long_any Aj cj ls W hW (by omega) HSL.out)
            have hrdA := (hrd.alloc hblw (.cells #[.int .i64 f, .int .i64 t, .slice Aj ls.length cj] 36)).more (show w.heap.size ≤ (wr.alloc (.cells #[.int .i64 f, .int .i64 t, .slice Aj ls.length cj] 36)).heap.size by simp; omega)
            by_cases h4 : ls.any lgB = true
            · have H4 := HL2 true h4
              clear HL2 h4
              go_wp2_with (first
                | (go_at_call 7; refine (H4.out _ hrdA).mono ?_; rintro e w2 ⟨rfl, rfl⟩)
                | (go_at_call 8; refine (awake_any _).mono ?_; rintro e w2 ⟨rfl, hb2⟩))
              go_ret
              exact ⟨rfl, (hbl.alloc hblw _).trans (hb2.mono (by simp; omega))⟩
            · have h4' : ls.any lgB = false := by simpa using h4
              have H4 := HL2 false h4'
              have HALL2 : Hid (∀ h ∈ hs.take (i + 1), h.2.2.length ≤ 20 ∧ ∀ s ∈ h.2.2, s.size ≤ 1000) := Lib.hid (by
                intro h hh'
                rw [HTK.out, List.mem_append] at hh'
                rcases hh' with hh' | hh'
                · exact HALL.out h hh'
                · simp at hh'; subst hh'
                  refine ⟨by show ls.length ≤ 20; omega, fun s hs' => lgB_no ?_⟩
                  rw [List.any_eq_false] at h4'
                  simpa using h4' s hs')
              clear HL2 h4 h4'
              go_wp2_with (go_at_call 7; refine (H4.out _ hrdA).mono ?_; rintro e w2 ⟨rfl, rfl⟩)
              go_roundg (gk - 1)
              case measure => omega
              case rel => exact ⟨i + 1, by go_num, by omega, by omega, HALL2.out, hbl.alloc hblw _⟩
        · have hie : i = hs.length := by omega
          have HB : Hid (∀ h ∈ hs, h.2.2.length ≤ 1000 ∧ ∀ s ∈ h.2.2, s.size ≤ 1000) := Lib.hid (by
            intro h hh'
            have := HALL.out h (by rw [hie, List.take_length]; exact hh')
            exact ⟨by omega, this.2⟩)
          have hhr := (hh.below hbl).more hblw
          have HA := Lib.hid (apply_any a A ch hs wr hsa hhr (by omega) HB.out)
          clear hie hsz hr0
          have HR := Lib.hid (fun (W : World) (hW : Hunks W W.heap.size A hs) => HREF.out W hsa hW (by omega) HB.out)
          rw [refP_eq] at HR
          clear HREF
          cases hap : applyP a hs with
          | none =>
            have HA2 : Hid (Calls Tryd.prog 16 #[.string a, .slice A hs.length ch] wr fun e w' => e = .returned (.tuple #[.string ⟨#[]⟩, .int .i64 161]) ∧ Below wr.heap.size wr w') := Lib.hid (by have h := HA.out; rw [hap] at h; exact h)
            have HR2 : Hid (∀ W : World, Hunks W W.heap.size A hs → Calls Tryd.prog 17 #[.string a, .slice A hs.length ch] W fun e w' => e = .returned (.tuple #[.string ⟨#[]⟩, .int .i64 161]) ∧ Below W.heap.size W w') := Lib.hid (by have h := HR.out; rw [hap] at h; exact h)
            clear HA hap HR
            go_wp2_with (first
              | (go_at_call 16; refine (HA2.out).mono ?_; rintro e w2 ⟨rfl, hb2⟩; have hh2 := (hhr.below hb2).more hb2.size)
              | (go_at_call 17; refine (HR2.out _ hh2).mono ?_; rintro e w3 ⟨rfl, hb3⟩)
              | (go_at_call 8; refine (awake_any _).mono ?_; rintro e w4 ⟨rfl, hb4⟩))
            go_ret
            have z2 := hb2.size
            have z3 := hb3.size
            exact ⟨rfl, ((hbl.trans (hb2.mono hblw)).trans (hb3.mono (by omega))).trans (hb4.mono (by omega))⟩
          | some b =>
            have HA2 : Hid (Calls Tryd.prog 16 #[.string a, .slice A hs.length ch] wr fun e w' => e = .returned (.tuple #[.string b, .int .i64 0]) ∧ Below wr.heap.size wr w') := Lib.hid (by have h := HA.out; rw [hap] at h; exact h)
            have HR2 : Hid (∀ W : World, Hunks W W.heap.size A hs → Calls Tryd.prog 17 #[.string a, .slice A hs.length ch] W fun e w' => e = .returned (.tuple #[.string b, .int .i64 0]) ∧ Below W.heap.size W w') := Lib.hid (by have h := HR.out; rw [hap] at h; exact h)
            have hbe : (b.toList == b.toList) = true := by simp
            clear HA hap HR
            go_wp2_with (first
              | (go_at_call 16; refine (HA2.out).mono ?_; rintro e w2 ⟨rfl, hb2⟩; have hh2 := (hhr.below hb2).more hb2.size)
              | (go_at_call 17; refine (HR2.out _ hh2).mono ?_; rintro e w3 ⟨rfl, hb3⟩)
              | (go_at_call 8; refine (awake_any _).mono ?_; rintro e w4 ⟨rfl, hb4⟩))
            go_ret
            have z2 := hb2.size
            have z3 := hb3.size
            exact ⟨by simp, ((hbl.trans (hb2.mono hblw)).trans (hb3.mono (by omega))).trans (hb4.mono (by omega))⟩
end Go.Proofs.YtafhefhhndmdkaaDoor
