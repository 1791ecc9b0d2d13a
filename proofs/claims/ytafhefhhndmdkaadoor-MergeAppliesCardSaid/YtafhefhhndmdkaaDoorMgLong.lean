/- The check of lengths of the statements of layer 16; merge.Diff where a text has too many lines. No condition but on sizes. -/
import Derived.Test.YtafhefhhndmdkaaDoorMgAwake
namespace Go.Proofs.YtafhefhhndmdkaaDoor
open Go.RowKit Mg

/-- longer than the statements look at -/
def lgB (s : ByteArray) : Bool := decide (1000 < s.size) || decide (420 < s.data.toList.count 10)

theorem lgB_no {s : ByteArray} (h : lgB s = false) : s.size ≤ 1000 := by
  unfold lgB at h; simp at h; omega

set_option maxHeartbeats 1000000 in
theorem long_any (A : Option Addr) (c : Nat) (ss : List ByteArray) (w : World) (hr : Reads w w.heap.size 1 A ss.length (ss.map Value.string)) (hn : ss.length ≤ 1000000) (hs : ∀ s ∈ ss, s.size ≤ 9223372036854775807) :
    Calls Tryd.prog 7 #[.slice A ss.length c] w fun e w' => e = .returned (.bool (ss.any lgB)) ∧ w = w' := by
  have HS := Lib.hid hs
  clear hs
  go_enter Tryd.func7, Tryd.ntmps7
  go_wp2
  go_loopg [7] ss.length (fun gk i wr => ∃ k : Nat, i = .int .i64 k ∧ k ≤ ss.length ∧ ss.length - k ≤ gk ∧ (∀ s ∈ ss.take k, lgB s = false) ∧ wr = w)
  case atStart => exact ⟨0, rfl, Nat.zero_le _, by simp, by simp, rfl⟩
  case round =>
    obtain ⟨k, rfl, hk, hg, hall, rfl⟩ := hrel
    have HA := Lib.hid hall
    clear hall
    by_cases hlt : k < ss.length
    · obtain ⟨ad, rfl, had, hcell⟩ := str_cell hr hlt
      have hmem : ss[k] ∈ ss := List.getElem_mem hlt
      have hsz := HS.out _ hmem
      by_cases hbig : 1000 < ss[k].size
      · have HR : Hid (ss.any lgB = true) := Lib.hid (by rw [List.any_eq_true]; exact ⟨_, hmem, by unfold lgB; simp [hbig]⟩)
        clear hmem
        go_wp2
        go_ret
        exact ⟨by rw [HR.out]; rfl, rfl⟩
      · have hb0 : ss[k].size ≤ 1000 := by omega
        clear hbig
        have hct : ss[k].data.toList.count 10 ≤ ss[k].data.toList.length := List.count_le_length
        have hct2 : ss[k].data.toList.length ≤ 1000 := hb0
        have HC := Lib.hid (fun w : World => (Tryd.strings_Count_one ss[k] 10 w).mono fun _ _ h => And.intro h.1 h.2.symm)
        obtain ⟨m, hm⟩ : ∃ m : Nat, m = ss[k].data.toList.count 10 := ⟨_, rfl⟩
        have hm2 : m ≤ 1000 := by omega
        have HC2 : Hid (∀ w : World, Calls Tryd.prog 23 #[.string ss[k], .string ⟨#[10]⟩] w fun e w' => e = .returned (.int .i64 m) ∧ w = w') := Lib.hid (by rw [hm]; exact HC.out)
        have HM := Lib.hid hm
        clear hm hct hct2 HC
        by_cases hc : 420 < m
        · have HR : Hid (ss.any lgB = true) := Lib.hid (by rw [List.any_eq_true]; exact ⟨_, hmem, by unfold lgB; rw [← HM.out]; simp [hc]⟩)
          clear hmem
          go_wp2_with (go_at_call 23; refine (HC2.out _).mono ?_; rintro e w1 ⟨rfl, rfl⟩)
          go_ret
          exact ⟨by rw [HR.out]; rfl, rfl⟩
        · have HA2 : Hid (∀ s ∈ ss.take (k + 1), lgB s = false) := Lib.hid (by
            intro s hs'
            rw [List.take_succ_eq_append_getElem hlt, List.mem_append] at hs'
            rcases hs' with h | h
            · exact HA.out s h
            · simp at h; subst h; unfold lgB; rw [← HM.out]; simp; omega)
          clear hmem
          go_wp2_with (go_at_call 23; refine (HC2.out _).mono ?_; rintro e w1 ⟨rfl, rfl⟩)
          go_roundg (gk - 1)
          case measure => omega
          case rel => exact ⟨k + 1, by go_num, by omega, by omega, HA2.out, rfl⟩
    · have HR : Hid (ss.any lgB = false) := Lib.hid (by
        rw [List.any_eq_false]
        intro s hs'
        have := HA.out s (by rw [List.take_of_length_le (by omega)]; exact hs')
        simp [this])
      go_wp2
      go_ret
      exact ⟨by rw [HR.out]; rfl, rfl⟩

set_option maxHeartbeats 1000000 in
theorem diff_over (a b : ByteArray) (w : World) (ha : a.size ≤ 1000000) (hb : b.size ≤ 1000000) (hl : 400 < (linesOf a).length ∨ 400 < (linesOf b).length) :
    Calls Tryd.prog 9 #[.string a, .string b] w fun e w' => e = .returned (.tuple #[.slice none 0 0, .int .i64 160]) ∧ Below w.heap.size w w' := by
  have hr0 := reads_new w [a, b] 9 (w.heap.size + 1) (by omega)
  have HL : Hid (∃ s ∈ [a, b], 400 < (linesOf s).length) := Lib.hid (by
    rcases hl with h | h
    · exact ⟨a, by simp, h⟩
    · exact ⟨b, by simp, h⟩)
  clear hl
  go_enter Tryd.func9, Tryd.ntmps9
  go_wp2_with (go_at_call 24; refine (texts_over (some ⟨w.heap.size, 0, none⟩) 2 [a, b] _ (by simpa using hr0) (by simp) (by simp [ha, hb]) HL.out).mono ?_; rintro e w1 ⟨rfl, hb1⟩)
  go_ret2
  exact ⟨rfl, ((Below.refl _ w).alloc (Nat.le_refl _) _).trans (hb1.mono (by simp))⟩
end Go.Proofs.YtafhefhhndmdkaaDoor
