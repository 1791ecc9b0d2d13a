/- merge.whole, and slices.ContainsFunc with the closure of merge.Apply; for strings of at most a million bytes. -/
import Derived.Test.YtafhefhhndmdkaaDoorMgLong
namespace Go.Proofs.YtafhefhhndmdkaaDoor
open Go.RowKit Mg

/-- whether s is one line -/
def wholeB (s : ByteArray) : Bool := !s.data.toList.isEmpty && !decide (0 ≤ Lib.indexByte (s.data.toList.take (s.size - 1)) 10)

set_option maxHeartbeats 400000 in
theorem whole_any (s : ByteArray) (w : World) (hs : s.size ≤ 1000000) :
    Calls Tryd.prog 36 #[.string s] w fun e w' => e = .returned (.bool (wholeB s)) ∧ w = w' := by
  by_cases he : s.data.toList = []
  · have h1 : s.toList = [] := by rw [Lib.toList_data]; exact he
    have HR : Hid (wholeB s = false) := Lib.hid (by unfold wholeB; simp [he])
    clear he
    go_enter Tryd.func36, Tryd.ntmps36
    go_wp2
    go_ret
    exact ⟨by rw [HR.out]; rfl, rfl⟩
  · have h1 : s.toList.isEmpty = false := by rw [Lib.toList_data]; simpa using he
    have hpos : 0 < s.size := by
      rcases Nat.eq_zero_or_pos s.size with h | h
      · exact absurd (List.eq_nil_of_length_eq_zero h) he
      · exact h
    have HC := Lib.hid (fun w : World => (Tryd.strings_Contains_one (s.extract 0 (s.size - 1)) 10 w).mono fun _ _ h => And.intro h.1 h.2.symm)
    have HR : Hid (∀ b, decide (0 ≤ Lib.indexByte (s.extract 0 (s.size - 1)).data.toList 10) = b → wholeB s = !b) := Lib.hid (by
      intro b hb
      rw [Lib.extract_data] at hb
      simp only [List.drop_zero, Nat.sub_zero] at hb
      have h2 : s.data.toList.isEmpty = false := by rw [← Lib.toList_data]; exact h1
      unfold wholeB
      rw [hb, h2]
      rfl)
    clear he
    obtain ⟨b, hb⟩ : ∃ b, decide (0 ≤ Lib.indexByte (s.extract 0 (s.size - 1)).data.toList 10) = b := ⟨_, rfl⟩
    have HC2 : Hid (∀ w : World, Calls Tryd.prog 52 #[.string (s.extract 0 (s.size - 1)), .string ⟨#[10]⟩] w fun e w' => e = .returned (.bool b) ∧ w = w') := Lib.hid (by rw [← hb]; exact HC.out)
    have HB := Lib.hid hb
    clear hb HC
    go_enter Tryd.func36, Tryd.ntmps36
    go_wp2_with (go_at_call 52; refine (HC2.out _).mono ?_; rintro e w1 ⟨rfl, rfl⟩)
    go_ret
    exact ⟨by rw [HR.out b HB.out]; simp, rfl⟩

set_option maxHeartbeats 400000 in
theorem unwhole_any (s : ByteArray) (w : World) (hs : s.size ≤ 1000000) :
    Calls Tryd.prog 35 #[.string s] w fun e w' => e = .returned (.bool (!wholeB s)) ∧ w = w' := by
  go_enter Tryd.func35, Tryd.ntmps35
  go_wp2_with (go_at_call 36; refine (whole_any _ _ hs).mono ?_; rintro e w1 ⟨rfl, rfl⟩)
  go_ret
  exact ⟨rfl, rfl⟩

set_option maxHeartbeats 400000 in
theorem indexFunc_any (A : Option Addr) (c n : Nat) (ss : List ByteArray) (B : Nat) (w : World) (hr : Strs w B A c ss) (hnl : n = ss.length) (hn : ss.length ≤ 1000000) (hs : ∀ s ∈ ss, s.size ≤ 1000000) :
    Calls Tryd.prog 51 #[.slice A n c, .func (Fn.func 35) #[] #[]] w fun e w' => (∃ r : Int, e = .returned (.int .i64 r) ∧ -1 ≤ r ∧ r ≤ 1000000 ∧ decide (0 ≤ r) = ss.any fun s => !wholeB s) ∧ w = w' := by
  subst hnl
  have HS := Lib.hid hs
  clear hs
  go_enter Tryd.func51, Tryd.ntmps51
  go_wp2
  go_loopg [8] ss.length (fun gk i wr => ∃ k : Nat, i = .int .i64 k ∧ k ≤ ss.length ∧ ss.length - k ≤ gk ∧ (∀ s ∈ ss.take k, wholeB s = true) ∧ wr = w)
  case atStart => exact ⟨0, rfl, Nat.zero_le _, by simp, by simp, rfl⟩
  case round =>
    obtain ⟨k, rfl, hk, hg, hall, rfl⟩ := hrel
    have HA := Lib.hid hall
    clear hall
    by_cases hlt : k < ss.length
    · obtain ⟨b, o, rfl, hbB, hcell⟩ := hr.at_ hlt
      have hmem : ss[k] ∈ ss := List.getElem_mem hlt
      have hsz := HS.out _ hmem
      by_cases hw : wholeB ss[k] = true
      · have HA2 : Hid (∀ s ∈ ss.take (k + 1), wholeB s = true) := Lib.hid (by
          intro s hs'
          rw [List.take_succ_eq_append_getElem hlt, List.mem_append] at hs'
          rcases hs' with h | h
          · exact HA.out s h
          · simp at h; subst h; exact hw)
        have HC := Lib.hid (fun w : World => (unwhole_any ss[k] w hsz).mono fun e w' h => (show e = .returned (.bool false) ∧ w = w' from ⟨by rw [h.1, hw]; rfl, h.2⟩))
        clear hmem hw
        go_wp2_with (go_at_call 35; refine (HC.out _).mono ?_; rintro e w1 ⟨rfl, rfl⟩)
        go_roundg (gk - 1)
        case measure => omega
        case rel => exact ⟨k + 1, by go_num, by omega, by omega, HA2.out, rfl⟩
      · have hw' : wholeB ss[k] = false := by simpa using hw
        have HR : Hid ((ss.any fun s => !wholeB s) = true) := Lib.hid (by rw [List.any_eq_true]; exact ⟨_, hmem, by simp [hw']⟩)
        have HC := Lib.hid (fun w : World => (unwhole_any ss[k] w hsz).mono fun e w' h => (show e = .returned (.bool true) ∧ w = w' from ⟨by rw [h.1, hw']; rfl, h.2⟩))
        clear hmem hw hw'
        go_wp2_with (go_at_call 35; refine (HC.out _).mono ?_; rintro e w1 ⟨rfl, rfl⟩)
        go_ret
        exact ⟨⟨k, rfl, by omega, by omega, by rw [HR.out]; simp⟩, rfl⟩
    · have HR : Hid ((ss.any fun s => !wholeB s) = false) := Lib.hid (by
        rw [List.any_eq_false]
        intro s hs'
        have := HA.out s (by rw [List.take_of_length_le (by omega)]; exact hs')
        simp [this])
      go_wp2
      go_ret
      exact ⟨⟨-1, rfl, by omega, by omega, by rw [HR.out]; rfl⟩, rfl⟩

set_option maxHeartbeats 400000 in
theorem containsFunc_any (A : Option Addr) (c n : Nat) (ss : List ByteArray) (B : Nat) (w : World) (hr : Strs w B A c ss) (hnl : n = ss.length) (hn : ss.length ≤ 1000000) (hs : ∀ s ∈ ss, s.size ≤ 1000000) (r : Bool) (hres : (ss.any fun s => !wholeB s) = r) :
    Calls Tryd.prog 34 #[.slice A n c, .func (Fn.func 35) #[] #[]] w fun e w' => e = .returned (.bool r) ∧ w = w' := by
  have HC := Lib.hid (indexFunc_any A c n ss B w hr hnl hn hs)
  have HR := Lib.hid hres
  clear hr hs hnl hres
  go_enter Tryd.func34, Tryd.ntmps34
  go_wp2_with (go_at_call 51; refine (HC.out).mono ?_; rintro e w1 ⟨⟨k, rfl, hk1, hk2, hk3⟩, rfl⟩; have HK := Lib.hid hk3; clear hk3)
  go_ret
  refine ⟨?_, rfl⟩
  have h1 := HK.out
  rw [HR.out] at h1
  rw [← h1]
  rfl
end Go.Proofs.YtafhefhhndmdkaaDoor
