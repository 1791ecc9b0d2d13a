/- The walk of MergeLines: it returns true and writes nothing that was there; for every string. -/
import Derived.Test.YtafhefhhndmdkaaDoorMgSplit
import Derived.Test.YtafhefhhndmdkaaDoorMgEq
import Derived.Test.YtafhefhhndmdkaaDoorMgLong
import Derived.Test.YtafhefhhndmdkaaDoorMgBackMath
namespace Go.Proofs.YtafhefhhndmdkaaDoor
open Go.RowKit Mg
attribute [local go_sem ↓] Go.wp_at_zero Go.wp_at_succ

theorem lns_len : ∀ l : List UInt8, (lns l).length ≤ l.length
  | [] => by simp [lns]
  | c :: l => by
    have ih := lns_len l
    by_cases h : c = 10
    · simp only [lns, if_pos h, List.length_cons]
      omega
    · simp only [lns, if_neg h]
      split
      · simp
      · rename_i x r e
        rw [e] at ih
        simp only [List.length_cons] at ih ⊢
        omega
theorem lines_len (s : ByteArray) : (linesOf s).length ≤ s.size := by
  have := lns_len s.data.toList
  unfold linesOf
  rw [Array.length_toList] at this
  rwa [List.length_map]
/-- merge.Lines, as lines to be read -/
theorem lines_read (s : ByteArray) (w : World) (hs : s.size ≤ 1000000) :
    Calls Tryd.prog 12 #[.string s] w fun e w' => ∃ A c, e = .returned (.slice A (linesOf s).length c) ∧ Strs w' w'.heap.size A c (linesOf s) ∧ Below w.heap.size w w' :=
  (lines_any s w hs).mono fun e w' ⟨v, h1, h2, h3⟩ => by
    obtain ⟨A, c, rfl, h4⟩ := Strs.of_own h2
    exact ⟨A, c, h1, h4, h3⟩
set_option maxHeartbeats 4000000 in
set_option maxRecDepth 100000 in
theorem mergeLines_law (s : ByteArray) (w : World) (hs : s.size ≤ maxLen) :
    Calls Tryd.prog 4 #[.string s] w fun e w' => e = .returned (.bool true) ∧ Below w.heap.size w w' := by
  unfold maxLen at hs
  have hr0 := reads_new w [s] 9 (w.heap.size + 1) (by omega)
  obtain ⟨r, hr⟩ : ∃ r, [s].any lgB = r := ⟨_, rfl⟩
  have HLG : Hid (∀ W : World, Reads W W.heap.size 1 (some ⟨w.heap.size, 0, none⟩) 1 [.string s] → Calls Tryd.prog 7 #[.slice (some ⟨w.heap.size, 0, none⟩) 1 1] W fun e w' => e = .returned (.bool r) ∧ W = w') :=
    Lib.hid (fun W hW => by rw [← hr]; exact long_any (some ⟨w.heap.size, 0, none⟩) 1 [s] W hW (by simp) (by simp; omega))
  have hbw : Below w.heap.size w (w.alloc (.cells #[.string s] 9)) := (Below.refl _ _).alloc (Nat.le_refl _) _
  cases r with
  | true =>
    clear hr
    go_enter Tryd.func4, Tryd.ntmps4
    go_wp2_with (first
      | (go_at_call 7; refine (HLG.out _ (by simpa using hr0)).mono ?_; rintro e w1 ⟨rfl, rfl⟩)
      | (go_at_call 8; refine (awake_any _).mono ?_; rintro e w1 ⟨rfl, hb1⟩))
    go_ret
    exact ⟨rfl, hbw.trans (hb1.mono (by simp))⟩
  | false =>
    have hlg : lgB s = false := by simpa using hr
    have hsa := lgB_no hlg
    clear hr hlg
    have HJ : Hid (joinS (linesOf s) = s) := Lib.hid (joinS_lines s)
    have hss : ∀ x ∈ linesOf s, x.size ≤ 1000000 := fun x hx => by have := linesOf_size s x hx; omega
    have HSS := Lib.hid hss
    clear hss
    have HR := Lib.hid (fun W : World => refLines_any s W (by omega))
    have hbe : (s.toList == s.toList) = true := by simp
    go_enter Tryd.func4, Tryd.ntmps4
    go_wp2_with (first
      | (go_at_call 7; refine (HLG.out _ (by simpa using hr0)).mono ?_; rintro e w1 ⟨rfl, rfl⟩)
      | (go_at_call 12; refine (lines_read s _ (by omega)).mono ?_; rintro e w2 ⟨A1, c1, rfl, hs1, hb2⟩)
      | (go_at_call 14; refine (HR.out _).mono ?_; rintro e w3 ⟨A2, c2, rfl, hs2, hl2, hb3⟩))
    have hs1' := (hs1.below hb3).more hb3.size
    have z2 := hb2.size
    have z3 := hb3.size
    simp at z2
    have hln := lines_len s
    have HE := Lib.hid (refEqual_any A1 A2 c1 c2 _ _ (linesOf s) (linesOf s) hs1' hs2 rfl rfl (by omega) (by omega) true (by simp))
    have HJ2 := Lib.hid (fun q : Nat => join_any (hs1'.drewN q) (Nat.le_refl _) rfl (by omega) HSS.out)
    rw [HJ.out] at HJ2
    have hbw3 : Below w.heap.size w w3 := (hbw.trans (hb2.mono (by simp))).trans (hb3.mono (by omega))
    clear hs1 hs2 hb2 hb3 hbw hr0 hs1' hl2
    refine HE.out.mono ?_
    rintro e w4 ⟨rfl, q, rfl⟩
    go_wp2_with (first
      | (go_at_call 15; refine (HJ2.out _).mono ?_; rintro e w5 ⟨rfl, hb5⟩)
      | (go_at_call 8; refine (awake_any _).mono ?_; rintro e w6 ⟨rfl, hb6⟩))
    go_ret
    have z5 := hb5.size
    have z5' : w3.heap.size ≤ w5.heap.size := z5
    have hbq : Below w.heap.size w (w3.drewN q) := ⟨hbw3.os, hbw3.tape, hbw3.output, hbw3.size, hbw3.block⟩
    have hz : w.heap.size ≤ (w3.drewN q).heap.size := hbw3.size
    exact ⟨rfl, (hbq.trans (hb5.mono hz)).trans (hb6.mono (by omega))⟩
end Go.Proofs.YtafhefhhndmdkaaDoor
