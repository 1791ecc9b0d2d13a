/- The walk of MergeUnchanged: it returns true and writes nothing that was there; for every two strings. -/
import Derived.Test.YtafhefhhndmdkaaMgExch
import Derived.Test.YtafhefhhndmdkaaMgUnMath
namespace Go.Proofs.Ytafhefhhndmdkaa
open Go.RowKit Mg
attribute [local go_sem ↓] Go.wp_at_zero Go.wp_at_succ

/-- a merge whose text is d, and its text -/
theorem merge_txt (o a b d : ByteArray) (hso : o.size ≤ 1000) (hsa : a.size ≤ 1000) (hsb : b.size ≤ 1000) (hlo : (linesOf o).length ≤ 400) (hla : (linesOf a).length ≤ 400) (hlb : (linesOf b).length ≤ 400)
    (ht : textP (mergeP (linesOf o) (linesOf a) (linesOf b)) = some (linesOf d)) :
    ∃ (n : Nat) (ps : List PcI), (∀ w : World, Calls Try.prog 12 #[.string o, .string a, .string b] w fun e w' => ∃ A c, e = .returned (.tuple #[.slice A n c, .int .i64 0]) ∧ TxtAt w' w'.heap.size A ps ∧ Below w.heap.size w w') ∧
      ∀ (w : World) (A : Option Addr) (c : Nat), TxtAt w w.heap.size A ps → Calls Try.prog 15 #[.slice A n c] w fun e w' => e = .returned (.tuple #[.string d, .bool true]) ∧ Below w.heap.size w w' := by
  refine ⟨(mergeP (linesOf o) (linesOf a) (linesOf b)).length, (mergeP (linesOf o) (linesOf a) (linesOf b)).map toI, fun w => ?_, fun w A c h => ?_⟩
  · exact (merge_read o a b w (by omega) (by omega) (by omega) hlo hla hlb).mono fun e w' ⟨A, c, h1, _, h2, h3⟩ => ⟨A, c, h1, h2.txt, h3⟩
  · have h1 := text_any ((mergeP (linesOf o) (linesOf a) (linesOf b)).map toI) A c _ w (List.length_map ..) h (merge_small o a b hlo hla hlb (by omega) (by omega))
    rw [text_toI, ht, textRes, joinS_lines] at h1
    exact h1

set_option maxHeartbeats 8000000 in
set_option maxRecDepth 100000 in
theorem mergeUnchanged_law (o b : ByteArray) (w : World) (ho : o.size ≤ maxLen) (hb : b.size ≤ maxLen) :
    Calls Try.prog 5 #[.string o, .string b] w fun e w' => e = .returned (.bool true) ∧ Below w.heap.size w w' := by
  unfold maxLen at ho hb
  have hr0 := reads_new w [o, b] 9 (w.heap.size + 1) (by omega)
  obtain ⟨r, hr⟩ : ∃ r, [o, b].any lgB = r := ⟨_, rfl⟩
  have HLG : Hid (∀ W : World, Reads W W.heap.size 1 (some ⟨w.heap.size, 0, none⟩) 2 [.string o, .string b] → Calls Try.prog 10 #[.slice (some ⟨w.heap.size, 0, none⟩) 2 2] W fun e w' => e = .returned (.bool r) ∧ W = w') :=
    Lib.hid (fun W hW => by rw [← hr]; exact long_any (some ⟨w.heap.size, 0, none⟩) 2 [o, b] W hW (by simp) (by simp; omega))
  have hbw : Below w.heap.size w (w.alloc (.cells #[.string o, .string b] 9)) := (Below.refl _ _).alloc (Nat.le_refl _) _
  cases r with
  | true =>
    clear hr
    go_enter Try.func5, Try.ntmps5
    go_wp2_with (first
      | (go_at_call 10; refine (HLG.out _ (by simpa using hr0)).mono ?_; rintro e w1 ⟨rfl, rfl⟩)
      | (go_at_call 11; refine (awake_any _).mono ?_; rintro e w1 ⟨rfl, hb1⟩))
    go_ret
    exact ⟨rfl, hbw.trans (hb1.mono (by simp))⟩
  | false =>
    have hlg : lgB o = false ∧ lgB b = false := by simpa using hr
    have hso := lgB_no hlg.1
    have hsb := lgB_no hlg.2
    clear hr hlg
    by_cases hl : 400 < (linesOf o).length ∨ 400 < (linesOf b).length
    · have HO1 := Lib.hid (fun W : World => merge_over o o b W (by omega) (by omega) (by omega) (by omega))
      have HO2 := Lib.hid (fun W : World => merge_over o b o W (by omega) (by omega) (by omega) (by omega))
      have HO3 := Lib.hid (fun W : World => merge_over o b b W (by omega) (by omega) (by omega) (by omega))
      clear hl
      go_enter Try.func5, Try.ntmps5
      go_wp2_with (first
        | (go_at_call 10; refine (HLG.out _ (by simpa using hr0)).mono ?_; rintro e w1 ⟨rfl, rfl⟩)
        | (go_at_call 12; ((with_reducible refine (HO1.out _).mono ?_); rintro e w1 ⟨rfl, hb1⟩))
        | (go_at_call 12; ((with_reducible refine (HO2.out _).mono ?_); rintro e w2 ⟨rfl, hb2⟩))
        | (go_at_call 12; ((with_reducible refine (HO3.out _).mono ?_); rintro e w3 ⟨rfl, hb3⟩))
        | (go_at_call 11; refine (awake_any _).mono ?_; rintro e w4 ⟨rfl, hb4⟩))
      go_ret
      have z1 := hb1.size
      have z2 := hb2.size
      have z3 := hb3.size
      simp at z1
      exact ⟨rfl, (((hbw.trans (hb1.mono (by simp))).trans (hb2.mono (by omega))).trans (hb3.mono (by omega))).trans (hb4.mono (by omega))⟩
    · have hlo : (linesOf o).length ≤ 400 := by omega
      have hlb : (linesOf b).length ≤ 400 := by omega
      clear hl
      obtain ⟨n1, p1, hm1, ht1⟩ := merge_txt o o b b hso hso hsb hlo hlo hlb (text_ours _ _)
      obtain ⟨n2, p2, hm2, ht2⟩ := merge_txt o b o b hso hsb hso hlo hlb hlo (text_theirs _ _)
      obtain ⟨n3, p3, hm3, ht3⟩ := merge_txt o b b b hso hsb hsb hlo hlb hlb (text_both _ _)
      have HM1 := Lib.hid hm1
      have HM2 := Lib.hid hm2
      have HM3 := Lib.hid hm3
      have HT1 := Lib.hid ht1
      have HT2 := Lib.hid ht2
      have HT3 := Lib.hid ht3
      clear hm1 hm2 hm3 ht1 ht2 ht3
      have hbe : (b.toList == b.toList) = true := by simp
      go_enter Try.func5, Try.ntmps5
      go_wp2_with (first
        | (go_at_call 10; refine (HLG.out _ (by simpa using hr0)).mono ?_; rintro e w1 ⟨rfl, rfl⟩)
        | (go_at_call 12; ((with_reducible refine (HM1.out _).mono ?_); rintro e w1 ⟨A1, c1, rfl, hp1, hb1⟩))
        | (go_at_call 12; ((with_reducible refine (HM2.out _).mono ?_); rintro e w2 ⟨A2, c2, rfl, hp2, hb2⟩))
        | (go_at_call 12; ((with_reducible refine (HM3.out _).mono ?_); rintro e w3 ⟨A3, c3, rfl, hp3, hb3⟩)))
      have z1 := hb1.size
      have z2 := hb2.size
      have z3 := hb3.size
      simp at z1
      have hbw3 : Below w.heap.size w w3 := ((hbw.trans (hb1.mono (by simp))).trans (hb2.mono (by omega))).trans (hb3.mono (by omega))
      have hbk := Blk.new w3 24 #[.slice A1 n1 c1, .slice A2 n2 c2, .slice A3 n3 c3]
      have hb34 : Below w3.heap.size w3 (w3.alloc (.cells #[.slice A1 n1 c1, .slice A2 n2 c2, .slice A3 n3 c3] 24)) := (Below.refl _ _).alloc (Nat.le_refl _) _
      have q1 := (((hp1.below hb2).more hb2.size).below hb3).more hb3.size
      have q2 := (hp2.below hb3).more hb3.size
      have q1 := (q1.below hb34).more hb34.size
      have q2 := (q2.below hb34).more hb34.size
      have q3 := (hp3.below hb34).more hb34.size
      have hbw4 := hbw3.trans (hb34.mono hbw3.size)
      have g1 : w3.heap.size < (w3.alloc (.cells #[.slice A1 n1 c1, .slice A2 n2 c2, .slice A3 n3 c3] 24)).heap.size := hbk.lt
      clear hp1 hp2 hp3 hb1 hb2 hb3 hbw hr0 hb34
      generalize w3.alloc (.cells #[.slice A1 n1 c1, .slice A2 n2 c2, .slice A3 n3 c3] 24) = w4 at *
      have d1 := (hbk.cell 0).trans rfl
      refine wp_loop_rounds 4 ?_
      rw [rounds_succ]
      go_wp2_with (go_at_call 15; ((with_reducible refine (HT1.out _ _ _ q1).mono ?_); rintro e w5 ⟨rfl, hb5⟩))
      have q2 := (q2.below hb5).more hb5.size
      have q3 := (q3.below hb5).more hb5.size
      have hbk5 := hbk.below hb5 g1
      have g5 := hbk5.lt
      have d2 := (hbk5.cell 1).trans rfl
      have hbw5 := hbw4.trans (hb5.mono hbw4.size)
      clear hb5 hbk g1 d1 hbw4 q1
      rw [rounds_succ]
      go_wp2_with (go_at_call 15; ((with_reducible refine (HT2.out _ _ _ q2).mono ?_); rintro e w6 ⟨rfl, hb6⟩))
      have q3 := (q3.below hb6).more hb6.size
      have hbk6 := hbk5.below hb6 g5
      have d3 := (hbk6.cell 2).trans rfl
      have hbw6 := hbw5.trans (hb6.mono hbw5.size)
      clear hb6 hbk5 g5 d2 hbw5 q2
      rw [rounds_succ]
      go_wp2_with (go_at_call 15; ((with_reducible refine (HT3.out _ _ _ q3).mono ?_); rintro e w7 ⟨rfl, hb7⟩))
      have hbw7 := hbw6.trans (hb7.mono hbw6.size)
      clear hb7 hbk6 d3 hbw6 q3
      rw [rounds_succ]
      go_wp2_with (go_at_call 11; refine (awake_any _).mono ?_; rintro e w8 ⟨rfl, hb8⟩)
      go_ret
      exact ⟨rfl, hbw7.trans (hb8.mono hbw7.size)⟩
end Go.Proofs.Ytafhefhhndmdkaa
