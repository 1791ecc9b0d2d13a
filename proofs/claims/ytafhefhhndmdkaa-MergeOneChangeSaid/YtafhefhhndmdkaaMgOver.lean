/- merge.Merge returns ErrMergeLimit and no pieces, if one of the texts has more than 400 lines; for texts of at most a million bytes. -/
import Derived.Test.YtafhefhhndmdkaaMgTexts2
namespace Go.Proofs.Ytafhefhhndmdkaa
open Go.RowKit Mg

set_option maxHeartbeats 1000000 in
set_option maxRecDepth 100000 in
theorem merge_over (o a b : ByteArray) (w : World) (hso : o.size ≤ 1000000) (hsa : a.size ≤ 1000000) (hsb : b.size ≤ 1000000) (hl : 400 < (linesOf o).length ∨ 400 < (linesOf a).length ∨ 400 < (linesOf b).length) :
    Calls Try.prog 12 #[.string o, .string a, .string b] w fun e w' => e = .returned (.tuple #[.slice none 0 0, .int .i64 160]) ∧ Below w.heap.size w w' := by
  have hr0 := reads_new w [o, a, b] 9 (w.heap.size + 1) (by omega)
  have HL : Hid (∃ s ∈ [o, a, b], 400 < (linesOf s).length) := Lib.hid (by
    rcases hl with h | h | h
    · exact ⟨o, by simp, h⟩
    · exact ⟨a, by simp, h⟩
    · exact ⟨b, by simp, h⟩)
  clear hl
  go_enter Try.func12, Try.ntmps12
  go_wp2_with (go_at_call 24; refine (texts_over (some ⟨w.heap.size, 0, none⟩) 3 [o, a, b] _ (by simpa using hr0) (by simp) (by simp [hso, hsa, hsb]) HL.out).mono ?_; rintro e w1 ⟨rfl, hb1⟩)
  go_ret2
  have h0 : w.heap.size ≤ (w.alloc (.cells #[.string o, .string a, .string b] 9)).heap.size := by simp
  exact ⟨rfl, ((Below.refl _ w).alloc (Nat.le_refl _) _).trans ((hb1.mono h0).alloc (Nat.le_trans h0 hb1.size) _)⟩
end Go.Proofs.Ytafhefhhndmdkaa
