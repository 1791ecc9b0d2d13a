/- merge.Lines returns the lines of a text, in new memory; for texts of at most a million bytes. -/
import Derived.Test.YtafhefhhndmdkaaDoorProg
import Derived.Test.YtafhefhhndmdkaaDoorMgWords
import Derived.Test.YtafhefhhndmdkaaDoorMgLinesMath
import Derived.Test.YtafhefhhndmdkaaDoorMgShelf
import Derived.WalkKit
import Derived.WalkSpells
import Derived.WalkLawsBesides
import Derived.Deep.LoopGhost
import Derived.Lib.Hide
namespace Go.Proofs.YtafhefhhndmdkaaDoor
open Go.RowKit Mg

theorem str_info : (Tryd.prog.info? 9).map (fun i => (i.zero, i.size, i.bytes)) = some (some (.string ⟨#[]⟩), 1, 16) := by kernel_rfl

theorem index_no (s : ByteArray) (w : World) (h : Lib.indexByte s.data.toList 10 = -1) :
    Calls Tryd.prog 29 #[.string s, .int .u8 10] w fun e w' => e = .returned (.int .i64 (-1)) ∧ w = w' :=
  (Tryd.strings_IndexByte s 10 w).mono fun _ _ ⟨h1, h2⟩ => ⟨by rw [h1]; exact congrArg (fun n => Ending.returned (.int .i64 n)) h, h2.symm⟩
theorem index_yes (s : ByteArray) (w : World) (k : Nat) (h : Lib.indexByte s.data.toList 10 = (k : Int)) :
    Calls Tryd.prog 29 #[.string s, .int .u8 10] w fun e w' => e = .returned (.int .i64 k) ∧ w = w' :=
  (Tryd.strings_IndexByte s 10 w).mono fun _ _ ⟨h1, h2⟩ => ⟨by rw [h1]; exact congrArg (fun n => Ending.returned (.int .i64 n)) h, h2.symm⟩

set_option maxHeartbeats 1000000 in
set_option maxRecDepth 100000 in
theorem lines_any (s : ByteArray) (w : World) (hs : s.size ≤ 1000000) :
    Calls Tryd.prog 12 #[.string s] w fun e w' => ∃ v, e = .returned v ∧ w'.ownsRow w.heap.size 9 1 v (linesOf s).length ((linesOf s).map Value.string) ∧ Below w.heap.size w w' := by
  obtain ⟨i0, hi0, hz0, hz1, hz2⟩ := info_parts str_info
  go_enter Tryd.func12, Tryd.ntmps12
  go_wp2
  go_loopg [0, 3] s.size (fun gk t v wr => ∃ (t0 : ByteArray) (done : List ByteArray), t = .string t0 ∧ t0.size ≤ gk ∧ done.length + t0.size ≤ s.size ∧ linesOf s = done ++ linesOf t0 ∧ wr.ownsRow w.heap.size 9 1 v done.length (done.map Value.string) ∧ Below w.heap.size w wr)
  case atStart => exact ⟨s, [], rfl, Nat.le_refl _, by simp, rfl, ⟨by simp, .inl ⟨rfl, rfl⟩⟩, Below.refl _ _⟩
  case round =>
    obtain ⟨t0, done, rfl, hg, hl, heq, hown, hb⟩ := hrel
    have H := Lib.hid heq
    clear heq
    have hbs := hb.size
    by_cases he : t0.data.toList = []
    · have he' : t0.toList = [] := by rw [Lib.toList_data]; exact he
      have H2 := Lib.hid he
      clear he
      go_wp2
      go_ret
      refine ⟨_, rfl, ?_, hb⟩
      rw [H.out, linesOf_nil H2.out, List.append_nil]
      exact hown
    · have hne : t0.toList.isEmpty = false := by rw [Lib.toList_data]; simpa using he
      have hpos : 0 < t0.size := by
        rcases Nat.eq_zero_or_pos t0.size with h | h
        · exact absurd (List.eq_nil_of_length_eq_zero h) he
        · exact h
      have H2 := Lib.hid he
      clear he
      by_cases hi : Lib.indexByte t0.data.toList 10 = -1
      · have H3 := Lib.hid hi
        clear hi
        go_wp2_with (first
          | (go_at_call 29; refine (index_no _ _ H3.out).mono ?_; rintro e w' ⟨rfl, rfl⟩)
          | (at_builtin
             refine wpList_append_own _ rfl (.tmp 14) (.tmp 18) _ rfl w.heap.size 9 i0 _ 1 16 Tryd.underlying30 hi0 hz0 hz1 hz2 rfl (by decide) _ _ _ rfl (hown.alloc _) ⟨wr.heap.size, 0, none⟩ 1 1 [.string t0] rfl rfl (cell_one_new _ _ _) (by intro u hu; simp at hu; subst hu; rfl) (by unfold maxLen; omega) (by omega) (by simp; omega) ?_
             intro v1 w1 hown1 hg1 _))
        have R1 : linesOf s = (done ++ [t0]) ++ linesOf ByteArray.empty := by
          rw [H.out, linesOf_none H2.out H3.out, linesOf_nil (s := ByteArray.empty) rfl, List.append_nil]
        have R := Lib.hid R1
        clear R1
        have hb1 : Below w.heap.size w w1 := (hb.alloc hbs _).grown hg1 (by simp; omega) (fun g hg => (hown.lt g hg).1)
        go_wp2
        go_roundg 0
        case measure => omega
        case rel => exact ⟨_, done ++ [t0], rfl, by simp, by simp; omega, R.out, by simpa using hown1, hb1⟩
      · have hge := Lib.indexByte_ge t0.data.toList 10
        obtain ⟨k, hk⟩ : ∃ k : Nat, Lib.indexByte t0.data.toList 10 = (k : Int) := ⟨(Lib.indexByte t0.data.toList 10).toNat, by omega⟩
        obtain ⟨hlt, hl2⟩ := linesOf_some hk
        have R1 : linesOf s = (done ++ [t0.extract 0 (k + 1)]) ++ linesOf (t0.extract (k + 1) t0.size) := by
          rw [H.out, hl2]; simp
        have R := Lib.hid R1
        have H3 := Lib.hid hk
        clear hi hge hk hl2 R1
        go_wp2_with (first
          | (go_at_call 29; refine (index_yes _ _ k H3.out).mono ?_; rintro e w' ⟨rfl, rfl⟩)
          | (at_builtin
             refine wpList_append_own _ rfl (.tmp 14) (.tmp 18) _ rfl w.heap.size 9 i0 _ 1 16 Tryd.underlying30 hi0 hz0 hz1 hz2 rfl (by decide) _ _ _ rfl (hown.alloc _) ⟨wr.heap.size, 0, none⟩ 1 1 [.string (t0.extract 0 (k + 1))] rfl rfl (cell_one_new _ _ _) (by intro u hu; simp at hu; subst hu; rfl) (by unfold maxLen; omega) (by omega) (by simp; omega) ?_
             intro v1 w1 hown1 hg1 _))
        have hb1 : Below w.heap.size w w1 := (hb.alloc hbs _).grown hg1 (by simp; omega) (fun g hg => (hown.lt g hg).1)
        go_wp2
        go_roundg (gk - 1)
        case measure => omega
        case rel => exact ⟨_, done ++ [t0.extract 0 (k + 1)], rfl, by simp; omega, by simp; omega, R.out, by simpa using hown1, hb1⟩
end Go.Proofs.YtafhefhhndmdkaaDoor
