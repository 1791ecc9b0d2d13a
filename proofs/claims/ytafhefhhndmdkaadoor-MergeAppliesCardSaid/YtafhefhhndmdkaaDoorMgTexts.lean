/- merge.texts returns the lines of each text, or nothing if one has more than 400; for texts of at most a million bytes, at most a thousand of them. -/
import Derived.Test.YtafhefhhndmdkaaDoorMgWords2
import Derived.Test.YtafhefhhndmdkaaDoorMgLines
namespace Go.Proofs.YtafhefhhndmdkaaDoor
open Go.RowKit Mg

theorem sl_info : (Tryd.prog.info? 30).map (fun i => (i.zero, i.size, i.bytes)) = some (some (.slice none 0 0), 1, 24) := by kernel_rfl

/-- the values of the lines of texts -/
def OwnsLines (w : World) (base : Nat) (us : List Value) (ss : List ByteArray) : Prop :=
  us.length = ss.length ∧ ∀ (i : Nat) (u : Value) (s : ByteArray), us[i]? = some u → ss[i]? = some s → w.ownsRow base 9 1 u (linesOf s).length ((linesOf s).map Value.string)

theorem OwnsLines.snoc {w : World} {base : Nat} {us : List Value} {ss : List ByteArray} {u : Value} {s : ByteArray} (h : OwnsLines w base us ss) (hu : w.ownsRow base 9 1 u (linesOf s).length ((linesOf s).map Value.string)) :
    OwnsLines w base (us ++ [u]) (ss ++ [s]) := by
  refine ⟨by simp [h.1], fun i u' s' h1 h2 => ?_⟩
  by_cases hi : i < us.length
  · rw [List.getElem?_append_left hi] at h1
    rw [List.getElem?_append_left (by rw [← h.1]; exact hi)] at h2
    exact h.2 i u' s' h1 h2
  · have : i = us.length := by
      have h3 := (List.getElem?_eq_some_iff.1 h1).1
      simp at h3; omega
    subst this
    simp at h1
    rw [h.1] at h2
    simp at h2
    subst h1 h2
    exact hu

set_option maxHeartbeats 1000000 in
set_option maxRecDepth 100000 in
theorem texts_any (A : Option Addr) (c : Nat) (ss : List ByteArray) (w : World) (hr : Reads w w.heap.size 1 A ss.length (ss.map Value.string)) (hn : ss.length ≤ 1000)
    (hs : ∀ s ∈ ss, s.size ≤ 1000000) (hl : ∀ s ∈ ss, (linesOf s).length ≤ 400) :
    Calls Tryd.prog 24 #[.slice A ss.length c] w fun e w' => ∃ v us, e = .returned (.tuple #[v, .bool true]) ∧ w'.ownsRow w.heap.size 30 1 v ss.length us ∧ OwnsLines w' w.heap.size us ss ∧ Below w.heap.size w w' := by
  obtain ⟨i0, hi0, hz0, hz1, hz2⟩ := info_parts sl_info
  go_enter Tryd.func24, Tryd.ntmps24
  go_wp2
  go_loopg [4, 10] ss.length (fun gk v i wr => ∃ (k : Nat) (us : List Value), i = .int .i64 k ∧ k ≤ ss.length ∧ ss.length - k ≤ gk ∧ wr.ownsRow w.heap.size 30 1 v us.length us ∧ OwnsLines wr w.heap.size us (ss.take k) ∧ Below w.heap.size w wr)
  case atStart => exact ⟨0, [], rfl, Nat.zero_le _, by simp, ⟨by simp, .inl ⟨rfl, rfl⟩⟩, ⟨by simp, fun i u s h => by simp at h⟩, Below.refl _ _⟩
  case round =>
    obtain ⟨k, us, rfl, hk, hg, hown, hol, hb⟩ := hrel
    have hbs := hb.size
    have hul := Lib.hid (show us.length = k by rw [hol.1]; simp; omega)
    by_cases hlt : k < ss.length
    · obtain ⟨ad, rfl, had, hcell⟩ := str_cell (hr.below hb) hlt
      have hsz := hs ss[k] (List.getElem_mem hlt)
      have hln := hl ss[k] (List.getElem_mem hlt)
      go_wp2_with (first
        | (go_at_call 12; refine (lines_any _ _ hsz).mono ?_; rintro e w1 ⟨v1, rfl, hown1, hb1⟩; obtain ⟨A1, c1, rfl, hc1, hr1⟩ := own_slice hown1)
        | (at_builtin
           refine wpList_append_own _ rfl (.tmp 19) (.tmp 21) _ rfl w.heap.size 30 i0 _ 1 24 Tryd.underlying48 hi0 hz0 hz1 hz2 rfl (by decide) _ _ _ rfl ((own_below hown hb1).alloc _) ⟨w1.heap.size, 0, none⟩ 1 1 [.slice A1 (linesOf ss[k]).length c1] rfl rfl (cell_one_new _ _ _) (by intro u hu; simp at hu; subst hu; rfl) (by have := hul.out; unfold maxLen; omega) (by have := hul.out; omega) (by have := hb1.size; simp; omega) ?_
           intro v2 w2 hown2 hg2 _))
      have hbs1 := hb1.size
      have hb2 : Below w.heap.size w w2 := ((hb.trans (hb1.mono hbs)).alloc (by omega) _).grown hg2 (by simp; omega) (fun g hg => (hown.lt g hg).1)
      have hol2 : OwnsLines w2 w.heap.size (us ++ [.slice A1 (linesOf ss[k]).length c1]) (ss.take (k + 1)) := by
        rw [List.take_succ_eq_append_getElem hlt]
        refine OwnsLines.snoc ⟨hol.1, fun i u s h1 h2 => ?_⟩ ?_
        · exact own_kept ((own_below (hol.2 i u s h1 h2) hb1).alloc _) ((own_below hown hb1).alloc _) (by decide) hg2
        · exact own_kept ((own_base hown1 hbs).alloc _) ((own_below hown hb1).alloc _) (by decide) hg2
      clear hown1 hr1 hown hol hb hg2
      go_wp2
      go_roundg (gk - 1)
      case measure => omega
      case rel => exact ⟨k + 1, _, by go_num, by omega, by omega, by simpa using hown2, hol2, hb2⟩
    · have hkn : k = ss.length := by omega
      have HK := Lib.hid hkn
      clear hkn
      go_wp2
      go_ret2
      refine ⟨_, us, rfl, ?_, ?_, hb⟩
      · have := hul.out; rw [← HK.out, ← this]; exact hown
      · have h2 := HK.out; rw [h2, List.take_length] at hol; exact hol
end Go.Proofs.YtafhefhhndmdkaaDoor
