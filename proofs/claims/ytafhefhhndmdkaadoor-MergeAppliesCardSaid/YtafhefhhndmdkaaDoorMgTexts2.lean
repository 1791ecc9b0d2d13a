/- merge.texts of two texts, and of texts one of which has more than 400 lines; for texts of at most a million bytes. -/
import Derived.Test.YtafhefhhndmdkaaDoorMgTexts
namespace Go.Proofs.YtafhefhhndmdkaaDoor
open Go.RowKit Mg

theorem reads_new (w : World) (ss : List ByteArray) (t : TypeId) (B : Nat) (hB : w.heap.size < B) : Reads (w.alloc (.cells (ss.map Value.string).toArray t)) B 1 (some ⟨w.heap.size, 0, none⟩) ss.length (ss.map Value.string) := by
  refine ⟨by simp, fun _ => ⟨_, rfl, hB, fun j u hu => ?_⟩⟩
  rw [addr_add, (Blk.new w t _).cell]
  simpa using hu

theorem texts2_any (a b : ByteArray) (A : Option Addr) (c : Nat) (w : World) (hr : Reads w w.heap.size 1 A 2 [.string a, .string b]) (ha : a.size ≤ 1000000) (hb : b.size ≤ 1000000) (hla : (linesOf a).length ≤ 400) (hlb : (linesOf b).length ≤ 400) :
    Calls Tryd.prog 24 #[.slice A 2 c] w fun e w' => ∃ gl cap A0 c0 A1 c1, e = .returned (.tuple #[.slice (some ⟨gl, 0, none⟩) 2 cap, .bool true]) ∧ gl < w'.heap.size ∧ w.heap.size ≤ gl ∧ 2 ≤ cap ∧
      w'.cell? ⟨gl, 0, none⟩ = some (.slice A0 (linesOf a).length c0) ∧ w'.cell? ⟨gl, 1, none⟩ = some (.slice A1 (linesOf b).length c1) ∧
      Strs w' w'.heap.size A0 c0 (linesOf a) ∧ Strs w' w'.heap.size A1 c1 (linesOf b) ∧ Below w.heap.size w w' := by
  refine (texts_any A c [a, b] w hr (by simp) (by simp [ha, hb]) (by simp [hla, hlb])).mono fun e w' h => ?_
  obtain ⟨v, us, rfl, hown, hol, hbel⟩ := h
  obtain ⟨g, cap, rfl, hlt⟩ : ∃ g cap, v = .slice (some ⟨g, 0, none⟩) 2 cap ∧ w.heap.size ≤ g ∧ g < w'.heap.size ∧ 2 ≤ cap := by
    rcases hown.2 with ⟨_, h0⟩ | ⟨g, cap, cur, rfl, h1, hh, h2, _⟩
    · simp at h0
    · exact ⟨g, cap, rfl, h1, (hown.lt g rfl).2, h2⟩
  match us, hol.1 with
  | [u0, u1], _ =>
    obtain ⟨A0, c0, rfl, s0⟩ := Strs.of_own (hol.2 0 u0 a rfl rfl)
    obtain ⟨A1, c1, rfl, s1⟩ := Strs.of_own (hol.2 1 u1 b rfl rfl)
    refine ⟨g, cap, A0, c0, A1, c1, rfl, hlt.2.1, hlt.1, hlt.2.2, ?_, ?_, s0, s1, hbel⟩
    · have := hown.cells (g := g) rfl 0 _ rfl
      rwa [addr_add] at this
    · have := hown.cells (g := g) rfl 1 _ rfl
      rwa [addr_add] at this

set_option maxHeartbeats 1000000 in
set_option maxRecDepth 100000 in
theorem texts_over (A : Option Addr) (c : Nat) (ss : List ByteArray) (w : World) (hr : Reads w w.heap.size 1 A ss.length (ss.map Value.string)) (hn : ss.length ≤ 1000)
    (hs : ∀ s ∈ ss, s.size ≤ 1000000) (hl : ∃ s ∈ ss, 400 < (linesOf s).length) :
    Calls Tryd.prog 24 #[.slice A ss.length c] w fun e w' => e = .returned (.tuple #[.slice none 0 0, .bool false]) ∧ Below w.heap.size w w' := by
  obtain ⟨i0, hi0, hz0, hz1, hz2⟩ := info_parts sl_info
  have HX := Lib.hid hl
  clear hl
  go_enter Tryd.func24, Tryd.ntmps24
  go_wp2
  go_loopg [4, 10] ss.length (fun gk v i wr => ∃ (k : Nat) (us : List Value), i = .int .i64 k ∧ k ≤ ss.length ∧ ss.length - k ≤ gk ∧ us.length = k ∧ (∀ s ∈ ss.take k, (linesOf s).length ≤ 400) ∧ wr.ownsRow w.heap.size 30 1 v us.length us ∧ Below w.heap.size w wr)
  case atStart => exact ⟨0, [], rfl, Nat.zero_le _, by simp, rfl, by simp, ⟨by simp, .inl ⟨rfl, rfl⟩⟩, Below.refl _ _⟩
  case round =>
    obtain ⟨k, us, rfl, hk, hg, hul0, hall, hown, hb⟩ := hrel
    have hbs := hb.size
    have hul := Lib.hid hul0
    have HA := Lib.hid hall
    clear hul0 hall
    by_cases hlt : k < ss.length
    · obtain ⟨ad, rfl, had, hcell⟩ := str_cell (hr.below hb) hlt
      have hsz := hs ss[k] (List.getElem_mem hlt)
      by_cases hln : (linesOf ss[k]).length ≤ 400
      · have HA2 : Hid (∀ s ∈ ss.take (k + 1), (linesOf s).length ≤ 400) := Lib.hid (by
          intro s hs'
          rw [List.take_succ_eq_append_getElem hlt, List.mem_append] at hs'
          rcases hs' with h | h
          · exact HA.out s h
          · simp at h; subst h; exact hln)
        go_wp2_with (first
          | (go_at_call 12; refine (lines_any _ _ hsz).mono ?_; rintro e w1 ⟨v1, rfl, hown1, hb1⟩; obtain ⟨A1, c1, rfl, hc1, hr1⟩ := own_slice hown1)
          | (at_builtin
             refine wpList_append_own _ rfl (.tmp 19) (.tmp 21) _ rfl w.heap.size 30 i0 _ 1 24 Tryd.underlying48 hi0 hz0 hz1 hz2 rfl (by decide) _ _ _ rfl ((own_below hown hb1).alloc _) ⟨w1.heap.size, 0, none⟩ 1 1 [.slice A1 (linesOf ss[k]).length c1] rfl rfl (cell_one_new _ _ _) (by intro u hu; simp at hu; subst hu; rfl) (by have := hul.out; unfold maxLen; omega) (by have := hul.out; omega) (by have := hb1.size; simp; omega) ?_
             intro v2 w2 hown2 hg2 _))
        have hbs1 := hb1.size
        have hb2 : Below w.heap.size w w2 := ((hb.trans (hb1.mono hbs)).alloc (by omega) _).grown hg2 (by simp; omega) (fun g hg => (hown.lt g hg).1)
        clear hown1 hr1 hown hb hg2
        go_wp2
        go_roundg (gk - 1)
        case measure => omega
        case rel => exact ⟨k + 1, us ++ [.slice A1 (linesOf ss[k]).length c1], by go_num, by omega, by omega, by have := hul.out; simp; omega, HA2.out, by simpa using hown2, hb2⟩
      · have hln2 : 400 < (linesOf ss[k]).length := by omega
        clear hln
        go_wp2_with (go_at_call 12; refine (lines_any _ _ hsz).mono ?_; rintro e w1 ⟨v1, rfl, hown1, hb1⟩; obtain ⟨A1, c1, rfl, hc1, hr1⟩ := own_slice hown1)
        go_ret2
        exact ⟨rfl, hb.trans (hb1.mono hbs)⟩
    · obtain ⟨s, h1, h2⟩ := HX.out
      have h3 := HA.out s (by rw [List.take_of_length_le (by omega)]; exact h1)
      omega
end Go.Proofs.YtafhefhhndmdkaaDoor
