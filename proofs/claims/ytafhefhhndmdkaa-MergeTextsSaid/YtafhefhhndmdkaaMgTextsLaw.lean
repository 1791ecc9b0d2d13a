/- The walk of MergeTexts: it returns true and writes nothing that was there; for every list of pieces. -/
import Derived.Test.YtafhefhhndmdkaaMgOpenC
import Derived.Test.YtafhefhhndmdkaaMgRefText
import Derived.Test.YtafhefhhndmdkaaMgLong
namespace Go.Proofs.Ytafhefhhndmdkaa
open Go.RowKit Mg

/-- what the law's first loop asks of a piece -/
def SmP (p : PcI) : Prop := p.2.1.length + p.2.2.length ≤ 30 ∧ (∀ s ∈ p.2.1, s.size ≤ 1000) ∧ ∀ s ∈ p.2.2, s.size ≤ 1000
theorem smallI_of {ps : List PcI} (h : ps.length ≤ 30) (hp : ∀ p ∈ ps, SmP p) : SmallI ps :=
  ⟨by omega, fun p h1 => by
    obtain ⟨k1, k2, k3⟩ := hp p h1
    exact ⟨by omega, by omega, fun s hs => by have := k2 s hs; omega, fun s hs => by have := k3 s hs; omega⟩⟩
theorem any_lgB_no {ss : List ByteArray} (h : ss.any lgB = false) : ∀ s ∈ ss, s.size ≤ 1000 := fun s hs => lgB_no (by rw [List.any_eq_false] at h; simpa using h s hs)

set_option maxHeartbeats 8000000 in
set_option maxRecDepth 100000 in
theorem mergeTexts_law (A : Option Addr) (n c : Nat) (ps : List PcI) (w : World) (hn : n = ps.length) (hn2 : n ≤ maxLen) (hps : TxtAt w w.heap.size A ps) (hbg : BigI ps) :
    Calls Try.prog 4 #[.slice A n c] w fun e w' => e = .returned (.bool true) ∧ Below w.heap.size w w' := by
  unfold maxLen at hn2
  have HN := Lib.hid hn
  have HB := Lib.hid hbg
  clear hn hbg
  by_cases h1 : 30 < n
  · have h1' : (30 : Int) < (n : Int) := by omega
    go_enter Try.func4, Try.ntmps4
    go_wp2_with (go_at_call 11; refine (awake_any _).mono ?_; rintro e w1 ⟨rfl, hb1⟩)
    go_ret
    exact ⟨rfl, hb1⟩
  · have h1' : (n : Int) ≤ 30 := by omega
    go_enter Try.func4, Try.ntmps4
    go_wp2
    go_loopg [15] n (fun gk iv wr => ∃ k : Nat, iv = .int .i64 k ∧ k ≤ n ∧ n - k ≤ gk ∧ Below w.heap.size w wr ∧ Hid (∀ p ∈ ps.take k, SmP p))
    case atStart => exact ⟨0, rfl, Nat.zero_le _, by omega, Below.refl _ _, Lib.hid (fun p hp => by simp at hp)⟩
    case round =>
      obtain ⟨k, rfl, hk, hgk, hbw, HP0⟩ := hrel
      by_cases hlt : k < n
      · obtain ⟨p, hp⟩ : ∃ p, ps[k]? = some p := ⟨_, List.getElem?_eq_getElem (by rw [← HN.out]; exact hlt)⟩
        have hpm : p ∈ ps := List.mem_of_getElem? hp
        obtain ⟨b, o, A0, n0, c0, A1, c1, A2, c2, rfl, hlb, k0, k1, k2, k3, hs1, hs2⟩ := hps.below hbw k p hp
        obtain ⟨m1, m2, m3, m4⟩ := HB.out p hpm
        have HP := Lib.hid hp
        have HM3 := Lib.hid m3
        have HM4 := Lib.hid m4
        clear hp hpm m3 m4
        obtain ⟨kd, l1, l2⟩ := p
        simp only at m1 m2 k0 k2 k3 hs1 hs2
        have hzr := hbw.size
        have hbw2 : Below w.heap.size w (wr.alloc (.cells #[.int .i64 kd, .slice A0 n0 c0, .slice A1 l1.length c1, .slice A2 l2.length c2] 30)) := hbw.alloc hzr _
        have hbb : Below w.heap.size wr (wr.alloc (.cells #[.int .i64 kd, .slice A0 n0 c0, .slice A1 l1.length c1, .slice A2 l2.length c2] 30)) := (Below.refl _ _).alloc hzr _
        have hz2 : w.heap.size ≤ (wr.alloc (.cells #[.int .i64 kd, .slice A0 n0 c0, .slice A1 l1.length c1, .slice A2 l2.length c2] 30)).heap.size := hbw2.size
        have hr1 := ((hs1.below hbb).more hz2).reads
        have hr2 := ((hs2.below hbb).more hz2).reads
        clear hs1 hs2 hbb
        by_cases h2 : 30 < l1.length + l2.length
        · have h2' : (30 : Int) < (l1.length : Int) + (l2.length : Int) := by omega
          clear hr1 hr2
          go_wp2_with (go_at_call 11; refine (awake_any _).mono ?_; rintro e w1 ⟨rfl, hb1⟩)
          go_ret
          exact ⟨rfl, hbw2.trans (hb1.mono hz2)⟩
        · have h2' : (l1.length : Int) + (l2.length : Int) ≤ 30 := by omega
          have HL1 := Lib.hid (long_any A1 c1 l1 _ hr1 (by omega) (by have := HM3.out; unfold maxLen at this; exact fun s hs => by have := this s hs; omega))
          have HL2 := Lib.hid (long_any A2 c2 l2 _ hr2 (by omega) (by have := HM4.out; unfold maxLen at this; exact fun s hs => by have := this s hs; omega))
          clear hr1 hr2
          rcases hq1 : l1.any lgB with _ | _
          · rcases hq2 : l2.any lgB with _ | _
            · have HQ1 := Lib.hid (any_lgB_no hq1)
              have HQ2 := Lib.hid (any_lgB_no hq2)
              rw [hq1] at HL1
              rw [hq2] at HL2
              clear hq1 hq2
              have HP1 : Hid (∀ p ∈ ps.take (k + 1), SmP p) := Lib.hid (fun p hp => by
                obtain ⟨g1, g2⟩ := List.getElem?_eq_some_iff.1 HP.out
                rw [List.take_succ_eq_append_getElem g1, g2] at hp
                rcases List.mem_append.1 hp with hp | hp
                · exact HP0.out p hp
                · rw [List.mem_singleton] at hp
                  subst hp
                  exact ⟨by show l1.length + l2.length ≤ 30; omega, HQ1.out, HQ2.out⟩)
              go_wp2_with (first
                | (go_at_call 10; ((with_reducible refine HL1.out.mono ?_); rintro e w1 ⟨rfl, rfl⟩))
                | (go_at_call 10; ((with_reducible refine HL2.out.mono ?_); rintro e w1 ⟨rfl, rfl⟩)))
              go_roundg (gk - 1)
              case measure => omega
              case rel => exact ⟨k + 1, by go_num, by omega, by omega, hbw2, HP1⟩
            · rw [hq1] at HL1
              rw [hq2] at HL2
              clear hq1 hq2
              go_wp2_with (first
                | (go_at_call 10; ((with_reducible refine HL1.out.mono ?_); rintro e w1 ⟨rfl, rfl⟩))
                | (go_at_call 10; ((with_reducible refine HL2.out.mono ?_); rintro e w1 ⟨rfl, rfl⟩))
                | (go_at_call 11; refine (awake_any _).mono ?_; rintro e w1 ⟨rfl, hb1⟩))
              go_ret
              exact ⟨rfl, hbw2.trans (hb1.mono hz2)⟩
          · rw [hq1] at HL1
            clear hq1 HL2
            go_wp2_with (first
              | (go_at_call 10; ((with_reducible refine HL1.out.mono ?_); rintro e w1 ⟨rfl, rfl⟩))
              | (go_at_call 11; refine (awake_any _).mono ?_; rintro e w1 ⟨rfl, hb1⟩))
            go_ret
            exact ⟨rfl, hbw2.trans (hb1.mono hz2)⟩
      · have hkn : k = n := by omega
        have HS : Hid (SmallI ps) := Lib.hid (smallI_of (by rw [← HN.out]; omega) (by have h := HP0.out; rwa [List.take_of_length_le (by rw [← HN.out]; omega)] at h))
        have hzr := hbw.size
        have HT1 := Lib.hid (text_any ps A c n wr HN.out.symm ((hps.below hbw).more hzr) HS.out)
        have HT2 := Lib.hid (fun (W : World) (hW : Below wr.heap.size wr W) => refText_any ps A c n W HN.out.symm ((((hps.below hbw).more hzr).below hW).more hW.size) HS.out)
        clear hkn
        rcases hx : textI ps with _ | ls
        · rw [hx] at HT1 HT2
          clear hx
          have hbe : (ByteArray.empty.toList == ByteArray.empty.toList) = true := by simp
          go_wp2_with (first
            | (go_at_call 15; refine HT1.out.mono ?_; rintro e w1 ⟨he, hb1⟩; simp only [textRes] at he; subst he)
            | (go_at_call 16; refine (HT2.out _ hb1).mono ?_; rintro e w2 ⟨he, hb2⟩; simp only [textRes] at he; subst he)
            | (go_at_call 11; refine (awake_any _).mono ?_; rintro e w3 ⟨rfl, hb3⟩))
          go_ret
          exact ⟨rfl, ((hbw.trans (hb1.mono hzr)).trans (hb2.mono (by have := hb1.size; omega))).trans (hb3.mono (by have := hb1.size; have := hb2.size; omega))⟩
        · rw [hx] at HT1 HT2
          clear hx
          have hbe : ((joinS ls).toList == (joinS ls).toList) = true := by simp
          go_wp2_with (first
            | (go_at_call 15; refine HT1.out.mono ?_; rintro e w1 ⟨he, hb1⟩; simp only [textRes] at he; subst he)
            | (go_at_call 16; refine (HT2.out _ hb1).mono ?_; rintro e w2 ⟨he, hb2⟩; simp only [textRes] at he; subst he)
            | (go_at_call 11; refine (awake_any _).mono ?_; rintro e w3 ⟨rfl, hb3⟩))
          go_ret
          exact ⟨rfl, ((hbw.trans (hb1.mono hzr)).trans (hb2.mono (by have := hb1.size; omega))).trans (hb3.mono (by have := hb1.size; have := hb2.size; omega))⟩
end Go.Proofs.Ytafhefhhndmdkaa
