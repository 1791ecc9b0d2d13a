/- stockyardref16.Text: the text of pieces, or none; for at most 2000 pieces of at most 1000 lines of at most a million bytes. -/
import Derived.Test.YtafhefhhndmdkaaMgText
import Derived.Test.YtafhefhhndmdkaaMgApply
namespace Go.Proofs.Ytafhefhhndmdkaa
open Go.RowKit Mg

theorem joinS_append (l m : List ByteArray) : joinS l ++ joinS m = joinS (l ++ m) := by
  rw [joinS_eq, joinS_eq, joinS_eq, flatB_append]
  apply ByteArray.ext
  simp
theorem joinS_size (l : List ByteArray) : (joinS l).size = (flatB l).length := by rw [joinS_eq]; simp [ByteArray.size]
set_option maxHeartbeats 8000000 in
set_option maxRecDepth 100000 in
theorem refText_any (ps : List PcI) (A : Option Addr) (c n : Nat) (w : World) (hn : ps.length = n) (hps : TxtAt w w.heap.size A ps) (hsm : SmallI ps) :
    Calls Try.prog 16 #[.slice A n c] w fun e w' => e = .returned (textRes (textI ps)) ∧ Below w.heap.size w w' := by
  have HN := Lib.hid hn
  have HS := Lib.hid hsm
  have hn2 : n ≤ 2000 := by rw [← hn]; exact hsm.1
  clear hn hsm
  have hj0 : joinS [] = ByteArray.empty := rfl
  go_enter Try.func16, Try.ntmps16
  go_wp2
  go_loopg [4, 9] n (fun gk sv iv wr => ∃ (k : Nat) (ls : List ByteArray), iv = .int .i64 k ∧ sv = .string (joinS ls) ∧ k ≤ n ∧ n - k ≤ gk ∧ Below w.heap.size w wr ∧ Hid (textI (ps.take k) = some ls) ∧ (flatB ls).length ≤ k * 1000000000)
  case atStart => exact ⟨0, [], rfl, rfl, Nat.zero_le _, by omega, Below.refl _ _, Lib.hid rfl, by simp [flatB]⟩
  case round =>
    clear hj0
    obtain ⟨k, ls, rfl, rfl, hk, hgk, hbw, HT, hfl⟩ := hrel
    by_cases hlt : k < n
    · obtain ⟨p, hp⟩ : ∃ p, ps[k]? = some p := ⟨_, List.getElem?_eq_getElem (by rw [HN.out]; exact hlt)⟩
      have hpm : p ∈ ps := List.mem_of_getElem? hp
      obtain ⟨b, o, A0, n0, c0, A1, c1, A2, c2, rfl, hlb, k0, k1, k2, k3, hs1, hs2⟩ := hps.below hbw k p hp
      obtain ⟨m1, m2, m3, m4⟩ := HS.out.2 p hpm
      have HP := Lib.hid hp
      have HM3 := Lib.hid m3
      have HM4 := Lib.hid m4
      clear hp hpm m3 m4
      obtain ⟨kd, l1, l2⟩ := p
      simp only at m1 m2 k0 k2 k3 hs1 hs2
      have hzr := hbw.size
      have hbw2 : Below w.heap.size w (wr.alloc (.cells #[.int .i64 kd, .slice A0 n0 c0, .slice A1 l1.length c1, .slice A2 l2.length c2] 30)) := hbw.alloc hzr _
      have hbb : Below w.heap.size wr (wr.alloc (.cells #[.int .i64 kd, .slice A0 n0 c0, .slice A1 l1.length c1, .slice A2 l2.length c2] 30)) := (Below.refl _ _).alloc hzr _
      have hs1' := (hs1.below hbb).more (B' := (wr.alloc (.cells #[.int .i64 kd, .slice A0 n0 c0, .slice A1 l1.length c1, .slice A2 l2.length c2] 30)).heap.size) (by simp; omega)
      have hs2' := (hs2.below hbb).more (B' := (wr.alloc (.cells #[.int .i64 kd, .slice A0 n0 c0, .slice A1 l1.length c1, .slice A2 l2.length c2] 30)).heap.size) (by simp; omega)
      have hfs : (joinS ls).size ≤ k * 1000000000 := by rw [joinS_size]; exact hfl
      clear hs1 hs2 hbb
      by_cases e1 : kd = 1
      · subst e1
        have HC : Hid (chosenI (1, l1, l2) = some l1) := Lib.hid rfl
        have HJ : Hid (joinS ls ++ joinS l1 = joinS (ls ++ l1)) := Lib.hid (joinS_append _ _)
        have hfl2 : (flatB l1).length ≤ l1.length * 1000000 := flatB_len _ _ HM3.out
        have hfj : (joinS l1).size ≤ 1000000000 := by rw [joinS_size]; omega
        go_wp2_with (go_at_call 20; refine (join_any hs1' (Nat.le_refl _) rfl (by omega) HM3.out).mono ?_; rintro e w5 ⟨rfl, hw5⟩)
        have HT2 : Hid (textI (ps.take (k + 1)) = some (ls ++ l1)) := Lib.hid (by
          have e : ps.take (k + 1) = ps.take k ++ [(1, l1, l2)] := by
            obtain ⟨h1, h2⟩ := List.getElem?_eq_some_iff.1 HP.out
            rw [List.take_succ_eq_append_getElem h1, h2]
          rw [e]
          exact textI_snoc _ _ _ _ HT.out HC.out)
        have hfl3 : (flatB (ls ++ l1)).length ≤ (k + 1) * 1000000000 := by rw [flatB_append, List.length_append]; omega
        go_roundg (gk - 1)
        case measure => omega
        case rel => exact ⟨k + 1, ls ++ l1, by go_num, by rw [← HJ.out], by omega, by omega, hbw2.trans (hw5.mono hbw2.size), HT2, hfl3⟩
      have f1 : (kd == 1) = false := by simpa using e1
      by_cases e2 : kd = 2
      · subst e2
        have HC : Hid (chosenI (2, l1, l2) = some l1) := Lib.hid rfl
        have HJ : Hid (joinS ls ++ joinS l1 = joinS (ls ++ l1)) := Lib.hid (joinS_append _ _)
        have hfl2 : (flatB l1).length ≤ l1.length * 1000000 := flatB_len _ _ HM3.out
        have hfj : (joinS l1).size ≤ 1000000000 := by rw [joinS_size]; omega
        go_wp2_with (go_at_call 20; refine (join_any hs1' (Nat.le_refl _) rfl (by omega) HM3.out).mono ?_; rintro e w5 ⟨rfl, hw5⟩)
        have HT2 : Hid (textI (ps.take (k + 1)) = some (ls ++ l1)) := Lib.hid (by
          have e : ps.take (k + 1) = ps.take k ++ [(2, l1, l2)] := by
            obtain ⟨h1, h2⟩ := List.getElem?_eq_some_iff.1 HP.out
            rw [List.take_succ_eq_append_getElem h1, h2]
          rw [e]
          exact textI_snoc _ _ _ _ HT.out HC.out)
        have hfl3 : (flatB (ls ++ l1)).length ≤ (k + 1) * 1000000000 := by rw [flatB_append, List.length_append]; omega
        go_roundg (gk - 1)
        case measure => omega
        case rel => exact ⟨k + 1, ls ++ l1, by go_num, by rw [← HJ.out], by omega, by omega, hbw2.trans (hw5.mono hbw2.size), HT2, hfl3⟩
      have f2 : (kd == 2) = false := by simpa using e2
      by_cases e4 : kd = 4
      · subst e4
        have HC : Hid (chosenI (4, l1, l2) = some l1) := Lib.hid rfl
        have HJ : Hid (joinS ls ++ joinS l1 = joinS (ls ++ l1)) := Lib.hid (joinS_append _ _)
        have hfl2 : (flatB l1).length ≤ l1.length * 1000000 := flatB_len _ _ HM3.out
        have hfj : (joinS l1).size ≤ 1000000000 := by rw [joinS_size]; omega
        go_wp2_with (go_at_call 20; refine (join_any hs1' (Nat.le_refl _) rfl (by omega) HM3.out).mono ?_; rintro e w5 ⟨rfl, hw5⟩)
        have HT2 : Hid (textI (ps.take (k + 1)) = some (ls ++ l1)) := Lib.hid (by
          have e : ps.take (k + 1) = ps.take k ++ [(4, l1, l2)] := by
            obtain ⟨h1, h2⟩ := List.getElem?_eq_some_iff.1 HP.out
            rw [List.take_succ_eq_append_getElem h1, h2]
          rw [e]
          exact textI_snoc _ _ _ _ HT.out HC.out)
        have hfl3 : (flatB (ls ++ l1)).length ≤ (k + 1) * 1000000000 := by rw [flatB_append, List.length_append]; omega
        go_roundg (gk - 1)
        case measure => omega
        case rel => exact ⟨k + 1, ls ++ l1, by go_num, by rw [← HJ.out], by omega, by omega, hbw2.trans (hw5.mono hbw2.size), HT2, hfl3⟩
      have f4 : (kd == 4) = false := by simpa using e4
      by_cases e3 : kd = 3
      · subst e3
        have HC : Hid (chosenI (3, l1, l2) = some l2) := Lib.hid rfl
        have HJ : Hid (joinS ls ++ joinS l2 = joinS (ls ++ l2)) := Lib.hid (joinS_append _ _)
        have hfl2 : (flatB l2).length ≤ l2.length * 1000000 := flatB_len _ _ HM4.out
        have hfj : (joinS l2).size ≤ 1000000000 := by rw [joinS_size]; omega
        go_wp2_with (go_at_call 20; refine (join_any hs2' (Nat.le_refl _) rfl (by omega) HM4.out).mono ?_; rintro e w5 ⟨rfl, hw5⟩)
        have HT2 : Hid (textI (ps.take (k + 1)) = some (ls ++ l2)) := Lib.hid (by
          have e : ps.take (k + 1) = ps.take k ++ [(3, l1, l2)] := by
            obtain ⟨h1, h2⟩ := List.getElem?_eq_some_iff.1 HP.out
            rw [List.take_succ_eq_append_getElem h1, h2]
          rw [e]
          exact textI_snoc _ _ _ _ HT.out HC.out)
        have hfl3 : (flatB (ls ++ l2)).length ≤ (k + 1) * 1000000000 := by rw [flatB_append, List.length_append]; omega
        go_roundg (gk - 1)
        case measure => omega
        case rel => exact ⟨k + 1, ls ++ l2, by go_num, by rw [← HJ.out], by omega, by omega, hbw2.trans (hw5.mono hbw2.size), HT2, hfl3⟩
      have f3 : (kd == 3) = false := by simpa using e3
      have HX : Hid (textI ps = none) := Lib.hid (by
        have h := textI_none (ps.take k) (kd, l1, l2) (ps.drop (k + 1)) (by simp [chosenI, e1, e2, e3, e4])
        obtain ⟨h1, h2⟩ := List.getElem?_eq_some_iff.1 HP.out
        rwa [← h2, ← List.drop_eq_getElem_cons h1, List.take_append_drop] at h)
      clear e1 e2 e3 e4
      go_wp2
      go_ret2
      exact ⟨by rw [HX.out]; rfl, hbw2⟩
    · have hkn : k = n := by omega
      have HX : Hid (textI ps = some ls) := Lib.hid (by have := HT.out; rwa [List.take_of_length_le (by rw [HN.out]; omega)] at this)
      go_wp2
      go_ret2
      exact ⟨by rw [HX.out, textRes]; rfl, hbw⟩
end Go.Proofs.Ytafhefhhndmdkaa
