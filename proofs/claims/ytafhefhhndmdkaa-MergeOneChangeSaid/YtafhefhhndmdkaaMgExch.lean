/- The walk of MergeExchange: it returns true and writes nothing that was there; for every three strings. -/
import Derived.Test.YtafhefhhndmdkaaMgMerge
import Derived.Test.YtafhefhhndmdkaaMgOver
import Derived.Test.YtafhefhhndmdkaaMgEq
import Derived.Test.YtafhefhhndmdkaaMgPiMath
import Derived.Test.YtafhefhhndmdkaaMgLong
namespace Go.Proofs.Ytafhefhhndmdkaa
open Go.RowKit Mg
attribute [local go_sem ↓] Go.wp_at_zero Go.wp_at_succ

/-- a merge, its pieces read one by one -/
theorem merge_read (o a b : ByteArray) (w : World) (hso : o.size ≤ 1000000) (hsa : a.size ≤ 1000000) (hsb : b.size ≤ 1000000) (hlo : (linesOf o).length ≤ 400) (hla : (linesOf a).length ≤ 400) (hlb : (linesOf b).length ≤ 400) :
    Calls Try.prog 12 #[.string o, .string a, .string b] w fun e w' => ∃ A c, e = .returned (.tuple #[.slice A (mergeP (linesOf o) (linesOf a) (linesOf b)).length c, .int .i64 0]) ∧ (mergeP (linesOf o) (linesOf a) (linesOf b)).length ≤ 9223372036854775807 ∧
      PcsAt w' w'.heap.size A (mergeP (linesOf o) (linesOf a) (linesOf b)) ∧ Below w.heap.size w w' :=
  (merge_any o a b w hso hsa hsb hlo hla hlb).mono fun e w' ⟨v, us, h1, h2, h3, h4⟩ => by
    have hm : (mergeP (linesOf o) (linesOf a) (linesOf b)).length ≤ maxLen := by
      rcases h2.2 with ⟨_, h0⟩ | ⟨g, cap, cur, _, _, _, h5, h6, _⟩
      · rw [h0]; exact Nat.zero_le _
      · exact Nat.le_trans h5 h6
    unfold maxLen at hm
    obtain ⟨A, c, rfl, _, h5⟩ := PcsAt.of_own h2 h3
    exact ⟨A, c, h1, by omega, h5, h4⟩
set_option maxHeartbeats 400000 in
theorem turned_any (k : Nat) (hk : k ≤ 5) (w : World) : Calls Try.prog 13 #[.int .i64 k] w fun e w' => e = .returned (.int .i64 (turnK k : Nat)) ∧ w' = w := by
  by_cases h2 : k = 2
  · subst h2
    go_enter Try.func13, Try.ntmps13
    go_wp2
    go_ret
    exact ⟨rfl, rfl⟩
  · by_cases h3 : k = 3
    · subst h3
      go_enter Try.func13, Try.ntmps13
      go_wp2
      go_ret
      exact ⟨rfl, rfl⟩
    · have e : turnK k = k := by unfold turnK; rw [if_neg h2, if_neg h3]
      rw [e]
      clear e
      have g2 : ((k : Int) == 2) = false := by simp; omega
      have g3 : ((k : Int) == 3) = false := by simp; omega
      go_enter Try.func13, Try.ntmps13
      go_wp2
      go_ret
      exact ⟨rfl, rfl⟩

set_option maxHeartbeats 8000000 in
set_option maxRecDepth 100000 in
theorem mergeExchange_law (o a b : ByteArray) (w : World) (ho : o.size ≤ maxLen) (ha : a.size ≤ maxLen) (hb : b.size ≤ maxLen) :
    Calls Try.prog 3 #[.string o, .string a, .string b] w fun e w' => e = .returned (.bool true) ∧ Below w.heap.size w w' := by
  unfold maxLen at ho ha hb
  have hr0 := reads_new w [o, a, b] 9 (w.heap.size + 1) (by omega)
  obtain ⟨r, hr⟩ : ∃ r, [o, a, b].any lgB = r := ⟨_, rfl⟩
  have HLG : Hid (∀ W : World, Reads W W.heap.size 1 (some ⟨w.heap.size, 0, none⟩) 3 [.string o, .string a, .string b] → Calls Try.prog 10 #[.slice (some ⟨w.heap.size, 0, none⟩) 3 3] W fun e w' => e = .returned (.bool r) ∧ W = w') :=
    Lib.hid (fun W hW => by rw [← hr]; exact long_any (some ⟨w.heap.size, 0, none⟩) 3 [o, a, b] W hW (by simp) (by simp; omega))
  have hbw : Below w.heap.size w (w.alloc (.cells #[.string o, .string a, .string b] 9)) := (Below.refl _ _).alloc (Nat.le_refl _) _
  cases r with
  | true =>
    clear hr
    go_enter Try.func3, Try.ntmps3
    go_wp2_with (first
      | (go_at_call 10; refine (HLG.out _ (by simpa using hr0)).mono ?_; rintro e w1 ⟨rfl, rfl⟩)
      | (go_at_call 11; refine (awake_any _).mono ?_; rintro e w1 ⟨rfl, hb1⟩))
    go_ret
    exact ⟨rfl, hbw.trans (hb1.mono (by simp))⟩
  | false =>
    have hlg : lgB o = false ∧ lgB a = false ∧ lgB b = false := by simpa using hr
    have hso := lgB_no hlg.1
    have hsa := lgB_no hlg.2.1
    have hsb := lgB_no hlg.2.2
    clear hr hlg
    by_cases hl : 400 < (linesOf o).length ∨ 400 < (linesOf a).length ∨ 400 < (linesOf b).length
    · have HO1 := Lib.hid (fun W : World => merge_over o a b W (by omega) (by omega) (by omega) hl)
      have HO2 := Lib.hid (fun W : World => merge_over o b a W (by omega) (by omega) (by omega) (by omega))
      clear hl
      go_enter Try.func3, Try.ntmps3
      go_wp2_with (first
        | (go_at_call 10; refine (HLG.out _ (by simpa using hr0)).mono ?_; rintro e w1 ⟨rfl, rfl⟩)
        | (go_at_call 12; ((with_reducible refine (HO1.out _).mono ?_); rintro e w1 ⟨rfl, hb1⟩))
        | (go_at_call 12; ((with_reducible refine (HO2.out _).mono ?_); rintro e w2 ⟨rfl, hb2⟩))
        | (go_at_call 11; refine (awake_any _).mono ?_; rintro e w3 ⟨rfl, hb3⟩))
      refine wp_loop_rounds 1 ?_
      rw [rounds_succ]
      go_wp2_with (go_at_call 11; refine (awake_any _).mono ?_; rintro e w3 ⟨rfl, hb3⟩)
      go_ret
      have z1 := hb1.size
      have z2 := hb2.size
      simp at z1
      exact ⟨rfl, ((hbw.trans (hb1.mono (by simp))).trans (hb2.mono (by omega))).trans (hb3.mono (by omega))⟩
    · have hlo : (linesOf o).length ≤ 400 := by omega
      have hla : (linesOf a).length ≤ 400 := by omega
      have hlb : (linesOf b).length ≤ 400 := by omega
      clear hl
      have hk0 := merge_kinds (linesOf o) (linesOf a) (linesOf b)
      have hl0 := fun p hp => merge_lens (linesOf o) (linesOf a) (linesOf b) (p := p) hp
      obtain ⟨ps, hps⟩ : ∃ ps, ps = mergeP (linesOf o) (linesOf a) (linesOf b) := ⟨_, rfl⟩
      obtain ⟨n, hn⟩ : ∃ n, n = ps.length := ⟨_, rfl⟩
      have HM1 : Hid (∀ W : World, Calls Try.prog 12 #[.string o, .string a, .string b] W fun e w' => ∃ A c, e = .returned (.tuple #[.slice A n c, .int .i64 0]) ∧ n ≤ 9223372036854775807 ∧ PcsAt w' w'.heap.size A ps ∧ Below W.heap.size W w') :=
        Lib.hid (fun W => by have h := merge_read o a b W (by omega) (by omega) (by omega) hlo hla hlb; rwa [← hps, ← hn] at h)
      have HM2 : Hid (∀ W : World, Calls Try.prog 12 #[.string o, .string b, .string a] W fun e w' => ∃ A c, e = .returned (.tuple #[.slice A n c, .int .i64 0]) ∧ PcsAt w' w'.heap.size A (ps.map turnP) ∧ Below W.heap.size W w') :=
        Lib.hid (fun W => (merge_read o b a W (by omega) (by omega) (by omega) hlo hlb hla).mono fun e w' h => by
          rw [merge_turn (linesOf o) (linesOf a) (linesOf b), ← hps, List.length_map, ← hn] at h
          obtain ⟨A, c, h1, _, h2, h3⟩ := h
          exact ⟨A, c, h1, h2, h3⟩)
      rw [← hps] at hk0 hl0
      have HK := Lib.hid hk0
      have HL := Lib.hid hl0
      have HN := Lib.hid hn
      clear hps hn hk0 hl0
      go_enter Try.func3, Try.ntmps3
      go_wp2_with (first
        | (go_at_call 10; refine (HLG.out _ (by simpa using hr0)).mono ?_; rintro e w1 ⟨rfl, rfl⟩)
        | (go_at_call 12; ((with_reducible refine (HM1.out _).mono ?_); rintro e w1 ⟨A1, c1, rfl, hnl, hp1, hb1⟩))
        | (go_at_call 12; ((with_reducible refine (HM2.out _).mono ?_); rintro e w2 ⟨A2, c2, rfl, hp2, hb2⟩)))
      have hp1' := (hp1.below hb2).more hb2.size
      have z1 := hb1.size
      have z2 := hb2.size
      simp at z1
      have hbw2 : Below w.heap.size w w2 := (hbw.trans (hb1.mono (by simp))).trans (hb2.mono (by omega))
      clear hp1 hb1 hb2 hbw hr0
      go_loopw [46] (fun iv wr => ∃ k : Nat, k ≤ n ∧ iv = .int .i64 k ∧ Below w2.heap.size w2 wr) (fun iv _ => n - (intOf iv).toNat)
      case atStart => exact ⟨0, Nat.zero_le _, rfl, Below.refl _ _⟩
      case round =>
        obtain ⟨k, hk, rfl, hbr⟩ := hrel
        by_cases hlt : k < n
        · obtain ⟨p, hp⟩ : ∃ p, ps[k]? = some p := ⟨_, List.getElem?_eq_getElem (by rw [← HN.out]; exact hlt)⟩
          have hpm : p ∈ ps := List.mem_of_getElem? hp
          obtain ⟨b1, o1, X0, d0, X1, d1, X2, d2, rfl, hlb1, k0, k1, k2, k3, s0, s1, s2⟩ := hp1'.below hbr k p hp
          obtain ⟨l0, l1, l2⟩ := HL.out p hpm
          have hkd : p.1 ≤ 5 := by
            rcases HK.out p hpm with h | h | h | h | h <;> omega
          have HP := Lib.hid hp
          clear hp hpm
          obtain ⟨kd, x0, x1, x2⟩ := p
          simp only at l0 l1 l2 hkd k0 k1 k2 k3 s0 s1 s2
          go_upto_region 10 with (fail)
          have hbx : Blk (wr.alloc (.cells #[.int .i64 kd, .slice X0 x0.length d0, .slice X1 x1.length d1, .slice X2 x2.length d2] 30)) wr.heap.size 30 _ := Blk.new _ _ _
          have zr := hbr.size
          have hbr5 := hbr.alloc zr (.cells #[.int .i64 kd, .slice X0 x0.length d0, .slice X1 x1.length d1, .slice X2 x2.length d2] 30)
          have hbx5 : Below w2.heap.size wr (wr.alloc (.cells #[.int .i64 kd, .slice X0 x0.length d0, .slice X1 x1.length d1, .slice X2 x2.length d2] 30)) := (Below.refl _ _).alloc zr _
          have s0' := s0.below hbx5
          have s1' := s1.below hbx5
          have s2' := s2.below hbx5
          clear k0 k1 k2 k3 s0 s1 s2 hbx5
          generalize wr.alloc (.cells #[.int .i64 kd, .slice X0 x0.length d0, .slice X1 x1.length d1, .slice X2 x2.length d2] 30) = w5 at *
          obtain ⟨b2, o2, Y0, f0, Y1, f1, Y2, f2, rfl, hlb2, j0, j1, j2, j3, t0, t1, t2⟩ := hp2.below hbr5 k (turnP (kd, x0, x1, x2)) (by rw [List.getElem?_map, HP.out]; rfl)
          simp only [turnP] at j0 j1 j2 j3 t0 t1 t2
          go_upto_region 11 with (fail)
          have hby : Blk (w5.alloc (.cells #[.int .i64 (turnK kd : Nat), .slice Y0 x0.length f0, .slice Y1 x2.length f1, .slice Y2 x1.length f2] 30)) w5.heap.size 30 _ := Blk.new _ _ _
          have z5 := hbr5.size
          have hbx6 := hbx.alloc (.cells #[.int .i64 (turnK kd : Nat), .slice Y0 x0.length f0, .slice Y1 x2.length f1, .slice Y2 x1.length f2] 30)
          have hbr6 := hbr5.alloc z5 (.cells #[.int .i64 (turnK kd : Nat), .slice Y0 x0.length f0, .slice Y1 x2.length f1, .slice Y2 x1.length f2] 30)
          have hb56 : Below w2.heap.size w5 (w5.alloc (.cells #[.int .i64 (turnK kd : Nat), .slice Y0 x0.length f0, .slice Y1 x2.length f1, .slice Y2 x1.length f2] 30)) := (Below.refl _ _).alloc z5 _
          have S0 := s0'.below hb56
          have S1 := s1'.below hb56
          have S2 := s2'.below hb56
          have T0 := t0.below hb56
          have T1 := t1.below hb56
          have T2 := t2.below hb56
          clear j0 j1 j2 j3 t0 t1 t2 s0' s1' s2' hb56 hbx
          generalize w5.alloc (.cells #[.int .i64 (turnK kd : Nat), .slice Y0 x0.length f0, .slice Y1 x2.length f1, .slice Y2 x1.length f2] 30) = w6 at *
          have a0 := (hbx6.cell 0).trans rfl
          have a1 := (hbx6.cell 1).trans rfl
          have a2 := (hbx6.cell 2).trans rfl
          have a3 := (hbx6.cell 3).trans rfl
          have c0 := (hby.cell 0).trans rfl
          have c1 := (hby.cell 1).trans rfl
          have c2 := (hby.cell 2).trans rfl
          have c3 := (hby.cell 3).trans rfl
          have HT := Lib.hid (fun m : Nat => turned_any kd hkd (w6.drewN m))
          have HE0 := Lib.hid (fun m : Nat => refEqual_any X0 Y0 d0 f0 _ _ x0 x0 (S0.drewN m) (T0.drewN m) rfl rfl (by omega) (by omega) true (by simp))
          have HE1 := Lib.hid (fun m : Nat => refEqual_any X1 Y2 d1 f2 _ _ x1 x1 (S1.drewN m) (T2.drewN m) rfl rfl (by omega) (by omega) true (by simp))
          have HE2 := Lib.hid (fun m : Nat => refEqual_any X2 Y1 d2 f1 _ _ x2 x2 (S2.drewN m) (T1.drewN m) rfl rfl (by omega) (by omega) true (by simp))
          have hkk : ((turnK kd : Nat) : Int) == ((turnK kd : Nat) : Int) := by simp
          clear S0 S1 S2 T0 T1 T2 l0 l1 l2 hkd
          go_quiet ((first
            | (go_at_call 13; exact Calls.quiet_of_same (HT.out _))
            | (go_at_call 14; first | (with_reducible exact Calls.quiet_of (HE0.out _)) | (with_reducible exact Calls.quiet_of (HE1.out _)) | (with_reducible exact Calls.quiet_of (HE2.out _)))))
          go_wp2
          go_roundw
          case rel => exact ⟨k + 1, by omega, by go_num, ⟨hbr6.os, hbr6.tape, hbr6.output, hbr6.size, hbr6.block⟩⟩
          case measure => simp [intOf]; omega
        · go_wp2_with (go_at_call 11; refine (awake_any _).mono ?_; rintro e w3 ⟨rfl, hb3⟩)
          go_ret
          have z3 := hbr.size
          exact ⟨rfl, (hbw2.trans (hbr.mono (by omega))).trans (hb3.mono (by omega))⟩
end Go.Proofs.Ytafhefhhndmdkaa
