/- The walk of MergePieces: it returns true and writes nothing that was there; for every three strings. -/
import Derived.Test.YtafhefhhndmdkaaMgExch
import Derived.Test.YtafhefhhndmdkaaMgUnMath
import Derived.Test.YtafhefhhndmdkaaMgRefText
namespace Go.Proofs.Ytafhefhhndmdkaa
open Go.RowKit Mg
attribute [local go_sem ↓] Go.wp_at_zero Go.wp_at_succ

theorem side_snoc (g : Pc → List ByteArray) (ps : List Pc) (k : Nat) (p : Pc) (hp : ps[k]? = some p) : side g (ps.take (k + 1)) = side g (ps.take k) ++ g p := by
  obtain ⟨h1, h2⟩ := List.getElem?_eq_some_iff.1 hp
  rw [List.take_succ_eq_append_getElem h1, h2, side_append, side_one]
theorem side_elem {g : Pc → List ByteArray} {ps : List Pc} {d : ByteArray} (h : side g ps = linesOf d) (hd : d.size ≤ 1000) : ∀ p ∈ ps, ∀ s ∈ g p, s.size ≤ 1000000 := fun p hp s hs => by
  have h1 := mem_side_elem (g := g) hp hs
  rw [h] at h1
  have := linesOf_size d s h1
  omega
theorem flatB_side (g : Pc → List ByteArray) : ∀ (ps : List Pc), (∀ p ∈ ps, (g p).length ≤ 400 ∧ ∀ s ∈ g p, s.size ≤ 1000000) → (flatB (side g ps)).length ≤ ps.length * 400000000
  | [], _ => by simp [side, flatB]
  | p :: ps, h => by
    have e : side g (p :: ps) = g p ++ side g ps := by simp [side]
    have h1 := flatB_side g ps fun q hq => h q (.tail _ hq)
    obtain ⟨h2, h3⟩ := h p (.head _)
    have h4 := flatB_len (g p) 1000000 h3
    rw [e, flatB_append, List.length_append, List.length_cons]
    omega
theorem before_same {ps : List Pc} (ha : Alt ps) {k : Nat} {p q : Pc} (hp : ps[k + 1]? = some p) (hq : ps[k]? = some q) (h1 : p.1 ≠ 1) : q.1 = 1 := (ha k q p hq hp).resolve_right h1

set_option maxHeartbeats 16000000 in
set_option maxRecDepth 100000 in
theorem mergePieces_law (o a b : ByteArray) (w : World) (ho : o.size ≤ maxLen) (ha : a.size ≤ maxLen) (hb : b.size ≤ maxLen) :
    Calls Try.prog 8 #[.string o, .string a, .string b] w fun e w' => e = .returned (.bool true) ∧ Below w.heap.size w w' := by
  unfold maxLen at ho ha hb
  have hr0 := reads_new w [o, a, b] 9 (w.heap.size + 1) (by omega)
  obtain ⟨r, hr⟩ : ∃ r, [o, a, b].any lgB = r := ⟨_, rfl⟩
  have HLG : Hid (∀ W : World, Reads W W.heap.size 1 (some ⟨w.heap.size, 0, none⟩) 3 [.string o, .string a, .string b] → Calls Try.prog 10 #[.slice (some ⟨w.heap.size, 0, none⟩) 3 3] W fun e w' => e = .returned (.bool r) ∧ W = w') :=
    Lib.hid (fun W hW => by rw [← hr]; exact long_any (some ⟨w.heap.size, 0, none⟩) 3 [o, a, b] W hW (by simp) (by simp; omega))
  have hbw : Below w.heap.size w (w.alloc (.cells #[.string o, .string a, .string b] 9)) := (Below.refl _ _).alloc (Nat.le_refl _) _
  cases r with
  | true =>
    clear hr
    go_enter Try.func8, Try.ntmps8
    go_wp2_with (first
      | (go_at_call 10; refine (HLG.out _ (by simpa using hr0)).mono ?_; rintro e w1 ⟨rfl, rfl⟩)
      | (go_at_call 11; refine (awake_any _).mono ?_; rintro e w1 ⟨rfl, hb1⟩))
    go_ret
    exact ⟨rfl, hbw.trans (hb1.mono (by simp))⟩
  | false =>
    have hlg : lgB o = false ∧ lgB a = false ∧ lgB b = false := by simpa using hr
    have hso := lgB_no hlg.1
    have hsa := lgB_no hlg.2.1
    have hsb := lgB_no hlg.2.2
    clear hr hlg
    by_cases hl : 400 < (linesOf o).length ∨ 400 < (linesOf a).length ∨ 400 < (linesOf b).length
    · have HO1 := Lib.hid (fun W : World => merge_over o a b W (by omega) (by omega) (by omega) hl)
      clear hl
      go_enter Try.func8, Try.ntmps8
      go_wp2_with (first
        | (go_at_call 10; refine (HLG.out _ (by simpa using hr0)).mono ?_; rintro e w1 ⟨rfl, rfl⟩)
        | (go_at_call 12; ((with_reducible refine (HO1.out _).mono ?_); rintro e w1 ⟨rfl, hb1⟩))
        | (go_at_call 11; refine (awake_any _).mono ?_; rintro e w3 ⟨rfl, hb3⟩))
      go_ret
      have z1 := hb1.size
      simp at z1
      exact ⟨rfl, (hbw.trans (hb1.mono (by simp))).trans (hb3.mono (by omega))⟩
    · have hlo : (linesOf o).length ≤ 400 := by omega
      have hla : (linesOf a).length ≤ 400 := by omega
      have hlb : (linesOf b).length ≤ 400 := by omega
      clear hl
      have hk0 := merge_kinds (linesOf o) (linesOf a) (linesOf b)
      have hl0 := fun p hp => merge_lens (linesOf o) (linesOf a) (linesOf b) (p := p) hp
      have hal := merge_alt (linesOf o) (linesOf a) (linesOf b)
      have hs0 := merge_base (linesOf o) (linesOf a) (linesOf b)
      have hs1 := merge_ours (linesOf o) (linesOf a) (linesOf b)
      have hs2 := merge_theirs (linesOf o) (linesOf a) (linesOf b)
      have hml := merge_len (linesOf o) (linesOf a) (linesOf b)
      obtain ⟨ps, hps⟩ : ∃ ps, ps = mergeP (linesOf o) (linesOf a) (linesOf b) := ⟨_, rfl⟩
      obtain ⟨n, hn⟩ : ∃ n, n = ps.length := ⟨_, rfl⟩
      have HM1 : Hid (∀ W : World, Calls Try.prog 12 #[.string o, .string a, .string b] W fun e w' => ∃ A c, e = .returned (.tuple #[.slice A n c, .int .i64 0]) ∧ PcsAt w' w'.heap.size A ps ∧ Below W.heap.size W w') :=
        Lib.hid (fun W => (merge_read o a b W (by omega) (by omega) (by omega) hlo hla hlb).mono fun e w' h => by
          rw [← hps, ← hn] at h
          obtain ⟨A, c, h1, _, h2, h3⟩ := h
          exact ⟨A, c, h1, h2, h3⟩)
      rw [← hps] at hk0 hl0 hal hs0 hs1 hs2 hml
      rw [← hn] at hml
      have HK := Lib.hid hk0
      have HL := Lib.hid hl0
      have HAL := Lib.hid hal
      have HS0 := Lib.hid hs0
      have HS1 := Lib.hid hs1
      have HS2 := Lib.hid hs2
      have hn3 : n ≤ 803 := by omega
      have HN := Lib.hid hn
      clear hps hn hk0 hl0 hal hs0 hs1 hs2 hml
      have HJ : Hid (joinS [] = ByteArray.empty) := Lib.hid rfl
      go_enter Try.func8, Try.ntmps8
      go_wp2_with (first
        | (go_at_call 10; refine (HLG.out _ (by simpa using hr0)).mono ?_; rintro e w1 ⟨rfl, rfl⟩)
        | (go_at_call 12; ((with_reducible refine (HM1.out _).mono ?_); rintro e w2 ⟨A1, c1, rfl, hp1, hb1⟩)))
      have z1 := hb1.size
      simp at z1
      have hbw2 : Below w.heap.size w w2 := hbw.trans (hb1.mono (by simp))
      have z1' := hbw2.size
      clear hb1 hbw hr0
      go_loopw [9, 10, 11, 41] (fun sv0 sv1 sv2 iv wr => ∃ k : Nat, k ≤ n ∧ iv = .int .i64 k ∧ sv0 = .string (joinS (side (·.2.1) (ps.take k))) ∧ sv1 = .string (joinS (side (·.2.2.1) (ps.take k))) ∧ sv2 = .string (joinS (side (·.2.2.2) (ps.take k))) ∧ Below w2.heap.size w2 wr) (fun _ _ _ iv _ => n - (intOf iv).toNat)
      case atStart => exact ⟨0, Nat.zero_le _, rfl, rfl, rfl, rfl, Below.refl _ _⟩
      case round =>
        obtain ⟨k, hk, rfl, rfl, rfl, rfl, hbr⟩ := hrel
        by_cases hlt : k < n
        · obtain ⟨p, hp⟩ : ∃ p, ps[k]? = some p := ⟨_, List.getElem?_eq_getElem (by rw [← HN.out]; exact hlt)⟩
          have hpm : p ∈ ps := List.mem_of_getElem? hp
          obtain ⟨b1, o1, X0, d0, X1, d1, X2, d2, rfl, hlb1, k0, k1, k2, k3, s0, s1, s2⟩ := hp1.below hbr k p hp
          obtain ⟨l0, l1, l2⟩ := HL.out p hpm
          have HKD := Lib.hid (HK.out p hpm)
          have HP := Lib.hid hp
          have HZ0 := Lib.hid (side_elem HS0.out hso p hpm)
          have HZ1 := Lib.hid (side_elem HS1.out hsa p hpm)
          have HZ2 := Lib.hid (side_elem HS2.out hsb p hpm)
          have tk : ∀ q ∈ ps.take k, q ∈ ps := fun q hq => List.mem_of_mem_take hq
          have tl : (ps.take k).length ≤ 803 := by rw [List.length_take]; omega
          have f0 := flatB_side (·.2.1) (ps.take k) fun q hq => ⟨by have := (HL.out q (tk q hq)).1; omega, side_elem HS0.out hso q (tk q hq)⟩
          have f1 := flatB_side (·.2.2.1) (ps.take k) fun q hq => ⟨by have := (HL.out q (tk q hq)).2.1; omega, side_elem HS1.out hsa q (tk q hq)⟩
          have f2 := flatB_side (·.2.2.2) (ps.take k) fun q hq => ⟨by have := (HL.out q (tk q hq)).2.2; omega, side_elem HS2.out hsb q (tk q hq)⟩
          have HN0 := Lib.hid (side_snoc (·.2.1) ps k p hp)
          have HN1 := Lib.hid (side_snoc (·.2.2.1) ps k p hp)
          have HN2 := Lib.hid (side_snoc (·.2.2.2) ps k p hp)
          clear hp hpm tk
          obtain ⟨kd, x0, x1, x2⟩ := p
          simp only at l0 l1 l2 k0 k1 k2 k3 s0 s1 s2
          generalize side (·.2.1) (ps.take k) = y0 at *
          generalize side (·.2.2.1) (ps.take k) = y1 at *
          generalize side (·.2.2.2) (ps.take k) = y2 at *
          have j0 : (joinS y0).size ≤ 400000000000 := by rw [joinS_size]; omega
          have j1 : (joinS y1).size ≤ 400000000000 := by rw [joinS_size]; omega
          have j2 : (joinS y2).size ≤ 400000000000 := by rw [joinS_size]; omega
          have i0 : (joinS x0).size ≤ 400000000 := by rw [joinS_size]; have := flatB_len x0 1000000 HZ0.out; omega
          have i1 : (joinS x1).size ≤ 400000000 := by rw [joinS_size]; have := flatB_len x1 1000000 HZ1.out; omega
          have i2 : (joinS x2).size ≤ 400000000 := by rw [joinS_size]; have := flatB_len x2 1000000 HZ2.out; omega
          clear f0 f1 f2 tl
          go_upto_region 10 with (fail)
          have hbx : Blk (wr.alloc (.cells #[.int .i64 kd, .slice X0 x0.length d0, .slice X1 x1.length d1, .slice X2 x2.length d2] 30)) wr.heap.size 30 _ := Blk.new _ _ _
          have zr := hbr.size
          have hbr5 := hbr.alloc zr (.cells #[.int .i64 kd, .slice X0 x0.length d0, .slice X1 x1.length d1, .slice X2 x2.length d2] 30)
          have hbx5 : Below w2.heap.size wr (wr.alloc (.cells #[.int .i64 kd, .slice X0 x0.length d0, .slice X1 x1.length d1, .slice X2 x2.length d2] 30)) := (Below.refl _ _).alloc zr _
          have s0' := (s0.below hbx5).more hbr5.size
          have s1' := (s1.below hbx5).more hbr5.size
          have s2' := (s2.below hbx5).more hbr5.size
          clear k0 k1 k2 k3 s0 s1 s2 hbx5
          have hgx := hbx.lt
          generalize wr.alloc (.cells #[.int .i64 kd, .slice X0 x0.length d0, .slice X1 x1.length d1, .slice X2 x2.length d2] 30) = w5 at *
          have a0 : w5.cell? ⟨wr.heap.size, 0, none⟩ = some (.int .i64 kd) := (hbx.cell 0).trans rfl
          have a1 : w5.cell? ⟨wr.heap.size, 1, none⟩ = some (.slice X0 x0.length d0) := (hbx.cell 1).trans rfl
          have a2 : w5.cell? ⟨wr.heap.size, 2, none⟩ = some (.slice X1 x1.length d1) := (hbx.cell 2).trans rfl
          have a3 : w5.cell? ⟨wr.heap.size, 3, none⟩ = some (.slice X2 x2.length d2) := (hbx.cell 3).trans rfl
          have HJ0 := Lib.hid (fun (W : World) (hW : Below w5.heap.size w5 W) => join_any ((s0'.below hW)) hW.size rfl (by omega) HZ0.out)
          have HJ1 := Lib.hid (fun (W : World) (hW : Below w5.heap.size w5 W) => join_any ((s1'.below hW)) hW.size rfl (by omega) HZ1.out)
          have HJ2 := Lib.hid (fun (W : World) (hW : Below w5.heap.size w5 W) => join_any ((s2'.below hW)) hW.size rfl (by omega) HZ2.out)
          have u0 : (joinS y0).size + (joinS x0).size ≤ 9223372036854775807 := by omega
          have u1 : (joinS y1).size + (joinS x1).size ≤ 9223372036854775807 := by omega
          have u2 : (joinS y2).size + (joinS x2).size ≤ 9223372036854775807 := by omega
          have v0 : ¬ 9223372036854775807 < (joinS y0).size + (joinS x0).size := by omega
          have v1 : ¬ 9223372036854775807 < (joinS y1).size + (joinS x1).size := by omega
          have v2 : ¬ 9223372036854775807 < (joinS y2).size + (joinS x2).size := by omega
          have hcur := (Below.refl w5.heap.size w5).drew
          go_region_held3 (fun w' => w'.cell? ⟨wr.heap.size, 1, none⟩ = some (.slice X0 x0.length d0) ∧ w'.cell? ⟨wr.heap.size, 2, none⟩ = some (.slice X1 x1.length d1) ∧ w'.cell? ⟨wr.heap.size, 3, none⟩ = some (.slice X2 x2.length d2))
            (first | go_keep)
            (first
              | (go_at_call 20; ((with_reducible refine (HJ0.out _ hcur).mono ?_); rintro e w6 ⟨rfl, hb6⟩; have hcur := hcur.trans (hb6.mono hcur.size); have k1 := (hcur.cell (p := ⟨wr.heap.size, 1, none⟩) hgx).trans a1; have k2 := (hcur.cell (p := ⟨wr.heap.size, 2, none⟩) hgx).trans a2; have k3 := (hcur.cell (p := ⟨wr.heap.size, 3, none⟩) hgx).trans a3))
              | (go_at_call 20; ((with_reducible refine (HJ1.out _ hcur).mono ?_); rintro e w7 ⟨rfl, hb7⟩; have hcur := hcur.trans (hb7.mono hcur.size); have k1 := (hcur.cell (p := ⟨wr.heap.size, 1, none⟩) hgx).trans a1; have k2 := (hcur.cell (p := ⟨wr.heap.size, 2, none⟩) hgx).trans a2; have k3 := (hcur.cell (p := ⟨wr.heap.size, 3, none⟩) hgx).trans a3))
              | (go_at_call 20; ((with_reducible refine (HJ2.out _ hcur).mono ?_); rintro e w8 ⟨rfl, hb8⟩; have hcur := hcur.trans (hb8.mono hcur.size); have k1 := (hcur.cell (p := ⟨wr.heap.size, 1, none⟩) hgx).trans a1; have k2 := (hcur.cell (p := ⟨wr.heap.size, 2, none⟩) hgx).trans a2; have k3 := (hcur.cell (p := ⟨wr.heap.size, 3, none⟩) hgx).trans a3)))
          clear HJ0 HJ1 HJ2 u0 u1 u2 v0 v1 v2 hb6 hb7 hb8 k1 k2 k3 HZ0 HZ1 HZ2 i0 i1 i2 j0 j1 j2
          have hb58 : Below w5.heap.size w5 w8 := hcur
          have hbr8 : Below w2.heap.size w2 w8 := hbr5.trans (hb58.mono hbr5.size)
          have S0 := s0'.below hb58
          have S1 := s1'.below hb58
          have S2 := s2'.below hb58
          have e0 := (hb58.cell (p := ⟨wr.heap.size, 0, none⟩) hgx).trans a0
          have e1 := (hb58.cell (p := ⟨wr.heap.size, 1, none⟩) hgx).trans a1
          have e2 := (hb58.cell (p := ⟨wr.heap.size, 2, none⟩) hgx).trans a2
          have e3 := (hb58.cell (p := ⟨wr.heap.size, 3, none⟩) hgx).trans a3
          have HPV : Hid (kd ≠ 1 → 0 < k → w8.cell? ⟨b1, o1 + (k - 1) * 4, none⟩ = some (.int .i64 1)) := Lib.hid (fun h1 h2 => by
            obtain ⟨q, hq⟩ : ∃ q, ps[k - 1]? = some q := ⟨_, List.getElem?_eq_getElem (by rw [← HN.out]; omega)⟩
            have hq1 := before_same HAL.out (k := k - 1) (p := (kd, x0, x1, x2)) (q := q) (by rw [show k - 1 + 1 = k by omega]; exact HP.out) hq h1
            obtain ⟨b', o', _, _, _, _, _, _, hA, _, hc, _⟩ := hp1.below hbr8 (k - 1) q hq
            simp only [Option.some.injEq, Addr.mk.injEq] at hA
            obtain ⟨rfl, rfl, _⟩ := hA
            rw [hc, hq1]; rfl)
          clear hcur hb58 s0' s1' s2' a0 a1 a2 a3 hbx hbr5 hgx hbr
          generalize w8 = wz at *
          rcases HKD.out with ⟨g1, g2, g3, g4⟩ | ⟨g1, g2, g3⟩ | ⟨g1, g2, g3⟩ | ⟨g1, g2, g3⟩ | ⟨g1, g2, g3, g4⟩
          · simp only at g1 g2 g3 g4
            have D0 : decide (x0 = x1) = true := decide_eq_true g2.symm
            have D1 : decide (x0 = x2) = true := decide_eq_true g3.symm
            have D2 : decide (x1 = x2) = true := decide_eq_true (g2.trans g3.symm)
            have hx0 : 0 < x0.length := List.length_pos_iff.2 g4
            subst g1
            clear g2 g3 g4
            have HE0 := Lib.hid (fun m : Nat => refEqual_any X0 X1 d0 d1 _ _ x0 x1 (S0.drewN m) (S1.drewN m) rfl rfl (by omega) (by omega) true D0)
            have HE1 := Lib.hid (fun m : Nat => refEqual_any X0 X2 d0 d2 _ _ x0 x2 (S0.drewN m) (S2.drewN m) rfl rfl (by omega) (by omega) true D1)
            have HE2 := Lib.hid (fun m : Nat => refEqual_any X1 X2 d1 d2 _ _ x1 x2 (S1.drewN m) (S2.drewN m) rfl rfl (by omega) (by omega) true D2)
            clear D0 D1 D2 S0 S1 S2 l0 l1 l2
            rcases Nat.eq_zero_or_pos k with hk0 | hk0
            · have hk1 : ¬ (0 : Int) < (k : Int) := by omega
              go_wp2
              go_quiet ((go_at_call 14; first | (with_reducible exact Calls.quiet_of (HE0.out _)) | (with_reducible exact Calls.quiet_of (HE1.out _)) | (with_reducible exact Calls.quiet_of (HE2.out _))))
              go_wp2
              go_roundw
              case rel => exact ⟨k + 1, by omega, by go_num, by rw [joinS_append, HN0.out], by rw [joinS_append, HN1.out], by rw [joinS_append, HN2.out], ⟨hbr8.os, hbr8.tape, hbr8.output, hbr8.size, hbr8.block⟩⟩
              case measure => simp [intOf]; omega
            · have hk1 : (0 : Int) < (k : Int) := by omega
              go_wp2
              go_quiet ((go_at_call 14; first | (with_reducible exact Calls.quiet_of (HE0.out _)) | (with_reducible exact Calls.quiet_of (HE1.out _)) | (with_reducible exact Calls.quiet_of (HE2.out _))))
              go_wp2
              go_roundw
              case rel => exact ⟨k + 1, by omega, by go_num, by rw [joinS_append, HN0.out], by rw [joinS_append, HN1.out], by rw [joinS_append, HN2.out], ⟨hbr8.os, hbr8.tape, hbr8.output, hbr8.size, hbr8.block⟩⟩
              case measure => simp [intOf]; omega
          · simp only at g1 g2 g3
            have D0 : decide (x0 = x1) = false := decide_eq_false (fun e => g3 e.symm)
            have D1 : decide (x0 = x2) = true := decide_eq_true g2.symm
            have D2 : decide (x1 = x2) = false := decide_eq_false (fun e => g3 (e.trans g2))
            subst g1
            clear g2 g3
            have HE0 := Lib.hid (fun m : Nat => refEqual_any X0 X1 d0 d1 _ _ x0 x1 (S0.drewN m) (S1.drewN m) rfl rfl (by omega) (by omega) false D0)
            have HE1 := Lib.hid (fun m : Nat => refEqual_any X0 X2 d0 d2 _ _ x0 x2 (S0.drewN m) (S2.drewN m) rfl rfl (by omega) (by omega) true D1)
            have HE2 := Lib.hid (fun m : Nat => refEqual_any X1 X2 d1 d2 _ _ x1 x2 (S1.drewN m) (S2.drewN m) rfl rfl (by omega) (by omega) false D2)
            clear D0 D1 D2 S0 S1 S2 l0 l1 l2
            rcases Nat.eq_zero_or_pos k with hk0 | hk0
            · have hk1 : ¬ (0 : Int) < (k : Int) := by omega
              go_wp2
              go_quiet ((go_at_call 14; first | (with_reducible exact Calls.quiet_of (HE0.out _)) | (with_reducible exact Calls.quiet_of (HE1.out _)) | (with_reducible exact Calls.quiet_of (HE2.out _))))
              go_wp2
              go_roundw
              case rel => exact ⟨k + 1, by omega, by go_num, by rw [joinS_append, HN0.out], by rw [joinS_append, HN1.out], by rw [joinS_append, HN2.out], ⟨hbr8.os, hbr8.tape, hbr8.output, hbr8.size, hbr8.block⟩⟩
              case measure => simp [intOf]; omega
            · have hk1 : (0 : Int) < (k : Int) := by omega
              have hpv := HPV.out (by decide) hk0
              go_wp2
              go_quiet ((go_at_call 14; first | (with_reducible exact Calls.quiet_of (HE0.out _)) | (with_reducible exact Calls.quiet_of (HE1.out _)) | (with_reducible exact Calls.quiet_of (HE2.out _))))
              go_wp2
              go_roundw
              case rel => exact ⟨k + 1, by omega, by go_num, by rw [joinS_append, HN0.out], by rw [joinS_append, HN1.out], by rw [joinS_append, HN2.out], ⟨hbr8.os, hbr8.tape, hbr8.output, hbr8.size, hbr8.block⟩⟩
              case measure => simp [intOf]; omega
          · simp only at g1 g2 g3
            have D0 : decide (x0 = x1) = true := decide_eq_true g2.symm
            have D1 : decide (x0 = x2) = false := decide_eq_false (fun e => g3 e.symm)
            have D2 : decide (x1 = x2) = false := decide_eq_false (fun e => g3 (e.symm.trans g2))
            subst g1
            clear g2 g3
            have HE0 := Lib.hid (fun m : Nat => refEqual_any X0 X1 d0 d1 _ _ x0 x1 (S0.drewN m) (S1.drewN m) rfl rfl (by omega) (by omega) true D0)
            have HE1 := Lib.hid (fun m : Nat => refEqual_any X0 X2 d0 d2 _ _ x0 x2 (S0.drewN m) (S2.drewN m) rfl rfl (by omega) (by omega) false D1)
            have HE2 := Lib.hid (fun m : Nat => refEqual_any X1 X2 d1 d2 _ _ x1 x2 (S1.drewN m) (S2.drewN m) rfl rfl (by omega) (by omega) false D2)
            clear D0 D1 D2 S0 S1 S2 l0 l1 l2
            rcases Nat.eq_zero_or_pos k with hk0 | hk0
            · have hk1 : ¬ (0 : Int) < (k : Int) := by omega
              go_wp2
              go_quiet ((go_at_call 14; first | (with_reducible exact Calls.quiet_of (HE0.out _)) | (with_reducible exact Calls.quiet_of (HE1.out _)) | (with_reducible exact Calls.quiet_of (HE2.out _))))
              go_wp2
              go_roundw
              case rel => exact ⟨k + 1, by omega, by go_num, by rw [joinS_append, HN0.out], by rw [joinS_append, HN1.out], by rw [joinS_append, HN2.out], ⟨hbr8.os, hbr8.tape, hbr8.output, hbr8.size, hbr8.block⟩⟩
              case measure => simp [intOf]; omega
            · have hk1 : (0 : Int) < (k : Int) := by omega
              have hpv := HPV.out (by decide) hk0
              go_wp2
              go_quiet ((go_at_call 14; first | (with_reducible exact Calls.quiet_of (HE0.out _)) | (with_reducible exact Calls.quiet_of (HE1.out _)) | (with_reducible exact Calls.quiet_of (HE2.out _))))
              go_wp2
              go_roundw
              case rel => exact ⟨k + 1, by omega, by go_num, by rw [joinS_append, HN0.out], by rw [joinS_append, HN1.out], by rw [joinS_append, HN2.out], ⟨hbr8.os, hbr8.tape, hbr8.output, hbr8.size, hbr8.block⟩⟩
              case measure => simp [intOf]; omega
          · simp only at g1 g2 g3
            have D0 : decide (x0 = x1) = false := decide_eq_false (fun e => g3 e.symm)
            have D1 : decide (x0 = x2) = false := decide_eq_false (fun e => g3 (g2.trans e.symm))
            have D2 : decide (x1 = x2) = true := decide_eq_true g2
            subst g1
            clear g2 g3
            have HE0 := Lib.hid (fun m : Nat => refEqual_any X0 X1 d0 d1 _ _ x0 x1 (S0.drewN m) (S1.drewN m) rfl rfl (by omega) (by omega) false D0)
            have HE1 := Lib.hid (fun m : Nat => refEqual_any X0 X2 d0 d2 _ _ x0 x2 (S0.drewN m) (S2.drewN m) rfl rfl (by omega) (by omega) false D1)
            have HE2 := Lib.hid (fun m : Nat => refEqual_any X1 X2 d1 d2 _ _ x1 x2 (S1.drewN m) (S2.drewN m) rfl rfl (by omega) (by omega) true D2)
            clear D0 D1 D2 S0 S1 S2 l0 l1 l2
            rcases Nat.eq_zero_or_pos k with hk0 | hk0
            · have hk1 : ¬ (0 : Int) < (k : Int) := by omega
              go_wp2
              go_quiet ((go_at_call 14; first | (with_reducible exact Calls.quiet_of (HE0.out _)) | (with_reducible exact Calls.quiet_of (HE1.out _)) | (with_reducible exact Calls.quiet_of (HE2.out _))))
              go_wp2
              go_roundw
              case rel => exact ⟨k + 1, by omega, by go_num, by rw [joinS_append, HN0.out], by rw [joinS_append, HN1.out], by rw [joinS_append, HN2.out], ⟨hbr8.os, hbr8.tape, hbr8.output, hbr8.size, hbr8.block⟩⟩
              case measure => simp [intOf]; omega
            · have hk1 : (0 : Int) < (k : Int) := by omega
              have hpv := HPV.out (by decide) hk0
              go_wp2
              go_quiet ((go_at_call 14; first | (with_reducible exact Calls.quiet_of (HE0.out _)) | (with_reducible exact Calls.quiet_of (HE1.out _)) | (with_reducible exact Calls.quiet_of (HE2.out _))))
              go_wp2
              go_roundw
              case rel => exact ⟨k + 1, by omega, by go_num, by rw [joinS_append, HN0.out], by rw [joinS_append, HN1.out], by rw [joinS_append, HN2.out], ⟨hbr8.os, hbr8.tape, hbr8.output, hbr8.size, hbr8.block⟩⟩
              case measure => simp [intOf]; omega
          · simp only at g1 g2 g3 g4
            have D0 : decide (x0 = x1) = false := decide_eq_false (fun e => g2 e.symm)
            have D1 : decide (x0 = x2) = false := decide_eq_false (fun e => g3 e.symm)
            have D2 : decide (x1 = x2) = false := decide_eq_false g4
            subst g1
            clear g2 g3 g4
            have HE0 := Lib.hid (fun m : Nat => refEqual_any X0 X1 d0 d1 _ _ x0 x1 (S0.drewN m) (S1.drewN m) rfl rfl (by omega) (by omega) false D0)
            have HE1 := Lib.hid (fun m : Nat => refEqual_any X0 X2 d0 d2 _ _ x0 x2 (S0.drewN m) (S2.drewN m) rfl rfl (by omega) (by omega) false D1)
            have HE2 := Lib.hid (fun m : Nat => refEqual_any X1 X2 d1 d2 _ _ x1 x2 (S1.drewN m) (S2.drewN m) rfl rfl (by omega) (by omega) false D2)
            clear D0 D1 D2 S0 S1 S2 l0 l1 l2
            rcases Nat.eq_zero_or_pos k with hk0 | hk0
            · have hk1 : ¬ (0 : Int) < (k : Int) := by omega
              go_wp2
              go_quiet ((go_at_call 14; first | (with_reducible exact Calls.quiet_of (HE0.out _)) | (with_reducible exact Calls.quiet_of (HE1.out _)) | (with_reducible exact Calls.quiet_of (HE2.out _))))
              go_wp2
              go_roundw
              case rel => exact ⟨k + 1, by omega, by go_num, by rw [joinS_append, HN0.out], by rw [joinS_append, HN1.out], by rw [joinS_append, HN2.out], ⟨hbr8.os, hbr8.tape, hbr8.output, hbr8.size, hbr8.block⟩⟩
              case measure => simp [intOf]; omega
            · have hk1 : (0 : Int) < (k : Int) := by omega
              have hpv := HPV.out (by decide) hk0
              go_wp2
              go_quiet ((go_at_call 14; first | (with_reducible exact Calls.quiet_of (HE0.out _)) | (with_reducible exact Calls.quiet_of (HE1.out _)) | (with_reducible exact Calls.quiet_of (HE2.out _))))
              go_wp2
              go_roundw
              case rel => exact ⟨k + 1, by omega, by go_num, by rw [joinS_append, HN0.out], by rw [joinS_append, HN1.out], by rw [joinS_append, HN2.out], ⟨hbr8.os, hbr8.tape, hbr8.output, hbr8.size, hbr8.block⟩⟩
              case measure => simp [intOf]; omega
        · have hkn : k = n := by omega
          subst hkn
          have e0 : joinS (side (·.2.1) (ps.take k)) = o := by rw [List.take_of_length_le (by rw [← HN.out]; exact Nat.le_refl _), HS0.out, joinS_lines]
          have e1 : joinS (side (·.2.2.1) (ps.take k)) = a := by rw [List.take_of_length_le (by rw [← HN.out]; exact Nat.le_refl _), HS1.out, joinS_lines]
          have e2 : joinS (side (·.2.2.2) (ps.take k)) = b := by rw [List.take_of_length_le (by rw [← HN.out]; exact Nat.le_refl _), HS2.out, joinS_lines]
          rw [e0, e1, e2]
          clear e0 e1 e2
          have h0 : (o.toList == o.toList) = true := by simp
          have h1 : (a.toList == a.toList) = true := by simp
          have h2 : (b.toList == b.toList) = true := by simp
          go_wp2_with (go_at_call 11; refine (awake_any _).mono ?_; rintro e w3 ⟨rfl, hb3⟩)
          go_ret
          have z3 := hbr.size
          exact ⟨rfl, (hbw2.trans (hbr.mono z1')).trans (hb3.mono (by omega))⟩
end Go.Proofs.Ytafhefhhndmdkaa
