/- stockyardref16.Apply: what hunks make of a text, or ErrMergeScript; for a text of at most a thousand bytes, and at most a thousand hunks of at most a thousand lines of at most a thousand bytes. -/
import Derived.Test.YtafhefhhndmdkaaDoorMgSplit
import Derived.Test.YtafhefhhndmdkaaDoorMgRefApMath
import Derived.Deep.DeepCutAuto
namespace Go.Proofs.YtafhefhhndmdkaaDoor
open Go.RowKit Mg
attribute [local go_sem ↓] Go.wp_at_zero Go.wp_at_succ

set_option maxHeartbeats 16000000 in
set_option maxRecDepth 100000 in
theorem refApply_any (a : ByteArray) (A : Option Addr) (ch : Nat) (hs : List Hunk) (w : World) (ha : a.size ≤ 1000) (hh : Hunks w w.heap.size A hs) (hn : hs.length ≤ 1000)
    (hl : ∀ h ∈ hs, h.2.2.length ≤ 1000 ∧ ∀ s ∈ h.2.2, s.size ≤ 1000) :
    Calls Tryd.prog 17 #[.string a, .slice A hs.length ch] w fun e w' => e = .returned (applyRes (refP a hs)) ∧ Below w.heap.size w w' := by
  obtain ⟨j0, hj0, hy0, hy1, hy2⟩ := info_parts str_info
  have HL := Lib.hid hl
  have hla0 : (linesOf a).length ≤ 1000 := Nat.le_trans (linesOf_len a) ha
  have HLS : Hid (∀ s ∈ linesOf a, s.size ≤ 1000) := Lib.hid (fun s hs' => Nat.le_trans (linesOf_size a s hs') ha)
  clear hl
  go_enter Tryd.func17, Tryd.ntmps17
  go_wp2_with (go_at_call 14; refine (refLines_any a _ (by omega)).mono ?_; rintro e w1 ⟨A1, c1, rfl, hsl, _, hb1⟩)
  have hh1 := (hh.below hb1).more hb1.size
  have hsz1 := hb1.size
  clear hh
  go_loopg [7, 8, 18] hs.length (fun gk u v z wr => ∃ (i k : Nat) (out : List ByteArray), z = .int .i64 i ∧ v = .int .i64 k ∧ i ≤ hs.length ∧ k ≤ (linesOf a).length ∧ hs.length - i ≤ gk ∧
      Hid (rfH (linesOf a) true 0 hs = (rfH (linesOf a) (decide (i = 0)) k (hs.drop i)).map (fun r => out ++ r)) ∧ out.length ≤ i * 2000 ∧ Hid (∀ s ∈ out, s.size ≤ 1000) ∧
      wr.ownsRow w1.heap.size 9 1 u out.length (out.map Value.string) ∧ Below w1.heap.size w1 wr ∧ Hid (i = 0 → k = 0) ∧ Hid (∀ h : Hunk, 0 < i → hs[i - 1]? = some h → h.2.1 = (k : Int)))
  case atStart => exact ⟨0, 0, [], rfl, rfl, Nat.zero_le _, Nat.zero_le _, by omega, Lib.hid (by simp), by simp, Lib.hid (by simp), ⟨rfl, .inl ⟨rfl, rfl⟩⟩, Below.refl _ _, Lib.hid (fun _ => rfl), Lib.hid (fun _ h => absurd h (by omega))⟩
  case round =>
    obtain ⟨i, k, out, rfl, rfl, hi, hk, hg, HAP, hol, HOS, hown, hbl, HI0, HPV⟩ := hrel
    have hblw : w1.heap.size ≤ wr.heap.size := hbl.size
    by_cases hlt : i < hs.length
    · obtain ⟨⟨f, t, ls⟩, hx⟩ : ∃ x, hs[i] = x := ⟨_, rfl⟩
      have hdr : hs.drop i = (f, t, ls) :: hs.drop (i + 1) := by rw [List.drop_eq_getElem_cons hlt, hx]
      have hmem : (f, t, ls) ∈ hs := by rw [← hx]; exact List.getElem_mem hlt
      obtain ⟨hll, hls⟩ := HL.out _ hmem
      obtain ⟨b, o, Aj, cj, rfl, hbB, cf, ct, cl, hsj⟩ := (hh1.below hbl) i (f, t, ls) (by rw [List.getElem?_eq_getElem hlt, hx])
      simp only at hll hls cf ct cl hsj
      have HLJ := Lib.hid hls
      have HDR := Lib.hid hdr
      have HX := Lib.hid (show hs[i]? = some (f, t, ls) by rw [List.getElem?_eq_getElem hlt, hx])
      have hbw : Below w.heap.size w wr := hb1.trans (hbl.mono hsz1)
      clear hmem hx hls hdr
      go_upto_region 7 with (fail)
      have hha := Blk.new wr 36 #[.int .i64 f, .int .i64 t, .slice Aj ls.length cj]
      have hba : Below wr.heap.size wr (wr.alloc (.cells #[.int .i64 f, .int .i64 t, .slice Aj ls.length cj] 36)) := (Below.refl _ _).alloc (Nat.le_refl _) _
      have hsla := (hsl.below hbl).below (hba.mono hblw)
      have hsja := hsj.below (hba.mono hblw)
      have howna := own_below hown hba
      have hbla := hbl.trans (hba.mono hblw)
      have hbaz := hba.size
      have hbwa := hbw.trans (hba.mono hbw.size)
      generalize wr.alloc (.cells #[.int .i64 f, .int .i64 t, .slice Aj ls.length cj] 36) = wa at *
      clear hsj hown hbl cf ct cl hba
      have cf : wa.cell? ⟨wr.heap.size, 0, none⟩ = some (.int .i64 f) := by rw [hha.cell]; rfl
      have ct : wa.cell? ⟨wr.heap.size, 1, none⟩ = some (.int .i64 t) := by rw [hha.cell]; rfl
      have cl : wa.cell? ⟨wr.heap.size, 2, none⟩ = some (.slice Aj ls.length cj) := by rw [hha.cell]; rfl
      have HPC : Hid (0 < i → wa.cell? ⟨b, o + (i - 1) * 3 + 1, none⟩ = some (.int .i64 k)) := Lib.hid (fun hi0 => by
        obtain ⟨q, hq⟩ : ∃ q, hs[i - 1]? = some q := ⟨_, List.getElem?_eq_getElem (by omega)⟩
        obtain ⟨b', o', _, _, hA, _, _, hc, _⟩ := (hh1.below hbla) (i - 1) q hq
        simp only [Option.some.injEq, Addr.mk.injEq] at hA
        obtain ⟨rfl, rfl, _⟩ := hA
        rw [hc, HPV.out q hi0 hq])
      by_cases hi0 : i = 0
      · have hk0 : k ≤ 0 := by have := HI0.out hi0; omega
        have HZ := Lib.hid hi0
        clear HPC
        have bi : decide ((0 : Int) < (i : Int)) = false := decide_eq_false (by omega)
        have bi2 : decide (0 < i) = false := decide_eq_false (by omega)
        clear hi0
        by_cases e1 : f < 0
        · have b1 : decide (f < 0) = true := decide_eq_true e1
          have HR : Hid (rfH (linesOf a) true 0 hs = none) := Lib.hid (by rw [HAP.out, HDR.out, rfH_bad (by unfold badR; simp; omega), Option.map_none])
          go_quiet (fail)
          go_wp2
          go_ret2
          exact ⟨by unfold refP; rw [HR.out]; rfl, ⟨hbwa.os, hbwa.tape, hbwa.output, hbwa.size, hbwa.block⟩⟩
        have e1' : 0 ≤ f := by omega
        clear e1
        obtain ⟨fn, rfl⟩ := Int.eq_ofNat_of_zero_le e1'
        have b1 : decide ((fn : Int) < 0) = false := decide_eq_false (by omega)
        by_cases e2 : ((linesOf a).length : Int) < t
        · have b2 : decide (((linesOf a).length : Int) < t) = true := decide_eq_true e2
          have HR : Hid (rfH (linesOf a) true 0 hs = none) := Lib.hid (by rw [HAP.out, HDR.out, rfH_bad (by unfold badR; simp; omega), Option.map_none])
          go_quiet (fail)
          go_wp2
          go_ret2
          exact ⟨by unfold refP; rw [HR.out]; rfl, ⟨hbwa.os, hbwa.tape, hbwa.output, hbwa.size, hbwa.block⟩⟩
        have e2' : t ≤ ((linesOf a).length : Int) := by omega
        clear e2
        by_cases e3 : t < (fn : Int)
        · have b2 : decide (((linesOf a).length : Int) < t) = false := decide_eq_false (by omega)
          have b3 : decide (t < (fn : Int)) = true := decide_eq_true e3
          have HR : Hid (rfH (linesOf a) true 0 hs = none) := Lib.hid (by rw [HAP.out, HDR.out, rfH_bad (by unfold badR; simp; omega), Option.map_none])
          go_quiet (fail)
          go_wp2
          go_ret2
          exact ⟨by unfold refP; rw [HR.out]; rfl, ⟨hbwa.os, hbwa.tape, hbwa.output, hbwa.size, hbwa.block⟩⟩
        have e3' : (fn : Int) ≤ t := by omega
        clear e3
        obtain ⟨tn, rfl⟩ := Int.eq_ofNat_of_zero_le (show 0 ≤ t by omega)
        have htl : tn ≤ (linesOf a).length := by omega
        have b2 : decide (((linesOf a).length : Int) < (tn : Int)) = false := decide_eq_false (by omega)
        have b22 : decide ((linesOf a).length < tn) = false := decide_eq_false (by omega)
        have b3 : decide ((tn : Int) < (fn : Int)) = false := decide_eq_false (by omega)
        have b32 : decide (tn < fn) = false := decide_eq_false (by omega)
        by_cases e5 : tn = fn ∧ ls.length = 0
        · obtain ⟨rfl, e5b⟩ := e5
          have HR : Hid (rfH (linesOf a) true 0 hs = none) := Lib.hid (by rw [HAP.out, HDR.out, rfH_bad (by unfold badR; simp [List.eq_nil_of_length_eq_zero e5b]), Option.map_none])
          have e5c : ((ls.length : Int) == 0) = true := by rw [beq_iff_eq]; omega
          have e5d : ((tn : Int) == (tn : Int)) = true := by simp
          clear e5b
          go_quiet (fail)
          go_wp2
          go_ret2
          exact ⟨by unfold refP; rw [HR.out]; rfl, ⟨hbwa.os, hbwa.tape, hbwa.output, hbwa.size, hbwa.block⟩⟩
        have hap2 := rfH_next (hs := hs.drop (i + 1)) (out := out) (o := rfH (linesOf a) true 0 hs) (badR_no (first := decide (i = 0)) (k := k) (fn := fn) (tn := tn) (n := (linesOf a).length) (ls := ls) (by omega) (by left; simp [HZ.out]) (by omega) htl e5) (by rw [← HDR.out]; exact HAP.out)
        have HAP2 : Hid (rfH (linesOf a) true 0 hs = (rfH (linesOf a) (decide (i + 1 = 0)) tn (hs.drop (i + 1))).map fun r => (out ++ ((linesOf a).drop k).take (fn - k) ++ ls) ++ r) := Lib.hid (by rw [decide_eq_false (by omega)]; exact hap2)
        clear hap2
        have e5' : ((fn : Int) == (tn : Int)) = false ∨ ((fn : Int) == (tn : Int)) = true ∧ ((ls.length : Int) == 0) = false := by
          by_cases h : tn = fn
          · right; exact ⟨by rw [beq_iff_eq]; omega, by rw [beq_eq_false_iff_ne]; omega⟩
          · left; rw [beq_eq_false_iff_ne]; omega
        have H5 := Lib.hid e5
        clear e5
        have HPV2 : Hid (∀ h : Hunk, 0 < i + 1 → hs[i + 1 - 1]? = some h → h.2.1 = (tn : Int)) := Lib.hid (fun h _ hq => by rw [Nat.add_sub_cancel, HX.out] at hq; injection hq with hq; rw [← hq])
        have hkfn : k ≤ fn := by omega
        rcases e5' with e5' | ⟨e5', e5''⟩
        all_goals
          go_quiet (fail)
          clear bi bi2 b1 b2 b22 b3 b32
          go_wp2
          have hha := hha.drewN nq
          have hsla := hsla.drewN nq
          have hsja := hsja.drewN nq
          have howna := own_drewN howna nq
          have hbla : Below w1.heap.size w1 (wa.drewN nq) := ⟨hbla.os, hbla.tape, hbla.output, hbla.size, hbla.block⟩
          have hbaz : wr.heap.size ≤ (wa.drewN nq).heap.size := hbaz
          clear cf ct cl
          generalize wa.drewN nq = wa at *
          have hcut := (hsla.cutIf k).take (fn - k)
          have HLEN : Hid (fn - k = (((linesOf a).drop k).take (fn - k)).length) := Lib.hid (by simp; omega)
          have hkf : (k : Int) ≤ (fn : Int) := by omega
          have hfc : (fn : Int) ≤ (c1 : Int) := by have := hsla.1; omega
          have cf : wa.cell? ⟨wr.heap.size, 0, none⟩ = some (.int .i64 fn) := by rw [hha.cell]; rfl
          have cl : wa.cell? ⟨wr.heap.size, 2, none⟩ = some (.slice Aj ls.length cj) := by rw [hha.cell]; rfl
          go_region_held3 (fun w' => w'.cell? ⟨wr.heap.size, 0, none⟩ = some (.int .i64 fn) ∧ w'.cell? ⟨wr.heap.size, 2, none⟩ = some (.slice Aj ls.length cj))
            (first | go_keep)
            (first
              | (refine step_append_any _ ?q1 (.tmp 68) (.tmp 73) _ ?q2 w1.heap.size 9 j0 _ 1 16 Tryd.underlying30 hj0 hy0 hy1 hy2 rfl (by decide) u7 _ _ ?q3 howna.drew w1.heap.size (if c1 = k then A1 else Option.map (fun x => x.add k) A1) (fn - k) (c1 - k) ((((linesOf a).drop k).take (fn - k)).map Value.string) ?q4 ?q5 ?q6 ?q7 ?q8 ?q9 ?_; (case q1 => rfl); (case q2 => rfl); (case q3 => rfl); (case q4 => rfl); (case q5 => have h := hcut.reads; rw [← HLEN.out] at h; exact h.drew); (case q6 => intro u hu; rw [List.mem_map] at hu; obtain ⟨s, _, rfl⟩ := hu; rfl); (case q7 => unfold maxLen; omega); (case q8 => omega); (case q9 => exact hbla.size); intro v8 w8 hown8 hg8 hat8; have hha8 := hha.drew.grown hg8 (fun e => own_blk_ne howna hha (by decide) e.symm); have hbe8 : Below w1.heap.size wa w8 := (Below.refl _ _).drew.grown hg8 hbla.size (fun g hg => (howna.lt g hg).1); have k0 := hha8.cell 0; have k2 := hha8.cell 2; simp only [List.getElem?_toArray, List.getElem?_cons_zero, List.getElem?_cons_succ] at k0 k2; have hsj8 := hsja.below hbe8; have hbz8 := hbe8.size; generalize (if c1 = k then A1 else Option.map (fun x => x.add k) A1) = Ax)
              | (refine step_append_any _ ?q1 (.tmp 74) (.tmp 76) _ ?q2 w1.heap.size 9 j0 _ 1 16 Tryd.underlying30 hj0 hy0 hy1 hy2 rfl (by decide) v8 _ _ ?q3 hown8 w1.heap.size Aj ls.length cj (ls.map Value.string) ?q4 ?q5 ?q6 ?q7 ?q8 ?q9 ?_; (case q1 => rfl); (case q2 => rfl); (case q3 => rfl); (case q4 => rfl); (case q5 => exact hsj8.reads); (case q6 => intro u hu; rw [List.mem_map] at hu; obtain ⟨s, _, rfl⟩ := hu; rfl); (case q7 => unfold maxLen; omega); (case q8 => omega); (case q9 => exact Nat.le_trans hbla.size hbz8); intro v9 w9 hown9 hg9 hat9; have hha9 := hha8.grown hg9 (fun e => own_blk_ne hown8 hha8 (by decide) e.symm); have hbe9 : Below w1.heap.size wa w9 := hbe8.grown hg9 (Nat.le_trans hbla.size hbz8) (fun g hg => (hown8.lt g hg).1); have k0' := hha9.cell 0; have k2' := hha9.cell 2; have k1' := hha9.cell 1; simp only [List.getElem?_toArray, List.getElem?_cons_zero, List.getElem?_cons_succ] at k0' k1' k2'))
          have hbl9 := hbla.trans hbe9
          have hlc : (((linesOf a).drop k).take (fn - k)).length ≤ 1000 := by simp; omega
          have HO9 : Hid (w9.ownsRow w1.heap.size 9 1 v9 (out ++ ((linesOf a).drop k).take (fn - k) ++ ls).length ((out ++ ((linesOf a).drop k).take (fn - k) ++ ls).map Value.string)) := Lib.hid (by
            rw [List.length_append, List.length_append, List.map_append, List.map_append, ← HLEN.out]
            exact hown9)
          have HOS2 : Hid (∀ s ∈ out ++ ((linesOf a).drop k).take (fn - k) ++ ls, s.size ≤ 1000) := Lib.hid (by
            intro s hs'
            rcases List.mem_append.1 hs' with h | h
            · rcases List.mem_append.1 h with h | h
              · exact HOS.out s h
              · exact HLS.out s (List.mem_of_mem_drop (List.mem_of_mem_take h))
            · exact HLJ.out s h)
          clear hg9 hat9 hg8 hat8 hown9 hown8 hha8 hha9 hbe8 hbe9 hsj8 k0 k2 k0' k2' cf cl hcut hsla hsja howna hbla hha
          go_wp2
          go_roundg (gk - 1)
          case measure => omega
          case rel => exact ⟨i + 1, tn, out ++ ((linesOf a).drop k).take (fn - k) ++ ls, by go_num, rfl, by omega, htl, by omega, HAP2, by simp only [List.length_append]; omega, HOS2, HO9.out, hbl9, Lib.hid (fun h => absurd h (by omega)), HPV2⟩
      · skip
        have cp := HPC.out (by omega)
        have j1 : (0 : Int) ≤ (i : Int) - 1 := by omega
        clear HPC
        have bi : decide ((0 : Int) < (i : Int)) = true := decide_eq_true (by omega)
        have bi2 : decide (0 < i) = true := decide_eq_true (by omega)
        clear hi0
        by_cases e1 : f < 0
        · have b1 : decide (f < 0) = true := decide_eq_true e1
          have HR : Hid (rfH (linesOf a) true 0 hs = none) := Lib.hid (by rw [HAP.out, HDR.out, rfH_bad (by unfold badR; simp; omega), Option.map_none])
          go_quiet (fail)
          go_wp2
          go_ret2
          exact ⟨by unfold refP; rw [HR.out]; rfl, ⟨hbwa.os, hbwa.tape, hbwa.output, hbwa.size, hbwa.block⟩⟩
        have e1' : 0 ≤ f := by omega
        clear e1
        obtain ⟨fn, rfl⟩ := Int.eq_ofNat_of_zero_le e1'
        have b1 : decide ((fn : Int) < 0) = false := decide_eq_false (by omega)
        by_cases e2 : ((linesOf a).length : Int) < t
        · have b2 : decide (((linesOf a).length : Int) < t) = true := decide_eq_true e2
          have HR : Hid (rfH (linesOf a) true 0 hs = none) := Lib.hid (by rw [HAP.out, HDR.out, rfH_bad (by unfold badR; simp; omega), Option.map_none])
          go_quiet (fail)
          go_wp2
          go_ret2
          exact ⟨by unfold refP; rw [HR.out]; rfl, ⟨hbwa.os, hbwa.tape, hbwa.output, hbwa.size, hbwa.block⟩⟩
        have e2' : t ≤ ((linesOf a).length : Int) := by omega
        clear e2
        by_cases e3 : t < (fn : Int)
        · have b2 : decide (((linesOf a).length : Int) < t) = false := decide_eq_false (by omega)
          have b3 : decide (t < (fn : Int)) = true := decide_eq_true e3
          have HR : Hid (rfH (linesOf a) true 0 hs = none) := Lib.hid (by rw [HAP.out, HDR.out, rfH_bad (by unfold badR; simp; omega), Option.map_none])
          go_quiet (fail)
          go_wp2
          go_ret2
          exact ⟨by unfold refP; rw [HR.out]; rfl, ⟨hbwa.os, hbwa.tape, hbwa.output, hbwa.size, hbwa.block⟩⟩
        have e3' : (fn : Int) ≤ t := by omega
        clear e3
        obtain ⟨tn, rfl⟩ := Int.eq_ofNat_of_zero_le (show 0 ≤ t by omega)
        have htl : tn ≤ (linesOf a).length := by omega
        have b2 : decide (((linesOf a).length : Int) < (tn : Int)) = false := decide_eq_false (by omega)
        have b22 : decide ((linesOf a).length < tn) = false := decide_eq_false (by omega)
        have b3 : decide ((tn : Int) < (fn : Int)) = false := decide_eq_false (by omega)
        have b32 : decide (tn < fn) = false := decide_eq_false (by omega)
        by_cases e4 : (fn : Int) ≤ (k : Int)
        · have b4 : decide ((fn : Int) ≤ (k : Int)) = true := decide_eq_true e4
          have b42 : decide (fn ≤ k) = true := decide_eq_true (by omega)
          have HR : Hid (rfH (linesOf a) true 0 hs = none) := Lib.hid (by rw [HAP.out, HDR.out, rfH_bad (by unfold badR; simp; omega), Option.map_none])
          go_quiet (fail)
          go_wp2
          go_ret2
          exact ⟨by unfold refP; rw [HR.out]; rfl, ⟨hbwa.os, hbwa.tape, hbwa.output, hbwa.size, hbwa.block⟩⟩
        have e4' : (k : Int) < (fn : Int) := by omega
        clear e4
        have b4 : decide ((fn : Int) ≤ (k : Int)) = false := decide_eq_false (by omega)
        have b42 : decide (fn ≤ k) = false := decide_eq_false (by omega)
        by_cases e5 : tn = fn ∧ ls.length = 0
        · obtain ⟨rfl, e5b⟩ := e5
          have HR : Hid (rfH (linesOf a) true 0 hs = none) := Lib.hid (by rw [HAP.out, HDR.out, rfH_bad (by unfold badR; simp [List.eq_nil_of_length_eq_zero e5b]), Option.map_none])
          have e5c : ((ls.length : Int) == 0) = true := by rw [beq_iff_eq]; omega
          have e5d : ((tn : Int) == (tn : Int)) = true := by simp
          clear e5b
          go_quiet (fail)
          go_wp2
          go_ret2
          exact ⟨by unfold refP; rw [HR.out]; rfl, ⟨hbwa.os, hbwa.tape, hbwa.output, hbwa.size, hbwa.block⟩⟩
        have hap2 := rfH_next (hs := hs.drop (i + 1)) (out := out) (o := rfH (linesOf a) true 0 hs) (badR_no (first := decide (i = 0)) (k := k) (fn := fn) (tn := tn) (n := (linesOf a).length) (ls := ls) (by omega) (by right; omega) (by omega) htl e5) (by rw [← HDR.out]; exact HAP.out)
        have HAP2 : Hid (rfH (linesOf a) true 0 hs = (rfH (linesOf a) (decide (i + 1 = 0)) tn (hs.drop (i + 1))).map fun r => (out ++ ((linesOf a).drop k).take (fn - k) ++ ls) ++ r) := Lib.hid (by rw [decide_eq_false (by omega)]; exact hap2)
        clear hap2
        have e5' : ((fn : Int) == (tn : Int)) = false ∨ ((fn : Int) == (tn : Int)) = true ∧ ((ls.length : Int) == 0) = false := by
          by_cases h : tn = fn
          · right; exact ⟨by rw [beq_iff_eq]; omega, by rw [beq_eq_false_iff_ne]; omega⟩
          · left; rw [beq_eq_false_iff_ne]; omega
        have H5 := Lib.hid e5
        clear e5
        have HPV2 : Hid (∀ h : Hunk, 0 < i + 1 → hs[i + 1 - 1]? = some h → h.2.1 = (tn : Int)) := Lib.hid (fun h _ hq => by rw [Nat.add_sub_cancel, HX.out] at hq; injection hq with hq; rw [← hq])
        have hkfn : k ≤ fn := by omega
        rcases e5' with e5' | ⟨e5', e5''⟩
        all_goals
          go_quiet (fail)
          clear bi bi2 b1 b2 b22 b3 b32 b4 b42
          go_wp2
          have hha := hha.drewN nq
          have hsla := hsla.drewN nq
          have hsja := hsja.drewN nq
          have howna := own_drewN howna nq
          have hbla : Below w1.heap.size w1 (wa.drewN nq) := ⟨hbla.os, hbla.tape, hbla.output, hbla.size, hbla.block⟩
          have hbaz : wr.heap.size ≤ (wa.drewN nq).heap.size := hbaz
          clear cf ct cl
          generalize wa.drewN nq = wa at *
          have hcut := (hsla.cutIf k).take (fn - k)
          have HLEN : Hid (fn - k = (((linesOf a).drop k).take (fn - k)).length) := Lib.hid (by simp; omega)
          have hkf : (k : Int) ≤ (fn : Int) := by omega
          have hfc : (fn : Int) ≤ (c1 : Int) := by have := hsla.1; omega
          have cf : wa.cell? ⟨wr.heap.size, 0, none⟩ = some (.int .i64 fn) := by rw [hha.cell]; rfl
          have cl : wa.cell? ⟨wr.heap.size, 2, none⟩ = some (.slice Aj ls.length cj) := by rw [hha.cell]; rfl
          go_region_held3 (fun w' => w'.cell? ⟨wr.heap.size, 0, none⟩ = some (.int .i64 fn) ∧ w'.cell? ⟨wr.heap.size, 2, none⟩ = some (.slice Aj ls.length cj))
            (first | go_keep)
            (first
              | (refine step_append_any _ ?q1 (.tmp 68) (.tmp 73) _ ?q2 w1.heap.size 9 j0 _ 1 16 Tryd.underlying30 hj0 hy0 hy1 hy2 rfl (by decide) u7 _ _ ?q3 howna.drew w1.heap.size (if c1 = k then A1 else Option.map (fun x => x.add k) A1) (fn - k) (c1 - k) ((((linesOf a).drop k).take (fn - k)).map Value.string) ?q4 ?q5 ?q6 ?q7 ?q8 ?q9 ?_; (case q1 => rfl); (case q2 => rfl); (case q3 => rfl); (case q4 => rfl); (case q5 => have h := hcut.reads; rw [← HLEN.out] at h; exact h.drew); (case q6 => intro u hu; rw [List.mem_map] at hu; obtain ⟨s, _, rfl⟩ := hu; rfl); (case q7 => unfold maxLen; omega); (case q8 => omega); (case q9 => exact hbla.size); intro v8 w8 hown8 hg8 hat8; have hha8 := hha.drew.grown hg8 (fun e => own_blk_ne howna hha (by decide) e.symm); have hbe8 : Below w1.heap.size wa w8 := (Below.refl _ _).drew.grown hg8 hbla.size (fun g hg => (howna.lt g hg).1); have k0 := hha8.cell 0; have k2 := hha8.cell 2; simp only [List.getElem?_toArray, List.getElem?_cons_zero, List.getElem?_cons_succ] at k0 k2; have hsj8 := hsja.below hbe8; have hbz8 := hbe8.size; generalize (if c1 = k then A1 else Option.map (fun x => x.add k) A1) = Ax)
              | (refine step_append_any _ ?q1 (.tmp 74) (.tmp 76) _ ?q2 w1.heap.size 9 j0 _ 1 16 Tryd.underlying30 hj0 hy0 hy1 hy2 rfl (by decide) v8 _ _ ?q3 hown8 w1.heap.size Aj ls.length cj (ls.map Value.string) ?q4 ?q5 ?q6 ?q7 ?q8 ?q9 ?_; (case q1 => rfl); (case q2 => rfl); (case q3 => rfl); (case q4 => rfl); (case q5 => exact hsj8.reads); (case q6 => intro u hu; rw [List.mem_map] at hu; obtain ⟨s, _, rfl⟩ := hu; rfl); (case q7 => unfold maxLen; omega); (case q8 => omega); (case q9 => exact Nat.le_trans hbla.size hbz8); intro v9 w9 hown9 hg9 hat9; have hha9 := hha8.grown hg9 (fun e => own_blk_ne hown8 hha8 (by decide) e.symm); have hbe9 : Below w1.heap.size wa w9 := hbe8.grown hg9 (Nat.le_trans hbla.size hbz8) (fun g hg => (hown8.lt g hg).1); have k0' := hha9.cell 0; have k2' := hha9.cell 2; have k1' := hha9.cell 1; simp only [List.getElem?_toArray, List.getElem?_cons_zero, List.getElem?_cons_succ] at k0' k1' k2'))
          have hbl9 := hbla.trans hbe9
          have hlc : (((linesOf a).drop k).take (fn - k)).length ≤ 1000 := by simp; omega
          have HO9 : Hid (w9.ownsRow w1.heap.size 9 1 v9 (out ++ ((linesOf a).drop k).take (fn - k) ++ ls).length ((out ++ ((linesOf a).drop k).take (fn - k) ++ ls).map Value.string)) := Lib.hid (by
            rw [List.length_append, List.length_append, List.map_append, List.map_append, ← HLEN.out]
            exact hown9)
          have HOS2 : Hid (∀ s ∈ out ++ ((linesOf a).drop k).take (fn - k) ++ ls, s.size ≤ 1000) := Lib.hid (by
            intro s hs'
            rcases List.mem_append.1 hs' with h | h
            · rcases List.mem_append.1 h with h | h
              · exact HOS.out s h
              · exact HLS.out s (List.mem_of_mem_drop (List.mem_of_mem_take h))
            · exact HLJ.out s h)
          clear hg9 hat9 hg8 hat8 hown9 hown8 hha8 hha9 hbe8 hbe9 hsj8 k0 k2 k0' k2' cf cl hcut hsla hsja howna hbla hha
          go_wp2
          go_roundg (gk - 1)
          case measure => omega
          case rel => exact ⟨i + 1, tn, out ++ ((linesOf a).drop k).take (fn - k) ++ ls, by go_num, rfl, by omega, htl, by omega, HAP2, by simp only [List.length_append]; omega, HOS2, HO9.out, hbl9, Lib.hid (fun h => absurd h (by omega)), HPV2⟩
    · have hie : i = hs.length := by omega
      have HR : Hid (rfH (linesOf a) true 0 hs = some (out ++ (linesOf a).drop k)) := Lib.hid (by rw [HAP.out, hie, List.drop_length]; rfl)
      have hkc : (k : Int) ≤ (c1 : Int) := by have := hsl.1; omega
      have hcut := (hsl.below hbl).cutIf k
      have HLEN : Hid ((linesOf a).length - k = ((linesOf a).drop k).length) := Lib.hid (by simp)
      have HIE := Lib.hid hie
      clear hie
      go_wp2_with (at_builtin; refine wpList_append_any _ rfl (.tmp 81) (.tmp 84) _ rfl w1.heap.size 9 j0 _ 1 16 Tryd.underlying30 hj0 hy0 hy1 hy2 rfl (by decide) u7 _ _ rfl hown w1.heap.size (if c1 = k then A1 else Option.map (fun x => x.add k) A1) ((linesOf a).length - k) (c1 - k) (((linesOf a).drop k).map Value.string) rfl ?_ ?_ ?_ ?_ ?_ ?_; (have h := hcut.reads; rw [← HLEN.out] at h; exact h); (intro u hu; rw [List.mem_map] at hu; obtain ⟨s, _, rfl⟩ := hu; rfl); (unfold maxLen; omega); omega; exact hblw; intro v9 w9 hown9 hg9 hat9; obtain ⟨A9, c9, rfl, hc9x, _⟩ := own_slice hown9; generalize hnt : out.length + ((linesOf a).length - k) = nt at hown9 hc9x ⊢; have HNT := Lib.hid hnt; clear hnt; generalize (if c1 = k then A1 else Option.map (fun x => x.add k) A1) = Ax)
      have hbe9 : Below w1.heap.size wr w9 := (Below.refl _ _).grown hg9 hblw (fun g hg => (hown.lt g hg).1)
      have hent : nt = (out ++ (linesOf a).drop k).length := by rw [← HNT.out]; simp
      subst hent
      have hown10 : w9.ownsRow w1.heap.size 9 1 (.slice A9 (out ++ (linesOf a).drop k).length c9) (out ++ (linesOf a).drop k).length ((out ++ (linesOf a).drop k).map Value.string) := by
        rw [List.map_append]; exact hown9
      have HOS2 : Hid (∀ s ∈ out ++ (linesOf a).drop k, s.size ≤ 1000) := Lib.hid (by
        intro s hs'
        rcases List.mem_append.1 hs' with h | h
        · exact HOS.out s h
        · exact HLS.out s (List.mem_of_mem_drop h))
      have hn2 : (out ++ (linesOf a).drop k).length ≤ 10000000 := by simp; omega
      have hbl9 := hb1.trans ((hbl.trans hbe9).mono hsz1)
      clear hg9 hat9 hown9 hown hbl hbe9 hcut HOS HAP HIE HLEN HNT
      generalize out ++ (linesOf a).drop k = tot at *
      have hst : Strs w9 w9.heap.size A9 c9 tot := by
        obtain ⟨A', c', hv, hst⟩ := Strs.of_own hown10
        injection hv with e1 _ e3
        subst e1 e3
        exact hst
      clear hown10
      go_wp2
      obtain ⟨wx, rfl⟩ : ∃ wx : World, wx = w9 := ⟨_, rfl⟩
      go_loopg [88] tot.length (fun gk z wz => ∃ m : Nat, z = .int .i64 m ∧ m ≤ tot.length ∧ tot.length - m ≤ gk ∧ Hid (∀ j s, j < m → tot[j]? = some s → wholeB s = true ∧ (j + 1 < tot.length → Lib.hasSuffix s.data.toList [10] = true)) ∧ Below wx.heap.size wx wz)
      case atStart => exact ⟨0, rfl, Nat.zero_le _, by omega, Lib.hid (fun j s h => absurd h (by omega)), Below.refl _ _⟩
      case round =>
        obtain ⟨m, rfl, hm, hg2, HALL, hbz⟩ := hrel
        have hbwz : Below w.heap.size w wr := hbl9.trans (hbz.mono hbl9.size)
        have hzz := hbz.size
        have hzw := hbwz.size
        by_cases hmt : m < tot.length
        · obtain ⟨b9, o9, rfl, hb9, hc9⟩ := (hst.below hbz).at_ hmt
          have hsz9 := HOS2.out _ (List.getElem_mem hmt)
          have HLn := Lib.hid (refLines_any tot[m] wr (by omega))
          by_cases hwh : wholeB tot[m] = true
          · have HONE := Lib.hid ((one_line tot[m]).2 hwh)
            rw [HONE.out] at HLn
            have HWH := Lib.hid hwh
            clear hwh
            by_cases hlast : m + 1 < tot.length
            · have hlast2 : (m : Int) + 1 < (tot.length : Int) := by omega
              have HC := Lib.hid (fun W : World => (Tryd.strings_HasSuffix tot[m] ⟨#[10]⟩ W (by omega)).mono fun _ _ h => And.intro h.1 h.2.symm)
              by_cases hsf : Lib.hasSuffix tot[m].data.toList [10] = true
              · have HC2 : Hid (∀ W : World, Calls Tryd.prog 37 #[.string tot[m], .string ⟨#[10]⟩] W fun e w' => e = .returned (.bool true) ∧ W = w') := Lib.hid (by rw [← hsf]; exact HC.out)
                have HALL2 : Hid (∀ j s, j < m + 1 → tot[j]? = some s → wholeB s = true ∧ (j + 1 < tot.length → Lib.hasSuffix s.data.toList [10] = true)) := Lib.hid (by
                  intro j s h1 h3
                  by_cases hj : j < m
                  · exact HALL.out j s hj h3
                  · obtain rfl : j = m := by omega
                    rw [List.getElem?_eq_getElem hmt] at h3
                    injection h3 with h3; subst h3; exact ⟨HWH.out, fun _ => hsf⟩)
                clear HC hsf
                go_wp2_with (first
                  | (go_at_call 14; refine HLn.out.mono ?_; rintro e w2 ⟨A2, c2, rfl, hs2, _, hb2⟩)
                  | (go_at_call 37; refine (HC2.out _).mono ?_; rintro e w3 ⟨rfl, rfl⟩))
                go_roundg (gk - 1)
                case measure => omega
                case rel => exact ⟨m + 1, by go_num, by omega, by omega, HALL2, hbz.trans (hb2.mono hzz)⟩
              · have hsf2 : Lib.hasSuffix tot[m].data.toList [10] = false := by simpa using hsf
                have HC2 : Hid (∀ W : World, Calls Tryd.prog 37 #[.string tot[m], .string ⟨#[10]⟩] W fun e w' => e = .returned (.bool false) ∧ W = w') := Lib.hid (by rw [← hsf2]; exact HC.out)
                have HE : Hid (endsB tot = false) := Lib.hid (endsB_not tot m tot[m] hlast (List.getElem?_eq_getElem hmt) hsf2)
                clear HC hsf hsf2
                go_wp2_with (first
                  | (go_at_call 14; refine HLn.out.mono ?_; rintro e w2 ⟨A2, c2, rfl, hs2, _, hb2⟩)
                  | (go_at_call 37; refine (HC2.out _).mono ?_; rintro e w3 ⟨rfl, rfl⟩))
                go_ret2
                exact ⟨by unfold refP; rw [HR.out]; simp only [HE.out, Bool.and_false]; rfl, hbwz.trans (hb2.mono hzw)⟩
            · have hlast2 : ¬ (m : Int) + 1 < (tot.length : Int) := by omega
              have HALL2 : Hid (∀ j s, j < m + 1 → tot[j]? = some s → wholeB s = true ∧ (j + 1 < tot.length → Lib.hasSuffix s.data.toList [10] = true)) := Lib.hid (by
                intro j s h1 h3
                by_cases hj : j < m
                · exact HALL.out j s hj h3
                · obtain rfl : j = m := by omega
                  rw [List.getElem?_eq_getElem hmt] at h3
                  injection h3 with h3; subst h3; exact ⟨HWH.out, fun h => absurd h hlast⟩)
              go_wp2_with (go_at_call 14; refine HLn.out.mono ?_; rintro e w2 ⟨A2, c2, rfl, hs2, _, hb2⟩)
              go_roundg (gk - 1)
              case measure => omega
              case rel => exact ⟨m + 1, by go_num, by omega, by omega, HALL2, hbz.trans (hb2.mono hzz)⟩
          · have hne : (linesOf tot[m]).length ≠ 1 := fun h => hwh ((one_line _).1 h)
            have HA : Hid (tot.all wholeB = false) := Lib.hid (by rw [List.all_eq_false]; exact ⟨_, List.getElem_mem hmt, by simpa using hwh⟩)
            obtain ⟨q, hq⟩ : ∃ q, q = (linesOf tot[m]).length := ⟨_, rfl⟩
            rw [← hq] at HLn hne
            have hne2 : ((q : Int) == 1) = false := by rw [beq_eq_false_iff_ne]; omega
            have hne3 : ((q : Int) != 1) = true := by simp; omega
            have hne4 : ¬ (q : Int) = 1 := by omega
            clear hwh hq hne
            go_wp2_with (go_at_call 14; refine HLn.out.mono ?_; rintro e w2 ⟨A2, c2, rfl, hs2, _, hb2⟩)
            go_ret2
            exact ⟨by unfold refP; rw [HR.out]; simp only [HA.out, Bool.false_and]; rfl, hbwz.trans (hb2.mono hzw)⟩
        · have hme : m = tot.length := by omega
          have HE : Hid ((tot.all wholeB && endsB tot) = true) := Lib.hid (by
            have h := HALL.out
            rw [hme] at h
            have h1 : tot.all wholeB = true := by
              rw [List.all_eq_true]
              intro s hs
              obtain ⟨j, hj⟩ := List.mem_iff_getElem?.1 hs
              exact (h j s (List.getElem?_eq_some_iff.1 hj).1 hj).1
            have h2 : endsB tot = true := endsB_all tot fun j s hj hjs => (h j s (by omega) hjs).2 hj
            rw [h1, h2]; rfl)
          have HJ := Lib.hid (join_any ((hst.below hbz).more hzz) (Nat.le_refl _) rfl hn2 (fun s hs => Nat.le_trans (HOS2.out s hs) (by decide)))
          go_wp2_with (go_at_call 15; refine HJ.out.mono ?_; rintro e w2 ⟨rfl, hb2⟩)
          go_ret2
          exact ⟨by unfold refP; rw [HR.out]; simp only [HE.out]; rfl, hbwz.trans (hb2.mono hzw)⟩
end Go.Proofs.YtafhefhhndmdkaaDoor
