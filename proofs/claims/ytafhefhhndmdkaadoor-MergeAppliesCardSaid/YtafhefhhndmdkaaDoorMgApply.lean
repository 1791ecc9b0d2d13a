/- merge.Apply returns the text that hunks make of a text, or the error; for texts and lines of at most a thousand bytes, at most a thousand hunks of at most a thousand lines. -/
import Derived.Test.YtafhefhhndmdkaaDoorMgApplyMath
namespace Go.Proofs.YtafhefhhndmdkaaDoor
open Go.RowKit Mg
attribute [local go_sem ↓] Go.wp_at_zero Go.wp_at_succ

/-- a slice of hunks, read at plain addresses below block B -/
def Hunks (w : World) (B : Nat) (A : Option Addr) (hs : List Hunk) : Prop :=
  ∀ (j : Nat) (h : Hunk), hs[j]? = some h → ∃ b o Aj cj, A = some ⟨b, o, none⟩ ∧ b < B ∧ w.cell? ⟨b, o + j * 3, none⟩ = some (.int .i64 h.1) ∧ w.cell? ⟨b, o + j * 3 + 1, none⟩ = some (.int .i64 h.2.1) ∧
    w.cell? ⟨b, o + j * 3 + 2, none⟩ = some (.slice Aj h.2.2.length cj) ∧ Strs w B Aj cj h.2.2
theorem Hunks.below {w w' : World} {B : Nat} {A : Option Addr} {hs : List Hunk} (h : Hunks w B A hs) (hb : Below B w w') : Hunks w' B A hs := fun j x hj => by
  obtain ⟨b, o, Aj, cj, h1, h2, h3, h4, h5, h6⟩ := h j x hj
  exact ⟨b, o, Aj, cj, h1, h2, (hb.cell (p := ⟨b, o + j * 3, none⟩) h2).trans h3, (hb.cell (p := ⟨b, o + j * 3 + 1, none⟩) h2).trans h4, (hb.cell (p := ⟨b, o + j * 3 + 2, none⟩) h2).trans h5, h6.below hb⟩
theorem Hunks.more {w : World} {B B' : Nat} {A : Option Addr} {hs : List Hunk} (h : Hunks w B A hs) (hB : B ≤ B') : Hunks w B' A hs := fun j x hj => by
  obtain ⟨b, o, Aj, cj, h1, h2, h3, h4, h5, h6⟩ := h j x hj
  exact ⟨b, o, Aj, cj, h1, by omega, h3, h4, h5, h6.more hB⟩

/-- what merge.Apply returns -/
def applyRes : Option ByteArray → Value
  | none => .tuple #[.string ⟨#[]⟩, .int .i64 161]
  | some s => .tuple #[.string s, .int .i64 0]

theorem join_any {A : Option Addr} {c n B : Nat} {ss : List ByteArray} {w : World} (h : Strs w B A c ss) (hB : B ≤ w.heap.size) (hn : n = ss.length) (hl : ss.length ≤ 10000000) (hs : ∀ s ∈ ss, s.size ≤ 1000000) :
    Calls Tryd.prog 15 #[.slice A n c, .string ⟨#[]⟩] w fun e w' => e = .returned (.string (joinS ss)) ∧ Below w.heap.size w w' := by
  subst hn
  rcases Nat.eq_zero_or_pos ss.length with h0 | h0
  · obtain rfl : ss = [] := List.eq_nil_of_length_eq_zero h0
    exact (Tryd.strings_Join_none A c ⟨#[]⟩ w).mono fun e w' ⟨h1, h2⟩ => ⟨h1, by rw [h2]; exact Below.refl _ _⟩
  · obtain ⟨b, o, rfl, hb, _⟩ := h.at_ h0
    refine Tryd.strings_Join b o c ss ⟨#[]⟩ w (fun j x hj => ?_) (by omega) (by omega) h.1 ?_
    · obtain ⟨b', o', h1, _, h3⟩ := h.2 j x hj
      simp only [Option.some.injEq, Addr.mk.injEq] at h1
      obtain ⟨rfl, rfl, _⟩ := h1
      exact h3
    · have h1 := flat_size (ss.map (·.data.toList)) 1000000 (fun x hx => by
        rw [List.mem_map] at hx
        obtain ⟨s, hs', rfl⟩ := hx
        exact hs s hs')
      rw [show (⟨#[]⟩ : ByteArray).data.toList = [] from rfl, join_flat]
      rw [List.length_map] at h1
      omega

set_option maxHeartbeats 16000000 in
set_option maxRecDepth 100000 in
theorem apply_any (a : ByteArray) (A : Option Addr) (ch : Nat) (hs : List Hunk) (w : World) (ha : a.size ≤ 1000) (hh : Hunks w w.heap.size A hs) (hn : hs.length ≤ 1000)
    (hl : ∀ h ∈ hs, h.2.2.length ≤ 1000 ∧ ∀ s ∈ h.2.2, s.size ≤ 1000) :
    Calls Tryd.prog 16 #[.string a, .slice A hs.length ch] w fun e w' => e = .returned (applyRes (applyP a hs)) ∧ Below w.heap.size w w' := by
  obtain ⟨j0, hj0, hy0, hy1, hy2⟩ := info_parts str_info
  have HL := Lib.hid hl
  have hla0 : (linesOf a).length ≤ 1000 := Nat.le_trans (linesOf_len a) ha
  have HLS : Hid (∀ s ∈ linesOf a, s.size ≤ 1000) := Lib.hid (fun s hs' => Nat.le_trans (linesOf_size a s hs') ha)
  clear hl
  go_enter Tryd.func16, Tryd.ntmps16
  go_wp2_with (go_at_call 12; refine (lines_any a _ (by omega)).mono ?_; rintro e w1 ⟨v1, rfl, hownl, hb1⟩; obtain ⟨A1, c1, rfl, hsl⟩ := Strs.of_own hownl)
  have hh1 := (hh.below hb1).more hb1.size
  have hsz1 := hb1.size
  clear hownl hh
  go_loopg [7, 8, 17] hs.length (fun gk u v z wr => ∃ (i k : Nat) (out : List ByteArray), z = .int .i64 i ∧ v = .int .i64 k ∧ i ≤ hs.length ∧ k ≤ (linesOf a).length ∧ hs.length - i ≤ gk ∧
      apH (linesOf a) true 0 hs = (apH (linesOf a) (decide (i = 0)) k (hs.drop i)).map (fun r => out ++ r) ∧ out.length ≤ i * 2000 ∧ (∀ s ∈ out, s.size ≤ 1000) ∧
      wr.ownsRow w1.heap.size 9 1 u out.length (out.map Value.string) ∧ Below w1.heap.size w1 wr)
  case atStart => exact ⟨0, 0, [], rfl, rfl, Nat.zero_le _, Nat.zero_le _, by omega, by simp, by simp, by simp, ⟨rfl, .inl ⟨rfl, rfl⟩⟩, Below.refl _ _⟩
  case round =>
    obtain ⟨i, k, out, rfl, rfl, hi, hk, hg, hap, hol, hos, hown, hbl⟩ := hrel
    have HAP := Lib.hid hap
    have HOS := Lib.hid hos
    clear hap hos
    have hblw : w1.heap.size ≤ wr.heap.size := hbl.size
    by_cases hlt : i < hs.length
    · obtain ⟨⟨f, t, ls⟩, hx⟩ : ∃ x, hs[i] = x := ⟨_, rfl⟩
      have hdr : hs.drop i = (f, t, ls) :: hs.drop (i + 1) := by rw [List.drop_eq_getElem_cons hlt, hx]
      have hmem : (f, t, ls) ∈ hs := by rw [← hx]; exact List.getElem_mem hlt
      obtain ⟨hll, hls⟩ := HL.out _ hmem
      obtain ⟨b, o, Aj, cj, rfl, hbB, cf, ct, cl, hsj⟩ := (hh1.below hbl) i (f, t, ls) (by rw [List.getElem?_eq_getElem hlt, hx])
      simp only at hll hls cf ct cl hsj
      have HLJ := Lib.hid hls
      have hbw : Below w.heap.size w wr := hb1.trans (hbl.mono hsz1)
      clear hmem hx hls
      by_cases e1 : f < (k : Int)
      · have HR : Hid (apH (linesOf a) true 0 hs = none) := Lib.hid (by rw [HAP.out, hdr, apH_bad (by unfold badH; simp [e1]), Option.map_none])
        clear hdr
        go_wp2
        go_ret2
        exact ⟨by unfold applyP; rw [HR.out]; rfl, (by first | exact hbw.alloc (by omega) _ | exact hbw)⟩
      · have hfk : (k : Int) ≤ f := by omega
        obtain ⟨fn, rfl⟩ := Int.eq_ofNat_of_zero_le (show 0 ≤ f by omega)
        clear e1
        by_cases e2 : 0 < i ∧ fn = k
        · obtain ⟨e2a, rfl⟩ := e2
          have e2b : (0 : Int) < (i : Int) := by omega
          have HR : Hid (apH (linesOf a) true 0 hs = none) := Lib.hid (by rw [HAP.out, hdr, apH_bad (by unfold badH; simp; omega), Option.map_none])
          clear hdr
          go_wp2
          go_ret2
          exact ⟨by unfold applyP; rw [HR.out]; rfl, (by first | exact hbw.alloc (by omega) _ | exact hbw)⟩
        · by_cases hi0 : i = 0
          · have hiz : (i : Int) ≤ 0 := by omega
            have HI0 := Lib.hid hi0
            clear hi0
            by_cases e3 : t < (fn : Int)
            · have HR : Hid (apH (linesOf a) true 0 hs = none) := Lib.hid (by rw [HAP.out, hdr, apH_bad (by unfold badH; simp [e3]), Option.map_none])
              clear hdr
              go_wp2
              go_ret2
              exact ⟨by unfold applyP; rw [HR.out]; rfl, (by first | exact hbw.alloc (by omega) _ | exact hbw)⟩
            · have hft : (fn : Int) ≤ t := by omega
              obtain ⟨tn, rfl⟩ := Int.eq_ofNat_of_zero_le (show 0 ≤ t by omega)
              clear e3
              by_cases e4 : (linesOf a).length < tn
              · have HR : Hid (apH (linesOf a) true 0 hs = none) := Lib.hid (by rw [HAP.out, hdr, apH_bad (by unfold badH; simp [e4]), Option.map_none])
                clear hdr
                go_wp2
                go_ret2
                exact ⟨by unfold applyP; rw [HR.out]; rfl, (by first | exact hbw.alloc (by omega) _ | exact hbw)⟩
              · have htl : tn ≤ (linesOf a).length := by omega
                clear e4
                by_cases e5 : tn = fn ∧ ls.length = 0
                · obtain ⟨rfl, e5b⟩ := e5
                  have HR : Hid (apH (linesOf a) true 0 hs = none) := Lib.hid (by rw [HAP.out, hdr, apH_bad (by unfold badH; simp [List.eq_nil_of_length_eq_zero e5b]), Option.map_none])
                  have e5c : ((ls.length : Int) == 0) = true := by rw [beq_iff_eq]; omega
                  clear hdr e5b
                  go_wp2
                  go_ret2
                  exact ⟨by unfold applyP; rw [HR.out]; rfl, (by first | exact hbw.alloc (by omega) _ | exact hbw)⟩
                · by_cases e6 : (ls.any fun s => !wholeB s) = true
                  · have HR : Hid (apH (linesOf a) true 0 hs = none) := Lib.hid (by rw [HAP.out, hdr, apH_bad (by unfold badH; simp only [e6, Bool.or_true]), Option.map_none])
                    have HC := Lib.hid (fun (W : World) (hW : Strs W w1.heap.size Aj cj ls) => containsFunc_any Aj cj ls.length ls w1.heap.size W hW rfl (by omega) (fun s hs' => Nat.le_trans (HLJ.out s hs') (by decide)) _ e6)
                    clear hdr e6
                    have e5' : ((tn : Int) == (fn : Int)) = false ∨ ((tn : Int) == (fn : Int)) = true ∧ ((ls.length : Int) == 0) = false := by
                      by_cases h : tn = fn
                      · right; exact ⟨by rw [beq_iff_eq]; omega, by rw [beq_eq_false_iff_ne]; omega⟩
                      · left; rw [beq_eq_false_iff_ne]; omega
                    have H5 := Lib.hid e5
                    clear e5
                    rcases e5' with e5' | ⟨e5', e5''⟩
                    all_goals
                      go_wp2_with (go_at_call 34; refine (HC.out _ (hsj.alloc hblw _)).mono ?_; rintro e w2 ⟨rfl, rfl⟩)
                      go_ret2
                      exact ⟨by unfold applyP; rw [HR.out]; rfl, (by first | exact hbw.alloc (by omega) _ | exact hbw)⟩
                  · have e6b : (ls.any fun s => !wholeB s) = false := by simpa using e6
                    have HC := Lib.hid (fun (W : World) (hW : Strs W w1.heap.size Aj cj ls) => containsFunc_any Aj cj ls.length ls w1.heap.size W hW rfl (by omega) (fun s hs' => Nat.le_trans (HLJ.out s hs') (by decide)) _ e6b)
                    have hap2 := apH_next (hs := hs.drop (i + 1)) (out := out) (o := apH (linesOf a) true 0 hs) (badH_no (first := decide (i = 0)) (k := k) (fn := fn) (tn := tn) (n := (linesOf a).length) (ls := ls) (by omega) (by left; simp [HI0.out]) (by omega) htl e5 e6b) (by rw [← hdr]; exact HAP.out)
                    have HAP2 : Hid (apH (linesOf a) true 0 hs = (apH (linesOf a) (decide (i + 1 = 0)) tn (hs.drop (i + 1))).map fun r => (out ++ ((linesOf a).drop k).take (fn - k) ++ ls) ++ r) := Lib.hid (by rw [decide_eq_false (by omega)]; exact hap2)
                    clear hdr e6 e6b hap2
                    have e5' : ((tn : Int) == (fn : Int)) = false ∨ ((tn : Int) == (fn : Int)) = true ∧ ((ls.length : Int) == 0) = false := by
                      by_cases h : tn = fn
                      · right; exact ⟨by rw [beq_iff_eq]; omega, by rw [beq_eq_false_iff_ne]; omega⟩
                      · left; rw [beq_eq_false_iff_ne]; omega
                    have H5 := Lib.hid e5
                    clear e5
                    rcases e5' with e5' | ⟨e5', e5''⟩
                    all_goals
                      go_wp2_with (go_at_call 34; refine (HC.out _ (hsj.alloc hblw _)).mono ?_; rintro e w2 ⟨rfl, rfl⟩)
                      have hha := Blk.new wr 36 #[.int .i64 fn, .int .i64 tn, .slice Aj ls.length cj]
                      have hba : Below wr.heap.size wr (wr.alloc (.cells #[.int .i64 fn, .int .i64 tn, .slice Aj ls.length cj] 36)) := (Below.refl _ _).alloc (Nat.le_refl _) _
                      have hsla := (hsl.below hbl).below (hba.mono hblw)
                      have hsja := hsj.below (hba.mono hblw)
                      have howna := own_below hown hba
                      have hbla := hbl.trans (hba.mono hblw)
                      have hbaz := hba.size
                      generalize wr.alloc (.cells #[.int .i64 fn, .int .i64 tn, .slice Aj ls.length cj] 36) = wa at *
                      clear hsj hown hbl cf ct cl hba HC
                      have hcut := (hsla.cutIf k).take (fn - k)
                      have HLEN : Hid (fn - k = (((linesOf a).drop k).take (fn - k)).length) := Lib.hid (by simp; omega)
                      have hkf : (k : Int) ≤ (fn : Int) := by omega
                      have hfc : (fn : Int) ≤ (c1 : Int) := by have := hsla.1; omega
                      have cf : wa.cell? ⟨wr.heap.size, 0, none⟩ = some (.int .i64 fn) := by rw [hha.cell]; rfl
                      have cl : wa.cell? ⟨wr.heap.size, 2, none⟩ = some (.slice Aj ls.length cj) := by rw [hha.cell]; rfl
                      go_region_held3 (fun w' => w'.cell? ⟨wr.heap.size, 0, none⟩ = some (.int .i64 fn) ∧ w'.cell? ⟨wr.heap.size, 2, none⟩ = some (.slice Aj ls.length cj))
                        (first | go_keep)
                        (first
                          | (refine step_append_any _ ?q1 (.tmp 68) (.tmp 73) _ ?q2 w1.heap.size 9 j0 _ 1 16 Tryd.underlying30 hj0 hy0 hy1 hy2 rfl (by decide) u7 _ _ ?q3 howna.drew w1.heap.size (if c1 = k then A1 else Option.map (fun x => x.add k) A1) (fn - k) (c1 - k) ((((linesOf a).drop k).take (fn - k)).map Value.string) ?q4 ?q5 ?q6 ?q7 ?q8 ?q9 ?_; (case q1 => rfl); (case q2 => rfl); (case q3 => rfl); (case q4 => rfl); (case q5 => have h := hcut.reads; rw [← HLEN.out] at h; exact h.drew); (case q6 => intro u hu; rw [List.mem_map] at hu; obtain ⟨s, _, rfl⟩ := hu; rfl); (case q7 => unfold maxLen; omega); (case q8 => omega); (case q9 => exact hbla.size); intro v8 w8 hown8 hg8 hat8; have hha8 := hha.drew.grown hg8 (fun e => own_blk_ne howna hha (by decide) e.symm); have hbe8 : Below w1.heap.size wa w8 := (Below.refl _ _).drew.grown hg8 hbla.size (fun g hg => (howna.lt g hg).1); have k0 := hha8.cell 0; have k2 := hha8.cell 2; simp only [List.getElem?_toArray, List.getElem?_cons_zero, List.getElem?_cons_succ] at k0 k2; have hsj8 := hsja.below hbe8; have hbz8 := hbe8.size; generalize (if c1 = k then A1 else Option.map (fun x => x.add k) A1) = Ax)
                          | (refine step_append_any _ ?q1 (.tmp 74) (.tmp 76) _ ?q2 w1.heap.size 9 j0 _ 1 16 Tryd.underlying30 hj0 hy0 hy1 hy2 rfl (by decide) v8 _ _ ?q3 hown8 w1.heap.size Aj ls.length cj (ls.map Value.string) ?q4 ?q5 ?q6 ?q7 ?q8 ?q9 ?_; (case q1 => rfl); (case q2 => rfl); (case q3 => rfl); (case q4 => rfl); (case q5 => exact hsj8.reads); (case q6 => intro u hu; rw [List.mem_map] at hu; obtain ⟨s, _, rfl⟩ := hu; rfl); (case q7 => unfold maxLen; omega); (case q8 => omega); (case q9 => exact Nat.le_trans hbla.size hbz8); intro v9 w9 hown9 hg9 hat9; have hha9 := hha8.grown hg9 (fun e => own_blk_ne hown8 hha8 (by decide) e.symm); have hbe9 : Below w1.heap.size wa w9 := hbe8.grown hg9 (Nat.le_trans hbla.size hbz8) (fun g hg => (hown8.lt g hg).1); have k0' := hha9.cell 0; have k2' := hha9.cell 2; have k1' := hha9.cell 1; simp only [List.getElem?_toArray, List.getElem?_cons_zero, List.getElem?_cons_succ] at k0' k1' k2'))
                      have hbl9 := hbla.trans hbe9
                      have hlc : (((linesOf a).drop k).take (fn - k)).length ≤ 1000 := by simp; omega
                      have HO9 : Hid (w9.ownsRow w1.heap.size 9 1 v9 (out ++ ((linesOf a).drop k).take (fn - k) ++ ls).length ((out ++ ((linesOf a).drop k).take (fn - k) ++ ls).map Value.string)) := Lib.hid (by
                        rw [List.length_append, List.length_append, List.map_append, List.map_append, ← HLEN.out]
                        exact hown9)
                      have HOS2 : Hid (∀ s ∈ out ++ ((linesOf a).drop k).take (fn - k) ++ ls, s.size ≤ 1000) := Lib.hid (by
                        intro s hs'
                        rcases List.mem_append.1 hs' with h | h
                        · rcases List.mem_append.1 h with h | h
                          · exact HOS.out s h
                          · exact HLS.out s (List.mem_of_mem_drop (List.mem_of_mem_take h))
                        · exact HLJ.out s h)
                      clear hg9 hat9 hg8 hat8 hown9 hown8 hha8 hha9 hbe8 hbe9 hsj8 k0 k2 k0' k2' cf cl hcut hsla hsja howna hbla hha
                      go_wp2
                      go_roundg (gk - 1)
                      case measure => omega
                      case rel => exact ⟨i + 1, tn, out ++ ((linesOf a).drop k).take (fn - k) ++ ls, by go_num, rfl, by omega, htl, by omega, HAP2.out, by simp only [List.length_append]; omega, HOS2.out, HO9.out, hbl9⟩
          · have hiz : (0 : Int) < (i : Int) := by omega
            have hne : ((fn : Int) == (k : Int)) = false := by rw [beq_eq_false_iff_ne]; omega
            by_cases e3 : t < (fn : Int)
            · have HR : Hid (apH (linesOf a) true 0 hs = none) := Lib.hid (by rw [HAP.out, hdr, apH_bad (by unfold badH; simp [e3]), Option.map_none])
              clear hdr
              go_wp2
              go_ret2
              exact ⟨by unfold applyP; rw [HR.out]; rfl, (by first | exact hbw.alloc (by omega) _ | exact hbw)⟩
            · have hft : (fn : Int) ≤ t := by omega
              obtain ⟨tn, rfl⟩ := Int.eq_ofNat_of_zero_le (show 0 ≤ t by omega)
              clear e3
              by_cases e4 : (linesOf a).length < tn
              · have HR : Hid (apH (linesOf a) true 0 hs = none) := Lib.hid (by rw [HAP.out, hdr, apH_bad (by unfold badH; simp [e4]), Option.map_none])
                clear hdr
                go_wp2
                go_ret2
                exact ⟨by unfold applyP; rw [HR.out]; rfl, (by first | exact hbw.alloc (by omega) _ | exact hbw)⟩
              · have htl : tn ≤ (linesOf a).length := by omega
                clear e4
                by_cases e5 : tn = fn ∧ ls.length = 0
                · obtain ⟨rfl, e5b⟩ := e5
                  have HR : Hid (apH (linesOf a) true 0 hs = none) := Lib.hid (by rw [HAP.out, hdr, apH_bad (by unfold badH; simp [List.eq_nil_of_length_eq_zero e5b]), Option.map_none])
                  have e5c : ((ls.length : Int) == 0) = true := by rw [beq_iff_eq]; omega
                  clear hdr e5b
                  go_wp2
                  go_ret2
                  exact ⟨by unfold applyP; rw [HR.out]; rfl, (by first | exact hbw.alloc (by omega) _ | exact hbw)⟩
                · by_cases e6 : (ls.any fun s => !wholeB s) = true
                  · have HR : Hid (apH (linesOf a) true 0 hs = none) := Lib.hid (by rw [HAP.out, hdr, apH_bad (by unfold badH; simp only [e6, Bool.or_true]), Option.map_none])
                    have HC := Lib.hid (fun (W : World) (hW : Strs W w1.heap.size Aj cj ls) => containsFunc_any Aj cj ls.length ls w1.heap.size W hW rfl (by omega) (fun s hs' => Nat.le_trans (HLJ.out s hs') (by decide)) _ e6)
                    clear hdr e6
                    have e5' : ((tn : Int) == (fn : Int)) = false ∨ ((tn : Int) == (fn : Int)) = true ∧ ((ls.length : Int) == 0) = false := by
                      by_cases h : tn = fn
                      · right; exact ⟨by rw [beq_iff_eq]; omega, by rw [beq_eq_false_iff_ne]; omega⟩
                      · left; rw [beq_eq_false_iff_ne]; omega
                    have H5 := Lib.hid e5
                    clear e5
                    rcases e5' with e5' | ⟨e5', e5''⟩
                    all_goals
                      go_wp2_with (go_at_call 34; refine (HC.out _ (hsj.alloc hblw _)).mono ?_; rintro e w2 ⟨rfl, rfl⟩)
                      go_ret2
                      exact ⟨by unfold applyP; rw [HR.out]; rfl, (by first | exact hbw.alloc (by omega) _ | exact hbw)⟩
                  · have e6b : (ls.any fun s => !wholeB s) = false := by simpa using e6
                    have HC := Lib.hid (fun (W : World) (hW : Strs W w1.heap.size Aj cj ls) => containsFunc_any Aj cj ls.length ls w1.heap.size W hW rfl (by omega) (fun s hs' => Nat.le_trans (HLJ.out s hs') (by decide)) _ e6b)
                    have hap2 := apH_next (hs := hs.drop (i + 1)) (out := out) (o := apH (linesOf a) true 0 hs) (badH_no (first := decide (i = 0)) (k := k) (fn := fn) (tn := tn) (n := (linesOf a).length) (ls := ls) (by omega) (by right; omega) (by omega) htl e5 e6b) (by rw [← hdr]; exact HAP.out)
                    have HAP2 : Hid (apH (linesOf a) true 0 hs = (apH (linesOf a) (decide (i + 1 = 0)) tn (hs.drop (i + 1))).map fun r => (out ++ ((linesOf a).drop k).take (fn - k) ++ ls) ++ r) := Lib.hid (by rw [decide_eq_false (by omega)]; exact hap2)
                    clear hdr e6 e6b hap2
                    have e5' : ((tn : Int) == (fn : Int)) = false ∨ ((tn : Int) == (fn : Int)) = true ∧ ((ls.length : Int) == 0) = false := by
                      by_cases h : tn = fn
                      · right; exact ⟨by rw [beq_iff_eq]; omega, by rw [beq_eq_false_iff_ne]; omega⟩
                      · left; rw [beq_eq_false_iff_ne]; omega
                    have H5 := Lib.hid e5
                    clear e5
                    rcases e5' with e5' | ⟨e5', e5''⟩
                    all_goals
                      go_wp2_with (go_at_call 34; refine (HC.out _ (hsj.alloc hblw _)).mono ?_; rintro e w2 ⟨rfl, rfl⟩)
                      have hha := Blk.new wr 36 #[.int .i64 fn, .int .i64 tn, .slice Aj ls.length cj]
                      have hba : Below wr.heap.size wr (wr.alloc (.cells #[.int .i64 fn, .int .i64 tn, .slice Aj ls.length cj] 36)) := (Below.refl _ _).alloc (Nat.le_refl _) _
                      have hsla := (hsl.below hbl).below (hba.mono hblw)
                      have hsja := hsj.below (hba.mono hblw)
                      have howna := own_below hown hba
                      have hbla := hbl.trans (hba.mono hblw)
                      have hbaz := hba.size
                      generalize wr.alloc (.cells #[.int .i64 fn, .int .i64 tn, .slice Aj ls.length cj] 36) = wa at *
                      clear hsj hown hbl cf ct cl hba HC
                      have hcut := (hsla.cutIf k).take (fn - k)
                      have HLEN : Hid (fn - k = (((linesOf a).drop k).take (fn - k)).length) := Lib.hid (by simp; omega)
                      have hkf : (k : Int) ≤ (fn : Int) := by omega
                      have hfc : (fn : Int) ≤ (c1 : Int) := by have := hsla.1; omega
                      have cf : wa.cell? ⟨wr.heap.size, 0, none⟩ = some (.int .i64 fn) := by rw [hha.cell]; rfl
                      have cl : wa.cell? ⟨wr.heap.size, 2, none⟩ = some (.slice Aj ls.length cj) := by rw [hha.cell]; rfl
                      go_region_held3 (fun w' => w'.cell? ⟨wr.heap.size, 0, none⟩ = some (.int .i64 fn) ∧ w'.cell? ⟨wr.heap.size, 2, none⟩ = some (.slice Aj ls.length cj))
                        (first | go_keep)
                        (first
                          | (refine step_append_any _ ?q1 (.tmp 68) (.tmp 73) _ ?q2 w1.heap.size 9 j0 _ 1 16 Tryd.underlying30 hj0 hy0 hy1 hy2 rfl (by decide) u7 _ _ ?q3 howna.drew w1.heap.size (if c1 = k then A1 else Option.map (fun x => x.add k) A1) (fn - k) (c1 - k) ((((linesOf a).drop k).take (fn - k)).map Value.string) ?q4 ?q5 ?q6 ?q7 ?q8 ?q9 ?_; (case q1 => rfl); (case q2 => rfl); (case q3 => rfl); (case q4 => rfl); (case q5 => have h := hcut.reads; rw [← HLEN.out] at h; exact h.drew); (case q6 => intro u hu; rw [List.mem_map] at hu; obtain ⟨s, _, rfl⟩ := hu; rfl); (case q7 => unfold maxLen; omega); (case q8 => omega); (case q9 => exact hbla.size); intro v8 w8 hown8 hg8 hat8; have hha8 := hha.drew.grown hg8 (fun e => own_blk_ne howna hha (by decide) e.symm); have hbe8 : Below w1.heap.size wa w8 := (Below.refl _ _).drew.grown hg8 hbla.size (fun g hg => (howna.lt g hg).1); have k0 := hha8.cell 0; have k2 := hha8.cell 2; simp only [List.getElem?_toArray, List.getElem?_cons_zero, List.getElem?_cons_succ] at k0 k2; have hsj8 := hsja.below hbe8; have hbz8 := hbe8.size; generalize (if c1 = k then A1 else Option.map (fun x => x.add k) A1) = Ax)
                          | (refine step_append_any _ ?q1 (.tmp 74) (.tmp 76) _ ?q2 w1.heap.size 9 j0 _ 1 16 Tryd.underlying30 hj0 hy0 hy1 hy2 rfl (by decide) v8 _ _ ?q3 hown8 w1.heap.size Aj ls.length cj (ls.map Value.string) ?q4 ?q5 ?q6 ?q7 ?q8 ?q9 ?_; (case q1 => rfl); (case q2 => rfl); (case q3 => rfl); (case q4 => rfl); (case q5 => exact hsj8.reads); (case q6 => intro u hu; rw [List.mem_map] at hu; obtain ⟨s, _, rfl⟩ := hu; rfl); (case q7 => unfold maxLen; omega); (case q8 => omega); (case q9 => exact Nat.le_trans hbla.size hbz8); intro v9 w9 hown9 hg9 hat9; have hha9 := hha8.grown hg9 (fun e => own_blk_ne hown8 hha8 (by decide) e.symm); have hbe9 : Below w1.heap.size wa w9 := hbe8.grown hg9 (Nat.le_trans hbla.size hbz8) (fun g hg => (hown8.lt g hg).1); have k0' := hha9.cell 0; have k2' := hha9.cell 2; have k1' := hha9.cell 1; simp only [List.getElem?_toArray, List.getElem?_cons_zero, List.getElem?_cons_succ] at k0' k1' k2'))
                      have hbl9 := hbla.trans hbe9
                      have hlc : (((linesOf a).drop k).take (fn - k)).length ≤ 1000 := by simp; omega
                      have HO9 : Hid (w9.ownsRow w1.heap.size 9 1 v9 (out ++ ((linesOf a).drop k).take (fn - k) ++ ls).length ((out ++ ((linesOf a).drop k).take (fn - k) ++ ls).map Value.string)) := Lib.hid (by
                        rw [List.length_append, List.length_append, List.map_append, List.map_append, ← HLEN.out]
                        exact hown9)
                      have HOS2 : Hid (∀ s ∈ out ++ ((linesOf a).drop k).take (fn - k) ++ ls, s.size ≤ 1000) := Lib.hid (by
                        intro s hs'
                        rcases List.mem_append.1 hs' with h | h
                        · rcases List.mem_append.1 h with h | h
                          · exact HOS.out s h
                          · exact HLS.out s (List.mem_of_mem_drop (List.mem_of_mem_take h))
                        · exact HLJ.out s h)
                      clear hg9 hat9 hg8 hat8 hown9 hown8 hha8 hha9 hbe8 hbe9 hsj8 k0 k2 k0' k2' cf cl hcut hsla hsja howna hbla hha
                      go_wp2
                      go_roundg (gk - 1)
                      case measure => omega
                      case rel => exact ⟨i + 1, tn, out ++ ((linesOf a).drop k).take (fn - k) ++ ls, by go_num, rfl, by omega, htl, by omega, HAP2.out, by simp only [List.length_append]; omega, HOS2.out, HO9.out, hbl9⟩
    · have hie : i = hs.length := by omega
      have HR : Hid (apH (linesOf a) true 0 hs = some (out ++ (linesOf a).drop k)) := Lib.hid (by rw [HAP.out, hie, List.drop_length]; rfl)
      have hkc : (k : Int) ≤ (c1 : Int) := by have := hsl.1; omega
      have hcut := (hsl.below hbl).cutIf k
      have HLEN : Hid ((linesOf a).length - k = ((linesOf a).drop k).length) := Lib.hid (by simp)
      have HIE := Lib.hid hie
      clear hie
      go_wp2_with (at_builtin; refine wpList_append_any _ rfl (.tmp 81) (.tmp 84) _ rfl w1.heap.size 9 j0 _ 1 16 Tryd.underlying30 hj0 hy0 hy1 hy2 rfl (by decide) u7 _ _ rfl hown w1.heap.size (if c1 = k then A1 else Option.map (fun x => x.add k) A1) ((linesOf a).length - k) (c1 - k) (((linesOf a).drop k).map Value.string) rfl ?_ ?_ ?_ ?_ ?_ ?_; (have h := hcut.reads; rw [← HLEN.out] at h; exact h); (intro u hu; rw [List.mem_map] at hu; obtain ⟨s, _, rfl⟩ := hu; rfl); (unfold maxLen; omega); omega; exact hblw; intro v9 w9 hown9 hg9 hat9; obtain ⟨A9, c9, rfl, hc9x, _⟩ := own_slice hown9; generalize hnt : out.length + ((linesOf a).length - k) = nt at hown9 hc9x ⊢; have HNT := Lib.hid hnt; clear hnt; generalize (if c1 = k then A1 else Option.map (fun x => x.add k) A1) = Ax)
      have hbe9 : Below w1.heap.size wr w9 := (Below.refl _ _).grown hg9 hblw (fun g hg => (hown.lt g hg).1)
      have hent : nt = (out ++ (linesOf a).drop k).length := by rw [← HNT.out]; simp
      subst hent
      have hown10 : w9.ownsRow w1.heap.size 9 1 (.slice A9 (out ++ (linesOf a).drop k).length c9) (out ++ (linesOf a).drop k).length ((out ++ (linesOf a).drop k).map Value.string) := by
        rw [List.map_append]; exact hown9
      have HOS2 : Hid (∀ s ∈ out ++ (linesOf a).drop k, s.size ≤ 1000) := Lib.hid (by
        intro s hs'
        rcases List.mem_append.1 hs' with h | h
        · exact HOS.out s h
        · exact HLS.out s (List.mem_of_mem_drop h))
      have hn2 : (out ++ (linesOf a).drop k).length ≤ 10000000 := by simp; omega
      have hbl9 := hb1.trans ((hbl.trans hbe9).mono hsz1)
      clear hg9 hat9 hown9 hown hbl hbe9 hcut HOS HAP HIE HLEN HNT
      generalize out ++ (linesOf a).drop k = tot at *
      have hst : Strs w9 w9.heap.size A9 c9 tot := by
        obtain ⟨A', c', hv, hst⟩ := Strs.of_own hown10
        injection hv with e1 _ e3
        subst e1 e3
        exact hst
      clear hown10
      go_wp2
      obtain ⟨wx, rfl⟩ : ∃ wx : World, wx = w9 := ⟨_, rfl⟩
      go_loopg [88] tot.length (fun gk z wz => ∃ m : Nat, z = .int .i64 m ∧ m ≤ tot.length ∧ tot.length - m ≤ gk ∧ (∀ j s, j < m → j + 1 < tot.length → tot[j]? = some s → Lib.hasSuffix s.data.toList [10] = true) ∧ wz = wx)
      case atStart => exact ⟨0, rfl, Nat.zero_le _, by omega, fun j s h => by omega, rfl⟩
      case round =>
        obtain ⟨m, rfl, hm, hg2, hall, rfl⟩ := hrel
        have HALL := Lib.hid hall
        clear hall
        by_cases hmt : m < tot.length
        · obtain ⟨b9, o9, rfl, hb9, hc9⟩ := hst.at_ hmt
          have hsz9 := HOS2.out _ (List.getElem_mem hmt)
          by_cases hlast : m + 1 < tot.length
          · have HC := Lib.hid (fun W : World => (Tryd.strings_HasSuffix tot[m] ⟨#[10]⟩ W (by omega)).mono fun _ _ h => And.intro h.1 h.2.symm)
            by_cases hsf : Lib.hasSuffix tot[m].data.toList [10] = true
            · have HC2 : Hid (∀ W : World, Calls Tryd.prog 37 #[.string tot[m], .string ⟨#[10]⟩] W fun e w' => e = .returned (.bool true) ∧ W = w') := Lib.hid (by rw [← hsf]; exact HC.out)
              have HALL2 : Hid (∀ j s, j < m + 1 → j + 1 < tot.length → tot[j]? = some s → Lib.hasSuffix s.data.toList [10] = true) := Lib.hid (by
                intro j s h1 h2 h3
                by_cases hj : j < m
                · exact HALL.out j s hj h2 h3
                · obtain rfl : j = m := by omega
                  rw [List.getElem?_eq_getElem hmt] at h3
                  simp at h3; subst h3; exact hsf)
              clear HC hsf
              go_wp2_with (go_at_call 37; refine (HC2.out _).mono ?_; rintro e w2 ⟨rfl, rfl⟩)
              go_roundg (gk - 1)
              case measure => omega
              case rel => exact ⟨m + 1, by go_num, by omega, by omega, HALL2.out, rfl⟩
            · have hsf2 : Lib.hasSuffix tot[m].data.toList [10] = false := by simpa using hsf
              have HC2 : Hid (∀ W : World, Calls Tryd.prog 37 #[.string tot[m], .string ⟨#[10]⟩] W fun e w' => e = .returned (.bool false) ∧ W = w') := Lib.hid (by rw [← hsf2]; exact HC.out)
              have HE : Hid (endsB tot = false) := Lib.hid (endsB_not tot m tot[m] hlast (List.getElem?_eq_getElem hmt) hsf2)
              clear HC hsf hsf2
              go_wp2_with (go_at_call 37; refine (HC2.out _).mono ?_; rintro e w2 ⟨rfl, rfl⟩)
              go_ret2
              exact ⟨by unfold applyP; rw [HR.out]; simp only [HE.out]; rfl, hbl9⟩
          · have HALL2 : Hid (∀ j s, j < m + 1 → j + 1 < tot.length → tot[j]? = some s → Lib.hasSuffix s.data.toList [10] = true) := Lib.hid (by
              intro j s h1 h2 h3
              exact HALL.out j s (by omega) h2 h3)
            go_wp2
            go_roundg (gk - 1)
            case measure => omega
            case rel => exact ⟨m + 1, by go_num, by omega, by omega, HALL2.out, rfl⟩
        · have HE : Hid (endsB tot = true) := Lib.hid (endsB_all tot (fun j s h1 h2 => HALL.out j s (by omega) h1 h2))
          have HJ := Lib.hid (join_any hst (Nat.le_refl _) rfl hn2 (fun s hs' => Nat.le_trans (HOS2.out s hs') (by decide)))
          clear HALL
          go_wp2_with (go_at_call 15; refine (HJ.out).mono ?_; rintro e w2 ⟨rfl, hbj⟩)
          go_ret2
          exact ⟨by unfold applyP; rw [HR.out]; simp only [HE.out]; rfl, hbl9.trans (hbj.mono hbl9.size)⟩
end Go.Proofs.YtafhefhhndmdkaaDoor
