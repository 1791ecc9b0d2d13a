/- stockyardref16.Script: the script between two lists of at most 400 lines with their common lines. -/
import Derived.Test.YtafhefhhndmdkaaDoorMgDiff
namespace Go.Proofs.YtafhefhhndmdkaaDoor
open Go.RowKit Mg
attribute [local go_sem ↓] Go.wp_at_zero Go.wp_at_succ

theorem pcells_one : ∀ (l : List (Nat × Nat)), ∀ u ∈ pcells l, u.oneCell' = true := by
  intro l u hu
  unfold pcells at hu
  rw [List.mem_flatMap] at hu
  obtain ⟨p, _, hu⟩ := hu
  simp only [List.mem_cons, List.not_mem_nil, or_false] at hu
  rcases hu with rfl | rfl <;> rfl
theorem two_info' : (Tryd.prog.info? 80).map (fun i => (i.zero, i.size, i.bytes)) = some (some (.agg #[.int .i64 0, .int .i64 0]), 2, 16) := by kernel_rfl

set_option maxHeartbeats 16000000 in
set_option maxRecDepth 100000 in
theorem refScript_any (A B P : Option Addr) (ca cb cp : Nat) (a b : List ByteArray) (ps : List (Nat × Nat)) (w : World) (hrb : Strs w w.heap.size B cb b)
    (hp : Reads w w.heap.size 2 P ps.length (pcells ps)) (hna : a.length ≤ 400) (hnb : b.length ≤ 400) (hpl : ps.length ≤ 400) (hasc : Asc a.length b.length 0 0 (ps ++ [(a.length, b.length)])) :
    Calls Tryd.prog 27 #[.slice A a.length ca, .slice B b.length cb, .slice P ps.length cp] w fun e w' => ∃ v, e = .returned v ∧
      OwnsHunks w' w.heap.size v (scr b 0 0 (ps ++ [(a.length, b.length)])) ∧ Below w.heap.size w w' := by
  obtain ⟨i0, hi0, hz0, hz1, hz2⟩ := info_parts two_info'
  obtain ⟨j0, hj0, hy0, hy1, hy2⟩ := info_parts hunk_info
  obtain ⟨s0, hs0, hx0, hx1, hx2⟩ := info_parts str_info
  obtain ⟨n, hn⟩ : ∃ n, n = ps.length := ⟨_, rfl⟩
  rw [← hn] at hp hpl ⊢
  obtain ⟨qs, hqs⟩ : ∃ qs, qs = ps ++ [(a.length, b.length)] := ⟨_, rfl⟩
  have hql : qs.length = n + 1 := by rw [hqs, hn]; simp
  have hpq : pcells qs = pcells ps ++ [.int .i64 a.length, .int .i64 b.length] := by rw [hqs, pcells_snoc]
  rw [← hqs] at hasc ⊢
  have HPQ := Lib.hid hpq
  have HQL := Lib.hid hql
  have HONE := Lib.hid (pcells_one ps)
  clear hqs hn hql hpq
  go_enter Tryd.func27, Tryd.ntmps27
  go_wp2_with (first
    | (at_builtin; refine wpList_append_any _ rfl (.const (.slice none 0 0)) (.tmp 12) _ rfl w.heap.size 80 i0 _ 2 16 Tryd.underlying57 hi0 hz0 hz1 hz2 rfl (by decide) (.slice none 0 0) 0 [] rfl ⟨rfl, .inl ⟨rfl, rfl⟩⟩ w.heap.size P n cp (pcells ps) rfl ?_ ?_ ?_ ?_ ?_ ?_; exact hp; exact HONE.out; (unfold maxLen; omega); omega; exact Nat.le_refl _; intro v1 w1 hown1 hg1 _; simp only [Nat.zero_add, List.nil_append] at hown1)
    | (at_builtin; refine wpList_append_own _ rfl (.tmp 13) (.tmp 19) _ rfl w.heap.size 80 i0 _ 2 16 Tryd.underlying57 hi0 hz0 hz1 hz2 rfl (by decide) _ _ _ rfl (hown1.alloc _) ⟨w1.heap.size, 0, none⟩ 1 1 [.int .i64 a.length, .int .i64 b.length] rfl rfl ?_ ?_ ?_ ?_ ?_ ?_; exact (cell_two_new _ _ _ _); (intro u hu; simp at hu; rcases hu with rfl | rfl <;> rfl); (unfold maxLen; omega); omega; (have := hg1.size; simp; omega); intro v2 w2 hown2 hg2 _; obtain ⟨g2, c2, rfl, hgc, hgb, hgl⟩ := own_form hown2 (by omega)))
  have hb1 : Below w.heap.size w w1 := (Below.refl _ _).grown hg1 (Nat.le_refl _) (fun g hg => by simp [Value.ownBlock] at hg)
  have hb2 : Below w.heap.size w w2 := (hb1.alloc hb1.size _).grown hg2 (by have := hb1.size; simp; omega) (fun g hg => (hown1.lt g hg).1)
  rw [← HPQ.out] at hown2
  clear hg1 hg2 hown1 hb1
  trace "1"
  go_loopg [7, 8, 9, 22] (n + 1) (fun gk u x y z wr => ∃ (t i k : Nat) (done : List (Nat × Nat × List ByteArray)), z = .int .i64 t ∧ x = .int .i64 i ∧ y = .int .i64 k ∧ t ≤ n + 1 ∧ n + 1 - t ≤ gk ∧ Hid (scr b 0 0 qs = done ++ scr b i k (qs.drop t)) ∧
      Hid (Asc a.length b.length i k (qs.drop t)) ∧ i ≤ 401 ∧ k ≤ 401 ∧
      wr.ownsRow w.heap.size 80 2 (.slice (some ⟨g2, 0, none⟩) (n + 1) c2) (n + 1) (pcells qs) ∧ OwnsHunks wr w.heap.size u done ∧ done.length ≤ t ∧ Below w.heap.size w wr)
  case atStart => exact ⟨0, 0, 0, [], rfl, rfl, rfl, Nat.zero_le _, by omega, Lib.hid rfl, Lib.hid hasc, by omega, by omega, hown2, ⟨[], rfl, ⟨rfl, .inl ⟨rfl, rfl⟩⟩, fun i u h h1 => by simp at h1⟩, Nat.le_refl _, hb2⟩
  case round =>
    clear hasc hown2 hb2 hgl
    obtain ⟨t, i, k, done, rfl, rfl, rfl, ht, hg, HSC, HASC, hi, hk, hown, hhk, hdl, hbl⟩ := hrel
    by_cases hlt : t < n + 1
    · have hltp : t < qs.length := by rw [HQL.out]; exact hlt
      obtain ⟨p1, p2, hpt⟩ : ∃ p1 p2, qs[t] = (p1, p2) := ⟨_, _, rfl⟩
      have hdr : qs.drop t = (p1, p2) :: qs.drop (t + 1) := by rw [List.drop_eq_getElem_cons hltp, hpt]
      have hasc := HASC.out
      rw [hdr] at hasc
      obtain ⟨ha1, ha2, ha3, ha4, hasc2⟩ := hasc
      simp only at ha1 ha2 ha3 ha4
      have HASC2 := Lib.hid hasc2
      clear HASC hasc2
      obtain ⟨hp1, hp2⟩ := pcells_get (l := qs) (t := t) (p1 := p1) (p2 := p2) (by rw [List.getElem?_eq_getElem hltp, hpt])
      have cp1 : wr.cell? ⟨g2, t * 2, none⟩ = some (.int .i64 p1) := by have := hown.cells (g := g2) rfl _ _ hp1; rwa [addr_add, Nat.zero_add] at this
      have cp2 : wr.cell? ⟨g2, t * 2 + 1, none⟩ = some (.int .i64 p2) := by have := hown.cells (g := g2) rfl _ _ hp2; rwa [addr_add, Nat.zero_add] at this
      have hsl := hrb.below hbl
      have hblz := hbl.size
      clear hp1 hp2
      by_cases he : p1 = i ∧ p2 = k
      · obtain ⟨rfl, rfl⟩ := he
        have HS2 : Hid (scr b 0 0 qs = done ++ scr b (p1 + 1) (p2 + 1) (qs.drop (t + 1))) := Lib.hid (by rw [HSC.out, hdr, scr_same])
        clear hdr hpt hsl
        go_wp2
        have hpa := Blk.new wr 80 #[.int .i64 p1, .int .i64 p2]
        have hba : Below wr.heap.size wr (wr.alloc (.cells #[.int .i64 p1, .int .i64 p2] 80)) := (Below.refl _ _).alloc (Nat.le_refl _) _
        have howna := own_below hown hba
        have hhka := hhk.below hba
        have hbla := hbl.trans (hba.mono hblz)
        generalize wr.alloc (.cells #[.int .i64 p1, .int .i64 p2] 80) = wa at *
        clear hown hhk hbl cp1 cp2 hba
        have cp1 : wa.cell? ⟨wr.heap.size, 0, none⟩ = some (.int .i64 p1) := by rw [hpa.cell]; rfl
        have cp2 : wa.cell? ⟨wr.heap.size, 1, none⟩ = some (.int .i64 p2) := by rw [hpa.cell]; rfl
        have w1 : IntKind.i64.wrap ((p1 : Int) + 1) = (p1 : Int) + 1 := IntWalk.i64_in _ (by omega)
        have w2 : IntKind.i64.wrap ((p2 : Int) + 1) = (p2 : Int) + 1 := IntWalk.i64_in _ (by omega)
        go_quiet (fail)
        clear w1 w2
        go_wp2
        go_roundg (gk - 1)
        case measure => omega
        case rel =>
          exact ⟨t + 1, p1 + 1, p2 + 1, done, by go_num, by go_num, by go_num, by omega, by omega, HS2, HASC2, by omega, by omega, howna, hhka, by omega, ⟨hbla.os, hbla.tape, hbla.output, hbla.size, hbla.block⟩⟩
      · have HS2 : Hid (scr b 0 0 qs = (done ++ [(i, p1, (b.drop k).take (p2 - k))]) ++ scr b (p1 + 1) (p2 + 1) (qs.drop (t + 1))) := Lib.hid (by rw [HSC.out, hdr, scr_other _ _ _ _ _ (by simp; omega)]; simp)
        have hcut := (hsl.cutIf k).take (p2 - k)
        have HLEN : Hid (p2 - k = ((b.drop k).take (p2 - k)).length) := Lib.hid (by simp; omega)
        have hc1k : (k : Int) ≤ (p2 : Int) := by omega
        have hc1c : (p2 : Int) ≤ (cb : Int) := by have := hsl.1; omega
        have hcase : (i : Int) < (p1 : Int) ∨ (¬ (i : Int) < (p1 : Int) ∧ (k : Int) < (p2 : Int)) := by omega
        clear hdr hpt he
        rcases hcase with h1 | ⟨h1, h2⟩
        all_goals
          go_wp2
          have hpa := Blk.new wr 80 #[.int .i64 p1, .int .i64 p2]
          have hba : Below wr.heap.size wr (wr.alloc (.cells #[.int .i64 p1, .int .i64 p2] 80)) := (Below.refl _ _).alloc (Nat.le_refl _) _
          have htopa : wr.heap.size < (wr.alloc (.cells #[.int .i64 p1, .int .i64 p2] 80)).heap.size := by simp
          have hcuta := hcut.below (hba.mono hblz)
          have howna := own_below hown hba
          have hhka := hhk.below hba
          have hbla := hbl.trans (hba.mono hblz)
          generalize wr.alloc (.cells #[.int .i64 p1, .int .i64 p2] 80) = wa at *
          clear hown hhk hbl hcut hsl cp1 cp2 hba
          have cp1 : wa.cell? ⟨wr.heap.size, 0, none⟩ = some (.int .i64 p1) := by rw [hpa.cell]; rfl
          have cp2 : wa.cell? ⟨wr.heap.size, 1, none⟩ = some (.int .i64 p2) := by rw [hpa.cell]; rfl
          obtain ⟨us, hus1, hus2, hus3⟩ := hhka
          trace "2"
          go_region_held3 (fun w' => w'.cell? ⟨wr.heap.size, 0, none⟩ = some (.int .i64 p1) ∧ w'.cell? ⟨wr.heap.size, 1, none⟩ = some (.int .i64 p2))
            (first | go_keep)
            (first
              | (refine step_append_any _ ?q1 (.const (.slice none 0 0)) (.tmp 44) _ ?q2 w.heap.size 9 s0 _ 1 16 Tryd.underlying30 hs0 hx0 hx1 hx2 rfl (by decide) (.slice none 0 0) 0 [] ?q3 ?q10 w.heap.size (if cb = k then B else Option.map (fun x => x.add k) B) (p2 - k) (cb - k) (((b.drop k).take (p2 - k)).map Value.string) ?q4 ?q5 ?q6 ?q7 ?q8 ?q9 ?_; (case q1 => rfl); (case q2 => rfl); (case q3 => rfl); (case q10 => exact ⟨rfl, .inl ⟨rfl, rfl⟩⟩); (case q4 => rfl); (case q5 => have h := hcuta.reads; rw [← HLEN.out] at h; exact h.drew); (case q6 => intro u hu; rw [List.mem_map] at hu; obtain ⟨s, _, rfl⟩ := hu; rfl); (case q7 => unfold maxLen; omega); (case q8 => omega); (case q9 => exact hbla.size); intro v5 w5 hown5 hg5 hat5; simp only [Nat.zero_add, List.nil_append] at hown5; obtain ⟨A5, c5, rfl, _, _⟩ := own_slice hown5; have hbe5 : Below wa.heap.size wa w5 := (Below.refl _ _).drew.grown hg5 (Nat.le_refl _) (fun g hg => by simp [Value.ownBlock] at hg); have hpa5 := hpa.below hbe5 htopa; have k0 := hpa5.cell 0; have k1 := hpa5.cell 1; simp only [List.getElem?_toArray, List.getElem?_cons_zero, List.getElem?_cons_succ] at k0 k1; have hou5 := own_below hus2 hbe5; have hsz5 := hbe5.size; generalize (if cb = k then B else Option.map (fun x => x.add k) B) = Ax)
              | (have tokk := hou5; refine step_append_any _ ?q1 (.tmp 36) (.tmp 47) _ ?q2 w.heap.size 36 j0 _ 3 40 Tryd.underlying24 hj0 hy0 hy1 hy2 rfl (by decide) u7 _ _ ?q3 (hou5.alloc _) (w5.heap.size + 1) (some ⟨w5.heap.size, 0, none⟩) 1 1 [.int .i64 i, .int .i64 p1, .slice A5 (p2 - k) c5] ?q4 ?q5 ?q6 ?q7 ?q8 ?q9 ?_; (case q1 => rfl); (case q2 => rfl); (case q3 => rfl); (case q4 => rfl); (case q5 => exact reads_blk 1 (Blk.new w5 36 _) (by omega) 3 rfl); (case q6 => intro u hu; simp only [List.mem_cons, List.not_mem_nil, or_false] at hu; rcases hu with h | h | h <;> (subst h; rfl)); (case q7 => unfold maxLen; omega); (case q8 => omega); (case q9 => simp; omega); clear tokk; intro v6 w6 hown6 hg6 hat6; have hpa6 := (hpa5.alloc _).grown hg6 (fun e => own_blk_ne hou5 hpa5 (by decide) e.symm); have hbe6 : Below w.heap.size wa w6 := ((hbe5.mono hbla.size).alloc (by omega) _).grown hg6 (by simp; omega) (fun g hg => (hou5.lt g hg).1); have k0' := (hpa6.cell 0); have k1' := (hpa6.cell 1); simp only [List.getElem?_toArray, List.getElem?_cons_zero, List.getElem?_cons_succ] at k0' k1'))
          trace "3"
          have hown7 := own_kept ((own_below howna hbe5).alloc _) (hou5.alloc _) (by decide) hg6
          have hhk7 := OwnsHunks.snoc (h := (i, p1, (b.drop k).take (p2 - k))) (u := .slice A5 (p2 - k) c5) hus1 (hou5.alloc _) (fun i u x e1 e2 => (own_below (hus3 i u x e1 e2) hbe5).alloc _) (by have h9 := hown5.alloc (.cells #[.int .i64 i, .int .i64 p1, .slice A5 (p2 - k) c5] 36); have e9 := HLEN.out; rw [← e9]; exact h9) (by simpa using hown6) hg6
          have hbl7 := hbla.trans hbe6
          clear hg6 hat6 hown6 hou5 hpa5 hown5 hbe5 hus2 hus3 k0 k1 hpa6 hbe6 hcuta howna hbla hpa cp1 cp2 hg5 hat5
          have w1 : IntKind.i64.wrap ((p1 : Int) + 1) = (p1 : Int) + 1 := IntWalk.i64_in _ (by omega)
          have w2 : IntKind.i64.wrap ((p2 : Int) + 1) = (p2 : Int) + 1 := IntWalk.i64_in _ (by omega)
          go_wp2
          go_quiet (fail)
          clear w1 w2
          go_wp2
          go_roundg (gk - 1)
          case measure => omega
          case rel =>
            exact ⟨t + 1, p1 + 1, p2 + 1, _, by go_num, by go_num, by go_num, by omega, by omega, HS2, HASC2, by omega, by omega, hown7, hhk7, by simp; omega, ⟨hbl7.os, hbl7.tape, hbl7.output, hbl7.size, hbl7.block⟩⟩
    · have hte : t = n + 1 := by omega
      subst hte
      go_wp2
      go_ret
      refine ⟨_, rfl, ?_, hbl⟩
      rw [HSC.out, List.drop_eq_nil_of_le (by rw [HQL.out]; exact Nat.le_refl _)]
      simp only [scr, List.append_nil]
      exact hhk
end Go.Proofs.YtafhefhhndmdkaaDoor
