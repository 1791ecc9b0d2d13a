/- stockyardref16.Pairs -/
import Derived.Test.YtafhefhhndmdkaaDoorMgRow
import Derived.Test.YtafhefhhndmdkaaDoorMgPTab
import Derived.Test.YtafhefhhndmdkaaDoorMgFirst
import Derived.Test.YtafhefhhndmdkaaDoorMgCommon
namespace Go.Proofs.YtafhefhhndmdkaaDoor
open Go.RowKit Mg

theorem two_info : (Tryd.prog.info? 80).map (fun i => (i.zero, i.size, i.bytes)) = some (some (.agg #[.int .i64 0, .int .i64 0]), 2, 16) := by kernel_rfl
theorem ints_info : (Tryd.prog.info? 83).map (fun i => (i.zero, i.size, i.bytes)) = some (some (.slice none 0 0), 1, 24) := by kernel_rfl

set_option maxHeartbeats 4000000 in
set_option maxRecDepth 100000 in
theorem refPairs_any (A B : Option Addr) (ca cb : Nat) (a b : List ByteArray) (w : World) (hra : Strs w w.heap.size A ca a) (hrb : Strs w w.heap.size B cb b) (hna : a.length ≤ 400) (hnb : b.length ≤ 400) :
    Calls Tryd.prog 28 #[.slice A a.length ca, .slice B b.length cb] w fun e w' => ∃ v, e = .returned v ∧
      w'.ownsRow w.heap.size 80 2 v (prs 0 0 a b).length (pcells (prs 0 0 a b)) ∧ Below w.heap.size w w' := by
  obtain ⟨i0, hi0, hz0, hz1, hz2⟩ := info_parts two_info
  obtain ⟨N, hN⟩ : ∃ N, N = a.length + 1 := ⟨_, rfl⟩
  obtain ⟨M, hM⟩ : ∃ M, M = b.length + 1 := ⟨_, rfl⟩
  have HN : (a.length : Int) + 1 = (N : Int) := by omega
  have HM : (b.length : Int) + 1 = (M : Int) := by omega
  have hmk := run_make_row' (P := Tryd.prog) 83 3 (.int .i64 0) 8 Tryd.underlying83 int_info rfl .i64 .i64 M (by omega) (by omega)
  have hmk2 := run_make_row' (P := Tryd.prog) 86 83 (.slice none 0 0) 24 Tryd.underlying86 ints_info rfl .i64 .i64 N (by omega) (by omega)
  have HH := Lib.hid (And.intro hN hM)
  clear hN hM
  go_enter Tryd.func28, Tryd.ntmps28
  go_wp2
  go_loopg [6] (a.length + 1) (fun gk v wr => ∃ i : Int, v = .int .i64 i ∧ -1 ≤ i ∧ i ≤ a.length ∧ i + 1 ≤ gk ∧ PT w wr a.length M i (val a b i b.length))
  case atStart => exact ⟨_, rfl, by omega, by omega, by omega, pt_start w _ _ _ HH.out.1 _⟩
  case round =>
    obtain ⟨i, rfl, hi0, hi1, hig, hpt⟩ := hrel
    by_cases hi : 0 ≤ i
    · obtain ⟨k, rfl⟩ := Int.eq_ofNat_of_zero_le hi
      obtain ⟨u0, hu0⟩ := hpt.slot0 (r := k) (by omega)
      have hsz := hpt.below.size
      have hwl : w.heap.size < wr.heap.size := by have := hpt.heap; omega
      have e0 : (wr.alloc (.cells (madeCells #[.int .i64 0] M) 3)).cell? ⟨w.heap.size, k, none⟩ = some u0 := by
        obtain ⟨cs, h1, h2, h3⟩ := hpt.top
        rw [(h1.alloc _).cell, ← h1.cell]; exact hu0
      have f0 : (wr.alloc (.cells (madeCells #[.int .i64 0] M) 3)).frozen? ⟨w.heap.size, k, none⟩ = false := by
        obtain ⟨cs, h1, h2, h3⟩ := hpt.top
        exact (h1.alloc _).frozen k
      clear hu0
      have hpn := hpt.next (by omega) (fun c hc => by unfold val; rw [if_neg (by have := HH.out.2; omega)]) hwl
      have HPN := Lib.hid hpn
      clear hpn
      go_wp2
      have hpn := HPN.out
      clear HPN e0 f0 hpt hsz hwl
      generalize ((wr.setCell ⟨w.heap.size, k, none⟩ (.slice (some ⟨wr.heap.size, 0, none⟩) M M)).alloc (.cells (madeCells #[.int .i64 0] M) 3)) = w1 at *
      obtain ⟨wo, rfl⟩ : ∃ wo : World, wo = wr := ⟨_, rfl⟩
      obtain ⟨gko, rfl⟩ : ∃ gko : Nat, gko = gk := ⟨_, rfl⟩
      go_loopg [7] (b.length + 1) (fun gk v wr => ∃ j : Int, v = .int .i64 j ∧ -1 ≤ j ∧ j ≤ b.length ∧ j + 1 ≤ gk ∧ PT w wr a.length M ((k : Int) - 1) (val a b k j) ∧ (k = a.length → j = b.length))
      case atStart => exact ⟨_, rfl, by omega, by omega, by omega, hpn, fun _ => rfl⟩
      case round =>
        clear hpn
        obtain ⟨j, rfl, hj0, hj1, hjg, hpt, hla⟩ := hrel
        have HLA := Lib.hid hla
        clear hla
        by_cases hj : 0 ≤ j
        · obtain ⟨c, rfl⟩ := Int.eq_ofNat_of_zero_le hj
          by_cases hka : k < a.length
          · obtain ⟨g0, hg0⟩ : ∃ g0, g0 = w.heap.size + 1 + (a.length - k) := ⟨_, rfl⟩
            obtain ⟨g1, hg1⟩ : ∃ g1, g1 = w.heap.size + 1 + (a.length - (k + 1)) := ⟨_, rfl⟩
            obtain ⟨x0, hx0⟩ : ∃ x0 : Nat, x0 = val a b k c k c := ⟨_, rfl⟩
            obtain ⟨x2, hx2⟩ : ∃ x2 : Nat, x2 = val a b k c (k + 1) c := ⟨_, rfl⟩
            have hcM : c < M := by omega
            have s0 : wr.cell? ⟨w.heap.size, k, none⟩ = some (.slice (some ⟨g0, 0, none⟩) M M) := by rw [hg0]; exact hpt.slot (by omega) (by omega)
            have s1 : wr.cell? ⟨w.heap.size, k + 1, none⟩ = some (.slice (some ⟨g1, 0, none⟩) M M) := by rw [hg1]; exact hpt.slot (by omega) (by omega)
            have c0 : wr.cell? ⟨g0, c, none⟩ = some (.int .i64 x0) := by rw [hg0, hx0]; exact hpt.cell (by omega) (by omega) hcM
            have c2 : wr.cell? ⟨g1, c, none⟩ = some (.int .i64 x2) := by rw [hg1, hx2]; exact hpt.cell (by omega) (by omega) hcM
            have f0 : wr.frozen? ⟨g0, c, none⟩ = false := by rw [hg0]; exact hpt.cellf (by omega) (by omega) c
            have hkM : k < N := by omega
            have hkM1 : k + 1 < N := by omega
            have HX := Lib.hid (And.intro hx0 hx2)
            have HG := Lib.hid (And.intro hg0 hg1)
            clear hx0 hx2 hg0 hg1
            go_wp2
            go_region
            have hp2 : PT w (wr.setCell ⟨g0, c, none⟩ (.int .i64 (x2 : Int))).drew a.length M ((k : Int) - 1) (fun r c' => if r = k ∧ c' = c then x2 else val a b k c r c') := by
              rw [HG.out.1]
              exact (hpt.set (r := k) (c := c) (by omega) (by omega) hcM x2 (by simp) (fun r' c' _ _ h => if_neg (by omega))).drew
            generalize (wr.setCell ⟨g0, c, none⟩ (.int .i64 (x2 : Int))).drew = w2 at hp2 ⊢
            clear s0 s1 c0 c2 f0 hpt
            by_cases hcb : c < b.length
            · obtain ⟨x1, hx1⟩ : ∃ x1 : Nat, x1 = val a b k c k (c + 1) := ⟨_, rfl⟩
              have hcM2 : c + 1 < M := by omega
              have s0 : w2.cell? ⟨w.heap.size, k, none⟩ = some (.slice (some ⟨g0, 0, none⟩) M M) := by rw [HG.out.1]; exact hp2.slot (by omega) (by omega)
              have c0 : w2.cell? ⟨g0, c, none⟩ = some (.int .i64 x2) := by rw [HG.out.1, hp2.cell (by omega) (by omega) hcM]; simp
              have c1 : w2.cell? ⟨g0, c + 1, none⟩ = some (.int .i64 x1) := by rw [HG.out.1, hp2.cell (by omega) (by omega) hcM2, hx1]; simp
              have f0 : w2.frozen? ⟨g0, c, none⟩ = false := by rw [HG.out.1]; exact hp2.cellf (by omega) (by omega) c
              have HX1 := Lib.hid hx1
              clear hx1
              go_wp2
              go_region
              have hp3 : PT w (w2.setCell ⟨g0, c, none⟩ (.int .i64 (max (x2 : Int) (x1 : Int)))).drew a.length M ((k : Int) - 1) (fun r c' => if r = k ∧ c' = c then max x2 x1 else val a b k c r c') := by
                have h := hp2.set (v' := fun r c' => if r = k ∧ c' = c then max x2 x1 else val a b k c r c') (r := k) (c := c) (by omega) (by omega) hcM (max x2 x1) (by simp) (fun r' c' _ _ h => by rw [if_neg (by omega), if_neg (by omega)])
                rw [show ((max x2 x1 : Nat) : Int) = max (x2 : Int) (x1 : Int) from by omega, ← HG.out.1] at h
                exact h.drew
              generalize (w2.setCell ⟨g0, c, none⟩ (.int .i64 (max (x2 : Int) (x1 : Int)))).drew = w3 at hp3 ⊢
              clear s0 c0 c1 f0 hp2
              obtain ⟨x3, hx3⟩ : ∃ x3 : Nat, x3 = val a b k c (k + 1) (c + 1) := ⟨_, rfl⟩
              have s0 : w3.cell? ⟨w.heap.size, k, none⟩ = some (.slice (some ⟨g0, 0, none⟩) M M) := by rw [HG.out.1]; exact hp3.slot (by omega) (by omega)
              have s1 : w3.cell? ⟨w.heap.size, k + 1, none⟩ = some (.slice (some ⟨g1, 0, none⟩) M M) := by rw [HG.out.2]; exact hp3.slot (by omega) (by omega)
              have c0 : w3.cell? ⟨g0, c, none⟩ = some (.int .i64 (max (x2 : Int) (x1 : Int))) := by
                rw [HG.out.1, hp3.cell (by omega) (by omega) hcM, show max (x2 : Int) (x1 : Int) = ((max x2 x1 : Nat) : Int) from by omega]; simp
              have c3 : w3.cell? ⟨g1, c + 1, none⟩ = some (.int .i64 x3) := by rw [HG.out.2, hp3.cell (by omega) (by omega) hcM2, hx3]; simp
              have f0 : w3.frozen? ⟨g0, c, none⟩ = false := by rw [HG.out.1]; exact hp3.cellf (by omega) (by omega) c
              obtain ⟨ba, oa, rfl, hba, hca⟩ := (hra.below hp3.below).at_ hka
              obtain ⟨bb, ob, rfl, hbb, hcb2⟩ := (hrb.below hp3.below).at_ hcb
              have HL := Lib.hid (L_step a b hka hcb)
              have HX2 : Hid (x1 = L (a.drop k) (b.drop (c + 1)) ∧ x2 = L (a.drop (k + 1)) (b.drop c) ∧ x3 = L (a.drop (k + 1)) (b.drop (c + 1))) :=
                Lib.hid ⟨HX1.out.trans (val_hit a b k c (c + 1) (by omega)), HX.out.2.trans (val_below a b k c c), hx3.trans (val_below a b k c (c + 1))⟩
              clear HX HX1 hx3
              have hx3b : x3 ≤ 400 := by rw [HX2.out.2.2]; have := L_le_len_a (a.drop (k + 1)) (b.drop (c + 1)); simp at this; omega
              have hwx : IntKind.i64.wrap ((x3 : Int) + 1) = (x3 : Int) + 1 := IntWalk.i64_in _ (by omega)
              by_cases heq : a[k] = b[c]
              · have heqb := eq_yes heq
                have HE := Lib.hid heq
                clear heq
                go_wp2
                go_quiet (fail)
                go_wp2
                go_region
                go_wp2
                go_roundg (gk - 1)
                case measure => omega
                case rel => 
                  refine ⟨(c : Int) - 1, by go_num, by omega, by omega, by omega, ?_, fun h => by omega⟩
                  have h := (hp3.drewN (nq + 1)).set (v' := val a b k ((c : Int) - 1)) (r := k) (c := c) (by omega) (by omega) hcM (max (max x2 x1) (x3 + 1)) (by
                    rw [val_hit _ _ _ _ _ (by omega), HL.out, if_pos HE.out, HX2.out.1, HX2.out.2.1, HX2.out.2.2]; omega) (fun r' c' _ _ h => by rw [val_other a b k c r' c' h, if_neg (by omega)])
                  rw [← HG.out.1, show ((max (max x2 x1) (x3 + 1) : Nat) : Int) = max (x2 : Int) (max (x1 : Int) ((x3 : Int) + 1)) from by omega] at h
                  exact h
              · have heqb := eq_no heq
                have HE := Lib.hid heq
                clear heq
                go_wp2
                go_quiet (fail)
                go_wp2
                go_roundg (gk - 1)
                case measure => omega
                case rel =>
                  refine ⟨(c : Int) - 1, by go_num, by omega, by omega, by omega, ?_, fun h => by omega⟩
                  refine (hp3.drewN nq).congr fun r' c' _ _ _ => ?_
                  by_cases h : r' = k ∧ c' = c
                  · obtain ⟨rfl, rfl⟩ := h
                    rw [if_pos ⟨rfl, rfl⟩, val_hit _ _ _ _ _ (by omega), HL.out, if_neg HE.out, HX2.out.1, HX2.out.2.1]
                    omega
                  · rw [if_neg h, val_other a b k c r' c' (by omega)]
            · go_wp2
              go_roundg (gk - 1)
              case measure => omega
              case rel => exact ⟨(c : Int) - 1, by go_num, by omega, by omega, by omega, by
                have hcl : c = b.length := by omega
                refine hp2.congr fun r c' hr hc hi => ?_
                by_cases he : r = k ∧ c' = c
                · rw [if_pos he, he.1, he.2, val_hit a b k _ c (by omega), hcl, HX.out.2, val_below, hcl, List.drop_eq_nil_of_le (Nat.le_refl _), L_nil', L_nil']
                · rw [if_neg he, val_other a b k c r c' (by omega)], fun h => by omega⟩
          · go_wp2
            go_roundg (gko - 1)
            case measure => omega
            case rel => exact ⟨(k : Int) - 1, by go_num, by omega, by omega, by omega, by
              have hkl : k = a.length := by omega
              have hjl := HLA.out hkl
              refine hpt.congr fun r c' hr hc hi => ?_
              rw [hjl]
              unfold val
              obtain rfl : r = k := by omega
              rw [if_pos (by omega), hkl, List.drop_eq_nil_of_le (Nat.le_refl _), L_nil]
              split <;> rfl⟩
        · have hjm : j = -1 := by omega
          subst hjm
          go_wp2
          go_roundg (gko - 1)
          case measure => omega
          case rel => exact ⟨(k : Int) - 1, by go_num, by omega, by omega, by omega, by
              refine hpt.congr fun r c' hr hc hi => ?_
              rcases val_next a b k r c' with h | h
              · exact h.symm
              · exact absurd hc (by have := HH.out.2; omega)⟩
    · have him : i = -1 := by omega
      subst him
      have hpf : PF w.heap.size wr a.length M (fun r c => L (a.drop r) (b.drop c)) := (hpt.congr fun r c _ hc _ => by unfold val; rw [if_pos (by have := HH.out.2; omega)]).pf
      have hbl := hpt.below
      clear hpt
      go_wp2
      go_loopg [8, 9, 10] (a.length + 1) (fun gk u v z wr => ∃ (i k : Nat) (done : List (Nat × Nat)), v = .int .i64 i ∧ z = .int .i64 k ∧ i ≤ a.length ∧ k ≤ b.length ∧ a.length - i ≤ gk ∧ Hid (prs 0 0 a b = done ++ prs i k (a.drop i) (b.drop k)) ∧
        done.length ≤ i ∧ wr.ownsRow w.heap.size 80 2 u done.length (pcells done) ∧ PF w.heap.size wr a.length M (fun r c => L (a.drop r) (b.drop c)) ∧ Below w.heap.size w wr)
      case atStart => exact ⟨0, 0, [], rfl, rfl, Nat.zero_le _, Nat.zero_le _, by omega, Lib.hid rfl, Nat.le_refl _, ⟨by simp [pcells], .inl ⟨rfl, rfl⟩⟩, hpf, hbl⟩
      case round =>
        clear hpf hbl hi hi0 hi1 hig
        obtain ⟨i, k, done, rfl, rfl, hia, hkb, hgk, HPR, hdl, hown, hpf, hbl⟩ := hrel
        obtain ⟨m, hm⟩ : ∃ m, m = L (a.drop i) (b.drop k) := ⟨_, rfl⟩
        obtain ⟨g0, hg0⟩ : ∃ g0, g0 = w.heap.size + 1 + (a.length - i) := ⟨_, rfl⟩
        have hiN : i < N := by have := HH.out.1; omega
        have hkM : k < M := by have := HH.out.2; omega
        have s0 : wr.cell? ⟨w.heap.size, i, none⟩ = some (.slice (some ⟨g0, 0, none⟩) M M) := by rw [hg0]; exact hpf.slot hia
        have c0 : wr.cell? ⟨g0, k, none⟩ = some (.int .i64 m) := by rw [hg0, hm]; exact hpf.cell hia hkM
        have HMM := Lib.hid hm
        clear hg0 hm
        by_cases hm0 : 0 < m
        · have HF := Lib.hid (refFirst_any A B ca cb w.heap.size N M m i k w.heap.size (fun r => w.heap.size + 1 + (a.length - r)) a b wr (hra.below hbl) (hrb.below hbl) hna hnb HH.out.1 HH.out.2 hia hkb HMM.out.symm hm0 (fun r hr => hpf.slot hr) (fun r c hr hc => hpf.cell hr hc))
          go_wp2_with (first
            | (go_at_call 46; refine HF.out.mono ?_; rintro e w2 ⟨x, y, rfl, ⟨q, rfl⟩, hix, hxa, hyb, hpr⟩; have HPX := Lib.hid hpr; clear hpr)
            | (at_builtin; refine wpList_append_own _ rfl (.tmp 132) (.tmp 136) _ rfl w.heap.size 80 i0 _ 2 16 Tryd.underlying57 hi0 hz0 hz1 hz2 rfl (by decide) _ _ _ rfl ((own_drewN hown _).alloc _) ⟨wr.heap.size, 0, none⟩ 1 1 [.int .i64 x, .int .i64 y] rfl rfl (cell_two_new _ _ _ _) (by intro u hu; simp at hu; rcases hu with rfl | rfl <;> rfl) (by unfold maxLen; omega) (by omega) (by have := hbl.size; simp; omega) ?_; intro v1 w1 hown1 hg1 _))
          have hpf1 := ((hpf.drewN q).alloc (.cells #[.int .i64 x, .int .i64 y] 80)).grown ((own_drewN hown q).alloc _) (by decide) (by decide) hg1
          have hbl1 : Below w.heap.size w w1 := ((⟨hbl.os, hbl.tape, hbl.output, hbl.size, hbl.block⟩ : Below w.heap.size w (wr.drewN q)).alloc hbl.size (.cells #[.int .i64 x, .int .i64 y] 80)).grown hg1 (by have := hbl.size; simp; omega) (fun g hg => (hown.lt g hg).1)
          have HR : Hid (prs 0 0 a b = (done ++ [(x, y)]) ++ prs (x + 1) (y + 1) (a.drop (x + 1)) (b.drop (y + 1))) := Lib.hid (by rw [HPR.out, HPX.out]; simp)
          clear hg1 hown hpf s0 c0 HF
          go_wp2
          go_roundg (gk - 1)
          case measure => omega
          case rel => exact ⟨x + 1, y + 1, done ++ [(x, y)], by go_num, by go_num, by omega, by omega, by omega, HR, by simp; omega, by rw [pcells_snoc, List.length_append]; exact hown1, hpf1, hbl1⟩
        · have hm00 : m = 0 := by omega
          have HE : Hid (prs i k (a.drop i) (b.drop k) = []) := Lib.hid (List.eq_nil_of_length_eq_zero (by rw [prs_len, ← HMM.out, hm00]))
          go_wp2
          go_ret
          have e : prs 0 0 a b = done := by rw [HPR.out, HE.out, List.append_nil]
          exact ⟨u8, rfl, by rw [e]; exact hown, hbl⟩
end Go.Proofs.YtafhefhhndmdkaaDoor
