/- merge.common returns the common lines of two lists of lines; for lists of at most 400 lines. -/
import Derived.Test.YtafhefhhndmdkaaDoorMgRow
import Derived.Test.YtafhefhhndmdkaaDoorMgTab
import Derived.Test.YtafhefhhndmdkaaDoorMgShelf
import Derived.Deep.QuietTactic
import Derived.BigQuiet
import Derived.StillTailTactics
import Derived.BigRegion
namespace Go.Proofs.YtafhefhhndmdkaaDoor
open Go.RowKit Mg

theorem int_info : (Tryd.prog.info? 3).map (fun i => (i.zero, i.size, i.bytes)) = some (some (.int .i64 0), 1, 8) := by kernel_rfl
theorem pair_info : (Tryd.prog.info? 52).map (fun i => (i.zero, i.size, i.bytes)) = some (some (.agg #[.int .i64 0, .int .i64 0]), 2, 16) := by kernel_rfl

theorem CMem.row {w wr : World} {na nb N : Nat} {v : Nat → Nat → Nat} (h : CMem w wr na nb N v) (hb : N ≤ 1000000) (i : Int) (k p : Nat) (hi : i = k) (hk : k ≤ na) (hp : p = k * (nb + 1)) :
    Calls Tryd.prog 44 #[.int .i64 i, .pointer (some ⟨w.heap.size + 1 + 1, 0, none⟩), .pointer (some ⟨w.heap.size, 0, none⟩)] wr fun e w' => e = .returned (.slice (some ⟨w.heap.size + 1, p, none⟩) (nb + 1) (nb + 1)) ∧ wr = w' := by
  have h1 : (k + 1) * (nb + 1) ≤ (na + 1) * (nb + 1) := Nat.mul_le_mul_right _ (by omega)
  have h2 : (k + 1) * (nb + 1) = k * (nb + 1) + (nb + 1) := by rw [Nat.succ_mul]
  exact row_at k _ _ _ N (nb + 1) p wr hp (by have := h.size; omega) (by omega) hb (by rw [h.tb.cell]; rfl) (by rw [h.wid.cell]; push_cast; rfl) i hi

theorem idxFromS_eq (x : ByteArray) : ∀ (ls : List ByteArray) (i : Nat), Lib.idxFromS ls x i = match idx x ls with | none => -1 | some k => ((i + k : Nat) : Int)
  | [], i => rfl
  | z :: ls, i => by
    unfold Lib.idxFromS idx
    by_cases h : z = x
    · simp [h]
    · rw [if_neg h, if_neg h, idxFromS_eq x ls (i + 1)]
      cases idx x ls with
      | none => rfl
      | some k => exact congrArg Int.ofNat (by omega : i + 1 + k = i + (k + 1))
theorem idxOfS_none {x : ByteArray} {ls : List ByteArray} (h : idx x ls = none) : Lib.idxOfS ls x = -1 := by
  unfold Lib.idxOfS; rw [idxFromS_eq, h]
theorem idxOfS_some {x : ByteArray} {ls : List ByteArray} {k : Nat} (h : idx x ls = some k) : Lib.idxOfS ls x = k := by
  unfold Lib.idxOfS; rw [idxFromS_eq, h]; simp
theorem index_any {B c n : Nat} {A : Option Addr} {ls : List ByteArray} (x : ByteArray) {w : World} (h : Strs w B A c ls) (hn : n = ls.length) (hl : ls.length ≤ 1000000) (r : Int) (hr : Lib.idxOfS ls x = r) :
    Calls Tryd.prog 45 #[.slice A n c, .string x] w fun e w' => e = .returned (.int .i64 r) ∧ w = w' := by
  subst hn
  rcases Nat.eq_zero_or_pos ls.length with h0 | h0
  · obtain rfl : ls = [] := List.eq_nil_of_length_eq_zero h0
    exact (Tryd.slices_Index_string_empty A c x w).mono fun _ _ ⟨h1, h2⟩ => ⟨by rw [h1, hr], h2.symm⟩
  · obtain ⟨b, o, rfl, _⟩ := h.at_ h0
    refine (Tryd.slices_Index_string b o ls.length c ls x w (Nat.le_refl _) (by omega) fun j hj => ?_).mono fun _ _ ⟨h1, h2⟩ => ⟨by rw [h1, List.take_length, hr], h2.symm⟩
    obtain ⟨b', o', h1, _, h3⟩ := h.at_ hj
    simp only [Option.some.injEq, Addr.mk.injEq] at h1
    obtain ⟨rfl, rfl, _⟩ := h1
    rw [h3, List.getD_eq_getElem?_getD, List.getElem?_eq_getElem hj]; rfl

theorem quiet2 {P : Program} {f : FuncId} {args : Array Value} {w : World} {a n : Nat} {v : Value}
    (h : Calls P f args (w.drewN (a + n)) fun e w' => e = .returned v ∧ w' = w.drewN (a + n)) : Calls P f args (w.drewN (a + n)) fun e w'' => e = .returned v ∧ ∃ m, w'' = w.drewN (a + m) :=
  h.mono fun _ _ ⟨he, hm⟩ => ⟨he, n, hm⟩
/-- the cells of pairs -/
def pcells (l : List (Nat × Nat)) : List Value := l.flatMap fun p => [.int .i64 p.1, .int .i64 p.2]
theorem pcells_snoc (l : List (Nat × Nat)) (i j : Nat) : pcells (l ++ [(i, j)]) = pcells l ++ [.int .i64 i, .int .i64 j] := by
  simp [pcells]
theorem pcells_get : ∀ {l : List (Nat × Nat)} {t p1 p2 : Nat}, l[t]? = some (p1, p2) → (pcells l)[t * 2]? = some (.int .i64 p1) ∧ (pcells l)[t * 2 + 1]? = some (.int .i64 p2)
  | [], t, _, _, h => by simp at h
  | p :: l, 0, p1, p2, h => by simp at h; subst h; simp [pcells]
  | p :: l, t + 1, p1, p2, h => by
    have := pcells_get (l := l) (t := t) (p1 := p1) (p2 := p2) (by simpa using h)
    rw [show (t + 1) * 2 = t * 2 + 2 from by omega]
    simpa [pcells] using this

set_option maxHeartbeats 4000000 in
set_option maxRecDepth 100000 in
theorem common_any (A B : Option Addr) (ca cb : Nat) (a b : List ByteArray) (w : World) (hra : Strs w w.heap.size A ca a) (hrb : Strs w w.heap.size B cb b) (hna : a.length ≤ 400) (hnb : b.length ≤ 400) :
    Calls Tryd.prog 25 #[.slice A a.length ca, .slice B b.length cb] w fun e w' => ∃ v, e = .returned v ∧
      w'.ownsRow w.heap.size 52 2 v (prs 0 0 a b).length (pcells (prs 0 0 a b)) ∧ Below w.heap.size w w' := by
  obtain ⟨N, hN⟩ : ∃ N, N = (a.length + 1) * (b.length + 1) := ⟨_, rfl⟩
  have hN2 : N ≤ 401 * 401 := by rw [hN]; exact Nat.mul_le_mul (by omega) (by omega)
  have HN : ((a.length : Int) + 1) * ((b.length : Int) + 1) = (N : Int) := by rw [hN]; push_cast; rfl
  have hmk := run_make_row' (P := Tryd.prog) 83 3 (.int .i64 0) 8 Tryd.underlying83 int_info rfl .i64 .i64 N (by omega) (by omega)
  obtain ⟨i0, hi0, hz0, hz1, hz2⟩ := info_parts pair_info
  have HH := Lib.hid hN
  clear hN
  go_enter Tryd.func25, Tryd.ntmps25
  go_wp2
  go_loopg [8] a.length (fun gk v wr => ∃ i : Int, v = .int .i64 i ∧ -1 ≤ i ∧ i < a.length ∧ i + 1 ≤ gk ∧ CMem w wr a.length b.length N (val a b i b.length))
  case atStart =>
    exact ⟨_, rfl, by omega, by omega, by omega, cmem_start w a b N HH.out⟩
  case round =>
    obtain ⟨i, rfl, hi0, hi1x, hig, hcm⟩ := hrel
    by_cases hi : 0 ≤ i
    · obtain ⟨k, rfl⟩ := Int.eq_ofNat_of_zero_le hi
      obtain ⟨p, hp⟩ : ∃ p, p = k * (b.length + 1) := ⟨_, rfl⟩
      have hq : p + (b.length + 1) = (k + 1) * (b.length + 1) := by rw [Nat.succ_mul, hp]
      have HP := Lib.hid hp
      have HQ := Lib.hid hq
      clear hp hq
      go_wp2_with (first
        | (go_at_call 44; refine (hcm.row (by omega) _ k p ?_ (by omega) HP.out).mono ?_; omega; rintro e w1 ⟨rfl, rfl⟩)
        | (go_at_call 44; refine (hcm.row (by omega) _ (k + 1) (p + (b.length + 1)) ?_ (by omega) HQ.out).mono ?_; omega; rintro e w1 ⟨rfl, rfl⟩))
      have hcm0 : CMem w wr a.length b.length N (val a b k ((b.length : Int) - 1)) := hcm.congr fun r c _ hc => val_edge a b k r c hc
      clear hcm
      obtain ⟨wo, rfl⟩ : ∃ wo : World, wo = wr := ⟨_, rfl⟩
      obtain ⟨gko, rfl⟩ : ∃ gko : Nat, gko = gk := ⟨_, rfl⟩
      go_loopg [11] b.length (fun gk v wr => ∃ j : Int, v = .int .i64 j ∧ -1 ≤ j ∧ j < b.length ∧ j + 1 ≤ gk ∧ CMem w wr a.length b.length N (val a b k j))
      case atStart => exact ⟨_, rfl, by omega, by omega, by omega, hcm0⟩
      case round =>
        clear hcm0
        obtain ⟨j, rfl, hj0, hj1, hjg, hcm⟩ := hrel
        by_cases hj : 0 ≤ j
        · obtain ⟨c, rfl⟩ := Int.eq_ofNat_of_zero_le hj
          have hka : k < a.length := by omega
          have hcb : c < b.length := by omega
          obtain ⟨x0, hx0⟩ : ∃ x0 : Nat, x0 = val a b k c k c := ⟨_, rfl⟩
          obtain ⟨x1, hx1⟩ : ∃ x1 : Nat, x1 = val a b k c k (c + 1) := ⟨_, rfl⟩
          obtain ⟨x2, hx2⟩ : ∃ x2 : Nat, x2 = val a b k c (k + 1) c := ⟨_, rfl⟩
          obtain ⟨x3, hx3⟩ : ∃ x3 : Nat, x3 = val a b k c (k + 1) (c + 1) := ⟨_, rfl⟩
          have c0 : wr.cell? ⟨w.heap.size + 1, p + c, none⟩ = some (.int .i64 x0) := by rw [hx0]; exact hcm.cell (by omega) (by omega) HP.out
          have c1 : wr.cell? ⟨w.heap.size + 1, p + (c + 1), none⟩ = some (.int .i64 x1) := by rw [hx1]; exact hcm.cell (by omega) (by omega) HP.out
          have c2 : wr.cell? ⟨w.heap.size + 1, p + (b.length + 1) + c, none⟩ = some (.int .i64 x2) := by rw [hx2]; exact hcm.cell (by omega) (by omega) HQ.out
          have f0 : wr.frozen? ⟨w.heap.size + 1, p + c, none⟩ = false := hcm.tab.frozen _
          have HX := Lib.hid (And.intro hx0 (And.intro hx1 (And.intro hx2 hx3)))
          clear hx0 hx1 hx2 hx3
          go_wp2
          go_region
          have hcm2 : CMem w (wr.setCell ⟨w.heap.size + 1, p + c, none⟩ (.int .i64 (max (x1 : Int) (x2 : Int)))).drew a.length b.length N (fun r c' => if r = k ∧ c' = c then max x1 x2 else val a b k c r c') := by
            have h := hcm.set (v' := fun r c' => if r = k ∧ c' = c then max x1 x2 else val a b k c r c') (r := k) (c := c) (p := p) (by omega) (by omega) HP.out (max x1 x2) (by simp) (fun r' c' _ _ h => if_neg (by omega))
            rw [show ((max x1 x2 : Nat) : Int) = max (x1 : Int) (x2 : Int) from by omega] at h
            exact h.drew
          have fb := hcm.top
          generalize (wr.setCell ⟨w.heap.size + 1, p + c, none⟩ (.int .i64 (max (x1 : Int) (x2 : Int)))).drew = w2 at hcm2 ⊢
          clear c0 c1 c2 f0 hcm fb
          have c0 : w2.cell? ⟨w.heap.size + 1, p + c, none⟩ = some (.int .i64 (max (x1 : Int) (x2 : Int))) := by
            rw [show max (x1 : Int) (x2 : Int) = ((max x1 x2 : Nat) : Int) from by omega]
            have h := hcm2.cell (r := k) (c := c) (p := p) (by omega) (by omega) HP.out
            simpa using h
          have c3 : w2.cell? ⟨w.heap.size + 1, p + (b.length + 1) + (c + 1), none⟩ = some (.int .i64 x3) := by
            have h := hcm2.cell (r := k + 1) (c := c + 1) (p := p + (b.length + 1)) (by omega) (by omega) HQ.out
            rw [h, HX.out.2.2.2]
            simp
          have f0 : w2.frozen? ⟨w.heap.size + 1, p + c, none⟩ = false := hcm2.tab.frozen _
          obtain ⟨ba, oa, rfl, hba, hca⟩ := (hra.below hcm2.below).at_ hka
          obtain ⟨bb, ob, rfl, hbb, hcb2⟩ := (hrb.below hcm2.below).at_ hcb
          have HL := Lib.hid (L_step a b hka hcb)
          have HX2 : Hid (x1 = L (a.drop k) (b.drop (c + 1)) ∧ x2 = L (a.drop (k + 1)) (b.drop c) ∧ x3 = L (a.drop (k + 1)) (b.drop (c + 1))) :=
            Lib.hid ⟨HX.out.2.1.trans (val_hit a b k c (c + 1) (by omega)), HX.out.2.2.1.trans (val_below a b k c c), HX.out.2.2.2.trans (val_below a b k c (c + 1))⟩
          clear HX
          have hx3b : x3 ≤ 400 := by rw [HX2.out.2.2]; have := L_le_len_a (a.drop (k + 1)) (b.drop (c + 1)); simp at this; omega
          by_cases heq : a[k] = b[c]
          · have heqb := eq_yes heq
            have HE := Lib.hid heq
            clear heq
            go_wp2
            go_quiet (fail)
            go_wp2
            go_region
            go_wp2
            go_roundg c
            case measure => omega
            case rel =>
              refine ⟨_, rfl, by omega, by omega, by omega, ?_⟩
              have h := (hcm2.drewN (nq + 1)).set (v' := val a b k ((c : Int) - 1)) (r := k) (c := c) (p := p) (by omega) (by omega) HP.out (max x1 (max x2 (1 + x3))) (by
                rw [val_hit _ _ _ _ _ (by omega), HL.out, if_pos HE.out, HX2.out.1, HX2.out.2.1, HX2.out.2.2, Nat.max_assoc]) (fun r' c' _ _ h => by rw [val_other a b k c r' c' h, if_neg (by omega)])
              rw [show ((max x1 (max x2 (1 + x3)) : Nat) : Int) = max (x1 : Int) (max (x2 : Int) (1 + (x3 : Int))) from by omega] at h
              exact h
          · have heqb := eq_no heq
            have HE := Lib.hid heq
            clear heq
            go_wp2
            go_quiet (fail)
            go_wp2
            go_roundg c
            case measure => omega
            case rel =>
              refine ⟨_, rfl, by omega, by omega, by omega, ?_⟩
              refine (hcm2.drewN nq).congr fun r' c' _ _ => ?_
              by_cases h : r' = k ∧ c' = c
              · obtain ⟨rfl, rfl⟩ := h
                rw [if_pos ⟨rfl, rfl⟩, val_hit _ _ _ _ _ (by omega), HL.out, if_neg HE.out, HX2.out.1, HX2.out.2.1]
                omega
              · rw [if_neg h, val_other a b k c r' c' (by omega)]
        · have hjm : j = -1 := by omega
          subst hjm
          have hcm1 : CMem w wr a.length b.length N (val a b ((k : Int) - 1) b.length) := hcm.congr fun r c _ hc => by
            rcases val_next a b k r c with h | h
            · exact h.symm
            · exact absurd hc h
          clear hcm
          go_wp2
          go_roundg k
          case measure => omega
          case rel => exact ⟨_, rfl, by omega, by omega, by omega, hcm1⟩
    · have him : i = -1 := by omega
      subst him
      have hcm1 : CMem w wr a.length b.length N (fun r c => L (a.drop r) (b.drop c)) := hcm.congr fun r c _ hc => by
        unfold val
        rw [if_pos (by omega)]
      clear hcm
      go_wp2
      go_loopg [12, 13, 85] a.length (fun gk u v z wr => ∃ (i j : Nat) (done : List (Nat × Nat)), z = .int .i64 i ∧ v = .int .i64 j ∧ i ≤ a.length ∧ j ≤ b.length ∧ a.length - i ≤ gk ∧ prs 0 0 a b = done ++ prs i j (a.drop i) (b.drop j) ∧
        done.length ≤ i ∧ wr.ownsRow w.heap.size 52 2 u done.length (pcells done) ∧ CMem w wr a.length b.length N (fun r c => L (a.drop r) (b.drop c)))
      case atStart => exact ⟨0, 0, [], rfl, rfl, Nat.zero_le _, Nat.zero_le _, by omega, rfl, Nat.le_refl _, ⟨by simp [pcells], .inl ⟨rfl, rfl⟩⟩, hcm1⟩
      case round =>
        clear hcm1 hi hi0 hi1x hig
        obtain ⟨i, j, done, rfl, rfl, hia, hjb, hgk, hprs, hdl, hown, hcm⟩ := hrel
        have HPR := Lib.hid hprs
        clear hprs
        by_cases hlt : i < a.length
        · obtain ⟨ba, oa, rfl, hba, hca⟩ := (hra.below hcm.below).at_ hlt
          obtain ⟨p, hp⟩ : ∃ p, p = i * (b.length + 1) := ⟨_, rfl⟩
          have hq : p + (b.length + 1) = (i + 1) * (b.length + 1) := by rw [Nat.succ_mul, hp]
          have HP := Lib.hid hp
          have HQ := Lib.hid hq
          clear hp hq
          have hsb := (hrb.below hcm.below).cutIf j
          have hwi : IntKind.i64.wrap ((i : Int) + 1) = (i : Int) + 1 := IntWalk.i64_in _ (by omega)
          rcases hix : idx a[i] (b.drop j) with _ | k
          · have HI := Lib.hid (idxOfS_none hix)
            have HR : Hid (prs 0 0 a b = done ++ prs (i + 1) j (a.drop (i + 1)) (b.drop j)) := Lib.hid (by
              rw [HPR.out, List.drop_eq_getElem_cons hlt, prs_none _ _ _ hix])
            have HC := Lib.hid (fun m : Nat => (index_any (ls := b.drop j) (n := b.length - j) a[i] (hsb.drewN m) (by simp) (by simp; omega) _ HI.out).mono fun _ _ h => And.intro h.1 h.2.symm)
            clear hix
            go_wp2
            go_quiet ((go_at_call 45; exact Calls.quiet_of_same (HC.out _)))
            clear hsb
            generalize (if cb = j then B else Option.map (fun x => x.add j) B) = Bx
            go_wp2
            go_quiet (fail)
            go_wp2
            go_roundg (gk - 1)
            case measure => omega
            case rel => exact ⟨i + 1, j, done, by go_num, rfl, by omega, hjb, by omega, HR.out, by omega, hown, hcm.drewN _⟩
          · obtain ⟨hk1, hk2, hk3⟩ := idx_some hix
            have hjk : j + k < b.length := by simp at hk1; omega
            clear hk1 hk2 hk3
            have HI := Lib.hid (idxOfS_some hix)
            have HC := Lib.hid (fun m : Nat => (index_any (ls := b.drop j) (n := b.length - j) a[i] (hsb.drewN m) (by simp) (by simp; omega) _ HI.out).mono fun _ _ h => And.intro h.1 h.2.symm)
            have HR1 := Lib.hid (fun m : Nat => ((hcm.drewN m).row (by omega) ((i : Int) + 1) (i + 1) (p + (b.length + 1)) (by omega) (by omega) HQ.out).mono fun _ _ h => And.intro h.1 h.2.symm)
            have HR0 := Lib.hid (fun m : Nat => ((hcm.drewN m).row (by omega) (i : Int) i p (by omega) (by omega) HP.out).mono fun _ _ h => And.intro h.1 h.2.symm)
            obtain ⟨x0, hx0⟩ : ∃ x0 : Nat, x0 = L (a.drop i) (b.drop j) := ⟨_, rfl⟩
            obtain ⟨x1, hx1⟩ : ∃ x1 : Nat, x1 = L (a.drop (i + 1)) (b.drop (j + k + 1)) := ⟨_, rfl⟩
            have c0 : wr.cell? ⟨w.heap.size + 1, p + j, none⟩ = some (.int .i64 x0) := by rw [hx0]; exact hcm.cell (r := i) (c := j) (by omega) (by omega) HP.out
            have c1 : wr.cell? ⟨w.heap.size + 1, p + (b.length + 1) + (j + k + 1), none⟩ = some (.int .i64 x1) := by rw [hx1]; exact hcm.cell (r := i + 1) (c := j + k + 1) (by omega) (by omega) HQ.out
            have hx0b : x0 ≤ 400 := by rw [hx0]; have := L_le_len_a (a.drop i) (b.drop j); simp at this; omega
            have hx1b : x1 ≤ 400 := by rw [hx1]; have := L_le_len_a (a.drop (i + 1)) (b.drop (j + k + 1)); simp at this; omega
            have hw1 : IntKind.i64.wrap ((j : Int) + (k : Int)) = (j : Int) + (k : Int) := IntWalk.i64_in _ (by omega)
            have hw2 : IntKind.i64.wrap ((j : Int) + (k : Int) + 1) = (j : Int) + (k : Int) + 1 := IntWalk.i64_in _ (by omega)
            have hw3 : IntKind.i64.wrap (1 + (x1 : Int)) = 1 + (x1 : Int) := IntWalk.i64_in _ (by omega)
            have hw4 : ((j : Int) + (k : Int) + 1).toNat = j + k + 1 := by omega
            have hw5 : 0 ≤ (j : Int) + (k : Int) + 1 := by omega
            have hw6 : (j : Int) + (k : Int) + 1 < ((b.length + 1 : Nat) : Int) := by omega
            have hw7 : (j : Int) < ((b.length + 1 : Nat) : Int) := by omega
            by_cases hk : 1 + x1 = x0
            · have HR : Hid (prs 0 0 a b = (done ++ [(i, j + k)]) ++ prs (i + 1) (j + (k + 1)) (a.drop (i + 1)) (b.drop (j + (k + 1)))) := Lib.hid (by
                have e : (b.drop j).drop (k + 1) = b.drop (j + k + 1) := by rw [List.drop_drop]; rfl
                rw [HPR.out, List.drop_eq_getElem_cons hlt, prs_some _ _ _ hix (by rw [e, ← hx1, ← List.drop_eq_getElem_cons hlt, ← hx0]; exact hk), e]
                simp [Nat.add_assoc])
              have hkb : ((1 + (x1 : Int)) == (x0 : Int)) = true := by rw [beq_iff_eq]; omega
              clear hx0 hx1 hk hix
              go_wp2
              go_quiet ((go_at_call 45; exact Calls.quiet_of_same (HC.out _)))
              clear hsb
              generalize (if cb = j then B else Option.map (fun x => x.add j) B) = Bx
              go_wp2
              go_quiet ((go_at_call 44; first | (with_reducible exact quiet2 (HR1.out _)) | (with_reducible exact quiet2 (HR0.out _))))
              go_wp2_with (at_builtin; refine wpList_append_own _ rfl (.tmp 118) (.tmp 124) _ rfl w.heap.size 52 i0 _ 2 16 Tryd.underlying53 hi0 hz0 hz1 hz2 rfl (by decide) _ _ _ rfl ((own_drewN hown _).alloc _) ⟨wr.heap.size, 0, none⟩ 1 1 [.int .i64 i, .int .i64 ((j : Int) + (k : Int))] rfl rfl (cell_two_new _ _ _ _) (by intro u hu; simp at hu; rcases hu with rfl | rfl <;> rfl) (by unfold maxLen; omega) (by omega) (by have := hcm.below.size; simp; omega) ?_; intro v1 w1 hown1 hg1 _)
              have hcm1 : CMem w w1 a.length b.length N (fun r c => L (a.drop r) (b.drop c)) := ((hcm.drewN _).alloc _).grown ((own_drewN hown _).alloc _) (by decide) (by decide) hg1
              clear hg1 hown
              go_wp2
              go_roundg (gk - 1)
              case measure => omega
              case rel => exact ⟨i + 1, j + (k + 1), done ++ [(i, j + k)], by go_num, by go_num, by omega, by omega, by omega, HR.out, by simp; omega, by rw [pcells_snoc, List.length_append]; exact hown1, hcm1⟩
            · have HR : Hid (prs 0 0 a b = done ++ prs (i + 1) j (a.drop (i + 1)) (b.drop j)) := Lib.hid (by
                have e : (b.drop j).drop (k + 1) = b.drop (j + k + 1) := by rw [List.drop_drop]; rfl
                rw [HPR.out, List.drop_eq_getElem_cons hlt, prs_pass _ _ _ hix (by rw [e, ← hx1, ← List.drop_eq_getElem_cons hlt, ← hx0]; exact hk)])
              have hkb : ((1 + (x1 : Int)) == (x0 : Int)) = false := by rw [beq_eq_false_iff_ne]; omega
              clear hx0 hx1 hk hix
              go_wp2
              go_quiet ((go_at_call 45; exact Calls.quiet_of_same (HC.out _)))
              clear hsb
              generalize (if cb = j then B else Option.map (fun x => x.add j) B) = Bx
              go_wp2
              go_quiet ((go_at_call 44; first | (with_reducible exact quiet2 (HR1.out _)) | (with_reducible exact quiet2 (HR0.out _))))
              go_wp2
              go_roundg (gk - 1)
              case measure => omega
              case rel => exact ⟨i + 1, j, done, by go_num, rfl, by omega, by omega, by omega, HR.out, by omega, own_drewN hown _, hcm.drewN _⟩
        · have hie : i = a.length := by omega
          subst hie
          go_wp2
          go_ret
          refine ⟨_, rfl, ?_, hcm.below⟩
          rw [HPR.out, List.drop_length]
          simpa [prs] using hown
end Go.Proofs.YtafhefhhndmdkaaDoor
