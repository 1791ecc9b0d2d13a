/- stockyardref16.Equal: whether two lists of lines are equal; and pieces in memory, read one by one. Lists of at most a million lines. -/
import Derived.Test.YtafhefhhndmdkaaDoorMgPcs
namespace Go.Proofs.YtafhefhhndmdkaaDoor
open Go.RowKit Mg

theorem getD_at (l : List ByteArray) (k : Nat) (h : k < l.length) : l.getD k ByteArray.empty = l[k] := by rw [List.getD_eq_getElem?_getD, List.getElem?_eq_getElem h]; rfl
theorem ret_bool {a b : Bool} (h : a = b) : Ending.returned (.bool a) = .returned (.bool b) := by rw [h]
set_option maxHeartbeats 2000000 in
theorem refEqual_any {w : World} (A C : Option Addr) (ca cc n m : Nat) (la lb : List ByteArray) {B : Nat} (ha : Strs w B A ca la) (hb : Strs w B C cc lb) (hn : n = la.length) (hm : m = lb.length) (hna : n ≤ 1000000) (hnb : m ≤ 1000000) (d : Bool) (hd : decide (la = lb) = d) :
    Calls Tryd.prog 13 #[.slice A n ca, .slice C m cc] w fun e w' => e = .returned (.bool d) ∧ ∃ q, w' = w.drewN q := by
  have HN := Lib.hid hn
  have HM := Lib.hid hm
  have HD := Lib.hid hd
  clear hn hm hd
  by_cases hnm : n = m
  · subst hnm
    go_enter Tryd.func13, Tryd.ntmps13
    go_wp2
    go_loopw [13] (fun iv wr => ∃ k : Nat, k ≤ n ∧ iv = .int .i64 k ∧ (∃ q, wr = w.drewN q) ∧ Hid (la.take k = lb.take k)) (fun iv _ => n - (intOf iv).toNat)
    case atStart => exact ⟨0, Nat.zero_le _, rfl, ⟨0, rfl⟩, Lib.hid rfl⟩
    case round =>
      obtain ⟨k, hk, rfl, ⟨q, rfl⟩, HT⟩ := hrel
      by_cases hlt : k < n
      · have hka : k < la.length := by rw [← HN.out]; exact hlt
        have hkb : k < lb.length := by rw [← HM.out]; exact hlt
        obtain ⟨b1, o1, rfl, _, c1⟩ := ha.at_ hka
        obtain ⟨b2, o2, rfl, _, c2⟩ := hb.at_ hkb
        have i1 : (0 : Int) ≤ (k : Int) := by omega
        have i2 : (k : Int) < (n : Int) := by omega
        by_cases he : la[k] = lb[k]
        · have hne : (la[k].toList == lb[k].toList) = true := by rw [he]; simp
          have HE : Hid (la.take (k + 1) = lb.take (k + 1)) := Lib.hid (by rw [List.take_succ_eq_append_getElem hka, List.take_succ_eq_append_getElem hkb, HT.out, he])
          clear he
          go_wp2
          go_quiet (fail)
          go_wp2
          go_roundw
          case rel => exact ⟨k + 1, by omega, by go_num, ⟨_, rfl⟩, HE⟩
          case measure => simp [intOf]; omega
        · have hne : (la[k].toList == lb[k].toList) = false := by
            rw [beq_eq_false_iff_ne]
            exact fun e => he (by have h1 : la[k].data = lb[k].data := Array.toList_inj.1 (by rw [← Lib.toList_data, ← Lib.toList_data]; exact e); exact ByteArray.ext h1)
          have HE : Hid (la ≠ lb) := Lib.hid (fun e => he (by subst e; rfl))
          clear he
          go_wp2
          go_quiet (fail)
          go_wp2
          go_ret
          exact ⟨ret_bool (by rw [← HD.out, decide_eq_false HE.out]), _, World.drewN_drewN _ _ _⟩
      · have hkn : k = n := by omega
        have HE : Hid (la = lb) := Lib.hid (by have := HT.out; rwa [List.take_of_length_le (by rw [← HN.out]; omega), List.take_of_length_le (by rw [← HM.out]; omega)] at this)
        go_wp2
        go_ret
        exact ⟨ret_bool (by rw [← HD.out, decide_eq_true HE.out]), _, rfl⟩
  · go_enter Tryd.func13, Tryd.ntmps13
    go_wp2
    go_ret
    exact ⟨ret_bool (by rw [← HD.out, decide_eq_false (fun e => hnm (by rw [HN.out, HM.out, e]))]), 0, rfl⟩

/-- pieces in memory, one by one -/
def PcsAt (w : World) (B : Nat) (A : Option Addr) (ps : List Pc) : Prop :=
  ∀ (j : Nat) (p : Pc), ps[j]? = some p → ∃ b o A0 c0 A1 c1 A2 c2, A = some ⟨b, o, none⟩ ∧ b < B ∧ w.cell? ⟨b, o + j * 4, none⟩ = some (.int .i64 p.1) ∧ w.cell? ⟨b, o + j * 4 + 1, none⟩ = some (.slice A0 p.2.1.length c0) ∧
    w.cell? ⟨b, o + j * 4 + 2, none⟩ = some (.slice A1 p.2.2.1.length c1) ∧ w.cell? ⟨b, o + j * 4 + 3, none⟩ = some (.slice A2 p.2.2.2.length c2) ∧ Strs w B A0 c0 p.2.1 ∧ Strs w B A1 c1 p.2.2.1 ∧ Strs w B A2 c2 p.2.2.2
theorem PcsAt.below {w w' : World} {B : Nat} {A : Option Addr} {ps : List Pc} (h : PcsAt w B A ps) (hb : Below B w w') : PcsAt w' B A ps := fun j p hj => by
  obtain ⟨b, o, A0, c0, A1, c1, A2, c2, h1, h2, h3, h4, h5, h6, h7, h8, h9⟩ := h j p hj
  exact ⟨b, o, A0, c0, A1, c1, A2, c2, h1, h2, (hb.cell (p := ⟨b, o + j * 4, none⟩) h2).trans h3, (hb.cell (p := ⟨b, o + j * 4 + 1, none⟩) h2).trans h4, (hb.cell (p := ⟨b, o + j * 4 + 2, none⟩) h2).trans h5, (hb.cell (p := ⟨b, o + j * 4 + 3, none⟩) h2).trans h6, h7.below hb, h8.below hb, h9.below hb⟩
theorem PcsAt.more {w : World} {B B' : Nat} {A : Option Addr} {ps : List Pc} (h : PcsAt w B A ps) (hB : B ≤ B') : PcsAt w B' A ps := fun j p hj => by
  obtain ⟨b, o, A0, c0, A1, c1, A2, c2, h1, h2, h3, h4, h5, h6, h7, h8, h9⟩ := h j p hj
  exact ⟨b, o, A0, c0, A1, c1, A2, c2, h1, Nat.lt_of_lt_of_le h2 hB, h3, h4, h5, h6, h7.more hB, h8.more hB, h9.more hB⟩
theorem pccells_get : ∀ (ps : List Pc) (us : List (Value × Value × Value)) (j : Nat) (p : Pc) (u : Value × Value × Value), ps[j]? = some p → us[j]? = some u →
    (pccells ps us)[j * 4]? = some (.int .i64 p.1) ∧ (pccells ps us)[j * 4 + 1]? = some u.1 ∧ (pccells ps us)[j * 4 + 2]? = some u.2.1 ∧ (pccells ps us)[j * 4 + 3]? = some u.2.2
  | [], _, _, _, _, h, _ => by simp at h
  | _ :: _, [], _, _, _, _, h => by simp at h
  | x :: ps, y :: us, 0, p, u, h1, h2 => by
    simp at h1 h2; subst h1 h2
    simp [pccells]
  | x :: ps, y :: us, j + 1, p, u, h1, h2 => by
    have := pccells_get ps us j p u (by simpa using h1) (by simpa using h2)
    rw [show (j + 1) * 4 = j * 4 + 4 from by omega]
    simpa [pccells] using this
theorem PcsAt.of_own {w : World} {base : Nat} {v : Value} {ps : List Pc} {us : List (Value × Value × Value)} (h : w.ownsRow base 76 4 v ps.length (pccells ps us)) (ho : OwnsPcs w base w.heap.size us ps) :
    ∃ A c, v = .slice A ps.length c ∧ ps.length ≤ c ∧ PcsAt w w.heap.size A ps := by
  rcases h.2 with ⟨rfl, h0⟩ | ⟨g, cap, cur, rfl, hb, hh, hnc, _⟩
  · obtain rfl : ps = [] := List.eq_nil_of_length_eq_zero h0
    exact ⟨none, 0, rfl, Nat.le_refl _, fun j x hj => by simp at hj⟩
  · refine ⟨_, _, rfl, hnc, fun j p hj => ?_⟩
    have hjl := (List.getElem?_eq_some_iff.1 hj).1
    obtain ⟨uj, hju⟩ : ∃ uj, us[j]? = some uj := ⟨_, List.getElem?_eq_getElem (by rw [ho.1]; exact hjl)⟩
    obtain ⟨a1, a2, a3⟩ := ho.2 j uj p hju hj
    obtain ⟨A0, c0, e0, s0⟩ := Strs.of_own a1.1
    obtain ⟨A1, c1, e1, s1⟩ := Strs.of_own a2.1
    obtain ⟨A2, c2, e2, s2⟩ := Strs.of_own a3.1
    obtain ⟨g1, g2, g3, g4⟩ := pccells_get ps us j p uj hj hju
    have k1 := h.cells (g := g) rfl _ _ g1
    have k2 := h.cells (g := g) rfl _ _ g2
    have k3 := h.cells (g := g) rfl _ _ g3
    have k4 := h.cells (g := g) rfl _ _ g4
    rw [addr_add] at k1 k2 k3 k4
    rw [e0] at k2
    rw [e1] at k3
    rw [e2] at k4
    exact ⟨g, 0, A0, c0, A1, c1, A2, c2, rfl, (h.lt g rfl).2, k1, k2, k3, k4, s0, s1, s2⟩
end Go.Proofs.YtafhefhhndmdkaaDoor
