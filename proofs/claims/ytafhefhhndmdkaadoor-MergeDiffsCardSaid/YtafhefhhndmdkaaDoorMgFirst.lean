/- stockyardref16.first: the least pair that begins as many pairs as there can be; over the finished table. -/
import Derived.Test.YtafhefhhndmdkaaDoorMgRow
import Derived.Test.YtafhefhhndmdkaaDoorMgPTab
import Derived.Test.YtafhefhhndmdkaaDoorMgCommon
import Derived.IntWalk
namespace Go.Proofs.YtafhefhhndmdkaaDoor
open Go.RowKit Mg

set_option maxHeartbeats 4000000 in
set_option maxRecDepth 100000 in
theorem refFirst_any (A B : Option Addr) (ca cb T N M m i k bd : Nat) (G : Nat → Nat) (a b : List ByteArray) (w : World) (hra : Strs w bd A ca a) (hrb : Strs w bd B cb b) (hna : a.length ≤ 400) (hnb : b.length ≤ 400)
    (hN : N = a.length + 1) (hM : M = b.length + 1) (hi : i ≤ a.length) (hk : k ≤ b.length) (hm : L (a.drop i) (b.drop k) = m) (hm0 : 0 < m)
    (hs : ∀ r, r ≤ a.length → w.cell? ⟨T, r, none⟩ = some (.slice (some ⟨G r, 0, none⟩) M M))
    (hc : ∀ r c, r ≤ a.length → c < M → w.cell? ⟨G r, c, none⟩ = some (.int .i64 (L (a.drop r) (b.drop c)))) :
    Calls Tryd.prog 46 #[.slice A a.length ca, .slice B b.length cb, .slice (some ⟨T, 0, none⟩) N N, .int .i64 i, .int .i64 k] w fun e w' => ∃ x y : Nat, e = .returned (.tuple #[.int .i64 x, .int .i64 y]) ∧
      (∃ q, w' = w.drewN q) ∧ i ≤ x ∧ x < a.length ∧ y < b.length ∧ prs i k (a.drop i) (b.drop k) = (x, y) :: prs (x + 1) (y + 1) (a.drop (x + 1)) (b.drop (y + 1)) := by
  obtain ⟨X, Y, hiX, hXa, hkY, hYb, hB, hno, hpr⟩ := prs_first a b k m (a.length - i) i rfl hm hm0
  have HB := Lib.hid hB
  have HNO := Lib.hid hno
  have HPR := Lib.hid hpr
  clear hB hno hpr
  have HS := Lib.hid hs
  have HC := Lib.hid hc
  have HN := Lib.hid hN
  have HM := Lib.hid hM
  have HMM := Lib.hid hm
  clear hs hc hN hM hm
  go_enter Tryd.func46, Tryd.ntmps46
  go_wp2
  go_loopg [12] (a.length + 1) (fun gk z wr => ∃ x q : Nat, z = .int .i64 x ∧ i ≤ x ∧ x ≤ X ∧ X + 1 - x ≤ gk ∧ wr = w.drewN q)
  case atStart => exact ⟨i, 0, rfl, by omega, hiX, by omega, rfl⟩
  case round =>
    obtain ⟨x, q, rfl, hx0, hxX, hxg, rfl⟩ := hrel
    have hxa : x < a.length := by omega
    go_wp2
    obtain ⟨gko, rfl⟩ : ∃ gko : Nat, gko = gk := ⟨_, rfl⟩
    obtain ⟨qo, rfl⟩ : ∃ qo : Nat, qo = q := ⟨_, rfl⟩
    go_loopg [13] (b.length + 1) (fun gk z wr => ∃ y q : Nat, z = .int .i64 y ∧ k ≤ y ∧ y ≤ b.length ∧ (x = X → y ≤ Y) ∧ b.length - y ≤ gk ∧ wr = w.drewN q)
    case atStart => exact ⟨k, _, rfl, by omega, by omega, fun _ => by omega, by omega, rfl⟩
    case round =>
      obtain ⟨y, q, rfl, hy0, hyb, hyY, hyg, rfl⟩ := hrel
      have HYY := Lib.hid hyY
      clear hyY
      by_cases hyl : y < b.length
      · obtain ⟨ba, oa, rfl, hba, hca⟩ := hra.at_ hxa
        obtain ⟨bb, ob, rfl, hbb, hcb2⟩ := hrb.at_ hyl
        by_cases heq : a[x] = b[y]
        · have heqb := eq_yes heq
          obtain ⟨l1, hl1⟩ : ∃ l1, l1 = L (a.drop (x + 1)) (b.drop (y + 1)) := ⟨_, rfl⟩
          obtain ⟨g0, hg0⟩ : ∃ g0, g0 = G i := ⟨_, rfl⟩
          obtain ⟨g1, hg1⟩ : ∃ g1, g1 = G (x + 1) := ⟨_, rfl⟩
          have hxN : x + 1 < N := by have := HN.out; omega
          have hiN : i < N := by have := HN.out; omega
          have hyM : y + 1 < M := by have := HM.out; omega
          have hkM : k < M := by have := HM.out; omega
          have s1 : w.cell? ⟨T, x + 1, none⟩ = some (.slice (some ⟨g1, 0, none⟩) M M) := by rw [hg1]; exact HS.out _ (by omega)
          have s0 : w.cell? ⟨T, i, none⟩ = some (.slice (some ⟨g0, 0, none⟩) M M) := by rw [hg0]; exact HS.out _ hi
          have c1 : w.cell? ⟨g1, y + 1, none⟩ = some (.int .i64 l1) := by rw [hg1, hl1]; exact HC.out _ _ (by omega) hyM
          have c0 : w.cell? ⟨g0, k, none⟩ = some (.int .i64 m) := by rw [hg0, ← HMM.out]; exact HC.out _ _ hi hkM
          have hl1b : l1 ≤ 400 := by rw [hl1]; have := L_le_len_a (a.drop (x + 1)) (b.drop (y + 1)); simp at this; omega
          have HE := Lib.hid heq
          have HL1 := Lib.hid hl1
          clear heq hl1 hg0 hg1
          by_cases hlm : l1 + 1 = m
          · have hBG : Beg a b m x y := ⟨a[x], List.getElem?_eq_getElem hxa, by rw [List.getElem?_eq_getElem hyl, HE.out], by rw [← HL1.out]; exact hlm⟩
            have hxX2 : x = X := Nat.le_antisymm hxX (Nat.le_of_not_lt fun h => HNO.out x y hx0 hy0 (.inl h) hBG)
            have hyY2 : y = Y := Nat.le_antisymm (HYY.out hxX2) (Nat.le_of_not_lt fun h => HNO.out x y hx0 hy0 (.inr ⟨hxX2, h⟩) hBG)
            have hlm1 : ((l1 : Int) + 1 == (m : Int)) = true := by rw [beq_iff_eq]; omega
            have HXY := Lib.hid (And.intro hxX2 hyY2)
            clear hlm hBG hxX2 hyY2
            have w1 : IntKind.i64.wrap ((x : Int) + 1) = (x : Int) + 1 := IntWalk.i64_in _ (by omega)
            have w2 : IntKind.i64.wrap ((y : Int) + 1) = (y : Int) + 1 := IntWalk.i64_in _ (by omega)
            have w3 : IntKind.i64.wrap ((l1 : Int) + 1) = (l1 : Int) + 1 := IntWalk.i64_in _ (by omega)
            have p1 : (0 : Int) ≤ (x : Int) + 1 := by omega
            have p2 : (0 : Int) ≤ (y : Int) + 1 := by omega
            have q1 : (x : Int) + 1 < (N : Int) := by omega
            have q2 : (y : Int) + 1 < (M : Int) := by omega
            have t1 : ((x : Int) + 1).toNat = x + 1 := by omega
            have t2 : ((y : Int) + 1).toNat = y + 1 := by omega
            go_wp2
            go_quiet (fail)
            go_wp2
            go_ret2
            exact ⟨x, y, rfl, ⟨q + nq, by simp⟩, hx0, hxa, hyl, by rw [HPR.out, HXY.out.1, HXY.out.2]⟩
          · have hlm1 : ((l1 : Int) + 1 == (m : Int)) = false := by rw [beq_eq_false_iff_ne]; omega
            have HYY2 : Hid (x = X → y + 1 ≤ Y) := Lib.hid (fun h => by
              have h1 := HYY.out h
              rcases Nat.lt_or_ge y Y with h2 | h2
              · omega
              · obtain rfl : y = Y := by omega
                obtain ⟨s, _, _, h3⟩ := HB.out
                rw [← h, ← HL1.out] at h3
                omega)
            clear hlm
            have w1 : IntKind.i64.wrap ((x : Int) + 1) = (x : Int) + 1 := IntWalk.i64_in _ (by omega)
            have w2 : IntKind.i64.wrap ((y : Int) + 1) = (y : Int) + 1 := IntWalk.i64_in _ (by omega)
            have w3 : IntKind.i64.wrap ((l1 : Int) + 1) = (l1 : Int) + 1 := IntWalk.i64_in _ (by omega)
            have p1 : (0 : Int) ≤ (x : Int) + 1 := by omega
            have p2 : (0 : Int) ≤ (y : Int) + 1 := by omega
            have q1 : (x : Int) + 1 < (N : Int) := by omega
            have q2 : (y : Int) + 1 < (M : Int) := by omega
            have t1 : ((x : Int) + 1).toNat = x + 1 := by omega
            have t2 : ((y : Int) + 1).toNat = y + 1 := by omega
            go_wp2
            go_quiet (fail)
            go_wp2
            go_roundg (gk - 1)
            case measure => omega
            case rel => exact ⟨y + 1, _, by go_num, by omega, by omega, HYY2.out, by omega, rfl⟩
        · have heqb := eq_no heq
          have HYY2 : Hid (x = X → y + 1 ≤ Y) := Lib.hid (fun h => by
            have h1 := HYY.out h
            rcases Nat.lt_or_ge y Y with h2 | h2
            · omega
            · obtain rfl : y = Y := by omega
              obtain ⟨s, h3, h4, _⟩ := HB.out
              subst h
              rw [List.getElem?_eq_getElem hxa] at h3
              rw [List.getElem?_eq_getElem hyl] at h4
              exact absurd (Option.some.inj (h3.trans h4.symm)) heq)
          clear heq
          go_wp2
          go_quiet (fail)
          go_wp2
          go_roundg (gk - 1)
          case measure => omega
          case rel => exact ⟨y + 1, _, by go_num, by omega, by omega, HYY2.out, by omega, rfl⟩
      · have hx1 : x + 1 ≤ X := by
          rcases Nat.lt_or_ge x X with h | h
          · exact h
          · have := HYY.out (by omega); omega
        go_wp2
        go_roundg (gko - 1)
        case measure => omega
        case rel => exact ⟨x + 1, _, by go_num, by omega, hx1, by omega, rfl⟩
end Go.Proofs.YtafhefhhndmdkaaDoor
