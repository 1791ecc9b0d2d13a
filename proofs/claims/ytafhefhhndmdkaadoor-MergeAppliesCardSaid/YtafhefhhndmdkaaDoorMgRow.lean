/- The closure of merge.common that cuts a row out of the table; for a table of at most a million rows and columns. -/
import Derived.Test.YtafhefhhndmdkaaDoorProg
import Derived.Test.YtafhefhhndmdkaaDoorMgWords2
import Derived.WalkKit
import Derived.WalkSpells
import Derived.WalkLawsBesides
import Derived.Deep.LoopGhost
import Derived.Lib.Hide
namespace Go.Proofs.YtafhefhhndmdkaaDoor
open Go.RowKit

set_option maxHeartbeats 400000 in
theorem row_core (k bt bw g N W p q : Nat) (w : World) (hk : k ≤ 1000000) (hp : (k : Int) * (W : Int) = (p : Int)) (hq : ((k : Int) + 1) * (W : Int) = (q : Int)) (hpq : q = p + W) (hN : q ≤ N) (hW : 0 < W) (hb : N ≤ 1000000)
    (ht : w.cell? ⟨bt, 0, none⟩ = some (.slice (some ⟨g, 0, none⟩) N N)) (hw : w.cell? ⟨bw, 0, none⟩ = some (.int .i64 W)) :
    Calls Tryd.prog 44 #[.int .i64 k, .pointer (some ⟨bt, 0, none⟩), .pointer (some ⟨bw, 0, none⟩)] w fun e w' => e = .returned (.slice (some ⟨g, p, none⟩) W W) ∧ w = w' := by
  subst hpq
  go_enter Tryd.func44, Tryd.ntmps44
  go_wp2
  go_ret
  exact ⟨by simp, rfl⟩

theorem row_any (i : Int) (bt bw g N W : Nat) (w : World) (h0 : 0 ≤ i) (hW : 0 < W) (hN : (i.toNat + 1) * W ≤ N) (hb : N ≤ 1000000)
    (ht : w.cell? ⟨bt, 0, none⟩ = some (.slice (some ⟨g, 0, none⟩) N N)) (hw : w.cell? ⟨bw, 0, none⟩ = some (.int .i64 W)) :
    Calls Tryd.prog 44 #[.int .i64 i, .pointer (some ⟨bt, 0, none⟩), .pointer (some ⟨bw, 0, none⟩)] w fun e w' => e = .returned (.slice (some ⟨g, i.toNat * W, none⟩) W W) ∧ w = w' := by
  obtain ⟨k, rfl⟩ := Int.eq_ofNat_of_zero_le h0
  rw [Int.toNat_natCast] at *
  have h1 : (k + 1) * W = k * W + W := by rw [Nat.succ_mul]
  have h2 : k + 1 ≤ (k + 1) * W := Nat.le_mul_of_pos_right (k + 1) hW
  exact row_core k bt bw g N W (k * W) (k * W + W) w (by omega) (by push_cast; rfl) (by rw [← h1]; push_cast; rfl) rfl (by omega) hW hb ht hw

/-- the same where the row's begin has a name -/
theorem row_at (k bt bw g N W p : Nat) (w : World) (hp : p = k * W) (hN : p + W ≤ N) (hW : 0 < W) (hb : N ≤ 1000000)
    (ht : w.cell? ⟨bt, 0, none⟩ = some (.slice (some ⟨g, 0, none⟩) N N)) (hw : w.cell? ⟨bw, 0, none⟩ = some (.int .i64 W)) (i : Int) (hi : i = k) :
    Calls Tryd.prog 44 #[.int .i64 i, .pointer (some ⟨bt, 0, none⟩), .pointer (some ⟨bw, 0, none⟩)] w fun e w' => e = .returned (.slice (some ⟨g, p, none⟩) W W) ∧ w = w' := by
  subst hi
  have h2 : k ≤ k * W := Nat.le_mul_of_pos_right k hW
  have h1 : (k + 1) * W = k * W + W := by rw [Nat.succ_mul]
  exact row_core k bt bw g N W p (p + W) w (by omega) (by rw [hp]; push_cast; rfl) (by rw [hp, ← h1]; push_cast; rfl) rfl hN hW hb ht hw
end Go.Proofs.YtafhefhhndmdkaaDoor
