/- The sanity check of layer 16 returns true, and the check of lengths returns what it says. -/
import Derived.Test.YtafhefhhndmdkaaDoorMgDiff
namespace Go.Proofs.YtafhefhhndmdkaaDoor
open Go.RowKit Mg
attribute [local go_sem ↓] Go.wp_at_zero Go.wp_at_succ

theorem script_one (A B C X : ByteArray) (h1 : B ≠ X) (h3 : X ≠ C) (h5 : B ≠ C) : script [A, B, C] [A, X, C] = [(1, 2, [X])] := by
  have e1 : idx A [A, X, C] = some 0 := by simp [idx]
  have e2 : idx B [X, C] = none := by simp [idx, Ne.symm h1, Ne.symm h5]
  have e3 : idx C [X, C] = some 1 := by simp [idx, h3]
  have l0 : L [C] [C] = 1 := by simp [L_cons, L_nil, L_nil']
  have l1 : L [C] [X, C] = 1 := by rw [L_cons, l0]; simp [L_nil, Ne.symm h3]
  have l2 : L [B, C] [X, C] = 1 := by
    have e := L_skip B [C] [X, C] (by simp [h1, h5])
    rw [e, l1]
  have l3 : L [A, B, C] [A, X, C] = 2 := by
    have e := L_hit A [B, C] [X, C] [] (by simp)
    simp only [List.nil_append] at e
    have e' : L [B, C] [A, X, C] ≤ 2 := L_le_len_a _ _
    rw [e, l2]; omega
  have p3 : prs 2 1 [C] [X, C] = [(2, 2)] := by
    rw [prs_some 2 1 [] e3 (by simp [L_nil', l1])]
    simp [prs]
  have p1 : prs 0 0 [A, B, C] [A, X, C] = [(0, 0), (2, 2)] := by
    rw [prs_some 0 0 [B, C] e1 (by simp only [List.drop_succ_cons, List.drop_zero, l2, l3])]
    simp only [List.drop_succ_cons, List.drop_zero]
    rw [prs_none 1 1 [C] e2, p3]
  unfold script
  rw [p1]
  simp [scr]

theorem lines_a : linesOf ⟨#[97, 10, 98, 10, 99, 10]⟩ = [⟨#[97, 10]⟩, ⟨#[98, 10]⟩, ⟨#[99, 10]⟩] := by
  simp [linesOf, lns, str]
theorem lines_x : linesOf ⟨#[97, 10, 120, 10, 99, 10]⟩ = [⟨#[97, 10]⟩, ⟨#[120, 10]⟩, ⟨#[99, 10]⟩] := by
  simp [linesOf, lns, str]

set_option maxHeartbeats 2000000 in
theorem awake_any (w : World) : Calls Tryd.prog 8 #[] w fun e w' => e = .returned (.bool true) ∧ Below w.heap.size w w' := by
  have hs : script (linesOf ⟨#[97, 10, 98, 10, 99, 10]⟩) (linesOf ⟨#[97, 10, 120, 10, 99, 10]⟩) = [(1, 2, [⟨#[120, 10]⟩])] := by
    rw [lines_a, lines_x]
    exact script_one _ _ _ _ (by decide) (by decide) (by decide)
  have HD : ∀ w : World, Calls Tryd.prog 9 #[.string ⟨#[97, 10, 98, 10, 99, 10]⟩, .string ⟨#[97, 10, 120, 10, 99, 10]⟩] w fun e w' => ∃ g c g2 c2, e = .returned (.tuple #[.slice (some ⟨g, 0, none⟩) 1 c, .int .i64 0]) ∧
      w'.cell? ⟨g, 0, none⟩ = some (.int .i64 1) ∧ w'.cell? ⟨g, 1, none⟩ = some (.int .i64 2) ∧ w'.cell? ⟨g, 2, none⟩ = some (.slice (some ⟨g2, 0, none⟩) 1 c2) ∧ w'.cell? ⟨g2, 0, none⟩ = some (.string ⟨#[120, 10]⟩) ∧ Below w.heap.size w w' := by
    intro w
    refine (diff_any _ _ w (by decide) (by decide) (by rw [lines_a]; decide) (by rw [lines_x]; decide)).mono fun e w' h => ?_
    obtain ⟨v, rfl, ⟨us, hl, hown, hus⟩, hb⟩ := h
    rw [hs] at hl hown hus
    obtain ⟨g, c, rfl, _, _, _⟩ := own_form hown (by decide)
    match us, hl with
    | [u], _ =>
      have hu := hus 0 u _ rfl rfl
      obtain ⟨g2, c2, rfl, _, _, _⟩ := own_form hu (by decide)
      have k0 := hown.cells (g := g) rfl 0 _ rfl
      have k1 := hown.cells (g := g) rfl 1 _ rfl
      have k2 := hown.cells (g := g) rfl 2 _ rfl
      have k3 := hu.cells (g := g2) rfl 0 _ rfl
      rw [addr_add] at k0 k1 k2 k3
      exact ⟨g, c, g2, c2, rfl, k0, k1, k2, k3, hb⟩
  have H := Lib.hid HD
  clear HD hs
  go_enter Tryd.func8, Tryd.ntmps8
  go_wp2_with (go_at_call 9; refine (H.out _).mono ?_; rintro e w1 ⟨g, c, g2, c2, rfl, k0, k1, k2, k3, hb⟩)
  go_ret
  exact ⟨by simp, hb⟩
end Go.Proofs.YtafhefhhndmdkaaDoor
