/- As MgHeld, where operations ahead of the last ones need not all come up ahead of them. No condition. -/
import Derived.Test.YtafhefhhndmdkaaMgHeld
namespace Go.Proofs.Ytafhefhhndmdkaa
open Go

section
variable {P : Program} {ops : Array Oper} {Q : Exit → Act → World → Prop} {md : Region.Mode} {S : World → Prop} {N : Nat}

/-- no operation from N on has come up -/
def tailFree (ops : Array Oper) (N : Nat) (l : Array Bool) : Bool := (List.range ops.size).all fun j => decide (j < N) || !l.getD j false
theorem tailFree.set {l : Array Bool} {j : Nat} (h : tailFree ops N l = true) (hj : j < N) : tailFree ops N (l.setIfInBounds j true) = true := by
  refine List.all_eq_true.2 fun k hk => ?_
  have h1 := List.all_eq_true.1 h k hk
  by_cases hk2 : k < N
  · simp [hk2]
  · rw [getD_set_ne false (by omega)]
    exact h1

theorem tailFree.of_set {l : Array Bool} {j : Nat} (hj : j < ops.size) (hl : j < l.size) (h : tailFree ops N (l.setIfInBounds j true) = true) : j < N ∧ tailFree ops N l = true := by
  constructor
  · have h1 := List.all_eq_true.1 h j (List.mem_range.2 hj)
    simpa [hl] using h1
  · refine List.all_eq_true.2 fun k hk => ?_
    have h1 := List.all_eq_true.1 h k hk
    by_cases hkj : j = k
    · subst hkj
      have h2 : j < N := by simpa [hl] using h1
      simp [h2]
    · rwa [getD_set_ne false hkj] at h1

/-- whatever order is picked; S holds until an operation from N on has come up -/
def TillF (P : Program) (md : Region.Mode) (ops : Array Oper) (Q : Exit → Act → World → Prop) (S : World → Prop) (N : Nat) : Nat → Array Bool → Act → World → Prop
  | 0, l, a, w => Region.ready md ops l = [] ∧ Q .normal a w
  | f + 1, l, a, w => (Region.ready md ops l = [] → Q .normal a w) ∧
    ∀ i, i ∈ Region.ready md ops l → wpOp P ops Q i (fun a1 w1 => (i < N → tailFree ops N l = true → S w1) ∧ TillF P md ops Q S N f (l.setIfInBounds i true) a1 w1) a w

theorem TillF.any : ∀ (f : Nat) (l : Array Bool) (a : Act) (w : World), TillF P md ops Q S N f l a w → wpAny P md ops Q f l a w
  | 0, _, _, _, h => h
  | f + 1, _, _, _, h => ⟨h.1, fun i hi => wpOp_mono (fun a1 w1 k => TillF.any f _ a1 w1 k.2) (h.2 i hi)⟩

theorem TillF.first {T : World → Prop} {i : Nat} {oi : Oper} {v : Value} (hi : ops[i]? = some oi) (hsel : ∀ (j : Nat) (o : Oper) cs b, ops[j]? = some o → o.op ≠ .select cs b)
    (hQ : ∀ c a w, Q (.panic c) (a.put oi.dst v) w → Q (.panic c) a w) (hiN : i < N) (hT : (∀ w, T w) ∨ ((∀ w, S w → T w) ∧ waitAll md ops N i = true)) :
    ∀ (f : Nat) (l : Array Bool) (a : Act) (w : World), FreeAt md ops i oi l → i ∈ Region.ready md ops l → YieldsIf P ops T oi v a → (tailFree ops N l = true → S w) → ((∀ w, T w) ∨ tailFree ops N l = true) →
      TillF P md ops Q S N f (l.setIfInBounds i true) (a.put oi.dst v) w → TillF P md ops Q S N (f + 1) l a w := by
  intro f
  induction f with
  | zero =>
    intro l a w _ hr hy hS hF H
    refine ⟨fun h => absurd hr (by simp [h]), fun j hj => ?_⟩
    by_cases hji : j = i
    · subst hji
      refine hy.wpOp hi ?_ ⟨fun _ => hS, H⟩
      rcases hT with h | h
      · exact h w
      · rcases hF with h1 | h1
        · exact h1 w
        · exact h.1 w (hS h1)
    · have h1 := ready_mono hj hji
      simp [H.1] at h1
  | succ f ih =>
    intro l a w hfree hr hy hS hF H
    refine ⟨fun h => absurd hr (by simp [h]), fun j hj => ?_⟩
    by_cases hji : j = i
    · subst hji
      refine hy.wpOp hi ?_ ⟨fun _ => hS, H⟩
      rcases hT with h | h
      · exact h w
      · rcases hF with h1 | h1
        · exact h1 w
        · exact h.1 w (hS h1)
    · obtain ⟨hu, oj, hoj, hall⟩ := mem_ready.1 hj
      have hjs : j < ops.size := (Array.getElem?_eq_some_iff.1 hoj).1
      have hjl : j < l.size := by
        rcases Nat.lt_or_ge j l.size with h | h
        · exact h
        · simp [Array.getElem?_eq_none h] at hu
      have hno : ∀ e ∈ oj.after, Region.binds md e = true → e.on ≠ i := fun e he hb hc => by
        have h2 := hall e he hb
        rw [hc, getD_both (mem_ready.1 hr).1] at h2
        cases h2
      have h2 := wpOp_putIf hoj (hfree j oj hoj hji hu hno) (fun cs b => hsel i oi cs b hi) (fun cs b => hsel j oj cs b hoj) hQ hy (H.2 j (ready_mono hj hji))
      refine wpOp_mono (fun a1 w1 k => ⟨fun h3 h4 => k.2.1 h3 (tailFree.set h4 hiN), ih (l.setIfInBounds j true) a1 w1 (fun n on hn hni hnu hnn => ?_) (ready_mono hr (Ne.symm hji)) k.1 (fun h3 => ?_) ?_ ?_⟩) h2
      · by_cases hjn : j = n
        · subst hjn; exact hfree j on hn hni hu hnn
        · rw [getD_set_ne true hjn] at hnu; exact hfree n on hn hni hnu hnn
      · have h5 := tailFree.of_set hjs hjl h3
        exact k.2.1 h5.1 (tailFree.set h5.2 hiN)
      · rcases hT with h | h
        · exact .inl h
        · rcases hF with h1 | h1
          · exact .inl h1
          · exact .inr (tailFree.set h1 (waitAll.lt h.2 hr hj))
      · rw [Array.setIfInBounds_comm _ _ hji]; exact k.2.2

/-- a load is taken first -/
theorem TillF.take {i f : Nat} {oi : Oper} {v : Value} {l : Array Bool} {a : Act} {w : World} (hi : ops[i]? = some oi) (hn : Region.noSelect ops = true) (hf : Region.free md ops l i = true)
    (hr : (Region.ready md ops l).contains i = true) (hw : (decide (i < N) && waitAll md ops N i && tailFree ops N l) = true) (hQ : ∀ c a w, Q (.panic c) (a.put oi.dst v) w → Q (.panic c) a w)
    (hwt : Region.wanted oi (yielded ops a.tmps) = true) (hS : S w) (hy : ∀ w, S w → (execOp a.eval oi).run P w = .ok (.value v) w)
    (h : TillF P md ops Q S N f (l.setIfInBounds i true) (a.put oi.dst v) w) : TillF P md ops Q S N (f + 1) l a w := by
  simp only [Bool.and_eq_true, decide_eq_true_eq] at hw
  exact TillF.first hi (Region.noSelect_spec hn) hQ hw.1.1 (.inr ⟨fun _ k => k, hw.1.2⟩) f l a w (Region.free_spec hi hf) (by simpa using hr) (.inl ⟨hwt, hy⟩) (fun _ => hS) (.inr hw.2) h

/-- an operation that yields in whatever world is taken first -/
theorem TillF.takeY {i f : Nat} {oi : Oper} {v : Value} {l : Array Bool} {a : Act} {w : World} (hi : ops[i]? = some oi) (hn : Region.noSelect ops = true) (hf : Region.free md ops l i = true)
    (hr : (Region.ready md ops l).contains i = true) (hw : decide (i < N) = true) (hQ : ∀ c a w, Q (.panic c) (a.put oi.dst v) w → Q (.panic c) a w)
    (hwt : Region.wanted oi (yielded ops a.tmps) = true) (hS : S w) (hy : ∀ w, (execOp a.eval oi).run P w = .ok (.value v) w)
    (h : TillF P md ops Q S N f (l.setIfInBounds i true) (a.put oi.dst v) w) : TillF P md ops Q S N (f + 1) l a w :=
  TillF.first (T := fun _ => True) hi (Region.noSelect_spec hn) hQ (of_decide_eq_true hw) (.inl fun _ => trivial) f l a w (Region.free_spec hi hf) (by simpa using hr) (.inl ⟨hwt, fun w _ => hy w⟩) (fun _ => hS) (.inl fun _ => trivial) h

/-- those that may come up -/
theorem TillF.all {f : Nat} {l : Array Bool} {a : Act} {w : World} {rs : List Nat} (hr : Region.ready md ops l = rs) (hne : rs ≠ [])
    (h : ∀ i, i ∈ rs → ∀ K : Act → World → Prop, (∀ a1 w1, (i < N → tailFree ops N l = true → S w1) → TillF P md ops Q S N f (l.setIfInBounds i true) a1 w1 → K a1 w1) → wpOp P ops Q i K a w) : TillF P md ops Q S N (f + 1) l a w := by
  refine ⟨fun k => absurd (hr ▸ k) hne, fun j hj => ?_⟩
  rw [hr] at hj
  exact h j hj _ (fun a1 w1 k k1 => And.intro k k1)
theorem TillF.one {i f : Nat} {o : Oper} {l : Array Bool} {a : Act} {w : World} (hr : Region.ready md ops l = [i]) (hi : ops[i]? = some o)
    (h : ∀ K : Act → World → Prop, (∀ a1 w1, (i < N → tailFree ops N l = true → S w1) → TillF P md ops Q S N f (l.setIfInBounds i true) a1 w1 → K a1 w1) →
      if Region.wanted o (yielded ops a.tmps) = true then Oper.wp P o a w K Q else K (a.put o.dst undef) w) : TillF P md ops Q S N (f + 1) l a w :=
  TillF.all hr (by simp) fun j hj K hK => by
    rw [List.mem_singleton] at hj
    subst hj
    exact step_op hi (h K hK)
theorem TillF.done {l : Array Bool} {a : Act} {w : World} (hr : Region.ready md ops l = []) (h : Q .normal a w) : ∀ f, TillF P md ops Q S N f l a w
  | 0 => ⟨hr, h⟩
  | _ + 1 => ⟨fun _ => h, by rw [hr]; simp⟩
theorem region_tillF {id : Nat} {a : Act} {w : World} (S : World → Prop) (N : Nat) (hm : P.follows .mixedOrders = true)
    (h : TillF P .any ops Q S N ops.size (Array.replicate ops.size false) a w.drew) : (Code.region id ops true).wp P Q a w := wp_region_any hm (TillF.any _ _ _ _ h)
/-- all operations ahead of N have come up -/
def headDone (ops : Array Oper) (N : Nat) (l : Array Bool) : Bool := decide (N ≤ l.size) && (List.range ops.size).all fun j => decide (N ≤ j) || l.getD j false
/-- behind them nothing is left to be kept -/
theorem TillF.rest : ∀ (f : Nat) (l : Array Bool) (a : Act) (w : World), headDone ops N l = true → Till P md ops Q (fun _ => True) 0 f l a w → TillF P md ops Q S N f l a w
  | 0, _, _, _, _, h => h
  | f + 1, l, a, w, hd, h => by
    refine ⟨h.1, fun i hi => ?_⟩
    have hd' := hd
    simp only [headDone, Bool.and_eq_true, decide_eq_true_eq] at hd'
    obtain ⟨hu, oi, hoi, _⟩ := mem_ready.1 hi
    have his : i < ops.size := (Array.getElem?_eq_some_iff.1 hoi).1
    have hN : N ≤ i := by
      have h1 := List.all_eq_true.1 hd'.2 i (List.mem_range.2 his)
      simp only [Bool.or_eq_true, decide_eq_true_eq] at h1
      rcases h1 with h1 | h1
      · exact h1
      · rw [getD_both hu] at h1; cases h1
    refine wpOp_mono (fun a1 w1 k => ⟨fun h3 => absurd h3 (by omega), TillF.rest f _ a1 w1 ?_ k.2⟩) (h.2 i hi)
    simp only [headDone, Bool.and_eq_true, decide_eq_true_eq]
    refine ⟨by simpa using hd'.1, List.all_eq_true.2 fun j hj => ?_⟩
    have h1 := List.all_eq_true.1 hd'.2 j hj
    simp only [Bool.or_eq_true, decide_eq_true_eq] at h1 ⊢
    rcases h1 with h1 | h1
    · exact .inl h1
    · by_cases hij : i = j
      · subst hij; exact .inl hN
      · right; rw [getD_set_ne false hij]; exact h1
end
end Go.Proofs.Ytafhefhhndmdkaa
