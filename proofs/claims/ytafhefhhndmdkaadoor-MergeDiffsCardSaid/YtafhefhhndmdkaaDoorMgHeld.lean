/- A region that draws its order, of which one condition on the world holds until the last operations (its stores) come up: the reading operations may be taken first. No condition. -/
import Derived.OrdersHeld
import Derived.StillTail
import Derived.RegionTactic
namespace Go.Proofs.YtafhefhhndmdkaaDoor
open Go

section
variable {P : Program} {ops : Array Oper} {Q : Exit → Act → World → Prop} {md : Region.Mode} {S : World → Prop} {N : Nat}

/-- whatever order is picked; S holds behind each operation ahead of number N -/
def Till (P : Program) (md : Region.Mode) (ops : Array Oper) (Q : Exit → Act → World → Prop) (S : World → Prop) (N : Nat) : Nat → Array Bool → Act → World → Prop
  | 0, l, a, w => Region.ready md ops l = [] ∧ Q .normal a w
  | f + 1, l, a, w => (Region.ready md ops l = [] → Q .normal a w) ∧
    ∀ i, i ∈ Region.ready md ops l → wpOp P ops Q i (fun a1 w1 => (i < N → S w1) ∧ Till P md ops Q S N f (l.setIfInBounds i true) a1 w1) a w

theorem Till.any : ∀ (f : Nat) (l : Array Bool) (a : Act) (w : World), Till P md ops Q S N f l a w → wpAny P md ops Q f l a w
  | 0, _, _, _, h => h
  | f + 1, _, _, _, h => ⟨h.1, fun i hi => wpOp_mono (fun a1 w1 k => Till.any f _ a1 w1 k.2) (h.2 i hi)⟩

/-- the operations from N on all wait for number i -/
def waitAll (md : Region.Mode) (ops : Array Oper) (N i : Nat) : Bool := (List.range ops.size).all fun j => decide (j < N) || Region.waitsFor md ops j i

theorem waitAll.lt {i j : Nat} {l : Array Bool} (h : waitAll md ops N i = true) (hi : i ∈ Region.ready md ops l) (hj : j ∈ Region.ready md ops l) : j < N := by
  obtain ⟨hu, _⟩ := mem_ready.1 hi
  obtain ⟨_, oj, hoj, hall⟩ := mem_ready.1 hj
  have hjs : j < ops.size := (Array.getElem?_eq_some_iff.1 hoj).1
  have h1 := List.all_eq_true.1 h j (List.mem_range.2 hjs)
  simp only [Bool.or_eq_true, decide_eq_true_eq] at h1
  rcases h1 with h1 | h1
  · exact h1
  · obtain ⟨o, ho, e, he, hb, hon⟩ := Region.waitsFor_spec h1
    have : o = oj := Option.some.inj (ho.symm.trans hoj)
    subst this
    have h2 := hall e he hb
    rw [hon, getD_both hu] at h2
    cases h2

/-- whatever could come up ahead of number i does not touch what it touches -/
def FreeAt (md : Region.Mode) (ops : Array Oper) (i : Nat) (oi : Oper) (l : Array Bool) : Prop :=
  ∀ j oj, ops[j]? = some oj → j ≠ i → l.getD j true = false → (∀ e ∈ oj.after, Region.binds md e = true → e.on ≠ i) → oi.apart ops oj = true

theorem Till.first {T : World → Prop} {i : Nat} {oi : Oper} {v : Value} (hi : ops[i]? = some oi) (hsel : ∀ (j : Nat) (o : Oper) cs b, ops[j]? = some o → o.op ≠ .select cs b)
    (hQ : ∀ c a w, Q (.panic c) (a.put oi.dst v) w → Q (.panic c) a w) (hT : (N ≤ i ∧ ∀ w, T w) ∨ (i < N ∧ (∀ w, S w → T w) ∧ waitAll md ops N i = true)) :
    ∀ (f : Nat) (l : Array Bool) (a : Act) (w : World), FreeAt md ops i oi l → i ∈ Region.ready md ops l → YieldsIf P ops T oi v a → (i < N → S w) →
      Till P md ops Q S N f (l.setIfInBounds i true) (a.put oi.dst v) w → Till P md ops Q S N (f + 1) l a w := by
  have key : ∀ w, (i < N → S w) → T w := fun w h => by
    rcases hT with ⟨_, h1⟩ | ⟨h1, h2, _⟩
    · exact h1 w
    · exact h2 w (h h1)
  intro f
  induction f with
  | zero =>
    intro l a w _ hr hy hS H
    refine ⟨fun h => absurd hr (by simp [h]), fun j hj => ?_⟩
    by_cases hji : j = i
    · subst hji
      exact hy.wpOp hi (key w hS) ⟨hS, H⟩
    · have h1 := ready_mono hj hji
      simp [H.1] at h1
  | succ f ih =>
    intro l a w hfree hr hy hS H
    refine ⟨fun h => absurd hr (by simp [h]), fun j hj => ?_⟩
    by_cases hji : j = i
    · subst hji
      exact hy.wpOp hi (key w hS) ⟨hS, H⟩
    · have hjN : i < N → j < N := fun h => by
        rcases hT with ⟨h1, _⟩ | ⟨_, _, h3⟩
        · omega
        · exact waitAll.lt h3 hr hj
      obtain ⟨hu, oj, hoj, hall⟩ := mem_ready.1 hj
      have hno : ∀ e ∈ oj.after, Region.binds md e = true → e.on ≠ i := fun e he hb hc => by
        have h2 := hall e he hb
        rw [hc, getD_both (mem_ready.1 hr).1] at h2
        cases h2
      have h2 := wpOp_putIf hoj (hfree j oj hoj hji hu hno) (fun cs b => hsel i oi cs b hi) (fun cs b => hsel j oj cs b hoj) hQ hy (H.2 j (ready_mono hj hji))
      refine wpOp_mono (fun a1 w1 k => ⟨k.2.1, ih (l.setIfInBounds j true) a1 w1 (fun n on hn hni hnu hnn => ?_) (ready_mono hr (Ne.symm hji)) k.1 (fun h => k.2.1 (hjN h)) ?_⟩) h2
      · by_cases hjn : j = n
        · subst hjn; exact hfree j on hn hni hu hnn
        · rw [getD_set_ne true hjn] at hnu; exact hfree n on hn hni hnu hnn
      · rw [Array.setIfInBounds_comm _ _ hji]; exact k.2.2

/-- a reading operation ahead of N is taken first -/
theorem Till.take {i f : Nat} {oi : Oper} {v : Value} {l : Array Bool} {a : Act} {w : World} (hi : ops[i]? = some oi) (hn : Region.noSelect ops = true) (hf : Region.free md ops l i = true)
    (hr : (Region.ready md ops l).contains i = true) (hw : (decide (i < N) && waitAll md ops N i) = true) (hQ : ∀ c a w, Q (.panic c) (a.put oi.dst v) w → Q (.panic c) a w)
    (hwt : Region.wanted oi (yielded ops a.tmps) = true) (hS : S w) (hy : ∀ w, S w → (execOp a.eval oi).run P w = .ok (.value v) w)
    (h : Till P md ops Q S N f (l.setIfInBounds i true) (a.put oi.dst v) w) : Till P md ops Q S N (f + 1) l a w := by
  simp only [Bool.and_eq_true, decide_eq_true_eq] at hw
  exact Till.first hi (Region.noSelect_spec hn) hQ (.inr ⟨hw.1, fun _ k => k, hw.2⟩) f l a w (Region.free_spec hi hf) (by simpa using hr) (.inl ⟨hwt, hy⟩) (fun _ => hS) h

/-- an operation behind N that yields in whatever world is taken first -/
theorem Till.takeY {i f : Nat} {oi : Oper} {v : Value} {l : Array Bool} {a : Act} {w : World} (hi : ops[i]? = some oi) (hn : Region.noSelect ops = true) (hf : Region.free md ops l i = true)
    (hr : (Region.ready md ops l).contains i = true) (hw : decide (N ≤ i) = true) (hQ : ∀ c a w, Q (.panic c) (a.put oi.dst v) w → Q (.panic c) a w)
    (hwt : Region.wanted oi (yielded ops a.tmps) = true) (hy : ∀ w, (execOp a.eval oi).run P w = .ok (.value v) w)
    (h : Till P md ops Q S N f (l.setIfInBounds i true) (a.put oi.dst v) w) : Till P md ops Q S N (f + 1) l a w := by
  have hw' := of_decide_eq_true hw
  exact Till.first (T := fun _ => True) hi (Region.noSelect_spec hn) hQ (.inl ⟨hw', fun _ => trivial⟩) f l a w (Region.free_spec hi hf) (by simpa using hr) (.inl ⟨hwt, fun w _ => hy w⟩) (fun k => absurd k (by omega)) h

/-- the one operation that may come up -/
theorem Till.one {i f : Nat} {o : Oper} {l : Array Bool} {a : Act} {w : World} (hr : Region.ready md ops l = [i]) (hi : ops[i]? = some o)
    (h : ∀ K : Act → World → Prop, (∀ a1 w1, (i < N → S w1) → Till P md ops Q S N f (l.setIfInBounds i true) a1 w1 → K a1 w1) →
      if Region.wanted o (yielded ops a.tmps) = true then Oper.wp P o a w K Q else K (a.put o.dst undef) w) : Till P md ops Q S N (f + 1) l a w := by
  refine ⟨fun k => absurd k (by simp [hr]), fun j hj => ?_⟩
  rw [hr, List.mem_singleton] at hj
  subst hj
  have h1 := h _ (fun a1 w1 k k1 => And.intro k k1)
  unfold wpOp
  simp only [hi]
  by_cases hw : Region.wanted o (yielded ops a.tmps) = true
  · rw [if_pos hw] at h1 ⊢
    exact .inl h1
  · rw [if_neg hw] at h1 ⊢
    exact h1

/-- two that may come up -/
theorem Till.all {f : Nat} {l : Array Bool} {a : Act} {w : World} {rs : List Nat} (hr : Region.ready md ops l = rs) (hne : rs ≠ [])
    (h : ∀ i, i ∈ rs → ∀ K : Act → World → Prop, (∀ a1 w1, (i < N → S w1) → Till P md ops Q S N f (l.setIfInBounds i true) a1 w1 → K a1 w1) → wpOp P ops Q i K a w) : Till P md ops Q S N (f + 1) l a w := by
  refine ⟨fun k => absurd (hr ▸ k) hne, fun j hj => ?_⟩
  rw [hr] at hj
  exact h j hj _ (fun a1 w1 k k1 => And.intro k k1)
theorem step_op {i : Nat} {o : Oper} {a : Act} {w : World} {K : Act → World → Prop} (hi : ops[i]? = some o)
    (h : if Region.wanted o (yielded ops a.tmps) = true then Oper.wp P o a w K Q else K (a.put o.dst undef) w) : wpOp P ops Q i K a w := by
  unfold wpOp
  simp only [hi]
  by_cases hw : Region.wanted o (yielded ops a.tmps) = true
  · rw [if_pos hw] at h ⊢
    exact .inl h
  · rw [if_neg hw] at h ⊢
    exact h

theorem Till.done {l : Array Bool} {a : Act} {w : World} (hr : Region.ready md ops l = []) (h : Q .normal a w) : ∀ f, Till P md ops Q S N f l a w
  | 0 => ⟨hr, h⟩
  | _ + 1 => ⟨fun _ => h, by rw [hr]; simp⟩

/-- the beginning -/
theorem region_till {id : Nat} {a : Act} {w : World} (S : World → Prop) (N : Nat) (hm : P.follows .mixedOrders = true)
    (h : Till P .any ops Q S N ops.size (Array.replicate ops.size false) a w.drew) : (Code.region id ops true).wp P Q a w := wp_region_any hm (Till.any _ _ _ _ h)
end
end Go.Proofs.YtafhefhhndmdkaaDoor
