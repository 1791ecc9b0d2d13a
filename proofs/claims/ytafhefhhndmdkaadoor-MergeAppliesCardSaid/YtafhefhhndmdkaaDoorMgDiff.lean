/- merge.Diff returns the script between two texts; for texts of at most a million bytes and 400 lines. -/
import Derived.Test.YtafhefhhndmdkaaDoorMgTexts2
import Derived.Test.YtafhefhhndmdkaaDoorMgCommon
import Derived.Test.YtafhefhhndmdkaaDoorMgScript
import Derived.Deep.RegionHeld3
import Derived.Deep.DrawnRows
namespace Go.Proofs.YtafhefhhndmdkaaDoor
open Go.RowKit Mg
attribute [local go_sem ↓] Go.wp_at_zero Go.wp_at_succ

theorem hunk_info : (Tryd.prog.info? 36).map (fun i => (i.zero, i.size, i.bytes)) = some (some (.agg #[.int .i64 0, .int .i64 0, .slice none 0 0]), 3, 40) := by kernel_rfl

/-- the cells of hunks, whose lines are the slices us -/
def hcells : List (Nat × Nat × List ByteArray) → List Value → List Value
  | h :: hs, u :: us => [.int .i64 h.1, .int .i64 h.2.1, u] ++ hcells hs us
  | _, _ => []
/-- v is a list of hunks in memory of the call's own -/
def OwnsHunks (w : World) (base : Nat) (v : Value) (hs : List (Nat × Nat × List ByteArray)) : Prop :=
  ∃ us : List Value, us.length = hs.length ∧ w.ownsRow base 36 3 v hs.length (hcells hs us) ∧
    ∀ (i : Nat) (u : Value) (h : Nat × Nat × List ByteArray), us[i]? = some u → hs[i]? = some h → w.ownsRow base 9 1 u h.2.2.length (h.2.2.map Value.string)

theorem common_at {w W : World} (A B : Option Addr) (ca cb : Nat) (a b : List ByteArray) {B0 : Nat} (hra : Strs w B0 A ca a) (hrb : Strs w B0 B cb b) (hna : a.length ≤ 400) (hnb : b.length ≤ 400) (hb : Below B0 w W) (hs : B0 ≤ W.heap.size) :
    Calls Tryd.prog 25 #[.slice A a.length ca, .slice B b.length cb] W fun e w' => ∃ v, e = .returned v ∧
      w'.ownsRow W.heap.size 52 2 v (prs 0 0 a b).length (pcells (prs 0 0 a b)) ∧ Below W.heap.size W w' ∧ Below B0 w w' :=
  (common_any A B ca cb a b W ((hra.below hb).more hs) ((hrb.below hb).more hs) hna hnb).mono fun _ _ ⟨v, h1, h2, h3⟩ => ⟨v, h1, h2, h3, hb.trans (h3.mono hs)⟩

theorem clone_at {w W : World} {A : Option Addr} {c n B0 : Nat} {ls : List ByteArray} (h : Strs w B0 A c ls) (hn : n = ls.length) (hl : ls.length ≤ 1000000) (hb : Below B0 w W) (hs : B0 ≤ W.heap.size) :
    Calls Tryd.prog 26 #[.slice A n c] W fun e w' => ∃ A' c', e = .returned (.slice A' n c') ∧ w'.ownsRow W.heap.size 9 1 (.slice A' n c') n (ls.map Value.string) ∧ Below W.heap.size W w' ∧ Below B0 w w' := by
  have h' := h.below hb
  subst hn
  have fin : ∀ (e : Ending) (w' : World), (∃ v', e = .returned v' ∧ w'.ownsRow W.heap.size 9 1 v' ls.length (ls.map Value.string) ∧ Below W.heap.size W w') →
      ∃ A' c', e = .returned (.slice A' ls.length c') ∧ w'.ownsRow W.heap.size 9 1 (.slice A' ls.length c') ls.length (ls.map Value.string) ∧ Below W.heap.size W w' ∧ Below B0 w w' := by
    rintro e w' ⟨v', rfl, h1, h2⟩
    obtain ⟨A', c', rfl, _, _⟩ := own_slice h1
    exact ⟨A', c', rfl, h1, h2, hb.trans (h2.mono hs)⟩
  rcases Nat.eq_zero_or_pos ls.length with h0 | h0
  · obtain rfl : ls = [] := List.eq_nil_of_length_eq_zero h0
    rcases A with _ | ad
    · exact (Tryd.slices_Clone_string_nil 0 c W).mono fun e w' ⟨h1, h2⟩ => fin e w' ⟨_, h1, ⟨rfl, .inl ⟨rfl, rfl⟩⟩, by rw [h2]; exact Below.refl _ _⟩
    · exact (Tryd.slices_Clone_string_zero ad c W).mono fun e w' ⟨v', h1, h2, _, h3⟩ => fin e w' ⟨v', h1, h2, h3⟩
  · obtain ⟨b, o, rfl, _⟩ := h'.at_ h0
    refine (Tryd.slices_Clone_string b o ls.length c ls W (Nat.le_refl _) (by omega) fun j hj => ?_).mono fun e w' ⟨v', h1, h2, _, h3⟩ => fin e w' ⟨v', h1, by rwa [List.take_length] at h2, h3⟩
    obtain ⟨b', o', h1, _, h3⟩ := h'.at_ hj
    simp only [Option.some.injEq, Addr.mk.injEq] at h1
    obtain ⟨rfl, rfl, _⟩ := h1
    rw [h3, List.getD_eq_getElem?_getD, List.getElem?_eq_getElem hj]; rfl

theorem OwnsHunks.below {w w' : World} {base : Nat} {v : Value} {hs : List (Nat × Nat × List ByteArray)} (h : OwnsHunks w base v hs) (hb : Below w.heap.size w w') : OwnsHunks w' base v hs := by
  obtain ⟨us, h1, h2, h3⟩ := h
  exact ⟨us, h1, own_below h2 hb, fun i u x a b => own_below (h3 i u x a b) hb⟩
theorem OwnsHunks.alloc {w : World} {base : Nat} {v : Value} {hs : List (Nat × Nat × List ByteArray)} (h : OwnsHunks w base v hs) (o : Obj) : OwnsHunks (w.alloc o) base v hs := h.below ((Below.refl _ _).alloc (Nat.le_refl _) o)
theorem OwnsHunks.setCell {w : World} {base : Nat} {v : Value} {hs : List (Nat × Nat × List ByteArray)} (h : OwnsHunks w base v hs) {p : Addr} (hp : p.block < base) (u : Value) : OwnsHunks (w.setCell p u) base v hs := by
  obtain ⟨us, h1, h2, h3⟩ := h
  exact ⟨us, h1, ownsRow_setCell_below h2 hp u, fun i u' x a b => ownsRow_setCell_below (h3 i u' x a b) hp u⟩

theorem hcells_snoc : ∀ (hs : List (Nat × Nat × List ByteArray)) (us : List Value) (h : Nat × Nat × List ByteArray) (u : Value), us.length = hs.length → hcells (hs ++ [h]) (us ++ [u]) = hcells hs us ++ [.int .i64 h.1, .int .i64 h.2.1, u]
  | [], [], _, _, _ => rfl
  | [], _ :: _, _, _, e => by simp at e
  | _ :: _, [], _, _, e => by simp at e
  | x :: hs, y :: us, h, u, e => by
    have := hcells_snoc hs us h u (by simpa using e)
    simp only [List.cons_append, hcells, this, List.nil_append]
theorem OwnsHunks.snoc {W w6 : World} {base : Nat} {v v6 u : Value} {done : List (Nat × Nat × List ByteArray)} {us : List Value} {h : Nat × Nat × List ByteArray} (h0 : us.length = done.length)
    (hout : W.ownsRow base 36 3 v done.length (hcells done us))
    (hold : ∀ (i : Nat) (u : Value) (h : Nat × Nat × List ByteArray), us[i]? = some u → done[i]? = some h → W.ownsRow base 9 1 u h.2.2.length (h.2.2.map Value.string))
    (hnew : W.ownsRow base 9 1 u h.2.2.length (h.2.2.map Value.string))
    (h6 : w6.ownsRow base 36 3 v6 (done.length + 1) (hcells done us ++ [.int .i64 h.1, .int .i64 h.2.1, u])) (hg : W.grownBy w6 v.ownBlock) : OwnsHunks w6 base v6 (done ++ [h]) := by
  refine ⟨us ++ [u], by simp [h0], by rw [hcells_snoc _ _ _ _ h0]; simpa using h6, fun i u' x h1 h2 => ?_⟩
  by_cases hi : i < us.length
  · rw [List.getElem?_append_left hi] at h1
    rw [List.getElem?_append_left (by rw [← h0]; exact hi)] at h2
    exact own_kept (hold i u' x h1 h2) hout (by decide) hg
  · have : i = us.length := by
      have h3 := (List.getElem?_eq_some_iff.1 h1).1
      simp at h3; omega
    subst this
    simp at h1
    rw [h0] at h2
    simp at h2
    subst h1 h2
    exact own_kept hnew hout (by decide) hg
theorem from_blk {wr : World} {bf : Nat} {t : TypeId} {a b : Value} (h : Blk wr bf t #[a, b]) (x y : Value) : Blk ((wr.setCell ⟨bf, 0, none⟩ x).setCell ⟨bf, 1, none⟩ y) bf t #[x, y] := (h.set_ 0 x).set_ 1 y
theorem from_own {wr : World} {bf base : Nat} {e : TypeId} {size n : Nat} {v : Value} {xs : List Value} (h : wr.ownsRow base e size v n xs) (hb : bf < base) (x y : Value) : ((wr.setCell ⟨bf, 0, none⟩ x).setCell ⟨bf, 1, none⟩ y).ownsRow base e size v n xs :=
  ownsRow_setCell_below (ownsRow_setCell_below h (a := ⟨bf, 0, none⟩) hb x) (a := ⟨bf, 1, none⟩) hb y
theorem from_hunks {wr : World} {bf base : Nat} {v : Value} {hs : List (Nat × Nat × List ByteArray)} (h : OwnsHunks wr base v hs) (hb : bf < base) (x y : Value) : OwnsHunks ((wr.setCell ⟨bf, 0, none⟩ x).setCell ⟨bf, 1, none⟩ y) base v hs :=
  (h.setCell (p := ⟨bf, 0, none⟩) hb x).setCell (p := ⟨bf, 1, none⟩) hb y
theorem from_below {w wr : World} {bf : Nat} (h : Below bf w wr) (x y : Value) : Below bf w ((wr.setCell ⟨bf, 0, none⟩ x).setCell ⟨bf, 1, none⟩ y) :=
  (h.setCell (p := ⟨bf, 0, none⟩) (Nat.le_refl _) x).setCell (p := ⟨bf, 1, none⟩) (Nat.le_refl _) y

set_option maxHeartbeats 16000000 in
set_option maxRecDepth 100000 in
theorem diff_any (a b : ByteArray) (w : World) (ha : a.size ≤ 1000000) (hb : b.size ≤ 1000000) (hla : (linesOf a).length ≤ 400) (hlb : (linesOf b).length ≤ 400) :
    Calls Tryd.prog 9 #[.string a, .string b] w fun e w' => ∃ v, e = .returned (.tuple #[v, .int .i64 0]) ∧ OwnsHunks w' w.heap.size v (script (linesOf a) (linesOf b)) ∧ Below w.heap.size w w' := by
  have hr0 := reads_new w [a, b] 9 (w.heap.size + 1) (by omega)
  go_enter Tryd.func9, Tryd.ntmps9
  go_wp2_with (go_at_call 24; refine (texts2_any a b _ _ _ (by simpa using hr0) ha hb hla hlb).mono ?_; rintro e w1 ⟨gl, cap, A0, c0, A1, c1, rfl, hgl, hgl0, hcap, hl0, hl1, hs0, hs1, hb1⟩)
  have hfr := Blk.new w1 52 #[.int .i64 0, .int .i64 0]
  have hl0' := (World.cell?_alloc_lt w1 (.cells #[.int .i64 0, .int .i64 0] 52) ⟨gl, 0, none⟩ hgl).trans hl0
  have hl1' := (World.cell?_alloc_lt w1 (.cells #[.int .i64 0, .int .i64 0] 52) ⟨gl, 1, none⟩ hgl).trans hl1
  have hb12 : Below w1.heap.size w1 (w1.alloc (.cells #[.int .i64 0, .int .i64 0] 52)) := (Below.refl _ _).alloc (Nat.le_refl _) _
  have hs0' := hs0.below hb12
  have hs1' := hs1.below hb12
  have hsz2 : w1.heap.size < (w1.alloc (.cells #[.int .i64 0, .int .i64 0] 52)).heap.size := by simp
  generalize w1.alloc (.cells #[.int .i64 0, .int .i64 0] 52) = w2 at *
  clear hl0 hl1 hs0 hs1
  have hpl := prs_pairs_len (linesOf a) (linesOf b) 0 0
  obtain ⟨i0, hi0, hz0, hz1, hz2⟩ := info_parts pair_info
  go_region_held3 (fun w' => w'.cell? ⟨gl, 0, none⟩ = some (.slice A0 (linesOf a).length c0) ∧ w'.cell? ⟨gl, 1, none⟩ = some (.slice A1 (linesOf b).length c1))
    (first | go_keep)
    (first
      | (go_at_call 25; refine (common_at A0 A1 c0 c1 (linesOf a) (linesOf b) (hs0'.more (Nat.le_succ _)) (hs1'.more (Nat.le_succ _)) hla hlb ?_ ?_).mono ?_; (first | exact Below.refl _ _ | exact (Below.refl _ _).drew); (simp; omega); rintro e w3 ⟨v3, rfl, hown3, hb3, hb23⟩; have k0 := (hb23.cell (p := ⟨gl, 0, none⟩) (Nat.lt_succ_of_lt hgl)).trans hl0'; have k1 := (hb23.cell (p := ⟨gl, 1, none⟩) (Nat.lt_succ_of_lt hgl)).trans hl1'; have hsz3 := hb23.size)
      | (go_at_call 25; refine (common_at A0 A1 c0 c1 (linesOf a) (linesOf b) (hs0'.more (Nat.le_succ _)) (hs1'.more (Nat.le_succ _)) hla hlb ?_ ?_).mono ?_; (first | exact (Below.refl _ _).alloc (by omega) _ | exact ((Below.refl _ _).alloc (by omega) _).drew); (simp; omega); rintro e w3 ⟨v3, rfl, hown3b, hb3b, hb23b⟩; have k0 := (hb23b.cell (p := ⟨gl, 0, none⟩) (Nat.lt_succ_of_lt hgl)).trans hl0'; have k1 := (hb23b.cell (p := ⟨gl, 1, none⟩) (Nat.lt_succ_of_lt hgl)).trans hl1'; have hsz3 := hb23b.size)
      | (refine step_append_any _ (by rfl) (.tmp 28) (.tmp 38) _ (by rfl) (w1.heap.size + 1) 52 i0 _ 2 16 Tryd.underlying53 hi0 hz0 hz1 hz2 rfl (by decide) v3 _ _ (by rfl) (by exact (own_base hown3 (by simp; omega)).alloc _) (w3.heap.size + 1) (some ⟨w3.heap.size, 0, none⟩) 1 1 [.int .i64 (linesOf a).length, .int .i64 (linesOf b).length] (by rfl) (by exact reads_blk 1 (Blk.new w3 52 _) (by omega) 2 rfl) (by intro u hu; simp at hu; rcases hu with rfl | rfl <;> rfl) (by unfold maxLen; omega) (by omega) (by simp; omega) ?_; intro v4 w4 hown4 hg4 hat4; have hb24 : Below (w1.heap.size + 1) w2 w4 := (by first | exact (hb23.alloc (by omega) _).grown hg4 (by simp; omega) (fun g hg => by have := (hown3.lt g hg).1; simp at this; omega) | exact ((hb23.alloc (by omega) _).drew).grown hg4 (by simp; omega) (fun g hg => by have := (hown3.lt g hg).1; simp at this; omega)); have k0' := (hb24.cell (p := ⟨gl, 0, none⟩) (Nat.lt_succ_of_lt hgl)).trans hl0'; have k1' := (hb24.cell (p := ⟨gl, 1, none⟩) (Nat.lt_succ_of_lt hgl)).trans hl1'; obtain ⟨g4, c4, rfl, hc4, hg4a, hg4b⟩ := own_form hown4 (by omega))
      | (refine step_append_any _ (by rfl) (.tmp 28) (.tmp 38) _ (by rfl) (w1.heap.size + 1) 52 i0 _ 2 16 Tryd.underlying53 hi0 hz0 hz1 hz2 rfl (by decide) v3 _ _ (by rfl) (by exact own_base hown3b (by simp; omega)) (w2.heap.size + 1) (some ⟨w2.heap.size, 0, none⟩) 1 1 [.int .i64 (linesOf a).length, .int .i64 (linesOf b).length] (by rfl) (by exact reads_blk 1 ((Blk.new w2 52 _).drew.below hb3b (by simp)) (by omega) 2 rfl) (by intro u hu; simp at hu; rcases hu with rfl | rfl <;> rfl) (by unfold maxLen; omega) (by omega) (by omega) ?_; intro v4 w4 hown4 hg4 hat4; have hb24 : Below (w1.heap.size + 1) w2 w4 := (hb23b.grown hg4 (by omega) (fun g hg => by have := (hown3b.lt g hg).1; simp at this; omega)); have k0' := (hb24.cell (p := ⟨gl, 0, none⟩) (Nat.lt_succ_of_lt hgl)).trans hl0'; have k1' := (hb24.cell (p := ⟨gl, 1, none⟩) (Nat.lt_succ_of_lt hgl)).trans hl1'; obtain ⟨g4, c4, rfl, hc4, hg4a, hg4b⟩ := own_form hown4 (by omega)))
  all_goals
    clear hg4 hat4 k0 k1 k0' k1' hsz3
    have hfr4 := hfr.below hb24 (Nat.lt_succ_self _)
    have hasc := prs_asc (linesOf a) (linesOf b) 0 0 _ _ (Nat.zero_add _) (Nat.zero_add _)
    have hps : Hid (∃ ps, ps = prs 0 0 (linesOf a) (linesOf b) ++ [((linesOf a).length, (linesOf b).length)] ∧ ps.length = (prs 0 0 (linesOf a) (linesOf b)).length + 1) := Lib.hid ⟨_, rfl, by simp⟩
    obtain ⟨ps, hpsd, hpsl⟩ := hps.out
    have hown5 : w4.ownsRow (w1.heap.size + 1) 52 2 (.slice (some ⟨g4, 0, none⟩) ((prs 0 0 (linesOf a) (linesOf b)).length + 1) c4) ((prs 0 0 (linesOf a) (linesOf b)).length + 1) (pcells ps) := by rw [hpsd, pcells_snoc]; exact hown4
    have hscr : script (linesOf a) (linesOf b) = scr (linesOf b) 0 0 ps := by unfold script; rw [hpsd]
    rw [← hpsd] at hasc
    clear hown4 hpsd hps hfr
    try clear hown3
    try clear hown3b
    have HSC := Lib.hid hscr
    have HPL := Lib.hid hpsl
    clear hscr hpsl
    generalize (prs 0 0 (linesOf a) (linesOf b)).length = n at *
    go_wp2
    go_loopg [8, 41] (n + 1) (fun gk v z wr => ∃ (t i k : Nat) (done : List (Nat × Nat × List ByteArray)), z = .int .i64 t ∧ t ≤ n + 1 ∧ n + 1 - t ≤ gk ∧ script (linesOf a) (linesOf b) = done ++ scr (linesOf b) i k (ps.drop t) ∧
        Asc (linesOf a).length (linesOf b).length i k (ps.drop t) ∧ i ≤ 401 ∧ k ≤ 401 ∧ Blk wr w1.heap.size 52 #[.int .i64 i, .int .i64 k] ∧
        wr.ownsRow (w1.heap.size + 1) 52 2 (.slice (some ⟨g4, 0, none⟩) (n + 1) c4) (n + 1) (pcells ps) ∧ OwnsHunks wr (w1.heap.size + 1) v done ∧ done.length ≤ t ∧ Below w1.heap.size w2 wr ∧ w1.heap.size < wr.heap.size)
    case atStart => exact ⟨0, 0, 0, [], rfl, Nat.zero_le _, by omega, by rw [HSC.out]; rfl, hasc, by omega, by omega, hfr4, hown5, ⟨[], rfl, ⟨rfl, .inl ⟨rfl, rfl⟩⟩, fun i u h h1 => by simp at h1⟩, Nat.le_refl _, hb24.mono (Nat.le_succ _), by have := hb24.size; omega⟩
    case round =>
      clear hfr4 hasc hown5 hb24 HSC
      obtain ⟨t, i, k, done, rfl, ht, hg, hscr, hasc, hi, hk, hfr, hown, hhk, hdl, hbl, htop⟩ := hrel
      have HSC := Lib.hid hscr
      clear hscr
      by_cases hlt : t < n + 1
      · have hltp : t < ps.length := by rw [HPL.out]; exact hlt
        obtain ⟨p1, p2, hp⟩ : ∃ p1 p2, ps[t] = (p1, p2) := ⟨_, _, rfl⟩
        have hdr : ps.drop t = (p1, p2) :: ps.drop (t + 1) := by rw [List.drop_eq_getElem_cons hltp, hp]
        rw [hdr] at hasc
        obtain ⟨ha1, ha2, ha3, ha4, hasc2⟩ := hasc
        obtain ⟨hp1, hp2⟩ := pcells_get (l := ps) (t := t) (p1 := p1) (p2 := p2) (by rw [List.getElem?_eq_getElem hltp, hp])
        have cp1 : wr.cell? ⟨g4, t * 2, none⟩ = some (.int .i64 p1) := by have := hown.cells (g := g4) rfl _ _ hp1; rwa [addr_add, Nat.zero_add] at this
        have cp2 : wr.cell? ⟨g4, t * 2 + 1, none⟩ = some (.int .i64 p2) := by have := hown.cells (g := g4) rfl _ _ hp2; rwa [addr_add, Nat.zero_add] at this
        have cf1 : wr.cell? ⟨w1.heap.size, 0, none⟩ = some (.int .i64 i) := by rw [hfr.cell]; rfl
        have cf2 : wr.cell? ⟨w1.heap.size, 1, none⟩ = some (.int .i64 k) := by rw [hfr.cell]; rfl
        have ff1 : wr.frozen? ⟨w1.heap.size, 0, none⟩ = false := hfr.frozen 0
        have ff2 : wr.frozen? ⟨w1.heap.size, 1, none⟩ = false := hfr.frozen 1
        have cl1 := (hbl.cell (p := ⟨gl, 1, none⟩) hgl).trans hl1'
        have hsl := hs1'.below hbl
        clear hp1 hp2
        by_cases he : p1 = i ∧ p2 = k
        · obtain ⟨rfl, rfl⟩ := he
          have HS2 : Hid (script (linesOf a) (linesOf b) = done ++ scr (linesOf b) (p1 + 1) (p2 + 1) (ps.drop (t + 1))) := Lib.hid (by rw [HSC.out, hdr, scr_same])
          clear hdr
          go_wp2
          go_roundg (gk - 1)
          case measure => omega
          case rel =>
            refine ⟨t + 1, p1 + 1, p2 + 1, done, by go_num, by omega, by omega, HS2.out, hasc2, by omega, by omega, ?_, ?_, ?_, by omega, ?_, ?_⟩
            · have h := (from_blk hfr (.int .i64 ((p1 : Int) + 1)) (.int .i64 ((p2 : Int) + 1))).alloc (.cells #[.int .i64 p1, .int .i64 p2] 52)
              exact h
            · exact (from_own hown (Nat.lt_succ_self _) _ _).alloc _
            · exact (from_hunks hhk (Nat.lt_succ_self _) _ _).alloc _
            · exact (from_below hbl _ _).alloc (by simp; omega) _
            · simp; omega
        · by_cases he1 : p1 = i
          · subst he1
            have he2 : ¬ (p2 : Int) = (k : Int) := by omega
            have HS2 : Hid (script (linesOf a) (linesOf b) = (done ++ [(p1, p1, ((linesOf b).drop k).take (p2 - k))]) ++ scr (linesOf b) (p1 + 1) (p2 + 1) (ps.drop (t + 1))) := Lib.hid (by rw [HSC.out, hdr, scr_other _ _ _ _ _ (by simp; omega)]; simp)
            have hcut := (hsl.cutIf k).take (p2 - k)
            have hlen : p2 - k = (((linesOf b).drop k).take (p2 - k)).length := by simp; omega
            have HLEN := Lib.hid hlen
            have hc1k : (k : Int) ≤ (p2 : Int) := by omega
            have hc1c : (p2 : Int) ≤ (c1 : Int) := by have := hsl.1; omega
            clear hdr hlen
            go_wp2
            have hfra := hfr.alloc (.cells #[.int .i64 p1, .int .i64 p2] 52)
            have hpa := Blk.new wr 52 #[.int .i64 p1, .int .i64 p2]
            have hba : Below wr.heap.size wr (wr.alloc (.cells #[.int .i64 p1, .int .i64 p2] 52)) := (Below.refl _ _).alloc (Nat.le_refl _) _
            have htopa : wr.heap.size < (wr.alloc (.cells #[.int .i64 p1, .int .i64 p2] 52)).heap.size := by simp
            have hcuta := hcut.below (hba.mono (Nat.le_of_lt htop))
            have cl1a := (hba.cell (p := ⟨gl, 1, none⟩) (Nat.lt_trans hgl htop)).trans cl1
            have howna := own_below hown hba
            have hhka := hhk.below hba
            have hbla := hbl.trans (hba.mono (Nat.le_of_lt htop))
            generalize wr.alloc (.cells #[.int .i64 p1, .int .i64 p2] 52) = wa at *
            clear hown hhk hbl hcut hsl cl1 hfr cp1 cp2 cf1 cf2 ff1 ff2
            have cf1 : wa.cell? ⟨w1.heap.size, 0, none⟩ = some (.int .i64 p1) := by rw [hfra.cell]; rfl
            have cf2 : wa.cell? ⟨w1.heap.size, 1, none⟩ = some (.int .i64 k) := by rw [hfra.cell]; rfl
            have cp1 : wa.cell? ⟨wr.heap.size, 0, none⟩ = some (.int .i64 p1) := by rw [hpa.cell]; rfl
            have cp2 : wa.cell? ⟨wr.heap.size, 1, none⟩ = some (.int .i64 p2) := by rw [hpa.cell]; rfl
            obtain ⟨j0, hj0, hy0, hy1, hy2⟩ := info_parts hunk_info
            obtain ⟨us, hus1, hus2, hus3⟩ := hhka
            go_region_held3 (fun w' => w'.cell? ⟨w1.heap.size, 0, none⟩ = some (.int .i64 p1) ∧ w'.cell? ⟨w1.heap.size, 1, none⟩ = some (.int .i64 k) ∧ w'.cell? ⟨wr.heap.size, 0, none⟩ = some (.int .i64 p1) ∧ w'.cell? ⟨wr.heap.size, 1, none⟩ = some (.int .i64 p2) ∧ w'.cell? ⟨gl, 1, none⟩ = some (.slice A1 (linesOf b).length c1))
              (first | go_keep)
              (first
                | (go_at_call 26; refine (clone_at (hcuta.more (Nat.le_of_lt (Nat.lt_trans htop htopa))) HLEN.out ?_ ?_ ?_).mono ?_; (simp; omega); (first | exact Below.refl wa.heap.size _ | exact (Below.refl wa.heap.size _).drew); exact Nat.le_refl wa.heap.size; rintro e w5 ⟨A5, c5, rfl, hown5, hb5, hb5a⟩; have k0 := (hb5a.cell (p := ⟨w1.heap.size, 0, none⟩) (Nat.lt_trans htop htopa)).trans cf1; have k1 := (hb5a.cell (p := ⟨w1.heap.size, 1, none⟩) (Nat.lt_trans htop htopa)).trans cf2; have k2 := (hb5a.cell (p := ⟨wr.heap.size, 0, none⟩) htopa).trans cp1; have k3 := (hb5a.cell (p := ⟨wr.heap.size, 1, none⟩) htopa).trans cp2; have k4 := (hb5a.cell (p := ⟨gl, 1, none⟩) (Nat.lt_trans hgl (Nat.lt_trans htop htopa))).trans cl1a; have hsz5 := hb5a.size; have hpa5 := hpa.below hb5a htopa; have hfa5 := hfra.below hb5a (by omega); have hou5 := own_below hus2 hb5a; generalize (if c1 = k then A1 else Option.map (fun x => x.add k) A1) = Ax)
                | (have tokk := hou5; refine step_append_any _ ?q1 (.tmp 48) (.tmp 63) _ ?q2 (w1.heap.size + 1) 36 j0 _ 3 40 Tryd.underlying24 hj0 hy0 hy1 hy2 rfl (by decide) u8 _ _ ?q3 (hou5.alloc _) (w5.heap.size + 1) (some ⟨w5.heap.size, 0, none⟩) 1 1 [.int .i64 p1, .int .i64 p1, .slice A5 (p2 - k) c5] ?q4 ?q5 ?q6 ?q7 ?q8 ?q9 ?_; (case q1 => rfl); (case q2 => rfl); (case q3 => rfl); (case q4 => rfl); (case q5 => exact reads_blk 1 (Blk.new w5 36 _) (by omega) 3 rfl); (case q6 => intro u hu; simp only [List.mem_cons, List.not_mem_nil, or_false] at hu; rcases hu with h | h | h <;> (subst h; rfl)); (case q7 => unfold maxLen; omega); (case q8 => omega); (case q9 => simp; omega); clear tokk; intro v6 w6 hown6 hg6 hat6; have hpa6 := (hpa5.alloc _).grown hg6 (fun e => own_blk_ne hou5 hpa5 (by decide) e.symm); have hfa6 := (hfa5.alloc _).grown hg6 (fun e => own_blk_ne hou5 hfa5 (by decide) e.symm); have hbe6 : Below w1.heap.size wa w6 := ((hb5a.mono (Nat.le_of_lt (Nat.lt_trans htop htopa))).alloc (Nat.le_trans (Nat.le_of_lt (Nat.lt_trans htop htopa)) hsz5) _).grown hg6 (by simp; omega) (fun g hg => Nat.le_of_succ_le (hou5.lt g hg).1); have k0' := (hfa6.cell 0); have k1' := (hfa6.cell 1); have k2' := (hpa6.cell 0); have k3' := (hpa6.cell 1); simp only [List.getElem?_toArray, List.getElem?_cons_zero, List.getElem?_cons_succ] at k0' k1' k2' k3'; have k4' := (hbe6.cell (p := ⟨gl, 1, none⟩) hgl).trans cl1a))
            have hown7 := own_kept ((own_below howna hb5a).alloc _) (hou5.alloc _) (by decide) hg6
            have hhk7 := OwnsHunks.snoc (h := (p1, p1, ((linesOf b).drop k).take (p2 - k))) (u := .slice A5 (p2 - k) c5) hus1 (hou5.alloc _) (fun i u x e1 e2 => (own_below (hus3 i u x e1 e2) hb5a).alloc _) (by have h9 := (own_base (b' := w1.heap.size + 1) hown5 (by simp; omega)).alloc (.cells #[.int .i64 p1, .int .i64 p1, .slice A5 (p2 - k) c5] 36); have e9 := HLEN.out; rw [← e9]; exact h9) (by simpa using hown6) hg6
            have hbl7 := hbla.trans hbe6
            have hff1 := hfa6.frozen 0
            have hff2 := hfa6.frozen 1
            have hsz6 := hbe6.size
            clear hg6 hat6 hown6 hou5 hpa5 hfa5 hown5 hb5 hb5a hus2 hus3 k0 k1 k2 k3 k4 k4' hpa6 hbe6 hcuta cl1a howna hbla hfra hpa cf1 cf2 cp1 cp2
            go_wp2
            go_roundg (gk - 1)
            case measure => omega
            case rel =>
              refine ⟨t + 1, p1 + 1, p2 + 1, _, by go_num, by omega, by omega, HS2.out, hasc2, by omega, by omega, from_blk hfa6 _ _, from_own hown7 (Nat.lt_succ_self _) _ _, from_hunks hhk7 (Nat.lt_succ_self _) _ _, by simp; omega, from_below hbl7 _ _, by simp; omega⟩
          · have he2 : ¬ (p1 : Int) = (i : Int) := by omega
            have HS2 : Hid (script (linesOf a) (linesOf b) = (done ++ [(i, p1, ((linesOf b).drop k).take (p2 - k))]) ++ scr (linesOf b) (p1 + 1) (p2 + 1) (ps.drop (t + 1))) := Lib.hid (by rw [HSC.out, hdr, scr_other _ _ _ _ _ (by simp; omega)]; simp)
            have hcut := (hsl.cutIf k).take (p2 - k)
            have hlen : p2 - k = (((linesOf b).drop k).take (p2 - k)).length := by simp; omega
            have HLEN := Lib.hid hlen
            have hc1k : (k : Int) ≤ (p2 : Int) := by omega
            have hc1c : (p2 : Int) ≤ (c1 : Int) := by have := hsl.1; omega
            clear hdr hlen
            go_wp2
            have hfra := hfr.alloc (.cells #[.int .i64 p1, .int .i64 p2] 52)
            have hpa := Blk.new wr 52 #[.int .i64 p1, .int .i64 p2]
            have hba : Below wr.heap.size wr (wr.alloc (.cells #[.int .i64 p1, .int .i64 p2] 52)) := (Below.refl _ _).alloc (Nat.le_refl _) _
            have htopa : wr.heap.size < (wr.alloc (.cells #[.int .i64 p1, .int .i64 p2] 52)).heap.size := by simp
            have hcuta := hcut.below (hba.mono (Nat.le_of_lt htop))
            have cl1a := (hba.cell (p := ⟨gl, 1, none⟩) (Nat.lt_trans hgl htop)).trans cl1
            have howna := own_below hown hba
            have hhka := hhk.below hba
            have hbla := hbl.trans (hba.mono (Nat.le_of_lt htop))
            generalize wr.alloc (.cells #[.int .i64 p1, .int .i64 p2] 52) = wa at *
            clear hown hhk hbl hcut hsl cl1 hfr cp1 cp2 cf1 cf2 ff1 ff2
            have cf1 : wa.cell? ⟨w1.heap.size, 0, none⟩ = some (.int .i64 i) := by rw [hfra.cell]; rfl
            have cf2 : wa.cell? ⟨w1.heap.size, 1, none⟩ = some (.int .i64 k) := by rw [hfra.cell]; rfl
            have cp1 : wa.cell? ⟨wr.heap.size, 0, none⟩ = some (.int .i64 p1) := by rw [hpa.cell]; rfl
            have cp2 : wa.cell? ⟨wr.heap.size, 1, none⟩ = some (.int .i64 p2) := by rw [hpa.cell]; rfl
            obtain ⟨j0, hj0, hy0, hy1, hy2⟩ := info_parts hunk_info
            obtain ⟨us, hus1, hus2, hus3⟩ := hhka
            go_region_held3 (fun w' => w'.cell? ⟨w1.heap.size, 0, none⟩ = some (.int .i64 i) ∧ w'.cell? ⟨w1.heap.size, 1, none⟩ = some (.int .i64 k) ∧ w'.cell? ⟨wr.heap.size, 0, none⟩ = some (.int .i64 p1) ∧ w'.cell? ⟨wr.heap.size, 1, none⟩ = some (.int .i64 p2) ∧ w'.cell? ⟨gl, 1, none⟩ = some (.slice A1 (linesOf b).length c1))
              (first | go_keep)
              (first
                | (go_at_call 26; refine (clone_at (hcuta.more (Nat.le_of_lt (Nat.lt_trans htop htopa))) HLEN.out ?_ ?_ ?_).mono ?_; (simp; omega); (first | exact Below.refl wa.heap.size _ | exact (Below.refl wa.heap.size _).drew); exact Nat.le_refl wa.heap.size; rintro e w5 ⟨A5, c5, rfl, hown5, hb5, hb5a⟩; have k0 := (hb5a.cell (p := ⟨w1.heap.size, 0, none⟩) (Nat.lt_trans htop htopa)).trans cf1; have k1 := (hb5a.cell (p := ⟨w1.heap.size, 1, none⟩) (Nat.lt_trans htop htopa)).trans cf2; have k2 := (hb5a.cell (p := ⟨wr.heap.size, 0, none⟩) htopa).trans cp1; have k3 := (hb5a.cell (p := ⟨wr.heap.size, 1, none⟩) htopa).trans cp2; have k4 := (hb5a.cell (p := ⟨gl, 1, none⟩) (Nat.lt_trans hgl (Nat.lt_trans htop htopa))).trans cl1a; have hsz5 := hb5a.size; have hpa5 := hpa.below hb5a htopa; have hfa5 := hfra.below hb5a (by omega); have hou5 := own_below hus2 hb5a; generalize (if c1 = k then A1 else Option.map (fun x => x.add k) A1) = Ax)
                | (have tokk := hou5; refine step_append_any _ ?q1 (.tmp 48) (.tmp 63) _ ?q2 (w1.heap.size + 1) 36 j0 _ 3 40 Tryd.underlying24 hj0 hy0 hy1 hy2 rfl (by decide) u8 _ _ ?q3 (hou5.alloc _) (w5.heap.size + 1) (some ⟨w5.heap.size, 0, none⟩) 1 1 [.int .i64 i, .int .i64 p1, .slice A5 (p2 - k) c5] ?q4 ?q5 ?q6 ?q7 ?q8 ?q9 ?_; (case q1 => rfl); (case q2 => rfl); (case q3 => rfl); (case q4 => rfl); (case q5 => exact reads_blk 1 (Blk.new w5 36 _) (by omega) 3 rfl); (case q6 => intro u hu; simp only [List.mem_cons, List.not_mem_nil, or_false] at hu; rcases hu with h | h | h <;> (subst h; rfl)); (case q7 => unfold maxLen; omega); (case q8 => omega); (case q9 => simp; omega); clear tokk; intro v6 w6 hown6 hg6 hat6; have hpa6 := (hpa5.alloc _).grown hg6 (fun e => own_blk_ne hou5 hpa5 (by decide) e.symm); have hfa6 := (hfa5.alloc _).grown hg6 (fun e => own_blk_ne hou5 hfa5 (by decide) e.symm); have hbe6 : Below w1.heap.size wa w6 := ((hb5a.mono (Nat.le_of_lt (Nat.lt_trans htop htopa))).alloc (Nat.le_trans (Nat.le_of_lt (Nat.lt_trans htop htopa)) hsz5) _).grown hg6 (by simp; omega) (fun g hg => Nat.le_of_succ_le (hou5.lt g hg).1); have k0' := (hfa6.cell 0); have k1' := (hfa6.cell 1); have k2' := (hpa6.cell 0); have k3' := (hpa6.cell 1); simp only [List.getElem?_toArray, List.getElem?_cons_zero, List.getElem?_cons_succ] at k0' k1' k2' k3'; have k4' := (hbe6.cell (p := ⟨gl, 1, none⟩) hgl).trans cl1a))
            have hown7 := own_kept ((own_below howna hb5a).alloc _) (hou5.alloc _) (by decide) hg6
            have hhk7 := OwnsHunks.snoc (h := (i, p1, ((linesOf b).drop k).take (p2 - k))) (u := .slice A5 (p2 - k) c5) hus1 (hou5.alloc _) (fun i u x e1 e2 => (own_below (hus3 i u x e1 e2) hb5a).alloc _) (by have h9 := (own_base (b' := w1.heap.size + 1) hown5 (by simp; omega)).alloc (.cells #[.int .i64 i, .int .i64 p1, .slice A5 (p2 - k) c5] 36); have e9 := HLEN.out; rw [← e9]; exact h9) (by simpa using hown6) hg6
            have hbl7 := hbla.trans hbe6
            have hff1 := hfa6.frozen 0
            have hff2 := hfa6.frozen 1
            have hsz6 := hbe6.size
            clear hg6 hat6 hown6 hou5 hpa5 hfa5 hown5 hb5 hb5a hus2 hus3 k0 k1 k2 k3 k4 k4' hpa6 hbe6 hcuta cl1a howna hbla hfra hpa cf1 cf2 cp1 cp2
            go_wp2
            go_roundg (gk - 1)
            case measure => omega
            case rel =>
              refine ⟨t + 1, p1 + 1, p2 + 1, _, by go_num, by omega, by omega, HS2.out, hasc2, by omega, by omega, from_blk hfa6 _ _, from_own hown7 (Nat.lt_succ_self _) _ _, from_hunks hhk7 (Nat.lt_succ_self _) _ _, by simp; omega, from_below hbl7 _ _, by simp; omega⟩
      · have hte : t = n + 1 := by omega
        subst hte
        go_wp2
        go_ret2
        refine ⟨_, rfl, ?_, ?_⟩
        · rw [HSC.out, List.drop_eq_nil_of_le (by rw [HPL.out]; exact Nat.le_refl _)]
          obtain ⟨us, h1, h2, h3⟩ := hhk
          simp only [scr, List.append_nil]
          have hw : w.heap.size ≤ w1.heap.size + 1 := by have := hb1.size; simp at this; omega
          exact ⟨us, h1, own_base h2 hw, fun i u h a b => own_base (h3 i u h a b) hw⟩
        · have hww : w.heap.size ≤ w1.heap.size := by have := hb1.size; simp at this; omega
          exact (((Below.refl _ w).alloc (Nat.le_refl _) _).trans (hb1.mono (by simp))).trans ((hb12.trans hbl).mono hww)
end Go.Proofs.YtafhefhhndmdkaaDoor
