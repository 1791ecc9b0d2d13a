/- The closure of merge.Merge that adds a part to the pieces; for parts of at most 401 lines. -/
import Derived.Test.YtafhefhhndmdkaaDoorMgDiff
import Derived.Test.YtafhefhhndmdkaaDoorMgPartMath
import Derived.Test.YtafhefhhndmdkaaDoorMgHeld
import Derived.StillTailTactics
namespace Go.Proofs.YtafhefhhndmdkaaDoor
open Go.RowKit Mg
attribute [local go_sem ↓] Go.wp_at_zero Go.wp_at_succ

theorem chunk_info : (Tryd.prog.info? 76).map (fun i => (i.zero, i.size, i.bytes)) = some (some (.agg #[.int .i64 0, .slice none 0 0, .slice none 0 0, .slice none 0 0]), 4, 80) := by kernel_rfl

/-- only blocks in S, and new ones, have turned -/
structure Only (S : Nat → Prop) (w w' : World) : Prop where
  os : w'.os = w.os
  tape : w'.tape = w.tape
  output : w'.output = w.output
  size : w.heap.size ≤ w'.heap.size
  block : ∀ k, k < w.heap.size → ¬ S k → w'.heap[k]? = w.heap[k]?

theorem equal_any {w : World} (A C : Option Addr) (ca cc n m : Nat) (la lb : List ByteArray) {B : Nat} (ha : Strs w B A ca la) (hb : Strs w B C cc lb) (hn : n = la.length) (hm : m = lb.length) (hna : n ≤ 1000000) (hnb : m ≤ 1000000) (d : Bool) (hd : decide (la = lb) = d) :
    Calls Tryd.prog 39 #[.slice A n ca, .slice C m cc] w fun e w' => e = .returned (.bool d) ∧ ∃ q, w' = w.drewN q := by
  subst hd
  by_cases hnm : n = m
  · subst hnm
    rcases Nat.eq_zero_or_pos n with h0 | h0
    · obtain rfl : la = [] := List.eq_nil_of_length_eq_zero (by omega)
      obtain rfl : lb = [] := List.eq_nil_of_length_eq_zero (by omega)
      subst h0
      exact (Tryd.slices_Equal_string_empty A C ca 0 cc w (by omega)).mono fun e w' ⟨h1, h2⟩ => ⟨by simpa using h1, 0, h2⟩
    · obtain ⟨b1, o1, rfl, h1, _⟩ := ha.at_ (k := 0) (by omega)
      obtain ⟨b2, o2, rfl, h2, _⟩ := hb.at_ (k := 0) (by omega)
      have hx : ∀ {b o c : Nat} {l : List ByteArray}, Strs w B (some ⟨b, o, none⟩) c l → ∀ j, j < l.length → w.cell? ⟨b, o + j, none⟩ = some (.string (l.getD j ByteArray.empty)) := by
        intro b o c l h j hj
        obtain ⟨b', o', e1, _, e3⟩ := h.at_ hj
        simp only [Option.some.injEq, Addr.mk.injEq] at e1
        obtain ⟨rfl, rfl, _⟩ := e1
        rw [e3, List.getD_eq_getElem?_getD, List.getElem?_eq_getElem hj]; rfl
      refine (Tryd.slices_Equal_string b1 o1 n ca b2 o2 n cc la lb w (by omega) (by omega) (by omega) (by omega) (hx ha) (hx hb)).mono fun e w' ⟨h3, h4⟩ => ⟨?_, h4⟩
      rw [h3, List.take_of_length_le (by omega), List.take_of_length_le (by omega)]
  · refine (Tryd.slices_Equal_string_lens A C n ca m cc w hnm).mono fun e w' ⟨h1, h2⟩ => ⟨?_, 0, h2⟩
    rw [h1, decide_eq_false]
    intro h; subst h; omega

theorem cut_len (l : List ByteArray) (i j : Nat) (h1 : i ≤ j) (h2 : j ≤ l.length) : (cut l i j).length = j - i := by unfold cut; simp; omega

/-- what the closure leaves -/
def PartPost (bo bs B : Nat) (v : Value) (xs : List Value) (n : Nat) (x0 x1 x2 : List ByteArray) (w w' : World) : Prop :=
  (x0.length + x1.length + x2.length = 0 ∧ Below w.heap.size w w') ∨
  (x0.length + x1.length + x2.length ≠ 0 ∧ ∃ v' u0 u1 u2, w'.ownsRow B 76 4 v' (n + 1) (xs ++ [.int .i64 (kindOf x0 x1 x2 : Nat), u0, u1, u2]) ∧
    w'.ownsRow w.heap.size 9 1 u0 x0.length (x0.map Value.string) ∧ w'.ownsRow w.heap.size 9 1 u1 x1.length (x1.map Value.string) ∧ w'.ownsRow w.heap.size 9 1 u2 x2.length (x2.map Value.string) ∧
    Blk w' bo 40 #[v'] ∧ Blk w' bs 4 #[.bool false] ∧ Only (fun k => k = bo ∨ k = bs ∨ v.ownBlock = some k) w w')

theorem grownBy_setCell (w : World) (a : Addr) (u : Value) : w.grownBy (w.setCell a u) (some a.block) := ⟨rfl, rfl, rfl, by simp [World.setCell], fun k _ hk => Below.heap_setCell _ _ _ _ (fun e => hk (by rw [e]))⟩
theorem own_set {w : World} {b g : Nat} {e t : TypeId} {size n : Nat} {v : Value} {xs : List Value} {cs : Array Value} (h : w.ownsRow b e size v n xs) (hb : Blk w g t cs) (hne : e ≠ t) (i : Nat) (u : Value) :
    (w.setCell ⟨g, i, none⟩ u).ownsRow b e size v n xs := h.kept (grownBy_setCell w ⟨g, i, none⟩ u) (.inr (own_blk_ne h hb hne))
theorem Only.of_below {S : Nat → Prop} {w w' : World} (h : Below w.heap.size w w') : Only S w w' := ⟨h.os, h.tape, h.output, h.size, fun k hk _ => h.block k hk⟩
theorem Only.grown {S : Nat → Prop} {w w1 w2 : World} {row : Option Nat} (h : Only S w w1) (hg : w1.grownBy w2 row) (hr : ∀ k, row = some k → S k) : Only S w w2 :=
  ⟨hg.os.trans h.os, hg.tape.trans h.tape, hg.output.trans h.output, Nat.le_trans h.size hg.size, fun k hk hs => (hg.block k (Nat.lt_of_lt_of_le hk h.size) (fun e => hs (hr k e.symm))).trans (h.block k hk hs)⟩

set_option maxHeartbeats 16000000 in
set_option maxRecDepth 100000 in
theorem part_any (o a b : List ByteArray) (f0 f1 f2 t0 t1 t2 bl gl bf bo bs cl c0 c1 c2 : Nat) (A0 A1 A2 : Option Addr) (v : Value) (xs : List Value) (n B0 B : Nat) (s : Bool) (w : World)
    (hl : w.cell? ⟨bl, 0, none⟩ = some (.slice (some ⟨gl, 0, none⟩) 3 cl))
    (hg0 : w.cell? ⟨gl, 0, none⟩ = some (.slice A0 o.length c0)) (hg1 : w.cell? ⟨gl, 1, none⟩ = some (.slice A1 a.length c1)) (hg2 : w.cell? ⟨gl, 2, none⟩ = some (.slice A2 b.length c2))
    (hs0 : Strs w B0 A0 c0 o) (hs1 : Strs w B0 A1 c1 a) (hs2 : Strs w B0 A2 c2 b) (hB0 : B0 ≤ w.heap.size) (hlbl : bl < w.heap.size) (hlgl : gl < w.heap.size)
    (hf : Blk w bf 73 #[.int .i64 f0, .int .i64 f1, .int .i64 f2]) (hbo : Blk w bo 40 #[v]) (hbs : Blk w bs 4 #[.bool s]) (hown : w.ownsRow B 76 4 v n xs) (hn : n ≤ 1000) (hBw : B ≤ w.heap.size)
    (h0 : f0 ≤ t0) (h0' : t0 ≤ o.length) (h1 : f1 ≤ t1) (h1' : t1 ≤ a.length) (h2 : f2 ≤ t2) (h2' : t2 ≤ b.length) (hno : o.length ≤ 400) (hna : a.length ≤ 400) (hnb : b.length ≤ 400) :
    Calls Tryd.prog 38 #[.agg #[.int .i64 t0, .int .i64 t1, .int .i64 t2], .pointer (some ⟨bl, 0, none⟩), .pointer (some ⟨bf, 0, none⟩), .pointer (some ⟨bo, 0, none⟩), .pointer (some ⟨bs, 0, none⟩)] w fun e w' => e = .returned (.tuple #[]) ∧ PartPost bo bs B v xs n (cut o f0 t0) (cut a f1 t1) (cut b f2 t2) w w' := by
  have hlf := hf.lt
  have hc0 := hs0.1
  have hc1 := hs1.1
  have hc2 := hs2.1
  go_enter Tryd.func38, Tryd.ntmps38
  go_wp2
  have hto1 := (Blk.new w 73 #[.int .i64 t0, .int .i64 t1, .int .i64 t2]).alloc (.cells #[.slice none 0 0, .slice none 0 0, .slice none 0 0] 74)
  have hx1 := Blk.new (w.alloc (.cells #[.int .i64 t0, .int .i64 t1, .int .i64 t2] 73)) 74 #[.slice none 0 0, .slice none 0 0, .slice none 0 0]
  have hsz : (w.alloc (.cells #[.int .i64 t0, .int .i64 t1, .int .i64 t2] 73)).heap.size = w.heap.size + 1 := by simp
  rw [hsz] at hx1
  clear hsz
  have hb1 : Below w.heap.size w ((w.alloc (.cells #[.int .i64 t0, .int .i64 t1, .int .i64 t2] 73)).alloc (.cells #[.slice none 0 0, .slice none 0 0, .slice none 0 0] 74)) := ((Below.refl _ _).alloc (Nat.le_refl _) _).alloc (by simp) _
  have hz1 : ((w.alloc (.cells #[.int .i64 t0, .int .i64 t1, .int .i64 t2] 73)).alloc (.cells #[.slice none 0 0, .slice none 0 0, .slice none 0 0] 74)).heap.size = w.heap.size + 2 := by simp
  generalize (w.alloc (.cells #[.int .i64 t0, .int .i64 t1, .int .i64 t2] 73)).alloc (.cells #[.slice none 0 0, .slice none 0 0, .slice none 0 0] 74) = w1 at *
  refine wp_loop_rounds 4 ?_
  rw [rounds_succ]
  go_wp2
  have k1 := (hb1.cell (p := ⟨bl, 0, none⟩) hlbl).trans hl
  have k2 := (hb1.cell (p := ⟨gl, 0, none⟩) hlgl).trans hg0
  have k3 : w1.cell? ⟨bf, 0, none⟩ = some (.int .i64 f0) := by rw [(hf.below hb1 hlf).cell]; rfl
  have k4 : w1.cell? ⟨w.heap.size, 0, none⟩ = some (.int .i64 t0) := by rw [hto1.cell]; rfl
  have k5 : w1.frozen? ⟨w.heap.size + 1, 0, none⟩ = false := hx1.frozen 0
  have k9 : w1.cell? ⟨w.heap.size + 1, 0, none⟩ = some (.slice none 0 0) := (hx1.cell 0).trans rfl
  have k6 : (f0 : Int) ≤ (t0 : Int) := by omega
  have k7 : (t0 : Int) ≤ (c0 : Int) := by omega
  have k8 : (0 : Int) ≤ (f0 : Int) := by omega
  go_still_tail 13, (by kernel_rfl)
  change wpList _ _ _ _ _ w1.drew
  generalize hX0 : (if c0 = f0 then A0 else Option.map (fun x => x.add f0) A0) = X0
  have HX0 := Lib.hid hX0
  clear hX0
  go_wp2
  clear k1 k2 k3 k4 k5 k6 k7 k8 k9
  have hx2 := (hx1.set_ 0 (Value.slice X0 (t0 - f0) (c0 - f0))).drew
  have hto2 := (hto1.far (p := ⟨w.heap.size + 1, 0, none⟩) (Nat.ne_of_lt (Nat.lt_succ_self _)) (Value.slice X0 (t0 - f0) (c0 - f0))).drew
  have hb2 := (hb1.setCell (p := ⟨w.heap.size + 1, 0, none⟩) (Nat.le_succ _) (Value.slice X0 (t0 - f0) (c0 - f0))).drew
  have hz2 : (w1.setCell ⟨w.heap.size + 1, 0, none⟩ (Value.slice X0 (t0 - f0) (c0 - f0))).drew.heap.size = w.heap.size + 2 := by simp [hz1]
  clear hx1 hto1 hb1 hz1
  generalize hw2 : (w1.setCell ⟨w.heap.size + 1, 0, none⟩ (Value.slice X0 (t0 - f0) (c0 - f0))).drew = w2 at *
  clear hw2
  rw [rounds_succ]
  go_wp2
  have k1 := (hb2.cell (p := ⟨bl, 0, none⟩) hlbl).trans hl
  have k2 := (hb2.cell (p := ⟨gl, 1, none⟩) hlgl).trans hg1
  have k3 : w2.cell? ⟨bf, 1, none⟩ = some (.int .i64 f1) := by rw [(hf.below hb2 hlf).cell]; rfl
  have k4 : w2.cell? ⟨w.heap.size, 1, none⟩ = some (.int .i64 t1) := by rw [hto2.cell]; rfl
  have k5 : w2.frozen? ⟨w.heap.size + 1, 1, none⟩ = false := hx2.frozen 1
  have k9 : w2.cell? ⟨w.heap.size + 1, 1, none⟩ = some (.slice none 0 0) := (hx2.cell 1).trans rfl
  have k6 : (f1 : Int) ≤ (t1 : Int) := by omega
  have k7 : (t1 : Int) ≤ (c1 : Int) := by omega
  have k8 : (0 : Int) ≤ (f1 : Int) := by omega
  go_still_tail 13, (by kernel_rfl)
  change wpList _ _ _ _ _ w2.drew
  generalize hX1 : (if c1 = f1 then A1 else Option.map (fun x => x.add f1) A1) = X1
  have HX1 := Lib.hid hX1
  clear hX1
  go_wp2
  clear k1 k2 k3 k4 k5 k6 k7 k8 k9
  have hx3 := (hx2.set_ 1 (Value.slice X1 (t1 - f1) (c1 - f1))).drew
  have hto3 := (hto2.far (p := ⟨w.heap.size + 1, 1, none⟩) (Nat.ne_of_lt (Nat.lt_succ_self _)) (Value.slice X1 (t1 - f1) (c1 - f1))).drew
  have hb3 := (hb2.setCell (p := ⟨w.heap.size + 1, 1, none⟩) (Nat.le_succ _) (Value.slice X1 (t1 - f1) (c1 - f1))).drew
  have hz3 : (w2.setCell ⟨w.heap.size + 1, 1, none⟩ (Value.slice X1 (t1 - f1) (c1 - f1))).drew.heap.size = w.heap.size + 2 := by simp [hz2]
  clear hx2 hto2 hb2 hz2
  generalize hw3 : (w2.setCell ⟨w.heap.size + 1, 1, none⟩ (Value.slice X1 (t1 - f1) (c1 - f1))).drew = w3 at *
  clear hw3
  rw [rounds_succ]
  go_wp2
  have k1 := (hb3.cell (p := ⟨bl, 0, none⟩) hlbl).trans hl
  have k2 := (hb3.cell (p := ⟨gl, 2, none⟩) hlgl).trans hg2
  have k3 : w3.cell? ⟨bf, 2, none⟩ = some (.int .i64 f2) := by rw [(hf.below hb3 hlf).cell]; rfl
  have k4 : w3.cell? ⟨w.heap.size, 2, none⟩ = some (.int .i64 t2) := by rw [hto3.cell]; rfl
  have k5 : w3.frozen? ⟨w.heap.size + 1, 2, none⟩ = false := hx3.frozen 2
  have k9 : w3.cell? ⟨w.heap.size + 1, 2, none⟩ = some (.slice none 0 0) := (hx3.cell 2).trans rfl
  have k6 : (f2 : Int) ≤ (t2 : Int) := by omega
  have k7 : (t2 : Int) ≤ (c2 : Int) := by omega
  have k8 : (0 : Int) ≤ (f2 : Int) := by omega
  go_still_tail 13, (by kernel_rfl)
  change wpList _ _ _ _ _ w3.drew
  generalize hX2 : (if c2 = f2 then A2 else Option.map (fun x => x.add f2) A2) = X2
  have HX2 := Lib.hid hX2
  clear hX2
  go_wp2
  clear k1 k2 k3 k4 k5 k6 k7 k8 k9
  have hx4 := (hx3.set_ 2 (Value.slice X2 (t2 - f2) (c2 - f2))).drew
  have hto4 := (hto3.far (p := ⟨w.heap.size + 1, 2, none⟩) (Nat.ne_of_lt (Nat.lt_succ_self _)) (Value.slice X2 (t2 - f2) (c2 - f2))).drew
  have hb4 := (hb3.setCell (p := ⟨w.heap.size + 1, 2, none⟩) (Nat.le_succ _) (Value.slice X2 (t2 - f2) (c2 - f2))).drew
  have hz4 : (w3.setCell ⟨w.heap.size + 1, 2, none⟩ (Value.slice X2 (t2 - f2) (c2 - f2))).drew.heap.size = w.heap.size + 2 := by simp [hz3]
  clear hx3 hto3 hb3 hz3
  generalize hw4 : (w3.setCell ⟨w.heap.size + 1, 2, none⟩ (Value.slice X2 (t2 - f2) (c2 - f2))).drew = w4 at *
  clear hw4
  rw [rounds_succ]
  have cx0 : w4.cell? ⟨w.heap.size + 1, 0, none⟩ = some (Value.slice X0 (t0 - f0) (c0 - f0)) := by rw [hx4.cell]; rfl
  have cx1 : w4.cell? ⟨w.heap.size + 1, 1, none⟩ = some (Value.slice X1 (t1 - f1) (c1 - f1)) := by rw [hx4.cell]; rfl
  have cx2 : w4.cell? ⟨w.heap.size + 1, 2, none⟩ = some (Value.slice X2 (t2 - f2) (c2 - f2)) := by rw [hx4.cell]; rfl
  clear hto4
  have hS0 : Strs w4 B0 X0 (c0 - f0) (cut o f0 t0) := by have := ((hs0.cutIf f0).take (t0 - f0)).below (hb4.mono hB0); rwa [HX0.out] at this
  have hS1 : Strs w4 B0 X1 (c1 - f1) (cut a f1 t1) := by have := ((hs1.cutIf f1).take (t1 - f1)).below (hb4.mono hB0); rwa [HX1.out] at this
  have hS2 : Strs w4 B0 X2 (c2 - f2) (cut b f2 t2) := by have := ((hs2.cutIf f2).take (t2 - f2)).below (hb4.mono hB0); rwa [HX2.out] at this
  clear HX0 HX1 HX2
  by_cases he : t0 = f0 ∧ t1 = f1 ∧ t2 = f2
  · obtain ⟨rfl, rfl, rfl⟩ := he
    go_wp2
    refine bodyPost_ret (v := .tuple #[]) (by simp [results, go_sem]) rfl ⟨rfl, .inl ⟨by simp [cut], hb4⟩⟩
  · have HL0 := Lib.hid (cut_len o f0 t0 h0 h0')
    have HL1 := Lib.hid (cut_len a f1 t1 h1 h1')
    have HL2 := Lib.hid (cut_len b f2 t2 h2 h2')
    rcases Bool.eq_false_or_eq_true (decide (cut b f2 t2 = cut o f0 t0)) with hd1 | hd1
    · have HD1 := Lib.hid hd1
      clear hd1
      have HKD : Hid (kindOf (cut o f0 t0) (cut a f1 t1) (cut b f2 t2) = 2) := Lib.hid (by unfold kindOf; rw [if_pos (of_decide_eq_true HD1.out)])
      go_wp2_with fail
      refine (equal_any X2 X0 _ _ _ _ (cut b f2 t2) (cut o f0 t0) (hS2) (hS0) HL2.out.symm HL0.out.symm (by omega) (by omega) true HD1.out).mono ?_
      rintro e w5q ⟨rfl, q, rfl⟩
      go_wp2_with fail
      refine region_till (fun w' => (w'.cell? ⟨bo, 0, none⟩ = some v ∧ w'.cell? ⟨w.heap.size + 1, 0, none⟩ = some (Value.slice X0 (t0 - f0) (c0 - f0)) ∧ w'.cell? ⟨w.heap.size + 1, 1, none⟩ = some (Value.slice X1 (t1 - f1) (c1 - f1)) ∧ w'.cell? ⟨w.heap.size + 1, 2, none⟩ = some (Value.slice X2 (t2 - f2) (c2 - f2)))) 14 (by kernel_rfl) ?_
      have hx5 : Blk ((w4.drewN q).drew) (w.heap.size + 1) 74 _ := hx4
      replace cx0 : ((w4.drewN q).drew).cell? _ = _ := cx0
      replace cx1 : ((w4.drewN q).drew).cell? _ = _ := cx1
      replace cx2 : ((w4.drewN q).drew).cell? _ = _ := cx2
      replace hS0 : Strs ((w4.drewN q).drew) _ _ _ _ := hS0
      replace hS1 : Strs ((w4.drewN q).drew) _ _ _ _ := hS1
      replace hS2 : Strs ((w4.drewN q).drew) _ _ _ _ := hS2
      replace hb4 : Below w.heap.size w ((w4.drewN q).drew) := ⟨hb4.os, hb4.tape, hb4.output, hb4.size, hb4.block⟩
      replace hz4 : ((w4.drewN q).drew).heap.size = w.heap.size + 2 := hz4
      clear hx4
      generalize ((w4.drewN q).drew) = w5 at *
      have hbo5 := hbo.below hb4 hbo.lt
      have hbs5 := hbs.below hb4 hbs.lt
      have hlbo := hbo.lt
      have hlbs := hbs.lt
      have ck : w5.cell? ⟨bo, 0, none⟩ = some v := by rw [hbo5.cell]; rfl
      obtain ⟨j0, hj0, hy0, hy1, hy2⟩ := info_parts chunk_info
      clear hl hg0 hg1 hg2 hf hbo hbs hs0 hs1 hs2
      have hSd : (w5.cell? ⟨bo, 0, none⟩ = some v ∧ w5.cell? ⟨w.heap.size + 1, 0, none⟩ = some (Value.slice X0 (t0 - f0) (c0 - f0)) ∧ w5.cell? ⟨w.heap.size + 1, 1, none⟩ = some (Value.slice X1 (t1 - f1) (c1 - f1)) ∧ w5.cell? ⟨w.heap.size + 1, 2, none⟩ = some (Value.slice X2 (t2 - f2) (c2 - f2))) := ⟨ck, cx0, cx1, cx2⟩
      refine Till.take (i := 0) (v := ?v2_0) rfl (by kernel_rfl) (by kernel_rfl) (by kernel_rfl) (by kernel_rfl) (fun _ _ _ h => h) (by rfl) hSd ?hy2_0 ?_
      case hy2_0 => (intro wS hSw; (try dsimp only at hSw); go_simp; (try with_reducible rfl))
      simp only [Act.put, List.setIfInBounds_toArray]
      refine Till.take (i := 1) (v := ?v2_1) rfl (by kernel_rfl) (by kernel_rfl) (by kernel_rfl) (by kernel_rfl) (fun _ _ _ h => h) (by rfl) hSd ?hy2_1 ?_
      case hy2_1 => (intro wS hSw; (try dsimp only at hSw); go_simp; (try with_reducible rfl))
      simp only [Act.put]
      refine Till.take (i := 2) (v := ?v2_2) rfl (by kernel_rfl) (by kernel_rfl) (by kernel_rfl) (by kernel_rfl) (fun _ _ _ h => h) (by rfl) hSd ?hy2_2 ?_
      case hy2_2 => (intro wS hSw; (try dsimp only at hSw); go_simp; (try with_reducible rfl))
      simp only [Act.put]
      refine Till.take (i := 3) (v := ?v2_3) rfl (by kernel_rfl) (by kernel_rfl) (by kernel_rfl) (by kernel_rfl) (fun _ _ _ h => h) (by rfl) hSd ?hy2_3 ?_
      case hy2_3 => (intro wS hSw; (try dsimp only at hSw); go_simp; (try with_reducible rfl))
      simp only [Act.put]
      refine Till.take (i := 5) (v := ?v2_5) rfl (by kernel_rfl) (by kernel_rfl) (by kernel_rfl) (by kernel_rfl) (fun _ _ _ h => h) (by rfl) hSd ?hy2_5 ?_
      case hy2_5 => (intro wS hSw; (try dsimp only at hSw); go_simp; (try with_reducible rfl))
      simp only [Act.put]
      refine Till.take (i := 6) (v := ?v2_6) rfl (by kernel_rfl) (by kernel_rfl) (by kernel_rfl) (by kernel_rfl) (fun _ _ _ h => h) (by rfl) hSd ?hy2_6 ?_
      case hy2_6 => (intro wS hSw; (try dsimp only at hSw); go_simp; (try with_reducible rfl))
      simp only [Act.put]
      refine Till.take (i := 8) (v := ?v2_8) rfl (by kernel_rfl) (by kernel_rfl) (by kernel_rfl) (by kernel_rfl) (fun _ _ _ h => h) (by rfl) hSd ?hy2_8 ?_
      case hy2_8 => (intro wS hSw; (try dsimp only at hSw); go_simp; (try with_reducible rfl))
      simp only [Act.put]
      refine Till.take (i := 9) (v := ?v2_9) rfl (by kernel_rfl) (by kernel_rfl) (by kernel_rfl) (by kernel_rfl) (fun _ _ _ h => h) (by rfl) hSd ?hy2_9 ?_
      case hy2_9 => (intro wS hSw; (try dsimp only at hSw); go_simp; (try with_reducible rfl))
      simp only [Act.put]
      refine Till.one (i := 4) (by kernel_rfl) rfl ?_
      intro K hK
      go_simp
      go_at_call 26
      refine (clone_at (B0 := w.heap.size + 2) (hS0.more (by omega)) HL0.out.symm (by rw [HL0.out]; omega) (Below.refl _ _) (Nat.le_of_eq hz4.symm)).mono ?_
      rintro e w6 ⟨P0, d0, rfl, hown6, hb6, hc6⟩
      have hz6 := hc6.size
      refine hK _ _ (fun _ => ⟨(hc6.cell (p := ⟨bo, 0, none⟩) (by show bo < _; omega)).trans ck, (hc6.cell (p := ⟨w.heap.size + 1, 0, none⟩) (Nat.lt_succ_self _)).trans cx0, (hc6.cell (p := ⟨w.heap.size + 1, 1, none⟩) (Nat.lt_succ_self _)).trans cx1, (hc6.cell (p := ⟨w.heap.size + 1, 2, none⟩) (Nat.lt_succ_self _)).trans cx2⟩) ?_
      clear hK K
      refine Till.one (i := 7) (by kernel_rfl) rfl ?_
      intro K hK
      go_simp
      go_at_call 26
      refine (clone_at (B0 := w.heap.size + 2) (hS1.more (by omega)) HL1.out.symm (by rw [HL1.out]; omega) (hc6) (by omega)).mono ?_
      rintro e w7 ⟨P1, d1, rfl, hown7, hb7, hc7⟩
      have hz7 := hc7.size
      refine hK _ _ (fun _ => ⟨(hc7.cell (p := ⟨bo, 0, none⟩) (by show bo < _; omega)).trans ck, (hc7.cell (p := ⟨w.heap.size + 1, 0, none⟩) (Nat.lt_succ_self _)).trans cx0, (hc7.cell (p := ⟨w.heap.size + 1, 1, none⟩) (Nat.lt_succ_self _)).trans cx1, (hc7.cell (p := ⟨w.heap.size + 1, 2, none⟩) (Nat.lt_succ_self _)).trans cx2⟩) ?_
      clear hK K
      refine Till.one (i := 10) (by kernel_rfl) rfl ?_
      intro K hK
      go_simp
      go_at_call 26
      refine (clone_at (B0 := w.heap.size + 2) (hS2.more (by omega)) HL2.out.symm (by rw [HL2.out]; omega) (hc7) (by omega)).mono ?_
      rintro e w8 ⟨P2, d2, rfl, hown8, hb8, hc8⟩
      have hz8 := hc8.size
      refine hK _ _ (fun _ => ⟨(hc8.cell (p := ⟨bo, 0, none⟩) (by show bo < _; omega)).trans ck, (hc8.cell (p := ⟨w.heap.size + 1, 0, none⟩) (Nat.lt_succ_self _)).trans cx0, (hc8.cell (p := ⟨w.heap.size + 1, 1, none⟩) (Nat.lt_succ_self _)).trans cx1, (hc8.cell (p := ⟨w.heap.size + 1, 2, none⟩) (Nat.lt_succ_self _)).trans cx2⟩) ?_
      clear hK K
      have hv8 := own_below hown (hb4.trans (hc8.mono (Nat.le_add_right _ _)))
      have hbo8 := hbo5.below hc8 (Nat.lt_of_lt_of_le hlbo (Nat.le_add_right _ _))
      have hbs8 := hbs5.below hc8 (Nat.lt_of_lt_of_le hlbs (Nat.le_add_right _ _))
      have u0 := (own_below hown6 hb7)
      have u0' := own_below u0 hb8
      have u1' := own_below hown7 hb8
      have hbb := hb4.trans (hc8.mono (Nat.le_add_right _ _))
      clear u0 hown6 hown7 hb6 hb7 hb8 hc6 hc7 hS0 hS1 hS2 hbo5 hbs5 hown
      refine Till.take (i := 11) (v := ?v2_11) rfl (by kernel_rfl) (by kernel_rfl) (by kernel_rfl) (by kernel_rfl) (fun _ _ _ h => h) (by rfl) ⟨(hc8.cell (p := ⟨bo, 0, none⟩) (by show bo < _; omega)).trans ck, (hc8.cell (p := ⟨w.heap.size + 1, 0, none⟩) (Nat.lt_succ_self _)).trans cx0, (hc8.cell (p := ⟨w.heap.size + 1, 1, none⟩) (Nat.lt_succ_self _)).trans cx1, (hc8.cell (p := ⟨w.heap.size + 1, 2, none⟩) (Nat.lt_succ_self _)).trans cx2⟩ ?hy2_11 ?_
      case hy2_11 => (intro wS hSw; (try dsimp only at hSw); go_simp; (try with_reducible rfl))
      simp only [Act.put]
      refine Till.one (i := 12) (by kernel_rfl) rfl ?_
      intro K hK
      go_simp
      have hbp := Blk.new w8 76 #[.int .i64 2, .slice P0 (t0 - f0) d0, .slice P1 (t1 - f1) d1, .slice P2 (t2 - f2) d2]
      have hcp : Below (w.heap.size + 2) w5 (w8.alloc (.cells #[.int .i64 2, .slice P0 (t0 - f0) d0, .slice P1 (t1 - f1) d1, .slice P2 (t2 - f2) d2] 76)) := hc8.alloc (by omega) _
      have hvp := hv8.alloc (.cells #[.int .i64 2, .slice P0 (t0 - f0) d0, .slice P1 (t1 - f1) d1, .slice P2 (t2 - f2) d2] 76)
      have hbop := hbo8.alloc (.cells #[.int .i64 2, .slice P0 (t0 - f0) d0, .slice P1 (t1 - f1) d1, .slice P2 (t2 - f2) d2] 76)
      have hbsp := hbs8.alloc (.cells #[.int .i64 2, .slice P0 (t0 - f0) d0, .slice P1 (t1 - f1) d1, .slice P2 (t2 - f2) d2] 76)
      have v0p := u0'.alloc (.cells #[.int .i64 2, .slice P0 (t0 - f0) d0, .slice P1 (t1 - f1) d1, .slice P2 (t2 - f2) d2] 76)
      have v1p := u1'.alloc (.cells #[.int .i64 2, .slice P0 (t0 - f0) d0, .slice P1 (t1 - f1) d1, .slice P2 (t2 - f2) d2] 76)
      have v2p := hown8.alloc (.cells #[.int .i64 2, .slice P0 (t0 - f0) d0, .slice P1 (t1 - f1) d1, .slice P2 (t2 - f2) d2] 76)
      have hbbp := hbb.alloc (by omega) (.cells #[.int .i64 2, .slice P0 (t0 - f0) d0, .slice P1 (t1 - f1) d1, .slice P2 (t2 - f2) d2] 76)
      have hzp : (w8.alloc (.cells #[.int .i64 2, .slice P0 (t0 - f0) d0, .slice P1 (t1 - f1) d1, .slice P2 (t2 - f2) d2] 76)).heap.size = w8.heap.size + 1 := by simp
      have hxp : Blk (w8.alloc (.cells #[.int .i64 2, .slice P0 (t0 - f0) d0, .slice P1 (t1 - f1) d1, .slice P2 (t2 - f2) d2] 76)) (w.heap.size + 1) 74 _ := hx5.below hcp (Nat.lt_succ_self _)
      clear hv8 hbo8 hbs8 u0' u1' hown8 hbb hx5 hc8
      generalize w8.alloc (.cells #[.int .i64 2, .slice P0 (t0 - f0) d0, .slice P1 (t1 - f1) d1, .slice P2 (t2 - f2) d2] 76) = wp at *
      refine hK _ _ (fun _ => ⟨(hbop.cell 0).trans rfl, (hxp.cell 0).trans rfl, (hxp.cell 1).trans rfl, (hxp.cell 2).trans rfl⟩) ?_
      clear hK K
      refine Till.one (i := 13) (by kernel_rfl) rfl ?_
      intro K hK
      refine step_append_lies _ (by rfl) (.tmp 56) (.tmp 68) _ (by rfl) B 76 j0 _ 4 80 Tryd.underlying40 hj0 hy0 hy1 hy2 rfl (by decide) v n xs (by rfl) hvp ⟨w8.heap.size, 0, none⟩ 1 1 [.int .i64 2, .slice P0 (t0 - f0) d0, .slice P1 (t1 - f1) d1, .slice P2 (t2 - f2) d2] (by rfl) rfl (World.news_of_block hbp) ?q2_6 (by decide) ?q2_7 ?q2_8 ?q2_9 (w8.heap.size + 1) hzp ?_
      case q2_6 => intro u hu; simp only [List.mem_cons, List.not_mem_nil, or_false] at hu; rcases hu with h | h | h | h <;> (subst h; rfl)
      case q2_7 => unfold maxLen; omega
      case q2_8 => omega
      case q2_9 => omega
      intro g9 cap9 w9 hown9 hg9 hat9 hlt9
      have hbo9 := hbop.grown hg9 (fun e => own_blk_ne hvp hbop (by decide) e.symm)
      have hbs9 := hbsp.grown hg9 (fun e => own_blk_ne hvp hbsp (by decide) e.symm)
      have hx9 := hxp.grown hg9 (fun e => own_blk_ne hvp hxp (by decide) e.symm)
      have v0 := own_kept v0p hvp (by decide) hg9
      have v1 := own_kept v1p hvp (by decide) hg9
      have v2 := own_kept v2p hvp (by decide) hg9
      refine hK _ _ (fun _ => ⟨(hbo9.cell 0).trans rfl, (hx9.cell 0).trans rfl, (hx9.cell 1).trans rfl, (hx9.cell 2).trans rfl⟩) ?_
      clear hK K
      have e0 : w9.cell? ⟨bo, 0, none⟩ = some v := (hbo9.cell 0).trans rfl
      have e1 := hbo9.frozen 0
      refine Till.one (i := 14) (by kernel_rfl) rfl ?_
      intro K hK
      go_simp
      refine hK _ _ (fun h => absurd h (by decide)) ?_
      clear hK K
      refine Till.done (by kernel_rfl) ?_ _
      have hbo10 := hbo9.set_ 0 (.slice (some ⟨g9, 0, none⟩) (n + 1) cap9)
      have hbs10 := hbs9.far (p := ⟨bo, 0, none⟩) (Blk.ne_ hbs9 hbo9 (by decide)) (.slice (some ⟨g9, 0, none⟩) (n + 1) cap9)
      have hv10 := own_set hown9 hbo9 (by decide) 0 (.slice (some ⟨g9, 0, none⟩) (n + 1) cap9)
      have v00 := own_set v0 hbo9 (by decide) 0 (.slice (some ⟨g9, 0, none⟩) (n + 1) cap9)
      have v10 := own_set v1 hbo9 (by decide) 0 (.slice (some ⟨g9, 0, none⟩) (n + 1) cap9)
      have v20 := own_set v2 hbo9 (by decide) 0 (.slice (some ⟨g9, 0, none⟩) (n + 1) cap9)
      have hon : Only (fun k => k = bo ∨ k = bs ∨ v.ownBlock = some k) w w9 := (Only.of_below hbbp).grown hg9 (fun k hk => .inr (.inr hk))
      have hon10 : Only (fun k => k = bo ∨ k = bs ∨ v.ownBlock = some k) w (w9.setCell ⟨bo, 0, none⟩ (.slice (some ⟨g9, 0, none⟩) (n + 1) cap9)) := hon.grown (grownBy_setCell _ _ _) (fun k hk => .inl (by injection hk with h; exact h.symm))
      clear hbo9 hbs9 hown9 v0 v1 v2 hon hg9 hx9 hxp hbp hvp hbop hbsp v0p v1p v2p hbbp hcp e0 e1 hat9 hlt9 hSd ck cx0 cx1 cx2
      generalize w9.setCell ⟨bo, 0, none⟩ (.slice (some ⟨g9, 0, none⟩) (n + 1) cap9) = wq at *
      have e0 : wq.cell? ⟨bs, 0, none⟩ = some (.bool s) := (hbs10.cell 0).trans rfl
      have e1 := hbs10.frozen 0
      go_wp2
      go_end0
      refine ⟨rfl, .inr ⟨by rw [HL0.out, HL1.out, HL2.out]; omega, _, .slice P0 (t0 - f0) d0, .slice P1 (t1 - f1) d1, .slice P2 (t2 - f2) d2, ?_, ?_, ?_, ?_, Blk.far hbo10 (p := ⟨bs, 0, none⟩) (Blk.ne_ hbo10 hbs10 (by decide)) _, hbs10.set_ 0 _, hon10.grown (grownBy_setCell _ _ _) (fun k hk => .inr (.inl (by injection hk with h; exact h.symm)))⟩⟩
      · rw [HKD.out]; exact own_set hv10 hbs10 (by decide) 0 _
      · rw [HL0.out]; exact own_base (own_set v00 hbs10 (by decide) 0 _) (by omega)
      · rw [HL1.out]; exact own_base (own_set v10 hbs10 (by decide) 0 _) (by omega)
      · rw [HL2.out]; exact own_base (own_set v20 hbs10 (by decide) 0 _) (by omega)
    · have HD1 := Lib.hid hd1
      clear hd1
      rcases Bool.eq_false_or_eq_true (decide (cut a f1 t1 = cut o f0 t0)) with hd2 | hd2
      · have HD2 := Lib.hid hd2
        clear hd2
        have HKD : Hid (kindOf (cut o f0 t0) (cut a f1 t1) (cut b f2 t2) = 3) := Lib.hid (by unfold kindOf; rw [if_neg (of_decide_eq_false HD1.out), if_pos (of_decide_eq_true HD2.out)])
        go_wp2_with fail
        refine (equal_any X2 X0 _ _ _ _ (cut b f2 t2) (cut o f0 t0) (hS2) (hS0) HL2.out.symm HL0.out.symm (by omega) (by omega) false HD1.out).mono ?_
        rintro e w5q ⟨rfl, q, rfl⟩
        go_wp2_with fail
        refine (equal_any X1 X0 _ _ _ _ (cut a f1 t1) (cut o f0 t0) (hS1.drewN q) (hS0.drewN q) HL1.out.symm HL0.out.symm (by omega) (by omega) true HD2.out).mono ?_
        rintro e w5q2 ⟨rfl, q2, rfl⟩
        go_wp2_with fail
        refine region_till (fun w' => (w'.cell? ⟨bo, 0, none⟩ = some v ∧ w'.cell? ⟨w.heap.size + 1, 0, none⟩ = some (Value.slice X0 (t0 - f0) (c0 - f0)) ∧ w'.cell? ⟨w.heap.size + 1, 1, none⟩ = some (Value.slice X1 (t1 - f1) (c1 - f1)) ∧ w'.cell? ⟨w.heap.size + 1, 2, none⟩ = some (Value.slice X2 (t2 - f2) (c2 - f2)))) 14 (by kernel_rfl) ?_
        have hx5 : Blk ((w4.drewN (q + q2)).drew) (w.heap.size + 1) 74 _ := hx4
        replace cx0 : ((w4.drewN (q + q2)).drew).cell? _ = _ := cx0
        replace cx1 : ((w4.drewN (q + q2)).drew).cell? _ = _ := cx1
        replace cx2 : ((w4.drewN (q + q2)).drew).cell? _ = _ := cx2
        replace hS0 : Strs ((w4.drewN (q + q2)).drew) _ _ _ _ := hS0
        replace hS1 : Strs ((w4.drewN (q + q2)).drew) _ _ _ _ := hS1
        replace hS2 : Strs ((w4.drewN (q + q2)).drew) _ _ _ _ := hS2
        replace hb4 : Below w.heap.size w ((w4.drewN (q + q2)).drew) := ⟨hb4.os, hb4.tape, hb4.output, hb4.size, hb4.block⟩
        replace hz4 : ((w4.drewN (q + q2)).drew).heap.size = w.heap.size + 2 := hz4
        clear hx4
        generalize ((w4.drewN (q + q2)).drew) = w5 at *
        have hbo5 := hbo.below hb4 hbo.lt
        have hbs5 := hbs.below hb4 hbs.lt
        have hlbo := hbo.lt
        have hlbs := hbs.lt
        have ck : w5.cell? ⟨bo, 0, none⟩ = some v := by rw [hbo5.cell]; rfl
        obtain ⟨j0, hj0, hy0, hy1, hy2⟩ := info_parts chunk_info
        clear hl hg0 hg1 hg2 hf hbo hbs hs0 hs1 hs2
        have hSd : (w5.cell? ⟨bo, 0, none⟩ = some v ∧ w5.cell? ⟨w.heap.size + 1, 0, none⟩ = some (Value.slice X0 (t0 - f0) (c0 - f0)) ∧ w5.cell? ⟨w.heap.size + 1, 1, none⟩ = some (Value.slice X1 (t1 - f1) (c1 - f1)) ∧ w5.cell? ⟨w.heap.size + 1, 2, none⟩ = some (Value.slice X2 (t2 - f2) (c2 - f2))) := ⟨ck, cx0, cx1, cx2⟩
        refine Till.take (i := 0) (v := ?v3_0) rfl (by kernel_rfl) (by kernel_rfl) (by kernel_rfl) (by kernel_rfl) (fun _ _ _ h => h) (by rfl) hSd ?hy3_0 ?_
        case hy3_0 => (intro wS hSw; (try dsimp only at hSw); go_simp; (try with_reducible rfl))
        simp only [Act.put, List.setIfInBounds_toArray]
        refine Till.take (i := 1) (v := ?v3_1) rfl (by kernel_rfl) (by kernel_rfl) (by kernel_rfl) (by kernel_rfl) (fun _ _ _ h => h) (by rfl) hSd ?hy3_1 ?_
        case hy3_1 => (intro wS hSw; (try dsimp only at hSw); go_simp; (try with_reducible rfl))
        simp only [Act.put]
        refine Till.take (i := 2) (v := ?v3_2) rfl (by kernel_rfl) (by kernel_rfl) (by kernel_rfl) (by kernel_rfl) (fun _ _ _ h => h) (by rfl) hSd ?hy3_2 ?_
        case hy3_2 => (intro wS hSw; (try dsimp only at hSw); go_simp; (try with_reducible rfl))
        simp only [Act.put]
        refine Till.take (i := 3) (v := ?v3_3) rfl (by kernel_rfl) (by kernel_rfl) (by kernel_rfl) (by kernel_rfl) (fun _ _ _ h => h) (by rfl) hSd ?hy3_3 ?_
        case hy3_3 => (intro wS hSw; (try dsimp only at hSw); go_simp; (try with_reducible rfl))
        simp only [Act.put]
        refine Till.take (i := 5) (v := ?v3_5) rfl (by kernel_rfl) (by kernel_rfl) (by kernel_rfl) (by kernel_rfl) (fun _ _ _ h => h) (by rfl) hSd ?hy3_5 ?_
        case hy3_5 => (intro wS hSw; (try dsimp only at hSw); go_simp; (try with_reducible rfl))
        simp only [Act.put]
        refine Till.take (i := 6) (v := ?v3_6) rfl (by kernel_rfl) (by kernel_rfl) (by kernel_rfl) (by kernel_rfl) (fun _ _ _ h => h) (by rfl) hSd ?hy3_6 ?_
        case hy3_6 => (intro wS hSw; (try dsimp only at hSw); go_simp; (try with_reducible rfl))
        simp only [Act.put]
        refine Till.take (i := 8) (v := ?v3_8) rfl (by kernel_rfl) (by kernel_rfl) (by kernel_rfl) (by kernel_rfl) (fun _ _ _ h => h) (by rfl) hSd ?hy3_8 ?_
        case hy3_8 => (intro wS hSw; (try dsimp only at hSw); go_simp; (try with_reducible rfl))
        simp only [Act.put]
        refine Till.take (i := 9) (v := ?v3_9) rfl (by kernel_rfl) (by kernel_rfl) (by kernel_rfl) (by kernel_rfl) (fun _ _ _ h => h) (by rfl) hSd ?hy3_9 ?_
        case hy3_9 => (intro wS hSw; (try dsimp only at hSw); go_simp; (try with_reducible rfl))
        simp only [Act.put]
        refine Till.one (i := 4) (by kernel_rfl) rfl ?_
        intro K hK
        go_simp
        go_at_call 26
        refine (clone_at (B0 := w.heap.size + 2) (hS0.more (by omega)) HL0.out.symm (by rw [HL0.out]; omega) (Below.refl _ _) (Nat.le_of_eq hz4.symm)).mono ?_
        rintro e w6 ⟨P0, d0, rfl, hown6, hb6, hc6⟩
        have hz6 := hc6.size
        refine hK _ _ (fun _ => ⟨(hc6.cell (p := ⟨bo, 0, none⟩) (by show bo < _; omega)).trans ck, (hc6.cell (p := ⟨w.heap.size + 1, 0, none⟩) (Nat.lt_succ_self _)).trans cx0, (hc6.cell (p := ⟨w.heap.size + 1, 1, none⟩) (Nat.lt_succ_self _)).trans cx1, (hc6.cell (p := ⟨w.heap.size + 1, 2, none⟩) (Nat.lt_succ_self _)).trans cx2⟩) ?_
        clear hK K
        refine Till.one (i := 7) (by kernel_rfl) rfl ?_
        intro K hK
        go_simp
        go_at_call 26
        refine (clone_at (B0 := w.heap.size + 2) (hS1.more (by omega)) HL1.out.symm (by rw [HL1.out]; omega) (hc6) (by omega)).mono ?_
        rintro e w7 ⟨P1, d1, rfl, hown7, hb7, hc7⟩
        have hz7 := hc7.size
        refine hK _ _ (fun _ => ⟨(hc7.cell (p := ⟨bo, 0, none⟩) (by show bo < _; omega)).trans ck, (hc7.cell (p := ⟨w.heap.size + 1, 0, none⟩) (Nat.lt_succ_self _)).trans cx0, (hc7.cell (p := ⟨w.heap.size + 1, 1, none⟩) (Nat.lt_succ_self _)).trans cx1, (hc7.cell (p := ⟨w.heap.size + 1, 2, none⟩) (Nat.lt_succ_self _)).trans cx2⟩) ?_
        clear hK K
        refine Till.one (i := 10) (by kernel_rfl) rfl ?_
        intro K hK
        go_simp
        go_at_call 26
        refine (clone_at (B0 := w.heap.size + 2) (hS2.more (by omega)) HL2.out.symm (by rw [HL2.out]; omega) (hc7) (by omega)).mono ?_
        rintro e w8 ⟨P2, d2, rfl, hown8, hb8, hc8⟩
        have hz8 := hc8.size
        refine hK _ _ (fun _ => ⟨(hc8.cell (p := ⟨bo, 0, none⟩) (by show bo < _; omega)).trans ck, (hc8.cell (p := ⟨w.heap.size + 1, 0, none⟩) (Nat.lt_succ_self _)).trans cx0, (hc8.cell (p := ⟨w.heap.size + 1, 1, none⟩) (Nat.lt_succ_self _)).trans cx1, (hc8.cell (p := ⟨w.heap.size + 1, 2, none⟩) (Nat.lt_succ_self _)).trans cx2⟩) ?_
        clear hK K
        have hv8 := own_below hown (hb4.trans (hc8.mono (Nat.le_add_right _ _)))
        have hbo8 := hbo5.below hc8 (Nat.lt_of_lt_of_le hlbo (Nat.le_add_right _ _))
        have hbs8 := hbs5.below hc8 (Nat.lt_of_lt_of_le hlbs (Nat.le_add_right _ _))
        have u0 := (own_below hown6 hb7)
        have u0' := own_below u0 hb8
        have u1' := own_below hown7 hb8
        have hbb := hb4.trans (hc8.mono (Nat.le_add_right _ _))
        clear u0 hown6 hown7 hb6 hb7 hb8 hc6 hc7 hS0 hS1 hS2 hbo5 hbs5 hown
        refine Till.take (i := 11) (v := ?v3_11) rfl (by kernel_rfl) (by kernel_rfl) (by kernel_rfl) (by kernel_rfl) (fun _ _ _ h => h) (by rfl) ⟨(hc8.cell (p := ⟨bo, 0, none⟩) (by show bo < _; omega)).trans ck, (hc8.cell (p := ⟨w.heap.size + 1, 0, none⟩) (Nat.lt_succ_self _)).trans cx0, (hc8.cell (p := ⟨w.heap.size + 1, 1, none⟩) (Nat.lt_succ_self _)).trans cx1, (hc8.cell (p := ⟨w.heap.size + 1, 2, none⟩) (Nat.lt_succ_self _)).trans cx2⟩ ?hy3_11 ?_
        case hy3_11 => (intro wS hSw; (try dsimp only at hSw); go_simp; (try with_reducible rfl))
        simp only [Act.put]
        refine Till.one (i := 12) (by kernel_rfl) rfl ?_
        intro K hK
        go_simp
        have hbp := Blk.new w8 76 #[.int .i64 3, .slice P0 (t0 - f0) d0, .slice P1 (t1 - f1) d1, .slice P2 (t2 - f2) d2]
        have hcp : Below (w.heap.size + 2) w5 (w8.alloc (.cells #[.int .i64 3, .slice P0 (t0 - f0) d0, .slice P1 (t1 - f1) d1, .slice P2 (t2 - f2) d2] 76)) := hc8.alloc (by omega) _
        have hvp := hv8.alloc (.cells #[.int .i64 3, .slice P0 (t0 - f0) d0, .slice P1 (t1 - f1) d1, .slice P2 (t2 - f2) d2] 76)
        have hbop := hbo8.alloc (.cells #[.int .i64 3, .slice P0 (t0 - f0) d0, .slice P1 (t1 - f1) d1, .slice P2 (t2 - f2) d2] 76)
        have hbsp := hbs8.alloc (.cells #[.int .i64 3, .slice P0 (t0 - f0) d0, .slice P1 (t1 - f1) d1, .slice P2 (t2 - f2) d2] 76)
        have v0p := u0'.alloc (.cells #[.int .i64 3, .slice P0 (t0 - f0) d0, .slice P1 (t1 - f1) d1, .slice P2 (t2 - f2) d2] 76)
        have v1p := u1'.alloc (.cells #[.int .i64 3, .slice P0 (t0 - f0) d0, .slice P1 (t1 - f1) d1, .slice P2 (t2 - f2) d2] 76)
        have v2p := hown8.alloc (.cells #[.int .i64 3, .slice P0 (t0 - f0) d0, .slice P1 (t1 - f1) d1, .slice P2 (t2 - f2) d2] 76)
        have hbbp := hbb.alloc (by omega) (.cells #[.int .i64 3, .slice P0 (t0 - f0) d0, .slice P1 (t1 - f1) d1, .slice P2 (t2 - f2) d2] 76)
        have hzp : (w8.alloc (.cells #[.int .i64 3, .slice P0 (t0 - f0) d0, .slice P1 (t1 - f1) d1, .slice P2 (t2 - f2) d2] 76)).heap.size = w8.heap.size + 1 := by simp
        have hxp : Blk (w8.alloc (.cells #[.int .i64 3, .slice P0 (t0 - f0) d0, .slice P1 (t1 - f1) d1, .slice P2 (t2 - f2) d2] 76)) (w.heap.size + 1) 74 _ := hx5.below hcp (Nat.lt_succ_self _)
        clear hv8 hbo8 hbs8 u0' u1' hown8 hbb hx5 hc8
        generalize w8.alloc (.cells #[.int .i64 3, .slice P0 (t0 - f0) d0, .slice P1 (t1 - f1) d1, .slice P2 (t2 - f2) d2] 76) = wp at *
        refine hK _ _ (fun _ => ⟨(hbop.cell 0).trans rfl, (hxp.cell 0).trans rfl, (hxp.cell 1).trans rfl, (hxp.cell 2).trans rfl⟩) ?_
        clear hK K
        refine Till.one (i := 13) (by kernel_rfl) rfl ?_
        intro K hK
        refine step_append_lies _ (by rfl) (.tmp 56) (.tmp 68) _ (by rfl) B 76 j0 _ 4 80 Tryd.underlying40 hj0 hy0 hy1 hy2 rfl (by decide) v n xs (by rfl) hvp ⟨w8.heap.size, 0, none⟩ 1 1 [.int .i64 3, .slice P0 (t0 - f0) d0, .slice P1 (t1 - f1) d1, .slice P2 (t2 - f2) d2] (by rfl) rfl (World.news_of_block hbp) ?q3_6 (by decide) ?q3_7 ?q3_8 ?q3_9 (w8.heap.size + 1) hzp ?_
        case q3_6 => intro u hu; simp only [List.mem_cons, List.not_mem_nil, or_false] at hu; rcases hu with h | h | h | h <;> (subst h; rfl)
        case q3_7 => unfold maxLen; omega
        case q3_8 => omega
        case q3_9 => omega
        intro g9 cap9 w9 hown9 hg9 hat9 hlt9
        have hbo9 := hbop.grown hg9 (fun e => own_blk_ne hvp hbop (by decide) e.symm)
        have hbs9 := hbsp.grown hg9 (fun e => own_blk_ne hvp hbsp (by decide) e.symm)
        have hx9 := hxp.grown hg9 (fun e => own_blk_ne hvp hxp (by decide) e.symm)
        have v0 := own_kept v0p hvp (by decide) hg9
        have v1 := own_kept v1p hvp (by decide) hg9
        have v2 := own_kept v2p hvp (by decide) hg9
        refine hK _ _ (fun _ => ⟨(hbo9.cell 0).trans rfl, (hx9.cell 0).trans rfl, (hx9.cell 1).trans rfl, (hx9.cell 2).trans rfl⟩) ?_
        clear hK K
        have e0 : w9.cell? ⟨bo, 0, none⟩ = some v := (hbo9.cell 0).trans rfl
        have e1 := hbo9.frozen 0
        refine Till.one (i := 14) (by kernel_rfl) rfl ?_
        intro K hK
        go_simp
        refine hK _ _ (fun h => absurd h (by decide)) ?_
        clear hK K
        refine Till.done (by kernel_rfl) ?_ _
        have hbo10 := hbo9.set_ 0 (.slice (some ⟨g9, 0, none⟩) (n + 1) cap9)
        have hbs10 := hbs9.far (p := ⟨bo, 0, none⟩) (Blk.ne_ hbs9 hbo9 (by decide)) (.slice (some ⟨g9, 0, none⟩) (n + 1) cap9)
        have hv10 := own_set hown9 hbo9 (by decide) 0 (.slice (some ⟨g9, 0, none⟩) (n + 1) cap9)
        have v00 := own_set v0 hbo9 (by decide) 0 (.slice (some ⟨g9, 0, none⟩) (n + 1) cap9)
        have v10 := own_set v1 hbo9 (by decide) 0 (.slice (some ⟨g9, 0, none⟩) (n + 1) cap9)
        have v20 := own_set v2 hbo9 (by decide) 0 (.slice (some ⟨g9, 0, none⟩) (n + 1) cap9)
        have hon : Only (fun k => k = bo ∨ k = bs ∨ v.ownBlock = some k) w w9 := (Only.of_below hbbp).grown hg9 (fun k hk => .inr (.inr hk))
        have hon10 : Only (fun k => k = bo ∨ k = bs ∨ v.ownBlock = some k) w (w9.setCell ⟨bo, 0, none⟩ (.slice (some ⟨g9, 0, none⟩) (n + 1) cap9)) := hon.grown (grownBy_setCell _ _ _) (fun k hk => .inl (by injection hk with h; exact h.symm))
        clear hbo9 hbs9 hown9 v0 v1 v2 hon hg9 hx9 hxp hbp hvp hbop hbsp v0p v1p v2p hbbp hcp e0 e1 hat9 hlt9 hSd ck cx0 cx1 cx2
        generalize w9.setCell ⟨bo, 0, none⟩ (.slice (some ⟨g9, 0, none⟩) (n + 1) cap9) = wq at *
        have e0 : wq.cell? ⟨bs, 0, none⟩ = some (.bool s) := (hbs10.cell 0).trans rfl
        have e1 := hbs10.frozen 0
        go_wp2
        go_end0
        refine ⟨rfl, .inr ⟨by rw [HL0.out, HL1.out, HL2.out]; omega, _, .slice P0 (t0 - f0) d0, .slice P1 (t1 - f1) d1, .slice P2 (t2 - f2) d2, ?_, ?_, ?_, ?_, Blk.far hbo10 (p := ⟨bs, 0, none⟩) (Blk.ne_ hbo10 hbs10 (by decide)) _, hbs10.set_ 0 _, hon10.grown (grownBy_setCell _ _ _) (fun k hk => .inr (.inl (by injection hk with h; exact h.symm)))⟩⟩
        · rw [HKD.out]; exact own_set hv10 hbs10 (by decide) 0 _
        · rw [HL0.out]; exact own_base (own_set v00 hbs10 (by decide) 0 _) (by omega)
        · rw [HL1.out]; exact own_base (own_set v10 hbs10 (by decide) 0 _) (by omega)
        · rw [HL2.out]; exact own_base (own_set v20 hbs10 (by decide) 0 _) (by omega)
      · have HD2 := Lib.hid hd2
        clear hd2
        rcases Bool.eq_false_or_eq_true (decide (cut a f1 t1 = cut b f2 t2)) with hd3 | hd3
        · have HD3 := Lib.hid hd3
          clear hd3
          have HKD : Hid (kindOf (cut o f0 t0) (cut a f1 t1) (cut b f2 t2) = 4) := Lib.hid (by unfold kindOf; rw [if_neg (of_decide_eq_false HD1.out), if_neg (of_decide_eq_false HD2.out), if_pos (of_decide_eq_true HD3.out)])
          go_wp2_with fail
          refine (equal_any X2 X0 _ _ _ _ (cut b f2 t2) (cut o f0 t0) (hS2) (hS0) HL2.out.symm HL0.out.symm (by omega) (by omega) false HD1.out).mono ?_
          rintro e w5q ⟨rfl, q, rfl⟩
          go_wp2_with fail
          refine (equal_any X1 X0 _ _ _ _ (cut a f1 t1) (cut o f0 t0) (hS1.drewN q) (hS0.drewN q) HL1.out.symm HL0.out.symm (by omega) (by omega) false HD2.out).mono ?_
          rintro e w5q2 ⟨rfl, q2, rfl⟩
          go_wp2_with fail
          refine (equal_any X1 X2 _ _ _ _ (cut a f1 t1) (cut b f2 t2) (hS1.drewN (q + q2)) (hS2.drewN (q + q2)) HL1.out.symm HL2.out.symm (by omega) (by omega) true HD3.out).mono ?_
          rintro e w5q3 ⟨rfl, q3, rfl⟩
          go_wp2_with fail
          refine region_till (fun w' => (w'.cell? ⟨bo, 0, none⟩ = some v ∧ w'.cell? ⟨w.heap.size + 1, 0, none⟩ = some (Value.slice X0 (t0 - f0) (c0 - f0)) ∧ w'.cell? ⟨w.heap.size + 1, 1, none⟩ = some (Value.slice X1 (t1 - f1) (c1 - f1)) ∧ w'.cell? ⟨w.heap.size + 1, 2, none⟩ = some (Value.slice X2 (t2 - f2) (c2 - f2)))) 14 (by kernel_rfl) ?_
          have hx5 : Blk ((w4.drewN (q + q2 + q3)).drew) (w.heap.size + 1) 74 _ := hx4
          replace cx0 : ((w4.drewN (q + q2 + q3)).drew).cell? _ = _ := cx0
          replace cx1 : ((w4.drewN (q + q2 + q3)).drew).cell? _ = _ := cx1
          replace cx2 : ((w4.drewN (q + q2 + q3)).drew).cell? _ = _ := cx2
          replace hS0 : Strs ((w4.drewN (q + q2 + q3)).drew) _ _ _ _ := hS0
          replace hS1 : Strs ((w4.drewN (q + q2 + q3)).drew) _ _ _ _ := hS1
          replace hS2 : Strs ((w4.drewN (q + q2 + q3)).drew) _ _ _ _ := hS2
          replace hb4 : Below w.heap.size w ((w4.drewN (q + q2 + q3)).drew) := ⟨hb4.os, hb4.tape, hb4.output, hb4.size, hb4.block⟩
          replace hz4 : ((w4.drewN (q + q2 + q3)).drew).heap.size = w.heap.size + 2 := hz4
          clear hx4
          generalize ((w4.drewN (q + q2 + q3)).drew) = w5 at *
          have hbo5 := hbo.below hb4 hbo.lt
          have hbs5 := hbs.below hb4 hbs.lt
          have hlbo := hbo.lt
          have hlbs := hbs.lt
          have ck : w5.cell? ⟨bo, 0, none⟩ = some v := by rw [hbo5.cell]; rfl
          obtain ⟨j0, hj0, hy0, hy1, hy2⟩ := info_parts chunk_info
          clear hl hg0 hg1 hg2 hf hbo hbs hs0 hs1 hs2
          have hSd : (w5.cell? ⟨bo, 0, none⟩ = some v ∧ w5.cell? ⟨w.heap.size + 1, 0, none⟩ = some (Value.slice X0 (t0 - f0) (c0 - f0)) ∧ w5.cell? ⟨w.heap.size + 1, 1, none⟩ = some (Value.slice X1 (t1 - f1) (c1 - f1)) ∧ w5.cell? ⟨w.heap.size + 1, 2, none⟩ = some (Value.slice X2 (t2 - f2) (c2 - f2))) := ⟨ck, cx0, cx1, cx2⟩
          refine Till.take (i := 0) (v := ?v4_0) rfl (by kernel_rfl) (by kernel_rfl) (by kernel_rfl) (by kernel_rfl) (fun _ _ _ h => h) (by rfl) hSd ?hy4_0 ?_
          case hy4_0 => (intro wS hSw; (try dsimp only at hSw); go_simp; (try with_reducible rfl))
          simp only [Act.put, List.setIfInBounds_toArray]
          refine Till.take (i := 1) (v := ?v4_1) rfl (by kernel_rfl) (by kernel_rfl) (by kernel_rfl) (by kernel_rfl) (fun _ _ _ h => h) (by rfl) hSd ?hy4_1 ?_
          case hy4_1 => (intro wS hSw; (try dsimp only at hSw); go_simp; (try with_reducible rfl))
          simp only [Act.put]
          refine Till.take (i := 2) (v := ?v4_2) rfl (by kernel_rfl) (by kernel_rfl) (by kernel_rfl) (by kernel_rfl) (fun _ _ _ h => h) (by rfl) hSd ?hy4_2 ?_
          case hy4_2 => (intro wS hSw; (try dsimp only at hSw); go_simp; (try with_reducible rfl))
          simp only [Act.put]
          refine Till.take (i := 3) (v := ?v4_3) rfl (by kernel_rfl) (by kernel_rfl) (by kernel_rfl) (by kernel_rfl) (fun _ _ _ h => h) (by rfl) hSd ?hy4_3 ?_
          case hy4_3 => (intro wS hSw; (try dsimp only at hSw); go_simp; (try with_reducible rfl))
          simp only [Act.put]
          refine Till.take (i := 5) (v := ?v4_5) rfl (by kernel_rfl) (by kernel_rfl) (by kernel_rfl) (by kernel_rfl) (fun _ _ _ h => h) (by rfl) hSd ?hy4_5 ?_
          case hy4_5 => (intro wS hSw; (try dsimp only at hSw); go_simp; (try with_reducible rfl))
          simp only [Act.put]
          refine Till.take (i := 6) (v := ?v4_6) rfl (by kernel_rfl) (by kernel_rfl) (by kernel_rfl) (by kernel_rfl) (fun _ _ _ h => h) (by rfl) hSd ?hy4_6 ?_
          case hy4_6 => (intro wS hSw; (try dsimp only at hSw); go_simp; (try with_reducible rfl))
          simp only [Act.put]
          refine Till.take (i := 8) (v := ?v4_8) rfl (by kernel_rfl) (by kernel_rfl) (by kernel_rfl) (by kernel_rfl) (fun _ _ _ h => h) (by rfl) hSd ?hy4_8 ?_
          case hy4_8 => (intro wS hSw; (try dsimp only at hSw); go_simp; (try with_reducible rfl))
          simp only [Act.put]
          refine Till.take (i := 9) (v := ?v4_9) rfl (by kernel_rfl) (by kernel_rfl) (by kernel_rfl) (by kernel_rfl) (fun _ _ _ h => h) (by rfl) hSd ?hy4_9 ?_
          case hy4_9 => (intro wS hSw; (try dsimp only at hSw); go_simp; (try with_reducible rfl))
          simp only [Act.put]
          refine Till.one (i := 4) (by kernel_rfl) rfl ?_
          intro K hK
          go_simp
          go_at_call 26
          refine (clone_at (B0 := w.heap.size + 2) (hS0.more (by omega)) HL0.out.symm (by rw [HL0.out]; omega) (Below.refl _ _) (Nat.le_of_eq hz4.symm)).mono ?_
          rintro e w6 ⟨P0, d0, rfl, hown6, hb6, hc6⟩
          have hz6 := hc6.size
          refine hK _ _ (fun _ => ⟨(hc6.cell (p := ⟨bo, 0, none⟩) (by show bo < _; omega)).trans ck, (hc6.cell (p := ⟨w.heap.size + 1, 0, none⟩) (Nat.lt_succ_self _)).trans cx0, (hc6.cell (p := ⟨w.heap.size + 1, 1, none⟩) (Nat.lt_succ_self _)).trans cx1, (hc6.cell (p := ⟨w.heap.size + 1, 2, none⟩) (Nat.lt_succ_self _)).trans cx2⟩) ?_
          clear hK K
          refine Till.one (i := 7) (by kernel_rfl) rfl ?_
          intro K hK
          go_simp
          go_at_call 26
          refine (clone_at (B0 := w.heap.size + 2) (hS1.more (by omega)) HL1.out.symm (by rw [HL1.out]; omega) (hc6) (by omega)).mono ?_
          rintro e w7 ⟨P1, d1, rfl, hown7, hb7, hc7⟩
          have hz7 := hc7.size
          refine hK _ _ (fun _ => ⟨(hc7.cell (p := ⟨bo, 0, none⟩) (by show bo < _; omega)).trans ck, (hc7.cell (p := ⟨w.heap.size + 1, 0, none⟩) (Nat.lt_succ_self _)).trans cx0, (hc7.cell (p := ⟨w.heap.size + 1, 1, none⟩) (Nat.lt_succ_self _)).trans cx1, (hc7.cell (p := ⟨w.heap.size + 1, 2, none⟩) (Nat.lt_succ_self _)).trans cx2⟩) ?_
          clear hK K
          refine Till.one (i := 10) (by kernel_rfl) rfl ?_
          intro K hK
          go_simp
          go_at_call 26
          refine (clone_at (B0 := w.heap.size + 2) (hS2.more (by omega)) HL2.out.symm (by rw [HL2.out]; omega) (hc7) (by omega)).mono ?_
          rintro e w8 ⟨P2, d2, rfl, hown8, hb8, hc8⟩
          have hz8 := hc8.size
          refine hK _ _ (fun _ => ⟨(hc8.cell (p := ⟨bo, 0, none⟩) (by show bo < _; omega)).trans ck, (hc8.cell (p := ⟨w.heap.size + 1, 0, none⟩) (Nat.lt_succ_self _)).trans cx0, (hc8.cell (p := ⟨w.heap.size + 1, 1, none⟩) (Nat.lt_succ_self _)).trans cx1, (hc8.cell (p := ⟨w.heap.size + 1, 2, none⟩) (Nat.lt_succ_self _)).trans cx2⟩) ?_
          clear hK K
          have hv8 := own_below hown (hb4.trans (hc8.mono (Nat.le_add_right _ _)))
          have hbo8 := hbo5.below hc8 (Nat.lt_of_lt_of_le hlbo (Nat.le_add_right _ _))
          have hbs8 := hbs5.below hc8 (Nat.lt_of_lt_of_le hlbs (Nat.le_add_right _ _))
          have u0 := (own_below hown6 hb7)
          have u0' := own_below u0 hb8
          have u1' := own_below hown7 hb8
          have hbb := hb4.trans (hc8.mono (Nat.le_add_right _ _))
          clear u0 hown6 hown7 hb6 hb7 hb8 hc6 hc7 hS0 hS1 hS2 hbo5 hbs5 hown
          refine Till.take (i := 11) (v := ?v4_11) rfl (by kernel_rfl) (by kernel_rfl) (by kernel_rfl) (by kernel_rfl) (fun _ _ _ h => h) (by rfl) ⟨(hc8.cell (p := ⟨bo, 0, none⟩) (by show bo < _; omega)).trans ck, (hc8.cell (p := ⟨w.heap.size + 1, 0, none⟩) (Nat.lt_succ_self _)).trans cx0, (hc8.cell (p := ⟨w.heap.size + 1, 1, none⟩) (Nat.lt_succ_self _)).trans cx1, (hc8.cell (p := ⟨w.heap.size + 1, 2, none⟩) (Nat.lt_succ_self _)).trans cx2⟩ ?hy4_11 ?_
          case hy4_11 => (intro wS hSw; (try dsimp only at hSw); go_simp; (try with_reducible rfl))
          simp only [Act.put]
          refine Till.one (i := 12) (by kernel_rfl) rfl ?_
          intro K hK
          go_simp
          have hbp := Blk.new w8 76 #[.int .i64 4, .slice P0 (t0 - f0) d0, .slice P1 (t1 - f1) d1, .slice P2 (t2 - f2) d2]
          have hcp : Below (w.heap.size + 2) w5 (w8.alloc (.cells #[.int .i64 4, .slice P0 (t0 - f0) d0, .slice P1 (t1 - f1) d1, .slice P2 (t2 - f2) d2] 76)) := hc8.alloc (by omega) _
          have hvp := hv8.alloc (.cells #[.int .i64 4, .slice P0 (t0 - f0) d0, .slice P1 (t1 - f1) d1, .slice P2 (t2 - f2) d2] 76)
          have hbop := hbo8.alloc (.cells #[.int .i64 4, .slice P0 (t0 - f0) d0, .slice P1 (t1 - f1) d1, .slice P2 (t2 - f2) d2] 76)
          have hbsp := hbs8.alloc (.cells #[.int .i64 4, .slice P0 (t0 - f0) d0, .slice P1 (t1 - f1) d1, .slice P2 (t2 - f2) d2] 76)
          have v0p := u0'.alloc (.cells #[.int .i64 4, .slice P0 (t0 - f0) d0, .slice P1 (t1 - f1) d1, .slice P2 (t2 - f2) d2] 76)
          have v1p := u1'.alloc (.cells #[.int .i64 4, .slice P0 (t0 - f0) d0, .slice P1 (t1 - f1) d1, .slice P2 (t2 - f2) d2] 76)
          have v2p := hown8.alloc (.cells #[.int .i64 4, .slice P0 (t0 - f0) d0, .slice P1 (t1 - f1) d1, .slice P2 (t2 - f2) d2] 76)
          have hbbp := hbb.alloc (by omega) (.cells #[.int .i64 4, .slice P0 (t0 - f0) d0, .slice P1 (t1 - f1) d1, .slice P2 (t2 - f2) d2] 76)
          have hzp : (w8.alloc (.cells #[.int .i64 4, .slice P0 (t0 - f0) d0, .slice P1 (t1 - f1) d1, .slice P2 (t2 - f2) d2] 76)).heap.size = w8.heap.size + 1 := by simp
          have hxp : Blk (w8.alloc (.cells #[.int .i64 4, .slice P0 (t0 - f0) d0, .slice P1 (t1 - f1) d1, .slice P2 (t2 - f2) d2] 76)) (w.heap.size + 1) 74 _ := hx5.below hcp (Nat.lt_succ_self _)
          clear hv8 hbo8 hbs8 u0' u1' hown8 hbb hx5 hc8
          generalize w8.alloc (.cells #[.int .i64 4, .slice P0 (t0 - f0) d0, .slice P1 (t1 - f1) d1, .slice P2 (t2 - f2) d2] 76) = wp at *
          refine hK _ _ (fun _ => ⟨(hbop.cell 0).trans rfl, (hxp.cell 0).trans rfl, (hxp.cell 1).trans rfl, (hxp.cell 2).trans rfl⟩) ?_
          clear hK K
          refine Till.one (i := 13) (by kernel_rfl) rfl ?_
          intro K hK
          refine step_append_lies _ (by rfl) (.tmp 56) (.tmp 68) _ (by rfl) B 76 j0 _ 4 80 Tryd.underlying40 hj0 hy0 hy1 hy2 rfl (by decide) v n xs (by rfl) hvp ⟨w8.heap.size, 0, none⟩ 1 1 [.int .i64 4, .slice P0 (t0 - f0) d0, .slice P1 (t1 - f1) d1, .slice P2 (t2 - f2) d2] (by rfl) rfl (World.news_of_block hbp) ?q4_6 (by decide) ?q4_7 ?q4_8 ?q4_9 (w8.heap.size + 1) hzp ?_
          case q4_6 => intro u hu; simp only [List.mem_cons, List.not_mem_nil, or_false] at hu; rcases hu with h | h | h | h <;> (subst h; rfl)
          case q4_7 => unfold maxLen; omega
          case q4_8 => omega
          case q4_9 => omega
          intro g9 cap9 w9 hown9 hg9 hat9 hlt9
          have hbo9 := hbop.grown hg9 (fun e => own_blk_ne hvp hbop (by decide) e.symm)
          have hbs9 := hbsp.grown hg9 (fun e => own_blk_ne hvp hbsp (by decide) e.symm)
          have hx9 := hxp.grown hg9 (fun e => own_blk_ne hvp hxp (by decide) e.symm)
          have v0 := own_kept v0p hvp (by decide) hg9
          have v1 := own_kept v1p hvp (by decide) hg9
          have v2 := own_kept v2p hvp (by decide) hg9
          refine hK _ _ (fun _ => ⟨(hbo9.cell 0).trans rfl, (hx9.cell 0).trans rfl, (hx9.cell 1).trans rfl, (hx9.cell 2).trans rfl⟩) ?_
          clear hK K
          have e0 : w9.cell? ⟨bo, 0, none⟩ = some v := (hbo9.cell 0).trans rfl
          have e1 := hbo9.frozen 0
          refine Till.one (i := 14) (by kernel_rfl) rfl ?_
          intro K hK
          go_simp
          refine hK _ _ (fun h => absurd h (by decide)) ?_
          clear hK K
          refine Till.done (by kernel_rfl) ?_ _
          have hbo10 := hbo9.set_ 0 (.slice (some ⟨g9, 0, none⟩) (n + 1) cap9)
          have hbs10 := hbs9.far (p := ⟨bo, 0, none⟩) (Blk.ne_ hbs9 hbo9 (by decide)) (.slice (some ⟨g9, 0, none⟩) (n + 1) cap9)
          have hv10 := own_set hown9 hbo9 (by decide) 0 (.slice (some ⟨g9, 0, none⟩) (n + 1) cap9)
          have v00 := own_set v0 hbo9 (by decide) 0 (.slice (some ⟨g9, 0, none⟩) (n + 1) cap9)
          have v10 := own_set v1 hbo9 (by decide) 0 (.slice (some ⟨g9, 0, none⟩) (n + 1) cap9)
          have v20 := own_set v2 hbo9 (by decide) 0 (.slice (some ⟨g9, 0, none⟩) (n + 1) cap9)
          have hon : Only (fun k => k = bo ∨ k = bs ∨ v.ownBlock = some k) w w9 := (Only.of_below hbbp).grown hg9 (fun k hk => .inr (.inr hk))
          have hon10 : Only (fun k => k = bo ∨ k = bs ∨ v.ownBlock = some k) w (w9.setCell ⟨bo, 0, none⟩ (.slice (some ⟨g9, 0, none⟩) (n + 1) cap9)) := hon.grown (grownBy_setCell _ _ _) (fun k hk => .inl (by injection hk with h; exact h.symm))
          clear hbo9 hbs9 hown9 v0 v1 v2 hon hg9 hx9 hxp hbp hvp hbop hbsp v0p v1p v2p hbbp hcp e0 e1 hat9 hlt9 hSd ck cx0 cx1 cx2
          generalize w9.setCell ⟨bo, 0, none⟩ (.slice (some ⟨g9, 0, none⟩) (n + 1) cap9) = wq at *
          have e0 : wq.cell? ⟨bs, 0, none⟩ = some (.bool s) := (hbs10.cell 0).trans rfl
          have e1 := hbs10.frozen 0
          go_wp2
          go_end0
          refine ⟨rfl, .inr ⟨by rw [HL0.out, HL1.out, HL2.out]; omega, _, .slice P0 (t0 - f0) d0, .slice P1 (t1 - f1) d1, .slice P2 (t2 - f2) d2, ?_, ?_, ?_, ?_, Blk.far hbo10 (p := ⟨bs, 0, none⟩) (Blk.ne_ hbo10 hbs10 (by decide)) _, hbs10.set_ 0 _, hon10.grown (grownBy_setCell _ _ _) (fun k hk => .inr (.inl (by injection hk with h; exact h.symm)))⟩⟩
          · rw [HKD.out]; exact own_set hv10 hbs10 (by decide) 0 _
          · rw [HL0.out]; exact own_base (own_set v00 hbs10 (by decide) 0 _) (by omega)
          · rw [HL1.out]; exact own_base (own_set v10 hbs10 (by decide) 0 _) (by omega)
          · rw [HL2.out]; exact own_base (own_set v20 hbs10 (by decide) 0 _) (by omega)
        · have HD3 := Lib.hid hd3
          clear hd3
          have HKD : Hid (kindOf (cut o f0 t0) (cut a f1 t1) (cut b f2 t2) = 5) := Lib.hid (by unfold kindOf; rw [if_neg (of_decide_eq_false HD1.out), if_neg (of_decide_eq_false HD2.out), if_neg (of_decide_eq_false HD3.out)])
          go_wp2_with fail
          refine (equal_any X2 X0 _ _ _ _ (cut b f2 t2) (cut o f0 t0) (hS2) (hS0) HL2.out.symm HL0.out.symm (by omega) (by omega) false HD1.out).mono ?_
          rintro e w5q ⟨rfl, q, rfl⟩
          go_wp2_with fail
          refine (equal_any X1 X0 _ _ _ _ (cut a f1 t1) (cut o f0 t0) (hS1.drewN q) (hS0.drewN q) HL1.out.symm HL0.out.symm (by omega) (by omega) false HD2.out).mono ?_
          rintro e w5q2 ⟨rfl, q2, rfl⟩
          go_wp2_with fail
          refine (equal_any X1 X2 _ _ _ _ (cut a f1 t1) (cut b f2 t2) (hS1.drewN (q + q2)) (hS2.drewN (q + q2)) HL1.out.symm HL2.out.symm (by omega) (by omega) false HD3.out).mono ?_
          rintro e w5q3 ⟨rfl, q3, rfl⟩
          go_wp2_with fail
          refine region_till (fun w' => (w'.cell? ⟨bo, 0, none⟩ = some v ∧ w'.cell? ⟨w.heap.size + 1, 0, none⟩ = some (Value.slice X0 (t0 - f0) (c0 - f0)) ∧ w'.cell? ⟨w.heap.size + 1, 1, none⟩ = some (Value.slice X1 (t1 - f1) (c1 - f1)) ∧ w'.cell? ⟨w.heap.size + 1, 2, none⟩ = some (Value.slice X2 (t2 - f2) (c2 - f2)))) 14 (by kernel_rfl) ?_
          have hx5 : Blk ((w4.drewN (q + q2 + q3)).drew) (w.heap.size + 1) 74 _ := hx4
          replace cx0 : ((w4.drewN (q + q2 + q3)).drew).cell? _ = _ := cx0
          replace cx1 : ((w4.drewN (q + q2 + q3)).drew).cell? _ = _ := cx1
          replace cx2 : ((w4.drewN (q + q2 + q3)).drew).cell? _ = _ := cx2
          replace hS0 : Strs ((w4.drewN (q + q2 + q3)).drew) _ _ _ _ := hS0
          replace hS1 : Strs ((w4.drewN (q + q2 + q3)).drew) _ _ _ _ := hS1
          replace hS2 : Strs ((w4.drewN (q + q2 + q3)).drew) _ _ _ _ := hS2
          replace hb4 : Below w.heap.size w ((w4.drewN (q + q2 + q3)).drew) := ⟨hb4.os, hb4.tape, hb4.output, hb4.size, hb4.block⟩
          replace hz4 : ((w4.drewN (q + q2 + q3)).drew).heap.size = w.heap.size + 2 := hz4
          clear hx4
          generalize ((w4.drewN (q + q2 + q3)).drew) = w5 at *
          have hbo5 := hbo.below hb4 hbo.lt
          have hbs5 := hbs.below hb4 hbs.lt
          have hlbo := hbo.lt
          have hlbs := hbs.lt
          have ck : w5.cell? ⟨bo, 0, none⟩ = some v := by rw [hbo5.cell]; rfl
          obtain ⟨j0, hj0, hy0, hy1, hy2⟩ := info_parts chunk_info
          clear hl hg0 hg1 hg2 hf hbo hbs hs0 hs1 hs2
          have hSd : (w5.cell? ⟨bo, 0, none⟩ = some v ∧ w5.cell? ⟨w.heap.size + 1, 0, none⟩ = some (Value.slice X0 (t0 - f0) (c0 - f0)) ∧ w5.cell? ⟨w.heap.size + 1, 1, none⟩ = some (Value.slice X1 (t1 - f1) (c1 - f1)) ∧ w5.cell? ⟨w.heap.size + 1, 2, none⟩ = some (Value.slice X2 (t2 - f2) (c2 - f2))) := ⟨ck, cx0, cx1, cx2⟩
          refine Till.take (i := 0) (v := ?v5_0) rfl (by kernel_rfl) (by kernel_rfl) (by kernel_rfl) (by kernel_rfl) (fun _ _ _ h => h) (by rfl) hSd ?hy5_0 ?_
          case hy5_0 => (intro wS hSw; (try dsimp only at hSw); go_simp; (try with_reducible rfl))
          simp only [Act.put, List.setIfInBounds_toArray]
          refine Till.take (i := 1) (v := ?v5_1) rfl (by kernel_rfl) (by kernel_rfl) (by kernel_rfl) (by kernel_rfl) (fun _ _ _ h => h) (by rfl) hSd ?hy5_1 ?_
          case hy5_1 => (intro wS hSw; (try dsimp only at hSw); go_simp; (try with_reducible rfl))
          simp only [Act.put]
          refine Till.take (i := 2) (v := ?v5_2) rfl (by kernel_rfl) (by kernel_rfl) (by kernel_rfl) (by kernel_rfl) (fun _ _ _ h => h) (by rfl) hSd ?hy5_2 ?_
          case hy5_2 => (intro wS hSw; (try dsimp only at hSw); go_simp; (try with_reducible rfl))
          simp only [Act.put]
          refine Till.take (i := 3) (v := ?v5_3) rfl (by kernel_rfl) (by kernel_rfl) (by kernel_rfl) (by kernel_rfl) (fun _ _ _ h => h) (by rfl) hSd ?hy5_3 ?_
          case hy5_3 => (intro wS hSw; (try dsimp only at hSw); go_simp; (try with_reducible rfl))
          simp only [Act.put]
          refine Till.take (i := 5) (v := ?v5_5) rfl (by kernel_rfl) (by kernel_rfl) (by kernel_rfl) (by kernel_rfl) (fun _ _ _ h => h) (by rfl) hSd ?hy5_5 ?_
          case hy5_5 => (intro wS hSw; (try dsimp only at hSw); go_simp; (try with_reducible rfl))
          simp only [Act.put]
          refine Till.take (i := 6) (v := ?v5_6) rfl (by kernel_rfl) (by kernel_rfl) (by kernel_rfl) (by kernel_rfl) (fun _ _ _ h => h) (by rfl) hSd ?hy5_6 ?_
          case hy5_6 => (intro wS hSw; (try dsimp only at hSw); go_simp; (try with_reducible rfl))
          simp only [Act.put]
          refine Till.take (i := 8) (v := ?v5_8) rfl (by kernel_rfl) (by kernel_rfl) (by kernel_rfl) (by kernel_rfl) (fun _ _ _ h => h) (by rfl) hSd ?hy5_8 ?_
          case hy5_8 => (intro wS hSw; (try dsimp only at hSw); go_simp; (try with_reducible rfl))
          simp only [Act.put]
          refine Till.take (i := 9) (v := ?v5_9) rfl (by kernel_rfl) (by kernel_rfl) (by kernel_rfl) (by kernel_rfl) (fun _ _ _ h => h) (by rfl) hSd ?hy5_9 ?_
          case hy5_9 => (intro wS hSw; (try dsimp only at hSw); go_simp; (try with_reducible rfl))
          simp only [Act.put]
          refine Till.one (i := 4) (by kernel_rfl) rfl ?_
          intro K hK
          go_simp
          go_at_call 26
          refine (clone_at (B0 := w.heap.size + 2) (hS0.more (by omega)) HL0.out.symm (by rw [HL0.out]; omega) (Below.refl _ _) (Nat.le_of_eq hz4.symm)).mono ?_
          rintro e w6 ⟨P0, d0, rfl, hown6, hb6, hc6⟩
          have hz6 := hc6.size
          refine hK _ _ (fun _ => ⟨(hc6.cell (p := ⟨bo, 0, none⟩) (by show bo < _; omega)).trans ck, (hc6.cell (p := ⟨w.heap.size + 1, 0, none⟩) (Nat.lt_succ_self _)).trans cx0, (hc6.cell (p := ⟨w.heap.size + 1, 1, none⟩) (Nat.lt_succ_self _)).trans cx1, (hc6.cell (p := ⟨w.heap.size + 1, 2, none⟩) (Nat.lt_succ_self _)).trans cx2⟩) ?_
          clear hK K
          refine Till.one (i := 7) (by kernel_rfl) rfl ?_
          intro K hK
          go_simp
          go_at_call 26
          refine (clone_at (B0 := w.heap.size + 2) (hS1.more (by omega)) HL1.out.symm (by rw [HL1.out]; omega) (hc6) (by omega)).mono ?_
          rintro e w7 ⟨P1, d1, rfl, hown7, hb7, hc7⟩
          have hz7 := hc7.size
          refine hK _ _ (fun _ => ⟨(hc7.cell (p := ⟨bo, 0, none⟩) (by show bo < _; omega)).trans ck, (hc7.cell (p := ⟨w.heap.size + 1, 0, none⟩) (Nat.lt_succ_self _)).trans cx0, (hc7.cell (p := ⟨w.heap.size + 1, 1, none⟩) (Nat.lt_succ_self _)).trans cx1, (hc7.cell (p := ⟨w.heap.size + 1, 2, none⟩) (Nat.lt_succ_self _)).trans cx2⟩) ?_
          clear hK K
          refine Till.one (i := 10) (by kernel_rfl) rfl ?_
          intro K hK
          go_simp
          go_at_call 26
          refine (clone_at (B0 := w.heap.size + 2) (hS2.more (by omega)) HL2.out.symm (by rw [HL2.out]; omega) (hc7) (by omega)).mono ?_
          rintro e w8 ⟨P2, d2, rfl, hown8, hb8, hc8⟩
          have hz8 := hc8.size
          refine hK _ _ (fun _ => ⟨(hc8.cell (p := ⟨bo, 0, none⟩) (by show bo < _; omega)).trans ck, (hc8.cell (p := ⟨w.heap.size + 1, 0, none⟩) (Nat.lt_succ_self _)).trans cx0, (hc8.cell (p := ⟨w.heap.size + 1, 1, none⟩) (Nat.lt_succ_self _)).trans cx1, (hc8.cell (p := ⟨w.heap.size + 1, 2, none⟩) (Nat.lt_succ_self _)).trans cx2⟩) ?_
          clear hK K
          have hv8 := own_below hown (hb4.trans (hc8.mono (Nat.le_add_right _ _)))
          have hbo8 := hbo5.below hc8 (Nat.lt_of_lt_of_le hlbo (Nat.le_add_right _ _))
          have hbs8 := hbs5.below hc8 (Nat.lt_of_lt_of_le hlbs (Nat.le_add_right _ _))
          have u0 := (own_below hown6 hb7)
          have u0' := own_below u0 hb8
          have u1' := own_below hown7 hb8
          have hbb := hb4.trans (hc8.mono (Nat.le_add_right _ _))
          clear u0 hown6 hown7 hb6 hb7 hb8 hc6 hc7 hS0 hS1 hS2 hbo5 hbs5 hown
          refine Till.take (i := 11) (v := ?v5_11) rfl (by kernel_rfl) (by kernel_rfl) (by kernel_rfl) (by kernel_rfl) (fun _ _ _ h => h) (by rfl) ⟨(hc8.cell (p := ⟨bo, 0, none⟩) (by show bo < _; omega)).trans ck, (hc8.cell (p := ⟨w.heap.size + 1, 0, none⟩) (Nat.lt_succ_self _)).trans cx0, (hc8.cell (p := ⟨w.heap.size + 1, 1, none⟩) (Nat.lt_succ_self _)).trans cx1, (hc8.cell (p := ⟨w.heap.size + 1, 2, none⟩) (Nat.lt_succ_self _)).trans cx2⟩ ?hy5_11 ?_
          case hy5_11 => (intro wS hSw; (try dsimp only at hSw); go_simp; (try with_reducible rfl))
          simp only [Act.put]
          refine Till.one (i := 12) (by kernel_rfl) rfl ?_
          intro K hK
          go_simp
          have hbp := Blk.new w8 76 #[.int .i64 5, .slice P0 (t0 - f0) d0, .slice P1 (t1 - f1) d1, .slice P2 (t2 - f2) d2]
          have hcp : Below (w.heap.size + 2) w5 (w8.alloc (.cells #[.int .i64 5, .slice P0 (t0 - f0) d0, .slice P1 (t1 - f1) d1, .slice P2 (t2 - f2) d2] 76)) := hc8.alloc (by omega) _
          have hvp := hv8.alloc (.cells #[.int .i64 5, .slice P0 (t0 - f0) d0, .slice P1 (t1 - f1) d1, .slice P2 (t2 - f2) d2] 76)
          have hbop := hbo8.alloc (.cells #[.int .i64 5, .slice P0 (t0 - f0) d0, .slice P1 (t1 - f1) d1, .slice P2 (t2 - f2) d2] 76)
          have hbsp := hbs8.alloc (.cells #[.int .i64 5, .slice P0 (t0 - f0) d0, .slice P1 (t1 - f1) d1, .slice P2 (t2 - f2) d2] 76)
          have v0p := u0'.alloc (.cells #[.int .i64 5, .slice P0 (t0 - f0) d0, .slice P1 (t1 - f1) d1, .slice P2 (t2 - f2) d2] 76)
          have v1p := u1'.alloc (.cells #[.int .i64 5, .slice P0 (t0 - f0) d0, .slice P1 (t1 - f1) d1, .slice P2 (t2 - f2) d2] 76)
          have v2p := hown8.alloc (.cells #[.int .i64 5, .slice P0 (t0 - f0) d0, .slice P1 (t1 - f1) d1, .slice P2 (t2 - f2) d2] 76)
          have hbbp := hbb.alloc (by omega) (.cells #[.int .i64 5, .slice P0 (t0 - f0) d0, .slice P1 (t1 - f1) d1, .slice P2 (t2 - f2) d2] 76)
          have hzp : (w8.alloc (.cells #[.int .i64 5, .slice P0 (t0 - f0) d0, .slice P1 (t1 - f1) d1, .slice P2 (t2 - f2) d2] 76)).heap.size = w8.heap.size + 1 := by simp
          have hxp : Blk (w8.alloc (.cells #[.int .i64 5, .slice P0 (t0 - f0) d0, .slice P1 (t1 - f1) d1, .slice P2 (t2 - f2) d2] 76)) (w.heap.size + 1) 74 _ := hx5.below hcp (Nat.lt_succ_self _)
          clear hv8 hbo8 hbs8 u0' u1' hown8 hbb hx5 hc8
          generalize w8.alloc (.cells #[.int .i64 5, .slice P0 (t0 - f0) d0, .slice P1 (t1 - f1) d1, .slice P2 (t2 - f2) d2] 76) = wp at *
          refine hK _ _ (fun _ => ⟨(hbop.cell 0).trans rfl, (hxp.cell 0).trans rfl, (hxp.cell 1).trans rfl, (hxp.cell 2).trans rfl⟩) ?_
          clear hK K
          refine Till.one (i := 13) (by kernel_rfl) rfl ?_
          intro K hK
          refine step_append_lies _ (by rfl) (.tmp 56) (.tmp 68) _ (by rfl) B 76 j0 _ 4 80 Tryd.underlying40 hj0 hy0 hy1 hy2 rfl (by decide) v n xs (by rfl) hvp ⟨w8.heap.size, 0, none⟩ 1 1 [.int .i64 5, .slice P0 (t0 - f0) d0, .slice P1 (t1 - f1) d1, .slice P2 (t2 - f2) d2] (by rfl) rfl (World.news_of_block hbp) ?q5_6 (by decide) ?q5_7 ?q5_8 ?q5_9 (w8.heap.size + 1) hzp ?_
          case q5_6 => intro u hu; simp only [List.mem_cons, List.not_mem_nil, or_false] at hu; rcases hu with h | h | h | h <;> (subst h; rfl)
          case q5_7 => unfold maxLen; omega
          case q5_8 => omega
          case q5_9 => omega
          intro g9 cap9 w9 hown9 hg9 hat9 hlt9
          have hbo9 := hbop.grown hg9 (fun e => own_blk_ne hvp hbop (by decide) e.symm)
          have hbs9 := hbsp.grown hg9 (fun e => own_blk_ne hvp hbsp (by decide) e.symm)
          have hx9 := hxp.grown hg9 (fun e => own_blk_ne hvp hxp (by decide) e.symm)
          have v0 := own_kept v0p hvp (by decide) hg9
          have v1 := own_kept v1p hvp (by decide) hg9
          have v2 := own_kept v2p hvp (by decide) hg9
          refine hK _ _ (fun _ => ⟨(hbo9.cell 0).trans rfl, (hx9.cell 0).trans rfl, (hx9.cell 1).trans rfl, (hx9.cell 2).trans rfl⟩) ?_
          clear hK K
          have e0 : w9.cell? ⟨bo, 0, none⟩ = some v := (hbo9.cell 0).trans rfl
          have e1 := hbo9.frozen 0
          refine Till.one (i := 14) (by kernel_rfl) rfl ?_
          intro K hK
          go_simp
          refine hK _ _ (fun h => absurd h (by decide)) ?_
          clear hK K
          refine Till.done (by kernel_rfl) ?_ _
          have hbo10 := hbo9.set_ 0 (.slice (some ⟨g9, 0, none⟩) (n + 1) cap9)
          have hbs10 := hbs9.far (p := ⟨bo, 0, none⟩) (Blk.ne_ hbs9 hbo9 (by decide)) (.slice (some ⟨g9, 0, none⟩) (n + 1) cap9)
          have hv10 := own_set hown9 hbo9 (by decide) 0 (.slice (some ⟨g9, 0, none⟩) (n + 1) cap9)
          have v00 := own_set v0 hbo9 (by decide) 0 (.slice (some ⟨g9, 0, none⟩) (n + 1) cap9)
          have v10 := own_set v1 hbo9 (by decide) 0 (.slice (some ⟨g9, 0, none⟩) (n + 1) cap9)
          have v20 := own_set v2 hbo9 (by decide) 0 (.slice (some ⟨g9, 0, none⟩) (n + 1) cap9)
          have hon : Only (fun k => k = bo ∨ k = bs ∨ v.ownBlock = some k) w w9 := (Only.of_below hbbp).grown hg9 (fun k hk => .inr (.inr hk))
          have hon10 : Only (fun k => k = bo ∨ k = bs ∨ v.ownBlock = some k) w (w9.setCell ⟨bo, 0, none⟩ (.slice (some ⟨g9, 0, none⟩) (n + 1) cap9)) := hon.grown (grownBy_setCell _ _ _) (fun k hk => .inl (by injection hk with h; exact h.symm))
          clear hbo9 hbs9 hown9 v0 v1 v2 hon hg9 hx9 hxp hbp hvp hbop hbsp v0p v1p v2p hbbp hcp e0 e1 hat9 hlt9 hSd ck cx0 cx1 cx2
          generalize w9.setCell ⟨bo, 0, none⟩ (.slice (some ⟨g9, 0, none⟩) (n + 1) cap9) = wq at *
          have e0 : wq.cell? ⟨bs, 0, none⟩ = some (.bool s) := (hbs10.cell 0).trans rfl
          have e1 := hbs10.frozen 0
          go_wp2
          go_end0
          refine ⟨rfl, .inr ⟨by rw [HL0.out, HL1.out, HL2.out]; omega, _, .slice P0 (t0 - f0) d0, .slice P1 (t1 - f1) d1, .slice P2 (t2 - f2) d2, ?_, ?_, ?_, ?_, Blk.far hbo10 (p := ⟨bs, 0, none⟩) (Blk.ne_ hbo10 hbs10 (by decide)) _, hbs10.set_ 0 _, hon10.grown (grownBy_setCell _ _ _) (fun k hk => .inr (.inl (by injection hk with h; exact h.symm)))⟩⟩
          · rw [HKD.out]; exact own_set hv10 hbs10 (by decide) 0 _
          · rw [HL0.out]; exact own_base (own_set v00 hbs10 (by decide) 0 _) (by omega)
          · rw [HL1.out]; exact own_base (own_set v10 hbs10 (by decide) 0 _) (by omega)
          · rw [HL2.out]; exact own_base (own_set v20 hbs10 (by decide) 0 _) (by omega)
end Go.Proofs.YtafhefhhndmdkaaDoor
