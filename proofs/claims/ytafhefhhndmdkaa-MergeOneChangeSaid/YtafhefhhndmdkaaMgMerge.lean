/- merge.Merge returns the pieces of a merge; for texts of at most a million bytes and 400 lines. -/
import Derived.Test.YtafhefhhndmdkaaMgPart
import Derived.Test.YtafhefhhndmdkaaMgMate
import Derived.Test.YtafhefhhndmdkaaMgOlds
import Derived.Test.YtafhefhhndmdkaaMgR24
import Derived.Deep.DeepCutAuto
import Derived.Deep.RegionHeld3
namespace Go.Proofs.Ytafhefhhndmdkaa
open Go.RowKit Mg
attribute [local go_sem ↓] Go.wp_at_zero Go.wp_at_succ

theorem int_law : Maps.Keyed Try.prog 3 := Maps.int_keyed Try.underlying3
theorem zero_int (w : World) : (zeroValue 3).run Try.prog w = .ok (.int .i64 0) w := by kernel_rfl

/-- what a merge returns: its pieces, in rows of the call's own -/
def MergeOk (w : World) (ps : List Pc) (e : Ending) (w' : World) : Prop :=
  ∃ v us, e = .returned (.tuple #[v, .int .i64 0]) ∧ w'.ownsRow w.heap.size 30 4 v ps.length (pccells ps us) ∧ OwnsPcs w' w.heap.size w'.heap.size us ps ∧ Below w.heap.size w w'

set_option maxHeartbeats 16000000 in
set_option maxRecDepth 100000 in
theorem merge_any (o a b : ByteArray) (w : World) (hso : o.size ≤ 1000000) (hsa : a.size ≤ 1000000) (hsb : b.size ≤ 1000000) (hlo : (linesOf o).length ≤ 400) (hla : (linesOf a).length ≤ 400) (hlb : (linesOf b).length ≤ 400) :
    Calls Try.prog 12 #[.string o, .string a, .string b] w (MergeOk w (mergeP (linesOf o) (linesOf a) (linesOf b))) := by
  have hr0 := reads_new w [o, a, b] 9 (w.heap.size + 1) (by omega)
  have hmm := @run_makeMap Try.prog
  go_enter Try.func12, Try.ntmps12
  go_wp2_with (go_at_call 24; refine (texts3_any o a b _ _ _ (by simpa using hr0) hso hsa hsb hlo hla hlb).mono ?_; rintro e w1 ⟨gl, cl, A0, c0, A1, c1, A2, c2, rfl, hgl, hgl0, hcl, hg0, hg1, hg2, hs0, hs1, hs2, hb1⟩)
  have hbl := (Blk.new w1 52 #[.slice (some ⟨gl, 0, none⟩) 3 cl]).alloc (.map #[] 0)
  have hmap := World.ownsMap_made (w1.alloc (.cells #[.slice (some ⟨gl, 0, none⟩) 3 cl] 52)) Try.prog 3 (plainElem (H := Unit) Try.prog 3)
  have hs1z : (w1.alloc (.cells #[.slice (some ⟨gl, 0, none⟩) 3 cl] 52)).heap.size = w1.heap.size + 1 := by simp
  rw [hs1z] at hmap
  have hb12 : Below w1.heap.size w1 ((w1.alloc (.cells #[.slice (some ⟨gl, 0, none⟩) 3 cl] 52)).alloc (.map #[] 0)) := ((Below.refl _ _).alloc (Nat.le_refl _) _).alloc (by simp) _
  have hz2 : ((w1.alloc (.cells #[.slice (some ⟨gl, 0, none⟩) 3 cl] 52)).alloc (.map #[] 0)).heap.size = w1.heap.size + 2 := by simp
  clear hs1z
  generalize (w1.alloc (.cells #[.slice (some ⟨gl, 0, none⟩) 3 cl] 52)).alloc (.map #[] 0) = w2 at *
  have cl0 := (hb12.cell (p := ⟨gl, 0, none⟩) hgl).trans hg0
  have cl1 := (hb12.cell (p := ⟨gl, 1, none⟩) hgl).trans hg1
  have cl2 := (hb12.cell (p := ⟨gl, 2, none⟩) hgl).trans hg2
  have hS0 := hs0.below hb12
  have hS1 := hs1.below hb12
  have hS2 := hs2.below hb12
  have cb : w2.cell? ⟨w1.heap.size, 0, none⟩ = some (.slice (some ⟨gl, 0, none⟩) 3 cl) := (hbl.cell 0).trans rfl
  have icl : (2 : Int) < (3 : Int) := by omega
  clear hg0 hg1 hg2 hs0 hs1 hs2
  go_region_held3 (fun w' => w'.cell? ⟨w1.heap.size, 0, none⟩ = some (.slice (some ⟨gl, 0, none⟩) 3 cl) ∧ w'.cell? ⟨gl, 0, none⟩ = some (.slice A0 (linesOf o).length c0) ∧ w'.cell? ⟨gl, 2, none⟩ = some (.slice A2 (linesOf b).length c2))
    (first | go_keep)
    (first
      | (go_at_call 25; refine (common_at A0 A2 c0 c2 (linesOf o) (linesOf b) (B0 := w1.heap.size + 2) (hS0.more (by omega)) (hS2.more (by omega)) hlo hlb ((Below.refl (w1.heap.size + 2) w2).drew) (Nat.le_of_eq hz2.symm)).mono ?_; rintro e w3 ⟨v3, rfl, hown3, hb3, hb23⟩; have k0 := (hb23.cell (p := ⟨w1.heap.size, 0, none⟩) (by show w1.heap.size < _; omega)).trans cb; have k1 := (hb23.cell (p := ⟨gl, 0, none⟩) (by show gl < _; omega)).trans cl0; have k2 := (hb23.cell (p := ⟨gl, 2, none⟩) (by show gl < _; omega)).trans cl2; obtain ⟨Av, cv, rfl, hcv, hrv⟩ := own_slice hown3))
  have hmap3 : w3.ownsMap Try.prog 3 (plainElem (H := Unit) Try.prog 3) (w1.heap.size + 1) 0 (pmap []) := hmap.kept (row := none) ⟨hb23.os, hb23.tape, hb23.output, hb23.size, fun k hk _ => hb3.block k hk⟩ (by simp)
  have hown3' := own_base (b' := w1.heap.size + 2) hown3 (Nat.le_of_eq hz2.symm)
  have hb3' : Below (w1.heap.size + 1) w2 w3 := hb23.mono (Nat.le_succ _)
  have hz3 := hb23.size
  clear hmap hown3 hb3 hb23 hrv k0 k1 k2
  have hp2l : (prs 0 0 (linesOf o) (linesOf b)).length ≤ 400 := by have := prs_pairs_len (linesOf o) (linesOf b) 0 0; omega
  generalize hp2 : prs 0 0 (linesOf o) (linesOf b) = p2 at *
  have HP2 := Lib.hid hp2
  have HB2 : Hid (∀ p ∈ p2, p.1 < 401 ∧ p.2 < 401) := Lib.hid (fun p hp => by rw [← hp2] at hp; have := prs_bound _ _ p hp; omega)
  clear hp2
  go_wp2
  go_loopg [42] p2.length (fun gk iv wr => ∃ t : Nat, iv = .int .i64 t ∧ t ≤ p2.length ∧ p2.length - t ≤ gk ∧ wr.ownsMap Try.prog 3 (plainElem (H := Unit) Try.prog 3) (w1.heap.size + 1) t (pmap (p2.take t)) ∧
      wr.ownsRow (w1.heap.size + 2) 59 2 (.slice Av p2.length cv) p2.length (pcells p2) ∧ Below (w1.heap.size + 1) w2 wr ∧ w2.heap.size ≤ wr.heap.size)
  case atStart => exact ⟨0, rfl, Nat.zero_le _, by omega, hmap3, hown3', hb3', hz3⟩
  case round =>
    clear hmap3 hown3' hb3' hz3
    obtain ⟨t, rfl, ht, hg, hmp, hown, hbl', hz⟩ := hrel
    by_cases hlt : t < p2.length
    · obtain ⟨x, y, hp⟩ : ∃ x y, p2[t] = (x, y) := ⟨_, _, rfl⟩
      obtain ⟨g, c', hv, _, _, _⟩ := own_form hown (by omega)
      simp only [Value.slice.injEq] at hv
      obtain ⟨rfl, -⟩ := hv
      obtain ⟨hp1, hp2⟩ := pcells_get (l := p2) (t := t) (p1 := x) (p2 := y) (by rw [List.getElem?_eq_getElem hlt, hp])
      have cp1 : wr.cell? ⟨g, t * 2, none⟩ = some (.int .i64 x) := by have := hown.cells (g := g) rfl _ _ hp1; rwa [addr_add, Nat.zero_add] at this
      have cp2 : wr.cell? ⟨g, t * 2 + 1, none⟩ = some (.int .i64 y) := by have := hown.cells (g := g) rfl _ _ hp2; rwa [addr_add, Nat.zero_add] at this
      clear hp1 hp2
      have hxy : x < 401 ∧ y < 401 := by have := HB2.out p2[t] (List.getElem_mem hlt); rw [hp] at this; exact this
      have hstep : Hid (pmap (p2.take (t + 1)) = (pmap (p2.take t)).put (.int .i64 x) (.lit (.int .i64 y))) := Lib.hid (by rw [List.take_succ_eq_append_getElem hlt, pmap_snoc, hp])
      go_wp2_with (first
        | (at_mapUpdate; refine wpList_mapUpdate_own _ rfl _ _ _ 55 rfl 3 3 int_law Try.underlying55 _ (w1.heap.size + 1) t _ rfl (hmp.alloc _) (by unfold maxLen; omega) _ _ _ rfl rfl (Maps.keyOf_int_mk Try.underlying3 (WalkArith.wf_i64 (by omega))) _ [] (plainElem_int Try.underlying3 (WalkArith.wf_i64 (by omega))) ?_; intro w5 hown5 hgrow5)
        | go_in)
      go_roundg (gk - 1)
      case measure => omega
      case rel =>
        refine ⟨t + 1, by go_num, by omega, by omega, hstep.out.symm ▸ hown5, (hown.alloc _).kept hgrow5 (.inr fun e => by have := (hown.lt _ e).1; omega), ((hbl'.alloc (by omega) _).grown hgrow5 (by simp; omega) (fun k hk => by injection hk with hk; omega)), ?_⟩
        have := hgrow5.size
        simp at this
        omega
    · have ht2 : t = p2.length := by omega
      subst ht2
      rw [List.take_length] at hmp
      go_wp2
      have hbo := ((Blk.new wr 24 #[.slice none 0 0]).alloc (.cells #[.int .i64 0, .int .i64 0, .int .i64 0] 60)).alloc (.cells #[.bool false] 4)
      have hbf := (Blk.new (wr.alloc (.cells #[.slice none 0 0] 24)) 60 #[.int .i64 0, .int .i64 0, .int .i64 0]).alloc (.cells #[.bool false] 4)
      have hbs := Blk.new ((wr.alloc (.cells #[.slice none 0 0] 24)).alloc (.cells #[.int .i64 0, .int .i64 0, .int .i64 0] 60)) 4 #[.bool false]
      have q1 : (wr.alloc (.cells #[.slice none 0 0] 24)).heap.size = wr.heap.size + 1 := by simp
      have q2 : ((wr.alloc (.cells #[.slice none 0 0] 24)).alloc (.cells #[.int .i64 0, .int .i64 0, .int .i64 0] 60)).heap.size = wr.heap.size + 1 + 1 := by simp
      have hz4 : (((wr.alloc (.cells #[.slice none 0 0] 24)).alloc (.cells #[.int .i64 0, .int .i64 0, .int .i64 0] 60)).alloc (.cells #[.bool false] 4)).heap.size = wr.heap.size + 3 := by simp
      rw [q1] at hbf
      rw [q2] at hbs
      clear q1 q2
      have hb4 : Below (w1.heap.size + 1) w2 (((wr.alloc (.cells #[.slice none 0 0] 24)).alloc (.cells #[.int .i64 0, .int .i64 0, .int .i64 0] 60)).alloc (.cells #[.bool false] 4)) := ((hbl'.alloc (by omega) _).alloc (by simp; omega) _).alloc (by simp; omega) _
      have hmp4 := ((hmp.alloc (.cells #[.slice none 0 0] 24)).alloc (.cells #[.int .i64 0, .int .i64 0, .int .i64 0] 60)).alloc (.cells #[.bool false] 4)
      clear hmp hown hbl'
      generalize ((wr.alloc (.cells #[.slice none 0 0] 24)).alloc (.cells #[.int .i64 0, .int .i64 0, .int .i64 0] 60)).alloc (.cells #[.bool false] 4) = w4 at *
      have hS0' := hS0.below (hb4.mono (Nat.le_succ _))
      have hS1' := hS1.below (hb4.mono (Nat.le_succ _))
      have hS2' := hS2.below (hb4.mono (Nat.le_succ _))
      have cb4 := (hb4.cell (p := ⟨w1.heap.size, 0, none⟩) (Nat.lt_succ_self _)).trans cb
      have cl04 := (hb4.cell (p := ⟨gl, 0, none⟩) (Nat.lt_succ_of_lt hgl)).trans cl0
      have cl14 := (hb4.cell (p := ⟨gl, 1, none⟩) (Nat.lt_succ_of_lt hgl)).trans cl1
      have cl24 := (hb4.cell (p := ⟨gl, 2, none⟩) (Nat.lt_succ_of_lt hgl)).trans cl2
      have icl1 : (1 : Int) < (3 : Int) := by omega
      clear hS0 hS1 hS2 cb cl0 cl1 cl2
      go_region_held3 (fun w' => w'.cell? ⟨w1.heap.size, 0, none⟩ = some (.slice (some ⟨gl, 0, none⟩) 3 cl) ∧ w'.cell? ⟨gl, 0, none⟩ = some (.slice A0 (linesOf o).length c0) ∧ w'.cell? ⟨gl, 1, none⟩ = some (.slice A1 (linesOf a).length c1))
        (first | go_keep)
        (first
          | (go_at_call 25; refine (common_at A0 A1 c0 c1 (linesOf o) (linesOf a) (B0 := wr.heap.size + 3) (hS0'.more (by omega)) (hS1'.more (by omega)) hlo hla ((Below.refl (wr.heap.size + 3) w4).drew) (Nat.le_of_eq hz4.symm)).mono ?_; rintro e w5 ⟨v5, rfl, hown5, hb5, hb45⟩; have k0 := (hb45.cell (p := ⟨w1.heap.size, 0, none⟩) (by show w1.heap.size < _; omega)).trans cb4; have k1 := (hb45.cell (p := ⟨gl, 0, none⟩) (by show gl < _; omega)).trans cl04; have k2 := (hb45.cell (p := ⟨gl, 1, none⟩) (by show gl < _; omega)).trans cl14; have k3 := (hb45.cell (p := ⟨gl, 2, none⟩) (by show gl < _; omega)).trans cl24; obtain ⟨Aw, cw, rfl, hcw, hrw⟩ := own_slice hown5))
      have hmp5 := hmp4.kept (row := none) ⟨hb45.os, hb45.tape, hb45.output, hb45.size, fun k hk _ => hb5.block k hk⟩ (by simp)
      have hb5' : Below (w1.heap.size + 1) w2 w5 := hb4.trans (hb45.mono (by omega))
      have hbo5 := hbo.below hb45 (by omega)
      have hbf5 := hbf.below hb45 (by omega)
      have hbs5 := hbs.below hb45 (by omega)
      have hown5' := own_base (b' := wr.heap.size + 3) hown5 (Nat.le_of_eq hz4.symm)
      have hz5 := hb45.size
      have hS05 := hS0'.below (hb45.mono (by omega))
      have hS15 := hS1'.below (hb45.mono (by omega))
      have hS25 := hS2'.below (hb45.mono (by omega))
      clear hmp4 hb4 hbo hbf hbs hown5 hb45 hb5 hrw hS0' hS1' hS2' cb4 cl04 cl14 cl24
      have hp1l : (prs 0 0 (linesOf o) (linesOf a)).length ≤ 400 := by have := prs_pairs_len (linesOf o) (linesOf a) 0 0; omega
      generalize hp1 : prs 0 0 (linesOf o) (linesOf a) = p1 at *
      have HP1 := Lib.hid hp1
      clear hp1
      have hM0 := MInv.start (BA := w5.heap.size) rfl hbf5 hbo5 hbs5
      have hO0 : Olds w5 w1.heap.size gl cl (w1.heap.size + 1) wr.heap.size w5.heap.size A0 A1 A2 c0 c1 c2 (linesOf o) (linesOf a) (linesOf b) p1 p2 (.slice Aw p1.length cw) :=
        ⟨by omega, hgl, by omega, by omega, Nat.le_refl _, k0, k1, k2, k3, hS05, hS15, hS25, hmp5, hown5', fun k hk => (hown5'.lt k hk).2⟩
      have HPl : Hid (Plain (linesOf o) (linesOf a) (linesOf b) p1 p2 0 (0, 0, 0) ([], [])) := Lib.hid (by rw [← HP1.out, ← HP2.out]; exact ⟨good_start _ _ _, rfl, Nat.le_refl _, Nat.le_refl _⟩)
      have HG : Hid (mergeP (linesOf o) (linesOf a) (linesOf b) = mgo (linesOf o) (linesOf a) (linesOf b) (mate p2) p1 (0, 0, 0) ([], [])) := Lib.hid (by rw [← HP1.out, ← HP2.out]; rfl)
      clear hbo5 hbf5 hbs5 k0 k1 k2 k3 hS05 hS15 hS25 hmp5 hown5'
      have hBAw := hO0.lBA
      generalize w5.heap.size = BA at *
      generalize wr.heap.size = bo at *
      go_wp2
      go_loopg [62] p1.length (fun gk iv wx => ∃ (t : Nat) (f : Nat × Nat × Nat) (st : St) (v : Value) (us : List (Value × Value × Value)) (u : Value × Value × Value) (B1 : Nat), iv = .int .i64 t ∧ t ≤ p1.length ∧ p1.length - t ≤ gk ∧
          MInv wx bo (bo + 1) (bo + 1 + 1) BA f st v us u B1 ∧ Olds wx w1.heap.size gl cl (w1.heap.size + 1) bo BA A0 A1 A2 c0 c1 c2 (linesOf o) (linesOf a) (linesOf b) p1 p2 (.slice Aw p1.length cw) ∧
          Below (w1.heap.size + 1) w2 wx ∧ Hid (Plain (linesOf o) (linesOf a) (linesOf b) p1 p2 t f st))
      case atStart => exact ⟨0, _, _, _, _, _, _, rfl, Nat.zero_le _, by omega, hM0, hO0, hb5', HPl⟩
      case round =>
        clear hM0 hO0 hb5' HPl
        obtain ⟨t, f, st, v, us, u, B1, rfl, ht, hgk, hM, hO, hB, HPl⟩ := hrel
        by_cases hlt : t < p1.length
        · obtain ⟨x, y, hp⟩ : ∃ x y, p1[t]? = some (x, y) := ⟨_, _, List.getElem?_eq_getElem hlt⟩
          obtain ⟨g, rfl, cp1, cp2⟩ := hO.pair rfl hp
          have HP := Lib.hid hp
          clear hp
          have hx1 : x < 401 := by have := (HPl.out.good.ahead (x, y) (by have h1 := HP.out; rw [List.mem_iff_getElem?]; exact ⟨0, by simpa using h1⟩)).2.1; simp at this; omega
          have hz6 : (wr.alloc (.cells #[.int .i64 0, .int .i64 0] 59)).heap.size = wr.heap.size + 1 := by simp
          rcases hm : mate p2 x with _ | z
          · have HM := Lib.hid hm
            clear hm
            have hpm := (pmap_at x _ p2 rfl).1
            rw [HM.out] at hpm
            have hHas : Maps.has (pmap p2) (.int .i64 x) = false := hpm
            clear hpm
            go_wp2_with (first
              | (at_lookup; refine wpList_lookup_own_ok_int _ rfl _ _ 55 rfl 3 3 .i64 int_law Try.underlying55 Try.underlying3 (zero_int _) (w1.heap.size + 1) p2.length _ rfl (hO.map.alloc _) _ _ rfl (Maps.keyOf_int_mk Try.underlying3 (WalkArith.wf_i64 (by omega))) ?_; intro c hat hwc)
              | fail)
            go_roundg (gk - 1)
            case measure => omega
            case rel => exact ⟨t + 1, f, st, v, us, u, B1, by go_num, by omega, by omega, hM.alloc _, hO.only (Only.of_below ((Below.refl _ _).alloc (Nat.le_refl _) _)), hB.alloc (by have := hO.top; omega) _, Lib.hid (HPl.out.skip HP.out HM.out)⟩
          · obtain ⟨hbd, HPl'⟩ := HPl.out.go HP.out hm
            obtain ⟨d0, d1, d2, d3, d4, d5⟩ := hbd
            have HPl2 := Lib.hid HPl'
            have HL1 := HPl.out.len1
            have HL2 := pieces_len st
            have HX2 := Lib.hid d1
            have HY1 : Hid (y < 401) := Lib.hid (by omega)
            have HZ1 : Hid (z < 401) := Lib.hid (by omega)
            have HM := Lib.hid hm
            have hpm := pmap_at x _ p2 rfl
            have hat0 := Lib.hid (hpm.2 z hm)
            rw [hm] at hpm
            have hHas : Maps.has (pmap p2) (.int .i64 x) = true := hpm.1
            clear hpm hm HPl' HPl
            have hM1 := hM.alloc (.cells #[.int .i64 x, .int .i64 y] 59)
            have hO1 := hO.only (Only.of_below ((Below.refl _ _).alloc (Nat.le_refl _) (.cells #[.int .i64 x, .int .i64 y] 59)))
            have hB1 := hB.alloc (by have := hO.top; omega) (.cells #[.int .i64 x, .int .i64 y] 59)
            have hx : Blk (wr.alloc (.cells #[.int .i64 x, .int .i64 y] 59)) wr.heap.size 59 #[.int .i64 x, .int .i64 y] := Blk.new _ _ _
            have hBw := hO1.top
            have hlw1 : w1.heap.size < (wr.alloc (.cells #[.int .i64 x, .int .i64 y] 59)).heap.size := by omega
            go_upto_if 84 with (first
              | (at_lookup; refine wpList_lookup_own_ok_int _ rfl _ _ 55 rfl 3 3 .i64 int_law Try.underlying55 Try.underlying3 (zero_int _) (w1.heap.size + 1) p2.length _ rfl hO1.map _ _ rfl (Maps.keyOf_int_mk Try.underlying3 (WalkArith.wf_i64 (by omega))) ?_; intro c hat hwc; rw [hat0.out] at hat; obtain rfl : (z : Int) = c := (by injection hat with hat; injection hat))
              | (go_at_call 26; refine (part_any (linesOf o) (linesOf a) (linesOf b) f.1 f.2.1 f.2.2 x y z w1.heap.size gl (bo + 1) bo (bo + 1 + 1) cl c0 c1 c2 A0 A1 A2 v _ _ w1.heap.size BA (!st.2.isEmpty) _ hO1.l hO1.g0 hO1.g1 hO1.g2 hO1.s0 hO1.s1 hO1.s2 (by omega) (by omega) (by omega) hM1.from_ hM1.out hM1.same hM1.row (by omega) hBw d0 (by omega) d2 (by omega) d4 (by omega) hlo hla hlb).mono ?_; rintro e w6 ⟨rfl, hpp⟩; obtain ⟨v2, us2, u2, B2, hM2⟩ := hM1.part _ _ _ (x, y, z) hpp; have hO2 := hO1.only (hM1.only rfl hpp); have hx2 := hM1.box hx hpp; have hB2 := hB1.trans ((hO1.below (hM1.only rfl hpp)).mono (Nat.le_of_lt hO1.lbm)); generalize Mg.part (linesOf o) (linesOf a) (linesOf b) f (x, y, z) st = st2 at *; obtain ⟨be, hbe⟩ : ∃ be, be = !st2.2.isEmpty := ⟨_, rfl⟩; have cs0 : w6.cell? ⟨bo + 1 + 1, 0, none⟩ = some (.bool be) := (by rw [hbe]; exact (hM2.same.cell 0).trans rfl); have HBE := Lib.hid hbe; clear hbe; clear hM hO hB hM1 hO1 hB1 hx hpp hBw hlw1 d0 d1 d2 d3 d4 d5 HL1 HL2))
            go_cut [22] (fun s22 wx => ∃ v us u B1, s22 = s22 ∧ MOpen wx bo (bo + 1) (bo + 1 + 1) BA f st2.1 st2.2 v us u B1 true ∧ Olds wx w1.heap.size gl cl (w1.heap.size + 1) bo BA A0 A1 A2 c0 c1 c2 (linesOf o) (linesOf a) (linesOf b) p1 p2 (.slice (some ⟨g, 0, none⟩) p1.length cw) ∧
              Below (w1.heap.size + 1) w2 wx ∧ Blk wx wr.heap.size 59 #[.int .i64 x, .int .i64 y])
            case first =>
              rcases be with _ | _
              · have hl2 : st2.2 = [] := by have := HBE.out; simpa using this.symm
                have hM3 : MInv w6 bo (bo + 1) (bo + 1 + 1) BA f (st2.1, []) v2 us2 u2 B2 := by rw [← hl2]; exact hM2
                have hrow2 := hM3.row
                rw [pieces_nil] at hrow2
                simp only [if_true, List.append_nil] at hrow2
                have hlen2 : st2.1.length ≤ 802 := by have := HPl2.out.len1; simp at this; omega
                have HLL := Lib.hid hl2
                clear hl2
                obtain ⟨j0, hj0, hy0, hy1, hy2⟩ := info_parts chunk_info
                have cz0 : w6.cell? ⟨bo, 0, none⟩ = some v2 := (hM2.out.cell 0).trans rfl
                go_wp2_with (at_builtin; refine wpList_append_own _ rfl (.tmp 85) (.tmp 87) _ rfl BA 30 j0 _ 4 80 Try.underlying24 hj0 hy0 hy1 hy2 rfl (by decide) _ _ _ rfl (hrow2.alloc _) ⟨w6.heap.size, 0, none⟩ 1 1 [.int .i64 1, .slice none 0 0, .slice none 0 0, .slice none 0 0] rfl rfl (World.news_of_block (heap_alloc_new w6 _)) (by intro u hu; simp at hu; rcases hu with rfl | rfl <;> rfl) (by unfold maxLen; omega) (by omega) (by have := hO2.top; simp; omega) ?_; intro v7 w7 hown7 hg7 _; obtain ⟨g7, cap7, rfl, _, _, _⟩ := own_form hown7 (Nat.succ_pos _); have b7 := (hM2.out.alloc _).grown hg7 (fun e => own_blk_ne hrow2 hM2.out (by decide) e.symm); have b8 := (hM3.same.alloc _).grown hg7 (fun e => own_blk_ne hrow2 hM3.same (by decide) e.symm); have c7 : w7.cell? ⟨bo, 0, none⟩ = some v2 := (b7.cell 0).trans rfl; have f7 := b7.frozen 0; have c8 : w7.cell? ⟨bo + 1 + 1, 0, none⟩ = some (.bool false) := (b8.cell 0).trans rfl; have f8 := b8.frozen 0; clear b7 b8)
                go_meet
                case rel => exact ⟨_, us2, _, _, trivial, by rw [HLL.out]; exact hM3.opened _ hown7 hg7, hO2.only (hM2.openedOnly rfl _ hg7), hB2.trans ((hO2.below (hM2.openedOnly rfl _ hg7)).mono (Nat.le_of_lt hO2.lbm)), hM2.openedBox _ hx2 hg7⟩
              · have HLL : Hid (st2.2 ≠ []) := Lib.hid (by have := HBE.out; simpa using this.symm)
                go_wp2
                go_meet
                case rel => exact ⟨v2, us2, u2, B2, trivial, MInv.isOpen hM2 HLL.out, hO2, hB2, hx2⟩
            case rest =>
              clear hM2 hO2 hB2 hx2 cs0
              obtain ⟨v, us, ⟨q1, q2, q3⟩, B1, -, hMO, hO, hB, hx⟩ := hcut
              have hx2 : x < (linesOf o).length := HX2.out
              obtain ⟨b0, o0, rfl, hb0, cs1⟩ := hO.s0.at_ hx2
              obtain ⟨nk, hnk⟩ : ∃ nk, nk = st2.1.length := ⟨_, rfl⟩
              obtain ⟨nn, hnn⟩ : ∃ nn, nn = st2.1.length + 1 := ⟨_, rfl⟩
              obtain ⟨gv, cv2, hv, hcv2, hgv, hgv2⟩ := own_form hMO.row (Nat.succ_pos _)
              rw [← hnn] at hv
              subst hv
              have cl1 := hO.l
              have cl2 := hO.g0
              have cx1 : wc.cell? ⟨wr.heap.size, 0, none⟩ = some (.int .i64 x) := (hx.cell 0).trans rfl
              have cv1 : wc.cell? ⟨bo, 0, none⟩ = some (.slice (some ⟨gv, 0, none⟩) nn cv2) := (hMO.out.cell 0).trans rfl
              have i1 : (0 : Int) ≤ (x : Int) := by omega
              have i2 : (x : Int) < ((linesOf o).length : Int) := by omega
              have i3 : (0 : Int) < (3 : Int) := by omega
              have i4 : (0 : Int) ≤ (nk : Int) := by omega
              have i5 : (nk : Int) < (nn : Int) := by omega
              have i6 : IntKind.i64.wrap ((nn : Int) - 1) = (nk : Int) := by
                have := HPl2.out.len1
                rw [IntWalk.i64_in _ (by simp at this; omega)]
                omega
              have HNK := Lib.hid hnk
              have HNN := Lib.hid hnn
              clear hnk hnn
              go_wp2
              go_quiet (fail)
              go_wp2
              clear i1 i2 i3 i4 i5 i6 cl1 cl2 cx1 cv1 cs1
              have hl5 : st2.2.length ≤ 400 := by have := HPl2.out.len2; simp at this; omega
              go_cut [22] (fun s22 wx => ∃ v us u B1, s22 = s22 ∧ MInv wx bo (bo + 1) (bo + 1 + 1) BA f (st2.1, st2.2 ++ [(linesOf o)[x]]) v us u B1 ∧ Only (S2 bo BA) wc wx ∧ Blk wx wr.heap.size 59 #[.int .i64 x, .int .i64 y])
              case first =>
                refine region24 (by kernel_rfl) HNK HNN hgv hl5 ?fin24 ?qp24 hMO hx
                case qp24 => exact Lib.hid (fun _ _ dst _ _ h => by cases dst <;> exact h)
                case fin24 =>
                  refine Lib.hid ?_
                  intro t101 t102 t103 t104 t105 t106 t107 t108 t109 t110 t111 t112 t113 t114 t115 t116 t117 t118 t119 t120 t121 t122 t123 t124 t125 t126 t127 t128 t129 t130 wx v9 us9 u9 B9 hM9 hon9 hx9
                  go_wp2
                  go_meet
                  case rel => exact ⟨v9, us9, u9, B9, trivial, hM9, hon9, hx9⟩
              case rest =>
                obtain ⟨v', us', u', B1', -, hM, hon, hbx⟩ := hcut
                have hO2 := hO.only hon
                have hB2 := hB.trans ((hO.below hon).mono (Nat.le_of_lt hO.lbm))
                have hgd : (linesOf o).getD x ByteArray.empty = (linesOf o)[x] := by rw [List.getD_eq_getElem?_getD, List.getElem?_eq_getElem hx2]; rfl
                have HPl3 : Hid (Plain (linesOf o) (linesOf a) (linesOf b) p1 p2 (t + 1) (x + 1, y + 1, z + 1) (st2.1, st2.2 ++ [(linesOf o)[x]])) := Lib.hid (by have := HPl2.out; rwa [hgd] at this)
                clear hgd hO hB hon hMO hx HPl2
                have c1 : wc.cell? ⟨wr.heap.size, 0, none⟩ = some (.int .i64 x) := (hbx.cell 0).trans rfl
                have c2 : wc.cell? ⟨wr.heap.size, 1, none⟩ = some (.int .i64 y) := (hbx.cell 1).trans rfl
                have d1 : wc.cell? ⟨bo + 1, 0, none⟩ = some (.int .i64 f.1) := (hM.from_.cell 0).trans rfl
                have d2 : wc.cell? ⟨bo + 1, 1, none⟩ = some (.int .i64 f.2.1) := (hM.from_.cell 1).trans rfl
                have d3 : wc.cell? ⟨bo + 1, 2, none⟩ = some (.int .i64 f.2.2) := (hM.from_.cell 2).trans rfl
                have e1 := hM.from_.frozen 0
                have e2 := hM.from_.frozen 1
                have e3 := hM.from_.frozen 2
                have hy1 : y < 401 := HY1.out
                have hz1 : z < 401 := HZ1.out
                go_wp2
                go_roundg (gk - 1)
                case measure => omega
                case rel => exact ⟨t + 1, (x + 1, y + 1, z + 1), _, v', us', u', B1', by go_num, by omega, by omega, hM.go (x + 1) (y + 1) (z + 1), hO2.only (hM.goOnly rfl (x + 1) (y + 1) (z + 1)), hB2.trans ((hO2.below (hM.goOnly rfl (x + 1) (y + 1) (z + 1))).mono (Nat.le_of_lt hO2.lbm)), HPl3⟩
        · have ht3 : t = p1.length := by omega
          subst ht3
          have HE : Hid (mergeP (linesOf o) (linesOf a) (linesOf b) = pieces (Mg.part (linesOf o) (linesOf a) (linesOf b) f ((linesOf o).length, (linesOf a).length, (linesOf b).length) st)) := Lib.hid (by
            rw [HG.out, HPl.out.go_, List.drop_length]; rfl)
          have HL1 := HPl.out.len1
          have HL2 := pieces_len st
          have hfo := HPl.out.good.fo
          have hfa := HPl.out.good.fa
          have hfb := HPl.out.good.fb
          clear HPl HG
          have hBw := hO.top
          have l0 := hO.l
          have l1 := hO.g0
          have l2 := hO.g1
          have l3 := hO.g2
          have i0 : (0 : Int) < (3 : Int) := by omega
          have i1 : (1 : Int) < (3 : Int) := by omega
          have i2 : (2 : Int) < (3 : Int) := by omega
          go_wp2
          go_still_tail 14, (by kernel_rfl)
          change wpList _ _ _ _ _ wr.drew
          have o0 : Only (S2 bo BA) wr wr.drew := ⟨rfl, rfl, rfl, Nat.le_refl _, fun _ _ _ => rfl⟩
          have hO1 := hO.only o0
          have hM1 : MInv wr.drew bo (bo + 1) (bo + 1 + 1) BA f st v us u B1 := ⟨hM.from_, hM.out, hM.same, hM.old, hM.top, hM.base, hM.row, hM.open_⟩
          have hB1 := hB.trans ((hO.below o0).mono (Nat.le_of_lt hO.lbm))
          clear hO hM hB o0 l0 l1 l2 l3
          generalize wr.drew = wd at *
          have hBw := hO1.top
          have hlw1 : w1.heap.size < wd.heap.size := by omega
          go_wp2_with (go_at_call 26; refine (part_any (linesOf o) (linesOf a) (linesOf b) f.1 f.2.1 f.2.2 (linesOf o).length (linesOf a).length (linesOf b).length w1.heap.size gl (bo + 1) bo (bo + 1 + 1) cl c0 c1 c2 A0 A1 A2 v _ _ w1.heap.size BA (!st.2.isEmpty) _ hO1.l hO1.g0 hO1.g1 hO1.g2 hO1.s0 hO1.s1 hO1.s2 (by omega) (by omega) (by omega) hM1.from_ hM1.out hM1.same hM1.row (by omega) hBw hfo (by omega) hfa (by omega) hfb (by omega) hlo hla hlb).mono ?_; rintro e w6 ⟨rfl, hpp⟩; obtain ⟨v2, us2, u2, B2, hM2⟩ := hM1.part _ _ _ ((linesOf o).length, (linesOf a).length, (linesOf b).length) hpp; have hB2 := hB1.trans ((hO1.below (hM1.only rfl hpp)).mono (Nat.le_of_lt hO1.lbm)); have HPC := Lib.hid (hM2.all); have cv2 : w6.cell? ⟨bo, 0, none⟩ = some v2 := (hM2.out.cell 0).trans rfl)
          go_ret2
          have h1 := hO1.lBA
          have h2 := hO1.lbl
          have h3 : w.heap.size + 1 ≤ w1.heap.size := by have := hb1.size; simpa using this
          have h4 := hM2.row
          have h5 := HPC.out
          rw [← HE.out] at h4 h5
          have h6 : w.heap.size ≤ BA := by omega
          refine ⟨v2, _, rfl, own_base h4 h6, ⟨h5.1, fun i u p j1 j2 => ?_⟩, ((Below.refl _ w).alloc (Nat.le_refl _) _).trans ((hb1.trans ((hb12.trans (hB2.mono (Nat.le_succ _))).mono (by simpa using h3))).mono (by simp))⟩
          obtain ⟨a1, a2, a3⟩ := h5.2 i u p j1 j2
          exact ⟨⟨own_base a1.1 h6, a1.2⟩, ⟨own_base a2.1 h6, a2.2⟩, ⟨own_base a3.1 h6, a3.2⟩⟩

end Go.Proofs.Ytafhefhhndmdkaa
