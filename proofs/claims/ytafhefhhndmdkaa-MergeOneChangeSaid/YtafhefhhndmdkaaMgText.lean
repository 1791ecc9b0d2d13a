/- merge.Text: the text of pieces, or none; for at most 2000 pieces of at most 1000 lines of at most a million bytes. -/
import Derived.Test.YtafhefhhndmdkaaMgBld
import Derived.Test.YtafhefhhndmdkaaMgEq
import Derived.Test.YtafhefhhndmdkaaMgApplyMath
namespace Go.Proofs.Ytafhefhhndmdkaa
open Go.RowKit Mg

/-- a piece, as far as its text goes: its kind, ours, theirs -/
abbrev PcI := Int × List ByteArray × List ByteArray
def chosenI (p : PcI) : Option (List ByteArray) := if p.1 = 1 ∨ p.1 = 2 ∨ p.1 = 4 then some p.2.1 else if p.1 = 3 then some p.2.2 else none
def textI : List PcI → Option (List ByteArray)
  | [] => some []
  | p :: ps => (chosenI p).bind fun l => (textI ps).map (l ++ ·)
theorem textI_snoc : ∀ (ps : List PcI) (p : PcI) (l m : List ByteArray), textI ps = some l → chosenI p = some m → textI (ps ++ [p]) = some (l ++ m)
  | [], p, l, m, h, h2 => by
    simp only [textI, Option.some.injEq] at h
    subst h
    simp [textI, h2]
  | q :: ps, p, l, m, h, h2 => by
    rcases hq : chosenI q with _ | a
    · simp [textI, hq] at h
    · rcases ht : textI ps with _ | b
      · simp [textI, hq, ht] at h
      · simp only [textI, hq, ht, Option.bind_some, Option.map_some, Option.some.injEq] at h
        subst h
        rw [List.cons_append, textI, hq, textI_snoc ps p b m ht h2]
        simp
theorem textI_none : ∀ (ps : List PcI) (p : PcI) (qs : List PcI), chosenI p = none → textI (ps ++ p :: qs) = none
  | [], p, qs, h => by simp [textI, h]
  | q :: ps, p, qs, h => by
    rw [List.cons_append, textI, textI_none ps p qs h]
    cases chosenI q <;> rfl
def flatB (l : List ByteArray) : List UInt8 := (l.map (·.data.toList)).flatten
theorem flatB_append (l m : List ByteArray) : flatB (l ++ m) = flatB l ++ flatB m := by simp [flatB]
theorem flatB_one (s : ByteArray) : flatB [s] = s.data.toList := by simp [flatB]
theorem byteCells_append (l m : List UInt8) : Lib.byteCells (l ++ m) = Lib.byteCells l ++ Lib.byteCells m := by simp [Lib.byteCells]
theorem byteCells_str (s : ByteArray) : Lib.strCells s = Lib.byteCells s.data.toList := rfl
def textRes : Option (List ByteArray) → Value
  | some l => .tuple #[.string (joinS l), .bool true]
  | none => .tuple #[.string ByteArray.empty, .bool false]
theorem joinS_eq (l : List ByteArray) : joinS l = ⟨(flatB l).toArray⟩ := by
  have := joinS_flat l
  unfold flatB
  rw [← this]
def TxtAt (w : World) (B : Nat) (A : Option Addr) (ps : List PcI) : Prop :=
  ∀ (j : Nat) (p : PcI), ps[j]? = some p → ∃ b o A0 n0 c0 A1 c1 A2 c2, A = some ⟨b, o, none⟩ ∧ b < B ∧ w.cell? ⟨b, o + j * 4, none⟩ = some (.int .i64 p.1) ∧ w.cell? ⟨b, o + j * 4 + 1, none⟩ = some (.slice A0 n0 c0) ∧
    w.cell? ⟨b, o + j * 4 + 2, none⟩ = some (.slice A1 p.2.1.length c1) ∧ w.cell? ⟨b, o + j * 4 + 3, none⟩ = some (.slice A2 p.2.2.length c2) ∧ Strs w B A1 c1 p.2.1 ∧ Strs w B A2 c2 p.2.2
theorem TxtAt.below {w w' : World} {B : Nat} {A : Option Addr} {ps : List PcI} (h : TxtAt w B A ps) (hb : Below B w w') : TxtAt w' B A ps := fun j p hj => by
  obtain ⟨b, o, A0, n0, c0, A1, c1, A2, c2, h1, h2, h3, h4, h5, h6, h7, h8⟩ := h j p hj
  exact ⟨b, o, A0, n0, c0, A1, c1, A2, c2, h1, h2, (hb.cell (p := ⟨b, o + j * 4, none⟩) h2).trans h3, (hb.cell (p := ⟨b, o + j * 4 + 1, none⟩) h2).trans h4, (hb.cell (p := ⟨b, o + j * 4 + 2, none⟩) h2).trans h5, (hb.cell (p := ⟨b, o + j * 4 + 3, none⟩) h2).trans h6, h7.below hb, h8.below hb⟩
theorem TxtAt.more {w : World} {B B' : Nat} {A : Option Addr} {ps : List PcI} (h : TxtAt w B A ps) (hB : B ≤ B') : TxtAt w B' A ps := fun j p hj => by
  obtain ⟨b, o, A0, n0, c0, A1, c1, A2, c2, h1, h2, h3, h4, h5, h6, h7, h8⟩ := h j p hj
  exact ⟨b, o, A0, n0, c0, A1, c1, A2, c2, h1, Nat.lt_of_lt_of_le h2 hB, h3, h4, h5, h6, h7.more hB, h8.more hB⟩
def toI (p : Pc) : PcI := ((p.1 : Int), p.2.2.1, p.2.2.2)
theorem PcsAt.txt {w : World} {B : Nat} {A : Option Addr} {ps : List Pc} (h : PcsAt w B A ps) : TxtAt w B A (ps.map toI) := fun j p hj => by
  rw [List.getElem?_map, Option.map_eq_some_iff] at hj
  obtain ⟨q, hq, rfl⟩ := hj
  obtain ⟨b, o, A0, c0, A1, c1, A2, c2, h1, h2, h3, h4, h5, h6, _, h8, h9⟩ := h j q hq
  exact ⟨b, o, A0, _, c0, A1, c1, A2, c2, h1, h2, h3, h4, h5, h6, h8, h9⟩
theorem bldAlloc {T e : TypeId} {B b : Nat} {p : Value} {bs : List Value} {w : World} (h : Lib.BuilderAt T e B b p bs w) (o : Obj) : Lib.BuilderAt T e B b p bs (w.alloc o) := by
  obtain ⟨h1, v, h2, h3, h4⟩ := h
  exact ⟨h1, v, (Below.heap_alloc w o b (Array.getElem?_eq_some_iff.1 h2).1).trans h2, h3.alloc o, h4⟩
theorem IsBld.alloc {B b : Nat} {bs : List Value} {w : World} (h : IsBld B b bs w) (o : Obj) : IsBld B b bs (w.alloc o) := h.imp (fun k => bldAlloc k o) (fun k => bldAlloc k o)
theorem flatB_len (l : List ByteArray) (m : Nat) (h : ∀ s ∈ l, s.size ≤ m) : (flatB l).length ≤ l.length * m := by
  induction l with
  | nil => simp [flatB]
  | cons x l ih =>
    have e : flatB (x :: l) = x.data.toList ++ flatB l := by simp [flatB]
    rw [e, List.length_append, List.length_cons, Nat.add_mul]
    have h1 := h x (.head _)
    have h2 := ih fun s hs => h s (.tail _ hs)
    have h3 : x.data.toList.length = x.size := Array.length_toList
    omega
/-- what is asked of the pieces -/
def SmallI (ps : List PcI) : Prop := ps.length ≤ 2000 ∧ ∀ p ∈ ps, p.2.1.length ≤ 1000 ∧ p.2.2.length ≤ 1000 ∧ (∀ s ∈ p.2.1, s.size ≤ 1000000) ∧ ∀ s ∈ p.2.2, s.size ≤ 1000000

set_option maxHeartbeats 8000000 in
set_option maxRecDepth 100000 in
theorem text_any (ps : List PcI) (A : Option Addr) (c n : Nat) (w : World) (hn : ps.length = n) (hps : TxtAt w w.heap.size A ps) (hsm : SmallI ps) :
    Calls Try.prog 15 #[.slice A n c] w fun e w' => e = .returned (textRes (textI ps)) ∧ Below w.heap.size w w' := by
  have HN := Lib.hid hn
  have HS := Lib.hid hsm
  have hn2 : n ≤ 2000 := by rw [← hn]; exact hsm.1
  clear hn hsm
  have hb0 : IsBld w.heap.size w.heap.size (Lib.byteCells (flatB [])) (w.alloc (.cells #[.pointer none, .slice none 0 0] 69)) := Lib.fresh_isBuilder _ _ w
  have hbw : Below w.heap.size w (w.alloc (.cells #[.pointer none, .slice none 0 0] 69)) := (Below.refl _ _).alloc (Nat.le_refl _) _
  have hsz : w.heap.size < (w.alloc (.cells #[.pointer none, .slice none 0 0] 69)).heap.size := by simp
  go_enter Try.func15, Try.ntmps15
  go_wp2
  go_loopg [12] n (fun gk iv wr => ∃ (k : Nat) (ls : List ByteArray), iv = .int .i64 k ∧ k ≤ n ∧ n - k ≤ gk ∧ IsBld w.heap.size w.heap.size (Lib.byteCells (flatB ls)) wr ∧ Below w.heap.size w wr ∧ w.heap.size < wr.heap.size ∧ Hid (textI (ps.take k) = some ls) ∧ (flatB ls).length ≤ k * 1000000000)
  case atStart => exact ⟨0, [], rfl, Nat.zero_le _, by omega, hb0, hbw, hsz, Lib.hid rfl, by simp [flatB]⟩
  case round =>
    clear hb0 hbw hsz
    obtain ⟨k, ls, rfl, hk, hgk, hbd, hbw, hsz, HT, hfl⟩ := hrel
    by_cases hlt : k < n
    · obtain ⟨p, hp⟩ : ∃ p, ps[k]? = some p := ⟨_, List.getElem?_eq_getElem (by rw [HN.out]; exact hlt)⟩
      have hpm : p ∈ ps := List.mem_of_getElem? hp
      obtain ⟨b, o, A0, n0, c0, A1, c1, A2, c2, rfl, hlb, k0, k1, k2, k3, hs1, hs2⟩ := hps.below hbw k p hp
      obtain ⟨m1, m2, m3, m4⟩ := HS.out.2 p hpm
      have HP := Lib.hid hp
      have HM3 := Lib.hid m3
      have HM4 := Lib.hid m4
      clear hp hpm m3 m4
      obtain ⟨kd, l1, l2⟩ := p
      simp only at m1 m2 k0 k2 k3 hs1 hs2
      have hbd2 := hbd.alloc (.cells #[.int .i64 kd, .slice A0 n0 c0, .slice A1 l1.length c1, .slice A2 l2.length c2] 30)
      have hbw2 : Below w.heap.size w (wr.alloc (.cells #[.int .i64 kd, .slice A0 n0 c0, .slice A1 l1.length c1, .slice A2 l2.length c2] 30)) := hbw.alloc (by omega) _
      have hbb : Below w.heap.size wr (wr.alloc (.cells #[.int .i64 kd, .slice A0 n0 c0, .slice A1 l1.length c1, .slice A2 l2.length c2] 30)) := (Below.refl _ _).alloc (by omega) _
      have hsz2 : w.heap.size < (wr.alloc (.cells #[.int .i64 kd, .slice A0 n0 c0, .slice A1 l1.length c1, .slice A2 l2.length c2] 30)).heap.size := by simp; omega
      have hs1' := hs1.below hbb
      have hs2' := hs2.below hbb
      clear hbd hbw hsz hs1 hs2 hbb
      obtain ⟨wo, rfl⟩ : ∃ wo : World, wo = wr := ⟨_, rfl⟩
      obtain ⟨go, rfl⟩ : ∃ go : Nat, go = gk := ⟨_, rfl⟩
      by_cases e1 : kd = 1
      · subst e1
        have HC : Hid (chosenI (1, l1, l2) = some l1) := Lib.hid rfl
        go_wp2
        generalize wo.alloc (.cells #[.int .i64 1, .slice A0 n0 c0, .slice A1 l1.length c1, .slice A2 l2.length c2] 30) = wi at *
        go_loopg [30] l1.length (fun gj iv wr => ∃ j : Nat, iv = .int .i64 j ∧ j ≤ l1.length ∧ l1.length - j ≤ gj ∧ IsBld w.heap.size w.heap.size (Lib.byteCells (flatB (ls ++ l1.take j))) wr ∧ Below w.heap.size wi wr ∧ w.heap.size < wr.heap.size ∧ (flatB (ls ++ l1.take j)).length ≤ k * 1000000000 + j * 1000000)
        case atStart => exact ⟨0, rfl, Nat.zero_le _, by omega, by simpa using hbd2, Below.refl _ _, hsz2, by simpa using hfl⟩
        case round =>
          obtain ⟨j, rfl, hj, hgj, hbd3, hbw3, hsz3, hfl3⟩ := hrel
          by_cases hlt2 : j < l1.length
          · obtain ⟨b2, o2, rfl, _, cs⟩ := (hs1'.below hbw3).at_ hlt2
            have hsl : l1[j].size ≤ 1000000 := HM3.out _ (List.getElem_mem hlt2)
            have hbl : (Lib.byteCells (flatB (ls ++ l1.take j))).length = (flatB (ls ++ l1.take j)).length := by simp [Lib.byteCells]
            have HA : Hid (Lib.byteCells (flatB (ls ++ l1.take j)) ++ Lib.strCells l1[j] = Lib.byteCells (flatB (ls ++ l1.take (j + 1)))) := Lib.hid (by
              rw [List.take_succ_eq_append_getElem hlt2, ← List.append_assoc, flatB_append _ [l1[j]], byteCells_append, flatB_one, byteCells_str])
            have hfl4 : (flatB (ls ++ l1.take (j + 1))).length ≤ k * 1000000000 + (j + 1) * 1000000 := by
              rw [List.take_succ_eq_append_getElem hlt2, ← List.append_assoc, flatB_append _ [l1[j]], List.length_append, flatB_one]
              have h3 : l1[j].data.toList.length = l1[j].size := Array.length_toList
              omega
            have hlen : (Lib.byteCells (flatB (ls ++ l1.take j))).length + l1[j].size ≤ 140737488355328 := by rw [hbl]; omega
            clear hbl
            have hle : w.heap.size ≤ wr.heap.size := by omega
            go_wp2_with (go_at_call 29; refine (writeString_any w.heap.size w.heap.size _ l1[j] _ hbd3 hlen hle).mono ?_; rintro e w5 ⟨rfl, hb5, hw5⟩)
            go_roundg (gk - 1)
            case measure => omega
            case rel => exact ⟨j + 1, by go_num, by omega, by omega, .inr (by rw [← HA.out]; exact hb5), hbw3.trans hw5, Nat.lt_of_lt_of_le hsz3 hw5.size, hfl4⟩
          · have hjn : j = l1.length := by omega
            subst hjn
            have HT2 : Hid (textI (ps.take (k + 1)) = some (ls ++ l1)) := Lib.hid (by
              have e : ps.take (k + 1) = ps.take k ++ [(1, l1, l2)] := by
                obtain ⟨h1, h2⟩ := List.getElem?_eq_some_iff.1 HP.out
                rw [List.take_succ_eq_append_getElem h1, h2]
              rw [e]
              exact textI_snoc _ _ _ _ HT.out HC.out)
            rw [List.take_length] at hbd3 hfl3
            go_wp2
            go_roundg (go - 1)
            case measure => omega
            case rel => exact ⟨k + 1, ls ++ l1, by go_num, by omega, by omega, hbd3, hbw2.trans hbw3, hsz3, HT2, by have := m1; omega⟩
      have f1 : (kd == 1) = false := by simpa using e1
      by_cases e2 : kd = 2
      · subst e2
        have HC : Hid (chosenI (2, l1, l2) = some l1) := Lib.hid rfl
        go_wp2
        generalize wo.alloc (.cells #[.int .i64 2, .slice A0 n0 c0, .slice A1 l1.length c1, .slice A2 l2.length c2] 30) = wi at *
        go_loopg [30] l1.length (fun gj iv wr => ∃ j : Nat, iv = .int .i64 j ∧ j ≤ l1.length ∧ l1.length - j ≤ gj ∧ IsBld w.heap.size w.heap.size (Lib.byteCells (flatB (ls ++ l1.take j))) wr ∧ Below w.heap.size wi wr ∧ w.heap.size < wr.heap.size ∧ (flatB (ls ++ l1.take j)).length ≤ k * 1000000000 + j * 1000000)
        case atStart => exact ⟨0, rfl, Nat.zero_le _, by omega, by simpa using hbd2, Below.refl _ _, hsz2, by simpa using hfl⟩
        case round =>
          obtain ⟨j, rfl, hj, hgj, hbd3, hbw3, hsz3, hfl3⟩ := hrel
          by_cases hlt2 : j < l1.length
          · obtain ⟨b2, o2, rfl, _, cs⟩ := (hs1'.below hbw3).at_ hlt2
            have hsl : l1[j].size ≤ 1000000 := HM3.out _ (List.getElem_mem hlt2)
            have hbl : (Lib.byteCells (flatB (ls ++ l1.take j))).length = (flatB (ls ++ l1.take j)).length := by simp [Lib.byteCells]
            have HA : Hid (Lib.byteCells (flatB (ls ++ l1.take j)) ++ Lib.strCells l1[j] = Lib.byteCells (flatB (ls ++ l1.take (j + 1)))) := Lib.hid (by
              rw [List.take_succ_eq_append_getElem hlt2, ← List.append_assoc, flatB_append _ [l1[j]], byteCells_append, flatB_one, byteCells_str])
            have hfl4 : (flatB (ls ++ l1.take (j + 1))).length ≤ k * 1000000000 + (j + 1) * 1000000 := by
              rw [List.take_succ_eq_append_getElem hlt2, ← List.append_assoc, flatB_append _ [l1[j]], List.length_append, flatB_one]
              have h3 : l1[j].data.toList.length = l1[j].size := Array.length_toList
              omega
            have hlen : (Lib.byteCells (flatB (ls ++ l1.take j))).length + l1[j].size ≤ 140737488355328 := by rw [hbl]; omega
            clear hbl
            have hle : w.heap.size ≤ wr.heap.size := by omega
            go_wp2_with (go_at_call 29; refine (writeString_any w.heap.size w.heap.size _ l1[j] _ hbd3 hlen hle).mono ?_; rintro e w5 ⟨rfl, hb5, hw5⟩)
            go_roundg (gk - 1)
            case measure => omega
            case rel => exact ⟨j + 1, by go_num, by omega, by omega, .inr (by rw [← HA.out]; exact hb5), hbw3.trans hw5, Nat.lt_of_lt_of_le hsz3 hw5.size, hfl4⟩
          · have hjn : j = l1.length := by omega
            subst hjn
            have HT2 : Hid (textI (ps.take (k + 1)) = some (ls ++ l1)) := Lib.hid (by
              have e : ps.take (k + 1) = ps.take k ++ [(2, l1, l2)] := by
                obtain ⟨h1, h2⟩ := List.getElem?_eq_some_iff.1 HP.out
                rw [List.take_succ_eq_append_getElem h1, h2]
              rw [e]
              exact textI_snoc _ _ _ _ HT.out HC.out)
            rw [List.take_length] at hbd3 hfl3
            go_wp2
            go_roundg (go - 1)
            case measure => omega
            case rel => exact ⟨k + 1, ls ++ l1, by go_num, by omega, by omega, hbd3, hbw2.trans hbw3, hsz3, HT2, by have := m1; omega⟩
      have f2 : (kd == 2) = false := by simpa using e2
      by_cases e4 : kd = 4
      · subst e4
        have HC : Hid (chosenI (4, l1, l2) = some l1) := Lib.hid rfl
        go_wp2
        generalize wo.alloc (.cells #[.int .i64 4, .slice A0 n0 c0, .slice A1 l1.length c1, .slice A2 l2.length c2] 30) = wi at *
        go_loopg [30] l1.length (fun gj iv wr => ∃ j : Nat, iv = .int .i64 j ∧ j ≤ l1.length ∧ l1.length - j ≤ gj ∧ IsBld w.heap.size w.heap.size (Lib.byteCells (flatB (ls ++ l1.take j))) wr ∧ Below w.heap.size wi wr ∧ w.heap.size < wr.heap.size ∧ (flatB (ls ++ l1.take j)).length ≤ k * 1000000000 + j * 1000000)
        case atStart => exact ⟨0, rfl, Nat.zero_le _, by omega, by simpa using hbd2, Below.refl _ _, hsz2, by simpa using hfl⟩
        case round =>
          obtain ⟨j, rfl, hj, hgj, hbd3, hbw3, hsz3, hfl3⟩ := hrel
          by_cases hlt2 : j < l1.length
          · obtain ⟨b2, o2, rfl, _, cs⟩ := (hs1'.below hbw3).at_ hlt2
            have hsl : l1[j].size ≤ 1000000 := HM3.out _ (List.getElem_mem hlt2)
            have hbl : (Lib.byteCells (flatB (ls ++ l1.take j))).length = (flatB (ls ++ l1.take j)).length := by simp [Lib.byteCells]
            have HA : Hid (Lib.byteCells (flatB (ls ++ l1.take j)) ++ Lib.strCells l1[j] = Lib.byteCells (flatB (ls ++ l1.take (j + 1)))) := Lib.hid (by
              rw [List.take_succ_eq_append_getElem hlt2, ← List.append_assoc, flatB_append _ [l1[j]], byteCells_append, flatB_one, byteCells_str])
            have hfl4 : (flatB (ls ++ l1.take (j + 1))).length ≤ k * 1000000000 + (j + 1) * 1000000 := by
              rw [List.take_succ_eq_append_getElem hlt2, ← List.append_assoc, flatB_append _ [l1[j]], List.length_append, flatB_one]
              have h3 : l1[j].data.toList.length = l1[j].size := Array.length_toList
              omega
            have hlen : (Lib.byteCells (flatB (ls ++ l1.take j))).length + l1[j].size ≤ 140737488355328 := by rw [hbl]; omega
            clear hbl
            have hle : w.heap.size ≤ wr.heap.size := by omega
            go_wp2_with (go_at_call 29; refine (writeString_any w.heap.size w.heap.size _ l1[j] _ hbd3 hlen hle).mono ?_; rintro e w5 ⟨rfl, hb5, hw5⟩)
            go_roundg (gk - 1)
            case measure => omega
            case rel => exact ⟨j + 1, by go_num, by omega, by omega, .inr (by rw [← HA.out]; exact hb5), hbw3.trans hw5, Nat.lt_of_lt_of_le hsz3 hw5.size, hfl4⟩
          · have hjn : j = l1.length := by omega
            subst hjn
            have HT2 : Hid (textI (ps.take (k + 1)) = some (ls ++ l1)) := Lib.hid (by
              have e : ps.take (k + 1) = ps.take k ++ [(4, l1, l2)] := by
                obtain ⟨h1, h2⟩ := List.getElem?_eq_some_iff.1 HP.out
                rw [List.take_succ_eq_append_getElem h1, h2]
              rw [e]
              exact textI_snoc _ _ _ _ HT.out HC.out)
            rw [List.take_length] at hbd3 hfl3
            go_wp2
            go_roundg (go - 1)
            case measure => omega
            case rel => exact ⟨k + 1, ls ++ l1, by go_num, by omega, by omega, hbd3, hbw2.trans hbw3, hsz3, HT2, by have := m1; omega⟩
      have f4 : (kd == 4) = false := by simpa using e4
      by_cases e3 : kd = 3
      · subst e3
        have HC : Hid (chosenI (3, l1, l2) = some l2) := Lib.hid rfl
        go_wp2
        generalize wo.alloc (.cells #[.int .i64 3, .slice A0 n0 c0, .slice A1 l1.length c1, .slice A2 l2.length c2] 30) = wi at *
        go_loopg [30] l2.length (fun gj iv wr => ∃ j : Nat, iv = .int .i64 j ∧ j ≤ l2.length ∧ l2.length - j ≤ gj ∧ IsBld w.heap.size w.heap.size (Lib.byteCells (flatB (ls ++ l2.take j))) wr ∧ Below w.heap.size wi wr ∧ w.heap.size < wr.heap.size ∧ (flatB (ls ++ l2.take j)).length ≤ k * 1000000000 + j * 1000000)
        case atStart => exact ⟨0, rfl, Nat.zero_le _, by omega, by simpa using hbd2, Below.refl _ _, hsz2, by simpa using hfl⟩
        case round =>
          obtain ⟨j, rfl, hj, hgj, hbd3, hbw3, hsz3, hfl3⟩ := hrel
          by_cases hlt2 : j < l2.length
          · obtain ⟨b2, o2, rfl, _, cs⟩ := (hs2'.below hbw3).at_ hlt2
            have hsl : l2[j].size ≤ 1000000 := HM4.out _ (List.getElem_mem hlt2)
            have hbl : (Lib.byteCells (flatB (ls ++ l2.take j))).length = (flatB (ls ++ l2.take j)).length := by simp [Lib.byteCells]
            have HA : Hid (Lib.byteCells (flatB (ls ++ l2.take j)) ++ Lib.strCells l2[j] = Lib.byteCells (flatB (ls ++ l2.take (j + 1)))) := Lib.hid (by
              rw [List.take_succ_eq_append_getElem hlt2, ← List.append_assoc, flatB_append _ [l2[j]], byteCells_append, flatB_one, byteCells_str])
            have hfl4 : (flatB (ls ++ l2.take (j + 1))).length ≤ k * 1000000000 + (j + 1) * 1000000 := by
              rw [List.take_succ_eq_append_getElem hlt2, ← List.append_assoc, flatB_append _ [l2[j]], List.length_append, flatB_one]
              have h3 : l2[j].data.toList.length = l2[j].size := Array.length_toList
              omega
            have hlen : (Lib.byteCells (flatB (ls ++ l2.take j))).length + l2[j].size ≤ 140737488355328 := by rw [hbl]; omega
            clear hbl
            have hle : w.heap.size ≤ wr.heap.size := by omega
            go_wp2_with (go_at_call 29; refine (writeString_any w.heap.size w.heap.size _ l2[j] _ hbd3 hlen hle).mono ?_; rintro e w5 ⟨rfl, hb5, hw5⟩)
            go_roundg (gk - 1)
            case measure => omega
            case rel => exact ⟨j + 1, by go_num, by omega, by omega, .inr (by rw [← HA.out]; exact hb5), hbw3.trans hw5, Nat.lt_of_lt_of_le hsz3 hw5.size, hfl4⟩
          · have hjn : j = l2.length := by omega
            subst hjn
            have HT2 : Hid (textI (ps.take (k + 1)) = some (ls ++ l2)) := Lib.hid (by
              have e : ps.take (k + 1) = ps.take k ++ [(3, l1, l2)] := by
                obtain ⟨h1, h2⟩ := List.getElem?_eq_some_iff.1 HP.out
                rw [List.take_succ_eq_append_getElem h1, h2]
              rw [e]
              exact textI_snoc _ _ _ _ HT.out HC.out)
            rw [List.take_length] at hbd3 hfl3
            go_wp2
            go_roundg (go - 1)
            case measure => omega
            case rel => exact ⟨k + 1, ls ++ l2, by go_num, by omega, by omega, hbd3, hbw2.trans hbw3, hsz3, HT2, by have := m2; omega⟩
      have f3 : (kd == 3) = false := by simpa using e3
      have HX : Hid (textI ps = none) := Lib.hid (by
        have h := textI_none (ps.take k) (kd, l1, l2) (ps.drop (k + 1)) (by simp [chosenI, e1, e2, e3, e4])
        obtain ⟨h1, h2⟩ := List.getElem?_eq_some_iff.1 HP.out
        rwa [← h2, ← List.drop_eq_getElem_cons h1, List.take_append_drop] at h)
      clear e1 e2 e3 e4
      go_wp2
      go_ret2
      exact ⟨by rw [HX.out]; rfl, hbw2⟩
    · have hkn : k = n := by omega
      have HX : Hid (textI ps = some ls) := Lib.hid (by have := HT.out; rwa [List.take_of_length_le (by rw [HN.out]; omega)] at this)
      have hle : w.heap.size ≤ wr.heap.size := by omega
      go_wp2_with (go_at_call 30; refine (Try.Builder_String_any w.heap.size w.heap.size (flatB ls) _ hbd hle).mono ?_; rintro e w5 ⟨rfl, hw5⟩)
      go_ret2
      exact ⟨by rw [HX.out, textRes, joinS_eq]; rfl, hbw.trans hw5⟩
end Go.Proofs.Ytafhefhhndmdkaa
