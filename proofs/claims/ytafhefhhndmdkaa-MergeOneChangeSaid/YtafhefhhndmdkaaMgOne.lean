/- The walk of MergeOneChange: it returns true and writes nothing that was there; for every three numbers and string. -/
import Derived.Test.YtafhefhhndmdkaaMgUnch
namespace Go.Proofs.Ytafhefhhndmdkaa
open Go.RowKit Mg

/-- how many line ends a text has -/
def NL (s : ByteArray) : Nat := s.data.toList.count 10
theorem NL_append (s t : ByteArray) : NL (s ++ t) = NL s + NL t := by simp [NL, List.count_append]
theorem NL_le (s : ByteArray) : NL s ≤ s.size := by
  have := List.count_le_length (a := (10 : UInt8)) (l := s.data.toList)
  unfold NL
  rwa [Array.length_toList] at this
theorem lns_count : ∀ l : List UInt8, (lns l).length ≤ l.count 10 + 1
  | [] => by simp [lns]
  | c :: l => by
    have ih := lns_count l
    by_cases h : c = 10
    · subst h
      simp only [lns, if_true, List.length_cons, List.count_cons_self]
      omega
    · rw [List.count_cons_of_ne (by simpa using h)]
      simp only [lns, if_neg h]
      split
      · simp
      · rename_i x r e
        rw [e] at ih
        simpa using ih
theorem lines_count (s : ByteArray) : (linesOf s).length ≤ NL s + 1 := by
  have := lns_count s.data.toList
  unfold linesOf NL
  rwa [List.length_map]
theorem repeat_x (i : Nat) : (Lib.repeatL [120] i).length = i ∧ (Lib.repeatL [(120 : UInt8)] i).count 10 = 0 := by
  induction i with
  | zero => exact ⟨rfl, rfl⟩
  | succ i ih => simp [Lib.repeatL, ih]
set_option maxHeartbeats 1000000 in
theorem line_any (i : Nat) (hi : i ≤ 40) (w : World) : Calls Try.prog 22 #[.int .i64 i] w fun e w' => ∃ s, e = .returned (.string s) ∧ s.size ≤ 43 ∧ NL s ≤ 1 ∧ Below w.heap.size w w' := by
  obtain ⟨h1, h2⟩ := repeat_x i
  have hz : ((⟨(Lib.repeatL [120] i).toArray⟩ : ByteArray)).size ≤ 40 := by simp [ByteArray.size, h1]; exact hi
  have hc : NL (⟨(Lib.repeatL [120] i).toArray⟩ : ByteArray) = 0 := by simpa [NL] using h2
  have HR := Lib.hid (Try.strings_Repeat ⟨#[120]⟩ i w (by omega) (by show 1 * i ≤ _; omega))
  have e0 : (⟨#[120]⟩ : ByteArray).data.toList = [120] := rfl
  rw [e0] at HR
  clear e0 h1 h2
  generalize (⟨(Lib.repeatL [120] i).toArray⟩ : ByteArray) = r at *
  have HC := Lib.hid hc
  clear hc
  have z1 : (⟨#[60]⟩ : ByteArray).size = 1 := rfl
  have z2 : (⟨#[62, 10]⟩ : ByteArray).size = 2 := rfl
  go_enter Try.func22, Try.ntmps22
  go_wp2_with (go_at_call 38; refine HR.out.mono ?_; rintro e w1 ⟨rfl, hb1⟩)
  go_ret
  refine ⟨_, rfl, ?_, ?_, hb1⟩
  · rw [ByteArray.size_append, ByteArray.size_append]
    omega
  · rw [NL_append, NL_append, HC.out]
    decide

/-- a merge with the unchanged text, and its text -/
theorem merge_txt2 (o a : ByteArray) (hso : o.size ≤ 3000) (hsa : a.size ≤ 3000) (hlo : (linesOf o).length ≤ 400) (hla : (linesOf a).length ≤ 400) :
    ∃ (n : Nat) (ps : List PcI), (∀ w : World, Calls Try.prog 12 #[.string o, .string a, .string o] w fun e w' => ∃ A c, e = .returned (.tuple #[.slice A n c, .int .i64 0]) ∧ TxtAt w' w'.heap.size A ps ∧ Below w.heap.size w w') ∧
      ∀ (w : World) (A : Option Addr) (c : Nat), TxtAt w w.heap.size A ps → Calls Try.prog 15 #[.slice A n c] w fun e w' => e = .returned (.tuple #[.string a, .bool true]) ∧ Below w.heap.size w w' := by
  refine ⟨(mergeP (linesOf o) (linesOf a) (linesOf o)).length, (mergeP (linesOf o) (linesOf a) (linesOf o)).map toI, fun w => ?_, fun w A c h => ?_⟩
  · exact (merge_read o a o w (by omega) (by omega) (by omega) hlo hla hlo).mono fun e w' ⟨A, c, h1, _, h2, h3⟩ => ⟨A, c, h1, h2.txt, h3⟩
  · have h1 := text_any ((mergeP (linesOf o) (linesOf a) (linesOf o)).map toI) A c _ w (List.length_map ..) h (merge_small o a o hlo hla hlo (by omega) (by omega))
    rw [text_toI, text_theirs, textRes, joinS_lines] at h1
    exact h1
set_option maxHeartbeats 16000000 in
set_option maxRecDepth 100000 in
theorem mergeOneChange_law (n at_ by_ : Int) (s : ByteArray) (w : World) (hs : s.size ≤ maxLen) :
    Calls Try.prog 9 #[.int .i64 n, .int .i64 at_, .int .i64 by_, .string s] w fun e w' => e = .returned (.bool true) ∧ Below w.heap.size w w' := by
  unfold maxLen at hs
  have HC1 := Lib.hid (fun W : World => (Try.strings_Contains_one s 10 W).mono fun _ _ h => And.intro h.1 h.2.symm)
  have HC2 := Lib.hid (fun W : World => (Try.strings_Contains_one s 60 W).mono fun _ _ h => And.intro h.1 h.2.symm)
  generalize decide (0 ≤ Lib.indexByte s.data.toList 10) = b1 at HC1
  generalize decide (0 ≤ Lib.indexByte s.data.toList 60) = b2 at HC2
  by_cases h0 : n < 1
  · go_enter Try.func9, Try.ntmps9
    go_wp2_with (first
      | (go_at_call 21; ((with_reducible refine (HC1.out _).mono ?_); rintro e w1 ⟨rfl, rfl⟩))
      | (go_at_call 21; ((with_reducible refine (HC2.out _).mono ?_); rintro e w1 ⟨rfl, rfl⟩))
      | (go_at_call 11; refine (awake_any _).mono ?_; rintro e w2 ⟨rfl, hb2⟩))
    go_ret
    exact ⟨rfl, hb2⟩
  have h0 : 1 ≤ n := by omega
  by_cases h1 : 40 < n
  · go_enter Try.func9, Try.ntmps9
    go_wp2_with (first
      | (go_at_call 21; ((with_reducible refine (HC1.out _).mono ?_); rintro e w1 ⟨rfl, rfl⟩))
      | (go_at_call 21; ((with_reducible refine (HC2.out _).mono ?_); rintro e w1 ⟨rfl, rfl⟩))
      | (go_at_call 11; refine (awake_any _).mono ?_; rintro e w2 ⟨rfl, hb2⟩))
    go_ret
    exact ⟨rfl, hb2⟩
  have h1 : n ≤ 40 := by omega
  by_cases h2 : at_ < 0
  · go_enter Try.func9, Try.ntmps9
    go_wp2_with (first
      | (go_at_call 21; ((with_reducible refine (HC1.out _).mono ?_); rintro e w1 ⟨rfl, rfl⟩))
      | (go_at_call 21; ((with_reducible refine (HC2.out _).mono ?_); rintro e w1 ⟨rfl, rfl⟩))
      | (go_at_call 11; refine (awake_any _).mono ?_; rintro e w2 ⟨rfl, hb2⟩))
    go_ret
    exact ⟨rfl, hb2⟩
  have h2 : 0 ≤ at_ := by omega
  by_cases h3 : n < at_
  · go_enter Try.func9, Try.ntmps9
    go_wp2_with (first
      | (go_at_call 21; ((with_reducible refine (HC1.out _).mono ?_); rintro e w1 ⟨rfl, rfl⟩))
      | (go_at_call 21; ((with_reducible refine (HC2.out _).mono ?_); rintro e w1 ⟨rfl, rfl⟩))
      | (go_at_call 11; refine (awake_any _).mono ?_; rintro e w2 ⟨rfl, hb2⟩))
    go_ret
    exact ⟨rfl, hb2⟩
  have h3 : at_ ≤ n := by omega
  by_cases h4 : by_ < 0
  · go_enter Try.func9, Try.ntmps9
    go_wp2_with (first
      | (go_at_call 21; ((with_reducible refine (HC1.out _).mono ?_); rintro e w1 ⟨rfl, rfl⟩))
      | (go_at_call 21; ((with_reducible refine (HC2.out _).mono ?_); rintro e w1 ⟨rfl, rfl⟩))
      | (go_at_call 11; refine (awake_any _).mono ?_; rintro e w2 ⟨rfl, hb2⟩))
    go_ret
    exact ⟨rfl, hb2⟩
  have h4 : 0 ≤ by_ := by omega
  by_cases h5 : n - at_ < by_
  · go_enter Try.func9, Try.ntmps9
    go_wp2_with (first
      | (go_at_call 21; ((with_reducible refine (HC1.out _).mono ?_); rintro e w1 ⟨rfl, rfl⟩))
      | (go_at_call 21; ((with_reducible refine (HC2.out _).mono ?_); rintro e w1 ⟨rfl, rfl⟩))
      | (go_at_call 11; refine (awake_any _).mono ?_; rintro e w2 ⟨rfl, hb2⟩))
    go_ret
    exact ⟨rfl, hb2⟩
  have h5 : by_ ≤ n - at_ := by omega
  cases b1 with
  | true =>
    go_enter Try.func9, Try.ntmps9
    go_wp2_with (first
      | (go_at_call 21; ((with_reducible refine (HC1.out _).mono ?_); rintro e w1 ⟨rfl, rfl⟩))
      | (go_at_call 21; ((with_reducible refine (HC2.out _).mono ?_); rintro e w1 ⟨rfl, rfl⟩))
      | (go_at_call 11; refine (awake_any _).mono ?_; rintro e w2 ⟨rfl, hb2⟩))
    go_ret
    exact ⟨rfl, hb2⟩
  | false =>
    cases b2 with
    | true =>
      go_enter Try.func9, Try.ntmps9
      go_wp2_with (first
        | (go_at_call 21; ((with_reducible refine (HC1.out _).mono ?_); rintro e w1 ⟨rfl, rfl⟩))
        | (go_at_call 21; ((with_reducible refine (HC2.out _).mono ?_); rintro e w1 ⟨rfl, rfl⟩))
        | (go_at_call 11; refine (awake_any _).mono ?_; rintro e w2 ⟨rfl, hb2⟩))
      go_ret
      exact ⟨rfl, hb2⟩
    | false =>
      by_cases h6 : 50 < s.size
      · have h6' : (50 : Int) < (s.size : Int) := by omega
        go_enter Try.func9, Try.ntmps9
        go_wp2_with (first
          | (go_at_call 21; ((with_reducible refine (HC1.out _).mono ?_); rintro e w1 ⟨rfl, rfl⟩))
          | (go_at_call 21; ((with_reducible refine (HC2.out _).mono ?_); rintro e w1 ⟨rfl, rfl⟩))
          | (go_at_call 11; refine (awake_any _).mono ?_; rintro e w2 ⟨rfl, hb2⟩))
        go_ret
        exact ⟨rfl, hb2⟩
      have h6' : (s.size : Int) ≤ 50 := by omega
      obtain ⟨n, rfl⟩ := Int.eq_ofNat_of_zero_le (show 0 ≤ n by omega)
      obtain ⟨m, rfl⟩ := Int.eq_ofNat_of_zero_le h2
      obtain ⟨q, rfl⟩ := Int.eq_ofNat_of_zero_le h4
      have hn1 : 1 ≤ n := by omega
      have hn2 : n ≤ 40 := by omega
      have hmn : m ≤ n := by omega
      have hq : q + m ≤ n := by omega
      have HNS := Lib.hid (NL_le s)
      have zt : (⟨#[10]⟩ : ByteArray).size = 1 := rfl
      go_enter Try.func9, Try.ntmps9
      go_wp2_with (first
        | (go_at_call 21; ((with_reducible refine (HC1.out _).mono ?_); rintro e w1 ⟨rfl, rfl⟩))
        | (go_at_call 21; ((with_reducible refine (HC2.out _).mono ?_); rintro e w1 ⟨rfl, rfl⟩)))
      go_loopw [9, 10, 11] (fun bv ov iv wr => ∃ (k : Nat) (bs os : ByteArray), k ≤ n ∧ iv = .int .i64 k ∧ bv = .string bs ∧ ov = .string os ∧ bs.size ≤ 43 * k ∧ Hid (NL bs ≤ k) ∧ os.size ≤ 43 * k + (if m < k then 51 else 0) ∧ Hid (NL os ≤ k + (if m < k then 51 else 0)) ∧ Below w.heap.size w wr) (fun _ _ iv _ => n - (intOf iv).toNat)
      case atStart => exact ⟨0, ByteArray.empty, ByteArray.empty, Nat.zero_le _, rfl, rfl, rfl, Nat.zero_le _, Lib.hid (Nat.zero_le _), Nat.zero_le _, Lib.hid (Nat.zero_le _), Below.refl _ _⟩
      case round =>
        obtain ⟨k, bs, os, hk, rfl, rfl, rfl, hz1, HN1, hz2, HN2, hbw⟩ := hrel
        have hz2' : os.size ≤ 43 * k + 51 := by split at hz2 <;> omega
        have HZ2 := Lib.hid hz2
        clear hz2
        have hle := hbw.size
        by_cases hlt : k < n
        · have HLN := Lib.hid (fun W : World => line_any k (by omega) W)
          have hcs : (k = m ∧ q = 0) ∨ (k = m ∧ 0 < q) ∨ (k < m ∧ k < n) ∨ (m < k ∧ m + q ≤ k) ∨ (m < k ∧ k < m + q) := by omega
          rcases hcs with ⟨hc, hd⟩ | ⟨hc, hd⟩ | ⟨hc, hd⟩ | ⟨hc, hd⟩ | ⟨hc, hd⟩
          · obtain rfl : k = m := hc
            have g1 : ((k : Int) == (k : Int)) = true := by simp
            have g2 : ¬ (k : Int) < (k : Int) := by omega
            have g3 : (k : Int) + (q : Int) ≤ (k : Int) := by omega
            clear hd
            have tok1 : True := trivial
            go_wp2_with (first
              | (go_at_call 22; have _t := tok1; refine (HLN.out _).mono ?_; rintro e w5 ⟨s5, rfl, z5, n5, hb5⟩; clear tok1 _t)
              | (go_at_call 22; refine (HLN.out _).mono ?_; rintro e w6 ⟨s6, rfl, z6, n6, hb6⟩))
            go_roundw
            case rel => exact ⟨k + 1, bs ++ s5, os ++ (s ++ ⟨#[10]⟩) ++ s6, by omega, by go_num, rfl, rfl, by rw [ByteArray.size_append]; omega, Lib.hid (by rw [NL_append]; have := HN1.out; omega), by
                have h := HZ2.out
                simp only [ByteArray.size_append, zt]
                split at h <;> split <;> omega, Lib.hid (by
                have h := HN2.out
                have h2 := HNS.out
                have h4 : NL ⟨#[10]⟩ = 1 := by decide
                simp only [NL_append, h4]
                split at h <;> split <;> omega), (hbw.trans (hb5.mono hle)).trans (hb6.mono (by have := hb5.size; omega))⟩
            case measure => simp [intOf]; omega
          · obtain rfl : k = m := hc
            have g1 : ((k : Int) == (k : Int)) = true := by simp
            have g2 : ¬ (k : Int) < (k : Int) := by omega
            have g3 : ¬ (k : Int) + (q : Int) ≤ (k : Int) := by omega
            clear hd
            have tok1 : True := trivial
            go_wp2_with (first
              | (go_at_call 22; have _t := tok1; refine (HLN.out _).mono ?_; rintro e w5 ⟨s5, rfl, z5, n5, hb5⟩; clear tok1 _t))
            go_roundw
            case rel => exact ⟨k + 1, bs ++ s5, os ++ (s ++ ⟨#[10]⟩), by omega, by go_num, rfl, rfl, by rw [ByteArray.size_append]; omega, Lib.hid (by rw [NL_append]; have := HN1.out; omega), by
                have h := HZ2.out
                simp only [ByteArray.size_append, zt]
                split at h <;> split <;> omega, Lib.hid (by
                have h := HN2.out
                have h2 := HNS.out
                have h4 : NL ⟨#[10]⟩ = 1 := by decide
                simp only [NL_append, h4]
                split at h <;> split <;> omega), hbw.trans (hb5.mono hle)⟩
            case measure => simp [intOf]; omega
          · have g1 : ((k : Int) == (m : Int)) = false := by simp; omega
            have g2 : (k : Int) < (m : Int) := by omega
            clear hd
            have tok1 : True := trivial
            go_wp2_with (first
              | (go_at_call 22; have _t := tok1; refine (HLN.out _).mono ?_; rintro e w5 ⟨s5, rfl, z5, n5, hb5⟩; clear tok1 _t)
              | (go_at_call 22; refine (HLN.out _).mono ?_; rintro e w6 ⟨s6, rfl, z6, n6, hb6⟩))
            go_roundw
            case rel => exact ⟨k + 1, bs ++ s5, os ++ s6, by omega, by go_num, rfl, rfl, by rw [ByteArray.size_append]; omega, Lib.hid (by rw [NL_append]; have := HN1.out; omega), by
                have h := HZ2.out
                simp only [ByteArray.size_append]
                split at h <;> split <;> omega, Lib.hid (by
                have h := HN2.out
                have h2 := HNS.out
                simp only [NL_append]
                split at h <;> split <;> omega), (hbw.trans (hb5.mono hle)).trans (hb6.mono (by have := hb5.size; omega))⟩
            case measure => simp [intOf]; omega
          · have g1 : ((k : Int) == (m : Int)) = false := by simp; omega
            have g2 : ¬ (k : Int) < (m : Int) := by omega
            have g3 : (m : Int) + (q : Int) ≤ (k : Int) := by omega
            clear hd
            have tok1 : True := trivial
            go_wp2_with (first
              | (go_at_call 22; have _t := tok1; refine (HLN.out _).mono ?_; rintro e w5 ⟨s5, rfl, z5, n5, hb5⟩; clear tok1 _t)
              | (go_at_call 22; refine (HLN.out _).mono ?_; rintro e w6 ⟨s6, rfl, z6, n6, hb6⟩))
            go_roundw
            case rel => exact ⟨k + 1, bs ++ s5, os ++ s6, by omega, by go_num, rfl, rfl, by rw [ByteArray.size_append]; omega, Lib.hid (by rw [NL_append]; have := HN1.out; omega), by
                have h := HZ2.out
                simp only [ByteArray.size_append]
                split at h <;> split <;> omega, Lib.hid (by
                have h := HN2.out
                have h2 := HNS.out
                simp only [NL_append]
                split at h <;> split <;> omega), (hbw.trans (hb5.mono hle)).trans (hb6.mono (by have := hb5.size; omega))⟩
            case measure => simp [intOf]; omega
          · have g1 : ((k : Int) == (m : Int)) = false := by simp; omega
            have g2 : ¬ (k : Int) < (m : Int) := by omega
            have g3 : ¬ (m : Int) + (q : Int) ≤ (k : Int) := by omega
            clear hd
            have tok1 : True := trivial
            go_wp2_with (first
              | (go_at_call 22; have _t := tok1; refine (HLN.out _).mono ?_; rintro e w5 ⟨s5, rfl, z5, n5, hb5⟩; clear tok1 _t))
            go_roundw
            case rel => exact ⟨k + 1, bs ++ s5, os, by omega, by go_num, rfl, rfl, by rw [ByteArray.size_append]; omega, Lib.hid (by rw [NL_append]; have := HN1.out; omega), by
                have h := HZ2.out
                split at h <;> split <;> omega, Lib.hid (by
                have h := HN2.out
                have h2 := HNS.out
                split at h <;> split <;> omega), hbw.trans (hb5.mono hle)⟩
            case measure => simp [intOf]; omega
        · have hkn : k = n := by omega
          subst hkn
          have HB : Hid ((linesOf bs).length ≤ 400) := Lib.hid (by have := lines_count bs; have := HN1.out; omega)
          by_cases hm : m = k
          · subst hm
            have g1 : ((m : Int) == (m : Int)) = true := by simp
            have HO : Hid ((linesOf (os ++ (s ++ ⟨#[10]⟩))).length ≤ 400) := Lib.hid (by
              have h1 := lines_count (os ++ (s ++ ⟨#[10]⟩))
              have h2 := HN2.out
              have h3 := HNS.out
              have h4 : NL ⟨#[10]⟩ = 1 := by decide
              rw [NL_append, NL_append, h4] at h1
              split at h2 <;> omega)
            have hzo : (os ++ (s ++ ⟨#[10]⟩)).size ≤ 3000 := by rw [ByteArray.size_append, ByteArray.size_append, zt]; omega
            have HT := Lib.hid (merge_txt2 bs (os ++ (s ++ ⟨#[10]⟩)) (by omega) (by omega) HB.out HO.out)
            obtain ⟨n1, p1, hm1, ht1⟩ := HT.out
            have HM1 := Lib.hid hm1
            have HT1 := Lib.hid ht1
            clear hm1 ht1 HT
            have hbe : (os ++ (s ++ ⟨#[10]⟩)).toList == (os ++ (s ++ ⟨#[10]⟩)).toList := by simp
            go_wp2_with (first
              | (go_at_call 12; ((with_reducible refine (HM1.out _).mono ?_); rintro e w5 ⟨A1, c1, rfl, hp1, hb5⟩))
              | (go_at_call 15; ((with_reducible refine (HT1.out _ _ _ hp1).mono ?_); rintro e w6 ⟨rfl, hb6⟩))
              | (go_at_call 11; refine (awake_any _).mono ?_; rintro e w7 ⟨rfl, hb7⟩))
            go_ret
            have z5 := hb5.size
            have z6 := hb6.size
            exact ⟨rfl, ((hbw.trans (hb5.mono hle)).trans (hb6.mono (by omega))).trans (hb7.mono (by omega))⟩
          · have g1 : ((m : Int) == (k : Int)) = false := by simp; omega
            have HO : Hid ((linesOf os).length ≤ 400) := Lib.hid (by
              have h1 := lines_count os
              have h2 := HN2.out
              split at h2 <;> omega)
            have HT := Lib.hid (merge_txt2 bs os (by omega) (by omega) HB.out HO.out)
            obtain ⟨n1, p1, hm1, ht1⟩ := HT.out
            have HM1 := Lib.hid hm1
            have HT1 := Lib.hid ht1
            clear hm1 ht1 HT
            have hbe : (os).toList == (os).toList := by simp
            go_wp2_with (first
              | (go_at_call 12; ((with_reducible refine (HM1.out _).mono ?_); rintro e w5 ⟨A1, c1, rfl, hp1, hb5⟩))
              | (go_at_call 15; ((with_reducible refine (HT1.out _ _ _ hp1).mono ?_); rintro e w6 ⟨rfl, hb6⟩))
              | (go_at_call 11; refine (awake_any _).mono ?_; rintro e w7 ⟨rfl, hb7⟩))
            go_ret
            have z5 := hb5.size
            have z6 := hb6.size
            exact ⟨rfl, ((hbw.trans (hb5.mono hle)).trans (hb6.mono (by omega))).trans (hb7.mono (by omega))⟩
end Go.Proofs.Ytafhefhhndmdkaa
