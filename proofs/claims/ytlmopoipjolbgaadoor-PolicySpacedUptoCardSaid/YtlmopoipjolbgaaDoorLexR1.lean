/-
  The walks of the reference's layer 5: bytes, blanks, words, signs.
-/
import Derived.Test.YtlmopoipjolbgaaDoorLexW8
namespace Go.Proofs.YtlmopoipjolbgaaDoor.LexW
open Go.RowKit Go.Shelf Go.Proofs.YtlmopoipjolbgaaDoor.LexS
set_option linter.unusedVariables false
set_option linter.unusedSimpArgs false

set_option maxHeartbeats 400000 in
theorem rletter_any (c : UInt8) (w : World) :
    Calls Tryd.prog 33 #[.int .u8 (c.toNat : Int)] w fun e w' => e = .returned (.bool (letterB c)) ∧ w = w' := by
  rw [letter_nat]
  generalize (c.toNat : Int) = n
  by_cases h1 : 97 ≤ n
  all_goals by_cases h2 : n ≤ 122
  all_goals by_cases h3 : 65 ≤ n
  all_goals by_cases h4 : n ≤ 90
  all_goals try (exfalso; omega)
  all_goals
    go_enter Tryd.func33, Tryd.ntmps33
    go_wp2
    go_ret
    exact ⟨ret_bool (by first | rfl | (rw [Bool.eq_iff_iff]; simp; omega)), rfl⟩

set_option maxHeartbeats 400000 in
theorem rdigit_any (c : UInt8) (w : World) :
    Calls Tryd.prog 30 #[.int .u8 (c.toNat : Int)] w fun e w' => e = .returned (.bool (digitB c)) ∧ w = w' := by
  rw [digit_nat]
  generalize (c.toNat : Int) = n
  by_cases h1 : 48 ≤ n
  all_goals by_cases h2 : n ≤ 57
  all_goals try (exfalso; omega)
  all_goals
    go_enter Tryd.func30, Tryd.ntmps30
    go_wp2
    go_ret
    exact ⟨ret_bool (by first | rfl | (rw [Bool.eq_iff_iff]; simp; omega)), rfl⟩

set_option maxHeartbeats 1000000 in
set_option maxRecDepth 100000 in
theorem rrun_any (s : ByteArray) (k : Nat) (w : World) (hs : s.size ≤ maxLen) (hk : k ≤ s.size) :
    Calls Tryd.prog 34 #[.string s, .int .i64 k] w fun e w' => e = .returned (.int .i64 (whileN wordB s k)) ∧ w = w' := by
  unfold maxLen at hs
  go_enter Tryd.func34, Tryd.ntmps34
  go_wp2
  go_loop [1] (fun i => ∃ j : Nat, k ≤ j ∧ j ≤ s.size ∧ i = .int .i64 j ∧ Hid (whileN wordB s k = whileN wordB s j)) (fun i => s.size - (intOf i).toNat)
  case atStart => exact ⟨k, Nat.le_refl _, hk, rfl, rfl⟩
  case round =>
    obtain ⟨j, hj1, hj2, rfl, HJ⟩ := hrel
    by_cases hlt : j < s.size
    · cases hl : letterB s[j]
      · cases hd : digitB s[j]
        · have HB : Hid (wordB s[j] = false) := by show _ = _; unfold wordB; rw [hl, hd]; rfl
          have Hl := Lib.hid hl; have Hd := Lib.hid hd; clear hl hd
          go_wp2_with (first | (go_at_call 33; refine (rletter_any _ _).mono ?_; rintro e w' ⟨rfl, rfl⟩; rw [Hl.out]) | (go_at_call 30; refine (rdigit_any _ _).mono ?_; rintro e w' ⟨rfl, rfl⟩; rw [Hd.out]))
          go_ret
          exact ⟨ret_int (by rw [HJ.out, whileN_no hlt HB.out]), rfl⟩
        · have HB : Hid (wordB s[j] = true) := by show _ = _; unfold wordB; rw [hl, hd]; rfl
          have Hl := Lib.hid hl; have Hd := Lib.hid hd; clear hl hd
          go_wp2_with (first | (go_at_call 33; refine (rletter_any _ _).mono ?_; rintro e w' ⟨rfl, rfl⟩; rw [Hl.out]) | (go_at_call 30; refine (rdigit_any _ _).mono ?_; rintro e w' ⟨rfl, rfl⟩; rw [Hd.out]))
          go_round
          case rel => exact ⟨j + 1, by omega, by omega, by go_num, by show _ = _; rw [HJ.out, whileN_yes hlt HB.out]⟩
          case measure => simp [intOf]; omega
      · have HB : Hid (wordB s[j] = true) := by show _ = _; unfold wordB; rw [hl]; rfl
        have Hl := Lib.hid hl; clear hl
        generalize hd : digitB s[j] = d
        have Hd := Lib.hid hd; clear hd
        go_wp2_with (first | (go_at_call 33; refine (rletter_any _ _).mono ?_; rintro e w' ⟨rfl, rfl⟩; rw [Hl.out]) | (go_at_call 30; refine (rdigit_any _ _).mono ?_; rintro e w' ⟨rfl, rfl⟩; rw [Hd.out]))
        go_round
        case rel => exact ⟨j + 1, by omega, by omega, by go_num, by show _ = _; rw [HJ.out, whileN_yes hlt HB.out]⟩
        case measure => simp [intOf]; omega
    · have hle : s.size ≤ j := by omega
      go_wp2
      go_ret
      exact ⟨ret_int (by rw [HJ.out, whileN_end hle]), rfl⟩

theorem blank_nat (c : UInt8) : blankB c = (((c.toNat : Int) == 9) || ((c.toNat : Int) == 10) || ((c.toNat : Int) == 13) || ((c.toNat : Int) == 32)) := by
  have e (n : UInt8) : (c == n) = ((c.toNat : Int) == (n.toNat : Int)) := by
    rw [Bool.eq_iff_iff]; simp [← UInt8.toNat_inj]; omega
  unfold blankB
  rw [e 9, e 10, e 13, e 32]; rfl

theorem begin_blank {s : ByteArray} {k : Nat} (h : k < s.size) (hb : blankB s[k] = true) : beginN s k = beginN s (k + 1) := by
  unfold beginN; rw [drop_cons s k h, skipS, if_pos hb]
theorem begin_stop {s : ByteArray} {k : Nat} (h : k < s.size) (hb : blankB s[k] = false) (h35 : s[k] ≠ 35) : beginN s k = k := by
  apply begin_stay (by omega)
  rw [drop_cons s k h, skipS, hb]; simp [h35]
theorem begin_hash {s : ByteArray} {k : Nat} (h : k < s.size) (h35 : s[k] = 35) : beginN s k = beginN s (whileN (fun c => c != 10) s k) := by
  have e : skipS false (s.data.toList.drop k) = skipS true (s.data.toList.drop k) := by
    rw [drop_cons s k h, h35]; rfl
  unfold beginN; rw [e, skip_remark, List.drop_drop]; rfl
theorem begin_size (s : ByteArray) : beginN s s.size = s.size := by
  apply begin_stay (Nat.le_refl _)
  rw [List.drop_of_length_le (by simp)]; rfl

set_option maxHeartbeats 2000000 in
set_option maxRecDepth 100000 in
theorem rskip_any (s : ByteArray) (k : Nat) (w : World) (hs : s.size ≤ maxLen) (hk : k ≤ s.size) :
    Calls Tryd.prog 39 #[.string s, .int .i64 k] w fun e w' => e = .returned (.int .i64 (beginN s k)) ∧ w = w' := by
  unfold maxLen at hs
  go_enter Tryd.func39, Tryd.ntmps39
  go_wp2
  go_loop [1] (fun i => ∃ j : Nat, j ≤ s.size ∧ i = .int .i64 j ∧ Hid (beginN s k = beginN s j)) (fun i => s.size - (intOf i).toNat)
  case atStart => exact ⟨k, hk, rfl, rfl⟩
  case round =>
    obtain ⟨j, hj2, rfl, HJ⟩ := hrel
    by_cases hlt : j < s.size
    · by_cases h35 : s[j] = 35
      · have hx : (((s[j]).toNat : Int) == 35) = true := by rw [h35]; rfl
        have H35 := Lib.hid h35; clear h35
        go_wp2
        go_loop [1] (fun i => ∃ m : Nat, j ≤ m ∧ m ≤ s.size ∧ i = .int .i64 m ∧ Hid (whileN (fun c => c != 10) s j = whileN (fun c => c != 10) s m)) (fun i => s.size - (intOf i).toNat)
        case atStart => exact ⟨j, Nat.le_refl _, hj2, rfl, rfl⟩
        case round =>
          obtain ⟨m, hm1, hm2, rfl, HM⟩ := hrel
          by_cases hml : m < s.size
          · by_cases h10 : s[m] = 10
            · have hy : (((s[m]).toNat : Int) != 10) = false := by rw [h10]; rfl
              have hjm : j < m := by
                rcases Nat.lt_or_ge j m with h | h
                · exact h
                · exfalso; obtain rfl : m = j := by omega
                  have := H35.out; rw [h10] at this; exact absurd this (by decide)
              have H10 := Lib.hid h10; clear h10
              clear hx
              go_wp2
              go_round
              case rel => exact ⟨m, hm2, rfl, by show _ = _; rw [HJ.out, begin_hash hlt H35.out, HM.out, whileN_no hml (by rw [H10.out]; rfl)]⟩
              case measure => simp [intOf]; omega
            · have hy : (((s[m]).toNat : Int) != 10) = true := by
                rw [bne_iff_ne]; intro h; apply h10; rw [← UInt8.toNat_inj]; show _ = 10; omega
              have H10 := Lib.hid h10; clear h10
              clear hx
              go_wp2
              go_round
              case rel => exact ⟨m + 1, by omega, by omega, by go_num, by show _ = _; rw [HM.out, whileN_yes hml (by simpa using H10.out)]⟩
              case measure => simp [intOf]; omega
          · have hle : s.size ≤ m := by omega
            have hjm : j < m := by omega
            clear hx
            go_wp2
            go_round
            case rel => exact ⟨m, hm2, rfl, by show _ = _; rw [HJ.out, begin_hash hlt H35.out, HM.out, whileN_end hle]⟩
            case measure => simp [intOf]; omega
      · have hx : (((s[j]).toNat : Int) == 35) = false := by
          rw [beq_eq_false_iff_ne]; intro h; apply h35; rw [← UInt8.toNat_inj]; show _ = 35; omega
        have hbn := blank_nat s[j]
        cases hb : blankB s[j]
        · rw [hb] at hbn
          simp only [Bool.or_eq_false_iff, Bool.false_eq, beq_eq_false_iff_ne] at hbn
          obtain ⟨⟨⟨n1, n2⟩, n3⟩, n4⟩ := hbn
          have e1 : (((s[j]).toNat : Int) != 9) = true := by rw [bne_iff_ne]; exact n1
          have e2 : (((s[j]).toNat : Int) != 10) = true := by rw [bne_iff_ne]; exact n2
          have e3 : (((s[j]).toNat : Int) != 13) = true := by rw [bne_iff_ne]; exact n3
          have e4 : (((s[j]).toNat : Int) != 32) = true := by rw [bne_iff_ne]; exact n4
          have H35 := Lib.hid h35; have Hb := Lib.hid hb; clear h35 hb n1 n2 n3 n4
          go_wp2
          go_ret
          exact ⟨ret_int (by rw [HJ.out, begin_stop hlt Hb.out H35.out]), rfl⟩
        · rw [hb] at hbn
          have H35 := Lib.hid h35; have Hb := Lib.hid hb; clear h35 hb
          have hc : ((s[j]).toNat : Int) = 9 ∨ ((s[j]).toNat : Int) = 10 ∨ ((s[j]).toNat : Int) = 13 ∨ ((s[j]).toNat : Int) = 32 := by
            simpa [or_assoc] using hbn.symm
          clear hbn
          rcases hc with hc | hc | hc | hc
          all_goals
            first
              | have e1 : (((s[j]).toNat : Int) != 9) = false := by rw [hc]; rfl
              | have e1 : (((s[j]).toNat : Int) != 9) = true := by rw [hc]; rfl
            first
              | have e2 : (((s[j]).toNat : Int) != 10) = false := by rw [hc]; rfl
              | have e2 : (((s[j]).toNat : Int) != 10) = true := by rw [hc]; rfl
            first
              | have e3 : (((s[j]).toNat : Int) != 13) = false := by rw [hc]; rfl
              | have e3 : (((s[j]).toNat : Int) != 13) = true := by rw [hc]; rfl
            first
              | have e4 : (((s[j]).toNat : Int) != 32) = false := by rw [hc]; rfl
              | have e4 : (((s[j]).toNat : Int) != 32) = true := by rw [hc]; rfl
            clear hc
            go_wp2
            go_round
            case rel => exact ⟨j + 1, by omega, by go_num, by show _ = _; rw [HJ.out, begin_blank hlt Hb.out]⟩
            case measure => simp [intOf]; omega
    · obtain rfl : j = s.size := by omega
      go_wp2
      go_ret
      exact ⟨ret_int (by rw [HJ.out, begin_size]), rfl⟩
end Go.Proofs.YtlmopoipjolbgaaDoor.LexW
