/-
  The walks of layer 5 (lex), second part: blanks, remarks, words, signs.
-/
import Derived.Test.YtlmopoipjolbgaaDoorLexW1
import Derived.Test.YtlmopoipjolbgaaDoorShelf
namespace Go.Proofs.YtlmopoipjolbgaaDoor.LexW
open Go.RowKit Go.Shelf Go.Proofs.YtlmopoipjolbgaaDoor.LexS
set_option linter.unusedVariables false
set_option linter.unusedSimpArgs false

theorem blank_eq (c : UInt8) : decide (0 ≤ Lib.indexByte [9, 10, 13, 32] c) = blankB c := by
  unfold blankB
  simp only [Lib.indexByte]
  by_cases h1 : c = 9
  · subst h1; rfl
  by_cases h2 : c = 10
  · subst h2; rfl
  by_cases h3 : c = 13
  · subst h3; rfl
  by_cases h4 : c = 32
  · subst h4; rfl
  have e1 : ((9 : UInt8) == c) = false := by simpa using Ne.symm h1
  have e2 : ((10 : UInt8) == c) = false := by simpa using Ne.symm h2
  have e3 : ((13 : UInt8) == c) = false := by simpa using Ne.symm h3
  have e4 : ((32 : UInt8) == c) = false := by simpa using Ne.symm h4
  simp [e1, e2, e3, e4, h1, h2, h3, h4]

theorem byte_back (c : UInt8) : ((c.toNat : Int)).toNat.toUInt8 = c := by
  rw [Int.toNat_natCast]; exact UInt8.ofNat_toNat

set_option maxHeartbeats 400000 in
theorem begin1_pred : IsPred 52 blankB := by
  intro c w
  rw [← blank_eq]
  have hb := byte_back c
  generalize hn : Lib.indexByte [9, 10, 13, 32] c = n
  have Hn := Lib.hid hn; have Hb := Lib.hid hb; clear hn hb
  go_enter Tryd.func52, Tryd.ntmps52
  go_wp2_with (go_at_call 53; refine (Tryd.strings_IndexByte _ _ _).mono ?_; rintro e w' ⟨rfl, rfl⟩; rw [Hb.out, show Lib.indexByte [9, 10, 13, 32] c = n from Hn.out])
  go_ret
  exact ⟨ret_bool (by simp), rfl⟩

theorem enters_run1 : Enters Tryd.prog 51 := enters_of Tryd.func51 (by kernel_rfl) rfl
theorem enters_begin1 : Enters Tryd.prog 52 := enters_of Tryd.func52 (by kernel_rfl) rfl
theorem enters_begin2 : Enters Tryd.prog 54 := enters_of Tryd.func54 (by kernel_rfl) rfl

set_option maxHeartbeats 400000 in
theorem run_any (s : ByteArray) (k : Nat) (w : World) (hs : s.size ≤ maxLen) (hk : k ≤ s.size) :
    Calls Tryd.prog 32 #[.string s, .int .i64 k] w fun e w' => e = .returned (.int .i64 (whileN wordB s k)) ∧ w = w' := by
  go_enter Tryd.func32, Tryd.ntmps32
  go_wp2_with (go_at_call 50; refine (while_any enters_run1 run1_pred _ _ _ hs hk).mono ?_; rintro e w' ⟨rfl, rfl⟩)
  go_ret
  exact ⟨rfl, rfl⟩

/-- the place behind blanks and remarks -/
def beginN (s : ByteArray) (k : Nat) : Nat := s.size - (skipS false (s.data.toList.drop k)).length

theorem skip_blanks (l : List UInt8) : skipS false l = skipS false (l.drop (l.takeWhile blankB).length) := by
  induction l with
  | nil => rfl
  | cons c r ih =>
    by_cases h : blankB c = true
    · rw [skipS, if_pos h, List.takeWhile_cons_of_pos h, List.length_cons, List.drop_succ_cons]; exact ih
    · rw [List.takeWhile_cons_of_neg h]; rfl
theorem skip_remark (l : List UInt8) : skipS true l = skipS false (l.drop (l.takeWhile (fun c => c != 10)).length) := by
  induction l with
  | nil => rfl
  | cons c r ih =>
    by_cases h : c = 10
    · subst h; rfl
    · have h1 : (c == 10) = false := by simpa using h
      have h2 : (c != 10) = true := by simpa using h
      rw [skipS, h1, List.takeWhile_cons_of_pos (p := fun c => c != 10) h2, List.length_cons, List.drop_succ_cons]; simpa using ih
theorem begin_stay {s : ByteArray} {k : Nat} (hk : k ≤ s.size) (h : skipS false (s.data.toList.drop k) = s.data.toList.drop k) : beginN s k = k := by
  unfold beginN; rw [h]; simp; have : s.data.size = s.size := rfl; omega
theorem begin_while (s : ByteArray) (k : Nat) : beginN s k = beginN s (whileN blankB s k) := by
  unfold beginN whileN; rw [skip_blanks, List.drop_drop]
theorem drop_takeWhile (p : UInt8 → Bool) (l : List UInt8) : l.drop (l.takeWhile p).length = l.dropWhile p := by
  induction l with
  | nil => rfl
  | cons c r ih =>
    cases h : p c
    · simp [h]
    · simp [h, ih]
theorem while_stop (p : UInt8 → Bool) (s : ByteArray) (k : Nat) (h : whileN p s k < s.size) : p s[whileN p s k] = false := by
  have e : s.data.toList.drop (whileN p s k) = (s.data.toList.drop k).drop ((s.data.toList.drop k).takeWhile p).length := by
    unfold whileN; rw [List.drop_drop]
  have hd : (s.data.toList.drop k).drop ((s.data.toList.drop k).takeWhile p).length = (s.data.toList.drop k).dropWhile p := drop_takeWhile p _
  rw [hd, drop_cons s _ h] at e
  have := List.head_dropWhile_not p (l := s.data.toList.drop k) (by rw [← e]; simp)
  simp only [← e, List.head_cons] at this
  exact this
theorem begin_end {s : ByteArray} {k : Nat} (h : whileN blankB s k = s.size) : beginN s k = whileN blankB s k := by
  rw [begin_while s k, begin_stay (by omega)]
  rw [h, List.drop_of_length_le (by simp)]; rfl
theorem begin_here {s : ByteArray} {k : Nat} (h : whileN blankB s k < s.size) (h35 : s[whileN blankB s k] ≠ 35) : beginN s k = whileN blankB s k := by
  have hb := while_stop blankB s k h
  rw [begin_while s k, begin_stay (by omega)]
  rw [drop_cons s _ h, skipS, hb]; simp [h35]
theorem begin_on {s : ByteArray} {k : Nat} (h : whileN blankB s k < s.size) (h35 : s[whileN blankB s k] = 35) : beginN s k = beginN s (whileN (fun c => c != 10) s (whileN blankB s k)) := by
  have hb := while_stop blankB s k h
  rw [begin_while s k]
  generalize whileN blankB s k = j at *
  have e : skipS false (s.data.toList.drop j) = skipS true (s.data.toList.drop j) := by
    rw [drop_cons s j h, h35]; rfl
  unfold beginN; rw [e, skip_remark, List.drop_drop]; rfl

theorem begin_ge {s : ByteArray} (k : Nat) (hk : k ≤ s.size) : k ≤ beginN s k := by
  unfold beginN
  have := skipS_length false (s.data.toList.drop k)
  simp at this
  have : s.data.size = s.size := rfl
  omega
theorem begin_le (s : ByteArray) (k : Nat) : beginN s k ≤ s.size := by unfold beginN; omega

set_option maxHeartbeats 800000 in
set_option maxRecDepth 100000 in
theorem begin_any (s : ByteArray) (k : Nat) (w : World) (hs : s.size ≤ maxLen) (hk : k ≤ s.size) :
    Calls Tryd.prog 36 #[.string s, .int .i64 k] w fun e w' => e = .returned (.int .i64 (beginN s k)) ∧ w = w' := by
  have hs' := hs
  unfold maxLen at hs'
  go_enter Tryd.func36, Tryd.ntmps36
  go_wp2
  go_loop [1] (fun i => ∃ j : Nat, j ≤ s.size ∧ i = .int .i64 j ∧ beginN s k = beginN s j) (fun i => s.size - (intOf i).toNat)
  case atStart => exact ⟨k, hk, rfl, rfl⟩
  case round =>
    obtain ⟨j, hj2, rfl, hj3⟩ := hrel
    have HJ := Lib.hid hj3; clear hj3
    have hle := whileN_le blankB s j hj2
    have hge := whileN_ge blankB s j
    go_wp2_with fail
    refine (while_any enters_begin1 begin1_pred _ _ _ hs hj2).mono ?_
    rintro e w' ⟨rfl, rfl⟩
    generalize hm : whileN blankB s j = m at *
    have HM := Lib.hid hm; clear hm
    by_cases h1 : m = s.size
    · subst h1
      go_wp2
      go_ret
      exact ⟨ret_int (by rw [HJ.out, begin_end HM.out, HM.out]), rfl⟩
    · have hlt : m < s.size := by omega
      clear h1
      have hne : ((m : Int) == (s.size : Int)) = false := by rw [beq_eq_false_iff_ne]; omega
      by_cases h2 : s[m] = 35
      · have hx : (((s[m]).toNat : Int) != 35) = false := by rw [h2]; rfl
        have hle2 := whileN_le (fun c => c != 10) s m (by omega)
        have hge2 : m + 1 ≤ whileN (fun c => c != 10) s m := by rw [whileN_yes hlt (by rw [h2]; rfl)]; exact whileN_ge _ _ _
        have H2 := Lib.hid h2; clear h2
        go_wp2_with fail
        refine (while_any enters_begin2 begin2_pred _ _ _ hs (by omega)).mono ?_
        rintro e w' ⟨rfl, rfl⟩
        go_wp2
        go_round
        case rel => exact ⟨_, hle2, rfl, by rw [HJ.out]; have := HM.out; subst this; exact begin_on hlt H2.out⟩
        case measure => simp [intOf]; omega
      · have hx : (((s[m]).toNat : Int) != 35) = true := by
          rw [bne_iff_ne]; intro h; apply h2; rw [← UInt8.toNat_inj]; show _ = 35; omega
        have H2 := Lib.hid h2; clear h2
        go_wp2
        go_ret
        exact ⟨ret_int (by rw [HJ.out]; have := HM.out; subst this; exact (congrArg _ (begin_here hlt H2.out).symm)), rfl⟩
end Go.Proofs.YtlmopoipjolbgaaDoor.LexW
