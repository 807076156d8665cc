/-
  Plain words of layer 5 (lex), on lists of bytes: no program in sight. · The walks of layer 5 (lex), first part: bytes, and the place behind all bytes that are so. · The walks of layer 5 (lex), second part: blanks, remarks, words, signs. · The walks of layer 5 (lex), third part: signs and words. · The walks of layer 5 (lex), fourth part: a text without the bytes of a set at its begin, and at its end. · The walks of layer 5 (lex), fifth part: a text without the bytes of a set at its end. · The walks of layer 5 (lex), sixth part: strconv.ParseUint at base 16, at no more than sixteen digits. · The walks of layer 5 (lex), seventh part: numbers.
-/
import Derived.WalkKit
import Derived.Test.YtlmopoipjolbgaaGreatDoorProg
import Derived.WalkSpells
import Derived.WalkLawsBesides
import Derived.Lib.Hide
import Derived.Shelf.Abstract
import Derived.Test.YtlmopoipjolbgaaGreatDoorShelf
import Derived.Lib.OthersKept
import Derived.WalkSmall
import Derived.Laws.RangeAny
import Derived.Lib.TrimAscii
import Derived.Lib.ConvBytes
import Derived.Lib.AtoiAllMem
import Derived.BigCall
import Derived.BigGuard
import Derived.Lib.ParseIntBCases
namespace Go.Proofs.YtlmopoipjolbgaaGreatDoor.LexS
set_option linter.unusedVariables false
set_option linter.unusedSimpArgs false

def blankB (c : UInt8) : Bool := c == 9 || c == 10 || c == 13 || c == 32
def letterB (c : UInt8) : Bool := (97 ≤ c && c ≤ 122) || ((65 ≤ c && c ≤ 90) || c == 95)
def digitB (c : UInt8) : Bool := 48 ≤ c && c ≤ 57
def wordB (c : UInt8) : Bool := letterB c || digitB c
def hexB (c : UInt8) : Bool := digitB c || (97 ≤ c && c ≤ 102)

/-- what is left behind blanks and remarks; true: within a remark -/
def skipS : Bool → List UInt8 → List UInt8
  | _, [] => []
  | true, c :: r => if c == 10 then skipS false r else skipS true r
  | false, c :: r => if blankB c then skipS false r else if c == 35 then skipS true r else c :: r

/-- how many bytes the sign has -/
def signL : List UInt8 → Nat
  | [] => 0
  | c :: r =>
    if (c == 61 || c == 33 || c == 60 || c == 62) && r.head? == some 61 then 2
    else if c == 59 || c == 44 || c == 40 || c == 41 || c == 38 || c == 60 || c == 62 then 1 else 0

def digV (c : UInt8) : Nat := c.toNat - 48
def hexV (c : UInt8) : Nat := if c ≤ 57 then c.toNat - 48 else c.toNat - 87
def valL (b : Nat) (d : UInt8 → Nat) : Nat → List UInt8 → Nat
  | n, [] => n
  | n, c :: r => valL b d (b * n + d c) r

/-- what is a number -/
def numL (l : List UInt8) : Option Nat :=
  if l.take 2 = [48, 120] then
    if 1 ≤ (l.drop 2).length ∧ (l.drop 2).length ≤ 16 ∧ (l.drop 2).all hexB = true then some (valL 16 hexV 0 (l.drop 2)) else none
  else if 1 ≤ l.length ∧ ¬ (1 < l.length ∧ l.head? = some 48) ∧ l.all digitB = true ∧ valL 10 digV 0 l < 18446744073709551616 then some (valL 10 digV 0 l) else none

/-- what is a word -/
def wordL (l : List UInt8) : Bool := decide (1 ≤ l.length ∧ l.length ≤ 32 ∧ (∃ c, l.head? = some c ∧ letterB c = true) ∧ l.all wordB = true)

structure Tok where
  kind : Nat
  text : List UInt8
  num : Nat
  at_ : Nat

/-- the token that begins here (the place is p, what is left is l), or the error -/
def tokAt (p : Nat) (l : List UInt8) : Except Nat Tok :=
  match l with
  | [] => .ok ⟨1, [], 0, p⟩
  | c :: _ =>
    if letterB c then (if 32 < (l.takeWhile wordB).length then .error 52 else .ok ⟨2, l.takeWhile wordB, 0, p⟩)
    else if digitB c then (match numL (l.takeWhile wordB) with | some n => .ok ⟨3, l.takeWhile wordB, n, p⟩ | none => .error 53)
    else if signL l = 0 then .error 51 else .ok ⟨4, l.take (signL l), 0, p⟩

theorem skipS_length (b : Bool) (l : List UInt8) : (skipS b l).length ≤ l.length := by
  induction l generalizing b with
  | nil => simp [skipS]
  | cons c r ih =>
    cases b
    · simp only [skipS]; split
      · have := ih false; simp; omega
      · split
        · have := ih true; simp; omega
        · simp
    · simp only [skipS]; split
      · have := ih false; simp; omega
      · have := ih true; simp; omega

end Go.Proofs.YtlmopoipjolbgaaGreatDoor.LexS
namespace Go.Proofs.YtlmopoipjolbgaaGreatDoor.LexW
open Go.RowKit Go.Shelf Go.Proofs.YtlmopoipjolbgaaGreatDoor.LexS
set_option linter.unusedVariables false
set_option linter.unusedSimpArgs false

theorem letter_nat (c : UInt8) : letterB c = ((decide (97 ≤ (c.toNat : Int)) && decide ((c.toNat : Int) ≤ 122)) || ((decide (65 ≤ (c.toNat : Int)) && decide ((c.toNat : Int) ≤ 90)) || decide ((c.toNat : Int) = 95))) := by
  have e95 : (c == 95) = decide ((c.toNat : Int) = 95) := by
    rw [Bool.eq_iff_iff]; simp [← UInt8.toNat_inj]; omega
  unfold letterB
  rw [e95]; simp [UInt8.le_iff_toNat_le]
  rw [Bool.eq_iff_iff]; simp; omega
theorem digit_nat (c : UInt8) : digitB c = (decide (48 ≤ (c.toNat : Int)) && decide ((c.toNat : Int) ≤ 57)) := by
  unfold digitB
  simp [UInt8.le_iff_toNat_le]
  rw [Bool.eq_iff_iff]; simp; omega
theorem ret_bool {a b : Bool} (h : a = b) : Ending.returned (.bool a) = .returned (.bool b) := by rw [h]
theorem ret_int {k : IntKind} {a b : Int} (h : a = b) : Ending.returned (.int k a) = .returned (.int k b) := by rw [h]

set_option maxHeartbeats 400000 in
theorem letter_any (c : UInt8) (w : World) :
    Calls Tryz.prog 103 #[.int .u8 (c.toNat : Int)] w fun e w' => e = .returned (.bool (letterB c)) ∧ w = w' := by
  rw [letter_nat]
  generalize (c.toNat : Int) = n
  by_cases h1 : 97 ≤ n
  all_goals by_cases h2 : n ≤ 122
  all_goals by_cases h3 : 65 ≤ n
  all_goals by_cases h4 : n ≤ 90
  all_goals try (exfalso; omega)
  all_goals
    go_enter Tryz.func103, Tryz.ntmps103
    go_wp2
    go_ret
    exact ⟨ret_bool (by first | rfl | (rw [Bool.eq_iff_iff]; simp; omega)), rfl⟩

set_option maxHeartbeats 400000 in
theorem digit_any (c : UInt8) (w : World) :
    Calls Tryz.prog 104 #[.int .u8 (c.toNat : Int)] w fun e w' => e = .returned (.bool (digitB c)) ∧ w = w' := by
  rw [digit_nat]
  generalize (c.toNat : Int) = n
  by_cases h1 : 48 ≤ n
  all_goals by_cases h2 : n ≤ 57
  all_goals try (exfalso; omega)
  all_goals
    go_enter Tryz.func104, Tryz.ntmps104
    go_wp2
    go_ret
    exact ⟨ret_bool (by first | rfl | (rw [Bool.eq_iff_iff]; simp; omega)), rfl⟩

/-- a predicate on bytes, as a function of the program -/
def IsPred (g : Nat) (p : UInt8 → Bool) : Prop := ∀ (c : UInt8) (w : World), Calls Tryz.prog g #[.int .u8 (c.toNat : Int)] w fun e w' => e = .returned (.bool (p c)) ∧ w = w'

set_option maxHeartbeats 400000 in
theorem run1_pred : IsPred 125 wordB := by
  intro c w
  unfold wordB
  cases hl : letterB c
  all_goals
    have Hl := Lib.hid hl; clear hl
    go_enter Tryz.func125, Tryz.ntmps125
    go_wp2_with (first | (go_at_call 103; refine (letter_any _ _).mono ?_; rintro e w' ⟨rfl, rfl⟩; rw [Hl.out]) | (go_at_call 104; refine (digit_any _ _).mono ?_; rintro e w' ⟨rfl, rfl⟩))
    go_ret
    exact ⟨ret_bool (by simp), rfl⟩

set_option maxHeartbeats 400000 in
theorem begin2_pred : IsPred 124 (fun c => c != 10) := by
  intro c w
  show Calls _ _ _ _ fun e w' => e = .returned (.bool (c != 10)) ∧ w = w'
  have e10 : (c != 10) = ((c.toNat : Int) != 10) := by
    rw [Bool.eq_iff_iff]; simp [← UInt8.toNat_inj]; omega
  rw [e10]
  generalize (c.toNat : Int) = n
  go_enter Tryz.func124, Tryz.ntmps124
  go_wp2
  go_ret
  exact ⟨ret_bool (by simp), rfl⟩

/-- the place behind all bytes that are so -/
def whileN (p : UInt8 → Bool) (s : ByteArray) (at_ : Nat) : Nat := at_ + ((s.data.toList.drop at_).takeWhile p).length
theorem drop_cons (s : ByteArray) (k : Nat) (h : k < s.size) : s.data.toList.drop k = s[k] :: s.data.toList.drop (k + 1) := by
  rw [List.drop_eq_getElem_cons (by simpa using h)]; rfl
theorem whileN_yes {p : UInt8 → Bool} {s : ByteArray} {k : Nat} (h : k < s.size) (hp : p s[k] = true) : whileN p s k = whileN p s (k + 1) := by
  unfold whileN; rw [drop_cons s k h]; simp [hp]; omega
theorem whileN_no {p : UInt8 → Bool} {s : ByteArray} {k : Nat} (h : k < s.size) (hp : p s[k] = false) : whileN p s k = k := by
  unfold whileN; rw [drop_cons s k h]; simp [hp]
theorem whileN_end {p : UInt8 → Bool} {s : ByteArray} {k : Nat} (h : s.size ≤ k) : whileN p s k = k := by
  unfold whileN; rw [List.drop_of_length_le (by simpa using h)]; simp
theorem whileN_ge (p : UInt8 → Bool) (s : ByteArray) (k : Nat) : k ≤ whileN p s k := by unfold whileN; omega
theorem whileN_le (p : UInt8 → Bool) (s : ByteArray) (k : Nat) (h : k ≤ s.size) : whileN p s k ≤ s.size := by
  unfold whileN
  have h1 := (List.takeWhile_sublist p (l := s.data.toList.drop k)).length_le
  simp at h1
  have : s.data.size = s.size := rfl
  omega

set_option maxHeartbeats 400000 in
set_option maxRecDepth 100000 in
theorem while_any {g : Nat} {p : UInt8 → Bool} (he : Enters Tryz.prog g) (hp : IsPred g p) (s : ByteArray) (k : Nat) (w : World) (hs : s.size ≤ maxLen) (hk : k ≤ s.size) :
    Calls Tryz.prog 123 #[.string s, .int .i64 k, .func (.func g) #[] #[]] w fun e w' => e = .returned (.int .i64 (whileN p s k)) ∧ w = w' := by
  unfold maxLen at hs
  have HP := Lib.hid hp; clear hp
  have heg : ∀ (args : Array Value) (w : World), (callFunc g args).run Tryz.prog w = .ok (.enter g args) w := he
  go_enter Tryz.func123, Tryz.ntmps123
  go_wp2
  go_loop [1] (fun i => ∃ j : Nat, k ≤ j ∧ j ≤ s.size ∧ i = .int .i64 j ∧ whileN p s k = whileN p s j) (fun i => s.size - (intOf i).toNat)
  case atStart => exact ⟨k, Nat.le_refl _, hk, rfl, rfl⟩
  case round =>
    obtain ⟨j, hj1, hj2, rfl, hj3⟩ := hrel
    have HJ := Lib.hid hj3; clear hj3
    by_cases hlt : j < s.size
    · cases hb : p s[j]
      all_goals
        have Hb := Lib.hid hb; clear hb
        go_wp2_with (go_at_fn g; refine (HP.out _ _).mono ?_; rintro e w' ⟨rfl, rfl⟩; rw [Hb.out])
      · go_ret
        exact ⟨ret_int (by rw [HJ.out, whileN_no hlt Hb.out]), rfl⟩
      · go_round
        case rel => exact ⟨j + 1, by omega, by omega, by go_num, by rw [HJ.out, whileN_yes hlt Hb.out]⟩
        case measure => simp [intOf]; omega
    · have hle : s.size ≤ j := by omega
      clear hlt
      go_wp2_with (fail)
      go_ret
      exact ⟨ret_int (by rw [HJ.out, whileN_end hle]), rfl⟩
end Go.Proofs.YtlmopoipjolbgaaGreatDoor.LexW
namespace Go.Proofs.YtlmopoipjolbgaaGreatDoor.LexW
open Go.RowKit Go.Shelf Go.Proofs.YtlmopoipjolbgaaGreatDoor.LexS
set_option linter.unusedVariables false
set_option linter.unusedSimpArgs false

theorem blank_eq (c : UInt8) : decide (0 ≤ Lib.indexByte [9, 10, 13, 32] c) = blankB c := by
  unfold blankB
  simp only [Lib.indexByte]
  by_cases h1 : c = 9
  · subst h1; rfl
  by_cases h2 : c = 10
  · subst h2; rfl
  by_cases h3 : c = 13
  · subst h3; rfl
  by_cases h4 : c = 32
  · subst h4; rfl
  have e1 : ((9 : UInt8) == c) = false := by simpa using Ne.symm h1
  have e2 : ((10 : UInt8) == c) = false := by simpa using Ne.symm h2
  have e3 : ((13 : UInt8) == c) = false := by simpa using Ne.symm h3
  have e4 : ((32 : UInt8) == c) = false := by simpa using Ne.symm h4
  simp [e1, e2, e3, e4, h1, h2, h3, h4]

theorem byte_back (c : UInt8) : ((c.toNat : Int)).toNat.toUInt8 = c := by
  rw [Int.toNat_natCast]; exact UInt8.ofNat_toNat

set_option maxHeartbeats 400000 in
theorem begin1_pred : IsPred 121 blankB := by
  intro c w
  rw [← blank_eq]
  have hb := byte_back c
  generalize hn : Lib.indexByte [9, 10, 13, 32] c = n
  have Hn := Lib.hid hn; have Hb := Lib.hid hb; clear hn hb
  go_enter Tryz.func121, Tryz.ntmps121
  go_wp2_with (go_at_call 122; refine (Tryz.strings_IndexByte _ _ _).mono ?_; rintro e w' ⟨rfl, rfl⟩; rw [Hb.out, show Lib.indexByte [9, 10, 13, 32] c = n from Hn.out])
  go_ret
  exact ⟨ret_bool (by simp), rfl⟩

theorem enters_run1 : Enters Tryz.prog 125 := enters_of Tryz.func125 (by kernel_rfl) rfl
theorem enters_begin1 : Enters Tryz.prog 121 := enters_of Tryz.func121 (by kernel_rfl) rfl
theorem enters_begin2 : Enters Tryz.prog 124 := enters_of Tryz.func124 (by kernel_rfl) rfl

set_option maxHeartbeats 400000 in
theorem run_any (s : ByteArray) (k : Nat) (w : World) (hs : s.size ≤ maxLen) (hk : k ≤ s.size) :
    Calls Tryz.prog 102 #[.string s, .int .i64 k] w fun e w' => e = .returned (.int .i64 (whileN wordB s k)) ∧ w = w' := by
  go_enter Tryz.func102, Tryz.ntmps102
  go_wp2_with (go_at_call 123; refine (while_any enters_run1 run1_pred _ _ _ hs hk).mono ?_; rintro e w' ⟨rfl, rfl⟩)
  go_ret
  exact ⟨rfl, rfl⟩

/-- the place behind blanks and remarks -/
def beginN (s : ByteArray) (k : Nat) : Nat := s.size - (skipS false (s.data.toList.drop k)).length

theorem skip_blanks (l : List UInt8) : skipS false l = skipS false (l.drop (l.takeWhile blankB).length) := by
  induction l with
  | nil => rfl
  | cons c r ih =>
    by_cases h : blankB c = true
    · rw [skipS, if_pos h, List.takeWhile_cons_of_pos h, List.length_cons, List.drop_succ_cons]; exact ih
    · rw [List.takeWhile_cons_of_neg h]; rfl
theorem skip_remark (l : List UInt8) : skipS true l = skipS false (l.drop (l.takeWhile (fun c => c != 10)).length) := by
  induction l with
  | nil => rfl
  | cons c r ih =>
    by_cases h : c = 10
    · subst h; rfl
    · have h1 : (c == 10) = false := by simpa using h
      have h2 : (c != 10) = true := by simpa using h
      rw [skipS, h1, List.takeWhile_cons_of_pos (p := fun c => c != 10) h2, List.length_cons, List.drop_succ_cons]; simpa using ih
theorem begin_stay {s : ByteArray} {k : Nat} (hk : k ≤ s.size) (h : skipS false (s.data.toList.drop k) = s.data.toList.drop k) : beginN s k = k := by
  unfold beginN; rw [h]; simp; have : s.data.size = s.size := rfl; omega
theorem begin_while (s : ByteArray) (k : Nat) : beginN s k = beginN s (whileN blankB s k) := by
  unfold beginN whileN; rw [skip_blanks, List.drop_drop]
theorem drop_takeWhile (p : UInt8 → Bool) (l : List UInt8) : l.drop (l.takeWhile p).length = l.dropWhile p := by
  induction l with
  | nil => rfl
  | cons c r ih =>
    cases h : p c
    · simp [h]
    · simp [h, ih]
theorem while_stop (p : UInt8 → Bool) (s : ByteArray) (k : Nat) (h : whileN p s k < s.size) : p s[whileN p s k] = false := by
  have e : s.data.toList.drop (whileN p s k) = (s.data.toList.drop k).drop ((s.data.toList.drop k).takeWhile p).length := by
    unfold whileN; rw [List.drop_drop]
  have hd : (s.data.toList.drop k).drop ((s.data.toList.drop k).takeWhile p).length = (s.data.toList.drop k).dropWhile p := drop_takeWhile p _
  rw [hd, drop_cons s _ h] at e
  have := List.head_dropWhile_not p (l := s.data.toList.drop k) (by rw [← e]; simp)
  simp only [← e, List.head_cons] at this
  exact this
theorem begin_end {s : ByteArray} {k : Nat} (h : whileN blankB s k = s.size) : beginN s k = whileN blankB s k := by
  rw [begin_while s k, begin_stay (by omega)]
  rw [h, List.drop_of_length_le (by simp)]; rfl
theorem begin_here {s : ByteArray} {k : Nat} (h : whileN blankB s k < s.size) (h35 : s[whileN blankB s k] ≠ 35) : beginN s k = whileN blankB s k := by
  have hb := while_stop blankB s k h
  rw [begin_while s k, begin_stay (by omega)]
  rw [drop_cons s _ h, skipS, hb]; simp [h35]
theorem begin_on {s : ByteArray} {k : Nat} (h : whileN blankB s k < s.size) (h35 : s[whileN blankB s k] = 35) : beginN s k = beginN s (whileN (fun c => c != 10) s (whileN blankB s k)) := by
  have hb := while_stop blankB s k h
  rw [begin_while s k]
  generalize whileN blankB s k = j at *
  have e : skipS false (s.data.toList.drop j) = skipS true (s.data.toList.drop j) := by
    rw [drop_cons s j h, h35]; rfl
  unfold beginN; rw [e, skip_remark, List.drop_drop]; rfl

theorem begin_ge {s : ByteArray} (k : Nat) (hk : k ≤ s.size) : k ≤ beginN s k := by
  unfold beginN
  have := skipS_length false (s.data.toList.drop k)
  simp at this
  have : s.data.size = s.size := rfl
  omega
theorem begin_le (s : ByteArray) (k : Nat) : beginN s k ≤ s.size := by unfold beginN; omega

set_option maxHeartbeats 800000 in
set_option maxRecDepth 100000 in
theorem begin_any (s : ByteArray) (k : Nat) (w : World) (hs : s.size ≤ maxLen) (hk : k ≤ s.size) :
    Calls Tryz.prog 101 #[.string s, .int .i64 k] w fun e w' => e = .returned (.int .i64 (beginN s k)) ∧ w = w' := by
  have hs' := hs
  unfold maxLen at hs'
  go_enter Tryz.func101, Tryz.ntmps101
  go_wp2
  go_loop [1] (fun i => ∃ j : Nat, j ≤ s.size ∧ i = .int .i64 j ∧ beginN s k = beginN s j) (fun i => s.size - (intOf i).toNat)
  case atStart => exact ⟨k, hk, rfl, rfl⟩
  case round =>
    obtain ⟨j, hj2, rfl, hj3⟩ := hrel
    have HJ := Lib.hid hj3; clear hj3
    have hle := whileN_le blankB s j hj2
    have hge := whileN_ge blankB s j
    go_wp2_with fail
    refine (while_any enters_begin1 begin1_pred _ _ _ hs hj2).mono ?_
    rintro e w' ⟨rfl, rfl⟩
    generalize hm : whileN blankB s j = m at *
    have HM := Lib.hid hm; clear hm
    by_cases h1 : m = s.size
    · subst h1
      go_wp2
      go_ret
      exact ⟨ret_int (by rw [HJ.out, begin_end HM.out, HM.out]), rfl⟩
    · have hlt : m < s.size := by omega
      clear h1
      have hne : ((m : Int) == (s.size : Int)) = false := by rw [beq_eq_false_iff_ne]; omega
      by_cases h2 : s[m] = 35
      · have hx : (((s[m]).toNat : Int) != 35) = false := by rw [h2]; rfl
        have hle2 := whileN_le (fun c => c != 10) s m (by omega)
        have hge2 : m + 1 ≤ whileN (fun c => c != 10) s m := by rw [whileN_yes hlt (by rw [h2]; rfl)]; exact whileN_ge _ _ _
        have H2 := Lib.hid h2; clear h2
        go_wp2_with fail
        refine (while_any enters_begin2 begin2_pred _ _ _ hs (by omega)).mono ?_
        rintro e w' ⟨rfl, rfl⟩
        go_wp2
        go_round
        case rel => exact ⟨_, hle2, rfl, by rw [HJ.out]; have := HM.out; subst this; exact begin_on hlt H2.out⟩
        case measure => simp [intOf]; omega
      · have hx : (((s[m]).toNat : Int) != 35) = true := by
          rw [bne_iff_ne]; intro h; apply h2; rw [← UInt8.toNat_inj]; show _ = 35; omega
        have H2 := Lib.hid h2; clear h2
        go_wp2
        go_ret
        exact ⟨ret_int (by rw [HJ.out]; have := HM.out; subst this; exact (congrArg _ (begin_here hlt H2.out).symm)), rfl⟩
end Go.Proofs.YtlmopoipjolbgaaGreatDoor.LexW
namespace Go.Proofs.YtlmopoipjolbgaaGreatDoor.LexW
open Go.RowKit Go.Shelf Go.Proofs.YtlmopoipjolbgaaGreatDoor.LexS
set_option linter.unusedVariables false
set_option linter.unusedSimpArgs false

def two (b1 b2 b3 b4 : Bool) (n : Int) : Int := if b1 || b2 || b3 || b4 then 2 else if 0 ≤ n then 1 else 0
theorem sign_two (l : List UInt8) (c : UInt8) (r : List UInt8) (h : l = c :: r) :
    (signL l : Int) = two (Lib.hasPrefix l [61, 61]) (Lib.hasPrefix l [33, 61]) (Lib.hasPrefix l [60, 61]) (Lib.hasPrefix l [62, 61]) (Lib.indexByte [59, 44, 40, 41, 38, 60, 62] c) := by
  subst h
  have hx : (decide (0 ≤ Lib.indexByte [59, 44, 40, 41, 38, 60, 62] c)) = (c == 59 || c == 44 || c == 40 || c == 41 || c == 38 || c == 60 || c == 62) := by
    simp only [Lib.indexByte]
    by_cases e1 : c = 59
    · subst e1; rfl
    by_cases e2 : c = 44
    · subst e2; rfl
    by_cases e3 : c = 40
    · subst e3; rfl
    by_cases e4 : c = 41
    · subst e4; rfl
    by_cases e5 : c = 38
    · subst e5; rfl
    by_cases e6 : c = 60
    · subst e6; rfl
    by_cases e7 : c = 62
    · subst e7; rfl
    have f1 : ((59 : UInt8) == c) = false := by simpa using Ne.symm e1
    have f2 : ((44 : UInt8) == c) = false := by simpa using Ne.symm e2
    have f3 : ((40 : UInt8) == c) = false := by simpa using Ne.symm e3
    have f4 : ((41 : UInt8) == c) = false := by simpa using Ne.symm e4
    have f5 : ((38 : UInt8) == c) = false := by simpa using Ne.symm e5
    have f6 : ((60 : UInt8) == c) = false := by simpa using Ne.symm e6
    have f7 : ((62 : UInt8) == c) = false := by simpa using Ne.symm e7
    simp [f1, f2, f3, f4, f5, f6, f7, e1, e2, e3, e4, e5, e6, e7]
  have hp : ∀ a : UInt8, Lib.hasPrefix (c :: r) [a, 61] = (c == a && (r.head? == some 61)) := by
    intro a
    unfold Lib.hasPrefix
    cases r with
    | nil => simp [List.isPrefixOf]
    | cons d r =>
      show (a == c && (61 == d && true)) = (c == a && (some d == some 61))
      by_cases h1 : a = c
      · subst h1
        by_cases h2 : d = 61
        · subst h2; simp
        · have h3 : ((61 : UInt8) == d) = false := by simpa using Ne.symm h2
          have h4 : (some d == some (61 : UInt8)) = false := by simpa using h2
          rw [h3, h4]; simp
      · have h3 : (a == c) = false := by simpa using h1
        have h4 : (c == a) = false := by simpa using Ne.symm h1
        rw [h3, h4]; simp
  unfold two
  simp only [signL]
  rw [hp, hp, hp, hp]
  have e : (c == 61 && (r.head? == some 61) || c == 33 && (r.head? == some 61) || c == 60 && (r.head? == some 61) || c == 62 && (r.head? == some 61)) = ((c == 61 || c == 33 || c == 60 || c == 62) && r.head? == some 61) := by
    cases (r.head? == some 61) <;> simp
  rw [e]
  have hy : (0 ≤ Lib.indexByte [59, 44, 40, 41, 38, 60, 62] c) ↔ (c == 59 || c == 44 || c == 40 || c == 41 || c == 38 || c == 60 || c == 62) = true := by
    rw [← hx]; simp
  split
  · rfl
  · by_cases hz : (c == 59 || c == 44 || c == 40 || c == 41 || c == 38 || c == 60 || c == 62) = true
    · rw [if_pos hz, if_pos (hy.2 hz)]; rfl
    · rw [if_neg hz, if_neg (fun h => hz (hy.1 h))]; rfl

set_option maxHeartbeats 1000000 in
theorem sign_any (t : ByteArray) (w : World) (h0 : 0 < t.size) :
    Calls Tryz.prog 106 #[.string t] w fun e w' => e = .returned (.int .i64 (signL t.data.toList)) ∧ w = w' := by
  have hc : t.data.toList = t[0] :: t.data.toList.drop 1 := by
    have := drop_cons t 0 h0; simpa using this
  rw [sign_two _ _ _ hc]
  have hb := byte_back t[0]
  generalize hc0 : t[0] = c0 at *
  generalize g1 : Lib.hasPrefix t.data.toList [61, 61] = b1
  generalize g2 : Lib.hasPrefix t.data.toList [33, 61] = b2
  generalize g3 : Lib.hasPrefix t.data.toList [60, 61] = b3
  generalize g4 : Lib.hasPrefix t.data.toList [62, 61] = b4
  generalize g5 : Lib.indexByte [59, 44, 40, 41, 38, 60, 62] c0 = n
  have G1 := Lib.hid g1; have G2 := Lib.hid g2; have G3 := Lib.hid g3; have G4 := Lib.hid g4; have G5 := Lib.hid g5
  have Hb := Lib.hid hb; have HC := Lib.hid hc; have HC0 := Lib.hid hc0
  clear g1 g2 g3 g4 g5 hb hc hc0
  cases b1
  · cases b2
    · cases b3
      · cases b4
        · by_cases h5 : 0 ≤ n
          all_goals
            go_enter Tryz.func106, Tryz.ntmps106
            go_wp2_with fail
            refine (Tryz.strings_HasPrefix _ _ _).mono ?_; rintro e w' ⟨rfl, rfl⟩; rw [show Lib.hasPrefix t.data.toList _ = false from G1.out]
            go_wp2_with fail
            refine (Tryz.strings_HasPrefix _ _ _).mono ?_; rintro e w' ⟨rfl, rfl⟩; rw [show Lib.hasPrefix t.data.toList _ = false from G2.out]
            go_wp2_with fail
            refine (Tryz.strings_HasPrefix _ _ _).mono ?_; rintro e w' ⟨rfl, rfl⟩; rw [show Lib.hasPrefix t.data.toList _ = false from G3.out]
            go_wp2_with fail
            refine (Tryz.strings_HasPrefix _ _ _).mono ?_; rintro e w' ⟨rfl, rfl⟩; rw [show Lib.hasPrefix t.data.toList _ = false from G4.out]
            go_wp2_with fail
            rw [HC0.out]
            refine (Tryz.strings_IndexByte _ _ _).mono ?_; rintro e w' ⟨rfl, rfl⟩; rw [Hb.out, show Lib.indexByte _ c0 = n from G5.out]
            go_wp2
            go_ret
            exact ⟨ret_int (by simp [two, h5]), rfl⟩
        · go_enter Tryz.func106, Tryz.ntmps106
          go_wp2_with fail
          refine (Tryz.strings_HasPrefix _ _ _).mono ?_; rintro e w' ⟨rfl, rfl⟩; rw [show Lib.hasPrefix t.data.toList _ = false from G1.out]
          go_wp2_with fail
          refine (Tryz.strings_HasPrefix _ _ _).mono ?_; rintro e w' ⟨rfl, rfl⟩; rw [show Lib.hasPrefix t.data.toList _ = false from G2.out]
          go_wp2_with fail
          refine (Tryz.strings_HasPrefix _ _ _).mono ?_; rintro e w' ⟨rfl, rfl⟩; rw [show Lib.hasPrefix t.data.toList _ = false from G3.out]
          go_wp2_with fail
          refine (Tryz.strings_HasPrefix _ _ _).mono ?_; rintro e w' ⟨rfl, rfl⟩; rw [show Lib.hasPrefix t.data.toList _ = true from G4.out]
          go_wp2
          go_ret
          exact ⟨ret_int (by simp [two]), rfl⟩
      · go_enter Tryz.func106, Tryz.ntmps106
        go_wp2_with fail
        refine (Tryz.strings_HasPrefix _ _ _).mono ?_; rintro e w' ⟨rfl, rfl⟩; rw [show Lib.hasPrefix t.data.toList _ = false from G1.out]
        go_wp2_with fail
        refine (Tryz.strings_HasPrefix _ _ _).mono ?_; rintro e w' ⟨rfl, rfl⟩; rw [show Lib.hasPrefix t.data.toList _ = false from G2.out]
        go_wp2_with fail
        refine (Tryz.strings_HasPrefix _ _ _).mono ?_; rintro e w' ⟨rfl, rfl⟩; rw [show Lib.hasPrefix t.data.toList _ = true from G3.out]
        go_wp2
        go_ret
        exact ⟨ret_int (by simp [two]), rfl⟩
    · go_enter Tryz.func106, Tryz.ntmps106
      go_wp2_with fail
      refine (Tryz.strings_HasPrefix _ _ _).mono ?_; rintro e w' ⟨rfl, rfl⟩; rw [show Lib.hasPrefix t.data.toList _ = false from G1.out]
      go_wp2_with fail
      refine (Tryz.strings_HasPrefix _ _ _).mono ?_; rintro e w' ⟨rfl, rfl⟩; rw [show Lib.hasPrefix t.data.toList _ = true from G2.out]
      go_wp2
      go_ret
      exact ⟨ret_int (by simp [two]), rfl⟩
  · go_enter Tryz.func106, Tryz.ntmps106
    go_wp2_with fail
    refine (Tryz.strings_HasPrefix _ _ _).mono ?_; rintro e w' ⟨rfl, rfl⟩; rw [show Lib.hasPrefix t.data.toList _ = true from G1.out]
    go_wp2
    go_ret
    exact ⟨ret_int (by simp [two]), rfl⟩

theorem empty_yes {s : ByteArray} (h : s.size = 0) : s.toList = [] := by
  rw [ByteArray.toList_eq]
  apply List.eq_nil_of_length_eq_zero
  simpa using h
theorem empty_no {s : ByteArray} (h : 0 < s.size) : s.toList.isEmpty = false := by
  rw [ByteArray.toList_eq]
  have : s.data.toList.length = s.size := by simp
  cases hl : s.data.toList with
  | nil => rw [hl] at this; simp at this; omega
  | cons c r => rfl
theorem word_yes (s : ByteArray) (h : 0 < s.size) (h32 : s.size ≤ 32) : wordL s.data.toList = (letterB s[0] && (whileN wordB s 0 == s.size)) := by
  have hc : s.data.toList = s[0] :: s.data.toList.drop 1 := by
    have := drop_cons s 0 h; simpa using this
  have hl : s.data.toList.length = s.size := by simp
  have hh : s.data.toList.head? = some s[0] := by rw [hc]; rfl
  have hall : (s.data.toList.all wordB = true) ↔ (whileN wordB s 0 = s.size) := by
    unfold whileN
    rw [List.drop_zero, ← hl]
    generalize s.data.toList = l
    induction l with
    | nil => simp
    | cons c r ih => cases hp : wordB c <;> simp [hp] at ih ⊢; omega
  unfold wordL
  rw [Bool.eq_iff_iff]
  simp only [decide_eq_true_eq, Bool.and_eq_true, beq_iff_eq, hh, hl, hall]
  constructor
  · rintro ⟨_, _, ⟨c, hc, h3⟩, h4⟩
    obtain rfl := Option.some.inj hc
    exact ⟨h3, h4⟩
  · rintro ⟨h3, h4⟩
    exact ⟨h, h32, ⟨_, rfl, h3⟩, h4⟩
theorem word_no (s : ByteArray) (h : s.size = 0 ∨ 32 < s.size) : wordL s.data.toList = false := by
  have hl : s.data.toList.length = s.size := by simp
  unfold wordL
  rw [decide_eq_false_iff_not, hl]
  omega

end Go.Proofs.YtlmopoipjolbgaaGreatDoor.LexW
namespace Go.Proofs.YtlmopoipjolbgaaGreatDoor.LexW
open Go.RowKit Go.Shelf Go.Proofs.YtlmopoipjolbgaaGreatDoor.LexS
set_option linter.unusedVariables false
set_option linter.unusedSimpArgs false

/-- is a rune among the first j bytes of a set? -/
def among (set : ByteArray) (c : Int) (j : Nat) : Bool := (set.data.toList.take j).any fun d => c == (d.toNat : Int)
theorem among_zero (set : ByteArray) (c : Int) : among set c 0 = false := by simp [among]
theorem among_succ (set : ByteArray) (c : Int) (j : Nat) (h : j < set.size) : among set c (j + 1) = (among set c j || (c == ((set[j]).toNat : Int))) := by
  unfold among
  rw [List.take_succ_eq_append_getElem (by simpa using h), List.any_append]; simp; rfl
theorem among_all (set : ByteArray) (c : Int) (j : Nat) (h : set.size ≤ j) : among set c j = set.data.toList.any fun d => c == (d.toNat : Int) := by
  unfold among; rw [List.take_of_length_le (by simpa using h)]
/-- is a byte in a set? -/
def isIn (set : ByteArray) (c : UInt8) : Bool := set.data.toList.any fun d => c == d
theorem among_byte (set : ByteArray) (c : UInt8) (j : Nat) (h : set.size ≤ j) : among set (c.toNat : Int) j = isIn set c := by
  rw [among_all _ _ _ h]; unfold isIn
  congr 1; funext d
  rw [Bool.eq_iff_iff]; simp [← UInt8.toNat_inj]; omega
theorem among_high (set : ByteArray) (hset : ∀ d ∈ set.data.toList, d.toNat < 128) (c : Int) (hc : 128 ≤ c) (j : Nat) (h : set.size ≤ j) : among set c j = false := by
  rw [among_all _ _ _ h, List.any_eq_false]
  intro d hd
  have := hset d hd
  simp; omega

theorem isIn_high (set : ByteArray) (hset : ∀ d ∈ set.data.toList, d.toNat < 128) (c : UInt8) (hc : 128 ≤ c.toNat) : isIn set c = false := by
  rw [← among_byte set c set.size (Nat.le_refl _)]; exact among_high set hset _ (by omega) _ (Nat.le_refl _)

/-- what a range over a string reads: of a byte below 128 that byte; else a rune above -/
theorem rune_at (set s : ByteArray) (hset : ∀ d ∈ set.data.toList, d.toNat < 128) (pos : Nat) (h : pos < s.size) :
    among set ((Utf8.decode s pos).1 : Int) set.size = isIn set s[pos] ∧ (isIn set s[pos] = true → (Utf8.decode s pos).2 = 1) ∧ 1 ≤ (Utf8.decode s pos).2 := by
  by_cases ha : (s[pos]).toNat < 128
  · rw [decode_ascii s pos h ha]
    exact ⟨among_byte set _ _ (Nat.le_refl _), fun _ => rfl, Nat.le_refl _⟩
  · have hd := decode_high s pos h (by omega)
    rw [isIn_high set hset _ (by omega)]
    exact ⟨among_high set hset _ (by omega) _ (Nat.le_refl _), by simp, hd.2⟩

theorem drop_while (p : UInt8 → Bool) (s : ByteArray) : s.data.toList.dropWhile p = s.data.toList.drop (whileN p s 0) := by
  unfold whileN; rw [List.drop_zero, Nat.zero_add, drop_takeWhile]
theorem cut_left {p : UInt8 → Bool} {s : ByteArray} {pos : Nat} (h : whileN p s 0 = whileN p s pos) (h2 : whileN p s pos = pos) (hp : pos ≤ s.size) :
    Hid ((s.extract pos s.size).size ≤ s.size ∧ (s.extract pos s.size).data.toList = s.data.toList.dropWhile p) := by
  refine ⟨by simp, ?_⟩
  rw [drop_while, h, h2, Lib.extract_data, List.take_of_length_le (by simp)]
theorem cut_none {p : UInt8 → Bool} {s : ByteArray} {pos : Nat} (h : whileN p s 0 = whileN p s pos) (h2 : whileN p s pos = pos) (hp : s.size ≤ pos) :
    Hid ((⟨#[]⟩ : ByteArray).size ≤ s.size ∧ (⟨#[]⟩ : ByteArray).data.toList = s.data.toList.dropWhile p) := by
  refine ⟨Nat.zero_le _, ?_⟩
  rw [drop_while, h, h2, List.drop_of_length_le (by simpa using hp)]

set_option maxHeartbeats 1000000 in
set_option maxRecDepth 100000 in
theorem cutLeft_any (s set : ByteArray) (w : World) (hs : s.size ≤ maxLen) (hset : ∀ d ∈ set.data.toList, d.toNat < 128) (hsz : set.size ≤ maxLen) :
    Calls Tryz.prog 128 #[.string s, .string set] w fun e w' => (∃ r : ByteArray, e = .returned (.string r) ∧ Hid (r.size ≤ s.size ∧ r.data.toList = s.data.toList.dropWhile (isIn set))) ∧ Below w.heap.size w w' := by
  have hs' := hs
  have hsz' := hsz
  unfold maxLen at hs' hsz'
  go_enter Tryz.func128, Tryz.ntmps128
  go_wp2
  go_loopw [7] (fun _ wr => ∃ pos : Nat, wr.heap[w.heap.size]? = some (.stringIter s pos) ∧ pos ≤ s.size ∧ Hid (whileN (isIn set) s 0 = whileN (isIn set) s pos) ∧ Below w.heap.size w wr) (fun _ wr => s.size - wr.iterPos w.heap.size)
  case atStart => exact ⟨0, World.iter_heap w s 0, Nat.zero_le _, rfl, (Below.refl _ _).alloc (Nat.le_refl _) _⟩
  case round =>
    obtain ⟨pos, hit, hp1, HW, hbw⟩ := hrel
    have hpos0 := iterPos_of hit
    by_cases hp : pos < s.size
    · obtain ⟨hr1, hr2, hr3⟩ := rune_at set s hset pos hp
      have hnx : ∀ ty, (Instr.next (.pointer (some ⟨w.heap.size, 0, none⟩)) true ty).run Tryz.prog wr = _ := fun ty => Lib.run_next_any_at wr w.heap.size s pos ty hit hp
      have hit2 := Lib.iterAt_heap wr w.heap.size s pos (pos + (Utf8.decode s pos).2) hit
      have hbw2 := Lib.below_iterAt hbw (k := w.heap.size) (Nat.le_refl _) s (pos + (Utf8.decode s pos).2)
      obtain ⟨W1, hW1⟩ : ∃ W1, W1 = wr.iterAt w.heap.size s (pos + (Utf8.decode s pos).2) := ⟨_, rfl⟩
      rw [← hW1] at hnx hit2 hbw2
      clear hW1 hit hbw
      generalize hr : ((Utf8.decode s pos).1 : Nat) = c at *
      generalize hv : ((Utf8.decode s pos).2 : Nat) = v at *
      have Hr1 := Lib.hid hr1; have Hr2 := Lib.hid hr2
      clear hr hr1 hr2 hv
      have hlt1 : w.heap.size < W1.heap.size := (Array.getElem?_eq_some_iff.1 hit2).1
      have ha0 := among_zero set c
      go_wp2
      go_loopw [7] (fun b w2 => ∃ j : Nat, w2.heap[W1.heap.size]? = some (.stringIter set j) ∧ j ≤ set.size ∧ b = .bool (among set c j) ∧ w2.heap[w.heap.size]? = some (.stringIter s (pos + v)) ∧ Below w.heap.size w w2) (fun _ w2 => set.size - w2.iterPos W1.heap.size)
      case atStart => exact ⟨0, World.iter_heap W1 set 0, Nat.zero_le _, by rw [ha0], by rw [World.iter, Below.heap_alloc _ _ _ hlt1]; exact hit2, hbw2.alloc (by omega) _⟩
      case round =>
        clear hit2 hbw2 hnx ha0
        obtain ⟨j, hj1, hj2, rfl, hit3, hbw3⟩ := hrel
        have hj0 := iterPos_of hj1
        by_cases hj : j < set.size
        · have hnx : ∀ ty, (Instr.next (.pointer (some ⟨W1.heap.size, 0, none⟩)) true ty).run Tryz.prog wr = _ := fun ty => Lib.run_next_ascii_at wr W1.heap.size set j ty hj1 hj (hset _ (Array.getElem_mem_toList _))
          have hj3 := Lib.iterAt_heap wr W1.heap.size set j (j + 1) hj1
          have hit4 : (wr.iterAt W1.heap.size set (j + 1)).heap[w.heap.size]? = some (.stringIter s (pos + v)) := by rw [Lib.iterAt_other _ _ _ _ _ (by omega)]; exact hit3
          have hbw4 := Lib.below_iterAt hbw3 (k := W1.heap.size) (by omega) set (j + 1)
          obtain ⟨W2, hW2⟩ : ∃ W2, W2 = wr.iterAt W1.heap.size set (j + 1) := ⟨_, rfl⟩
          rw [← hW2] at hnx hj3 hit4 hbw4
          clear hW2 hj1 hit3 hbw3
          have Hs := Lib.hid (among_succ set c j hj)
          generalize hb : among set c j = b at *
          have Hb := Lib.hid hb; clear hb
          cases b
          all_goals
            go_wp2
            go_roundw
            case rel => exact ⟨j + 1, hj3, by omega, by rw [Hs.out]; simp, hit4, hbw4⟩
            case measure => rw [iterPos_of hj3, hj0]; omega
        · obtain rfl : j = set.size := by omega
          have hnx : ∀ ty, (Instr.next (.pointer (some ⟨W1.heap.size, 0, none⟩)) true ty).run Tryz.prog wr = _ := fun ty => Lib.run_next_end_at wr W1.heap.size set set.size ty hj1 (by omega)
          rw [Hr1.out]
          cases hb : isIn set s[pos]
          all_goals
            have Hb := Lib.hid hb; clear hb
            go_wp2
          · go_ret
            exact ⟨⟨_, rfl, cut_left HW.out (whileN_no hp Hb.out) hp1⟩, hbw3⟩
          · go_roundw
            case rel => exact ⟨pos + v, hit3, by rw [Hr2.out Hb.out]; omega, by rw [Hr2.out Hb.out]; show _ = _; rw [HW.out, whileN_yes hp Hb.out], hbw3⟩
            case measure => rw [iterPos_of hit3, hpos0]; omega
    · have hnx : ∀ ty, (Instr.next (.pointer (some ⟨w.heap.size, 0, none⟩)) true ty).run Tryz.prog wr = _ := fun ty => Lib.run_next_end_at wr w.heap.size s pos ty hit hp
      go_wp2
      go_ret
      exact ⟨⟨_, rfl, cut_none HW.out (whileN_end (by omega)) (by omega)⟩, hbw⟩
end Go.Proofs.YtlmopoipjolbgaaGreatDoor.LexW
namespace Go.Proofs.YtlmopoipjolbgaaGreatDoor.LexW
open Go.RowKit Go.Shelf Go.Proofs.YtlmopoipjolbgaaGreatDoor.LexS
set_option linter.unusedVariables false
set_option linter.unusedSimpArgs false

abbrev Tabs (w : World) : Prop := Lib.Utf8Tabs 6 7 w

theorem decodeL_high (l : List UInt8) (c : UInt8) (r : List UInt8) (h : l = c :: r) (hc : 128 ≤ c.toNat) : 128 ≤ (Lib.decodeL l).1 := by
  unfold Lib.decodeL
  have h0 : 0 < (⟨l.toArray⟩ : ByteArray).size := by subst h; show 0 < (c :: r).toArray.size; simp
  refine (decode_high _ 0 h0 ?_).1
  subst h
  exact hc
theorem last_high (l : List UInt8) (hne : l ≠ []) (h : 128 ≤ (l.getLast hne).toNat) : 128 ≤ (Lib.decodeLastL l).1 := by
  have hlen : 0 < l.length := List.length_pos_iff.2 hne
  have hg : l.getD (l.length - 1) 0 = l.getLast hne := by
    rw [List.getLast_eq_getElem, List.getD_eq_getElem?_getD, List.getElem?_eq_getElem (by omega)]; rfl
  unfold Lib.decodeLastL
  rw [if_neg hne, hg, if_neg (by omega)]
  simp only []
  split
  · rename_i hst
    have hlt := Lib.lastStart_lt l hne
    cases hd : l.drop (Lib.lastStart l) with
    | nil => have := congrArg List.length hd; simp at this; omega
    | cons c r =>
      by_cases hc : c.toNat < 128
      · exfalso
        rw [hd, Lib.decodeL_ascii _ _ hc] at hst
        simp only [] at hst
        have h1 : l.drop (Lib.lastStart l) = [l.getLast hne] := by
          rw [show Lib.lastStart l = l.length - 1 by omega]
          rw [List.drop_eq_getElem_cons (show l.length - 1 < l.length by omega), List.drop_of_length_le (by omega), List.getLast_eq_getElem]
        rw [hd] at h1
        obtain ⟨rfl, rfl⟩ := List.cons.inj h1
        omega
      · exact decodeL_high _ c r rfl (by omega)
  · simp [Utf8.runeError]

theorem last_at (set t : ByteArray) (hset : ∀ d ∈ set.data.toList, d.toNat < 128) (h : 0 < t.size) :
    among set ((Lib.decodeLastL t.data.toList).1 : Int) set.size = isIn set (t[t.size - 1]) ∧ (isIn set (t[t.size - 1]) = true → (Lib.decodeLastL t.data.toList).2 = 1) := by
  have hl : t.data.toList.length = t.size := by simp
  have hne : t.data.toList ≠ [] := by intro h'; rw [h'] at hl; simp at hl; omega
  have hg : t.data.toList.getLast hne = t[t.size - 1] := by
    rw [List.getLast_eq_getElem]; simp; rfl
  by_cases ha : (t[t.size - 1]).toNat < 128
  · have hd : t.data.toList = t.data.toList.dropLast ++ [t[t.size - 1]] := by rw [← hg, List.dropLast_concat_getLast]
    have hx : Lib.decodeLastL t.data.toList = ((t[t.size - 1]).toNat, 1) := by
      rw [hd]; exact Lib.decodeLastL_ascii _ _ ha
    rw [hx]
    exact ⟨among_byte set _ _ (Nat.le_refl _), fun _ => rfl⟩
  · rw [isIn_high set hset _ (by omega)]
    exact ⟨among_high set hset _ (by have := last_high _ hne (by rw [hg]; omega); omega) _ (Nat.le_refl _), by simp⟩

def lenOf : Value → Nat
  | .string t => t.size
  | _ => 0
/-- t is s without some bytes of the set at its end -/
def Left (set s t : ByteArray) : Prop := t.size ≤ s.size ∧ ∃ r : List UInt8, s.data.toList = t.data.toList ++ r ∧ r.all (isIn set) = true
theorem left_refl (set s : ByteArray) : Left set s s := ⟨Nat.le_refl _, [], by simp, rfl⟩
theorem left_step {set s t : ByteArray} (h : Left set s t) (ht : 0 < t.size) (hb : isIn set (t[t.size - 1]) = true) : Left set s (t.extract 0 (t.size - 1)) := by
  obtain ⟨h1, r, h2, h3⟩ := h
  have hl : t.data.toList.length = t.size := by simp
  have hne : t.data.toList ≠ [] := by intro h'; rw [h'] at hl; simp at hl; omega
  have hg : t.data.toList.getLast hne = t[t.size - 1] := by
    rw [List.getLast_eq_getElem]; simp; rfl
  refine ⟨by simp; omega, t[t.size - 1] :: r, ?_, by simp [hb]; simpa using h3⟩
  rw [h2, Lib.extract_data, List.drop_zero, Nat.sub_zero]
  have : t.data.toList.take (t.size - 1) ++ [t[t.size - 1]] = t.data.toList := by
    rw [← hg, ← hl, ← List.dropLast_eq_take, List.dropLast_concat_getLast]
  rw [← List.singleton_append, ← List.append_assoc, this]
/-- what cutRight answers -/
def CutR (set s t : ByteArray) : Prop := t.size ≤ s.size ∧ (t.size = 0 ↔ s.data.toList.all (isIn set) = true)
theorem cutR_zero {set s t : ByteArray} (h : Left set s t) (ht : t.size = 0) : CutR set s t := by
  obtain ⟨h1, r, h2, h3⟩ := h
  refine ⟨h1, fun _ => ?_, fun _ => ht⟩
  have : t.data.toList = [] := by apply List.eq_nil_of_length_eq_zero; simpa using ht
  rw [h2, this]; exact h3
theorem cutR_stop {set s t : ByteArray} (h : Left set s t) (ht : 0 < t.size) (hb : isIn set (t[t.size - 1]) = false) : CutR set s t := by
  obtain ⟨h1, r, h2, h3⟩ := h
  refine ⟨h1, fun h => by omega, fun h => ?_⟩
  exfalso
  rw [h2, List.all_append, Bool.and_eq_true, List.all_eq_true] at h
  have := h.1 (t[t.size - 1]) (Array.getElem_mem_toList _)
  rw [hb] at this; exact Bool.noConfusion this

set_option maxHeartbeats 1000000 in
set_option maxRecDepth 100000 in
theorem cutRight_any (s set : ByteArray) (w : World) (hs : s.size ≤ maxLen) (hset : ∀ d ∈ set.data.toList, d.toNat < 128) (hsz : set.size ≤ maxLen) (hT : Tabs w) :
    Calls Tryz.prog 127 #[.string s, .string set] w fun e w' => (∃ r : ByteArray, e = .returned (.string r) ∧ Hid (CutR set s r)) ∧ Below w.heap.size w w' := by
  have hs' := hs
  have hsz' := hsz
  unfold maxLen at hs' hsz'
  have HT := Lib.hid hT; clear hT
  go_enter Tryz.func127, Tryz.ntmps127
  go_wp2
  go_loopw [0] (fun v wr => ∃ t : ByteArray, v = .string t ∧ t.size ≤ s.size ∧ Hid (Left set s t) ∧ Below w.heap.size w wr) (fun v _ => lenOf v)
  case atStart => exact ⟨s, rfl, Nat.le_refl _, left_refl _ _, Below.refl _ _⟩
  case round =>
    obtain ⟨t, rfl, ht, HL, hbw⟩ := hrel
    by_cases hp : 0 < t.size
    · obtain ⟨hr1, hr2⟩ := last_at set t hset hp
      have hT1 : Tabs wr := Utf8Tabs_below HT.out hbw
      have HC := Lib.hid (Tryz.utf8_DecodeLastRuneInString t wr (by omega) hT1)
      generalize hr : ((Lib.decodeLastL t.data.toList).1 : Nat) = c at *
      generalize hv : ((Lib.decodeLastL t.data.toList).2 : Nat) = v at *
      have Hr1 := Lib.hid hr1; have Hr2 := Lib.hid hr2
      clear hr hr1 hr2 hv hT1
      go_wp2_with fail
      refine HC.out.mono ?_
      rintro e W1 ⟨rfl, hb1⟩
      have hbw1 : Below w.heap.size w W1 := hbw.trans (hb1.mono hbw.size)
      have hlt0 : w.heap.size ≤ W1.heap.size := hbw1.size
      clear hb1 hbw
      have ha0 := among_zero set c
      go_wp2
      go_loopw [7] (fun b w2 => ∃ j : Nat, w2.heap[W1.heap.size]? = some (.stringIter set j) ∧ j ≤ set.size ∧ b = .bool (among set c j) ∧ Below w.heap.size w w2) (fun _ w2 => set.size - w2.iterPos W1.heap.size)
      case atStart => exact ⟨0, World.iter_heap W1 set 0, Nat.zero_le _, by rw [ha0], hbw1.alloc (by omega) _⟩
      case round =>
        clear hbw1 ha0
        obtain ⟨j, hj1, hj2, rfl, hbw3⟩ := hrel
        have hj0 := iterPos_of hj1
        by_cases hj : j < set.size
        · have hnx : ∀ ty, (Instr.next (.pointer (some ⟨W1.heap.size, 0, none⟩)) true ty).run Tryz.prog wr = _ := fun ty => Lib.run_next_ascii_at wr W1.heap.size set j ty hj1 hj (hset _ (Array.getElem_mem_toList _))
          have hj3 := Lib.iterAt_heap wr W1.heap.size set j (j + 1) hj1
          have hbw4 := Lib.below_iterAt hbw3 (k := W1.heap.size) (by omega) set (j + 1)
          obtain ⟨W2, hW2⟩ : ∃ W2, W2 = wr.iterAt W1.heap.size set (j + 1) := ⟨_, rfl⟩
          rw [← hW2] at hnx hj3 hbw4
          clear hW2 hj1 hbw3
          have Hs := Lib.hid (among_succ set c j hj)
          generalize hb : among set c j = b at *
          have Hb := Lib.hid hb; clear hb
          cases b
          all_goals
            go_wp2
            go_roundw
            case rel => exact ⟨j + 1, hj3, by omega, by rw [Hs.out]; simp, hbw4⟩
            case measure => rw [iterPos_of hj3, hj0]; omega
        · obtain rfl : j = set.size := by omega
          have hnx : ∀ ty, (Instr.next (.pointer (some ⟨W1.heap.size, 0, none⟩)) true ty).run Tryz.prog wr = _ := fun ty => Lib.run_next_end_at wr W1.heap.size set set.size ty hj1 (by omega)
          rw [Hr1.out]
          cases hb : isIn set t[t.size - 1]
          · have Hb := Lib.hid hb; clear hb
            go_wp2
            go_ret
            exact ⟨⟨_, rfl, cutR_stop HL.out hp Hb.out⟩, hbw3⟩
          · have Hb := Lib.hid hb; clear hb
            obtain rfl := Hr2.out Hb.out
            go_wp2
            go_roundw
            case rel => exact ⟨t.extract 0 (t.size - 1), rfl, by simp; omega, left_step HL.out hp Hb.out, hbw3⟩
            case measure => simp [lenOf]; omega
    · go_wp2
      go_ret
      exact ⟨⟨_, rfl, cutR_zero HL.out (by omega)⟩, hbw⟩
end Go.Proofs.YtlmopoipjolbgaaGreatDoor.LexW
namespace Go.Proofs.YtlmopoipjolbgaaGreatDoor.LexW
open Go.RowKit Go.Shelf Go.Proofs.YtlmopoipjolbgaaGreatDoor.LexS
set_option linter.unusedVariables false
set_option linter.unusedSimpArgs false

theorem hex_cases (c : UInt8) (h : hexB c = true) : (48 ≤ c.toNat ∧ c.toNat ≤ 57 ∧ hexV c = c.toNat - 48) ∨ (97 ≤ c.toNat ∧ c.toNat ≤ 102 ∧ hexV c = c.toNat - 87) := by
  unfold hexB digitB at h
  simp [UInt8.le_iff_toNat_le] at h
  unfold hexV
  simp only [UInt8.le_iff_toNat_le]
  rcases h with ⟨h1, h2⟩ | ⟨h1, h2⟩
  · left; exact ⟨h1, h2, by rw [if_pos (by simpa using h2)]⟩
  · right; exact ⟨h1, h2, by rw [if_neg (by simp; omega)]⟩

theorem or32 (n : Nat) (h1 : 97 ≤ n) (h2 : n ≤ 102) : bits .or .u8 (n : Int) 32 = (n : Int) := by
  have : n = 97 ∨ n = 98 ∨ n = 99 ∨ n = 100 ∨ n = 101 ∨ n = 102 := by omega
  rcases this with rfl | rfl | rfl | rfl | rfl | rfl <;> decide

theorem pow16 (k : Nat) (h : k ≤ 15) : 16 ^ k ≤ 1152921504606846976 := by
  calc 16 ^ k ≤ 16 ^ 15 := Nat.pow_le_pow_right (by omega) h
    _ = 1152921504606846976 := by decide

set_option maxHeartbeats 32000000 in
set_option maxRecDepth 100000 in
theorem inner_parse16 (t : ByteArray) (hne : t.size ≠ 0) (h16 : t.size ≤ 16) (hall : t.data.toList.all hexB = true) (w : World) :
    Calls Tryz.prog 136 #[.string t, .int .i64 16, .int .i64 64] w fun e w' => e = .returned (.tuple #[.int .u64 (valL 16 hexV 0 t.data.toList), .nilIface]) ∧ w' = Lib.bytesWorld w 5 t := by
  have hemp : t.toList.isEmpty = false := empty_no (by omega)
  have hcv := Lib.run_convert_string_bytes (P := Tryz.prog) w 9 76 5 t (u := .string) Tryz.underlying9 Tryz.underlying76 Tryz.underlying5
  have hB : ∀ j, j < t.size → (Lib.bytesWorld w 5 t).cell? ⟨w.heap.size, j, none⟩ = some (.int .u8 (t.data.toList.getD j 0).toNat) := fun j hj => Lib.bytesWorld_cell w 5 t j hj
  obtain ⟨W1, hW1⟩ : ∃ W1, W1 = Lib.bytesWorld w 5 t := ⟨_, rfl⟩
  rw [← hW1] at hcv hB ⊢
  clear hW1
  obtain ⟨bs, hL⟩ : ∃ bs, bs = t.data.toList := ⟨_, rfl⟩
  have hLn : bs.length = t.size := by rw [hL, Lib.size_eq]
  rw [← hL] at hB hall ⊢
  clear hL
  have hmv : IntKind.u64.wrap (IntKind.u64.wrap 18446744073709551616 - 1) = 18446744073709551615 := by
    rw [IntKind.wrap_u64, IntKind.wrap_u64]
    decide
  have HA := Lib.hid hall; clear hall
  go_enter Tryz.func136, Tryz.ntmps136
  go_wp2
  go_loop [12, 13, 101] (fun vu vn vi => ∃ (k acc : Nat) (a : Int), vu = .bool false ∧ vn = .int .u64 a ∧ vi = .int .i64 k ∧ k ≤ t.size ∧ Hid (a = (acc : Int) ∧ acc < 16 ^ k ∧ valL 16 hexV 0 bs = valL 16 hexV acc (bs.drop k)))
    (fun _ _ vi => t.size - (intOf vi).toNat)
  case atStart => exact ⟨0, 0, 0, rfl, rfl, rfl, by omega, rfl, by simp, rfl⟩
  case round =>
    obtain ⟨k, acc, a, rfl, rfl, rfl, hk, hh⟩ := hrel
    obtain ⟨ha, hacc, hdec⟩ := hh.out
    clear hh
    have a0 : 0 ≤ a := by omega
    by_cases hkn : k < t.size
    · have hc := hB k hkn
      have hdrop : bs.drop k = bs[k]'(by omega) :: bs.drop (k + 1) := List.drop_eq_getElem_cons (by omega)
      have hget : bs.getD k 0 = bs[k]'(by omega) := by simp [List.getD, List.getElem?_eq_getElem (show k < bs.length by omega)]
      have hhex : hexB (bs[k]'(by omega)) = true := List.all_eq_true.1 HA.out _ (List.getElem_mem _)
      rw [hdrop] at hdec
      rw [hget] at hc
      generalize bs[k]'(by omega) = c at hc hdec hhex
      have hc256 : c.toNat < 256 := c.toNat_lt
      have h1 := pow16 k (by omega)
      have icut : a < 1152921504606846976 := by omega
      clear hB hdrop hget
      rcases hex_cases c hhex with ⟨hd0, hd1, hv⟩ | ⟨hd0, hd1, hv⟩
      · have HN : Hid (a * 16 + ((c.toNat : Int) - 48) = ((16 * acc + hexV c : Nat) : Int) ∧ 16 * acc + hexV c < 16 ^ (k + 1) ∧ valL 16 hexV 0 bs = valL 16 hexV (16 * acc + hexV c) (bs.drop (k + 1))) := Lib.hid ⟨by omega, by rw [Nat.pow_succ]; omega, hdec.trans (by simp only [valL])⟩
        have iov : a * 16 + ((c.toNat : Int) - 48) < 18446744073709551616 := by omega
        clear hacc hdec ha h1 hv hhex
        go_wp2
        refine ⟨⟨k + 1, _, a * 16 + ((c.toNat : Int) - 48), rfl, (by first | rfl | (congr 1; omega)), (by first | rfl | (congr 1; omega)), by omega, HN⟩, by simp [intOf]; omega⟩
      · have HN : Hid (a * 16 + ((c.toNat : Int) - 87) = ((16 * acc + hexV c : Nat) : Int) ∧ 16 * acc + hexV c < 16 ^ (k + 1) ∧ valL 16 hexV 0 bs = valL 16 hexV (16 * acc + hexV c) (bs.drop (k + 1))) := Lib.hid ⟨by omega, by rw [Nat.pow_succ]; omega, hdec.trans (by simp only [valL])⟩
        have iov : a * 16 + ((c.toNat : Int) - 87) < 18446744073709551616 := by omega
        have HO := Lib.hid (or32 c.toNat hd0 hd1)
        clear hacc hdec ha h1 hv hhex
        go_wp2_with (go_at_call 141; refine (Tryz.internal_strconv_lower _ _).mono ?_; rintro e w' ⟨rfl, rfl⟩; rw [HO.out])
        refine ⟨⟨k + 1, _, a * 16 + ((c.toNat : Int) - 87), rfl, (by first | rfl | (congr 1; omega)), (by first | rfl | (congr 1; omega)), by omega, HN⟩, by simp [intOf]; omega⟩
    · have hkk : k = t.size := by omega
      subst hkk
      have hF : valL 16 hexV acc (bs.drop t.size) = acc := by rw [List.drop_eq_nil_of_le (by omega)]; rfl
      rw [hF] at hdec
      subst ha
      clear hacc hF a0
      have HD := Lib.hid hdec; clear hdec
      go_wp2
      go_ret2
      exact ⟨by rw [HD.out]; rfl, rfl⟩
end Go.Proofs.YtlmopoipjolbgaaGreatDoor.LexW
namespace Go.Proofs.YtlmopoipjolbgaaGreatDoor.LexW
open Go.RowKit Go.Shelf Go.Proofs.YtlmopoipjolbgaaGreatDoor.LexS
set_option linter.unusedVariables false
set_option linter.unusedSimpArgs false

theorem valL_ge (d : UInt8 → Nat) (l : List UInt8) : ∀ acc, acc ≤ valL 10 d acc l := by
  induction l with
  | nil => intro acc; exact Nat.le_refl _
  | cons c r ih => intro acc; simp only [valL]; exact Nat.le_trans (by omega) (ih _)
theorem digit_bounds {c : UInt8} (h : digitB c = true) : 48 ≤ c.toNat ∧ c.toNat ≤ 57 := by
  unfold digitB at h
  simp [UInt8.le_iff_toNat_le] at h
  exact h
theorem valL_cons (b : Nat) (d : UInt8 → Nat) (n : Nat) (c : UInt8) (r : List UInt8) : valL b d n (c :: r) = valL b d (b * n + d c) r := rfl
theorem parse_cons (acc : Nat) (c : UInt8) (r : List UInt8) (h : 48 ≤ c.toNat ∧ c.toNat ≤ 57) : Lib.parseUint10 acc (c :: r) =
    if 1844674407370955162 ≤ acc then .range else if 18446744073709551616 ≤ acc * 10 + (c.toNat - 48) then .range else Lib.parseUint10 (acc * 10 + (c.toNat - 48)) r := by
  rw [Lib.parseUint10, if_pos h]
theorem parse_val (l : List UInt8) (hl : l.all digitB = true) : ∀ acc, acc < 18446744073709551616 →
    Lib.parseUint10 acc l = if valL 10 digV acc l < 18446744073709551616 then .ok (valL 10 digV acc l) else .range := by
  induction l with
  | nil => intro acc h; exact (if_pos h).symm
  | cons c r ih =>
    intro acc h
    rw [List.all_cons, Bool.and_eq_true] at hl
    have hd := digit_bounds hl.1
    have hv : digV c = c.toNat - 48 := rfl
    have hge := valL_ge digV r (10 * acc + digV c)
    rw [parse_cons _ _ _ hd, valL_cons]
    by_cases h1 : 1844674407370955162 ≤ acc
    · rw [if_pos h1, if_neg (by omega)]
    · rw [if_neg h1]
      by_cases h2 : 18446744073709551616 ≤ acc * 10 + (c.toNat - 48)
      · rw [if_pos h2, if_neg (by omega)]
      · rw [if_neg h2, show acc * 10 + (c.toNat - 48) = 10 * acc + digV c by omega]
        exact ih hl.2 _ (by omega)
theorem parseB_val (l : List UInt8) (hne : l ≠ []) (hl : l.all digitB = true) :
    Lib.parseUintB 64 l = if valL 10 digV 0 l < 18446744073709551616 then .ok (valL 10 digV 0 l) else .range := by
  rw [Lib.parseUintB_64, Lib.parseMag, if_neg hne]
  exact parse_val l hl 0 (by omega)

/-- what the program finds when it begins: the library's tables, and its two errors -/
structure Env (w : World) : Prop where
  tabs : Tabs w
  syn : ∃ te pe, w.cell? ⟨4, 0, none⟩ = some (.iface te pe)
  rng : ∃ te pe, w.cell? ⟨5, 0, none⟩ = some (.iface te pe)
theorem cell_stays {w w1 : World} (h : Below w.heap.size w w1) {a : Addr} {v : Value} (hc : w.cell? a = some v) : w1.cell? a = some v := (h.cell (World.block_lt_of_cell? w a hc)).trans hc
theorem Env.below {w w1 : World} (h : Env w) (hb : Below w.heap.size w w1) : Env w1 :=
  ⟨Utf8Tabs_below h.tabs hb, h.syn.imp fun _ ⟨p, hp⟩ => ⟨p, cell_stays hb hp⟩, h.rng.imp fun _ ⟨p, hp⟩ => ⟨p, cell_stays hb hp⟩⟩

theorem below_bytes (w : World) (e : TypeId) (s : ByteArray) : Below w.heap.size w (Lib.bytesWorld w e s) :=
  ⟨rfl, rfl, rfl, by rw [Lib.bytesWorld_size]; omega, fun i hi => Lib.bytesWorld_at_old w e s i (by omega)⟩

set_option maxHeartbeats 1000000 in
theorem parse16 (t : ByteArray) (hne : t.size ≠ 0) (h16 : t.size ≤ 16) (hall : t.data.toList.all hexB = true) (w : World) :
    Calls Tryz.prog 129 #[.string t, .int .i64 16, .int .i64 64] w fun e w' => e = .returned (.tuple #[.int .u64 (valL 16 hexV 0 t.data.toList), .nilIface]) ∧ Below w.heap.size w w' := by
  have hb := below_bytes w 5 t
  generalize hv : valL 16 hexV 0 t.data.toList = v
  have HV := Lib.hid hv; clear hv
  go_enter Tryz.func129, Tryz.ntmps129
  go_wp2_with fail
  refine (inner_parse16 t hne h16 hall w).mono ?_
  rintro e w' ⟨rfl, hw⟩
  rw [HV.out]
  rw [← hw] at hb
  clear hw
  go_wp2
  go_ret2
  exact ⟨rfl, hb⟩

theorem parse10_ok (t : ByteArray) (hne : t.size ≠ 0) (hs : t.size ≤ 140737488351232) (hall : t.data.toList.all digitB = true) (hlt : valL 10 digV 0 t.data.toList < 18446744073709551616) (w : World) :
    Calls Tryz.prog 129 #[.string t, .int .i64 10, .int .i64 64] w fun e w' => e = .returned (.tuple #[.int .u64 (valL 10 digV 0 t.data.toList), .nilIface]) ∧ Below w.heap.size w w' := by
  have hne' : t.data.toList ≠ [] := by intro h; apply hne; have : t.data.toList.length = t.size := by simp
                                       rw [h] at this; simpa using this.symm
  refine (Tryz.strconv_ParseUint_10_at64_ok t (by omega) _ (by rw [parseB_val _ hne' hall, if_pos hlt]) w).mono ?_
  rintro e w' ⟨rfl, rfl | rfl⟩
  · exact ⟨rfl, Below.refl _ _⟩
  · exact ⟨rfl, below_bytes _ _ _⟩
theorem parse10_range (t : ByteArray) (hne : t.size ≠ 0) (hs : t.size ≤ 140737488351232) (hall : t.data.toList.all digitB = true) (hlt : ¬ valL 10 digV 0 t.data.toList < 18446744073709551616) (w : World) (hE : Env w) :
    Calls Tryz.prog 129 #[.string t, .int .i64 10, .int .i64 64] w fun e w' => (∃ N, e = .returned (.tuple #[.int .u64 18446744073709551615, .iface 163 (.pointer (some ⟨N, 0, none⟩))])) ∧ Below w.heap.size w w' := by
  have hne' : t.data.toList ≠ [] := by intro h; apply hne; have : t.data.toList.length = t.size := by simp
                                       rw [h] at this; simpa using this.symm
  obtain ⟨te, pe, hc⟩ := hE.rng
  refine (Tryz.strconv_ParseUint_10_at64_range t (by omega) (by rw [parseB_val _ hne' hall, if_neg hlt]) _ w hc (.inr ⟨te, pe, rfl⟩)).mono ?_
  rintro e w' ⟨N, rfl, _, _, hb⟩
  exact ⟨⟨N, rfl⟩, hb⟩

def digs : ByteArray := ⟨#[48, 49, 50, 51, 52, 53, 54, 55, 56, 57, 97, 98, 99, 100, 101, 102]⟩
def dig16 : ByteArray := digs.extract 0 16
def dig10 : ByteArray := digs.extract 0 10
theorem dig16_low : ∀ d ∈ dig16.data.toList, d.toNat < 128 := by decide
theorem dig10_low : ∀ d ∈ dig10.data.toList, d.toNat < 128 := by decide
theorem dig16_in (c : UInt8) : isIn dig16 c = hexB c := by
  have h : ∀ n : Fin 256, isIn dig16 (UInt8.ofNat n) = hexB (UInt8.ofNat n) := by decide +kernel
  have := h ⟨c.toNat, c.toNat_lt⟩
  simpa using this
theorem dig10_in (c : UInt8) : isIn dig10 c = digitB c := by
  have h : ∀ n : Fin 256, isIn dig10 (UInt8.ofNat n) = digitB (UInt8.ofNat n) := by decide +kernel
  have := h ⟨c.toNat, c.toNat_lt⟩
  simpa using this
theorem all_dropWhile (p : UInt8 → Bool) (l : List UInt8) : (l.dropWhile p).all p = l.all p := by
  conv => rhs; rw [← List.takeWhile_append_dropWhile (p := p) (l := l)]
  rw [List.all_append]
  have : (l.takeWhile p).all p = true := List.all_takeWhile
  rw [this]; rfl
/-- both cuts leave nothing just of a text all of whose bytes are in the set -/
theorem cut_both {set s r t : ByteArray} (h1 : r.size ≤ s.size ∧ r.data.toList = s.data.toList.dropWhile (isIn set)) (h2 : CutR set r t) : (t.size = 0 ↔ s.data.toList.all (isIn set) = true) := by
  rw [h2.2, h1.2, all_dropWhile]

/-- the answer of Number -/
def numR (l : List UInt8) : Int × Bool := match numL l with | some n => (n, true) | none => (0, false)

theorem pre_take (l : List UInt8) : Lib.hasPrefix l [48, 120] = decide (l.take 2 = [48, 120]) := by
  unfold Lib.hasPrefix
  match l with
  | [] => rfl
  | [a] => simp [List.isPrefixOf]
  | a :: b :: r =>
    show (48 == a && (120 == b && true)) = decide ([a, b] = [48, 120])
    by_cases h1 : a = 48
    · subst h1
      by_cases h2 : b = 120
      · subst h2; rfl
      · rw [decide_eq_false (by simpa using h2), show ((120 : UInt8) == b) = false by simpa using Ne.symm h2]; rfl
    · rw [decide_eq_false (by simp [h1]), show ((48 : UInt8) == a) = false by simpa using Ne.symm h1]; rfl
theorem numR_dec {l : List UInt8} (hp : Lib.hasPrefix l [48, 120] = false) :
    numR l = if 1 ≤ l.length ∧ ¬ (1 < l.length ∧ l.head? = some 48) ∧ l.all digitB = true ∧ valL 10 digV 0 l < 18446744073709551616 then ((valL 10 digV 0 l : Int), true) else (0, false) := by
  rw [pre_take, decide_eq_false_iff_not] at hp
  unfold numR numL
  rw [if_neg hp]
  by_cases h : 1 ≤ l.length ∧ ¬ (1 < l.length ∧ l.head? = some 48) ∧ l.all digitB = true ∧ valL 10 digV 0 l < 18446744073709551616
  · rw [if_pos h, if_pos h]
  · rw [if_neg h, if_neg h]
theorem numR_hex {l : List UInt8} (hp : Lib.hasPrefix l [48, 120] = true) :
    numR l = if 1 ≤ (l.drop 2).length ∧ (l.drop 2).length ≤ 16 ∧ (l.drop 2).all hexB = true then ((valL 16 hexV 0 (l.drop 2) : Int), true) else (0, false) := by
  rw [pre_take, decide_eq_true_eq] at hp
  unfold numR numL
  rw [if_pos hp]
  by_cases h : 1 ≤ (l.drop 2).length ∧ (l.drop 2).length ≤ 16 ∧ (l.drop 2).all hexB = true
  · rw [if_pos h, if_pos h]
  · rw [if_neg h, if_neg h]
theorem isIn16 : isIn dig16 = hexB := funext dig16_in
theorem isIn10 : isIn dig10 = digitB := funext dig10_in

set_option maxHeartbeats 4000000 in
set_option maxRecDepth 100000 in
theorem number_dec (s : ByteArray) (w : World) (hs : s.size ≤ 140737488351232) (hE : Env w) (hp : Lib.hasPrefix s.data.toList [48, 120] = false) :
    Calls Tryz.prog 105 #[.string s] w fun e w' => e = .returned (.tuple #[.int .u64 (numR s.data.toList).1, .bool (numR s.data.toList).2]) ∧ Below w.heap.size w w' := by
  rw [numR_dec hp]
  have hm : s.size ≤ maxLen := by unfold maxLen; omega
  have HP := Lib.hid hp
  have htr : Lib.trimPrefix s.data.toList [48, 120] = s.data.toList := by simp [Lib.trimPrefix, hp]
  have HTR := Lib.hid htr
  have hl : s.data.toList.length = s.size := by simp
  clear hp htr
  by_cases h0 : s.size = 0
  · rw [if_neg (by rw [hl]; omega)]
    have he := empty_yes h0
    clear h0 hl hm
    go_enter Tryz.func105, Tryz.ntmps105
    go_wp2_with fail
    refine (Tryz.strings_CutPrefix _ _ _).mono ?_
    rintro e w' ⟨rfl, rfl⟩
    rw [show Lib.hasPrefix s.data.toList _ = false from HP.out, show Lib.trimPrefix s.data.toList _ = s.data.toList from HTR.out]
    go_wp2
    go_ret2
    exact ⟨rfl, Below.refl _ _⟩
  · have hpos : 0 < s.size := by omega
    have he := empty_no hpos
    clear h0
    have hc : s.data.toList.head? = some s[0] := by
      have := drop_cons s 0 hpos
      rw [List.drop_zero] at this
      rw [this]; rfl
    rw [hc]
    have HL := Lib.hid hl; clear hl hc
    by_cases h12 : 1 < s.size ∧ s[0] = 48
    · obtain ⟨h1, h2⟩ := h12
      rw [if_neg (by rw [HL.out, h2]; simp; omega)]
      have hx : (((s[0]).toNat : Int) == 48) = true := by rw [h2]; rfl
      clear h2
      go_enter Tryz.func105, Tryz.ntmps105
      go_wp2_with fail
      refine (Tryz.strings_CutPrefix _ _ _).mono ?_
      rintro e w' ⟨rfl, rfl⟩
      rw [show Lib.hasPrefix s.data.toList _ = false from HP.out, show Lib.trimPrefix s.data.toList _ = s.data.toList from HTR.out]
      go_wp2
      go_ret2
      exact ⟨rfl, Below.refl _ _⟩
    · have hn : (1 ≤ s.data.toList.length ∧ ¬ (1 < s.data.toList.length ∧ some s[0] = some 48) ∧ s.data.toList.all digitB = true ∧ valL 10 digV 0 s.data.toList < 18446744073709551616) ↔ (s.data.toList.all digitB = true ∧ valL 10 digV 0 s.data.toList < 18446744073709551616) := by
        rw [HL.out]
        constructor
        · exact fun h => h.2.2
        · exact fun h => ⟨hpos, fun h' => h12 ⟨h'.1, Option.some.inj h'.2⟩, h⟩
      simp only [hn]
      generalize hR : (if s.data.toList.all digitB = true ∧ valL 10 digV 0 s.data.toList < 18446744073709551616 then ((valL 10 digV 0 s.data.toList : Int), true) else ((0 : Int), false)) = R
      have HRR := Lib.hid hR; clear hR
      have hx : s.size ≤ 1 ∨ (1 < s.size ∧ (((s[0]).toNat : Int) == 48) = false) := by
        by_cases h1 : 1 < s.size
        · right
          refine ⟨h1, ?_⟩
          rw [beq_eq_false_iff_ne]
          intro h
          exact h12 ⟨h1, by rw [← UInt8.toNat_inj]; show _ = 48; omega⟩
        · left; omega
      clear hn h12
      rcases hx with hx | ⟨hx, hx2⟩
      all_goals
        go_enter Tryz.func105, Tryz.ntmps105
        go_wp2_with fail
        refine (Tryz.strings_CutPrefix _ _ _).mono ?_
        rintro e w' ⟨rfl, rfl⟩
        rw [show Lib.hasPrefix s.data.toList _ = false from HP.out, show Lib.trimPrefix s.data.toList _ = s.data.toList from HTR.out]
        go_wp2_with fail
        refine (cutLeft_any s dig10 _ hm dig10_low (by unfold maxLen; decide)).mono ?_
        rintro e w1 ⟨⟨r1, rfl, HR1⟩, hb1⟩
        have hE1 := hE.below hb1
        have hrm : r1.size ≤ maxLen := by have := HR1.out.1; omega
        go_wp2_with fail
        refine (cutRight_any r1 dig10 _ hrm dig10_low (by unfold maxLen; decide) hE1.tabs).mono ?_
        rintro e w2 ⟨⟨r2, rfl, HR2⟩, hb2⟩
        have hE2 := hE1.below hb2
        have hb12 := hb1.trans (hb2.mono hb1.size)
        have hcb := cut_both HR1.out HR2.out
        rw [isIn10] at hcb
        clear hb1 hb2 hE1 hrm HR1 HR2
        by_cases hall : s.data.toList.all digitB = true
        · have he2 := empty_yes (hcb.2 hall)
          by_cases hlt : valL 10 digV 0 s.data.toList < 18446744073709551616
          · have HV : Hid (((valL 10 digV 0 s.data.toList : Int), true) = R) := (if_pos ⟨hall, hlt⟩).symm.trans HRR.out
            clear HRR
            have HC := Lib.hid (parse10_ok s (by omega) hs hall hlt w2)
            generalize (valL 10 digV 0 s.data.toList : Int) = v at HC HV
            clear hcb hall hlt
            go_wp2_with fail
            refine HC.out.mono ?_
            rintro e w3 ⟨rfl, hb3⟩
            have hb13 := hb12.trans (hb3.mono hb12.size)
            go_wp2
            go_ret2
            exact ⟨by rw [← HV.out]; rfl, hb13⟩
          · have HV : Hid (((0 : Int), false) = R) := (if_neg (fun h => hlt h.2)).symm.trans HRR.out
            clear HRR
            have HC := Lib.hid (parse10_range s (by omega) hs hall hlt w2 hE2)
            clear hcb hall hlt
            go_wp2_with fail
            refine HC.out.mono ?_
            rintro e w3 ⟨⟨N, rfl⟩, hb3⟩
            have hb13 := hb12.trans (hb3.mono hb12.size)
            go_wp2
            go_ret2
            exact ⟨by rw [← HV.out]; rfl, hb13⟩
        · have HV : Hid (((0 : Int), false) = R) := (if_neg (fun h => hall h.1)).symm.trans HRR.out
          clear HRR
          have he2 := empty_no (s := r2) (by have : ¬ r2.size = 0 := fun h => hall (hcb.1 h); omega)
          clear hcb hall
          go_wp2
          go_ret2
          exact ⟨by rw [← HV.out]; rfl, hb12⟩

set_option maxHeartbeats 4000000 in
set_option maxRecDepth 100000 in
theorem number_hex (s : ByteArray) (w : World) (hs : s.size ≤ 140737488351232) (hE : Env w) (hp : Lib.hasPrefix s.data.toList [48, 120] = true) :
    Calls Tryz.prog 105 #[.string s] w fun e w' => e = .returned (.tuple #[.int .u64 (numR s.data.toList).1, .bool (numR s.data.toList).2]) ∧ Below w.heap.size w w' := by
  rw [numR_hex hp]
  have HP := Lib.hid hp
  have htr : Lib.trimPrefix s.data.toList [48, 120] = s.data.toList.drop 2 := by simp [Lib.trimPrefix, hp]
  have hsl : s.data.toList.length = s.size := by simp
  obtain ⟨t, ht⟩ : ∃ t : ByteArray, t = ⟨(Lib.trimPrefix s.data.toList [48, 120]).toArray⟩ := ⟨_, rfl⟩
  have htl : t.data.toList = s.data.toList.drop 2 := by rw [ht, htr]
  have hl : t.data.toList.length = t.size := by simp
  have hts : t.size ≤ s.size := by rw [← hl, htl]; simp
  have hm : t.size ≤ maxLen := by unfold maxLen; omega
  rw [← htl]
  have HTR := Lib.hid ht.symm
  clear hp htr ht htl hsl
  generalize hR : (if 1 ≤ t.data.toList.length ∧ t.data.toList.length ≤ 16 ∧ t.data.toList.all hexB = true then ((valL 16 hexV 0 t.data.toList : Int), true) else ((0 : Int), false)) = R
  have HRR := Lib.hid hR; clear hR
  by_cases h0 : t.size = 0
  · have HV : Hid (((0 : Int), false) = R) := (if_neg (by rw [hl]; omega)).symm.trans HRR.out
    have he := empty_yes h0
    clear h0 hl hm HRR
    go_enter Tryz.func105, Tryz.ntmps105
    go_wp2_with fail
    refine (Tryz.strings_CutPrefix _ _ _).mono ?_
    rintro e w' ⟨rfl, rfl⟩
    rw [show Lib.hasPrefix s.data.toList _ = true from HP.out, show (⟨(Lib.trimPrefix s.data.toList _).toArray⟩ : ByteArray) = t from HTR.out]
    go_wp2
    go_ret2
    exact ⟨by rw [← HV.out]; rfl, Below.refl _ _⟩
  · have hpos : 0 < t.size := by omega
    have he := empty_no hpos
    clear h0
    by_cases h1 : 16 < t.size
    · have HV : Hid (((0 : Int), false) = R) := (if_neg (by rw [hl]; omega)).symm.trans HRR.out
      clear hl hm HRR
      go_enter Tryz.func105, Tryz.ntmps105
      go_wp2_with fail
      refine (Tryz.strings_CutPrefix _ _ _).mono ?_
      rintro e w' ⟨rfl, rfl⟩
      rw [show Lib.hasPrefix s.data.toList _ = true from HP.out, show (⟨(Lib.trimPrefix s.data.toList _).toArray⟩ : ByteArray) = t from HTR.out]
      go_wp2
      go_ret2
      exact ⟨by rw [← HV.out]; rfl, Below.refl _ _⟩
    · have h16 : t.size ≤ 16 := by omega
      clear h1
      have HL := Lib.hid hl; clear hl
      go_enter Tryz.func105, Tryz.ntmps105
      go_wp2_with fail
      refine (Tryz.strings_CutPrefix _ _ _).mono ?_
      rintro e w' ⟨rfl, rfl⟩
      rw [show Lib.hasPrefix s.data.toList _ = true from HP.out, show (⟨(Lib.trimPrefix s.data.toList _).toArray⟩ : ByteArray) = t from HTR.out]
      go_wp2_with fail
      refine (cutLeft_any t dig16 _ hm dig16_low (by unfold maxLen; decide)).mono ?_
      rintro e w1 ⟨⟨r1, rfl, HR1⟩, hb1⟩
      have hE1 := hE.below hb1
      have hrm : r1.size ≤ maxLen := by have := HR1.out.1; omega
      go_wp2_with fail
      refine (cutRight_any r1 dig16 _ hrm dig16_low (by unfold maxLen; decide) hE1.tabs).mono ?_
      rintro e w2 ⟨⟨r2, rfl, HR2⟩, hb2⟩
      have hE2 := hE1.below hb2
      have hb12 := hb1.trans (hb2.mono hb1.size)
      have hcb := cut_both HR1.out HR2.out
      rw [isIn16] at hcb
      clear hb1 hb2 hE1 hrm HR1 HR2
      by_cases hall : t.data.toList.all hexB = true
      · have he2 := empty_yes (hcb.2 hall)
        have HV : Hid (((valL 16 hexV 0 t.data.toList : Int), true) = R) := (if_pos (by rw [HL.out]; exact ⟨by omega, h16, hall⟩)).symm.trans HRR.out
        clear HRR
        have HC := Lib.hid (parse16 t (by omega) h16 hall w2)
        generalize (valL 16 hexV 0 t.data.toList : Int) = v at HC HV
        clear hcb hall
        go_wp2_with fail
        refine HC.out.mono ?_
        rintro e w3 ⟨rfl, hb3⟩
        have hb13 := hb12.trans (hb3.mono hb12.size)
        go_wp2
        go_ret2
        exact ⟨by rw [← HV.out]; rfl, hb13⟩
      · have HV : Hid (((0 : Int), false) = R) := (if_neg (fun h => hall h.2.2)).symm.trans HRR.out
        clear HRR
        have he2 := empty_no (s := r2) (by have : ¬ r2.size = 0 := fun h => hall (hcb.1 h); omega)
        clear hcb hall
        go_wp2
        go_ret2
        exact ⟨by rw [← HV.out]; rfl, hb12⟩

theorem number_any (s : ByteArray) (w : World) (hs : s.size ≤ 140737488351232) (hE : Env w) :
    Calls Tryz.prog 105 #[.string s] w fun e w' => e = .returned (.tuple #[.int .u64 (numR s.data.toList).1, .bool (numR s.data.toList).2]) ∧ Below w.heap.size w w' := by
  cases hp : Lib.hasPrefix s.data.toList [48, 120]
  · exact number_dec s w hs hE hp
  · exact number_hex s w hs hE hp
end Go.Proofs.YtlmopoipjolbgaaGreatDoor.LexW
