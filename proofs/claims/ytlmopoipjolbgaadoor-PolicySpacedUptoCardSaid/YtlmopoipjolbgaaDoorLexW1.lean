/-
  The walks of layer 5 (lex), first part: bytes, and the place behind all bytes that are so.
-/
import Derived.Test.YtlmopoipjolbgaaDoorLexSpec
import Derived.Test.YtlmopoipjolbgaaDoorProg
import Derived.WalkKit
import Derived.WalkSpells
import Derived.WalkLawsBesides
import Derived.Lib.Hide
import Derived.Shelf.Abstract
namespace Go.Proofs.YtlmopoipjolbgaaDoor.LexW
open Go.RowKit Go.Shelf Go.Proofs.YtlmopoipjolbgaaDoor.LexS
set_option linter.unusedVariables false
set_option linter.unusedSimpArgs false

theorem letter_nat (c : UInt8) : letterB c = ((decide (97 ≤ (c.toNat : Int)) && decide ((c.toNat : Int) ≤ 122)) || ((decide (65 ≤ (c.toNat : Int)) && decide ((c.toNat : Int) ≤ 90)) || decide ((c.toNat : Int) = 95))) := by
  have e95 : (c == 95) = decide ((c.toNat : Int) = 95) := by
    rw [Bool.eq_iff_iff]; simp [← UInt8.toNat_inj]; omega
  unfold letterB
  rw [e95]; simp [UInt8.le_iff_toNat_le]
  rw [Bool.eq_iff_iff]; simp; omega
theorem digit_nat (c : UInt8) : digitB c = (decide (48 ≤ (c.toNat : Int)) && decide ((c.toNat : Int) ≤ 57)) := by
  unfold digitB
  simp [UInt8.le_iff_toNat_le]
  rw [Bool.eq_iff_iff]; simp; omega
theorem ret_bool {a b : Bool} (h : a = b) : Ending.returned (.bool a) = .returned (.bool b) := by rw [h]
theorem ret_int {k : IntKind} {a b : Int} (h : a = b) : Ending.returned (.int k a) = .returned (.int k b) := by rw [h]

set_option maxHeartbeats 400000 in
theorem letter_any (c : UInt8) (w : World) :
    Calls Tryd.prog 31 #[.int .u8 (c.toNat : Int)] w fun e w' => e = .returned (.bool (letterB c)) ∧ w = w' := by
  rw [letter_nat]
  generalize (c.toNat : Int) = n
  by_cases h1 : 97 ≤ n
  all_goals by_cases h2 : n ≤ 122
  all_goals by_cases h3 : 65 ≤ n
  all_goals by_cases h4 : n ≤ 90
  all_goals try (exfalso; omega)
  all_goals
    go_enter Tryd.func31, Tryd.ntmps31
    go_wp2
    go_ret
    exact ⟨ret_bool (by first | rfl | (rw [Bool.eq_iff_iff]; simp; omega)), rfl⟩

set_option maxHeartbeats 400000 in
theorem digit_any (c : UInt8) (w : World) :
    Calls Tryd.prog 37 #[.int .u8 (c.toNat : Int)] w fun e w' => e = .returned (.bool (digitB c)) ∧ w = w' := by
  rw [digit_nat]
  generalize (c.toNat : Int) = n
  by_cases h1 : 48 ≤ n
  all_goals by_cases h2 : n ≤ 57
  all_goals try (exfalso; omega)
  all_goals
    go_enter Tryd.func37, Tryd.ntmps37
    go_wp2
    go_ret
    exact ⟨ret_bool (by first | rfl | (rw [Bool.eq_iff_iff]; simp; omega)), rfl⟩

/-- a predicate on bytes, as a function of the program -/
def IsPred (g : Nat) (p : UInt8 → Bool) : Prop := ∀ (c : UInt8) (w : World), Calls Tryd.prog g #[.int .u8 (c.toNat : Int)] w fun e w' => e = .returned (.bool (p c)) ∧ w = w'

set_option maxHeartbeats 400000 in
theorem run1_pred : IsPred 51 wordB := by
  intro c w
  unfold wordB
  cases hl : letterB c
  all_goals
    have Hl := Lib.hid hl; clear hl
    go_enter Tryd.func51, Tryd.ntmps51
    go_wp2_with (first | (go_at_call 31; refine (letter_any _ _).mono ?_; rintro e w' ⟨rfl, rfl⟩; rw [Hl.out]) | (go_at_call 37; refine (digit_any _ _).mono ?_; rintro e w' ⟨rfl, rfl⟩))
    go_ret
    exact ⟨ret_bool (by simp), rfl⟩

set_option maxHeartbeats 400000 in
theorem begin2_pred : IsPred 54 (fun c => c != 10) := by
  intro c w
  show Calls _ _ _ _ fun e w' => e = .returned (.bool (c != 10)) ∧ w = w'
  have e10 : (c != 10) = ((c.toNat : Int) != 10) := by
    rw [Bool.eq_iff_iff]; simp [← UInt8.toNat_inj]; omega
  rw [e10]
  generalize (c.toNat : Int) = n
  go_enter Tryd.func54, Tryd.ntmps54
  go_wp2
  go_ret
  exact ⟨ret_bool (by simp), rfl⟩

/-- the place behind all bytes that are so -/
def whileN (p : UInt8 → Bool) (s : ByteArray) (at_ : Nat) : Nat := at_ + ((s.data.toList.drop at_).takeWhile p).length
theorem drop_cons (s : ByteArray) (k : Nat) (h : k < s.size) : s.data.toList.drop k = s[k] :: s.data.toList.drop (k + 1) := by
  rw [List.drop_eq_getElem_cons (by simpa using h)]; rfl
theorem whileN_yes {p : UInt8 → Bool} {s : ByteArray} {k : Nat} (h : k < s.size) (hp : p s[k] = true) : whileN p s k = whileN p s (k + 1) := by
  unfold whileN; rw [drop_cons s k h]; simp [hp]; omega
theorem whileN_no {p : UInt8 → Bool} {s : ByteArray} {k : Nat} (h : k < s.size) (hp : p s[k] = false) : whileN p s k = k := by
  unfold whileN; rw [drop_cons s k h]; simp [hp]
theorem whileN_end {p : UInt8 → Bool} {s : ByteArray} {k : Nat} (h : s.size ≤ k) : whileN p s k = k := by
  unfold whileN; rw [List.drop_of_length_le (by simpa using h)]; simp
theorem whileN_ge (p : UInt8 → Bool) (s : ByteArray) (k : Nat) : k ≤ whileN p s k := by unfold whileN; omega
theorem whileN_le (p : UInt8 → Bool) (s : ByteArray) (k : Nat) (h : k ≤ s.size) : whileN p s k ≤ s.size := by
  unfold whileN
  have h1 := (List.takeWhile_sublist p (l := s.data.toList.drop k)).length_le
  simp at h1
  have : s.data.size = s.size := rfl
  omega

set_option maxHeartbeats 400000 in
set_option maxRecDepth 100000 in
theorem while_any {g : Nat} {p : UInt8 → Bool} (he : Enters Tryd.prog g) (hp : IsPred g p) (s : ByteArray) (k : Nat) (w : World) (hs : s.size ≤ maxLen) (hk : k ≤ s.size) :
    Calls Tryd.prog 50 #[.string s, .int .i64 k, .func (.func g) #[] #[]] w fun e w' => e = .returned (.int .i64 (whileN p s k)) ∧ w = w' := by
  unfold maxLen at hs
  have HP := Lib.hid hp; clear hp
  have heg : ∀ (args : Array Value) (w : World), (callFunc g args).run Tryd.prog w = .ok (.enter g args) w := he
  go_enter Tryd.func50, Tryd.ntmps50
  go_wp2
  go_loop [1] (fun i => ∃ j : Nat, k ≤ j ∧ j ≤ s.size ∧ i = .int .i64 j ∧ whileN p s k = whileN p s j) (fun i => s.size - (intOf i).toNat)
  case atStart => exact ⟨k, Nat.le_refl _, hk, rfl, rfl⟩
  case round =>
    obtain ⟨j, hj1, hj2, rfl, hj3⟩ := hrel
    have HJ := Lib.hid hj3; clear hj3
    by_cases hlt : j < s.size
    · cases hb : p s[j]
      all_goals
        have Hb := Lib.hid hb; clear hb
        go_wp2_with (go_at_fn g; refine (HP.out _ _).mono ?_; rintro e w' ⟨rfl, rfl⟩; rw [Hb.out])
      · go_ret
        exact ⟨ret_int (by rw [HJ.out, whileN_no hlt Hb.out]), rfl⟩
      · go_round
        case rel => exact ⟨j + 1, by omega, by omega, by go_num, by rw [HJ.out, whileN_yes hlt Hb.out]⟩
        case measure => simp [intOf]; omega
    · have hle : s.size ≤ j := by omega
      clear hlt
      go_wp2_with (fail)
      go_ret
      exact ⟨ret_int (by rw [HJ.out, whileN_end hle]), rfl⟩
end Go.Proofs.YtlmopoipjolbgaaDoor.LexW
