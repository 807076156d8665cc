/-
  The walks of the reference's layer 5: words, signs, numbers.
-/
import Derived.Test.YtlmopoipjolbgaaDoorLexR1
namespace Go.Proofs.YtlmopoipjolbgaaDoor.LexW
open Go.RowKit Go.Shelf Go.Proofs.YtlmopoipjolbgaaDoor.LexS
set_option linter.unusedVariables false
set_option linter.unusedSimpArgs false

set_option maxHeartbeats 1000000 in
theorem rword_any (s : ByteArray) (w : World) (hs : s.size ≤ maxLen) :
    Calls Tryd.prog 13 #[.string s] w fun e w' => e = .returned (.bool (wordL s.data.toList)) ∧ w = w' := by
  by_cases h0 : s.size = 0
  · rw [word_no s (.inl h0)]
    have h1 : (s.size : Int) < 1 := by omega
    clear h0
    go_enter Tryd.func13, Tryd.ntmps13
    go_wp2
    go_ret
    exact ⟨rfl, rfl⟩
  · have hp : 0 < s.size := by omega
    clear h0
    by_cases h32 : 32 < s.size
    · rw [word_no s (.inr h32)]
      go_enter Tryd.func13, Tryd.ntmps13
      go_wp2
      go_ret
      exact ⟨rfl, rfl⟩
    · have h33 : s.size ≤ 32 := by omega
      clear h32
      rw [word_yes s hp h33]
      cases hb : letterB s[0]
      · have HB := Lib.hid hb; clear hb
        go_enter Tryd.func13, Tryd.ntmps13
        go_wp2_with fail
        refine (rletter_any _ _).mono ?_; rintro e w' ⟨rfl, rfl⟩; rw [HB.out]
        go_wp2
        go_ret
        exact ⟨rfl, rfl⟩
      · have HB := Lib.hid hb; clear hb
        generalize hm : whileN wordB s 0 = m
        have HM := Lib.hid hm; clear hm
        go_enter Tryd.func13, Tryd.ntmps13
        go_wp2_with fail
        refine (rletter_any _ _).mono ?_; rintro e w' ⟨rfl, rfl⟩; rw [HB.out]
        go_wp2_with fail
        refine (rrun_any _ 0 _ hs (Nat.zero_le _)).mono ?_; rintro e w' ⟨rfl, rfl⟩; rw [HM.out]
        go_wp2
        go_ret
        exact ⟨ret_bool (by rw [Bool.eq_iff_iff]; simp; omega), rfl⟩

/-- the sign by its first byte and whether '=' follows -/
def signI (n : Int) (b : Bool) : Int :=
  if n = 59 ∨ n = 44 ∨ n = 40 ∨ n = 41 ∨ n = 38 then 1 else if n = 60 ∨ n = 62 then (if b then 2 else 1) else if n = 61 ∨ n = 33 then (if b then 2 else 0) else 0
theorem sign_int (c : UInt8) (r : List UInt8) : (signL (c :: r) : Int) = signI (c.toNat : Int) (r.head? == some 61) := by
  have e (n : UInt8) : (c == n) = decide ((c.toNat : Int) = (n.toNat : Int)) := by
    rw [Bool.eq_iff_iff]; simp [← UInt8.toNat_inj]; omega
  simp only [signL]
  rw [e 61, e 33, e 60, e 62, e 59, e 44, e 40, e 41, e 38]
  simp only [show ((61 : UInt8).toNat : Int) = 61 from rfl, show ((33 : UInt8).toNat : Int) = 33 from rfl, show ((60 : UInt8).toNat : Int) = 60 from rfl, show ((62 : UInt8).toNat : Int) = 62 from rfl, show ((59 : UInt8).toNat : Int) = 59 from rfl, show ((44 : UInt8).toNat : Int) = 44 from rfl, show ((40 : UInt8).toNat : Int) = 40 from rfl, show ((41 : UInt8).toNat : Int) = 41 from rfl, show ((38 : UInt8).toNat : Int) = 38 from rfl]
  generalize (c.toNat : Int) = n
  unfold signI
  cases (r.head? == some 61)
  · simp only [Bool.and_false, Bool.false_eq_true, if_false, Bool.or_eq_true, decide_eq_true_eq]
    split <;> split <;> (try split) <;> (try split) <;> (try omega)
    all_goals (first | rfl | (exfalso; omega))
  · simp only [Bool.and_true, if_true, Bool.or_eq_true, decide_eq_true_eq]
    split <;> split <;> (try split) <;> (try split) <;> (try omega)
    all_goals (first | rfl | (exfalso; omega))

theorem next_eq (s : ByteArray) (k : Nat) (hk : k < s.size) : ((s.data.toList.drop (k + 1)).head? == some 61) = (if h : k + 1 < s.size then ((s[k + 1]).toNat : Int) == 61 else false) := by
  by_cases h : k + 1 < s.size
  · rw [dif_pos h, drop_cons s (k + 1) h, List.head?_cons]
    rw [Bool.eq_iff_iff]; simp [← UInt8.toNat_inj]; omega
  · rw [dif_neg h, List.drop_of_length_le (by simp; omega)]; rfl

set_option maxHeartbeats 4000000 in
theorem rsign_any (s : ByteArray) (k : Nat) (w : World) (hs : s.size ≤ maxLen) (hk : k < s.size) :
    Calls Tryd.prog 40 #[.string s, .int .i64 k] w fun e w' => e = .returned (.int .i64 (signL (s.data.toList.drop k))) ∧ w = w' := by
  unfold maxLen at hs
  rw [drop_cons s k hk, sign_int, next_eq s k hk]
  obtain ⟨n, hn⟩ : ∃ n : Int, n = ((s[k]).toNat : Int) := ⟨_, rfl⟩
  rw [← hn]
  have hc : n = 59 ∨ n = 44 ∨ n = 40 ∨ n = 41 ∨ n = 38 ∨ n = 60 ∨ n = 62 ∨ n = 61 ∨ n = 33 ∨ (n ≠ 59 ∧ n ≠ 44 ∧ n ≠ 40 ∧ n ≠ 41 ∧ n ≠ 38 ∧ n ≠ 60 ∧ n ≠ 62 ∧ n ≠ 61 ∧ n ≠ 33) := by omega
  have Hn := Lib.hid hn.symm; clear hn
  by_cases h1 : k + 1 < s.size
  · rw [dif_pos h1]
    have h1' : (k : Int) + 1 < (s.size : Int) := by omega
    cases hb : (((s[k + 1]).toNat : Int) == 61)
    all_goals
      rcases hc with rfl | rfl | rfl | rfl | rfl | rfl | rfl | rfl | rfl | hc
      case inr.inr.inr.inr.inr.inr.inr.inr.inr =>
        rw [show signI n _ = 0 by unfold signI; simp [hc]]
        have e1 : (n == 59) = false := by rw [beq_eq_false_iff_ne]; exact hc.1
        have e2 : (n == 44) = false := by rw [beq_eq_false_iff_ne]; exact hc.2.1
        have e3 : (n == 40) = false := by rw [beq_eq_false_iff_ne]; exact hc.2.2.1
        have e4 : (n == 41) = false := by rw [beq_eq_false_iff_ne]; exact hc.2.2.2.1
        have e5 : (n == 38) = false := by rw [beq_eq_false_iff_ne]; exact hc.2.2.2.2.1
        have e6 : (n == 60) = false := by rw [beq_eq_false_iff_ne]; exact hc.2.2.2.2.2.1
        have e7 : (n == 62) = false := by rw [beq_eq_false_iff_ne]; exact hc.2.2.2.2.2.2.1
        have e8 : (n == 61) = false := by rw [beq_eq_false_iff_ne]; exact hc.2.2.2.2.2.2.2.1
        have e9 : (n == 33) = false := by rw [beq_eq_false_iff_ne]; exact hc.2.2.2.2.2.2.2.2
        clear hc
        rw [← Hn.out] at e1 e2 e3 e4 e5 e6 e7 e8 e9
        go_enter Tryd.func40, Tryd.ntmps40
        go_wp2
        go_ret
        exact ⟨rfl, rfl⟩
      all_goals
        have hn := Hn.out
        go_enter Tryd.func40, Tryd.ntmps40
        go_wp2
        go_ret
        exact ⟨rfl, rfl⟩
  · rw [dif_neg h1]
    have h1' : (s.size : Int) ≤ (k : Int) + 1 := by omega
    rcases hc with rfl | rfl | rfl | rfl | rfl | rfl | rfl | rfl | rfl | hc
    case inr.inr.inr.inr.inr.inr.inr.inr.inr =>
      rw [show signI n _ = 0 by unfold signI; simp [hc]]
      have e1 : (n == 59) = false := by rw [beq_eq_false_iff_ne]; exact hc.1
      have e2 : (n == 44) = false := by rw [beq_eq_false_iff_ne]; exact hc.2.1
      have e3 : (n == 40) = false := by rw [beq_eq_false_iff_ne]; exact hc.2.2.1
      have e4 : (n == 41) = false := by rw [beq_eq_false_iff_ne]; exact hc.2.2.2.1
      have e5 : (n == 38) = false := by rw [beq_eq_false_iff_ne]; exact hc.2.2.2.2.1
      have e6 : (n == 60) = false := by rw [beq_eq_false_iff_ne]; exact hc.2.2.2.2.2.1
      have e7 : (n == 62) = false := by rw [beq_eq_false_iff_ne]; exact hc.2.2.2.2.2.2.1
      have e8 : (n == 61) = false := by rw [beq_eq_false_iff_ne]; exact hc.2.2.2.2.2.2.2.1
      have e9 : (n == 33) = false := by rw [beq_eq_false_iff_ne]; exact hc.2.2.2.2.2.2.2.2
      clear hc
      rw [← Hn.out] at e1 e2 e3 e4 e5 e6 e7 e8 e9
      go_enter Tryd.func40, Tryd.ntmps40
      go_wp2
      go_ret
      exact ⟨rfl, rfl⟩
    all_goals
      have hn := Hn.out
      go_enter Tryd.func40, Tryd.ntmps40
      go_wp2
      go_ret
      exact ⟨rfl, rfl⟩
end Go.Proofs.YtlmopoipjolbgaaDoor.LexW
