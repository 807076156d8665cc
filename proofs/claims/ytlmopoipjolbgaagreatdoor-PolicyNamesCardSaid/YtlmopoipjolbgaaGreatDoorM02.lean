/-
  The walks of layer 5 (lex), eighth part: the token that begins at a place. · The walks of the reference's layer 5: bytes, blanks, words, signs. · The walks of the reference's layer 5: words, signs, numbers. · The walks of the reference's layer 5: numbers. · The walks of the reference's layer 5: the token that begins at a place. · Plain words of layer 5 (lex): what a text's tokens are.
-/
import Derived.Test.YtlmopoipjolbgaaGreatDoorM01
import Derived.Test.YtlmopoipjolbgaaGreatDoorWWords
namespace Go.Proofs.YtlmopoipjolbgaaGreatDoor.LexW
open Go.RowKit Go.Shelf Go.Proofs.YtlmopoipjolbgaaGreatDoor.LexS
set_option linter.unusedVariables false
set_option linter.unusedSimpArgs false

/-- what Next answers: kind, text, number, place; the place behind; the error -/
abbrev NextT : Type := Int × ByteArray × Int × Int × Int × Int
def nil0 : ByteArray := ⟨#[]⟩
def tokV (s : ByteArray) (p e : Nat) (c : UInt8) : NextT :=
  if letterB c then (if 32 < e - p then (0, nil0, 0, 0, p, 52) else (2, s.extract p e, 0, p, e, 0))
  else if digitB c then (if (numR (s.extract p e).data.toList).2 then (3, s.extract p e, (numR (s.extract p e).data.toList).1, p, e, 0) else (0, nil0, 0, 0, p, 53))
  else if signL (s.data.toList.drop p) = 0 then (0, nil0, 0, 0, p, 51) else (4, s.extract p (p + signL (s.data.toList.drop p)), 0, p, p + signL (s.data.toList.drop p), 0)
def nextV (s : ByteArray) (at_ : Int) : NextT :=
  if 65536 < s.size then (0, nil0, 0, 0, 0, 54)
  else if at_ < 0 ∨ (s.size : Int) < at_ then (0, nil0, 0, 0, 0, 1)
  else if h : beginN s at_.toNat < s.size then tokV s (beginN s at_.toNat) (whileN wordB s (beginN s at_.toNat)) (s[beginN s at_.toNat])
  else (1, nil0, 0, s.size, s.size, 0)
def nextVal (x : NextT) : Value := .tuple #[.agg #[.int .i64 x.1, .string x.2.1, .int .u64 x.2.2.1, .int .i64 x.2.2.2.1], .int .i64 x.2.2.2.2.1, .int .i64 x.2.2.2.2.2]

theorem sign_drop (s : ByteArray) (p : Nat) : (s.extract p s.size).data.toList = s.data.toList.drop p := Lib.extract_to_end s p
theorem sign_le (l : List UInt8) : signL l ≤ l.length := by
  cases l with
  | nil => simp [signL]
  | cons c r =>
    simp only [signL]
    split
    · rename_i h
      rw [Bool.and_eq_true] at h
      cases r with
      | nil => simp at h
      | cons d r => simp
    · split <;> simp

theorem bcell {W w1 : World} (hb : Below W.heap.size W w1) : (∀ b o, b < W.heap.size → w1.cell? ⟨b, o, none⟩ = W.cell? ⟨b, o, none⟩) ∧ (∀ b o, b < W.heap.size → w1.frozen? ⟨b, o, none⟩ = W.frozen? ⟨b, o, none⟩) :=
  ⟨fun b o h => hb.cell (p := ⟨b, o, none⟩) h, fun b o h => hb.frozen (p := ⟨b, o, none⟩) h⟩
theorem wrap_nat (n : Nat) (h : n ≤ 9223372036854775807) : wrap64 (n : Int) = (n : Int) := by unfold wrap64; omega

set_option maxHeartbeats 4000000 in
set_option maxRecDepth 100000 in
theorem next_out (s : ByteArray) (k : Int) (w : World) (h : 65536 < s.size ∨ k < 0 ∨ (s.size : Int) < k) :
    Calls Tryz.prog 83 #[.string s, .int .i64 k] w fun e w' => e = .returned (nextVal (nextV s k)) ∧ Below w.heap.size w w' := by
  by_cases h1 : 65536 < s.size
  · rw [show nextV s k = (0, nil0, 0, 0, 0, 54) by unfold nextV; rw [if_pos h1]]
    clear h
    go_enter Tryz.func83, Tryz.ntmps83
    go_wp2
    refine bodyPost_ret (v := nextVal (0, nil0, 0, 0, 0, 54)) (by simp [results, Tryz.results83, go_sem, nextVal, nil0]) rfl ⟨rfl, ?_⟩
    exact (Below.refl _ _).alloc (Nat.le_refl _) _
  · have h2 : k < 0 ∨ (s.size : Int) < k := by omega
    rw [show nextV s k = (0, nil0, 0, 0, 0, 1) by unfold nextV; rw [if_neg h1, if_pos h2]]
    have h3 : s.size ≤ 65536 := by omega
    clear h h1
    by_cases h4 : k < 0
    · clear h2
      go_enter Tryz.func83, Tryz.ntmps83
      go_wp2
      refine bodyPost_ret (v := nextVal (0, nil0, 0, 0, 0, 1)) (by simp [results, Tryz.results83, go_sem, nextVal, nil0]) rfl ⟨rfl, ?_⟩
      exact (Below.refl _ _).alloc (Nat.le_refl _) _
    · have h5 : 0 ≤ k := by omega
      have h6 : (s.size : Int) < k := by omega
      clear h2 h4
      go_enter Tryz.func83, Tryz.ntmps83
      go_wp2
      refine bodyPost_ret (v := nextVal (0, nil0, 0, 0, 0, 1)) (by simp [results, Tryz.results83, go_sem, nextVal, nil0]) rfl ⟨rfl, ?_⟩
      exact (Below.refl _ _).alloc (Nat.le_refl _) _

set_option maxHeartbeats 4000000 in
set_option maxRecDepth 100000 in
theorem next_end (s : ByteArray) (k : Nat) (w : World) (hs : s.size ≤ 65536) (hk : k ≤ s.size) (hp : beginN s k = s.size) :
    Calls Tryz.prog 83 #[.string s, .int .i64 k] w fun e w' => e = .returned (nextVal (1, nil0, 0, s.size, s.size, 0)) ∧ Below w.heap.size w w' := by
  have hm : s.size ≤ maxLen := by unfold maxLen; omega
  have hk2 : (k : Int) ≤ (s.size : Int) := by omega
  have hk0 : (0 : Int) ≤ (k : Int) := by omega
  have HP := Lib.hid hp; clear hp
  go_enter Tryz.func83, Tryz.ntmps83
  go_wp2_with fail
  refine (begin_any s k _ hm hk).mono ?_
  rintro e w' ⟨rfl, rfl⟩
  rw [HP.out]
  go_wp2
  refine bodyPost_ret (v := nextVal (1, nil0, 0, s.size, s.size, 0)) (by simp [results, Tryz.results83, go_sem, nextVal, nil0]) rfl ⟨rfl, ?_⟩
  exact (Below.refl _ _).alloc (Nat.le_refl _) _

set_option maxHeartbeats 4000000 in
set_option maxRecDepth 100000 in
theorem next_word (s : ByteArray) (k p q : Nat) (w : World) (hs : s.size ≤ 65536) (hk : k ≤ s.size) (hp : beginN s k = p) (hlt : p < s.size) (hq : whileN wordB s p = q) (hle : p ≤ q) (hqs : q ≤ s.size) (hl : letterB s[p] = true) :
    Calls Tryz.prog 83 #[.string s, .int .i64 k] w fun e w' => e = .returned (nextVal (if 32 < q - p then (0, nil0, 0, 0, p, 52) else (2, s.extract p q, 0, p, q, 0))) ∧ Below w.heap.size w w' := by
  have hm : s.size ≤ maxLen := by unfold maxLen; omega
  have hk2 : (k : Int) ≤ (s.size : Int) := by omega
  have hk0 : (0 : Int) ≤ (k : Int) := by omega
  have HP := Lib.hid hp; clear hp
  have HQ := Lib.hid hq; clear hq
  have HL := Lib.hid hl; clear hl
  have hne : ((p : Int) == (s.size : Int)) = false := by rw [beq_eq_false_iff_ne]; omega
  by_cases h32 : 32 < q - p
  · rw [if_pos h32]
    have h33 : (32 : Int) < ((q - p : Nat) : Int) := by omega
    go_enter Tryz.func83, Tryz.ntmps83
    go_wp2_with fail
    refine (begin_any s k _ hm hk).mono ?_
    rintro e w' ⟨rfl, rfl⟩
    rw [HP.out]
    go_wp2_with fail
    refine (run_any s p _ hm (by omega)).mono ?_
    rintro e w' ⟨rfl, rfl⟩
    rw [HQ.out]
    go_wp2_with fail
    refine (letter_any _ _).mono ?_
    rintro e w' ⟨rfl, rfl⟩
    rw [HL.out]
    go_wp2
    refine bodyPost_ret (v := nextVal (0, nil0, 0, 0, p, 52)) (by simp [results, Tryz.results83, go_sem, nextVal, nil0]) rfl ⟨rfl, ?_⟩
    exact ((Below.refl _ _).alloc (Nat.le_refl _) _).alloc (by simp) _
  · rw [if_neg h32]
    have h33 : ((q - p : Nat) : Int) ≤ 32 := by omega
    go_enter Tryz.func83, Tryz.ntmps83
    go_wp2_with fail
    refine (begin_any s k _ hm hk).mono ?_
    rintro e w' ⟨rfl, rfl⟩
    rw [HP.out]
    go_wp2_with fail
    refine (run_any s p _ hm (by omega)).mono ?_
    rintro e w' ⟨rfl, rfl⟩
    rw [HQ.out]
    go_wp2_with fail
    refine (letter_any _ _).mono ?_
    rintro e w' ⟨rfl, rfl⟩
    rw [HL.out]
    go_wp2
    refine bodyPost_ret (v := nextVal (2, s.extract p q, 0, p, q, 0)) (by simp [results, Tryz.results83, go_sem, nextVal]) rfl ⟨rfl, ?_⟩
    exact ((Below.refl _ _).alloc (Nat.le_refl _) _).alloc (by simp) _

set_option maxHeartbeats 4000000 in
set_option maxRecDepth 100000 in
theorem next_number (s : ByteArray) (k p q : Nat) (w : World) (hs : s.size ≤ 65536) (hk : k ≤ s.size) (hp : beginN s k = p) (hlt : p < s.size) (hq : whileN wordB s p = q) (hle : p ≤ q) (hqs : q ≤ s.size) (hl : letterB s[p] = false) (hd : digitB s[p] = true) (hE : Env w) :
    Calls Tryz.prog 83 #[.string s, .int .i64 k] w fun e w' => e = .returned (nextVal (if (numR (s.extract p q).data.toList).2 then (3, s.extract p q, (numR (s.extract p q).data.toList).1, p, q, 0) else (0, nil0, 0, 0, p, 53))) ∧ Below w.heap.size w w' := by
  have hm : s.size ≤ maxLen := by unfold maxLen; omega
  have hk2 : (k : Int) ≤ (s.size : Int) := by omega
  have hk0 : (0 : Int) ≤ (k : Int) := by omega
  have HP := Lib.hid hp; clear hp
  have HQ := Lib.hid hq; clear hq
  have HL := Lib.hid hl; clear hl
  have HD := Lib.hid hd; clear hd
  have hne : ((p : Int) == (s.size : Int)) = false := by rw [beq_eq_false_iff_ne]; omega
  have hN := fun (W : World) (h : Env W) => number_any (s.extract p q) W (by simp; omega) h
  obtain ⟨n, hn⟩ : ∃ n, n = (numR (s.extract p q).data.toList).1 := ⟨_, rfl⟩
  obtain ⟨b, hb⟩ : ∃ b, b = (numR (s.extract p q).data.toList).2 := ⟨_, rfl⟩
  rw [← hn, ← hb]
  rw [← hn, ← hb] at hN
  have HN := Lib.hid hN
  clear hn hb hN
  cases b
  all_goals
    go_enter Tryz.func83, Tryz.ntmps83
    go_wp2_with fail
    refine (begin_any s k _ hm hk).mono ?_
    rintro e w' ⟨rfl, rfl⟩
    rw [HP.out]
    go_wp2_with fail
    refine (run_any s p _ hm (by omega)).mono ?_
    rintro e w' ⟨rfl, rfl⟩
    rw [HQ.out]
    go_wp2_with fail
    refine (letter_any _ _).mono ?_
    rintro e w' ⟨rfl, rfl⟩
    rw [HL.out]
    go_wp2_with fail
    refine (digit_any _ _).mono ?_
    rintro e w' ⟨rfl, rfl⟩
    rw [HD.out]
    go_wp2_with fail
    have hB0 := ((Below.refl w.heap.size w).alloc (Nat.le_refl _) (.cells #[.int .i64 0, .string ⟨#[]⟩, .int .u64 0, .int .i64 0] 59)).alloc (by simp) (.cells #[.int .i64 3, .string (s.extract p q), .int .u64 0, .int .i64 p] 59)
    refine (HN.out _ (hE.below hB0)).mono ?_
    rintro e w1 ⟨rfl, hb1⟩
    obtain ⟨hc, hf⟩ := bcell hb1
    have hz : w.heap.size + 1 < w1.heap.size := by have := hb1.size; simp at this; omega
    have hbb := hB0.trans (hb1.mono hB0.size)
    clear hb1
    have a0 : w1.cell? ⟨w.heap.size, 0, none⟩ = some (.int .i64 0) := by rw [hc _ _ (by simp; omega)]; go_simp
    have a1 : w1.cell? ⟨w.heap.size, 1, none⟩ = some (.string ⟨#[]⟩) := by rw [hc _ _ (by simp; omega)]; go_simp
    have a2 : w1.cell? ⟨w.heap.size, 2, none⟩ = some (.int .u64 0) := by rw [hc _ _ (by simp; omega)]; go_simp
    have a3 : w1.cell? ⟨w.heap.size, 3, none⟩ = some (.int .i64 0) := by rw [hc _ _ (by simp; omega)]; go_simp
    have b0 : w1.cell? ⟨w.heap.size + 1, 0, none⟩ = some (.int .i64 3) := by rw [hc _ _ (by simp)]; go_simp
    have b1 : w1.cell? ⟨w.heap.size + 1, 1, none⟩ = some (.string (s.extract p q)) := by rw [hc _ _ (by simp)]; go_simp
    have b2 : w1.cell? ⟨w.heap.size + 1, 2, none⟩ = some (.int .u64 0) := by rw [hc _ _ (by simp)]; go_simp
    have b3 : w1.cell? ⟨w.heap.size + 1, 3, none⟩ = some (.int .i64 p) := by rw [hc _ _ (by simp)]; go_simp
    clear hc
    go_wp2
  · refine bodyPost_ret (v := nextVal (0, nil0, 0, 0, p, 53)) (by simp [results, Tryz.results83, go_sem, nextVal, nil0, a0, a1, a2, a3]) rfl ⟨rfl, ?_⟩
    exact ((((hbb.setCell (by simp) _).setCell (by simp) _).setCell (by simp) _).setCell (by simp) _).setCell (by simp) _
  · refine bodyPost_ret (v := nextVal (3, s.extract p q, n, p, q, 0)) (by simp [results, Tryz.results83, go_sem, nextVal, a0, a1, a2, a3]) rfl ⟨rfl, ?_⟩
    exact ((((hbb.setCell (by simp) _).setCell (by simp) _).setCell (by simp) _).setCell (by simp) _).setCell (by simp) _

set_option maxHeartbeats 4000000 in
set_option maxRecDepth 100000 in
theorem next_sign (s : ByteArray) (k p q : Nat) (w : World) (hs : s.size ≤ 65536) (hk : k ≤ s.size) (hp : beginN s k = p) (hlt : p < s.size) (hq : whileN wordB s p = q) (hle : p ≤ q) (hqs : q ≤ s.size) (hl : letterB s[p] = false) (hd : digitB s[p] = false) :
    Calls Tryz.prog 83 #[.string s, .int .i64 k] w fun e w' => e = .returned (nextVal (if signL (s.data.toList.drop p) = 0 then (0, nil0, 0, 0, p, 51) else (4, s.extract p (p + signL (s.data.toList.drop p)), 0, p, p + signL (s.data.toList.drop p), 0))) ∧ Below w.heap.size w w' := by
  have hm : s.size ≤ maxLen := by unfold maxLen; omega
  have hk2 : (k : Int) ≤ (s.size : Int) := by omega
  have hk0 : (0 : Int) ≤ (k : Int) := by omega
  have HP := Lib.hid hp; clear hp
  have HQ := Lib.hid hq; clear hq
  have HL := Lib.hid hl; clear hl
  have HD := Lib.hid hd; clear hd
  have hne : ((p : Int) == (s.size : Int)) = false := by rw [beq_eq_false_iff_ne]; omega
  have hg := sign_any (s.extract p s.size)
  have hle2 := sign_le (s.data.toList.drop p)
  have hlen : (s.data.toList.drop p).length = s.size - p := by simp
  rw [hlen] at hle2
  rw [sign_drop] at hg
  generalize signL (s.data.toList.drop p) = n at *
  have HG := Lib.hid hg; clear hg hlen
  by_cases h0 : n = 0
  · subst h0
    rw [if_pos rfl]
    go_enter Tryz.func83, Tryz.ntmps83
    go_wp2_with fail
    refine (begin_any s k _ hm hk).mono ?_
    rintro e w' ⟨rfl, rfl⟩
    rw [HP.out]
    go_wp2_with fail
    refine (run_any s p _ hm (by omega)).mono ?_
    rintro e w' ⟨rfl, rfl⟩
    rw [HQ.out]
    go_wp2_with fail
    refine (letter_any _ _).mono ?_
    rintro e w' ⟨rfl, rfl⟩
    rw [HL.out]
    go_wp2_with fail
    refine (digit_any _ _).mono ?_
    rintro e w' ⟨rfl, rfl⟩
    rw [HD.out]
    go_wp2_with fail
    refine (HG.out _ (by simp; omega)).mono ?_
    rintro e w' ⟨rfl, rfl⟩
    go_wp2
    refine bodyPost_ret (v := nextVal (0, nil0, 0, 0, p, 51)) (by simp [results, Tryz.results83, go_sem, nextVal, nil0]) rfl ⟨rfl, ?_⟩
    exact ((Below.refl _ _).alloc (Nat.le_refl _) _).alloc (by simp) _
  · rw [if_neg h0]
    have hne2 : (s.extract p (p + n)).toList.isEmpty = false := empty_no (by simp; omega)
    go_enter Tryz.func83, Tryz.ntmps83
    go_wp2_with fail
    refine (begin_any s k _ hm hk).mono ?_
    rintro e w' ⟨rfl, rfl⟩
    rw [HP.out]
    go_wp2_with fail
    refine (run_any s p _ hm (by omega)).mono ?_
    rintro e w' ⟨rfl, rfl⟩
    rw [HQ.out]
    go_wp2_with fail
    refine (letter_any _ _).mono ?_
    rintro e w' ⟨rfl, rfl⟩
    rw [HL.out]
    go_wp2_with fail
    refine (digit_any _ _).mono ?_
    rintro e w' ⟨rfl, rfl⟩
    rw [HD.out]
    go_wp2_with fail
    refine (HG.out _ (by simp; omega)).mono ?_
    rintro e w' ⟨rfl, rfl⟩
    go_wp2
    refine bodyPost_ret (v := nextVal (4, s.extract p (p + n), 0, p, p + n, 0)) (by simp [results, Tryz.results83, go_sem, nextVal]) rfl ⟨rfl, ?_⟩
    exact ((Below.refl _ _).alloc (Nat.le_refl _) _).alloc (by simp) _

theorem next_any (s : ByteArray) (k : Int) (w : World) (hE : Env w) :
    Calls Tryz.prog 83 #[.string s, .int .i64 k] w fun e w' => e = .returned (nextVal (nextV s k)) ∧ Below w.heap.size w w' := by
  by_cases h : 65536 < s.size ∨ k < 0 ∨ (s.size : Int) < k
  · exact next_out s k w h
  · obtain ⟨j, rfl⟩ := Int.eq_ofNat_of_zero_le (show 0 ≤ k by omega)
    have h1 : ¬ 65536 < s.size := by omega
    have h2 : ¬ ((j : Int) < 0 ∨ (s.size : Int) < (j : Int)) := by omega
    have hj : j ≤ s.size := by omega
    unfold nextV
    rw [if_neg h1, if_neg h2, Int.toNat_natCast]
    by_cases hp : beginN s j < s.size
    · rw [dif_pos hp]
      have hle := whileN_ge wordB s (beginN s j)
      have hqs := whileN_le wordB s (beginN s j) (by omega)
      unfold tokV
      cases hl : letterB s[beginN s j]
      · rw [if_neg (by simp)]
        cases hd : digitB s[beginN s j]
        · rw [if_neg (by simp)]
          exact next_sign s j _ _ w (by omega) hj rfl hp rfl hle hqs hl hd
        · rw [if_pos rfl]
          exact next_number s j _ _ w (by omega) hj rfl hp rfl hle hqs hl hd hE
      · rw [if_pos rfl]
        exact next_word s j _ _ w (by omega) hj rfl hp rfl hle hqs hl
    · rw [dif_neg hp]
      exact next_end s j w (by omega) hj (by have := begin_le s j; omega)
end Go.Proofs.YtlmopoipjolbgaaGreatDoor.LexW
namespace Go.Proofs.YtlmopoipjolbgaaGreatDoor.LexW
open Go.RowKit Go.Shelf Go.Proofs.YtlmopoipjolbgaaGreatDoor.LexS
set_option linter.unusedVariables false
set_option linter.unusedSimpArgs false

set_option maxHeartbeats 400000 in
theorem rletter_any (c : UInt8) (w : World) :
    Calls Tryz.prog 108 #[.int .u8 (c.toNat : Int)] w fun e w' => e = .returned (.bool (letterB c)) ∧ w = w' := by
  rw [letter_nat]
  generalize (c.toNat : Int) = n
  by_cases h1 : 97 ≤ n
  all_goals by_cases h2 : n ≤ 122
  all_goals by_cases h3 : 65 ≤ n
  all_goals by_cases h4 : n ≤ 90
  all_goals try (exfalso; omega)
  all_goals
    go_enter Tryz.func108, Tryz.ntmps108
    go_wp2
    go_ret
    exact ⟨ret_bool (by first | rfl | (rw [Bool.eq_iff_iff]; simp; omega)), rfl⟩

set_option maxHeartbeats 400000 in
theorem rdigit_any (c : UInt8) (w : World) :
    Calls Tryz.prog 109 #[.int .u8 (c.toNat : Int)] w fun e w' => e = .returned (.bool (digitB c)) ∧ w = w' := by
  rw [digit_nat]
  generalize (c.toNat : Int) = n
  by_cases h1 : 48 ≤ n
  all_goals by_cases h2 : n ≤ 57
  all_goals try (exfalso; omega)
  all_goals
    go_enter Tryz.func109, Tryz.ntmps109
    go_wp2
    go_ret
    exact ⟨ret_bool (by first | rfl | (rw [Bool.eq_iff_iff]; simp; omega)), rfl⟩

set_option maxHeartbeats 1000000 in
set_option maxRecDepth 100000 in
theorem rrun_any (s : ByteArray) (k : Nat) (w : World) (hs : s.size ≤ maxLen) (hk : k ≤ s.size) :
    Calls Tryz.prog 110 #[.string s, .int .i64 k] w fun e w' => e = .returned (.int .i64 (whileN wordB s k)) ∧ w = w' := by
  unfold maxLen at hs
  go_enter Tryz.func110, Tryz.ntmps110
  go_wp2
  go_loop [1] (fun i => ∃ j : Nat, k ≤ j ∧ j ≤ s.size ∧ i = .int .i64 j ∧ Hid (whileN wordB s k = whileN wordB s j)) (fun i => s.size - (intOf i).toNat)
  case atStart => exact ⟨k, Nat.le_refl _, hk, rfl, rfl⟩
  case round =>
    obtain ⟨j, hj1, hj2, rfl, HJ⟩ := hrel
    by_cases hlt : j < s.size
    · cases hl : letterB s[j]
      · cases hd : digitB s[j]
        · have HB : Hid (wordB s[j] = false) := by show _ = _; unfold wordB; rw [hl, hd]; rfl
          have Hl := Lib.hid hl; have Hd := Lib.hid hd; clear hl hd
          go_wp2_with (first | (go_at_call 108; refine (rletter_any _ _).mono ?_; rintro e w' ⟨rfl, rfl⟩; rw [Hl.out]) | (go_at_call 109; refine (rdigit_any _ _).mono ?_; rintro e w' ⟨rfl, rfl⟩; rw [Hd.out]))
          go_ret
          exact ⟨ret_int (by rw [HJ.out, whileN_no hlt HB.out]), rfl⟩
        · have HB : Hid (wordB s[j] = true) := by show _ = _; unfold wordB; rw [hl, hd]; rfl
          have Hl := Lib.hid hl; have Hd := Lib.hid hd; clear hl hd
          go_wp2_with (first | (go_at_call 108; refine (rletter_any _ _).mono ?_; rintro e w' ⟨rfl, rfl⟩; rw [Hl.out]) | (go_at_call 109; refine (rdigit_any _ _).mono ?_; rintro e w' ⟨rfl, rfl⟩; rw [Hd.out]))
          go_round
          case rel => exact ⟨j + 1, by omega, by omega, by go_num, by show _ = _; rw [HJ.out, whileN_yes hlt HB.out]⟩
          case measure => simp [intOf]; omega
      · have HB : Hid (wordB s[j] = true) := by show _ = _; unfold wordB; rw [hl]; rfl
        have Hl := Lib.hid hl; clear hl
        generalize hd : digitB s[j] = d
        have Hd := Lib.hid hd; clear hd
        go_wp2_with (first | (go_at_call 108; refine (rletter_any _ _).mono ?_; rintro e w' ⟨rfl, rfl⟩; rw [Hl.out]) | (go_at_call 109; refine (rdigit_any _ _).mono ?_; rintro e w' ⟨rfl, rfl⟩; rw [Hd.out]))
        go_round
        case rel => exact ⟨j + 1, by omega, by omega, by go_num, by show _ = _; rw [HJ.out, whileN_yes hlt HB.out]⟩
        case measure => simp [intOf]; omega
    · have hle : s.size ≤ j := by omega
      go_wp2
      go_ret
      exact ⟨ret_int (by rw [HJ.out, whileN_end hle]), rfl⟩

theorem blank_nat (c : UInt8) : blankB c = (((c.toNat : Int) == 9) || ((c.toNat : Int) == 10) || ((c.toNat : Int) == 13) || ((c.toNat : Int) == 32)) := by
  have e (n : UInt8) : (c == n) = ((c.toNat : Int) == (n.toNat : Int)) := by
    rw [Bool.eq_iff_iff]; simp [← UInt8.toNat_inj]; omega
  unfold blankB
  rw [e 9, e 10, e 13, e 32]; rfl

theorem begin_blank {s : ByteArray} {k : Nat} (h : k < s.size) (hb : blankB s[k] = true) : beginN s k = beginN s (k + 1) := by
  unfold beginN; rw [drop_cons s k h, skipS, if_pos hb]
theorem begin_stop {s : ByteArray} {k : Nat} (h : k < s.size) (hb : blankB s[k] = false) (h35 : s[k] ≠ 35) : beginN s k = k := by
  apply begin_stay (by omega)
  rw [drop_cons s k h, skipS, hb]; simp [h35]
theorem begin_hash {s : ByteArray} {k : Nat} (h : k < s.size) (h35 : s[k] = 35) : beginN s k = beginN s (whileN (fun c => c != 10) s k) := by
  have e : skipS false (s.data.toList.drop k) = skipS true (s.data.toList.drop k) := by
    rw [drop_cons s k h, h35]; rfl
  unfold beginN; rw [e, skip_remark, List.drop_drop]; rfl
theorem begin_size (s : ByteArray) : beginN s s.size = s.size := by
  apply begin_stay (Nat.le_refl _)
  rw [List.drop_of_length_le (by simp)]; rfl

set_option maxHeartbeats 2000000 in
set_option maxRecDepth 100000 in
theorem rskip_any (s : ByteArray) (k : Nat) (w : World) (hs : s.size ≤ maxLen) (hk : k ≤ s.size) :
    Calls Tryz.prog 107 #[.string s, .int .i64 k] w fun e w' => e = .returned (.int .i64 (beginN s k)) ∧ w = w' := by
  unfold maxLen at hs
  go_enter Tryz.func107, Tryz.ntmps107
  go_wp2
  go_loop [1] (fun i => ∃ j : Nat, j ≤ s.size ∧ i = .int .i64 j ∧ Hid (beginN s k = beginN s j)) (fun i => s.size - (intOf i).toNat)
  case atStart => exact ⟨k, hk, rfl, rfl⟩
  case round =>
    obtain ⟨j, hj2, rfl, HJ⟩ := hrel
    by_cases hlt : j < s.size
    · by_cases h35 : s[j] = 35
      · have hx : (((s[j]).toNat : Int) == 35) = true := by rw [h35]; rfl
        have H35 := Lib.hid h35; clear h35
        go_wp2
        go_loop [1] (fun i => ∃ m : Nat, j ≤ m ∧ m ≤ s.size ∧ i = .int .i64 m ∧ Hid (whileN (fun c => c != 10) s j = whileN (fun c => c != 10) s m)) (fun i => s.size - (intOf i).toNat)
        case atStart => exact ⟨j, Nat.le_refl _, hj2, rfl, rfl⟩
        case round =>
          obtain ⟨m, hm1, hm2, rfl, HM⟩ := hrel
          by_cases hml : m < s.size
          · by_cases h10 : s[m] = 10
            · have hy : (((s[m]).toNat : Int) != 10) = false := by rw [h10]; rfl
              have hjm : j < m := by
                rcases Nat.lt_or_ge j m with h | h
                · exact h
                · exfalso; obtain rfl : m = j := by omega
                  have := H35.out; rw [h10] at this; exact absurd this (by decide)
              have H10 := Lib.hid h10; clear h10
              clear hx
              go_wp2
              go_round
              case rel => exact ⟨m, hm2, rfl, by show _ = _; rw [HJ.out, begin_hash hlt H35.out, HM.out, whileN_no hml (by rw [H10.out]; rfl)]⟩
              case measure => simp [intOf]; omega
            · have hy : (((s[m]).toNat : Int) != 10) = true := by
                rw [bne_iff_ne]; intro h; apply h10; rw [← UInt8.toNat_inj]; show _ = 10; omega
              have H10 := Lib.hid h10; clear h10
              clear hx
              go_wp2
              go_round
              case rel => exact ⟨m + 1, by omega, by omega, by go_num, by show _ = _; rw [HM.out, whileN_yes hml (by simpa using H10.out)]⟩
              case measure => simp [intOf]; omega
          · have hle : s.size ≤ m := by omega
            have hjm : j < m := by omega
            clear hx
            go_wp2
            go_round
            case rel => exact ⟨m, hm2, rfl, by show _ = _; rw [HJ.out, begin_hash hlt H35.out, HM.out, whileN_end hle]⟩
            case measure => simp [intOf]; omega
      · have hx : (((s[j]).toNat : Int) == 35) = false := by
          rw [beq_eq_false_iff_ne]; intro h; apply h35; rw [← UInt8.toNat_inj]; show _ = 35; omega
        have hbn := blank_nat s[j]
        cases hb : blankB s[j]
        · rw [hb] at hbn
          simp only [Bool.or_eq_false_iff, Bool.false_eq, beq_eq_false_iff_ne] at hbn
          obtain ⟨⟨⟨n1, n2⟩, n3⟩, n4⟩ := hbn
          have e1 : (((s[j]).toNat : Int) != 9) = true := by rw [bne_iff_ne]; exact n1
          have e2 : (((s[j]).toNat : Int) != 10) = true := by rw [bne_iff_ne]; exact n2
          have e3 : (((s[j]).toNat : Int) != 13) = true := by rw [bne_iff_ne]; exact n3
          have e4 : (((s[j]).toNat : Int) != 32) = true := by rw [bne_iff_ne]; exact n4
          have H35 := Lib.hid h35; have Hb := Lib.hid hb; clear h35 hb n1 n2 n3 n4
          go_wp2
          go_ret
          exact ⟨ret_int (by rw [HJ.out, begin_stop hlt Hb.out H35.out]), rfl⟩
        · rw [hb] at hbn
          have H35 := Lib.hid h35; have Hb := Lib.hid hb; clear h35 hb
          have hc : ((s[j]).toNat : Int) = 9 ∨ ((s[j]).toNat : Int) = 10 ∨ ((s[j]).toNat : Int) = 13 ∨ ((s[j]).toNat : Int) = 32 := by
            simpa [or_assoc] using hbn.symm
          clear hbn
          rcases hc with hc | hc | hc | hc
          all_goals
            first
              | have e1 : (((s[j]).toNat : Int) != 9) = false := by rw [hc]; rfl
              | have e1 : (((s[j]).toNat : Int) != 9) = true := by rw [hc]; rfl
            first
              | have e2 : (((s[j]).toNat : Int) != 10) = false := by rw [hc]; rfl
              | have e2 : (((s[j]).toNat : Int) != 10) = true := by rw [hc]; rfl
            first
              | have e3 : (((s[j]).toNat : Int) != 13) = false := by rw [hc]; rfl
              | have e3 : (((s[j]).toNat : Int) != 13) = true := by rw [hc]; rfl
            first
              | have e4 : (((s[j]).toNat : Int) != 32) = false := by rw [hc]; rfl
              | have e4 : (((s[j]).toNat : Int) != 32) = true := by rw [hc]; rfl
            clear hc
            go_wp2
            go_round
            case rel => exact ⟨j + 1, by omega, by go_num, by show _ = _; rw [HJ.out, begin_blank hlt Hb.out]⟩
            case measure => simp [intOf]; omega
    · obtain rfl : j = s.size := by omega
      go_wp2
      go_ret
      exact ⟨ret_int (by rw [HJ.out, begin_size]), rfl⟩
end Go.Proofs.YtlmopoipjolbgaaGreatDoor.LexW
namespace Go.Proofs.YtlmopoipjolbgaaGreatDoor.LexW
open Go.RowKit Go.Shelf Go.Proofs.YtlmopoipjolbgaaGreatDoor.LexS
/-- the sign by its first byte and whether '=' follows -/
def signI (n : Int) (b : Bool) : Int :=
  if n = 59 ∨ n = 44 ∨ n = 40 ∨ n = 41 ∨ n = 38 then 1 else if n = 60 ∨ n = 62 then (if b then 2 else 1) else if n = 61 ∨ n = 33 then (if b then 2 else 0) else 0
theorem sign_int (c : UInt8) (r : List UInt8) : (signL (c :: r) : Int) = signI (c.toNat : Int) (r.head? == some 61) := by
  have e (n : UInt8) : (c == n) = decide ((c.toNat : Int) = (n.toNat : Int)) := by
    rw [Bool.eq_iff_iff]; simp [← UInt8.toNat_inj]; omega
  simp only [signL]
  rw [e 61, e 33, e 60, e 62, e 59, e 44, e 40, e 41, e 38]
  simp only [show ((61 : UInt8).toNat : Int) = 61 from rfl, show ((33 : UInt8).toNat : Int) = 33 from rfl, show ((60 : UInt8).toNat : Int) = 60 from rfl, show ((62 : UInt8).toNat : Int) = 62 from rfl, show ((59 : UInt8).toNat : Int) = 59 from rfl, show ((44 : UInt8).toNat : Int) = 44 from rfl, show ((40 : UInt8).toNat : Int) = 40 from rfl, show ((41 : UInt8).toNat : Int) = 41 from rfl, show ((38 : UInt8).toNat : Int) = 38 from rfl]
  generalize (c.toNat : Int) = n
  unfold signI
  cases (r.head? == some 61)
  · simp only [Bool.and_false, Bool.false_eq_true, if_false, Bool.or_eq_true, decide_eq_true_eq]
    split <;> split <;> (try split) <;> (try split) <;> (try omega)
    all_goals (first | rfl | (exfalso; omega))
  · simp only [Bool.and_true, if_true, Bool.or_eq_true, decide_eq_true_eq]
    split <;> split <;> (try split) <;> (try split) <;> (try omega)
    all_goals (first | rfl | (exfalso; omega))

theorem next_eq (s : ByteArray) (k : Nat) (hk : k < s.size) : ((s.data.toList.drop (k + 1)).head? == some 61) = (if h : k + 1 < s.size then ((s[k + 1]).toNat : Int) == 61 else false) := by
  by_cases h : k + 1 < s.size
  · rw [dif_pos h, drop_cons s (k + 1) h, List.head?_cons]
    rw [Bool.eq_iff_iff]; simp [← UInt8.toNat_inj]; omega
  · rw [dif_neg h, List.drop_of_length_le (by simp; omega)]; rfl

set_option maxHeartbeats 4000000 in
theorem rsign_any (s : ByteArray) (k : Nat) (w : World) (hs : s.size ≤ maxLen) (hk : k < s.size) :
    Calls Tryz.prog 112 #[.string s, .int .i64 k] w fun e w' => e = .returned (.int .i64 (signL (s.data.toList.drop k))) ∧ w = w' := by
  unfold maxLen at hs
  rw [drop_cons s k hk, sign_int, next_eq s k hk]
  obtain ⟨n, hn⟩ : ∃ n : Int, n = ((s[k]).toNat : Int) := ⟨_, rfl⟩
  rw [← hn]
  have hc : n = 59 ∨ n = 44 ∨ n = 40 ∨ n = 41 ∨ n = 38 ∨ n = 60 ∨ n = 62 ∨ n = 61 ∨ n = 33 ∨ (n ≠ 59 ∧ n ≠ 44 ∧ n ≠ 40 ∧ n ≠ 41 ∧ n ≠ 38 ∧ n ≠ 60 ∧ n ≠ 62 ∧ n ≠ 61 ∧ n ≠ 33) := by omega
  have Hn := Lib.hid hn.symm; clear hn
  by_cases h1 : k + 1 < s.size
  · rw [dif_pos h1]
    have h1' : (k : Int) + 1 < (s.size : Int) := by omega
    cases hb : (((s[k + 1]).toNat : Int) == 61)
    all_goals
      rcases hc with rfl | rfl | rfl | rfl | rfl | rfl | rfl | rfl | rfl | hc
      case inr.inr.inr.inr.inr.inr.inr.inr.inr =>
        rw [show signI n _ = 0 by unfold signI; simp [hc]]
        have e1 : (n == 59) = false := by rw [beq_eq_false_iff_ne]; exact hc.1
        have e2 : (n == 44) = false := by rw [beq_eq_false_iff_ne]; exact hc.2.1
        have e3 : (n == 40) = false := by rw [beq_eq_false_iff_ne]; exact hc.2.2.1
        have e4 : (n == 41) = false := by rw [beq_eq_false_iff_ne]; exact hc.2.2.2.1
        have e5 : (n == 38) = false := by rw [beq_eq_false_iff_ne]; exact hc.2.2.2.2.1
        have e6 : (n == 60) = false := by rw [beq_eq_false_iff_ne]; exact hc.2.2.2.2.2.1
        have e7 : (n == 62) = false := by rw [beq_eq_false_iff_ne]; exact hc.2.2.2.2.2.2.1
        have e8 : (n == 61) = false := by rw [beq_eq_false_iff_ne]; exact hc.2.2.2.2.2.2.2.1
        have e9 : (n == 33) = false := by rw [beq_eq_false_iff_ne]; exact hc.2.2.2.2.2.2.2.2
        clear hc
        rw [← Hn.out] at e1 e2 e3 e4 e5 e6 e7 e8 e9
        go_enter Tryz.func112, Tryz.ntmps112
        go_wp2
        go_ret
        exact ⟨rfl, rfl⟩
      all_goals
        have hn := Hn.out
        go_enter Tryz.func112, Tryz.ntmps112
        go_wp2
        go_ret
        exact ⟨rfl, rfl⟩
  · rw [dif_neg h1]
    have h1' : (s.size : Int) ≤ (k : Int) + 1 := by omega
    rcases hc with rfl | rfl | rfl | rfl | rfl | rfl | rfl | rfl | rfl | hc
    case inr.inr.inr.inr.inr.inr.inr.inr.inr =>
      rw [show signI n _ = 0 by unfold signI; simp [hc]]
      have e1 : (n == 59) = false := by rw [beq_eq_false_iff_ne]; exact hc.1
      have e2 : (n == 44) = false := by rw [beq_eq_false_iff_ne]; exact hc.2.1
      have e3 : (n == 40) = false := by rw [beq_eq_false_iff_ne]; exact hc.2.2.1
      have e4 : (n == 41) = false := by rw [beq_eq_false_iff_ne]; exact hc.2.2.2.1
      have e5 : (n == 38) = false := by rw [beq_eq_false_iff_ne]; exact hc.2.2.2.2.1
      have e6 : (n == 60) = false := by rw [beq_eq_false_iff_ne]; exact hc.2.2.2.2.2.1
      have e7 : (n == 62) = false := by rw [beq_eq_false_iff_ne]; exact hc.2.2.2.2.2.2.1
      have e8 : (n == 61) = false := by rw [beq_eq_false_iff_ne]; exact hc.2.2.2.2.2.2.2.1
      have e9 : (n == 33) = false := by rw [beq_eq_false_iff_ne]; exact hc.2.2.2.2.2.2.2.2
      clear hc
      rw [← Hn.out] at e1 e2 e3 e4 e5 e6 e7 e8 e9
      go_enter Tryz.func112, Tryz.ntmps112
      go_wp2
      go_ret
      exact ⟨rfl, rfl⟩
    all_goals
      have hn := Hn.out
      go_enter Tryz.func112, Tryz.ntmps112
      go_wp2
      go_ret
      exact ⟨rfl, rfl⟩
end Go.Proofs.YtlmopoipjolbgaaGreatDoor.LexW
namespace Go.Proofs.YtlmopoipjolbgaaGreatDoor.LexW
open Go.RowKit Go.Shelf Go.Proofs.YtlmopoipjolbgaaGreatDoor.LexS
set_option linter.unusedVariables false
set_option linter.unusedSimpArgs false

def hexR (acc : Nat) (l : List UInt8) : Int × Bool := if l.all hexB = true then ((valL 16 hexV acc l : Int), true) else (0, false)
theorem hexR_good (acc : Nat) (c : UInt8) (r : List UInt8) (h : hexB c = true) : hexR acc (c :: r) = hexR (16 * acc + hexV c) r := by
  unfold hexR; rw [List.all_cons, h, valL_cons]; rfl
theorem hexR_bad (acc : Nat) (c : UInt8) (r : List UInt8) (h : hexB c = false) : hexR acc (c :: r) = (0, false) := by
  unfold hexR; rw [List.all_cons, h]; rfl
def decR (acc : Nat) (l : List UInt8) : Int × Bool := if l.all digitB = true ∧ valL 10 digV acc l < 18446744073709551616 then ((valL 10 digV acc l : Int), true) else (0, false)
theorem decR_good (acc : Nat) (c : UInt8) (r : List UInt8) (h : digitB c = true) : decR acc (c :: r) = decR (10 * acc + digV c) r := by
  unfold decR; rw [List.all_cons, h, valL_cons, Bool.true_and]
theorem decR_bad (acc : Nat) (c : UInt8) (r : List UInt8) (h : digitB c = false) : decR acc (c :: r) = (0, false) := by
  unfold decR; rw [List.all_cons, h, Bool.false_and, if_neg (by simp)]
theorem decR_big (acc : Nat) (l : List UInt8) (h : 18446744073709551616 ≤ acc) : decR acc l = (0, false) := by
  unfold decR
  have := valL_ge digV l acc
  rw [if_neg (by omega)]

theorem hex_bad_cases (c : UInt8) (h : hexB c = false) : ¬ (48 ≤ c.toNat ∧ c.toNat ≤ 57) ∧ ¬ (97 ≤ c.toNat ∧ c.toNat ≤ 102) := by
  unfold hexB digitB at h
  simp [UInt8.le_iff_toNat_le] at h
  omega

theorem val_big (m : List UInt8) : ∀ a, 1 ≤ a → 10 ^ m.length * a ≤ valL 10 digV a m := by
  induction m with
  | nil => intro a ha; simp [valL]
  | cons x y ih2 =>
    intro a ha
    rw [valL_cons, List.length_cons, Nat.pow_succ]
    refine Nat.le_trans ?_ (ih2 (10 * a + digV x) (by omega))
    rw [Nat.mul_assoc]
    exact Nat.mul_le_mul_left _ (by omega)
theorem dec_long (c : UInt8) (r : List UInt8) (h : c ≠ 48) (hl : 20 ≤ r.length) (hd : digitB c = true) : 18446744073709551616 ≤ valL 10 digV 0 (c :: r) := by
  rw [valL_cons]
  have hb := digit_bounds hd
  have hne : c.toNat ≠ 48 := fun e => h (by rw [← UInt8.toNat_inj]; exact e)
  have h1 := val_big r (10 * 0 + digV c) (by unfold digV; omega)
  have h2 : 10 ^ 20 ≤ 10 ^ r.length := Nat.pow_le_pow_right (by omega) hl
  have h3 : (18446744073709551616 : Nat) ≤ 10 ^ 20 := by decide
  have h4 : 10 ^ r.length * 1 ≤ 10 ^ r.length * (10 * 0 + digV c) := Nat.mul_le_mul_left _ (by unfold digV; omega)
  omega

theorem two_bytes (s : ByteArray) : Lib.hasPrefix s.data.toList [48, 120] = true ↔ ∃ h : 1 < s.size, s[0] = 48 ∧ s[1] = 120 := by
  rw [pre_take, decide_eq_true_eq]
  by_cases h : 1 < s.size
  · have h0 := drop_cons s 0 (by omega)
    have h1 := drop_cons s 1 h
    rw [List.drop_zero] at h0
    rw [h0, h1]
    constructor
    · intro e
      obtain ⟨e1, e2⟩ := List.cons.inj e
      exact ⟨h, e1, (List.cons.inj e2).1⟩
    · rintro ⟨_, e1, e2⟩
      rw [e1, e2]; rfl
  · constructor
    · intro e
      have := congrArg List.length e
      simp at this
      have : s.data.size = s.size := rfl
      omega
    · rintro ⟨h', _⟩; omega

set_option maxHeartbeats 16000000 in
set_option maxRecDepth 100000 in
theorem rnumber_hex (s : ByteArray) (w : World) (hs : s.size ≤ maxLen) (h1 : 1 < s.size) (h48 : s[0] = 48) (h120 : s[1] = 120) :
    Calls Tryz.prog 111 #[.string s] w fun e w' => e = .returned (.tuple #[.int .u64 (if 3 ≤ s.size ∧ s.size ≤ 18 then hexR 0 (s.data.toList.drop 2) else (0, false)).1, .bool (if 3 ≤ s.size ∧ s.size ≤ 18 then hexR 0 (s.data.toList.drop 2) else (0, false)).2]) ∧ w = w' := by
  unfold maxLen at hs
  have e1 : (((s[0]).toNat : Int) == 48) = true := by rw [h48]; rfl
  have e2 : (((s[1]).toNat : Int) == 120) = true := by rw [h120]; rfl
  have e3 : (2 : Int) ≤ (s.size : Int) := by omega
  clear h48 h120
  generalize hR : (if 3 ≤ s.size ∧ s.size ≤ 18 then hexR 0 (s.data.toList.drop 2) else ((0 : Int), false)) = R
  have HR := Lib.hid hR; clear hR
  by_cases h3 : s.size < 3
  · have HV : Hid (((0 : Int), false) = R) := (if_neg (by omega)).symm.trans HR.out
    clear HR
    go_enter Tryz.func111, Tryz.ntmps111
    go_wp2
    go_ret2
    exact ⟨by rw [← HV.out]; rfl, rfl⟩
  · by_cases h18 : 18 < s.size
    · have HV : Hid (((0 : Int), false) = R) := (if_neg (by omega)).symm.trans HR.out
      clear HR
      go_enter Tryz.func111, Tryz.ntmps111
      go_wp2
      go_ret2
      exact ⟨by rw [← HV.out]; rfl, rfl⟩
    · have HV : Hid (hexR 0 (s.data.toList.drop 2) = R) := (if_pos (by omega)).symm.trans HR.out
      have h3' : 3 ≤ s.size := by omega
      have h18' : s.size ≤ 18 := by omega
      clear HR h3 h18
      go_enter Tryz.func111, Tryz.ntmps111
      go_wp2
      go_loop [4, 5] (fun vn vi => ∃ (k acc : Nat) (a : Int), vn = .int .u64 a ∧ vi = .int .i64 k ∧ 2 ≤ k ∧ k ≤ s.size ∧ Hid (a = (acc : Int) ∧ acc < 16 ^ (k - 2) ∧ hexR acc (s.data.toList.drop k) = R)) (fun _ vi => s.size - (intOf vi).toNat)
      case atStart => exact ⟨2, 0, 0, rfl, rfl, by omega, by omega, rfl, by simp, HV.out⟩
      case round =>
        clear HV
        obtain ⟨k, acc, a, rfl, rfl, hk2, hk, hh⟩ := hrel
        obtain ⟨ha, hacc, hdec⟩ := hh.out
        clear hh
        have a0 : 0 ≤ a := by omega
        clear e1 e2
        by_cases hkn : k < s.size
        · rw [drop_cons s k hkn] at hdec
          have hc256 : (s[k]).toNat < 256 := (s[k]).toNat_lt
          have hp := pow16 (k - 2) (by omega)
          have icut : a < 1152921504606846976 := by omega
          cases hhex : hexB s[k]
          · rw [hexR_bad _ _ _ hhex] at hdec
            obtain ⟨n1, n2⟩ := hex_bad_cases _ hhex
            have HD := Lib.hid hdec
            clear hdec hhex ha hacc hp
            have hx : ((s[k]).toNat : Int) < 48 ∨ (57 < ((s[k]).toNat : Int) ∧ ((s[k]).toNat : Int) < 97) ∨ 102 < ((s[k]).toNat : Int) := by omega
            clear n1 n2
            rcases hx with hx | ⟨hx, hx2⟩ | hx
            all_goals
              go_wp2
              go_ret2
              exact ⟨by rw [← HD.out]; rfl, rfl⟩
          · rw [hexR_good _ _ _ hhex] at hdec
            have hpow : 16 ^ (k + 1 - 2) = 16 ^ (k - 2) * 16 := by rw [show k + 1 - 2 = (k - 2) + 1 by omega, Nat.pow_succ]
            rcases hex_cases _ hhex with ⟨hd0, hd1, hv⟩ | ⟨hd0, hd1, hv⟩
            · have HN : Hid (16 * a + (((s[k]).toNat : Int) - 48) = ((16 * acc + hexV s[k] : Nat) : Int) ∧ 16 * acc + hexV s[k] < 16 ^ (k + 1 - 2) ∧ hexR (16 * acc + hexV s[k]) (s.data.toList.drop (k + 1)) = R) := Lib.hid ⟨by omega, by omega, hdec⟩
              clear hacc hdec ha hp hv hhex hpow
              go_wp2
              go_round
              case rel => exact ⟨k + 1, _, 16 * a + (((s[k]).toNat : Int) - 48), (by first | rfl | (congr 1; omega)), (by first | rfl | (congr 1; omega)), by omega, by omega, HN⟩
              case measure => simp [intOf]; omega
            · have HN : Hid (16 * a + (((s[k]).toNat : Int) - 87) = ((16 * acc + hexV s[k] : Nat) : Int) ∧ 16 * acc + hexV s[k] < 16 ^ (k + 1 - 2) ∧ hexR (16 * acc + hexV s[k]) (s.data.toList.drop (k + 1)) = R) := Lib.hid ⟨by omega, by omega, hdec⟩
              clear hacc hdec ha hp hv hhex hpow
              go_wp2
              go_round
              case rel => exact ⟨k + 1, _, 16 * a + (((s[k]).toNat : Int) - 87), (by first | rfl | (congr 1; omega)), (by first | rfl | (congr 1; omega)), by omega, by omega, HN⟩
              case measure => simp [intOf]; omega
        · have hkk : k = s.size := by omega
          subst hkk
          rw [List.drop_of_length_le (by simp)] at hdec
          have HD : Hid ((a, true) = R) := by show _ = _; rw [← hdec, ha]; rfl
          clear hacc hdec ha
          go_wp2
          go_ret2
          exact ⟨by rw [← HD.out]; rfl, rfl⟩

theorem rnum_hex (s : ByteArray) (h1 : 1 < s.size) (h48 : s[0] = 48) (h120 : s[1] = 120) : (if 3 ≤ s.size ∧ s.size ≤ 18 then hexR 0 (s.data.toList.drop 2) else (0, false)) = numR s.data.toList := by
  rw [numR_hex ((two_bytes s).2 ⟨h1, h48, h120⟩)]
  have hl : (s.data.toList.drop 2).length = s.size - 2 := by simp
  rw [hl]
  unfold hexR
  by_cases h : 3 ≤ s.size ∧ s.size ≤ 18
  · rw [if_pos h]
    by_cases ha : (s.data.toList.drop 2).all hexB = true
    · rw [if_pos ha, if_pos ⟨by omega, by omega, ha⟩]
    · rw [if_neg ha, if_neg (fun h' => ha h'.2.2)]
  · rw [if_neg h, if_neg (by omega)]

theorem rnum_dec (s : ByteArray) (hp : Lib.hasPrefix s.data.toList [48, 120] = false) : numR s.data.toList = if h : 1 ≤ s.size ∧ s.size ≤ 20 then (if 1 < s.size ∧ s[0] = 48 then (0, false) else decR 0 s.data.toList) else (0, false) := by
  rw [numR_dec hp]
  have hl : s.data.toList.length = s.size := by simp
  rw [hl]
  by_cases h1 : 1 ≤ s.size
  · have h0 := drop_cons s 0 (by omega)
    rw [List.drop_zero] at h0
    have hh : s.data.toList.head? = some s[0] := by rw [h0]; rfl
    rw [hh]
    by_cases h20 : s.size ≤ 20
    · rw [dif_pos ⟨h1, h20⟩]
      by_cases h48 : 1 < s.size ∧ s[0] = 48
      · rw [if_pos h48, if_neg (by rw [h48.2]; simp; omega)]
      · rw [if_neg h48]
        unfold decR
        by_cases ha : s.data.toList.all digitB = true ∧ valL 10 digV 0 s.data.toList < 18446744073709551616
        · rw [if_pos ha, if_pos ⟨h1, fun h => h48 ⟨h.1, Option.some.inj h.2⟩, ha⟩]
        · rw [if_neg ha, if_neg (fun h => ha h.2.2)]
    · rw [dif_neg (by omega), if_neg]
      rintro ⟨_, h2, h3, h4⟩
      rw [h0, List.all_cons, Bool.and_eq_true] at h3
      have hne : s[0] ≠ 48 := fun e => h2 ⟨by omega, by rw [e]⟩
      have := dec_long s[0] (s.data.toList.drop (0 + 1)) hne (by simp; omega) h3.1
      rw [h0] at h4
      omega
  · rw [dif_neg (by omega), if_neg (by omega)]

set_option maxHeartbeats 16000000 in
set_option maxRecDepth 100000 in
theorem rnumber_loop (s : ByteArray) (w : World) (hs : s.size ≤ 2 ^ 63 - 1) (hpos : 1 ≤ s.size) (h20' : s.size ≤ 20) (R : Int × Bool) (hR : decR 0 s.data.toList = R)
    (hx : (s.size = 1 ∧ (((s[0]).toNat : Int) == 48) = true) ∨ (((s[0]).toNat : Int) == 48) = false) :
    Calls Tryz.prog 111 #[.string s] w fun e w' => e = .returned (.tuple #[.int .u64 R.1, .bool R.2]) ∧ w = w' := by
  have HR := Lib.hid hR; clear hR
  have hy : (s.size = 1 ∧ (((s[0]).toNat : Int) == 48) = true) ∨ (s.size = 1 ∧ (((s[0]).toNat : Int) == 48) = false) ∨ (2 ≤ (s.size : Int) ∧ (((s[0]).toNat : Int) == 48) = false) := by
    rcases hx with h | h
    · exact .inl h
    · by_cases h1 : s.size = 1
      · exact .inr (.inl ⟨h1, h⟩)
      · exact .inr (.inr ⟨by omega, h⟩)
  clear hx
  rcases hy with ⟨h1, e1⟩ | ⟨h1, e1⟩ | ⟨h1, e1⟩
  case' inl => have h2 : (s.size : Int) < 2 := by omega
  case' inl => have h3 : (s.size : Int) ≤ 1 := by omega
  case' inl => have h4 : (1 : Int) ≤ (s.size : Int) := by omega
  case' inr.inl => have h2 : (s.size : Int) < 2 := by omega
  case' inr.inl => have h3 : (s.size : Int) ≤ 1 := by omega
  case' inr.inl => have h4 : (1 : Int) ≤ (s.size : Int) := by omega
  case' inl => clear h1
  case' inr.inl => clear h1
  all_goals
    go_enter Tryz.func111, Tryz.ntmps111
    go_wp2
    go_loop [7, 8] (fun vn vi => ∃ (k acc : Nat) (a : Int), vn = .int .u64 a ∧ vi = .int .i64 k ∧ k ≤ s.size ∧ Hid (a = (acc : Int) ∧ acc < 18446744073709551616 ∧ decR acc (s.data.toList.drop k) = R)) (fun _ vi => s.size - (intOf vi).toNat)
    case atStart => exact ⟨0, 0, 0, rfl, rfl, by omega, rfl, by omega, HR.out⟩
    case round =>
      clear HR
      obtain ⟨k, acc, a, rfl, rfl, hk, hh⟩ := hrel
      obtain ⟨ha, hacc, hdec⟩ := hh.out
      clear hh
      have a0 : 0 ≤ a := by omega
      have a1 : a < 18446744073709551616 := by omega
      try clear h48
      try clear e1
      by_cases hkn : k < s.size
      · rw [drop_cons s k hkn] at hdec
        have hc256 : (s[k]).toNat < 256 := (s[k]).toNat_lt
        cases hd : digitB s[k]
        · rw [decR_bad _ _ _ hd] at hdec
          have HD := Lib.hid hdec; have Hd := Lib.hid hd
          clear hdec hd ha hacc
          go_wp2_with (go_at_call 109; refine (rdigit_any _ _).mono ?_; rintro e w' ⟨rfl, rfl⟩; rw [Hd.out])
          go_ret2
          exact ⟨by rw [← HD.out]; rfl, rfl⟩
        · rw [decR_good _ _ _ hd] at hdec
          obtain ⟨d0, d1⟩ := digit_bounds hd
          have hv : digV s[k] = (s[k]).toNat - 48 := rfl
          have Hd := Lib.hid hd; clear hd
          by_cases hov : 18446744073709551616 ≤ 10 * acc + digV s[k]
          · rw [decR_big _ _ hov] at hdec
            have HD := Lib.hid hdec
            have hx : 1844674407370955161 < a ∨ (a ≤ 1844674407370955161 ∧ (a == 1844674407370955161) = true ∧ 5 < ((s[k]).toNat : Int) - 48) := by
              rw [beq_iff_eq]; omega
            clear hdec ha hacc hov hv
            rcases hx with hx | ⟨hx1, hx, hx2⟩
            all_goals
              go_wp2_with (go_at_call 109; refine (rdigit_any _ _).mono ?_; rintro e w' ⟨rfl, rfl⟩; rw [Hd.out])
              go_ret2
              exact ⟨by rw [← HD.out]; rfl, rfl⟩
          · have HN : Hid (10 * a + (((s[k]).toNat : Int) - 48) = ((10 * acc + digV s[k] : Nat) : Int) ∧ 10 * acc + digV s[k] < 18446744073709551616 ∧ decR (10 * acc + digV s[k]) (s.data.toList.drop (k + 1)) = R) := Lib.hid ⟨by omega, by omega, hdec⟩
            have hx : a ≤ 1844674407370955161 ∧ ((a == 1844674407370955161) = false ∨ ((a == 1844674407370955161) = true ∧ ((s[k]).toNat : Int) - 48 ≤ 5)) := by
              rw [beq_iff_eq, beq_eq_false_iff_ne]; omega
            have iov : 10 * a + (((s[k]).toNat : Int) - 48) < 18446744073709551616 := by omega
            clear hacc hdec ha hov hv
            obtain ⟨hx1, hx | ⟨hx, hx2⟩⟩ := hx
            all_goals
              go_wp2_with (go_at_call 109; refine (rdigit_any _ _).mono ?_; rintro e w' ⟨rfl, rfl⟩; rw [Hd.out])
              go_round
              case rel => exact ⟨k + 1, _, 10 * a + (((s[k]).toNat : Int) - 48), (by first | rfl | (congr 1; omega)), (by first | rfl | (congr 1; omega)), by omega, HN⟩
              case measure => simp [intOf]; omega
      · have hkk : k = s.size := by omega
        subst hkk
        rw [List.drop_of_length_le (by simp)] at hdec
        have HD : Hid ((a, true) = R) := by
          show _ = _; rw [← hdec, ha]; unfold decR; rw [if_pos ⟨rfl, by simpa [valL] using hacc⟩]; rfl
        clear hacc hdec ha
        go_wp2
        go_ret2
        exact ⟨by rw [← HD.out]; rfl, rfl⟩

set_option maxHeartbeats 16000000 in
set_option maxRecDepth 100000 in
theorem rnumber_dec (s : ByteArray) (w : World) (hs : s.size ≤ maxLen) (hp : Lib.hasPrefix s.data.toList [48, 120] = false) :
    Calls Tryz.prog 111 #[.string s] w fun e w' => e = .returned (.tuple #[.int .u64 (numR s.data.toList).1, .bool (numR s.data.toList).2]) ∧ w = w' := by
  unfold maxLen at hs
  rw [rnum_dec s hp]
  have hnot : ¬ ∃ h : 1 < s.size, s[0] = 48 ∧ s[1] = 120 := fun h => by rw [(two_bytes s).2 h] at hp; exact Bool.noConfusion hp
  have hcs : s.size = 0 ∨ s.size = 1 ∨ (∃ h : 1 < s.size, (((s[0]).toNat : Int) == 48) = false) ∨ (∃ h : 1 < s.size, (((s[0]).toNat : Int) == 48) = true ∧ (((s[1]).toNat : Int) == 120) = false) := by
    by_cases h : 1 < s.size
    · by_cases h48 : s[0] = 48
      · right; right; right
        refine ⟨h, by rw [h48]; rfl, ?_⟩
        rw [beq_eq_false_iff_ne]; intro e
        exact hnot ⟨h, h48, by rw [← UInt8.toNat_inj]; show _ = 120; omega⟩
      · right; right; left
        refine ⟨h, ?_⟩
        rw [beq_eq_false_iff_ne]; intro e
        exact h48 (by rw [← UInt8.toNat_inj]; show _ = 48; omega)
    · omega
  clear hnot hp
  rcases hcs with h0 | h1
  · rw [dif_neg (by omega)]
    have h2 : (s.size : Int) < 1 := by omega
    clear h0
    go_enter Tryz.func111, Tryz.ntmps111
    go_wp2
    go_ret2
    exact ⟨rfl, rfl⟩
  · have hpos : 1 ≤ s.size := by rcases h1 with h1 | ⟨h1, _⟩ | ⟨h1, _⟩ <;> omega
    by_cases h20 : 20 < s.size
    · rw [dif_neg (by omega)]
      rcases h1 with h1 | ⟨h1, e1⟩ | ⟨h1, e1, e2⟩
      · exfalso; omega
      all_goals
        go_enter Tryz.func111, Tryz.ntmps111
        go_wp2
        go_ret2
        exact ⟨rfl, rfl⟩
    · have h20' : s.size ≤ 20 := by omega
      rw [dif_pos ⟨hpos, h20'⟩]
      clear h20
      rcases h1 with h1 | ⟨h1, e1⟩ | ⟨h1, e1, e2⟩
      case inr.inr =>
        have h48 : s[0] = 48 := by
          have e3 := beq_iff_eq.1 e1
          have e4 : (s[0]).toNat = 48 := by omega
          rw [← UInt8.toNat_inj]; exact e4
        rw [if_pos ⟨h1, h48⟩]
        clear h48
        go_enter Tryz.func111, Tryz.ntmps111
        go_wp2
        go_ret2
        exact ⟨rfl, rfl⟩
      · have hn : ¬ (1 < s.size ∧ s[0] = 48) := fun h => by omega
        rw [if_neg hn]
        clear hn
        generalize hR : decR 0 s.data.toList = R
        by_cases h48 : (((s[0]).toNat : Int) == 48) = true
        · exact rnumber_loop s w hs hpos h20' R hR (.inl ⟨h1, h48⟩)
        · rw [Bool.not_eq_true] at h48
          exact rnumber_loop s w hs hpos h20' R hR (.inr h48)
      · have hn : ¬ (1 < s.size ∧ s[0] = 48) := fun h => by rw [h.2] at e1; exact absurd e1 (by decide)
        rw [if_neg hn]
        clear hn
        generalize hR : decR 0 s.data.toList = R
        exact rnumber_loop s w hs hpos h20' R hR (.inr e1)

theorem rnumber_any (s : ByteArray) (w : World) (hs : s.size ≤ maxLen) :
    Calls Tryz.prog 111 #[.string s] w fun e w' => e = .returned (.tuple #[.int .u64 (numR s.data.toList).1, .bool (numR s.data.toList).2]) ∧ w = w' := by
  cases hp : Lib.hasPrefix s.data.toList [48, 120]
  · exact rnumber_dec s w hs hp
  · obtain ⟨h1, h48, h120⟩ := (two_bytes s).1 hp
    rw [← rnum_hex s h1 h48 h120]
    exact rnumber_hex s w hs h1 h48 h120
end Go.Proofs.YtlmopoipjolbgaaGreatDoor.LexW
namespace Go.Proofs.YtlmopoipjolbgaaGreatDoor.LexW
open Go.RowKit Go.Shelf Go.Proofs.YtlmopoipjolbgaaGreatDoor.LexS
set_option linter.unusedVariables false
set_option linter.unusedSimpArgs false

set_option maxHeartbeats 4000000 in
set_option maxRecDepth 100000 in
theorem rnext_out (s : ByteArray) (k : Int) (w : World) (h : 65536 < s.size ∨ k < 0 ∨ (s.size : Int) < k) :
    Calls Tryz.prog 87 #[.string s, .int .i64 k] w fun e w' => e = .returned (nextVal (nextV s k)) ∧ Below w.heap.size w w' := by
  by_cases h1 : 65536 < s.size
  · rw [show nextV s k = (0, nil0, 0, 0, 0, 54) by unfold nextV; rw [if_pos h1]]
    clear h
    go_enter Tryz.func87, Tryz.ntmps87
    go_wp2
    refine bodyPost_ret (v := nextVal (0, nil0, 0, 0, 0, 54)) (by simp [results, Tryz.results87, go_sem, nextVal, nil0]) rfl ⟨rfl, ?_⟩
    exact (Below.refl _ _).alloc (Nat.le_refl _) _
  · have h2 : k < 0 ∨ (s.size : Int) < k := by omega
    rw [show nextV s k = (0, nil0, 0, 0, 0, 1) by unfold nextV; rw [if_neg h1, if_pos h2]]
    have h3 : s.size ≤ 65536 := by omega
    clear h h1
    by_cases h4 : k < 0
    · clear h2
      go_enter Tryz.func87, Tryz.ntmps87
      go_wp2
      refine bodyPost_ret (v := nextVal (0, nil0, 0, 0, 0, 1)) (by simp [results, Tryz.results87, go_sem, nextVal, nil0]) rfl ⟨rfl, ?_⟩
      exact (Below.refl _ _).alloc (Nat.le_refl _) _
    · have h5 : 0 ≤ k := by omega
      have h6 : (s.size : Int) < k := by omega
      clear h2 h4
      go_enter Tryz.func87, Tryz.ntmps87
      go_wp2
      refine bodyPost_ret (v := nextVal (0, nil0, 0, 0, 0, 1)) (by simp [results, Tryz.results87, go_sem, nextVal, nil0]) rfl ⟨rfl, ?_⟩
      exact (Below.refl _ _).alloc (Nat.le_refl _) _

set_option maxHeartbeats 4000000 in
set_option maxRecDepth 100000 in
theorem rnext_end (s : ByteArray) (k : Nat) (w : World) (hs : s.size ≤ 65536) (hk : k ≤ s.size) (hp : beginN s k = s.size) :
    Calls Tryz.prog 87 #[.string s, .int .i64 k] w fun e w' => e = .returned (nextVal (1, nil0, 0, s.size, s.size, 0)) ∧ Below w.heap.size w w' := by
  have hm : s.size ≤ maxLen := by unfold maxLen; omega
  have hk2 : (k : Int) ≤ (s.size : Int) := by omega
  have hk0 : (0 : Int) ≤ (k : Int) := by omega
  have HP := Lib.hid hp; clear hp
  go_enter Tryz.func87, Tryz.ntmps87
  go_wp2_with fail
  refine (rskip_any s k _ hm hk).mono ?_
  rintro e w' ⟨rfl, rfl⟩
  rw [HP.out]
  go_wp2
  refine bodyPost_ret (v := nextVal (1, nil0, 0, s.size, s.size, 0)) (by simp [results, Tryz.results87, go_sem, nextVal, nil0]) rfl ⟨rfl, ?_⟩
  exact (Below.refl _ _).alloc (Nat.le_refl _) _

set_option maxHeartbeats 4000000 in
set_option maxRecDepth 100000 in
theorem rnext_word (s : ByteArray) (k p q : Nat) (d : Bool) (w : World) (hs : s.size ≤ 65536) (hk : k ≤ s.size) (hp : beginN s k = p) (hlt : p < s.size) (hq : whileN wordB s p = q) (hle : p ≤ q) (hqs : q ≤ s.size) (hl : letterB s[p] = true) (hd : digitB s[p] = d) :
    Calls Tryz.prog 87 #[.string s, .int .i64 k] w fun e w' => e = .returned (nextVal (if 32 < q - p then (0, nil0, 0, 0, p, 52) else (2, s.extract p q, 0, p, q, 0))) ∧ Below w.heap.size w w' := by
  have hm : s.size ≤ maxLen := by unfold maxLen; omega
  have hk2 : (k : Int) ≤ (s.size : Int) := by omega
  have hk0 : (0 : Int) ≤ (k : Int) := by omega
  have HP := Lib.hid hp; clear hp
  have HQ := Lib.hid hq; clear hq
  have HL := Lib.hid hl; clear hl
  have HD := Lib.hid hd; clear hd
  have hne : ((p : Int) == (s.size : Int)) = false := by rw [beq_eq_false_iff_ne]; omega
  have hsub : IntKind.i64.wrap ((q : Int) - (p : Int)) = (q : Int) - (p : Int) := by rw [IntKind.wrap_i64]; omega
  by_cases h32 : 32 < q - p
  · rw [if_pos h32]
    have h33 : (32 : Int) < (q : Int) - (p : Int) := by omega
    go_enter Tryz.func87, Tryz.ntmps87
    go_wp2_with fail
    refine (rskip_any s k _ hm hk).mono ?_
    rintro e w' ⟨rfl, rfl⟩
    rw [HP.out]
    go_wp2_with fail
    refine (rletter_any _ _).mono ?_
    rintro e w' ⟨rfl, rfl⟩
    rw [HL.out]
    go_wp2_with fail
    refine (rdigit_any _ _).mono ?_
    rintro e w' ⟨rfl, rfl⟩
    rw [HD.out]
    go_wp2_with fail
    refine (rrun_any s p _ hm (by omega)).mono ?_
    rintro e w' ⟨rfl, rfl⟩
    rw [HQ.out]
    go_wp2
    refine bodyPost_ret (v := nextVal (0, nil0, 0, 0, p, 52)) (by simp [results, Tryz.results87, go_sem, nextVal, nil0]) rfl ⟨rfl, ?_⟩
    exact ((Below.refl _ _).alloc (Nat.le_refl _) _).alloc (by simp) _
  · rw [if_neg h32]
    have h33 : (q : Int) - (p : Int) ≤ 32 := by omega
    go_enter Tryz.func87, Tryz.ntmps87
    go_wp2_with fail
    refine (rskip_any s k _ hm hk).mono ?_
    rintro e w' ⟨rfl, rfl⟩
    rw [HP.out]
    go_wp2_with fail
    refine (rletter_any _ _).mono ?_
    rintro e w' ⟨rfl, rfl⟩
    rw [HL.out]
    go_wp2_with fail
    refine (rdigit_any _ _).mono ?_
    rintro e w' ⟨rfl, rfl⟩
    rw [HD.out]
    go_wp2_with fail
    refine (rrun_any s p _ hm (by omega)).mono ?_
    rintro e w' ⟨rfl, rfl⟩
    rw [HQ.out]
    go_wp2
    refine bodyPost_ret (v := nextVal (2, s.extract p q, 0, p, q, 0)) (by simp [results, Tryz.results87, go_sem, nextVal]) rfl ⟨rfl, ?_⟩
    exact ((Below.refl _ _).alloc (Nat.le_refl _) _).alloc (by simp) _

set_option maxHeartbeats 4000000 in
set_option maxRecDepth 100000 in
theorem rnext_number (s : ByteArray) (k p q : Nat) (w : World) (hs : s.size ≤ 65536) (hk : k ≤ s.size) (hp : beginN s k = p) (hlt : p < s.size) (hq : whileN wordB s p = q) (hle : p ≤ q) (hqs : q ≤ s.size) (hl : letterB s[p] = false) (hd : digitB s[p] = true) :
    Calls Tryz.prog 87 #[.string s, .int .i64 k] w fun e w' => e = .returned (nextVal (if (numR (s.extract p q).data.toList).2 then (3, s.extract p q, (numR (s.extract p q).data.toList).1, p, q, 0) else (0, nil0, 0, 0, p, 53))) ∧ Below w.heap.size w w' := by
  have hm : s.size ≤ maxLen := by unfold maxLen; omega
  have hk2 : (k : Int) ≤ (s.size : Int) := by omega
  have hk0 : (0 : Int) ≤ (k : Int) := by omega
  have HP := Lib.hid hp; clear hp
  have HQ := Lib.hid hq; clear hq
  have HL := Lib.hid hl; clear hl
  have HD := Lib.hid hd; clear hd
  have hne : ((p : Int) == (s.size : Int)) = false := by rw [beq_eq_false_iff_ne]; omega
  have hN := fun (W : World) => rnumber_any (s.extract p q) W (by unfold maxLen; simp; omega)
  obtain ⟨n, hn⟩ : ∃ n, n = (numR (s.extract p q).data.toList).1 := ⟨_, rfl⟩
  obtain ⟨b, hb⟩ : ∃ b, b = (numR (s.extract p q).data.toList).2 := ⟨_, rfl⟩
  rw [← hn, ← hb]
  rw [← hn, ← hb] at hN
  have HN := Lib.hid hN
  clear hn hb hN
  cases b
  all_goals
    go_enter Tryz.func87, Tryz.ntmps87
    go_wp2_with fail
    refine (rskip_any s k _ hm hk).mono ?_
    rintro e w' ⟨rfl, rfl⟩
    rw [HP.out]
    go_wp2_with fail
    refine (rletter_any _ _).mono ?_
    rintro e w' ⟨rfl, rfl⟩
    rw [HL.out]
    go_wp2_with fail
    refine (rdigit_any _ _).mono ?_
    rintro e w' ⟨rfl, rfl⟩
    rw [HD.out]
    go_wp2_with fail
    refine (rrun_any s p _ hm (by omega)).mono ?_
    rintro e w' ⟨rfl, rfl⟩
    rw [HQ.out]
    go_wp2_with fail
    refine (HN.out _).mono ?_
    rintro e w1 ⟨rfl, rfl⟩
    go_wp2
  · refine bodyPost_ret (v := nextVal (0, nil0, 0, 0, p, 53)) (by simp [results, Tryz.results87, go_sem, nextVal, nil0]) rfl ⟨rfl, ?_⟩
    exact ((Below.refl _ _).alloc (Nat.le_refl _) _).alloc (by simp) _
  · refine bodyPost_ret (v := nextVal (3, s.extract p q, n, p, q, 0)) (by simp [results, Tryz.results87, go_sem, nextVal]) rfl ⟨rfl, ?_⟩
    exact ((Below.refl _ _).alloc (Nat.le_refl _) _).alloc (by simp) _

set_option maxHeartbeats 4000000 in
set_option maxRecDepth 100000 in
theorem rnext_sign (s : ByteArray) (k p q : Nat) (w : World) (hs : s.size ≤ 65536) (hk : k ≤ s.size) (hp : beginN s k = p) (hlt : p < s.size) (hq : whileN wordB s p = q) (hle : p ≤ q) (hqs : q ≤ s.size) (hl : letterB s[p] = false) (hd : digitB s[p] = false) :
    Calls Tryz.prog 87 #[.string s, .int .i64 k] w fun e w' => e = .returned (nextVal (if signL (s.data.toList.drop p) = 0 then (0, nil0, 0, 0, p, 51) else (4, s.extract p (p + signL (s.data.toList.drop p)), 0, p, p + signL (s.data.toList.drop p), 0))) ∧ Below w.heap.size w w' := by
  have hm : s.size ≤ maxLen := by unfold maxLen; omega
  have hk2 : (k : Int) ≤ (s.size : Int) := by omega
  have hk0 : (0 : Int) ≤ (k : Int) := by omega
  have HP := Lib.hid hp; clear hp
  have HQ := Lib.hid hq; clear hq
  have HL := Lib.hid hl; clear hl
  have HD := Lib.hid hd; clear hd
  have hne : ((p : Int) == (s.size : Int)) = false := by rw [beq_eq_false_iff_ne]; omega
  have hg := fun W => rsign_any s p W hm hlt
  have hle2 := sign_le (s.data.toList.drop p)
  have hlen : (s.data.toList.drop p).length = s.size - p := by simp
  rw [hlen] at hle2
  generalize signL (s.data.toList.drop p) = n at *
  have HG := Lib.hid hg; clear hg hlen
  by_cases h0 : n = 0
  · subst h0
    rw [if_pos rfl]
    go_enter Tryz.func87, Tryz.ntmps87
    go_wp2_with fail
    refine (rskip_any s k _ hm hk).mono ?_
    rintro e w' ⟨rfl, rfl⟩
    rw [HP.out]
    go_wp2_with fail
    refine (rletter_any _ _).mono ?_
    rintro e w' ⟨rfl, rfl⟩
    rw [HL.out]
    go_wp2_with fail
    refine (rdigit_any _ _).mono ?_
    rintro e w' ⟨rfl, rfl⟩
    rw [HD.out]
    go_wp2_with fail
    refine (HG.out _).mono ?_
    rintro e w' ⟨rfl, rfl⟩
    go_wp2
    refine bodyPost_ret (v := nextVal (0, nil0, 0, 0, p, 51)) (by simp [results, Tryz.results87, go_sem, nextVal, nil0]) rfl ⟨rfl, ?_⟩
    exact (Below.refl _ _).alloc (Nat.le_refl _) _
  · rw [if_neg h0]
    have hn0 : ((n : Int) == 0) = false := by rw [beq_eq_false_iff_ne]; omega
    have hadd : IntKind.i64.wrap ((p : Int) + (n : Int)) = (p : Int) + (n : Int) := by rw [IntKind.wrap_i64]; omega
    go_enter Tryz.func87, Tryz.ntmps87
    go_wp2_with fail
    refine (rskip_any s k _ hm hk).mono ?_
    rintro e w' ⟨rfl, rfl⟩
    rw [HP.out]
    go_wp2_with fail
    refine (rletter_any _ _).mono ?_
    rintro e w' ⟨rfl, rfl⟩
    rw [HL.out]
    go_wp2_with fail
    refine (rdigit_any _ _).mono ?_
    rintro e w' ⟨rfl, rfl⟩
    rw [HD.out]
    go_wp2_with fail
    refine (HG.out _).mono ?_
    rintro e w' ⟨rfl, rfl⟩
    go_wp2
    refine bodyPost_ret (v := nextVal (4, s.extract p (p + n), 0, p, p + n, 0)) (by simp [results, Tryz.results87, go_sem, nextVal]) rfl ⟨rfl, ?_⟩
    exact (Below.refl _ _).alloc (Nat.le_refl _) _

theorem rnext_any (s : ByteArray) (k : Int) (w : World) :
    Calls Tryz.prog 87 #[.string s, .int .i64 k] w fun e w' => e = .returned (nextVal (nextV s k)) ∧ Below w.heap.size w w' := by
  by_cases h : 65536 < s.size ∨ k < 0 ∨ (s.size : Int) < k
  · exact rnext_out s k w h
  · obtain ⟨j, rfl⟩ := Int.eq_ofNat_of_zero_le (show 0 ≤ k by omega)
    have h1 : ¬ 65536 < s.size := by omega
    have h2 : ¬ ((j : Int) < 0 ∨ (s.size : Int) < (j : Int)) := by omega
    have hj : j ≤ s.size := by omega
    unfold nextV
    rw [if_neg h1, if_neg h2, Int.toNat_natCast]
    by_cases hp : beginN s j < s.size
    · rw [dif_pos hp]
      have hle := whileN_ge wordB s (beginN s j)
      have hqs := whileN_le wordB s (beginN s j) (by omega)
      unfold tokV
      cases hl : letterB s[beginN s j]
      · rw [if_neg (by simp)]
        cases hd : digitB s[beginN s j]
        · rw [if_neg (by simp)]
          exact rnext_sign s j _ _ w (by omega) hj rfl hp rfl hle hqs hl hd
        · rw [if_pos rfl]
          exact rnext_number s j _ _ w (by omega) hj rfl hp rfl hle hqs hl hd
      · rw [if_pos rfl]
        exact rnext_word s j _ _ _ w (by omega) hj rfl hp rfl hle hqs hl rfl
    · rw [dif_neg hp]
      exact rnext_end s j w (by omega) hj (by have := begin_le s j; omega)
end Go.Proofs.YtlmopoipjolbgaaGreatDoor.LexW
namespace Go.Proofs.YtlmopoipjolbgaaGreatDoor.LexW
open Go.RowKit Go.Shelf Go.Proofs.YtlmopoipjolbgaaGreatDoor.LexS Go.Proofs.YtlmopoipjolbgaaGreatDoorW.PrintWords
set_option linter.unusedVariables false
set_option linter.unusedSimpArgs false

/-- a token -/
structure Tk where
  kind : Int
  text : ByteArray
  num : Int
  at_ : Int
deriving DecidableEq
def tkz : Tk := ⟨0, nil0, 0, 0⟩
def kTk : Kd Tk := Kd.iso (Kd.pair (Kd.int .i64) (Kd.pair Kd.string (Kd.pair (Kd.int .u64) (Kd.int .i64)))) (fun x : Tk => (x.kind, x.text, x.num, x.at_))
def tkCells (x : Tk) : List Value := [.int .i64 x.kind, .string x.text, .int .u64 x.num, .int .i64 x.at_]
theorem kTk_open {w : World} {x : Tk} {cs : List Value} (h : kTk.K w x cs) : cs = tkCells x := by
  obtain ⟨_, _, rfl, rfl, ⟨_, _, rfl, rfl, ⟨_, _, rfl, rfl, rfl⟩⟩⟩ := h
  rfl
theorem kTk_mk (w : World) (x : Tk) : kTk.K w x (tkCells x) := ⟨[.int .i64 x.kind], [.string x.text, .int .u64 x.num, .int .i64 x.at_], rfl, rfl, ⟨[.string x.text], [.int .u64 x.num, .int .i64 x.at_], rfl, rfl, ⟨[.int .u64 x.num], [.int .i64 x.at_], rfl, rfl, rfl⟩⟩⟩
theorem kTk_mkM (w : World) (base : Nat) (ok : Nat → Prop) (x : Tk) : kTk.M w base ok x (tkCells x) := ⟨[.int .i64 x.kind], [.string x.text, .int .u64 x.num, .int .i64 x.at_], rfl, rfl, ⟨[.string x.text], [.int .u64 x.num, .int .i64 x.at_], rfl, rfl, ⟨[.int .u64 x.num], [.int .i64 x.at_], rfl, rfl, rfl⟩⟩⟩
/-- a slice of tokens, read at a place -/
theorem tk_at {w : World} {A : Option Addr} {n : Nat} {xs : List Tk} (h : kTk.C w A n xs) (i : Nat) (h1 : i < n) : ∃ ad, A = some ad ∧
    w.cell? (ad.add (i * 4)) = some (.int .i64 (xs.getD i tkz).kind) ∧ w.cell? ⟨(ad.add (i * 4)).block, (ad.add (i * 4)).off + 1, none⟩ = some (.string (xs.getD i tkz).text) ∧
    w.cell? ⟨(ad.add (i * 4)).block, (ad.add (i * 4)).off + 2, none⟩ = some (.int .u64 (xs.getD i tkz).num) ∧ w.cell? ⟨(ad.add (i * 4)).block, (ad.add (i * 4)).off + 3, none⟩ = some (.int .i64 (xs.getD i tkz).at_) := by
  obtain ⟨ad, c, e, _, hK, hc0⟩ := Kd.C_get h tkz (i : Int) (by omega) (by omega)
  rw [Int.toNat_natCast] at hK hc0
  have hc : ∀ j u, c[j]? = some u → w.cell? (ad.add (i * 4 + j)) = some u := hc0
  obtain rfl := kTk_open hK
  exact ⟨ad, e, hc 0 _ rfl, by rw [← add_field _ _ 1 (by omega)]; exact hc 1 _ rfl, by rw [← add_field _ _ 2 (by omega)]; exact hc 2 _ rfl, by rw [← add_field _ _ 3 (by omega)]; exact hc 3 _ rfl⟩

def tokOf (x : NextT) : Tk := ⟨x.1, x.2.1, x.2.2.1, x.2.2.2.1⟩
abbrev placeOf (x : NextT) : Int := x.2.2.2.2.1
abbrev errOf (x : NextT) : Int := x.2.2.2.2.2
/-- the tokens from a place on, up to the end, or ahead of what is wrong; the error and its place -/
def toksF : Nat → ByteArray → Nat → List Tk × Int × Int
  | 0, _, _ => ([], 0, 0)
  | f + 1, s, k =>
    if errOf (nextV s k) ≠ 0 then ([], errOf (nextV s k), placeOf (nextV s k))
    else if (nextV s k).1 = 1 then ([tokOf (nextV s k)], 0, 0)
    else (tokOf (nextV s k) :: (toksF f s (placeOf (nextV s k)).toNat).1, (toksF f s (placeOf (nextV s k)).toNat).2)
def toksA (s : ByteArray) (k : Nat) : List Tk × Int × Int := toksF (s.size + 2) s k
def toks (s : ByteArray) : List Tk × Int × Int := toksA s 0

theorem run_pos {s : ByteArray} {p : Nat} (h : p < s.size) (hw : wordB s[p] = true) : p < whileN wordB s p := by
  rw [whileN_yes h hw]; have := whileN_ge wordB s (p + 1); omega
/-- a token that is no end: its text stands between two places, and is not empty -/
theorem next_ok (s : ByteArray) (k : Nat) (h : errOf (nextV s k) = 0) : s.size ≤ 65536 ∧ k ≤ s.size ∧
    ((nextV s k = ((1 : Int), nil0, (0 : Int), (s.size : Int), (s.size : Int), (0 : Int)) ∧ beginN s k = s.size) ∨
     (∃ p q : Nat, p = beginN s k ∧ k ≤ p ∧ p < q ∧ q ≤ s.size ∧ (nextV s k).1 ≠ 1 ∧ (nextV s k).2.1 = s.extract p q ∧ (nextV s k).2.2.2.1 = p ∧ placeOf (nextV s k) = q)) := by
  unfold nextV at h ⊢
  by_cases h1 : 65536 < s.size
  · rw [if_pos h1] at h; exact absurd h (by decide)
  rw [if_neg h1] at h ⊢
  by_cases h2 : (k : Int) < 0 ∨ (s.size : Int) < (k : Int)
  · rw [if_pos h2] at h; exact absurd h (by decide)
  rw [if_neg h2] at h ⊢
  rw [Int.toNat_natCast] at h ⊢
  refine ⟨by omega, by omega, ?_⟩
  have hk : k ≤ s.size := by omega
  have hge := begin_ge k hk
  by_cases hp : beginN s k < s.size
  · right
    rw [dif_pos hp] at h ⊢
    have hqs := whileN_le wordB s (beginN s k) (by omega)
    unfold tokV at h ⊢
    by_cases hl : letterB s[beginN s k] = true
    · rw [if_pos hl] at h ⊢
      by_cases h32 : 32 < whileN wordB s (beginN s k) - beginN s k
      · rw [if_pos h32] at h; exact absurd (show (52 : Int) = 0 from h) (by decide)
      · rw [if_neg h32] at h ⊢
        exact ⟨_, _, rfl, hge, run_pos hp (by unfold wordB; rw [hl]; rfl), hqs, show (2 : Int) ≠ 1 by decide, rfl, rfl, rfl⟩
    · rw [if_neg hl] at h ⊢
      by_cases hd : digitB s[beginN s k] = true
      · rw [if_pos hd] at h ⊢
        by_cases hn : (numR (s.extract (beginN s k) (whileN wordB s (beginN s k))).data.toList).2 = true
        · rw [if_pos hn] at h ⊢
          exact ⟨_, _, rfl, hge, run_pos hp (by unfold wordB; rw [hd]; simp), hqs, show (3 : Int) ≠ 1 by decide, rfl, rfl, rfl⟩
        · rw [if_neg hn] at h; exact absurd (show (53 : Int) = 0 from h) (by decide)
      · rw [if_neg hd] at h ⊢
        by_cases hz : signL (s.data.toList.drop (beginN s k)) = 0
        · rw [if_pos hz] at h; exact absurd (show (51 : Int) = 0 from h) (by decide)
        · rw [if_neg hz] at h ⊢
          have hle := sign_le (s.data.toList.drop (beginN s k))
          have hlen : (s.data.toList.drop (beginN s k)).length = s.size - beginN s k := by simp
          exact ⟨_, _, rfl, hge, by omega, by omega, show (4 : Int) ≠ 1 by decide, rfl, rfl, by push_cast; rfl⟩
  · left
    rw [dif_neg hp]
    exact ⟨rfl, by have := begin_le s k; omega⟩

/-- one token on -/
theorem toks_err {f : Nat} {s : ByteArray} {k : Nat} (h : errOf (nextV s k) ≠ 0) : toksF (f + 1) s k = ([], errOf (nextV s k), placeOf (nextV s k)) := by
  rw [toksF, if_pos h]
theorem toks_end {f : Nat} {s : ByteArray} {k : Nat} (h : errOf (nextV s k) = 0) (h1 : (nextV s k).1 = 1) : toksF (f + 1) s k = ([tokOf (nextV s k)], 0, 0) := by
  rw [toksF, if_neg (by simpa using h), if_pos h1]
theorem toks_more {f : Nat} {s : ByteArray} {k q : Nat} (h : errOf (nextV s k) = 0) (h1 : (nextV s k).1 ≠ 1) (hq : placeOf (nextV s k) = (q : Int)) :
    toksF (f + 1) s k = (tokOf (nextV s k) :: (toksF f s q).1, (toksF f s q).2) := by
  rw [toksF, if_neg (by simpa using h), if_neg h1, hq, Int.toNat_natCast]
/-- enough rounds are enough -/
theorem toksF_enough (s : ByteArray) : ∀ (f g : Nat) (k : Nat), s.size + 1 ≤ f + k → s.size + 1 ≤ g + k → toksF (f + 1) s k = toksF (g + 1) s k := by
  intro f
  induction f with
  | zero =>
    intro g k hf hg
    by_cases h : errOf (nextV s k) = 0
    · obtain ⟨_, hk, _⟩ := next_ok s k h
      omega
    · rw [toks_err h, toks_err h]
  | succ f ih =>
    intro g k hf hg
    by_cases h : errOf (nextV s k) = 0
    · obtain ⟨_, hk, ⟨he, _⟩ | ⟨p, q, _, hkp, hpq, hq, h1, _, _, hpl⟩⟩ := next_ok s k h
      · have h1 : (nextV s k).1 = 1 := by rw [he]
        rw [toks_end h h1, toks_end h h1]
      · rw [toks_more h h1 hpl, toks_more h h1 hpl]
        obtain ⟨g, rfl⟩ : ∃ g', g = g' + 1 := ⟨g - 1, by omega⟩
        rw [ih g q (by omega) (by omega)]
    · rw [toks_err h, toks_err h]
theorem toksA_err {s : ByteArray} {k : Nat} (h : errOf (nextV s k) ≠ 0) : toksA s k = ([], errOf (nextV s k), placeOf (nextV s k)) := toks_err h
theorem toksA_end {s : ByteArray} {k : Nat} (h : errOf (nextV s k) = 0) (h1 : (nextV s k).1 = 1) : toksA s k = ([tokOf (nextV s k)], 0, 0) := toks_end h h1
theorem toksA_more {s : ByteArray} {k q : Nat} (h : errOf (nextV s k) = 0) (h1 : (nextV s k).1 ≠ 1) (hq : placeOf (nextV s k) = (q : Int)) (hkq : k < q) :
    toksA s k = (tokOf (nextV s k) :: (toksA s q).1, (toksA s q).2) := by
  unfold toksA
  rw [toks_more h h1 hq, toksF_enough s s.size (s.size + 1) q (by omega) (by omega)]
end Go.Proofs.YtlmopoipjolbgaaGreatDoor.LexW
