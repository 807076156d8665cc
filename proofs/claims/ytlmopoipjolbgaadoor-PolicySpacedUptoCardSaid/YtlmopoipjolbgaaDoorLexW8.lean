/-
  The walks of layer 5 (lex), eighth part: the token that begins at a place.
-/
import Derived.Test.YtlmopoipjolbgaaDoorLexW7
namespace Go.Proofs.YtlmopoipjolbgaaDoor.LexW
open Go.RowKit Go.Shelf Go.Proofs.YtlmopoipjolbgaaDoor.LexS
set_option linter.unusedVariables false
set_option linter.unusedSimpArgs false

/-- what Next answers: kind, text, number, place; the place behind; the error -/
abbrev NextT : Type := Int × ByteArray × Int × Int × Int × Int
def nil0 : ByteArray := ⟨#[]⟩
def tokV (s : ByteArray) (p e : Nat) (c : UInt8) : NextT :=
  if letterB c then (if 32 < e - p then (0, nil0, 0, 0, p, 52) else (2, s.extract p e, 0, p, e, 0))
  else if digitB c then (if (numR (s.extract p e).data.toList).2 then (3, s.extract p e, (numR (s.extract p e).data.toList).1, p, e, 0) else (0, nil0, 0, 0, p, 53))
  else if signL (s.data.toList.drop p) = 0 then (0, nil0, 0, 0, p, 51) else (4, s.extract p (p + signL (s.data.toList.drop p)), 0, p, p + signL (s.data.toList.drop p), 0)
def nextV (s : ByteArray) (at_ : Int) : NextT :=
  if 65536 < s.size then (0, nil0, 0, 0, 0, 54)
  else if at_ < 0 ∨ (s.size : Int) < at_ then (0, nil0, 0, 0, 0, 1)
  else if h : beginN s at_.toNat < s.size then tokV s (beginN s at_.toNat) (whileN wordB s (beginN s at_.toNat)) (s[beginN s at_.toNat])
  else (1, nil0, 0, s.size, s.size, 0)
def nextVal (x : NextT) : Value := .tuple #[.agg #[.int .i64 x.1, .string x.2.1, .int .u64 x.2.2.1, .int .i64 x.2.2.2.1], .int .i64 x.2.2.2.2.1, .int .i64 x.2.2.2.2.2]

theorem sign_drop (s : ByteArray) (p : Nat) : (s.extract p s.size).data.toList = s.data.toList.drop p := Lib.extract_to_end s p
theorem sign_le (l : List UInt8) : signL l ≤ l.length := by
  cases l with
  | nil => simp [signL]
  | cons c r =>
    simp only [signL]
    split
    · rename_i h
      rw [Bool.and_eq_true] at h
      cases r with
      | nil => simp at h
      | cons d r => simp
    · split <;> simp

theorem bcell {W w1 : World} (hb : Below W.heap.size W w1) : (∀ b o, b < W.heap.size → w1.cell? ⟨b, o, none⟩ = W.cell? ⟨b, o, none⟩) ∧ (∀ b o, b < W.heap.size → w1.frozen? ⟨b, o, none⟩ = W.frozen? ⟨b, o, none⟩) :=
  ⟨fun b o h => hb.cell (p := ⟨b, o, none⟩) h, fun b o h => hb.frozen (p := ⟨b, o, none⟩) h⟩
theorem wrap_nat (n : Nat) (h : n ≤ 9223372036854775807) : wrap64 (n : Int) = (n : Int) := by unfold wrap64; omega

set_option maxHeartbeats 4000000 in
set_option maxRecDepth 100000 in
theorem next_out (s : ByteArray) (k : Int) (w : World) (h : 65536 < s.size ∨ k < 0 ∨ (s.size : Int) < k) :
    Calls Tryd.prog 18 #[.string s, .int .i64 k] w fun e w' => e = .returned (nextVal (nextV s k)) ∧ Below w.heap.size w w' := by
  by_cases h1 : 65536 < s.size
  · rw [show nextV s k = (0, nil0, 0, 0, 0, 54) by unfold nextV; rw [if_pos h1]]
    clear h
    go_enter Tryd.func18, Tryd.ntmps18
    go_wp2
    refine bodyPost_ret (v := nextVal (0, nil0, 0, 0, 0, 54)) (by simp [results, Tryd.results18, go_sem, nextVal, nil0]) rfl ⟨rfl, ?_⟩
    exact (Below.refl _ _).alloc (Nat.le_refl _) _
  · have h2 : k < 0 ∨ (s.size : Int) < k := by omega
    rw [show nextV s k = (0, nil0, 0, 0, 0, 1) by unfold nextV; rw [if_neg h1, if_pos h2]]
    have h3 : s.size ≤ 65536 := by omega
    clear h h1
    by_cases h4 : k < 0
    · clear h2
      go_enter Tryd.func18, Tryd.ntmps18
      go_wp2
      refine bodyPost_ret (v := nextVal (0, nil0, 0, 0, 0, 1)) (by simp [results, Tryd.results18, go_sem, nextVal, nil0]) rfl ⟨rfl, ?_⟩
      exact (Below.refl _ _).alloc (Nat.le_refl _) _
    · have h5 : 0 ≤ k := by omega
      have h6 : (s.size : Int) < k := by omega
      clear h2 h4
      go_enter Tryd.func18, Tryd.ntmps18
      go_wp2
      refine bodyPost_ret (v := nextVal (0, nil0, 0, 0, 0, 1)) (by simp [results, Tryd.results18, go_sem, nextVal, nil0]) rfl ⟨rfl, ?_⟩
      exact (Below.refl _ _).alloc (Nat.le_refl _) _

set_option maxHeartbeats 4000000 in
set_option maxRecDepth 100000 in
theorem next_end (s : ByteArray) (k : Nat) (w : World) (hs : s.size ≤ 65536) (hk : k ≤ s.size) (hp : beginN s k = s.size) :
    Calls Tryd.prog 18 #[.string s, .int .i64 k] w fun e w' => e = .returned (nextVal (1, nil0, 0, s.size, s.size, 0)) ∧ Below w.heap.size w w' := by
  have hm : s.size ≤ maxLen := by unfold maxLen; omega
  have hk2 : (k : Int) ≤ (s.size : Int) := by omega
  have hk0 : (0 : Int) ≤ (k : Int) := by omega
  have HP := Lib.hid hp; clear hp
  go_enter Tryd.func18, Tryd.ntmps18
  go_wp2_with fail
  refine (begin_any s k _ hm hk).mono ?_
  rintro e w' ⟨rfl, rfl⟩
  rw [HP.out]
  go_wp2
  refine bodyPost_ret (v := nextVal (1, nil0, 0, s.size, s.size, 0)) (by simp [results, Tryd.results18, go_sem, nextVal, nil0]) rfl ⟨rfl, ?_⟩
  exact (Below.refl _ _).alloc (Nat.le_refl _) _

set_option maxHeartbeats 4000000 in
set_option maxRecDepth 100000 in
theorem next_word (s : ByteArray) (k p q : Nat) (w : World) (hs : s.size ≤ 65536) (hk : k ≤ s.size) (hp : beginN s k = p) (hlt : p < s.size) (hq : whileN wordB s p = q) (hle : p ≤ q) (hqs : q ≤ s.size) (hl : letterB s[p] = true) :
    Calls Tryd.prog 18 #[.string s, .int .i64 k] w fun e w' => e = .returned (nextVal (if 32 < q - p then (0, nil0, 0, 0, p, 52) else (2, s.extract p q, 0, p, q, 0))) ∧ Below w.heap.size w w' := by
  have hm : s.size ≤ maxLen := by unfold maxLen; omega
  have hk2 : (k : Int) ≤ (s.size : Int) := by omega
  have hk0 : (0 : Int) ≤ (k : Int) := by omega
  have HP := Lib.hid hp; clear hp
  have HQ := Lib.hid hq; clear hq
  have HL := Lib.hid hl; clear hl
  have hne : ((p : Int) == (s.size : Int)) = false := by rw [beq_eq_false_iff_ne]; omega
  by_cases h32 : 32 < q - p
  · rw [if_pos h32]
    have h33 : (32 : Int) < ((q - p : Nat) : Int) := by omega
    go_enter Tryd.func18, Tryd.ntmps18
    go_wp2_with fail
    refine (begin_any s k _ hm hk).mono ?_
    rintro e w' ⟨rfl, rfl⟩
    rw [HP.out]
    go_wp2_with fail
    refine (run_any s p _ hm (by omega)).mono ?_
    rintro e w' ⟨rfl, rfl⟩
    rw [HQ.out]
    go_wp2_with fail
    refine (letter_any _ _).mono ?_
    rintro e w' ⟨rfl, rfl⟩
    rw [HL.out]
    go_wp2
    refine bodyPost_ret (v := nextVal (0, nil0, 0, 0, p, 52)) (by simp [results, Tryd.results18, go_sem, nextVal, nil0]) rfl ⟨rfl, ?_⟩
    exact ((Below.refl _ _).alloc (Nat.le_refl _) _).alloc (by simp) _
  · rw [if_neg h32]
    have h33 : ((q - p : Nat) : Int) ≤ 32 := by omega
    go_enter Tryd.func18, Tryd.ntmps18
    go_wp2_with fail
    refine (begin_any s k _ hm hk).mono ?_
    rintro e w' ⟨rfl, rfl⟩
    rw [HP.out]
    go_wp2_with fail
    refine (run_any s p _ hm (by omega)).mono ?_
    rintro e w' ⟨rfl, rfl⟩
    rw [HQ.out]
    go_wp2_with fail
    refine (letter_any _ _).mono ?_
    rintro e w' ⟨rfl, rfl⟩
    rw [HL.out]
    go_wp2
    refine bodyPost_ret (v := nextVal (2, s.extract p q, 0, p, q, 0)) (by simp [results, Tryd.results18, go_sem, nextVal]) rfl ⟨rfl, ?_⟩
    exact ((Below.refl _ _).alloc (Nat.le_refl _) _).alloc (by simp) _

set_option maxHeartbeats 4000000 in
set_option maxRecDepth 100000 in
theorem next_number (s : ByteArray) (k p q : Nat) (w : World) (hs : s.size ≤ 65536) (hk : k ≤ s.size) (hp : beginN s k = p) (hlt : p < s.size) (hq : whileN wordB s p = q) (hle : p ≤ q) (hqs : q ≤ s.size) (hl : letterB s[p] = false) (hd : digitB s[p] = true) (hE : Env w) :
    Calls Tryd.prog 18 #[.string s, .int .i64 k] w fun e w' => e = .returned (nextVal (if (numR (s.extract p q).data.toList).2 then (3, s.extract p q, (numR (s.extract p q).data.toList).1, p, q, 0) else (0, nil0, 0, 0, p, 53))) ∧ Below w.heap.size w w' := by
  have hm : s.size ≤ maxLen := by unfold maxLen; omega
  have hk2 : (k : Int) ≤ (s.size : Int) := by omega
  have hk0 : (0 : Int) ≤ (k : Int) := by omega
  have HP := Lib.hid hp; clear hp
  have HQ := Lib.hid hq; clear hq
  have HL := Lib.hid hl; clear hl
  have HD := Lib.hid hd; clear hd
  have hne : ((p : Int) == (s.size : Int)) = false := by rw [beq_eq_false_iff_ne]; omega
  have hN := fun (W : World) (h : Env W) => number_any (s.extract p q) W (by simp; omega) h
  obtain ⟨n, hn⟩ : ∃ n, n = (numR (s.extract p q).data.toList).1 := ⟨_, rfl⟩
  obtain ⟨b, hb⟩ : ∃ b, b = (numR (s.extract p q).data.toList).2 := ⟨_, rfl⟩
  rw [← hn, ← hb]
  rw [← hn, ← hb] at hN
  have HN := Lib.hid hN
  clear hn hb hN
  cases b
  all_goals
    go_enter Tryd.func18, Tryd.ntmps18
    go_wp2_with fail
    refine (begin_any s k _ hm hk).mono ?_
    rintro e w' ⟨rfl, rfl⟩
    rw [HP.out]
    go_wp2_with fail
    refine (run_any s p _ hm (by omega)).mono ?_
    rintro e w' ⟨rfl, rfl⟩
    rw [HQ.out]
    go_wp2_with fail
    refine (letter_any _ _).mono ?_
    rintro e w' ⟨rfl, rfl⟩
    rw [HL.out]
    go_wp2_with fail
    refine (digit_any _ _).mono ?_
    rintro e w' ⟨rfl, rfl⟩
    rw [HD.out]
    go_wp2_with fail
    have hB0 := ((Below.refl w.heap.size w).alloc (Nat.le_refl _) (.cells #[.int .i64 0, .string ⟨#[]⟩, .int .u64 0, .int .i64 0] 38)).alloc (by simp) (.cells #[.int .i64 3, .string (s.extract p q), .int .u64 0, .int .i64 p] 38)
    refine (HN.out _ (hE.below hB0)).mono ?_
    rintro e w1 ⟨rfl, hb1⟩
    obtain ⟨hc, hf⟩ := bcell hb1
    have hz : w.heap.size + 1 < w1.heap.size := by have := hb1.size; simp at this; omega
    have hbb := hB0.trans (hb1.mono hB0.size)
    clear hb1
    have a0 : w1.cell? ⟨w.heap.size, 0, none⟩ = some (.int .i64 0) := by rw [hc _ _ (by simp; omega)]; go_simp
    have a1 : w1.cell? ⟨w.heap.size, 1, none⟩ = some (.string ⟨#[]⟩) := by rw [hc _ _ (by simp; omega)]; go_simp
    have a2 : w1.cell? ⟨w.heap.size, 2, none⟩ = some (.int .u64 0) := by rw [hc _ _ (by simp; omega)]; go_simp
    have a3 : w1.cell? ⟨w.heap.size, 3, none⟩ = some (.int .i64 0) := by rw [hc _ _ (by simp; omega)]; go_simp
    have b0 : w1.cell? ⟨w.heap.size + 1, 0, none⟩ = some (.int .i64 3) := by rw [hc _ _ (by simp)]; go_simp
    have b1 : w1.cell? ⟨w.heap.size + 1, 1, none⟩ = some (.string (s.extract p q)) := by rw [hc _ _ (by simp)]; go_simp
    have b2 : w1.cell? ⟨w.heap.size + 1, 2, none⟩ = some (.int .u64 0) := by rw [hc _ _ (by simp)]; go_simp
    have b3 : w1.cell? ⟨w.heap.size + 1, 3, none⟩ = some (.int .i64 p) := by rw [hc _ _ (by simp)]; go_simp
    clear hc
    go_wp2
  · refine bodyPost_ret (v := nextVal (0, nil0, 0, 0, p, 53)) (by simp [results, Tryd.results18, go_sem, nextVal, nil0, a0, a1, a2, a3]) rfl ⟨rfl, ?_⟩
    exact ((((hbb.setCell (by simp) _).setCell (by simp) _).setCell (by simp) _).setCell (by simp) _).setCell (by simp) _
  · refine bodyPost_ret (v := nextVal (3, s.extract p q, n, p, q, 0)) (by simp [results, Tryd.results18, go_sem, nextVal, a0, a1, a2, a3]) rfl ⟨rfl, ?_⟩
    exact ((((hbb.setCell (by simp) _).setCell (by simp) _).setCell (by simp) _).setCell (by simp) _).setCell (by simp) _

set_option maxHeartbeats 4000000 in
set_option maxRecDepth 100000 in
theorem next_sign (s : ByteArray) (k p q : Nat) (w : World) (hs : s.size ≤ 65536) (hk : k ≤ s.size) (hp : beginN s k = p) (hlt : p < s.size) (hq : whileN wordB s p = q) (hle : p ≤ q) (hqs : q ≤ s.size) (hl : letterB s[p] = false) (hd : digitB s[p] = false) :
    Calls Tryd.prog 18 #[.string s, .int .i64 k] w fun e w' => e = .returned (nextVal (if signL (s.data.toList.drop p) = 0 then (0, nil0, 0, 0, p, 51) else (4, s.extract p (p + signL (s.data.toList.drop p)), 0, p, p + signL (s.data.toList.drop p), 0))) ∧ Below w.heap.size w w' := by
  have hm : s.size ≤ maxLen := by unfold maxLen; omega
  have hk2 : (k : Int) ≤ (s.size : Int) := by omega
  have hk0 : (0 : Int) ≤ (k : Int) := by omega
  have HP := Lib.hid hp; clear hp
  have HQ := Lib.hid hq; clear hq
  have HL := Lib.hid hl; clear hl
  have HD := Lib.hid hd; clear hd
  have hne : ((p : Int) == (s.size : Int)) = false := by rw [beq_eq_false_iff_ne]; omega
  have hg := sign_any (s.extract p s.size)
  have hle2 := sign_le (s.data.toList.drop p)
  have hlen : (s.data.toList.drop p).length = s.size - p := by simp
  rw [hlen] at hle2
  rw [sign_drop] at hg
  generalize signL (s.data.toList.drop p) = n at *
  have HG := Lib.hid hg; clear hg hlen
  by_cases h0 : n = 0
  · subst h0
    rw [if_pos rfl]
    go_enter Tryd.func18, Tryd.ntmps18
    go_wp2_with fail
    refine (begin_any s k _ hm hk).mono ?_
    rintro e w' ⟨rfl, rfl⟩
    rw [HP.out]
    go_wp2_with fail
    refine (run_any s p _ hm (by omega)).mono ?_
    rintro e w' ⟨rfl, rfl⟩
    rw [HQ.out]
    go_wp2_with fail
    refine (letter_any _ _).mono ?_
    rintro e w' ⟨rfl, rfl⟩
    rw [HL.out]
    go_wp2_with fail
    refine (digit_any _ _).mono ?_
    rintro e w' ⟨rfl, rfl⟩
    rw [HD.out]
    go_wp2_with fail
    refine (HG.out _ (by simp; omega)).mono ?_
    rintro e w' ⟨rfl, rfl⟩
    go_wp2
    refine bodyPost_ret (v := nextVal (0, nil0, 0, 0, p, 51)) (by simp [results, Tryd.results18, go_sem, nextVal, nil0]) rfl ⟨rfl, ?_⟩
    exact ((Below.refl _ _).alloc (Nat.le_refl _) _).alloc (by simp) _
  · rw [if_neg h0]
    have hne2 : (s.extract p (p + n)).toList.isEmpty = false := empty_no (by simp; omega)
    go_enter Tryd.func18, Tryd.ntmps18
    go_wp2_with fail
    refine (begin_any s k _ hm hk).mono ?_
    rintro e w' ⟨rfl, rfl⟩
    rw [HP.out]
    go_wp2_with fail
    refine (run_any s p _ hm (by omega)).mono ?_
    rintro e w' ⟨rfl, rfl⟩
    rw [HQ.out]
    go_wp2_with fail
    refine (letter_any _ _).mono ?_
    rintro e w' ⟨rfl, rfl⟩
    rw [HL.out]
    go_wp2_with fail
    refine (digit_any _ _).mono ?_
    rintro e w' ⟨rfl, rfl⟩
    rw [HD.out]
    go_wp2_with fail
    refine (HG.out _ (by simp; omega)).mono ?_
    rintro e w' ⟨rfl, rfl⟩
    go_wp2
    refine bodyPost_ret (v := nextVal (4, s.extract p (p + n), 0, p, p + n, 0)) (by simp [results, Tryd.results18, go_sem, nextVal]) rfl ⟨rfl, ?_⟩
    exact ((Below.refl _ _).alloc (Nat.le_refl _) _).alloc (by simp) _

theorem next_any (s : ByteArray) (k : Int) (w : World) (hE : Env w) :
    Calls Tryd.prog 18 #[.string s, .int .i64 k] w fun e w' => e = .returned (nextVal (nextV s k)) ∧ Below w.heap.size w w' := by
  by_cases h : 65536 < s.size ∨ k < 0 ∨ (s.size : Int) < k
  · exact next_out s k w h
  · obtain ⟨j, rfl⟩ := Int.eq_ofNat_of_zero_le (show 0 ≤ k by omega)
    have h1 : ¬ 65536 < s.size := by omega
    have h2 : ¬ ((j : Int) < 0 ∨ (s.size : Int) < (j : Int)) := by omega
    have hj : j ≤ s.size := by omega
    unfold nextV
    rw [if_neg h1, if_neg h2, Int.toNat_natCast]
    by_cases hp : beginN s j < s.size
    · rw [dif_pos hp]
      have hle := whileN_ge wordB s (beginN s j)
      have hqs := whileN_le wordB s (beginN s j) (by omega)
      unfold tokV
      cases hl : letterB s[beginN s j]
      · rw [if_neg (by simp)]
        cases hd : digitB s[beginN s j]
        · rw [if_neg (by simp)]
          exact next_sign s j _ _ w (by omega) hj rfl hp rfl hle hqs hl hd
        · rw [if_pos rfl]
          exact next_number s j _ _ w (by omega) hj rfl hp rfl hle hqs hl hd hE
      · rw [if_pos rfl]
        exact next_word s j _ _ w (by omega) hj rfl hp rfl hle hqs hl
    · rw [dif_neg hp]
      exact next_end s j w (by omega) hj (by have := begin_le s j; omega)
end Go.Proofs.YtlmopoipjolbgaaDoor.LexW
