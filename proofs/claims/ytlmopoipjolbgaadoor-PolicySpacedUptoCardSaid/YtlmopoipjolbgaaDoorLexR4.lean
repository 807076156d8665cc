/-
  The walks of the reference's layer 5: the token that begins at a place.
-/
import Derived.Test.YtlmopoipjolbgaaDoorLexR3
namespace Go.Proofs.YtlmopoipjolbgaaDoor.LexW
open Go.RowKit Go.Shelf Go.Proofs.YtlmopoipjolbgaaDoor.LexS
set_option linter.unusedVariables false
set_option linter.unusedSimpArgs false

set_option maxHeartbeats 4000000 in
set_option maxRecDepth 100000 in
theorem rnext_out (s : ByteArray) (k : Int) (w : World) (h : 65536 < s.size ∨ k < 0 ∨ (s.size : Int) < k) :
    Calls Tryd.prog 20 #[.string s, .int .i64 k] w fun e w' => e = .returned (nextVal (nextV s k)) ∧ Below w.heap.size w w' := by
  by_cases h1 : 65536 < s.size
  · rw [show nextV s k = (0, nil0, 0, 0, 0, 54) by unfold nextV; rw [if_pos h1]]
    clear h
    go_enter Tryd.func20, Tryd.ntmps20
    go_wp2
    refine bodyPost_ret (v := nextVal (0, nil0, 0, 0, 0, 54)) (by simp [results, Tryd.results20, go_sem, nextVal, nil0]) rfl ⟨rfl, ?_⟩
    exact (Below.refl _ _).alloc (Nat.le_refl _) _
  · have h2 : k < 0 ∨ (s.size : Int) < k := by omega
    rw [show nextV s k = (0, nil0, 0, 0, 0, 1) by unfold nextV; rw [if_neg h1, if_pos h2]]
    have h3 : s.size ≤ 65536 := by omega
    clear h h1
    by_cases h4 : k < 0
    · clear h2
      go_enter Tryd.func20, Tryd.ntmps20
      go_wp2
      refine bodyPost_ret (v := nextVal (0, nil0, 0, 0, 0, 1)) (by simp [results, Tryd.results20, go_sem, nextVal, nil0]) rfl ⟨rfl, ?_⟩
      exact (Below.refl _ _).alloc (Nat.le_refl _) _
    · have h5 : 0 ≤ k := by omega
      have h6 : (s.size : Int) < k := by omega
      clear h2 h4
      go_enter Tryd.func20, Tryd.ntmps20
      go_wp2
      refine bodyPost_ret (v := nextVal (0, nil0, 0, 0, 0, 1)) (by simp [results, Tryd.results20, go_sem, nextVal, nil0]) rfl ⟨rfl, ?_⟩
      exact (Below.refl _ _).alloc (Nat.le_refl _) _

set_option maxHeartbeats 4000000 in
set_option maxRecDepth 100000 in
theorem rnext_end (s : ByteArray) (k : Nat) (w : World) (hs : s.size ≤ 65536) (hk : k ≤ s.size) (hp : beginN s k = s.size) :
    Calls Tryd.prog 20 #[.string s, .int .i64 k] w fun e w' => e = .returned (nextVal (1, nil0, 0, s.size, s.size, 0)) ∧ Below w.heap.size w w' := by
  have hm : s.size ≤ maxLen := by unfold maxLen; omega
  have hk2 : (k : Int) ≤ (s.size : Int) := by omega
  have hk0 : (0 : Int) ≤ (k : Int) := by omega
  have HP := Lib.hid hp; clear hp
  go_enter Tryd.func20, Tryd.ntmps20
  go_wp2_with fail
  refine (rskip_any s k _ hm hk).mono ?_
  rintro e w' ⟨rfl, rfl⟩
  rw [HP.out]
  go_wp2
  refine bodyPost_ret (v := nextVal (1, nil0, 0, s.size, s.size, 0)) (by simp [results, Tryd.results20, go_sem, nextVal, nil0]) rfl ⟨rfl, ?_⟩
  exact (Below.refl _ _).alloc (Nat.le_refl _) _

set_option maxHeartbeats 4000000 in
set_option maxRecDepth 100000 in
theorem rnext_word (s : ByteArray) (k p q : Nat) (d : Bool) (w : World) (hs : s.size ≤ 65536) (hk : k ≤ s.size) (hp : beginN s k = p) (hlt : p < s.size) (hq : whileN wordB s p = q) (hle : p ≤ q) (hqs : q ≤ s.size) (hl : letterB s[p] = true) (hd : digitB s[p] = d) :
    Calls Tryd.prog 20 #[.string s, .int .i64 k] w fun e w' => e = .returned (nextVal (if 32 < q - p then (0, nil0, 0, 0, p, 52) else (2, s.extract p q, 0, p, q, 0))) ∧ Below w.heap.size w w' := by
  have hm : s.size ≤ maxLen := by unfold maxLen; omega
  have hk2 : (k : Int) ≤ (s.size : Int) := by omega
  have hk0 : (0 : Int) ≤ (k : Int) := by omega
  have HP := Lib.hid hp; clear hp
  have HQ := Lib.hid hq; clear hq
  have HL := Lib.hid hl; clear hl
  have HD := Lib.hid hd; clear hd
  have hne : ((p : Int) == (s.size : Int)) = false := by rw [beq_eq_false_iff_ne]; omega
  have hsub : IntKind.i64.wrap ((q : Int) - (p : Int)) = (q : Int) - (p : Int) := by rw [IntKind.wrap_i64]; omega
  by_cases h32 : 32 < q - p
  · rw [if_pos h32]
    have h33 : (32 : Int) < (q : Int) - (p : Int) := by omega
    go_enter Tryd.func20, Tryd.ntmps20
    go_wp2_with fail
    refine (rskip_any s k _ hm hk).mono ?_
    rintro e w' ⟨rfl, rfl⟩
    rw [HP.out]
    go_wp2_with fail
    refine (rletter_any _ _).mono ?_
    rintro e w' ⟨rfl, rfl⟩
    rw [HL.out]
    go_wp2_with fail
    refine (rdigit_any _ _).mono ?_
    rintro e w' ⟨rfl, rfl⟩
    rw [HD.out]
    go_wp2_with fail
    refine (rrun_any s p _ hm (by omega)).mono ?_
    rintro e w' ⟨rfl, rfl⟩
    rw [HQ.out]
    go_wp2
    refine bodyPost_ret (v := nextVal (0, nil0, 0, 0, p, 52)) (by simp [results, Tryd.results20, go_sem, nextVal, nil0]) rfl ⟨rfl, ?_⟩
    exact ((Below.refl _ _).alloc (Nat.le_refl _) _).alloc (by simp) _
  · rw [if_neg h32]
    have h33 : (q : Int) - (p : Int) ≤ 32 := by omega
    go_enter Tryd.func20, Tryd.ntmps20
    go_wp2_with fail
    refine (rskip_any s k _ hm hk).mono ?_
    rintro e w' ⟨rfl, rfl⟩
    rw [HP.out]
    go_wp2_with fail
    refine (rletter_any _ _).mono ?_
    rintro e w' ⟨rfl, rfl⟩
    rw [HL.out]
    go_wp2_with fail
    refine (rdigit_any _ _).mono ?_
    rintro e w' ⟨rfl, rfl⟩
    rw [HD.out]
    go_wp2_with fail
    refine (rrun_any s p _ hm (by omega)).mono ?_
    rintro e w' ⟨rfl, rfl⟩
    rw [HQ.out]
    go_wp2
    refine bodyPost_ret (v := nextVal (2, s.extract p q, 0, p, q, 0)) (by simp [results, Tryd.results20, go_sem, nextVal]) rfl ⟨rfl, ?_⟩
    exact ((Below.refl _ _).alloc (Nat.le_refl _) _).alloc (by simp) _

set_option maxHeartbeats 4000000 in
set_option maxRecDepth 100000 in
theorem rnext_number (s : ByteArray) (k p q : Nat) (w : World) (hs : s.size ≤ 65536) (hk : k ≤ s.size) (hp : beginN s k = p) (hlt : p < s.size) (hq : whileN wordB s p = q) (hle : p ≤ q) (hqs : q ≤ s.size) (hl : letterB s[p] = false) (hd : digitB s[p] = true) :
    Calls Tryd.prog 20 #[.string s, .int .i64 k] w fun e w' => e = .returned (nextVal (if (numR (s.extract p q).data.toList).2 then (3, s.extract p q, (numR (s.extract p q).data.toList).1, p, q, 0) else (0, nil0, 0, 0, p, 53))) ∧ Below w.heap.size w w' := by
  have hm : s.size ≤ maxLen := by unfold maxLen; omega
  have hk2 : (k : Int) ≤ (s.size : Int) := by omega
  have hk0 : (0 : Int) ≤ (k : Int) := by omega
  have HP := Lib.hid hp; clear hp
  have HQ := Lib.hid hq; clear hq
  have HL := Lib.hid hl; clear hl
  have HD := Lib.hid hd; clear hd
  have hne : ((p : Int) == (s.size : Int)) = false := by rw [beq_eq_false_iff_ne]; omega
  have hN := fun (W : World) => rnumber_any (s.extract p q) W (by unfold maxLen; simp; omega)
  obtain ⟨n, hn⟩ : ∃ n, n = (numR (s.extract p q).data.toList).1 := ⟨_, rfl⟩
  obtain ⟨b, hb⟩ : ∃ b, b = (numR (s.extract p q).data.toList).2 := ⟨_, rfl⟩
  rw [← hn, ← hb]
  rw [← hn, ← hb] at hN
  have HN := Lib.hid hN
  clear hn hb hN
  cases b
  all_goals
    go_enter Tryd.func20, Tryd.ntmps20
    go_wp2_with fail
    refine (rskip_any s k _ hm hk).mono ?_
    rintro e w' ⟨rfl, rfl⟩
    rw [HP.out]
    go_wp2_with fail
    refine (rletter_any _ _).mono ?_
    rintro e w' ⟨rfl, rfl⟩
    rw [HL.out]
    go_wp2_with fail
    refine (rdigit_any _ _).mono ?_
    rintro e w' ⟨rfl, rfl⟩
    rw [HD.out]
    go_wp2_with fail
    refine (rrun_any s p _ hm (by omega)).mono ?_
    rintro e w' ⟨rfl, rfl⟩
    rw [HQ.out]
    go_wp2_with fail
    refine (HN.out _).mono ?_
    rintro e w1 ⟨rfl, rfl⟩
    go_wp2
  · refine bodyPost_ret (v := nextVal (0, nil0, 0, 0, p, 53)) (by simp [results, Tryd.results20, go_sem, nextVal, nil0]) rfl ⟨rfl, ?_⟩
    exact ((Below.refl _ _).alloc (Nat.le_refl _) _).alloc (by simp) _
  · refine bodyPost_ret (v := nextVal (3, s.extract p q, n, p, q, 0)) (by simp [results, Tryd.results20, go_sem, nextVal]) rfl ⟨rfl, ?_⟩
    exact ((Below.refl _ _).alloc (Nat.le_refl _) _).alloc (by simp) _

set_option maxHeartbeats 4000000 in
set_option maxRecDepth 100000 in
theorem rnext_sign (s : ByteArray) (k p q : Nat) (w : World) (hs : s.size ≤ 65536) (hk : k ≤ s.size) (hp : beginN s k = p) (hlt : p < s.size) (hq : whileN wordB s p = q) (hle : p ≤ q) (hqs : q ≤ s.size) (hl : letterB s[p] = false) (hd : digitB s[p] = false) :
    Calls Tryd.prog 20 #[.string s, .int .i64 k] w fun e w' => e = .returned (nextVal (if signL (s.data.toList.drop p) = 0 then (0, nil0, 0, 0, p, 51) else (4, s.extract p (p + signL (s.data.toList.drop p)), 0, p, p + signL (s.data.toList.drop p), 0))) ∧ Below w.heap.size w w' := by
  have hm : s.size ≤ maxLen := by unfold maxLen; omega
  have hk2 : (k : Int) ≤ (s.size : Int) := by omega
  have hk0 : (0 : Int) ≤ (k : Int) := by omega
  have HP := Lib.hid hp; clear hp
  have HQ := Lib.hid hq; clear hq
  have HL := Lib.hid hl; clear hl
  have HD := Lib.hid hd; clear hd
  have hne : ((p : Int) == (s.size : Int)) = false := by rw [beq_eq_false_iff_ne]; omega
  have hg := fun W => rsign_any s p W hm hlt
  have hle2 := sign_le (s.data.toList.drop p)
  have hlen : (s.data.toList.drop p).length = s.size - p := by simp
  rw [hlen] at hle2
  generalize signL (s.data.toList.drop p) = n at *
  have HG := Lib.hid hg; clear hg hlen
  by_cases h0 : n = 0
  · subst h0
    rw [if_pos rfl]
    go_enter Tryd.func20, Tryd.ntmps20
    go_wp2_with fail
    refine (rskip_any s k _ hm hk).mono ?_
    rintro e w' ⟨rfl, rfl⟩
    rw [HP.out]
    go_wp2_with fail
    refine (rletter_any _ _).mono ?_
    rintro e w' ⟨rfl, rfl⟩
    rw [HL.out]
    go_wp2_with fail
    refine (rdigit_any _ _).mono ?_
    rintro e w' ⟨rfl, rfl⟩
    rw [HD.out]
    go_wp2_with fail
    refine (HG.out _).mono ?_
    rintro e w' ⟨rfl, rfl⟩
    go_wp2
    refine bodyPost_ret (v := nextVal (0, nil0, 0, 0, p, 51)) (by simp [results, Tryd.results20, go_sem, nextVal, nil0]) rfl ⟨rfl, ?_⟩
    exact (Below.refl _ _).alloc (Nat.le_refl _) _
  · rw [if_neg h0]
    have hn0 : ((n : Int) == 0) = false := by rw [beq_eq_false_iff_ne]; omega
    have hadd : IntKind.i64.wrap ((p : Int) + (n : Int)) = (p : Int) + (n : Int) := by rw [IntKind.wrap_i64]; omega
    go_enter Tryd.func20, Tryd.ntmps20
    go_wp2_with fail
    refine (rskip_any s k _ hm hk).mono ?_
    rintro e w' ⟨rfl, rfl⟩
    rw [HP.out]
    go_wp2_with fail
    refine (rletter_any _ _).mono ?_
    rintro e w' ⟨rfl, rfl⟩
    rw [HL.out]
    go_wp2_with fail
    refine (rdigit_any _ _).mono ?_
    rintro e w' ⟨rfl, rfl⟩
    rw [HD.out]
    go_wp2_with fail
    refine (HG.out _).mono ?_
    rintro e w' ⟨rfl, rfl⟩
    go_wp2
    refine bodyPost_ret (v := nextVal (4, s.extract p (p + n), 0, p, p + n, 0)) (by simp [results, Tryd.results20, go_sem, nextVal]) rfl ⟨rfl, ?_⟩
    exact (Below.refl _ _).alloc (Nat.le_refl _) _

theorem rnext_any (s : ByteArray) (k : Int) (w : World) :
    Calls Tryd.prog 20 #[.string s, .int .i64 k] w fun e w' => e = .returned (nextVal (nextV s k)) ∧ Below w.heap.size w w' := by
  by_cases h : 65536 < s.size ∨ k < 0 ∨ (s.size : Int) < k
  · exact rnext_out s k w h
  · obtain ⟨j, rfl⟩ := Int.eq_ofNat_of_zero_le (show 0 ≤ k by omega)
    have h1 : ¬ 65536 < s.size := by omega
    have h2 : ¬ ((j : Int) < 0 ∨ (s.size : Int) < (j : Int)) := by omega
    have hj : j ≤ s.size := by omega
    unfold nextV
    rw [if_neg h1, if_neg h2, Int.toNat_natCast]
    by_cases hp : beginN s j < s.size
    · rw [dif_pos hp]
      have hle := whileN_ge wordB s (beginN s j)
      have hqs := whileN_le wordB s (beginN s j) (by omega)
      unfold tokV
      cases hl : letterB s[beginN s j]
      · rw [if_neg (by simp)]
        cases hd : digitB s[beginN s j]
        · rw [if_neg (by simp)]
          exact rnext_sign s j _ _ w (by omega) hj rfl hp rfl hle hqs hl hd
        · rw [if_pos rfl]
          exact rnext_number s j _ _ w (by omega) hj rfl hp rfl hle hqs hl hd
      · rw [if_pos rfl]
        exact rnext_word s j _ _ _ w (by omega) hj rfl hp rfl hle hqs hl rfl
    · rw [dif_neg hp]
      exact rnext_end s j w (by omega) hj (by have := begin_le s j; omega)
end Go.Proofs.YtlmopoipjolbgaaDoor.LexW
