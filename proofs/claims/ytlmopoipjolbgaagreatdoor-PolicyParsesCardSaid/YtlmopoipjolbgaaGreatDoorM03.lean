/-
  The walks of the reference's layer 5: numbers. · The walks of the reference's layer 5: the token that begins at a place. · Plain words of layer 5 (lex): what a text's tokens are. · The walks of the reference's layer 5: all tokens, lists of them, are two alike.
-/
import Derived.Test.YtlmopoipjolbgaaGreatDoorM02
import Derived.Test.YtlmopoipjolbgaaGreatDoorWWords
namespace Go.Proofs.YtlmopoipjolbgaaGreatDoor.LexW
open Go.RowKit Go.Shelf Go.Proofs.YtlmopoipjolbgaaGreatDoor.LexS
set_option linter.unusedVariables false
set_option linter.unusedSimpArgs false

def hexR (acc : Nat) (l : List UInt8) : Int × Bool := if l.all hexB = true then ((valL 16 hexV acc l : Int), true) else (0, false)
theorem hexR_good (acc : Nat) (c : UInt8) (r : List UInt8) (h : hexB c = true) : hexR acc (c :: r) = hexR (16 * acc + hexV c) r := by
  unfold hexR; rw [List.all_cons, h, valL_cons]; rfl
theorem hexR_bad (acc : Nat) (c : UInt8) (r : List UInt8) (h : hexB c = false) : hexR acc (c :: r) = (0, false) := by
  unfold hexR; rw [List.all_cons, h]; rfl
def decR (acc : Nat) (l : List UInt8) : Int × Bool := if l.all digitB = true ∧ valL 10 digV acc l < 18446744073709551616 then ((valL 10 digV acc l : Int), true) else (0, false)
theorem decR_good (acc : Nat) (c : UInt8) (r : List UInt8) (h : digitB c = true) : decR acc (c :: r) = decR (10 * acc + digV c) r := by
  unfold decR; rw [List.all_cons, h, valL_cons, Bool.true_and]
theorem decR_bad (acc : Nat) (c : UInt8) (r : List UInt8) (h : digitB c = false) : decR acc (c :: r) = (0, false) := by
  unfold decR; rw [List.all_cons, h, Bool.false_and, if_neg (by simp)]
theorem decR_big (acc : Nat) (l : List UInt8) (h : 18446744073709551616 ≤ acc) : decR acc l = (0, false) := by
  unfold decR
  have := valL_ge digV l acc
  rw [if_neg (by omega)]

theorem hex_bad_cases (c : UInt8) (h : hexB c = false) : ¬ (48 ≤ c.toNat ∧ c.toNat ≤ 57) ∧ ¬ (97 ≤ c.toNat ∧ c.toNat ≤ 102) := by
  unfold hexB digitB at h
  simp [UInt8.le_iff_toNat_le] at h
  omega

theorem val_big (m : List UInt8) : ∀ a, 1 ≤ a → 10 ^ m.length * a ≤ valL 10 digV a m := by
  induction m with
  | nil => intro a ha; simp [valL]
  | cons x y ih2 =>
    intro a ha
    rw [valL_cons, List.length_cons, Nat.pow_succ]
    refine Nat.le_trans ?_ (ih2 (10 * a + digV x) (by omega))
    rw [Nat.mul_assoc]
    exact Nat.mul_le_mul_left _ (by omega)
theorem dec_long (c : UInt8) (r : List UInt8) (h : c ≠ 48) (hl : 20 ≤ r.length) (hd : digitB c = true) : 18446744073709551616 ≤ valL 10 digV 0 (c :: r) := by
  rw [valL_cons]
  have hb := digit_bounds hd
  have hne : c.toNat ≠ 48 := fun e => h (by rw [← UInt8.toNat_inj]; exact e)
  have h1 := val_big r (10 * 0 + digV c) (by unfold digV; omega)
  have h2 : 10 ^ 20 ≤ 10 ^ r.length := Nat.pow_le_pow_right (by omega) hl
  have h3 : (18446744073709551616 : Nat) ≤ 10 ^ 20 := by decide
  have h4 : 10 ^ r.length * 1 ≤ 10 ^ r.length * (10 * 0 + digV c) := Nat.mul_le_mul_left _ (by unfold digV; omega)
  omega

theorem two_bytes (s : ByteArray) : Lib.hasPrefix s.data.toList [48, 120] = true ↔ ∃ h : 1 < s.size, s[0] = 48 ∧ s[1] = 120 := by
  rw [pre_take, decide_eq_true_eq]
  by_cases h : 1 < s.size
  · have h0 := drop_cons s 0 (by omega)
    have h1 := drop_cons s 1 h
    rw [List.drop_zero] at h0
    rw [h0, h1]
    constructor
    · intro e
      obtain ⟨e1, e2⟩ := List.cons.inj e
      exact ⟨h, e1, (List.cons.inj e2).1⟩
    · rintro ⟨_, e1, e2⟩
      rw [e1, e2]; rfl
  · constructor
    · intro e
      have := congrArg List.length e
      simp at this
      have : s.data.size = s.size := rfl
      omega
    · rintro ⟨h', _⟩; omega

set_option maxHeartbeats 16000000 in
set_option maxRecDepth 100000 in
theorem rnumber_hex (s : ByteArray) (w : World) (hs : s.size ≤ maxLen) (h1 : 1 < s.size) (h48 : s[0] = 48) (h120 : s[1] = 120) :
    Calls Tryz.prog 111 #[.string s] w fun e w' => e = .returned (.tuple #[.int .u64 (if 3 ≤ s.size ∧ s.size ≤ 18 then hexR 0 (s.data.toList.drop 2) else (0, false)).1, .bool (if 3 ≤ s.size ∧ s.size ≤ 18 then hexR 0 (s.data.toList.drop 2) else (0, false)).2]) ∧ w = w' := by
  unfold maxLen at hs
  have e1 : (((s[0]).toNat : Int) == 48) = true := by rw [h48]; rfl
  have e2 : (((s[1]).toNat : Int) == 120) = true := by rw [h120]; rfl
  have e3 : (2 : Int) ≤ (s.size : Int) := by omega
  clear h48 h120
  generalize hR : (if 3 ≤ s.size ∧ s.size ≤ 18 then hexR 0 (s.data.toList.drop 2) else ((0 : Int), false)) = R
  have HR := Lib.hid hR; clear hR
  by_cases h3 : s.size < 3
  · have HV : Hid (((0 : Int), false) = R) := (if_neg (by omega)).symm.trans HR.out
    clear HR
    go_enter Tryz.func111, Tryz.ntmps111
    go_wp2
    go_ret2
    exact ⟨by rw [← HV.out]; rfl, rfl⟩
  · by_cases h18 : 18 < s.size
    · have HV : Hid (((0 : Int), false) = R) := (if_neg (by omega)).symm.trans HR.out
      clear HR
      go_enter Tryz.func111, Tryz.ntmps111
      go_wp2
      go_ret2
      exact ⟨by rw [← HV.out]; rfl, rfl⟩
    · have HV : Hid (hexR 0 (s.data.toList.drop 2) = R) := (if_pos (by omega)).symm.trans HR.out
      have h3' : 3 ≤ s.size := by omega
      have h18' : s.size ≤ 18 := by omega
      clear HR h3 h18
      go_enter Tryz.func111, Tryz.ntmps111
      go_wp2
      go_loop [4, 5] (fun vn vi => ∃ (k acc : Nat) (a : Int), vn = .int .u64 a ∧ vi = .int .i64 k ∧ 2 ≤ k ∧ k ≤ s.size ∧ Hid (a = (acc : Int) ∧ acc < 16 ^ (k - 2) ∧ hexR acc (s.data.toList.drop k) = R)) (fun _ vi => s.size - (intOf vi).toNat)
      case atStart => exact ⟨2, 0, 0, rfl, rfl, by omega, by omega, rfl, by simp, HV.out⟩
      case round =>
        clear HV
        obtain ⟨k, acc, a, rfl, rfl, hk2, hk, hh⟩ := hrel
        obtain ⟨ha, hacc, hdec⟩ := hh.out
        clear hh
        have a0 : 0 ≤ a := by omega
        clear e1 e2
        by_cases hkn : k < s.size
        · rw [drop_cons s k hkn] at hdec
          have hc256 : (s[k]).toNat < 256 := (s[k]).toNat_lt
          have hp := pow16 (k - 2) (by omega)
          have icut : a < 1152921504606846976 := by omega
          cases hhex : hexB s[k]
          · rw [hexR_bad _ _ _ hhex] at hdec
            obtain ⟨n1, n2⟩ := hex_bad_cases _ hhex
            have HD := Lib.hid hdec
            clear hdec hhex ha hacc hp
            have hx : ((s[k]).toNat : Int) < 48 ∨ (57 < ((s[k]).toNat : Int) ∧ ((s[k]).toNat : Int) < 97) ∨ 102 < ((s[k]).toNat : Int) := by omega
            clear n1 n2
            rcases hx with hx | ⟨hx, hx2⟩ | hx
            all_goals
              go_wp2
              go_ret2
              exact ⟨by rw [← HD.out]; rfl, rfl⟩
          · rw [hexR_good _ _ _ hhex] at hdec
            have hpow : 16 ^ (k + 1 - 2) = 16 ^ (k - 2) * 16 := by rw [show k + 1 - 2 = (k - 2) + 1 by omega, Nat.pow_succ]
            rcases hex_cases _ hhex with ⟨hd0, hd1, hv⟩ | ⟨hd0, hd1, hv⟩
            · have HN : Hid (16 * a + (((s[k]).toNat : Int) - 48) = ((16 * acc + hexV s[k] : Nat) : Int) ∧ 16 * acc + hexV s[k] < 16 ^ (k + 1 - 2) ∧ hexR (16 * acc + hexV s[k]) (s.data.toList.drop (k + 1)) = R) := Lib.hid ⟨by omega, by omega, hdec⟩
              clear hacc hdec ha hp hv hhex hpow
              go_wp2
              go_round
              case rel => exact ⟨k + 1, _, 16 * a + (((s[k]).toNat : Int) - 48), (by first | rfl | (congr 1; omega)), (by first | rfl | (congr 1; omega)), by omega, by omega, HN⟩
              case measure => simp [intOf]; omega
            · have HN : Hid (16 * a + (((s[k]).toNat : Int) - 87) = ((16 * acc + hexV s[k] : Nat) : Int) ∧ 16 * acc + hexV s[k] < 16 ^ (k + 1 - 2) ∧ hexR (16 * acc + hexV s[k]) (s.data.toList.drop (k + 1)) = R) := Lib.hid ⟨by omega, by omega, hdec⟩
              clear hacc hdec ha hp hv hhex hpow
              go_wp2
              go_round
              case rel => exact ⟨k + 1, _, 16 * a + (((s[k]).toNat : Int) - 87), (by first | rfl | (congr 1; omega)), (by first | rfl | (congr 1; omega)), by omega, by omega, HN⟩
              case measure => simp [intOf]; omega
        · have hkk : k = s.size := by omega
          subst hkk
          rw [List.drop_of_length_le (by simp)] at hdec
          have HD : Hid ((a, true) = R) := by show _ = _; rw [← hdec, ha]; rfl
          clear hacc hdec ha
          go_wp2
          go_ret2
          exact ⟨by rw [← HD.out]; rfl, rfl⟩

theorem rnum_hex (s : ByteArray) (h1 : 1 < s.size) (h48 : s[0] = 48) (h120 : s[1] = 120) : (if 3 ≤ s.size ∧ s.size ≤ 18 then hexR 0 (s.data.toList.drop 2) else (0, false)) = numR s.data.toList := by
  rw [numR_hex ((two_bytes s).2 ⟨h1, h48, h120⟩)]
  have hl : (s.data.toList.drop 2).length = s.size - 2 := by simp
  rw [hl]
  unfold hexR
  by_cases h : 3 ≤ s.size ∧ s.size ≤ 18
  · rw [if_pos h]
    by_cases ha : (s.data.toList.drop 2).all hexB = true
    · rw [if_pos ha, if_pos ⟨by omega, by omega, ha⟩]
    · rw [if_neg ha, if_neg (fun h' => ha h'.2.2)]
  · rw [if_neg h, if_neg (by omega)]

theorem rnum_dec (s : ByteArray) (hp : Lib.hasPrefix s.data.toList [48, 120] = false) : numR s.data.toList = if h : 1 ≤ s.size ∧ s.size ≤ 20 then (if 1 < s.size ∧ s[0] = 48 then (0, false) else decR 0 s.data.toList) else (0, false) := by
  rw [numR_dec hp]
  have hl : s.data.toList.length = s.size := by simp
  rw [hl]
  by_cases h1 : 1 ≤ s.size
  · have h0 := drop_cons s 0 (by omega)
    rw [List.drop_zero] at h0
    have hh : s.data.toList.head? = some s[0] := by rw [h0]; rfl
    rw [hh]
    by_cases h20 : s.size ≤ 20
    · rw [dif_pos ⟨h1, h20⟩]
      by_cases h48 : 1 < s.size ∧ s[0] = 48
      · rw [if_pos h48, if_neg (by rw [h48.2]; simp; omega)]
      · rw [if_neg h48]
        unfold decR
        by_cases ha : s.data.toList.all digitB = true ∧ valL 10 digV 0 s.data.toList < 18446744073709551616
        · rw [if_pos ha, if_pos ⟨h1, fun h => h48 ⟨h.1, Option.some.inj h.2⟩, ha⟩]
        · rw [if_neg ha, if_neg (fun h => ha h.2.2)]
    · rw [dif_neg (by omega), if_neg]
      rintro ⟨_, h2, h3, h4⟩
      rw [h0, List.all_cons, Bool.and_eq_true] at h3
      have hne : s[0] ≠ 48 := fun e => h2 ⟨by omega, by rw [e]⟩
      have := dec_long s[0] (s.data.toList.drop (0 + 1)) hne (by simp; omega) h3.1
      rw [h0] at h4
      omega
  · rw [dif_neg (by omega), if_neg (by omega)]

set_option maxHeartbeats 16000000 in
set_option maxRecDepth 100000 in
theorem rnumber_loop (s : ByteArray) (w : World) (hs : s.size ≤ 2 ^ 63 - 1) (hpos : 1 ≤ s.size) (h20' : s.size ≤ 20) (R : Int × Bool) (hR : decR 0 s.data.toList = R)
    (hx : (s.size = 1 ∧ (((s[0]).toNat : Int) == 48) = true) ∨ (((s[0]).toNat : Int) == 48) = false) :
    Calls Tryz.prog 111 #[.string s] w fun e w' => e = .returned (.tuple #[.int .u64 R.1, .bool R.2]) ∧ w = w' := by
  have HR := Lib.hid hR; clear hR
  have hy : (s.size = 1 ∧ (((s[0]).toNat : Int) == 48) = true) ∨ (s.size = 1 ∧ (((s[0]).toNat : Int) == 48) = false) ∨ (2 ≤ (s.size : Int) ∧ (((s[0]).toNat : Int) == 48) = false) := by
    rcases hx with h | h
    · exact .inl h
    · by_cases h1 : s.size = 1
      · exact .inr (.inl ⟨h1, h⟩)
      · exact .inr (.inr ⟨by omega, h⟩)
  clear hx
  rcases hy with ⟨h1, e1⟩ | ⟨h1, e1⟩ | ⟨h1, e1⟩
  case' inl => have h2 : (s.size : Int) < 2 := by omega
  case' inl => have h3 : (s.size : Int) ≤ 1 := by omega
  case' inl => have h4 : (1 : Int) ≤ (s.size : Int) := by omega
  case' inr.inl => have h2 : (s.size : Int) < 2 := by omega
  case' inr.inl => have h3 : (s.size : Int) ≤ 1 := by omega
  case' inr.inl => have h4 : (1 : Int) ≤ (s.size : Int) := by omega
  case' inl => clear h1
  case' inr.inl => clear h1
  all_goals
    go_enter Tryz.func111, Tryz.ntmps111
    go_wp2
    go_loop [7, 8] (fun vn vi => ∃ (k acc : Nat) (a : Int), vn = .int .u64 a ∧ vi = .int .i64 k ∧ k ≤ s.size ∧ Hid (a = (acc : Int) ∧ acc < 18446744073709551616 ∧ decR acc (s.data.toList.drop k) = R)) (fun _ vi => s.size - (intOf vi).toNat)
    case atStart => exact ⟨0, 0, 0, rfl, rfl, by omega, rfl, by omega, HR.out⟩
    case round =>
      clear HR
      obtain ⟨k, acc, a, rfl, rfl, hk, hh⟩ := hrel
      obtain ⟨ha, hacc, hdec⟩ := hh.out
      clear hh
      have a0 : 0 ≤ a := by omega
      have a1 : a < 18446744073709551616 := by omega
      try clear h48
      try clear e1
      by_cases hkn : k < s.size
      · rw [drop_cons s k hkn] at hdec
        have hc256 : (s[k]).toNat < 256 := (s[k]).toNat_lt
        cases hd : digitB s[k]
        · rw [decR_bad _ _ _ hd] at hdec
          have HD := Lib.hid hdec; have Hd := Lib.hid hd
          clear hdec hd ha hacc
          go_wp2_with (go_at_call 109; refine (rdigit_any _ _).mono ?_; rintro e w' ⟨rfl, rfl⟩; rw [Hd.out])
          go_ret2
          exact ⟨by rw [← HD.out]; rfl, rfl⟩
        · rw [decR_good _ _ _ hd] at hdec
          obtain ⟨d0, d1⟩ := digit_bounds hd
          have hv : digV s[k] = (s[k]).toNat - 48 := rfl
          have Hd := Lib.hid hd; clear hd
          by_cases hov : 18446744073709551616 ≤ 10 * acc + digV s[k]
          · rw [decR_big _ _ hov] at hdec
            have HD := Lib.hid hdec
            have hx : 1844674407370955161 < a ∨ (a ≤ 1844674407370955161 ∧ (a == 1844674407370955161) = true ∧ 5 < ((s[k]).toNat : Int) - 48) := by
              rw [beq_iff_eq]; omega
            clear hdec ha hacc hov hv
            rcases hx with hx | ⟨hx1, hx, hx2⟩
            all_goals
              go_wp2_with (go_at_call 109; refine (rdigit_any _ _).mono ?_; rintro e w' ⟨rfl, rfl⟩; rw [Hd.out])
              go_ret2
              exact ⟨by rw [← HD.out]; rfl, rfl⟩
          · have HN : Hid (10 * a + (((s[k]).toNat : Int) - 48) = ((10 * acc + digV s[k] : Nat) : Int) ∧ 10 * acc + digV s[k] < 18446744073709551616 ∧ decR (10 * acc + digV s[k]) (s.data.toList.drop (k + 1)) = R) := Lib.hid ⟨by omega, by omega, hdec⟩
            have hx : a ≤ 1844674407370955161 ∧ ((a == 1844674407370955161) = false ∨ ((a == 1844674407370955161) = true ∧ ((s[k]).toNat : Int) - 48 ≤ 5)) := by
              rw [beq_iff_eq, beq_eq_false_iff_ne]; omega
            have iov : 10 * a + (((s[k]).toNat : Int) - 48) < 18446744073709551616 := by omega
            clear hacc hdec ha hov hv
            obtain ⟨hx1, hx | ⟨hx, hx2⟩⟩ := hx
            all_goals
              go_wp2_with (go_at_call 109; refine (rdigit_any _ _).mono ?_; rintro e w' ⟨rfl, rfl⟩; rw [Hd.out])
              go_round
              case rel => exact ⟨k + 1, _, 10 * a + (((s[k]).toNat : Int) - 48), (by first | rfl | (congr 1; omega)), (by first | rfl | (congr 1; omega)), by omega, HN⟩
              case measure => simp [intOf]; omega
      · have hkk : k = s.size := by omega
        subst hkk
        rw [List.drop_of_length_le (by simp)] at hdec
        have HD : Hid ((a, true) = R) := by
          show _ = _; rw [← hdec, ha]; unfold decR; rw [if_pos ⟨rfl, by simpa [valL] using hacc⟩]; rfl
        clear hacc hdec ha
        go_wp2
        go_ret2
        exact ⟨by rw [← HD.out]; rfl, rfl⟩

set_option maxHeartbeats 16000000 in
set_option maxRecDepth 100000 in
theorem rnumber_dec (s : ByteArray) (w : World) (hs : s.size ≤ maxLen) (hp : Lib.hasPrefix s.data.toList [48, 120] = false) :
    Calls Tryz.prog 111 #[.string s] w fun e w' => e = .returned (.tuple #[.int .u64 (numR s.data.toList).1, .bool (numR s.data.toList).2]) ∧ w = w' := by
  unfold maxLen at hs
  rw [rnum_dec s hp]
  have hnot : ¬ ∃ h : 1 < s.size, s[0] = 48 ∧ s[1] = 120 := fun h => by rw [(two_bytes s).2 h] at hp; exact Bool.noConfusion hp
  have hcs : s.size = 0 ∨ s.size = 1 ∨ (∃ h : 1 < s.size, (((s[0]).toNat : Int) == 48) = false) ∨ (∃ h : 1 < s.size, (((s[0]).toNat : Int) == 48) = true ∧ (((s[1]).toNat : Int) == 120) = false) := by
    by_cases h : 1 < s.size
    · by_cases h48 : s[0] = 48
      · right; right; right
        refine ⟨h, by rw [h48]; rfl, ?_⟩
        rw [beq_eq_false_iff_ne]; intro e
        exact hnot ⟨h, h48, by rw [← UInt8.toNat_inj]; show _ = 120; omega⟩
      · right; right; left
        refine ⟨h, ?_⟩
        rw [beq_eq_false_iff_ne]; intro e
        exact h48 (by rw [← UInt8.toNat_inj]; show _ = 48; omega)
    · omega
  clear hnot hp
  rcases hcs with h0 | h1
  · rw [dif_neg (by omega)]
    have h2 : (s.size : Int) < 1 := by omega
    clear h0
    go_enter Tryz.func111, Tryz.ntmps111
    go_wp2
    go_ret2
    exact ⟨rfl, rfl⟩
  · have hpos : 1 ≤ s.size := by rcases h1 with h1 | ⟨h1, _⟩ | ⟨h1, _⟩ <;> omega
    by_cases h20 : 20 < s.size
    · rw [dif_neg (by omega)]
      rcases h1 with h1 | ⟨h1, e1⟩ | ⟨h1, e1, e2⟩
      · exfalso; omega
      all_goals
        go_enter Tryz.func111, Tryz.ntmps111
        go_wp2
        go_ret2
        exact ⟨rfl, rfl⟩
    · have h20' : s.size ≤ 20 := by omega
      rw [dif_pos ⟨hpos, h20'⟩]
      clear h20
      rcases h1 with h1 | ⟨h1, e1⟩ | ⟨h1, e1, e2⟩
      case inr.inr =>
        have h48 : s[0] = 48 := by
          have e3 := beq_iff_eq.1 e1
          have e4 : (s[0]).toNat = 48 := by omega
          rw [← UInt8.toNat_inj]; exact e4
        rw [if_pos ⟨h1, h48⟩]
        clear h48
        go_enter Tryz.func111, Tryz.ntmps111
        go_wp2
        go_ret2
        exact ⟨rfl, rfl⟩
      · have hn : ¬ (1 < s.size ∧ s[0] = 48) := fun h => by omega
        rw [if_neg hn]
        clear hn
        generalize hR : decR 0 s.data.toList = R
        by_cases h48 : (((s[0]).toNat : Int) == 48) = true
        · exact rnumber_loop s w hs hpos h20' R hR (.inl ⟨h1, h48⟩)
        · rw [Bool.not_eq_true] at h48
          exact rnumber_loop s w hs hpos h20' R hR (.inr h48)
      · have hn : ¬ (1 < s.size ∧ s[0] = 48) := fun h => by rw [h.2] at e1; exact absurd e1 (by decide)
        rw [if_neg hn]
        clear hn
        generalize hR : decR 0 s.data.toList = R
        exact rnumber_loop s w hs hpos h20' R hR (.inr e1)

theorem rnumber_any (s : ByteArray) (w : World) (hs : s.size ≤ maxLen) :
    Calls Tryz.prog 111 #[.string s] w fun e w' => e = .returned (.tuple #[.int .u64 (numR s.data.toList).1, .bool (numR s.data.toList).2]) ∧ w = w' := by
  cases hp : Lib.hasPrefix s.data.toList [48, 120]
  · exact rnumber_dec s w hs hp
  · obtain ⟨h1, h48, h120⟩ := (two_bytes s).1 hp
    rw [← rnum_hex s h1 h48 h120]
    exact rnumber_hex s w hs h1 h48 h120
end Go.Proofs.YtlmopoipjolbgaaGreatDoor.LexW
namespace Go.Proofs.YtlmopoipjolbgaaGreatDoor.LexW
open Go.RowKit Go.Shelf Go.Proofs.YtlmopoipjolbgaaGreatDoor.LexS
set_option linter.unusedVariables false
set_option linter.unusedSimpArgs false

set_option maxHeartbeats 4000000 in
set_option maxRecDepth 100000 in
theorem rnext_out (s : ByteArray) (k : Int) (w : World) (h : 65536 < s.size ∨ k < 0 ∨ (s.size : Int) < k) :
    Calls Tryz.prog 87 #[.string s, .int .i64 k] w fun e w' => e = .returned (nextVal (nextV s k)) ∧ Below w.heap.size w w' := by
  by_cases h1 : 65536 < s.size
  · rw [show nextV s k = (0, nil0, 0, 0, 0, 54) by unfold nextV; rw [if_pos h1]]
    clear h
    go_enter Tryz.func87, Tryz.ntmps87
    go_wp2
    refine bodyPost_ret (v := nextVal (0, nil0, 0, 0, 0, 54)) (by simp [results, Tryz.results87, go_sem, nextVal, nil0]) rfl ⟨rfl, ?_⟩
    exact (Below.refl _ _).alloc (Nat.le_refl _) _
  · have h2 : k < 0 ∨ (s.size : Int) < k := by omega
    rw [show nextV s k = (0, nil0, 0, 0, 0, 1) by unfold nextV; rw [if_neg h1, if_pos h2]]
    have h3 : s.size ≤ 65536 := by omega
    clear h h1
    by_cases h4 : k < 0
    · clear h2
      go_enter Tryz.func87, Tryz.ntmps87
      go_wp2
      refine bodyPost_ret (v := nextVal (0, nil0, 0, 0, 0, 1)) (by simp [results, Tryz.results87, go_sem, nextVal, nil0]) rfl ⟨rfl, ?_⟩
      exact (Below.refl _ _).alloc (Nat.le_refl _) _
    · have h5 : 0 ≤ k := by omega
      have h6 : (s.size : Int) < k := by omega
      clear h2 h4
      go_enter Tryz.func87, Tryz.ntmps87
      go_wp2
      refine bodyPost_ret (v := nextVal (0, nil0, 0, 0, 0, 1)) (by simp [results, Tryz.results87, go_sem, nextVal, nil0]) rfl ⟨rfl, ?_⟩
      exact (Below.refl _ _).alloc (Nat.le_refl _) _

set_option maxHeartbeats 4000000 in
set_option maxRecDepth 100000 in
theorem rnext_end (s : ByteArray) (k : Nat) (w : World) (hs : s.size ≤ 65536) (hk : k ≤ s.size) (hp : beginN s k = s.size) :
    Calls Tryz.prog 87 #[.string s, .int .i64 k] w fun e w' => e = .returned (nextVal (1, nil0, 0, s.size, s.size, 0)) ∧ Below w.heap.size w w' := by
  have hm : s.size ≤ maxLen := by unfold maxLen; omega
  have hk2 : (k : Int) ≤ (s.size : Int) := by omega
  have hk0 : (0 : Int) ≤ (k : Int) := by omega
  have HP := Lib.hid hp; clear hp
  go_enter Tryz.func87, Tryz.ntmps87
  go_wp2_with fail
  refine (rskip_any s k _ hm hk).mono ?_
  rintro e w' ⟨rfl, rfl⟩
  rw [HP.out]
  go_wp2
  refine bodyPost_ret (v := nextVal (1, nil0, 0, s.size, s.size, 0)) (by simp [results, Tryz.results87, go_sem, nextVal, nil0]) rfl ⟨rfl, ?_⟩
  exact (Below.refl _ _).alloc (Nat.le_refl _) _

set_option maxHeartbeats 4000000 in
set_option maxRecDepth 100000 in
theorem rnext_word (s : ByteArray) (k p q : Nat) (d : Bool) (w : World) (hs : s.size ≤ 65536) (hk : k ≤ s.size) (hp : beginN s k = p) (hlt : p < s.size) (hq : whileN wordB s p = q) (hle : p ≤ q) (hqs : q ≤ s.size) (hl : letterB s[p] = true) (hd : digitB s[p] = d) :
    Calls Tryz.prog 87 #[.string s, .int .i64 k] w fun e w' => e = .returned (nextVal (if 32 < q - p then (0, nil0, 0, 0, p, 52) else (2, s.extract p q, 0, p, q, 0))) ∧ Below w.heap.size w w' := by
  have hm : s.size ≤ maxLen := by unfold maxLen; omega
  have hk2 : (k : Int) ≤ (s.size : Int) := by omega
  have hk0 : (0 : Int) ≤ (k : Int) := by omega
  have HP := Lib.hid hp; clear hp
  have HQ := Lib.hid hq; clear hq
  have HL := Lib.hid hl; clear hl
  have HD := Lib.hid hd; clear hd
  have hne : ((p : Int) == (s.size : Int)) = false := by rw [beq_eq_false_iff_ne]; omega
  have hsub : IntKind.i64.wrap ((q : Int) - (p : Int)) = (q : Int) - (p : Int) := by rw [IntKind.wrap_i64]; omega
  by_cases h32 : 32 < q - p
  · rw [if_pos h32]
    have h33 : (32 : Int) < (q : Int) - (p : Int) := by omega
    go_enter Tryz.func87, Tryz.ntmps87
    go_wp2_with fail
    refine (rskip_any s k _ hm hk).mono ?_
    rintro e w' ⟨rfl, rfl⟩
    rw [HP.out]
    go_wp2_with fail
    refine (rletter_any _ _).mono ?_
    rintro e w' ⟨rfl, rfl⟩
    rw [HL.out]
    go_wp2_with fail
    refine (rdigit_any _ _).mono ?_
    rintro e w' ⟨rfl, rfl⟩
    rw [HD.out]
    go_wp2_with fail
    refine (rrun_any s p _ hm (by omega)).mono ?_
    rintro e w' ⟨rfl, rfl⟩
    rw [HQ.out]
    go_wp2
    refine bodyPost_ret (v := nextVal (0, nil0, 0, 0, p, 52)) (by simp [results, Tryz.results87, go_sem, nextVal, nil0]) rfl ⟨rfl, ?_⟩
    exact ((Below.refl _ _).alloc (Nat.le_refl _) _).alloc (by simp) _
  · rw [if_neg h32]
    have h33 : (q : Int) - (p : Int) ≤ 32 := by omega
    go_enter Tryz.func87, Tryz.ntmps87
    go_wp2_with fail
    refine (rskip_any s k _ hm hk).mono ?_
    rintro e w' ⟨rfl, rfl⟩
    rw [HP.out]
    go_wp2_with fail
    refine (rletter_any _ _).mono ?_
    rintro e w' ⟨rfl, rfl⟩
    rw [HL.out]
    go_wp2_with fail
    refine (rdigit_any _ _).mono ?_
    rintro e w' ⟨rfl, rfl⟩
    rw [HD.out]
    go_wp2_with fail
    refine (rrun_any s p _ hm (by omega)).mono ?_
    rintro e w' ⟨rfl, rfl⟩
    rw [HQ.out]
    go_wp2
    refine bodyPost_ret (v := nextVal (2, s.extract p q, 0, p, q, 0)) (by simp [results, Tryz.results87, go_sem, nextVal]) rfl ⟨rfl, ?_⟩
    exact ((Below.refl _ _).alloc (Nat.le_refl _) _).alloc (by simp) _

set_option maxHeartbeats 4000000 in
set_option maxRecDepth 100000 in
theorem rnext_number (s : ByteArray) (k p q : Nat) (w : World) (hs : s.size ≤ 65536) (hk : k ≤ s.size) (hp : beginN s k = p) (hlt : p < s.size) (hq : whileN wordB s p = q) (hle : p ≤ q) (hqs : q ≤ s.size) (hl : letterB s[p] = false) (hd : digitB s[p] = true) :
    Calls Tryz.prog 87 #[.string s, .int .i64 k] w fun e w' => e = .returned (nextVal (if (numR (s.extract p q).data.toList).2 then (3, s.extract p q, (numR (s.extract p q).data.toList).1, p, q, 0) else (0, nil0, 0, 0, p, 53))) ∧ Below w.heap.size w w' := by
  have hm : s.size ≤ maxLen := by unfold maxLen; omega
  have hk2 : (k : Int) ≤ (s.size : Int) := by omega
  have hk0 : (0 : Int) ≤ (k : Int) := by omega
  have HP := Lib.hid hp; clear hp
  have HQ := Lib.hid hq; clear hq
  have HL := Lib.hid hl; clear hl
  have HD := Lib.hid hd; clear hd
  have hne : ((p : Int) == (s.size : Int)) = false := by rw [beq_eq_false_iff_ne]; omega
  have hN := fun (W : World) => rnumber_any (s.extract p q) W (by unfold maxLen; simp; omega)
  obtain ⟨n, hn⟩ : ∃ n, n = (numR (s.extract p q).data.toList).1 := ⟨_, rfl⟩
  obtain ⟨b, hb⟩ : ∃ b, b = (numR (s.extract p q).data.toList).2 := ⟨_, rfl⟩
  rw [← hn, ← hb]
  rw [← hn, ← hb] at hN
  have HN := Lib.hid hN
  clear hn hb hN
  cases b
  all_goals
    go_enter Tryz.func87, Tryz.ntmps87
    go_wp2_with fail
    refine (rskip_any s k _ hm hk).mono ?_
    rintro e w' ⟨rfl, rfl⟩
    rw [HP.out]
    go_wp2_with fail
    refine (rletter_any _ _).mono ?_
    rintro e w' ⟨rfl, rfl⟩
    rw [HL.out]
    go_wp2_with fail
    refine (rdigit_any _ _).mono ?_
    rintro e w' ⟨rfl, rfl⟩
    rw [HD.out]
    go_wp2_with fail
    refine (rrun_any s p _ hm (by omega)).mono ?_
    rintro e w' ⟨rfl, rfl⟩
    rw [HQ.out]
    go_wp2_with fail
    refine (HN.out _).mono ?_
    rintro e w1 ⟨rfl, rfl⟩
    go_wp2
  · refine bodyPost_ret (v := nextVal (0, nil0, 0, 0, p, 53)) (by simp [results, Tryz.results87, go_sem, nextVal, nil0]) rfl ⟨rfl, ?_⟩
    exact ((Below.refl _ _).alloc (Nat.le_refl _) _).alloc (by simp) _
  · refine bodyPost_ret (v := nextVal (3, s.extract p q, n, p, q, 0)) (by simp [results, Tryz.results87, go_sem, nextVal]) rfl ⟨rfl, ?_⟩
    exact ((Below.refl _ _).alloc (Nat.le_refl _) _).alloc (by simp) _

set_option maxHeartbeats 4000000 in
set_option maxRecDepth 100000 in
theorem rnext_sign (s : ByteArray) (k p q : Nat) (w : World) (hs : s.size ≤ 65536) (hk : k ≤ s.size) (hp : beginN s k = p) (hlt : p < s.size) (hq : whileN wordB s p = q) (hle : p ≤ q) (hqs : q ≤ s.size) (hl : letterB s[p] = false) (hd : digitB s[p] = false) :
    Calls Tryz.prog 87 #[.string s, .int .i64 k] w fun e w' => e = .returned (nextVal (if signL (s.data.toList.drop p) = 0 then (0, nil0, 0, 0, p, 51) else (4, s.extract p (p + signL (s.data.toList.drop p)), 0, p, p + signL (s.data.toList.drop p), 0))) ∧ Below w.heap.size w w' := by
  have hm : s.size ≤ maxLen := by unfold maxLen; omega
  have hk2 : (k : Int) ≤ (s.size : Int) := by omega
  have hk0 : (0 : Int) ≤ (k : Int) := by omega
  have HP := Lib.hid hp; clear hp
  have HQ := Lib.hid hq; clear hq
  have HL := Lib.hid hl; clear hl
  have HD := Lib.hid hd; clear hd
  have hne : ((p : Int) == (s.size : Int)) = false := by rw [beq_eq_false_iff_ne]; omega
  have hg := fun W => rsign_any s p W hm hlt
  have hle2 := sign_le (s.data.toList.drop p)
  have hlen : (s.data.toList.drop p).length = s.size - p := by simp
  rw [hlen] at hle2
  generalize signL (s.data.toList.drop p) = n at *
  have HG := Lib.hid hg; clear hg hlen
  by_cases h0 : n = 0
  · subst h0
    rw [if_pos rfl]
    go_enter Tryz.func87, Tryz.ntmps87
    go_wp2_with fail
    refine (rskip_any s k _ hm hk).mono ?_
    rintro e w' ⟨rfl, rfl⟩
    rw [HP.out]
    go_wp2_with fail
    refine (rletter_any _ _).mono ?_
    rintro e w' ⟨rfl, rfl⟩
    rw [HL.out]
    go_wp2_with fail
    refine (rdigit_any _ _).mono ?_
    rintro e w' ⟨rfl, rfl⟩
    rw [HD.out]
    go_wp2_with fail
    refine (HG.out _).mono ?_
    rintro e w' ⟨rfl, rfl⟩
    go_wp2
    refine bodyPost_ret (v := nextVal (0, nil0, 0, 0, p, 51)) (by simp [results, Tryz.results87, go_sem, nextVal, nil0]) rfl ⟨rfl, ?_⟩
    exact (Below.refl _ _).alloc (Nat.le_refl _) _
  · rw [if_neg h0]
    have hn0 : ((n : Int) == 0) = false := by rw [beq_eq_false_iff_ne]; omega
    have hadd : IntKind.i64.wrap ((p : Int) + (n : Int)) = (p : Int) + (n : Int) := by rw [IntKind.wrap_i64]; omega
    go_enter Tryz.func87, Tryz.ntmps87
    go_wp2_with fail
    refine (rskip_any s k _ hm hk).mono ?_
    rintro e w' ⟨rfl, rfl⟩
    rw [HP.out]
    go_wp2_with fail
    refine (rletter_any _ _).mono ?_
    rintro e w' ⟨rfl, rfl⟩
    rw [HL.out]
    go_wp2_with fail
    refine (rdigit_any _ _).mono ?_
    rintro e w' ⟨rfl, rfl⟩
    rw [HD.out]
    go_wp2_with fail
    refine (HG.out _).mono ?_
    rintro e w' ⟨rfl, rfl⟩
    go_wp2
    refine bodyPost_ret (v := nextVal (4, s.extract p (p + n), 0, p, p + n, 0)) (by simp [results, Tryz.results87, go_sem, nextVal]) rfl ⟨rfl, ?_⟩
    exact (Below.refl _ _).alloc (Nat.le_refl _) _

theorem rnext_any (s : ByteArray) (k : Int) (w : World) :
    Calls Tryz.prog 87 #[.string s, .int .i64 k] w fun e w' => e = .returned (nextVal (nextV s k)) ∧ Below w.heap.size w w' := by
  by_cases h : 65536 < s.size ∨ k < 0 ∨ (s.size : Int) < k
  · exact rnext_out s k w h
  · obtain ⟨j, rfl⟩ := Int.eq_ofNat_of_zero_le (show 0 ≤ k by omega)
    have h1 : ¬ 65536 < s.size := by omega
    have h2 : ¬ ((j : Int) < 0 ∨ (s.size : Int) < (j : Int)) := by omega
    have hj : j ≤ s.size := by omega
    unfold nextV
    rw [if_neg h1, if_neg h2, Int.toNat_natCast]
    by_cases hp : beginN s j < s.size
    · rw [dif_pos hp]
      have hle := whileN_ge wordB s (beginN s j)
      have hqs := whileN_le wordB s (beginN s j) (by omega)
      unfold tokV
      cases hl : letterB s[beginN s j]
      · rw [if_neg (by simp)]
        cases hd : digitB s[beginN s j]
        · rw [if_neg (by simp)]
          exact rnext_sign s j _ _ w (by omega) hj rfl hp rfl hle hqs hl hd
        · rw [if_pos rfl]
          exact rnext_number s j _ _ w (by omega) hj rfl hp rfl hle hqs hl hd
      · rw [if_pos rfl]
        exact rnext_word s j _ _ _ w (by omega) hj rfl hp rfl hle hqs hl rfl
    · rw [dif_neg hp]
      exact rnext_end s j w (by omega) hj (by have := begin_le s j; omega)
end Go.Proofs.YtlmopoipjolbgaaGreatDoor.LexW
namespace Go.Proofs.YtlmopoipjolbgaaGreatDoor.LexW
open Go.RowKit Go.Shelf Go.Proofs.YtlmopoipjolbgaaGreatDoor.LexS Go.Proofs.YtlmopoipjolbgaaGreatDoorW.PrintWords
set_option linter.unusedVariables false
set_option linter.unusedSimpArgs false

/-- a token -/
structure Tk where
  kind : Int
  text : ByteArray
  num : Int
  at_ : Int
deriving DecidableEq
def tkz : Tk := ⟨0, nil0, 0, 0⟩
def kTk : Kd Tk := Kd.iso (Kd.pair (Kd.int .i64) (Kd.pair Kd.string (Kd.pair (Kd.int .u64) (Kd.int .i64)))) (fun x : Tk => (x.kind, x.text, x.num, x.at_))
def tkCells (x : Tk) : List Value := [.int .i64 x.kind, .string x.text, .int .u64 x.num, .int .i64 x.at_]
theorem kTk_open {w : World} {x : Tk} {cs : List Value} (h : kTk.K w x cs) : cs = tkCells x := by
  obtain ⟨_, _, rfl, rfl, ⟨_, _, rfl, rfl, ⟨_, _, rfl, rfl, rfl⟩⟩⟩ := h
  rfl
theorem kTk_mk (w : World) (x : Tk) : kTk.K w x (tkCells x) := ⟨[.int .i64 x.kind], [.string x.text, .int .u64 x.num, .int .i64 x.at_], rfl, rfl, ⟨[.string x.text], [.int .u64 x.num, .int .i64 x.at_], rfl, rfl, ⟨[.int .u64 x.num], [.int .i64 x.at_], rfl, rfl, rfl⟩⟩⟩
theorem kTk_mkM (w : World) (base : Nat) (ok : Nat → Prop) (x : Tk) : kTk.M w base ok x (tkCells x) := ⟨[.int .i64 x.kind], [.string x.text, .int .u64 x.num, .int .i64 x.at_], rfl, rfl, ⟨[.string x.text], [.int .u64 x.num, .int .i64 x.at_], rfl, rfl, ⟨[.int .u64 x.num], [.int .i64 x.at_], rfl, rfl, rfl⟩⟩⟩
/-- a slice of tokens, read at a place -/
theorem tk_at {w : World} {A : Option Addr} {n : Nat} {xs : List Tk} (h : kTk.C w A n xs) (i : Nat) (h1 : i < n) : ∃ ad, A = some ad ∧
    w.cell? (ad.add (i * 4)) = some (.int .i64 (xs.getD i tkz).kind) ∧ w.cell? ⟨(ad.add (i * 4)).block, (ad.add (i * 4)).off + 1, none⟩ = some (.string (xs.getD i tkz).text) ∧
    w.cell? ⟨(ad.add (i * 4)).block, (ad.add (i * 4)).off + 2, none⟩ = some (.int .u64 (xs.getD i tkz).num) ∧ w.cell? ⟨(ad.add (i * 4)).block, (ad.add (i * 4)).off + 3, none⟩ = some (.int .i64 (xs.getD i tkz).at_) := by
  obtain ⟨ad, c, e, _, hK, hc0⟩ := Kd.C_get h tkz (i : Int) (by omega) (by omega)
  rw [Int.toNat_natCast] at hK hc0
  have hc : ∀ j u, c[j]? = some u → w.cell? (ad.add (i * 4 + j)) = some u := hc0
  obtain rfl := kTk_open hK
  exact ⟨ad, e, hc 0 _ rfl, by rw [← add_field _ _ 1 (by omega)]; exact hc 1 _ rfl, by rw [← add_field _ _ 2 (by omega)]; exact hc 2 _ rfl, by rw [← add_field _ _ 3 (by omega)]; exact hc 3 _ rfl⟩

def tokOf (x : NextT) : Tk := ⟨x.1, x.2.1, x.2.2.1, x.2.2.2.1⟩
abbrev placeOf (x : NextT) : Int := x.2.2.2.2.1
abbrev errOf (x : NextT) : Int := x.2.2.2.2.2
/-- the tokens from a place on, up to the end, or ahead of what is wrong; the error and its place -/
def toksF : Nat → ByteArray → Nat → List Tk × Int × Int
  | 0, _, _ => ([], 0, 0)
  | f + 1, s, k =>
    if errOf (nextV s k) ≠ 0 then ([], errOf (nextV s k), placeOf (nextV s k))
    else if (nextV s k).1 = 1 then ([tokOf (nextV s k)], 0, 0)
    else (tokOf (nextV s k) :: (toksF f s (placeOf (nextV s k)).toNat).1, (toksF f s (placeOf (nextV s k)).toNat).2)
def toksA (s : ByteArray) (k : Nat) : List Tk × Int × Int := toksF (s.size + 2) s k
def toks (s : ByteArray) : List Tk × Int × Int := toksA s 0

theorem run_pos {s : ByteArray} {p : Nat} (h : p < s.size) (hw : wordB s[p] = true) : p < whileN wordB s p := by
  rw [whileN_yes h hw]; have := whileN_ge wordB s (p + 1); omega
/-- a token that is no end: its text stands between two places, and is not empty -/
theorem next_ok (s : ByteArray) (k : Nat) (h : errOf (nextV s k) = 0) : s.size ≤ 65536 ∧ k ≤ s.size ∧
    ((nextV s k = ((1 : Int), nil0, (0 : Int), (s.size : Int), (s.size : Int), (0 : Int)) ∧ beginN s k = s.size) ∨
     (∃ p q : Nat, p = beginN s k ∧ k ≤ p ∧ p < q ∧ q ≤ s.size ∧ (nextV s k).1 ≠ 1 ∧ (nextV s k).2.1 = s.extract p q ∧ (nextV s k).2.2.2.1 = p ∧ placeOf (nextV s k) = q)) := by
  unfold nextV at h ⊢
  by_cases h1 : 65536 < s.size
  · rw [if_pos h1] at h; exact absurd h (by decide)
  rw [if_neg h1] at h ⊢
  by_cases h2 : (k : Int) < 0 ∨ (s.size : Int) < (k : Int)
  · rw [if_pos h2] at h; exact absurd h (by decide)
  rw [if_neg h2] at h ⊢
  rw [Int.toNat_natCast] at h ⊢
  refine ⟨by omega, by omega, ?_⟩
  have hk : k ≤ s.size := by omega
  have hge := begin_ge k hk
  by_cases hp : beginN s k < s.size
  · right
    rw [dif_pos hp] at h ⊢
    have hqs := whileN_le wordB s (beginN s k) (by omega)
    unfold tokV at h ⊢
    by_cases hl : letterB s[beginN s k] = true
    · rw [if_pos hl] at h ⊢
      by_cases h32 : 32 < whileN wordB s (beginN s k) - beginN s k
      · rw [if_pos h32] at h; exact absurd (show (52 : Int) = 0 from h) (by decide)
      · rw [if_neg h32] at h ⊢
        exact ⟨_, _, rfl, hge, run_pos hp (by unfold wordB; rw [hl]; rfl), hqs, show (2 : Int) ≠ 1 by decide, rfl, rfl, rfl⟩
    · rw [if_neg hl] at h ⊢
      by_cases hd : digitB s[beginN s k] = true
      · rw [if_pos hd] at h ⊢
        by_cases hn : (numR (s.extract (beginN s k) (whileN wordB s (beginN s k))).data.toList).2 = true
        · rw [if_pos hn] at h ⊢
          exact ⟨_, _, rfl, hge, run_pos hp (by unfold wordB; rw [hd]; simp), hqs, show (3 : Int) ≠ 1 by decide, rfl, rfl, rfl⟩
        · rw [if_neg hn] at h; exact absurd (show (53 : Int) = 0 from h) (by decide)
      · rw [if_neg hd] at h ⊢
        by_cases hz : signL (s.data.toList.drop (beginN s k)) = 0
        · rw [if_pos hz] at h; exact absurd (show (51 : Int) = 0 from h) (by decide)
        · rw [if_neg hz] at h ⊢
          have hle := sign_le (s.data.toList.drop (beginN s k))
          have hlen : (s.data.toList.drop (beginN s k)).length = s.size - beginN s k := by simp
          exact ⟨_, _, rfl, hge, by omega, by omega, show (4 : Int) ≠ 1 by decide, rfl, rfl, by push_cast; rfl⟩
  · left
    rw [dif_neg hp]
    exact ⟨rfl, by have := begin_le s k; omega⟩

/-- one token on -/
theorem toks_err {f : Nat} {s : ByteArray} {k : Nat} (h : errOf (nextV s k) ≠ 0) : toksF (f + 1) s k = ([], errOf (nextV s k), placeOf (nextV s k)) := by
  rw [toksF, if_pos h]
theorem toks_end {f : Nat} {s : ByteArray} {k : Nat} (h : errOf (nextV s k) = 0) (h1 : (nextV s k).1 = 1) : toksF (f + 1) s k = ([tokOf (nextV s k)], 0, 0) := by
  rw [toksF, if_neg (by simpa using h), if_pos h1]
theorem toks_more {f : Nat} {s : ByteArray} {k q : Nat} (h : errOf (nextV s k) = 0) (h1 : (nextV s k).1 ≠ 1) (hq : placeOf (nextV s k) = (q : Int)) :
    toksF (f + 1) s k = (tokOf (nextV s k) :: (toksF f s q).1, (toksF f s q).2) := by
  rw [toksF, if_neg (by simpa using h), if_neg h1, hq, Int.toNat_natCast]
/-- enough rounds are enough -/
theorem toksF_enough (s : ByteArray) : ∀ (f g : Nat) (k : Nat), s.size + 1 ≤ f + k → s.size + 1 ≤ g + k → toksF (f + 1) s k = toksF (g + 1) s k := by
  intro f
  induction f with
  | zero =>
    intro g k hf hg
    by_cases h : errOf (nextV s k) = 0
    · obtain ⟨_, hk, _⟩ := next_ok s k h
      omega
    · rw [toks_err h, toks_err h]
  | succ f ih =>
    intro g k hf hg
    by_cases h : errOf (nextV s k) = 0
    · obtain ⟨_, hk, ⟨he, _⟩ | ⟨p, q, _, hkp, hpq, hq, h1, _, _, hpl⟩⟩ := next_ok s k h
      · have h1 : (nextV s k).1 = 1 := by rw [he]
        rw [toks_end h h1, toks_end h h1]
      · rw [toks_more h h1 hpl, toks_more h h1 hpl]
        obtain ⟨g, rfl⟩ : ∃ g', g = g' + 1 := ⟨g - 1, by omega⟩
        rw [ih g q (by omega) (by omega)]
    · rw [toks_err h, toks_err h]
theorem toksA_err {s : ByteArray} {k : Nat} (h : errOf (nextV s k) ≠ 0) : toksA s k = ([], errOf (nextV s k), placeOf (nextV s k)) := toks_err h
theorem toksA_end {s : ByteArray} {k : Nat} (h : errOf (nextV s k) = 0) (h1 : (nextV s k).1 = 1) : toksA s k = ([tokOf (nextV s k)], 0, 0) := toks_end h h1
theorem toksA_more {s : ByteArray} {k q : Nat} (h : errOf (nextV s k) = 0) (h1 : (nextV s k).1 ≠ 1) (hq : placeOf (nextV s k) = (q : Int)) (hkq : k < q) :
    toksA s k = (tokOf (nextV s k) :: (toksA s q).1, (toksA s q).2) := by
  unfold toksA
  rw [toks_more h h1 hq, toksF_enough s s.size (s.size + 1) q (by omega) (by omega)]
end Go.Proofs.YtlmopoipjolbgaaGreatDoor.LexW
namespace Go.Proofs.YtlmopoipjolbgaaGreatDoor.LexW
open Go.RowKit Go.Shelf Go.Proofs.YtlmopoipjolbgaaGreatDoor.LexS Go.Proofs.YtlmopoipjolbgaaGreatDoorW.PrintWords
set_option linter.unusedVariables false
set_option linter.unusedSimpArgs false

theorem infoTk : (Tryz.prog.info? 59).map (fun i => (i.zero, i.size, i.bytes)) = some (some (.agg #[.int .i64 0, .string ⟨#[]⟩, .int .u64 0, .int .i64 0]), kTk.sz, 40) := by kernel_rfl

/-- a made list of tokens -/
def TkRow (w : World) (base : Nat) (v : Value) (l : List Tk) : Prop := kTk.R 59 w base (fun _ => True) v l
theorem TkRow.below {w w1 : World} {base : Nat} {v : Value} {l : List Tk} (h : TkRow w base v l) (hb : Below w.heap.size w w1) : TkRow w1 base v l := Kd.R_below h hb
theorem TkRow.alloc {w : World} {base : Nat} {v : Value} {l : List Tk} (h : TkRow w base v l) (o : Obj) : TkRow (w.alloc o) base v l := Kd.R_alloc h o
theorem TkRow.lt {w : World} {base : Nat} {v : Value} {l : List Tk} (h : TkRow w base v l) (g : Nat) (hg : w.heap.size ≤ g) : some g ≠ v.ownBlock := fun e => by
  have := Kd.R_lt h g e.symm; omega

theorem new_blk (w : World) (cs : Array Value) (t : TypeId) : (w.alloc (.cells cs t)).heap[w.heap.size]? = some (.cells cs t (0, 0)) := by
  show (w.heap.push (Obj.cells cs t))[w.heap.size]? = _
  simp

/-- what Tokens and List answer -/
def ListEnd (P : List Tk × Int × Int) (base : Nat) (e : Ending) (w' : World) : Prop := ∃ v, e = .returned (.tuple #[v, .int .i64 P.2.1, .int .i64 P.2.2]) ∧ TkRow w' base v P.1

set_option maxHeartbeats 8000000 in
set_option maxRecDepth 100000 in
theorem rtokens_any (s : ByteArray) (w : World) :
    Calls Tryz.prog 62 #[.string s] w fun e w' => ListEnd (toks s) w.heap.size e w' ∧ Below w.heap.size w w' := by
  generalize hR : toks s = R
  have HR := Lib.hid hR; clear hR
  go_enter Tryz.func62, Tryz.ntmps62
  go_wp2
  go_loopw [5, 6] (fun v vi wr => ∃ (k : Nat) (acc : List Tk), vi = .int .i64 k ∧ Hid (TkRow wr w.heap.size v acc) ∧ Below w.heap.size w wr ∧ acc.length ≤ k ∧ k ≤ s.size ∧ Hid ((acc ++ (toksA s k).1, (toksA s k).2) = R)) (fun _ vi _ => s.size - (intOf vi).toNat)
  case atStart => exact ⟨0, [], rfl, Kd.R_nil _ _ _ _ _, Below.refl _ _, by simp, by omega, HR.out⟩
  case round =>
    clear HR
    obtain ⟨k, acc, rfl, HO, hbw, hlen, hk, HT⟩ := hrel
    have HN := Lib.hid (rnext_any s k wr)
    by_cases he : errOf (nextV s k) = 0
    · obtain ⟨hs, _, hcase⟩ := next_ok s k he
      obtain ⟨x, hx⟩ : ∃ x, x = nextV s k := ⟨_, rfl⟩
      have he0 : x.2.2.2.2.2 = 0 := by rw [hx]; exact he
      rw [← hx] at HN hcase
      have hfin : Hid ((x.1 = 1 ∧ (acc ++ [tokOf x], (0 : Int), (0 : Int)) = R) ∨ (x.1 ≠ 1 ∧ ∃ q : Nat, k < q ∧ q ≤ s.size ∧ placeOf x = q ∧ ((acc ++ [tokOf x]) ++ (toksA s q).1, (toksA s q).2) = R)) := by
        rcases hcase with ⟨h1, _⟩ | ⟨p, q, _, hkp, hpq, hq, h1, _, _, hpl⟩
        · left
          have h2 : x.1 = 1 := by rw [h1]
          refine ⟨h2, ?_⟩
          rw [← HT.out, toksA_end he (by rw [← hx]; exact h2), ← hx]
        · right
          refine ⟨h1, q, by omega, hq, hpl, ?_⟩
          rw [← HT.out, toksA_more he (by rw [← hx]; exact h1) (by rw [← hx]; exact hpl) (by omega), ← hx]
          simp
      clear HT hcase he hx
      obtain ⟨kd, tx, nm, pa, pl, er⟩ := x
      obtain rfl : er = 0 := he0
      unfold nextVal at HN
      rcases hfin.out with ⟨h1, hF⟩ | ⟨h1, q, hkq, hq, hpl, hF⟩
      · obtain rfl : kd = 1 := h1
        have HF := Lib.hid hF
        clear hF hfin
        go_wp2_with fail
        refine HN.out.mono ?_
        rintro e w1 ⟨rfl, hb1⟩
        have hO1 : Hid (TkRow w1 w.heap.size u5 acc) := HO.out.below hb1
        have hbw1 := hbw.trans (hb1.mono hbw.size)
        have hlt1 : w.heap.size ≤ w1.heap.size := hbw1.size
        clear HO hb1 hbw
        go_wp2_with (at_builtin; refine Kd.R_append kTk (w0 := w) (W := w1.alloc (.cells #[.int .i64 1, .string tx, .int .u64 nm, .int .i64 pa] 59)) w.heap.size rfl (.tmp 22) (.tmp 24) 62 59 (.agg #[.int .i64 0, .string ⟨#[]⟩, .int .u64 0, .int .i64 0]) 40 rfl Tryz.underlying62 infoTk rfl (by decide) (by omega) u5 acc (tokOf (1, tx, nm, pa, pl, 0)) (tkCells (tokOf (1, tx, nm, pa, pl, 0))) (fun _ => True) (fun _ => False) rfl (by go_simp) (kTk_mkM _ _ _ _) (fun _ hk => hk.elim) (fun _ _ => trivial) (hO1.out.alloc _) (hbw1.alloc hlt1 _) (by simp; omega) (by omega) ?_; intro v2 w2 hO2 hbw2 hg2 _; have hblk := blk_grown (new_blk w1 _ _) hg2 (hO1.out.lt _ (Nat.le_refl _)); have hc2 : w2.cell? ⟨w1.heap.size, 0, none⟩ = some (.int .i64 1) := blk_cell hblk 0; have HO2 : Hid (TkRow w2 w.heap.size v2 _) := Lib.hid hO2; clear hO2 hg2 hblk hO1)
        go_ret3
        exact ⟨⟨_, by rw [← HF.out]; rfl, by rw [← HF.out]; exact HO2.out⟩, hbw2⟩
      · have h1b : (kd == 1) = false := by rw [beq_eq_false_iff_ne]; exact h1
        obtain rfl : pl = (q : Int) := hpl
        have HF := Lib.hid hF
        clear hF hfin h1
        go_wp2_with fail
        refine HN.out.mono ?_
        rintro e w1 ⟨rfl, hb1⟩
        have hO1 : Hid (TkRow w1 w.heap.size u5 acc) := HO.out.below hb1
        have hbw1 := hbw.trans (hb1.mono hbw.size)
        have hlt1 : w.heap.size ≤ w1.heap.size := hbw1.size
        clear HO hb1 hbw
        go_wp2_with (at_builtin; refine Kd.R_append kTk (w0 := w) (W := w1.alloc (.cells #[.int .i64 kd, .string tx, .int .u64 nm, .int .i64 pa] 59)) w.heap.size rfl (.tmp 22) (.tmp 24) 62 59 (.agg #[.int .i64 0, .string ⟨#[]⟩, .int .u64 0, .int .i64 0]) 40 rfl Tryz.underlying62 infoTk rfl (by decide) (by omega) u5 acc (tokOf (kd, tx, nm, pa, (q : Int), 0)) (tkCells (tokOf (kd, tx, nm, pa, (q : Int), 0))) (fun _ => True) (fun _ => False) rfl (by go_simp) (kTk_mkM _ _ _ _) (fun _ hk => hk.elim) (fun _ _ => trivial) (hO1.out.alloc _) (hbw1.alloc hlt1 _) (by simp; omega) (by omega) ?_; intro v2 w2 hO2 hbw2 hg2 _; have hblk := blk_grown (new_blk w1 _ _) hg2 (hO1.out.lt _ (Nat.le_refl _)); have hc2 : w2.cell? ⟨w1.heap.size, 0, none⟩ = some (.int .i64 kd) := blk_cell hblk 0; have HO2 : Hid (TkRow w2 w.heap.size v2 _) := Lib.hid hO2; clear hO2 hg2 hblk hO1)
        go_roundw
        case rel => exact ⟨q, _, rfl, HO2, hbw2, by simp; omega, hq, HF⟩
        case measure => simp [intOf]; omega
    · have HF : Hid ((acc, errOf (nextV s k), placeOf (nextV s k)) = R) := by
        show _ = _; rw [← HT.out, toksA_err he]; simp
      clear HT
      generalize nextV s k = x at *
      obtain ⟨kd, tx, nm, pa, pl, er⟩ := x
      have he' : (er != 0) = true := by rw [bne_iff_ne]; exact he
      clear he
      unfold nextVal at HN
      go_wp2_with fail
      refine HN.out.mono ?_
      rintro e w1 ⟨rfl, hb1⟩
      have hO1 : Hid (TkRow w1 w.heap.size u5 acc) := HO.out.below hb1
      have hbw1 := hbw.trans (hb1.mono hbw.size)
      have hlt1 : w.heap.size ≤ w1.heap.size := hbw1.size
      clear HO hb1 hbw
      go_wp2
      go_ret3
      exact ⟨⟨_, by rw [← HF.out]; rfl, by rw [← HF.out]; exact hO1.out.alloc _⟩, hbw1.alloc hlt1 _⟩

/-- what List answers -/
def listV (s : ByteArray) : List Tk × Int × Int := if (toks s).2.1 ≠ 0 then ([], (toks s).2) else ((toks s).1, 0, 0)
end Go.Proofs.YtlmopoipjolbgaaGreatDoor.LexW
