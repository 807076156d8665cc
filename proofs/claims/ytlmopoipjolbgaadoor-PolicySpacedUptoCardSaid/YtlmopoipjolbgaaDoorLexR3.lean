/-
  The walks of the reference's layer 5: numbers.
-/
import Derived.Test.YtlmopoipjolbgaaDoorLexR2
namespace Go.Proofs.YtlmopoipjolbgaaDoor.LexW
open Go.RowKit Go.Shelf Go.Proofs.YtlmopoipjolbgaaDoor.LexS
set_option linter.unusedVariables false
set_option linter.unusedSimpArgs false

def hexR (acc : Nat) (l : List UInt8) : Int × Bool := if l.all hexB = true then ((valL 16 hexV acc l : Int), true) else (0, false)
theorem hexR_good (acc : Nat) (c : UInt8) (r : List UInt8) (h : hexB c = true) : hexR acc (c :: r) = hexR (16 * acc + hexV c) r := by
  unfold hexR; rw [List.all_cons, h, valL_cons]; rfl
theorem hexR_bad (acc : Nat) (c : UInt8) (r : List UInt8) (h : hexB c = false) : hexR acc (c :: r) = (0, false) := by
  unfold hexR; rw [List.all_cons, h]; rfl
def decR (acc : Nat) (l : List UInt8) : Int × Bool := if l.all digitB = true ∧ valL 10 digV acc l < 18446744073709551616 then ((valL 10 digV acc l : Int), true) else (0, false)
theorem decR_good (acc : Nat) (c : UInt8) (r : List UInt8) (h : digitB c = true) : decR acc (c :: r) = decR (10 * acc + digV c) r := by
  unfold decR; rw [List.all_cons, h, valL_cons, Bool.true_and]
theorem decR_bad (acc : Nat) (c : UInt8) (r : List UInt8) (h : digitB c = false) : decR acc (c :: r) = (0, false) := by
  unfold decR; rw [List.all_cons, h, Bool.false_and, if_neg (by simp)]
theorem decR_big (acc : Nat) (l : List UInt8) (h : 18446744073709551616 ≤ acc) : decR acc l = (0, false) := by
  unfold decR
  have := valL_ge digV l acc
  rw [if_neg (by omega)]

theorem hex_bad_cases (c : UInt8) (h : hexB c = false) : ¬ (48 ≤ c.toNat ∧ c.toNat ≤ 57) ∧ ¬ (97 ≤ c.toNat ∧ c.toNat ≤ 102) := by
  unfold hexB digitB at h
  simp [UInt8.le_iff_toNat_le] at h
  omega

theorem val_big (m : List UInt8) : ∀ a, 1 ≤ a → 10 ^ m.length * a ≤ valL 10 digV a m := by
  induction m with
  | nil => intro a ha; simp [valL]
  | cons x y ih2 =>
    intro a ha
    rw [valL_cons, List.length_cons, Nat.pow_succ]
    refine Nat.le_trans ?_ (ih2 (10 * a + digV x) (by omega))
    rw [Nat.mul_assoc]
    exact Nat.mul_le_mul_left _ (by omega)
theorem dec_long (c : UInt8) (r : List UInt8) (h : c ≠ 48) (hl : 20 ≤ r.length) (hd : digitB c = true) : 18446744073709551616 ≤ valL 10 digV 0 (c :: r) := by
  rw [valL_cons]
  have hb := digit_bounds hd
  have hne : c.toNat ≠ 48 := fun e => h (by rw [← UInt8.toNat_inj]; exact e)
  have h1 := val_big r (10 * 0 + digV c) (by unfold digV; omega)
  have h2 : 10 ^ 20 ≤ 10 ^ r.length := Nat.pow_le_pow_right (by omega) hl
  have h3 : (18446744073709551616 : Nat) ≤ 10 ^ 20 := by decide
  have h4 : 10 ^ r.length * 1 ≤ 10 ^ r.length * (10 * 0 + digV c) := Nat.mul_le_mul_left _ (by unfold digV; omega)
  omega

theorem two_bytes (s : ByteArray) : Lib.hasPrefix s.data.toList [48, 120] = true ↔ ∃ h : 1 < s.size, s[0] = 48 ∧ s[1] = 120 := by
  rw [pre_take, decide_eq_true_eq]
  by_cases h : 1 < s.size
  · have h0 := drop_cons s 0 (by omega)
    have h1 := drop_cons s 1 h
    rw [List.drop_zero] at h0
    rw [h0, h1]
    constructor
    · intro e
      obtain ⟨e1, e2⟩ := List.cons.inj e
      exact ⟨h, e1, (List.cons.inj e2).1⟩
    · rintro ⟨_, e1, e2⟩
      rw [e1, e2]; rfl
  · constructor
    · intro e
      have := congrArg List.length e
      simp at this
      have : s.data.size = s.size := rfl
      omega
    · rintro ⟨h', _⟩; omega

set_option maxHeartbeats 16000000 in
set_option maxRecDepth 100000 in
theorem rnumber_hex (s : ByteArray) (w : World) (hs : s.size ≤ maxLen) (h1 : 1 < s.size) (h48 : s[0] = 48) (h120 : s[1] = 120) :
    Calls Tryd.prog 11 #[.string s] w fun e w' => e = .returned (.tuple #[.int .u64 (if 3 ≤ s.size ∧ s.size ≤ 18 then hexR 0 (s.data.toList.drop 2) else (0, false)).1, .bool (if 3 ≤ s.size ∧ s.size ≤ 18 then hexR 0 (s.data.toList.drop 2) else (0, false)).2]) ∧ w = w' := by
  unfold maxLen at hs
  have e1 : (((s[0]).toNat : Int) == 48) = true := by rw [h48]; rfl
  have e2 : (((s[1]).toNat : Int) == 120) = true := by rw [h120]; rfl
  have e3 : (2 : Int) ≤ (s.size : Int) := by omega
  clear h48 h120
  generalize hR : (if 3 ≤ s.size ∧ s.size ≤ 18 then hexR 0 (s.data.toList.drop 2) else ((0 : Int), false)) = R
  have HR := Lib.hid hR; clear hR
  by_cases h3 : s.size < 3
  · have HV : Hid (((0 : Int), false) = R) := (if_neg (by omega)).symm.trans HR.out
    clear HR
    go_enter Tryd.func11, Tryd.ntmps11
    go_wp2
    go_ret2
    exact ⟨by rw [← HV.out]; rfl, rfl⟩
  · by_cases h18 : 18 < s.size
    · have HV : Hid (((0 : Int), false) = R) := (if_neg (by omega)).symm.trans HR.out
      clear HR
      go_enter Tryd.func11, Tryd.ntmps11
      go_wp2
      go_ret2
      exact ⟨by rw [← HV.out]; rfl, rfl⟩
    · have HV : Hid (hexR 0 (s.data.toList.drop 2) = R) := (if_pos (by omega)).symm.trans HR.out
      have h3' : 3 ≤ s.size := by omega
      have h18' : s.size ≤ 18 := by omega
      clear HR h3 h18
      go_enter Tryd.func11, Tryd.ntmps11
      go_wp2
      go_loop [4, 5] (fun vn vi => ∃ (k acc : Nat) (a : Int), vn = .int .u64 a ∧ vi = .int .i64 k ∧ 2 ≤ k ∧ k ≤ s.size ∧ Hid (a = (acc : Int) ∧ acc < 16 ^ (k - 2) ∧ hexR acc (s.data.toList.drop k) = R)) (fun _ vi => s.size - (intOf vi).toNat)
      case atStart => exact ⟨2, 0, 0, rfl, rfl, by omega, by omega, rfl, by simp, HV.out⟩
      case round =>
        clear HV
        obtain ⟨k, acc, a, rfl, rfl, hk2, hk, hh⟩ := hrel
        obtain ⟨ha, hacc, hdec⟩ := hh.out
        clear hh
        have a0 : 0 ≤ a := by omega
        clear e1 e2
        by_cases hkn : k < s.size
        · rw [drop_cons s k hkn] at hdec
          have hc256 : (s[k]).toNat < 256 := (s[k]).toNat_lt
          have hp := pow16 (k - 2) (by omega)
          have icut : a < 1152921504606846976 := by omega
          cases hhex : hexB s[k]
          · rw [hexR_bad _ _ _ hhex] at hdec
            obtain ⟨n1, n2⟩ := hex_bad_cases _ hhex
            have HD := Lib.hid hdec
            clear hdec hhex ha hacc hp
            have hx : ((s[k]).toNat : Int) < 48 ∨ (57 < ((s[k]).toNat : Int) ∧ ((s[k]).toNat : Int) < 97) ∨ 102 < ((s[k]).toNat : Int) := by omega
            clear n1 n2
            rcases hx with hx | ⟨hx, hx2⟩ | hx
            all_goals
              go_wp2
              go_ret2
              exact ⟨by rw [← HD.out]; rfl, rfl⟩
          · rw [hexR_good _ _ _ hhex] at hdec
            have hpow : 16 ^ (k + 1 - 2) = 16 ^ (k - 2) * 16 := by rw [show k + 1 - 2 = (k - 2) + 1 by omega, Nat.pow_succ]
            rcases hex_cases _ hhex with ⟨hd0, hd1, hv⟩ | ⟨hd0, hd1, hv⟩
            · have HN : Hid (16 * a + (((s[k]).toNat : Int) - 48) = ((16 * acc + hexV s[k] : Nat) : Int) ∧ 16 * acc + hexV s[k] < 16 ^ (k + 1 - 2) ∧ hexR (16 * acc + hexV s[k]) (s.data.toList.drop (k + 1)) = R) := Lib.hid ⟨by omega, by omega, hdec⟩
              clear hacc hdec ha hp hv hhex hpow
              go_wp2
              go_round
              case rel => exact ⟨k + 1, _, 16 * a + (((s[k]).toNat : Int) - 48), (by first | rfl | (congr 1; omega)), (by first | rfl | (congr 1; omega)), by omega, by omega, HN⟩
              case measure => simp [intOf]; omega
            · have HN : Hid (16 * a + (((s[k]).toNat : Int) - 87) = ((16 * acc + hexV s[k] : Nat) : Int) ∧ 16 * acc + hexV s[k] < 16 ^ (k + 1 - 2) ∧ hexR (16 * acc + hexV s[k]) (s.data.toList.drop (k + 1)) = R) := Lib.hid ⟨by omega, by omega, hdec⟩
              clear hacc hdec ha hp hv hhex hpow
              go_wp2
              go_round
              case rel => exact ⟨k + 1, _, 16 * a + (((s[k]).toNat : Int) - 87), (by first | rfl | (congr 1; omega)), (by first | rfl | (congr 1; omega)), by omega, by omega, HN⟩
              case measure => simp [intOf]; omega
        · have hkk : k = s.size := by omega
          subst hkk
          rw [List.drop_of_length_le (by simp)] at hdec
          have HD : Hid ((a, true) = R) := by show _ = _; rw [← hdec, ha]; rfl
          clear hacc hdec ha
          go_wp2
          go_ret2
          exact ⟨by rw [← HD.out]; rfl, rfl⟩

theorem rnum_hex (s : ByteArray) (h1 : 1 < s.size) (h48 : s[0] = 48) (h120 : s[1] = 120) : (if 3 ≤ s.size ∧ s.size ≤ 18 then hexR 0 (s.data.toList.drop 2) else (0, false)) = numR s.data.toList := by
  rw [numR_hex ((two_bytes s).2 ⟨h1, h48, h120⟩)]
  have hl : (s.data.toList.drop 2).length = s.size - 2 := by simp
  rw [hl]
  unfold hexR
  by_cases h : 3 ≤ s.size ∧ s.size ≤ 18
  · rw [if_pos h]
    by_cases ha : (s.data.toList.drop 2).all hexB = true
    · rw [if_pos ha, if_pos ⟨by omega, by omega, ha⟩]
    · rw [if_neg ha, if_neg (fun h' => ha h'.2.2)]
  · rw [if_neg h, if_neg (by omega)]

theorem rnum_dec (s : ByteArray) (hp : Lib.hasPrefix s.data.toList [48, 120] = false) : numR s.data.toList = if h : 1 ≤ s.size ∧ s.size ≤ 20 then (if 1 < s.size ∧ s[0] = 48 then (0, false) else decR 0 s.data.toList) else (0, false) := by
  rw [numR_dec hp]
  have hl : s.data.toList.length = s.size := by simp
  rw [hl]
  by_cases h1 : 1 ≤ s.size
  · have h0 := drop_cons s 0 (by omega)
    rw [List.drop_zero] at h0
    have hh : s.data.toList.head? = some s[0] := by rw [h0]; rfl
    rw [hh]
    by_cases h20 : s.size ≤ 20
    · rw [dif_pos ⟨h1, h20⟩]
      by_cases h48 : 1 < s.size ∧ s[0] = 48
      · rw [if_pos h48, if_neg (by rw [h48.2]; simp; omega)]
      · rw [if_neg h48]
        unfold decR
        by_cases ha : s.data.toList.all digitB = true ∧ valL 10 digV 0 s.data.toList < 18446744073709551616
        · rw [if_pos ha, if_pos ⟨h1, fun h => h48 ⟨h.1, Option.some.inj h.2⟩, ha⟩]
        · rw [if_neg ha, if_neg (fun h => ha h.2.2)]
    · rw [dif_neg (by omega), if_neg]
      rintro ⟨_, h2, h3, h4⟩
      rw [h0, List.all_cons, Bool.and_eq_true] at h3
      have hne : s[0] ≠ 48 := fun e => h2 ⟨by omega, by rw [e]⟩
      have := dec_long s[0] (s.data.toList.drop (0 + 1)) hne (by simp; omega) h3.1
      rw [h0] at h4
      omega
  · rw [dif_neg (by omega), if_neg (by omega)]

set_option maxHeartbeats 16000000 in
set_option maxRecDepth 100000 in
theorem rnumber_loop (s : ByteArray) (w : World) (hs : s.size ≤ 2 ^ 63 - 1) (hpos : 1 ≤ s.size) (h20' : s.size ≤ 20) (R : Int × Bool) (hR : decR 0 s.data.toList = R)
    (hx : (s.size = 1 ∧ (((s[0]).toNat : Int) == 48) = true) ∨ (((s[0]).toNat : Int) == 48) = false) :
    Calls Tryd.prog 11 #[.string s] w fun e w' => e = .returned (.tuple #[.int .u64 R.1, .bool R.2]) ∧ w = w' := by
  have HR := Lib.hid hR; clear hR
  have hy : (s.size = 1 ∧ (((s[0]).toNat : Int) == 48) = true) ∨ (s.size = 1 ∧ (((s[0]).toNat : Int) == 48) = false) ∨ (2 ≤ (s.size : Int) ∧ (((s[0]).toNat : Int) == 48) = false) := by
    rcases hx with h | h
    · exact .inl h
    · by_cases h1 : s.size = 1
      · exact .inr (.inl ⟨h1, h⟩)
      · exact .inr (.inr ⟨by omega, h⟩)
  clear hx
  rcases hy with ⟨h1, e1⟩ | ⟨h1, e1⟩ | ⟨h1, e1⟩
  case' inl => have h2 : (s.size : Int) < 2 := by omega
  case' inl => have h3 : (s.size : Int) ≤ 1 := by omega
  case' inl => have h4 : (1 : Int) ≤ (s.size : Int) := by omega
  case' inr.inl => have h2 : (s.size : Int) < 2 := by omega
  case' inr.inl => have h3 : (s.size : Int) ≤ 1 := by omega
  case' inr.inl => have h4 : (1 : Int) ≤ (s.size : Int) := by omega
  case' inl => clear h1
  case' inr.inl => clear h1
  all_goals
    go_enter Tryd.func11, Tryd.ntmps11
    go_wp2
    go_loop [7, 8] (fun vn vi => ∃ (k acc : Nat) (a : Int), vn = .int .u64 a ∧ vi = .int .i64 k ∧ k ≤ s.size ∧ Hid (a = (acc : Int) ∧ acc < 18446744073709551616 ∧ decR acc (s.data.toList.drop k) = R)) (fun _ vi => s.size - (intOf vi).toNat)
    case atStart => exact ⟨0, 0, 0, rfl, rfl, by omega, rfl, by omega, HR.out⟩
    case round =>
      clear HR
      obtain ⟨k, acc, a, rfl, rfl, hk, hh⟩ := hrel
      obtain ⟨ha, hacc, hdec⟩ := hh.out
      clear hh
      have a0 : 0 ≤ a := by omega
      have a1 : a < 18446744073709551616 := by omega
      try clear h48
      try clear e1
      by_cases hkn : k < s.size
      · rw [drop_cons s k hkn] at hdec
        have hc256 : (s[k]).toNat < 256 := (s[k]).toNat_lt
        cases hd : digitB s[k]
        · rw [decR_bad _ _ _ hd] at hdec
          have HD := Lib.hid hdec; have Hd := Lib.hid hd
          clear hdec hd ha hacc
          go_wp2_with (go_at_call 30; refine (rdigit_any _ _).mono ?_; rintro e w' ⟨rfl, rfl⟩; rw [Hd.out])
          go_ret2
          exact ⟨by rw [← HD.out]; rfl, rfl⟩
        · rw [decR_good _ _ _ hd] at hdec
          obtain ⟨d0, d1⟩ := digit_bounds hd
          have hv : digV s[k] = (s[k]).toNat - 48 := rfl
          have Hd := Lib.hid hd; clear hd
          by_cases hov : 18446744073709551616 ≤ 10 * acc + digV s[k]
          · rw [decR_big _ _ hov] at hdec
            have HD := Lib.hid hdec
            have hx : 1844674407370955161 < a ∨ (a ≤ 1844674407370955161 ∧ (a == 1844674407370955161) = true ∧ 5 < ((s[k]).toNat : Int) - 48) := by
              rw [beq_iff_eq]; omega
            clear hdec ha hacc hov hv
            rcases hx with hx | ⟨hx1, hx, hx2⟩
            all_goals
              go_wp2_with (go_at_call 30; refine (rdigit_any _ _).mono ?_; rintro e w' ⟨rfl, rfl⟩; rw [Hd.out])
              go_ret2
              exact ⟨by rw [← HD.out]; rfl, rfl⟩
          · have HN : Hid (10 * a + (((s[k]).toNat : Int) - 48) = ((10 * acc + digV s[k] : Nat) : Int) ∧ 10 * acc + digV s[k] < 18446744073709551616 ∧ decR (10 * acc + digV s[k]) (s.data.toList.drop (k + 1)) = R) := Lib.hid ⟨by omega, by omega, hdec⟩
            have hx : a ≤ 1844674407370955161 ∧ ((a == 1844674407370955161) = false ∨ ((a == 1844674407370955161) = true ∧ ((s[k]).toNat : Int) - 48 ≤ 5)) := by
              rw [beq_iff_eq, beq_eq_false_iff_ne]; omega
            have iov : 10 * a + (((s[k]).toNat : Int) - 48) < 18446744073709551616 := by omega
            clear hacc hdec ha hov hv
            obtain ⟨hx1, hx | ⟨hx, hx2⟩⟩ := hx
            all_goals
              go_wp2_with (go_at_call 30; refine (rdigit_any _ _).mono ?_; rintro e w' ⟨rfl, rfl⟩; rw [Hd.out])
              go_round
              case rel => exact ⟨k + 1, _, 10 * a + (((s[k]).toNat : Int) - 48), (by first | rfl | (congr 1; omega)), (by first | rfl | (congr 1; omega)), by omega, HN⟩
              case measure => simp [intOf]; omega
      · have hkk : k = s.size := by omega
        subst hkk
        rw [List.drop_of_length_le (by simp)] at hdec
        have HD : Hid ((a, true) = R) := by
          show _ = _; rw [← hdec, ha]; unfold decR; rw [if_pos ⟨rfl, by simpa [valL] using hacc⟩]; rfl
        clear hacc hdec ha
        go_wp2
        go_ret2
        exact ⟨by rw [← HD.out]; rfl, rfl⟩

set_option maxHeartbeats 16000000 in
set_option maxRecDepth 100000 in
theorem rnumber_dec (s : ByteArray) (w : World) (hs : s.size ≤ maxLen) (hp : Lib.hasPrefix s.data.toList [48, 120] = false) :
    Calls Tryd.prog 11 #[.string s] w fun e w' => e = .returned (.tuple #[.int .u64 (numR s.data.toList).1, .bool (numR s.data.toList).2]) ∧ w = w' := by
  unfold maxLen at hs
  rw [rnum_dec s hp]
  have hnot : ¬ ∃ h : 1 < s.size, s[0] = 48 ∧ s[1] = 120 := fun h => by rw [(two_bytes s).2 h] at hp; exact Bool.noConfusion hp
  have hcs : s.size = 0 ∨ s.size = 1 ∨ (∃ h : 1 < s.size, (((s[0]).toNat : Int) == 48) = false) ∨ (∃ h : 1 < s.size, (((s[0]).toNat : Int) == 48) = true ∧ (((s[1]).toNat : Int) == 120) = false) := by
    by_cases h : 1 < s.size
    · by_cases h48 : s[0] = 48
      · right; right; right
        refine ⟨h, by rw [h48]; rfl, ?_⟩
        rw [beq_eq_false_iff_ne]; intro e
        exact hnot ⟨h, h48, by rw [← UInt8.toNat_inj]; show _ = 120; omega⟩
      · right; right; left
        refine ⟨h, ?_⟩
        rw [beq_eq_false_iff_ne]; intro e
        exact h48 (by rw [← UInt8.toNat_inj]; show _ = 48; omega)
    · omega
  clear hnot hp
  rcases hcs with h0 | h1
  · rw [dif_neg (by omega)]
    have h2 : (s.size : Int) < 1 := by omega
    clear h0
    go_enter Tryd.func11, Tryd.ntmps11
    go_wp2
    go_ret2
    exact ⟨rfl, rfl⟩
  · have hpos : 1 ≤ s.size := by rcases h1 with h1 | ⟨h1, _⟩ | ⟨h1, _⟩ <;> omega
    by_cases h20 : 20 < s.size
    · rw [dif_neg (by omega)]
      rcases h1 with h1 | ⟨h1, e1⟩ | ⟨h1, e1, e2⟩
      · exfalso; omega
      all_goals
        go_enter Tryd.func11, Tryd.ntmps11
        go_wp2
        go_ret2
        exact ⟨rfl, rfl⟩
    · have h20' : s.size ≤ 20 := by omega
      rw [dif_pos ⟨hpos, h20'⟩]
      clear h20
      rcases h1 with h1 | ⟨h1, e1⟩ | ⟨h1, e1, e2⟩
      case inr.inr =>
        have h48 : s[0] = 48 := by
          have e3 := beq_iff_eq.1 e1
          have e4 : (s[0]).toNat = 48 := by omega
          rw [← UInt8.toNat_inj]; exact e4
        rw [if_pos ⟨h1, h48⟩]
        clear h48
        go_enter Tryd.func11, Tryd.ntmps11
        go_wp2
        go_ret2
        exact ⟨rfl, rfl⟩
      · have hn : ¬ (1 < s.size ∧ s[0] = 48) := fun h => by omega
        rw [if_neg hn]
        clear hn
        generalize hR : decR 0 s.data.toList = R
        by_cases h48 : (((s[0]).toNat : Int) == 48) = true
        · exact rnumber_loop s w hs hpos h20' R hR (.inl ⟨h1, h48⟩)
        · rw [Bool.not_eq_true] at h48
          exact rnumber_loop s w hs hpos h20' R hR (.inr h48)
      · have hn : ¬ (1 < s.size ∧ s[0] = 48) := fun h => by rw [h.2] at e1; exact absurd e1 (by decide)
        rw [if_neg hn]
        clear hn
        generalize hR : decR 0 s.data.toList = R
        exact rnumber_loop s w hs hpos h20' R hR (.inr e1)

theorem rnumber_any (s : ByteArray) (w : World) (hs : s.size ≤ maxLen) :
    Calls Tryd.prog 11 #[.string s] w fun e w' => e = .returned (.tuple #[.int .u64 (numR s.data.toList).1, .bool (numR s.data.toList).2]) ∧ w = w' := by
  cases hp : Lib.hasPrefix s.data.toList [48, 120]
  · exact rnumber_dec s w hs hp
  · obtain ⟨h1, h48, h120⟩ := (two_bytes s).1 hp
    rw [← rnum_hex s h1 h48 h120]
    exact rnumber_hex s w hs h1 h48 h120
end Go.Proofs.YtlmopoipjolbgaaDoor.LexW
