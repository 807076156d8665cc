/-
  The walks of layer 5 (lex), sixth part: strconv.ParseUint at base 16, at no more than sixteen digits.
-/
import Derived.Test.YtlmopoipjolbgaaDoorLexW5
import Derived.Lib.ConvBytes
import Derived.Lib.AtoiAllMem
import Derived.BigCall
import Derived.BigGuard
namespace Go.Proofs.YtlmopoipjolbgaaDoor.LexW
open Go.RowKit Go.Shelf Go.Proofs.YtlmopoipjolbgaaDoor.LexS
set_option linter.unusedVariables false
set_option linter.unusedSimpArgs false

theorem hex_cases (c : UInt8) (h : hexB c = true) : (48 ≤ c.toNat ∧ c.toNat ≤ 57 ∧ hexV c = c.toNat - 48) ∨ (97 ≤ c.toNat ∧ c.toNat ≤ 102 ∧ hexV c = c.toNat - 87) := by
  unfold hexB digitB at h
  simp [UInt8.le_iff_toNat_le] at h
  unfold hexV
  simp only [UInt8.le_iff_toNat_le]
  rcases h with ⟨h1, h2⟩ | ⟨h1, h2⟩
  · left; exact ⟨h1, h2, by rw [if_pos (by simpa using h2)]⟩
  · right; exact ⟨h1, h2, by rw [if_neg (by simp; omega)]⟩

theorem or32 (n : Nat) (h1 : 97 ≤ n) (h2 : n ≤ 102) : bits .or .u8 (n : Int) 32 = (n : Int) := by
  have : n = 97 ∨ n = 98 ∨ n = 99 ∨ n = 100 ∨ n = 101 ∨ n = 102 := by omega
  rcases this with rfl | rfl | rfl | rfl | rfl | rfl <;> decide

theorem pow16 (k : Nat) (h : k ≤ 15) : 16 ^ k ≤ 1152921504606846976 := by
  calc 16 ^ k ≤ 16 ^ 15 := Nat.pow_le_pow_right (by omega) h
    _ = 1152921504606846976 := by decide

set_option maxHeartbeats 32000000 in
set_option maxRecDepth 100000 in
theorem inner_parse16 (t : ByteArray) (hne : t.size ≠ 0) (h16 : t.size ≤ 16) (hall : t.data.toList.all hexB = true) (w : World) :
    Calls Tryd.prog 48 #[.string t, .int .i64 16, .int .i64 64] w fun e w' => e = .returned (.tuple #[.int .u64 (valL 16 hexV 0 t.data.toList), .nilIface]) ∧ w' = Lib.bytesWorld w 5 t := by
  have hemp : t.toList.isEmpty = false := empty_no (by omega)
  have hcv := Lib.run_convert_string_bytes (P := Tryd.prog) w 9 41 5 t (u := .string) Tryd.underlying9 Tryd.underlying41 Tryd.underlying5
  have hB : ∀ j, j < t.size → (Lib.bytesWorld w 5 t).cell? ⟨w.heap.size, j, none⟩ = some (.int .u8 (t.data.toList.getD j 0).toNat) := fun j hj => Lib.bytesWorld_cell w 5 t j hj
  obtain ⟨W1, hW1⟩ : ∃ W1, W1 = Lib.bytesWorld w 5 t := ⟨_, rfl⟩
  rw [← hW1] at hcv hB ⊢
  clear hW1
  obtain ⟨bs, hL⟩ : ∃ bs, bs = t.data.toList := ⟨_, rfl⟩
  have hLn : bs.length = t.size := by rw [hL, Lib.size_eq]
  rw [← hL] at hB hall ⊢
  clear hL
  have hmv : IntKind.u64.wrap (IntKind.u64.wrap 18446744073709551616 - 1) = 18446744073709551615 := by
    rw [IntKind.wrap_u64, IntKind.wrap_u64]
    decide
  have HA := Lib.hid hall; clear hall
  go_enter Tryd.func48, Tryd.ntmps48
  go_wp2
  go_loop [12, 13, 101] (fun vu vn vi => ∃ (k acc : Nat) (a : Int), vu = .bool false ∧ vn = .int .u64 a ∧ vi = .int .i64 k ∧ k ≤ t.size ∧ Hid (a = (acc : Int) ∧ acc < 16 ^ k ∧ valL 16 hexV 0 bs = valL 16 hexV acc (bs.drop k)))
    (fun _ _ vi => t.size - (intOf vi).toNat)
  case atStart => exact ⟨0, 0, 0, rfl, rfl, rfl, by omega, rfl, by simp, rfl⟩
  case round =>
    obtain ⟨k, acc, a, rfl, rfl, rfl, hk, hh⟩ := hrel
    obtain ⟨ha, hacc, hdec⟩ := hh.out
    clear hh
    have a0 : 0 ≤ a := by omega
    by_cases hkn : k < t.size
    · have hc := hB k hkn
      have hdrop : bs.drop k = bs[k]'(by omega) :: bs.drop (k + 1) := List.drop_eq_getElem_cons (by omega)
      have hget : bs.getD k 0 = bs[k]'(by omega) := by simp [List.getD, List.getElem?_eq_getElem (show k < bs.length by omega)]
      have hhex : hexB (bs[k]'(by omega)) = true := List.all_eq_true.1 HA.out _ (List.getElem_mem _)
      rw [hdrop] at hdec
      rw [hget] at hc
      generalize bs[k]'(by omega) = c at hc hdec hhex
      have hc256 : c.toNat < 256 := c.toNat_lt
      have h1 := pow16 k (by omega)
      have icut : a < 1152921504606846976 := by omega
      clear hB hdrop hget
      rcases hex_cases c hhex with ⟨hd0, hd1, hv⟩ | ⟨hd0, hd1, hv⟩
      · have HN : Hid (a * 16 + ((c.toNat : Int) - 48) = ((16 * acc + hexV c : Nat) : Int) ∧ 16 * acc + hexV c < 16 ^ (k + 1) ∧ valL 16 hexV 0 bs = valL 16 hexV (16 * acc + hexV c) (bs.drop (k + 1))) := Lib.hid ⟨by omega, by rw [Nat.pow_succ]; omega, hdec.trans (by simp only [valL])⟩
        have iov : a * 16 + ((c.toNat : Int) - 48) < 18446744073709551616 := by omega
        clear hacc hdec ha h1 hv hhex
        go_wp2
        refine ⟨⟨k + 1, _, a * 16 + ((c.toNat : Int) - 48), rfl, (by first | rfl | (congr 1; omega)), (by first | rfl | (congr 1; omega)), by omega, HN⟩, by simp [intOf]; omega⟩
      · have HN : Hid (a * 16 + ((c.toNat : Int) - 87) = ((16 * acc + hexV c : Nat) : Int) ∧ 16 * acc + hexV c < 16 ^ (k + 1) ∧ valL 16 hexV 0 bs = valL 16 hexV (16 * acc + hexV c) (bs.drop (k + 1))) := Lib.hid ⟨by omega, by rw [Nat.pow_succ]; omega, hdec.trans (by simp only [valL])⟩
        have iov : a * 16 + ((c.toNat : Int) - 87) < 18446744073709551616 := by omega
        have HO := Lib.hid (or32 c.toNat hd0 hd1)
        clear hacc hdec ha h1 hv hhex
        go_wp2_with (go_at_call 74; refine (Tryd.internal_strconv_lower _ _).mono ?_; rintro e w' ⟨rfl, rfl⟩; rw [HO.out])
        refine ⟨⟨k + 1, _, a * 16 + ((c.toNat : Int) - 87), rfl, (by first | rfl | (congr 1; omega)), (by first | rfl | (congr 1; omega)), by omega, HN⟩, by simp [intOf]; omega⟩
    · have hkk : k = t.size := by omega
      subst hkk
      have hF : valL 16 hexV acc (bs.drop t.size) = acc := by rw [List.drop_eq_nil_of_le (by omega)]; rfl
      rw [hF] at hdec
      subst ha
      clear hacc hF a0
      have HD := Lib.hid hdec; clear hdec
      go_wp2
      go_ret2
      exact ⟨by rw [HD.out]; rfl, rfl⟩
end Go.Proofs.YtlmopoipjolbgaaDoor.LexW
