/-
  The walks of layer 5 (lex), third part: signs and words.
-/
import Derived.Test.YtlmopoipjolbgaaDoorLexW2
namespace Go.Proofs.YtlmopoipjolbgaaDoor.LexW
open Go.RowKit Go.Shelf Go.Proofs.YtlmopoipjolbgaaDoor.LexS
set_option linter.unusedVariables false
set_option linter.unusedSimpArgs false

def two (b1 b2 b3 b4 : Bool) (n : Int) : Int := if b1 || b2 || b3 || b4 then 2 else if 0 ≤ n then 1 else 0
theorem sign_two (l : List UInt8) (c : UInt8) (r : List UInt8) (h : l = c :: r) :
    (signL l : Int) = two (Lib.hasPrefix l [61, 61]) (Lib.hasPrefix l [33, 61]) (Lib.hasPrefix l [60, 61]) (Lib.hasPrefix l [62, 61]) (Lib.indexByte [59, 44, 40, 41, 38, 60, 62] c) := by
  subst h
  have hx : (decide (0 ≤ Lib.indexByte [59, 44, 40, 41, 38, 60, 62] c)) = (c == 59 || c == 44 || c == 40 || c == 41 || c == 38 || c == 60 || c == 62) := by
    simp only [Lib.indexByte]
    by_cases e1 : c = 59
    · subst e1; rfl
    by_cases e2 : c = 44
    · subst e2; rfl
    by_cases e3 : c = 40
    · subst e3; rfl
    by_cases e4 : c = 41
    · subst e4; rfl
    by_cases e5 : c = 38
    · subst e5; rfl
    by_cases e6 : c = 60
    · subst e6; rfl
    by_cases e7 : c = 62
    · subst e7; rfl
    have f1 : ((59 : UInt8) == c) = false := by simpa using Ne.symm e1
    have f2 : ((44 : UInt8) == c) = false := by simpa using Ne.symm e2
    have f3 : ((40 : UInt8) == c) = false := by simpa using Ne.symm e3
    have f4 : ((41 : UInt8) == c) = false := by simpa using Ne.symm e4
    have f5 : ((38 : UInt8) == c) = false := by simpa using Ne.symm e5
    have f6 : ((60 : UInt8) == c) = false := by simpa using Ne.symm e6
    have f7 : ((62 : UInt8) == c) = false := by simpa using Ne.symm e7
    simp [f1, f2, f3, f4, f5, f6, f7, e1, e2, e3, e4, e5, e6, e7]
  have hp : ∀ a : UInt8, Lib.hasPrefix (c :: r) [a, 61] = (c == a && (r.head? == some 61)) := by
    intro a
    unfold Lib.hasPrefix
    cases r with
    | nil => simp [List.isPrefixOf]
    | cons d r =>
      show (a == c && (61 == d && true)) = (c == a && (some d == some 61))
      by_cases h1 : a = c
      · subst h1
        by_cases h2 : d = 61
        · subst h2; simp
        · have h3 : ((61 : UInt8) == d) = false := by simpa using Ne.symm h2
          have h4 : (some d == some (61 : UInt8)) = false := by simpa using h2
          rw [h3, h4]; simp
      · have h3 : (a == c) = false := by simpa using h1
        have h4 : (c == a) = false := by simpa using Ne.symm h1
        rw [h3, h4]; simp
  unfold two
  simp only [signL]
  rw [hp, hp, hp, hp]
  have e : (c == 61 && (r.head? == some 61) || c == 33 && (r.head? == some 61) || c == 60 && (r.head? == some 61) || c == 62 && (r.head? == some 61)) = ((c == 61 || c == 33 || c == 60 || c == 62) && r.head? == some 61) := by
    cases (r.head? == some 61) <;> simp
  rw [e]
  have hy : (0 ≤ Lib.indexByte [59, 44, 40, 41, 38, 60, 62] c) ↔ (c == 59 || c == 44 || c == 40 || c == 41 || c == 38 || c == 60 || c == 62) = true := by
    rw [← hx]; simp
  split
  · rfl
  · by_cases hz : (c == 59 || c == 44 || c == 40 || c == 41 || c == 38 || c == 60 || c == 62) = true
    · rw [if_pos hz, if_pos (hy.2 hz)]; rfl
    · rw [if_neg hz, if_neg (fun h => hz (hy.1 h))]; rfl

set_option maxHeartbeats 1000000 in
theorem sign_any (t : ByteArray) (w : World) (h0 : 0 < t.size) :
    Calls Tryd.prog 38 #[.string t] w fun e w' => e = .returned (.int .i64 (signL t.data.toList)) ∧ w = w' := by
  have hc : t.data.toList = t[0] :: t.data.toList.drop 1 := by
    have := drop_cons t 0 h0; simpa using this
  rw [sign_two _ _ _ hc]
  have hb := byte_back t[0]
  generalize hc0 : t[0] = c0 at *
  generalize g1 : Lib.hasPrefix t.data.toList [61, 61] = b1
  generalize g2 : Lib.hasPrefix t.data.toList [33, 61] = b2
  generalize g3 : Lib.hasPrefix t.data.toList [60, 61] = b3
  generalize g4 : Lib.hasPrefix t.data.toList [62, 61] = b4
  generalize g5 : Lib.indexByte [59, 44, 40, 41, 38, 60, 62] c0 = n
  have G1 := Lib.hid g1; have G2 := Lib.hid g2; have G3 := Lib.hid g3; have G4 := Lib.hid g4; have G5 := Lib.hid g5
  have Hb := Lib.hid hb; have HC := Lib.hid hc; have HC0 := Lib.hid hc0
  clear g1 g2 g3 g4 g5 hb hc hc0
  cases b1
  · cases b2
    · cases b3
      · cases b4
        · by_cases h5 : 0 ≤ n
          all_goals
            go_enter Tryd.func38, Tryd.ntmps38
            go_wp2_with fail
            refine (Tryd.strings_HasPrefix _ _ _).mono ?_; rintro e w' ⟨rfl, rfl⟩; rw [show Lib.hasPrefix t.data.toList _ = false from G1.out]
            go_wp2_with fail
            refine (Tryd.strings_HasPrefix _ _ _).mono ?_; rintro e w' ⟨rfl, rfl⟩; rw [show Lib.hasPrefix t.data.toList _ = false from G2.out]
            go_wp2_with fail
            refine (Tryd.strings_HasPrefix _ _ _).mono ?_; rintro e w' ⟨rfl, rfl⟩; rw [show Lib.hasPrefix t.data.toList _ = false from G3.out]
            go_wp2_with fail
            refine (Tryd.strings_HasPrefix _ _ _).mono ?_; rintro e w' ⟨rfl, rfl⟩; rw [show Lib.hasPrefix t.data.toList _ = false from G4.out]
            go_wp2_with fail
            rw [HC0.out]
            refine (Tryd.strings_IndexByte _ _ _).mono ?_; rintro e w' ⟨rfl, rfl⟩; rw [Hb.out, show Lib.indexByte _ c0 = n from G5.out]
            go_wp2
            go_ret
            exact ⟨ret_int (by simp [two, h5]), rfl⟩
        · go_enter Tryd.func38, Tryd.ntmps38
          go_wp2_with fail
          refine (Tryd.strings_HasPrefix _ _ _).mono ?_; rintro e w' ⟨rfl, rfl⟩; rw [show Lib.hasPrefix t.data.toList _ = false from G1.out]
          go_wp2_with fail
          refine (Tryd.strings_HasPrefix _ _ _).mono ?_; rintro e w' ⟨rfl, rfl⟩; rw [show Lib.hasPrefix t.data.toList _ = false from G2.out]
          go_wp2_with fail
          refine (Tryd.strings_HasPrefix _ _ _).mono ?_; rintro e w' ⟨rfl, rfl⟩; rw [show Lib.hasPrefix t.data.toList _ = false from G3.out]
          go_wp2_with fail
          refine (Tryd.strings_HasPrefix _ _ _).mono ?_; rintro e w' ⟨rfl, rfl⟩; rw [show Lib.hasPrefix t.data.toList _ = true from G4.out]
          go_wp2
          go_ret
          exact ⟨ret_int (by simp [two]), rfl⟩
      · go_enter Tryd.func38, Tryd.ntmps38
        go_wp2_with fail
        refine (Tryd.strings_HasPrefix _ _ _).mono ?_; rintro e w' ⟨rfl, rfl⟩; rw [show Lib.hasPrefix t.data.toList _ = false from G1.out]
        go_wp2_with fail
        refine (Tryd.strings_HasPrefix _ _ _).mono ?_; rintro e w' ⟨rfl, rfl⟩; rw [show Lib.hasPrefix t.data.toList _ = false from G2.out]
        go_wp2_with fail
        refine (Tryd.strings_HasPrefix _ _ _).mono ?_; rintro e w' ⟨rfl, rfl⟩; rw [show Lib.hasPrefix t.data.toList _ = true from G3.out]
        go_wp2
        go_ret
        exact ⟨ret_int (by simp [two]), rfl⟩
    · go_enter Tryd.func38, Tryd.ntmps38
      go_wp2_with fail
      refine (Tryd.strings_HasPrefix _ _ _).mono ?_; rintro e w' ⟨rfl, rfl⟩; rw [show Lib.hasPrefix t.data.toList _ = false from G1.out]
      go_wp2_with fail
      refine (Tryd.strings_HasPrefix _ _ _).mono ?_; rintro e w' ⟨rfl, rfl⟩; rw [show Lib.hasPrefix t.data.toList _ = true from G2.out]
      go_wp2
      go_ret
      exact ⟨ret_int (by simp [two]), rfl⟩
  · go_enter Tryd.func38, Tryd.ntmps38
    go_wp2_with fail
    refine (Tryd.strings_HasPrefix _ _ _).mono ?_; rintro e w' ⟨rfl, rfl⟩; rw [show Lib.hasPrefix t.data.toList _ = true from G1.out]
    go_wp2
    go_ret
    exact ⟨ret_int (by simp [two]), rfl⟩

theorem empty_yes {s : ByteArray} (h : s.size = 0) : s.toList = [] := by
  rw [ByteArray.toList_eq]
  apply List.eq_nil_of_length_eq_zero
  simpa using h
theorem empty_no {s : ByteArray} (h : 0 < s.size) : s.toList.isEmpty = false := by
  rw [ByteArray.toList_eq]
  have : s.data.toList.length = s.size := by simp
  cases hl : s.data.toList with
  | nil => rw [hl] at this; simp at this; omega
  | cons c r => rfl
theorem word_yes (s : ByteArray) (h : 0 < s.size) (h32 : s.size ≤ 32) : wordL s.data.toList = (letterB s[0] && (whileN wordB s 0 == s.size)) := by
  have hc : s.data.toList = s[0] :: s.data.toList.drop 1 := by
    have := drop_cons s 0 h; simpa using this
  have hl : s.data.toList.length = s.size := by simp
  have hh : s.data.toList.head? = some s[0] := by rw [hc]; rfl
  have hall : (s.data.toList.all wordB = true) ↔ (whileN wordB s 0 = s.size) := by
    unfold whileN
    rw [List.drop_zero, ← hl]
    generalize s.data.toList = l
    induction l with
    | nil => simp
    | cons c r ih => cases hp : wordB c <;> simp [hp] at ih ⊢; omega
  unfold wordL
  rw [Bool.eq_iff_iff]
  simp only [decide_eq_true_eq, Bool.and_eq_true, beq_iff_eq, hh, hl, hall]
  constructor
  · rintro ⟨_, _, ⟨c, hc, h3⟩, h4⟩
    obtain rfl := Option.some.inj hc
    exact ⟨h3, h4⟩
  · rintro ⟨h3, h4⟩
    exact ⟨h, h32, ⟨_, rfl, h3⟩, h4⟩
theorem word_no (s : ByteArray) (h : s.size = 0 ∨ 32 < s.size) : wordL s.data.toList = false := by
  have hl : s.data.toList.length = s.size := by simp
  unfold wordL
  rw [decide_eq_false_iff_not, hl]
  omega

set_option maxHeartbeats 1000000 in
theorem word_any (s : ByteArray) (w : World) (hs : s.size ≤ maxLen) :
    Calls Tryd.prog 12 #[.string s] w fun e w' => e = .returned (.bool (wordL s.data.toList)) ∧ w = w' := by
  by_cases h0 : s.size = 0
  · rw [word_no s (.inl h0)]
    have he := empty_yes h0
    clear h0
    go_enter Tryd.func12, Tryd.ntmps12
    go_wp2
    go_ret
    exact ⟨rfl, rfl⟩
  · have hp : 0 < s.size := by omega
    clear h0
    have he := empty_no hp
    by_cases h32 : 32 < s.size
    · rw [word_no s (.inr h32)]
      go_enter Tryd.func12, Tryd.ntmps12
      go_wp2
      go_ret
      exact ⟨rfl, rfl⟩
    · have h33 : s.size ≤ 32 := by omega
      clear h32
      rw [word_yes s hp h33]
      cases hb : letterB s[0]
      · have HB := Lib.hid hb; clear hb
        go_enter Tryd.func12, Tryd.ntmps12
        go_wp2_with fail
        refine (letter_any _ _).mono ?_; rintro e w' ⟨rfl, rfl⟩; rw [HB.out]
        go_wp2
        go_ret
        exact ⟨rfl, rfl⟩
      · have HB := Lib.hid hb; clear hb
        generalize hm : whileN wordB s 0 = m
        have HM := Lib.hid hm; clear hm
        go_enter Tryd.func12, Tryd.ntmps12
        go_wp2_with fail
        refine (letter_any _ _).mono ?_; rintro e w' ⟨rfl, rfl⟩; rw [HB.out]
        go_wp2_with fail
        refine (run_any _ 0 _ hs (Nat.zero_le _)).mono ?_; rintro e w' ⟨rfl, rfl⟩; rw [HM.out]
        go_wp2
        go_ret
        exact ⟨ret_bool (by rw [Bool.eq_iff_iff]; simp; omega), rfl⟩
end Go.Proofs.YtlmopoipjolbgaaDoor.LexW
