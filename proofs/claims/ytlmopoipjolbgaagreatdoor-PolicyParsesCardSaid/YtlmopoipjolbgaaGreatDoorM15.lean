/-
  Plain words of layer 5 (lex): the tokens' texts, written with one blank behind each, are cut into the same. · Layer 6 (policy), plain: the reference reads what the plain parser reads. · Layer 6 (policy), plain: the reference reads what the plain parser reads: the agreement. · Layer 6 (policy), plain: the agreement: expressions.
-/
import Derived.Test.YtlmopoipjolbgaaGreatDoorM09
import Derived.WideShapes
import Derived.Test.YtlmopoipjolbgaaGreatDoorM08
import Derived.Test.YtlmopoipjolbgaaGreatDoorM11
namespace Go.Proofs.YtlmopoipjolbgaaGreatDoor.LexW
open Go.RowKit Go.Shelf Go.Proofs.YtlmopoipjolbgaaGreatDoor.LexS Go.Proofs.YtlmopoipjolbgaaGreatDoorW.PrintWords
set_option linter.unusedVariables false
set_option linter.unusedSimpArgs false

theorem ext_list (s : ByteArray) (p q : Nat) : (s.extract p q).data.toList = (s.data.toList.drop p).take (q - p) := by
  rw [ByteArray.data_extract, Array.toList_extract]

theorem letter_facts {c : UInt8} (h : letterB c = true) : blankB c = false ∧ c ≠ 35 ∧ digitB c = false ∧ c ≠ 48 := by
  rw [letter_nat] at h
  simp only [Bool.or_eq_true, Bool.and_eq_true, decide_eq_true_eq] at h
  refine ⟨?_, ?_, ?_, ?_⟩
  · simp [blankB, ← UInt8.toNat_inj]; omega
  · intro e; rw [e] at h; simp at h
  · rw [digit_nat]; simp; omega
  · intro e; rw [e] at h; simp at h
theorem digit_facts {c : UInt8} (h : digitB c = true) : blankB c = false ∧ c ≠ 35 ∧ letterB c = false := by
  rw [digit_nat] at h
  simp only [Bool.and_eq_true, decide_eq_true_eq] at h
  refine ⟨?_, ?_, ?_⟩
  · simp [blankB, ← UInt8.toNat_inj]; omega
  · intro e; rw [e] at h; simp at h
  · rw [letter_nat]; simp; omega
theorem sign_facts {c : UInt8} {r : List UInt8} (h : signL (c :: r) ≠ 0) : blankB c = false ∧ c ≠ 35 := by
  have hc : c = 61 ∨ c = 33 ∨ c = 60 ∨ c = 62 ∨ c = 59 ∨ c = 44 ∨ c = 40 ∨ c = 41 ∨ c = 38 := by
    simp only [signL] at h
    split at h
    · rename_i h1; simp at h1; rcases h1.1 with ((h | h) | h) | h <;> simp [h]
    · split at h
      · rename_i h1; simp at h1; rcases h1 with (((((h | h) | h) | h) | h) | h) | h <;> simp [h]
      · exact absurd rfl h
  rcases hc with rfl | rfl | rfl | rfl | rfl | rfl | rfl | rfl | rfl <;> exact ⟨by decide, by decide⟩
theorem sign_again {c : UInt8} {r B : List UInt8} (h : signL (c :: r) ≠ 0) : signL ((c :: r).take (signL (c :: r)) ++ 32 :: B) = ((c :: r).take (signL (c :: r))).length := by
  by_cases h1 : ((c == 61 || c == 33 || c == 60 || c == 62) && r.head? == some 61) = true
  · have e : signL (c :: r) = 2 := by simp only [signL]; rw [if_pos h1]
    rw [Bool.and_eq_true] at h1
    cases r with
    | nil => simp at h1
    | cons d r =>
      have hd : d = 61 := by simpa using h1.2
      subst hd
      rw [e]
      show signL (c :: 61 :: 32 :: B) = 2
      simp only [signL]
      rw [if_pos (by rw [Bool.and_eq_true]; exact ⟨h1.1, by simp⟩)]
  · have e : signL (c :: r) = 1 := by
      simp only [signL] at h ⊢
      rw [if_neg h1] at h ⊢
      split at h
      · rename_i h2; rw [if_pos h2]
      · exact absurd rfl h
    have h2 : (c == 59 || c == 44 || c == 40 || c == 41 || c == 38 || c == 60 || c == 62) = true := by
      simp only [signL] at e
      rw [if_neg h1] at e
      split at e
      · rename_i h2; exact h2
      · cases e
    rw [e]
    show signL (c :: 32 :: B) = 1
    simp only [signL]
    rw [if_neg (by simp), if_pos h2]

/-- what a token's text is like -/
inductive TkLike : Tk → UInt8 → List UInt8 → Prop
  | word {t : Tk} {c : UInt8} {T : List UInt8} (hT : t.text.data.toList = c :: T) (hk : t.kind = 2) (hn : t.num = 0) (hc : letterB c = true) (hw : (c :: T).all wordB = true) (hl : (c :: T).length ≤ 32) : TkLike t c T
  | number {t : Tk} {c : UInt8} {T : List UInt8} (hT : t.text.data.toList = c :: T) (hk : t.kind = 3) (hc : digitB c = true) (hw : (c :: T).all wordB = true) (hr : (numR (c :: T)).2 = true) (hn : t.num = (numR (c :: T)).1) : TkLike t c T
  | sign {t : Tk} {c : UInt8} {T : List UInt8} (hT : t.text.data.toList = c :: T) (hk : t.kind = 4) (hn : t.num = 0) (hc : letterB c = false) (hd : digitB c = false) (hb : blankB c = false) (h35 : c ≠ 35) (hs : ∀ B, signL (c :: T ++ 32 :: B) = (c :: T).length) : TkLike t c T

theorem all_takeWhile (p : UInt8 → Bool) (l : List UInt8) : (l.takeWhile p).all p = true := by
  induction l with
  | nil => rfl
  | cons a l ih =>
    rw [List.takeWhile_cons]
    cases h : p a
    · rfl
    · simp [h, ih]
theorem take_takeWhile (p : UInt8 → Bool) (l : List UInt8) : l.take (l.takeWhile p).length = l.takeWhile p := by
  induction l with
  | nil => rfl
  | cons a l ih =>
    rw [List.takeWhile_cons]
    cases h : p a
    · rfl
    · simp [ih]
theorem extract_while (s : ByteArray) (p : Nat) : (s.extract p (whileN wordB s p)).data.toList = (s.data.toList.drop p).takeWhile wordB := by
  rw [ext_list]
  unfold whileN
  rw [Nat.add_sub_cancel_left]
  exact take_takeWhile _ _

theorem tok_like (s : ByteArray) (k : Nat) (h : errOf (nextV s k) = 0) (h1 : (nextV s k).1 ≠ 1) : ∃ c T, TkLike (tokOf (nextV s k)) c T := by
  unfold nextV at h h1 ⊢
  by_cases h2 : 65536 < s.size
  · rw [if_pos h2] at h; exact absurd h (by decide)
  rw [if_neg h2] at h h1 ⊢
  by_cases h3 : (k : Int) < 0 ∨ (s.size : Int) < (k : Int)
  · rw [if_pos h3] at h; exact absurd h (by decide)
  rw [if_neg h3] at h h1 ⊢
  rw [Int.toNat_natCast] at h h1 ⊢
  by_cases hp : beginN s k < s.size
  · rw [dif_pos hp] at h h1 ⊢
    generalize beginN s k = p at *
    have hdrop := drop_cons s p hp
    have hex := extract_while s p
    have hall := all_takeWhile wordB (s.data.toList.drop p)
    rw [← hex] at hall
    unfold tokV at h h1 ⊢
    by_cases hl : letterB s[p] = true
    · rw [if_pos hl] at h h1 ⊢
      have hwb : wordB s[p] = true := by unfold wordB; rw [hl]; rfl
      rw [hdrop, List.takeWhile_cons_of_pos hwb] at hex
      by_cases h32 : 32 < whileN wordB s p - p
      · rw [if_pos h32] at h; exact absurd (show (52 : Int) = 0 from h) (by decide)
      · rw [if_neg h32]
        refine ⟨_, _, TkLike.word hex rfl rfl hl (by rw [← hex]; exact hall) ?_⟩
        unfold whileN at h32
        rw [hdrop, List.takeWhile_cons_of_pos hwb] at h32
        omega
    · rw [if_neg hl] at h h1 ⊢
      by_cases hd : digitB s[p] = true
      · rw [if_pos hd] at h h1 ⊢
        have hwb : wordB s[p] = true := by unfold wordB; rw [hd]; simp
        rw [hdrop, List.takeWhile_cons_of_pos hwb] at hex
        by_cases hn : (numR (s.extract p (whileN wordB s p)).data.toList).2 = true
        · rw [if_pos hn]
          refine ⟨_, _, TkLike.number hex rfl hd (by rw [← hex]; exact hall) (by rw [← hex]; exact hn) (by rw [← hex]; rfl)⟩
        · rw [if_neg hn] at h; exact absurd (show (53 : Int) = 0 from h) (by decide)
      · rw [if_neg hd] at h h1 ⊢
        by_cases hz : signL (s.data.toList.drop p) = 0
        · rw [if_pos hz] at h; exact absurd (show (51 : Int) = 0 from h) (by decide)
        · rw [if_neg hz]
          have hxs : (s.extract p (p + signL (s.data.toList.drop p))).data.toList = (s.data.toList.drop p).take (signL (s.data.toList.drop p)) := by rw [ext_list, Nat.add_sub_cancel_left]
          rw [hdrop] at hz hxs
          obtain ⟨m, hm⟩ : ∃ m, signL (s[p] :: s.data.toList.drop (p + 1)) = m + 1 := ⟨signL (s[p] :: s.data.toList.drop (p + 1)) - 1, by omega⟩
          have hf := sign_facts hz
          have ha := fun B => sign_again (B := B) hz
          rw [hm] at ha
          rw [List.take_succ_cons] at ha
          refine ⟨s[p], (s.data.toList.drop (p + 1)).take m, TkLike.sign ?_ rfl rfl (by simpa using hl) (by simpa using hd) hf.1 hf.2 ha⟩
          show (s.extract p (p + signL (s.data.toList.drop p))).data.toList = _
          rw [hdrop, hxs, hm, List.take_succ_cons]
  · rw [dif_neg hp] at h1; exact absurd rfl h1

theorem num_letter {c : UInt8} {T : List UInt8} (hd : digitB c = false) : numR (c :: T) = (0, false) := by
  have h48 : c ≠ 48 := by intro e; rw [e] at hd; exact absurd hd (by decide)
  unfold numR numL
  rw [if_neg (by cases T <;> simp [h48]), if_neg (by rw [List.all_cons, hd]; simp)]
theorem word_no_letter {c : UInt8} {T : List UInt8} (h : letterB c = false) : wordL (c :: T) = false := by
  unfold wordL
  rw [decide_eq_false_iff_not]
  rintro ⟨_, _, ⟨d, hd, hl⟩, _⟩
  have : c = d := by simpa using hd
  rw [← this, h] at hl; cases hl
/-- what a token's text says of its kind -/
theorem tk_kinds {t : Tk} {c : UInt8} {T : List UInt8} (h : TkLike t c T) : t.kind ≠ 1 ∧ ((t.kind == 3) = (numR (c :: T)).2) ∧ ((numR (c :: T)).2 = true → (numR (c :: T)).1 = t.num) ∧ ((t.kind == 2) = wordL (c :: T)) := by
  cases h with
  | word hT hk hn hc hw hl =>
    rw [num_letter (letter_facts hc).2.2.1, hk]
    refine ⟨by decide, rfl, fun h => (by cases h), ?_⟩
    unfold wordL
    rw [decide_eq_true ⟨by simp, hl, ⟨c, rfl, hc⟩, hw⟩]; rfl
  | number hT hk hc hw hr hn =>
    rw [hk, hr, word_no_letter (digit_facts hc).2.2]
    exact ⟨by decide, rfl, fun _ => hn.symm, rfl⟩
  | sign hT hk hn hc hd hb h35 hs =>
    rw [num_letter hd, hk, word_no_letter hc]
    exact ⟨by decide, rfl, fun h => (by cases h), rfl⟩
theorem tk_text {t : Tk} {c : UInt8} {T : List UInt8} (h : TkLike t c T) : t.text.data.toList = c :: T ∧ blankB c = false ∧ c ≠ 35 := by
  cases h with
  | word hT hk hn hc hw hl => exact ⟨hT, (letter_facts hc).1, (letter_facts hc).2.1⟩
  | number hT hk hc hw hr hn => exact ⟨hT, (digit_facts hc).1, (digit_facts hc).2.1⟩
  | sign hT hk hn hc hd hb h35 hs => exact ⟨hT, hb, h35⟩
theorem take_word {c : UInt8} {T B : List UInt8} (h : (c :: T).all wordB = true) : (c :: T ++ 32 :: B).takeWhile wordB = c :: T := by
  rw [List.takeWhile_append_of_pos (fun x hx => List.all_eq_true.1 h x hx), List.takeWhile_cons_of_neg (by decide), List.append_nil]
theorem size_list (t : ByteArray) : t.size = t.data.toList.length := by simp
theorem text_of_list {a b : ByteArray} (h : a.data.toList = b.data.toList) : a = b := WideShapes.bytes_inj h

/-- the token is found again wherever its text stands, with a blank behind -/
theorem tok_again {t : Tk} {c : UInt8} {T : List UInt8} (h : TkLike t c T) {S : ByteArray} {p : Nat} {B : List UInt8} (hp : p < S.size) (hd : S.data.toList.drop p = c :: T ++ 32 :: B) :
    tokV S p (whileN wordB S p) S[p] = (t.kind, t.text, t.num, (p : Int), ((p + t.text.size : Nat) : Int), (0 : Int)) := by
  have hc0 : S[p] = c := by
    have := drop_cons S p hp
    rw [hd] at this
    simp at this
    exact this.1.symm
  have hlenw : (c :: T).all wordB = true → whileN wordB S p = p + (c :: T).length := fun hw => by
    unfold whileN; rw [hd, take_word hw]
  have hexw : (c :: T).all wordB = true → (S.extract p (whileN wordB S p)).data.toList = c :: T := fun hw => by
    rw [extract_while, hd, take_word hw]
  rw [hc0]
  cases h with
  | word hT hk hn hc hw hl =>
    have hex : S.extract p (whileN wordB S p) = t.text := text_of_list (by rw [hexw hw, hT])
    unfold tokV
    rw [if_pos hc, if_neg (by rw [hlenw hw]; omega), hex, hk, hn, size_list t.text, hT, hlenw hw]
  | number hT hk hc hw hr hn =>
    have hex : S.extract p (whileN wordB S p) = t.text := text_of_list (by rw [hexw hw, hT])
    unfold tokV
    rw [if_neg (by rw [(digit_facts hc).2.2]; decide), if_pos hc, hex, hT, if_pos hr, hk, hn, size_list t.text, hT, hlenw hw]
  | sign hT hk hn hc hd2 hb h35 hs =>
    have hex : S.extract p (p + (c :: T).length) = t.text := text_of_list (by rw [ext_list, hd, Nat.add_sub_cancel_left, hT]; simp)
    unfold tokV
    rw [if_neg (by rw [hc]; decide), if_neg (by rw [hd2]; decide), hd, hs B, if_neg (by simp), hex, hk, hn, size_list t.text, hT]
    push_cast
    rfl

/-- what is between two tokens of the text written anew -/
def gapOk (g : List UInt8) : Prop := g = [] ∨ g = [32]
theorem skip_gap {g : List UInt8} (hg : gapOk g) (l : List UInt8) : skipS false (g ++ l) = skipS false l := by
  rcases hg with rfl | rfl
  · rfl
  · show skipS false (32 :: l) = _
    rw [skipS, if_pos (by decide)]
theorem next_again {t : Tk} {c : UInt8} {T : List UInt8} (h : TkLike t c T) {S : ByteArray} {k : Nat} {g B : List UInt8} (hS : S.size ≤ 65536) (hg : gapOk g) (hd : S.data.toList.drop k = g ++ (c :: T ++ 32 :: B)) :
    nextV S (k : Int) = (t.kind, t.text, t.num, ((k + g.length : Nat) : Int), ((k + g.length + t.text.size : Nat) : Int), (0 : Int)) := by
  obtain ⟨hT, hb, h35⟩ := tk_text h
  have hlen := congrArg List.length hd
  simp only [List.length_drop, List.length_append, List.length_cons] at hlen
  have hsz : S.data.toList.length = S.size := by simp
  have hbeg : beginN S k = k + g.length := by
    unfold beginN
    rw [hd, skip_gap hg, List.cons_append, skipS, hb, if_neg (by simp), if_neg (by simpa using h35)]
    simp only [List.length_append, List.length_cons]
    omega
  have hp : k + g.length < S.size := by omega
  have hd2 : S.data.toList.drop (k + g.length) = c :: T ++ 32 :: B := by rw [← List.drop_drop, hd, List.drop_left]
  unfold nextV
  rw [if_neg (by omega), if_neg (by omega), Int.toNat_natCast]
  rw [dif_pos (by rw [hbeg]; exact hp)]
  have := tok_again h hp hd2
  simp only [hbeg]
  exact this

/-- where the tokens stand -/
inductive Stand (s : ByteArray) : Nat → List Tk → Prop
  | last {k : Nat} (hk : k ≤ s.size) : Stand s k [⟨1, nil0, 0, s.size⟩]
  | more {k p q : Nat} {t : Tk} {c : UInt8} {T : List UInt8} {l : List Tk} (hl : TkLike t c T) (h1 : k ≤ p) (h2 : p < q) (h3 : q ≤ s.size) (ht : t.text = s.extract p q) (ha : t.at_ = (p : Int)) (r : Stand s q l) : Stand s k (t :: l)

theorem stand_of (s : ByteArray) : ∀ (f k : Nat), s.size + 1 ≤ f + k → k ≤ s.size → (toksF f s k).2.1 = 0 → Stand s k (toksF f s k).1 := by
  intro f
  induction f with
  | zero => intro k h1 h2; omega
  | succ f ih =>
    intro k hf hk he
    by_cases h : errOf (nextV s k) = 0
    · obtain ⟨_, _, ⟨hend, _⟩ | ⟨p, q, _, hkp, hpq, hq, h1, htx, hat, hpl⟩⟩ := next_ok s k h
      · rw [toks_end h (by rw [hend]), hend]
        exact Stand.last hk
      · obtain ⟨c, T, hlike⟩ := tok_like s k h h1
        rw [toks_more h h1 hpl] at he ⊢
        exact Stand.more hlike hkp hpq hq htx hat (ih q (by omega) hq he)
    · rw [toks_err h] at he; exact absurd he h
theorem stand_toks {s : ByteArray} (he : (toks s).2.1 = 0) : Stand s 0 (toks s).1 := stand_of s (s.size + 2) 0 (by omega) (by omega) he

/-- the texts, one blank behind each -/
def joinL (l : List Tk) : List UInt8 := l.flatMap fun t => t.text.data.toList ++ [32]
def strip (t : Tk) : Int × ByteArray × Int := (t.kind, t.text, t.num)
theorem again_from {s : ByteArray} : ∀ {k : Nat} {l : List Tk}, Stand s k l → ∀ {S : ByteArray} {j : Nat} {g : List UInt8}, S.size ≤ 65536 → j ≤ S.size → gapOk g → S.data.toList.drop j = g ++ joinL l →
    (toksA S j).2.1 = 0 ∧ (toksA S j).1.map strip = l.map strip := by
  intro k l hst
  induction hst with
  | last hk =>
    intro S j g hS hj hg hd
    have hbeg : beginN S j = S.size := by
      unfold beginN
      rw [hd, skip_gap hg]
      show S.size - (skipS false [32]).length = _
      rfl
    have hn : nextV S (j : Int) = (1, nil0, 0, (S.size : Int), (S.size : Int), 0) := by
      unfold nextV
      rw [if_neg (by omega), if_neg (by omega), Int.toNat_natCast, dif_neg (by rw [hbeg]; omega)]
    rw [toksA_end (by rw [hn]) (by rw [hn]), hn]
    exact ⟨rfl, rfl⟩
  | @more k p q t c T l hl h1 h2 h3 ht ha r ih =>
    intro S j g hS hj hg hd
    obtain ⟨hT, _, _⟩ := tk_text hl
    have hd2 : S.data.toList.drop j = g ++ (c :: T ++ 32 :: joinL l) := by
      rw [hd]; show g ++ (t.text.data.toList ++ [32] ++ joinL l) = _; rw [hT]; simp
    have hn := next_again hl hS hg hd2
    have hlen := congrArg List.length hd2
    simp only [List.length_drop, List.length_append, List.length_cons] at hlen
    have hsz : S.data.toList.length = S.size := by simp
    have htl : t.text.size = T.length + 1 := by rw [size_list, hT]; rfl
    have hd3 : S.data.toList.drop (j + g.length + t.text.size) = [32] ++ joinL l := by
      rw [← List.drop_drop, ← List.drop_drop, hd2, List.drop_left, size_list, hT, List.drop_left]; rfl
    obtain ⟨e1, e2⟩ := ih hS (by omega) (.inr rfl) hd3
    rw [toksA_more (q := j + g.length + t.text.size) (by rw [hn]) (by rw [hn]; exact (tk_kinds hl).1) (by rw [hn]) (by omega)]
    refine ⟨e1, ?_⟩
    rw [List.map_cons, List.map_cons, e2, hn]
    rfl

/-- one token on -/
theorem stand_step {s : ByteArray} {k : Nat} {t : Tk} {l : List Tk} (h : Stand s k (t :: l)) : ∃ p : Nat, t.at_ = (p : Int) ∧ k ≤ p ∧ p + t.text.size ≤ s.size ∧ s.extract p (p + t.text.size) = t.text ∧ (t.text.size = 0 ↔ l = []) ∧
    ((t.kind == 3) = (numR t.text.data.toList).2) ∧ ((numR t.text.data.toList).2 = true → (numR t.text.data.toList).1 = t.num) ∧ ((t.kind == 2) = wordL t.text.data.toList) ∧ (l = [] ∨ Stand s (p + t.text.size) l) := by
  cases h with
  | last hk =>
    refine ⟨s.size, rfl, hk, Nat.le_refl _, ?_, ⟨fun _ => rfl, fun _ => rfl⟩, rfl, fun h => (by cases h), rfl, .inl rfl⟩
    exact text_of_list (by rw [ext_list]; simp; rfl)
  | @more _ p q _ c T _ hl h1 h2 h3 ht ha r =>
    obtain ⟨hT, _, _⟩ := tk_text hl
    obtain ⟨_, k3, kn, k2⟩ := tk_kinds hl
    have hsz : t.text.size = q - p := by rw [ht, ByteArray.size_extract]; omega
    have hq : p + t.text.size = q := by omega
    refine ⟨p, ha, h1, by rw [hq]; exact h3, by rw [hq]; exact ht.symm, ⟨fun h => by omega, fun h => ?_⟩, by rw [hT]; exact k3, by rw [hT]; exact kn, by rw [hT]; exact k2, .inr (by rw [hq]; exact r)⟩
    rw [h] at r; cases r
theorem stand_ne {s : ByteArray} {k : Nat} {l : List Tk} (h : Stand s k l) : l ≠ [] := by cases h <;> simp
theorem stand_last {s : ByteArray} {k : Nat} {l : List Tk} (h : Stand s k l) : l.getLast? = some ⟨1, nil0, 0, s.size⟩ := by
  induction h with
  | last => rfl
  | more _ _ _ _ _ _ r ih =>
    rw [List.getLast?_cons, ih]; rfl
theorem err_place (s : ByteArray) (k : Int) (h : errOf (nextV s k) ≠ 0) : 0 ≤ placeOf (nextV s k) ∧ placeOf (nextV s k) ≤ s.size := by
  unfold nextV at h ⊢
  by_cases h1 : 65536 < s.size
  · rw [if_pos h1]; exact ⟨by decide, by show (0 : Int) ≤ _; omega⟩
  rw [if_neg h1] at h ⊢
  by_cases h2 : k < 0 ∨ (s.size : Int) < k
  · rw [if_pos h2]; exact ⟨by decide, by show (0 : Int) ≤ _; omega⟩
  rw [if_neg h2] at h ⊢
  by_cases h3 : beginN s k.toNat < s.size
  · rw [dif_pos h3] at h ⊢
    unfold tokV at h ⊢
    split at h
    · rename_i hl
      rw [if_pos hl]
      split at h
      · rename_i h4; rw [if_pos h4]; exact ⟨by show (0 : Int) ≤ (beginN s k.toNat : Int); omega, by show (beginN s k.toNat : Int) ≤ _; omega⟩
      · exact absurd rfl h
    · rename_i hl
      rw [if_neg hl]
      split at h
      · rename_i hd
        rw [if_pos hd]
        split at h
        · exact absurd rfl h
        · rename_i h4; rw [if_neg h4]; exact ⟨by show (0 : Int) ≤ (beginN s k.toNat : Int); omega, by show (beginN s k.toNat : Int) ≤ _; omega⟩
      · rename_i hd
        rw [if_neg hd]
        split at h
        · rename_i h4; rw [if_pos h4]; exact ⟨by show (0 : Int) ≤ (beginN s k.toNat : Int); omega, by show (beginN s k.toNat : Int) ≤ _; omega⟩
        · exact absurd rfl h
  · rw [dif_neg h3] at h; exact absurd rfl h
theorem toksF_bound (s : ByteArray) : ∀ (f k : Nat), (toksF f s k).2.1 ≠ 0 → 0 ≤ (toksF f s k).2.2 ∧ (toksF f s k).2.2 ≤ s.size := by
  intro f
  induction f with
  | zero => intro k h; exact absurd rfl h
  | succ f ih =>
    intro k h
    by_cases he : errOf (nextV s k) = 0
    · obtain ⟨_, _, ⟨hend, _⟩ | ⟨p, q, _, hkp, hpq, hq, h1, _, _, hpl⟩⟩ := next_ok s k he
      · rw [toks_end he (by rw [hend])] at h; exact absurd rfl h
      · rw [toks_more he h1 hpl] at h ⊢
        exact ih q h
    · rw [toks_err he]; exact err_place s k he
end Go.Proofs.YtlmopoipjolbgaaGreatDoor.LexW
namespace Go.Proofs.YtlmopoipjolbgaaGreatDoor.LexW
open Go.RowKit Go.Shelf Go.Proofs.YtlmopoipjolbgaaGreatDoor.LexS Go.Proofs.YtlmopoipjolbgaaGreatDoorW.PrintWords
set_option linter.unusedVariables false
set_option linter.unusedSimpArgs false

/-- a token as lex cuts it: its text says its kind -/
def TkOk (t : Tk) : Prop := t.kind = 1 ∧ t.text = nil0 ∨ ∃ c T, TkLike t c T
/-- where what is wrong is on its way: it is told, or it comes with the next look -/
def Doom (ep : EP) (S : RS) (p : EP) : Prop := p.1 ≠ 0 ∧ (S.err = p.1 ∧ S.bad = p.2 ∨ S.err = 0 ∧ S.M = [] ∧ p = ep)
/-- how the two answers stand to each other -/
inductive Agr {α : Type} (ep : EP) : Rd α → α × RS → Prop
  | ok {a : α} {M : List Tk} (hM : M ≠ []) (hT : ∀ t ∈ M, TkOk t) (hF : Fine ep M) : Agr ep (.ok (a, M)) (a, ⟨M, 0, 0⟩)
  | bad {p : EP} {a : α} {S : RS} (h : Doom ep S p) : Agr ep (.error p) (a, S)
/-- tokens at hand -/
structure Good (ep : EP) (M : List Tk) : Prop where
  ne : M ≠ []
  ok : ∀ t ∈ M, TkOk t
  fine : Fine ep M
theorem doom_peek {ep : EP} {S : RS} {p : EP} (h : Doom ep S p) : (peekL ep S).1 = tkz ∧ (peekL ep S).2.err = p.1 ∧ (peekL ep S).2.bad = p.2 ∧ (peekL ep S).2.err ≠ 0 := by
  obtain ⟨h0, ⟨h1, h2⟩ | ⟨h1, h2, h3⟩⟩ := h
  · rw [peek_bad (by rw [h1]; exact h0)]
    exact ⟨rfl, h1, h2, by rw [h1]; exact h0⟩
  · unfold peekL
    rw [if_pos h1, h2]
    unfold failsL
    rw [if_pos h1]
    subst h3
    exact ⟨rfl, rfl, rfl, h0⟩
theorem doom_of {ep : EP} {S : RS} {p : EP} (h0 : p.1 ≠ 0) (h1 : S.err = p.1) (h2 : S.bad = p.2) : Doom ep S p := ⟨h0, .inl ⟨h1, h2⟩⟩
theorem doom_fails {ep : EP} {S : RS} {p : EP} (h : Doom ep S p) (e a : Int) (hS : S.err ≠ 0) : Doom ep (failsL e a S) p := by
  unfold failsL
  rw [if_neg hS]
  exact h
theorem doom_peek2 {ep : EP} {S : RS} {p : EP} (h : Doom ep S p) : Doom ep (peekL ep S).2 p := by
  obtain ⟨_, h1, h2, _⟩ := doom_peek h
  exact doom_of h.1 h1 h2
theorem doom_next {ep : EP} {S : RS} {p : EP} (h : Doom ep S p) : (nextL ep S).1 = tkz ∧ (nextL ep S).2.err ≠ 0 ∧ Doom ep (nextL ep S).2 p := by
  obtain ⟨h0, h1, h2, h3⟩ := doom_peek h
  unfold nextL
  rw [if_neg h3]
  exact ⟨h0, h3, doom_of h.1 h1 h2⟩
theorem doom_is {ep : EP} {S : RS} {p : EP} (h : Doom ep S p) (k : Int) (x : ByteArray) : (isL ep k x S).1 = false ∧ (isL ep k x S).2.err ≠ 0 ∧ Doom ep (isL ep k x S).2 p := by
  obtain ⟨h0, h1, h2, h3⟩ := doom_peek h
  unfold isL
  rw [if_neg h3]
  exact ⟨rfl, h3, doom_of h.1 h1 h2⟩
theorem doom_want {ep : EP} {S : RS} {p : EP} (h : Doom ep S p) (k : Int) (x : ByteArray) : Doom ep (wantL ep k x S) p := by
  obtain ⟨h1, h2, h3⟩ := doom_is h k x
  unfold wantL
  rw [if_neg (by rw [h1]; decide)]
  have h4 := doom_peek h3
  exact doom_fails (doom_peek2 h3) _ _ h4.2.2.2
theorem doom_kind {ep : EP} {S : RS} {p : EP} (h : Doom ep S p) {k : Int} (hk : k ≠ 0) : (kindL ep k S).1 = tkz ∧ (kindL ep k S).2.err ≠ 0 ∧ Doom ep (kindL ep k S).2 p := by
  have h4 := doom_peek h
  unfold kindL
  rw [if_neg (by rw [h4.1]; exact fun e => hk e.symm)]
  refine ⟨rfl, ?_, doom_fails (doom_peek2 h) _ _ h4.2.2.2⟩
  unfold failsL
  rw [if_neg h4.2.2.2]
  exact h4.2.2.2
theorem doom_verdict {ep : EP} {S : RS} {p : EP} (h : Doom ep S p) : Doom ep (verdictL ep S).2 p := by
  obtain ⟨h1, h2, h3⟩ := doom_kind h (show (2 : Int) ≠ 0 by decide)
  unfold verdictL
  simp only
  rw [if_neg h2]
  exact h3
theorem doom_call {ep : EP} {S : RS} {p : EP} (h : Doom ep S p) : Doom ep (callL ep S).2 p := by
  have h4 := doom_peek h
  unfold callL
  simp only
  rw [h4.1, if_neg (by decide), if_neg (by decide)]
  exact doom_fails (doom_peek2 h) _ _ h4.2.2.2
theorem doom_mask {ep : EP} {S : RS} {p : EP} (h : Doom ep S p) : Doom ep (maskL ep S).2 p := by
  obtain ⟨h1, h2, h3⟩ := doom_is h 4 sAmp
  unfold maskL
  simp only
  rw [if_neg (by rw [h1]; decide)]
  exact h3
theorem doom_test {ep : EP} {S : RS} {p : EP} (h : Doom ep S p) (f : Int) : Doom ep (testL ep f S).2 p := by
  obtain ⟨h1, h2, h3⟩ := doom_kind (doom_mask h) (show (4 : Int) ≠ 0 by decide)
  unfold testL
  simp only
  refine (doom_kind ?_ (show (3 : Int) ≠ 0 by decide)).2.2
  split
  · exact doom_fails h3 _ _ h2
  · exact h3
theorem doom_more {α : Type} {ep : EP} {one : RS → α × RS} {k : Int} {x : ByteArray} : ∀ n l S p, Doom ep S p → Doom ep (moreL ep one k x n l S).2 p := by
  intro n
  cases n with
  | zero => intro l S p h; exact h
  | succ n =>
    intro l S p h
    unfold moreL
    split
    · obtain ⟨h1, h2, h3⟩ := doom_is h k x
      rw [if_neg (by rw [h1]; decide)]
      exact h3
    · exact h
theorem doom_all {ep : EP} {one : RS → Ex × RS} (h1 : ∀ S p, Doom ep S p → Doom ep (one S).2 p) {S : RS} {p : EP} (h : Doom ep S p) : Doom ep (allL ep one S).2 p := by
  unfold allL
  exact doom_more _ _ _ _ (h1 _ _ h)
theorem doom_expr {ep : EP} {one : RS → Ex × RS} (h1 : ∀ S p, Doom ep S p → Doom ep (one S).2 p) {S : RS} {p : EP} (h : Doom ep S p) : Doom ep (exprL ep one S).2 p := by
  unfold exprL
  exact doom_more _ _ _ _ (doom_all h1 h)
theorem doom_one {ep : EP} (k : Nat) {S : RS} {p : EP} (h : Doom ep S p) : Doom ep (oneL ep k S).2 p := by
  obtain ⟨h1, h2, h3⟩ := doom_next h
  cases k with
  | zero => unfold oneL; simp only; rw [if_neg h2]; exact h3
  | succ k => unfold oneL; simp only; rw [if_neg h2]; exact h3
theorem doom_calls {ep : EP} : ∀ n l S p, Doom ep S p → Doom ep (callsL ep n l S).2 p := by
  intro n
  cases n with
  | zero => intro l S p h; exact h
  | succ n =>
    intro l S p h
    obtain ⟨h1, h2, h3⟩ := doom_is (doom_call h) 4 sComma
    unfold callsL
    simp only
    rw [if_neg (by rw [h1]; decide)]
    exact h3
theorem doom_when {ep : EP} {S : RS} {p : EP} (h : Doom ep S p) : Doom ep (whenL ep S).2 p := by
  obtain ⟨h1, h2, h3⟩ := doom_is h 2 sWhen
  unfold whenL
  rw [if_neg (by rw [h1]; decide)]
  exact h3
theorem doom_rule {ep : EP} {S : RS} {p : EP} (h : Doom ep S p) : Doom ep (ruleL ep S).2 p := by
  unfold ruleL
  simp only
  exact doom_want (doom_verdict (doom_want (doom_when (doom_calls _ _ _ _ h)) _ _)) _ _
theorem doom_rules {ep : EP} : ∀ n l S p, Doom ep S p → Doom ep (rulesL ep n l S).2 p := by
  intro n
  cases n with
  | zero => intro l S p h; exact h
  | succ n =>
    intro l S p h
    unfold rulesL
    simp only
    split
    · obtain ⟨h1, h2, h3⟩ := doom_is (doom_peek2 h) 2 sOn
      rw [if_neg (by rw [h1]; decide)]
      exact h3
    · exact h
end Go.Proofs.YtlmopoipjolbgaaGreatDoor.LexW
namespace Go.Proofs.YtlmopoipjolbgaaGreatDoor.LexW
open Go.RowKit Go.Shelf Go.Proofs.YtlmopoipjolbgaaGreatDoor.LexS Go.Proofs.YtlmopoipjolbgaaGreatDoorW.PrintWords
set_option linter.unusedVariables false
set_option linter.unusedSimpArgs false

/-- a word of kind k -/
def KW (k : Int) (x : ByteArray) : Prop := ∀ t, TkOk t → isT x t = (decide (t.kind = k) && decide (t.text = x))
theorem tk_first {t : Tk} {c : UInt8} {T : List UInt8} (h : TkLike t c T) : t.text.data.toList = c :: T ∧ (t.kind = 2 ∧ letterB c = true ∨ t.kind = 3 ∨ t.kind = 4 ∧ letterB c = false ∧ digitB c = false) := by
  cases h with
  | word hT hk hn hc hw hl => exact ⟨hT, .inl ⟨hk, hc⟩⟩
  | number hT hk hc hw hr hn => exact ⟨hT, .inr (.inl hk)⟩
  | sign hT hk hn hc hd hb h35 hs => exact ⟨hT, .inr (.inr ⟨hk, hc, hd⟩)⟩
theorem KW.word {x : ByteArray} {c : UInt8} {T : List UInt8} (hx : x.data.toList = c :: T) (hc : letterB c = true) : KW 2 x := by
  intro t ht
  unfold isT
  rcases ht with ⟨h1, _⟩ | ⟨c', T', h⟩
  · rw [h1]; simp
  · obtain ⟨hT, ⟨h2, hc'⟩ | h3 | ⟨h4, hc', _⟩⟩ := tk_first h
    · rw [h2]; simp
    · rw [h3]; simp
    · rw [h4]
      have : ¬ t.text = x := fun e => by
        rw [e, hx] at hT
        simp only [List.cons.injEq] at hT
        rw [← hT.1, hc] at hc'
        cases hc'
      simp [this]
theorem KW.sign {x : ByteArray} {c : UInt8} {T : List UInt8} (hx : x.data.toList = c :: T) (hc : letterB c = false) : KW 4 x := by
  intro t ht
  unfold isT
  rcases ht with ⟨h1, _⟩ | ⟨c', T', h⟩
  · rw [h1]; simp
  · obtain ⟨hT, ⟨h2, hc'⟩ | h3 | ⟨h4, hc', _⟩⟩ := tk_first h
    · rw [h2]
      have : ¬ t.text = x := fun e => by
        rw [e, hx] at hT
        simp only [List.cons.injEq] at hT
        rw [← hT.1, hc] at hc'
        cases hc'
      simp [this]
    · rw [h3]; simp
    · rw [h4]; simp
theorem agr_bnd {α β : Type} {ep : EP} {r : Rd α} {q : α × RS} {f : α × List Tk → Rd β} {k : α → RS → β × RS} (h : Agr ep r q) (hf : ∀ M, Good ep M → Agr ep (f (q.1, M)) (k q.1 ⟨M, 0, 0⟩)) (hd : ∀ S p, Doom ep S p → Doom ep (k q.1 S).2 p) : Agr ep (bnd r f) (k q.1 q.2) := by
  cases h with
  | ok hM hT hF => exact hf _ ⟨hM, hT, hF⟩
  | bad h => exact .bad (hd _ _ h)
theorem agr_map {α β : Type} {ep : EP} {r : Rd α} {q : α × RS} (g : α → β) (h : Agr ep r q) : Agr ep (bnd r (fun p => .ok (g p.1, p.2))) (g q.1, q.2) := by
  cases h with
  | ok hM hT hF => exact .ok hM hT hF
  | bad h => exact .bad h
section
variable {ep : EP}
theorem good_hd {M : List Tk} (h : Good ep M) : ∃ t r, M = t :: r ∧ TkOk t := by
  cases M with
  | nil => exact absurd rfl h.ne
  | cons t r => exact ⟨t, r, rfl, h.ok t (by simp)⟩
theorem peek_good {t : Tk} {r : List Tk} : peekL ep ⟨t :: r, 0, 0⟩ = (t, ⟨t :: r, 0, 0⟩) := rfl
/-- a token is taken -/
theorem take_agr {α : Type} {t : Tk} {r : List Tk} (h : Good ep (t :: r)) (hk : t.kind ≠ 1) {f : List Tk → Rd α} {k : RS → α × RS} (hf : ∀ M, Good ep M → Agr ep (f M) (k ⟨M, 0, 0⟩)) (hd : ∀ S p, Doom ep S p → Doom ep (k S).2 p) : Agr ep (bnd (stepP ep (t :: r)) f) (k ⟨r, 0, 0⟩) := by
  have hs := step_fine h.fine (show (hdT (t :: r)).kind ≠ 1 from hk)
  cases r with
  | nil => exact .bad (hd ⟨[], 0, 0⟩ ep ⟨hs.1 ep rfl, .inr ⟨rfl, rfl, rfl⟩⟩)
  | cons u r => exact hf (u :: r) ⟨by simp, fun x hx => h.ok x (by simp only [List.mem_cons] at hx ⊢; exact .inr hx), hs.2 _ rfl⟩
theorem doom_bad {M : List Tk} {c a : Int} (hc : c ≠ 0) : Doom ep (failsL c a ⟨M, 0, 0⟩) (c, a) := ⟨hc, .inl ⟨rfl, rfl⟩⟩
theorem next_good {t : Tk} {r : List Tk} : nextL ep ⟨t :: r, 0, 0⟩ = (t, ⟨r, 0, 0⟩) := rfl
theorem is_agr {k : Int} {x : ByteArray} (hx : KW k x) (hk : k ≠ 1) {M : List Tk} (h : Good ep M) : Agr ep (maybeP ep x M) (isL ep k x ⟨M, 0, 0⟩) := by
  obtain ⟨t, r, rfl, ht⟩ := good_hd h
  unfold maybeP isL
  rw [peek_good, show isT x (hdT (t :: r)) = _ from hx t ht]
  show Agr ep _ (if t.kind = k then (if t.text = x then (true, (⟨r, 0, 0⟩ : RS)) else (false, ⟨t :: r, 0, 0⟩)) else (false, ⟨t :: r, 0, 0⟩))
  by_cases h1 : t.kind = k
  · by_cases h2 : t.text = x
    · rw [if_pos h1, if_pos h2, if_pos (by simp [h1, h2])]
      exact take_agr h (by rw [h1]; exact hk) (k := fun S => (true, S)) (fun M hM => .ok hM.ne hM.ok hM.fine) (fun S p hp => hp)
    · rw [if_pos h1, if_neg h2, if_neg (by simp [h2])]
      exact .ok h.ne h.ok h.fine
  · rw [if_neg h1, if_neg (by simp [h1])]
    exact .ok h.ne h.ok h.fine
theorem want_agr {k : Int} {x : ByteArray} (hx : KW k x) (hk : k ≠ 1) {M : List Tk} (h : Good ep M) : Agr ep (wantP ep x M) ((), wantL ep k x ⟨M, 0, 0⟩) := by
  have hi := is_agr hx hk h
  unfold wantL
  obtain ⟨t, r, rfl, ht⟩ := good_hd h
  unfold wantP
  unfold maybeP at hi
  by_cases h1 : isT x (hdT (t :: r)) = true
  · rw [if_pos h1] at hi ⊢
    have h2 : t.kind = k ∧ t.text = x := by
      have := (hx t ht).symm.trans h1
      simpa using this
    have h3 : isL ep k x ⟨t :: r, 0, 0⟩ = (true, ⟨r, 0, 0⟩) := by unfold isL; rw [peek_good]; show (if t.kind = k then (if t.text = x then (true, (⟨r, 0, 0⟩ : RS)) else _) else _) = _; rw [if_pos h2.1, if_pos h2.2]
    rw [h3]
    exact take_agr h (by rw [h2.1]; exact hk) (k := fun S => ((), S)) (fun M hM => .ok hM.ne hM.ok hM.fine) (fun S p hp => hp)
  · rw [if_neg h1]
    have h3 : isL ep k x ⟨t :: r, 0, 0⟩ = (false, ⟨t :: r, 0, 0⟩) := by
      have h2 : ¬ (t.kind = k ∧ t.text = x) := fun h2 => h1 (by rw [show isT x (hdT (t :: r)) = _ from hx t ht]; simp [h2.1, h2.2])
      unfold isL; rw [peek_good]
      show (if t.kind = k then (if t.text = x then (true, (⟨r, 0, 0⟩ : RS)) else (false, ⟨t :: r, 0, 0⟩)) else (false, ⟨t :: r, 0, 0⟩)) = _
      by_cases h4 : t.kind = k
      · rw [if_pos h4, if_neg (fun h5 => h2 ⟨h4, h5⟩)]
      · rw [if_neg h4]
    rw [h3]
    exact .bad (doom_bad (M := t :: r) (a := t.at_) (by decide))
theorem kind_agr {k : Int} (hk : k ≠ 1) {M : List Tk} (h : Good ep M) : Agr ep (kindP ep k M) (kindL ep k ⟨M, 0, 0⟩) := by
  obtain ⟨t, r, rfl, ht⟩ := good_hd h
  unfold kindP kindL
  rw [peek_good]
  show Agr ep (if t.kind = k then (if k = 1 then _ else bnd (stepP ep (t :: r)) (fun L' => .ok (t, L'))) else _) (if t.kind = k then (t, (⟨r, 0, 0⟩ : RS)) else _)
  by_cases h1 : t.kind = k
  · rw [if_pos h1, if_pos h1, if_neg hk]
    exact take_agr h (by rw [h1]; exact hk) (k := fun S => (t, S)) (fun M hM => .ok hM.ne hM.ok hM.fine) (fun S p hp => hp)
  · rw [if_neg h1, if_neg h1]
    exact .bad (doom_bad (M := t :: r) (a := t.at_) (by decide))
theorem verdict_agr {M : List Tk} (h : Good ep M) : Agr ep (verdictP ep M) (verdictL ep ⟨M, 0, 0⟩) := by
  obtain ⟨t, r, rfl, ht⟩ := good_hd h
  unfold verdictP verdictL kindL
  rw [peek_good]
  by_cases h1 : t.kind = 2
  · rw [if_pos (show (hdT (t :: r)).kind = 2 from h1)]
    simp only [if_pos h1]
    show Agr ep (match wordsT.find? (fun x => decide (t.text = x.1)) with | some (_, k, n) => bnd (stepP ep (t :: r)) (fun L1 => if n = true then bnd (kindP ep 3 L1) (fun p => .ok (⟨k, p.1.num⟩, p.2)) else .ok (⟨k, 0⟩, L1)) | none => .error (badP 61 (t :: r)))
      (match wordsT.find? (fun x => decide (t.text = x.1)) with | some (_, k, n) => if n = true then (⟨k, (kindL ep 3 ⟨r, 0, 0⟩).1.num⟩, (kindL ep 3 ⟨r, 0, 0⟩).2) else (⟨k, 0⟩, ⟨r, 0, 0⟩) | none => (zVd, failsL 61 t.at_ ⟨r, 0, 0⟩))
    cases wordsT.find? (fun x => decide (t.text = x.1)) with
    | none => exact .bad (doom_bad (M := r) (a := t.at_) (by decide))
    | some w =>
      obtain ⟨w, k, n⟩ := w
      cases n with
      | false =>
        exact take_agr h (by rw [h1]; decide) (k := fun S => ((⟨k, 0⟩ : Vd), S)) (fun M hM => .ok hM.ne hM.ok hM.fine) (fun S p hp => hp)
      | true =>
        exact take_agr h (by rw [h1]; decide) (k := fun S => ((⟨k, (kindL ep 3 S).1.num⟩ : Vd), (kindL ep 3 S).2)) (fun M hM => agr_map (fun a : Tk => (⟨k, a.num⟩ : Vd)) (kind_agr (k := 3) (by decide) hM)) (fun S p hp => (doom_kind hp (by decide)).2.2)
  · rw [if_neg (show ¬ (hdT (t :: r)).kind = 2 from h1)]
    simp only [if_neg h1]
    exact .bad (doom_bad (M := t :: r) (a := t.at_) (by decide))
theorem call_agr {M : List Tk} (h : Good ep M) : Agr ep (callP ep M) (callL ep ⟨M, 0, 0⟩) := by
  obtain ⟨t, r, rfl, ht⟩ := good_hd h
  have h2 := kind_agr (ep := ep) (k := 2) (by decide) h
  have h3 := kind_agr (ep := ep) (k := 3) (by decide) h
  unfold kindL at h2 h3
  rw [peek_good] at h2 h3
  unfold callP callL
  rw [peek_good]
  show Agr ep (if t.kind = 3 then _ else _) (if t.kind = 2 then (⟨t.text, 0⟩, (⟨r, 0, 0⟩ : RS)) else if t.kind = 3 then (⟨nil0, t.num⟩, ⟨r, 0, 0⟩) else (zCl, failsL 61 t.at_ ⟨t :: r, 0, 0⟩))
  by_cases hk3 : t.kind = 3
  · rw [if_pos hk3, if_neg (by rw [hk3]; decide), if_pos hk3]
    rw [if_pos hk3] at h3
    exact agr_map (fun a : Tk => (⟨nil0, a.num⟩ : Cl)) h3
  · rw [if_neg hk3]
    by_cases hk2 : t.kind = 2
    · rw [if_pos hk2]
      rw [if_pos hk2] at h2
      exact agr_map (fun a : Tk => (⟨a.text, 0⟩ : Cl)) h2
    · rw [if_neg hk2, if_neg hk3]
      have : kindP ep 2 (t :: r) = .error (badP 61 (t :: r)) := by unfold kindP; rw [if_neg (show ¬ (hdT (t :: r)).kind = 2 from hk2)]
      rw [this]
      exact .bad (doom_bad (M := t :: r) (a := t.at_) (by decide))
theorem kw_amp : KW 4 sAmp := KW.sign (c := 38) (T := []) (by decide +kernel) (by decide +kernel)
theorem kw_comma : KW 4 sComma := KW.sign (c := 44) (T := []) (by decide +kernel) (by decide +kernel)
theorem kw_semi : KW 4 sSemi := KW.sign (c := 59) (T := []) (by decide +kernel) (by decide +kernel)
theorem kw_shut : KW 4 sShut := KW.sign (c := 41) (T := []) (by decide +kernel) (by decide +kernel)
theorem kw_open : KW 4 sOpen := KW.sign (c := 40) (T := []) (by decide +kernel) (by decide +kernel)
theorem kw_not : KW 2 sNot := KW.word (c := 110) (T := [111, 116]) (by decide +kernel) (by decide +kernel)
theorem kw_true : KW 2 sTrue := KW.word (c := 116) (T := [114, 117, 101]) (by decide +kernel) (by decide +kernel)
theorem kw_false : KW 2 sFalse := KW.word (c := 102) (T := [97, 108, 115, 101]) (by decide +kernel) (by decide +kernel)
theorem kw_and : KW 2 sAnd := KW.word (c := 97) (T := [110, 100]) (by decide +kernel) (by decide +kernel)
theorem kw_or : KW 2 sOr := KW.word (c := 111) (T := [114]) (by decide +kernel) (by decide +kernel)
theorem kw_when : KW 2 sWhen := KW.word (c := 119) (T := [104, 101, 110]) (by decide +kernel) (by decide +kernel)
theorem kw_do : KW 2 sDo := KW.word (c := 100) (T := [111]) (by decide +kernel) (by decide +kernel)
theorem kw_arch : KW 2 sArch := KW.word (c := 97) (T := [114, 99, 104]) (by decide +kernel) (by decide +kernel)
theorem kw_foreign : KW 2 sForeign := KW.word (c := 102) (T := [111, 114, 101, 105, 103, 110]) (by decide +kernel) (by decide +kernel)
theorem kw_default : KW 2 sDefault := KW.word (c := 100) (T := [101, 102, 97, 117, 108, 116]) (by decide +kernel) (by decide +kernel)
theorem kw_on : KW 2 sOn := KW.word (c := 111) (T := [110]) (by decide +kernel) (by decide +kernel)
theorem kw_field : ∀ x ∈ fieldsT, KW 2 x := by
  intro x hx
  simp only [fieldsT, List.mem_cons, List.not_mem_nil, or_false] at hx
  rcases hx with rfl | rfl | rfl | rfl | rfl | rfl | rfl
  · exact KW.word (c := 97) (T := [114, 103, 48]) (by decide +kernel) (by decide +kernel)
  · exact KW.word (c := 97) (T := [114, 103, 49]) (by decide +kernel) (by decide +kernel)
  · exact KW.word (c := 97) (T := [114, 103, 50]) (by decide +kernel) (by decide +kernel)
  · exact KW.word (c := 97) (T := [114, 103, 51]) (by decide +kernel) (by decide +kernel)
  · exact KW.word (c := 97) (T := [114, 103, 52]) (by decide +kernel) (by decide +kernel)
  · exact KW.word (c := 97) (T := [114, 103, 53]) (by decide +kernel) (by decide +kernel)
  · exact KW.word (c := 105) (T := [112]) (by decide +kernel) (by decide +kernel)
theorem mask_agr {M : List Tk} (h : Good ep M) : Agr ep (maskP ep M) (maskL ep ⟨M, 0, 0⟩) := by
  have hi := is_agr kw_amp (by decide) h
  obtain ⟨t, r, rfl, ht⟩ := good_hd h
  unfold maskP maskL
  by_cases h4 : t.kind = 4
  · rw [if_pos (show (hdT (t :: r)).kind = 4 from h4)]
    refine agr_bnd (k := fun b S => if b = true then ((kindL ep 3 S).1.num, (kindL ep 3 S).2) else (18446744073709551615, S)) hi (fun M hM => ?_) (fun S p hp => ?_)
    · show Agr ep (if _ then _ else _) (if _ then _ else _)
      split
      · exact agr_map (fun a : Tk => a.num) (kind_agr (k := 3) (by decide) hM)
      · exact .ok hM.ne hM.ok hM.fine
    · show Doom ep (if _ then _ else _ : Int × RS).2 p
      split
      · exact (doom_kind hp (by decide)).2.2
      · exact hp
  · rw [if_neg (show ¬ (hdT (t :: r)).kind = 4 from h4)]
    have h3 : isL ep 4 sAmp ⟨t :: r, 0, 0⟩ = (false, ⟨t :: r, 0, 0⟩) := by
      unfold isL; rw [peek_good]
      show (if t.kind = 4 then (if t.text = sAmp then (true, (⟨r, 0, 0⟩ : RS)) else (false, ⟨t :: r, 0, 0⟩)) else (false, ⟨t :: r, 0, 0⟩)) = _
      rw [if_neg h4]
    simp only [h3]
    exact .ok h.ne h.ok h.fine
end
end Go.Proofs.YtlmopoipjolbgaaGreatDoor.LexW
namespace Go.Proofs.YtlmopoipjolbgaaGreatDoor.LexW
open Go.RowKit Go.Shelf Go.Proofs.YtlmopoipjolbgaaGreatDoor.LexS Go.Proofs.YtlmopoipjolbgaaGreatDoorW.PrintWords
set_option linter.unusedVariables false
set_option linter.unusedSimpArgs false

section
variable {ep : EP}
theorem kw_rel : ∀ x ∈ relsT, KW 4 x := by
  intro x hx
  simp only [relsT, List.mem_cons, List.not_mem_nil, or_false] at hx
  rcases hx with rfl | rfl | rfl | rfl | rfl | rfl
  · exact KW.sign (c := 61) (T := [61]) (by decide +kernel) (by decide +kernel)
  · exact KW.sign (c := 33) (T := [61]) (by decide +kernel) (by decide +kernel)
  · exact KW.sign (c := 60) (T := []) (by decide +kernel) (by decide +kernel)
  · exact KW.sign (c := 60) (T := [61]) (by decide +kernel) (by decide +kernel)
  · exact KW.sign (c := 62) (T := []) (by decide +kernel) (by decide +kernel)
  · exact KW.sign (c := 62) (T := [61]) (by decide +kernel) (by decide +kernel)
/-- a relation is found by its text -/
theorem relF_text {t : Tk} (h : t.kind = 4) : relF t 6 = relT t.text := by
  have hi : ∀ y, isT y t = decide (t.text = y) := fun y => by unfold isT; rw [h]; simp
  by_cases hx : t.text ∈ relsT
  · simp only [relsT, List.mem_cons, List.not_mem_nil, or_false] at hx
    simp only [relF, hi]
    rcases hx with e | e | e | e | e | e
    all_goals
      rw [e]
      decide +kernel
  · have h0 : relT t.text = 0 := by
      unfold relT
      rw [List.findIdx?_eq_none_iff.2 (fun y hy => by rw [decide_eq_false_iff_not]; intro e; rw [e] at hx; exact hx hy)]
    have hn : ∀ i, i < 6 → isT (relsT.getD i nil0) t = false := fun i hi2 => by
      rw [hi, decide_eq_false_iff_not]
      intro e
      apply hx
      rw [e, List.getD_eq_getElem?_getD, List.getElem?_eq_getElem (show i < relsT.length from hi2)]
      exact List.getElem_mem _
    simp only [relF, hn 5 (by decide), hn 4 (by decide), hn 3 (by decide), hn 2 (by decide), hn 1 (by decide), hn 0 (by decide)]
    rw [h0]; rfl
theorem relF_none {t : Tk} (ht : TkOk t) (h : ¬ t.kind = 4) : relF t 6 = 0 := by
  have hn : ∀ i, i < 6 → isT (relsT.getD i nil0) t = false := fun i hi2 => by
    have hm : relsT.getD i nil0 ∈ relsT := by
      rw [List.getD_eq_getElem?_getD, List.getElem?_eq_getElem (show i < relsT.length from hi2)]
      exact List.getElem_mem _
    rw [kw_rel _ hm t ht]
    simp [h]
  simp only [relF, hn 5 (by decide), hn 4 (by decide), hn 3 (by decide), hn 2 (by decide), hn 1 (by decide), hn 0 (by decide)]
  rfl
/-- behind the mask -/
def relL (ep : EP) (f mk : Int) (S : RS) : Ex × RS :=
  let t := kindL ep 4 S
  let S2 := if relT t.1.text = 0 then failsL 61 t.1.at_ t.2 else t.2
  let v := kindL ep 3 S2
  (⟨6, [], f, mk, relT t.1.text, v.1.num⟩, v.2)
theorem testL_rel (f : Int) (S : RS) : testL ep f S = relL ep f (maskL ep S).1 (maskL ep S).2 := rfl
theorem doom_rel {S : RS} {p : EP} (h : Doom ep S p) (f mk : Int) : Doom ep (relL ep f mk S).2 p := by
  obtain ⟨h1, h2, h3⟩ := doom_kind h (show (4 : Int) ≠ 0 by decide)
  unfold relL
  simp only
  refine (doom_kind ?_ (show (3 : Int) ≠ 0 by decide)).2.2
  split
  · exact doom_fails h3 _ _ h2
  · exact h3
theorem rel_agr (f mk : Int) {M : List Tk} (h : Good ep M) : Agr ep (if relF (hdT M) 6 = 0 then .error (badP 61 M) else bnd (stepP ep M) (fun L3 => bnd (kindP ep 3 L3) (fun q => .ok (⟨6, [], f, mk, relF (hdT M) 6, q.1.num⟩, q.2)))) (relL ep f mk ⟨M, 0, 0⟩) := by
  obtain ⟨t, r, rfl, ht⟩ := good_hd h
  unfold relL kindL
  rw [peek_good]
  by_cases h4 : t.kind = 4
  · rw [show relF (hdT (t :: r)) 6 = relT t.text from relF_text h4]
    simp only [if_pos h4, next_good]
    by_cases h0 : relT t.text = 0
    · rw [if_pos h0, if_pos h0]
      have hd : Doom ep (failsL 61 t.at_ ⟨r, 0, 0⟩) (61, t.at_) := doom_bad (M := r) (a := t.at_) (by decide)
      have h3 := (doom_kind hd (show (3 : Int) ≠ 0 by decide)).2.2
      unfold kindL at h3
      exact .bad h3
    · rw [if_neg h0, if_neg h0]
      have := take_agr (α := Ex) h (by rw [h4]; decide) (f := fun L3 => bnd (kindP ep 3 L3) (fun q => .ok (⟨6, [], f, mk, relT t.text, q.1.num⟩, q.2))) (k := fun S => ((⟨6, [], f, mk, relT t.text, (kindL ep 3 S).1.num⟩ : Ex), (kindL ep 3 S).2)) (fun M hM => agr_map (fun a : Tk => (⟨6, [], f, mk, relT t.text, a.num⟩ : Ex)) (kind_agr (k := 3) (by decide) hM)) (fun S p hp => (doom_kind hp (by decide)).2.2)
      unfold kindL at this
      exact this
  · rw [show relF (hdT (t :: r)) 6 = 0 from relF_none ht h4, if_pos rfl]
    simp only [if_neg h4]
    have hd : Doom ep (failsL 61 t.at_ ⟨t :: r, 0, 0⟩) (61, t.at_) := doom_bad (M := t :: r) (a := t.at_) (by decide)
    have he : (failsL 61 t.at_ ⟨t :: r, 0, 0⟩).err ≠ 0 := fails_err (by decide)
    have hd2 : Doom ep (if relT tkz.text = 0 then failsL 61 tkz.at_ (failsL 61 t.at_ ⟨t :: r, 0, 0⟩) else failsL 61 t.at_ ⟨t :: r, 0, 0⟩) (61, t.at_) := by
      split
      · exact doom_fails hd _ _ he
      · exact hd
    have h3 := (doom_kind hd2 (show (3 : Int) ≠ 0 by decide)).2.2
    unfold kindL at h3
    exact .bad h3
/-- test, behind the field's word -/
theorem test_agr (f : Int) {M : List Tk} (h : Good ep M) : Agr ep (bnd (maskP ep M) (fun p => if relF (hdT p.2) 6 = 0 then .error (badP 61 p.2) else bnd (stepP ep p.2) (fun L3 => bnd (kindP ep 3 L3) (fun q => .ok (⟨6, [], f, p.1, relF (hdT p.2) 6, q.1.num⟩, q.2))))) (testL ep f ⟨M, 0, 0⟩) := by
  rw [testL_rel]
  exact agr_bnd (k := fun mk S => relL ep f mk S) (mask_agr h) (fun M hM => rel_agr f _ hM) (fun S p hp => doom_rel hp _ _)
theorem more_agr {α : Type} {one : List Tk → Rd α} {oneL' : RS → α × RS} (h1 : ∀ M, Good ep M → Agr ep (one M) (oneL' ⟨M, 0, 0⟩)) (hd : ∀ S p, Doom ep S p → Doom ep (oneL' S).2 p) {k : Int} {x : ByteArray} (hx : KW k x) (hk : k ≠ 1) : ∀ n l M, Good ep M → Agr ep (moreP ep one x n l M) (moreL ep oneL' k x n l ⟨M, 0, 0⟩) := by
  intro n
  induction n with
  | zero => intro l M h; exact .ok h.ne h.ok h.fine
  | succ n ih =>
    intro l M h
    unfold moreP moreL
    rw [if_pos rfl]
    refine agr_bnd (k := fun b S => if b = true then moreL ep oneL' k x n (l ++ [(oneL' S).1]) (oneL' S).2 else (l, S)) (is_agr hx hk h) (fun M hM => ?_) (fun S p hp => ?_)
    · show Agr ep (if _ then _ else _) (if _ then _ else _)
      split
      · exact agr_bnd (k := fun a S => moreL ep oneL' k x n (l ++ [a]) S) (h1 M hM) (fun M hM => ih _ _ hM) (fun S p hp => doom_more _ _ _ _ hp)
      · exact .ok hM.ne hM.ok hM.fine
    · show Doom ep (if _ then _ else _ : List α × RS).2 p
      split
      · exact doom_more _ _ _ _ (hd _ _ hp)
      · exact hp
/-- the rounds that are counted: as many as there are tokens -/
theorem turns_agr {α : Type} {one : List Tk → Rd α} {oneL' : RS → α × RS} (h1 : ∀ M, Good ep M → Agr ep (one M) (oneL' ⟨M, 0, 0⟩)) (hd : ∀ S p, Doom ep S p → Doom ep (oneL' S).2 p) {k : Int} {x : ByteArray} (hx : KW k x) (hk : k ≠ 1) {M : List Tk} (h : Good ep M) :
    Agr ep (turnsP ep one x M) (moreL ep oneL' k x ((oneL' ⟨M, 0, 0⟩).2.M.length + 1) [(oneL' ⟨M, 0, 0⟩).1] (oneL' ⟨M, 0, 0⟩).2) := by
  unfold turnsP
  exact agr_bnd (k := fun a S => moreL ep oneL' k x (S.M.length + 1) [a] S) (h1 M h) (fun M hM => more_agr h1 hd hx hk _ _ _ hM) (fun S p hp => doom_more _ _ _ _ hp)
theorem all_agr {one : List Tk → Rd Ex} {oneL' : RS → Ex × RS} (h1 : ∀ M, Good ep M → Agr ep (one M) (oneL' ⟨M, 0, 0⟩)) (hd : ∀ S p, Doom ep S p → Doom ep (oneL' S).2 p) {M : List Tk} (h : Good ep M) : Agr ep (allP ep one M) (allL ep oneL' ⟨M, 0, 0⟩) := by
  unfold allP allL
  exact agr_map (joinE 4) (turns_agr h1 hd kw_and (by decide) h)
theorem expr_agr {one : List Tk → Rd Ex} {oneL' : RS → Ex × RS} (h1 : ∀ M, Good ep M → Agr ep (one M) (oneL' ⟨M, 0, 0⟩)) (hd : ∀ S p, Doom ep S p → Doom ep (oneL' S).2 p) {M : List Tk} (h : Good ep M) : Agr ep (exprP ep one M) (exprL ep oneL' ⟨M, 0, 0⟩) := by
  unfold exprP exprL
  exact agr_map (joinE 5) (turns_agr (fun M hM => all_agr h1 hd hM) (fun S p hp => doom_all hd hp) kw_or (by decide) h)
/-- what is neither nested: the word is taken already -/
theorem atom_agr {t : Tk} {r : List Tk} (h : Good ep (t :: r)) (ht : TkOk t) (hn : isT sNot t = false) (ho : isT sOpen t = false) : Agr ep (atomP ep (t :: r)) (atomL ep t ⟨r, 0, 0⟩) := by
  unfold atomP atomL
  rw [show isT sTrue (hdT (t :: r)) = _ from kw_true t ht, show isT sFalse (hdT (t :: r)) = _ from kw_false t ht]
  by_cases h2 : t.kind = 2
  · rw [if_pos h2]
    have hf : (fun x => isT x (hdT (t :: r))) = (fun y => decide (t.text = y)) := funext (fun y => by show isT y t = _; unfold isT; rw [h2]; simp)
    rw [hf]
    by_cases h3 : t.text = sTrue
    · rw [if_pos h3, if_pos (by simp [h2, h3])]
      exact take_agr h (by rw [h2]; decide) (k := fun S => ((⟨1, [], 0, 0, 0, 0⟩ : Ex), S)) (fun M hM => .ok hM.ne hM.ok hM.fine) (fun S p hp => hp)
    · rw [if_neg h3, if_neg (by simp [h3])]
      by_cases h4 : t.text = sFalse
      · rw [if_pos h4, if_pos (by simp [h2, h4])]
        exact take_agr h (by rw [h2]; decide) (k := fun S => ((⟨2, [], 0, 0, 0, 0⟩ : Ex), S)) (fun M hM => .ok hM.ne hM.ok hM.fine) (fun S p hp => hp)
      · rw [if_neg h4, if_neg (by simp [h4])]
        unfold fieldT
        cases fieldsT.findIdx? (fun y => decide (t.text = y)) with
        | none =>
          rw [if_neg (by decide)]
          exact .bad (doom_bad (M := r) (a := t.at_) (by decide))
        | some i =>
          rw [if_pos (by show (0 : Int) ≤ (i : Int); omega)]
          exact take_agr h (by rw [h2]; decide) (k := fun S => testL ep (i : Int) S) (fun M hM => test_agr (i : Int) hM) (fun S p hp => doom_test hp _)
  · rw [if_neg h2, if_neg (by simp [h2]), if_neg (by simp [h2])]
    have hf : fieldsT.findIdx? (fun x => isT x (hdT (t :: r))) = none := List.findIdx?_eq_none_iff.2 (fun y hy => by rw [show isT y (hdT (t :: r)) = _ from kw_field y hy t ht]; simp [h2])
    rw [hf]
    exact .bad (doom_bad (M := r) (a := t.at_) (by decide))
theorem one_agr : ∀ (k : Nat) (M : List Tk), Good ep M → Agr ep (oneP ep k M) (oneL ep k ⟨M, 0, 0⟩) := by
  intro k
  induction k with
  | zero =>
    intro M h
    obtain ⟨t, r, rfl, ht⟩ := good_hd h
    unfold oneP oneL
    show Agr ep _ (if (0 : Int) = 0 then (if t.kind = 2 ∧ t.text = sNot then (zEx, failsL 62 t.at_ (⟨r, 0, 0⟩ : RS)) else if t.kind = 4 ∧ t.text = sOpen then (zEx, failsL 62 t.at_ (⟨r, 0, 0⟩ : RS)) else atomL ep t ⟨r, 0, 0⟩) else (zEx, (⟨r, 0, 0⟩ : RS)))
    rw [if_pos (rfl : (0 : Int) = 0), show isT sNot (hdT (t :: r)) = _ from kw_not t ht, show isT sOpen (hdT (t :: r)) = _ from kw_open t ht]
    by_cases h2 : t.kind = 2 ∧ t.text = sNot
    · rw [if_pos h2, if_pos (by simp [h2.1, h2.2])]
      exact .bad (doom_bad (M := r) (a := t.at_) (by decide))
    · have e2 : (decide (t.kind = 2) && decide (t.text = sNot)) = false := by rw [← Bool.decide_and, decide_eq_false_iff_not]; exact h2
      rw [if_neg h2, e2, if_neg (by decide)]
      by_cases h4 : t.kind = 4 ∧ t.text = sOpen
      · rw [if_pos h4, if_pos (by simp [h4.1, h4.2])]
        exact .bad (doom_bad (M := r) (a := t.at_) (by decide))
      · have e4 : (decide (t.kind = 4) && decide (t.text = sOpen)) = false := by rw [← Bool.decide_and, decide_eq_false_iff_not]; exact h4
        rw [if_neg h4, e4, if_neg (by decide)]
        exact atom_agr h ht (by rw [kw_not t ht, e2]) (by rw [kw_open t ht, e4])
  | succ k ih =>
    intro M h
    obtain ⟨t, r, rfl, ht⟩ := good_hd h
    unfold oneP
    rw [oneL]
    show Agr ep _ (if (0 : Int) = 0 then (if t.kind = 2 ∧ t.text = sNot then (⟨3, [(oneL ep k ⟨r, 0, 0⟩).1], 0, 0, 0, 0⟩, (oneL ep k ⟨r, 0, 0⟩).2) else if t.kind = 4 ∧ t.text = sOpen then ((exprL ep (oneL ep k) ⟨r, 0, 0⟩).1, wantL ep 4 sShut (exprL ep (oneL ep k) ⟨r, 0, 0⟩).2) else atomL ep t ⟨r, 0, 0⟩) else (zEx, (⟨r, 0, 0⟩ : RS)))
    rw [if_pos (rfl : (0 : Int) = 0), show isT sNot (hdT (t :: r)) = _ from kw_not t ht, show isT sOpen (hdT (t :: r)) = _ from kw_open t ht]
    by_cases h2 : t.kind = 2 ∧ t.text = sNot
    · rw [if_pos h2, if_pos (by simp [h2.1, h2.2])]
      exact take_agr h (by rw [h2.1]; decide) (k := fun S => ((⟨3, [(oneL ep k S).1], 0, 0, 0, 0⟩ : Ex), (oneL ep k S).2)) (fun M hM => agr_map (fun a : Ex => (⟨3, [a], 0, 0, 0, 0⟩ : Ex)) (ih M hM)) (fun S p hp => doom_one k hp)
    · have e2 : (decide (t.kind = 2) && decide (t.text = sNot)) = false := by rw [← Bool.decide_and, decide_eq_false_iff_not]; exact h2
      rw [if_neg h2, e2, if_neg (by decide)]
      by_cases h4 : t.kind = 4 ∧ t.text = sOpen
      · rw [if_pos h4, if_pos (by simp [h4.1, h4.2])]
        refine take_agr h (by rw [h4.1]; decide) (k := fun S => ((exprL ep (oneL ep k) S).1, wantL ep 4 sShut (exprL ep (oneL ep k) S).2)) (fun M1 hM1 => ?_) (fun S p hp => doom_want (doom_expr (fun _ _ h => doom_one k h) hp) _ _)
        refine agr_bnd (k := fun a S => (a, wantL ep 4 sShut S)) (expr_agr ih (fun _ _ h => doom_one k h) hM1) (fun M hM => ?_) (fun S p hp => doom_want hp _ _)
        exact agr_map (fun _ : Unit => (exprL ep (oneL ep k) ⟨M1, 0, 0⟩).1) (want_agr kw_shut (by decide) hM)
      · have e4 : (decide (t.kind = 4) && decide (t.text = sOpen)) = false := by rw [← Bool.decide_and, decide_eq_false_iff_not]; exact h4
        rw [if_neg h4, e4, if_neg (by decide)]
        exact atom_agr h ht (by rw [kw_not t ht, e2]) (by rw [kw_open t ht, e4])
end
end Go.Proofs.YtlmopoipjolbgaaGreatDoor.LexW
