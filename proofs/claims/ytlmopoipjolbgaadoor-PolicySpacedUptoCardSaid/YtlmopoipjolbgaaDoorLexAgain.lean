/-
  Plain words of layer 5 (lex): the tokens' texts, written with one blank behind each, are cut into the same.
-/
import Derived.Test.YtlmopoipjolbgaaDoorLexGen
import Derived.WideShapes
namespace Go.Proofs.YtlmopoipjolbgaaDoor.LexW
open Go.RowKit Go.Shelf Go.Proofs.YtlmopoipjolbgaaDoor.LexS Go.Proofs.YtlmopoipjolbgaaDoorW.PrintWords
set_option linter.unusedVariables false
set_option linter.unusedSimpArgs false

theorem ext_list (s : ByteArray) (p q : Nat) : (s.extract p q).data.toList = (s.data.toList.drop p).take (q - p) := by
  rw [ByteArray.data_extract, Array.toList_extract]

theorem letter_facts {c : UInt8} (h : letterB c = true) : blankB c = false ∧ c ≠ 35 ∧ digitB c = false ∧ c ≠ 48 := by
  rw [letter_nat] at h
  simp only [Bool.or_eq_true, Bool.and_eq_true, decide_eq_true_eq] at h
  refine ⟨?_, ?_, ?_, ?_⟩
  · simp [blankB, ← UInt8.toNat_inj]; omega
  · intro e; rw [e] at h; simp at h
  · rw [digit_nat]; simp; omega
  · intro e; rw [e] at h; simp at h
theorem digit_facts {c : UInt8} (h : digitB c = true) : blankB c = false ∧ c ≠ 35 ∧ letterB c = false := by
  rw [digit_nat] at h
  simp only [Bool.and_eq_true, decide_eq_true_eq] at h
  refine ⟨?_, ?_, ?_⟩
  · simp [blankB, ← UInt8.toNat_inj]; omega
  · intro e; rw [e] at h; simp at h
  · rw [letter_nat]; simp; omega
theorem sign_facts {c : UInt8} {r : List UInt8} (h : signL (c :: r) ≠ 0) : blankB c = false ∧ c ≠ 35 := by
  have hc : c = 61 ∨ c = 33 ∨ c = 60 ∨ c = 62 ∨ c = 59 ∨ c = 44 ∨ c = 40 ∨ c = 41 ∨ c = 38 := by
    simp only [signL] at h
    split at h
    · rename_i h1; simp at h1; rcases h1.1 with ((h | h) | h) | h <;> simp [h]
    · split at h
      · rename_i h1; simp at h1; rcases h1 with (((((h | h) | h) | h) | h) | h) | h <;> simp [h]
      · exact absurd rfl h
  rcases hc with rfl | rfl | rfl | rfl | rfl | rfl | rfl | rfl | rfl <;> exact ⟨by decide, by decide⟩
theorem sign_again {c : UInt8} {r B : List UInt8} (h : signL (c :: r) ≠ 0) : signL ((c :: r).take (signL (c :: r)) ++ 32 :: B) = ((c :: r).take (signL (c :: r))).length := by
  by_cases h1 : ((c == 61 || c == 33 || c == 60 || c == 62) && r.head? == some 61) = true
  · have e : signL (c :: r) = 2 := by simp only [signL]; rw [if_pos h1]
    rw [Bool.and_eq_true] at h1
    cases r with
    | nil => simp at h1
    | cons d r =>
      have hd : d = 61 := by simpa using h1.2
      subst hd
      rw [e]
      show signL (c :: 61 :: 32 :: B) = 2
      simp only [signL]
      rw [if_pos (by rw [Bool.and_eq_true]; exact ⟨h1.1, by simp⟩)]
  · have e : signL (c :: r) = 1 := by
      simp only [signL] at h ⊢
      rw [if_neg h1] at h ⊢
      split at h
      · rename_i h2; rw [if_pos h2]
      · exact absurd rfl h
    have h2 : (c == 59 || c == 44 || c == 40 || c == 41 || c == 38 || c == 60 || c == 62) = true := by
      simp only [signL] at e
      rw [if_neg h1] at e
      split at e
      · rename_i h2; exact h2
      · cases e
    rw [e]
    show signL (c :: 32 :: B) = 1
    simp only [signL]
    rw [if_neg (by simp), if_pos h2]

/-- what a token's text is like -/
inductive TkLike : Tk → UInt8 → List UInt8 → Prop
  | word {t : Tk} {c : UInt8} {T : List UInt8} (hT : t.text.data.toList = c :: T) (hk : t.kind = 2) (hn : t.num = 0) (hc : letterB c = true) (hw : (c :: T).all wordB = true) (hl : (c :: T).length ≤ 32) : TkLike t c T
  | number {t : Tk} {c : UInt8} {T : List UInt8} (hT : t.text.data.toList = c :: T) (hk : t.kind = 3) (hc : digitB c = true) (hw : (c :: T).all wordB = true) (hr : (numR (c :: T)).2 = true) (hn : t.num = (numR (c :: T)).1) : TkLike t c T
  | sign {t : Tk} {c : UInt8} {T : List UInt8} (hT : t.text.data.toList = c :: T) (hk : t.kind = 4) (hn : t.num = 0) (hc : letterB c = false) (hd : digitB c = false) (hb : blankB c = false) (h35 : c ≠ 35) (hs : ∀ B, signL (c :: T ++ 32 :: B) = (c :: T).length) : TkLike t c T

theorem all_takeWhile (p : UInt8 → Bool) (l : List UInt8) : (l.takeWhile p).all p = true := by
  induction l with
  | nil => rfl
  | cons a l ih =>
    rw [List.takeWhile_cons]
    cases h : p a
    · rfl
    · simp [h, ih]
theorem take_takeWhile (p : UInt8 → Bool) (l : List UInt8) : l.take (l.takeWhile p).length = l.takeWhile p := by
  induction l with
  | nil => rfl
  | cons a l ih =>
    rw [List.takeWhile_cons]
    cases h : p a
    · rfl
    · simp [ih]
theorem extract_while (s : ByteArray) (p : Nat) : (s.extract p (whileN wordB s p)).data.toList = (s.data.toList.drop p).takeWhile wordB := by
  rw [ext_list]
  unfold whileN
  rw [Nat.add_sub_cancel_left]
  exact take_takeWhile _ _

theorem tok_like (s : ByteArray) (k : Nat) (h : errOf (nextV s k) = 0) (h1 : (nextV s k).1 ≠ 1) : ∃ c T, TkLike (tokOf (nextV s k)) c T := by
  unfold nextV at h h1 ⊢
  by_cases h2 : 65536 < s.size
  · rw [if_pos h2] at h; exact absurd h (by decide)
  rw [if_neg h2] at h h1 ⊢
  by_cases h3 : (k : Int) < 0 ∨ (s.size : Int) < (k : Int)
  · rw [if_pos h3] at h; exact absurd h (by decide)
  rw [if_neg h3] at h h1 ⊢
  rw [Int.toNat_natCast] at h h1 ⊢
  by_cases hp : beginN s k < s.size
  · rw [dif_pos hp] at h h1 ⊢
    generalize beginN s k = p at *
    have hdrop := drop_cons s p hp
    have hex := extract_while s p
    have hall := all_takeWhile wordB (s.data.toList.drop p)
    rw [← hex] at hall
    unfold tokV at h h1 ⊢
    by_cases hl : letterB s[p] = true
    · rw [if_pos hl] at h h1 ⊢
      have hwb : wordB s[p] = true := by unfold wordB; rw [hl]; rfl
      rw [hdrop, List.takeWhile_cons_of_pos hwb] at hex
      by_cases h32 : 32 < whileN wordB s p - p
      · rw [if_pos h32] at h; exact absurd (show (52 : Int) = 0 from h) (by decide)
      · rw [if_neg h32]
        refine ⟨_, _, TkLike.word hex rfl rfl hl (by rw [← hex]; exact hall) ?_⟩
        unfold whileN at h32
        rw [hdrop, List.takeWhile_cons_of_pos hwb] at h32
        omega
    · rw [if_neg hl] at h h1 ⊢
      by_cases hd : digitB s[p] = true
      · rw [if_pos hd] at h h1 ⊢
        have hwb : wordB s[p] = true := by unfold wordB; rw [hd]; simp
        rw [hdrop, List.takeWhile_cons_of_pos hwb] at hex
        by_cases hn : (numR (s.extract p (whileN wordB s p)).data.toList).2 = true
        · rw [if_pos hn]
          refine ⟨_, _, TkLike.number hex rfl hd (by rw [← hex]; exact hall) (by rw [← hex]; exact hn) (by rw [← hex]; rfl)⟩
        · rw [if_neg hn] at h; exact absurd (show (53 : Int) = 0 from h) (by decide)
      · rw [if_neg hd] at h h1 ⊢
        by_cases hz : signL (s.data.toList.drop p) = 0
        · rw [if_pos hz] at h; exact absurd (show (51 : Int) = 0 from h) (by decide)
        · rw [if_neg hz]
          have hxs : (s.extract p (p + signL (s.data.toList.drop p))).data.toList = (s.data.toList.drop p).take (signL (s.data.toList.drop p)) := by rw [ext_list, Nat.add_sub_cancel_left]
          rw [hdrop] at hz hxs
          obtain ⟨m, hm⟩ : ∃ m, signL (s[p] :: s.data.toList.drop (p + 1)) = m + 1 := ⟨signL (s[p] :: s.data.toList.drop (p + 1)) - 1, by omega⟩
          have hf := sign_facts hz
          have ha := fun B => sign_again (B := B) hz
          rw [hm] at ha
          rw [List.take_succ_cons] at ha
          refine ⟨s[p], (s.data.toList.drop (p + 1)).take m, TkLike.sign ?_ rfl rfl (by simpa using hl) (by simpa using hd) hf.1 hf.2 ha⟩
          show (s.extract p (p + signL (s.data.toList.drop p))).data.toList = _
          rw [hdrop, hxs, hm, List.take_succ_cons]
  · rw [dif_neg hp] at h1; exact absurd rfl h1

theorem num_letter {c : UInt8} {T : List UInt8} (hd : digitB c = false) : numR (c :: T) = (0, false) := by
  have h48 : c ≠ 48 := by intro e; rw [e] at hd; exact absurd hd (by decide)
  unfold numR numL
  rw [if_neg (by cases T <;> simp [h48]), if_neg (by rw [List.all_cons, hd]; simp)]
theorem word_no_letter {c : UInt8} {T : List UInt8} (h : letterB c = false) : wordL (c :: T) = false := by
  unfold wordL
  rw [decide_eq_false_iff_not]
  rintro ⟨_, _, ⟨d, hd, hl⟩, _⟩
  have : c = d := by simpa using hd
  rw [← this, h] at hl; cases hl
/-- what a token's text says of its kind -/
theorem tk_kinds {t : Tk} {c : UInt8} {T : List UInt8} (h : TkLike t c T) : t.kind ≠ 1 ∧ ((t.kind == 3) = (numR (c :: T)).2) ∧ ((numR (c :: T)).2 = true → (numR (c :: T)).1 = t.num) ∧ ((t.kind == 2) = wordL (c :: T)) := by
  cases h with
  | word hT hk hn hc hw hl =>
    rw [num_letter (letter_facts hc).2.2.1, hk]
    refine ⟨by decide, rfl, fun h => (by cases h), ?_⟩
    unfold wordL
    rw [decide_eq_true ⟨by simp, hl, ⟨c, rfl, hc⟩, hw⟩]; rfl
  | number hT hk hc hw hr hn =>
    rw [hk, hr, word_no_letter (digit_facts hc).2.2]
    exact ⟨by decide, rfl, fun _ => hn.symm, rfl⟩
  | sign hT hk hn hc hd hb h35 hs =>
    rw [num_letter hd, hk, word_no_letter hc]
    exact ⟨by decide, rfl, fun h => (by cases h), rfl⟩
theorem tk_text {t : Tk} {c : UInt8} {T : List UInt8} (h : TkLike t c T) : t.text.data.toList = c :: T ∧ blankB c = false ∧ c ≠ 35 := by
  cases h with
  | word hT hk hn hc hw hl => exact ⟨hT, (letter_facts hc).1, (letter_facts hc).2.1⟩
  | number hT hk hc hw hr hn => exact ⟨hT, (digit_facts hc).1, (digit_facts hc).2.1⟩
  | sign hT hk hn hc hd hb h35 hs => exact ⟨hT, hb, h35⟩
theorem take_word {c : UInt8} {T B : List UInt8} (h : (c :: T).all wordB = true) : (c :: T ++ 32 :: B).takeWhile wordB = c :: T := by
  rw [List.takeWhile_append_of_pos (fun x hx => List.all_eq_true.1 h x hx), List.takeWhile_cons_of_neg (by decide), List.append_nil]
theorem size_list (t : ByteArray) : t.size = t.data.toList.length := by simp
theorem text_of_list {a b : ByteArray} (h : a.data.toList = b.data.toList) : a = b := WideShapes.bytes_inj h

/-- the token is found again wherever its text stands, with a blank behind -/
theorem tok_again {t : Tk} {c : UInt8} {T : List UInt8} (h : TkLike t c T) {S : ByteArray} {p : Nat} {B : List UInt8} (hp : p < S.size) (hd : S.data.toList.drop p = c :: T ++ 32 :: B) :
    tokV S p (whileN wordB S p) S[p] = (t.kind, t.text, t.num, (p : Int), ((p + t.text.size : Nat) : Int), (0 : Int)) := by
  have hc0 : S[p] = c := by
    have := drop_cons S p hp
    rw [hd] at this
    simp at this
    exact this.1.symm
  have hlenw : (c :: T).all wordB = true → whileN wordB S p = p + (c :: T).length := fun hw => by
    unfold whileN; rw [hd, take_word hw]
  have hexw : (c :: T).all wordB = true → (S.extract p (whileN wordB S p)).data.toList = c :: T := fun hw => by
    rw [extract_while, hd, take_word hw]
  rw [hc0]
  cases h with
  | word hT hk hn hc hw hl =>
    have hex : S.extract p (whileN wordB S p) = t.text := text_of_list (by rw [hexw hw, hT])
    unfold tokV
    rw [if_pos hc, if_neg (by rw [hlenw hw]; omega), hex, hk, hn, size_list t.text, hT, hlenw hw]
  | number hT hk hc hw hr hn =>
    have hex : S.extract p (whileN wordB S p) = t.text := text_of_list (by rw [hexw hw, hT])
    unfold tokV
    rw [if_neg (by rw [(digit_facts hc).2.2]; decide), if_pos hc, hex, hT, if_pos hr, hk, hn, size_list t.text, hT, hlenw hw]
  | sign hT hk hn hc hd2 hb h35 hs =>
    have hex : S.extract p (p + (c :: T).length) = t.text := text_of_list (by rw [ext_list, hd, Nat.add_sub_cancel_left, hT]; simp)
    unfold tokV
    rw [if_neg (by rw [hc]; decide), if_neg (by rw [hd2]; decide), hd, hs B, if_neg (by simp), hex, hk, hn, size_list t.text, hT]
    push_cast
    rfl

/-- what is between two tokens of the text written anew -/
def gapOk (g : List UInt8) : Prop := g = [] ∨ g = [32]
theorem skip_gap {g : List UInt8} (hg : gapOk g) (l : List UInt8) : skipS false (g ++ l) = skipS false l := by
  rcases hg with rfl | rfl
  · rfl
  · show skipS false (32 :: l) = _
    rw [skipS, if_pos (by decide)]
theorem next_again {t : Tk} {c : UInt8} {T : List UInt8} (h : TkLike t c T) {S : ByteArray} {k : Nat} {g B : List UInt8} (hS : S.size ≤ 65536) (hg : gapOk g) (hd : S.data.toList.drop k = g ++ (c :: T ++ 32 :: B)) :
    nextV S (k : Int) = (t.kind, t.text, t.num, ((k + g.length : Nat) : Int), ((k + g.length + t.text.size : Nat) : Int), (0 : Int)) := by
  obtain ⟨hT, hb, h35⟩ := tk_text h
  have hlen := congrArg List.length hd
  simp only [List.length_drop, List.length_append, List.length_cons] at hlen
  have hsz : S.data.toList.length = S.size := by simp
  have hbeg : beginN S k = k + g.length := by
    unfold beginN
    rw [hd, skip_gap hg, List.cons_append, skipS, hb, if_neg (by simp), if_neg (by simpa using h35)]
    simp only [List.length_append, List.length_cons]
    omega
  have hp : k + g.length < S.size := by omega
  have hd2 : S.data.toList.drop (k + g.length) = c :: T ++ 32 :: B := by rw [← List.drop_drop, hd, List.drop_left]
  unfold nextV
  rw [if_neg (by omega), if_neg (by omega), Int.toNat_natCast]
  rw [dif_pos (by rw [hbeg]; exact hp)]
  have := tok_again h hp hd2
  simp only [hbeg]
  exact this

/-- where the tokens stand -/
inductive Stand (s : ByteArray) : Nat → List Tk → Prop
  | last {k : Nat} (hk : k ≤ s.size) : Stand s k [⟨1, nil0, 0, s.size⟩]
  | more {k p q : Nat} {t : Tk} {c : UInt8} {T : List UInt8} {l : List Tk} (hl : TkLike t c T) (h1 : k ≤ p) (h2 : p < q) (h3 : q ≤ s.size) (ht : t.text = s.extract p q) (ha : t.at_ = (p : Int)) (r : Stand s q l) : Stand s k (t :: l)

theorem stand_of (s : ByteArray) : ∀ (f k : Nat), s.size + 1 ≤ f + k → k ≤ s.size → (toksF f s k).2.1 = 0 → Stand s k (toksF f s k).1 := by
  intro f
  induction f with
  | zero => intro k h1 h2; omega
  | succ f ih =>
    intro k hf hk he
    by_cases h : errOf (nextV s k) = 0
    · obtain ⟨_, _, ⟨hend, _⟩ | ⟨p, q, _, hkp, hpq, hq, h1, htx, hat, hpl⟩⟩ := next_ok s k h
      · rw [toks_end h (by rw [hend]), hend]
        exact Stand.last hk
      · obtain ⟨c, T, hlike⟩ := tok_like s k h h1
        rw [toks_more h h1 hpl] at he ⊢
        exact Stand.more hlike hkp hpq hq htx hat (ih q (by omega) hq he)
    · rw [toks_err h] at he; exact absurd he h
theorem stand_toks {s : ByteArray} (he : (toks s).2.1 = 0) : Stand s 0 (toks s).1 := stand_of s (s.size + 2) 0 (by omega) (by omega) he

/-- the texts, one blank behind each -/
def joinL (l : List Tk) : List UInt8 := l.flatMap fun t => t.text.data.toList ++ [32]
def strip (t : Tk) : Int × ByteArray × Int := (t.kind, t.text, t.num)
theorem again_from {s : ByteArray} : ∀ {k : Nat} {l : List Tk}, Stand s k l → ∀ {S : ByteArray} {j : Nat} {g : List UInt8}, S.size ≤ 65536 → j ≤ S.size → gapOk g → S.data.toList.drop j = g ++ joinL l →
    (toksA S j).2.1 = 0 ∧ (toksA S j).1.map strip = l.map strip := by
  intro k l hst
  induction hst with
  | last hk =>
    intro S j g hS hj hg hd
    have hbeg : beginN S j = S.size := by
      unfold beginN
      rw [hd, skip_gap hg]
      show S.size - (skipS false [32]).length = _
      rfl
    have hn : nextV S (j : Int) = (1, nil0, 0, (S.size : Int), (S.size : Int), 0) := by
      unfold nextV
      rw [if_neg (by omega), if_neg (by omega), Int.toNat_natCast, dif_neg (by rw [hbeg]; omega)]
    rw [toksA_end (by rw [hn]) (by rw [hn]), hn]
    exact ⟨rfl, rfl⟩
  | @more k p q t c T l hl h1 h2 h3 ht ha r ih =>
    intro S j g hS hj hg hd
    obtain ⟨hT, _, _⟩ := tk_text hl
    have hd2 : S.data.toList.drop j = g ++ (c :: T ++ 32 :: joinL l) := by
      rw [hd]; show g ++ (t.text.data.toList ++ [32] ++ joinL l) = _; rw [hT]; simp
    have hn := next_again hl hS hg hd2
    have hlen := congrArg List.length hd2
    simp only [List.length_drop, List.length_append, List.length_cons] at hlen
    have hsz : S.data.toList.length = S.size := by simp
    have htl : t.text.size = T.length + 1 := by rw [size_list, hT]; rfl
    have hd3 : S.data.toList.drop (j + g.length + t.text.size) = [32] ++ joinL l := by
      rw [← List.drop_drop, ← List.drop_drop, hd2, List.drop_left, size_list, hT, List.drop_left]; rfl
    obtain ⟨e1, e2⟩ := ih hS (by omega) (.inr rfl) hd3
    rw [toksA_more (q := j + g.length + t.text.size) (by rw [hn]) (by rw [hn]; exact (tk_kinds hl).1) (by rw [hn]) (by omega)]
    refine ⟨e1, ?_⟩
    rw [List.map_cons, List.map_cons, e2, hn]
    rfl

/-- one token on -/
theorem stand_step {s : ByteArray} {k : Nat} {t : Tk} {l : List Tk} (h : Stand s k (t :: l)) : ∃ p : Nat, t.at_ = (p : Int) ∧ k ≤ p ∧ p + t.text.size ≤ s.size ∧ s.extract p (p + t.text.size) = t.text ∧ (t.text.size = 0 ↔ l = []) ∧
    ((t.kind == 3) = (numR t.text.data.toList).2) ∧ ((numR t.text.data.toList).2 = true → (numR t.text.data.toList).1 = t.num) ∧ ((t.kind == 2) = wordL t.text.data.toList) ∧ (l = [] ∨ Stand s (p + t.text.size) l) := by
  cases h with
  | last hk =>
    refine ⟨s.size, rfl, hk, Nat.le_refl _, ?_, ⟨fun _ => rfl, fun _ => rfl⟩, rfl, fun h => (by cases h), rfl, .inl rfl⟩
    exact text_of_list (by rw [ext_list]; simp; rfl)
  | @more _ p q _ c T _ hl h1 h2 h3 ht ha r =>
    obtain ⟨hT, _, _⟩ := tk_text hl
    obtain ⟨_, k3, kn, k2⟩ := tk_kinds hl
    have hsz : t.text.size = q - p := by rw [ht, ByteArray.size_extract]; omega
    have hq : p + t.text.size = q := by omega
    refine ⟨p, ha, h1, by rw [hq]; exact h3, by rw [hq]; exact ht.symm, ⟨fun h => by omega, fun h => ?_⟩, by rw [hT]; exact k3, by rw [hT]; exact kn, by rw [hT]; exact k2, .inr (by rw [hq]; exact r)⟩
    rw [h] at r; cases r
theorem stand_ne {s : ByteArray} {k : Nat} {l : List Tk} (h : Stand s k l) : l ≠ [] := by cases h <;> simp
theorem stand_last {s : ByteArray} {k : Nat} {l : List Tk} (h : Stand s k l) : l.getLast? = some ⟨1, nil0, 0, s.size⟩ := by
  induction h with
  | last => rfl
  | more _ _ _ _ _ _ r ih =>
    rw [List.getLast?_cons, ih]; rfl
theorem err_place (s : ByteArray) (k : Int) (h : errOf (nextV s k) ≠ 0) : 0 ≤ placeOf (nextV s k) ∧ placeOf (nextV s k) ≤ s.size := by
  unfold nextV at h ⊢
  by_cases h1 : 65536 < s.size
  · rw [if_pos h1]; exact ⟨by decide, by show (0 : Int) ≤ _; omega⟩
  rw [if_neg h1] at h ⊢
  by_cases h2 : k < 0 ∨ (s.size : Int) < k
  · rw [if_pos h2]; exact ⟨by decide, by show (0 : Int) ≤ _; omega⟩
  rw [if_neg h2] at h ⊢
  by_cases h3 : beginN s k.toNat < s.size
  · rw [dif_pos h3] at h ⊢
    unfold tokV at h ⊢
    split at h
    · rename_i hl
      rw [if_pos hl]
      split at h
      · rename_i h4; rw [if_pos h4]; exact ⟨by show (0 : Int) ≤ (beginN s k.toNat : Int); omega, by show (beginN s k.toNat : Int) ≤ _; omega⟩
      · exact absurd rfl h
    · rename_i hl
      rw [if_neg hl]
      split at h
      · rename_i hd
        rw [if_pos hd]
        split at h
        · exact absurd rfl h
        · rename_i h4; rw [if_neg h4]; exact ⟨by show (0 : Int) ≤ (beginN s k.toNat : Int); omega, by show (beginN s k.toNat : Int) ≤ _; omega⟩
      · rename_i hd
        rw [if_neg hd]
        split at h
        · rename_i h4; rw [if_pos h4]; exact ⟨by show (0 : Int) ≤ (beginN s k.toNat : Int); omega, by show (beginN s k.toNat : Int) ≤ _; omega⟩
        · exact absurd rfl h
  · rw [dif_neg h3] at h; exact absurd rfl h
theorem toksF_bound (s : ByteArray) : ∀ (f k : Nat), (toksF f s k).2.1 ≠ 0 → 0 ≤ (toksF f s k).2.2 ∧ (toksF f s k).2.2 ≤ s.size := by
  intro f
  induction f with
  | zero => intro k h; exact absurd rfl h
  | succ f ih =>
    intro k h
    by_cases he : errOf (nextV s k) = 0
    · obtain ⟨_, _, ⟨hend, _⟩ | ⟨p, q, _, hkp, hpq, hq, h1, _, _, hpl⟩⟩ := next_ok s k he
      · rw [toks_end he (by rw [hend])] at h; exact absurd rfl h
      · rw [toks_more he h1 hpl] at h ⊢
        exact ih q h
    · rw [toks_err he]; exact err_place s k he
end Go.Proofs.YtlmopoipjolbgaaDoor.LexW
