/-
  Plain words of layer 5 (lex): texts of tokens, with blanks between some of them, are cut into these tokens. · Plain words of layer 5 (lex): numbers, written and read again. · Layer 6 (policy), plain: the tokens of what is written; its text is cut into them. · Layer 6 (policy), plain: what is written is cut into the tokens that it is written of. · Layer 6 (policy), plain: the tokens of what is written are read as that. · Layer 6 (policy), plain: the tokens of an expression that is written are read as that.
-/
import Derived.Test.YtlmopoipjolbgaaGreatDoorM11
import Derived.Test.YtlmopoipjolbgaaGreatDoorM05
import Derived.Test.YtlmopoipjolbgaaGreatDoorM06
namespace Go.Proofs.YtlmopoipjolbgaaGreatDoor.LexW
open Go.RowKit Go.Shelf Go.Proofs.YtlmopoipjolbgaaGreatDoor.LexS Go.Proofs.YtlmopoipjolbgaaGreatDoorW.PrintWords
set_option linter.unusedVariables false
set_option linter.unusedSimpArgs false

/-- a sign of one byte, whatever follows -/
def aloneB (c : UInt8) : Bool := c == 59 || c == 44 || c == 40 || c == 41 || c == 38
/-- what follows doesn't make the token longer -/
def EndOk (t : Tk) (B : List UInt8) : Prop := (∃ d R, B = d :: R ∧ wordB d = false ∧ d ≠ 61) ∨ B = [] ∨ (∃ c, t.text.data.toList = [c] ∧ aloneB c = true)
theorem alone_facts {c : UInt8} (h : aloneB c = true) : letterB c = false ∧ digitB c = false ∧ (c == 61 || c == 33 || c == 60 || c == 62) = false ∧ (c == 59 || c == 44 || c == 40 || c == 41 || c == 38 || c == 60 || c == 62) = true := by
  have hc : c = 59 ∨ c = 44 ∨ c = 40 ∨ c = 41 ∨ c = 38 := by
    unfold aloneB at h; simp at h
    rcases h with (((h | h) | h) | h) | h <;> simp [h]
  rcases hc with rfl | rfl | rfl | rfl | rfl <;> decide
theorem take_end {t : Tk} {c : UInt8} {T B : List UInt8} (hT : t.text.data.toList = c :: T) (h : (c :: T).all wordB = true) (hl : letterB c = true ∨ digitB c = true) (hB : EndOk t B) : (c :: T ++ B).takeWhile wordB = c :: T := by
  rw [List.takeWhile_append_of_pos (fun x hx => List.all_eq_true.1 h x hx)]
  rcases hB with ⟨d, R, rfl, hd, _⟩ | rfl | ⟨c', h1, h2⟩
  · rw [List.takeWhile_cons_of_neg (by rw [hd]; decide), List.append_nil]
  · simp
  · rw [hT] at h1
    injection h1 with h1 _
    subst h1
    have := alone_facts h2
    rw [this.1, this.2.1] at hl
    simp at hl
theorem signL_le (l : List UInt8) : signL l ≤ 2 := by
  cases l with
  | nil => simp [signL]
  | cons c r =>
    simp only [signL]
    by_cases h1 : ((c == 61 || c == 33 || c == 60 || c == 62) && r.head? == some 61) = true
    · rw [if_pos h1]; exact Nat.le_refl 2
    · rw [if_neg h1]
      split <;> omega
theorem sign_end {t : Tk} {c : UInt8} {T B : List UInt8} (hT : t.text.data.toList = c :: T) (hs : ∀ B, signL (c :: T ++ 32 :: B) = (c :: T).length) (hB : EndOk t B) : signL (c :: T ++ B) = (c :: T).length := by
  have h0 := hs []
  have hlen : (c :: T).length ≤ 2 := by rw [← h0]; exact signL_le _
  match T, hlen with
  | [], _ =>
    have h1 : (c == 59 || c == 44 || c == 40 || c == 41 || c == 38 || c == 60 || c == 62) = true := by
      simp only [signL, List.cons_append, List.nil_append] at h0
      rw [if_neg (by simp)] at h0
      split at h0
      · assumption
      · simp at h0
    simp only [signL, List.cons_append, List.nil_append]
    rcases hB with ⟨d, R, rfl, _, hd⟩ | rfl | ⟨c', h3, h4⟩
    · rw [if_neg (by simp [hd]), if_pos h1]; rfl
    · rw [if_neg (by simp), if_pos h1]; rfl
    · rw [hT] at h3
      injection h3 with h3 _
      subst h3
      rw [if_neg (by rw [(alone_facts h4).2.2.1]; simp), if_pos h1]; rfl
  | [x], _ =>
    simp only [signL, List.cons_append, List.nil_append, List.head?_cons] at h0 ⊢
    exact h0

/-- the token is found again wherever its text stands, if what follows doesn't make it longer -/
theorem tok_flw {t : Tk} {c : UInt8} {T : List UInt8} (h : TkLike t c T) {S : ByteArray} {p : Nat} {B : List UInt8} (hp : p < S.size) (hd : S.data.toList.drop p = c :: T ++ B) (hB : EndOk t B) :
    tokV S p (whileN wordB S p) S[p] = (t.kind, t.text, t.num, (p : Int), ((p + t.text.size : Nat) : Int), (0 : Int)) := by
  have hc0 : S[p] = c := by
    have := drop_cons S p hp
    rw [hd] at this
    simp at this
    exact this.1.symm
  have hT := (tk_text h).1
  have hlenw : (c :: T).all wordB = true → (letterB c = true ∨ digitB c = true) → whileN wordB S p = p + (c :: T).length := fun hw hl => by
    unfold whileN; rw [hd, take_end hT hw hl hB]
  have hexw : (c :: T).all wordB = true → (letterB c = true ∨ digitB c = true) → (S.extract p (whileN wordB S p)).data.toList = c :: T := fun hw hl => by
    rw [extract_while, hd, take_end hT hw hl hB]
  rw [hc0]
  cases h with
  | word hT hk hn hc hw hl =>
    have hex : S.extract p (whileN wordB S p) = t.text := text_of_list (by rw [hexw hw (.inl hc), hT])
    unfold tokV
    rw [if_pos hc, if_neg (by rw [hlenw hw (.inl hc)]; omega), hex, hk, hn, size_list t.text, hT, hlenw hw (.inl hc)]
  | number hT hk hc hw hr hn =>
    have hex : S.extract p (whileN wordB S p) = t.text := text_of_list (by rw [hexw hw (.inr hc), hT])
    unfold tokV
    rw [if_neg (by rw [(digit_facts hc).2.2]; decide), if_pos hc, hex, hT, if_pos hr, hk, hn, size_list t.text, hT, hlenw hw (.inr hc)]
  | sign hT hk hn hc hd2 hb h35 hs =>
    have hex : S.extract p (p + (c :: T).length) = t.text := text_of_list (by rw [ext_list, hd, Nat.add_sub_cancel_left, hT]; simp)
    unfold tokV
    rw [if_neg (by rw [hc]; decide), if_neg (by rw [hd2]; decide), hd, sign_end hT hs hB, if_neg (by simp), hex, hk, hn, size_list t.text, hT]
    push_cast
    rfl
theorem next_flw {t : Tk} {c : UInt8} {T : List UInt8} (h : TkLike t c T) {S : ByteArray} {k : Nat} {g B : List UInt8} (hS : S.size ≤ 65536) (hg : gapS g) (hd : S.data.toList.drop k = g ++ (c :: T ++ B)) (hB : EndOk t B) :
    nextV S (k : Int) = (t.kind, t.text, t.num, ((k + g.length : Nat) : Int), ((k + g.length + t.text.size : Nat) : Int), (0 : Int)) := by
  obtain ⟨hT, hb, h35⟩ := tk_text h
  have hlen := congrArg List.length hd
  simp only [List.length_drop, List.length_append, List.length_cons] at hlen
  have hsz : S.data.toList.length = S.size := by simp
  have hbeg : beginN S k = k + g.length := by
    unfold beginN
    rw [hd, hg, List.cons_append, skipS, hb, if_neg (by simp), if_neg (by simpa using h35)]
    simp only [List.length_append, List.length_cons]
    omega
  have hp : k + g.length < S.size := by omega
  have hd2 : S.data.toList.drop (k + g.length) = c :: T ++ B := by rw [← List.drop_drop, hd, List.drop_left]
  unfold nextV
  rw [if_neg (by omega), if_neg (by omega), Int.toNat_natCast]
  rw [dif_pos (by rw [hbeg]; exact hp)]
  have := tok_flw h hp hd2 hB
  simp only [hbeg]
  exact this

/-- tokens, each with what stands ahead of it -/
abbrev Its := List (List UInt8 × Tk)
def flat : Its → List UInt8 → List UInt8
  | [], e => e
  | (g, t) :: l, e => g ++ (t.text.data.toList ++ flat l e)
theorem flat_app : ∀ (a b : Its) (e : List UInt8), flat (a ++ b) e = flat a (flat b e)
  | [], _, _ => rfl
  | (g, t) :: a, b, e => by rw [List.cons_append, flat, flat, flat_app a b e]
def ItsOk : Its → List UInt8 → Prop
  | [], e => gapS e
  | (g, t) :: l, e => gapS g ∧ (∃ c T, TkLike t c T) ∧ EndOk t (flat l e) ∧ ItsOk l e
def tkEnd : Tk := ⟨1, nil0, 0, 0⟩
theorem lexes {e : List UInt8} : ∀ (l : Its), ItsOk l e → ∀ {S : ByteArray} {j : Nat}, S.size ≤ 65536 → j ≤ S.size → S.data.toList.drop j = flat l e →
    (toksA S j).2.1 = 0 ∧ (toksA S j).1.map strip = (l.map (·.2) ++ [tkEnd]).map strip
  | [], h, S, j, hS, hj, hd => by
    have hbeg : beginN S j = S.size := by
      unfold beginN
      have := h []
      rw [List.append_nil] at this
      rw [hd]
      show S.size - (skipS false e).length = _
      rw [this]
      simp [skipS]
    have hn : nextV S (j : Int) = (1, nil0, 0, (S.size : Int), (S.size : Int), 0) := by
      unfold nextV
      rw [if_neg (by omega), if_neg (by omega), Int.toNat_natCast, dif_neg (by rw [hbeg]; omega)]
    rw [toksA_end (by rw [hn]) (by rw [hn]), hn]
    exact ⟨rfl, rfl⟩
  | (g, t) :: l, h, S, j, hS, hj, hd => by
    obtain ⟨hg, ⟨c, T, hl⟩, hE, hr⟩ := h
    obtain ⟨hT, _, _⟩ := tk_text hl
    have hd2 : S.data.toList.drop j = g ++ (c :: T ++ flat l e) := by rw [hd, flat, hT]
    have hn := next_flw hl hS hg hd2 hE
    have hlen := congrArg List.length hd2
    simp only [List.length_drop, List.length_append, List.length_cons] at hlen
    have hsz : S.data.toList.length = S.size := by simp
    have htl : t.text.size = T.length + 1 := by rw [size_list, hT]; rfl
    have hd3 : S.data.toList.drop (j + g.length + t.text.size) = flat l e := by
      rw [← List.drop_drop, ← List.drop_drop, hd2, List.drop_left, size_list, hT, List.drop_left]
    obtain ⟨e1, e2⟩ := lexes l hr hS (by omega) hd3
    rw [toksA_more (q := j + g.length + t.text.size) (by rw [hn]) (by rw [hn]; exact (tk_kinds hl).1) (by rw [hn]) (by omega)]
    refine ⟨e1, ?_⟩
    rw [List.map_cons, e2, hn]
    rfl
/-- a text of such tokens is cut into them -/
theorem toks_flat {S : ByteArray} {l : Its} {e : List UInt8} (hS : S.size ≤ 65536) (h : S.data.toList = flat l e) (ho : ItsOk l e) : (toks S).2.1 = 0 ∧ Alike (toks S).1 (l.map (·.2) ++ [tkEnd]) :=
  lexes l ho hS (Nat.zero_le _) (by rw [List.drop_zero]; exact h)
end Go.Proofs.YtlmopoipjolbgaaGreatDoor.LexW
namespace Go.Proofs.YtlmopoipjolbgaaGreatDoor.LexW
open Go.RowKit Go.Shelf Go.Proofs.YtlmopoipjolbgaaGreatDoor.LexS Go.Proofs.YtlmopoipjolbgaaGreatDoorW.PrintWords
set_option linter.unusedVariables false
set_option linter.unusedSimpArgs false

theorem valL_snoc (b : Nat) (d : UInt8 → Nat) (c : UInt8) : ∀ (l : List UInt8) (n : Nat), valL b d n (l ++ [c]) = b * valL b d n l + d c
  | [], n => rfl
  | x :: l, n => by rw [List.cons_append, valL, valL_snoc b d c l, valL]
theorem dig_byte : ∀ u, u < 10 → digitB (UInt8.ofNat (48 + u)) = true ∧ digV (UInt8.ofNat (48 + u)) = u ∧ (UInt8.ofNat (48 + u) = 48 → u = 0) := by decide
theorem dec_facts (u : Nat) : (Lib.decDigits u).all digitB = true ∧ valL 10 digV 0 (Lib.decDigits u) = u ∧ 1 ≤ (Lib.decDigits u).length ∧ (10 ≤ u → (Lib.decDigits u).head? ≠ some 48) ∧ (u < 10 → (Lib.decDigits u).length = 1) := by
  induction u using Nat.strongRecOn with
  | _ u ih =>
    by_cases h : u < 10
    · rw [Lib.decDigits, dif_pos h]
      have := dig_byte u h
      exact ⟨by rw [List.all_cons, this.1]; rfl, by show 10 * 0 + digV _ = u; rw [this.2.1]; omega, Nat.le_refl _, by omega, fun _ => rfl⟩
    · rw [Lib.decDigits, dif_neg h]
      obtain ⟨h1, h2, h3, h4, h5⟩ := ih (u / 10) (by omega)
      have hb := dig_byte (u % 10) (by omega)
      refine ⟨by rw [List.all_append, h1, List.all_cons, hb.1]; rfl, by rw [valL_snoc, h2, hb.2.1]; omega, by simp, fun _ => ?_, by omega⟩
      have hh : (Lib.decDigits (u / 10) ++ [UInt8.ofNat (48 + u % 10)]).head? = (Lib.decDigits (u / 10)).head? := by
        cases hd : Lib.decDigits (u / 10) with
        | nil => rw [hd] at h3; simp at h3
        | cons x l => rfl
      rw [hh]
      by_cases h10 : 10 ≤ u / 10
      · exact h4 h10
      · rw [Lib.decDigits, dif_pos (by omega)]
        simp only [List.head?_cons, ne_eq, Option.some.injEq]
        intro e
        have := (dig_byte (u / 10) (by omega)).2.2 e
        omega
theorem numL_dec (u : Nat) (hu : u < 18446744073709551616) : numL (Lib.decDigits u) = some u := by
  obtain ⟨h1, h2, h3, h4, h5⟩ := dec_facts u
  unfold numL
  have hp : (Lib.decDigits u).take 2 ≠ [48, 120] := by
    intro e
    have hm : (120 : UInt8) ∈ Lib.decDigits u := List.mem_of_mem_take (by rw [e]; simp)
    have := List.all_eq_true.1 h1 _ hm
    exact absurd this (by decide)
  rw [if_neg hp, if_pos (show _ ∧ _ from ⟨h3, fun ⟨ha, hb⟩ => (if h : u < 10 then by have := h5 h; omega else h4 (by omega) hb), h1, by rw [h2]; exact hu⟩), h2]
theorem hex_byte : ∀ u, u < 16 → hexB (hexD u) = true ∧ hexV (hexD u) = u := by decide
theorem hex_facts : ∀ (k u : Nat), u < 16 ^ k → 1 ≤ k → (hexN k u).all hexB = true ∧ valL 16 hexV 0 (hexN k u) = u ∧ 1 ≤ (hexN k u).length ∧ (hexN k u).length ≤ k
  | 0, u, _, h => by omega
  | k + 1, u, hu, _ => by
    by_cases h : u < 16
    · rw [hexN, if_pos h]
      have := hex_byte u h
      exact ⟨by rw [List.all_cons, this.1]; rfl, by show 16 * 0 + hexV _ = u; rw [this.2]; omega, by simp, by simp⟩
    · rw [hexN, if_neg h]
      have hk : 1 ≤ k := by
        rcases Nat.eq_zero_or_pos k with h0 | h0
        · subst h0; omega
        · exact h0
      obtain ⟨h1, h2, h3, h4⟩ := hex_facts k (u / 16) (by rw [Nat.pow_succ] at hu; omega) hk
      have hb := hex_byte (u % 16) (by omega)
      exact ⟨by rw [List.all_append, h1]; simp [hb.1], by rw [valL_snoc, h2, hb.2]; omega, by simp, by simp; omega⟩
theorem numL_hex (u : Nat) (hu : u < 18446744073709551616) : numL (48 :: 120 :: hexN 16 u) = some u := by
  obtain ⟨h1, h2, h3, h4⟩ := hex_facts 16 u (by simpa using hu) (by decide)
  unfold numL
  rw [if_pos (show List.take 2 (48 :: 120 :: hexN 16 u) = [48, 120] from rfl)]
  show (if 1 ≤ (hexN 16 u).length ∧ (hexN 16 u).length ≤ 16 ∧ (hexN 16 u).all hexB = true then _ else _) = _
  rw [if_pos ⟨h3, h4, h1⟩]
  show some (valL 16 hexV 0 (hexN 16 u)) = _
  rw [h2]
theorem digit_word {c : UInt8} (h : digitB c = true) : wordB c = true := by unfold wordB; rw [h]; simp
theorem hex_word {c : UInt8} (h : hexB c = true) : wordB c = true := by
  unfold hexB at h
  rcases Bool.or_eq_true_iff.1 h with h | h
  · exact digit_word h
  · unfold wordB letterB
    simp only [Bool.and_eq_true, decide_eq_true_eq] at h
    have h2 : c ≤ 122 := UInt8.le_trans h.2 (by decide)
    simp [h.1, h2]

def tW (x : ByteArray) : Tk := ⟨2, x, 0, 0⟩
def tS (x : ByteArray) : Tk := ⟨4, x, 0, 0⟩
def tN (x : ByteArray) (n : Int) : Tk := ⟨3, x, n, 0⟩
theorem list_ne {l : List UInt8} (h : 1 ≤ l.length) : ∃ c T, l = c :: T := by
  cases l with
  | nil => simp at h
  | cons c T => exact ⟨c, T, rfl⟩
theorem like_dec (n : Int) (h : U64 n) : ∃ c T, TkLike (tN (numB n) n) c T := by
  have h0 := h.1; have h1 := h.2
  obtain ⟨f1, f2, f3, f4, f5⟩ := dec_facts n.toNat
  obtain ⟨c, T, hT⟩ := list_ne f3
  have ht : (tN (numB n) n).text.data.toList = c :: T := by rw [← hT]; simp [tN, numB]
  have hd : digitB c = true := by rw [hT] at f1; exact List.all_eq_true.1 f1 c (by simp)
  have hn : numR (c :: T) = (n, true) := by
    unfold numR
    rw [← hT, numL_dec _ (by omega)]
    simp only [Prod.mk.injEq, and_true]
    omega
  refine ⟨c, T, TkLike.number ht rfl hd ?_ (by rw [hn]) (by rw [hn]; rfl)⟩
  rw [← hT]
  exact List.all_eq_true.2 fun x hx => digit_word (List.all_eq_true.1 f1 x hx)
theorem like_hex (n : Int) (h : U64 n) : ∃ c T, TkLike (tN (⟨#[48, 120]⟩ ++ hexT n) n) c T := by
  have h0 := h.1; have h1 := h.2
  obtain ⟨f1, f2, f3, f4⟩ := hex_facts 16 n.toNat (by rw [show (16 : Nat) ^ 16 = 18446744073709551616 by decide]; omega) (by decide)
  have ht : (tN (⟨#[48, 120]⟩ ++ hexT n) n).text.data.toList = 48 :: 120 :: hexN 16 n.toNat := by simp [tN, hexT]
  have hn : numR (48 :: 120 :: hexN 16 n.toNat) = (n, true) := by
    unfold numR
    rw [numL_hex _ (by omega)]
    simp only [Prod.mk.injEq, and_true]
    omega
  refine ⟨48, 120 :: hexN 16 n.toNat, TkLike.number ht rfl (by decide) ?_ (by rw [hn]) (by rw [hn]; rfl)⟩
  rw [List.all_cons, List.all_cons, Bool.and_eq_true, Bool.and_eq_true]
  exact ⟨by decide, by decide, List.all_eq_true.2 fun x hx => hex_word (List.all_eq_true.1 f1 x hx)⟩
theorem like_word {x : ByteArray} (h : wordL x.data.toList = true) : ∃ c T, TkLike (tW x) c T := by
  unfold wordL at h
  obtain ⟨h1, h2, ⟨c, hc, hl⟩, h4⟩ := of_decide_eq_true h
  obtain ⟨c', T, hT⟩ := list_ne h1
  rw [hT] at hc
  simp only [List.head?_cons, Option.some.injEq] at hc
  subst hc
  exact ⟨c', T, TkLike.word hT rfl rfl hl (by rw [← hT]; exact h4) (by rw [← hT]; exact h2)⟩
end Go.Proofs.YtlmopoipjolbgaaGreatDoor.LexW
namespace Go.Proofs.YtlmopoipjolbgaaGreatDoor.LexW
open Go.RowKit Go.Shelf Go.Proofs.YtlmopoipjolbgaaGreatDoor.LexS Go.Proofs.YtlmopoipjolbgaaGreatDoorW.PrintWords
set_option linter.unusedVariables false
set_option linter.unusedSimpArgs false

def gSp : List UInt8 := [32]
def gNl : List UInt8 := [10]
def parI (b : Bool) (g : List UInt8) (f : List UInt8 → Its) : Its := if b = true then (g, tS sOpen) :: (f [] ++ [([], tS sShut)]) else f g
def itT (g : List UInt8) (f m r v : Int) : Its :=
  (g, tW (amongT fieldsT f)) :: ((if m = 18446744073709551615 then [] else [(gSp, tS sAmp), (gSp, tN (⟨#[48, 120]⟩ ++ hexT m) m)]) ++ [(gSp, tS (amongT relsT (r - 1))), (gSp, tN (numB v) v)])
mutual
def itE : Ex → List UInt8 → Its
  | ⟨op, l, f, m, r, v⟩, g => if op = 1 then [(g, tW sTrue)] else if op = 2 then [(g, tW sFalse)] else if op = 3 then (g, tW sNot) :: itF op sNot l gSp else if op = 4 then itF op sAnd l g else if op = 5 then itF op sOr l g else itT g f m r v
/-- arguments, the first behind g -/
def itF (op : Int) (sep : ByteArray) : List Ex → List UInt8 → Its
  | [], _ => []
  | x :: l, g => parI (aroundB op x.f0) g (itE x) ++ itM op sep l
/-- further ones, each behind a word -/
def itM (op : Int) (sep : ByteArray) : List Ex → Its
  | [] => []
  | x :: l => (gSp, tW sep) :: (parI (aroundB op x.f0) gSp (itE x) ++ itM op sep l)
end
def itV (g : List UInt8) (v : Vd) : Its := (g, tW (vdW v).1) :: (if (vdW v).2.2 = true then [(gSp, tN (numB v.f1) v.f1)] else [])
def tkC (c : Cl) : Tk := if c.f0 = nil0 then tN (numB c.f1) c.f1 else tW c.f0
def itC : List Cl → Its
  | [] => []
  | c :: l => ([], tS sComma) :: (gSp, tkC c) :: itC l
def itCs : List Cl → Its
  | [] => []
  | c :: l => (gSp, tkC c) :: itC l
def itR (r : Rl) : Its := (gNl, tW sOn) :: (itCs r.f0 ++ ((if r.f1.f0 = 1 then [] else (gSp, tW sWhen) :: itE r.f1 gSp) ++ ((gSp, tW sDo) :: (itV gSp r.f2 ++ [([], tS sSemi)]))))
def itP (p : Po) : Its :=
  ([], tW sArch) :: (gSp, tW p.arch) :: ([], tS sSemi) :: (gNl, tW sForeign) :: (itV gSp p.foreign ++ (([], tS sSemi) :: (gNl, tW sDefault) :: (itV gSp p.dflt ++ (([], tS sSemi) :: p.rules.flatMap itR))))

/-! ### their text -/
theorem flat_par (b : Bool) (g e : List UInt8) (f : List UInt8 → Its) (s : ByteArray) (h : ∀ g e, flat (f g) e = g ++ (s.data.toList ++ e)) : flat (parI b g f) e = g ++ ((parT b s).data.toList ++ e) := by
  unfold parI parT
  split
  · rw [flat, flat_app, h, ba_app, ba_app]
    simp [flat, tS, sOpen, sShut]
  · exact h g e
theorem flat_test (g e : List UInt8) (f m r v : Int) : flat (itT g f m r v) e = g ++ ((testT f m r v).data.toList ++ e) := by
  unfold itT testT
  split
  · simp only [List.nil_append, flat, ba_app, List.append_assoc, tW, tS, tN]
    rfl
  · simp only [List.cons_append, List.nil_append, flat, ba_app, List.append_assoc, tW, tS, tN]
    rfl
mutual
theorem flat_itE : ∀ x : Ex, okE x → ∀ g e, flat (itE x g) e = g ++ ((prE x).data.toList ++ e)
  | ⟨op, l, f, m, r, v⟩, h, g, e => by
    have hn := h.1
    obtain ⟨h1, h6, h3, h45, h126, ht, hz, hm, hv⟩ := hn
    rw [itE, prE]
    unfold nodeT
    by_cases o1 : op = 1
    · rw [if_pos o1, if_pos o1]; rfl
    · rw [if_neg o1, if_neg o1]
      by_cases o2 : op = 2
      · rw [if_pos o2, if_pos o2]; rfl
      · rw [if_neg o2, if_neg o2]
        by_cases o3 : op = 3
        · rw [if_pos o3, if_pos o3]
          match l, h3 o3, h.2 with
          | [y], _, hl =>
            have hy := flat_par (aroundB op y.f0) gSp e (itE y) (prE y) (flat_itE y hl.1)
            rw [flat, itF, itM, List.append_nil, hy, prL, prL, joinT_one, ba_app, List.append_assoc]
            show g ++ (sNot.data.toList ++ ([32] ++ _)) = g ++ (sNotS.data.toList ++ _)
            rfl
        · rw [if_neg o3, if_neg o3]
          by_cases o4 : op = 4
          · rw [if_pos o4, if_pos o4]
            exact flat_itF op sAnd sAndS (by rfl) l h.2 (by intro e2; rw [e2] at h45; have := h45 (.inl o4); simp at this) g e
          · rw [if_neg o4, if_neg o4]
            by_cases o5 : op = 5
            · rw [if_pos o5, if_pos o5]
              exact flat_itF op sOr sOrS (by rfl) l h.2 (by intro e2; rw [e2] at h45; have := h45 (.inr o5); simp at this) g e
            · rw [if_neg o5, if_neg o5]
              exact flat_test g e f m r v
theorem flat_itF (op : Int) (sep sepS : ByteArray) (hs : sepS.data.toList = [32] ++ (sep.data.toList ++ [32])) : ∀ l : List Ex, okL l → l ≠ [] → ∀ g e, flat (itF op sep l g) e = g ++ ((joinT sepS (prL op l)).data.toList ++ e)
  | [], _, h, _, _ => absurd rfl h
  | x :: l, h, _, g, e => by
    rw [itF, flat_app, flat_par (aroundB op x.f0) g _ (itE x) (prE x) (flat_itE x h.1), flat_itM op sep sepS hs l h.2 e, prL, joinT_list, List.map_cons, Lib.join_cons]
    simp only [List.append_assoc]
theorem flat_itM (op : Int) (sep sepS : ByteArray) (hs : sepS.data.toList = [32] ++ (sep.data.toList ++ [32])) : ∀ l : List Ex, okL l → ∀ e, flat (itM op sep l) e = Lib.joinTail sepS.data.toList ((prL op l).map (·.data.toList)) ++ e
  | [], _, e => by rw [itM, flat, prL]; rfl
  | x :: l, h, e => by
    rw [itM, flat, flat_app, flat_par (aroundB op x.f0) gSp _ (itE x) (prE x) (flat_itE x h.1), flat_itM op sep sepS hs l h.2 e, prL, List.map_cons]
    show [32] ++ (sep.data.toList ++ ([32] ++ _)) = _
    unfold Lib.joinTail
    rw [List.map_cons, List.flatten_cons, hs]
    simp only [List.append_assoc]
end
theorem flat_itV (g e : List UInt8) (v : Vd) : flat (itV g v) e = g ++ ((vdT v).data.toList ++ e) := by
  unfold itV vdT
  split
  · simp only [flat, ba_app, List.append_assoc, tW, tN]; rfl
  · simp only [flat, tW, tN]
theorem tkC_text {c : Cl} : (tkC c).text = callT c := by unfold tkC callT; split <;> rfl
theorem flat_itC : ∀ (l : List Cl) (e : List UInt8), flat (itC l) e = Lib.joinTail sCommaS.data.toList ((l.map callT).map (·.data.toList)) ++ e
  | [], e => rfl
  | c :: l, e => by
    rw [itC, flat, flat, flat_itC l e, tkC_text]
    unfold Lib.joinTail
    rw [List.map_cons, List.map_cons, List.map_cons, List.flatten_cons]
    simp only [List.append_assoc]
    rfl
theorem flat_itCs : ∀ (l : List Cl) (e : List UInt8), l ≠ [] → flat (itCs l) e = [32] ++ ((joinT sCommaS (l.map callT)).data.toList ++ e)
  | [], e, h => absurd rfl h
  | c :: l, e, _ => by
    rw [itCs, flat, flat_itC l e, tkC_text, joinT_list, List.map_cons, List.map_cons, Lib.join_cons]
    simp only [List.append_assoc]
    rfl
theorem flat_itR {r : Rl} (h : okR r) (e : List UInt8) : flat (itR r) ([10] ++ e) = [10] ++ ((ruleT r).data.toList.dropLast ++ ([10] ++ e)) := by
  have hd : (ruleT r).data.toList.dropLast = (sOn.data.toList ++ ([32] ++ ((joinT sCommaS (r.f0.map callT)).data.toList ++ ((whenT r.f1).data.toList ++ (sDoS.data.toList ++ ((vdT r.f2).data.toList ++ [59])))))) := by
    have e1 : (ruleT r).data.toList = (sOn.data.toList ++ ([32] ++ ((joinT sCommaS (r.f0.map callT)).data.toList ++ ((whenT r.f1).data.toList ++ (sDoS.data.toList ++ ((vdT r.f2).data.toList ++ [59])))))) ++ [10] := by
      unfold ruleT
      simp only [ba_app, List.append_assoc]
      rfl
    rw [e1, List.dropLast_concat]
  rw [hd]
  unfold itR
  rw [flat, flat_app, flat_itCs _ _ h.ne, flat_app]
  unfold whenT
  split
  · rw [flat, flat, flat_app, flat_itV, flat, flat]
    simp only [List.append_assoc, tW, tS]
    rfl
  · rw [flat, flat_itE _ h.cond, flat, flat_app, flat_itV, flat, flat, ba_app]
    simp only [List.append_assoc, tW, tS]
    rfl
end Go.Proofs.YtlmopoipjolbgaaGreatDoor.LexW
namespace Go.Proofs.YtlmopoipjolbgaaGreatDoor.LexW
open Go.RowKit Go.Shelf Go.Proofs.YtlmopoipjolbgaaGreatDoor.LexS Go.Proofs.YtlmopoipjolbgaaGreatDoorW.PrintWords
set_option linter.unusedVariables false
set_option linter.unusedSimpArgs false

/-- nothing that could belong to the token ahead -/
def Safe (B : List UInt8) : Prop := (∃ d R, B = d :: R ∧ wordB d = false ∧ d ≠ 61) ∨ B = []
theorem Safe.ends {B : List UInt8} (h : Safe B) (t : Tk) : EndOk t B := h.elim .inl (fun h => .inr (.inl h))
theorem safe_sp (B : List UInt8) : Safe (32 :: B) := .inl ⟨32, B, rfl, by decide, by decide⟩
theorem safe_nl (B : List UInt8) : Safe (10 :: B) := .inl ⟨10, B, rfl, by decide, by decide⟩
theorem safe_semi (B : List UInt8) : Safe (59 :: B) := .inl ⟨59, B, rfl, by decide, by decide⟩
theorem safe_comma (B : List UInt8) : Safe (44 :: B) := .inl ⟨44, B, rfl, by decide, by decide⟩
theorem safe_shut (B : List UInt8) : Safe (41 :: B) := .inl ⟨41, B, rfl, by decide, by decide⟩
theorem gap_sp : gapS gSp := fun l => by show skipS false (32 :: l) = _; rw [skipS, if_pos (by decide)]
theorem gap_nl : gapS gNl := fun l => by show skipS false (10 :: l) = _; rw [skipS, if_pos (by decide)]
theorem its_cons {g : List UInt8} {t : Tk} {l : Its} {e : List UInt8} (hg : gapS g) (hl : ∃ c T, TkLike t c T) (hE : EndOk t (flat l e)) (h : ItsOk l e) : ItsOk ((g, t) :: l) e := ⟨hg, hl, hE, h⟩
theorem sign_like (x : ByteArray) (c : UInt8) (T : List UInt8) (hx : x.data.toList = c :: T) (hc : letterB c = false) (hd : digitB c = false) (hb : blankB c = false) (h35 : c ≠ 35) (hs : ∀ B, signL (c :: T ++ 32 :: B) = (c :: T).length) : ∃ c T, TkLike (tS x) c T := ⟨c, T, TkLike.sign hx rfl rfl hc hd hb h35 hs⟩
theorem like_alone (x : ByteArray) (c : UInt8) (hx : x.data.toList = [c]) (hc : aloneB c = true) : ∃ c T, TkLike (tS x) c T := by
  have hf := alone_facts hc
  have h2 : blankB c = false ∧ c ≠ 35 := by
    unfold aloneB at hc; simp at hc
    rcases hc with (((h | h) | h) | h) | h <;> (subst h; decide)
  refine sign_like x c [] hx hf.1 hf.2.1 h2.1 h2.2 (fun B => ?_)
  show signL (c :: 32 :: B) = 1
  simp only [signL]
  rw [if_neg (by rw [hf.2.2.1]; simp), if_pos hf.2.2.2]
theorem like_open : ∃ c T, TkLike (tS sOpen) c T := like_alone _ 40 rfl rfl
theorem like_shut : ∃ c T, TkLike (tS sShut) c T := like_alone _ 41 rfl rfl
theorem like_amp : ∃ c T, TkLike (tS sAmp) c T := like_alone _ 38 rfl rfl
theorem like_semi : ∃ c T, TkLike (tS sSemi) c T := like_alone _ 59 rfl rfl
theorem like_comma : ∃ c T, TkLike (tS sComma) c T := like_alone _ 44 rfl rfl
theorem like_rel : ∀ i, i < 6 → ∃ c T, TkLike (tS (relsT.getD i nil0)) c T
  | 0, _ => sign_like _ 61 [61] rfl rfl rfl rfl (by decide) (fun B => rfl)
  | 1, _ => sign_like _ 33 [61] rfl rfl rfl rfl (by decide) (fun B => rfl)
  | 2, _ => sign_like _ 60 [] rfl rfl rfl rfl (by decide) (fun B => rfl)
  | 3, _ => sign_like _ 60 [61] rfl rfl rfl rfl (by decide) (fun B => rfl)
  | 4, _ => sign_like _ 62 [] rfl rfl rfl rfl (by decide) (fun B => rfl)
  | 5, _ => sign_like _ 62 [61] rfl rfl rfl rfl (by decide) (fun B => rfl)
  | n + 6, h => absurd h (by omega)
theorem like_lit (x : ByteArray) (h : wordL x.data.toList = true) : ∃ c T, TkLike (tW x) c T := like_word h
theorem word_fields : ∀ i, i < 7 → wordL (fieldsT.getD i nil0).data.toList = true := by decide
theorem word_words : ∀ i, i < 8 → wordL (wordsT.getD i (nil0, 0, false)).1.data.toList = true := by decide

theorem ok_test {g : List UInt8} {f m r v : Int} {rest : Its} {e : List UInt8} (hf : 0 ≤ f ∧ f ≤ 6 ∧ 1 ≤ r ∧ r ≤ 6) (hm : U64 m) (hv : U64 v) (hg : gapS g) (hr : ItsOk rest e) (hs : Safe (flat rest e)) : ItsOk (itT g f m r v ++ rest) e := by
  have hfw : ∃ c T, TkLike (tW (amongT fieldsT f)) c T := by
    rw [among_eq _ _ hf.1 (by show f < 7; omega)]
    exact like_word (word_fields _ (by omega))
  have hrw : ∃ c T, TkLike (tS (amongT relsT (r - 1))) c T := by
    rw [among_eq _ _ (by omega) (by show r - 1 < 6; omega)]
    exact like_rel _ (by omega)
  have h2 : ItsOk ((gSp, tS (amongT relsT (r - 1))) :: (gSp, tN (numB v) v) :: rest) e := its_cons gap_sp hrw ((safe_sp _).ends _) (its_cons gap_sp (like_dec v hv) (hs.ends _) hr)
  unfold itT
  split
  · exact its_cons hg hfw ((safe_sp _).ends _) h2
  · exact its_cons hg hfw ((safe_sp _).ends _) (its_cons gap_sp like_amp ((safe_sp _).ends _) (its_cons gap_sp (like_hex m hm) ((safe_sp _).ends _) h2))
theorem ok_par {b : Bool} {g : List UInt8} {f : List UInt8 → Its} {rest : Its} {e : List UInt8} (h : ∀ g rest e, gapS g → ItsOk rest e → Safe (flat rest e) → ItsOk (f g ++ rest) e) (hg : gapS g) (hr : ItsOk rest e) (hs : Safe (flat rest e)) : ItsOk (parI b g f ++ rest) e := by
  unfold parI
  split
  · rw [List.cons_append, List.append_assoc]
    refine its_cons hg like_open (.inr (.inr ⟨40, rfl, rfl⟩)) (h _ _ _ gapS.nil ?_ ?_)
    · exact its_cons gapS.nil like_shut (.inr (.inr ⟨41, rfl, rfl⟩)) hr
    · exact safe_shut _
  · exact h _ _ _ hg hr hs
theorem safe_itM {op : Int} {sep : ByteArray} {l : List Ex} {rest : Its} {e : List UInt8} (hs : Safe (flat rest e)) : Safe (flat (itM op sep l ++ rest) e) := by
  cases l with
  | nil => rw [itM, List.nil_append]; exact hs
  | cons x l => rw [itM]; exact safe_sp _
mutual
theorem ok_itE : ∀ x : Ex, okE x → ∀ (g : List UInt8) (rest : Its) (e : List UInt8), gapS g → ItsOk rest e → Safe (flat rest e) → ItsOk (itE x g ++ rest) e
  | ⟨op, l, f, m, r, v⟩, h, g, rest, e, hg, hr, hs => by
    obtain ⟨h1, h6, h3, h45, h126, ht, hz, hm, hv⟩ := h.1
    rw [itE]
    by_cases o1 : op = 1
    · rw [if_pos o1]; exact its_cons hg (like_lit sTrue (by decide)) (hs.ends _) hr
    · rw [if_neg o1]
      by_cases o2 : op = 2
      · rw [if_pos o2]; exact its_cons hg (like_lit sFalse (by decide)) (hs.ends _) hr
      · rw [if_neg o2]
        by_cases o3 : op = 3
        · rw [if_pos o3]
          match l, h3 o3, h.2 with
          | [y], _, hl =>
            rw [itF, itM, List.append_nil, List.cons_append]
            refine its_cons hg (like_lit sNot (by decide)) ?_ (ok_par (fun g rest e a b c => ok_itE y hl.1 g rest e a b c) gap_sp hr hs)
            have hfl := flat_par (aroundB op y.f0) gSp (flat rest e) (itE y) (prE y) (flat_itE y hl.1)
            rw [flat_app, hfl]
            exact (safe_sp _).ends _
        · rw [if_neg o3]
          by_cases o4 : op = 4
          · rw [if_pos o4]
            exact ok_itF op sAnd (by decide) l h.2 (by intro e2; rw [e2] at h45; have := h45 (.inl o4); simp at this) g rest e hg hr hs
          · rw [if_neg o4]
            by_cases o5 : op = 5
            · rw [if_pos o5]
              exact ok_itF op sOr (by decide) l h.2 (by intro e2; rw [e2] at h45; have := h45 (.inr o5); simp at this) g rest e hg hr hs
            · rw [if_neg o5]
              exact ok_test (ht (by omega)) hm hv hg hr hs
theorem ok_itF (op : Int) (sep : ByteArray) (hw : wordL sep.data.toList = true) : ∀ l : List Ex, okL l → l ≠ [] → ∀ (g : List UInt8) (rest : Its) (e : List UInt8), gapS g → ItsOk rest e → Safe (flat rest e) → ItsOk (itF op sep l g ++ rest) e
  | [], _, h, _, _, _, _, _, _ => absurd rfl h
  | x :: l, h, _, g, rest, e, hg, hr, hs => by
    rw [itF, List.append_assoc]
    exact ok_par (fun g rest e a b c => ok_itE x h.1 g rest e a b c) hg (ok_itM op sep hw l h.2 rest e hr hs) (safe_itM hs)
theorem ok_itM (op : Int) (sep : ByteArray) (hw : wordL sep.data.toList = true) : ∀ l : List Ex, okL l → ∀ (rest : Its) (e : List UInt8), ItsOk rest e → Safe (flat rest e) → ItsOk (itM op sep l ++ rest) e
  | [], _, rest, e, hr, hs => by rw [itM]; exact hr
  | x :: l, h, rest, e, hr, hs => by
    rw [itM, List.cons_append, List.append_assoc]
    refine its_cons gap_sp (like_lit sep hw) ?_ (ok_par (fun g rest e a b c => ok_itE x h.1 g rest e a b c) gap_sp (ok_itM op sep hw l h.2 rest e hr hs) (safe_itM hs))
    rw [flat_app, flat_par (aroundB op x.f0) gSp _ (itE x) (prE x) (flat_itE x h.1)]
    exact (safe_sp _).ends _
end
theorem ok_itV {g : List UInt8} {v : Vd} {rest : Its} {e : List UInt8} (h : okV v) (hg : gapS g) (hr : ItsOk rest e) (hs : Safe (flat rest e)) : ItsOk (itV g v ++ rest) e := by
  have hw : ∃ c T, TkLike (tW (vdW v).1) c T := like_word (word_words _ (by have := h.1; have := h.2.1; omega))
  unfold itV
  split
  · exact its_cons hg hw ((safe_sp _).ends _) (its_cons gap_sp (like_dec _ h.2.2.1) (hs.ends _) hr)
  · exact its_cons hg hw (hs.ends _) hr
theorem like_call {c : Cl} (h : okC c) : ∃ c' T, TkLike (tkC c) c' T := by
  unfold tkC
  rcases h with ⟨h1, h2⟩ | ⟨h1, h2⟩
  · rw [if_pos h1]; exact like_dec _ h2
  · split
    · rw [h1]; exact like_dec 0 u64_0
    · exact like_word h2
theorem ok_itC : ∀ (l : List Cl) (rest : Its) (e : List UInt8), (∀ c ∈ l, okC c) → ItsOk rest e → Safe (flat rest e) → ItsOk (itC l ++ rest) e ∧ Safe (flat (itC l ++ rest) e)
  | [], rest, e, _, hr, hs => ⟨hr, hs⟩
  | c :: l, rest, e, h, hr, hs => by
    obtain ⟨h1, h2⟩ := ok_itC l rest e (fun x hx => h x (List.mem_cons_of_mem _ hx)) hr hs
    rw [itC]
    exact ⟨its_cons gapS.nil like_comma (.inr (.inr ⟨44, rfl, rfl⟩)) (its_cons gap_sp (like_call (h c (by simp))) (h2.ends _) h1), safe_comma _⟩
theorem ok_itCs (l : List Cl) (rest : Its) (e : List UInt8) (h : ∀ c ∈ l, okC c) (hne : l ≠ []) (hr : ItsOk rest e) (hs : Safe (flat rest e)) : ItsOk (itCs l ++ rest) e ∧ Safe (flat (itCs l ++ rest) e) := by
  match l, hne with
  | c :: l, _ =>
    obtain ⟨h1, h2⟩ := ok_itC l rest e (fun x hx => h x (List.mem_cons_of_mem _ hx)) hr hs
    rw [itCs]
    exact ⟨its_cons gap_sp (like_call (h c (by simp))) (h2.ends _) h1, safe_sp _⟩
theorem ok_itR {r : Rl} (h : okR r) {rest : Its} {e : List UInt8} (hr : ItsOk rest e) (hs : Safe (flat rest e)) : ItsOk (itR r ++ rest) e := by
  unfold itR
  have h1 : ItsOk ([([], tS sSemi)] ++ rest) e := its_cons gapS.nil like_semi (.inr (.inr ⟨59, rfl, rfl⟩)) hr
  have h2 := ok_itV (g := gSp) h.verd gap_sp h1 (safe_semi _)
  have h3 : ItsOk ((gSp, tW sDo) :: (itV gSp r.f2 ++ ([([], tS sSemi)] ++ rest))) e := its_cons gap_sp (like_lit sDo (by decide)) (by rw [flat_app, flat_itV]; exact (safe_sp _).ends _) h2
  have h4 : ItsOk ((if r.f1.f0 = 1 then [] else (gSp, tW sWhen) :: itE r.f1 gSp) ++ ((gSp, tW sDo) :: (itV gSp r.f2 ++ ([([], tS sSemi)] ++ rest)))) e ∧ Safe (flat ((if r.f1.f0 = 1 then [] else (gSp, tW sWhen) :: itE r.f1 gSp) ++ ((gSp, tW sDo) :: (itV gSp r.f2 ++ ([([], tS sSemi)] ++ rest)))) e) := by
    split
    · exact ⟨h3, safe_sp _⟩
    · refine ⟨its_cons gap_sp (like_lit sWhen (by decide)) ?_ (ok_itE _ h.cond _ _ _ gap_sp h3 (safe_sp _)), safe_sp _⟩
      show EndOk _ (flat (itE r.f1 gSp ++ _) e)
      rw [flat_app, flat_itE _ h.cond]
      exact (safe_sp _).ends _
  obtain ⟨h5, h6⟩ := ok_itCs r.f0 _ e h.calls h.ne h4.1 h4.2
  have : ((gNl, tW sOn) :: (itCs r.f0 ++ ((if r.f1.f0 = 1 then [] else (gSp, tW sWhen) :: itE r.f1 gSp) ++ ((gSp, tW sDo) :: (itV gSp r.f2 ++ [([], tS sSemi)]))))) ++ rest =
      (gNl, tW sOn) :: (itCs r.f0 ++ ((if r.f1.f0 = 1 then [] else (gSp, tW sWhen) :: itE r.f1 gSp) ++ ((gSp, tW sDo) :: (itV gSp r.f2 ++ ([([], tS sSemi)] ++ rest))))) := by simp only [List.cons_append, List.append_assoc]
  rw [this]
  exact its_cons gap_nl (like_lit sOn (by decide)) (h6.ends _) h5
theorem ok_rules : ∀ l : List Rl, (∀ r ∈ l, okR r) → ItsOk (l.flatMap itR) [10] ∧ flat (l.flatMap itR) [10] = [10] ++ l.flatMap (fun r => (ruleT r).data.toList)
  | [], _ => ⟨gap_nl, rfl⟩
  | r :: l, h => by
    obtain ⟨h1, h2⟩ := ok_rules l (fun x hx => h x (List.mem_cons_of_mem _ hx))
    have hr := h r (by simp)
    rw [List.flatMap_cons]
    refine ⟨ok_itR hr h1 (by rw [h2]; exact safe_nl _), ?_⟩
    have hl : (ruleT r).data.toList = (ruleT r).data.toList.dropLast ++ [10] := by
      have e1 : (ruleT r).data.toList = (((sOnS ++ joinT sCommaS (r.f0.map callT)) ++ whenT r.f1).data.toList ++ ((sDoS ++ vdT r.f2).data.toList ++ [59])) ++ [10] := by
        unfold ruleT
        simp only [ba_app, List.append_assoc]
        rfl
      rw [e1, List.dropLast_concat]
    rw [flat_app, h2, flat_itR hr, List.flatMap_cons]
    conv => rhs; rw [hl]
    simp only [List.append_assoc]
theorem ok_itP {p : Po} (h : okP p) : ItsOk (itP p) [10] ∧ flat (itP p) [10] = outL p p.rules.length := by
  obtain ⟨h1, h2⟩ := ok_rules p.rules h.rules
  have hs : Safe (flat (p.rules.flatMap itR) [10]) := by rw [h2]; exact safe_nl _
  have a1 : ItsOk (([], tS sSemi) :: p.rules.flatMap itR) [10] := its_cons gapS.nil like_semi (.inr (.inr ⟨59, rfl, rfl⟩)) h1
  have a2 := ok_itV (g := gSp) h.dflt gap_sp a1 (safe_semi _)
  have a3 : ItsOk (([], tS sSemi) :: (gNl, tW sDefault) :: (itV gSp p.dflt ++ (([], tS sSemi) :: p.rules.flatMap itR))) [10] := its_cons gapS.nil like_semi (.inr (.inr ⟨59, rfl, rfl⟩)) (its_cons gap_nl (like_lit sDefault (by decide)) (by rw [flat_app, flat_itV]; exact (safe_sp _).ends _) a2)
  have a4 := ok_itV (g := gSp) h.forn gap_sp a3 (safe_semi _)
  refine ⟨?_, ?_⟩
  · unfold itP
    exact its_cons gapS.nil (like_lit sArch (by decide)) ((safe_sp _).ends _) (its_cons gap_sp (like_word h.arch) ((safe_semi _).ends _) (its_cons gapS.nil like_semi (.inr (.inr ⟨59, rfl, rfl⟩)) (its_cons gap_nl (like_lit sForeign (by decide)) (by rw [flat_app, flat_itV]; exact (safe_sp _).ends _) a4)))
  · unfold itP outL headT
    rw [List.take_length]
    simp only [flat, flat_app, flat_itV, h2, ba_app, List.append_assoc, tW, tS]
    rfl
/-- what is written, cut -/
theorem prP_toks {p : Po} (h : okP p) (hz : (prP p).size ≤ 65536) : (toks (prP p)).2.1 = 0 ∧ Alike (toks (prP p)).1 ((itP p).map (·.2) ++ [tkEnd]) :=
  toks_flat hz (by rw [(ok_itP h).2]; simp [prP]) (ok_itP h).1
theorem prE_toks {x : Ex} (h : okE x) (hz : (prE x).size ≤ 65536) : (toks (prE x)).2.1 = 0 ∧ Alike (toks (prE x)).1 ((itE x []).map (·.2) ++ [tkEnd]) := by
  have h1 := ok_itE x h [] [] [] gapS.nil gapS.nil (.inr rfl)
  rw [List.append_nil] at h1
  exact toks_flat (e := []) hz (by rw [flat_itE x h]; simp) h1
end Go.Proofs.YtlmopoipjolbgaaGreatDoor.LexW
namespace Go.Proofs.YtlmopoipjolbgaaGreatDoor.LexW
open Go.RowKit Go.Shelf Go.Proofs.YtlmopoipjolbgaaGreatDoor.LexS Go.Proofs.YtlmopoipjolbgaaGreatDoorW.PrintWords
set_option linter.unusedVariables false
set_option linter.unusedSimpArgs false

abbrev tks (l : Its) : List Tk := l.map (·.2)
theorem tks_app (a b : Its) : tks (a ++ b) = tks a ++ tks b := List.map_append
theorem step_ne {ep : EP} {t : Tk} {L : List Tk} (h : L ≠ []) : stepP ep (t :: L) = .ok L := by
  cases L with
  | nil => exact absurd rfl h
  | cons a L => rfl
theorem want_yes {ep : EP} {x : ByteArray} {t : Tk} {L : List Tk} (h : isT x t = true) (hL : L ≠ []) : wantP ep x (t :: L) = .ok ((), L) := by
  unfold wantP
  rw [if_pos (show isT x (hdT (t :: L)) = true from h), step_ne hL]; rfl
theorem maybe_yes {ep : EP} {x : ByteArray} {t : Tk} {L : List Tk} (h : isT x t = true) (hL : L ≠ []) : maybeP ep x (t :: L) = .ok (true, L) := by
  unfold maybeP
  rw [if_pos (show isT x (hdT (t :: L)) = true from h), step_ne hL]; rfl
theorem maybe_no {ep : EP} {x : ByteArray} {L : List Tk} (h : isT x (hdT L) = false) : maybeP ep x L = .ok (false, L) := by
  unfold maybeP
  rw [if_neg (by rw [h]; decide)]
theorem kind_yes {ep : EP} {k : Int} {t : Tk} {L : List Tk} (h : t.kind = k) (hk : k ≠ 1) (hL : L ≠ []) : kindP ep k (t :: L) = .ok (t, L) := by
  unfold kindP
  rw [if_pos (show (hdT (t :: L)).kind = k from h), if_neg hk, step_ne hL]; rfl
theorem kn_yes {ep : EP} (x : ByteArray) (n : Int) {L : List Tk} (hL : L ≠ []) : kindP ep 3 (tN x n :: L) = .ok (tN x n, L) := kind_yes rfl (by decide) hL
theorem kw_yes {ep : EP} (x : ByteArray) {L : List Tk} (hL : L ≠ []) : kindP ep 2 (tW x :: L) = .ok (tW x, L) := kind_yes rfl (by decide) hL

/-! ### a test -/
theorem field_not : ∀ i, i < 7 → isT sNot (tW (fieldsT.getD i nil0)) = false ∧ isT sOpen (tW (fieldsT.getD i nil0)) = false ∧ isT sTrue (tW (fieldsT.getD i nil0)) = false ∧ isT sFalse (tW (fieldsT.getD i nil0)) = false ∧
    fieldsT.findIdx? (fun x => isT x (tW (fieldsT.getD i nil0))) = some i := by decide
theorem rel_read : ∀ i, i < 6 → relF (tS (relsT.getD i nil0)) 6 = (i : Int) + 1 ∧ isT sAmp (tS (relsT.getD i nil0)) = false := by decide
theorem test_read (ep : EP) {f m r v : Int} (hf : 0 ≤ f ∧ f ≤ 6 ∧ 1 ≤ r ∧ r ≤ 6) (g : List UInt8) {R : List Tk} (hR : R ≠ []) (k : Nat) : oneP ep k (tks (itT g f m r v) ++ R) = .ok (⟨6, [], f, m, r, v⟩, R) := by
  obtain ⟨i, hi⟩ : ∃ i : Nat, f = (i : Int) := ⟨f.toNat, by omega⟩
  obtain ⟨j, hj⟩ : ∃ j : Nat, r = (j : Int) + 1 := ⟨(r - 1).toNat, by omega⟩
  have hfw : amongT fieldsT f = fieldsT.getD i nil0 := by rw [among_eq _ _ hf.1 (by show f < 7; omega), hi]; rfl
  have hrw : amongT relsT (r - 1) = relsT.getD j nil0 := by rw [among_eq _ _ (by omega) (by show r - 1 < 6; omega), hj]; congr 1; omega
  obtain ⟨n1, n2, n3, n4, n5⟩ := field_not i (by omega)
  obtain ⟨r1, r2⟩ := rel_read j (by omega)
  have hat : atomP ep (tks (itT g f m r v) ++ R) = .ok (⟨6, [], f, m, r, v⟩, R) := by
    unfold itT
    rw [hfw, hrw]
    show atomP ep (tW (fieldsT.getD i nil0) :: _) = _
    unfold atomP
    rw [if_neg (by show ¬ isT sTrue (tW _) = true; rw [n3]; decide), if_neg (by show ¬ isT sFalse (tW _) = true; rw [n4]; decide)]
    rw [show fieldsT.findIdx? (fun x => isT x (hdT (tW (fieldsT.getD i nil0) :: _))) = some i from n5]
    show testP ep (i : Int) _ = _
    unfold testP
    by_cases hm : m = 18446744073709551615
    · rw [if_pos hm]
      simp only [List.nil_append, tks, List.map_cons, List.map_nil, List.cons_append]
      rw [step_ne (by simp), bnd_ok]
      have hmask : maskP ep (tS (relsT.getD j nil0) :: tN (numB v) v :: R) = .ok (18446744073709551615, tS (relsT.getD j nil0) :: tN (numB v) v :: R) := by
        unfold maskP
        rw [if_pos (by rfl), maybe_no (by exact r2), bnd_ok]
        rfl
      show bnd (maskP ep (tS (relsT.getD j nil0) :: tN (numB v) v :: R)) _ = _
      rw [hmask, bnd_ok]
      show (if relF (tS (relsT.getD j nil0)) 6 = 0 then _ else _) = _
      rw [if_neg (by rw [r1]; omega), step_ne (by simp), bnd_ok, kn_yes _ _ hR, bnd_ok]
      show Except.ok ((⟨6, [], (i : Int), 18446744073709551615, relF (tS (relsT.getD j nil0)) 6, v⟩ : Ex), R) = _
      rw [r1, hi, hj, hm]
    · rw [if_neg hm]
      simp only [tks, List.map_cons, List.map_nil, List.cons_append, List.nil_append]
      rw [step_ne (by simp), bnd_ok]
      have hmask : maskP ep (tS sAmp :: tN (⟨#[48, 120]⟩ ++ hexT m) m :: tS (relsT.getD j nil0) :: tN (numB v) v :: R) = .ok (m, tS (relsT.getD j nil0) :: tN (numB v) v :: R) := by
        unfold maskP
        rw [if_pos (by rfl), maybe_yes (by rfl) (by simp), bnd_ok]
        rw [if_pos rfl]
        show bnd (kindP ep 3 (tN (⟨#[48, 120]⟩ ++ hexT m) m :: tS (relsT.getD j nil0) :: tN (numB v) v :: R)) _ = _
        rw [kn_yes _ _ (by simp), bnd_ok]
        rfl
      show bnd (maskP ep (tS sAmp :: tN (⟨#[48, 120]⟩ ++ hexT m) m :: tS (relsT.getD j nil0) :: tN (numB v) v :: R)) _ = _
      rw [hmask, bnd_ok]
      show (if relF (tS (relsT.getD j nil0)) 6 = 0 then _ else _) = _
      rw [if_neg (by rw [r1]; omega), step_ne (by simp), bnd_ok, kn_yes _ _ hR, bnd_ok]
      show Except.ok ((⟨6, [], (i : Int), m, relF (tS (relsT.getD j nil0)) 6, v⟩ : Ex), R) = _
      rw [r1, hi, hj]
  have hne : ∃ T, tks (itT g f m r v) ++ R = tW (fieldsT.getD i nil0) :: T := by unfold itT; rw [hfw]; exact ⟨_, rfl⟩
  obtain ⟨T, hT⟩ := hne
  have h1 : isT sNot (hdT (tks (itT g f m r v) ++ R)) = false := by rw [hT]; exact n1
  have h2 : isT sOpen (hdT (tks (itT g f m r v) ++ R)) = false := by rw [hT]; exact n2
  cases k with
  | zero => rw [oneP, if_neg (by rw [h1]; decide), if_neg (by rw [h2]; decide)]; exact hat
  | succ k => rw [oneP, if_neg (by rw [h1]; decide), if_neg (by rw [h2]; decide)]; exact hat
theorem word_read (ep : EP) (x : ByteArray) (op : Int) (h : (x = sTrue ∧ op = 1) ∨ (x = sFalse ∧ op = 2)) {R : List Tk} (hR : R ≠ []) (k : Nat) : oneP ep k (tW x :: R) = .ok (⟨op, [], 0, 0, 0, 0⟩, R) := by
  have hat : atomP ep (tW x :: R) = .ok (⟨op, [], 0, 0, 0, 0⟩, R) := by
    unfold atomP
    rcases h with ⟨rfl, rfl⟩ | ⟨rfl, rfl⟩
    · rw [if_pos (by rfl), step_ne hR]; rfl
    · rw [if_neg (by show ¬ isT sTrue (tW sFalse) = true; decide), if_pos (by rfl), step_ne hR]; rfl
  have h1 : isT sNot (tW x) = false ∧ isT sOpen (tW x) = false := by
    rcases h with ⟨rfl, _⟩ | ⟨rfl, _⟩ <;> decide
  cases k with
  | zero => rw [oneP, if_neg (by show ¬ isT sNot (tW x) = true; rw [h1.1]; decide), if_neg (by show ¬ isT sOpen (tW x) = true; rw [h1.2]; decide)]; exact hat
  | succ k => rw [oneP, if_neg (by show ¬ isT sNot (tW x) = true; rw [h1.1]; decide), if_neg (by show ¬ isT sOpen (tW x) = true; rw [h1.2]; decide)]; exact hat

/-! ### several, as long as one more follows -/
/-- the tokens of further ones -/
def moreT {α : Type} (sep : Tk) (tok : α → List Tk) (l : List α) : List Tk := l.flatMap fun y => sep :: tok y
theorem more_read {α : Type} (ep : EP) (one : List Tk → Rd α) (sep : ByteArray) (st : Tk) (tok : α → List Tk) (hst : isT sep st = true) {R : List Tk} (hR : R ≠ []) (hRs : isT sep (hdT R) = false) :
    ∀ (l : List α) (h1 : ∀ y ∈ l, ∀ R', R' ≠ [] → (R' = R ∨ hdT R' = st) → one (tok y ++ R') = .ok (y, R') ∧ tok y ≠ []) (n : Nat) (a : List α), l.length < n → moreP ep one sep n a (moreT st tok l ++ R) = .ok (a ++ l, R)
  | [], _, n, a, hn => by
    obtain ⟨n, rfl⟩ : ∃ m, n = m + 1 := ⟨n - 1, by simp at hn; omega⟩
    rw [moreP, show moreT st tok ([] : List α) ++ R = R from rfl, maybe_no hRs, bnd_ok]
    simp
  | y :: l, h1, n, a, hn => by
    obtain ⟨n, rfl⟩ : ∃ m, n = m + 1 := ⟨n - 1, by simp at hn; omega⟩
    have hne : moreT st tok l ++ R ≠ [] := by simp [hR]
    have hhd : moreT st tok l ++ R = R ∨ hdT (moreT st tok l ++ R) = st := by
      cases l with
      | nil => exact .inl rfl
      | cons z l => exact .inr rfl
    obtain ⟨hy, hyne⟩ := h1 y (by simp) _ hne hhd
    have e : moreT st tok (y :: l) ++ R = st :: (tok y ++ (moreT st tok l ++ R)) := by simp [moreT]
    rw [moreP, e, maybe_yes hst (by simp [hR]), bnd_ok]
    show bnd (one (tok y ++ (moreT st tok l ++ R))) _ = _
    rw [hy, bnd_ok]
    show moreP ep one sep n (a ++ [y]) (moreT st tok l ++ R) = _
    rw [more_read ep one sep st tok hst hR hRs l (fun z hz => h1 z (List.mem_cons_of_mem _ hz)) n (a ++ [y]) (by simp at hn; omega)]
    simp
theorem moreT_len {α : Type} (sep : Tk) (tok : α → List Tk) : ∀ l : List α, l.length ≤ (moreT sep tok l).length
  | [] => by simp
  | y :: l => by have := moreT_len sep tok l; simp only [moreT, List.flatMap_cons, List.cons_append, List.length_cons, List.length_append] at this ⊢; omega
theorem turns_read {α : Type} (ep : EP) (one : List Tk → Rd α) (sep : ByteArray) (st : Tk) (tok : α → List Tk) (hst : isT sep st = true) {R : List Tk} (hR : R ≠ []) (hRs : isT sep (hdT R) = false) (y : α) (l : List α)
    (h1 : ∀ z ∈ y :: l, ∀ R', R' ≠ [] → (R' = R ∨ hdT R' = st) → one (tok z ++ R') = .ok (z, R') ∧ tok z ≠ []) : turnsP ep one sep (tok y ++ (moreT st tok l ++ R)) = .ok (y :: l, R) := by
  have hne : moreT st tok l ++ R ≠ [] := by simp [hR]
  have hhd : moreT st tok l ++ R = R ∨ hdT (moreT st tok l ++ R) = st := by
    cases l with
    | nil => exact .inl rfl
    | cons z l => exact .inr rfl
  unfold turnsP
  rw [(h1 y (by simp) _ hne hhd).1, bnd_ok]
  show moreP ep one sep ((moreT st tok l ++ R).length + 1) [y] (moreT st tok l ++ R) = _
  rw [more_read ep one sep st tok hst hR hRs l (fun z hz => h1 z (List.mem_cons_of_mem _ hz)) _ [y] (by have := moreT_len st tok l; rw [List.length_append]; omega)]
  rfl

/-! ### expressions -/
/-- an argument's tokens -/
def tkA (op : Int) (x : Ex) : List Tk := tks (parI (aroundB op x.f0) gSp (itE x))
theorem tks_par (b : Bool) (g g' : List UInt8) (x : Ex) (h : ∀ g g', tks (itE x g) = tks (itE x g')) : tks (parI b g (itE x)) = tks (parI b g' (itE x)) := by
  unfold parI
  split
  · rfl
  · exact h g g'
theorem tks_itM (op : Int) (sep : ByteArray) : ∀ l : List Ex, tks (itM op sep l) = moreT (tW sep) (tkA op) l
  | [] => by rw [itM]; rfl
  | x :: l => by
    rw [itM]
    simp only [tks, List.map_cons, List.map_append]
    rw [show List.map (·.2) (itM op sep l) = moreT (tW sep) (tkA op) l from tks_itM op sep l]
    simp [moreT, tkA, tks]
theorem tks_g (x : Ex) : ∀ g g', tks (itE x g) = tks (itE x g') := by
  have key : ∀ n (x : Ex), SizeOf.sizeOf x < n → ∀ g g', tks (itE x g) = tks (itE x g') := by
    intro n
    induction n with
    | zero => intro x h; omega
    | succ n ih =>
      intro x hx g g'
      obtain ⟨op, l, f, m, r, v⟩ := x
      rw [itE, itE]
      have hF : ∀ sep, tks (itF op sep l g) = tks (itF op sep l g') := by
        intro sep
        cases l with
        | nil => rw [itF, itF]
        | cons y l =>
          rw [itF, itF, tks_app, tks_app, tks_par _ g g' y (ih y (by simp at hx; omega))]
      split
      · rfl
      · split
        · rfl
        · split
          · rfl
          · split
            · exact hF _
            · split
              · exact hF _
              · unfold itT; simp [tks]
  exact key _ x (Nat.lt_succ_self _)
theorem tkA_of (op : Int) (x : Ex) (g : List UInt8) : tks (parI (aroundB op x.f0) g (itE x)) = tkA op x := tks_par _ g gSp x (tks_g x)
theorem tks_itF (op : Int) (sep : ByteArray) (y : Ex) (l : List Ex) (g : List UInt8) : tks (itF op sep (y :: l) g) = tkA op y ++ moreT (tW sep) (tkA op) l := by
  rw [itF, tks_app, tkA_of, tks_itM]
/-- an expression's tokens -/
def tkE (x : Ex) : List Tk := tks (itE x gSp)
theorem tkE_ne (x : Ex) (h : okE x) : tkE x ≠ [] := by
  have key : ∀ n (x : Ex), SizeOf.sizeOf x < n → okE x → tkE x ≠ [] := by
    intro n
    induction n with
    | zero => intro x h; omega
    | succ n ih =>
      intro x hx h
      obtain ⟨op, l, f, m, r, v⟩ := x
      obtain ⟨h1, h6, h3, h45, h126, ht, hz, hm, hv⟩ := h.1
      unfold tkE
      rw [itE]
      by_cases o1 : op = 1
      · rw [if_pos o1]; simp [tks]
      · rw [if_neg o1]
        by_cases o2 : op = 2
        · rw [if_pos o2]; simp [tks]
        · rw [if_neg o2]
          by_cases o3 : op = 3
          · rw [if_pos o3]; simp [tks]
          · rw [if_neg o3]
            have hF : ∀ sep, l ≠ [] → tks (itF op sep l gSp) ≠ [] := by
              intro sep hl
              match l, hl, h.2, hx with
              | y :: l, _, hk, hx =>
                rw [itF, tks_app]
                unfold parI
                split
                · simp [tks]
                · have := ih y (by simp at hx; omega) hk.1
                  unfold tkE at this
                  intro e
                  exact this (List.append_eq_nil_iff.1 e).1
            by_cases o4 : op = 4
            · rw [if_pos o4]; exact hF _ (by intro e; rw [e] at h45; have := h45 (.inl o4); simp at this)
            · rw [if_neg o4]
              by_cases o5 : op = 5
              · rw [if_pos o5]; exact hF _ (by intro e; rw [e] at h45; have := h45 (.inr o5); simp at this)
              · rw [if_neg o5]; simp [itT, tks]
  exact key _ x (Nat.lt_succ_self _) h
theorem tkA_ne (op : Int) (x : Ex) (h : okE x) : tkA op x ≠ [] := by
  unfold tkA parI
  split
  · simp [tks]
  · exact tkE_ne x h
end Go.Proofs.YtlmopoipjolbgaaGreatDoor.LexW
namespace Go.Proofs.YtlmopoipjolbgaaGreatDoor.LexW
open Go.RowKit Go.Shelf Go.Proofs.YtlmopoipjolbgaaGreatDoor.LexS Go.Proofs.YtlmopoipjolbgaaGreatDoorW.PrintWords
set_option linter.unusedVariables false
set_option linter.unusedSimpArgs false

theorem dL_mem {op : Int} {y : Ex} : ∀ {l : List Ex}, y ∈ l → dE y + (if aroundB op y.f0 = true then 1 else 0) ≤ dL op l
  | x :: l, h => by
    rw [dL]
    rcases List.mem_cons.1 h with rfl | h
    · omega
    · have := dL_mem (op := op) h; omega
theorem mem_size' {x y : Ex} (h : x ∈ y.f1) : SizeOf.sizeOf x < SizeOf.sizeOf y := by
  cases y
  have := List.sizeOf_lt_of_mem h
  simp only at h
  simp at this ⊢
  omega
def P1 (ep : EP) (x : Ex) : Prop := ∀ k R, R ≠ [] → dE x + (if aroundB 4 x.f0 = true then 1 else 0) ≤ k → oneP ep k (tkA 4 x ++ R) = .ok (x, R)
def P2 (ep : EP) (x : Ex) : Prop := ∀ k R, R ≠ [] → isT sAnd (hdT R) = false → dE x + (if aroundB 5 x.f0 = true then 1 else 0) ≤ k → allP ep (oneP ep k) (tkA 5 x ++ R) = .ok (x, R)
def P3 (ep : EP) (x : Ex) : Prop := ∀ k R, R ≠ [] → isT sAnd (hdT R) = false → isT sOr (hdT R) = false → dE x ≤ k → exprP ep (oneP ep k) (tkE x ++ R) = .ok (x, R)
theorem tkA_no {op : Int} {x : Ex} (h : aroundB op x.f0 = false) : tkA op x = tkE x := by
  unfold tkA parI tkE
  rw [if_neg (by rw [h]; decide)]
theorem tkA_yes {op : Int} {x : Ex} (h : aroundB op x.f0 = true) : tkA op x = tS sOpen :: (tkE x ++ [tS sShut]) := by
  unfold tkA parI
  rw [if_pos h]
  show tS sOpen :: tks (itE x [] ++ [([], tS sShut)]) = _
  rw [tks_app, tks_g x [] gSp]
  rfl
theorem hdT_app {A : List Tk} (h : A ≠ []) (B : List Tk) : hdT (A ++ B) = hdT A := by
  cases A with
  | nil => exact absurd rfl h
  | cons a A => rfl
/-- one alone, of an all -/
theorem all_one {ep : EP} {one : List Tk → Rd Ex} {x : Ex} {T R : List Tk} (h : one (T ++ R) = .ok (x, R)) (hR : isT sAnd (hdT R) = false) : allP ep one (T ++ R) = .ok (x, R) := by
  unfold allP turnsP
  rw [h, bnd_ok]
  show bnd (moreP ep one sAnd (R.length + 1) [x] R) _ = _
  rw [moreP, maybe_no hR, bnd_ok]
  rfl
theorem expr_one {ep : EP} {one : List Tk → Rd Ex} {x : Ex} {T R : List Tk} (h : allP ep one (T ++ R) = .ok (x, R)) (hR : isT sOr (hdT R) = false) : exprP ep one (T ++ R) = .ok (x, R) := by
  unfold exprP turnsP
  rw [h, bnd_ok]
  show bnd (moreP ep (allP ep one) sOr (R.length + 1) [x] R) _ = _
  rw [moreP, maybe_no hR, bnd_ok]
  rfl
theorem ex_eta {x : Ex} (h2 : x.f2 = 0) (h3 : x.f3 = 0) (h4 : x.f4 = 0) (h5 : x.f5 = 0) : x = ⟨x.f0, x.f1, 0, 0, 0, 0⟩ := by
  cases x
  simp only at h2 h3 h4 h5
  subst h2; subst h3; subst h4; subst h5
  rfl
theorem tkE_of (x : Ex) (h : okE x) : (x.f0 = 1 → tkE x = [tW sTrue]) ∧ (x.f0 = 2 → tkE x = [tW sFalse]) ∧ (∀ y, x.f0 = 3 → x.f1 = [y] → tkE x = tW sNot :: tkA 3 y) ∧ (x.f0 = 4 → ∀ y l, x.f1 = y :: l → tkE x = tkA 4 y ++ moreT (tW sAnd) (tkA 4) l) ∧
    (x.f0 = 5 → ∀ y l, x.f1 = y :: l → tkE x = tkA 5 y ++ moreT (tW sOr) (tkA 5) l) ∧ (x.f0 = 6 → tkE x = tks (itT gSp x.f2 x.f3 x.f4 x.f5)) := by
  obtain ⟨op, l, f, m, r, v⟩ := x
  unfold tkE
  refine ⟨fun h => ?_, fun h => ?_, fun y h h1 => ?_, fun h y l' h1 => ?_, fun h y l' h1 => ?_, fun h => ?_⟩
  · simp only at h; subst h; rw [itE, if_pos rfl]; rfl
  · simp only at h; subst h; rw [itE, if_neg (by decide), if_pos rfl]; rfl
  · simp only at h h1; subst h; subst h1
    rw [itE, if_neg (by decide), if_neg (by decide), if_pos rfl]
    show tW sNot :: tks (itF 3 sNot [y] gSp) = _
    rw [tks_itF]
    simp [moreT]
  · simp only at h h1; subst h; subst h1
    rw [itE, if_neg (by decide), if_neg (by decide), if_neg (by decide), if_pos rfl, tks_itF]
  · simp only at h h1; subst h; subst h1
    rw [itE, if_neg (by decide), if_neg (by decide), if_neg (by decide), if_neg (by decide), if_pos rfl, tks_itF]
  · simp only at h; subst h
    rw [itE, if_neg (by decide), if_neg (by decide), if_neg (by decide), if_neg (by decide), if_neg (by decide)]
theorem isT_sNot_open : isT sNot (tS sOpen) = false ∧ isT sOpen (tS sOpen) = true ∧ isT sNot (tW sNot) = true ∧ isT sShut (tS sShut) = true ∧ isT sAnd (tS sShut) = false ∧ isT sOr (tS sShut) = false ∧ isT sAnd (tW sAnd) = true ∧ isT sOr (tW sOr) = true ∧ isT sAnd (tW sOr) = false := by decide
/-- in parentheses -/
theorem one_par {ep : EP} {x : Ex} {k : Nat} {R : List Tk} (h3 : P3 ep x) (hk : dE x + 1 ≤ k) (hR : R ≠ []) : oneP ep k (tS sOpen :: (tkE x ++ [tS sShut]) ++ R) = .ok (x, R) := by
  obtain ⟨k, rfl⟩ : ∃ j, k = j + 1 := ⟨k - 1, by omega⟩
  obtain ⟨i1, i2, i3, i4, i5, i6, i7, i8, i9⟩ := isT_sNot_open
  rw [List.cons_append, List.append_assoc, oneP, if_neg (by show ¬ isT sNot (tS sOpen) = true; rw [i1]; decide), if_pos (by exact i2), step_ne (by simp), bnd_ok,
    h3 k ([tS sShut] ++ R) (by simp) (by exact i5) (by exact i6) (by omega), bnd_ok]
  show bnd (wantP ep sShut (tS sShut :: R)) _ = _
  rw [want_yes i4 hR, bnd_ok]
theorem read_all (ep : EP) (n : Nat) : ∀ x, SizeOf.sizeOf x < n → okE x → P1 ep x ∧ P2 ep x ∧ P3 ep x := by
  induction n with
  | zero => intro x h; omega
  | succ n ih =>
  intro x hx hok
  have hok2 := hok
  rw [okE_eq] at hok2
  obtain ⟨⟨h1, h6, h3, h45, h126, ht, hz, hm, hv⟩, hL⟩ := hok2
  have IH := fun (y : Ex) (hy : y ∈ x.f1) => ih y (by have := mem_size' hy; omega) ((okL_all _).1 hL y hy)
  have IOK := fun (y : Ex) (hy : y ∈ x.f1) => (okL_all _).1 hL y hy
  obtain ⟨t1, t2, t3, t4, t5, t6⟩ := tkE_of x hok
  obtain ⟨i1, i2, i3, i4, i5, i6, i7, i8, i9⟩ := isT_sNot_open
  have hdE := dE_eq x
  -- A
  have hA : x.f0 ≠ 4 → x.f0 ≠ 5 → P1 ep x := by
    intro n4 n5 k R hR hk
    rw [tkA_no (by simp [aroundB, n4, n5])]
    by_cases o1 : x.f0 = 1
    · have hz' := hz (by omega)
      rw [t1 o1, ex_eta hz'.1 hz'.2.1 hz'.2.2.1 hz'.2.2.2, o1, List.length_eq_zero_iff.1 (h126 (by omega))]
      exact word_read ep sTrue 1 (.inl ⟨rfl, rfl⟩) hR k
    · by_cases o2 : x.f0 = 2
      · have hz' := hz (by omega)
        rw [t2 o2, ex_eta hz'.1 hz'.2.1 hz'.2.2.1 hz'.2.2.2, o2, List.length_eq_zero_iff.1 (h126 (by omega))]
        exact word_read ep sFalse 2 (.inr ⟨rfl, rfl⟩) hR k
      · by_cases o3 : x.f0 = 3
        · obtain ⟨y, hy⟩ : ∃ y, x.f1 = [y] := List.length_eq_one_iff.1 (h3 o3)
          have hz' := hz (by omega)
          have hP := (IH y (by rw [hy]; simp)).1
          have h34 : tkA 3 y = tkA 4 y := by unfold tkA; rw [show aroundB 3 y.f0 = aroundB 4 y.f0 by simp [aroundB]]
          have hde : dE x = dE y + (if aroundB 4 y.f0 = true then 1 else 0) + 1 := by
            rw [hdE, o3, hy, dL, dL, show aroundB 3 y.f0 = aroundB 4 y.f0 by simp [aroundB]]
            simp
          obtain ⟨k, rfl⟩ : ∃ j, k = j + 1 := ⟨k - 1, by omega⟩
          rw [t3 y o3 hy, h34, ex_eta hz'.1 hz'.2.1 hz'.2.2.1 hz'.2.2.2, o3, hy]
          rw [List.cons_append, oneP, if_pos (by exact i3), step_ne (by simp [hR]), bnd_ok, hP k R hR (by omega), bnd_ok]
        · have o6 : x.f0 = 6 := by omega
          have htt := ht o6
          rw [t6 o6]
          have hx6 : x = ⟨6, [], x.f2, x.f3, x.f4, x.f5⟩ := by
            have e1 := List.length_eq_zero_iff.1 (h126 (by omega))
            cases x
            simp only at e1 o6
            subst e1; subst o6
            rfl
          have := test_read ep htt gSp (m := x.f3) (v := x.f5) hR k
          rw [this, ← hx6]
  -- B
  have hB : x.f0 ≠ 5 → P2 ep x := by
    intro n5 k R hR hRa hk
    rw [tkA_no (by simp [aroundB, n5])]
    by_cases o4 : x.f0 = 4
    · obtain ⟨y, l, hy⟩ : ∃ y l, x.f1 = y :: l := by
        have := h45 (.inl o4)
        cases hl : x.f1 with
        | nil => rw [hl] at this; simp at this
        | cons y l => exact ⟨y, l, rfl⟩
      have hz' := hz (by omega)
      have hdd : dE x = dL 4 x.f1 := by rw [hdE, o4]; simp
      rw [t4 o4 y l hy]
      unfold allP
      rw [List.append_assoc, turns_read ep (oneP ep k) sAnd (tW sAnd) (tkA 4) i7 hR hRa y l (fun z hz2 R' hR' _ => ⟨(IH z (by rw [hy]; exact hz2)).1 k R' hR' (by
        have hzm : z ∈ x.f1 := by rw [hy]; exact hz2
        have := dL_mem (op := 4) hzm
        have := Nat.le_trans (Nat.le_add_right _ _) hk
        omega), tkA_ne 4 z (IOK z (by rw [hy]; exact hz2))⟩), bnd_ok]
      show Except.ok (joinE 4 (y :: l), R) = _
      have hl2 := h45 (.inl o4)
      rw [hy] at hl2
      rw [ex_eta hz'.1 hz'.2.1 hz'.2.2.1 hz'.2.2.2, o4, hy]
      cases l with
      | nil => simp at hl2
      | cons z l => rfl
    · have hP := hA o4 n5 k R hR (by rw [if_neg (by simp [aroundB, o4, n5])]; have := Nat.le_trans (Nat.le_add_right _ _) hk; omega)
      rw [tkA_no (by simp [aroundB, o4, n5])] at hP
      exact all_one hP hRa
  -- C
  have hC : P3 ep x := by
    intro k R hR hRa hRo hk
    by_cases o5 : x.f0 = 5
    · obtain ⟨y, l, hy⟩ : ∃ y l, x.f1 = y :: l := by
        have := h45 (.inr o5)
        cases hl : x.f1 with
        | nil => rw [hl] at this; simp at this
        | cons y l => exact ⟨y, l, rfl⟩
      have hz' := hz (by omega)
      have hdd : dE x = dL 5 x.f1 := by rw [hdE, o5]; simp
      rw [t5 o5 y l hy]
      unfold exprP
      rw [List.append_assoc, turns_read ep (allP ep (oneP ep k)) sOr (tW sOr) (tkA 5) i8 hR hRo y l (fun z hz2 R' hR' hh => ⟨(IH z (by rw [hy]; exact hz2)).2.1 k R' hR' (by
        rcases hh with rfl | hh
        · exact hRa
        · rw [hh]; exact i9) (by
        have hzm : z ∈ x.f1 := by rw [hy]; exact hz2
        have := dL_mem (op := 5) hzm
        omega), tkA_ne 5 z (IOK z (by rw [hy]; exact hz2))⟩), bnd_ok]
      show Except.ok (joinE 5 (y :: l), R) = _
      have hl2 := h45 (.inr o5)
      rw [hy] at hl2
      rw [ex_eta hz'.1 hz'.2.1 hz'.2.2.1 hz'.2.2.2, o5, hy]
      cases l with
      | nil => simp at hl2
      | cons z l => rfl
    · have hP := hB o5 k R hR hRa (by rw [if_neg (by simp [aroundB, o5])]; exact hk)
      rw [tkA_no (by simp [aroundB, o5])] at hP
      exact expr_one hP hRo
  -- D
  have hD : P1 ep x := by
    by_cases o45 : x.f0 = 4 ∨ x.f0 = 5
    · intro k R hR hk
      have ha : aroundB 4 x.f0 = true := by rcases o45 with h | h <;> simp [aroundB, h]
      rw [if_pos ha] at hk
      rw [tkA_yes ha]
      exact one_par hC hk hR
    · exact hA (fun h => o45 (.inl h)) (fun h => o45 (.inr h))
  refine ⟨hD, ?_, hC⟩
  by_cases o5 : x.f0 = 5
  · intro k R hR hRa hk
    have ha5 : aroundB 5 x.f0 = true := by simp [aroundB, o5]
    have ha4 : aroundB 4 x.f0 = true := by simp [aroundB, o5]
    have hP := hD k R hR (by rw [if_pos ha4]; rw [if_pos ha5] at hk; exact hk)
    rw [tkA_yes ha4] at hP
    rw [tkA_yes ha5]
    exact all_one hP hRa
  · exact hB o5
/-- an expression that was written is read as it was -/
theorem expr_back {x : Ex} (h : okE x) (hd : dE x ≤ 64) (ep : EP) {R : List Tk} (hR : R ≠ []) (hRa : isT sAnd (hdT R) = false) (hRo : isT sOr (hdT R) = false) : exprP ep (oneP ep 64) (tkE x ++ R) = .ok (x, R) :=
  (read_all ep _ x (Nat.lt_succ_self _) h).2.2 64 R hR hRa hRo hd
end Go.Proofs.YtlmopoipjolbgaaGreatDoor.LexW
