/-
  Plain words of layer 5 (lex): what a text's tokens are.
-/
import Derived.Test.YtlmopoipjolbgaaDoorLexW8
import Derived.Test.YtlmopoipjolbgaaDoorWWords
namespace Go.Proofs.YtlmopoipjolbgaaDoor.LexW
open Go.RowKit Go.Shelf Go.Proofs.YtlmopoipjolbgaaDoor.LexS Go.Proofs.YtlmopoipjolbgaaDoorW.PrintWords
set_option linter.unusedVariables false
set_option linter.unusedSimpArgs false

/-- a token -/
structure Tk where
  kind : Int
  text : ByteArray
  num : Int
  at_ : Int
deriving DecidableEq
def tkz : Tk := ⟨0, nil0, 0, 0⟩
def kTk : Kd Tk := Kd.iso (Kd.pair (Kd.int .i64) (Kd.pair Kd.string (Kd.pair (Kd.int .u64) (Kd.int .i64)))) (fun x : Tk => (x.kind, x.text, x.num, x.at_))
def tkCells (x : Tk) : List Value := [.int .i64 x.kind, .string x.text, .int .u64 x.num, .int .i64 x.at_]
theorem kTk_open {w : World} {x : Tk} {cs : List Value} (h : kTk.K w x cs) : cs = tkCells x := by
  obtain ⟨_, _, rfl, rfl, ⟨_, _, rfl, rfl, ⟨_, _, rfl, rfl, rfl⟩⟩⟩ := h
  rfl
theorem kTk_mk (w : World) (x : Tk) : kTk.K w x (tkCells x) := ⟨[.int .i64 x.kind], [.string x.text, .int .u64 x.num, .int .i64 x.at_], rfl, rfl, ⟨[.string x.text], [.int .u64 x.num, .int .i64 x.at_], rfl, rfl, ⟨[.int .u64 x.num], [.int .i64 x.at_], rfl, rfl, rfl⟩⟩⟩
theorem kTk_mkM (w : World) (base : Nat) (ok : Nat → Prop) (x : Tk) : kTk.M w base ok x (tkCells x) := ⟨[.int .i64 x.kind], [.string x.text, .int .u64 x.num, .int .i64 x.at_], rfl, rfl, ⟨[.string x.text], [.int .u64 x.num, .int .i64 x.at_], rfl, rfl, ⟨[.int .u64 x.num], [.int .i64 x.at_], rfl, rfl, rfl⟩⟩⟩
/-- a slice of tokens, read at a place -/
theorem tk_at {w : World} {A : Option Addr} {n : Nat} {xs : List Tk} (h : kTk.C w A n xs) (i : Nat) (h1 : i < n) : ∃ ad, A = some ad ∧
    w.cell? (ad.add (i * 4)) = some (.int .i64 (xs.getD i tkz).kind) ∧ w.cell? ⟨(ad.add (i * 4)).block, (ad.add (i * 4)).off + 1, none⟩ = some (.string (xs.getD i tkz).text) ∧
    w.cell? ⟨(ad.add (i * 4)).block, (ad.add (i * 4)).off + 2, none⟩ = some (.int .u64 (xs.getD i tkz).num) ∧ w.cell? ⟨(ad.add (i * 4)).block, (ad.add (i * 4)).off + 3, none⟩ = some (.int .i64 (xs.getD i tkz).at_) := by
  obtain ⟨ad, c, e, _, hK, hc0⟩ := Kd.C_get h tkz (i : Int) (by omega) (by omega)
  rw [Int.toNat_natCast] at hK hc0
  have hc : ∀ j u, c[j]? = some u → w.cell? (ad.add (i * 4 + j)) = some u := hc0
  obtain rfl := kTk_open hK
  exact ⟨ad, e, hc 0 _ rfl, by rw [← add_field _ _ 1 (by omega)]; exact hc 1 _ rfl, by rw [← add_field _ _ 2 (by omega)]; exact hc 2 _ rfl, by rw [← add_field _ _ 3 (by omega)]; exact hc 3 _ rfl⟩

def tokOf (x : NextT) : Tk := ⟨x.1, x.2.1, x.2.2.1, x.2.2.2.1⟩
abbrev placeOf (x : NextT) : Int := x.2.2.2.2.1
abbrev errOf (x : NextT) : Int := x.2.2.2.2.2
/-- the tokens from a place on, up to the end, or ahead of what is wrong; the error and its place -/
def toksF : Nat → ByteArray → Nat → List Tk × Int × Int
  | 0, _, _ => ([], 0, 0)
  | f + 1, s, k =>
    if errOf (nextV s k) ≠ 0 then ([], errOf (nextV s k), placeOf (nextV s k))
    else if (nextV s k).1 = 1 then ([tokOf (nextV s k)], 0, 0)
    else (tokOf (nextV s k) :: (toksF f s (placeOf (nextV s k)).toNat).1, (toksF f s (placeOf (nextV s k)).toNat).2)
def toksA (s : ByteArray) (k : Nat) : List Tk × Int × Int := toksF (s.size + 2) s k
def toks (s : ByteArray) : List Tk × Int × Int := toksA s 0

theorem run_pos {s : ByteArray} {p : Nat} (h : p < s.size) (hw : wordB s[p] = true) : p < whileN wordB s p := by
  rw [whileN_yes h hw]; have := whileN_ge wordB s (p + 1); omega
/-- a token that is no end: its text stands between two places, and is not empty -/
theorem next_ok (s : ByteArray) (k : Nat) (h : errOf (nextV s k) = 0) : s.size ≤ 65536 ∧ k ≤ s.size ∧
    ((nextV s k = ((1 : Int), nil0, (0 : Int), (s.size : Int), (s.size : Int), (0 : Int)) ∧ beginN s k = s.size) ∨
     (∃ p q : Nat, p = beginN s k ∧ k ≤ p ∧ p < q ∧ q ≤ s.size ∧ (nextV s k).1 ≠ 1 ∧ (nextV s k).2.1 = s.extract p q ∧ (nextV s k).2.2.2.1 = p ∧ placeOf (nextV s k) = q)) := by
  unfold nextV at h ⊢
  by_cases h1 : 65536 < s.size
  · rw [if_pos h1] at h; exact absurd h (by decide)
  rw [if_neg h1] at h ⊢
  by_cases h2 : (k : Int) < 0 ∨ (s.size : Int) < (k : Int)
  · rw [if_pos h2] at h; exact absurd h (by decide)
  rw [if_neg h2] at h ⊢
  rw [Int.toNat_natCast] at h ⊢
  refine ⟨by omega, by omega, ?_⟩
  have hk : k ≤ s.size := by omega
  have hge := begin_ge k hk
  by_cases hp : beginN s k < s.size
  · right
    rw [dif_pos hp] at h ⊢
    have hqs := whileN_le wordB s (beginN s k) (by omega)
    unfold tokV at h ⊢
    by_cases hl : letterB s[beginN s k] = true
    · rw [if_pos hl] at h ⊢
      by_cases h32 : 32 < whileN wordB s (beginN s k) - beginN s k
      · rw [if_pos h32] at h; exact absurd (show (52 : Int) = 0 from h) (by decide)
      · rw [if_neg h32] at h ⊢
        exact ⟨_, _, rfl, hge, run_pos hp (by unfold wordB; rw [hl]; rfl), hqs, show (2 : Int) ≠ 1 by decide, rfl, rfl, rfl⟩
    · rw [if_neg hl] at h ⊢
      by_cases hd : digitB s[beginN s k] = true
      · rw [if_pos hd] at h ⊢
        by_cases hn : (numR (s.extract (beginN s k) (whileN wordB s (beginN s k))).data.toList).2 = true
        · rw [if_pos hn] at h ⊢
          exact ⟨_, _, rfl, hge, run_pos hp (by unfold wordB; rw [hd]; simp), hqs, show (3 : Int) ≠ 1 by decide, rfl, rfl, rfl⟩
        · rw [if_neg hn] at h; exact absurd (show (53 : Int) = 0 from h) (by decide)
      · rw [if_neg hd] at h ⊢
        by_cases hz : signL (s.data.toList.drop (beginN s k)) = 0
        · rw [if_pos hz] at h; exact absurd (show (51 : Int) = 0 from h) (by decide)
        · rw [if_neg hz] at h ⊢
          have hle := sign_le (s.data.toList.drop (beginN s k))
          have hlen : (s.data.toList.drop (beginN s k)).length = s.size - beginN s k := by simp
          exact ⟨_, _, rfl, hge, by omega, by omega, show (4 : Int) ≠ 1 by decide, rfl, rfl, by push_cast; rfl⟩
  · left
    rw [dif_neg hp]
    exact ⟨rfl, by have := begin_le s k; omega⟩

/-- one token on -/
theorem toks_err {f : Nat} {s : ByteArray} {k : Nat} (h : errOf (nextV s k) ≠ 0) : toksF (f + 1) s k = ([], errOf (nextV s k), placeOf (nextV s k)) := by
  rw [toksF, if_pos h]
theorem toks_end {f : Nat} {s : ByteArray} {k : Nat} (h : errOf (nextV s k) = 0) (h1 : (nextV s k).1 = 1) : toksF (f + 1) s k = ([tokOf (nextV s k)], 0, 0) := by
  rw [toksF, if_neg (by simpa using h), if_pos h1]
theorem toks_more {f : Nat} {s : ByteArray} {k q : Nat} (h : errOf (nextV s k) = 0) (h1 : (nextV s k).1 ≠ 1) (hq : placeOf (nextV s k) = (q : Int)) :
    toksF (f + 1) s k = (tokOf (nextV s k) :: (toksF f s q).1, (toksF f s q).2) := by
  rw [toksF, if_neg (by simpa using h), if_neg h1, hq, Int.toNat_natCast]
/-- enough rounds are enough -/
theorem toksF_enough (s : ByteArray) : ∀ (f g : Nat) (k : Nat), s.size + 1 ≤ f + k → s.size + 1 ≤ g + k → toksF (f + 1) s k = toksF (g + 1) s k := by
  intro f
  induction f with
  | zero =>
    intro g k hf hg
    by_cases h : errOf (nextV s k) = 0
    · obtain ⟨_, hk, _⟩ := next_ok s k h
      omega
    · rw [toks_err h, toks_err h]
  | succ f ih =>
    intro g k hf hg
    by_cases h : errOf (nextV s k) = 0
    · obtain ⟨_, hk, ⟨he, _⟩ | ⟨p, q, _, hkp, hpq, hq, h1, _, _, hpl⟩⟩ := next_ok s k h
      · have h1 : (nextV s k).1 = 1 := by rw [he]
        rw [toks_end h h1, toks_end h h1]
      · rw [toks_more h h1 hpl, toks_more h h1 hpl]
        obtain ⟨g, rfl⟩ : ∃ g', g = g' + 1 := ⟨g - 1, by omega⟩
        rw [ih g q (by omega) (by omega)]
    · rw [toks_err h, toks_err h]
theorem toksA_err {s : ByteArray} {k : Nat} (h : errOf (nextV s k) ≠ 0) : toksA s k = ([], errOf (nextV s k), placeOf (nextV s k)) := toks_err h
theorem toksA_end {s : ByteArray} {k : Nat} (h : errOf (nextV s k) = 0) (h1 : (nextV s k).1 = 1) : toksA s k = ([tokOf (nextV s k)], 0, 0) := toks_end h h1
theorem toksA_more {s : ByteArray} {k q : Nat} (h : errOf (nextV s k) = 0) (h1 : (nextV s k).1 ≠ 1) (hq : placeOf (nextV s k) = (q : Int)) (hkq : k < q) :
    toksA s k = (tokOf (nextV s k) :: (toksA s q).1, (toksA s q).2) := by
  unfold toksA
  rw [toks_more h h1 hq, toksF_enough s s.size (s.size + 1) q (by omega) (by omega)]
end Go.Proofs.YtlmopoipjolbgaaDoor.LexW
