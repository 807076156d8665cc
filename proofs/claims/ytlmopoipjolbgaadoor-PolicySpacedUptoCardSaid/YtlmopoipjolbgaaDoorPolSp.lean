/-
  Layer 6 (policy), plain: tokens' texts with a blank and further blanks and remarks behind each are cut into the same.
-/
import Derived.Test.YtlmopoipjolbgaaDoorPolEq
namespace Go.Proofs.YtlmopoipjolbgaaDoor.LexW
open Go.RowKit Go.Shelf Go.Proofs.YtlmopoipjolbgaaDoor.LexS Go.Proofs.YtlmopoipjolbgaaDoorW.PrintWords
set_option linter.unusedVariables false
set_option linter.unusedSimpArgs false

/-- blanks and remarks -/
def gapS (g : List UInt8) : Prop := ∀ l, skipS false (g ++ l) = skipS false l
theorem gapS.nil : gapS [] := fun l => rfl
theorem gapS.app {g h : List UInt8} (hg : gapS g) (hh : gapS h) : gapS (g ++ h) := fun l => by rw [List.append_assoc, hg, hh]
theorem gapS.blank {g : List UInt8} (hg : gapS g) : gapS (32 :: g) := fun l => by
  show skipS false (32 :: (g ++ l)) = _
  rw [skipS, if_pos (by decide)]
  exact hg l
def sepB (b : Nat) : List UInt8 := if b = 0 then [10] else if b = 1 then [9, 13] else if b = 2 then [35, 32, 97, 114, 99, 104, 32, 59, 32, 111, 110, 10] else []
theorem sepB_gap (b : Nat) : gapS (sepB b) := fun l => by
  unfold sepB
  split
  · simp [skipS, blankB]
  · split
    · simp [skipS, blankB]
    · split
      · simp [skipS, blankB]
      · rfl
theorem sepB_len (b : Nat) : (sepB b).length ≤ 12 := by
  unfold sepB
  split
  · decide
  · split
    · decide
    · split <;> decide
/-- the texts, each with a blank and a gap behind it -/
def joinG : List Tk → List (List UInt8) → List UInt8
  | t :: l, g :: gs => t.text.data.toList ++ 32 :: g ++ joinG l gs
  | _, _ => []
theorem joinG_snoc (t : Tk) (g : List UInt8) : ∀ (l : List Tk) (gs : List (List UInt8)), gs.length = l.length → joinG (l ++ [t]) (gs ++ [g]) = joinG l gs ++ (t.text.data.toList ++ 32 :: g) := by
  intro l
  induction l with
  | nil => intro gs h; obtain rfl := List.length_eq_zero_iff.1 h; simp [joinG]
  | cons a l ih =>
    intro gs h
    cases gs with
    | nil => simp at h
    | cons b gs =>
      simp only [List.cons_append, joinG]
      rw [ih gs (by simpa using h)]
      simp
/-- the text written anew, so far -/
def Spaced (a : ByteArray) (l : List Tk) : Prop := ∃ gs : List (List UInt8), gs.length = l.length ∧ (∀ g ∈ gs, gapS g) ∧ a.data.toList = joinG l gs
theorem spaced_nil : Spaced ⟨#[]⟩ [] := ⟨[], rfl, fun g h => by simp at h, rfl⟩
theorem spaced_snoc {a : ByteArray} {l : List Tk} (h : Spaced a l) (t : Tk) : Spaced ((a ++ t.text) ++ ⟨#[32]⟩) (l ++ [t]) := by
  obtain ⟨gs, h1, h2, h3⟩ := h
  refine ⟨gs ++ [[]], by simp [h1], fun g hg => ?_, ?_⟩
  · rcases List.mem_append.1 hg with hg | hg
    · exact h2 g hg
    · rw [List.mem_singleton.1 hg]; exact gapS.nil
  · rw [joinG_snoc _ _ _ _ h1, ByteArray.data_append, ByteArray.data_append, Array.toList_append, Array.toList_append, h3]
    simp
theorem spaced_gap {a x : ByteArray} {l : List Tk} (h : Spaced a l) (hl : l ≠ []) (hx : gapS x.data.toList) : Spaced (a ++ x) l := by
  obtain ⟨gs, h1, h2, h3⟩ := h
  have hlen := List.length_pos_iff.2 hl
  have hgs : gs ≠ [] := fun e => by rw [e] at h1; simp at h1; omega
  obtain ⟨l0, t, rfl⟩ : ∃ l0 t, l = l0 ++ [t] := ⟨l.dropLast, l.getLast hl, (List.dropLast_concat_getLast hl).symm⟩
  obtain ⟨g0, g, rfl⟩ : ∃ g0 g, gs = g0 ++ [g] := ⟨gs.dropLast, gs.getLast hgs, (List.dropLast_concat_getLast hgs).symm⟩
  have h0 : g0.length = l0.length := by simpa using h1
  refine ⟨g0 ++ [g ++ x.data.toList], by simp [h0], fun y hy => ?_, ?_⟩
  · rcases List.mem_append.1 hy with hy | hy
    · exact h2 y (List.mem_append_left _ hy)
    · rw [List.mem_singleton.1 hy]
      exact (h2 g (by simp)).app hx
  · rw [joinG_snoc _ _ _ _ h0, ByteArray.data_append, Array.toList_append, h3, joinG_snoc _ _ _ _ h0]
    simp
theorem next_gap {t : Tk} {c : UInt8} {T : List UInt8} (h : TkLike t c T) {S : ByteArray} {k : Nat} {g B : List UInt8} (hS : S.size ≤ 65536) (hg : gapS g) (hd : S.data.toList.drop k = g ++ (c :: T ++ 32 :: B)) :
    nextV S (k : Int) = (t.kind, t.text, t.num, ((k + g.length : Nat) : Int), ((k + g.length + t.text.size : Nat) : Int), (0 : Int)) := by
  obtain ⟨hT, hb, h35⟩ := tk_text h
  have hlen := congrArg List.length hd
  simp only [List.length_drop, List.length_append, List.length_cons] at hlen
  have hsz : S.data.toList.length = S.size := by simp
  have hbeg : beginN S k = k + g.length := by
    unfold beginN
    rw [hd, hg, List.cons_append, skipS, hb, if_neg (by simp), if_neg (by simpa using h35)]
    simp only [List.length_append, List.length_cons]
    omega
  have hp : k + g.length < S.size := by omega
  have hd2 : S.data.toList.drop (k + g.length) = c :: T ++ 32 :: B := by rw [← List.drop_drop, hd, List.drop_left]
  unfold nextV
  rw [if_neg (by omega), if_neg (by omega), Int.toNat_natCast]
  rw [dif_pos (by rw [hbeg]; exact hp)]
  have := tok_again h hp hd2
  simp only [hbeg]
  exact this
theorem spaced_from {s : ByteArray} : ∀ {k : Nat} {l : List Tk}, Stand s k l → ∀ {S : ByteArray} {j : Nat} {g : List UInt8} {gs : List (List UInt8)}, S.size ≤ 65536 → j ≤ S.size → gapS g → gs.length = l.length → (∀ g ∈ gs, gapS g) → S.data.toList.drop j = g ++ joinG l gs →
    (toksA S j).2.1 = 0 ∧ (toksA S j).1.map strip = l.map strip := by
  intro k l hst
  induction hst with
  | last hk =>
    intro S j g gs hS hj hg hgl hgs hd
    obtain ⟨g1, rfl⟩ : ∃ g1, gs = [g1] := by
      match gs, hgl with
      | [g1], _ => exact ⟨g1, rfl⟩
    have h1 : gapS g1 := hgs g1 (by simp)
    have hbeg : beginN S j = S.size := by
      unfold beginN
      rw [hd, hg]
      show S.size - (skipS false (32 :: g1 ++ [])).length = _
      rw [h1.blank []]
      rfl
    have hn : nextV S (j : Int) = (1, nil0, 0, (S.size : Int), (S.size : Int), 0) := by
      unfold nextV
      rw [if_neg (by omega), if_neg (by omega), Int.toNat_natCast, dif_neg (by rw [hbeg]; omega)]
    rw [toksA_end (by rw [hn]) (by rw [hn]), hn]
    exact ⟨rfl, rfl⟩
  | @more k p q t c T l hl h1 h2 h3 ht ha r ih =>
    intro S j g gs hS hj hg hgl hgs hd
    cases gs with
    | nil => simp at hgl
    | cons g1 gs =>
    obtain ⟨hT, _, _⟩ := tk_text hl
    have hd2 : S.data.toList.drop j = g ++ (c :: T ++ 32 :: (g1 ++ joinG l gs)) := by
      rw [hd]; show g ++ (t.text.data.toList ++ 32 :: g1 ++ joinG l gs) = _; rw [hT]; simp
    have hn := next_gap hl hS hg hd2
    have hlen := congrArg List.length hd2
    simp only [List.length_drop, List.length_append, List.length_cons] at hlen
    have hsz : S.data.toList.length = S.size := by simp
    have htl : t.text.size = T.length + 1 := by rw [size_list, hT]; rfl
    have hd3 : S.data.toList.drop (j + g.length + t.text.size) = (32 :: g1) ++ joinG l gs := by
      rw [← List.drop_drop, ← List.drop_drop, hd2, List.drop_left, size_list, hT, List.drop_left]; rfl
    obtain ⟨e1, e2⟩ := ih hS (by omega) (hgs g1 (by simp)).blank (by simpa using hgl) (fun g hg => hgs g (by simp [hg])) hd3
    rw [toksA_more (q := j + g.length + t.text.size) (by rw [hn]) (by rw [hn]; exact (tk_kinds hl).1) (by rw [hn]) (by omega)]
    refine ⟨e1, ?_⟩
    rw [List.map_cons, List.map_cons, e2, hn]
    rfl
theorem spaced_toks {s S : ByteArray} (he : (toks s).2.1 = 0) (hS : S.size ≤ 65536) (h : Spaced S (toks s).1) : Alike (toks s).1 (toks S).1 ∧ (toks s).2.1 = (toks S).2.1 := by
  obtain ⟨gs, h1, h2, h3⟩ := h
  obtain ⟨e1, e2⟩ := spaced_from (stand_toks he) (S := S) (j := 0) (g := []) hS (by omega) gapS.nil h1 h2 (by rw [List.drop_zero, h3]; rfl)
  exact ⟨e2.symm, by rw [he]; exact e1.symm⟩
theorem spaced_same {s S : ByteArray} (he : (toks s).2.1 = 0) (hS : S.size ≤ 65536) (h : Spaced S (toks s).1) : ((parseV s).1 = (parseV S).1 ∧ (parseV s).2.1 = (parseV S).2.1) ∧ (exprV s).1 = (exprV S).1 ∧ (exprV s).2.1 = (exprV S).2.1 :=
  let ⟨h1, h2⟩ := spaced_toks he hS h
  ⟨parse_alike h1 h2, expr_alike h1 h2⟩
end Go.Proofs.YtlmopoipjolbgaaDoor.LexW
