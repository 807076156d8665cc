/-
  Plain words of layer 5 (lex): what All hands over, one token after another.
-/
import Derived.Test.YtlmopoipjolbgaaDoorLexTok
namespace Go.Proofs.YtlmopoipjolbgaaDoor.LexW
open Go.RowKit Go.Shelf Go.Proofs.YtlmopoipjolbgaaDoor.LexS Go.Proofs.YtlmopoipjolbgaaDoorW.PrintWords
set_option linter.unusedVariables false
set_option linter.unusedSimpArgs false

theorem err_tok (s : ByteArray) (k : Int) (h : errOf (nextV s k) ≠ 0) : tokOf (nextV s k) = tkz := by
  unfold nextV at h ⊢
  by_cases h1 : 65536 < s.size
  · rw [if_pos h1]; rfl
  rw [if_neg h1] at h ⊢
  by_cases h2 : k < 0 ∨ (s.size : Int) < k
  · rw [if_pos h2]; rfl
  rw [if_neg h2] at h ⊢
  by_cases h3 : beginN s k.toNat < s.size
  · rw [dif_pos h3] at h ⊢
    unfold tokV at h ⊢
    split at h
    · rename_i hl
      rw [if_pos hl]
      split at h
      · rename_i h4; rw [if_pos h4]; rfl
      · exact absurd rfl h
    · rename_i hl
      rw [if_neg hl]
      split at h
      · rename_i hd
        rw [if_pos hd]
        split at h
        · exact absurd rfl h
        · rename_i h4; rw [if_neg h4]; rfl
      · rename_i hd
        rw [if_neg hd]
        split at h
        · rename_i h4; rw [if_pos h4]; rfl
        · exact absurd rfl h
  · rw [dif_neg h3] at h; exact absurd rfl h

/-- what All hands over from a place on -/
def gen (s : ByteArray) (k : Nat) : List (Tk × Int) := (toksA s k).1.map (fun t => (t, 0)) ++ (if (toksA s k).2.1 ≠ 0 then [(tkz, (toksA s k).2.1)] else [])
theorem gen_err {s : ByteArray} {k : Nat} (h : errOf (nextV s k) ≠ 0) : gen s k = [(tokOf (nextV s k), errOf (nextV s k))] := by
  unfold gen
  rw [toksA_err h, err_tok s k h]
  simp only [List.map_nil, List.nil_append]
  rw [if_pos h]
theorem gen_end {s : ByteArray} {k : Nat} (h : errOf (nextV s k) = 0) (h1 : (nextV s k).1 = 1) : gen s k = [(tokOf (nextV s k), errOf (nextV s k))] := by
  unfold gen
  rw [toksA_end h h1, h]
  simp
theorem gen_more {s : ByteArray} {k q : Nat} (h : errOf (nextV s k) = 0) (h1 : (nextV s k).1 ≠ 1) (hq : placeOf (nextV s k) = (q : Int)) (hkq : k < q) : gen s k = (tokOf (nextV s k), errOf (nextV s k)) :: gen s q := by
  unfold gen
  rw [toksA_more h h1 hq hkq, h]
  simp
theorem gen_cons (s : ByteArray) (k : Nat) : ∃ r, gen s k = (tokOf (nextV s k), errOf (nextV s k)) :: r := by
  by_cases h : errOf (nextV s k) = 0
  · obtain ⟨_, _, ⟨he, _⟩ | ⟨p, q, _, hkp, hpq, _, h1, _, _, hpl⟩⟩ := next_ok s k h
    · exact ⟨_, gen_end h (by rw [he])⟩
    · exact ⟨_, gen_more h h1 hpl (by omega)⟩
  · exact ⟨_, gen_err h⟩

/-- tokens are no more than the text's bytes and the end -/
theorem toksF_len (s : ByteArray) : ∀ (f k : Nat), k ≤ s.size → (toksF f s k).1.length + k ≤ s.size + 1 := by
  intro f
  induction f with
  | zero => intro k hk; simp only [toksF, List.length_nil]; omega
  | succ f ih =>
    intro k hk
    by_cases h : errOf (nextV s k) = 0
    · obtain ⟨_, _, ⟨he, _⟩ | ⟨p, q, _, hkp, hpq, hq, h1, _, _, hpl⟩⟩ := next_ok s k h
      · rw [toks_end h (by rw [he])]; simp only [List.length_cons, List.length_nil]; omega
      · rw [toks_more h h1 hpl]
        have := ih q hq
        simp only [List.length_cons]; omega
    · rw [toks_err h]; simp only [List.length_nil]; omega
theorem long_err (s : ByteArray) (k : Int) (h : 65536 < s.size) : nextV s k = (0, nil0, 0, 0, 0, 54) := by unfold nextV; rw [if_pos h]
theorem toks_len (s : ByteArray) : (toks s).1.length ≤ 65537 := by
  by_cases h : 65536 < s.size
  · have : (toks s).1 = [] := by
      unfold toks
      rw [toksA_err (by rw [long_err s _ h]; decide)]
    rw [this]; simp
  · have := toksF_len s (s.size + 2) 0 (by omega)
    show (toksF (s.size + 2) s 0).1.length ≤ _
    omega
theorem gen_len (s : ByteArray) : (gen s 0).length ≤ 65538 := by
  have := toks_len s
  show ((toks s).1.map _ ++ _).length ≤ _
  rw [List.length_append, List.length_map]
  split <;> simp <;> omega

/-- the place behind the tokens that have come -/
def placeT (pre : List Tk) : Int := match pre.getLast? with | none => 0 | some x => wrap64 (x.at_ + (x.text.size : Int))
theorem placeT_snoc (pre : List Tk) (x : Tk) : placeT (pre ++ [x]) = wrap64 (x.at_ + (x.text.size : Int)) := by unfold placeT; rw [List.getLast?_append]; rfl
/-- what is wrong is found again behind the tokens that have come -/
theorem toksF_place (s : ByteArray) : ∀ (f k : Nat) (pre : List Tk), placeT pre = (k : Int) → (toksF f s k).2.1 ≠ 0 → placeOf (nextV s (placeT (pre ++ (toksF f s k).1))) = (toksF f s k).2.2 := by
  intro f
  induction f with
  | zero => intro k pre _ h; exact absurd rfl h
  | succ f ih =>
    intro k pre hp h
    by_cases he : errOf (nextV s k) = 0
    · obtain ⟨hs, hk, ⟨hend, _⟩ | ⟨p, q, _, hkp, hpq, hq, h1, htx, hat, hpl⟩⟩ := next_ok s k he
      · rw [toks_end he (by rw [hend])] at h; exact absurd rfl h
      · rw [toks_more he h1 hpl] at h ⊢
        have hpl2 : placeT (pre ++ [tokOf (nextV s k)]) = (q : Int) := by
          rw [placeT_snoc]
          show wrap64 ((nextV s k).2.2.2.1 + ((nextV s k).2.1.size : Int)) = _
          rw [htx, hat, ByteArray.size_extract]
          have : ((min q s.size - p : Nat) : Int) = (q : Int) - (p : Int) := by omega
          rw [this]
          unfold wrap64; omega
        have := ih q (pre ++ [tokOf (nextV s k)]) hpl2 h
        simpa using this
    · rw [toks_err he, List.append_nil, hp]
theorem toks_place (s : ByteArray) (h : (toks s).2.1 ≠ 0) : placeOf (nextV s (placeT (toks s).1)) = (toks s).2.2 := by
  have := toksF_place s (s.size + 2) 0 [] rfl h
  rw [List.nil_append] at this
  exact this
theorem gen_eq (s : ByteArray) : gen s 0 = (toks s).1.map (fun t => (t, (0 : Int))) ++ (if (toks s).2.1 ≠ 0 then [(tkz, (toks s).2.1)] else []) := rfl
theorem map_fst (l : List Tk) : (l.map (fun t => (t, (0 : Int)))).map (·.1) = l := by
  induction l with
  | nil => rfl
  | cons a l ih => rw [List.map_cons, List.map_cons, ih]

/-- all has come, and nothing was wrong -/
theorem gen_all {s : ByteArray} (h : ∀ x ∈ gen s 0, x.2 = 0) : (toks s).2.1 = 0 ∧ (gen s 0).map (·.1) = (toks s).1 := by
  by_cases he : (toks s).2.1 = 0
  · refine ⟨he, ?_⟩
    rw [gen_eq, if_neg (by simpa using he), List.append_nil, map_fst]
  · exfalso
    apply he
    refine h (tkz, (toks s).2.1) ?_
    rw [gen_eq, if_pos he]
    simp
/-- a part has come, its last is wrong -/
theorem gen_stop {s : ByteArray} {pre : List (Tk × Int)} {x : Tk × Int} (h : pre ++ [x] <+: gen s 0) (hx : x.2 ≠ 0) : (toks s).2.1 = x.2 ∧ pre.map (·.1) = (toks s).1 := by
  have h' : pre ++ [x] <+: (toks s).1.map (fun t => (t, (0 : Int))) ++ (if (toks s).2.1 ≠ 0 then [(tkz, (toks s).2.1)] else []) := h
  obtain ⟨r, hr⟩ := h'
  have hlen : (toks s).1.length ≤ pre.length := by
    by_cases hl : (toks s).1.length ≤ pre.length
    · exact hl
    · exfalso
      have e : (pre ++ [x] ++ r)[pre.length]? = some x := by simp
      rw [hr, List.getElem?_append_left (by rw [List.length_map]; omega), List.getElem?_map] at e
      cases ht : (toks s).1[pre.length]? with
      | none => rw [ht] at e; simp at e
      | some t => rw [ht] at e; simp at e; rw [← e] at hx; exact hx rfl
  by_cases he : (toks s).2.1 = 0
  · exfalso
    rw [if_neg (by simpa using he), List.append_nil] at hr
    have := congrArg List.length hr
    simp at this
    omega
  · rw [if_pos he] at hr
    have hl2 := congrArg List.length hr
    simp at hl2
    have hr0 : r = [] := List.length_eq_zero_iff.1 (by omega)
    subst hr0
    rw [List.append_nil] at hr
    obtain ⟨h1, h2⟩ := List.append_inj hr (by rw [List.length_map]; omega)
    injection h2 with h2 _
    rw [h1, map_fst]
    exact ⟨by rw [h2], rfl⟩
end Go.Proofs.YtlmopoipjolbgaaDoor.LexW
