/-
  Layer 6 (policy), plain: what is read from a text is well formed. · Layer 6 (policy), plain: what the reference reads, as a function of its reader's state (no program). · Layer 6 (policy), the reference: its reader in memory; fails, peek. · Layer 6 (policy), the reference: next, is, want, kind.
-/
import Derived.Test.YtlmopoipjolbgaaGreatDoorM06
import Derived.Test.YtlmopoipjolbgaaGreatDoorM05
import Derived.Test.YtlmopoipjolbgaaGreatDoorM03
import Derived.BigQuiet
import Derived.Deep.RegionHeld3
namespace Go.Proofs.YtlmopoipjolbgaaGreatDoor.LexW
open Go.RowKit Go.Shelf Go.Proofs.YtlmopoipjolbgaaGreatDoor.LexS Go.Proofs.YtlmopoipjolbgaaGreatDoorW.PrintWords
set_option linter.unusedVariables false
set_option linter.unusedSimpArgs false

theorem valL_hex_lt : ∀ (l : List UInt8) (n k : Nat), l.all hexB = true → n < 16 ^ k → valL 16 hexV n l < 16 ^ (k + l.length)
  | [], n, k, _, h => h
  | c :: l, n, k, ha, h => by
    rw [List.all_cons, Bool.and_eq_true] at ha
    have hc : hexV c < 16 := by
      have := ha.1
      unfold hexB digitB at this
      unfold hexV
      simp only [Bool.or_eq_true, Bool.and_eq_true, decide_eq_true_eq] at this
      simp only [UInt8.le_iff_toNat_le] at this ⊢
      have e48 : (48 : UInt8).toNat = 48 := rfl
      have e57 : (57 : UInt8).toNat = 57 := rfl
      have e97 : (97 : UInt8).toNat = 97 := rfl
      have e102 : (102 : UInt8).toNat = 102 := rfl
      rw [e48, e57, e97, e102] at this
      rw [e57]
      split <;> omega
    have := valL_hex_lt l (16 * n + hexV c) (k + 1) ha.2 (by rw [Nat.pow_succ]; omega)
    rw [valL, List.length_cons, show k + (l.length + 1) = k + 1 + l.length by omega]
    exact this
theorem numL_lt {l : List UInt8} {n : Nat} (h : numL l = some n) : n < 18446744073709551616 := by
  unfold numL at h
  split at h
  · split at h
    · rename_i hh
      cases h
      have := valL_hex_lt (l.drop 2) 0 0 hh.2.2 (by decide)
      refine Nat.lt_of_lt_of_le this ?_
      have h2 : 16 ^ (0 + (l.drop 2).length) ≤ 16 ^ 16 := Nat.pow_le_pow_right (by decide) (by have := hh.2.1; omega)
      exact Nat.le_trans h2 (by decide)
    · cases h
  · split at h
    · rename_i hh
      cases h
      exact hh.2.2.2
    · cases h
theorem numR_u64 (l : List UInt8) : U64 (numR l).1 := by
  unfold numR
  cases h : numL l with
  | none => exact u64_0
  | some n => exact ⟨by simp, by have := numL_lt h; simp only; omega⟩
theorem like_ok {t : Tk} {c : UInt8} {T : List UInt8} (h : TkLike t c T) : TkFit t := by
  have h1 := tk_kinds h
  have h2 := (tk_text h).1
  refine ⟨?_, fun hk => ?_⟩
  · cases h with
    | number hT hk hc hw hr hn => rw [hn]; exact numR_u64 _
    | word => simp_all [u64_0]
    | sign => simp_all [u64_0]
  · rw [h2, ← h1.2.2.2, hk]; rfl
theorem toksF_ok (s : ByteArray) : ∀ f k, TksFit (toksF f s k).1
  | 0, k => by intro t h; simp [toksF] at h
  | f + 1, k => by
    intro t ht
    unfold toksF at ht
    split at ht
    · simp at ht
    · rename_i h0
      have h0 : errOf (nextV s k) = 0 := by simpa using h0
      split at ht
      · rename_i h1
        rw [List.mem_singleton.1 ht]
        obtain ⟨_, _, ⟨hend, _⟩ | ⟨p, q, _, _, _, _, h2, _, _, _⟩⟩ := next_ok s k h0
        · rw [hend]; exact ⟨u64_0, fun h => absurd (show (1 : Int) = 2 from h) (by decide)⟩
        · exact absurd h1 h2
      · rename_i h1
        rcases List.mem_cons.1 ht with rfl | ht
        · obtain ⟨c, T, hl⟩ := tok_like s k h0 h1
          exact like_ok hl
        · exact toksF_ok s f _ t ht
theorem toks_tok (s : ByteArray) : TksFit (toks s).1 := toksF_ok s _ _

theorem wholeP_val {α : Type} {P : α → Prop} {w : α → Nat} {f : EP → List Tk → Rd α} (hf : ∀ ep, Yields P w (f ep)) {s : ByteArray} {x : α} (h : wholeP f s = .ok x) : P x ∧ w x ≤ (toks s).1.length := by
  have hg := toks_tok s
  unfold wholeP at h
  split at h
  · cases h
  · obtain ⟨p, h1, h2⟩ := bnd_inv h
    have hy := hf _ _ _ _ hg h1
    obtain ⟨q, h3, h4⟩ := bnd_inv h2
    cases h4
    exact ⟨hy.1, by omega⟩
/-- an expression that was read -/
theorem exprV_val {s : ByteArray} {X : Ex} {e1 q1 : Int} (h : exprV s = (X, (e1, q1))) (h0 : e1 = 0) : okE X ∧ wE X ≤ 65538 ∧ dE X ≤ 64 := by
  unfold exprV at h
  split at h
  · rename_i x hx
    injection h with ha hb
    subst ha
    have hv := wholeP_val (fun ep => exprP_y ep (oneP_y ep 64)) hx
    have hl := toks_len s
    exact ⟨hv.1.1, by omega, hv.1.2⟩
  · rename_i e he
    injection h with ha hb
    exfalso
    have := wholeP_nz (fun ep => expr_nz ep (one_nz ep 64)) s e he
    rw [hb] at this
    exact this h0
theorem parseV_val {s : ByteArray} {P : Po} {e1 q1 : Int} (h : parseV s = (P, (e1, q1))) (h0 : e1 = 0) : okP P ∧ wP P ≤ 65538 := by
  unfold parseV at h
  split at h
  · rename_i x hx
    injection h with ha hb
    subst ha
    have hv := wholeP_val policyP_y hx
    have hl := toks_len s
    exact ⟨hv.1, by omega⟩
  · rename_i e he
    injection h with ha hb
    exfalso
    have := wholeP_nz policy_nz s e he
    rw [hb] at this
    exact this h0
end Go.Proofs.YtlmopoipjolbgaaGreatDoor.LexW
namespace Go.Proofs.YtlmopoipjolbgaaGreatDoor.LexW
open Go.RowKit Go.Shelf Go.Proofs.YtlmopoipjolbgaaGreatDoor.LexS Go.Proofs.YtlmopoipjolbgaaGreatDoorW.PrintWords
set_option linter.unusedVariables false
set_option linter.unusedSimpArgs false

/-- a reader's state: the tokens that are left, the first error and its place -/
structure RS where
  M : List Tk
  err : Int
  bad : Int
def RS.tl (S : RS) : RS := ⟨S.M.tail, S.err, S.bad⟩
def failsL (e a : Int) (S : RS) : RS := if S.err = 0 then ⟨S.M, e, a⟩ else S
def peekL (ep : EP) (S : RS) : Tk × RS := if S.err = 0 then (match S.M with | [] => (tkz, failsL ep.1 ep.2 S) | t :: _ => (t, S)) else (tkz, S)
def nextL (ep : EP) (S : RS) : Tk × RS := if (peekL ep S).2.err = 0 then ((peekL ep S).1, (peekL ep S).2.tl) else peekL ep S
def isL (ep : EP) (k : Int) (x : ByteArray) (S : RS) : Bool × RS :=
  if (peekL ep S).2.err = 0 then (if (peekL ep S).1.kind = k then (if (peekL ep S).1.text = x then (true, (peekL ep S).2.tl) else (false, (peekL ep S).2)) else (false, (peekL ep S).2)) else (false, (peekL ep S).2)
def wantL (ep : EP) (k : Int) (x : ByteArray) (S : RS) : RS :=
  if (isL ep k x S).1 = true then (isL ep k x S).2 else failsL 61 (peekL ep (isL ep k x S).2).1.at_ (peekL ep (isL ep k x S).2).2
def kindL (ep : EP) (k : Int) (S : RS) : Tk × RS :=
  if (peekL ep S).1.kind = k then nextL ep (peekL ep S).2 else (tkz, failsL 61 (peekL ep S).1.at_ (peekL ep S).2)
def verdictL (ep : EP) (S : RS) : Vd × RS :=
  let p := kindL ep 2 S
  if p.2.err = 0 then
    match wordsT.find? (fun x => decide (p.1.text = x.1)) with
    | some (_, k, n) => if n = true then (⟨k, (kindL ep 3 p.2).1.num⟩, (kindL ep 3 p.2).2) else (⟨k, 0⟩, p.2)
    | none => (zVd, failsL 61 p.1.at_ p.2)
  else (zVd, p.2)
def callL (ep : EP) (S : RS) : Cl × RS :=
  let p := peekL ep S
  if p.1.kind = 2 then (⟨p.1.text, 0⟩, (nextL ep p.2).2) else if p.1.kind = 3 then (⟨nil0, p.1.num⟩, (nextL ep p.2).2) else (zCl, failsL 61 p.1.at_ p.2)
/-- a sign's relation -/
def relT (x : ByteArray) : Int := match relsT.findIdx? (fun y => decide (x = y)) with | some i => (i : Int) + 1 | none => 0
/-- a word's field -/
def fieldT (x : ByteArray) : Int := match fieldsT.findIdx? (fun y => decide (x = y)) with | some i => (i : Int) | none => -1
def maskL (ep : EP) (S : RS) : Int × RS :=
  let m := isL ep 4 sAmp S
  if m.1 = true then ((kindL ep 3 m.2).1.num, (kindL ep 3 m.2).2) else (18446744073709551615, m.2)
def testL (ep : EP) (f : Int) (S : RS) : Ex × RS :=
  let m := maskL ep S
  let t := kindL ep 4 m.2
  let S2 := if relT t.1.text = 0 then failsL 61 t.1.at_ t.2 else t.2
  let v := kindL ep 3 S2
  (⟨6, [], f, m.1, relT t.1.text, v.1.num⟩, v.2)
def moreL {α : Type} (ep : EP) (one : RS → α × RS) (k : Int) (x : ByteArray) : Nat → List α → RS → List α × RS
  | 0, l, S => (l, S)
  | n + 1, l, S => if S.err = 0 then (if (isL ep k x S).1 = true then moreL ep one k x n (l ++ [(one (isL ep k x S).2).1]) (one (isL ep k x S).2).2 else (l, (isL ep k x S).2)) else (l, S)
def allL (ep : EP) (one : RS → Ex × RS) (S : RS) : Ex × RS :=
  let m := moreL ep one 2 sAnd ((one S).2.M.length + 1) [(one S).1] (one S).2
  (joinE 4 m.1, m.2)
def exprL (ep : EP) (one : RS → Ex × RS) (S : RS) : Ex × RS :=
  let m := moreL ep (allL ep one) 2 sOr ((allL ep one S).2.M.length + 1) [(allL ep one S).1] (allL ep one S).2
  (joinE 5 m.1, m.2)
/-- behind a token that was taken, neither not nor ( -/
def atomL (ep : EP) (t : Tk) (S : RS) : Ex × RS :=
  if t.kind = 2 then
    (if t.text = sTrue then (⟨1, [], 0, 0, 0, 0⟩, S) else if t.text = sFalse then (⟨2, [], 0, 0, 0, 0⟩, S) else if 0 ≤ fieldT t.text then testL ep (fieldT t.text) S else (zEx, failsL 61 t.at_ S))
  else (zEx, failsL 61 t.at_ S)
def oneL (ep : EP) : Nat → RS → Ex × RS
  | 0, S =>
    let p := nextL ep S
    if p.2.err = 0 then
      (if p.1.kind = 2 ∧ p.1.text = sNot then (zEx, failsL 62 p.1.at_ p.2) else if p.1.kind = 4 ∧ p.1.text = sOpen then (zEx, failsL 62 p.1.at_ p.2) else atomL ep p.1 p.2)
    else (zEx, p.2)
  | k + 1, S =>
    let p := nextL ep S
    if p.2.err = 0 then
      (if p.1.kind = 2 ∧ p.1.text = sNot then (⟨3, [(oneL ep k p.2).1], 0, 0, 0, 0⟩, (oneL ep k p.2).2)
       else if p.1.kind = 4 ∧ p.1.text = sOpen then ((exprL ep (oneL ep k) p.2).1, wantL ep 4 sShut (exprL ep (oneL ep k) p.2).2) else atomL ep p.1 p.2)
    else (zEx, p.2)
def callsL (ep : EP) : Nat → List Cl → RS → List Cl × RS
  | 0, l, S => (l, S)
  | n + 1, l, S => let c := callL ep S; if (isL ep 4 sComma c.2).1 = true then callsL ep n (l ++ [c.1]) (isL ep 4 sComma c.2).2 else (l ++ [c.1], (isL ep 4 sComma c.2).2)
def whenL (ep : EP) (S : RS) : Ex × RS := if (isL ep 2 sWhen S).1 = true then exprL ep (oneL ep 64) (isL ep 2 sWhen S).2 else (⟨1, [], 0, 0, 0, 0⟩, (isL ep 2 sWhen S).2)
def ruleL (ep : EP) (S : RS) : Rl × RS :=
  let c := callsL ep (S.M.length + 1) [] S
  let x := whenL ep c.2
  let v := verdictL ep (wantL ep 2 sDo x.2)
  (⟨c.1, x.1, v.1⟩, wantL ep 4 sSemi v.2)
def rulesL (ep : EP) : Nat → List Rl → RS → List Rl × RS
  | 0, l, S => (l, S)
  | n + 1, l, S =>
    if S.err = 0 then
      let p := peekL ep S
      let m := isL ep 2 sOn p.2
      if m.1 = true then (if l.length = 512 then (l, failsL 63 p.1.at_ m.2) else rulesL ep n (l ++ [(ruleL ep m.2).1]) (ruleL ep m.2).2) else (l, m.2)
    else (l, S)
def policyL (ep : EP) (S : RS) : Po × RS :=
  let a := kindL ep 2 (wantL ep 2 sArch S)
  let f := verdictL ep (wantL ep 2 sForeign (wantL ep 4 sSemi a.2))
  let d := verdictL ep (wantL ep 2 sDefault (wantL ep 4 sSemi f.2))
  let S9 := wantL ep 4 sSemi d.2
  let r := rulesL ep (S9.M.length + 1) [] S9
  (⟨a.1.text, f.1, d.1, r.1⟩, r.2)
/-- a whole text's -/
def wholeL {α : Type} (z : α) (f : EP → RS → α × RS) (s : ByteArray) : α × EP :=
  let p := f (toks s).2 ⟨(toks s).1, 0, 0⟩
  let q := kindL (toks s).2 1 p.2
  if q.2.err = 0 then (p.1, (0, 0)) else (z, (q.2.err, q.2.bad))

/-! ### what is left is no more -/
theorem tl_len (S : RS) : S.tl.M.length ≤ S.M.length := by unfold RS.tl; simp
theorem fails_M (e a : Int) (S : RS) : (failsL e a S).M = S.M := by unfold failsL; split <;> rfl
theorem peek_M (ep : EP) (S : RS) : (peekL ep S).2.M = S.M := by
  unfold peekL
  split
  · split
    · rw [fails_M]
    · rfl
  · rfl
theorem peek_bad {ep : EP} {S : RS} (h : S.err ≠ 0) : peekL ep S = (tkz, S) := by unfold peekL; rw [if_neg h]
theorem next_bad {ep : EP} {S : RS} (h : S.err ≠ 0) : nextL ep S = (tkz, S) := by unfold nextL; rw [peek_bad h]; exact if_neg h
theorem next_len (ep : EP) (S : RS) : (nextL ep S).2.M.length ≤ S.M.length := by
  unfold nextL
  split
  · have := tl_len (peekL ep S).2; rw [peek_M] at this; exact this
  · rw [peek_M]; exact Nat.le_refl _
theorem is_len (ep : EP) (k : Int) (x : ByteArray) (S : RS) : (isL ep k x S).2.M.length ≤ S.M.length := by
  unfold isL
  have := tl_len (peekL ep S).2
  rw [peek_M] at this
  split
  · split
    · split
      · exact this
      · rw [peek_M]; exact Nat.le_refl _
    · rw [peek_M]; exact Nat.le_refl _
  · rw [peek_M]; exact Nat.le_refl _

/-! ### a list that ends well is not read past its end -/
def Fin3 (ep : EP) (S : RS) : Prop := S.err = 0 → ep.1 = 0 → ∃ x, S.M.getLast? = some x ∧ x.kind = 1 ∧ ∀ y ∈ S.M.dropLast, y.kind ≠ 1
theorem Fin3.ne {ep : EP} {S : RS} (h : Fin3 ep S) (h0 : S.err = 0) (he : ep.1 = 0) : S.M ≠ [] := by
  obtain ⟨x, hx, _⟩ := h h0 he
  intro e
  rw [e] at hx
  cases hx
theorem fails_fin {ep : EP} {S : RS} {e a : Int} (he : e ≠ 0) : Fin3 ep (failsL e a S) := by
  intro h
  unfold failsL at h
  split at h
  · exact absurd h he
  · rename_i h2; exact absurd h h2
theorem fails_err {S : RS} {e a : Int} (he : e ≠ 0) : (failsL e a S).err ≠ 0 := by
  unfold failsL
  split
  · exact he
  · rename_i h; exact h
theorem peek_fin {ep : EP} {S : RS} (h : Fin3 ep S) : Fin3 ep (peekL ep S).2 := by
  intro h1 h2
  rw [peek_M]
  by_cases h0 : S.err = 0
  · exact h h0 h2
  · unfold peekL at h1; rw [if_neg h0] at h1; exact absurd h1 h0
/-- the next token, where nothing is wrong -/
theorem peek_ok {ep : EP} {S : RS} (h : Fin3 ep S) (h0 : (peekL ep S).2.err = 0) : ∃ r, S.M = (peekL ep S).1 :: r ∧ (peekL ep S).2 = S ∧ S.err = 0 := by
  unfold peekL at h0 ⊢
  by_cases he : S.err = 0
  · rw [if_pos he] at h0 ⊢
    cases hM : S.M with
    | nil =>
      rw [hM] at h0
      by_cases hp : ep.1 = 0
      · exact absurd hM (h.ne he hp)
      · exact absurd h0 (fails_err hp)
    | cons t r => exact ⟨r, rfl, rfl, he⟩
  · rw [if_neg he] at h0; exact absurd h0 he
theorem tl_fin {ep : EP} {S : RS} {t : Tk} {r : List Tk} (h : Fin3 ep S) (hM : S.M = t :: r) (hk : t.kind ≠ 1) : Fin3 ep S.tl := by
  intro h1 h2
  obtain ⟨x, hx, hx1, hx2⟩ := h h1 h2
  unfold RS.tl
  rw [hM] at hx hx2 ⊢
  cases r with
  | nil =>
    have : t = x := by simpa using hx
    subst this
    exact absurd hx1 hk
  | cons u r =>
    refine ⟨x, by simpa using hx, hx1, fun y hy => hx2 y ?_⟩
    simp only [List.dropLast_cons_cons]
    exact List.mem_cons_of_mem _ hy
theorem next_fin {ep : EP} {S : RS} (h : Fin3 ep S) (hk : (nextL ep S).1.kind ≠ 1) : Fin3 ep (nextL ep S).2 := by
  unfold nextL at hk ⊢
  split
  · rename_i h0
    rw [if_pos h0] at hk
    obtain ⟨r, hM, h2, _⟩ := peek_ok h h0
    rw [h2]
    exact tl_fin h hM hk
  · exact peek_fin h
theorem is_fin {ep : EP} {k : Int} {x : ByteArray} {S : RS} (h : Fin3 ep S) (hk : k ≠ 1) : Fin3 ep (isL ep k x S).2 := by
  unfold isL
  split
  · rename_i h0
    split
    · rename_i h1
      split
      · obtain ⟨r, hM, h2, _⟩ := peek_ok h h0
        rw [h2]
        exact tl_fin h hM (by rw [h1]; exact hk)
      · exact peek_fin h
    · exact peek_fin h
  · exact peek_fin h
theorem want_fin {ep : EP} {k : Int} {x : ByteArray} {S : RS} (h : Fin3 ep S) (hk : k ≠ 1) : Fin3 ep (wantL ep k x S) := by
  unfold wantL
  split
  · exact is_fin h hk
  · exact fails_fin (by decide)
theorem kind_fin {ep : EP} {k : Int} {S : RS} (h : Fin3 ep S) (hk : k ≠ 1) : Fin3 ep (kindL ep k S).2 := by
  unfold kindL
  split
  · rename_i h1
    have hp := peek_fin h
    by_cases h0 : (peekL ep S).2.err = 0
    · obtain ⟨r, hM, h2, h3⟩ := peek_ok h h0
      have hn : (nextL ep (peekL ep S).2).1.kind ≠ 1 := by
        unfold nextL
        rw [h2, if_pos h0, h1]
        exact hk
      exact next_fin hp hn
    · intro h4 h5
      rw [next_bad h0] at h4
      exact absurd h4 h0
  · exact fails_fin (by decide)
theorem verdict_fin {ep : EP} {S : RS} (h : Fin3 ep S) : Fin3 ep (verdictL ep S).2 := by
  unfold verdictL
  have hp := kind_fin h (show (2 : Int) ≠ 1 by decide)
  simp only
  split
  · split
    · split
      · exact kind_fin hp (by decide)
      · exact hp
    · exact fails_fin (by decide)
  · exact hp
theorem call_fin {ep : EP} {S : RS} (h : Fin3 ep S) : Fin3 ep (callL ep S).2 := by
  have hp := peek_fin h
  have key : ∀ k : Int, k ≠ 1 → (peekL ep S).1.kind = k → Fin3 ep (nextL ep (peekL ep S).2).2 := fun k hk h1 => by
    have := kind_fin h hk
    unfold kindL at this
    rw [if_pos h1] at this
    exact this
  unfold callL
  simp only
  split
  · rename_i h1; exact key 2 (by decide) h1
  · split
    · rename_i h1; exact key 3 (by decide) h1
    · exact fails_fin (by decide)
theorem mask_fin {ep : EP} {S : RS} (h : Fin3 ep S) : Fin3 ep (maskL ep S).2 := by
  unfold maskL
  simp only
  split
  · exact kind_fin (is_fin h (by decide)) (by decide)
  · exact is_fin h (by decide)
theorem test_fin {ep : EP} {f : Int} {S : RS} (h : Fin3 ep S) : Fin3 ep (testL ep f S).2 := by
  unfold testL
  simp only
  refine kind_fin ?_ (by decide)
  split
  · exact fails_fin (by decide)
  · exact kind_fin (mask_fin h) (by decide)
theorem more_fin {α : Type} {ep : EP} {one : RS → α × RS} (h1 : ∀ S, Fin3 ep S → Fin3 ep (one S).2) {k : Int} {x : ByteArray} (hk : k ≠ 1) : ∀ n l S, Fin3 ep S → Fin3 ep (moreL ep one k x n l S).2 := by
  intro n
  induction n with
  | zero => intro l S h; exact h
  | succ n ih =>
    intro l S h
    unfold moreL
    split
    · split
      · exact ih _ _ (h1 _ (is_fin h hk))
      · exact is_fin h hk
    · exact h
theorem all_fin {ep : EP} {one : RS → Ex × RS} (h1 : ∀ S, Fin3 ep S → Fin3 ep (one S).2) {S : RS} (h : Fin3 ep S) : Fin3 ep (allL ep one S).2 := by
  unfold allL
  exact more_fin h1 (by decide) _ _ _ (h1 _ h)
theorem expr_fin {ep : EP} {one : RS → Ex × RS} (h1 : ∀ S, Fin3 ep S → Fin3 ep (one S).2) {S : RS} (h : Fin3 ep S) : Fin3 ep (exprL ep one S).2 := by
  unfold exprL
  exact more_fin (fun _ h => all_fin h1 h) (by decide) _ _ _ (all_fin h1 h)
theorem atom_fin {ep : EP} {t : Tk} {S : RS} (h : t.kind ≠ 1 → Fin3 ep S) : Fin3 ep (atomL ep t S).2 := by
  unfold atomL
  split
  · rename_i h2
    have h' := h (by rw [h2]; decide)
    split
    · exact h'
    · split
      · exact h'
      · split
        · exact test_fin h'
        · exact fails_fin (by decide)
  · exact fails_fin (by decide)
theorem one_fin {ep : EP} : ∀ k S, Fin3 ep S → Fin3 ep (oneL ep k S).2 := by
  intro k
  induction k with
  | zero =>
    intro S h
    unfold oneL
    simp only
    split
    · split
      · exact fails_fin (by decide)
      · split
        · exact fails_fin (by decide)
        · exact atom_fin (fun hk => next_fin h hk)
    · rename_i h0; exact fun h1 => absurd h1 h0
  | succ k ih =>
    intro S h
    unfold oneL
    simp only
    split
    · split
      · rename_i h2
        exact ih _ (next_fin h (by rw [h2.1]; decide))
      · split
        · rename_i h2
          exact want_fin (expr_fin ih (next_fin h (by rw [h2.1]; decide))) (by decide)
        · exact atom_fin (fun hk => next_fin h hk)
    · rename_i h0; exact fun h1 => absurd h1 h0
theorem calls_fin {ep : EP} : ∀ n l S, Fin3 ep S → Fin3 ep (callsL ep n l S).2 := by
  intro n
  induction n with
  | zero => intro l S h; exact h
  | succ n ih =>
    intro l S h
    unfold callsL
    simp only
    split
    · exact ih _ _ (is_fin (call_fin h) (by decide))
    · exact is_fin (call_fin h) (by decide)
theorem when_fin {ep : EP} {S : RS} (h : Fin3 ep S) : Fin3 ep (whenL ep S).2 := by
  unfold whenL
  split
  · exact expr_fin (one_fin 64) (is_fin h (by decide))
  · exact is_fin h (by decide)
theorem rule_fin {ep : EP} {S : RS} (h : Fin3 ep S) : Fin3 ep (ruleL ep S).2 := by
  unfold ruleL
  simp only
  exact want_fin (verdict_fin (want_fin (when_fin (calls_fin _ _ _ h)) (by decide))) (by decide)
theorem rules_fin {ep : EP} : ∀ n l S, Fin3 ep S → Fin3 ep (rulesL ep n l S).2 := by
  intro n
  induction n with
  | zero => intro l S h; exact h
  | succ n ih =>
    intro l S h
    unfold rulesL
    simp only
    split
    · split
      · split
        · exact fails_fin (by decide)
        · exact ih _ _ (rule_fin (is_fin (peek_fin h) (by decide)))
      · exact is_fin (peek_fin h) (by decide)
    · exact h
theorem policy_fin {ep : EP} {S : RS} (h : Fin3 ep S) : Fin3 ep (policyL ep S).2 := by
  unfold policyL
  simp only
  exact rules_fin _ _ _ (want_fin (verdict_fin (want_fin (want_fin (verdict_fin (want_fin (want_fin (kind_fin (want_fin h (by decide)) (by decide)) (by decide)) (by decide))) (by decide)) (by decide))) (by decide))
end Go.Proofs.YtlmopoipjolbgaaGreatDoor.LexW
namespace Go.Proofs.YtlmopoipjolbgaaGreatDoor.LexW
open Go.RowKit Go.Shelf Go.Proofs.YtlmopoipjolbgaaGreatDoor.LexS Go.Proofs.YtlmopoipjolbgaaGreatDoorW.PrintWords
set_option linter.unusedVariables false
set_option linter.unusedSimpArgs false

/-- the reader's block -/
def RfB (W : World) (g : Nat) (LL : List Tk) (ep : EP) (A : Option Addr) (c k : Nat) (d e b : Int) : Prop :=
  W.heap[g]? = some (.cells #[.slice A LL.length c, .int .i64 ep.1, .int .i64 ep.2, .int .i64 k, .int .i64 d, .int .i64 e, .int .i64 b] 64 (0, 0))
theorem blk7 {W : World} {b : Nat} {v0 v1 v2 v3 v4 v5 v6 : Value} {t : TypeId} (h : W.heap[b]? = some (.cells #[v0, v1, v2, v3, v4, v5, v6] t (0, 0))) : W.cell? ⟨b, 0, none⟩ = some v0 ∧ W.cell? ⟨b, 1, none⟩ = some v1 ∧ W.cell? ⟨b, 2, none⟩ = some v2 ∧ W.cell? ⟨b, 3, none⟩ = some v3 ∧ W.cell? ⟨b, 4, none⟩ = some v4 ∧ W.cell? ⟨b, 5, none⟩ = some v5 ∧ W.cell? ⟨b, 6, none⟩ = some v6 ∧ ∀ j, W.frozen? ⟨b, j, none⟩ = false := by
  refine ⟨?_, ?_, ?_, ?_, ?_, ?_, ?_, fun j => ?_⟩ <;> simp [World.cell?, World.frozen?, h]
/-- the tokens' row lies ahead of the reader -/
def RfT (W : World) (g : Nat) (LL : List Tk) (A : Option Addr) (c : Nat) : Prop := kTk.R 59 W 0 (fun j => j < g) (.slice A LL.length c) LL
theorem RfT.chg {S : Nat → Prop} {W W' : World} {g : Nat} {LL : List Tk} {A : Option Addr} {c : Nat} (h : RfT W g LL A c) (hc : Chg S W W') (hS : ∀ k, S k → g ≤ k) : RfT W' g LL A c :=
  Kd.R_mono (Kd.R_move (Kd.R_bound h) (fun k hk => hc.block k hk.2.2.1 (fun e => by have := hS k e; have := hk.1; omega))) (fun _ hk => hk.1)
/-- the reader in the state S -/
def RfS (W : World) (g : Nat) (LL : List Tk) (ep : EP) (d : Int) (S : RS) : Prop :=
  ∃ A c k, RfB W g LL ep A c k d S.err S.bad ∧ RfT W g LL A c ∧ S.M = LL.drop k ∧ k ≤ LL.length ∧ LL.length ≤ 65537
theorem RfS.lt {W : World} {g : Nat} {LL : List Tk} {ep : EP} {d : Int} {S : RS} (h : RfS W g LL ep d S) : g < W.heap.size := let ⟨_, _, _, hB, _⟩ := h; (Array.getElem?_eq_some_iff.1 hB).1
theorem RfS.chg {S' : Nat → Prop} {W W' : World} {g : Nat} {LL : List Tk} {ep : EP} {d : Int} {S : RS} (h : RfS W g LL ep d S) (hc : Chg S' W W') (hS : ∀ k, S' k → g < k) : RfS W' g LL ep d S :=
  let ⟨A, c, k, hB, hT, h3⟩ := h
  ⟨A, c, k, chg_block hc hB (fun e => by have := hS g e; omega), hT.chg hc (fun k e => Nat.le_of_lt (hS k e)), h3⟩
theorem RfS.below {W W' : World} {g : Nat} {LL : List Tk} {ep : EP} {d : Int} {S : RS} (h : RfS W g LL ep d S) (hb : Below W.heap.size W W') : RfS W' g LL ep d S := h.chg (Chg.of_below hb (fun _ => False)) (fun _ e => e.elim)
theorem RfS.far {W : World} {g : Nat} {LL : List Tk} {ep : EP} {d : Int} {S : RS} (h : RfS W g LL ep d S) (b j : Nat) (hb : g < b) (v : Value) : RfS (W.setCell ⟨b, j, none⟩ v) g LL ep d S :=
  h.chg (Chg.of_set W b j v) (fun k e => by omega)
/-- what a step of the reader leaves -/
structure LOut (W : World) (g : Nat) (LL : List Tk) (ep : EP) (d : Int) (S : RS) (W' : World) : Prop where
  st : RfS W' g LL ep d S
  chg : Chg (fun k => k = g) W W'
theorem LOut.trans {W W1 W2 : World} {g : Nat} {LL : List Tk} {ep : EP} {d d' : Int} {S S' : RS} (h : LOut W g LL ep d S W1) (h2 : LOut W1 g LL ep d' S' W2) : LOut W g LL ep d' S' W2 := ⟨h2.st, h.chg.trans h2.chg (fun k e => .inl e)⟩
theorem LOut.below {W W1 W2 : World} {g : Nat} {LL : List Tk} {ep : EP} {d : Int} {S : RS} (h : LOut W g LL ep d S W1) (hb : Below W1.heap.size W1 W2) : LOut W g LL ep d S W2 := ⟨h.st.below hb, h.chg.trans (Chg.of_below hb (fun k => k = g)) (fun k e => .inl e)⟩
theorem LOut.far {W W1 : World} {g : Nat} {LL : List Tk} {ep : EP} {d : Int} {S : RS} (h : LOut W g LL ep d S W1) (b j : Nat) (hg : g < W.heap.size) (hb : W.heap.size ≤ b) (v : Value) : LOut W g LL ep d S (W1.setCell ⟨b, j, none⟩ v) :=
  ⟨h.st.far b j (by omega) v, h.chg.set1 b j hb v⟩
theorem LOut.refl {W : World} {g : Nat} {LL : List Tk} {ep : EP} {d : Int} {S : RS} (h : RfS W g LL ep d S) : LOut W g LL ep d S W := ⟨h, Chg.refl _ _⟩

set_option maxRecDepth 100000 in
set_option maxHeartbeats 1000000 in
theorem fails_any (g : Nat) (LL : List Tk) (ep : EP) (d : Int) (S : RS) (e a : Int) (W : World) (hR : RfS W g LL ep d S) :
    Calls Tryz.prog 31 #[.pointer (some ⟨g, 0, none⟩), .int .i64 e, .int .i64 a] W fun en W' => en = .returned (.tuple #[]) ∧ LOut W g LL ep d (failsL e a S) W' := by
  have hR0 := hR
  obtain ⟨A, c, k, hB, hT, hM, hk, hL⟩ := hR
  obtain ⟨y0, y1, y2, y3, y4, y5, y6, yf⟩ := blk7 hB
  by_cases h0 : S.err = 0
  · have hb0 : (S.err == 0) = true := by rw [beq_iff_eq]; exact h0
    have hB1 : RfB (W.setCell ⟨g, 5, none⟩ (.int .i64 e)) g LL ep A c k d e S.bad := blk_set hB 5 (.int .i64 e)
    obtain ⟨z0, z1, z2, z3, z4, z5, z6, zf⟩ := blk7 hB1
    have hB2 : RfB ((W.setCell ⟨g, 5, none⟩ (.int .i64 e)).setCell ⟨g, 6, none⟩ (.int .i64 a)) g LL ep A c k d e a := blk_set hB1 6 (.int .i64 a)
    have hch : Chg (fun k => k = g) W ((W.setCell ⟨g, 5, none⟩ (.int .i64 e)).setCell ⟨g, 6, none⟩ (.int .i64 a)) := (Chg.of_set W g 5 _).trans (Chg.of_set _ g 6 _) (fun k e => .inl e)
    have hf : failsL e a S = ⟨S.M, e, a⟩ := by unfold failsL; rw [if_pos h0]
    rw [hf]
    have HO : Hid (LOut W g LL ep d ⟨S.M, e, a⟩ ((W.setCell ⟨g, 5, none⟩ (.int .i64 e)).setCell ⟨g, 6, none⟩ (.int .i64 a))) := Lib.hid ⟨⟨A, c, k, hB2, hT.chg hch (fun k e => by omega), hM, hk, hL⟩, hch⟩
    clear hB hB1 hB2 hch hT hM hf hR0
    go_enter Tryz.func31, Tryz.ntmps31
    go_wp2
    go_end0
    exact ⟨rfl, HO.out⟩
  · have hb0 : (S.err == 0) = false := by rw [beq_eq_false_iff_ne]; exact h0
    have hf : failsL e a S = S := by unfold failsL; rw [if_neg h0]
    rw [hf]
    have HO := Lib.hid (LOut.refl hR0)
    clear hB hT hM hf hR0
    go_enter Tryz.func31, Tryz.ntmps31
    go_wp2
    go_end0
    exact ⟨rfl, HO.out⟩

abbrev tkzCells : Obj := .cells #[.int .i64 0, .string ⟨#[]⟩, .int .u64 0, .int .i64 0] 59
theorem blk_sets4 {W : World} {b : Nat} {u0 u1 u2 u3 : Value} {t : TypeId} (h : W.heap[b]? = some (.cells #[u0, u1, u2, u3] t (0, 0))) (v0 v1 v2 v3 : Value) :
    ((((W.setCell ⟨b, 0, none⟩ v0).setCell ⟨b, 1, none⟩ v1).setCell ⟨b, 2, none⟩ v2).setCell ⟨b, 3, none⟩ v3).heap[b]? = some (.cells #[v0, v1, v2, v3] t (0, 0)) := blk_set (blk_set (blk_set (blk_set h 0 v0) 1 v1) 2 v2) 3 v3
theorem LOut.far4 {W W1 : World} {g : Nat} {LL : List Tk} {ep : EP} {d : Int} {S : RS} (h : LOut W g LL ep d S W1) (b : Nat) (hg : g < W.heap.size) (hb : W.heap.size ≤ b) (v0 v1 v2 v3 : Value) : LOut W g LL ep d S ((((W1.setCell ⟨b, 0, none⟩ v0).setCell ⟨b, 1, none⟩ v1).setCell ⟨b, 2, none⟩ v2).setCell ⟨b, 3, none⟩ v3) :=
  (((h.far b 0 hg hb v0).far b 1 hg hb v1).far b 2 hg hb v2).far b 3 hg hb v3

theorem rfs_E {W : World} {g : Nat} {LL : List Tk} {ep : EP} {d : Int} {S : RS} (h : RfS W g LL ep d S) : W.cell? ⟨g, 1, none⟩ = some (.int .i64 ep.1) ∧ W.cell? ⟨g, 2, none⟩ = some (.int .i64 ep.2) := by
  obtain ⟨A, c, k, hB, -⟩ := h
  obtain ⟨y0, y1, y2, -⟩ := blk7 hB
  exact ⟨y1, y2⟩
def TokL (W : World) (g : Nat) (LL : List Tk) (ep : EP) (d : Int) (p : Tk × RS) (en : Ending) (W' : World) : Prop := en = .returned (tkVal p.1) ∧ LOut W g LL ep d p.2 W'

set_option maxRecDepth 100000 in
set_option maxHeartbeats 2000000 in
theorem peek_any (g : Nat) (LL : List Tk) (ep : EP) (d : Int) (S : RS) (W : World) (hR : RfS W g LL ep d S) :
    Calls Tryz.prog 29 #[.pointer (some ⟨g, 0, none⟩)] W (TokL W g LL ep d (peekL ep S)) := by
  have hgW := hR.lt
  have hal := (Below.refl W.heap.size W).alloc (Nat.le_refl _) tkzCells
  have hR1 := hR.below hal
  have hz : (W.alloc tkzCells).heap[W.heap.size]? = some (.cells #[.int .i64 0, .string ⟨#[]⟩, .int .u64 0, .int .i64 0] 59 (0, 0)) := new_blk W _ _
  obtain ⟨z0, z1, z2, z3, zf⟩ := blk4 hz
  have hO1 : LOut W g LL ep d S (W.alloc tkzCells) := ⟨hR1, Chg.of_below hal _⟩
  have hR1' := hR1
  obtain ⟨A, c, k, hB, hT, hM, hk, hL⟩ := hR1
  obtain ⟨y0, y1, y2, y3, y4, y5, y6, yf⟩ := blk7 hB
  have HO1 := Lib.hid hO1; have HZ := Lib.hid hz
  clear hO1 hz
  by_cases h0 : S.err = 0
  · have hb0 : (S.err != 0) = false := by rw [bne_eq_false_iff_eq]; exact h0
    cases hS : S.M with
    | nil =>
      have hkl : LL.length ≤ k := by rw [hS] at hM; have := congrArg List.length hM; rw [List.length_drop] at this; simp at this; omega
      have hpk : peekL ep S = (tkz, failsL ep.1 ep.2 S) := by unfold peekL; rw [if_pos h0, hS]
      rw [hpk]
      have hge : (LL.length : Int) ≤ (k : Int) := by omega
      have hgeb : decide ((LL.length : Int) ≤ (k : Int)) = true := by simpa using hkl
      have HHR := Lib.hid hR1'
      clear hB hT hM hk hL hpk hS hR hR1' hal
      go_enter Tryz.func29, Tryz.ntmps29
      go_wp2
      go_quiet (fail)
      go_wp2
      obtain ⟨W4, hW4⟩ : ∃ W4, W4 = (W.alloc tkzCells).drewN nq := ⟨_, rfl⟩
      have hd4 : Below (W.alloc tkzCells).heap.size (W.alloc tkzCells) W4 := by rw [hW4]; exact Drawn0.below ⟨⟨nq, rfl⟩⟩
      have hR4 := HHR.out.below hd4
      have hz4 := (hd4.block W.heap.size (by simp)).trans HZ.out
      have hO4 := HO1.out.below hd4
      obtain ⟨p1, p2⟩ := rfs_E hR4
      rw [← hW4]
      clear hW4 hd4 y0 y1 y2 y3 y4 y5 y6 yf z0 z1 z2 z3 zf
      go_region_held3 (fun w' => w'.cell? ⟨g, 1, none⟩ = some (.int .i64 ep.1) ∧ w'.cell? ⟨g, 2, none⟩ = some (.int .i64 ep.2)) (first | go_keep | exact rfs_E hO5.st)
        (first | (go_at_call 31; refine (fails_any g LL ep d S ep.1 ep.2 _ (hR4.below (Below.refl _ _).drew)).mono ?_; rintro e W5 ⟨rfl, hO5⟩; have hz5 := chg_block hO5.chg (show W4.drew.heap[W.heap.size]? = _ from hz4) (by omega); obtain ⟨q0, q1, q2, q3, qf⟩ := blk4 hz5))
      go_wp2
      have hb4 := blk_sets4 hz5 (.int .i64 0) (.string ⟨#[]⟩) (.int .u64 0) (.int .i64 0)
      obtain ⟨r0, r1, r2, r3, rf⟩ := blk4 hb4
      refine bodyPost_ret (v := tkVal tkz) (by simp [results, Tryz.results29, go_sem, r0, r1, r2, r3, tkVal, tkz, nil0]) rfl ?_
      exact ⟨rfl, ((hO4.below (Below.refl _ _).drew).trans hO5).far4 W.heap.size hgW (Nat.le_refl _) _ _ _ _⟩
    | cons t r =>
      have hkl : k < LL.length := by
        rw [hS] at hM
        have := congrArg List.length hM
        rw [List.length_drop] at this
        simp at this
        omega
      have hget : LL.getD k tkz = t := by
        rw [hS] at hM
        have := congrArg List.head? hM
        rw [List.head?_drop, List.head?_cons] at this
        rw [List.getD_eq_getElem?_getD, ← this]
        rfl
      have hpk : peekL ep S = (t, S) := by unfold peekL; rw [if_pos h0, hS]
      rw [hpk]
      have hC := (Kd.R_reads' hT).2.2
      obtain ⟨ad, e0, x0, x1, x2, x3⟩ := tk_at hC k hkl
      rw [hget] at x0 x1 x2 x3
      cases e0
      have hgeb : decide ((LL.length : Int) ≤ (k : Int)) = false := by simpa using hkl
      have hlt : (k : Int) < (LL.length : Int) := by omega
      have hk0 : (0 : Int) ≤ (k : Int) := by omega
      have HHR := Lib.hid hR1'
      clear hB hT hM hk hL hpk hS hR hR1' hal hget hC hkl
      go_enter Tryz.func29, Tryz.ntmps29
      go_wp2
      go_quiet (fail)
      go_wp2
      go_region
      all_goals go_wp2
      all_goals
        have hd4 : Below (W.alloc tkzCells).heap.size (W.alloc tkzCells) ((W.alloc tkzCells).drewN (nq + 1)) := Drawn0.below ⟨⟨nq + 1, rfl⟩⟩
        have hz4 := (hd4.block W.heap.size (by simp)).trans HZ.out
        have hb4 := blk_sets4 hz4 (.int .i64 t.kind) (.string t.text) (.int .u64 t.num) (.int .i64 t.at_)
        obtain ⟨r0, r1, r2, r3, rf⟩ := blk4 hb4
        refine bodyPost_ret (v := tkVal t) (by simp [results, Tryz.results29, go_sem, r0, r1, r2, r3, tkVal]) rfl ?_
        exact ⟨rfl, (HO1.out.below hd4).far4 W.heap.size hgW (Nat.le_refl _) _ _ _ _⟩
  · have hb0 : (S.err != 0) = true := by rw [bne_iff_ne]; exact h0
    rw [peek_bad h0]
    clear hB hT hM hk hL hR hR1' hal
    go_enter Tryz.func29, Tryz.ntmps29
    go_wp2
    refine bodyPost_ret (v := tkVal tkz) (by simp [results, Tryz.results29, go_sem, z0, z1, z2, z3, tkVal, tkz, nil0]) rfl ?_
    exact ⟨rfl, HO1.out⟩
end Go.Proofs.YtlmopoipjolbgaaGreatDoor.LexW
namespace Go.Proofs.YtlmopoipjolbgaaGreatDoor.LexW
open Go.RowKit Go.Shelf Go.Proofs.YtlmopoipjolbgaaGreatDoor.LexS Go.Proofs.YtlmopoipjolbgaaGreatDoorW.PrintWords
set_option linter.unusedVariables false
set_option linter.unusedSimpArgs false
attribute [local go_sem] fld_num fld_text

theorem rfs_err {W : World} {g : Nat} {LL : List Tk} {ep : EP} {d : Int} {S : RS} (h : RfS W g LL ep d S) : W.cell? ⟨g, 5, none⟩ = some (.int .i64 S.err) := by
  obtain ⟨A, c, k, hB, -⟩ := h
  obtain ⟨y0, y1, y2, y3, y4, y5, -⟩ := blk7 hB
  exact y5
/-- where the reader stands; one on -/
theorem rfs_at {W : World} {g : Nat} {LL : List Tk} {ep : EP} {d : Int} {S : RS} (h : RfS W g LL ep d S) (hM : S.M ≠ []) : ∃ k : Nat, k ≤ 65537 ∧ W.cell? ⟨g, 3, none⟩ = some (.int .i64 k) ∧ W.frozen? ⟨g, 3, none⟩ = false ∧ LOut W g LL ep d S.tl (W.setCell ⟨g, 3, none⟩ (.int .i64 ((k : Int) + 1))) := by
  obtain ⟨A, c, k, hB, hT, hk, hl, hL⟩ := h
  obtain ⟨y0, y1, y2, y3, y4, y5, y6, yf⟩ := blk7 hB
  have hlt : k < LL.length := by
    rcases Nat.lt_or_ge k LL.length with h | h
    · exact h
    · exact absurd (hk.trans (List.drop_eq_nil_of_le h)) hM
  have hB2 : RfB (W.setCell ⟨g, 3, none⟩ (.int .i64 ((k + 1 : Nat) : Int))) g LL ep A c (k + 1) d S.err S.bad := blk_set hB 3 _
  have hch := Chg.of_set W g 3 (.int .i64 ((k + 1 : Nat) : Int))
  refine ⟨k, by omega, y3, yf 3, ⟨⟨A, c, k + 1, hB2, hT.chg hch (fun k e => by omega), ?_, by omega, hL⟩, hch⟩⟩
  show S.M.tail = _
  rw [hk, List.tail_drop]
theorem wrap_at {k : Nat} (h : k ≤ 65537) : wrap64 ((k : Int) + 1) = (k : Int) + 1 := by unfold wrap64; omega

set_option maxRecDepth 100000 in
set_option maxHeartbeats 1000000 in
theorem next_ref (g : Nat) (LL : List Tk) (ep : EP) (d : Int) (S : RS) (W : World) (hF : Fin3 ep S) (hR : RfS W g LL ep d S) :
    Calls Tryz.prog 63 #[.pointer (some ⟨g, 0, none⟩)] W (TokL W g LL ep d (nextL ep S)) := by
  have hgW := hR.lt
  have hal := (Below.refl W.heap.size W).alloc (Nat.le_refl _) tkzCells
  have hz : (W.alloc tkzCells).heap[W.heap.size]? = some (.cells #[.int .i64 0, .string ⟨#[]⟩, .int .u64 0, .int .i64 0] 59 (0, 0)) := new_blk W _ _
  have hO1 : LOut W g LL ep d S (W.alloc tkzCells) := ⟨hR.below hal, Chg.of_below hal _⟩
  have HP := Lib.hid (peek_any g LL ep d S (W.alloc tkzCells) (hR.below hal))
  have HO1 := Lib.hid hO1; have HZ := Lib.hid hz
  have hnx : nextL ep S = if (peekL ep S).2.err = 0 then ((peekL ep S).1, (peekL ep S).2.tl) else peekL ep S := rfl
  have hpo : (peekL ep S).2.err = 0 → (peekL ep S).2.M ≠ [] := fun h => by obtain ⟨r, h1, h2, _⟩ := peek_ok hF h; rw [h2, h1]; simp
  rw [hnx]
  clear hO1 hz hR hal hnx
  generalize peekL ep S = P at *
  obtain ⟨t, S1⟩ := P
  have HPO := Lib.hid hpo; clear hpo
  by_cases h0 : S1.err = 0
  · have hb0 : (S1.err == 0) = true := by rw [beq_iff_eq]; exact h0
    rw [if_pos h0]
    go_enter Tryz.func63, Tryz.ntmps63
    go_wp2_with fail
    refine HP.out.mono ?_
    rintro e W2 ⟨rfl, hO2⟩
    have hz2 := chg_block hO2.chg HZ.out (by omega)
    have hsz2 : W.heap.size < W2.heap.size := (Array.getElem?_eq_some_iff.1 hz2).1
    have hO2' := HO1.out.trans hO2
    have hal2 := (Below.refl W2.heap.size W2).alloc (Nat.le_refl _) (.cells #[.int .i64 t.kind, .string t.text, .int .u64 t.num, .int .i64 t.at_] 59)
    have hO3 := hO2'.below hal2
    have hz3 := blk_past (.cells #[.int .i64 t.kind, .string t.text, .int .u64 t.num, .int .i64 t.at_] 59) hz2
    have hy3 := rfs_err hO3.st
    obtain ⟨k, hk, hy, hyf, hO4⟩ := rfs_at hO3.st (HPO.out h0)
    have hw := wrap_at hk
    have HO3 := Lib.hid (hO3.trans hO4); have HZ3 := Lib.hid ((Below.heap_setCell _ ⟨g, 3, none⟩ (.int .i64 ((k : Int) + 1)) W.heap.size (by show W.heap.size ≠ g; omega)).trans hz3)
    have hx3 := (Below.heap_setCell _ ⟨g, 3, none⟩ (.int .i64 ((k : Int) + 1)) W2.heap.size (by show W2.heap.size ≠ g; omega)).trans (new_blk W2 #[.int .i64 t.kind, .string t.text, .int .u64 t.num, .int .i64 t.at_] 59)
    obtain ⟨q0, q1, q2, q3, qf⟩ := blk4 hx3
    obtain ⟨p0, p1, p2, p3, pf⟩ := blk4 HZ3.out
    clear hO2 hO2' hO3 hO4 hz2 hz3 hx3 hk hal2
    unfold tkVal
    go_wp2
    have hb4 := blk_sets4 HZ3.out (.int .i64 t.kind) (.string t.text) (.int .u64 t.num) (.int .i64 t.at_)
    obtain ⟨r0, r1, r2, r3, rf⟩ := blk4 hb4
    refine bodyPost_ret (v := tkVal t) (by simp [results, Tryz.results63, go_sem, r0, r1, r2, r3, tkVal]) rfl ?_
    exact ⟨rfl, HO3.out.far4 W.heap.size hgW (Nat.le_refl _) _ _ _ _⟩
  · have hb0 : (S1.err == 0) = false := by rw [beq_eq_false_iff_ne]; exact h0
    rw [if_neg h0]
    go_enter Tryz.func63, Tryz.ntmps63
    go_wp2_with fail
    refine HP.out.mono ?_
    rintro e W2 ⟨rfl, hO2⟩
    have hz2 := chg_block hO2.chg HZ.out (by omega)
    have hO2' := HO1.out.trans hO2
    have hal2 := (Below.refl W2.heap.size W2).alloc (Nat.le_refl _) (.cells #[.int .i64 t.kind, .string t.text, .int .u64 t.num, .int .i64 t.at_] 59)
    have hO3 := hO2'.below hal2
    have hz3 := blk_past (.cells #[.int .i64 t.kind, .string t.text, .int .u64 t.num, .int .i64 t.at_] 59) hz2
    have hy3 := rfs_err hO3.st
    have HO3 := Lib.hid hO3; have HZ3 := Lib.hid hz3
    obtain ⟨p0, p1, p2, p3, pf⟩ := blk4 hz3
    clear hO2 hO2' hO3 hz2 hz3 hal2
    unfold tkVal
    go_wp2
    have hb4 := blk_sets4 HZ3.out (.int .i64 t.kind) (.string t.text) (.int .u64 t.num) (.int .i64 t.at_)
    obtain ⟨r0, r1, r2, r3, rf⟩ := blk4 hb4
    refine bodyPost_ret (v := tkVal t) (by simp [results, Tryz.results63, go_sem, r0, r1, r2, r3, tkVal]) rfl ?_
    exact ⟨rfl, HO3.out.far4 W.heap.size hgW (Nat.le_refl _) _ _ _ _⟩

theorem text_neb {a b : ByteArray} (h : a ≠ b) : (a.toList == b.toList) = false ∧ (a.toList != b.toList) = true := by
  have h1 : (a.toList == b.toList) = false := by
    rw [beq_eq_false_iff_ne]; intro e; rw [Lib.toList_data, Lib.toList_data] at e; exact h (WideShapes.bytes_inj e)
  exact ⟨h1, by unfold bne; rw [h1]; rfl⟩
def IsL (W : World) (g : Nat) (LL : List Tk) (ep : EP) (d : Int) (p : Bool × RS) (en : Ending) (W' : World) : Prop := en = .returned (.bool p.1) ∧ LOut W g LL ep d p.2 W'

set_option maxRecDepth 100000 in
set_option maxHeartbeats 1000000 in
theorem is_ref (g : Nat) (LL : List Tk) (ep : EP) (d : Int) (kd : Int) (x : ByteArray) (S : RS) (W : World) (hF : Fin3 ep S) (hR : RfS W g LL ep d S) :
    Calls Tryz.prog 30 #[.pointer (some ⟨g, 0, none⟩), .int .i64 kd, .string x] W (IsL W g LL ep d (isL ep kd x S)) := by
  have hgW := hR.lt
  have HP := Lib.hid (peek_any g LL ep d S W hR)
  have hnx : isL ep kd x S = if (peekL ep S).2.err = 0 then (if (peekL ep S).1.kind = kd then (if (peekL ep S).1.text = x then (true, (peekL ep S).2.tl) else (false, (peekL ep S).2)) else (false, (peekL ep S).2)) else (false, (peekL ep S).2) := rfl
  have hpo : (peekL ep S).2.err = 0 → (peekL ep S).2.M ≠ [] := fun h => by obtain ⟨r, h1, h2, _⟩ := peek_ok hF h; rw [h2, h1]; simp
  rw [hnx]
  clear hR hnx
  generalize peekL ep S = P at *
  obtain ⟨t, S1⟩ := P
  have HPO := Lib.hid hpo; clear hpo
  have key : ∀ W2, LOut W g LL ep d S1 W2 → LOut W g LL ep d S1 (W2.alloc (.cells #[.int .i64 t.kind, .string t.text, .int .u64 t.num, .int .i64 t.at_] 59)) := fun W2 h => h.below ((Below.refl _ _).alloc (Nat.le_refl _) _)
  have HKEY := Lib.hid key; clear key
  by_cases h0 : S1.err = 0
  · have hb0 : (S1.err != 0) = false := by rw [bne_eq_false_iff_eq]; exact h0
    have hp : S1.M ≠ [] := HPO.out h0
    rw [if_pos h0]
    by_cases h1 : t.kind = kd
    · have hb1 : (t.kind != kd) = false := by rw [bne_eq_false_iff_eq]; exact h1
      rw [if_pos h1]
      by_cases h2 : t.text = x
      · have hb2 : (t.text.toList == x.toList) = true := by rw [h2]; exact beq_self_eq_true _
        have hb2' : (t.text.toList != x.toList) = false := by rw [h2]; simp
        rw [if_pos h2]
        have HP1 := Lib.hid hp
        clear h1 h2 hp h0
        go_enter Tryz.func30, Tryz.ntmps30
        go_wp2_with fail
        refine HP.out.mono ?_
        rintro e W2 ⟨rfl, hO2⟩
        have hO3 := HKEY.out W2 hO2
        have hx3 := new_blk W2 #[.int .i64 t.kind, .string t.text, .int .u64 t.num, .int .i64 t.at_] 59
        obtain ⟨q0, q1, q2, q3, qf⟩ := blk4 hx3
        have hy3 := rfs_err hO3.st
        obtain ⟨k, hk, hy, hyf, hO4⟩ := rfs_at hO3.st HP1.out
        have hw := wrap_at hk
        have HO4 := Lib.hid (hO3.trans hO4)
        clear hO2 hO3 hO4 hx3 hk
        unfold tkVal
        go_wp2
        go_ret
        exact ⟨rfl, HO4.out⟩
      · obtain ⟨hb2, hb2'⟩ := text_neb h2
        rw [if_neg h2]
        clear h1 h2 hp h0
        go_enter Tryz.func30, Tryz.ntmps30
        go_wp2_with fail
        refine HP.out.mono ?_
        rintro e W2 ⟨rfl, hO2⟩
        have hO3 := HKEY.out W2 hO2
        have hx3 := new_blk W2 #[.int .i64 t.kind, .string t.text, .int .u64 t.num, .int .i64 t.at_] 59
        obtain ⟨q0, q1, q2, q3, qf⟩ := blk4 hx3
        have hy3 := rfs_err hO3.st
        have HO4 := Lib.hid hO3
        clear hO2 hO3 hx3
        unfold tkVal
        go_wp2
        go_ret
        exact ⟨rfl, HO4.out⟩
    · have hb1 : (t.kind != kd) = true := by rw [bne_iff_ne]; exact h1
      rw [if_neg h1]
      clear h1 hp h0
      go_enter Tryz.func30, Tryz.ntmps30
      go_wp2_with fail
      refine HP.out.mono ?_
      rintro e W2 ⟨rfl, hO2⟩
      have hO3 := HKEY.out W2 hO2
      have hx3 := new_blk W2 #[.int .i64 t.kind, .string t.text, .int .u64 t.num, .int .i64 t.at_] 59
      obtain ⟨q0, q1, q2, q3, qf⟩ := blk4 hx3
      have hy3 := rfs_err hO3.st
      have HO4 := Lib.hid hO3
      clear hO2 hO3 hx3
      unfold tkVal
      go_wp2
      go_ret
      exact ⟨rfl, HO4.out⟩
  · have hb0 : (S1.err != 0) = true := by rw [bne_iff_ne]; exact h0
    rw [if_neg h0]
    clear h0
    go_enter Tryz.func30, Tryz.ntmps30
    go_wp2_with fail
    refine HP.out.mono ?_
    rintro e W2 ⟨rfl, hO2⟩
    have hO3 := HKEY.out W2 hO2
    have hx3 := new_blk W2 #[.int .i64 t.kind, .string t.text, .int .u64 t.num, .int .i64 t.at_] 59
    obtain ⟨q0, q1, q2, q3, qf⟩ := blk4 hx3
    have hy3 := rfs_err hO3.st
    have HO4 := Lib.hid hO3
    clear hO2 hO3 hx3
    unfold tkVal
    go_wp2
    go_ret
    exact ⟨rfl, HO4.out⟩

theorem fld_at (v0 v1 v2 v3 : Value) (w : World) : (Instr.field 59 (.agg #[v0, v1, v2, v3]) 3).run Tryz.prog w = .ok v3 w := by kernel_rfl
attribute [local go_sem] fld_at
set_option maxRecDepth 100000 in
set_option maxHeartbeats 1000000 in
theorem want_ref (g : Nat) (LL : List Tk) (ep : EP) (d : Int) (kd : Int) (x : ByteArray) (S : RS) (W : World) (hF : Fin3 ep S) (hR : RfS W g LL ep d S) :
    Calls Tryz.prog 26 #[.pointer (some ⟨g, 0, none⟩), .int .i64 kd, .string x] W fun en W' => en = .returned (.tuple #[]) ∧ LOut W g LL ep d (wantL ep kd x S) W' := by
  have HI := Lib.hid (is_ref g LL ep d kd x S W hF hR)
  have hnx : wantL ep kd x S = if (isL ep kd x S).1 = true then (isL ep kd x S).2 else failsL 61 (peekL ep (isL ep kd x S).2).1.at_ (peekL ep (isL ep kd x S).2).2 := rfl
  rw [hnx]
  clear hR hnx hF
  generalize isL ep kd x S = P at *
  obtain ⟨b, S1⟩ := P
  cases b with
  | true =>
    rw [if_pos rfl]
    go_enter Tryz.func26, Tryz.ntmps26
    go_wp2_with fail
    refine HI.out.mono ?_
    rintro e W2 ⟨rfl, hO2⟩
    have HO2 := Lib.hid hO2; clear hO2
    go_wp2
    go_end0
    exact ⟨rfl, HO2.out⟩
  | false =>
    rw [if_neg (by simp)]
    go_enter Tryz.func26, Tryz.ntmps26
    go_wp2_with fail
    refine HI.out.mono ?_
    rintro e W2 ⟨rfl, hO2⟩
    have HO2 := Lib.hid hO2; clear hO2
    go_wp2_with fail
    refine (peek_any g LL ep d S1 W2 HO2.out.st).mono ?_
    rintro e W3 ⟨rfl, hO3⟩
    have HO3 := Lib.hid (HO2.out.trans hO3); clear hO3
    unfold tkVal
    go_wp2_with fail
    refine (fails_any g LL ep d _ 61 _ W3 HO3.out.st).mono ?_
    rintro e W4 ⟨rfl, hO4⟩
    have HO4 := Lib.hid (HO3.out.trans hO4); clear hO4
    go_wp2
    go_end0
    exact ⟨rfl, HO4.out⟩

set_option maxRecDepth 100000 in
set_option maxHeartbeats 1000000 in
theorem kind_ref (g : Nat) (LL : List Tk) (ep : EP) (d : Int) (kd : Int) (S : RS) (W : World) (hF : Fin3 ep S) (hR : RfS W g LL ep d S) :
    Calls Tryz.prog 27 #[.pointer (some ⟨g, 0, none⟩), .int .i64 kd] W (TokL W g LL ep d (kindL ep kd S)) := by
  have hgW := hR.lt
  have hal := (Below.refl W.heap.size W).alloc (Nat.le_refl _) tkzCells
  have hz : (W.alloc tkzCells).heap[W.heap.size]? = some (.cells #[.int .i64 0, .string ⟨#[]⟩, .int .u64 0, .int .i64 0] 59 (0, 0)) := new_blk W _ _
  have hO1 : LOut W g LL ep d S (W.alloc tkzCells) := ⟨hR.below hal, Chg.of_below hal _⟩
  have HP := Lib.hid (peek_any g LL ep d S (W.alloc tkzCells) (hR.below hal))
  have HO1 := Lib.hid hO1; have HZ := Lib.hid hz
  have hnx : kindL ep kd S = if (peekL ep S).1.kind = kd then nextL ep (peekL ep S).2 else (tkz, failsL 61 (peekL ep S).1.at_ (peekL ep S).2) := rfl
  have hF1 := peek_fin hF
  rw [hnx]
  clear hO1 hz hR hal hnx hF
  generalize peekL ep S = P at *
  obtain ⟨t, S1⟩ := P
  have HF1 := Lib.hid hF1; clear hF1
  by_cases h0 : t.kind = kd
  · have hb0 : (t.kind != kd) = false := by rw [bne_eq_false_iff_eq]; exact h0
    rw [if_pos h0]
    clear h0
    go_enter Tryz.func27, Tryz.ntmps27
    go_wp2_with fail
    refine HP.out.mono ?_
    rintro e W2 ⟨rfl, hO2⟩
    have hz2 := chg_block hO2.chg HZ.out (by omega)
    have hO2' := HO1.out.trans hO2
    have hal2 := (Below.refl W2.heap.size W2).alloc (Nat.le_refl _) (.cells #[.int .i64 t.kind, .string t.text, .int .u64 t.num, .int .i64 t.at_] 59)
    have hO3 := hO2'.below hal2
    have hz3 := blk_past (.cells #[.int .i64 t.kind, .string t.text, .int .u64 t.num, .int .i64 t.at_] 59) hz2
    obtain ⟨q0, q1, q2, q3, qf⟩ := blk4 (new_blk W2 #[.int .i64 t.kind, .string t.text, .int .u64 t.num, .int .i64 t.at_] 59)
    have HO3 := Lib.hid hO3; have HZ3 := Lib.hid hz3
    have HN := Lib.hid (next_ref g LL ep d S1 _ HF1.out hO3.st)
    clear hO2 hO2' hO3 hz2 hz3 hal2
    unfold tkVal
    go_wp2_with fail
    refine HN.out.mono ?_
    rintro e W4 ⟨rfl, hO4⟩
    have hz4 := chg_block hO4.chg HZ3.out (by omega)
    have HO4 := Lib.hid (HO3.out.trans hO4); have HZ4 := Lib.hid hz4
    obtain ⟨p0, p1, p2, p3, pf⟩ := blk4 hz4
    clear hO4 hz4
    generalize nextL ep (t, S1).2 = P2 at *
    unfold tkVal
    go_wp2
    have hb4 := blk_sets4 HZ4.out (.int .i64 P2.1.kind) (.string P2.1.text) (.int .u64 P2.1.num) (.int .i64 P2.1.at_)
    obtain ⟨r0, r1, r2, r3, rf⟩ := blk4 hb4
    refine bodyPost_ret (v := tkVal P2.1) (by simp [results, Tryz.results27, go_sem, r0, r1, r2, r3, tkVal]) rfl ?_
    exact ⟨rfl, HO4.out.far4 W.heap.size hgW (Nat.le_refl _) _ _ _ _⟩
  · have hb0 : (t.kind != kd) = true := by rw [bne_iff_ne]; exact h0
    rw [if_neg h0]
    clear h0
    go_enter Tryz.func27, Tryz.ntmps27
    go_wp2_with fail
    refine HP.out.mono ?_
    rintro e W2 ⟨rfl, hO2⟩
    have hz2 := chg_block hO2.chg HZ.out (by omega)
    have hO2' := HO1.out.trans hO2
    have hal2 := (Below.refl W2.heap.size W2).alloc (Nat.le_refl _) (.cells #[.int .i64 t.kind, .string t.text, .int .u64 t.num, .int .i64 t.at_] 59)
    have hO3 := hO2'.below hal2
    have hz3 := blk_past (.cells #[.int .i64 t.kind, .string t.text, .int .u64 t.num, .int .i64 t.at_] 59) hz2
    obtain ⟨q0, q1, q2, q3, qf⟩ := blk4 (new_blk W2 #[.int .i64 t.kind, .string t.text, .int .u64 t.num, .int .i64 t.at_] 59)
    have HO3 := Lib.hid hO3; have HZ3 := Lib.hid hz3
    have HN := Lib.hid (fails_any g LL ep d S1 61 t.at_ _ hO3.st)
    clear hO2 hO2' hO3 hz2 hz3 hal2
    unfold tkVal
    go_wp2_with fail
    refine HN.out.mono ?_
    rintro e W4 ⟨rfl, hO4⟩
    have hz4 := chg_block hO4.chg HZ3.out (by omega)
    have HO4 := Lib.hid (HO3.out.trans hO4); have HZ4 := Lib.hid hz4
    obtain ⟨p0, p1, p2, p3, pf⟩ := blk4 hz4
    clear hO4 hz4
    go_wp2
    have hb4 := blk_sets4 HZ4.out (.int .i64 0) (.string ⟨#[]⟩) (.int .u64 0) (.int .i64 0)
    obtain ⟨r0, r1, r2, r3, rf⟩ := blk4 hb4
    refine bodyPost_ret (v := tkVal tkz) (by simp [results, Tryz.results27, go_sem, r0, r1, r2, r3, tkVal, tkz, nil0]) rfl ?_
    exact ⟨rfl, HO4.out.far4 W.heap.size hgW (Nat.le_refl _) _ _ _ _⟩
end Go.Proofs.YtlmopoipjolbgaaGreatDoor.LexW
