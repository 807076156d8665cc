/-
  Layer 6 (policy): what is wrong has a number. · Plain words of layer 5 (lex): what All hands over, one token after another. · Plain words of layer 5 (lex): the tokens' texts, written with one blank behind each, are cut into the same. · Layer 6 (policy), plain: what is read is well formed, not deeper than 64, and no larger than its tokens are many. · Layer 6 (policy), plain: how long what is written is.
-/
import Derived.Test.YtlmopoipjolbgaaGreatDoorM03
import Derived.Test.YtlmopoipjolbgaaGreatDoorM02
import Derived.WideShapes
import Derived.Test.YtlmopoipjolbgaaGreatDoorM04
namespace Go.Proofs.YtlmopoipjolbgaaGreatDoor.LexW
open Go.RowKit Go.Shelf Go.Proofs.YtlmopoipjolbgaaGreatDoor.LexS Go.Proofs.YtlmopoipjolbgaaGreatDoorW.PrintWords
set_option linter.unusedVariables false
set_option linter.unusedSimpArgs false

/-- tokens that are left: one at least; without an error the last is the end -/
def Fine (ep : EP) (L : List Tk) : Prop := ∃ t r, L = t :: r ∧ (ep.1 = 0 → ∃ x, (t :: r).getLast? = some x ∧ x.kind = 1 ∧ ∀ y ∈ (t :: r).dropLast, y.kind ≠ 1)
/-- a reader that fails with a number, and leaves fine tokens -/
def NZ {α : Type} (ep : EP) (f : List Tk → Rd α) : Prop := ∀ L, Fine ep L → (∀ p, f L = .error p → p.1 ≠ 0) ∧ ∀ x L', f L = .ok (x, L') → Fine ep L'
theorem step_fine {ep : EP} {L : List Tk} (h : Fine ep L) (hk : (hdT L).kind ≠ 1) : (∀ p, stepP ep L = .error p → p.1 ≠ 0) ∧ ∀ L', stepP ep L = .ok L' → Fine ep L' := by
  obtain ⟨t, r, rfl, hl⟩ := h
  cases r with
  | nil =>
    refine ⟨fun p hp => ?_, fun L' hp => (by cases hp)⟩
    have : ep = p := by injection hp
    subst this
    intro h0
    obtain ⟨x, hx, hx1, _⟩ := hl h0
    have : t = x := by simpa using hx
    subst this
    exact hk hx1
  | cons t2 r =>
    refine ⟨fun p hp => (by cases hp), fun L' hp => ?_⟩
    have : t2 :: r = L' := by injection hp
    subst this
    refine ⟨t2, r, rfl, fun h0 => ?_⟩
    obtain ⟨x, hx, hx1, hx2⟩ := hl h0
    refine ⟨x, by simpa using hx, hx1, fun y hy => hx2 y ?_⟩
    simp only [List.dropLast_cons_cons]
    exact List.mem_cons_of_mem _ hy
theorem isT_kind' {x : ByteArray} {t : Tk} (h : isT x t = true) : t.kind ≠ 1 := by
  unfold isT at h
  simp only [Bool.and_eq_true, bne_iff_ne] at h
  exact h.2
theorem bnd_err' {α β : Type} {x : Except EP α} {f : α → Except EP β} {p : EP} (h : bnd x f = .error p) : x = .error p ∨ ∃ a, x = .ok a ∧ f a = .error p := by
  cases x with
  | ok a => exact .inr ⟨a, rfl, h⟩
  | error e => exact .inl (by injection h with h; rw [h])
theorem NZ.bind {α β : Type} {ep : EP} {f : List Tk → Rd α} {k : α → List Tk → Rd β} (hf : NZ ep f) (hk : ∀ a, NZ ep (k a)) : NZ ep (fun L => bnd (f L) (fun p => k p.1 p.2)) := fun L hL => by
  refine ⟨fun p hp => ?_, fun x L' hp => ?_⟩
  · rcases bnd_err' hp with h | ⟨a, h1, h2⟩
    · exact (hf L hL).1 p h
    · exact (hk a.1 a.2 ((hf L hL).2 a.1 a.2 h1)).1 p h2
  · obtain ⟨a, h1, h2⟩ := bnd_inv hp
    exact (hk a.1 a.2 ((hf L hL).2 a.1 a.2 h1)).2 x L' h2
/-- of one answer -/
abbrev NZr {α : Type} (ep : EP) (r : Rd α) : Prop := (∀ p, r = .error p → p.1 ≠ 0) ∧ ∀ x L', r = .ok (x, L') → Fine ep L'
theorem nz_bnd {α β : Type} {ep : EP} {r : Rd α} {f : α × List Tk → Rd β} (h : NZr ep r) (hf : ∀ a L, Fine ep L → NZr ep (f (a, L))) : NZr ep (bnd r f) := by
  refine ⟨fun p hp => ?_, fun x L' hp => ?_⟩
  · rcases bnd_err' hp with h1 | ⟨a, h1, h2⟩
    · exact h.1 p h1
    · exact (hf a.1 a.2 (h.2 a.1 a.2 h1)).1 p h2
  · obtain ⟨a, h1, h2⟩ := bnd_inv hp
    exact (hf a.1 a.2 (h.2 a.1 a.2 h1)).2 x L' h2
theorem nz_ok {α : Type} {ep : EP} (a : α) {L : List Tk} (hL : Fine ep L) : NZr ep (.ok (a, L)) := ⟨fun p hp => (by cases hp), fun x L' hp => (by cases hp; exact hL)⟩
theorem NZ.pure {α : Type} (ep : EP) (a : α) : NZ ep (fun L => .ok (a, L)) := fun L hL => ⟨fun p hp => (by cases hp), fun x L' hp => (by cases hp; exact hL)⟩
theorem maybe_nz (ep : EP) (x : ByteArray) : NZ ep (maybeP ep x) := fun L hL => by
  unfold maybeP
  by_cases h : isT x (hdT L) = true
  · rw [if_pos h]
    have hs := step_fine hL (isT_kind' h)
    refine ⟨fun p hp => ?_, fun b L' hp => ?_⟩
    · rcases bnd_err' hp with h1 | ⟨a, _, h2⟩
      · exact hs.1 p h1
      · cases h2
    · obtain ⟨a, h1, h2⟩ := bnd_inv hp
      cases h2
      exact hs.2 _ h1
  · rw [if_neg h]
    exact NZ.pure ep false L hL
theorem want_nz (ep : EP) (x : ByteArray) : NZ ep (wantP ep x) := fun L hL => by
  unfold wantP
  by_cases h : isT x (hdT L) = true
  · rw [if_pos h]
    have hs := step_fine hL (isT_kind' h)
    refine ⟨fun p hp => ?_, fun b L' hp => ?_⟩
    · rcases bnd_err' hp with h1 | ⟨a, _, h2⟩
      · exact hs.1 p h1
      · cases h2
    · obtain ⟨a, h1, h2⟩ := bnd_inv hp
      cases h2
      exact hs.2 _ h1
  · rw [if_neg h]
    exact ⟨fun p hp => (by cases hp; show (61 : Int) ≠ 0; decide), fun b L' hp => (by cases hp)⟩
theorem kind_nz (ep : EP) (k : Int) : NZ ep (kindP ep k) := fun L hL => by
  unfold kindP
  by_cases h : (hdT L).kind = k
  · rw [if_pos h]
    by_cases h1 : k = 1
    · rw [if_pos h1]; exact NZ.pure ep _ L hL
    · rw [if_neg h1]
      have hs := step_fine hL (by rw [h]; exact h1)
      refine ⟨fun p hp => ?_, fun b L' hp => ?_⟩
      · rcases bnd_err' hp with h1 | ⟨a, _, h2⟩
        · exact hs.1 p h1
        · cases h2
      · obtain ⟨a, h1, h2⟩ := bnd_inv hp
        cases h2
        exact hs.2 _ h1
  · rw [if_neg h]
    exact ⟨fun p hp => (by cases hp; show (61 : Int) ≠ 0; decide), fun b L' hp => (by cases hp)⟩

theorem bad_nz {α : Type} {ep : EP} {c : Int} (hc : c ≠ 0) : NZ (α := α) ep (fun L => .error (badP c L)) := fun L hL => ⟨fun p hp => (by cases hp; exact hc), fun b L' hp => (by cases hp)⟩
/-- a step, and on -/
theorem stepk_nz {α : Type} {ep : EP} {k : List Tk → Rd α} (hk : NZ ep k) {L : List Tk} (hL : Fine ep L) (h1 : (hdT L).kind ≠ 1) : (∀ p, bnd (stepP ep L) k = .error p → p.1 ≠ 0) ∧ ∀ x L', bnd (stepP ep L) k = .ok (x, L') → Fine ep L' := by
  have hs := step_fine hL h1
  refine ⟨fun p hp => ?_, fun x L' hp => ?_⟩
  · rcases bnd_err' hp with h | ⟨a, h2, h3⟩
    · exact hs.1 p h
    · exact (hk a (hs.2 a h2)).1 p h3
  · obtain ⟨a, h2, h3⟩ := bnd_inv hp
    exact (hk a (hs.2 a h2)).2 x L' h3
theorem verdict_nz (ep : EP) : NZ ep (verdictP ep) := fun L hL => by
  unfold verdictP
  by_cases h : (hdT L).kind = 2
  · rw [if_pos h]
    cases hw : wordsT.find? (fun x => decide ((hdT L).text = x.1)) with
    | none => exact bad_nz (by decide) L hL
    | some y =>
      obtain ⟨a, k, n⟩ := y
      refine stepk_nz (fun L1 hL1 => ?_) hL (by omega)
      by_cases hn : n = true
      · rw [if_pos hn]; exact NZ.bind (kind_nz ep 3) (fun t => NZ.pure ep (⟨k, t.num⟩ : Vd)) L1 hL1
      · rw [if_neg hn]; exact NZ.pure ep _ L1 hL1
  · rw [if_neg h]; exact bad_nz (by decide) L hL
theorem call_nz (ep : EP) : NZ ep (callP ep) := fun L hL => by
  unfold callP
  by_cases h : (hdT L).kind = 3
  · rw [if_pos h]; exact NZ.bind (kind_nz ep 3) (fun t => NZ.pure ep (⟨nil0, t.num⟩ : Cl)) L hL
  · rw [if_neg h]; exact NZ.bind (kind_nz ep 2) (fun t => NZ.pure ep (⟨t.text, 0⟩ : Cl)) L hL
theorem mask_nz (ep : EP) : NZ ep (maskP ep) := fun L hL => by
  unfold maskP
  by_cases h : (hdT L).kind = 4
  · rw [if_pos h]
    refine nz_bnd (maybe_nz ep sAmp L hL) (fun b L1 hL1 => ?_)
    by_cases hb : b = true
    · rw [if_pos hb]; exact nz_bnd (kind_nz ep 3 L1 hL1) (fun t L2 hL2 => nz_ok _ hL2)
    · rw [if_neg hb]; exact nz_ok _ hL1
  · rw [if_neg h]; exact nz_ok _ hL
theorem relF_kind' (t : Tk) : ∀ n, relF t n ≠ 0 → t.kind ≠ 1
  | 0, h => absurd rfl h
  | n + 1, h => by
    unfold relF at h
    split at h
    · rename_i hi; exact isT_kind' hi
    · exact relF_kind' t n h
theorem test_nz (ep : EP) (f : Int) {L : List Tk} (hL : Fine ep L) (h1 : (hdT L).kind ≠ 1) : (∀ p, testP ep f L = .error p → p.1 ≠ 0) ∧ ∀ x L', testP ep f L = .ok (x, L') → Fine ep L' := by
  unfold testP
  refine stepk_nz (fun L1 hL1 => ?_) hL h1
  refine nz_bnd (mask_nz ep L1 hL1) (fun m L2 hL2 => ?_)
  by_cases hr : relF (hdT L2) 6 = 0
  · rw [if_pos hr]; exact bad_nz (by decide) L2 hL2
  · rw [if_neg hr]
    refine stepk_nz (fun L3 hL3 => ?_) hL2 (relF_kind' _ 6 hr)
    exact NZ.bind (kind_nz ep 3) (fun t => NZ.pure ep (⟨6, [], f, m, relF (hdT L2) 6, t.num⟩ : Ex)) L3 hL3
theorem fidx_kind {t : Tk} {i : Nat} (h : fieldsT.findIdx? (fun x => isT x t) = some i) : t.kind ≠ 1 := by
  rw [List.findIdx?_eq_some_iff_getElem] at h
  exact isT_kind' h.2.1
theorem atom_nz (ep : EP) : NZ ep (atomP ep) := fun L hL => by
  unfold atomP
  by_cases h1 : isT sTrue (hdT L) = true
  · rw [if_pos h1]; exact stepk_nz (NZ.pure ep _) hL (isT_kind' h1)
  · rw [if_neg h1]
    by_cases h2 : isT sFalse (hdT L) = true
    · rw [if_pos h2]; exact stepk_nz (NZ.pure ep _) hL (isT_kind' h2)
    · rw [if_neg h2]
      cases hf : fieldsT.findIdx? (fun x => isT x (hdT L)) with
      | none => exact bad_nz (by decide) L hL
      | some i => exact test_nz ep i hL (fidx_kind hf)
theorem more_nz {α : Type} (ep : EP) {one : List Tk → Rd α} (h1 : NZ ep one) (sep : ByteArray) : ∀ n l, NZ ep (moreP ep one sep n l)
  | 0, l => NZ.pure ep l
  | n + 1, l => fun L hL => by
    unfold moreP
    refine nz_bnd (maybe_nz ep sep L hL) (fun b L1 hL1 => ?_)
    by_cases hb : b = true
    · rw [if_pos hb]; exact nz_bnd (h1 L1 hL1) (fun x L2 hL2 => more_nz ep h1 sep n (l ++ [x]) L2 hL2)
    · rw [if_neg hb]; exact nz_ok l hL1
theorem turns_nz {α : Type} (ep : EP) {one : List Tk → Rd α} (h1 : NZ ep one) (sep : ByteArray) : NZ ep (turnsP ep one sep) := fun L hL => by
  unfold turnsP
  exact nz_bnd (h1 L hL) (fun x L1 hL1 => more_nz ep h1 sep (L1.length + 1) [x] L1 hL1)
theorem all_nz (ep : EP) {one : List Tk → Rd Ex} (h1 : NZ ep one) : NZ ep (allP ep one) := NZ.bind (turns_nz ep h1 sAnd) (fun l => NZ.pure ep (joinE 4 l))
theorem expr_nz (ep : EP) {one : List Tk → Rd Ex} (h1 : NZ ep one) : NZ ep (exprP ep one) := NZ.bind (turns_nz ep (all_nz ep h1) sOr) (fun l => NZ.pure ep (joinE 5 l))
theorem one_nz (ep : EP) : ∀ k, NZ ep (oneP ep k)
  | 0 => fun L hL => by
    unfold oneP
    by_cases h1 : isT sNot (hdT L) = true
    · rw [if_pos h1]; exact bad_nz (by decide) L hL
    · rw [if_neg h1]
      by_cases h2 : isT sOpen (hdT L) = true
      · rw [if_pos h2]; exact bad_nz (by decide) L hL
      · rw [if_neg h2]; exact atom_nz ep L hL
  | k + 1 => fun L hL => by
    unfold oneP
    by_cases h1 : isT sNot (hdT L) = true
    · rw [if_pos h1]
      exact stepk_nz (NZ.bind (one_nz ep k) (fun x => NZ.pure ep (⟨3, [x], 0, 0, 0, 0⟩ : Ex))) hL (isT_kind' h1)
    · rw [if_neg h1]
      by_cases h2 : isT sOpen (hdT L) = true
      · rw [if_pos h2]
        exact stepk_nz (NZ.bind (expr_nz ep (one_nz ep k)) (fun x => NZ.bind (want_nz ep sShut) (fun _ => NZ.pure ep x))) hL (isT_kind' h2)
      · rw [if_neg h2]; exact atom_nz ep L hL
theorem rule_nz (ep : EP) : NZ ep (ruleP ep) := fun L hL => by
  unfold ruleP
  refine nz_bnd (turns_nz ep (call_nz ep) sComma L hL) (fun a L1 h1 => nz_bnd (maybe_nz ep sWhen L1 h1) (fun m L2 h2 => nz_bnd ?_ (fun x L3 h3 => nz_bnd (want_nz ep sDo L3 h3) (fun _ L4 h4 => nz_bnd (verdict_nz ep L4 h4) (fun v L5 h5 => nz_bnd (want_nz ep sSemi L5 h5) (fun _ L6 h6 => nz_ok _ h6))))))
  by_cases hm : m = true
  · rw [if_pos hm]; exact expr_nz ep (one_nz ep 64) L2 h2
  · rw [if_neg hm]; exact nz_ok _ h2
theorem rules_nz (ep : EP) : ∀ n l, NZ ep (rulesP ep n l)
  | 0, l => NZ.pure ep l
  | n + 1, l => fun L hL => by
    unfold rulesP
    by_cases h : isT sOn (hdT L) = true
    · rw [if_pos h]
      by_cases h2 : l.length = 512
      · rw [if_pos h2]; exact bad_nz (by decide) L hL
      · rw [if_neg h2]; exact stepk_nz (fun L1 hL1 => nz_bnd (rule_nz ep L1 hL1) (fun x L2 hL2 => rules_nz ep n (l ++ [x]) L2 hL2)) hL (isT_kind' h)
    · rw [if_neg h]; exact nz_ok l hL
theorem policy_nz (ep : EP) : NZ ep (policyP ep) := fun L hL => by
  unfold policyP
  exact nz_bnd (want_nz ep _ _ hL) (fun _ _ h => nz_bnd (kind_nz ep _ _ h) (fun _ _ h => nz_bnd (want_nz ep _ _ h) (fun _ _ h => nz_bnd (want_nz ep _ _ h) (fun _ _ h => nz_bnd (verdict_nz ep _ h) (fun _ _ h => nz_bnd (want_nz ep _ _ h) (fun _ _ h =>
    nz_bnd (want_nz ep _ _ h) (fun _ _ h => nz_bnd (verdict_nz ep _ h) (fun _ _ h => nz_bnd (want_nz ep _ _ h) (fun _ _ h => nz_bnd (rules_nz ep _ _ _ h) (fun _ _ h => nz_ok _ h))))))))))
/-- of a whole text, given that its tokens are fine -/
theorem whole_nz {α : Type} {f : EP → List Tk → Rd α} {s : ByteArray} (hf : ∀ ep, NZ ep (f ep)) (h0 : (toks s).1 = [] → (toks s).2.1 ≠ 0) (h1 : (toks s).1 ≠ [] → Fine (toks s).2 (toks s).1) : ∀ p, wholeP f s = .error p → p.1 ≠ 0 := by
  intro p hp
  unfold wholeP at hp
  cases hL : (toks s).1 with
  | nil => rw [hL] at hp; cases hp; exact h0 hL
  | cons t r =>
    have hF := h1 (by rw [hL]; simp)
    rw [hL] at hp hF
    rcases bnd_err' hp with h2 | ⟨a, h2, h3⟩
    · exact (hf _ _ hF).1 p h2
    · rcases bnd_err' h3 with h4 | ⟨b, _, h5⟩
      · exact (kind_nz _ 1 a.2 ((hf _ _ hF).2 a.1 a.2 h2)).1 p h4
      · cases h5
theorem fine_cons {ep : EP} {t : Tk} {L : List Tk} (ht : t.kind ≠ 1) (h0 : L = [] → ep.1 ≠ 0) (h1 : L ≠ [] → Fine ep L) : Fine ep (t :: L) := by
  refine ⟨t, L, rfl, fun he => ?_⟩
  cases L with
  | nil => exact absurd he (h0 rfl)
  | cons t2 r =>
    obtain ⟨u, v, huv, hl⟩ := h1 (by simp)
    cases huv
    obtain ⟨x, hx, hx1, hx2⟩ := hl he
    refine ⟨x, by simpa using hx, hx1, fun y hy => ?_⟩
    simp only [List.dropLast_cons_cons, List.mem_cons] at hy
    rcases hy with rfl | hy
    · exact ht
    · exact hx2 y hy
/-- the tokens of a text are fine -/
theorem toksF_fine (s : ByteArray) : ∀ (f k : Nat), s.size + 1 ≤ f + k → ((toksF (f + 1) s k).1 = [] → (toksF (f + 1) s k).2.1 ≠ 0) ∧ ((toksF (f + 1) s k).1 ≠ [] → Fine (toksF (f + 1) s k).2 (toksF (f + 1) s k).1) := by
  intro f
  induction f with
  | zero =>
    intro k hk
    have he : errOf (nextV s k) ≠ 0 := by
      intro he
      obtain ⟨_, h2, _⟩ := next_ok s k he
      omega
    rw [toks_err he]
    exact ⟨fun _ => he, fun h => absurd rfl h⟩
  | succ f ih =>
    intro k hk
    by_cases he : errOf (nextV s k) = 0
    · obtain ⟨_, _, ⟨hend, _⟩ | ⟨p, q, _, hkp, hpq, hq, h1, _, _, hpl⟩⟩ := next_ok s k he
      · rw [toks_end he (by rw [hend])]
        refine ⟨fun h => (by cases h), fun _ => ⟨_, _, rfl, fun _ => ⟨_, rfl, ?_, fun y hy => (by simp at hy)⟩⟩⟩
        rw [hend]; rfl
      · rw [toks_more he h1 hpl]
        have hq2 := ih q (by omega)
        exact ⟨fun h => (by cases h), fun _ => fine_cons (t := tokOf (nextV s k)) h1 hq2.1 hq2.2⟩
    · rw [toks_err he]
      exact ⟨fun _ => he, fun h => absurd rfl h⟩
theorem wholeP_nz {α : Type} {f : EP → List Tk → Rd α} (hf : ∀ ep, NZ ep (f ep)) (s : ByteArray) : ∀ p, wholeP f s = .error p → p.1 ≠ 0 := by
  have h := toksF_fine s (s.size + 1) 0 (by omega)
  exact whole_nz hf h.1 h.2
end Go.Proofs.YtlmopoipjolbgaaGreatDoor.LexW
namespace Go.Proofs.YtlmopoipjolbgaaGreatDoor.LexW
open Go.RowKit Go.Shelf Go.Proofs.YtlmopoipjolbgaaGreatDoor.LexS Go.Proofs.YtlmopoipjolbgaaGreatDoorW.PrintWords
set_option linter.unusedVariables false
set_option linter.unusedSimpArgs false

theorem err_tok (s : ByteArray) (k : Int) (h : errOf (nextV s k) ≠ 0) : tokOf (nextV s k) = tkz := by
  unfold nextV at h ⊢
  by_cases h1 : 65536 < s.size
  · rw [if_pos h1]; rfl
  rw [if_neg h1] at h ⊢
  by_cases h2 : k < 0 ∨ (s.size : Int) < k
  · rw [if_pos h2]; rfl
  rw [if_neg h2] at h ⊢
  by_cases h3 : beginN s k.toNat < s.size
  · rw [dif_pos h3] at h ⊢
    unfold tokV at h ⊢
    split at h
    · rename_i hl
      rw [if_pos hl]
      split at h
      · rename_i h4; rw [if_pos h4]; rfl
      · exact absurd rfl h
    · rename_i hl
      rw [if_neg hl]
      split at h
      · rename_i hd
        rw [if_pos hd]
        split at h
        · exact absurd rfl h
        · rename_i h4; rw [if_neg h4]; rfl
      · rename_i hd
        rw [if_neg hd]
        split at h
        · rename_i h4; rw [if_pos h4]; rfl
        · exact absurd rfl h
  · rw [dif_neg h3] at h; exact absurd rfl h

/-- what All hands over from a place on -/
def gen (s : ByteArray) (k : Nat) : List (Tk × Int) := (toksA s k).1.map (fun t => (t, 0)) ++ (if (toksA s k).2.1 ≠ 0 then [(tkz, (toksA s k).2.1)] else [])
theorem gen_err {s : ByteArray} {k : Nat} (h : errOf (nextV s k) ≠ 0) : gen s k = [(tokOf (nextV s k), errOf (nextV s k))] := by
  unfold gen
  rw [toksA_err h, err_tok s k h]
  simp only [List.map_nil, List.nil_append]
  rw [if_pos h]
theorem gen_end {s : ByteArray} {k : Nat} (h : errOf (nextV s k) = 0) (h1 : (nextV s k).1 = 1) : gen s k = [(tokOf (nextV s k), errOf (nextV s k))] := by
  unfold gen
  rw [toksA_end h h1, h]
  simp
theorem gen_more {s : ByteArray} {k q : Nat} (h : errOf (nextV s k) = 0) (h1 : (nextV s k).1 ≠ 1) (hq : placeOf (nextV s k) = (q : Int)) (hkq : k < q) : gen s k = (tokOf (nextV s k), errOf (nextV s k)) :: gen s q := by
  unfold gen
  rw [toksA_more h h1 hq hkq, h]
  simp
theorem gen_cons (s : ByteArray) (k : Nat) : ∃ r, gen s k = (tokOf (nextV s k), errOf (nextV s k)) :: r := by
  by_cases h : errOf (nextV s k) = 0
  · obtain ⟨_, _, ⟨he, _⟩ | ⟨p, q, _, hkp, hpq, _, h1, _, _, hpl⟩⟩ := next_ok s k h
    · exact ⟨_, gen_end h (by rw [he])⟩
    · exact ⟨_, gen_more h h1 hpl (by omega)⟩
  · exact ⟨_, gen_err h⟩

/-- tokens are no more than the text's bytes and the end -/
theorem toksF_len (s : ByteArray) : ∀ (f k : Nat), k ≤ s.size → (toksF f s k).1.length + k ≤ s.size + 1 := by
  intro f
  induction f with
  | zero => intro k hk; simp only [toksF, List.length_nil]; omega
  | succ f ih =>
    intro k hk
    by_cases h : errOf (nextV s k) = 0
    · obtain ⟨_, _, ⟨he, _⟩ | ⟨p, q, _, hkp, hpq, hq, h1, _, _, hpl⟩⟩ := next_ok s k h
      · rw [toks_end h (by rw [he])]; simp only [List.length_cons, List.length_nil]; omega
      · rw [toks_more h h1 hpl]
        have := ih q hq
        simp only [List.length_cons]; omega
    · rw [toks_err h]; simp only [List.length_nil]; omega
theorem long_err (s : ByteArray) (k : Int) (h : 65536 < s.size) : nextV s k = (0, nil0, 0, 0, 0, 54) := by unfold nextV; rw [if_pos h]
theorem toks_len (s : ByteArray) : (toks s).1.length ≤ 65537 := by
  by_cases h : 65536 < s.size
  · have : (toks s).1 = [] := by
      unfold toks
      rw [toksA_err (by rw [long_err s _ h]; decide)]
    rw [this]; simp
  · have := toksF_len s (s.size + 2) 0 (by omega)
    show (toksF (s.size + 2) s 0).1.length ≤ _
    omega
theorem gen_len (s : ByteArray) : (gen s 0).length ≤ 65538 := by
  have := toks_len s
  show ((toks s).1.map _ ++ _).length ≤ _
  rw [List.length_append, List.length_map]
  split <;> simp <;> omega

/-- the place behind the tokens that have come -/
def placeT (pre : List Tk) : Int := match pre.getLast? with | none => 0 | some x => wrap64 (x.at_ + (x.text.size : Int))
theorem placeT_snoc (pre : List Tk) (x : Tk) : placeT (pre ++ [x]) = wrap64 (x.at_ + (x.text.size : Int)) := by unfold placeT; rw [List.getLast?_append]; rfl
/-- what is wrong is found again behind the tokens that have come -/
theorem toksF_place (s : ByteArray) : ∀ (f k : Nat) (pre : List Tk), placeT pre = (k : Int) → (toksF f s k).2.1 ≠ 0 → placeOf (nextV s (placeT (pre ++ (toksF f s k).1))) = (toksF f s k).2.2 := by
  intro f
  induction f with
  | zero => intro k pre _ h; exact absurd rfl h
  | succ f ih =>
    intro k pre hp h
    by_cases he : errOf (nextV s k) = 0
    · obtain ⟨hs, hk, ⟨hend, _⟩ | ⟨p, q, _, hkp, hpq, hq, h1, htx, hat, hpl⟩⟩ := next_ok s k he
      · rw [toks_end he (by rw [hend])] at h; exact absurd rfl h
      · rw [toks_more he h1 hpl] at h ⊢
        have hpl2 : placeT (pre ++ [tokOf (nextV s k)]) = (q : Int) := by
          rw [placeT_snoc]
          show wrap64 ((nextV s k).2.2.2.1 + ((nextV s k).2.1.size : Int)) = _
          rw [htx, hat, ByteArray.size_extract]
          have : ((min q s.size - p : Nat) : Int) = (q : Int) - (p : Int) := by omega
          rw [this]
          unfold wrap64; omega
        have := ih q (pre ++ [tokOf (nextV s k)]) hpl2 h
        simpa using this
    · rw [toks_err he, List.append_nil, hp]
theorem toks_place (s : ByteArray) (h : (toks s).2.1 ≠ 0) : placeOf (nextV s (placeT (toks s).1)) = (toks s).2.2 := by
  have := toksF_place s (s.size + 2) 0 [] rfl h
  rw [List.nil_append] at this
  exact this
theorem gen_eq (s : ByteArray) : gen s 0 = (toks s).1.map (fun t => (t, (0 : Int))) ++ (if (toks s).2.1 ≠ 0 then [(tkz, (toks s).2.1)] else []) := rfl
theorem map_fst (l : List Tk) : (l.map (fun t => (t, (0 : Int)))).map (·.1) = l := by
  induction l with
  | nil => rfl
  | cons a l ih => rw [List.map_cons, List.map_cons, ih]

/-- all has come, and nothing was wrong -/
theorem gen_all {s : ByteArray} (h : ∀ x ∈ gen s 0, x.2 = 0) : (toks s).2.1 = 0 ∧ (gen s 0).map (·.1) = (toks s).1 := by
  by_cases he : (toks s).2.1 = 0
  · refine ⟨he, ?_⟩
    rw [gen_eq, if_neg (by simpa using he), List.append_nil, map_fst]
  · exfalso
    apply he
    refine h (tkz, (toks s).2.1) ?_
    rw [gen_eq, if_pos he]
    simp
/-- a part has come, its last is wrong -/
theorem gen_stop {s : ByteArray} {pre : List (Tk × Int)} {x : Tk × Int} (h : pre ++ [x] <+: gen s 0) (hx : x.2 ≠ 0) : (toks s).2.1 = x.2 ∧ pre.map (·.1) = (toks s).1 := by
  have h' : pre ++ [x] <+: (toks s).1.map (fun t => (t, (0 : Int))) ++ (if (toks s).2.1 ≠ 0 then [(tkz, (toks s).2.1)] else []) := h
  obtain ⟨r, hr⟩ := h'
  have hlen : (toks s).1.length ≤ pre.length := by
    by_cases hl : (toks s).1.length ≤ pre.length
    · exact hl
    · exfalso
      have e : (pre ++ [x] ++ r)[pre.length]? = some x := by simp
      rw [hr, List.getElem?_append_left (by rw [List.length_map]; omega), List.getElem?_map] at e
      cases ht : (toks s).1[pre.length]? with
      | none => rw [ht] at e; simp at e
      | some t => rw [ht] at e; simp at e; rw [← e] at hx; exact hx rfl
  by_cases he : (toks s).2.1 = 0
  · exfalso
    rw [if_neg (by simpa using he), List.append_nil] at hr
    have := congrArg List.length hr
    simp at this
    omega
  · rw [if_pos he] at hr
    have hl2 := congrArg List.length hr
    simp at hl2
    have hr0 : r = [] := List.length_eq_zero_iff.1 (by omega)
    subst hr0
    rw [List.append_nil] at hr
    obtain ⟨h1, h2⟩ := List.append_inj hr (by rw [List.length_map]; omega)
    injection h2 with h2 _
    rw [h1, map_fst]
    exact ⟨by rw [h2], rfl⟩
end Go.Proofs.YtlmopoipjolbgaaGreatDoor.LexW
namespace Go.Proofs.YtlmopoipjolbgaaGreatDoor.LexW
open Go.RowKit Go.Shelf Go.Proofs.YtlmopoipjolbgaaGreatDoor.LexS Go.Proofs.YtlmopoipjolbgaaGreatDoorW.PrintWords
set_option linter.unusedVariables false
set_option linter.unusedSimpArgs false

theorem ext_list (s : ByteArray) (p q : Nat) : (s.extract p q).data.toList = (s.data.toList.drop p).take (q - p) := by
  rw [ByteArray.data_extract, Array.toList_extract]

theorem letter_facts {c : UInt8} (h : letterB c = true) : blankB c = false ∧ c ≠ 35 ∧ digitB c = false ∧ c ≠ 48 := by
  rw [letter_nat] at h
  simp only [Bool.or_eq_true, Bool.and_eq_true, decide_eq_true_eq] at h
  refine ⟨?_, ?_, ?_, ?_⟩
  · simp [blankB, ← UInt8.toNat_inj]; omega
  · intro e; rw [e] at h; simp at h
  · rw [digit_nat]; simp; omega
  · intro e; rw [e] at h; simp at h
theorem digit_facts {c : UInt8} (h : digitB c = true) : blankB c = false ∧ c ≠ 35 ∧ letterB c = false := by
  rw [digit_nat] at h
  simp only [Bool.and_eq_true, decide_eq_true_eq] at h
  refine ⟨?_, ?_, ?_⟩
  · simp [blankB, ← UInt8.toNat_inj]; omega
  · intro e; rw [e] at h; simp at h
  · rw [letter_nat]; simp; omega
theorem sign_facts {c : UInt8} {r : List UInt8} (h : signL (c :: r) ≠ 0) : blankB c = false ∧ c ≠ 35 := by
  have hc : c = 61 ∨ c = 33 ∨ c = 60 ∨ c = 62 ∨ c = 59 ∨ c = 44 ∨ c = 40 ∨ c = 41 ∨ c = 38 := by
    simp only [signL] at h
    split at h
    · rename_i h1; simp at h1; rcases h1.1 with ((h | h) | h) | h <;> simp [h]
    · split at h
      · rename_i h1; simp at h1; rcases h1 with (((((h | h) | h) | h) | h) | h) | h <;> simp [h]
      · exact absurd rfl h
  rcases hc with rfl | rfl | rfl | rfl | rfl | rfl | rfl | rfl | rfl <;> exact ⟨by decide, by decide⟩
theorem sign_again {c : UInt8} {r B : List UInt8} (h : signL (c :: r) ≠ 0) : signL ((c :: r).take (signL (c :: r)) ++ 32 :: B) = ((c :: r).take (signL (c :: r))).length := by
  by_cases h1 : ((c == 61 || c == 33 || c == 60 || c == 62) && r.head? == some 61) = true
  · have e : signL (c :: r) = 2 := by simp only [signL]; rw [if_pos h1]
    rw [Bool.and_eq_true] at h1
    cases r with
    | nil => simp at h1
    | cons d r =>
      have hd : d = 61 := by simpa using h1.2
      subst hd
      rw [e]
      show signL (c :: 61 :: 32 :: B) = 2
      simp only [signL]
      rw [if_pos (by rw [Bool.and_eq_true]; exact ⟨h1.1, by simp⟩)]
  · have e : signL (c :: r) = 1 := by
      simp only [signL] at h ⊢
      rw [if_neg h1] at h ⊢
      split at h
      · rename_i h2; rw [if_pos h2]
      · exact absurd rfl h
    have h2 : (c == 59 || c == 44 || c == 40 || c == 41 || c == 38 || c == 60 || c == 62) = true := by
      simp only [signL] at e
      rw [if_neg h1] at e
      split at e
      · rename_i h2; exact h2
      · cases e
    rw [e]
    show signL (c :: 32 :: B) = 1
    simp only [signL]
    rw [if_neg (by simp), if_pos h2]

/-- what a token's text is like -/
inductive TkLike : Tk → UInt8 → List UInt8 → Prop
  | word {t : Tk} {c : UInt8} {T : List UInt8} (hT : t.text.data.toList = c :: T) (hk : t.kind = 2) (hn : t.num = 0) (hc : letterB c = true) (hw : (c :: T).all wordB = true) (hl : (c :: T).length ≤ 32) : TkLike t c T
  | number {t : Tk} {c : UInt8} {T : List UInt8} (hT : t.text.data.toList = c :: T) (hk : t.kind = 3) (hc : digitB c = true) (hw : (c :: T).all wordB = true) (hr : (numR (c :: T)).2 = true) (hn : t.num = (numR (c :: T)).1) : TkLike t c T
  | sign {t : Tk} {c : UInt8} {T : List UInt8} (hT : t.text.data.toList = c :: T) (hk : t.kind = 4) (hn : t.num = 0) (hc : letterB c = false) (hd : digitB c = false) (hb : blankB c = false) (h35 : c ≠ 35) (hs : ∀ B, signL (c :: T ++ 32 :: B) = (c :: T).length) : TkLike t c T

theorem all_takeWhile (p : UInt8 → Bool) (l : List UInt8) : (l.takeWhile p).all p = true := by
  induction l with
  | nil => rfl
  | cons a l ih =>
    rw [List.takeWhile_cons]
    cases h : p a
    · rfl
    · simp [h, ih]
theorem take_takeWhile (p : UInt8 → Bool) (l : List UInt8) : l.take (l.takeWhile p).length = l.takeWhile p := by
  induction l with
  | nil => rfl
  | cons a l ih =>
    rw [List.takeWhile_cons]
    cases h : p a
    · rfl
    · simp [ih]
theorem extract_while (s : ByteArray) (p : Nat) : (s.extract p (whileN wordB s p)).data.toList = (s.data.toList.drop p).takeWhile wordB := by
  rw [ext_list]
  unfold whileN
  rw [Nat.add_sub_cancel_left]
  exact take_takeWhile _ _

theorem tok_like (s : ByteArray) (k : Nat) (h : errOf (nextV s k) = 0) (h1 : (nextV s k).1 ≠ 1) : ∃ c T, TkLike (tokOf (nextV s k)) c T := by
  unfold nextV at h h1 ⊢
  by_cases h2 : 65536 < s.size
  · rw [if_pos h2] at h; exact absurd h (by decide)
  rw [if_neg h2] at h h1 ⊢
  by_cases h3 : (k : Int) < 0 ∨ (s.size : Int) < (k : Int)
  · rw [if_pos h3] at h; exact absurd h (by decide)
  rw [if_neg h3] at h h1 ⊢
  rw [Int.toNat_natCast] at h h1 ⊢
  by_cases hp : beginN s k < s.size
  · rw [dif_pos hp] at h h1 ⊢
    generalize beginN s k = p at *
    have hdrop := drop_cons s p hp
    have hex := extract_while s p
    have hall := all_takeWhile wordB (s.data.toList.drop p)
    rw [← hex] at hall
    unfold tokV at h h1 ⊢
    by_cases hl : letterB s[p] = true
    · rw [if_pos hl] at h h1 ⊢
      have hwb : wordB s[p] = true := by unfold wordB; rw [hl]; rfl
      rw [hdrop, List.takeWhile_cons_of_pos hwb] at hex
      by_cases h32 : 32 < whileN wordB s p - p
      · rw [if_pos h32] at h; exact absurd (show (52 : Int) = 0 from h) (by decide)
      · rw [if_neg h32]
        refine ⟨_, _, TkLike.word hex rfl rfl hl (by rw [← hex]; exact hall) ?_⟩
        unfold whileN at h32
        rw [hdrop, List.takeWhile_cons_of_pos hwb] at h32
        omega
    · rw [if_neg hl] at h h1 ⊢
      by_cases hd : digitB s[p] = true
      · rw [if_pos hd] at h h1 ⊢
        have hwb : wordB s[p] = true := by unfold wordB; rw [hd]; simp
        rw [hdrop, List.takeWhile_cons_of_pos hwb] at hex
        by_cases hn : (numR (s.extract p (whileN wordB s p)).data.toList).2 = true
        · rw [if_pos hn]
          refine ⟨_, _, TkLike.number hex rfl hd (by rw [← hex]; exact hall) (by rw [← hex]; exact hn) (by rw [← hex]; rfl)⟩
        · rw [if_neg hn] at h; exact absurd (show (53 : Int) = 0 from h) (by decide)
      · rw [if_neg hd] at h h1 ⊢
        by_cases hz : signL (s.data.toList.drop p) = 0
        · rw [if_pos hz] at h; exact absurd (show (51 : Int) = 0 from h) (by decide)
        · rw [if_neg hz]
          have hxs : (s.extract p (p + signL (s.data.toList.drop p))).data.toList = (s.data.toList.drop p).take (signL (s.data.toList.drop p)) := by rw [ext_list, Nat.add_sub_cancel_left]
          rw [hdrop] at hz hxs
          obtain ⟨m, hm⟩ : ∃ m, signL (s[p] :: s.data.toList.drop (p + 1)) = m + 1 := ⟨signL (s[p] :: s.data.toList.drop (p + 1)) - 1, by omega⟩
          have hf := sign_facts hz
          have ha := fun B => sign_again (B := B) hz
          rw [hm] at ha
          rw [List.take_succ_cons] at ha
          refine ⟨s[p], (s.data.toList.drop (p + 1)).take m, TkLike.sign ?_ rfl rfl (by simpa using hl) (by simpa using hd) hf.1 hf.2 ha⟩
          show (s.extract p (p + signL (s.data.toList.drop p))).data.toList = _
          rw [hdrop, hxs, hm, List.take_succ_cons]
  · rw [dif_neg hp] at h1; exact absurd rfl h1

theorem num_letter {c : UInt8} {T : List UInt8} (hd : digitB c = false) : numR (c :: T) = (0, false) := by
  have h48 : c ≠ 48 := by intro e; rw [e] at hd; exact absurd hd (by decide)
  unfold numR numL
  rw [if_neg (by cases T <;> simp [h48]), if_neg (by rw [List.all_cons, hd]; simp)]
theorem word_no_letter {c : UInt8} {T : List UInt8} (h : letterB c = false) : wordL (c :: T) = false := by
  unfold wordL
  rw [decide_eq_false_iff_not]
  rintro ⟨_, _, ⟨d, hd, hl⟩, _⟩
  have : c = d := by simpa using hd
  rw [← this, h] at hl; cases hl
/-- what a token's text says of its kind -/
theorem tk_kinds {t : Tk} {c : UInt8} {T : List UInt8} (h : TkLike t c T) : t.kind ≠ 1 ∧ ((t.kind == 3) = (numR (c :: T)).2) ∧ ((numR (c :: T)).2 = true → (numR (c :: T)).1 = t.num) ∧ ((t.kind == 2) = wordL (c :: T)) := by
  cases h with
  | word hT hk hn hc hw hl =>
    rw [num_letter (letter_facts hc).2.2.1, hk]
    refine ⟨by decide, rfl, fun h => (by cases h), ?_⟩
    unfold wordL
    rw [decide_eq_true ⟨by simp, hl, ⟨c, rfl, hc⟩, hw⟩]; rfl
  | number hT hk hc hw hr hn =>
    rw [hk, hr, word_no_letter (digit_facts hc).2.2]
    exact ⟨by decide, rfl, fun _ => hn.symm, rfl⟩
  | sign hT hk hn hc hd hb h35 hs =>
    rw [num_letter hd, hk, word_no_letter hc]
    exact ⟨by decide, rfl, fun h => (by cases h), rfl⟩
theorem tk_text {t : Tk} {c : UInt8} {T : List UInt8} (h : TkLike t c T) : t.text.data.toList = c :: T ∧ blankB c = false ∧ c ≠ 35 := by
  cases h with
  | word hT hk hn hc hw hl => exact ⟨hT, (letter_facts hc).1, (letter_facts hc).2.1⟩
  | number hT hk hc hw hr hn => exact ⟨hT, (digit_facts hc).1, (digit_facts hc).2.1⟩
  | sign hT hk hn hc hd hb h35 hs => exact ⟨hT, hb, h35⟩
theorem take_word {c : UInt8} {T B : List UInt8} (h : (c :: T).all wordB = true) : (c :: T ++ 32 :: B).takeWhile wordB = c :: T := by
  rw [List.takeWhile_append_of_pos (fun x hx => List.all_eq_true.1 h x hx), List.takeWhile_cons_of_neg (by decide), List.append_nil]
theorem size_list (t : ByteArray) : t.size = t.data.toList.length := by simp
theorem text_of_list {a b : ByteArray} (h : a.data.toList = b.data.toList) : a = b := WideShapes.bytes_inj h

/-- the token is found again wherever its text stands, with a blank behind -/
theorem tok_again {t : Tk} {c : UInt8} {T : List UInt8} (h : TkLike t c T) {S : ByteArray} {p : Nat} {B : List UInt8} (hp : p < S.size) (hd : S.data.toList.drop p = c :: T ++ 32 :: B) :
    tokV S p (whileN wordB S p) S[p] = (t.kind, t.text, t.num, (p : Int), ((p + t.text.size : Nat) : Int), (0 : Int)) := by
  have hc0 : S[p] = c := by
    have := drop_cons S p hp
    rw [hd] at this
    simp at this
    exact this.1.symm
  have hlenw : (c :: T).all wordB = true → whileN wordB S p = p + (c :: T).length := fun hw => by
    unfold whileN; rw [hd, take_word hw]
  have hexw : (c :: T).all wordB = true → (S.extract p (whileN wordB S p)).data.toList = c :: T := fun hw => by
    rw [extract_while, hd, take_word hw]
  rw [hc0]
  cases h with
  | word hT hk hn hc hw hl =>
    have hex : S.extract p (whileN wordB S p) = t.text := text_of_list (by rw [hexw hw, hT])
    unfold tokV
    rw [if_pos hc, if_neg (by rw [hlenw hw]; omega), hex, hk, hn, size_list t.text, hT, hlenw hw]
  | number hT hk hc hw hr hn =>
    have hex : S.extract p (whileN wordB S p) = t.text := text_of_list (by rw [hexw hw, hT])
    unfold tokV
    rw [if_neg (by rw [(digit_facts hc).2.2]; decide), if_pos hc, hex, hT, if_pos hr, hk, hn, size_list t.text, hT, hlenw hw]
  | sign hT hk hn hc hd2 hb h35 hs =>
    have hex : S.extract p (p + (c :: T).length) = t.text := text_of_list (by rw [ext_list, hd, Nat.add_sub_cancel_left, hT]; simp)
    unfold tokV
    rw [if_neg (by rw [hc]; decide), if_neg (by rw [hd2]; decide), hd, hs B, if_neg (by simp), hex, hk, hn, size_list t.text, hT]
    push_cast
    rfl

/-- what is between two tokens of the text written anew -/
def gapOk (g : List UInt8) : Prop := g = [] ∨ g = [32]
theorem skip_gap {g : List UInt8} (hg : gapOk g) (l : List UInt8) : skipS false (g ++ l) = skipS false l := by
  rcases hg with rfl | rfl
  · rfl
  · show skipS false (32 :: l) = _
    rw [skipS, if_pos (by decide)]
theorem next_again {t : Tk} {c : UInt8} {T : List UInt8} (h : TkLike t c T) {S : ByteArray} {k : Nat} {g B : List UInt8} (hS : S.size ≤ 65536) (hg : gapOk g) (hd : S.data.toList.drop k = g ++ (c :: T ++ 32 :: B)) :
    nextV S (k : Int) = (t.kind, t.text, t.num, ((k + g.length : Nat) : Int), ((k + g.length + t.text.size : Nat) : Int), (0 : Int)) := by
  obtain ⟨hT, hb, h35⟩ := tk_text h
  have hlen := congrArg List.length hd
  simp only [List.length_drop, List.length_append, List.length_cons] at hlen
  have hsz : S.data.toList.length = S.size := by simp
  have hbeg : beginN S k = k + g.length := by
    unfold beginN
    rw [hd, skip_gap hg, List.cons_append, skipS, hb, if_neg (by simp), if_neg (by simpa using h35)]
    simp only [List.length_append, List.length_cons]
    omega
  have hp : k + g.length < S.size := by omega
  have hd2 : S.data.toList.drop (k + g.length) = c :: T ++ 32 :: B := by rw [← List.drop_drop, hd, List.drop_left]
  unfold nextV
  rw [if_neg (by omega), if_neg (by omega), Int.toNat_natCast]
  rw [dif_pos (by rw [hbeg]; exact hp)]
  have := tok_again h hp hd2
  simp only [hbeg]
  exact this

/-- where the tokens stand -/
inductive Stand (s : ByteArray) : Nat → List Tk → Prop
  | last {k : Nat} (hk : k ≤ s.size) : Stand s k [⟨1, nil0, 0, s.size⟩]
  | more {k p q : Nat} {t : Tk} {c : UInt8} {T : List UInt8} {l : List Tk} (hl : TkLike t c T) (h1 : k ≤ p) (h2 : p < q) (h3 : q ≤ s.size) (ht : t.text = s.extract p q) (ha : t.at_ = (p : Int)) (r : Stand s q l) : Stand s k (t :: l)

theorem stand_of (s : ByteArray) : ∀ (f k : Nat), s.size + 1 ≤ f + k → k ≤ s.size → (toksF f s k).2.1 = 0 → Stand s k (toksF f s k).1 := by
  intro f
  induction f with
  | zero => intro k h1 h2; omega
  | succ f ih =>
    intro k hf hk he
    by_cases h : errOf (nextV s k) = 0
    · obtain ⟨_, _, ⟨hend, _⟩ | ⟨p, q, _, hkp, hpq, hq, h1, htx, hat, hpl⟩⟩ := next_ok s k h
      · rw [toks_end h (by rw [hend]), hend]
        exact Stand.last hk
      · obtain ⟨c, T, hlike⟩ := tok_like s k h h1
        rw [toks_more h h1 hpl] at he ⊢
        exact Stand.more hlike hkp hpq hq htx hat (ih q (by omega) hq he)
    · rw [toks_err h] at he; exact absurd he h
theorem stand_toks {s : ByteArray} (he : (toks s).2.1 = 0) : Stand s 0 (toks s).1 := stand_of s (s.size + 2) 0 (by omega) (by omega) he

/-- the texts, one blank behind each -/
def joinL (l : List Tk) : List UInt8 := l.flatMap fun t => t.text.data.toList ++ [32]
def strip (t : Tk) : Int × ByteArray × Int := (t.kind, t.text, t.num)
theorem again_from {s : ByteArray} : ∀ {k : Nat} {l : List Tk}, Stand s k l → ∀ {S : ByteArray} {j : Nat} {g : List UInt8}, S.size ≤ 65536 → j ≤ S.size → gapOk g → S.data.toList.drop j = g ++ joinL l →
    (toksA S j).2.1 = 0 ∧ (toksA S j).1.map strip = l.map strip := by
  intro k l hst
  induction hst with
  | last hk =>
    intro S j g hS hj hg hd
    have hbeg : beginN S j = S.size := by
      unfold beginN
      rw [hd, skip_gap hg]
      show S.size - (skipS false [32]).length = _
      rfl
    have hn : nextV S (j : Int) = (1, nil0, 0, (S.size : Int), (S.size : Int), 0) := by
      unfold nextV
      rw [if_neg (by omega), if_neg (by omega), Int.toNat_natCast, dif_neg (by rw [hbeg]; omega)]
    rw [toksA_end (by rw [hn]) (by rw [hn]), hn]
    exact ⟨rfl, rfl⟩
  | @more k p q t c T l hl h1 h2 h3 ht ha r ih =>
    intro S j g hS hj hg hd
    obtain ⟨hT, _, _⟩ := tk_text hl
    have hd2 : S.data.toList.drop j = g ++ (c :: T ++ 32 :: joinL l) := by
      rw [hd]; show g ++ (t.text.data.toList ++ [32] ++ joinL l) = _; rw [hT]; simp
    have hn := next_again hl hS hg hd2
    have hlen := congrArg List.length hd2
    simp only [List.length_drop, List.length_append, List.length_cons] at hlen
    have hsz : S.data.toList.length = S.size := by simp
    have htl : t.text.size = T.length + 1 := by rw [size_list, hT]; rfl
    have hd3 : S.data.toList.drop (j + g.length + t.text.size) = [32] ++ joinL l := by
      rw [← List.drop_drop, ← List.drop_drop, hd2, List.drop_left, size_list, hT, List.drop_left]; rfl
    obtain ⟨e1, e2⟩ := ih hS (by omega) (.inr rfl) hd3
    rw [toksA_more (q := j + g.length + t.text.size) (by rw [hn]) (by rw [hn]; exact (tk_kinds hl).1) (by rw [hn]) (by omega)]
    refine ⟨e1, ?_⟩
    rw [List.map_cons, List.map_cons, e2, hn]
    rfl

/-- one token on -/
theorem stand_step {s : ByteArray} {k : Nat} {t : Tk} {l : List Tk} (h : Stand s k (t :: l)) : ∃ p : Nat, t.at_ = (p : Int) ∧ k ≤ p ∧ p + t.text.size ≤ s.size ∧ s.extract p (p + t.text.size) = t.text ∧ (t.text.size = 0 ↔ l = []) ∧
    ((t.kind == 3) = (numR t.text.data.toList).2) ∧ ((numR t.text.data.toList).2 = true → (numR t.text.data.toList).1 = t.num) ∧ ((t.kind == 2) = wordL t.text.data.toList) ∧ (l = [] ∨ Stand s (p + t.text.size) l) := by
  cases h with
  | last hk =>
    refine ⟨s.size, rfl, hk, Nat.le_refl _, ?_, ⟨fun _ => rfl, fun _ => rfl⟩, rfl, fun h => (by cases h), rfl, .inl rfl⟩
    exact text_of_list (by rw [ext_list]; simp; rfl)
  | @more _ p q _ c T _ hl h1 h2 h3 ht ha r =>
    obtain ⟨hT, _, _⟩ := tk_text hl
    obtain ⟨_, k3, kn, k2⟩ := tk_kinds hl
    have hsz : t.text.size = q - p := by rw [ht, ByteArray.size_extract]; omega
    have hq : p + t.text.size = q := by omega
    refine ⟨p, ha, h1, by rw [hq]; exact h3, by rw [hq]; exact ht.symm, ⟨fun h => by omega, fun h => ?_⟩, by rw [hT]; exact k3, by rw [hT]; exact kn, by rw [hT]; exact k2, .inr (by rw [hq]; exact r)⟩
    rw [h] at r; cases r
theorem stand_ne {s : ByteArray} {k : Nat} {l : List Tk} (h : Stand s k l) : l ≠ [] := by cases h <;> simp
theorem stand_last {s : ByteArray} {k : Nat} {l : List Tk} (h : Stand s k l) : l.getLast? = some ⟨1, nil0, 0, s.size⟩ := by
  induction h with
  | last => rfl
  | more _ _ _ _ _ _ r ih =>
    rw [List.getLast?_cons, ih]; rfl
theorem err_place (s : ByteArray) (k : Int) (h : errOf (nextV s k) ≠ 0) : 0 ≤ placeOf (nextV s k) ∧ placeOf (nextV s k) ≤ s.size := by
  unfold nextV at h ⊢
  by_cases h1 : 65536 < s.size
  · rw [if_pos h1]; exact ⟨by decide, by show (0 : Int) ≤ _; omega⟩
  rw [if_neg h1] at h ⊢
  by_cases h2 : k < 0 ∨ (s.size : Int) < k
  · rw [if_pos h2]; exact ⟨by decide, by show (0 : Int) ≤ _; omega⟩
  rw [if_neg h2] at h ⊢
  by_cases h3 : beginN s k.toNat < s.size
  · rw [dif_pos h3] at h ⊢
    unfold tokV at h ⊢
    split at h
    · rename_i hl
      rw [if_pos hl]
      split at h
      · rename_i h4; rw [if_pos h4]; exact ⟨by show (0 : Int) ≤ (beginN s k.toNat : Int); omega, by show (beginN s k.toNat : Int) ≤ _; omega⟩
      · exact absurd rfl h
    · rename_i hl
      rw [if_neg hl]
      split at h
      · rename_i hd
        rw [if_pos hd]
        split at h
        · exact absurd rfl h
        · rename_i h4; rw [if_neg h4]; exact ⟨by show (0 : Int) ≤ (beginN s k.toNat : Int); omega, by show (beginN s k.toNat : Int) ≤ _; omega⟩
      · rename_i hd
        rw [if_neg hd]
        split at h
        · rename_i h4; rw [if_pos h4]; exact ⟨by show (0 : Int) ≤ (beginN s k.toNat : Int); omega, by show (beginN s k.toNat : Int) ≤ _; omega⟩
        · exact absurd rfl h
  · rw [dif_neg h3] at h; exact absurd rfl h
theorem toksF_bound (s : ByteArray) : ∀ (f k : Nat), (toksF f s k).2.1 ≠ 0 → 0 ≤ (toksF f s k).2.2 ∧ (toksF f s k).2.2 ≤ s.size := by
  intro f
  induction f with
  | zero => intro k h; exact absurd rfl h
  | succ f ih =>
    intro k h
    by_cases he : errOf (nextV s k) = 0
    · obtain ⟨_, _, ⟨hend, _⟩ | ⟨p, q, _, hkp, hpq, hq, h1, _, _, hpl⟩⟩ := next_ok s k he
      · rw [toks_end he (by rw [hend])] at h; exact absurd rfl h
      · rw [toks_more he h1 hpl] at h ⊢
        exact ih q h
    · rw [toks_err he]; exact err_place s k he
end Go.Proofs.YtlmopoipjolbgaaGreatDoor.LexW
namespace Go.Proofs.YtlmopoipjolbgaaGreatDoor.LexW
open Go.RowKit Go.Shelf Go.Proofs.YtlmopoipjolbgaaGreatDoor.LexS Go.Proofs.YtlmopoipjolbgaaGreatDoorW.PrintWords
set_option linter.unusedVariables false
set_option linter.unusedSimpArgs false

def U64 (n : Int) : Prop := 0 ≤ n ∧ n < 18446744073709551616
/-- a token as they are cut -/
def TkFit (t : Tk) : Prop := U64 t.num ∧ (t.kind = 2 → wordL t.text.data.toList = true)
def TksFit (L : List Tk) : Prop := ∀ t ∈ L, TkFit t
def nodeOk (op : Int) (n : Nat) (f m r v : Int) : Prop :=
  1 ≤ op ∧ op ≤ 6 ∧ (op = 3 → n = 1) ∧ (op = 4 ∨ op = 5 → 2 ≤ n) ∧ (op = 1 ∨ op = 2 ∨ op = 6 → n = 0) ∧ (op = 6 → 0 ≤ f ∧ f ≤ 6 ∧ 1 ≤ r ∧ r ≤ 6) ∧ (op ≠ 6 → f = 0 ∧ m = 0 ∧ r = 0 ∧ v = 0) ∧ U64 m ∧ U64 v
mutual
def okE : Ex → Prop
  | ⟨op, l, f, m, r, v⟩ => nodeOk op l.length f m r v ∧ okL l
def okL : List Ex → Prop
  | [] => True
  | x :: l => okE x ∧ okL l
end
theorem okE_eq (x : Ex) : okE x = (nodeOk x.f0 x.f1.length x.f2 x.f3 x.f4 x.f5 ∧ okL x.f1) := by cases x; rfl
theorem okL_all : ∀ l : List Ex, okL l ↔ ∀ x ∈ l, okE x
  | [] => by simp [okL]
  | x :: l => by rw [okL, okL_all l]; simp
def okV (v : Vd) : Prop := 1 ≤ v.f0 ∧ v.f0 ≤ 8 ∧ U64 v.f1 ∧ (v.f0 ≠ 3 → v.f0 ≠ 4 → v.f0 ≠ 6 → v.f1 = 0)
def okC (c : Cl) : Prop := (c.f0 = nil0 ∧ U64 c.f1) ∨ (c.f1 = 0 ∧ wordL c.f0.data.toList = true)
structure okR (r : Rl) : Prop where
  ne : r.f0 ≠ []
  calls : ∀ c ∈ r.f0, okC c
  cond : okE r.f1
  deep : dE r.f1 ≤ 64
  verd : okV r.f2
def wR (r : Rl) : Nat := r.f0.length + wE r.f1 + 1
structure okP (p : Po) : Prop where
  arch : wordL p.arch.data.toList = true
  forn : okV p.foreign
  dflt : okV p.dflt
  rules : ∀ r ∈ p.rules, okR r
  many : p.rules.length ≤ 512

theorem u64_0 : U64 0 := ⟨by decide, by decide⟩
theorem tksFit_tail {t : Tk} {L : List Tk} (h : TksFit (t :: L)) : TksFit L := fun x hx => h x (List.mem_cons_of_mem _ hx)
theorem tksFit_hd {L : List Tk} (h : TksFit L) : TkFit (hdT L) := by
  cases L with
  | nil => exact ⟨u64_0, fun h => absurd h (by decide)⟩
  | cons t L => exact h t (by simp)
theorem stepP_w {ep : EP} {L L' : List Tk} (h : stepP ep L = .ok L') (hg : TksFit L) : L'.length + 1 = L.length ∧ TksFit L' := by
  obtain ⟨t, rfl, _⟩ := stepP_ok h
  exact ⟨by simp, tksFit_tail hg⟩
/-- what is read is P, no larger than the tokens taken, and what is left is as it was -/
def Yields {α : Type} (P : α → Prop) (w : α → Nat) (f : List Tk → Rd α) : Prop := ∀ L x L', TksFit L → f L = .ok (x, L') → P x ∧ w x + L'.length ≤ L.length ∧ TksFit L'
def Yields1 {α : Type} (P : α → Prop) (f : List Tk → Rd α) : Prop := ∀ L x L', TksFit L → f L = .ok (x, L') → P x ∧ 1 + L'.length ≤ L.length ∧ TksFit L'
def Yields0 {α : Type} (P : α → Prop) (f : List Tk → Rd α) : Prop := ∀ L x L', TksFit L → f L = .ok (x, L') → P x ∧ L'.length ≤ L.length ∧ TksFit L'
theorem Yields1.y {α : Type} {P : α → Prop} {f : List Tk → Rd α} (h : Yields1 P f) : Yields P (fun _ => 1) f := h
theorem maybeP_w {ep : EP} {x : ByteArray} {L L' : List Tk} {b : Bool} (hg : TksFit L) (h : maybeP ep x L = .ok (b, L')) : L'.length + (if b = true then 1 else 0) ≤ L.length ∧ TksFit L' := by
  unfold maybeP at h
  split at h
  · obtain ⟨L1, h1, h2⟩ := bnd_inv h
    have := stepP_w h1 hg
    cases h2
    exact ⟨by simp; omega, this.2⟩
  · cases h
    exact ⟨by simp, hg⟩
theorem wantP_y (ep : EP) (x : ByteArray) : Yields1 (fun _ => True) (wantP ep x) := fun L u L' hg h => by
  unfold wantP at h
  split at h
  · obtain ⟨L1, h1, h2⟩ := bnd_inv h
    have := stepP_w h1 hg
    cases h2
    exact ⟨trivial, by omega, this.2⟩
  · cases h
theorem kindP_y (ep : EP) (k : Int) (hk : k ≠ 1) : Yields1 (fun t => TkFit t ∧ t.kind = k) (kindP ep k) := fun L u L' hg h => by
  unfold kindP at h
  split at h
  · rename_i hkd
    obtain ⟨L1, h1, h2⟩ := bnd_inv h
    have := stepP_w h1 hg
    cases h2
    exact ⟨⟨tksFit_hd hg, hkd⟩, by omega, this.2⟩
  · cases h
theorem words_ok : ∀ x ∈ wordsT, 1 ≤ x.2.1 ∧ x.2.1 ≤ 8 ∧ (x.2.2 = true ↔ (x.2.1 = 3 ∨ x.2.1 = 4 ∨ x.2.1 = 6)) := by decide
theorem verdictP_y (ep : EP) : Yields1 okV (verdictP ep) := fun L u L' hg h => by
  unfold verdictP at h
  split at h
  · split at h
    · rename_i k n hf
      have hw := words_ok _ (List.mem_of_find?_eq_some hf)
      obtain ⟨L1, h1, h2⟩ := bnd_inv h
      have hs := stepP_w h1 hg
      split at h2
      · obtain ⟨p, h3, h4⟩ := bnd_inv h2
        have := kindP_y ep 3 (by decide) _ _ _ hs.2 h3
        cases h4
        rename_i hn
        have hk := hw.2.2.1 hn
        exact ⟨⟨hw.1, hw.2.1, this.1.1.1, fun a b c => by simp only at a b c hk; omega⟩, by omega, this.2.2⟩
      · cases h2
        exact ⟨⟨hw.1, hw.2.1, u64_0, fun _ _ _ => rfl⟩, by omega, hs.2⟩
    · cases h
  · cases h
theorem callP_y (ep : EP) : Yields1 okC (callP ep) := fun L u L' hg h => by
  unfold callP at h
  split at h
  · obtain ⟨p, h3, h4⟩ := bnd_inv h
    have := kindP_y ep 3 (by decide) _ _ _ hg h3
    cases h4
    exact ⟨.inl ⟨rfl, this.1.1.1⟩, this.2⟩
  · obtain ⟨p, h3, h4⟩ := bnd_inv h
    have := kindP_y ep 2 (by decide) _ _ _ hg h3
    cases h4
    exact ⟨.inr ⟨rfl, this.1.1.2 this.1.2⟩, this.2⟩
theorem relF_range (t : Tk) : ∀ n, 0 ≤ relF t n ∧ relF t n ≤ n
  | 0 => by simp [relF]
  | n + 1 => by
    have := relF_range t n
    unfold relF
    split <;> omega
theorem maskP_y (ep : EP) : Yields0 U64 (maskP ep) := fun L u L' hg h => by
  have hmax : U64 18446744073709551615 := ⟨by decide, by decide⟩
  unfold maskP at h
  split at h
  · obtain ⟨p, h3, h4⟩ := bnd_inv h
    have hm := maybeP_w hg h3
    split at h4
    · obtain ⟨q, h5, h6⟩ := bnd_inv h4
      have := kindP_y ep 3 (by decide) _ _ _ hm.2 h5
      cases h6
      exact ⟨this.1.1.1, by omega, this.2.2⟩
    · cases h4
      exact ⟨hmax, by omega, hm.2⟩
  · cases h
    exact ⟨hmax, by omega, hg⟩
/-- an expression that needs no parentheses in an operation op, nested in so many at most -/
def atD (op : Int) (k : Nat) (x : Ex) : Prop := okE x ∧ dE x + (if aroundB op x.f0 = true then 1 else 0) ≤ k
theorem leaf_ok {op f m r v : Int} (h : nodeOk op 0 f m r v) : okE ⟨op, [], f, m, r, v⟩ := ⟨h, trivial⟩
theorem leaf_at {op f m r v : Int} (h : nodeOk op 0 f m r v) (h3 : op ≠ 3) (h4 : op ≠ 4) (h5 : op ≠ 5) (o : Int) (k : Nat) : atD o k ⟨op, [], f, m, r, v⟩ := by
  refine ⟨leaf_ok h, ?_⟩
  rw [dE, dL, if_neg h3, if_neg (by simp [aroundB, h4, h5])]
  omega
theorem testP_y (ep : EP) (f : Int) (hf : 0 ≤ f ∧ f ≤ 6) (o : Int) (k : Nat) : Yields (atD o k) wE (testP ep f) := fun L u L' hg h => by
  unfold testP at h
  obtain ⟨L1, h1, h2⟩ := bnd_inv h
  have hs := stepP_w h1 hg
  obtain ⟨p, h3, h4⟩ := bnd_inv h2
  have hm := maskP_y ep _ _ _ hs.2 h3
  split at h4
  · cases h4
  · rename_i hr
    obtain ⟨L3, h5, h6⟩ := bnd_inv h4
    have hs3 := stepP_w h5 hm.2.2
    obtain ⟨q, h7, h8⟩ := bnd_inv h6
    have hq := kindP_y ep 3 (by decide) _ _ _ hs3.2 h7
    cases h8
    have hrr := relF_range (hdT p.2) 6
    refine ⟨leaf_at ?_ (by decide) (by decide) (by decide) o k, ?_, hq.2.2⟩
    · exact ⟨by decide, by decide, by decide, by decide, fun _ => rfl, fun _ => ⟨hf.1, hf.2, by omega, by omega⟩, fun h => absurd rfl h, hm.1, hq.1.1.1⟩
    · rw [wE, wL]; omega
theorem node12 (op : Int) (h : op = 1 ∨ op = 2) : nodeOk op 0 0 0 0 0 := ⟨by omega, by omega, by omega, by omega, fun _ => rfl, by omega, fun _ => ⟨rfl, rfl, rfl, rfl⟩, u64_0, u64_0⟩
theorem atomP_y (ep : EP) (o : Int) (k : Nat) : Yields (atD o k) wE (atomP ep) := fun L u L' hg h => by
  unfold atomP at h
  split at h
  · obtain ⟨L1, h1, h2⟩ := bnd_inv h
    have hs := stepP_w h1 hg
    cases h2
    exact ⟨leaf_at (node12 1 (by decide)) (by decide) (by decide) (by decide) o k, by rw [wE, wL]; omega, hs.2⟩
  · split at h
    · obtain ⟨L1, h1, h2⟩ := bnd_inv h
      have hs := stepP_w h1 hg
      cases h2
      exact ⟨leaf_at (node12 2 (by decide)) (by decide) (by decide) (by decide) o k, by rw [wE, wL]; omega, hs.2⟩
    · split at h
      · rename_i i hi
        have hlt : i < 7 := (List.findIdx?_eq_some_iff_findIdx_eq.1 hi).1
        exact testP_y ep _ ⟨by omega, by omega⟩ o k _ _ _ hg h
      · cases h
def sumW {α : Type} (w : α → Nat) (l : List α) : Nat := (l.map w).sum
theorem sumW_snoc {α : Type} (w : α → Nat) (l : List α) (x : α) : sumW w (l ++ [x]) = sumW w l + w x := by simp [sumW]
theorem sumW_ones {α : Type} : ∀ l : List α, sumW (fun _ : α => 1) l = l.length
  | [] => rfl
  | x :: l => by have := sumW_ones l; simp only [sumW, List.map_cons, List.sum_cons, List.length_cons] at this ⊢; omega
theorem moreP_y {α : Type} {P : α → Prop} {w : α → Nat} (ep : EP) {one : List Tk → Rd α} (h1 : Yields P w one) (sep : ByteArray) : ∀ n l L x L', TksFit L → moreP ep one sep n l L = .ok (x, L') → (∀ y ∈ l, P y) →
    (∀ y ∈ x, P y) ∧ sumW w x + x.length + L'.length ≤ sumW w l + l.length + L.length ∧ l.length ≤ x.length ∧ TksFit L' := by
  intro n
  induction n with
  | zero => intro l L x L' hg h hP; cases h; exact ⟨hP, Nat.le_refl _, Nat.le_refl _, hg⟩
  | succ n ih =>
    intro l L x L' hg h hP
    unfold moreP at h
    obtain ⟨p, h2, h3⟩ := bnd_inv h
    have hm := maybeP_w hg h2
    split at h3
    · rename_i hb
      obtain ⟨q, h4, h5⟩ := bnd_inv h3
      have hq := h1 _ _ _ hm.2 h4
      have := ih _ _ _ _ hq.2.2 h5 (fun y hy => by
        rcases List.mem_append.1 hy with hy | hy
        · exact hP y hy
        · rw [List.mem_singleton.1 hy]; exact hq.1)
      rw [hb, if_pos rfl] at hm
      rw [sumW_snoc, List.length_append, List.length_singleton] at this
      exact ⟨this.1, by omega, by omega, this.2.2.2⟩
    · cases h3
      exact ⟨hP, by omega, Nat.le_refl _, hm.2⟩
theorem turnsP_y {α : Type} {P : α → Prop} {w : α → Nat} (ep : EP) {one : List Tk → Rd α} (h1 : Yields P w one) (sep : ByteArray) {L : List Tk} {x : List α} {L' : List Tk} (hg : TksFit L) (h : turnsP ep one sep L = .ok (x, L')) :
    (∀ y ∈ x, P y) ∧ sumW w x + x.length + L'.length ≤ L.length + 1 ∧ 1 ≤ x.length ∧ TksFit L' := by
  unfold turnsP at h
  obtain ⟨p, h2, h3⟩ := bnd_inv h
  have hp := h1 _ _ _ hg h2
  have := moreP_y ep h1 sep _ _ _ _ _ hp.2.2 h3 (fun y hy => by rw [List.mem_singleton.1 hy]; exact hp.1)
  have hs : sumW w [p.1] = w p.1 := by simp [sumW]
  rw [hs, List.length_singleton] at this
  exact ⟨this.1, by omega, this.2.2.1, this.2.2.2⟩
theorem dL_all (op : Int) (k : Nat) : ∀ l : List Ex, (∀ y ∈ l, atD op k y) → dL op l ≤ k
  | [], _ => by simp [dL]
  | x :: l, h => by
    have := dL_all op k l (fun y hy => h y (List.mem_cons_of_mem _ hy))
    have := (h x (by simp)).2
    rw [dL]
    omega
/-- one of op's, or several as one: it stands in an operation o without parentheses, if op's own do -/
theorem joinE_y {op o : Int} {k : Nat} {l : List Ex} (hop : op = 4 ∨ op = 5) (h : ∀ y ∈ l, atD op k y) (hl : 1 ≤ l.length) (ho : ∀ y, l = [y] → atD o k y) (ha : aroundB o op = false) : atD o k (joinE op l) ∧ (l.length = 1 ∨ wE (joinE op l) = sumW wE l + 1) ∧ (l.length = 1 → wE (joinE op l) = sumW wE l) := by
  match l, hl with
  | [y], _ => exact ⟨ho y rfl, .inl rfl, fun _ => by simp [joinE, sumW]⟩
  | y :: z :: l, _ =>
    refine ⟨⟨?_, ?_⟩, .inr ?_, fun h => by simp at h⟩
    · refine ⟨⟨by omega, by omega, by omega, fun _ => by simp, by omega, by omega, fun _ => ⟨rfl, rfl, rfl, rfl⟩, u64_0, u64_0⟩, ?_⟩
      exact (okL_all _).2 fun x hx => (h x hx).1
    · have := dL_all op k _ h
      show dE ⟨op, y :: z :: l, 0, 0, 0, 0⟩ + (if aroundB o op = true then 1 else 0) ≤ k
      rw [ha, dE, if_neg (by omega : ¬ op = 3)]
      simpa using this
    · show wE ⟨op, y :: z :: l, 0, 0, 0, 0⟩ = _
      rw [wE, wL_sum, sumW]
theorem at_weak {o o' : Int} {k : Nat} {x : Ex} (h : atD o k x) (ho : aroundB o' x.f0 = true → aroundB o x.f0 = true) : atD o' k x := by
  refine ⟨h.1, ?_⟩
  have := h.2
  by_cases h1 : aroundB o' x.f0 = true
  · rw [if_pos h1]; rw [if_pos (ho h1)] at this; exact this
  · rw [if_neg h1]; omega
theorem around_5 {o op : Int} (h : aroundB 5 op = true) : aroundB o op = true := by
  unfold aroundB at h ⊢
  simp at h
  simp [h]
theorem around_4 {o op : Int} (h : aroundB o op = true) : aroundB 4 op = true := by
  unfold aroundB at h ⊢
  simp at h ⊢
  omega
theorem allP_y (ep : EP) {k : Nat} {one : List Tk → Rd Ex} (h1 : Yields (atD 4 k) wE one) : Yields (atD 5 k) wE (allP ep one) := fun L u L' hg h => by
  unfold allP at h
  obtain ⟨p, h2, h3⟩ := bnd_inv h
  have ht := turnsP_y ep h1 sAnd hg h2
  cases h3
  have hj := joinE_y (o := 5) (.inl rfl) ht.1 ht.2.2.1 (fun y hy => at_weak (ht.1 y (by rw [hy]; simp)) around_4) (by decide)
  refine ⟨hj.1, ?_, ht.2.2.2⟩
  have := ht.2.1; have := ht.2.2.1
  show wE (joinE 4 p.1) + _ ≤ _
  rcases hj.2.1 with h | h
  · rw [hj.2.2 h]; omega
  · by_cases h1 : p.1.length = 1
    · rw [hj.2.2 h1]; omega
    · omega
/-- an expression: nested in so many at most -/
def exD (k : Nat) (x : Ex) : Prop := okE x ∧ dE x ≤ k
theorem exprP_y (ep : EP) {k : Nat} {one : List Tk → Rd Ex} (h1 : Yields (atD 4 k) wE one) : Yields (exD k) wE (exprP ep one) := fun L u L' hg h => by
  unfold exprP at h
  obtain ⟨p, h2, h3⟩ := bnd_inv h
  have ht := turnsP_y ep (allP_y ep h1) sOr hg h2
  cases h3
  have hno : ∀ y : Ex, okE y → aroundB 0 5 = true := fun _ _ => by decide
  refine ⟨?_, ?_, ht.2.2.2⟩
  · match hp : p.1, ht.2.2.1 with
    | [y], _ =>
      have := ht.1 y (by rw [hp]; simp)
      exact ⟨this.1, by have := this.2; show dE y ≤ k; omega⟩
    | y :: z :: l, _ =>
      rw [hp] at ht
      refine ⟨⟨⟨by decide, by decide, fun h => absurd h (by decide), fun _ => by simp, fun h => absurd h (by decide), by decide, fun _ => ⟨rfl, rfl, rfl, rfl⟩, u64_0, u64_0⟩, ?_⟩, ?_⟩
      · exact (okL_all _).2 fun x hx => (ht.1 x hx).1
      · have := dL_all 5 k _ ht.1
        show dE ⟨5, y :: z :: l, 0, 0, 0, 0⟩ ≤ k
        rw [dE, if_neg (by decide)]
        simpa using this
  · have := ht.2.1; have := ht.2.2.1
    show wE (joinE 5 p.1) + _ ≤ _
    match hp : p.1, ht.2.2.1 with
    | [y], _ =>
      rw [hp] at ht
      have := ht.2.1
      simp only [sumW, List.map_cons, List.map_nil, List.sum_cons, List.sum_nil, List.length_singleton] at this
      show wE y + _ ≤ _
      omega
    | y :: z :: l, _ =>
      rw [hp] at ht
      have := ht.2.1
      show wE ⟨5, y :: z :: l, 0, 0, 0, 0⟩ + _ ≤ _
      rw [wE, wL_sum]
      simp only [sumW, List.length_cons] at this
      omega
theorem oneP_y (ep : EP) : ∀ k, Yields (atD 4 k) wE (oneP ep k) := by
  intro k
  induction k with
  | zero =>
    intro L u L' hg h
    unfold oneP at h
    split at h
    · cases h
    · split at h
      · cases h
      · exact atomP_y ep 4 0 _ _ _ hg h
  | succ k ih =>
    intro L u L' hg h
    unfold oneP at h
    split at h
    · obtain ⟨L1, h1, h2⟩ := bnd_inv h
      have hs := stepP_w h1 hg
      obtain ⟨p, h3, h4⟩ := bnd_inv h2
      have hp := ih _ _ _ hs.2 h3
      cases h4
      refine ⟨⟨⟨⟨by decide, by decide, fun _ => rfl, fun h => absurd h (by decide), fun h => absurd h (by decide), by decide, fun _ => ⟨rfl, rfl, rfl, rfl⟩, u64_0, u64_0⟩, hp.1.1, trivial⟩, ?_⟩, ?_, hp.2.2⟩
      · have h5 := (at_weak (o' := 3) hp.1 around_4).2
        show dE ⟨3, [p.1], 0, 0, 0, 0⟩ + (if aroundB 4 3 = true then 1 else 0) ≤ _
        rw [if_neg (show ¬ aroundB 4 3 = true by decide), dE, dL, dL, if_pos (show (3 : Int) = 3 from rfl)]
        omega
      · rw [wE, wL, wL]; omega
    · split at h
      · obtain ⟨L1, h1, h2⟩ := bnd_inv h
        have hs := stepP_w h1 hg
        obtain ⟨p, h3, h4⟩ := bnd_inv h2
        have hp := exprP_y ep ih _ _ _ hs.2 h3
        obtain ⟨q, h5, h6⟩ := bnd_inv h4
        have hq := wantP_y ep _ _ _ _ hp.2.2 h5
        cases h6
        refine ⟨⟨hp.1.1, ?_⟩, by omega, hq.2.2⟩
        have := hp.1.2
        split <;> omega
      · exact atomP_y ep 4 _ _ _ _ hg h
theorem true_ok (k : Nat) : exD k ⟨1, [], 0, 0, 0, 0⟩ := ⟨leaf_ok (node12 1 (by decide)), by rw [dE, dL, if_neg (by decide)]; omega⟩
theorem ruleP_y (ep : EP) : Yields okR wR (ruleP ep) := fun L u L' hg h => by
  unfold ruleP at h
  obtain ⟨p, h1, h⟩ := bnd_inv h
  have hp := turnsP_y ep (callP_y ep).y sComma hg h1
  obtain ⟨m, h2, h⟩ := bnd_inv h
  have hm := maybeP_w hp.2.2.2 h2
  obtain ⟨x, h3, h⟩ := bnd_inv h
  have hx : exD 64 x.1 ∧ wE x.1 + x.2.length ≤ p.2.length + 1 ∧ TksFit x.2 := by
    split at h3
    · have := exprP_y ep (oneP_y ep 64) _ _ _ hm.2 h3
      exact ⟨this.1, by omega, this.2.2⟩
    · cases h3
      exact ⟨true_ok 64, by show wE ⟨1, [], 0, 0, 0, 0⟩ + m.2.length ≤ _; rw [wE, wL]; omega, hm.2⟩
  obtain ⟨d, h4, h⟩ := bnd_inv h
  have hd := wantP_y ep _ _ _ _ hx.2.2 h4
  obtain ⟨v, h5, h⟩ := bnd_inv h
  have hv := verdictP_y ep _ _ _ hd.2.2 h5
  obtain ⟨z, h6, h⟩ := bnd_inv h
  have hz := wantP_y ep _ _ _ _ hv.2.2 h6
  cases h
  have hl : sumW (fun _ : Cl => 1) p.1 = p.1.length := sumW_ones p.1
  refine ⟨⟨fun e => by have := hp.2.2.1; simp only at e; rw [e] at this; simp at this, hp.1, hx.1.1, hx.1.2, hv.1⟩, ?_, hz.2.2⟩
  have := hp.2.1; have := hp.2.2.1; have := hx.2.1; have := hd.2.1; have := hv.2.1; have := hz.2.1
  show p.1.length + wE x.1 + 1 + z.2.length ≤ _
  omega
theorem rulesP_y (ep : EP) : ∀ n l L x L', TksFit L → rulesP ep n l L = .ok (x, L') → (∀ y ∈ l, okR y) → l.length ≤ 512 → (∀ y ∈ x, okR y) ∧ sumW wR x + L'.length ≤ sumW wR l + L.length ∧ x.length ≤ 512 ∧ TksFit L' := by
  intro n
  induction n with
  | zero => intro l L x L' hg h hP hl; cases h; exact ⟨hP, Nat.le_refl _, hl, hg⟩
  | succ n ih =>
    intro l L x L' hg h hP hl
    unfold rulesP at h
    split at h
    · split at h
      · cases h
      · rename_i h512
        obtain ⟨L1, h1, h⟩ := bnd_inv h
        have hs := stepP_w h1 hg
        obtain ⟨p, h2, h⟩ := bnd_inv h
        have hp := ruleP_y ep _ _ _ hs.2 h2
        have := ih _ _ _ _ hp.2.2 h (fun y hy => by
          rcases List.mem_append.1 hy with hy | hy
          · exact hP y hy
          · rw [List.mem_singleton.1 hy]; exact hp.1) (by rw [List.length_append, List.length_singleton]; omega)
        rw [sumW_snoc] at this
        exact ⟨this.1, by omega, this.2.2⟩
    · cases h
      exact ⟨hP, Nat.le_refl _, hl, hg⟩
def wP (p : Po) : Nat := sumW wR p.rules
theorem policyP_y (ep : EP) : Yields okP wP (policyP ep) := fun L u L' hg h => by
  unfold policyP at h
  obtain ⟨p1, e1, h⟩ := bnd_inv h
  have g1 := wantP_y ep _ _ _ _ hg e1
  obtain ⟨a, e2, h⟩ := bnd_inv h
  have g2 := kindP_y ep 2 (by decide) _ _ _ g1.2.2 e2
  obtain ⟨p3, e3, h⟩ := bnd_inv h
  have g3 := wantP_y ep _ _ _ _ g2.2.2 e3
  obtain ⟨p4, e4, h⟩ := bnd_inv h
  have g4 := wantP_y ep _ _ _ _ g3.2.2 e4
  obtain ⟨f, e5, h⟩ := bnd_inv h
  have g5 := verdictP_y ep _ _ _ g4.2.2 e5
  obtain ⟨p6, e6, h⟩ := bnd_inv h
  have g6 := wantP_y ep _ _ _ _ g5.2.2 e6
  obtain ⟨p7, e7, h⟩ := bnd_inv h
  have g7 := wantP_y ep _ _ _ _ g6.2.2 e7
  obtain ⟨d, e8, h⟩ := bnd_inv h
  have g8 := verdictP_y ep _ _ _ g7.2.2 e8
  obtain ⟨p9, e9, h⟩ := bnd_inv h
  have g9 := wantP_y ep _ _ _ _ g8.2.2 e9
  obtain ⟨r, e10, h⟩ := bnd_inv h
  have g10 := rulesP_y ep _ _ _ _ _ g9.2.2 e10 (fun y hy => by simp at hy) (by simp)
  cases h
  refine ⟨⟨g2.1.1.2 g2.1.2, g5.1, g8.1, g10.1, g10.2.2.1⟩, ?_, g10.2.2.2⟩
  have := g1.2.1; have := g2.2.1; have := g3.2.1; have := g4.2.1; have := g5.2.1; have := g6.2.1; have := g7.2.1; have := g8.2.1; have := g9.2.1; have := g10.2.1
  simp only [sumW, List.map_nil, List.sum_nil] at this
  show sumW wR r.1 + _ ≤ _
  simp only [sumW]
  omega
end Go.Proofs.YtlmopoipjolbgaaGreatDoor.LexW
namespace Go.Proofs.YtlmopoipjolbgaaGreatDoor.LexW
open Go.RowKit Go.Shelf Go.Proofs.YtlmopoipjolbgaaGreatDoor.LexS Go.Proofs.YtlmopoipjolbgaaGreatDoorW.PrintWords
set_option linter.unusedVariables false
set_option linter.unusedSimpArgs false

theorem fieldsT_size : ∀ i, i < 7 → (fieldsT.getD i nil0).size ≤ 4 := by decide
theorem relsT_size : ∀ i, i < 6 → (relsT.getD i nil0).size ≤ 2 := by decide
theorem among_eq (l : List ByteArray) (i : Int) (h0 : 0 ≤ i) (h1 : i < l.length) : amongT l i = l.getD i.toNat nil0 := by
  unfold amongT
  rw [if_neg (by omega)]
theorem hexN_len : ∀ k n, (hexN k n).length ≤ k
  | 0, _ => by simp [hexN]
  | k + 1, n => by
    unfold hexN
    split
    · simp
    · have := hexN_len k (n / 16); simp; omega
theorem hexT_size (v : Int) : (hexT v).size ≤ 16 := by
  have : (hexT v).size = (hexN 16 v.toNat).length := by simp [hexT, ByteArray.size]
  rw [this]
  exact hexN_len 16 _
theorem numB_size (v : Int) (hu : U64 v) : (numB v).size ≤ 20 := by
  have hs : (numB v).size = (Lib.decDigits v.toNat).length := by simp [numB, ByteArray.size]
  rw [hs, Lib.decDigits_length]
  have h0 := hu.1; have h1 := hu.2
  rcases Nat.eq_zero_or_pos v.toNat with h | h
  · rw [h, Lib.nDigits_small (by omega)]; omega
  · have := Lib.numDigits_eq v.toNat h (by omega)
    split at this <;> omega
theorem testT_size {f m r v : Int} (hf : 0 ≤ f ∧ f ≤ 6 ∧ 1 ≤ r ∧ r ≤ 6) (hv : U64 v) : (testT f m r v).size ≤ 56 := by
  have h1 := fieldsT_size f.toNat (by omega)
  have h2 := relsT_size (r - 1).toNat (by omega)
  have h3 := hexT_size m
  have h4 := numB_size v hv
  have a1 := among_eq fieldsT f (by omega) (by show f < 7; omega)
  have a2 := among_eq relsT (r - 1) (by omega) (by show r - 1 < 6; omega)
  rw [← a1] at h1
  rw [← a2] at h2
  unfold testT
  split
  · simp only [ByteArray.size_append]
    have : sSp.size = 1 := rfl
    omega
  · simp only [ByteArray.size_append]
    have : sSp.size = 1 := rfl
    have : sMask.size = 5 := rfl
    omega
theorem sumT_cons (a : ByteArray) (l : List ByteArray) : sumT (a :: l) = a.size + sumT l := by simp [sumT]
theorem parT_size (b : Bool) (s : ByteArray) : (parT b s).size ≤ s.size + 2 := by
  unfold parT
  split
  · simp only [ByteArray.size_append]
    have : sOpen.size = 1 := rfl
    have : sShut.size = 1 := rfl
    omega
  · omega
theorem prL_len (op : Int) (l : List Ex) : (prL op l).length = l.length := by rw [prL_map, List.length_map]
theorem nodeT_size {op : Int} {l : List ByteArray} {n : Nat} {f m r v : Int} (h : nodeOk op n f m r v) (hl : l.length = n) {K : Nat} (hs : sumT l + 6 * l.length ≤ 64 * K) : (nodeT op l f m r v).size + 8 ≤ 64 * (K + 1) := by
  obtain ⟨h1, h6, h3, h45, h126, ht, hz, hm, hv⟩ := h
  unfold nodeT
  split
  · show 4 + 8 ≤ _; omega
  · split
    · show 5 + 8 ≤ _; omega
    · split
      · have := joinT_size sSp l
        have e : sSp.size = 1 := rfl
        rw [e] at this
        have e2 : sNotS.size = 4 := rfl
        rename_i h
        have := h3 h
        rw [ByteArray.size_append, e2]; omega
      · split
        · have := joinT_size sAndS l
          have e : sAndS.size = 5 := rfl
          rw [e] at this
          rename_i h
          have := h45 (.inl h)
          omega
        · split
          · have := joinT_size sOrS l
            have e : sOrS.size = 4 := rfl
            rw [e] at this
            rename_i h
            have := h45 (.inr h)
            omega
          · have := testT_size (m := m) (ht (by omega)) hv
            omega
mutual
theorem prE_size : ∀ x : Ex, okE x → (prE x).size + 8 ≤ 64 * wE x
  | ⟨op, l, f, m, r, v⟩, h => by
    rw [prE, wE]
    exact nodeT_size h.1 (prL_len op l) (prL_size op l h.2)
theorem prL_size (op : Int) : ∀ l : List Ex, okL l → sumT (prL op l) + 6 * (prL op l).length ≤ 64 * wL l
  | [], _ => by simp [prL, sumT, wL]
  | x :: l, h => by
    have h1 := prE_size x h.1
    have h2 := prL_size op l h.2
    have h3 := parT_size (aroundB op x.f0) (prE x)
    rw [prL, wL, sumT_cons, List.length_cons]
    omega
end
end Go.Proofs.YtlmopoipjolbgaaGreatDoor.LexW
