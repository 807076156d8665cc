/-
  Layer 6 (policy): what is wrong has a number.
-/
import Derived.Test.YtlmopoipjolbgaaDoorPolSpec
namespace Go.Proofs.YtlmopoipjolbgaaDoor.LexW
open Go.RowKit Go.Shelf Go.Proofs.YtlmopoipjolbgaaDoor.LexS Go.Proofs.YtlmopoipjolbgaaDoorW.PrintWords
set_option linter.unusedVariables false
set_option linter.unusedSimpArgs false

/-- tokens that are left: one at least; without an error the last is the end -/
def Fine (ep : EP) (L : List Tk) : Prop := ∃ t r, L = t :: r ∧ (ep.1 = 0 → ∃ x, (t :: r).getLast? = some x ∧ x.kind = 1 ∧ ∀ y ∈ (t :: r).dropLast, y.kind ≠ 1)
/-- a reader that fails with a number, and leaves fine tokens -/
def NZ {α : Type} (ep : EP) (f : List Tk → Rd α) : Prop := ∀ L, Fine ep L → (∀ p, f L = .error p → p.1 ≠ 0) ∧ ∀ x L', f L = .ok (x, L') → Fine ep L'
theorem step_fine {ep : EP} {L : List Tk} (h : Fine ep L) (hk : (hdT L).kind ≠ 1) : (∀ p, stepP ep L = .error p → p.1 ≠ 0) ∧ ∀ L', stepP ep L = .ok L' → Fine ep L' := by
  obtain ⟨t, r, rfl, hl⟩ := h
  cases r with
  | nil =>
    refine ⟨fun p hp => ?_, fun L' hp => (by cases hp)⟩
    have : ep = p := by injection hp
    subst this
    intro h0
    obtain ⟨x, hx, hx1, _⟩ := hl h0
    have : t = x := by simpa using hx
    subst this
    exact hk hx1
  | cons t2 r =>
    refine ⟨fun p hp => (by cases hp), fun L' hp => ?_⟩
    have : t2 :: r = L' := by injection hp
    subst this
    refine ⟨t2, r, rfl, fun h0 => ?_⟩
    obtain ⟨x, hx, hx1, hx2⟩ := hl h0
    refine ⟨x, by simpa using hx, hx1, fun y hy => hx2 y ?_⟩
    simp only [List.dropLast_cons_cons]
    exact List.mem_cons_of_mem _ hy
theorem isT_kind' {x : ByteArray} {t : Tk} (h : isT x t = true) : t.kind ≠ 1 := by
  unfold isT at h
  simp only [Bool.and_eq_true, bne_iff_ne] at h
  exact h.2
theorem bnd_err' {α β : Type} {x : Except EP α} {f : α → Except EP β} {p : EP} (h : bnd x f = .error p) : x = .error p ∨ ∃ a, x = .ok a ∧ f a = .error p := by
  cases x with
  | ok a => exact .inr ⟨a, rfl, h⟩
  | error e => exact .inl (by injection h with h; rw [h])
theorem NZ.bind {α β : Type} {ep : EP} {f : List Tk → Rd α} {k : α → List Tk → Rd β} (hf : NZ ep f) (hk : ∀ a, NZ ep (k a)) : NZ ep (fun L => bnd (f L) (fun p => k p.1 p.2)) := fun L hL => by
  refine ⟨fun p hp => ?_, fun x L' hp => ?_⟩
  · rcases bnd_err' hp with h | ⟨a, h1, h2⟩
    · exact (hf L hL).1 p h
    · exact (hk a.1 a.2 ((hf L hL).2 a.1 a.2 h1)).1 p h2
  · obtain ⟨a, h1, h2⟩ := bnd_inv hp
    exact (hk a.1 a.2 ((hf L hL).2 a.1 a.2 h1)).2 x L' h2
/-- of one answer -/
abbrev NZr {α : Type} (ep : EP) (r : Rd α) : Prop := (∀ p, r = .error p → p.1 ≠ 0) ∧ ∀ x L', r = .ok (x, L') → Fine ep L'
theorem nz_bnd {α β : Type} {ep : EP} {r : Rd α} {f : α × List Tk → Rd β} (h : NZr ep r) (hf : ∀ a L, Fine ep L → NZr ep (f (a, L))) : NZr ep (bnd r f) := by
  refine ⟨fun p hp => ?_, fun x L' hp => ?_⟩
  · rcases bnd_err' hp with h1 | ⟨a, h1, h2⟩
    · exact h.1 p h1
    · exact (hf a.1 a.2 (h.2 a.1 a.2 h1)).1 p h2
  · obtain ⟨a, h1, h2⟩ := bnd_inv hp
    exact (hf a.1 a.2 (h.2 a.1 a.2 h1)).2 x L' h2
theorem nz_ok {α : Type} {ep : EP} (a : α) {L : List Tk} (hL : Fine ep L) : NZr ep (.ok (a, L)) := ⟨fun p hp => (by cases hp), fun x L' hp => (by cases hp; exact hL)⟩
theorem NZ.pure {α : Type} (ep : EP) (a : α) : NZ ep (fun L => .ok (a, L)) := fun L hL => ⟨fun p hp => (by cases hp), fun x L' hp => (by cases hp; exact hL)⟩
theorem maybe_nz (ep : EP) (x : ByteArray) : NZ ep (maybeP ep x) := fun L hL => by
  unfold maybeP
  by_cases h : isT x (hdT L) = true
  · rw [if_pos h]
    have hs := step_fine hL (isT_kind' h)
    refine ⟨fun p hp => ?_, fun b L' hp => ?_⟩
    · rcases bnd_err' hp with h1 | ⟨a, _, h2⟩
      · exact hs.1 p h1
      · cases h2
    · obtain ⟨a, h1, h2⟩ := bnd_inv hp
      cases h2
      exact hs.2 _ h1
  · rw [if_neg h]
    exact NZ.pure ep false L hL
theorem want_nz (ep : EP) (x : ByteArray) : NZ ep (wantP ep x) := fun L hL => by
  unfold wantP
  by_cases h : isT x (hdT L) = true
  · rw [if_pos h]
    have hs := step_fine hL (isT_kind' h)
    refine ⟨fun p hp => ?_, fun b L' hp => ?_⟩
    · rcases bnd_err' hp with h1 | ⟨a, _, h2⟩
      · exact hs.1 p h1
      · cases h2
    · obtain ⟨a, h1, h2⟩ := bnd_inv hp
      cases h2
      exact hs.2 _ h1
  · rw [if_neg h]
    exact ⟨fun p hp => (by cases hp; show (61 : Int) ≠ 0; decide), fun b L' hp => (by cases hp)⟩
theorem kind_nz (ep : EP) (k : Int) : NZ ep (kindP ep k) := fun L hL => by
  unfold kindP
  by_cases h : (hdT L).kind = k
  · rw [if_pos h]
    by_cases h1 : k = 1
    · rw [if_pos h1]; exact NZ.pure ep _ L hL
    · rw [if_neg h1]
      have hs := step_fine hL (by rw [h]; exact h1)
      refine ⟨fun p hp => ?_, fun b L' hp => ?_⟩
      · rcases bnd_err' hp with h1 | ⟨a, _, h2⟩
        · exact hs.1 p h1
        · cases h2
      · obtain ⟨a, h1, h2⟩ := bnd_inv hp
        cases h2
        exact hs.2 _ h1
  · rw [if_neg h]
    exact ⟨fun p hp => (by cases hp; show (61 : Int) ≠ 0; decide), fun b L' hp => (by cases hp)⟩

theorem bad_nz {α : Type} {ep : EP} {c : Int} (hc : c ≠ 0) : NZ (α := α) ep (fun L => .error (badP c L)) := fun L hL => ⟨fun p hp => (by cases hp; exact hc), fun b L' hp => (by cases hp)⟩
/-- a step, and on -/
theorem stepk_nz {α : Type} {ep : EP} {k : List Tk → Rd α} (hk : NZ ep k) {L : List Tk} (hL : Fine ep L) (h1 : (hdT L).kind ≠ 1) : (∀ p, bnd (stepP ep L) k = .error p → p.1 ≠ 0) ∧ ∀ x L', bnd (stepP ep L) k = .ok (x, L') → Fine ep L' := by
  have hs := step_fine hL h1
  refine ⟨fun p hp => ?_, fun x L' hp => ?_⟩
  · rcases bnd_err' hp with h | ⟨a, h2, h3⟩
    · exact hs.1 p h
    · exact (hk a (hs.2 a h2)).1 p h3
  · obtain ⟨a, h2, h3⟩ := bnd_inv hp
    exact (hk a (hs.2 a h2)).2 x L' h3
theorem verdict_nz (ep : EP) : NZ ep (verdictP ep) := fun L hL => by
  unfold verdictP
  by_cases h : (hdT L).kind = 2
  · rw [if_pos h]
    cases hw : wordsT.find? (fun x => decide ((hdT L).text = x.1)) with
    | none => exact bad_nz (by decide) L hL
    | some y =>
      obtain ⟨a, k, n⟩ := y
      refine stepk_nz (fun L1 hL1 => ?_) hL (by omega)
      by_cases hn : n = true
      · rw [if_pos hn]; exact NZ.bind (kind_nz ep 3) (fun t => NZ.pure ep (⟨k, t.num⟩ : Vd)) L1 hL1
      · rw [if_neg hn]; exact NZ.pure ep _ L1 hL1
  · rw [if_neg h]; exact bad_nz (by decide) L hL
theorem call_nz (ep : EP) : NZ ep (callP ep) := fun L hL => by
  unfold callP
  by_cases h : (hdT L).kind = 3
  · rw [if_pos h]; exact NZ.bind (kind_nz ep 3) (fun t => NZ.pure ep (⟨nil0, t.num⟩ : Cl)) L hL
  · rw [if_neg h]; exact NZ.bind (kind_nz ep 2) (fun t => NZ.pure ep (⟨t.text, 0⟩ : Cl)) L hL
theorem mask_nz (ep : EP) : NZ ep (maskP ep) := fun L hL => by
  unfold maskP
  by_cases h : (hdT L).kind = 4
  · rw [if_pos h]
    refine nz_bnd (maybe_nz ep sAmp L hL) (fun b L1 hL1 => ?_)
    by_cases hb : b = true
    · rw [if_pos hb]; exact nz_bnd (kind_nz ep 3 L1 hL1) (fun t L2 hL2 => nz_ok _ hL2)
    · rw [if_neg hb]; exact nz_ok _ hL1
  · rw [if_neg h]; exact nz_ok _ hL
theorem relF_kind' (t : Tk) : ∀ n, relF t n ≠ 0 → t.kind ≠ 1
  | 0, h => absurd rfl h
  | n + 1, h => by
    unfold relF at h
    split at h
    · rename_i hi; exact isT_kind' hi
    · exact relF_kind' t n h
theorem test_nz (ep : EP) (f : Int) {L : List Tk} (hL : Fine ep L) (h1 : (hdT L).kind ≠ 1) : (∀ p, testP ep f L = .error p → p.1 ≠ 0) ∧ ∀ x L', testP ep f L = .ok (x, L') → Fine ep L' := by
  unfold testP
  refine stepk_nz (fun L1 hL1 => ?_) hL h1
  refine nz_bnd (mask_nz ep L1 hL1) (fun m L2 hL2 => ?_)
  by_cases hr : relF (hdT L2) 6 = 0
  · rw [if_pos hr]; exact bad_nz (by decide) L2 hL2
  · rw [if_neg hr]
    refine stepk_nz (fun L3 hL3 => ?_) hL2 (relF_kind' _ 6 hr)
    exact NZ.bind (kind_nz ep 3) (fun t => NZ.pure ep (⟨6, [], f, m, relF (hdT L2) 6, t.num⟩ : Ex)) L3 hL3
theorem fidx_kind {t : Tk} {i : Nat} (h : fieldsT.findIdx? (fun x => isT x t) = some i) : t.kind ≠ 1 := by
  rw [List.findIdx?_eq_some_iff_getElem] at h
  exact isT_kind' h.2.1
theorem atom_nz (ep : EP) : NZ ep (atomP ep) := fun L hL => by
  unfold atomP
  by_cases h1 : isT sTrue (hdT L) = true
  · rw [if_pos h1]; exact stepk_nz (NZ.pure ep _) hL (isT_kind' h1)
  · rw [if_neg h1]
    by_cases h2 : isT sFalse (hdT L) = true
    · rw [if_pos h2]; exact stepk_nz (NZ.pure ep _) hL (isT_kind' h2)
    · rw [if_neg h2]
      cases hf : fieldsT.findIdx? (fun x => isT x (hdT L)) with
      | none => exact bad_nz (by decide) L hL
      | some i => exact test_nz ep i hL (fidx_kind hf)
theorem more_nz {α : Type} (ep : EP) {one : List Tk → Rd α} (h1 : NZ ep one) (sep : ByteArray) : ∀ n l, NZ ep (moreP ep one sep n l)
  | 0, l => NZ.pure ep l
  | n + 1, l => fun L hL => by
    unfold moreP
    refine nz_bnd (maybe_nz ep sep L hL) (fun b L1 hL1 => ?_)
    by_cases hb : b = true
    · rw [if_pos hb]; exact nz_bnd (h1 L1 hL1) (fun x L2 hL2 => more_nz ep h1 sep n (l ++ [x]) L2 hL2)
    · rw [if_neg hb]; exact nz_ok l hL1
theorem turns_nz {α : Type} (ep : EP) {one : List Tk → Rd α} (h1 : NZ ep one) (sep : ByteArray) : NZ ep (turnsP ep one sep) := fun L hL => by
  unfold turnsP
  exact nz_bnd (h1 L hL) (fun x L1 hL1 => more_nz ep h1 sep (L1.length + 1) [x] L1 hL1)
theorem all_nz (ep : EP) {one : List Tk → Rd Ex} (h1 : NZ ep one) : NZ ep (allP ep one) := NZ.bind (turns_nz ep h1 sAnd) (fun l => NZ.pure ep (joinE 4 l))
theorem expr_nz (ep : EP) {one : List Tk → Rd Ex} (h1 : NZ ep one) : NZ ep (exprP ep one) := NZ.bind (turns_nz ep (all_nz ep h1) sOr) (fun l => NZ.pure ep (joinE 5 l))
theorem one_nz (ep : EP) : ∀ k, NZ ep (oneP ep k)
  | 0 => fun L hL => by
    unfold oneP
    by_cases h1 : isT sNot (hdT L) = true
    · rw [if_pos h1]; exact bad_nz (by decide) L hL
    · rw [if_neg h1]
      by_cases h2 : isT sOpen (hdT L) = true
      · rw [if_pos h2]; exact bad_nz (by decide) L hL
      · rw [if_neg h2]; exact atom_nz ep L hL
  | k + 1 => fun L hL => by
    unfold oneP
    by_cases h1 : isT sNot (hdT L) = true
    · rw [if_pos h1]
      exact stepk_nz (NZ.bind (one_nz ep k) (fun x => NZ.pure ep (⟨3, [x], 0, 0, 0, 0⟩ : Ex))) hL (isT_kind' h1)
    · rw [if_neg h1]
      by_cases h2 : isT sOpen (hdT L) = true
      · rw [if_pos h2]
        exact stepk_nz (NZ.bind (expr_nz ep (one_nz ep k)) (fun x => NZ.bind (want_nz ep sShut) (fun _ => NZ.pure ep x))) hL (isT_kind' h2)
      · rw [if_neg h2]; exact atom_nz ep L hL
theorem rule_nz (ep : EP) : NZ ep (ruleP ep) := fun L hL => by
  unfold ruleP
  refine nz_bnd (turns_nz ep (call_nz ep) sComma L hL) (fun a L1 h1 => nz_bnd (maybe_nz ep sWhen L1 h1) (fun m L2 h2 => nz_bnd ?_ (fun x L3 h3 => nz_bnd (want_nz ep sDo L3 h3) (fun _ L4 h4 => nz_bnd (verdict_nz ep L4 h4) (fun v L5 h5 => nz_bnd (want_nz ep sSemi L5 h5) (fun _ L6 h6 => nz_ok _ h6))))))
  by_cases hm : m = true
  · rw [if_pos hm]; exact expr_nz ep (one_nz ep 64) L2 h2
  · rw [if_neg hm]; exact nz_ok _ h2
theorem rules_nz (ep : EP) : ∀ n l, NZ ep (rulesP ep n l)
  | 0, l => NZ.pure ep l
  | n + 1, l => fun L hL => by
    unfold rulesP
    by_cases h : isT sOn (hdT L) = true
    · rw [if_pos h]
      by_cases h2 : l.length = 512
      · rw [if_pos h2]; exact bad_nz (by decide) L hL
      · rw [if_neg h2]; exact stepk_nz (fun L1 hL1 => nz_bnd (rule_nz ep L1 hL1) (fun x L2 hL2 => rules_nz ep n (l ++ [x]) L2 hL2)) hL (isT_kind' h)
    · rw [if_neg h]; exact nz_ok l hL
theorem policy_nz (ep : EP) : NZ ep (policyP ep) := fun L hL => by
  unfold policyP
  exact nz_bnd (want_nz ep _ _ hL) (fun _ _ h => nz_bnd (kind_nz ep _ _ h) (fun _ _ h => nz_bnd (want_nz ep _ _ h) (fun _ _ h => nz_bnd (want_nz ep _ _ h) (fun _ _ h => nz_bnd (verdict_nz ep _ h) (fun _ _ h => nz_bnd (want_nz ep _ _ h) (fun _ _ h =>
    nz_bnd (want_nz ep _ _ h) (fun _ _ h => nz_bnd (verdict_nz ep _ h) (fun _ _ h => nz_bnd (want_nz ep _ _ h) (fun _ _ h => nz_bnd (rules_nz ep _ _ _ h) (fun _ _ h => nz_ok _ h))))))))))
/-- of a whole text, given that its tokens are fine -/
theorem whole_nz {α : Type} {f : EP → List Tk → Rd α} {s : ByteArray} (hf : ∀ ep, NZ ep (f ep)) (h0 : (toks s).1 = [] → (toks s).2.1 ≠ 0) (h1 : (toks s).1 ≠ [] → Fine (toks s).2 (toks s).1) : ∀ p, wholeP f s = .error p → p.1 ≠ 0 := by
  intro p hp
  unfold wholeP at hp
  cases hL : (toks s).1 with
  | nil => rw [hL] at hp; cases hp; exact h0 hL
  | cons t r =>
    have hF := h1 (by rw [hL]; simp)
    rw [hL] at hp hF
    rcases bnd_err' hp with h2 | ⟨a, h2, h3⟩
    · exact (hf _ _ hF).1 p h2
    · rcases bnd_err' h3 with h4 | ⟨b, _, h5⟩
      · exact (kind_nz _ 1 a.2 ((hf _ _ hF).2 a.1 a.2 h2)).1 p h4
      · cases h5
theorem fine_cons {ep : EP} {t : Tk} {L : List Tk} (ht : t.kind ≠ 1) (h0 : L = [] → ep.1 ≠ 0) (h1 : L ≠ [] → Fine ep L) : Fine ep (t :: L) := by
  refine ⟨t, L, rfl, fun he => ?_⟩
  cases L with
  | nil => exact absurd he (h0 rfl)
  | cons t2 r =>
    obtain ⟨u, v, huv, hl⟩ := h1 (by simp)
    cases huv
    obtain ⟨x, hx, hx1, hx2⟩ := hl he
    refine ⟨x, by simpa using hx, hx1, fun y hy => ?_⟩
    simp only [List.dropLast_cons_cons, List.mem_cons] at hy
    rcases hy with rfl | hy
    · exact ht
    · exact hx2 y hy
/-- the tokens of a text are fine -/
theorem toksF_fine (s : ByteArray) : ∀ (f k : Nat), s.size + 1 ≤ f + k → ((toksF (f + 1) s k).1 = [] → (toksF (f + 1) s k).2.1 ≠ 0) ∧ ((toksF (f + 1) s k).1 ≠ [] → Fine (toksF (f + 1) s k).2 (toksF (f + 1) s k).1) := by
  intro f
  induction f with
  | zero =>
    intro k hk
    have he : errOf (nextV s k) ≠ 0 := by
      intro he
      obtain ⟨_, h2, _⟩ := next_ok s k he
      omega
    rw [toks_err he]
    exact ⟨fun _ => he, fun h => absurd rfl h⟩
  | succ f ih =>
    intro k hk
    by_cases he : errOf (nextV s k) = 0
    · obtain ⟨_, _, ⟨hend, _⟩ | ⟨p, q, _, hkp, hpq, hq, h1, _, _, hpl⟩⟩ := next_ok s k he
      · rw [toks_end he (by rw [hend])]
        refine ⟨fun h => (by cases h), fun _ => ⟨_, _, rfl, fun _ => ⟨_, rfl, ?_, fun y hy => (by simp at hy)⟩⟩⟩
        rw [hend]; rfl
      · rw [toks_more he h1 hpl]
        have hq2 := ih q (by omega)
        exact ⟨fun h => (by cases h), fun _ => fine_cons (t := tokOf (nextV s k)) h1 hq2.1 hq2.2⟩
    · rw [toks_err he]
      exact ⟨fun _ => he, fun h => absurd rfl h⟩
theorem wholeP_nz {α : Type} {f : EP → List Tk → Rd α} (hf : ∀ ep, NZ ep (f ep)) (s : ByteArray) : ∀ p, wholeP f s = .error p → p.1 ≠ 0 := by
  have h := toksF_fine s (s.size + 1) 0 (by omega)
  exact whole_nz hf h.1 h.2
end Go.Proofs.YtlmopoipjolbgaaDoor.LexW
