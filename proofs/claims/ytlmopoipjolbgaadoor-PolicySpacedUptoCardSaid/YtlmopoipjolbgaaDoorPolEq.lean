/-
  Layer 6 (policy), plain: what is read does not hang on where the tokens stand.
-/
import Derived.Test.YtlmopoipjolbgaaDoorPolSpec
import Derived.Test.YtlmopoipjolbgaaDoorLexAgain
namespace Go.Proofs.YtlmopoipjolbgaaDoor.LexW
open Go.RowKit Go.Shelf Go.Proofs.YtlmopoipjolbgaaDoor.LexS Go.Proofs.YtlmopoipjolbgaaDoorW.PrintWords
set_option linter.unusedVariables false
set_option linter.unusedSimpArgs false

/-- the same tokens, wherever they stand -/
def Alike (L L' : List Tk) : Prop := L.map strip = L'.map strip
theorem Alike.len {L L' : List Tk} (h : Alike L L') : L.length = L'.length := by have := congrArg List.length h; simpa using this
theorem Alike.hd {L L' : List Tk} (h : Alike L L') : strip (hdT L) = strip (hdT L') := by
  unfold Alike at h
  cases L with
  | nil => cases L' with
    | nil => rfl
    | cons _ _ => simp at h
  | cons a L => cases L' with
    | nil => simp at h
    | cons b L' => simp only [List.map_cons, List.cons.injEq] at h; exact h.1
theorem Alike.kind {L L' : List Tk} (h : Alike L L') : (hdT L).kind = (hdT L').kind := congrArg (fun x => x.1) h.hd
theorem Alike.text {L L' : List Tk} (h : Alike L L') : (hdT L).text = (hdT L').text := congrArg (fun x => x.2.1) h.hd
theorem Alike.num {L L' : List Tk} (h : Alike L L') : (hdT L).num = (hdT L').num := congrArg (fun x => x.2.2) h.hd
theorem strip_isT {x : ByteArray} {t t' : Tk} (h : strip t = strip t') : isT x t = isT x t' := by
  have h1 : t.kind = t'.kind := congrArg (fun x => x.1) h
  have h2 : t.text = t'.text := congrArg (fun x => x.2.1) h
  unfold isT; rw [h1, h2]
theorem Alike.is {L L' : List Tk} (h : Alike L L') (x : ByteArray) : isT x (hdT L) = isT x (hdT L') := strip_isT h.hd

/-- the same answer, but for places -/
inductive RelV {α : Type} (V : α → α → Prop) : Rd α → Rd α → Prop
  | ok {a b : α} {L L' : List Tk} (hV : V a b) (hA : Alike L L') : RelV V (.ok (a, L)) (.ok (b, L'))
  | err {p q : EP} (h : p.1 = q.1) : RelV V (.error p) (.error q)
theorem rel_bnd {α β : Type} {V : α → α → Prop} {U : β → β → Prop} {r r' : Rd α} {f f' : α × List Tk → Rd β} (h : RelV V r r') (hf : ∀ a b L L', V a b → Alike L L' → RelV U (f (a, L)) (f' (b, L'))) : RelV U (bnd r f) (bnd r' f') := by
  cases h with
  | ok hV hA => exact hf _ _ _ _ hV hA
  | err h => exact .err h
section
variable {ep ep' : EP} (he : ep.1 = ep'.1)
include he
theorem step_bnd {β : Type} {U : β → β → Prop} {L L' : List Tk} {f f' : List Tk → Rd β} (h : Alike L L') (hf : ∀ L1 L1', Alike L1 L1' → RelV U (f L1) (f' L1')) : RelV U (bnd (stepP ep L) f) (bnd (stepP ep' L') f') := by
  unfold Alike at h
  match L, L', h with
  | [], [], _ => exact .err he
  | [_], [_], _ => exact .err he
  | _ :: a :: r, _ :: b :: r', h =>
    refine hf (a :: r) (b :: r') ?_
    simp only [List.map_cons, List.cons.injEq] at h
    unfold Alike
    simp only [List.map_cons, List.cons.injEq]
    exact h.2
  | [], _ :: _, h => simp at h
  | _ :: _, [], h => simp at h
  | [_], _ :: _ :: _, h => simp at h
  | _ :: _ :: _, [_], h => simp at h
theorem maybe_al (x : ByteArray) {L L' : List Tk} (h : Alike L L') : RelV Eq (maybeP ep x L) (maybeP ep' x L') := by
  unfold maybeP
  rw [h.is x]
  split
  · exact step_bnd he h (fun L1 L1' h1 => .ok rfl h1)
  · exact .ok rfl h
theorem want_al (x : ByteArray) {L L' : List Tk} (h : Alike L L') : RelV Eq (wantP ep x L) (wantP ep' x L') := by
  unfold wantP
  rw [h.is x]
  split
  · exact step_bnd he h (fun L1 L1' h1 => .ok rfl h1)
  · exact .err rfl
theorem kind_al (k : Int) {L L' : List Tk} (h : Alike L L') : RelV (fun a b => strip a = strip b) (kindP ep k L) (kindP ep' k L') := by
  unfold kindP
  rw [h.kind]
  split
  · split
    · exact .ok h.hd h
    · exact step_bnd he h (fun L1 L1' h1 => .ok h.hd h1)
  · exact .err rfl
theorem verdict_al {L L' : List Tk} (h : Alike L L') : RelV Eq (verdictP ep L) (verdictP ep' L') := by
  unfold verdictP
  rw [h.kind, h.text]
  split
  · split
    · refine step_bnd he h (fun L1 L1' h1 => ?_)
      split
      · refine rel_bnd (kind_al he 3 h1) (fun a b M M' hab hM => .ok ?_ hM)
        show (⟨_, a.num⟩ : Vd) = ⟨_, b.num⟩
        rw [show a.num = b.num from congrArg (fun x => x.2.2) hab]
      · exact .ok rfl h1
    · exact .err rfl
  · exact .err rfl
theorem call_al {L L' : List Tk} (h : Alike L L') : RelV Eq (callP ep L) (callP ep' L') := by
  unfold callP
  rw [h.kind]
  split
  · refine rel_bnd (kind_al he 3 h) (fun a b M M' hab hM => .ok ?_ hM)
    show (⟨nil0, a.num⟩ : Cl) = ⟨nil0, b.num⟩
    rw [show a.num = b.num from congrArg (fun x => x.2.2) hab]
  · refine rel_bnd (kind_al he 2 h) (fun a b M M' hab hM => .ok ?_ hM)
    show (⟨a.text, 0⟩ : Cl) = ⟨b.text, 0⟩
    rw [show a.text = b.text from congrArg (fun x => x.2.1) hab]
omit he in
theorem relF_al {t t' : Tk} (h : strip t = strip t') : ∀ n, relF t n = relF t' n := by
  intro n
  induction n with
  | zero => rfl
  | succ n ih => unfold relF; rw [strip_isT h, ih]
theorem mask_al {L L' : List Tk} (h : Alike L L') : RelV Eq (maskP ep L) (maskP ep' L') := by
  unfold maskP
  rw [h.kind]
  split
  · refine rel_bnd (maybe_al he sAmp h) (fun a b M M' hab hM => ?_)
    subst hab
    show RelV Eq (if a = true then _ else _) (if a = true then _ else _)
    split
    · refine rel_bnd (kind_al he 3 hM) (fun a b M M' hab hM => .ok ?_ hM)
      exact congrArg (fun x => x.2.2) hab
    · exact .ok rfl hM
  · exact .ok rfl h
theorem test_al (f : Int) {L L' : List Tk} (h : Alike L L') : RelV Eq (testP ep f L) (testP ep' f L') := by
  unfold testP
  refine step_bnd he h (fun L1 L1' h1 => ?_)
  refine rel_bnd (mask_al he h1) (fun a b M M' hab hM => ?_)
  subst hab
  show RelV Eq (if relF (hdT M) 6 = 0 then _ else _) (if relF (hdT M') 6 = 0 then _ else _)
  rw [relF_al hM.hd 6]
  split
  · exact .err rfl
  · refine step_bnd he hM (fun L3 L3' h3 => ?_)
    refine rel_bnd (kind_al he 3 h3) (fun c d M3 M3' hcd hM3 => .ok ?_ hM3)
    show (⟨6, [], f, a, relF (hdT M') 6, c.num⟩ : Ex) = ⟨6, [], f, a, relF (hdT M') 6, d.num⟩
    rw [show c.num = d.num from congrArg (fun x => x.2.2) hcd]
theorem atom_al {L L' : List Tk} (h : Alike L L') : RelV Eq (atomP ep L) (atomP ep' L') := by
  unfold atomP
  rw [h.is sTrue, h.is sFalse, show (fun x => isT x (hdT L)) = (fun x => isT x (hdT L')) from funext (fun x => h.is x)]
  split
  · exact step_bnd he h (fun L1 L1' h1 => .ok rfl h1)
  · split
    · exact step_bnd he h (fun L1 L1' h1 => .ok rfl h1)
    · split
      · exact test_al he _ h
      · exact .err rfl
theorem more_al {α : Type} {one one' : List Tk → Rd α} (h1 : ∀ L L', Alike L L' → RelV Eq (one L) (one' L')) (sep : ByteArray) : ∀ n l L L', Alike L L' → RelV Eq (moreP ep one sep n l L) (moreP ep' one' sep n l L') := by
  intro n
  induction n with
  | zero => intro l L L' h; exact .ok rfl h
  | succ n ih =>
    intro l L L' h
    unfold moreP
    refine rel_bnd (maybe_al he sep h) (fun a b M M' hab hM => ?_)
    subst hab
    show RelV Eq (if a = true then _ else _) (if a = true then _ else _)
    split
    · refine rel_bnd (h1 _ _ hM) (fun c d M1 M1' hcd hM1 => ?_)
      subst hcd
      exact ih _ _ _ hM1
    · exact .ok rfl hM
theorem turns_al {α : Type} {one one' : List Tk → Rd α} (h1 : ∀ L L', Alike L L' → RelV Eq (one L) (one' L')) (sep : ByteArray) {L L' : List Tk} (h : Alike L L') : RelV Eq (turnsP ep one sep L) (turnsP ep' one' sep L') := by
  unfold turnsP
  refine rel_bnd (h1 _ _ h) (fun a b M M' hab hM => ?_)
  subst hab
  show RelV Eq (moreP ep one sep (M.length + 1) [a] M) (moreP ep' one' sep (M'.length + 1) [a] M')
  rw [hM.len]
  exact more_al he h1 sep _ _ _ _ hM
theorem all_al {one one' : List Tk → Rd Ex} (h1 : ∀ L L', Alike L L' → RelV Eq (one L) (one' L')) {L L' : List Tk} (h : Alike L L') : RelV Eq (allP ep one L) (allP ep' one' L') := by
  unfold allP
  refine rel_bnd (turns_al he h1 sAnd h) (fun a b M M' hab hM => ?_)
  subst hab
  exact .ok rfl hM
theorem expr_al {one one' : List Tk → Rd Ex} (h1 : ∀ L L', Alike L L' → RelV Eq (one L) (one' L')) {L L' : List Tk} (h : Alike L L') : RelV Eq (exprP ep one L) (exprP ep' one' L') := by
  unfold exprP
  refine rel_bnd (turns_al he (fun _ _ h => all_al he h1 h) sOr h) (fun a b M M' hab hM => ?_)
  subst hab
  exact .ok rfl hM
theorem one_al : ∀ k (L L' : List Tk), Alike L L' → RelV Eq (oneP ep k L) (oneP ep' k L') := by
  intro k
  induction k with
  | zero =>
    intro L L' h
    unfold oneP
    rw [h.is sNot, h.is sOpen]
    split
    · exact .err rfl
    · split
      · exact .err rfl
      · exact atom_al he h
  | succ k ih =>
    intro L L' h
    unfold oneP
    rw [h.is sNot, h.is sOpen]
    split
    · refine step_bnd he h (fun L1 L1' h1 => ?_)
      refine rel_bnd (ih _ _ h1) (fun a b M M' hab hM => ?_)
      subst hab
      exact .ok rfl hM
    · split
      · refine step_bnd he h (fun L1 L1' h1 => ?_)
        refine rel_bnd (expr_al he ih h1) (fun a b M M' hab hM => ?_)
        subst hab
        refine rel_bnd (want_al he sShut hM) (fun c d M1 M1' hcd hM1 => ?_)
        exact .ok rfl hM1
      · exact atom_al he h
theorem rule_al {L L' : List Tk} (h : Alike L L') : RelV Eq (ruleP ep L) (ruleP ep' L') := by
  unfold ruleP
  refine rel_bnd (turns_al he (fun _ _ h => call_al he h) sComma h) (fun a b M M' hab hM => ?_)
  subst hab
  refine rel_bnd (maybe_al he sWhen hM) (fun c d M1 M1' hcd hM1 => ?_)
  subst hcd
  refine rel_bnd (V := Eq) ?_ (fun x y M2 M2' hxy hM2 => ?_)
  · show RelV Eq (if c = true then _ else _) (if c = true then _ else _)
    split
    · exact expr_al he (one_al he 64) hM1
    · exact .ok rfl hM1
  · subst hxy
    refine rel_bnd (want_al he sDo hM2) (fun _ _ M3 M3' _ hM3 => ?_)
    refine rel_bnd (verdict_al he hM3) (fun v w M4 M4' hvw hM4 => ?_)
    subst hvw
    refine rel_bnd (want_al he sSemi hM4) (fun _ _ M5 M5' _ hM5 => ?_)
    exact .ok rfl hM5
theorem rules_al : ∀ n l (L L' : List Tk), Alike L L' → RelV Eq (rulesP ep n l L) (rulesP ep' n l L') := by
  intro n
  induction n with
  | zero => intro l L L' h; exact .ok rfl h
  | succ n ih =>
    intro l L L' h
    unfold rulesP
    rw [h.is sOn]
    split
    · split
      · exact .err rfl
      · refine step_bnd he h (fun L1 L1' h1 => ?_)
        refine rel_bnd (rule_al he h1) (fun a b M M' hab hM => ?_)
        subst hab
        exact ih _ _ _ hM
    · exact .ok rfl h
theorem policy_al {L L' : List Tk} (h : Alike L L') : RelV Eq (policyP ep L) (policyP ep' L') := by
  unfold policyP
  refine rel_bnd (want_al he sArch h) (fun _ _ M1 M1' _ h1 => ?_)
  refine rel_bnd (kind_al he 2 h1) (fun a b M2 M2' hab h2 => ?_)
  refine rel_bnd (want_al he sSemi h2) (fun _ _ M3 M3' _ h3 => ?_)
  refine rel_bnd (want_al he sForeign h3) (fun _ _ M4 M4' _ h4 => ?_)
  refine rel_bnd (verdict_al he h4) (fun f f' M5 M5' hf h5 => ?_)
  subst hf
  refine rel_bnd (want_al he sSemi h5) (fun _ _ M6 M6' _ h6 => ?_)
  refine rel_bnd (want_al he sDefault h6) (fun _ _ M7 M7' _ h7 => ?_)
  refine rel_bnd (verdict_al he h7) (fun d d' M8 M8' hd h8 => ?_)
  subst hd
  refine rel_bnd (want_al he sSemi h8) (fun _ _ M9 M9' _ h9 => ?_)
  refine rel_bnd (V := Eq) ?_ (fun r r' MA MA' hr hA => ?_)
  · show RelV Eq (rulesP ep (M9.length + 1) [] M9) (rulesP ep' (M9'.length + 1) [] M9')
    rw [h9.len]
    exact rules_al he _ _ _ _ h9
  · subst hr
    refine .ok ?_ hA
    show (⟨a.text, _, _, _⟩ : Po) = ⟨b.text, _, _, _⟩
    rw [show a.text = b.text from congrArg (fun x => x.2.1) hab]
end
theorem whole_al {α : Type} {f : EP → List Tk → Rd α} (hf : ∀ ep ep' L L', ep.1 = ep'.1 → Alike L L' → RelV Eq (f ep L) (f ep' L')) {s s' : ByteArray} (hT : Alike (toks s).1 (toks s').1) (he : (toks s).2.1 = (toks s').2.1) :
    (∃ x, wholeP f s = .ok x ∧ wholeP f s' = .ok x) ∨ ∃ p q, wholeP f s = .error p ∧ wholeP f s' = .error q ∧ p.1 = q.1 := by
  have hr := hf _ _ _ _ he hT
  have hw : ∀ (s : ByteArray) (L : List Tk), L = (toks s).1 → L ≠ [] → wholeP f s = bnd (f (toks s).2 L) (fun p => bnd (kindP (toks s).2 1 p.2) (fun _ => .ok p.1)) := fun s L hL hn => by
    subst hL
    unfold wholeP
    split
    · rename_i h; exact absurd h hn
    · rfl
  by_cases h0 : (toks s).1 = []
  · have h0' : (toks s').1 = [] := by have := hT.len; rw [h0] at this; exact List.length_eq_zero_iff.1 this.symm
    right
    refine ⟨(toks s).2, (toks s').2, ?_, ?_, he⟩
    · unfold wholeP; rw [h0]
    · unfold wholeP; rw [h0']
  · have h0' : (toks s').1 ≠ [] := fun e => by have := hT.len; rw [e] at this; exact h0 (List.length_eq_zero_iff.1 this)
    rw [hw s _ rfl h0, hw s' _ rfl h0']
    revert hr
    generalize f (toks s).2 (toks s).1 = r
    generalize f (toks s').2 (toks s').1 = r'
    intro hr
    cases hr with
    | err h => exact .inr ⟨_, _, rfl, rfl, h⟩
    | @ok a b L L' hab hA =>
      subst hab
      have hk := kind_al he 1 hA
      show (∃ x, bnd (kindP (toks s).2 1 L) (fun _ => .ok a) = .ok x ∧ bnd (kindP (toks s').2 1 L') (fun _ => .ok a) = .ok x) ∨ ∃ p q, bnd (kindP (toks s).2 1 L) (fun _ => .ok a) = .error p ∧ bnd (kindP (toks s').2 1 L') (fun _ => .ok a) = .error q ∧ p.1 = q.1
      revert hk
      generalize kindP (toks s).2 1 L = k
      generalize kindP (toks s').2 1 L' = k'
      intro hk
      cases hk with
      | err h => exact .inr ⟨_, _, rfl, rfl, h⟩
      | ok _ _ => exact .inl ⟨a, rfl, rfl⟩
theorem parse_alike {s s' : ByteArray} (hT : Alike (toks s).1 (toks s').1) (he : (toks s).2.1 = (toks s').2.1) : (parseV s).1 = (parseV s').1 ∧ (parseV s).2.1 = (parseV s').2.1 := by
  unfold parseV
  rcases whole_al (f := policyP) (fun ep ep' L L' h1 h2 => policy_al h1 h2) hT he with ⟨x, h1, h2⟩ | ⟨p, q, h1, h2, h3⟩
  · rw [h1, h2]; exact ⟨rfl, rfl⟩
  · rw [h1, h2]; exact ⟨rfl, h3⟩
theorem expr_alike {s s' : ByteArray} (hT : Alike (toks s).1 (toks s').1) (he : (toks s).2.1 = (toks s').2.1) : (exprV s).1 = (exprV s').1 ∧ (exprV s).2.1 = (exprV s').2.1 := by
  unfold exprV
  rcases whole_al (f := fun ep => exprP ep (oneP ep 64)) (fun ep ep' L L' h1 h2 => expr_al h1 (one_al h1 64) h2) hT he with ⟨x, h1, h2⟩ | ⟨p, q, h1, h2, h3⟩
  · rw [h1, h2]; exact ⟨rfl, rfl⟩
  · rw [h1, h2]; exact ⟨rfl, h3⟩
end Go.Proofs.YtlmopoipjolbgaaDoor.LexW
