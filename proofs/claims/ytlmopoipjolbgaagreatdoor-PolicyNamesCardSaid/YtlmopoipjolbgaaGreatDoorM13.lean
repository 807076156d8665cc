/-
  Layer 6 (policy), plain: what is written is read as that. · PolicyNames (plain): what the examples are read as. · PolicyNames (plain): the small examples. · The walk of ravelinlaw06.PolicyNames. · PolicyNames is proved: the call returns true. Conditions: the form's own (what comes in is readable and each string and slice takes at most 2^47 - 4096 bytes), and the listed package-level variables start as the program's text lays them (the card ties them).
-/
import Derived.Test.YtlmopoipjolbgaaGreatDoorM12
import Derived.Test.YtlmopoipjolbgaaGreatDoorM11
import Derived.Test.YtlmopoipjolbgaaGreatDoorShelf2
import Derived.Test.YtlmopoipjolbgaaGreatDoorM07
import Derived.Test.YtlmopoipjolbgaaGreatDoorM10
import Derived.Test.YtlmopoipjolbgaaGreatDoorM09
import Derived.Test.YtlmopoipjolbgaaGreatDoorM06
namespace Go.Proofs.YtlmopoipjolbgaaGreatDoor.LexW
open Go.RowKit Go.Shelf Go.Proofs.YtlmopoipjolbgaaGreatDoor.LexS Go.Proofs.YtlmopoipjolbgaaGreatDoorW.PrintWords
set_option linter.unusedVariables false
set_option linter.unusedSimpArgs false

theorem words_find : ∀ n, n < 8 → wordsT.find? (fun x => decide ((wordsT.getD n (nil0, 0, false)).1 = x.1)) = some (wordsT.getD n (nil0, 0, false)) := by decide
theorem words_flag : ∀ n, n < 8 → ((wordsT.getD n (nil0, 0, false)).2.2 = true ↔ ((n : Int) + 1 = 3 ∨ (n : Int) + 1 = 4 ∨ (n : Int) + 1 = 6)) := by decide
theorem verdict_back {v : Vd} (h : okV v) (ep : EP) (g : List UInt8) {R : List Tk} (hR : R ≠ []) : verdictP ep (tks (itV g v) ++ R) = .ok (v, R) := by
  obtain ⟨n, hn⟩ : ∃ n : Nat, v.f0 = (n : Int) + 1 := ⟨v.f0.toNat - 1, by have := h.1; omega⟩
  have hn8 : n < 8 := by have := h.2.1; omega
  have hw : vdW v = wordsT.getD n (nil0, 0, false) := by unfold vdW; rw [hn]; congr 1
  have hf := words_find n hn8
  have hk := words_kind n hn8
  have hb := words_flag n hn8
  unfold itV
  rw [hw]
  generalize hq : wordsT.getD n (nil0, 0, false) = q at *
  obtain ⟨xt, xk, xn⟩ := q
  simp only at hk hb
  unfold verdictP
  cases xn with
  | true =>
    simp only [if_true, tks, List.map_cons, List.map_nil, List.cons_append, List.nil_append]
    show (if (tW xt).kind = 2 then _ else _) = _
    rw [if_pos (by rfl)]
    rw [show wordsT.find? (fun x => decide ((hdT (tW xt :: tN (numB v.f1) v.f1 :: R)).text = x.1)) = some (xt, xk, true) from hf]
    show bnd (stepP ep (tW xt :: tN (numB v.f1) v.f1 :: R)) _ = _
    rw [step_ne (by simp), bnd_ok, if_pos rfl, kn_yes _ _ hR, bnd_ok, hk, ← hn]
    rfl
  | false =>
    simp only [tks, List.map_cons, List.map_nil, List.cons_append, List.nil_append, Bool.false_eq_true, if_false]
    show (if (tW xt).kind = 2 then _ else _) = _
    rw [if_pos (by rfl)]
    rw [show wordsT.find? (fun x => decide ((hdT (tW xt :: R)).text = x.1)) = some (xt, xk, false) from hf]
    show bnd (stepP ep (tW xt :: R)) _ = _
    rw [step_ne hR, bnd_ok, if_neg (by decide), hk, ← hn]
    have h0 : v.f1 = 0 := h.2.2.2 (fun e => by have := hb.2 (.inl (by omega)); exact absurd this (by decide)) (fun e => by have := hb.2 (.inr (.inl (by omega))); exact absurd this (by decide)) (fun e => by have := hb.2 (.inr (.inr (by omega))); exact absurd this (by decide))
    rw [← h0]
theorem call_back {c : Cl} (h : okC c) (ep : EP) {R : List Tk} (hR : R ≠ []) : callP ep (tkC c :: R) = .ok (c, R) := by
  obtain ⟨t, n⟩ := c
  unfold tkC
  by_cases ht : t = nil0
  · rw [if_pos ht]
    unfold callP
    show (if (tN (numB n) n).kind = 3 then bnd (kindP ep 3 (tN (numB n) n :: R)) _ else _) = _
    rw [if_pos (show (tN (numB n) n).kind = 3 from rfl), kn_yes _ _ hR, bnd_ok]
    have ht' : t = nil0 := ht
    rw [ht']
    rfl
  · rw [if_neg ht]
    have h0 : n = 0 := by
      rcases h with ⟨h1, _⟩ | ⟨h1, _⟩
      · exact absurd h1 ht
      · exact h1
    unfold callP
    show (if (tW t).kind = 3 then _ else bnd (kindP ep 2 (tW t :: R)) _) = _
    rw [if_neg (show ¬ (tW t).kind = 3 from by show ¬ (2 : Int) = 3; decide), kw_yes _ hR, bnd_ok, h0]
    rfl
theorem tks_itC : ∀ l : List Cl, tks (itC l) = moreT (tS sComma) (fun c => [tkC c]) l
  | [] => rfl
  | c :: l => by
    rw [itC]
    simp only [tks, List.map_cons]
    rw [show List.map (·.2) (itC l) = moreT (tS sComma) (fun c => [tkC c]) l from tks_itC l]
    simp [moreT]
theorem sep_facts : isT sComma (tS sComma) = true ∧ isT sComma (tW sDo) = false ∧ isT sComma (tW sWhen) = false ∧ isT sWhen (tW sWhen) = true ∧ isT sWhen (tW sDo) = false ∧ isT sDo (tW sDo) = true ∧ isT sSemi (tS sSemi) = true ∧ isT sAnd (tW sDo) = false ∧ isT sOr (tW sDo) = false ∧ isT sOn (tW sOn) = true ∧ isT sOn tkEnd = false ∧
    isT sArch (tW sArch) = true ∧ isT sForeign (tW sForeign) = true ∧ isT sDefault (tW sDefault) = true ∧ isT sAnd tkEnd = false ∧ isT sOr tkEnd = false := by decide
theorem rule_back {r : Rl} (h : okR r) (ep : EP) {R : List Tk} (hR : R ≠ []) : ∃ T, tks (itR r) ++ R = tW sOn :: T ∧ T ≠ [] ∧ ruleP ep T = .ok (r, R) := by
  obtain ⟨s1, s2, s3, s4, s5, s6, s7, s8, s9, _⟩ := sep_facts
  obtain ⟨c, l, hc⟩ : ∃ c l, r.f0 = c :: l := by
    cases hl : r.f0 with
    | nil => exact absurd hl h.ne
    | cons c l => exact ⟨c, l, rfl⟩
  have hcalls := h.calls
  rw [hc] at hcalls
  -- from 'do' on
  have hV : verdictP ep (tks (itV gSp r.f2) ++ (tS sSemi :: R)) = .ok (r.f2, tS sSemi :: R) := verdict_back h.verd ep gSp (by simp)
  have hVne : tks (itV gSp r.f2) ++ (tS sSemi :: R) ≠ [] := by simp
  have hT : ∀ (D : List Tk) (hD : D ≠ []) (hcm : isT sComma (hdT D) = false), turnsP ep (callP ep) sComma (tkC c :: (moreT (tS sComma) (fun c => [tkC c]) l ++ D)) = .ok (c :: l, D) := fun D hD hcm =>
    turns_read ep (callP ep) sComma (tS sComma) (fun c => [tkC c]) s1 hD hcm c l (fun z hz R' hR' _ => ⟨call_back (hcalls z hz) ep hR', by simp⟩)
  have hcs : tks (itCs r.f0) = tkC c :: moreT (tS sComma) (fun c => [tkC c]) l := by
    rw [hc, itCs]
    show tkC c :: tks (itC l) = _
    rw [tks_itC]
  by_cases hw : r.f1.f0 = 1
  · have hx1 : r.f1 = ⟨1, [], 0, 0, 0, 0⟩ := by
      have hk := h.cond
      rw [okE_eq] at hk
      obtain ⟨⟨_, _, _, _, h126, _, hz, _, _⟩, _⟩ := hk
      have hz' := hz (by omega)
      rw [ex_eta hz'.1 hz'.2.1 hz'.2.2.1 hz'.2.2.2, hw, List.length_eq_zero_iff.1 (h126 (by omega))]
    refine ⟨tkC c :: (moreT (tS sComma) (fun c => [tkC c]) l ++ (tW sDo :: (tks (itV gSp r.f2) ++ (tS sSemi :: R)))), ?_, by simp, ?_⟩
    · unfold itR
      rw [if_pos hw]
      simp only [tks, List.map_cons, List.map_append, List.nil_append, List.cons_append, List.append_assoc, List.map_nil]
      rw [show List.map (·.2) (itCs r.f0) = _ from hcs]
      simp
    · unfold ruleP
      rw [hT _ (by simp) (by exact s2), bnd_ok]
      show bnd (maybeP ep sWhen (tW sDo :: _)) _ = _
      rw [maybe_no (by exact s5), bnd_ok]
      show bnd (Except.ok ((⟨1, [], 0, 0, 0, 0⟩ : Ex), tW sDo :: (tks (itV gSp r.f2) ++ (tS sSemi :: R)))) _ = _
      rw [bnd_ok, want_yes s6 hVne, bnd_ok, hV, bnd_ok, want_yes s7 hR, bnd_ok, ← hx1, ← hc]
  · have hE : exprP ep (oneP ep 64) (tkE r.f1 ++ (tW sDo :: (tks (itV gSp r.f2) ++ (tS sSemi :: R)))) = .ok (r.f1, tW sDo :: (tks (itV gSp r.f2) ++ (tS sSemi :: R))) := expr_back h.cond h.deep ep (by simp) (by exact s8) (by exact s9)
    refine ⟨tkC c :: (moreT (tS sComma) (fun c => [tkC c]) l ++ (tW sWhen :: (tkE r.f1 ++ (tW sDo :: (tks (itV gSp r.f2) ++ (tS sSemi :: R)))))), ?_, by simp, ?_⟩
    · unfold itR
      rw [if_neg hw]
      simp only [tks, List.map_cons, List.map_append, List.nil_append, List.cons_append, List.append_assoc, List.map_nil]
      rw [show List.map (·.2) (itCs r.f0) = _ from hcs]
      simp [tkE, tks]
    · unfold ruleP
      rw [hT _ (by simp) (by exact s3), bnd_ok]
      show bnd (maybeP ep sWhen (tW sWhen :: _)) _ = _
      rw [maybe_yes s4 (by simp), bnd_ok]
      show bnd (if true = true then exprP ep (oneP ep 64) _ else _) _ = _
      rw [if_pos rfl, hE, bnd_ok, want_yes s6 hVne, bnd_ok, hV, bnd_ok, want_yes s7 hR, bnd_ok, ← hc]
theorem rules_back (ep : EP) {R : List Tk} (hR : R ≠ []) (hRo : isT sOn (hdT R) = false) : ∀ (l : List Rl) (h : ∀ r ∈ l, okR r) (n : Nat) (a : List Rl), l.length < n → a.length + l.length ≤ 512 → rulesP ep n a (tks (l.flatMap itR) ++ R) = .ok (a ++ l, R)
  | [], _, n, a, hn, _ => by
    obtain ⟨n, rfl⟩ : ∃ m, n = m + 1 := ⟨n - 1, by simp at hn; omega⟩
    show rulesP ep (n + 1) a R = _
    rw [rulesP, if_neg (by rw [hRo]; decide), List.append_nil]
  | r :: l, h, n, a, hn, h512 => by
    obtain ⟨n, rfl⟩ : ∃ m, n = m + 1 := ⟨n - 1, by simp at hn; omega⟩
    have hne : tks (l.flatMap itR) ++ R ≠ [] := by simp [hR]
    obtain ⟨T, hT, hTne, hr⟩ := rule_back (h r (by simp)) ep hne
    have e : tks ((r :: l).flatMap itR) ++ R = tW sOn :: T := by
      rw [List.flatMap_cons, tks_app, List.append_assoc, hT]
    rw [e, rulesP, if_pos (by exact sep_facts.2.2.2.2.2.2.2.2.2.1), if_neg (by simp at h512; omega), step_ne hTne, bnd_ok, hr, bnd_ok]
    show rulesP ep n (a ++ [r]) (tks (l.flatMap itR) ++ R) = _
    rw [rules_back ep hR hRo l (fun x hx => h x (List.mem_cons_of_mem _ hx)) n (a ++ [r]) (by simp at hn; omega) (by simp at h512 ⊢; omega)]
    simp
theorem itR_len (l : List Rl) : l.length ≤ (tks (l.flatMap itR)).length := by
  induction l with
  | nil => simp
  | cons r l ih =>
    rw [List.flatMap_cons, tks_app, List.length_append, List.length_cons]
    have : 1 ≤ (tks (itR r)).length := by unfold itR; simp [tks]
    omega
theorem policy_back {p : Po} (h : okP p) (ep : EP) : policyP ep (tks (itP p) ++ [tkEnd]) = .ok (p, [tkEnd]) := by
  obtain ⟨s1, s2, s3, s4, s5, s6, s7, s8, s9, s10, s11, s12, s13, s14, _⟩ := sep_facts
  have hR := rules_back ep (R := [tkEnd]) (by simp) (by exact s11) p.rules h.rules ((tks (p.rules.flatMap itR) ++ [tkEnd]).length + 1) [] (by have := itR_len p.rules; rw [List.length_append]; omega) (by have := h.many; simpa using this)
  have hV1 := verdict_back h.forn ep gSp (R := tS sSemi :: tW sDefault :: (tks (itV gSp p.dflt) ++ (tS sSemi :: (tks (p.rules.flatMap itR) ++ [tkEnd])))) (by simp)
  have hV2 := verdict_back h.dflt ep gSp (R := tS sSemi :: (tks (p.rules.flatMap itR) ++ [tkEnd])) (by simp)
  have e : tks (itP p) ++ [tkEnd] = tW sArch :: tW p.arch :: tS sSemi :: tW sForeign :: (tks (itV gSp p.foreign) ++ (tS sSemi :: tW sDefault :: (tks (itV gSp p.dflt) ++ (tS sSemi :: (tks (p.rules.flatMap itR) ++ [tkEnd]))))) := by
    unfold itP
    simp [tks]
  rw [e]
  unfold policyP
  rw [want_yes s12 (by simp), bnd_ok, kw_yes _ (by simp), bnd_ok, want_yes s7 (by simp), bnd_ok, want_yes s13 (by simp), bnd_ok, hV1, bnd_ok, want_yes s7 (by simp), bnd_ok, want_yes s14 (by simp), bnd_ok, hV2, bnd_ok, want_yes s7 (by simp), bnd_ok, hR, bnd_ok]
  rfl
theorem whole_back {α : Type} {f : EP → List Tk → Rd α} (hf : ∀ ep ep' L L', ep.1 = ep'.1 → Alike L L' → RelV Eq (f ep L) (f ep' L')) {s : ByteArray} {T : List Tk} {x : α} (hA : Alike (toks s).1 (T ++ [tkEnd])) (hx : f (toks s).2 (T ++ [tkEnd]) = .ok (x, [tkEnd])) : wholeP f s = .ok x := by
  have hr := hf (toks s).2 (toks s).2 _ _ rfl hA
  rw [hx] at hr
  have hne : (toks s).1 ≠ [] := by intro e; have := hA.len; rw [e] at this; simp at this
  have hw : wholeP f s = bnd (f (toks s).2 (toks s).1) (fun p => bnd (kindP (toks s).2 1 p.2) (fun _ => .ok p.1)) := by
    unfold wholeP
    split
    · rename_i e; exact absurd e hne
    · rfl
  rw [hw]
  generalize f (toks s).2 (toks s).1 = y at hr
  cases hr with
  | @ok a _ L _ hV hL =>
    rw [bnd_ok]
    have hk : (hdT L).kind = 1 := hL.kind
    show bnd (kindP (toks s).2 1 L) _ = _
    unfold kindP
    rw [if_pos hk, if_pos rfl, bnd_ok, hV]
/-- a policy that was written is read as it was -/
theorem parse_back {p : Po} (h : okP p) (hz : (prP p).size ≤ 65536) : parseV (prP p) = (p, (0, 0)) := by
  obtain ⟨_, hA⟩ := prP_toks h hz
  unfold parseV
  rw [whole_back (fun ep ep' L L' he hL => policy_al he hL) hA (policy_back h _)]
theorem exprV_back {x : Ex} (h : okE x) (hd : dE x ≤ 64) (hz : (prE x).size ≤ 65536) : exprV (prE x) = (x, (0, 0)) := by
  obtain ⟨_, hA⟩ := prE_toks h hz
  obtain ⟨_, _, _, _, _, _, _, _, _, _, _, _, _, _, s15, s16⟩ := sep_facts
  unfold exprV
  have e : (itE x []).map (·.2) = tkE x := tks_g x [] gSp
  rw [e] at hA
  rw [whole_back (fun ep ep' L L' he hL => expr_al he (fun L L' h => one_al he 64 L L' h) hL) hA (expr_back h hd _ (by simp) s15 s16)]
end Go.Proofs.YtlmopoipjolbgaaGreatDoor.LexW
namespace Go.Proofs.YtlmopoipjolbgaaGreatDoor.LexW
open Go.RowKit Go.Shelf Go.Proofs.YtlmopoipjolbgaaGreatDoor.LexS Go.Proofs.YtlmopoipjolbgaaGreatDoorW.PrintWords
set_option linter.unusedVariables false
set_option linter.unusedSimpArgs false

def nmA : ByteArray := ⟨#[97]⟩
def nmX : ByteArray := ⟨#[120]⟩
def nmLog : ByteArray := ⟨#[108, 111, 103]⟩
def nmRule : List UInt8 := [111, 110, 32, 97, 32, 100, 111, 32, 108, 111, 103, 59]
def nmHead : List UInt8 := [97, 114, 99, 104, 32, 120, 59, 32, 102, 111, 114, 101, 105, 103, 110, 32, 108, 111, 103, 59, 32, 100, 101, 102, 97, 117, 108, 116, 32, 108, 111, 103, 59]
def nmTok : Rl := ⟨[⟨nmA, 0⟩], ⟨1, [], 0, 0, 0, 0⟩, ⟨7, 0⟩⟩

def nmIts (l : Its) : Its := ([], tW sOn) :: (gSp, tW nmA) :: (gSp, tW sDo) :: (gSp, tW nmLog) :: ([], tS sSemi) :: l
def nmAll : Nat → Its
  | 0 => []
  | n + 1 => nmIts (nmAll n)
def nmHd (l : Its) : Its := ([], tW sArch) :: (gSp, tW nmX) :: ([], tS sSemi) :: (gSp, tW sForeign) :: (gSp, tW nmLog) :: ([], tS sSemi) :: (gSp, tW sDefault) :: (gSp, tW nmLog) :: ([], tS sSemi) :: l

theorem nm_flat : ∀ n, flat (nmAll n) [] = Lib.repeatL nmRule n
  | 0 => rfl
  | n + 1 => by
    show _ = nmRule ++ Lib.repeatL nmRule n
    rw [← nm_flat n]
    rfl
theorem nm_flatH (n : Nat) : flat (nmHd (nmAll n)) [] = nmHead ++ Lib.repeatL nmRule n := by
  rw [← nm_flat n]
  rfl
theorem nm_semi (B : List UInt8) : EndOk (tS sSemi) B := .inr (.inr ⟨59, rfl, rfl⟩)
theorem nm_sp (t : Tk) (B : List UInt8) : EndOk t (32 :: B) := .inl ⟨32, B, rfl, rfl, by decide⟩
theorem nm_se (t : Tk) (B : List UInt8) : EndOk t (59 :: B) := .inl ⟨59, B, rfl, rfl, by decide⟩
theorem nm_ok : ∀ n, ItsOk (nmAll n) []
  | 0 => gapS.nil
  | n + 1 => its_cons gapS.nil (like_lit _ rfl) (nm_sp _ _) (its_cons gap_sp (like_lit _ rfl) (nm_sp _ _) (its_cons gap_sp (like_lit _ rfl) (nm_sp _ _) (its_cons gap_sp (like_lit _ rfl) (nm_se _ _) (its_cons gapS.nil like_semi (nm_semi _) (nm_ok n)))))
theorem nm_okH (n : Nat) : ItsOk (nmHd (nmAll n)) [] :=
  its_cons gapS.nil (like_lit _ rfl) (nm_sp _ _) (its_cons gap_sp (like_lit _ rfl) (nm_se _ _) (its_cons gapS.nil like_semi (nm_semi _)
  (its_cons gap_sp (like_lit _ rfl) (nm_sp _ _) (its_cons gap_sp (like_lit _ rfl) (nm_se _ _) (its_cons gapS.nil like_semi (nm_semi _)
  (its_cons gap_sp (like_lit _ rfl) (nm_sp _ _) (its_cons gap_sp (like_lit _ rfl) (nm_se _ _) (its_cons gapS.nil like_semi (nm_semi _) (nm_ok n)))))))))

theorem nm_verdict (ep : EP) {R : List Tk} (hR : R ≠ []) : verdictP ep (tW nmLog :: R) = .ok (⟨7, 0⟩, R) := by
  have h1 : wordsT.find? (fun x => decide (nmLog = x.1)) = some (nmLog, 7, false) := by decide
  unfold verdictP
  rw [if_pos (by rfl)]
  rw [show wordsT.find? (fun x => decide ((hdT (tW nmLog :: R)).text = x.1)) = some (nmLog, 7, false) from h1]
  show bnd (stepP ep (tW nmLog :: R)) _ = _
  rw [step_ne hR, bnd_ok, if_neg (by simp)]
theorem nm_facts : isT sComma (tW sDo) = false ∧ isT sWhen (tW sDo) = false ∧ isT sDo (tW sDo) = true ∧ isT sSemi (tS sSemi) = true ∧ isT sOn (tW sOn) = true ∧ isT sArch (tW sArch) = true ∧ isT sForeign (tW sForeign) = true ∧ isT sDefault (tW sDefault) = true := by decide
theorem nm_rule (ep : EP) {R : List Tk} (hR : R ≠ []) : ruleP ep (tW nmA :: tW sDo :: tW nmLog :: tS sSemi :: R) = .ok (nmTok, R) := by
  obtain ⟨s1, s2, s3, s4, _⟩ := nm_facts
  have hc : callP ep (tW nmA :: tW sDo :: tW nmLog :: tS sSemi :: R) = .ok (⟨nmA, 0⟩, tW sDo :: tW nmLog :: tS sSemi :: R) := by
    unfold callP
    rw [if_neg (by show ¬ ((2 : Int) = 3); decide), kw_yes _ (by simp), bnd_ok]
    rfl
  have hm : ∀ n l, moreP ep (callP ep) sComma (n + 1) l (tW sDo :: tW nmLog :: tS sSemi :: R) = .ok (l, tW sDo :: tW nmLog :: tS sSemi :: R) := by
    intro n l
    rw [moreP, maybe_no s1, bnd_ok, if_neg (by simp)]
  unfold ruleP turnsP
  rw [hc, bnd_ok, hm, bnd_ok, maybe_no s2, bnd_ok, if_neg (by simp), bnd_ok, want_yes s3 (by simp), bnd_ok, nm_verdict ep (by simp), bnd_ok, want_yes s4 hR, bnd_ok]
  rfl
theorem nm_rules (ep : EP) : ∀ (n m : Nat) (l : List Rl), l.length + n = 512 → n < m → rulesP ep m l (tks (nmAll (n + 1)) ++ [tkEnd]) = .error (63, 0)
  | n, 0, l, _, hm => absurd hm (by omega)
  | 0, m + 1, l, h, hm => by
    obtain ⟨_, _, _, _, s5, _⟩ := nm_facts
    show rulesP ep (m + 1) l (tW sOn :: _) = _
    rw [rulesP, if_pos (by exact s5), if_pos (by omega)]
    rfl
  | n + 1, m + 1, l, h, hm => by
    obtain ⟨_, _, _, _, s5, _⟩ := nm_facts
    show rulesP ep (m + 1) l (tW sOn :: tW nmA :: tW sDo :: tW nmLog :: tS sSemi :: (tks (nmAll (n + 1)) ++ [tkEnd])) = _
    rw [rulesP, if_pos (by exact s5), if_neg (by omega), step_ne (by simp), bnd_ok, nm_rule ep (by simp), bnd_ok]
    exact nm_rules ep n m (l ++ [nmTok]) (by simp; omega) (by omega)
theorem nm_all_len : ∀ n, n ≤ (tks (nmAll n)).length
  | 0 => Nat.zero_le _
  | n + 1 => by
    have := nm_all_len n
    show n + 1 ≤ (tks (nmAll n)).length + 1 + 1 + 1 + 1 + 1
    omega
theorem nm_policy (ep : EP) : policyP ep (tks (nmHd (nmAll 513)) ++ [tkEnd]) = .error (63, 0) := by
  obtain ⟨_, _, _, s4, _, s6, s7, s8⟩ := nm_facts
  have hR := nm_rules ep 512 ((tks (nmAll 513) ++ [tkEnd]).length + 1) [] rfl (by have := nm_all_len 513; rw [List.length_append]; omega)
  generalize hL : nmAll 513 = L at hR
  show policyP ep (tW sArch :: tW nmX :: tS sSemi :: tW sForeign :: tW nmLog :: tS sSemi :: tW sDefault :: tW nmLog :: tS sSemi :: (tks L ++ [tkEnd])) = _
  unfold policyP
  rw [want_yes s6 (by simp), bnd_ok, kw_yes _ (by simp), bnd_ok, want_yes s4 (by simp), bnd_ok, want_yes s7 (by simp), bnd_ok, nm_verdict ep (by simp), bnd_ok, want_yes s4 (by simp), bnd_ok, want_yes s8 (by simp), bnd_ok, nm_verdict ep (by simp), bnd_ok, want_yes s4 (by simp), bnd_ok]
  show bnd (rulesP ep ((tks L ++ [tkEnd]).length + 1) [] (tks L ++ [tkEnd])) _ = _
  rw [hR, bnd_err]
/-- a policy of 513 rules -/
theorem nm_many {s : ByteArray} (h : s.data.toList = nmHead ++ Lib.repeatL nmRule 513) (hz : s.size ≤ 65536) : (parseV s).2.1 = 63 := by
  obtain ⟨h0, hA⟩ := toks_flat hz (h.trans (nm_flatH 513).symm) (nm_okH 513)
  have hr := policy_al (ep := (toks s).2) (ep' := (toks s).2) rfl hA
  rw [nm_policy] at hr
  have hne : (toks s).1 ≠ [] := by intro e; have := hA.len; rw [e] at this; simp at this
  have hw : wholeP policyP s = bnd (policyP (toks s).2 (toks s).1) (fun p => bnd (kindP (toks s).2 1 p.2) (fun _ => .ok p.1)) := by
    unfold wholeP
    split
    · rename_i e; exact absurd e hne
    · rfl
  generalize hy : policyP (toks s).2 (toks s).1 = y at hr hw
  cases hr with
  | @err p q hp =>
    unfold parseV
    rw [hw, bnd_err]
    exact hp
end Go.Proofs.YtlmopoipjolbgaaGreatDoor.LexW
namespace Go.Proofs.YtlmopoipjolbgaaGreatDoor.LexW
open Go.RowKit Go.Shelf Go.Proofs.YtlmopoipjolbgaaGreatDoor.LexS Go.Proofs.YtlmopoipjolbgaaGreatDoorW.PrintWords
set_option linter.unusedVariables false
set_option linter.unusedSimpArgs false

def nmSome : ByteArray := ⟨#[97, 114, 99, 104, 32, 120, 56, 54, 95, 54, 52, 59, 10, 102, 111, 114, 101, 105, 103, 110, 32, 107, 105, 108, 108, 95, 112, 114, 111, 99, 101, 115, 115, 59, 10, 100, 101, 102, 97, 117, 108, 116, 32, 101, 114, 114, 110, 111, 32, 49, 59, 10, 111, 110, 32, 114, 101, 97, 100, 44, 32, 119, 114, 105, 116, 101, 44, 32, 50, 51, 49, 32, 100, 111, 32, 97, 108, 108, 111, 119, 59, 10, 111, 110, 32, 111, 112, 101, 110, 97, 116, 32, 119, 104, 101, 110, 32, 97, 114, 103, 50, 32, 38, 32, 48, 120, 51, 32, 61, 61, 32, 48, 32, 97, 110, 100, 32, 110, 111, 116, 32, 40, 97, 114, 103, 49, 32, 62, 32, 53, 32, 111, 114, 32, 105, 112, 32, 60, 32, 52, 48, 57, 54, 41, 32, 100, 111, 32, 108, 111, 103, 59, 10]⟩
def nmSomeP : Po := (parseV nmSome).1
theorem nm_some : (parseV nmSome).2 = (0, 0) ∧ nmSomeP.rules.length = 2 ∧ prP nmSomeP = nmSome := ⟨by kernel_rfl, by kernel_rfl, by kernel_rfl⟩
def nmNot : ByteArray := ⟨#[40, 40, 110, 111, 116, 32, 40, 40, 105, 112, 32, 62, 32, 49, 41, 41, 41, 41]⟩
def nmNotS : ByteArray := ⟨#[110, 111, 116, 32, 105, 112, 32, 62, 32, 49]⟩
def nmNotE : Ex := ⟨3, [⟨6, [], 6, 18446744073709551615, 5, 1⟩], 0, 0, 0, 0⟩
theorem nm_not : exprV nmNot = (nmNotE, (0, 0)) ∧ prE nmNotE = nmNotS ∧ dE nmNotE = 1 := ⟨by kernel_rfl, by kernel_rfl, by kernel_rfl⟩
def nmShort : ByteArray := ⟨#[97, 114, 99, 104, 32, 120, 59]⟩
theorem nm_short : parseV nmShort = (zPo, (61, 7)) := by kernel_rfl
def nmDeep : ByteArray := ⟨(Lib.repeatL [40] 65).toArray⟩
theorem nm_deep : exprV nmDeep = (zEx, (62, 64)) := by kernel_rfl
def nmFair : ByteArray := ⟨(Lib.repeatL [40] 64).toArray⟩ ++ sTrue ++ ⟨(Lib.repeatL [41] 64).toArray⟩
theorem nm_fair : exprV nmFair = (⟨1, [], 0, 0, 0, 0⟩, (0, 0)) := by kernel_rfl
def nmMany : ByteArray := ⟨nmHead.toArray⟩ ++ ⟨(Lib.repeatL nmRule 513).toArray⟩
theorem nm_manyD : nmMany.data.toList = nmHead ++ Lib.repeatL nmRule 513 := by
  unfold nmMany
  rw [ByteArray.data_append, Array.toList_append]
theorem nm_manyV : (parseV nmMany).2.1 = 63 := by
  refine nm_many nm_manyD ?_
  have : nmMany.size = nmMany.data.toList.length := by simp
  rw [this, nm_manyD, List.length_append, Lib.repeatL_length]
  decide
theorem nm_manyE : ∃ M q, parseV nmMany = (M, (63, q)) := by
  have h := nm_manyV
  revert h
  generalize parseV nmMany = x
  obtain ⟨M, e, q⟩ := x
  intro h
  exact ⟨M, q, by rw [show e = 63 from h]⟩
theorem nm_someE : ∃ P : Po, parseV nmSome = (P, (0, 0)) ∧ P.rules.length = 2 ∧ prP P = nmSome := ⟨nmSomeP, by kernel_rfl, nm_some.2.1, nm_some.2.2⟩
theorem nm_notE : ∃ X : Ex, exprV nmNot = (X, (0, 0)) ∧ prE X = nmNotS ∧ dE X = 1 := ⟨nmNotE, nm_not⟩
/-- the texts that Repeat gives -/
theorem nm_texts : ∃ D65 D64 E64 R513 : ByteArray, D65 = ⟨(Lib.repeatL [40] 65).toArray⟩ ∧ D64 = ⟨(Lib.repeatL [40] 64).toArray⟩ ∧ E64 = ⟨(Lib.repeatL [41] 64).toArray⟩ ∧ R513 = ⟨(Lib.repeatL nmRule 513).toArray⟩ ∧
    D64.size = 64 ∧ E64.size = 64 ∧ R513.size = 6156 ∧ exprV D65 = (zEx, (62, 64)) ∧ exprV (D64 ++ sTrue ++ E64) = (⟨1, [], 0, 0, 0, 0⟩, (0, 0)) ∧ ∃ M q, parseV (⟨nmHead.toArray⟩ ++ R513) = (M, (63, q)) := by
  refine ⟨_, _, _, _, rfl, rfl, rfl, rfl, by kernel_rfl, by kernel_rfl, ?_, nm_deep, nm_fair, nm_manyE⟩
  rw [size_list]
  show (Lib.repeatL nmRule 513).length = _
  rw [Lib.repeatL_length]
  decide
end Go.Proofs.YtlmopoipjolbgaaGreatDoor.LexW
namespace Go.Proofs.YtlmopoipjolbgaaGreatDoor.LexW
open Go.RowKit Go.Shelf Go.Proofs.YtlmopoipjolbgaaGreatDoor.LexS Go.Proofs.YtlmopoipjolbgaaGreatDoorW.PrintWords
set_option linter.unusedVariables false
set_option linter.unusedSimpArgs false

set_option maxHeartbeats 1000000 in
theorem some_any (w : World) : Calls Tryz.prog 20 #[] w fun e w' => e = .returned (.string nmSome) ∧ Below w.heap.size w w' := by
  have H := Below.refl w.heap.size w
  go_enter Tryz.func20, Tryz.ntmps20
  go_wp2
  go_ret
  exact ⟨rfl, H⟩
theorem nmRep (l : List UInt8) (c : Nat) (D : ByteArray) (hD : D = ⟨(Lib.repeatL l c).toArray⟩) (w : World) (hc : c ≤ 9223372036854775807) (hlen : l.length * c ≤ 140737488355328) :
    Calls Tryz.prog 21 #[.string ⟨l.toArray⟩, .int .i64 c] w fun e w' => e = .returned (.string D) ∧ Below w.heap.size w w' := by
  rw [hD]
  exact Tryz.strings_Repeat ⟨l.toArray⟩ c w hc (by simpa [ByteArray.size] using hlen)

set_option maxHeartbeats 8000000 in
set_option maxRecDepth 100000 in
theorem polNames_any (w : World) (hE : Env w) (hN : EnvN w) :
    Calls Tryz.prog 6 #[] w fun e w' => e = .returned (.bool true) ∧ Below w.heap.size w w' := by
  have HE := Lib.hid hE; have HN := Lib.hid hN
  obtain ⟨P, hv1, hl1, hp1⟩ := nm_someE
  obtain ⟨X, hx2, hp2, hd2⟩ := nm_notE
  obtain ⟨D65, D64, E64, R513, d1, d2, d3, d4, z2, z3, z4, hx4, hx5, M, q6, hv6⟩ := nm_texts
  have HPV := Lib.hid (parseV_val hv1 rfl); have HXV := Lib.hid (exprV_val hx2 rfl)
  have H1 := Lib.hid (fun (W : World) (h1 : Below w.heap.size w W) => parse_any nmSome w W hE h1 (toks_len _)); rw [hv1] at H1
  have H2 := Lib.hid (fun (W : World) (h1 : Below w.heap.size w W) => pexpr_any nmNot w W hE h1 (toks_len _)); rw [hx2] at H2
  have H3 := Lib.hid (fun (W : World) (h1 : Below w.heap.size w W) => parse_any nmShort w W hE h1 (toks_len _)); rw [nm_short] at H3
  have H4 := Lib.hid (fun (W : World) (h1 : Below w.heap.size w W) => pexpr_any D65 w W hE h1 (toks_len _)); rw [hx4] at H4
  have H5 := Lib.hid (fun (W : World) (h1 : Below w.heap.size w W) => pexpr_any (D64 ++ sTrue ++ E64) w W hE h1 (toks_len _)); rw [hx5] at H5
  have H6 := Lib.hid (fun (W : World) (h1 : Below w.heap.size w W) => parse_any (⟨nmHead.toArray⟩ ++ R513) w W hE h1 (toks_len _)); rw [hv6] at H6
  have R1 := Lib.hid (fun W => nmRep [40] 65 D65 d1 W (by decide) (by decide))
  have R2 := Lib.hid (fun W => nmRep [40] 64 D64 d2 W (by decide) (by decide))
  have R3 := Lib.hid (fun W => nmRep [41] 64 E64 d3 W (by decide) (by decide))
  have R4 := Lib.hid (fun W => nmRep nmRule 513 R513 d4 W (by decide) (by decide))
  have HL1 := Lib.hid hl1
  clear hl1 hx2 hv1 hx4 hx5 hv6 d1 d2 d3 d4 hE hN
  go_enter Tryz.func6, Tryz.ntmps6
  go_wp2_with fail
  refine (lives06_any w HE.out).mono ?_
  rintro e w1 ⟨rfl, hb0⟩
  have HB1 := Lib.hid hb0
  clear hb0
  go_wp2_with fail
  refine (some_any _).mono ?_
  rintro e w2 ⟨rfl, hb2⟩
  have HB2 := Lib.hid (HB1.out.trans (hb2.mono HB1.out.size))
  clear hb2
  go_wp2_with fail
  refine (H1.out _ HB2.out).mono ?_
  rintro e V2 ⟨⟨v2, rfl, hR2⟩, hb2⟩
  obtain ⟨A2, c2, rfl, -, hC2⟩ := Kd.R_reads hR2
  have ha2 := (Below.refl V2.heap.size V2).alloc (Nat.le_refl _) (poBox P A2 c2)
  have hX2 : (V2.alloc (poBox P A2 c2)).heap[V2.heap.size]? = some (poBox P A2 c2) := new_blk V2 _ _
  have hC2b := Kd.C_below hC2 ha2
  have HB3 := Lib.hid (HB2.out.trans ((hb2.trans (ha2.mono hb2.size)).mono HB2.out.size))
  have HPR := Lib.hid (print_any P HPV.out.1 (by have := HPV.out.2; omega) A2 c2 (V2.alloc (poBox P A2 c2)) (HN.out.below HB3.out) hC2b)
  rw [hp1] at HPR
  clear hR2 hb2 hC2 ha2
  go_wp2_with fail
  refine HPR.out.mono ?_
  rintro e V3 ⟨rfl, hb3⟩
  have HX3 := Lib.hid ((hb3.block _ (box_lt hX2)).trans hX2)
  have HB4 := Lib.hid (HB3.out.trans (hb3.mono HB3.out.size))
  clear hb3 hX2 hC2b
  go_wp2_with fail
  refine (H2.out _ HB4.out).mono ?_
  rintro e V4 ⟨⟨v4, rfl, hR4⟩, hb4⟩
  obtain ⟨A4, c4, rfl, -, hC4⟩ := Kd.R_reads hR4
  have ha4 := (Below.refl V4.heap.size V4).alloc (Nat.le_refl _) (exBox X A4 c4)
  have hx4 : (V4.alloc (exBox X A4 c4)).heap[V4.heap.size]? = some (exBox X A4 c4) := new_blk V4 _ _
  have hbb4 := hb4.trans (ha4.mono hb4.size)
  have HP5 := Lib.hid ((hbb4.block _ (box_lt HX3.out)).trans HX3.out)
  have HB5 := Lib.hid (HB4.out.trans (hbb4.mono HB4.out.size))
  have HC5 := Lib.hid (Kd.C_below hC4 ha4)
  have HX5 := Lib.hid hx4
  clear hR4 hb4 hC4 ha4 hx4 hbb4
  go_wp2_with fail
  refine (H3.out _ HB5.out).mono ?_
  rintro e V6 ⟨⟨v6, rfl, hR6⟩, hb6⟩
  obtain ⟨A6, c6, rfl, -, -⟩ := Kd.R_reads hR6
  have hh := hb6.trans (((Below.refl V6.heap.size V6).alloc (Nat.le_refl _) (poBox zPo A6 c6)).mono hb6.size)
  clear hR6 hb6
  have HP6 := Lib.hid ((hh.block _ (box_lt HP5.out)).trans HP5.out)
  have HX6 := Lib.hid ((hh.block _ (box_lt HX5.out)).trans HX5.out)
  have HC6 := Lib.hid (Kd.C_below HC5.out hh)
  have HB6 := Lib.hid (HB5.out.trans (hh.mono HB5.out.size))
  clear hh
  go_wp2_with fail
  refine (R1.out _).mono ?_
  rintro e V7 ⟨rfl, hh⟩
  have HP7 := Lib.hid ((hh.block _ (box_lt HP6.out)).trans HP6.out)
  have HX7 := Lib.hid ((hh.block _ (box_lt HX6.out)).trans HX6.out)
  have HC7 := Lib.hid (Kd.C_below HC6.out hh)
  have HB7 := Lib.hid (HB6.out.trans (hh.mono HB6.out.size))
  clear hh
  go_wp2_with fail
  refine (H4.out _ HB7.out).mono ?_
  rintro e V8 ⟨⟨v8, rfl, hR8⟩, hb8⟩
  obtain ⟨A8, c8, rfl, -, -⟩ := Kd.R_reads hR8
  have hh := hb8.trans (((Below.refl V8.heap.size V8).alloc (Nat.le_refl _) (exBox zEx A8 c8)).mono hb8.size)
  clear hR8 hb8
  have HP8 := Lib.hid ((hh.block _ (box_lt HP7.out)).trans HP7.out)
  have HX8 := Lib.hid ((hh.block _ (box_lt HX7.out)).trans HX7.out)
  have HC8 := Lib.hid (Kd.C_below HC7.out hh)
  have HB8 := Lib.hid (HB7.out.trans (hh.mono HB7.out.size))
  clear hh
  go_wp2_with fail
  refine (R2.out _).mono ?_
  rintro e V9 ⟨rfl, hh⟩
  have HP9 := Lib.hid ((hh.block _ (box_lt HP8.out)).trans HP8.out)
  have HX9 := Lib.hid ((hh.block _ (box_lt HX8.out)).trans HX8.out)
  have HC9 := Lib.hid (Kd.C_below HC8.out hh)
  have HB9 := Lib.hid (HB8.out.trans (hh.mono HB8.out.size))
  clear hh
  go_wp2_with fail
  refine (R3.out _).mono ?_
  rintro e V10 ⟨rfl, hh⟩
  have HP10 := Lib.hid ((hh.block _ (box_lt HP9.out)).trans HP9.out)
  have HX10 := Lib.hid ((hh.block _ (box_lt HX9.out)).trans HX9.out)
  have HC10 := Lib.hid (Kd.C_below HC9.out hh)
  have HB10 := Lib.hid (HB9.out.trans (hh.mono HB9.out.size))
  clear hh
  go_wp2_with fail
  refine (H5.out _ HB10.out).mono ?_
  rintro e V11 ⟨⟨v11, rfl, hR11⟩, hb11⟩
  obtain ⟨A11, c11, rfl, -, -⟩ := Kd.R_reads hR11
  have hh := hb11.trans (((Below.refl V11.heap.size V11).alloc (Nat.le_refl _) (exBox ⟨1, [], 0, 0, 0, 0⟩ A11 c11)).mono hb11.size)
  have HY11 := Lib.hid (show (V11.alloc (exBox ⟨1, [], 0, 0, 0, 0⟩ A11 c11)).heap[V11.heap.size]? = some (exBox ⟨1, [], 0, 0, 0, 0⟩ A11 c11) from new_blk V11 _ _)
  clear hR11 hb11
  have HP11 := Lib.hid ((hh.block _ (box_lt HP10.out)).trans HP10.out)
  have HX11 := Lib.hid ((hh.block _ (box_lt HX10.out)).trans HX10.out)
  have HC11 := Lib.hid (Kd.C_below HC10.out hh)
  have HB11 := Lib.hid (HB10.out.trans (hh.mono HB10.out.size))
  clear hh
  go_wp2_with fail
  refine (R4.out _).mono ?_
  rintro e V12 ⟨rfl, hh⟩
  have HP12 := Lib.hid ((hh.block _ (box_lt HP11.out)).trans HP11.out)
  have HX12 := Lib.hid ((hh.block _ (box_lt HX11.out)).trans HX11.out)
  have HY12 := Lib.hid ((hh.block _ (box_lt HY11.out)).trans HY11.out)
  have HC12 := Lib.hid (Kd.C_below HC11.out hh)
  have HB12 := Lib.hid (HB11.out.trans (hh.mono HB11.out.size))
  clear hh
  go_wp2_with fail
  refine (H6.out _ HB12.out).mono ?_
  rintro e V13 ⟨⟨v13, rfl, hR13⟩, hb13⟩
  obtain ⟨A13, c13, rfl, -, -⟩ := Kd.R_reads hR13
  have hh := hb13.trans (((Below.refl V13.heap.size V13).alloc (Nat.le_refl _) (poBox M A13 c13)).mono hb13.size)
  clear hR13 hb13
  have HP13 := Lib.hid ((hh.block _ (box_lt HP12.out)).trans HP12.out)
  have HX13 := Lib.hid ((hh.block _ (box_lt HX12.out)).trans HX12.out)
  have HY13 := Lib.hid ((hh.block _ (box_lt HY12.out)).trans HY12.out)
  have HC13 := Lib.hid (Kd.C_below HC12.out hh)
  have HB13 := Lib.hid (HB12.out.trans (hh.mono HB12.out.size))
  clear hh
  obtain ⟨i0, i1, i2, i3, i4, i5⟩ := box6 HP13.out
  obtain ⟨k0, k1, k2, k3, k4, k5⟩ := box6 HX13.out
  obtain ⟨y0, y1, y2, y3, y4, y5⟩ := box6 HY13.out
  rw [HL1.out] at i5
  clear i0 i1 i2 i3 i4 y1 y2 y3 y4 y5
  have hNV := HN.out.below HB13.out
  have hdd : ((dE X : Nat) : Int) = 1 := by rw [hd2]; rfl
  have HPE := Lib.hid (pe_any _ X (Nat.lt_succ_self _) HXV.out.1 (by have := HXV.out.2.1; omega))
  have HDE := Lib.hid (dep_any _ X (Nat.lt_succ_self _) (by have := HXV.out.2.1; omega))
  have HA1 := Lib.hid (fun W5 (h5 : Below (V13.alloc (poBox M A13 c13)).heap.size (V13.alloc (poBox M A13 c13)) W5) => HPE.out A4 c4 W5 (hNV.below h5) (Kd.C_below HC13.out h5))
  have HA2 := Lib.hid (fun W5 W6 (h5 : Below (V13.alloc (poBox M A13 c13)).heap.size (V13.alloc (poBox M A13 c13)) W5) (h6 : Below W5.heap.size W5 W6) => HDE.out A4 c4 W6 (Kd.C_below (Kd.C_below HC13.out h5) h6))
  rw [hp2] at HA1
  rw [hdd] at HA2
  have hn0 : (nmSome.toList == nmSome.toList) = true := by simp
  have hn1 : nmNotS.toList = [110, 111, 116, 32, 105, 112, 32, 62, 32, 49] := by rw [Lib.toList_data]; rfl
  clear hp1 hp2 hd2 hdd hNV z2 z3 z4
  go_wp2_with fail
  refine (some_any _).mono ?_
  rintro e W5 ⟨rfl, hb5⟩
  replace i5 := pw_cell_below hb5 i5
  replace k0 := pw_cell_below hb5 k0
  replace k1 := pw_cell_below hb5 k1
  replace k2 := pw_cell_below hb5 k2
  replace k3 := pw_cell_below hb5 k3
  replace k4 := pw_cell_below hb5 k4
  replace k5 := pw_cell_below hb5 k5
  replace y0 := pw_cell_below hb5 y0
  have HB14 := Lib.hid hb5
  clear hb5
  go_wp2_with fail
  refine (HA1.out W5 HB14.out).mono ?_
  rintro e W6 ⟨rfl, hb6⟩
  replace i5 := pw_cell_below hb6 i5
  replace k0 := pw_cell_below hb6 k0
  replace k1 := pw_cell_below hb6 k1
  replace k2 := pw_cell_below hb6 k2
  replace k3 := pw_cell_below hb6 k3
  replace k4 := pw_cell_below hb6 k4
  replace k5 := pw_cell_below hb6 k5
  replace y0 := pw_cell_below hb6 y0
  have HB15 := Lib.hid hb6
  clear hb6
  go_wp2_with fail
  refine (HA2.out W5 W6 HB14.out HB15.out).mono ?_
  rintro e W7 ⟨rfl, hb7⟩
  replace i5 := pw_cell_below hb7 i5
  replace k0 := pw_cell_below hb7 k0
  replace k1 := pw_cell_below hb7 k1
  replace k2 := pw_cell_below hb7 k2
  replace k3 := pw_cell_below hb7 k3
  replace k4 := pw_cell_below hb7 k4
  replace k5 := pw_cell_below hb7 k5
  replace y0 := pw_cell_below hb7 y0
  have HFIN := Lib.hid (HB13.out.trans ((HB14.out.trans ((HB15.out.trans (hb7.mono HB15.out.size)).mono HB14.out.size)).mono HB13.out.size))
  clear hb7
  go_wp2
  go_ret
  exact ⟨rfl, HFIN.out⟩
end Go.Proofs.YtlmopoipjolbgaaGreatDoor.LexW
namespace Go.Proofs.YtlmopoipjolbgaaGreatDoor.PolicyNames
open Go.ChangeShapes Go.WideShapes Go.ChangeAt Go.RowKit Go.Lib Go.Shelf Go.Proofs.YtlmopoipjolbgaaGreatDoor.LexW Go.Proofs.YtlmopoipjolbgaaGreatDoorW.PrintWords
set_option linter.unusedVariables false
set_option linter.unusedSimpArgs false

theorem laidOut : laidOutB Tryz.prog = true := by kernel_rfl

set_option maxRecDepth 100000 in
/-- WHAT THE WALK GIVES, FOR EVERY ARGUMENT AND EVERY WORLD THAT HOLDS THE LISTED VARIABLES. -/
theorem contract (H : Type) (enc : TypeId × Value → H) (W : World) (base : Nat) (args : Array Value) (ds gs : List (DataW H)) (before : List MemPlace)
    (hval0 : ∀ (j : Nat) t v, Tryz.f6.params[j]? = some t → args[j]? = some v → Value.okWide Tryz.prog W .any base t v)
    (hW : DataW.Whole enc Tryz.prog Tryz.f6.params.toList Rows.policyNamesSpec.vars false W args.toList ds gs before)
    (hsz0 : (DataW.weightsEach Tryz.prog (Tryz.f6.params.toList ++ Rows.policyNamesSpec.plain.varTypes Tryz.prog) (ds ++ gs)).all (· ≤ reachBytes) = true)
    (hL : laidMetH Tryz.prog Rows.policyNamesRow.laid W) :
    Calls Tryz.prog 6 args W fun e W' => ∃ v, e = .returned v ∧ Rows.policyNamesSpec.post enc Tryz.prog Tryz.f6 false true false false W args v W' := by
  have hE := env_of_laid hL
  have hN := envN_of_laid hL
  have hW' := hW
  obtain ⟨p, q, hA0, hV, rfl, hfz, hnd⟩ := hW
  have hval : ∀ (j : Nat) t v, Tryz.f6.params[j]? = some t → args[j]? = some v → Value.okWide Tryz.prog W .any base t v := hval0
  have hsz := hsz0
  clear hval0 hsz0
  have hA : DataW.TrodAll enc Tryz.prog W 0 (fun _ => true) true Tryz.f6.params.toList args.toList ds p := hA0
  rw [Tryz.params6] at hA hval hsz
  obtain ⟨hargs, rfl, rfl⟩ := trodAll_nil hA
  obtain rfl : args = #[] := by cases args; simp_all
  obtain ⟨rfl, rfl⟩ := trodVars_none hV
  clear hA0
  refine (polNames_any W hE hN).mono fun e W' ⟨he, hb⟩ => ?_
  subst he
  refine ⟨_, rfl, _, _, _, [] ++ [], [], [], hW', ?_, ?_, rfl, hb.frame _, fun h => by cases h⟩
  · exact trodAll_cons_mk (shut_bool Tryz.underlying4 _) trodAll_mk0
  · exact trodAll_mk0

abbrev args0 : Array Value := #[]
theorem reads (os : Os) {H : Type} (enc : TypeId × Value → H) : ∃ places, DataW.whole enc Tryz.prog ((laidWorld os).forCall (fun _ _ => 0) ⟨#[], args0, []⟩).memory Tryz.f6.params.toList Rows.policyNamesSpec.vars false args0.toList 8 = some ([], [], places) :=
  ⟨[], by kernel_rfl⟩

set_option maxRecDepth 100000 in
theorem lifted (os : Os) (started : os.Started) (H : Type) (enc : TypeId × Value → H) (F : Stop.Interp) :
    ReturnsInHanded {} Tryz.checked os 6 .any ((OpenSpec.ofChange Rows.policyNamesSpec).preRow enc Tryz.prog Tryz.f6 Rows.policyNamesRow.domain false Rows.policyNamesRow.laid) (((OpenSpec.ofChange Rows.policyNamesSpec).at F).post enc Tryz.prog Tryz.f6 false true false false) := by
  obtain ⟨places, hx⟩ := reads os enc
  refine returnsInHanded_of_row (C := Tryz.checked) (s := OpenSpec.ofChange Rows.policyNamesSpec) own started (by kernel_rfl) Tryz.func6
    (witness_row_atRef (enc := enc) (C := Tryz.checked) false (laidWorld os) args0 rfl (by kernel_rfl) (by kernel_rfl) (by kernel_rfl)
      (OpenSpec.preRow_of_cond 8 hx (by kernel_rfl) (fun k hk => by cases hk) (by kernel_rfl) (laid_met os _))) ?_
  intro W base args ds gs before hval hW _ _ hsz hL _ _
  exact contract H enc W base args ds gs before hval hW hsz hL

theorem said : Rows.PolicyNamesSaid :=
  OpenClaim.holds_of_cond 6 Tryz.f6 rfl rfl rfl rfl rfl rfl rfl ⟨rfl, rfl, rfl, rfl, rfl⟩ rfl rfl rfl rfl rfl (by kernel_rfl) Tryz.func6 (by kernel_rfl)
    (of_decide_eq_true (by kernel_rfl)) (by unfold Func.isWrapper; first | (rw [if_pos (by decide +kernel)]; kernel_rfl) | (rw [if_neg (by decide +kernel)]; exact ⟨rfl, rfl⟩))
    (fun os started H enc _ F => by rw [OpenClaim.pre_eq_preRow]; exact lifted os started H enc F)

theorem plain (f : FuncId) (fn : Func) (hf : Tryz.pinned.checked.prog.funcNamed "ravelin/ravelinlaw06.PolicyNames" = some f) (hfn : Tryz.pinned.checked.prog.funcs[f]? = some fn) :
    true = Tryz.pinned.checked.prog.looks [] ∧ ∀ (j : Nat) t, fn.params[j]? = some t → Tryz.pinned.checked.prog.wantsStandIn t = false := by
  obtain rfl : f = 6 := Option.some.inj ((show Tryz.prog.funcNamed "ravelin/ravelinlaw06.PolicyNames" = some 6 by kernel_rfl).symm.trans hf) |>.symm
  obtain rfl : fn = Tryz.f6 := (Option.some.inj (Tryz.func6.symm.trans hfn)).symm
  refine ⟨by kernel_rfl, fun j t ht => ?_⟩
  rw [Tryz.params6] at ht
  simp at ht

theorem card : Rows.PolicyNamesCardSaid :=
  Claim7.holds_tied_plain_at .later [] _ _ _ _ said (fun _ h => by cases h) (by kernel_rfl) (fun _ h => by cases h) policyNames_row_tie rfl ⟨rfl, rfl⟩ (by kernel_rfl) rfl plain (by kernel_rfl)
end Go.Proofs.YtlmopoipjolbgaaGreatDoor.PolicyNames
