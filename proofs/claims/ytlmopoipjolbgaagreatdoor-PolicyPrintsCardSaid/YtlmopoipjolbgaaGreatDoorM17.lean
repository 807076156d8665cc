/-
  Layer 6 (policy), plain: the agreement: expressions. · Layer 6 (policy), plain: the agreement: rules, policies, whole texts. · The walk of ravelinlaw06.PolicyPrints. · PolicyPrints is proved: at every text the call returns true, and the argument reads as it did. Conditions: the form's own (what comes in is readable and each string and slice takes at most 2^47 - 4096 bytes), and the listed package-level variables start as the program's text lays them (the card ties them).
-/
import Derived.Test.YtlmopoipjolbgaaGreatDoorM16
import Derived.Test.YtlmopoipjolbgaaGreatDoorM10
import Derived.Test.YtlmopoipjolbgaaGreatDoorM11
import Derived.Test.YtlmopoipjolbgaaGreatDoorM08
import Derived.Test.YtlmopoipjolbgaaGreatDoorM06
namespace Go.Proofs.YtlmopoipjolbgaaGreatDoor.LexW
open Go.RowKit Go.Shelf Go.Proofs.YtlmopoipjolbgaaGreatDoor.LexS Go.Proofs.YtlmopoipjolbgaaGreatDoorW.PrintWords
set_option linter.unusedVariables false
set_option linter.unusedSimpArgs false

section
variable {ep : EP}
theorem kw_rel : ∀ x ∈ relsT, KW 4 x := by
  intro x hx
  simp only [relsT, List.mem_cons, List.not_mem_nil, or_false] at hx
  rcases hx with rfl | rfl | rfl | rfl | rfl | rfl
  · exact KW.sign (c := 61) (T := [61]) (by decide +kernel) (by decide +kernel)
  · exact KW.sign (c := 33) (T := [61]) (by decide +kernel) (by decide +kernel)
  · exact KW.sign (c := 60) (T := []) (by decide +kernel) (by decide +kernel)
  · exact KW.sign (c := 60) (T := [61]) (by decide +kernel) (by decide +kernel)
  · exact KW.sign (c := 62) (T := []) (by decide +kernel) (by decide +kernel)
  · exact KW.sign (c := 62) (T := [61]) (by decide +kernel) (by decide +kernel)
/-- a relation is found by its text -/
theorem relF_text {t : Tk} (h : t.kind = 4) : relF t 6 = relT t.text := by
  have hi : ∀ y, isT y t = decide (t.text = y) := fun y => by unfold isT; rw [h]; simp
  by_cases hx : t.text ∈ relsT
  · simp only [relsT, List.mem_cons, List.not_mem_nil, or_false] at hx
    simp only [relF, hi]
    rcases hx with e | e | e | e | e | e
    all_goals
      rw [e]
      decide +kernel
  · have h0 : relT t.text = 0 := by
      unfold relT
      rw [List.findIdx?_eq_none_iff.2 (fun y hy => by rw [decide_eq_false_iff_not]; intro e; rw [e] at hx; exact hx hy)]
    have hn : ∀ i, i < 6 → isT (relsT.getD i nil0) t = false := fun i hi2 => by
      rw [hi, decide_eq_false_iff_not]
      intro e
      apply hx
      rw [e, List.getD_eq_getElem?_getD, List.getElem?_eq_getElem (show i < relsT.length from hi2)]
      exact List.getElem_mem _
    simp only [relF, hn 5 (by decide), hn 4 (by decide), hn 3 (by decide), hn 2 (by decide), hn 1 (by decide), hn 0 (by decide)]
    rw [h0]; rfl
theorem relF_none {t : Tk} (ht : TkOk t) (h : ¬ t.kind = 4) : relF t 6 = 0 := by
  have hn : ∀ i, i < 6 → isT (relsT.getD i nil0) t = false := fun i hi2 => by
    have hm : relsT.getD i nil0 ∈ relsT := by
      rw [List.getD_eq_getElem?_getD, List.getElem?_eq_getElem (show i < relsT.length from hi2)]
      exact List.getElem_mem _
    rw [kw_rel _ hm t ht]
    simp [h]
  simp only [relF, hn 5 (by decide), hn 4 (by decide), hn 3 (by decide), hn 2 (by decide), hn 1 (by decide), hn 0 (by decide)]
  rfl
/-- behind the mask -/
def relL (ep : EP) (f mk : Int) (S : RS) : Ex × RS :=
  let t := kindL ep 4 S
  let S2 := if relT t.1.text = 0 then failsL 61 t.1.at_ t.2 else t.2
  let v := kindL ep 3 S2
  (⟨6, [], f, mk, relT t.1.text, v.1.num⟩, v.2)
theorem testL_rel (f : Int) (S : RS) : testL ep f S = relL ep f (maskL ep S).1 (maskL ep S).2 := rfl
theorem doom_rel {S : RS} {p : EP} (h : Doom ep S p) (f mk : Int) : Doom ep (relL ep f mk S).2 p := by
  obtain ⟨h1, h2, h3⟩ := doom_kind h (show (4 : Int) ≠ 0 by decide)
  unfold relL
  simp only
  refine (doom_kind ?_ (show (3 : Int) ≠ 0 by decide)).2.2
  split
  · exact doom_fails h3 _ _ h2
  · exact h3
theorem rel_agr (f mk : Int) {M : List Tk} (h : Good ep M) : Agr ep (if relF (hdT M) 6 = 0 then .error (badP 61 M) else bnd (stepP ep M) (fun L3 => bnd (kindP ep 3 L3) (fun q => .ok (⟨6, [], f, mk, relF (hdT M) 6, q.1.num⟩, q.2)))) (relL ep f mk ⟨M, 0, 0⟩) := by
  obtain ⟨t, r, rfl, ht⟩ := good_hd h
  unfold relL kindL
  rw [peek_good]
  by_cases h4 : t.kind = 4
  · rw [show relF (hdT (t :: r)) 6 = relT t.text from relF_text h4]
    simp only [if_pos h4, next_good]
    by_cases h0 : relT t.text = 0
    · rw [if_pos h0, if_pos h0]
      have hd : Doom ep (failsL 61 t.at_ ⟨r, 0, 0⟩) (61, t.at_) := doom_bad (M := r) (a := t.at_) (by decide)
      have h3 := (doom_kind hd (show (3 : Int) ≠ 0 by decide)).2.2
      unfold kindL at h3
      exact .bad h3
    · rw [if_neg h0, if_neg h0]
      have := take_agr (α := Ex) h (by rw [h4]; decide) (f := fun L3 => bnd (kindP ep 3 L3) (fun q => .ok (⟨6, [], f, mk, relT t.text, q.1.num⟩, q.2))) (k := fun S => ((⟨6, [], f, mk, relT t.text, (kindL ep 3 S).1.num⟩ : Ex), (kindL ep 3 S).2)) (fun M hM => agr_map (fun a : Tk => (⟨6, [], f, mk, relT t.text, a.num⟩ : Ex)) (kind_agr (k := 3) (by decide) hM)) (fun S p hp => (doom_kind hp (by decide)).2.2)
      unfold kindL at this
      exact this
  · rw [show relF (hdT (t :: r)) 6 = 0 from relF_none ht h4, if_pos rfl]
    simp only [if_neg h4]
    have hd : Doom ep (failsL 61 t.at_ ⟨t :: r, 0, 0⟩) (61, t.at_) := doom_bad (M := t :: r) (a := t.at_) (by decide)
    have he : (failsL 61 t.at_ ⟨t :: r, 0, 0⟩).err ≠ 0 := fails_err (by decide)
    have hd2 : Doom ep (if relT tkz.text = 0 then failsL 61 tkz.at_ (failsL 61 t.at_ ⟨t :: r, 0, 0⟩) else failsL 61 t.at_ ⟨t :: r, 0, 0⟩) (61, t.at_) := by
      split
      · exact doom_fails hd _ _ he
      · exact hd
    have h3 := (doom_kind hd2 (show (3 : Int) ≠ 0 by decide)).2.2
    unfold kindL at h3
    exact .bad h3
/-- test, behind the field's word -/
theorem test_agr (f : Int) {M : List Tk} (h : Good ep M) : Agr ep (bnd (maskP ep M) (fun p => if relF (hdT p.2) 6 = 0 then .error (badP 61 p.2) else bnd (stepP ep p.2) (fun L3 => bnd (kindP ep 3 L3) (fun q => .ok (⟨6, [], f, p.1, relF (hdT p.2) 6, q.1.num⟩, q.2))))) (testL ep f ⟨M, 0, 0⟩) := by
  rw [testL_rel]
  exact agr_bnd (k := fun mk S => relL ep f mk S) (mask_agr h) (fun M hM => rel_agr f _ hM) (fun S p hp => doom_rel hp _ _)
theorem more_agr {α : Type} {one : List Tk → Rd α} {oneL' : RS → α × RS} (h1 : ∀ M, Good ep M → Agr ep (one M) (oneL' ⟨M, 0, 0⟩)) (hd : ∀ S p, Doom ep S p → Doom ep (oneL' S).2 p) {k : Int} {x : ByteArray} (hx : KW k x) (hk : k ≠ 1) : ∀ n l M, Good ep M → Agr ep (moreP ep one x n l M) (moreL ep oneL' k x n l ⟨M, 0, 0⟩) := by
  intro n
  induction n with
  | zero => intro l M h; exact .ok h.ne h.ok h.fine
  | succ n ih =>
    intro l M h
    unfold moreP moreL
    rw [if_pos rfl]
    refine agr_bnd (k := fun b S => if b = true then moreL ep oneL' k x n (l ++ [(oneL' S).1]) (oneL' S).2 else (l, S)) (is_agr hx hk h) (fun M hM => ?_) (fun S p hp => ?_)
    · show Agr ep (if _ then _ else _) (if _ then _ else _)
      split
      · exact agr_bnd (k := fun a S => moreL ep oneL' k x n (l ++ [a]) S) (h1 M hM) (fun M hM => ih _ _ hM) (fun S p hp => doom_more _ _ _ _ hp)
      · exact .ok hM.ne hM.ok hM.fine
    · show Doom ep (if _ then _ else _ : List α × RS).2 p
      split
      · exact doom_more _ _ _ _ (hd _ _ hp)
      · exact hp
/-- the rounds that are counted: as many as there are tokens -/
theorem turns_agr {α : Type} {one : List Tk → Rd α} {oneL' : RS → α × RS} (h1 : ∀ M, Good ep M → Agr ep (one M) (oneL' ⟨M, 0, 0⟩)) (hd : ∀ S p, Doom ep S p → Doom ep (oneL' S).2 p) {k : Int} {x : ByteArray} (hx : KW k x) (hk : k ≠ 1) {M : List Tk} (h : Good ep M) :
    Agr ep (turnsP ep one x M) (moreL ep oneL' k x ((oneL' ⟨M, 0, 0⟩).2.M.length + 1) [(oneL' ⟨M, 0, 0⟩).1] (oneL' ⟨M, 0, 0⟩).2) := by
  unfold turnsP
  exact agr_bnd (k := fun a S => moreL ep oneL' k x (S.M.length + 1) [a] S) (h1 M h) (fun M hM => more_agr h1 hd hx hk _ _ _ hM) (fun S p hp => doom_more _ _ _ _ hp)
theorem all_agr {one : List Tk → Rd Ex} {oneL' : RS → Ex × RS} (h1 : ∀ M, Good ep M → Agr ep (one M) (oneL' ⟨M, 0, 0⟩)) (hd : ∀ S p, Doom ep S p → Doom ep (oneL' S).2 p) {M : List Tk} (h : Good ep M) : Agr ep (allP ep one M) (allL ep oneL' ⟨M, 0, 0⟩) := by
  unfold allP allL
  exact agr_map (joinE 4) (turns_agr h1 hd kw_and (by decide) h)
theorem expr_agr {one : List Tk → Rd Ex} {oneL' : RS → Ex × RS} (h1 : ∀ M, Good ep M → Agr ep (one M) (oneL' ⟨M, 0, 0⟩)) (hd : ∀ S p, Doom ep S p → Doom ep (oneL' S).2 p) {M : List Tk} (h : Good ep M) : Agr ep (exprP ep one M) (exprL ep oneL' ⟨M, 0, 0⟩) := by
  unfold exprP exprL
  exact agr_map (joinE 5) (turns_agr (fun M hM => all_agr h1 hd hM) (fun S p hp => doom_all hd hp) kw_or (by decide) h)
/-- what is neither nested: the word is taken already -/
theorem atom_agr {t : Tk} {r : List Tk} (h : Good ep (t :: r)) (ht : TkOk t) (hn : isT sNot t = false) (ho : isT sOpen t = false) : Agr ep (atomP ep (t :: r)) (atomL ep t ⟨r, 0, 0⟩) := by
  unfold atomP atomL
  rw [show isT sTrue (hdT (t :: r)) = _ from kw_true t ht, show isT sFalse (hdT (t :: r)) = _ from kw_false t ht]
  by_cases h2 : t.kind = 2
  · rw [if_pos h2]
    have hf : (fun x => isT x (hdT (t :: r))) = (fun y => decide (t.text = y)) := funext (fun y => by show isT y t = _; unfold isT; rw [h2]; simp)
    rw [hf]
    by_cases h3 : t.text = sTrue
    · rw [if_pos h3, if_pos (by simp [h2, h3])]
      exact take_agr h (by rw [h2]; decide) (k := fun S => ((⟨1, [], 0, 0, 0, 0⟩ : Ex), S)) (fun M hM => .ok hM.ne hM.ok hM.fine) (fun S p hp => hp)
    · rw [if_neg h3, if_neg (by simp [h3])]
      by_cases h4 : t.text = sFalse
      · rw [if_pos h4, if_pos (by simp [h2, h4])]
        exact take_agr h (by rw [h2]; decide) (k := fun S => ((⟨2, [], 0, 0, 0, 0⟩ : Ex), S)) (fun M hM => .ok hM.ne hM.ok hM.fine) (fun S p hp => hp)
      · rw [if_neg h4, if_neg (by simp [h4])]
        unfold fieldT
        cases fieldsT.findIdx? (fun y => decide (t.text = y)) with
        | none =>
          rw [if_neg (by decide)]
          exact .bad (doom_bad (M := r) (a := t.at_) (by decide))
        | some i =>
          rw [if_pos (by show (0 : Int) ≤ (i : Int); omega)]
          exact take_agr h (by rw [h2]; decide) (k := fun S => testL ep (i : Int) S) (fun M hM => test_agr (i : Int) hM) (fun S p hp => doom_test hp _)
  · rw [if_neg h2, if_neg (by simp [h2]), if_neg (by simp [h2])]
    have hf : fieldsT.findIdx? (fun x => isT x (hdT (t :: r))) = none := List.findIdx?_eq_none_iff.2 (fun y hy => by rw [show isT y (hdT (t :: r)) = _ from kw_field y hy t ht]; simp [h2])
    rw [hf]
    exact .bad (doom_bad (M := r) (a := t.at_) (by decide))
theorem one_agr : ∀ (k : Nat) (M : List Tk), Good ep M → Agr ep (oneP ep k M) (oneL ep k ⟨M, 0, 0⟩) := by
  intro k
  induction k with
  | zero =>
    intro M h
    obtain ⟨t, r, rfl, ht⟩ := good_hd h
    unfold oneP oneL
    show Agr ep _ (if (0 : Int) = 0 then (if t.kind = 2 ∧ t.text = sNot then (zEx, failsL 62 t.at_ (⟨r, 0, 0⟩ : RS)) else if t.kind = 4 ∧ t.text = sOpen then (zEx, failsL 62 t.at_ (⟨r, 0, 0⟩ : RS)) else atomL ep t ⟨r, 0, 0⟩) else (zEx, (⟨r, 0, 0⟩ : RS)))
    rw [if_pos (rfl : (0 : Int) = 0), show isT sNot (hdT (t :: r)) = _ from kw_not t ht, show isT sOpen (hdT (t :: r)) = _ from kw_open t ht]
    by_cases h2 : t.kind = 2 ∧ t.text = sNot
    · rw [if_pos h2, if_pos (by simp [h2.1, h2.2])]
      exact .bad (doom_bad (M := r) (a := t.at_) (by decide))
    · have e2 : (decide (t.kind = 2) && decide (t.text = sNot)) = false := by rw [← Bool.decide_and, decide_eq_false_iff_not]; exact h2
      rw [if_neg h2, e2, if_neg (by decide)]
      by_cases h4 : t.kind = 4 ∧ t.text = sOpen
      · rw [if_pos h4, if_pos (by simp [h4.1, h4.2])]
        exact .bad (doom_bad (M := r) (a := t.at_) (by decide))
      · have e4 : (decide (t.kind = 4) && decide (t.text = sOpen)) = false := by rw [← Bool.decide_and, decide_eq_false_iff_not]; exact h4
        rw [if_neg h4, e4, if_neg (by decide)]
        exact atom_agr h ht (by rw [kw_not t ht, e2]) (by rw [kw_open t ht, e4])
  | succ k ih =>
    intro M h
    obtain ⟨t, r, rfl, ht⟩ := good_hd h
    unfold oneP
    rw [oneL]
    show Agr ep _ (if (0 : Int) = 0 then (if t.kind = 2 ∧ t.text = sNot then (⟨3, [(oneL ep k ⟨r, 0, 0⟩).1], 0, 0, 0, 0⟩, (oneL ep k ⟨r, 0, 0⟩).2) else if t.kind = 4 ∧ t.text = sOpen then ((exprL ep (oneL ep k) ⟨r, 0, 0⟩).1, wantL ep 4 sShut (exprL ep (oneL ep k) ⟨r, 0, 0⟩).2) else atomL ep t ⟨r, 0, 0⟩) else (zEx, (⟨r, 0, 0⟩ : RS)))
    rw [if_pos (rfl : (0 : Int) = 0), show isT sNot (hdT (t :: r)) = _ from kw_not t ht, show isT sOpen (hdT (t :: r)) = _ from kw_open t ht]
    by_cases h2 : t.kind = 2 ∧ t.text = sNot
    · rw [if_pos h2, if_pos (by simp [h2.1, h2.2])]
      exact take_agr h (by rw [h2.1]; decide) (k := fun S => ((⟨3, [(oneL ep k S).1], 0, 0, 0, 0⟩ : Ex), (oneL ep k S).2)) (fun M hM => agr_map (fun a : Ex => (⟨3, [a], 0, 0, 0, 0⟩ : Ex)) (ih M hM)) (fun S p hp => doom_one k hp)
    · have e2 : (decide (t.kind = 2) && decide (t.text = sNot)) = false := by rw [← Bool.decide_and, decide_eq_false_iff_not]; exact h2
      rw [if_neg h2, e2, if_neg (by decide)]
      by_cases h4 : t.kind = 4 ∧ t.text = sOpen
      · rw [if_pos h4, if_pos (by simp [h4.1, h4.2])]
        refine take_agr h (by rw [h4.1]; decide) (k := fun S => ((exprL ep (oneL ep k) S).1, wantL ep 4 sShut (exprL ep (oneL ep k) S).2)) (fun M1 hM1 => ?_) (fun S p hp => doom_want (doom_expr (fun _ _ h => doom_one k h) hp) _ _)
        refine agr_bnd (k := fun a S => (a, wantL ep 4 sShut S)) (expr_agr ih (fun _ _ h => doom_one k h) hM1) (fun M hM => ?_) (fun S p hp => doom_want hp _ _)
        exact agr_map (fun _ : Unit => (exprL ep (oneL ep k) ⟨M1, 0, 0⟩).1) (want_agr kw_shut (by decide) hM)
      · have e4 : (decide (t.kind = 4) && decide (t.text = sOpen)) = false := by rw [← Bool.decide_and, decide_eq_false_iff_not]; exact h4
        rw [if_neg h4, e4, if_neg (by decide)]
        exact atom_agr h ht (by rw [kw_not t ht, e2]) (by rw [kw_open t ht, e4])
end
end Go.Proofs.YtlmopoipjolbgaaGreatDoor.LexW
namespace Go.Proofs.YtlmopoipjolbgaaGreatDoor.LexW
open Go.RowKit Go.Shelf Go.Proofs.YtlmopoipjolbgaaGreatDoor.LexS Go.Proofs.YtlmopoipjolbgaaGreatDoorW.PrintWords
set_option linter.unusedVariables false
set_option linter.unusedSimpArgs false

section
variable {ep : EP}
theorem doom_len0 {S : RS} {p : EP} (h : Doom ep S p) : True := trivial
/-- calls: the reference's rounds are the plain turns -/
theorem calls_agr : ∀ n l M, Good ep M → M.length ≤ n → ∀ m, (∀ x M1, callP ep M = .ok (x, M1) → M1.length < m) → Agr ep (bnd (callP ep M) (fun p => moreP ep (callP ep) sComma m (l ++ [p.1]) p.2)) (callsL ep (n + 1) l ⟨M, 0, 0⟩) := by
  intro n
  induction n with
  | zero => intro l M h hl; exact absurd (List.length_eq_zero_iff.1 (Nat.le_zero.1 hl)) h.ne
  | succ n ih =>
    intro l M h hl m hm
    have hc := call_agr h
    have hshr : ∀ x M1, callP ep M = .ok (x, M1) → M1.length + 1 = M.length := fun x M1 e => by
      unfold callP at e
      have key : ∀ k : Int, k ≠ 1 → ∀ y, kindP ep k M = .ok (y, M1) → M1.length + 1 = M.length := fun k hk y e2 => by
        unfold kindP at e2
        split at e2
        · try rw [if_neg hk] at e2
          obtain ⟨L1, h1, h2⟩ := bnd_inv e2
          obtain ⟨t, h3, _⟩ := stepP_ok h1
          cases h2
          rw [h3]; rfl
        · cases e2
      split at e
      · obtain ⟨a, h1, h2⟩ := bnd_inv e
        obtain ⟨a1, a2⟩ := a
        cases h2
        exact key 3 (by decide) a1 h1
      · obtain ⟨a, h1, h2⟩ := bnd_inv e
        obtain ⟨a1, a2⟩ := a
        cases h2
        exact key 2 (by decide) a1 h1
    rw [show callsL ep (n + 1 + 1) l ⟨M, 0, 0⟩ = (if (isL ep 4 sComma (callL ep ⟨M, 0, 0⟩).2).1 = true then callsL ep (n + 1) (l ++ [(callL ep ⟨M, 0, 0⟩).1]) (isL ep 4 sComma (callL ep ⟨M, 0, 0⟩).2).2 else (l ++ [(callL ep ⟨M, 0, 0⟩).1], (isL ep 4 sComma (callL ep ⟨M, 0, 0⟩).2).2)) from rfl]
    revert hc hshr hm
    generalize callP ep M = r
    generalize callL ep ⟨M, 0, 0⟩ = q
    intro hm hc hshr
    cases hc with
    | bad hb =>
      rename_i p a S
      obtain ⟨h1, h2, h3⟩ := doom_is hb 4 sComma
      rw [if_neg (by rw [h1]; decide)]
      exact .bad h3
    | ok hM hT hF =>
      rename_i a M1
      have hg : Good ep M1 := ⟨hM, hT, hF⟩
      have h1 := hm a M1 rfl
      have h2 := hshr a M1 rfl
      obtain ⟨m, rfl⟩ : ∃ j, m = j + 1 := ⟨m - 1, by omega⟩
      rw [bnd_ok]
      show Agr ep (moreP ep (callP ep) sComma (m + 1) (l ++ [a]) M1) (if (isL ep 4 sComma ⟨M1, 0, 0⟩).1 = true then callsL ep (n + 1) (l ++ [a]) (isL ep 4 sComma ⟨M1, 0, 0⟩).2 else (l ++ [a], (isL ep 4 sComma ⟨M1, 0, 0⟩).2))
      unfold moreP
      have hi := is_agr kw_comma (by decide) hg
      have hms : ∀ b L', maybeP ep sComma M1 = .ok (b, L') → b = true → L'.length + 1 = M1.length := fun b L' e hb => (maybeP_shr e).2 hb
      revert hi hms
      generalize maybeP ep sComma M1 = r2
      generalize isL ep 4 sComma ⟨M1, 0, 0⟩ = q2
      intro hi hms
      cases hi with
      | bad hb =>
        rename_i p b S
        cases b with
        | true => exact .bad (doom_calls (n + 1) (l ++ [a]) S p hb)
        | false => exact .bad hb
      | ok hM hT hF =>
        rename_i b M2
        have hg2 : Good ep M2 := ⟨hM, hT, hF⟩
        rw [bnd_ok]
        cases b with
        | false => exact .ok hM hT hF
        | true =>
          have h3 := hms true M2 rfl rfl
          show Agr ep (bnd (callP ep M2) (fun q => moreP ep (callP ep) sComma m (l ++ [a] ++ [q.1]) q.2)) (callsL ep (n + 1) (l ++ [a]) ⟨M2, 0, 0⟩)
          exact ih (l ++ [a]) M2 hg2 (by omega) m (fun x M3 e => by have := callP_shr ep _ _ _ e; omega)
theorem when_agr {M : List Tk} (h : Good ep M) : Agr ep (bnd (maybeP ep sWhen M) (fun m => if m.1 = true then exprP ep (oneP ep 64) m.2 else .ok (⟨1, [], 0, 0, 0, 0⟩, m.2))) (whenL ep ⟨M, 0, 0⟩) := by
  unfold whenL
  refine agr_bnd (k := fun b S => if b = true then exprL ep (oneL ep 64) S else (⟨1, [], 0, 0, 0, 0⟩, S)) (is_agr kw_when (by decide) h) (fun M hM => ?_) (fun S p hp => ?_)
  · show Agr ep (if _ then _ else _) (if _ then _ else _)
    split
    · exact expr_agr (one_agr 64) (fun _ _ h => doom_one 64 h) hM
    · exact .ok hM.ne hM.ok hM.fine
  · show Doom ep (if _ then _ else _ : Ex × RS).2 p
    split
    · exact doom_expr (fun _ _ h => doom_one 64 h) hp
    · exact hp
theorem bnd_assoc {α β γ : Type} (x : Except EP α) (f : α → Except EP β) (g : β → Except EP γ) : bnd (bnd x f) g = bnd x (fun a => bnd (f a) g) := by cases x <;> rfl
theorem rule_agr {M : List Tk} (h : Good ep M) : Agr ep (ruleP ep M) (ruleL ep ⟨M, 0, 0⟩) := by
  have hr : ruleP ep M = bnd (turnsP ep (callP ep) sComma M) (fun p => bnd (bnd (maybeP ep sWhen p.2) (fun m => if m.1 = true then exprP ep (oneP ep 64) m.2 else .ok (⟨1, [], 0, 0, 0, 0⟩, m.2))) (fun x =>
      bnd (wantP ep sDo x.2) (fun d => bnd (verdictP ep d.2) (fun v => bnd (wantP ep sSemi v.2) (fun z => .ok (⟨p.1, x.1, v.1⟩, z.2)))))) := by
    unfold ruleP
    congr 1
    funext p
    rw [bnd_assoc]
  rw [hr]
  have ht : Agr ep (turnsP ep (callP ep) sComma M) (callsL ep (M.length + 1) [] ⟨M, 0, 0⟩) := by
    unfold turnsP
    have hm := calls_agr (ep := ep) M.length [] M h (Nat.le_refl _) (M.length + 1) (fun x M1 e => by have := callP_shr ep _ _ _ e; omega)
    have he : bnd (callP ep M) (fun p => moreP ep (callP ep) sComma (p.2.length + 1) [p.1] p.2) = bnd (callP ep M) (fun p => moreP ep (callP ep) sComma (M.length + 1) ([] ++ [p.1]) p.2) := by
      cases hc : callP ep M with
      | error e => rfl
      | ok a =>
        have := callP_shr ep _ _ _ hc
        exact moreP_enough ep (callP_shr ep) sComma _ _ _ _ (by omega) (by omega)
    rw [he]
    exact hm
  unfold ruleL
  refine agr_bnd (k := fun c S => ((⟨c, (whenL ep S).1, (verdictL ep (wantL ep 2 sDo (whenL ep S).2)).1⟩ : Rl), wantL ep 4 sSemi (verdictL ep (wantL ep 2 sDo (whenL ep S).2)).2)) ht (fun M1 hM1 => ?_) (fun S p hp => doom_want (doom_verdict (doom_want (doom_when hp) _ _)) _ _)
  refine agr_bnd (k := fun x S => ((⟨_, x, (verdictL ep (wantL ep 2 sDo S)).1⟩ : Rl), wantL ep 4 sSemi (verdictL ep (wantL ep 2 sDo S)).2)) (when_agr hM1) (fun M2 hM2 => ?_) (fun S p hp => doom_want (doom_verdict (doom_want hp _ _)) _ _)
  refine agr_bnd (q := ((), wantL ep 2 sDo ⟨M2, 0, 0⟩)) (k := fun _ S => ((⟨_, _, (verdictL ep S).1⟩ : Rl), wantL ep 4 sSemi (verdictL ep S).2)) (want_agr kw_do (by decide) hM2) (fun M3 hM3 => ?_) (fun S p hp => doom_want (doom_verdict hp) _ _)
  refine agr_bnd (k := fun v S => ((⟨_, _, v⟩ : Rl), wantL ep 4 sSemi S)) (verdict_agr hM3) (fun M4 hM4 => ?_) (fun S p hp => doom_want hp _ _)
  exact agr_map (fun _ : Unit => (⟨_, _, _⟩ : Rl)) (want_agr kw_semi (by decide) hM4)
theorem rules_agr : ∀ n l M, Good ep M → Agr ep (rulesP ep n l M) (rulesL ep n l ⟨M, 0, 0⟩) := by
  intro n
  induction n with
  | zero => intro l M h; exact .ok h.ne h.ok h.fine
  | succ n ih =>
    intro l M h
    obtain ⟨t, r, rfl, ht⟩ := good_hd h
    unfold rulesP
    rw [show rulesL ep (n + 1) l ⟨t :: r, 0, 0⟩ = if (0 : Int) = 0 then (if (isL ep 2 sOn (peekL ep ⟨t :: r, 0, 0⟩).2).1 = true then (if l.length = 512 then (l, failsL 63 (peekL ep ⟨t :: r, 0, 0⟩).1.at_ (isL ep 2 sOn (peekL ep ⟨t :: r, 0, 0⟩).2).2) else rulesL ep n (l ++ [(ruleL ep (isL ep 2 sOn (peekL ep ⟨t :: r, 0, 0⟩).2).2).1]) (ruleL ep (isL ep 2 sOn (peekL ep ⟨t :: r, 0, 0⟩).2).2).2) else (l, (isL ep 2 sOn (peekL ep ⟨t :: r, 0, 0⟩).2).2)) else (l, ⟨t :: r, 0, 0⟩) from rfl]
    rw [show isT sOn (hdT (t :: r)) = _ from kw_on t ht]
    have hi : isL ep 2 sOn (peekL ep ⟨t :: r, 0, 0⟩).2 = if t.kind = 2 then (if t.text = sOn then (true, (⟨r, 0, 0⟩ : RS)) else (false, ⟨t :: r, 0, 0⟩)) else (false, ⟨t :: r, 0, 0⟩) := rfl
    rw [if_pos (rfl : (0 : Int) = 0), hi]
    by_cases h2 : t.kind = 2
    · by_cases h3 : t.text = sOn
      · rw [if_pos h2, if_pos h3, if_pos (by simp [h2, h3])]
        show Agr ep (if l.length = 512 then _ else _) (if l.length = 512 then (l, failsL 63 t.at_ ⟨r, 0, 0⟩) else rulesL ep n (l ++ [(ruleL ep ⟨r, 0, 0⟩).1]) (ruleL ep ⟨r, 0, 0⟩).2)
        by_cases h5 : l.length = 512
        · rw [if_pos h5, if_pos h5]
          exact .bad (doom_bad (M := r) (a := t.at_) (by decide))
        · rw [if_neg h5, if_neg h5]
          exact take_agr h (by rw [h2]; decide) (k := fun S => rulesL ep n (l ++ [(ruleL ep S).1]) (ruleL ep S).2) (fun M hM => agr_bnd (k := fun a S => rulesL ep n (l ++ [a]) S) (rule_agr hM) (fun M hM => ih _ _ hM) (fun S p hp => doom_rules _ _ _ _ hp)) (fun S p hp => doom_rules _ _ _ _ (doom_rule hp))
      · rw [if_pos h2, if_neg h3, if_neg (by simp [h3])]
        exact .ok h.ne h.ok h.fine
    · rw [if_neg h2, if_neg (by simp [h2])]
      exact .ok h.ne h.ok h.fine
end
theorem agr_unit {β : Type} {ep : EP} {r : Rd Unit} {S : RS} {f : Unit × List Tk → Rd β} {k : RS → β × RS} (h : Agr ep r ((), S)) (hf : ∀ M, Good ep M → Agr ep (f ((), M)) (k ⟨M, 0, 0⟩)) (hd : ∀ S p, Doom ep S p → Doom ep (k S).2 p) : Agr ep (bnd r f) (k S) :=
  agr_bnd (q := ((), S)) (k := fun _ S => k S) h hf hd
/-- the last steps of a policy -/
def pol9 (ep : EP) (a : ByteArray) (f d : Vd) (S : RS) : Po × RS := (⟨a, f, d, (rulesL ep (S.M.length + 1) [] S).1⟩, (rulesL ep (S.M.length + 1) [] S).2)
def pol8 (ep : EP) (a : ByteArray) (f d : Vd) (S : RS) : Po × RS := pol9 ep a f d (wantL ep 4 sSemi S)
def pol7 (ep : EP) (a : ByteArray) (f : Vd) (S : RS) : Po × RS := pol8 ep a f (verdictL ep S).1 (verdictL ep S).2
def pol6 (ep : EP) (a : ByteArray) (f : Vd) (S : RS) : Po × RS := pol7 ep a f (wantL ep 2 sDefault S)
def pol5 (ep : EP) (a : ByteArray) (f : Vd) (S : RS) : Po × RS := pol6 ep a f (wantL ep 4 sSemi S)
def pol4 (ep : EP) (a : ByteArray) (S : RS) : Po × RS := pol5 ep a (verdictL ep S).1 (verdictL ep S).2
def pol3 (ep : EP) (a : ByteArray) (S : RS) : Po × RS := pol4 ep a (wantL ep 2 sForeign S)
def pol2 (ep : EP) (a : ByteArray) (S : RS) : Po × RS := pol3 ep a (wantL ep 4 sSemi S)
def pol1 (ep : EP) (S : RS) : Po × RS := pol2 ep (kindL ep 2 S).1.text (kindL ep 2 S).2
theorem policyL_is (ep : EP) (S : RS) : policyL ep S = pol1 ep (wantL ep 2 sArch S) := rfl
section
variable {ep : EP}
theorem doom9 {a : ByteArray} {f d : Vd} {S : RS} {p : EP} (h : Doom ep S p) : Doom ep (pol9 ep a f d S).2 p := doom_rules _ _ _ _ h
theorem doom8 {a : ByteArray} {f d : Vd} {S : RS} {p : EP} (h : Doom ep S p) : Doom ep (pol8 ep a f d S).2 p := doom9 (doom_want h _ _)
theorem doom7 {a : ByteArray} {f : Vd} {S : RS} {p : EP} (h : Doom ep S p) : Doom ep (pol7 ep a f S).2 p := doom8 (doom_verdict h)
theorem doom6 {a : ByteArray} {f : Vd} {S : RS} {p : EP} (h : Doom ep S p) : Doom ep (pol6 ep a f S).2 p := doom7 (doom_want h _ _)
theorem doom5 {a : ByteArray} {f : Vd} {S : RS} {p : EP} (h : Doom ep S p) : Doom ep (pol5 ep a f S).2 p := doom6 (doom_want h _ _)
theorem doom4 {a : ByteArray} {S : RS} {p : EP} (h : Doom ep S p) : Doom ep (pol4 ep a S).2 p := doom5 (doom_verdict h)
theorem doom3 {a : ByteArray} {S : RS} {p : EP} (h : Doom ep S p) : Doom ep (pol3 ep a S).2 p := doom4 (doom_want h _ _)
theorem doom2 {a : ByteArray} {S : RS} {p : EP} (h : Doom ep S p) : Doom ep (pol2 ep a S).2 p := doom3 (doom_want h _ _)
theorem doom1 {S : RS} {p : EP} (h : Doom ep S p) : Doom ep (pol1 ep S).2 p := doom2 (doom_kind h (by decide)).2.2
theorem policy_agr {M : List Tk} (h : Good ep M) : Agr ep (policyP ep M) (policyL ep ⟨M, 0, 0⟩) := by
  rw [policyL_is]
  unfold policyP
  refine agr_unit (k := fun S => pol1 ep S) (want_agr kw_arch (by decide) h) (fun M1 h1 => ?_) (fun S p hp => doom1 hp)
  refine agr_bnd (k := fun a S => pol2 ep a.text S) (kind_agr (k := 2) (by decide) h1) (fun M2 h2 => ?_) (fun S p hp => doom2 hp)
  refine agr_unit (k := fun S => pol3 ep _ S) (want_agr kw_semi (by decide) h2) (fun M3 h3 => ?_) (fun S p hp => doom3 hp)
  refine agr_unit (k := fun S => pol4 ep _ S) (want_agr kw_foreign (by decide) h3) (fun M4 h4 => ?_) (fun S p hp => doom4 hp)
  refine agr_bnd (k := fun f S => pol5 ep _ f S) (verdict_agr h4) (fun M5 h5 => ?_) (fun S p hp => doom5 hp)
  refine agr_unit (k := fun S => pol6 ep _ _ S) (want_agr kw_semi (by decide) h5) (fun M6 h6 => ?_) (fun S p hp => doom6 hp)
  refine agr_unit (k := fun S => pol7 ep _ _ S) (want_agr kw_default (by decide) h6) (fun M7 h7 => ?_) (fun S p hp => doom7 hp)
  refine agr_bnd (k := fun d S => pol8 ep _ _ d S) (verdict_agr h7) (fun M8 h8 => ?_) (fun S p hp => doom8 hp)
  refine agr_unit (k := fun S => pol9 ep _ _ _ S) (want_agr kw_semi (by decide) h8) (fun M9 h9 => ?_) (fun S p hp => doom9 hp)
  exact agr_map (fun r : List Rl => (⟨_, _, _, r⟩ : Po)) (rules_agr _ _ _ h9)
end
theorem toks_ok (s : ByteArray) : ∀ (f k : Nat), ∀ t ∈ (toksF f s k).1, TkOk t := by
  intro f
  induction f with
  | zero => intro k t ht; cases ht
  | succ f ih =>
    intro k t ht
    by_cases he : errOf (nextV s k) = 0
    · obtain ⟨_, _, ⟨hend, _⟩ | ⟨p, q, _, hkp, hpq, hq, h1, _, _, hpl⟩⟩ := next_ok s k he
      · rw [toks_end he (by rw [hend])] at ht
        rw [List.mem_singleton.1 ht, hend]
        exact .inl ⟨rfl, rfl⟩
      · rw [toks_more he h1 hpl] at ht
        rcases List.mem_cons.1 ht with rfl | ht
        · exact .inr (tok_like s k he h1)
        · exact ih q t ht
    · rw [toks_err he] at ht; cases ht
theorem whole_agr {α : Type} (z : α) {fP : EP → List Tk → Rd α} {fL : EP → RS → α × RS} (h1 : ∀ ep M, Good ep M → Agr ep (fP ep M) (fL ep ⟨M, 0, 0⟩)) (hd : ∀ ep S p, Doom ep S p → Doom ep (fL ep S).2 p) (s : ByteArray) :
    wholeL z fL s = (match wholeP fP s with | .ok x => (x, (0, 0)) | .error e => (z, e)) := by
  have hfin := toksF_fine s (s.size + 1) 0 (by omega)
  have hok := toks_ok s (s.size + 2) 0
  have hn1 : (toks s).1 = [] → (toks s).2.1 ≠ 0 := hfin.1
  have hn2 : (toks s).1 ≠ [] → Fine (toks s).2 (toks s).1 := hfin.2
  have hok' : ∀ t ∈ (toks s).1, TkOk t := hok
  unfold wholeL
  have fin : ∀ S p, Doom (toks s).2 S p → (if (kindL (toks s).2 1 S).2.err = 0 then ((fL (toks s).2 ⟨(toks s).1, 0, 0⟩).1, ((0 : Int), (0 : Int))) else (z, ((kindL (toks s).2 1 S).2.err, (kindL (toks s).2 1 S).2.bad))) = (z, p) := fun S p h => by
    obtain ⟨_, h2, h3⟩ := doom_kind h (show (1 : Int) ≠ 0 by decide)
    rw [if_neg h2]
    obtain ⟨_, ⟨h4, h5⟩ | ⟨h4, _⟩⟩ := h3
    · rw [h4, h5]
    · exact absurd h4 h2
  by_cases h0 : (toks s).1 = []
  · have hw : wholeP fP s = .error (toks s).2 := by unfold wholeP; rw [h0]
    rw [hw]
    exact fin _ _ (hd _ _ _ ⟨hn1 h0, .inr ⟨rfl, h0, rfl⟩⟩)
  · have hw : wholeP fP s = bnd (fP (toks s).2 (toks s).1) (fun p => bnd (kindP (toks s).2 1 p.2) (fun _ => .ok p.1)) := by
      unfold wholeP
      split
      · rename_i h; exact absurd h h0
      · rfl
    rw [hw]
    have ha := h1 (toks s).2 (toks s).1 ⟨h0, hok', hn2 h0⟩
    revert ha fin
    generalize fP (toks s).2 (toks s).1 = r
    generalize fL (toks s).2 ⟨(toks s).1, 0, 0⟩ = q
    intro fin ha
    cases ha with
    | bad hb => exact fin _ _ hb
    | ok hM hT hF =>
      rename_i a M
      obtain ⟨t, rr, rfl, ht⟩ := good_hd (ep := (toks s).2) ⟨hM, hT, hF⟩
      rw [bnd_ok]
      show (if (kindL (toks s).2 1 ⟨t :: rr, 0, 0⟩).2.err = 0 then (a, ((0 : Int), (0 : Int))) else (z, ((kindL (toks s).2 1 ⟨t :: rr, 0, 0⟩).2.err, (kindL (toks s).2 1 ⟨t :: rr, 0, 0⟩).2.bad))) = (match bnd (kindP (toks s).2 1 (t :: rr)) (fun _ => .ok a) with | .ok x => (x, (0, 0)) | .error e => (z, e))
      have hk : kindL (toks s).2 1 ⟨t :: rr, 0, 0⟩ = if t.kind = 1 then (t, (⟨rr, 0, 0⟩ : RS)) else (tkz, failsL 61 t.at_ ⟨t :: rr, 0, 0⟩) := rfl
      have hp : kindP (toks s).2 1 (t :: rr) = if t.kind = 1 then .ok (t, t :: rr) else .error (badP 61 (t :: rr)) := rfl
      rw [hk, hp]
      by_cases h1 : t.kind = 1
      · rw [if_pos h1, if_pos h1]; rfl
      · rw [if_neg h1, if_neg h1]; rfl
theorem exprV_same (s : ByteArray) : wholeL zEx (fun ep S => exprL ep (oneL ep 64) S) s = exprV s := by
  unfold exprV
  rw [whole_agr (fP := fun ep => exprP ep (oneP ep 64)) zEx (fun ep M h => expr_agr (one_agr 64) (fun _ _ h => doom_one 64 h) h) (fun ep S p h => doom_expr (fun _ _ h => doom_one 64 h) h) s]
  cases wholeP (fun ep => exprP ep (oneP ep 64)) s <;> rfl
theorem parseV_same (s : ByteArray) : wholeL zPo policyL s = parseV s := by
  unfold parseV
  rw [whole_agr (fP := policyP) zPo (fun ep M h => policy_agr h) (fun ep S p h => by rw [policyL_is]; exact doom1 (doom_want h _ _)) s]
  cases wholeP policyP s <;> rfl
end Go.Proofs.YtlmopoipjolbgaaGreatDoor.LexW
namespace Go.Proofs.YtlmopoipjolbgaaGreatDoor.LexW
open Go.RowKit Go.Shelf Go.Proofs.YtlmopoipjolbgaaGreatDoor.LexS Go.Proofs.YtlmopoipjolbgaaGreatDoorW.PrintWords
set_option linter.unusedVariables false
set_option linter.unusedSimpArgs false

set_option maxHeartbeats 8000000 in
set_option maxRecDepth 100000 in
theorem printsLaw_any (s : ByteArray) (w : World) (hE : Env w) (hN : EnvN w) :
    Calls Tryz.prog 4 #[.string s] w fun e w' => e = .returned (.bool true) ∧ Below w.heap.size w w' := by
  obtain ⟨P, e1, q1, hv1⟩ : ∃ P e1 q1, parseV s = (P, (e1, q1)) := ⟨_, _, _, rfl⟩
  obtain ⟨X, f1, r1, hx1⟩ : ∃ X f1 r1, exprV s = (X, (f1, r1)) := ⟨_, _, _, rfl⟩
  have hv2 : parseLV s = (P, (e1, q1)) := (parseV_same s).trans hv1
  have hx2 : exprLV s = (X, (f1, r1)) := (exprV_same s).trans hx1
  have HPV := Lib.hid (fun h => parseV_val hv1 h); have HXV := Lib.hid (fun h => exprV_val hx1 h)
  have H2 := Lib.hid (fun (W : World) => rparse_ref s W (toks_len s)); rw [hv2] at H2
  have H4 := Lib.hid (fun (W : World) => rpexpr_ref s W (toks_len s)); rw [hx2] at H4
  have HE := Lib.hid hE; have HN := Lib.hid hN
  clear hv1 hv2 hx1 hx2 hE hN
  go_enter Tryz.func4, Tryz.ntmps4
  go_wp2_with fail
  refine (lives06_any w HE.out).mono ?_
  rintro e w1 ⟨rfl, hb0⟩
  have HB1 := Lib.hid hb0
  clear hb0
  go_wp2_with fail
  refine (H2.out _).mono ?_
  rintro e V2 ⟨⟨v2, rfl, hR2⟩, hb2⟩
  obtain ⟨A2, c2, rfl, -, hC2⟩ := Kd.R_reads hR2
  have ha2 := (Below.refl V2.heap.size V2).alloc (Nat.le_refl _) (poBox P A2 c2)
  have hx2 : (V2.alloc (poBox P A2 c2)).heap[V2.heap.size]? = some (poBox P A2 c2) := new_blk V2 _ _
  have hC2b := Kd.C_below hC2 ha2
  have hB2 := HB1.out.trans ((hb2.trans (ha2.mono hb2.size)).mono HB1.out.size)
  clear hR2 hb2 hC2 ha2
  go_wp2_with fail
  refine (H4.out _).mono ?_
  rintro e V4 ⟨⟨v4, rfl, hR4⟩, hb4⟩
  obtain ⟨A4, c4, rfl, -, hC4⟩ := Kd.R_reads hR4
  have ha4 := (Below.refl V4.heap.size V4).alloc (Nat.le_refl _) (exBox X A4 c4)
  have hbb4 := hb4.trans (ha4.mono hb4.size)
  have hx2d := (hbb4.block _ (box_lt hx2)).trans hx2
  have hx4d : (V4.alloc (exBox X A4 c4)).heap[V4.heap.size]? = some (exBox X A4 c4) := new_blk V4 _ _
  have hC2d := Kd.C_below hC2b hbb4
  have hC4d := Kd.C_below hC4 ha4
  have hB4 := hB2.trans (hbb4.mono hB2.size)
  have HX2 := Lib.hid hx2d; have HX4 := Lib.hid hx4d; have HC2 := Lib.hid hC2d; have HC4 := Lib.hid hC4d; have HB4 := Lib.hid hB4
  clear hR4 hb4 hC4 ha4 hbb4 hx2 hC2b hB2 hx2d hx4d hC2d hC4d hB4
  obtain ⟨i0, i1, i2, i3, i4, i5⟩ := box6 HX2.out
  obtain ⟨j0, j1, j2, j3, j4, j5⟩ := box6 HX4.out
  by_cases he : e1 = 0
  · have be : (e1 == 0) = true := by simpa using he
    obtain ⟨hokp, hwp⟩ := HPV.out he
    have hN4 := HN.out.below HB4.out
    have HP1 := Lib.hid (print_any P hokp (by omega) A2 c2 (V4.alloc (exBox X A4 c4)).drew hN4.drew (Kd.C_below HC2.out (Below.refl _ _).drew))
    have HP2 := Lib.hid (fun U5 (h5 : Below (V4.alloc (exBox X A4 c4)).drew.heap.size (V4.alloc (exBox X A4 c4)).drew U5) => rprint_any P hokp (by omega) A2 c2 U5 (hN4.drew.below h5) (Kd.C_below (Kd.C_below HC2.out (Below.refl _ _).drew) h5))
    obtain ⟨S, hS⟩ : ∃ S, S = prP P := ⟨_, rfl⟩
    rw [← hS] at HP1 HP2
    have hn0 : (S.toList != S.toList) = false := by simp
    clear he hokp hwp hN4 hS
    go_wp2
    go_region_held3 (fun w' => w'.cell? ⟨V2.heap.size, 0, none⟩ = some (.string P.arch) ∧ w'.cell? ⟨V2.heap.size, 1, none⟩ = some (.int .i64 P.foreign.f0) ∧ w'.cell? ⟨V2.heap.size, 2, none⟩ = some (.int .u64 P.foreign.f1) ∧ w'.cell? ⟨V2.heap.size, 3, none⟩ = some (.int .i64 P.dflt.f0) ∧ w'.cell? ⟨V2.heap.size, 4, none⟩ = some (.int .u64 P.dflt.f1) ∧ w'.cell? ⟨V2.heap.size, 5, none⟩ = some (.slice A2 P.rules.length c2))
      (first | go_keep | exact ⟨bel_cell hb5 i0, bel_cell hb5 i1, bel_cell hb5 i2, bel_cell hb5 i3, bel_cell hb5 i4, bel_cell hb5 i5⟩ | exact ⟨pw_cell_below hb6 (bel_cell hb5 i0), pw_cell_below hb6 (bel_cell hb5 i1), pw_cell_below hb6 (bel_cell hb5 i2), pw_cell_below hb6 (bel_cell hb5 i3), pw_cell_below hb6 (bel_cell hb5 i4), pw_cell_below hb6 (bel_cell hb5 i5)⟩)
      (first | (go_at_call 14; ((with_reducible refine HP1.out.mono ?_); rintro e U5 ⟨rfl, hb5⟩)) | (go_at_call 15; ((with_reducible refine (HP2.out U5 hb5).mono ?_); rintro e U6 ⟨rfl, hb6⟩)))
    have HBV := Lib.hid (show Below (V4.alloc (exBox X A4 c4)).heap.size (V4.alloc (exBox X A4 c4)) U6 from ((Below.refl (V4.alloc (exBox X A4 c4)).heap.size (V4.alloc (exBox X A4 c4))).drew).trans (hb5.trans (hb6.mono hb5.size)))
    clear hb5 hb6 i0 i1 i2 i3 i4 i5 j0 j1 j2 j3 j4 j5
    by_cases hf : f1 = 0
    · have bf : (f1 == 0) = true := by simpa using hf
      obtain ⟨hok, hwe, hde⟩ := HXV.out hf
      have HPE := Lib.hid (pe_any _ X (Nat.lt_succ_self _) hok (by omega))
      have HRE := Lib.hid (rpe_any _ X (Nat.lt_succ_self _) hok (by omega))
      have HDE := Lib.hid (dep_any _ X (Nat.lt_succ_self _) (by omega))
      have HRD := Lib.hid (rdep_any _ X (Nat.lt_succ_self _) (by omega))
      have hCV := Kd.C_below HC4.out HBV.out
      have hNV := ((HN.out.below HB4.out).below HBV.out)
      have HA1 := Lib.hid (HPE.out A4 c4 U6.drew hNV.drew (Kd.C_below hCV (Below.refl _ _).drew))
      have HA2 := Lib.hid (fun W5 (h5 : Below U6.drew.heap.size U6.drew W5) => HRE.out A4 c4 W5 (hNV.drew.below h5) (Kd.C_below (Kd.C_below hCV (Below.refl _ _).drew) h5))
      have HA3 := Lib.hid (fun W5 W6 (h5 : Below U6.drew.heap.size U6.drew W5) (h6 : Below W5.heap.size W5 W6) => HDE.out A4 c4 W6 (Kd.C_below (Kd.C_below (Kd.C_below hCV (Below.refl _ _).drew) h5) h6))
      have HA4 := Lib.hid (fun W5 W6 W7 (h5 : Below U6.drew.heap.size U6.drew W5) (h6 : Below W5.heap.size W5 W6) (h7 : Below W6.heap.size W6 W7) => HRD.out A4 c4 W7 (Kd.C_below (Kd.C_below (Kd.C_below (Kd.C_below hCV (Below.refl _ _).drew) h5) h6) h7))
      obtain ⟨k0, k1, k2, k3, k4, k5⟩ := box6 ((HBV.out.block _ (box_lt HX4.out)).trans HX4.out)
      obtain ⟨T, hT⟩ : ∃ T, T = prE X := ⟨_, rfl⟩
      rw [← hT] at HA1 HA2
      obtain ⟨D, hD⟩ : ∃ D, D = dE X := ⟨_, rfl⟩
      rw [← hD] at HA3 HA4
      have hn1 : (T.toList != T.toList) = false := by simp
      have hn2 : ((D : Int) != (D : Int)) = false := by simp
      clear hf hok hwe hde hCV hNV hT hD
      go_wp2
      go_region_held3 (fun w' => w'.cell? ⟨V4.heap.size, 0, none⟩ = some (.int .i64 X.f0) ∧ w'.cell? ⟨V4.heap.size, 1, none⟩ = some (.slice A4 X.f1.length c4) ∧ w'.cell? ⟨V4.heap.size, 2, none⟩ = some (.int .i64 X.f2) ∧ w'.cell? ⟨V4.heap.size, 3, none⟩ = some (.int .u64 X.f3) ∧ w'.cell? ⟨V4.heap.size, 4, none⟩ = some (.int .i64 X.f4) ∧ w'.cell? ⟨V4.heap.size, 5, none⟩ = some (.int .u64 X.f5))
        (first | go_keep | exact ⟨bel_cell hb5 k0, bel_cell hb5 k1, bel_cell hb5 k2, bel_cell hb5 k3, bel_cell hb5 k4, bel_cell hb5 k5⟩ | exact ⟨pw_cell_below hb6 (bel_cell hb5 k0), pw_cell_below hb6 (bel_cell hb5 k1), pw_cell_below hb6 (bel_cell hb5 k2), pw_cell_below hb6 (bel_cell hb5 k3), pw_cell_below hb6 (bel_cell hb5 k4), pw_cell_below hb6 (bel_cell hb5 k5)⟩ | exact ⟨pw_cell_below hb7 (pw_cell_below hb6 (bel_cell hb5 k0)), pw_cell_below hb7 (pw_cell_below hb6 (bel_cell hb5 k1)), pw_cell_below hb7 (pw_cell_below hb6 (bel_cell hb5 k2)), pw_cell_below hb7 (pw_cell_below hb6 (bel_cell hb5 k3)), pw_cell_below hb7 (pw_cell_below hb6 (bel_cell hb5 k4)), pw_cell_below hb7 (pw_cell_below hb6 (bel_cell hb5 k5))⟩ | exact ⟨pw_cell_below hb8 (pw_cell_below hb7 (pw_cell_below hb6 (bel_cell hb5 k0))), pw_cell_below hb8 (pw_cell_below hb7 (pw_cell_below hb6 (bel_cell hb5 k1))), pw_cell_below hb8 (pw_cell_below hb7 (pw_cell_below hb6 (bel_cell hb5 k2))), pw_cell_below hb8 (pw_cell_below hb7 (pw_cell_below hb6 (bel_cell hb5 k3))), pw_cell_below hb8 (pw_cell_below hb7 (pw_cell_below hb6 (bel_cell hb5 k4))), pw_cell_below hb8 (pw_cell_below hb7 (pw_cell_below hb6 (bel_cell hb5 k5)))⟩)
        (first | (go_at_call 16; ((with_reducible refine HA1.out.mono ?_); rintro e W5 ⟨rfl, hb5⟩)) | (go_at_call 17; ((with_reducible refine (HA2.out W5 hb5).mono ?_); rintro e W6 ⟨rfl, hb6⟩)) | (go_at_call 18; ((with_reducible refine (HA3.out W5 W6 hb5 hb6).mono ?_); rintro e W7 ⟨rfl, hb7⟩)) | (go_at_call 19; ((with_reducible refine (HA4.out W5 W6 W7 hb5 hb6 hb7).mono ?_); rintro e W8 ⟨rfl, hb8⟩)))
      have hfin : Below U6.heap.size U6 W8 := ((Below.refl U6.heap.size U6).drew).trans (hb5.trans ((hb6.trans ((hb7.trans (hb8.mono hb7.size)).mono hb6.size)).mono hb5.size))
      have HFIN := Lib.hid (HB4.out.trans ((HBV.out.trans (hfin.mono HBV.out.size)).mono HB4.out.size))
      clear hb5 hb6 hb7 hb8 hfin
      go_wp2
      go_ret
      exact ⟨rfl, HFIN.out⟩
    · have bf : (f1 == 0) = false := by simpa using hf
      clear hf
      go_wp2
      go_quiet (fail)
      have HFIN := Lib.hid (fun n => HB4.out.trans ((HBV.out.trans ((pw_below_drewN (Below.refl U6.heap.size U6) n).mono HBV.out.size)).mono HB4.out.size))
      go_wp2
      go_ret
      exact ⟨rfl, HFIN.out _⟩
  · have be : (e1 == 0) = false := by simpa using he
    clear he
    go_wp2
    go_quiet (fail)
    obtain ⟨V6, hV6⟩ : ∃ V6, V6 = (V4.alloc (exBox X A4 c4)).drewN nq := ⟨_, rfl⟩
    rw [← hV6]
    have HBV := Lib.hid (show Below (V4.alloc (exBox X A4 c4)).heap.size (V4.alloc (exBox X A4 c4)) V6 by rw [hV6]; exact pw_below_drewN (Below.refl _ _) _)
    clear hV6 i0 i1 i2 i3 i4 i5 j0 j1 j2 j3 j4 j5
    by_cases hf : f1 = 0
    · have bf : (f1 == 0) = true := by simpa using hf
      obtain ⟨hok, hwe, hde⟩ := HXV.out hf
      have HPE := Lib.hid (pe_any _ X (Nat.lt_succ_self _) hok (by omega))
      have HRE := Lib.hid (rpe_any _ X (Nat.lt_succ_self _) hok (by omega))
      have HDE := Lib.hid (dep_any _ X (Nat.lt_succ_self _) (by omega))
      have HRD := Lib.hid (rdep_any _ X (Nat.lt_succ_self _) (by omega))
      have hCV := Kd.C_below HC4.out HBV.out
      have hNV := ((HN.out.below HB4.out).below HBV.out)
      have HA1 := Lib.hid (HPE.out A4 c4 V6.drew hNV.drew (Kd.C_below hCV (Below.refl _ _).drew))
      have HA2 := Lib.hid (fun W5 (h5 : Below V6.drew.heap.size V6.drew W5) => HRE.out A4 c4 W5 (hNV.drew.below h5) (Kd.C_below (Kd.C_below hCV (Below.refl _ _).drew) h5))
      have HA3 := Lib.hid (fun W5 W6 (h5 : Below V6.drew.heap.size V6.drew W5) (h6 : Below W5.heap.size W5 W6) => HDE.out A4 c4 W6 (Kd.C_below (Kd.C_below (Kd.C_below hCV (Below.refl _ _).drew) h5) h6))
      have HA4 := Lib.hid (fun W5 W6 W7 (h5 : Below V6.drew.heap.size V6.drew W5) (h6 : Below W5.heap.size W5 W6) (h7 : Below W6.heap.size W6 W7) => HRD.out A4 c4 W7 (Kd.C_below (Kd.C_below (Kd.C_below (Kd.C_below hCV (Below.refl _ _).drew) h5) h6) h7))
      obtain ⟨k0, k1, k2, k3, k4, k5⟩ := box6 ((HBV.out.block _ (box_lt HX4.out)).trans HX4.out)
      obtain ⟨T, hT⟩ : ∃ T, T = prE X := ⟨_, rfl⟩
      rw [← hT] at HA1 HA2
      obtain ⟨D, hD⟩ : ∃ D, D = dE X := ⟨_, rfl⟩
      rw [← hD] at HA3 HA4
      have hn1 : (T.toList != T.toList) = false := by simp
      have hn2 : ((D : Int) != (D : Int)) = false := by simp
      clear hf hok hwe hde hCV hNV hT hD
      go_wp2
      go_region_held3 (fun w' => w'.cell? ⟨V4.heap.size, 0, none⟩ = some (.int .i64 X.f0) ∧ w'.cell? ⟨V4.heap.size, 1, none⟩ = some (.slice A4 X.f1.length c4) ∧ w'.cell? ⟨V4.heap.size, 2, none⟩ = some (.int .i64 X.f2) ∧ w'.cell? ⟨V4.heap.size, 3, none⟩ = some (.int .u64 X.f3) ∧ w'.cell? ⟨V4.heap.size, 4, none⟩ = some (.int .i64 X.f4) ∧ w'.cell? ⟨V4.heap.size, 5, none⟩ = some (.int .u64 X.f5))
        (first | go_keep | exact ⟨bel_cell hb5 k0, bel_cell hb5 k1, bel_cell hb5 k2, bel_cell hb5 k3, bel_cell hb5 k4, bel_cell hb5 k5⟩ | exact ⟨pw_cell_below hb6 (bel_cell hb5 k0), pw_cell_below hb6 (bel_cell hb5 k1), pw_cell_below hb6 (bel_cell hb5 k2), pw_cell_below hb6 (bel_cell hb5 k3), pw_cell_below hb6 (bel_cell hb5 k4), pw_cell_below hb6 (bel_cell hb5 k5)⟩ | exact ⟨pw_cell_below hb7 (pw_cell_below hb6 (bel_cell hb5 k0)), pw_cell_below hb7 (pw_cell_below hb6 (bel_cell hb5 k1)), pw_cell_below hb7 (pw_cell_below hb6 (bel_cell hb5 k2)), pw_cell_below hb7 (pw_cell_below hb6 (bel_cell hb5 k3)), pw_cell_below hb7 (pw_cell_below hb6 (bel_cell hb5 k4)), pw_cell_below hb7 (pw_cell_below hb6 (bel_cell hb5 k5))⟩ | exact ⟨pw_cell_below hb8 (pw_cell_below hb7 (pw_cell_below hb6 (bel_cell hb5 k0))), pw_cell_below hb8 (pw_cell_below hb7 (pw_cell_below hb6 (bel_cell hb5 k1))), pw_cell_below hb8 (pw_cell_below hb7 (pw_cell_below hb6 (bel_cell hb5 k2))), pw_cell_below hb8 (pw_cell_below hb7 (pw_cell_below hb6 (bel_cell hb5 k3))), pw_cell_below hb8 (pw_cell_below hb7 (pw_cell_below hb6 (bel_cell hb5 k4))), pw_cell_below hb8 (pw_cell_below hb7 (pw_cell_below hb6 (bel_cell hb5 k5)))⟩)
        (first | (go_at_call 16; ((with_reducible refine HA1.out.mono ?_); rintro e W5 ⟨rfl, hb5⟩)) | (go_at_call 17; ((with_reducible refine (HA2.out W5 hb5).mono ?_); rintro e W6 ⟨rfl, hb6⟩)) | (go_at_call 18; ((with_reducible refine (HA3.out W5 W6 hb5 hb6).mono ?_); rintro e W7 ⟨rfl, hb7⟩)) | (go_at_call 19; ((with_reducible refine (HA4.out W5 W6 W7 hb5 hb6 hb7).mono ?_); rintro e W8 ⟨rfl, hb8⟩)))
      have hfin : Below V6.heap.size V6 W8 := ((Below.refl V6.heap.size V6).drew).trans (hb5.trans ((hb6.trans ((hb7.trans (hb8.mono hb7.size)).mono hb6.size)).mono hb5.size))
      have HFIN := Lib.hid (HB4.out.trans ((HBV.out.trans (hfin.mono HBV.out.size)).mono HB4.out.size))
      clear hb5 hb6 hb7 hb8 hfin
      go_wp2
      go_ret
      exact ⟨rfl, HFIN.out⟩
    · have bf : (f1 == 0) = false := by simpa using hf
      clear hf
      go_wp2
      go_quiet (fail)
      have HFIN := Lib.hid (fun n => HB4.out.trans ((HBV.out.trans ((pw_below_drewN (Below.refl V6.heap.size V6) n).mono HBV.out.size)).mono HB4.out.size))
      go_wp2
      go_ret
      exact ⟨rfl, HFIN.out _⟩
end Go.Proofs.YtlmopoipjolbgaaGreatDoor.LexW
namespace Go.Proofs.YtlmopoipjolbgaaGreatDoor.PolicyPrints
open Go.ChangeShapes Go.WideShapes Go.ChangeAt Go.RowKit Go.Lib Go.Shelf Go.Proofs.YtlmopoipjolbgaaGreatDoor.LexW Go.Proofs.YtlmopoipjolbgaaGreatDoorW.PrintWords
set_option linter.unusedVariables false
set_option linter.unusedSimpArgs false

theorem laidOut : laidOutB Tryz.prog = true := by kernel_rfl

set_option maxRecDepth 100000 in
/-- WHAT THE WALK GIVES, FOR EVERY ARGUMENT AND EVERY WORLD THAT HOLDS THE LISTED VARIABLES. -/
theorem contract (H : Type) (enc : TypeId × Value → H) (W : World) (base : Nat) (args : Array Value) (ds gs : List (DataW H)) (before : List MemPlace)
    (hval0 : ∀ (j : Nat) t v, Tryz.f4.params[j]? = some t → args[j]? = some v → Value.okWide Tryz.prog W .any base t v)
    (hW : DataW.Whole enc Tryz.prog Tryz.f4.params.toList Rows.policyPrintsSpec.vars false W args.toList ds gs before)
    (hsz0 : (DataW.weightsEach Tryz.prog (Tryz.f4.params.toList ++ Rows.policyPrintsSpec.plain.varTypes Tryz.prog) (ds ++ gs)).all (· ≤ reachBytes) = true)
    (hL : laidMetH Tryz.prog Rows.policyPrintsRow.laid W) :
    Calls Tryz.prog 4 args W fun e W' => ∃ v, e = .returned v ∧ Rows.policyPrintsSpec.post enc Tryz.prog Tryz.f4 false true false false W args v W' := by
  have hE := env_of_laid hL
  have hN := envN_of_laid hL
  have hW' := hW
  obtain ⟨p, q, hA0, hV, rfl, hfz, hnd⟩ := hW
  have hval : ∀ (j : Nat) t v, Tryz.f4.params[j]? = some t → args[j]? = some v → Value.okWide Tryz.prog W .any base t v := hval0
  have hsz := hsz0
  clear hval0 hsz0
  have hA : DataW.TrodAll enc Tryz.prog W 0 (fun _ => true) true Tryz.f4.params.toList args.toList ds p := hA0
  rw [Tryz.params4] at hA hval hsz
  obtain ⟨v0, vs0, d0, ds0, p0, q0, hargs0, rfl, rfl, h0, r0⟩ := trodAll_cons hA
  obtain ⟨rfl, rfl, rfl⟩ := trodAll_nil r0
  obtain rfl : args = #[v0] := by cases args; simp_all
  obtain ⟨rfl, rfl⟩ := trodVars_none hV
  obtain ⟨s, rfl, rfl, rfl, hs⟩ := Go.ChangeMaps.open_string Tryz.underlying9 (hval 0 9 v0 rfl rfl) h0
  clear hA0
  simp only [List.append_nil, List.nil_append] at hW'
  refine (printsLaw_any s W hE hN).mono fun e W' ⟨he, hb⟩ => ?_
  subst he
  refine ⟨_, rfl, _, _, _, [] ++ [], [], [], hW', ?_, ?_, rfl, hb.frame _, fun h => by cases h⟩
  · exact trodAll_cons_mk (shut_bool Tryz.underlying4 _) trodAll_mk0
  · exact trodAll_mk1 (Go.ChangeMaps.shut_string Tryz.underlying9 hs)

abbrev args0 : Array Value := #[.string ⟨#[]⟩]
theorem reads (os : Os) {H : Type} (enc : TypeId × Value → H) : ∃ places, DataW.whole enc Tryz.prog ((laidWorld os).forCall (fun _ _ => 0) ⟨#[], args0, []⟩).memory Tryz.f4.params.toList Rows.policyPrintsSpec.vars false args0.toList 8 = some ([.lit (.string [])], [], places) :=
  ⟨[], by kernel_rfl⟩

set_option maxRecDepth 100000 in
theorem lifted (os : Os) (started : os.Started) (H : Type) (enc : TypeId × Value → H) (F : Stop.Interp) :
    ReturnsInHanded {} Tryz.checked os 4 .any ((OpenSpec.ofChange Rows.policyPrintsSpec).preRow enc Tryz.prog Tryz.f4 Rows.policyPrintsRow.domain false Rows.policyPrintsRow.laid) (((OpenSpec.ofChange Rows.policyPrintsSpec).at F).post enc Tryz.prog Tryz.f4 false true false false) := by
  obtain ⟨places, hx⟩ := reads os enc
  refine returnsInHanded_of_row (C := Tryz.checked) (s := OpenSpec.ofChange Rows.policyPrintsSpec) own started (by kernel_rfl) Tryz.func4
    (witness_row_atRef (enc := enc) (C := Tryz.checked) false (laidWorld os) args0 rfl (by kernel_rfl) (by kernel_rfl) (by kernel_rfl)
      (OpenSpec.preRow_of_cond 8 hx (by kernel_rfl) (fun k hk => by cases hk) (by kernel_rfl) (laid_met os _))) ?_
  intro W base args ds gs before hval hW _ _ hsz hL _ _
  exact contract H enc W base args ds gs before hval hW hsz hL

theorem said : Rows.PolicyPrintsSaid :=
  OpenClaim.holds_of_cond 4 Tryz.f4 rfl rfl rfl rfl rfl rfl rfl ⟨rfl, rfl, rfl, rfl, rfl⟩ rfl rfl rfl rfl rfl (by kernel_rfl) Tryz.func4 (by kernel_rfl)
    (of_decide_eq_true (by kernel_rfl)) (by unfold Func.isWrapper; first | (rw [if_pos (by decide +kernel)]; kernel_rfl) | (rw [if_neg (by decide +kernel)]; exact ⟨rfl, rfl⟩))
    (fun os started H enc _ F => by rw [OpenClaim.pre_eq_preRow]; exact lifted os started H enc F)

theorem plain (f : FuncId) (fn : Func) (hf : Tryz.pinned.checked.prog.funcNamed "ravelin/ravelinlaw06.PolicyPrints" = some f) (hfn : Tryz.pinned.checked.prog.funcs[f]? = some fn) :
    true = Tryz.pinned.checked.prog.looks [] ∧ ∀ (j : Nat) t, fn.params[j]? = some t → Tryz.pinned.checked.prog.wantsStandIn t = false := by
  obtain rfl : f = 4 := Option.some.inj ((show Tryz.prog.funcNamed "ravelin/ravelinlaw06.PolicyPrints" = some 4 by kernel_rfl).symm.trans hf) |>.symm
  obtain rfl : fn = Tryz.f4 := (Option.some.inj (Tryz.func4.symm.trans hfn)).symm
  refine ⟨by kernel_rfl, fun j t ht => ?_⟩
  rw [Tryz.params4] at ht
  obtain rfl : t = 9 := by simpa using Array.mem_of_getElem? ht
  exact (show Tryz.prog.wantsStandIn 9 = false by kernel_rfl)

theorem card : Rows.PolicyPrintsCardSaid :=
  Claim7.holds_tied_plain_at .later [] _ _ _ _ said (fun _ h => by cases h) (by kernel_rfl) (fun _ h => by cases h) policyPrints_row_tie rfl ⟨rfl, rfl⟩ (by kernel_rfl) rfl plain (by kernel_rfl)
end Go.Proofs.YtlmopoipjolbgaaGreatDoor.PolicyPrints
