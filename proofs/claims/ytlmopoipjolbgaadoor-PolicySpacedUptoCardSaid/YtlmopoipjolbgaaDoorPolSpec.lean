/-
  Layer 6 (policy): what is read, as a function of a text's tokens (plain: no program).
-/
import Derived.Test.YtlmopoipjolbgaaDoorPolK
namespace Go.Proofs.YtlmopoipjolbgaaDoor.LexW
open Go.RowKit Go.Shelf Go.Proofs.YtlmopoipjolbgaaDoor.LexS Go.Proofs.YtlmopoipjolbgaaDoorW.PrintWords
set_option linter.unusedVariables false
set_option linter.unusedSimpArgs false

abbrev EP := Int × Int
/-- what a reader comes to: a value and the tokens that are left; or an error and its place -/
abbrev Rd (α : Type) := Except EP (α × List Tk)
def bnd {α β : Type} (x : Except EP α) (f : α → Except EP β) : Except EP β := match x with | .ok a => f a | .error e => .error e
theorem bnd_ok {α β : Type} (a : α) (f : α → Except EP β) : bnd (.ok a) f = f a := rfl
theorem bnd_err {α β : Type} (e : EP) (f : α → Except EP β) : bnd (.error e) f = .error e := rfl
theorem bnd_inv {α β : Type} {x : Except EP α} {f : α → Except EP β} {b : β} (h : bnd x f = .ok b) : ∃ a, x = .ok a ∧ f a = .ok b := by
  cases x with
  | ok a => exact ⟨a, rfl, h⟩
  | error e => cases h

abbrev hdT (L : List Tk) : Tk := L.headD tkz
/-- one token on; behind the last there is what is wrong -/
def stepP (ep : EP) : List Tk → Except EP (List Tk)
  | _ :: t :: r => .ok (t :: r)
  | _ => .error ep
def badP (c : Int) (L : List Tk) : EP := (c, (hdT L).at_)
/-- a word, or a sign -/
def isT (x : ByteArray) (t : Tk) : Bool := decide (t.text = x) && (t.kind != 3) && (t.kind != 1)
def maybeP (ep : EP) (x : ByteArray) (L : List Tk) : Rd Bool := if isT x (hdT L) then bnd (stepP ep L) (fun L' => .ok (true, L')) else .ok (false, L)
def wantP (ep : EP) (x : ByteArray) (L : List Tk) : Rd Unit := if isT x (hdT L) then bnd (stepP ep L) (fun L' => .ok ((), L')) else .error (badP 61 L)
def kindP (ep : EP) (k : Int) (L : List Tk) : Rd Tk := if (hdT L).kind = k then (if k = 1 then .ok (hdT L, L) else bnd (stepP ep L) (fun L' => .ok (hdT L, L'))) else .error (badP 61 L)

def sNot : ByteArray := ⟨#[110, 111, 116]⟩
def sOpen : ByteArray := ⟨#[40]⟩
def sShut : ByteArray := ⟨#[41]⟩
def sTrue : ByteArray := ⟨#[116, 114, 117, 101]⟩
def sFalse : ByteArray := ⟨#[102, 97, 108, 115, 101]⟩
def sAnd : ByteArray := ⟨#[97, 110, 100]⟩
def sOr : ByteArray := ⟨#[111, 114]⟩
def sAmp : ByteArray := ⟨#[38]⟩
def sComma : ByteArray := ⟨#[44]⟩
def sSemi : ByteArray := ⟨#[59]⟩
def sWhen : ByteArray := ⟨#[119, 104, 101, 110]⟩
def sDo : ByteArray := ⟨#[100, 111]⟩
def sArch : ByteArray := ⟨#[97, 114, 99, 104]⟩
def sForeign : ByteArray := ⟨#[102, 111, 114, 101, 105, 103, 110]⟩
def sDefault : ByteArray := ⟨#[100, 101, 102, 97, 117, 108, 116]⟩
def sOn : ByteArray := ⟨#[111, 110]⟩

/-- the words of actions: the kind, and whether a number follows -/
def wordsT : List (ByteArray × Int × Bool) := [
  (⟨#[107, 105, 108, 108, 95, 112, 114, 111, 99, 101, 115, 115]⟩, 1, false), (⟨#[107, 105, 108, 108, 95, 116, 104, 114, 101, 97, 100]⟩, 2, false), (⟨#[116, 114, 97, 112]⟩, 3, true), (⟨#[101, 114, 114, 110, 111]⟩, 4, true),
  (⟨#[110, 111, 116, 105, 102, 121]⟩, 5, false), (⟨#[116, 114, 97, 99, 101]⟩, 6, true), (⟨#[108, 111, 103]⟩, 7, false), (⟨#[97, 108, 108, 111, 119]⟩, 8, false)]
def fieldsT : List ByteArray := [⟨#[97, 114, 103, 48]⟩, ⟨#[97, 114, 103, 49]⟩, ⟨#[97, 114, 103, 50]⟩, ⟨#[97, 114, 103, 51]⟩, ⟨#[97, 114, 103, 52]⟩, ⟨#[97, 114, 103, 53]⟩, ⟨#[105, 112]⟩]
def relsT : List ByteArray := [⟨#[61, 61]⟩, ⟨#[33, 61]⟩, ⟨#[60]⟩, ⟨#[60, 61]⟩, ⟨#[62]⟩, ⟨#[62, 61]⟩]

def verdictP (ep : EP) (L : List Tk) : Rd Vd :=
  if (hdT L).kind = 2 then
    match wordsT.find? (fun x => decide ((hdT L).text = x.1)) with
    | some (_, k, n) => bnd (stepP ep L) (fun L1 => if n = true then bnd (kindP ep 3 L1) (fun p => .ok (⟨k, p.1.num⟩, p.2)) else .ok (⟨k, 0⟩, L1))
    | none => .error (badP 61 L)
  else .error (badP 61 L)
def callP (ep : EP) (L : List Tk) : Rd Cl :=
  if (hdT L).kind = 3 then bnd (kindP ep 3 L) (fun p => .ok (⟨nil0, p.1.num⟩, p.2)) else bnd (kindP ep 2 L) (fun p => .ok (⟨p.1.text, 0⟩, p.2))

/-- the relation, behind so many of the signs -/
def relF (t : Tk) : Nat → Int
  | 0 => 0
  | i + 1 => if isT (relsT.getD i nil0) t then (i : Int) + 1 else relF t i
def maskP (ep : EP) (L : List Tk) : Rd Int :=
  if (hdT L).kind = 4 then bnd (maybeP ep sAmp L) (fun p => if p.1 = true then bnd (kindP ep 3 p.2) (fun q => .ok (q.1.num, q.2)) else .ok (18446744073709551615, p.2)) else .ok (18446744073709551615, L)
def testP (ep : EP) (f : Int) (L : List Tk) : Rd Ex :=
  bnd (stepP ep L) (fun L1 => bnd (maskP ep L1) (fun p =>
    if relF (hdT p.2) 6 = 0 then .error (badP 61 p.2) else bnd (stepP ep p.2) (fun L3 => bnd (kindP ep 3 L3) (fun q => .ok (⟨6, [], f, p.1, relF (hdT p.2) 6, q.1.num⟩, q.2)))))
/-- what is neither nested -/
def atomP (ep : EP) (L : List Tk) : Rd Ex :=
  if isT sTrue (hdT L) then bnd (stepP ep L) (fun L' => .ok (⟨1, [], 0, 0, 0, 0⟩, L'))
  else if isT sFalse (hdT L) then bnd (stepP ep L) (fun L' => .ok (⟨2, [], 0, 0, 0, 0⟩, L'))
  else match fieldsT.findIdx? (fun x => isT x (hdT L)) with
    | some i => testP ep i L
    | none => .error (badP 61 L)

/-- some of a kind, as long as one more follows -/
def moreP {α : Type} (ep : EP) (one : List Tk → Rd α) (sep : ByteArray) : Nat → List α → List Tk → Rd (List α)
  | 0, l, L => .ok (l, L)
  | n + 1, l, L => bnd (maybeP ep sep L) (fun p => if p.1 = true then bnd (one p.2) (fun q => moreP ep one sep n (l ++ [q.1]) q.2) else .ok (l, p.2))
def turnsP {α : Type} (ep : EP) (one : List Tk → Rd α) (sep : ByteArray) (L : List Tk) : Rd (List α) := bnd (one L) (fun p => moreP ep one sep (p.2.length + 1) [p.1] p.2)
def joinE (op : Int) (l : List Ex) : Ex := match l with | [x] => x | l => ⟨op, l, 0, 0, 0, 0⟩
def allP (ep : EP) (one : List Tk → Rd Ex) (L : List Tk) : Rd Ex := bnd (turnsP ep one sAnd L) (fun p => .ok (joinE 4 p.1, p.2))
def exprP (ep : EP) (one : List Tk → Rd Ex) (L : List Tk) : Rd Ex := bnd (turnsP ep (allP ep one) sOr L) (fun p => .ok (joinE 5 p.1, p.2))
/-- between and and or; so many levels may be opened still -/
def oneP (ep : EP) : Nat → List Tk → Rd Ex
  | 0, L => if isT sNot (hdT L) then .error (badP 62 L) else if isT sOpen (hdT L) then .error (badP 62 L) else atomP ep L
  | k + 1, L =>
    if isT sNot (hdT L) then bnd (stepP ep L) (fun L1 => bnd (oneP ep k L1) (fun p => .ok (⟨3, [p.1], 0, 0, 0, 0⟩, p.2)))
    else if isT sOpen (hdT L) then bnd (stepP ep L) (fun L1 => bnd (exprP ep (oneP ep k) L1) (fun p => bnd (wantP ep sShut p.2) (fun q => .ok (p.1, q.2))))
    else atomP ep L

def ruleP (ep : EP) (L : List Tk) : Rd Rl :=
  bnd (turnsP ep (callP ep) sComma L) (fun p => bnd (maybeP ep sWhen p.2) (fun m =>
    bnd (if m.1 = true then exprP ep (oneP ep 64) m.2 else .ok (⟨1, [], 0, 0, 0, 0⟩, m.2)) (fun x =>
      bnd (wantP ep sDo x.2) (fun d => bnd (verdictP ep d.2) (fun v => bnd (wantP ep sSemi v.2) (fun z => .ok (⟨p.1, x.1, v.1⟩, z.2)))))))
def rulesP (ep : EP) : Nat → List Rl → List Tk → Rd (List Rl)
  | 0, l, L => .ok (l, L)
  | n + 1, l, L => if isT sOn (hdT L) then (if l.length = 512 then .error (badP 63 L) else bnd (stepP ep L) (fun L1 => bnd (ruleP ep L1) (fun p => rulesP ep n (l ++ [p.1]) p.2))) else .ok (l, L)

/-- a policy -/
structure Po where
  arch : ByteArray
  foreign : Vd
  dflt : Vd
  rules : List Rl
def zPo : Po := ⟨nil0, zVd, zVd, []⟩
def policyP (ep : EP) (L : List Tk) : Rd Po :=
  bnd (wantP ep sArch L) (fun p => bnd (kindP ep 2 p.2) (fun a => bnd (wantP ep sSemi a.2) (fun p => bnd (wantP ep sForeign p.2) (fun p => bnd (verdictP ep p.2) (fun f => bnd (wantP ep sSemi f.2) (fun p =>
    bnd (wantP ep sDefault p.2) (fun p => bnd (verdictP ep p.2) (fun d => bnd (wantP ep sSemi d.2) (fun p => bnd (rulesP ep (p.2.length + 1) [] p.2) (fun r => .ok (⟨a.1.text, f.1, d.1, r.1⟩, r.2)))))))))))
/-- a whole text's -/
def wholeP {α : Type} (f : EP → List Tk → Rd α) (s : ByteArray) : Except EP α :=
  match (toks s).1 with
  | [] => .error (toks s).2
  | L => bnd (f (toks s).2 L) (fun p => bnd (kindP (toks s).2 1 p.2) (fun _ => .ok p.1))
def parseV (s : ByteArray) : Po × EP := match wholeP policyP s with | .ok p => (p, (0, 0)) | .error e => (zPo, e)
def exprV (s : ByteArray) : Ex × EP := match wholeP (fun ep => exprP ep (oneP ep 64)) s with | .ok x => (x, (0, 0)) | .error e => (zEx, e)

/-! ### what a reader leaves is no longer -/
theorem stepP_ok {ep : EP} {L L' : List Tk} (h : stepP ep L = .ok L') : ∃ t, L = t :: L' ∧ L' ≠ [] := by
  unfold stepP at h
  split at h
  · injection h with h; subst h; exact ⟨_, rfl, by simp⟩
  · cases h
/-- it leaves no more than there was; and something -/
def Shr {α : Type} (f : List Tk → Rd α) : Prop := ∀ L x L', f L = .ok (x, L') → L'.length ≤ L.length
theorem maybeP_shr {ep : EP} {x : ByteArray} {L L' : List Tk} {b : Bool} (h : maybeP ep x L = .ok (b, L')) : L'.length ≤ L.length ∧ (b = true → L'.length + 1 = L.length) := by
  unfold maybeP at h
  split at h
  · obtain ⟨L1, h1, h2⟩ := bnd_inv h
    obtain ⟨t, rfl, _⟩ := stepP_ok h1
    cases h2
    simp
  · cases h
    simp
theorem wantP_shr (ep : EP) (x : ByteArray) : Shr (wantP ep x) := fun L u L' h => by
  unfold wantP at h
  split at h
  · obtain ⟨L1, h1, h2⟩ := bnd_inv h
    obtain ⟨t, rfl, _⟩ := stepP_ok h1
    cases h2
    simp
  · cases h
theorem kindP_shr (ep : EP) (k : Int) : Shr (kindP ep k) := fun L u L' h => by
  unfold kindP at h
  split at h
  · split at h
    · cases h; exact Nat.le_refl _
    · obtain ⟨L1, h1, h2⟩ := bnd_inv h
      obtain ⟨t, rfl, _⟩ := stepP_ok h1
      cases h2
      simp
  · cases h
theorem verdictP_shr (ep : EP) : Shr (verdictP ep) := fun L u L' h => by
  unfold verdictP at h
  split at h
  · split at h
    · obtain ⟨L1, h1, h2⟩ := bnd_inv h
      obtain ⟨t, rfl, _⟩ := stepP_ok h1
      split at h2
      · obtain ⟨p, h3, h4⟩ := bnd_inv h2
        have := kindP_shr ep 3 _ _ _ h3
        cases h4
        simp; omega
      · cases h2; simp
    · cases h
  · cases h
theorem callP_shr (ep : EP) : Shr (callP ep) := fun L u L' h => by
  unfold callP at h
  split at h
  all_goals
    obtain ⟨p, h3, h4⟩ := bnd_inv h
    have := kindP_shr ep _ _ _ _ h3
    cases h4
    exact this
theorem testP_shr (ep : EP) (f : Int) : Shr (testP ep f) := fun L u L' h => by
  unfold testP at h
  obtain ⟨L1, h1, h2⟩ := bnd_inv h
  obtain ⟨t, rfl, _⟩ := stepP_ok h1
  obtain ⟨p, h3, h4⟩ := bnd_inv h2
  have hp : p.2.length ≤ L1.length := by
    unfold maskP at h3
    split at h3
    · obtain ⟨m, h5, h6⟩ := bnd_inv h3
      have := (maybeP_shr h5).1
      split at h6
      · obtain ⟨q, h7, h8⟩ := bnd_inv h6
        have := kindP_shr ep 3 _ _ _ h7
        cases h8
        simp; omega
      · cases h6; simp; omega
    · cases h3; exact Nat.le_refl _
  split at h4
  · cases h4
  · obtain ⟨L3, h5, h6⟩ := bnd_inv h4
    obtain ⟨t', h7, _⟩ := stepP_ok h5
    obtain ⟨q, h8, h9⟩ := bnd_inv h6
    have := kindP_shr ep 3 _ _ _ h8
    cases h9
    have := congrArg List.length h7
    simp at this ⊢; omega
theorem atomP_shr (ep : EP) : Shr (atomP ep) := fun L u L' h => by
  unfold atomP at h
  split at h
  · obtain ⟨L1, h1, h2⟩ := bnd_inv h
    obtain ⟨t, rfl, _⟩ := stepP_ok h1
    cases h2; simp
  · split at h
    · obtain ⟨L1, h1, h2⟩ := bnd_inv h
      obtain ⟨t, rfl, _⟩ := stepP_ok h1
      cases h2; simp
    · split at h
      · exact testP_shr ep _ _ _ _ h
      · cases h
theorem moreP_shr {α : Type} (ep : EP) {one : List Tk → Rd α} (h1 : Shr one) (sep : ByteArray) : ∀ n l, Shr (moreP ep one sep n l) := by
  intro n
  induction n with
  | zero => intro l L u L' h; cases h; exact Nat.le_refl _
  | succ n ih =>
    intro l L u L' h
    unfold moreP at h
    obtain ⟨p, h2, h3⟩ := bnd_inv h
    have := (maybeP_shr h2).1
    split at h3
    · obtain ⟨q, h4, h5⟩ := bnd_inv h3
      have := h1 _ _ _ h4
      have := ih _ _ _ _ h5
      omega
    · cases h3; omega
theorem turnsP_shr {α : Type} (ep : EP) {one : List Tk → Rd α} (h1 : Shr one) (sep : ByteArray) : Shr (turnsP ep one sep) := fun L u L' h => by
  unfold turnsP at h
  obtain ⟨p, h2, h3⟩ := bnd_inv h
  have := h1 _ _ _ h2
  have := moreP_shr ep h1 sep _ _ _ _ _ h3
  omega
theorem allP_shr (ep : EP) {one : List Tk → Rd Ex} (h1 : Shr one) : Shr (allP ep one) := fun L u L' h => by
  unfold allP at h
  obtain ⟨p, h2, h3⟩ := bnd_inv h
  have := turnsP_shr ep h1 sAnd _ _ _ h2
  cases h3; exact this
theorem exprP_shr (ep : EP) {one : List Tk → Rd Ex} (h1 : Shr one) : Shr (exprP ep one) := fun L u L' h => by
  unfold exprP at h
  obtain ⟨p, h2, h3⟩ := bnd_inv h
  have := turnsP_shr ep (allP_shr ep h1) sOr _ _ _ h2
  cases h3; exact this
theorem oneP_shr (ep : EP) : ∀ k, Shr (oneP ep k) := by
  intro k
  induction k with
  | zero =>
    intro L u L' h
    unfold oneP at h
    split at h
    · cases h
    · split at h
      · cases h
      · exact atomP_shr ep _ _ _ h
  | succ k ih =>
    intro L u L' h
    unfold oneP at h
    split at h
    · obtain ⟨L1, h1, h2⟩ := bnd_inv h
      obtain ⟨t, rfl, _⟩ := stepP_ok h1
      obtain ⟨p, h3, h4⟩ := bnd_inv h2
      have := ih _ _ _ h3
      cases h4
      simp; omega
    · split at h
      · obtain ⟨L1, h1, h2⟩ := bnd_inv h
        obtain ⟨t, rfl, _⟩ := stepP_ok h1
        obtain ⟨p, h3, h4⟩ := bnd_inv h2
        have := exprP_shr ep ih _ _ _ h3
        obtain ⟨q, h5, h6⟩ := bnd_inv h4
        have := wantP_shr ep _ _ _ _ h5
        cases h6
        simp; omega
      · exact atomP_shr ep _ _ _ h
theorem ruleP_shr (ep : EP) : Shr (ruleP ep) := fun L u L' h => by
  unfold ruleP at h
  obtain ⟨p, h1, h⟩ := bnd_inv h
  have := turnsP_shr ep (callP_shr ep) _ _ _ _ h1
  obtain ⟨m, h2, h⟩ := bnd_inv h
  have := (maybeP_shr h2).1
  obtain ⟨x, h3, h⟩ := bnd_inv h
  have : x.2.length ≤ m.2.length := by
    split at h3
    · exact exprP_shr ep (oneP_shr ep 64) _ _ _ h3
    · cases h3; exact Nat.le_refl _
  obtain ⟨d, h4, h⟩ := bnd_inv h
  have := wantP_shr ep _ _ _ _ h4
  obtain ⟨v, h5, h⟩ := bnd_inv h
  have := verdictP_shr ep _ _ _ h5
  obtain ⟨z, h6, h⟩ := bnd_inv h
  have := wantP_shr ep _ _ _ _ h6
  cases h
  simp; omega

/-- more rounds than there are tokens change nothing -/
theorem moreP_enough {α : Type} (ep : EP) {one : List Tk → Rd α} (h1 : Shr one) (sep : ByteArray) : ∀ n m l L, L.length < n → L.length < m → moreP ep one sep n l L = moreP ep one sep m l L := by
  intro n
  induction n with
  | zero => intro m l L h; omega
  | succ n ih =>
    intro m l L hn hm
    obtain ⟨m, rfl⟩ : ∃ j, m = j + 1 := ⟨m - 1, by omega⟩
    unfold moreP
    cases h2 : maybeP ep sep L with
    | error e => rfl
    | ok p =>
      simp only [bnd_ok]
      obtain ⟨b, L1⟩ := p
      have hs := maybeP_shr h2
      cases b with
      | false => rfl
      | true =>
        have := hs.2 rfl
        simp only [if_true]
        cases h3 : one L1 with
        | error e => rfl
        | ok q =>
          simp only [bnd_ok]
          have := h1 _ _ _ h3
          exact ih m _ _ (by omega) (by omega)
theorem rulesP_enough (ep : EP) : ∀ n m l L, L.length < n → L.length < m → rulesP ep n l L = rulesP ep m l L := by
  intro n
  induction n with
  | zero => intro m l L h; omega
  | succ n ih =>
    intro m l L hn hm
    obtain ⟨m, rfl⟩ : ∃ j, m = j + 1 := ⟨m - 1, by omega⟩
    unfold rulesP
    split
    · split
      · rfl
      · cases h2 : stepP ep L with
        | error e => rfl
        | ok L1 =>
          simp only [bnd_ok]
          obtain ⟨t, rfl, _⟩ := stepP_ok h2
          cases h3 : ruleP ep L1 with
          | error e => rfl
          | ok q =>
            simp only [bnd_ok]
            have := ruleP_shr ep _ _ _ h3
            simp at hn hm
            exact ih m _ _ (by omega) (by omega)
    · rfl
end Go.Proofs.YtlmopoipjolbgaaDoor.LexW
