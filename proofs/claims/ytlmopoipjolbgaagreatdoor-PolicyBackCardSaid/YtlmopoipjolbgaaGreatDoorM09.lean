/-
  Layer 6 (policy), plain: what is written is read as that. · Layer 6 (policy): a test of a field. · Layer 6 (policy): what stands within a ( or a not; one, or several as one. · Layer 6 (policy): some of a kind, as long as one more follows; one, or several as one. · Layer 6 (policy): one, or several as one. · Layer 6 (policy): an expression, given what stands between and and or.
-/
import Derived.Test.YtlmopoipjolbgaaGreatDoorM08
import Derived.Test.YtlmopoipjolbgaaGreatDoorM07
import Derived.Test.YtlmopoipjolbgaaGreatDoorM04
import Derived.Deep.LoopGhost
namespace Go.Proofs.YtlmopoipjolbgaaGreatDoor.LexW
open Go.RowKit Go.Shelf Go.Proofs.YtlmopoipjolbgaaGreatDoor.LexS Go.Proofs.YtlmopoipjolbgaaGreatDoorW.PrintWords
set_option linter.unusedVariables false
set_option linter.unusedSimpArgs false

theorem words_find : ∀ n, n < 8 → wordsT.find? (fun x => decide ((wordsT.getD n (nil0, 0, false)).1 = x.1)) = some (wordsT.getD n (nil0, 0, false)) := by decide
theorem words_flag : ∀ n, n < 8 → ((wordsT.getD n (nil0, 0, false)).2.2 = true ↔ ((n : Int) + 1 = 3 ∨ (n : Int) + 1 = 4 ∨ (n : Int) + 1 = 6)) := by decide
theorem verdict_back {v : Vd} (h : okV v) (ep : EP) (g : List UInt8) {R : List Tk} (hR : R ≠ []) : verdictP ep (tks (itV g v) ++ R) = .ok (v, R) := by
  obtain ⟨n, hn⟩ : ∃ n : Nat, v.f0 = (n : Int) + 1 := ⟨v.f0.toNat - 1, by have := h.1; omega⟩
  have hn8 : n < 8 := by have := h.2.1; omega
  have hw : vdW v = wordsT.getD n (nil0, 0, false) := by unfold vdW; rw [hn]; congr 1
  have hf := words_find n hn8
  have hk := words_kind n hn8
  have hb := words_flag n hn8
  unfold itV
  rw [hw]
  generalize hq : wordsT.getD n (nil0, 0, false) = q at *
  obtain ⟨xt, xk, xn⟩ := q
  simp only at hk hb
  unfold verdictP
  cases xn with
  | true =>
    simp only [if_true, tks, List.map_cons, List.map_nil, List.cons_append, List.nil_append]
    show (if (tW xt).kind = 2 then _ else _) = _
    rw [if_pos (by rfl)]
    rw [show wordsT.find? (fun x => decide ((hdT (tW xt :: tN (numB v.f1) v.f1 :: R)).text = x.1)) = some (xt, xk, true) from hf]
    show bnd (stepP ep (tW xt :: tN (numB v.f1) v.f1 :: R)) _ = _
    rw [step_ne (by simp), bnd_ok, if_pos rfl, kn_yes _ _ hR, bnd_ok, hk, ← hn]
    rfl
  | false =>
    simp only [tks, List.map_cons, List.map_nil, List.cons_append, List.nil_append, Bool.false_eq_true, if_false]
    show (if (tW xt).kind = 2 then _ else _) = _
    rw [if_pos (by rfl)]
    rw [show wordsT.find? (fun x => decide ((hdT (tW xt :: R)).text = x.1)) = some (xt, xk, false) from hf]
    show bnd (stepP ep (tW xt :: R)) _ = _
    rw [step_ne hR, bnd_ok, if_neg (by decide), hk, ← hn]
    have h0 : v.f1 = 0 := h.2.2.2 (fun e => by have := hb.2 (.inl (by omega)); exact absurd this (by decide)) (fun e => by have := hb.2 (.inr (.inl (by omega))); exact absurd this (by decide)) (fun e => by have := hb.2 (.inr (.inr (by omega))); exact absurd this (by decide))
    rw [← h0]
theorem call_back {c : Cl} (h : okC c) (ep : EP) {R : List Tk} (hR : R ≠ []) : callP ep (tkC c :: R) = .ok (c, R) := by
  obtain ⟨t, n⟩ := c
  unfold tkC
  by_cases ht : t = nil0
  · rw [if_pos ht]
    unfold callP
    show (if (tN (numB n) n).kind = 3 then bnd (kindP ep 3 (tN (numB n) n :: R)) _ else _) = _
    rw [if_pos (show (tN (numB n) n).kind = 3 from rfl), kn_yes _ _ hR, bnd_ok]
    have ht' : t = nil0 := ht
    rw [ht']
    rfl
  · rw [if_neg ht]
    have h0 : n = 0 := by
      rcases h with ⟨h1, _⟩ | ⟨h1, _⟩
      · exact absurd h1 ht
      · exact h1
    unfold callP
    show (if (tW t).kind = 3 then _ else bnd (kindP ep 2 (tW t :: R)) _) = _
    rw [if_neg (show ¬ (tW t).kind = 3 from by show ¬ (2 : Int) = 3; decide), kw_yes _ hR, bnd_ok, h0]
    rfl
theorem tks_itC : ∀ l : List Cl, tks (itC l) = moreT (tS sComma) (fun c => [tkC c]) l
  | [] => rfl
  | c :: l => by
    rw [itC]
    simp only [tks, List.map_cons]
    rw [show List.map (·.2) (itC l) = moreT (tS sComma) (fun c => [tkC c]) l from tks_itC l]
    simp [moreT]
theorem sep_facts : isT sComma (tS sComma) = true ∧ isT sComma (tW sDo) = false ∧ isT sComma (tW sWhen) = false ∧ isT sWhen (tW sWhen) = true ∧ isT sWhen (tW sDo) = false ∧ isT sDo (tW sDo) = true ∧ isT sSemi (tS sSemi) = true ∧ isT sAnd (tW sDo) = false ∧ isT sOr (tW sDo) = false ∧ isT sOn (tW sOn) = true ∧ isT sOn tkEnd = false ∧
    isT sArch (tW sArch) = true ∧ isT sForeign (tW sForeign) = true ∧ isT sDefault (tW sDefault) = true ∧ isT sAnd tkEnd = false ∧ isT sOr tkEnd = false := by decide
theorem rule_back {r : Rl} (h : okR r) (ep : EP) {R : List Tk} (hR : R ≠ []) : ∃ T, tks (itR r) ++ R = tW sOn :: T ∧ T ≠ [] ∧ ruleP ep T = .ok (r, R) := by
  obtain ⟨s1, s2, s3, s4, s5, s6, s7, s8, s9, _⟩ := sep_facts
  obtain ⟨c, l, hc⟩ : ∃ c l, r.f0 = c :: l := by
    cases hl : r.f0 with
    | nil => exact absurd hl h.ne
    | cons c l => exact ⟨c, l, rfl⟩
  have hcalls := h.calls
  rw [hc] at hcalls
  -- from 'do' on
  have hV : verdictP ep (tks (itV gSp r.f2) ++ (tS sSemi :: R)) = .ok (r.f2, tS sSemi :: R) := verdict_back h.verd ep gSp (by simp)
  have hVne : tks (itV gSp r.f2) ++ (tS sSemi :: R) ≠ [] := by simp
  have hT : ∀ (D : List Tk) (hD : D ≠ []) (hcm : isT sComma (hdT D) = false), turnsP ep (callP ep) sComma (tkC c :: (moreT (tS sComma) (fun c => [tkC c]) l ++ D)) = .ok (c :: l, D) := fun D hD hcm =>
    turns_read ep (callP ep) sComma (tS sComma) (fun c => [tkC c]) s1 hD hcm c l (fun z hz R' hR' _ => ⟨call_back (hcalls z hz) ep hR', by simp⟩)
  have hcs : tks (itCs r.f0) = tkC c :: moreT (tS sComma) (fun c => [tkC c]) l := by
    rw [hc, itCs]
    show tkC c :: tks (itC l) = _
    rw [tks_itC]
  by_cases hw : r.f1.f0 = 1
  · have hx1 : r.f1 = ⟨1, [], 0, 0, 0, 0⟩ := by
      have hk := h.cond
      rw [okE_eq] at hk
      obtain ⟨⟨_, _, _, _, h126, _, hz, _, _⟩, _⟩ := hk
      have hz' := hz (by omega)
      rw [ex_eta hz'.1 hz'.2.1 hz'.2.2.1 hz'.2.2.2, hw, List.length_eq_zero_iff.1 (h126 (by omega))]
    refine ⟨tkC c :: (moreT (tS sComma) (fun c => [tkC c]) l ++ (tW sDo :: (tks (itV gSp r.f2) ++ (tS sSemi :: R)))), ?_, by simp, ?_⟩
    · unfold itR
      rw [if_pos hw]
      simp only [tks, List.map_cons, List.map_append, List.nil_append, List.cons_append, List.append_assoc, List.map_nil]
      rw [show List.map (·.2) (itCs r.f0) = _ from hcs]
      simp
    · unfold ruleP
      rw [hT _ (by simp) (by exact s2), bnd_ok]
      show bnd (maybeP ep sWhen (tW sDo :: _)) _ = _
      rw [maybe_no (by exact s5), bnd_ok]
      show bnd (Except.ok ((⟨1, [], 0, 0, 0, 0⟩ : Ex), tW sDo :: (tks (itV gSp r.f2) ++ (tS sSemi :: R)))) _ = _
      rw [bnd_ok, want_yes s6 hVne, bnd_ok, hV, bnd_ok, want_yes s7 hR, bnd_ok, ← hx1, ← hc]
  · have hE : exprP ep (oneP ep 64) (tkE r.f1 ++ (tW sDo :: (tks (itV gSp r.f2) ++ (tS sSemi :: R)))) = .ok (r.f1, tW sDo :: (tks (itV gSp r.f2) ++ (tS sSemi :: R))) := expr_back h.cond h.deep ep (by simp) (by exact s8) (by exact s9)
    refine ⟨tkC c :: (moreT (tS sComma) (fun c => [tkC c]) l ++ (tW sWhen :: (tkE r.f1 ++ (tW sDo :: (tks (itV gSp r.f2) ++ (tS sSemi :: R)))))), ?_, by simp, ?_⟩
    · unfold itR
      rw [if_neg hw]
      simp only [tks, List.map_cons, List.map_append, List.nil_append, List.cons_append, List.append_assoc, List.map_nil]
      rw [show List.map (·.2) (itCs r.f0) = _ from hcs]
      simp [tkE, tks]
    · unfold ruleP
      rw [hT _ (by simp) (by exact s3), bnd_ok]
      show bnd (maybeP ep sWhen (tW sWhen :: _)) _ = _
      rw [maybe_yes s4 (by simp), bnd_ok]
      show bnd (if true = true then exprP ep (oneP ep 64) _ else _) _ = _
      rw [if_pos rfl, hE, bnd_ok, want_yes s6 hVne, bnd_ok, hV, bnd_ok, want_yes s7 hR, bnd_ok, ← hc]
theorem rules_back (ep : EP) {R : List Tk} (hR : R ≠ []) (hRo : isT sOn (hdT R) = false) : ∀ (l : List Rl) (h : ∀ r ∈ l, okR r) (n : Nat) (a : List Rl), l.length < n → a.length + l.length ≤ 512 → rulesP ep n a (tks (l.flatMap itR) ++ R) = .ok (a ++ l, R)
  | [], _, n, a, hn, _ => by
    obtain ⟨n, rfl⟩ : ∃ m, n = m + 1 := ⟨n - 1, by simp at hn; omega⟩
    show rulesP ep (n + 1) a R = _
    rw [rulesP, if_neg (by rw [hRo]; decide), List.append_nil]
  | r :: l, h, n, a, hn, h512 => by
    obtain ⟨n, rfl⟩ : ∃ m, n = m + 1 := ⟨n - 1, by simp at hn; omega⟩
    have hne : tks (l.flatMap itR) ++ R ≠ [] := by simp [hR]
    obtain ⟨T, hT, hTne, hr⟩ := rule_back (h r (by simp)) ep hne
    have e : tks ((r :: l).flatMap itR) ++ R = tW sOn :: T := by
      rw [List.flatMap_cons, tks_app, List.append_assoc, hT]
    rw [e, rulesP, if_pos (by exact sep_facts.2.2.2.2.2.2.2.2.2.1), if_neg (by simp at h512; omega), step_ne hTne, bnd_ok, hr, bnd_ok]
    show rulesP ep n (a ++ [r]) (tks (l.flatMap itR) ++ R) = _
    rw [rules_back ep hR hRo l (fun x hx => h x (List.mem_cons_of_mem _ hx)) n (a ++ [r]) (by simp at hn; omega) (by simp at h512 ⊢; omega)]
    simp
theorem itR_len (l : List Rl) : l.length ≤ (tks (l.flatMap itR)).length := by
  induction l with
  | nil => simp
  | cons r l ih =>
    rw [List.flatMap_cons, tks_app, List.length_append, List.length_cons]
    have : 1 ≤ (tks (itR r)).length := by unfold itR; simp [tks]
    omega
theorem policy_back {p : Po} (h : okP p) (ep : EP) : policyP ep (tks (itP p) ++ [tkEnd]) = .ok (p, [tkEnd]) := by
  obtain ⟨s1, s2, s3, s4, s5, s6, s7, s8, s9, s10, s11, s12, s13, s14, _⟩ := sep_facts
  have hR := rules_back ep (R := [tkEnd]) (by simp) (by exact s11) p.rules h.rules ((tks (p.rules.flatMap itR) ++ [tkEnd]).length + 1) [] (by have := itR_len p.rules; rw [List.length_append]; omega) (by have := h.many; simpa using this)
  have hV1 := verdict_back h.forn ep gSp (R := tS sSemi :: tW sDefault :: (tks (itV gSp p.dflt) ++ (tS sSemi :: (tks (p.rules.flatMap itR) ++ [tkEnd])))) (by simp)
  have hV2 := verdict_back h.dflt ep gSp (R := tS sSemi :: (tks (p.rules.flatMap itR) ++ [tkEnd])) (by simp)
  have e : tks (itP p) ++ [tkEnd] = tW sArch :: tW p.arch :: tS sSemi :: tW sForeign :: (tks (itV gSp p.foreign) ++ (tS sSemi :: tW sDefault :: (tks (itV gSp p.dflt) ++ (tS sSemi :: (tks (p.rules.flatMap itR) ++ [tkEnd]))))) := by
    unfold itP
    simp [tks]
  rw [e]
  unfold policyP
  rw [want_yes s12 (by simp), bnd_ok, kw_yes _ (by simp), bnd_ok, want_yes s7 (by simp), bnd_ok, want_yes s13 (by simp), bnd_ok, hV1, bnd_ok, want_yes s7 (by simp), bnd_ok, want_yes s14 (by simp), bnd_ok, hV2, bnd_ok, want_yes s7 (by simp), bnd_ok, hR, bnd_ok]
  rfl
theorem whole_back {α : Type} {f : EP → List Tk → Rd α} (hf : ∀ ep ep' L L', ep.1 = ep'.1 → Alike L L' → RelV Eq (f ep L) (f ep' L')) {s : ByteArray} {T : List Tk} {x : α} (hA : Alike (toks s).1 (T ++ [tkEnd])) (hx : f (toks s).2 (T ++ [tkEnd]) = .ok (x, [tkEnd])) : wholeP f s = .ok x := by
  have hr := hf (toks s).2 (toks s).2 _ _ rfl hA
  rw [hx] at hr
  have hne : (toks s).1 ≠ [] := by intro e; have := hA.len; rw [e] at this; simp at this
  have hw : wholeP f s = bnd (f (toks s).2 (toks s).1) (fun p => bnd (kindP (toks s).2 1 p.2) (fun _ => .ok p.1)) := by
    unfold wholeP
    split
    · rename_i e; exact absurd e hne
    · rfl
  rw [hw]
  generalize f (toks s).2 (toks s).1 = y at hr
  cases hr with
  | @ok a _ L _ hV hL =>
    rw [bnd_ok]
    have hk : (hdT L).kind = 1 := hL.kind
    show bnd (kindP (toks s).2 1 L) _ = _
    unfold kindP
    rw [if_pos hk, if_pos rfl, bnd_ok, hV]
/-- a policy that was written is read as it was -/
theorem parse_back {p : Po} (h : okP p) (hz : (prP p).size ≤ 65536) : parseV (prP p) = (p, (0, 0)) := by
  obtain ⟨_, hA⟩ := prP_toks h hz
  unfold parseV
  rw [whole_back (fun ep ep' L L' he hL => policy_al he hL) hA (policy_back h _)]
theorem exprV_back {x : Ex} (h : okE x) (hd : dE x ≤ 64) (hz : (prE x).size ≤ 65536) : exprV (prE x) = (x, (0, 0)) := by
  obtain ⟨_, hA⟩ := prE_toks h hz
  obtain ⟨_, _, _, _, _, _, _, _, _, _, _, _, _, _, s15, s16⟩ := sep_facts
  unfold exprV
  have e : (itE x []).map (·.2) = tkE x := tks_g x [] gSp
  rw [e] at hA
  rw [whole_back (fun ep ep' L L' he hL => expr_al he (fun L L' h => one_al he 64 L L' h) hL) hA (expr_back h hd _ (by simp) s15 s16)]
end Go.Proofs.YtlmopoipjolbgaaGreatDoor.LexW
namespace Go.Proofs.YtlmopoipjolbgaaGreatDoor.LexW
open Go.RowKit Go.Shelf Go.Proofs.YtlmopoipjolbgaaGreatDoor.LexS Go.Proofs.YtlmopoipjolbgaaGreatDoorW.PrintWords
set_option linter.unusedVariables false
set_option linter.unusedSimpArgs false
attribute [local go_sem] fld_num fld_text

abbrev exAgg (x : Ex) (v : Value) : Value := .agg #[.int .i64 x.f0, v, .int .i64 x.f2, .int .u64 x.f3, .int .i64 x.f4, .int .u64 x.f5]
abbrev exZero : Obj := .cells #[.int .i64 0, .slice none 0 0, .int .i64 0, .int .u64 0, .int .i64 0, .int .u64 0] 37
/-- the expression's row of arguments, made from a block on -/
def ExRow (W : World) (base : Nat) (v : Value) (l : List Ex) : Prop := kEx.R 37 W base (fun _ => True) v l
def ExOut (s : ByteArray) (ep : EP) (g : Nat) (d : Int) (base : Nat) (p : Ex × List Tk) (e : Ending) (W' : World) : Prop := ∃ v, e = .returned (exAgg p.1 v) ∧ ExRow W' base v p.1.f1 ∧ Rdr s ep g p.2 d W'
theorem blk6 {W : World} {b : Nat} {v0 v1 v2 v3 v4 v5 : Value} {t : TypeId} (h : W.heap[b]? = some (.cells #[v0, v1, v2, v3, v4, v5] t (0, 0))) : W.cell? ⟨b, 0, none⟩ = some v0 ∧ W.cell? ⟨b, 1, none⟩ = some v1 ∧ W.cell? ⟨b, 2, none⟩ = some v2 ∧ W.cell? ⟨b, 3, none⟩ = some v3 ∧ W.cell? ⟨b, 4, none⟩ = some v4 ∧ W.cell? ⟨b, 5, none⟩ = some v5 ∧ ∀ j, W.frozen? ⟨b, j, none⟩ = false := by
  refine ⟨?_, ?_, ?_, ?_, ?_, ?_, fun j => ?_⟩ <;> simp [World.cell?, World.frozen?, h]
theorem Chg.sets6 {S : Nat → Prop} {W W' : World} (h : Chg S W W') (b : Nat) (hb : W.heap.size ≤ b) (v0 v1 v2 v3 v4 v5 : Value) :
    Chg S W ((((((W'.setCell ⟨b, 0, none⟩ v0).setCell ⟨b, 1, none⟩ v1).setCell ⟨b, 2, none⟩ v2).setCell ⟨b, 3, none⟩ v3).setCell ⟨b, 4, none⟩ v4).setCell ⟨b, 5, none⟩ v5) :=
  ((h.sets4 b hb v0 v1 v2 v3).set1 b 4 hb v4).set1 b 5 hb v5
theorem Rdr.far6 {s : ByteArray} {ep : EP} {g : Nat} {L : List Tk} {d : Int} {W : World} (h : Rdr s ep g L d W) (b : Nat) (hb : g ≠ b) (v0 v1 v2 v3 v4 v5 : Value) :
    Rdr s ep g L d ((((((W.setCell ⟨b, 0, none⟩ v0).setCell ⟨b, 1, none⟩ v1).setCell ⟨b, 2, none⟩ v2).setCell ⟨b, 3, none⟩ v3).setCell ⟨b, 4, none⟩ v4).setCell ⟨b, 5, none⟩ v5) :=
  (((((h.far b 0 hb v0).far b 1 hb v1).far b 2 hb v2).far b 3 hb v3).far b 4 hb v4).far b 5 hb v5
theorem blk_sets6 {W : World} {b : Nat} {u0 u1 u2 u3 u4 u5 : Value} {t : TypeId} (h : W.heap[b]? = some (.cells #[u0, u1, u2, u3, u4, u5] t (0, 0))) (v0 v1 v2 v3 v4 v5 : Value) :
    ((((((W.setCell ⟨b, 0, none⟩ v0).setCell ⟨b, 1, none⟩ v1).setCell ⟨b, 2, none⟩ v2).setCell ⟨b, 3, none⟩ v3).setCell ⟨b, 4, none⟩ v4).setCell ⟨b, 5, none⟩ v5).heap[b]? = some (.cells #[v0, v1, v2, v3, v4, v5] t (0, 0)) :=
  blk_set (blk_set (blk_set (blk_set (blk_set (blk_set h 0 v0) 1 v1) 2 v2) 3 v3) 4 v4) 5 v5
theorem rels_blk {w : World} {B : Nat} (h : w.heap[B]? = some (.cells (relsT.map Value.string).toArray 9 (0, 0))) (i : Nat) (hi : i < 6) : w.cell? ⟨B, i, none⟩ = some (.string (relsT.getD i nil0)) := by
  match i, hi with
  | 0, _ | 1, _ | 2, _ | 3, _ | 4, _ | 5, _ => simp [World.cell?, h, relsT]

theorem relF_kind (t : Tk) : ∀ n, relF t n ≠ 0 → t.kind ≠ 1
  | 0, h => absurd rfl h
  | n + 1, h => by
    unfold relF at h
    split at h
    · rename_i hi; exact isT_kind hi
    · exact relF_kind t n h

set_option maxRecDepth 100000 in
set_option maxHeartbeats 4000000 in
theorem test_any (s : ByteArray) (ep : EP) (g : Nat) (L : List Tk) (d f : Int) (w0 W : World) (hO : Okw w0 g W) (hR : Rdr s ep g L d W) (hk : (hdT L).kind ≠ 1) :
    Calls Tryz.prog 91 #[.pointer (some ⟨g, 0, none⟩), .int .i64 f] W (Outs g W (testP ep f L) (ExOut s ep g d W.heap.size)) := by
  have hgW := hR.lt
  have hW1 : Below W.heap.size W (W.alloc exZero) := (Below.refl _ W).alloc (Nat.le_refl _) _
  have hz1 := new_blk W #[.int .i64 0, .slice none 0 0, .int .i64 0, .int .u64 0, .int .i64 0, .int .u64 0] 37
  have HS := Lib.hid (step_any s ep g L d w0 _ (hO.below hW1) (hR.below hW1) hk)
  have HO := Lib.hid hO; have HZ1 := Lib.hid hz1; have HW1 := Lib.hid hW1
  clear hO hR hW1 hz1 hk
  cases hs : stepP ep L with
  | error p =>
    have HSE := Lib.hid hs; clear hs
    go_enter Tryz.func91, Tryz.ntmps91
    go_wp2_with fail
    refine HS.out.mono ?_
    rintro e W2 h
    obtain ⟨rfl, hc⟩ := h.err HSE.out
    go_wp2
    exact ⟨rfl, Outs.mk_err (by unfold testP; rw [HSE.out]; rfl) rfl ((Chg.of_below HW1.out (fun k => k = g)).trans hc (fun k e => .inl e))⟩
  | ok L1 =>
    have hv : testP ep f L = bnd (maskP ep L1) (fun p => if relF (hdT p.2) 6 = 0 then .error (badP 61 p.2) else bnd (stepP ep p.2) (fun L3 => bnd (kindP ep 3 L3) (fun q => .ok (⟨6, [], f, p.1, relF (hdT p.2) 6, q.1.num⟩, q.2)))) := by
      unfold testP; rw [hs]; rfl
    have HV := Lib.hid hv; have HSE := Lib.hid hs; clear hs hv
    go_enter Tryz.func91, Tryz.ntmps91
    go_wp2_with fail
    refine HS.out.mono ?_
    rintro e W2 h
    obtain ⟨⟨rfl, hR2⟩, hc⟩ := h.ok HSE.out
    have hcW : Chg (fun k => k = g) W W2 := (Chg.of_below HW1.out (fun k => k = g)).trans hc (fun k e => .inl e)
    have hz2 := chg_block hc HZ1.out (by omega)
    have hWs : W.heap.size < W2.heap.size := by have := hc.size; simp at this; omega
    -- the world behind the test's own box
    have hY : Below W2.heap.size W2 (W2.alloc (.cells #[.int .i64 6, .slice none 0 0, .int .i64 f, .int .u64 18446744073709551615, .int .i64 0, .int .u64 0] 37)) := (Below.refl _ W2).alloc (Nat.le_refl _) _
    have hv3 := new_blk W2 #[.int .i64 6, .slice none 0 0, .int .i64 f, .int .u64 18446744073709551615, .int .i64 0, .int .u64 0] 37
    have hz3 := blk_past (.cells #[.int .i64 6, .slice none 0 0, .int .i64 f, .int .u64 18446744073709551615, .int .i64 0, .int .u64 0] 37) hz2
    have hR3 := hR2.below hY
    have hO3 := (HO.out.chg hcW).below hY
    have hc3 := hcW.trans (Chg.of_below hY (fun k => k = g)) (fun k e => .inl e)
    obtain ⟨V, hV⟩ : ∃ V, V = W2.heap.size := ⟨_, rfl⟩
    have HV2 := Lib.hid hV
    have hVW : W.heap.size < V := by omega
    have HM := Lib.hid (maybe_any s ep g L1 d sAmp w0 _ hO3 hR3)
    have HR3 := Lib.hid hR3; have HO3 := Lib.hid hO3; have HC3 := Lib.hid hc3; have HZ3 := Lib.hid hz3; have HV3 := Lib.hid hv3; have HR2 := Lib.hid hR2; have HY := Lib.hid hY
    clear hR2 hc hcW hz2 hY hv3 hz3 hR3 hO3 hc3 hV HS
    obtain ⟨t, ee, hB2, rest, j, rfl, rfl, hT⟩ := HR2.out
    obtain ⟨c0, c1, c2, c3, c4, c5, c6⟩ := rdb_cell hB2
    have a1 := cell_past (.cells #[.int .i64 6, .slice none 0 0, .int .i64 f, .int .u64 18446744073709551615, .int .i64 0, .int .u64 0] 37) c1
    clear hB2 hT c0 c1 c2 c3 c4 c5 c6
    by_cases hk4 : t.kind = 4
    rotate_left
    have b4 : (t.kind == 4) = false := by rw [beq_eq_false_iff_ne]; exact hk4
    obtain ⟨m, hm⟩ : ∃ m : Int, m = 18446744073709551615 := ⟨_, rfl⟩
    obtain ⟨L5, hL5⟩ : ∃ L5, L5 = t :: rest := ⟨_, rfl⟩
    have HMV : Hid (maskP ep (t :: rest) = .ok (m, L5)) := Lib.hid (by rw [hm, hL5]; show (if t.kind = 4 then _ else _) = _; rw [if_neg hk4])
    rw [← hL5] at HR3
    clear hL5
    clear hk4
    go_wp2_with fail
    rw [← hm] at HR3 HC3 HZ3 HV3 ⊢
    have HR5 := HR3; have HC5 := HC3; have HZ5 := HZ3; have HV5 := HV3
    rw [← HV2.out] at HV5 ⊢
    generalize W2.alloc (.cells #[.int .i64 6, .slice none 0 0, .int .i64 f, .int .u64 m, .int .i64 0, .int .u64 0] 37) = W5 at *
    clear b4 a1 hm HR3 HC3 HZ3 HV3 HY HM HO3
    rotate_left
    have b4 : (t.kind == 4) = true := by rw [beq_iff_eq]; exact hk4
    have HMK : Hid (maskP ep (t :: rest) = bnd (maybeP ep sAmp (t :: rest)) (fun p => if p.1 = true then bnd (kindP ep 3 p.2) (fun q => .ok (q.1.num, q.2)) else .ok (18446744073709551615, p.2))) := Lib.hid (by show (if t.kind = 4 then _ else _) = _; rw [if_pos hk4])
    clear hk4
    rcases hmb : maybeP ep sAmp (t :: rest) with p | ⟨b, L4⟩
    · have HMB := Lib.hid hmb; clear hmb
      go_wp2_with fail
      refine HM.out.mono ?_
      rintro e W4 h
      obtain ⟨rfl, hc⟩ := h.err HMB.out
      go_wp2
      exact ⟨rfl, Outs.mk_err (by rw [HV.out, HMK.out, HMB.out]; rfl) rfl (HC3.out.trans hc (fun k e => .inl e))⟩
    have HMB := Lib.hid hmb; clear hmb
    go_wp2_with fail
    rw [← HV2.out]
    refine HM.out.mono ?_
    rintro e W4 h
    obtain ⟨⟨rfl, hR4⟩, hc⟩ := h.ok HMB.out
    have hz4 := chg_block hc HZ3.out (by omega)
    have hv4 := chg_block hc HV3.out (by omega)
    rw [← HV2.out] at hv4
    have hc4 := HC3.out.trans hc (fun k e => .inl e)
    have hV4 : V < W4.heap.size := (Array.getElem?_eq_some_iff.1 hv4).1
    have hO4 := HO3.out.chg hc
    have HR4 := Lib.hid hR4; have HC4 := Lib.hid hc4; have HZ4 := Lib.hid hz4; have HV4 := Lib.hid hv4; have HO4 := Lib.hid hO4
    clear hR4 hc4 hz4 hv4 hO4 hc a1 b4 HR3 HC3 HZ3 HV3 HY HM HO3
    cases b
    obtain ⟨m, hm⟩ : ∃ m : Int, m = 18446744073709551615 := ⟨_, rfl⟩
    have HMV : Hid (maskP ep (t :: rest) = .ok (m, L4)) := Lib.hid (by rw [HMK.out, HMB.out, hm]; rfl)
    go_wp2_with fail
    rw [← hm] at HV4 ⊢
    obtain ⟨L5, hL5⟩ : ∃ L5, L5 = L4 := ⟨_, rfl⟩
    rw [← hL5] at HMV HR4
    clear hL5
    have HR5 := HR4; have HC5 := HC4; have HZ5 := HZ4; have HV5 := HV4
    obtain ⟨W5, hW5⟩ : ∃ W5, W5 = W4 := ⟨_, rfl⟩
    rw [← hW5] at HR5 HC5 HZ5 HV5 ⊢
    clear hm HR4 HC4 HZ4 HV4 HO4 HMK HMB hW5
    rotate_left
    have HK := Lib.hid (kind_any s ep g L4 d 3 w0 W4 HO4.out HR4.out)
    rcases hkq : kindP ep 3 L4 with p | ⟨q, L5⟩
    · have HKQ := Lib.hid hkq; clear hkq
      go_wp2_with fail
      refine HK.out.mono ?_
      rintro e W6 h
      obtain ⟨rfl, hc⟩ := h.err HKQ.out
      go_wp2
      exact ⟨rfl, Outs.mk_err (by rw [HV.out, HMK.out, HMB.out]; show bnd (bnd (kindP ep 3 L4) _) _ = _; rw [HKQ.out]; rfl) rfl (HC4.out.trans hc (fun k e => .inl e))⟩
    have HKQ := Lib.hid hkq; clear hkq
    have HMV : Hid (maskP ep (t :: rest) = .ok (q.num, L5)) := Lib.hid (by rw [HMK.out, HMB.out]; show bnd (kindP ep 3 L4) _ = _; rw [HKQ.out]; rfl)
    go_wp2_with fail
    refine HK.out.mono ?_
    rintro e W6 h
    obtain ⟨⟨rfl, hR6⟩, hc⟩ := h.ok HKQ.out
    have hz6 := chg_block hc HZ4.out (by omega)
    have hv6 := chg_block hc HV4.out (by omega)
    obtain ⟨y0, y1, y2, y3, y4, y5, yf⟩ := blk6 hv6
    obtain ⟨m, hm⟩ : ∃ m, m = q.num := ⟨_, rfl⟩
    unfold tkVal
    dsimp only
    rw [← hm] at HMV ⊢
    have HR5 := Lib.hid (hR6.far V 3 (by omega) (.int .u64 m))
    have HC5 := Lib.hid ((HC4.out.trans hc (fun k e => .inl e)).set1 V 3 (by omega) (.int .u64 m))
    have HZ5 := Lib.hid ((Below.heap_setCell W6 ⟨V, 3, none⟩ (.int .u64 m) W.heap.size (by show W.heap.size ≠ V; omega)).trans hz6)
    have HV5 := Lib.hid (blk_set hv6 3 (.int .u64 m))
    clear hR6 hc hz6 hv6 hm
    go_wp2_with fail
    generalize W6.setCell ⟨V, 3, none⟩ (.int .u64 m) = W5 at *
    clear y0 y1 y2 y3 y4 y5 yf HR4 HC4 HZ4 HV4 HO4 HMK HMB HK HKQ hV4
    all_goals
      refine (rels_any W5).mono ?_
      rintro e W6 ⟨rfl, rfl⟩
      have hq6 : (W5.alloc relsObj).heap[W5.heap.size]? = some (.cells (relsT.map Value.string).toArray 9 (0, 0)) := new_blk W5 _ _
      have hb6 : Below W5.heap.size W5 (W5.alloc relsObj) := (Below.refl _ W5).alloc (Nat.le_refl _) _
      have HR6 := Lib.hid (HR5.out.below hb6)
      have HC6 := Lib.hid (HC5.out.trans (Chg.of_below hb6 (fun k => k = g)) (fun k e => .inl e))
      have HZ6 := Lib.hid (blk_past relsObj HZ5.out)
      have HV6 := Lib.hid (blk_past relsObj HV5.out)
      have hV5 : V < W5.heap.size := (Array.getElem?_eq_some_iff.1 HV5.out).1
      obtain ⟨B, hB⟩ : ∃ B, B = W5.heap.size := ⟨_, rfl⟩
      have hVB : V < B := by omega
      go_wp2
      rw [← hB] at hq6 ⊢
      show Code.wp _ _ _ _ (W5.alloc relsObj)
      generalize W5.alloc relsObj = W6 at *
      have HQ6 := Lib.hid hq6
      clear hq6 hb6 HR5 HC5 HZ5 HV5 hV5 hB
      go_loopw [28] (fun vi wr => ∃ i : Nat, vi = .int .i64 i ∧ i ≤ 6 ∧ Hid (wr.heap[V]? = some (.cells #[.int .i64 6, .slice none 0 0, .int .i64 f, .int .u64 m, .int .i64 (relF (hdT L5) i), .int .u64 0] 37 (0, 0))) ∧ Hid (Chg (fun k => k = V) W6 wr)) (fun vi _ => 6 - (intOf vi).toNat)
      case atStart => exact ⟨0, rfl, by omega, HV6, Lib.hid (Chg.refl _ _)⟩
      case round =>
        obtain ⟨i, rfl, hi, HVr, HCr⟩ := hrel
        have hRr : Rdr s ep g L5 d wr := by
          obtain ⟨t', e', hB', hA'⟩ := HR6.out
          exact ⟨t', e', chg_block HCr.out hB' (by omega), hA'⟩
        have HRr := Lib.hid hRr; clear hRr
        obtain ⟨y0, y1, y2, y3, y4, y5, yf⟩ := blk6 HVr.out
        by_cases hlt : i < 6
        · have x0 := rels_blk (chg_block HCr.out HQ6.out (by omega)) i hlt
          have HI := Lib.hid (is_any s ep g L5 d (relsT.getD i nil0) wr HRr.out)
          have hstep : relF (hdT L5) (i + 1) = if isT (relsT.getD i nil0) (hdT L5) then (i : Int) + 1 else relF (hdT L5) i := rfl
          have HST := Lib.hid hstep; clear hstep
          cases hb : isT (relsT.getD i nil0) (hdT L5) with
          | false =>
            rw [hb] at HI HST
            clear hb
            go_wp2_with fail
            refine HI.out.mono ?_
            rintro e wr' ⟨rfl, rfl⟩
            go_wp2
            exact ⟨⟨i + 1, by go_num, by omega, Lib.hid (by rw [HST.out]; exact HVr.out), HCr⟩, by simp [intOf]; omega⟩
          | true =>
            rw [hb] at HI HST
            clear hb
            go_wp2_with fail
            refine HI.out.mono ?_
            rintro e wr' ⟨rfl, rfl⟩
            go_wp2
            exact ⟨⟨i + 1, by go_num, by omega, Lib.hid (by rw [HST.out]; exact blk_set HVr.out 4 (.int .i64 ((i : Int) + 1))), Lib.hid (HCr.out.trans (Chg.of_set wr V 4 _) (fun k e => .inl e))⟩, by simp [intOf]; omega⟩
        · obtain rfl : i = 6 := by omega
          have hcw := HC6.out.trans HCr.out (fun k e => .inr (by omega))
          have hzr := chg_block HCr.out HZ6.out (by omega)
          have hwr : W.heap.size < wr.heap.size := by have := (Array.getElem?_eq_some_iff.1 hzr).1; omega
          have hVr : V < wr.heap.size := (Array.getElem?_eq_some_iff.1 HVr.out).1
          have hkn := relF_kind (hdT L5) 6
          obtain ⟨r, hr⟩ : ∃ r, r = relF (hdT L5) 6 := ⟨_, rfl⟩
          have hv2 : testP ep f L = if r = 0 then .error (badP 61 L5) else bnd (stepP ep L5) (fun L3 => bnd (kindP ep 3 L3) (fun q => .ok (⟨6, [], f, m, r, q.1.num⟩, q.2))) := by rw [HV.out, HMV.out, hr]; rfl
          rw [← hr] at y4 HVr hkn
          have HOr := Lib.hid (HO.out.chg hcw)
          have HCW := Lib.hid hcw; have HZr := Lib.hid hzr; have HV3' := Lib.hid hv2
          clear hcw hzr hv2 hr HV HMV
          by_cases hr0 : r = 0
          · have hrb : (r == 0) = true := by rw [beq_iff_eq]; exact hr0
            have HT : Hid (testP ep f L = .error (badP 61 L5)) := Lib.hid (by rw [HV3'.out, if_pos hr0])
            clear hr0
            go_wp2_with fail
            refine (bad_any s ep g L5 d 61 wr HRr.out).mono ?_
            rintro e W7 ⟨he, rfl⟩
            unfold panics at he
            subst he
            go_wp2
            exact ⟨rfl, Outs.mk_err HT.out rfl HCW.out⟩
          · have hrb : (r == 0) = false := by rw [beq_eq_false_iff_ne]; exact hr0
            have HT : Hid (testP ep f L = bnd (stepP ep L5) (fun L3 => bnd (kindP ep 3 L3) (fun q => .ok (⟨6, [], f, m, r, q.1.num⟩, q.2)))) := Lib.hid (by rw [HV3'.out, if_neg hr0])
            have HS := Lib.hid (step_any s ep g L5 d w0 wr HOr.out HRr.out (hkn hr0))
            clear hr0 hkn
            rcases hs : stepP ep L5 with p | L7
            · have HSE := Lib.hid hs; clear hs
              go_wp2_with fail
              refine HS.out.mono ?_
              rintro e W7 h
              obtain ⟨rfl, hc⟩ := h.err HSE.out
              go_wp2
              exact ⟨rfl, Outs.mk_err (by rw [HT.out, HSE.out]; rfl) rfl (HCW.out.trans hc (fun k e => .inl e))⟩
            · have HSE := Lib.hid hs; clear hs
              go_wp2_with fail
              refine HS.out.mono ?_
              rintro e W7 h
              obtain ⟨⟨rfl, hR7⟩, hc⟩ := h.ok HSE.out
              have hv7 := chg_block hc HVr.out (by omega)
              have hz7 := chg_block hc HZr.out (by omega)
              have HK := Lib.hid (kind_any s ep g L7 d 3 w0 W7 (HOr.out.chg hc) hR7)
              have HC7 := Lib.hid (HCW.out.trans hc (fun k e => .inl e)); have HV7 := Lib.hid hv7; have HZ7 := Lib.hid hz7
              clear hv7 hz7 hc hR7 y0 y1 y2 y3 y4 y5 yf
              rcases hkq : kindP ep 3 L7 with p | ⟨q, L8⟩
              · have HKQ := Lib.hid hkq; clear hkq
                go_wp2_with fail
                refine HK.out.mono ?_
                rintro e W8 h
                obtain ⟨rfl, hc⟩ := h.err HKQ.out
                go_wp2
                exact ⟨rfl, Outs.mk_err (by rw [HT.out, HSE.out]; show bnd (kindP ep 3 L7) _ = _; rw [HKQ.out]; rfl) rfl (HC7.out.trans hc (fun k e => .inl e))⟩
              · have HKQ := Lib.hid hkq; clear hkq
                go_wp2_with fail
                refine HK.out.mono ?_
                rintro e W8 h
                obtain ⟨⟨rfl, hR8⟩, hc⟩ := h.ok HKQ.out
                have hv8 := chg_block hc HV7.out (by omega)
                have hz8 := chg_block hc HZ7.out (by omega)
                obtain ⟨y0, y1, y2, y3, y4, y5, yf⟩ := blk6 hv8
                obtain ⟨z0, z1, z2, z3, z4, z5, zf⟩ := blk6 hz8
                have HR8 := Lib.hid hR8; have HC8 := Lib.hid (HC7.out.trans hc (fun k e => .inl e)); have HZ8 := Lib.hid hz8
                have hne : W.heap.size ≠ V := by omega
                clear hR8 hc hz8 hv8
                unfold tkVal
                go_wp2
                have hb6 := blk_sets6 ((Below.heap_setCell W8 ⟨V, 5, none⟩ (.int .u64 q.num) W.heap.size (by show W.heap.size ≠ V; omega)).trans HZ8.out) (.int .i64 6) (.slice none 0 0) (.int .i64 f) (.int .u64 m) (.int .i64 r) (.int .u64 q.num)
                obtain ⟨r0, r1, r2, r3, r4, r5, rf⟩ := blk6 hb6
                refine bodyPost_ret (v := exAgg ⟨6, [], f, m, r, q.num⟩ (.slice none 0 0)) (by simp [results, Tryz.results91, go_sem, r0, r1, r2, r3, r4, r5]) rfl ?_
                refine Outs.mk_ok (b := (⟨6, [], f, m, r, q.num⟩, L8)) (by rw [HT.out, HSE.out]; show bnd (kindP ep 3 L7) _ = _; rw [HKQ.out]; rfl) ⟨.slice none 0 0, rfl, Kd.R_nil _ _ _ _ _, ?_⟩ ((HC8.out.set1 V 5 (by omega) _).sets6 W.heap.size (Nat.le_refl _) _ _ _ _ _ _)
                exact (HR8.out.far V 5 (by omega) _).far6 W.heap.size (by omega) _ _ _ _ _ _
end Go.Proofs.YtlmopoipjolbgaaGreatDoor.LexW
namespace Go.Proofs.YtlmopoipjolbgaaGreatDoor.LexW
open Go.RowKit Go.Shelf Go.Proofs.YtlmopoipjolbgaaGreatDoor.LexS Go.Proofs.YtlmopoipjolbgaaGreatDoorW.PrintWords
set_option linter.unusedVariables false
set_option linter.unusedSimpArgs false

theorem ExRow.chg {S : Nat → Prop} {W W' : World} {base : Nat} {v : Value} {l : List Ex} (h : ExRow W base v l) (hc : Chg S W W') (hS : ∀ k, S k → k < base) : ExRow W' base v l :=
  Kd.R_mono (Kd.R_move (Kd.R_bound h) (fun k hk => hc.block k hk.2.2.1 (fun e => by have := hS k e; have := hk.2.1; omega))) (fun _ _ => trivial)
theorem ExRow.lower {W : World} {base base' : Nat} {v : Value} {l : List Ex} (h : ExRow W base v l) (hb : base' ≤ base) : ExRow W base' v l := Kd.R_lower h hb
theorem ExRow.below {W W' : World} {base : Nat} {v : Value} {l : List Ex} (h : ExRow W base v l) (hb : Below W.heap.size W W') : ExRow W' base v l := Kd.R_below h hb
theorem Rdr.deep {s : ByteArray} {ep : EP} {g : Nat} {L : List Tk} {d : Int} {W : World} (h : Rdr s ep g L d W) (d' : Int) : Rdr s ep g L d' (W.setCell ⟨g, 6, none⟩ (.int .i64 d')) :=
  let ⟨t, e, hB, hA⟩ := h; ⟨t, e, blk_set hB 6 _, hA⟩
/-- a variable that holds the reader's address -/
def Held (W : World) (b g : Nat) : Prop := W.heap[b]? = some (.cells #[.pointer (some ⟨g, 0, none⟩)] 51 (0, 0))
theorem Held.cell {W : World} {b g : Nat} (h : Held W b g) : W.cell? ⟨b, 0, none⟩ = some (.pointer (some ⟨g, 0, none⟩)) := by simp [World.cell?, show W.heap[b]? = _ from h]
theorem Held.lt {W : World} {b g : Nat} (h : Held W b g) : b < W.heap.size := (Array.getElem?_eq_some_iff.1 h).1
theorem Held.chg {S : Nat → Prop} {W W' : World} {b g : Nat} (h : Held W b g) (hc : Chg S W W') (hn : ¬ S b) : Held W' b g := chg_block hc h hn
theorem Held.below {W W' : World} {b g : Nat} (h : Held W b g) (hb : Below W.heap.size W W') : Held W' b g := (hb.block b h.lt).trans h

theorem Chg.wider {S S' : Nat → Prop} {W W' : World} (h : Chg S W W') (hS : ∀ k, S k → S' k) : Chg S' W W' := ⟨h.os, h.tape, h.output, h.size, fun k hk hn => h.block k hk (fun e => hn (hS k e))⟩
theorem Chg.sets6' {S : Nat → Prop} {W W' : World} (h : Chg S W W') (b : Nat) (hb : ∀ k, k = b → S k) (v0 v1 v2 v3 v4 v5 : Value) :
    Chg S W ((((((W'.setCell ⟨b, 0, none⟩ v0).setCell ⟨b, 1, none⟩ v1).setCell ⟨b, 2, none⟩ v2).setCell ⟨b, 3, none⟩ v3).setCell ⟨b, 4, none⟩ v4).setCell ⟨b, 5, none⟩ v5) :=
  (((((h.trans (Chg.of_set _ b 0 v0) (fun k e => .inl (hb k e))).trans (Chg.of_set _ b 1 v1) (fun k e => .inl (hb k e))).trans (Chg.of_set _ b 2 v2) (fun k e => .inl (hb k e))).trans (Chg.of_set _ b 3 v3) (fun k e => .inl (hb k e))).trans (Chg.of_set _ b 4 v4) (fun k e => .inl (hb k e))).trans (Chg.of_set _ b 5 v5) (fun k e => .inl (hb k e))

theorem stepP_len {ep : EP} {L L1 : List Tk} (h : stepP ep L = .ok L1) : L1.length ≤ L.length := by
  obtain ⟨t, rfl, _⟩ := stepP_ok h
  simp

set_option maxRecDepth 100000 in
set_option maxHeartbeats 2000000 in
theorem nested_any {f : Nat} (he : Enters Tryz.prog f) (s : ByteArray) (ep : EP) (g b : Nat) (L : List Tk) (d : Int) (w0 W : World) (inner : List Tk → Rd Ex) (hO : Okw w0 g W) (hR : Rdr s ep g L d W) (hk : (hdT L).kind ≠ 1) (hH : Held W b g) (hbg : b ≠ g) (hd0 : 0 ≤ d) (hd1 : d < 64)
    (hdo : ∀ L1 W1, L1.length ≤ L.length → Okw w0 g W1 → Rdr s ep g L1 (d + 1) W1 → Held W1 b g → Calls Tryz.prog f #[.pointer (some ⟨b, 0, none⟩)] W1 (Outs g W1 (inner L1) (ExOut s ep g (d + 1) W1.heap.size))) :
    Calls Tryz.prog 88 #[.pointer (some ⟨g, 0, none⟩), .func (.func f) #[] #[.pointer (some ⟨b, 0, none⟩)]] W (Outs g W (bnd (stepP ep L) inner) (ExOut s ep g d W.heap.size)) := by
  have hgW := hR.lt
  have hbW := hH.lt
  have hdb : (d == 64) = false := by rw [beq_eq_false_iff_ne]; omega
  have hW1 : Below W.heap.size W (W.alloc exZero) := (Below.refl _ W).alloc (Nat.le_refl _) _
  have hz1 := new_blk W #[.int .i64 0, .slice none 0 0, .int .i64 0, .int .u64 0, .int .i64 0, .int .u64 0] 37
  have hc1 : Chg (fun k => k = g) W ((W.setCell ⟨g, 6, none⟩ (.int .i64 (d + 1))).alloc exZero) := (Chg.of_set W g 6 _).trans (Chg.of_alloc _ _ (fun k => k = g)) (fun k e => .inl e)
  have hR1 : Rdr s ep g L (d + 1) ((W.setCell ⟨g, 6, none⟩ (.int .i64 (d + 1))).alloc exZero) := (hR.deep (d + 1)).below ((Below.refl _ _).alloc (Nat.le_refl _) _)
  have hz1 : ((W.setCell ⟨g, 6, none⟩ (.int .i64 (d + 1))).alloc exZero).heap[W.heap.size]? = some (.cells #[.int .i64 0, .slice none 0 0, .int .i64 0, .int .u64 0, .int .i64 0, .int .u64 0] 37 (0, 0)) := new_blk' (by simp) _ _
  have hs1 : ((W.setCell ⟨g, 6, none⟩ (.int .i64 (d + 1))).alloc exZero).heap.size = W.heap.size + 1 := by simp
  have hH1 := hH.chg hc1 hbg
  have HS := Lib.hid (step_any s ep g L (d + 1) w0 _ (hO.chg hc1) hR1 hk)
  obtain ⟨t, e, hB, rest, j, rfl, rfl, hT⟩ := hR
  obtain ⟨c0, c1, c2, c3, c4, c5, c6⟩ := rdb_cell hB
  have f0 := rdb_free hB
  have a6 := cell_past exZero c6
  have HO := Lib.hid hO; have HZ1 := Lib.hid hz1; have HC1 := Lib.hid hc1; have HH1 := Lib.hid hH1; have HDO := Lib.hid hdo
  have heg : ∀ (args : Array Value) (w : World), (callFunc f args).run Tryz.prog w = .ok (.enter f args) w := he
  clear hO hz1 hc1 hR1 hH1 hdo hW1 hB hT hH he c0 c1 c2 c3 c4 c5 hk
  rcases hs : stepP ep (t :: rest) with p | L1
  · have HSE := Lib.hid hs; clear hs
    go_enter Tryz.func88, Tryz.ntmps88
    go_wp2_with fail
    refine HS.out.mono ?_
    rintro e W2 h
    obtain ⟨rfl, hc⟩ := h.err HSE.out
    go_wp2
    exact ⟨rfl, Outs.mk_err rfl rfl (HC1.out.trans hc (fun k e => .inl e))⟩
  · have HSE := Lib.hid hs; clear hs
    go_enter Tryz.func88, Tryz.ntmps88
    go_wp2_with fail
    refine HS.out.mono ?_
    rintro e W2 h
    obtain ⟨⟨rfl, hR2⟩, hc⟩ := h.ok HSE.out
    have hc2 := HC1.out.trans hc (fun k e => .inl e)
    have hz2 := chg_block hc HZ1.out (by omega)
    have hB2 : W.heap.size < W2.heap.size := (Array.getElem?_eq_some_iff.1 hz2).1
    have HC2 := Lib.hid hc2; have HZ2 := Lib.hid hz2
    have HD := Lib.hid (HDO.out L1 W2 (stepP_len HSE.out) (HO.out.chg hc2) hR2 (HH1.out.chg hc hbg))
    clear hc hc2 hz2 hR2 c6 f0 a6
    rcases hi : inner L1 with p | ⟨x, L2⟩
    · have HI := Lib.hid hi; clear hi
      go_wp2_with (go_at_fn f; refine HD.out.mono ?_; rintro e W3 h; obtain ⟨rfl, hc⟩ := h.err HI.out; have HC := Lib.hid hc; clear hc)
      exact ⟨rfl, Outs.mk_err (by show inner L1 = _; exact HI.out) rfl (HC2.out.trans HC.out (fun k e => .inl e))⟩
    · have HI := Lib.hid hi; clear hi
      go_wp2_with fail
      refine HD.out.mono ?_
      rintro e W3 h
      obtain ⟨⟨v, rfl, hX, hR3⟩, hc⟩ := h.ok HI.out
      obtain ⟨A, c, rfl⟩ := Kd.R_slice hX
      have hz3 := chg_block hc HZ2.out (by omega)
      have HX := Lib.hid hX; have HC := Lib.hid hc; have HZ3 := Lib.hid hz3; have HR3 := Lib.hid hR3
      obtain ⟨t3, e3, hB3, hA3⟩ := hR3
      obtain ⟨-, -, -, -, -, -, c6⟩ := rdb_cell hB3
      have f0 := rdb_free hB3
      obtain ⟨z0, z1, z2, z3, z4, z5, zf⟩ := blk6 hz3
      have hs3 := hc.size
      have a6 := cell_past (.cells #[.int .i64 x.f0, .slice A x.f1.length c, .int .i64 x.f2, .int .u64 x.f3, .int .i64 x.f4, .int .u64 x.f5] 37) c6
      have hgB : W.heap.size ≠ g := by omega
      have hz4 := blk_past (.cells #[.int .i64 x.f0, .slice A x.f1.length c, .int .i64 x.f2, .int .u64 x.f3, .int .i64 x.f4, .int .u64 x.f5] 37) hz3
      obtain ⟨y0, y1, y2, y3, y4, y5, yf⟩ := blk6 hz4
      have HZ4 := Lib.hid hz4
      have fa := rdb_free (hB3.below ((Below.refl _ W3).alloc (Nat.le_refl _) (.cells #[.int .i64 x.f0, .slice A x.f1.length c, .int .i64 x.f2, .int .u64 x.f3, .int .i64 x.f4, .int .u64 x.f5] 37)))
      clear hX hc hz3 hB3 hA3 hz4
      go_wp2
      have hal := (Below.refl W3.heap.size W3).alloc (Nat.le_refl _) (.cells #[.int .i64 x.f0, .slice A x.f1.length c, .int .i64 x.f2, .int .u64 x.f3, .int .i64 x.f4, .int .u64 x.f5] 37)
      have hb6 := blk_sets6 ((Below.heap_setCell _ ⟨g, 6, none⟩ (.int .i64 d) W.heap.size hgB).trans HZ4.out) (.int .i64 x.f0) (.slice A x.f1.length c) (.int .i64 x.f2) (.int .u64 x.f3) (.int .i64 x.f4) (.int .u64 x.f5)
      obtain ⟨r0, r1, r2, r3, r4, r5, rf⟩ := blk6 hb6
      have hcA : Chg (fun k => k = g) W3 ((W3.alloc (.cells #[.int .i64 x.f0, .slice A x.f1.length c, .int .i64 x.f2, .int .u64 x.f3, .int .i64 x.f4, .int .u64 x.f5] 37)).setCell ⟨g, 6, none⟩ (.int .i64 d)) := (Chg.of_below hal (fun k => k = g)).trans (Chg.of_set _ g 6 _) (fun k e => .inl e)
      have hcB : Chg (fun k => k = g ∨ k = W.heap.size) W3 _ := (hcA.wider (fun k e => .inl e)).sets6' W.heap.size (fun k e => .inr e) (.int .i64 x.f0) (.slice A x.f1.length c) (.int .i64 x.f2) (.int .u64 x.f3) (.int .i64 x.f4) (.int .u64 x.f5)
      refine bodyPost_ret (v := exAgg x (.slice A x.f1.length c)) (by simp [results, Tryz.results88, go_sem, r0, r1, r2, r3, r4, r5]) rfl ?_
      refine Outs.mk_ok (b := (x, L2)) (by show inner L1 = _; exact HI.out) ⟨.slice A x.f1.length c, rfl, (HX.out.chg hcB (fun k e => by omega)).lower (by omega), ?_⟩ (((HC2.out.trans HC.out (fun k e => .inl e)).trans hcA (fun k e => .inl e)).sets6 W.heap.size (Nat.le_refl _) _ _ _ _ _ _)
      exact (((HR3.out.below hal).deep d).far6 W.heap.size (by omega) _ _ _ _ _ _)
end Go.Proofs.YtlmopoipjolbgaaGreatDoor.LexW
namespace Go.Proofs.YtlmopoipjolbgaaGreatDoor.LexW
open Go.RowKit Go.Shelf Go.Proofs.YtlmopoipjolbgaaGreatDoor.LexS Go.Proofs.YtlmopoipjolbgaaGreatDoorW.PrintWords
set_option linter.unusedVariables false
set_option linter.unusedSimpArgs false

theorem infoEx : (Tryz.prog.info? 37).map (fun i => (i.zero, i.size, i.bytes)) = some (some (.agg #[.int .i64 0, .slice none 0 0, .int .i64 0, .int .u64 0, .int .i64 0, .int .u64 0]), kEx.sz, 64) := by kernel_rfl
abbrev exCells (x : Ex) (v : Value) : List Value := [.int .i64 x.f0, v, .int .i64 x.f2, .int .u64 x.f3, .int .i64 x.f4, .int .u64 x.f5]
/-- an expression's cells, made -/
theorem ex_made {W : World} {bx base : Nat} {v : Value} {x : Ex} (h : ExRow W bx v x.f1) (hb : base ≤ bx) : kEx.M W base (fun k => bx ≤ k ∧ k < W.heap.size) x (exCells x v) :=
  kEx.M_lower hb (kEx_mkM W bx _ x (Kd.R_mono (Kd.R_bound h) (fun k hk => ⟨hk.2.1, hk.2.2.1⟩)))
/-- a row of one -/
theorem ex_one {W : World} {base bx : Nat} {v : Value} {x : Ex} (h : ExRow W bx v x.f1) (hb : base ≤ bx) (hbW : base ≤ W.heap.size) : ExRow (W.alloc (.cells (exCells x v).toArray 37)) base (.slice (some ⟨W.heap.size, 0, none⟩) 1 1) [x] := by
  refine ⟨fun _ _ => trivial, exCells x v, ⟨rfl, .inr ⟨W.heap.size, 1, (exCells x v).toArray, rfl, hbW, new_blk W _ _, Nat.le_refl _, by unfold maxLen; omega, rfl, rfl⟩⟩, rfl, fun j p hj => ?_⟩
  have hj0 : j = 0 := by
    have := (List.getElem?_eq_some_iff.1 hj).1
    simpa using this
  subst hj0
  obtain rfl : x = p := by simpa using hj
  have hM := Kd.M_below (ex_made h hb) ((Below.refl _ W).alloc (Nat.le_refl _) (.cells (exCells x v).toArray 37))
  exact kEx.M_mono (fun k hk => ⟨trivial, fun e => by simp [Value.ownBlock] at e; omega⟩) hM

theorem Chg.of_belowB {B : Nat} {W W' : World} (h : Below B W W') : Chg (fun k => B ≤ k) W W' := ⟨h.os, h.tape, h.output, h.size, fun k _ hn => h.block k (by omega)⟩
theorem Rdr.belowB {s : ByteArray} {ep : EP} {g B : Nat} {L : List Tk} {d : Int} {W W' : World} (h : Rdr s ep g L d W) (hb : Below B W W') (hg : g < B) : Rdr s ep g L d W' := let ⟨t, e, hB, hA⟩ := h; ⟨t, e, (hb.block g hg).trans hB, hA⟩
def RowOut (s : ByteArray) (ep : EP) (g : Nat) (d : Int) (base : Nat) (p : List Ex × List Tk) (e : Ending) (W' : World) : Prop := ∃ v, e = .returned v ∧ ExRow W' base v p.1 ∧ Rdr s ep g p.2 d W'

set_option maxRecDepth 100000 in
set_option maxHeartbeats 2000000 in
theorem turns_any {f m : Nat} (he : Enters Tryz.prog f) (hem : Enters Tryz.prog m) (s : ByteArray) (ep : EP) (g b : Nat) (L : List Tk) (d : Int) (w0 W : World) (one : List Tk → Rd Ex) (sep : ByteArray) (fv q : Value) (hfv : fv = .func (.func f) #[q] #[] ∨ fv = .func (.func f) #[] #[q]) (hL : L.length ≤ 65537) (hsh : Shr one) (hO : Okw w0 g W) (hR : Rdr s ep g L d W) (hH : Held W b g) (hbg : b ≠ g)
    (hone : ∀ L1 W1, L1.length ≤ 65537 → Okw w0 g W1 → Rdr s ep g L1 d W1 → Held W1 b g → Calls Tryz.prog f #[q] W1 (Outs g W1 (one L1) (ExOut s ep g d W1.heap.size)))
    (hmore : ∀ L1 W1, Okw w0 g W1 → Rdr s ep g L1 d W1 → Held W1 b g → Calls Tryz.prog m #[.pointer (some ⟨b, 0, none⟩)] W1 (Outs g W1 (maybeP ep sep L1) (BoolOut s ep g d))) :
    Calls Tryz.prog 67 #[fv, .func (.func m) #[] #[.pointer (some ⟨b, 0, none⟩)]] W (Outs g W (turnsP ep one sep L) (RowOut s ep g d W.heap.size)) := by
  have hgW := hR.lt
  have HO := Lib.hid hO; have HH := Lib.hid hH; have HONE := Lib.hid hone; have HMORE := Lib.hid hmore; have HSH := Lib.hid hsh
  have HD := Lib.hid (hone L W hL hO hR hH)
  have heg : ∀ (args : Array Value) (w : World), (callFunc f args).run Tryz.prog w = .ok (.enter f args) w := he
  have hem' : ∀ (args : Array Value) (w : World), (callFunc m args).run Tryz.prog w = .ok (.enter m args) w := hem
  clear hO hR hH hone hmore he hem hsh
  rcases h1 : one L with p | ⟨x, L1⟩
  · have H1 := Lib.hid h1; clear h1
    rcases hfv with rfl | rfl
    all_goals
      go_enter Tryz.func67, Tryz.ntmps67
      go_wp2_with fail
      refine HD.out.mono ?_
      rintro e W2 h
      obtain ⟨rfl, hc⟩ := h.err H1.out
      go_wp2
      exact ⟨rfl, Outs.mk_err (by unfold turnsP; rw [H1.out]; rfl) rfl hc⟩
  · have H1 := Lib.hid h1; clear h1
    have hl1 := HSH.out _ _ _ H1.out
    rcases hfv with rfl | rfl
    all_goals
      go_enter Tryz.func67, Tryz.ntmps67
      go_wp2_with fail
      refine HD.out.mono ?_
      rintro e W2 h
      obtain ⟨⟨v, rfl, hX, hR2⟩, hc⟩ := h.ok H1.out
      obtain ⟨A, c, rfl⟩ := Kd.R_slice hX
      have hs2 := hc.size
      have hrow := ex_one hX (Nat.le_refl _) hs2
      have hal := (Below.refl W2.heap.size W2).alloc (Nat.le_refl _) (.cells (exCells x (.slice A x.f1.length c)).toArray 37)
      have HROW := Lib.hid hrow; have HR3 := Lib.hid (hR2.below hal); have HC3 := Lib.hid (hc.trans (Chg.of_below hal (fun k => k = g)) (fun k e => .inl e))
      clear hX hR2 hc hrow hal
      unfold exAgg
      go_wp2_with fail
      obtain ⟨v0, hv0⟩ : ∃ v0, v0 = Value.slice (some ⟨W2.heap.size, 0, none⟩) 1 1 := ⟨_, rfl⟩
      rw [← hv0] at HROW ⊢
      show Code.wp _ _ _ _ (W2.alloc (.cells (exCells x (.slice A x.f1.length c)).toArray 37))
      generalize W2.alloc (.cells (exCells x (.slice A x.f1.length c)).toArray 37) = W3 at *
      clear hv0
      have hturn : turnsP ep one sep L = moreP ep one sep (L1.length + 1) [x] L1 := by unfold turnsP; rw [H1.out]; rfl
      have HT := Lib.hid hturn; clear hturn
      go_loopg [5] (L1.length + 1) (fun n vl wr => ∃ (l : List Ex) (L4 : List Tk), Hid (turnsP ep one sep L = moreP ep one sep n l L4) ∧ L4.length < n ∧ l.length + L4.length ≤ 65538 ∧ L4.length ≤ 65537 ∧ Hid (ExRow wr W.heap.size vl l) ∧ Hid (Rdr s ep g L4 d wr) ∧ Hid (Chg (fun k => k = g) W wr))
      case atStart => exact ⟨[x], L1, HT, by omega, by simp; omega, by omega, HROW, HR3, HC3⟩
      case round =>
        clear HROW HR3 HC3 HT
        obtain ⟨l, L4, HT, hn, hl, hl4, HROW, HR4, HC4⟩ := hrel
        obtain ⟨n, rfl⟩ : ∃ n, gk = n + 1 := ⟨gk - 1, by omega⟩
        have hun : moreP ep one sep (n + 1) l L4 = bnd (maybeP ep sep L4) (fun p => if p.1 = true then bnd (one p.2) (fun q => moreP ep one sep n (l ++ [q.1]) q.2) else .ok (l, p.2)) := rfl
        have HUN := Lib.hid hun; clear hun
        have HOr := Lib.hid (HO.out.chg HC4.out); have HHr := Lib.hid (HH.out.chg HC4.out hbg)
        have HM := Lib.hid (HMORE.out L4 wr HOr.out HR4.out HHr.out)
        have hwr := HC4.out.size
        rcases hm : maybeP ep sep L4 with p | ⟨t, L5⟩
        · have HMM := Lib.hid hm; clear hm
          go_wp2_with fail
          refine HM.out.mono ?_
          rintro e W5 h
          obtain ⟨rfl, hc⟩ := h.err HMM.out
          go_wp2
          exact ⟨rfl, Outs.mk_err (by rw [HT.out, HUN.out, HMM.out]; rfl) rfl (HC4.out.trans hc (fun k e => .inl e))⟩
        · have hl5 := maybeP_shr hm
          have HMM := Lib.hid hm; clear hm
          cases t with
          | false =>
            go_wp2_with fail
            refine HM.out.mono ?_
            rintro e W5 h
            obtain ⟨⟨rfl, hR5⟩, hc⟩ := h.ok HMM.out
            obtain ⟨A5, c5, rfl⟩ := Kd.R_slice HROW.out
            have HR5 := Lib.hid hR5; have HC5 := Lib.hid hc; clear hR5 hc
            go_wp2
            go_ret
            exact Outs.mk_ok (b := (l, L5)) (by rw [HT.out, HUN.out, HMM.out]; rfl) ⟨_, rfl, HROW.out.chg HC5.out (fun k e => by omega), HR5.out⟩ (HC4.out.trans HC5.out (fun k e => .inl e))
          | true =>
            have hl5' := hl5.2 rfl
            clear hl5
            go_wp2_with fail
            refine HM.out.mono ?_
            rintro e W5 h
            obtain ⟨⟨rfl, hR5⟩, hc⟩ := h.ok HMM.out
            have hs5 := hc.size
            have hc5 := HC4.out.trans hc (fun k e => .inl e)
            have HD5 := Lib.hid (HONE.out L5 W5 (by omega) (HOr.out.chg hc) hR5 (HHr.out.chg hc hbg))
            have HROW5 := Lib.hid (HROW.out.chg hc (fun k e => by omega)); have HC5 := Lib.hid hc5
            clear hR5 hc hc5
            rcases h5 : one L5 with p | ⟨y, L6⟩
            · have H5 := Lib.hid h5; clear h5
              go_wp2_with fail
              refine HD5.out.mono ?_
              rintro e W6 h
              obtain ⟨rfl, hc⟩ := h.err H5.out
              go_wp2
              exact ⟨rfl, Outs.mk_err (by rw [HT.out, HUN.out, HMM.out]; show bnd (one L5) _ = _; rw [H5.out]; rfl) rfl (HC5.out.trans hc (fun k e => .inl e))⟩
            · have H5 := Lib.hid h5; clear h5
              have hl6 := HSH.out _ _ _ H5.out
              go_wp2_with fail
              refine HD5.out.mono ?_
              rintro e W6 h
              obtain ⟨⟨v6, rfl, hX6, hR6⟩, hc⟩ := h.ok H5.out
              obtain ⟨A6, c6, rfl⟩ := Kd.R_slice hX6
              have hs6 := hc.size
              have HROW6 := Lib.hid (HROW5.out.chg hc (fun k e => by omega)); have HX6 := Lib.hid (ex_made (base := W.heap.size) hX6 (by omega)); have HR6 := Lib.hid hR6; have HC6 := Lib.hid (HC5.out.trans hc (fun k e => .inl e))
              have hvlt : ∀ k, u5.ownBlock = some k → k < W5.heap.size := fun k hk => by
                obtain ⟨inner, ho⟩ := Kd.R_own HROW5.out
                exact own_lt ho k hk
              have HVLT := Lib.hid hvlt
              clear hX6 hR6 hc hvlt
              unfold exAgg
              go_wp2_with (at_builtin; refine Kd.R_append kEx (w0 := W6) (W := W6) W.heap.size rfl (.tmp 11) (.tmp 14) 34 37 (.agg #[.int .i64 0, .slice none 0 0, .int .i64 0, .int .u64 0, .int .i64 0, .int .u64 0]) 64 rfl Tryz.underlying34 infoEx rfl (by decide) (by decide) u5 l y (exCells y (.slice A6 y.f1.length c6)) (fun _ => True) (fun k => W5.heap.size ≤ k ∧ k < W6.heap.size) rfl (by go_simp) HX6.out (fun k hk => ⟨trivial, fun e => Nat.lt_irrefl k (Nat.lt_of_lt_of_le (HVLT.out k e.symm) hk.1)⟩) (fun _ _ => trivial) HROW6.out (Below.refl _ _) (by omega) (by omega) ?_; intro v7 w7 hO7 hb7 hg7 hat7)
              have HO7 := Lib.hid hO7
              clear hO7
              go_roundg n
              case measure => omega
              case rel =>
                refine ⟨l ++ [y], L6, Lib.hid (by rw [HT.out, HUN.out, HMM.out]; show bnd (one L5) _ = _; rw [H5.out]; rfl), by omega, by simp; omega, by omega, HO7, Lib.hid (HR6.out.belowB hb7 hgW), Lib.hid (HC6.out.trans (Chg.of_belowB hb7) (fun k e => .inr e))⟩
end Go.Proofs.YtlmopoipjolbgaaGreatDoor.LexW
namespace Go.Proofs.YtlmopoipjolbgaaGreatDoor.LexW
open Go.RowKit Go.Shelf Go.Proofs.YtlmopoipjolbgaaGreatDoor.LexS Go.Proofs.YtlmopoipjolbgaaGreatDoorW.PrintWords
set_option linter.unusedVariables false
set_option linter.unusedSimpArgs false

def JoinOut (base : Nat) (x : Ex) (e : Ending) (W' : World) : Prop := ∃ v, e = .returned (exAgg x v) ∧ ExRow W' base v x.f1
theorem joinE_one (op : Int) (x : Ex) : joinE op [x] = x := rfl
theorem joinE_many {op : Int} {l : List Ex} (h : l.length ≠ 1) : joinE op l = ⟨op, l, 0, 0, 0, 0⟩ := by
  match l with
  | [] => rfl
  | [x] => exact absurd rfl h
  | x :: y :: l => rfl
set_option maxRecDepth 100000 in
set_option maxHeartbeats 1000000 in
theorem joined_any (op : Int) (v : Value) (l : List Ex) (base : Nat) (W : World) (h : ExRow W base v l) :
    Calls Tryz.prog 66 #[.int .i64 op, v] W fun e W' => JoinOut base (joinE op l) e W' ∧ Below W.heap.size W W' := by
  obtain ⟨A, c, rfl⟩ := Kd.R_slice h
  have hal := (Below.refl W.heap.size W).alloc (Nat.le_refl _) exZero
  have hz1 := new_blk W #[.int .i64 0, .slice none 0 0, .int .i64 0, .int .u64 0, .int .i64 0, .int .u64 0] 37
  by_cases hl : l.length = 1
  · obtain ⟨x, rfl⟩ : ∃ x, l = [x] := by
      match l, hl with
      | [x], _ => exact ⟨x, rfl⟩
    obtain ⟨gb, hA⟩ : ∃ gb, A = some ⟨gb, 0, none⟩ := by
      obtain ⟨_, inner, ho, _⟩ := h
      rcases ho.2 with ⟨h1, h2⟩ | ⟨gb, cap, cur, h1, _⟩
      · cases h2
      · injection h1 with h1; exact ⟨gb, h1⟩
    subst hA
    obtain ⟨cs, hcl, hM, hcell, hfz⟩ := Kd.R_elem h x 0 (by omega) (by simp)
    have hM' : kEx.M W base (fun k => True ∧ k ≠ gb) x cs := hM
    obtain ⟨v1, rfl, hR⟩ := kEx_openM hM'
    have q0 : W.cell? ⟨gb, 0, none⟩ = some (.int .i64 x.f0) := by have := hcell 0 _ rfl; simpa [kEx] using this
    have q1 : W.cell? ⟨gb, 1, none⟩ = some v1 := by have := hcell 1 _ rfl; simpa [kEx] using this
    have q2 : W.cell? ⟨gb, 2, none⟩ = some (.int .i64 x.f2) := by have := hcell 2 _ rfl; simpa [kEx] using this
    have q3 : W.cell? ⟨gb, 3, none⟩ = some (.int .u64 x.f3) := by have := hcell 3 _ rfl; simpa [kEx] using this
    have q4 : W.cell? ⟨gb, 4, none⟩ = some (.int .i64 x.f4) := by have := hcell 4 _ rfl; simpa [kEx] using this
    have q5 : W.cell? ⟨gb, 5, none⟩ = some (.int .u64 x.f5) := by have := hcell 5 _ rfl; simpa [kEx] using this
    have hR2 : ExRow W base v1 x.f1 := Kd.R_mono hR (fun _ _ => trivial)
    obtain ⟨A1, c1, rfl⟩ := Kd.R_slice hR2
    have HR2 := Lib.hid hR2
    have a0 := cell_past exZero q0
    have a1 := cell_past exZero q1
    have a2 := cell_past exZero q2
    have a3 := cell_past exZero q3
    have a4 := cell_past exZero q4
    have a5 := cell_past exZero q5
    clear h hcell hfz hcl hM hM' hR hR2 hz1 hal hl
    go_enter Tryz.func66, Tryz.ntmps66
    go_wp2
    refine bodyPost_ret (v := exAgg x (.slice A1 x.f1.length c1)) (by simp [results, Tryz.results66, go_sem]) rfl ?_
    have hal := (Below.refl W.heap.size W).alloc (Nat.le_refl _) (.cells #[.int .i64 x.f0, .slice A1 x.f1.length c1, .int .i64 x.f2, .int .u64 x.f3, .int .i64 x.f4, .int .u64 x.f5] 37)
    exact ⟨⟨_, rfl, HR2.out.below hal⟩, hal⟩
  · have hlb : ((l.length : Int) == 1) = false := by rw [beq_eq_false_iff_ne]; omega
    have HJ := Lib.hid (joinE_many (op := op) hl)
    have H := Lib.hid h
    clear hl h hz1 hal
    go_enter Tryz.func66, Tryz.ntmps66
    go_wp2
    refine bodyPost_ret (v := exAgg ⟨op, l, 0, 0, 0, 0⟩ (.slice A l.length c)) (by simp [results, Tryz.results66, go_sem]) rfl ?_
    have hal := (Below.refl W.heap.size W).alloc (Nat.le_refl _) (.cells #[.int .i64 op, .slice A l.length c, .int .i64 0, .int .u64 0, .int .i64 0, .int .u64 0] 37)
    rw [HJ.out]
    exact ⟨⟨_, rfl, H.out.below hal⟩, hal⟩
end Go.Proofs.YtlmopoipjolbgaaGreatDoor.LexW
namespace Go.Proofs.YtlmopoipjolbgaaGreatDoor.LexW
open Go.RowKit Go.Shelf Go.Proofs.YtlmopoipjolbgaaGreatDoor.LexS Go.Proofs.YtlmopoipjolbgaaGreatDoorW.PrintWords
set_option linter.unusedVariables false
set_option linter.unusedSimpArgs false

/-- a result's box is written, and the call returns -/
theorem ex_end {s : ByteArray} {ep : EP} {g B base : Nat} {L : List Tk} {d : Int} {W W3 : World} {x : Ex} {v u1 : Value} (hz : W3.heap[B]? = some (.cells #[.int .i64 0, u1, .int .i64 0, .int .u64 0, .int .i64 0, .int .u64 0] 37 (0, 0))) (hB : W.heap.size ≤ B) (hgB : g < W.heap.size) (hX : ExRow W3 base v x.f1) (hbB : B < base) (hR : Rdr s ep g L d W3) (hc : Chg (fun k => k = g) W W3) :
    ExRow ((((((W3.setCell ⟨B, 0, none⟩ (.int .i64 x.f0)).setCell ⟨B, 1, none⟩ v).setCell ⟨B, 2, none⟩ (.int .i64 x.f2)).setCell ⟨B, 3, none⟩ (.int .u64 x.f3)).setCell ⟨B, 4, none⟩ (.int .i64 x.f4)).setCell ⟨B, 5, none⟩ (.int .u64 x.f5)) W.heap.size v x.f1 ∧
    Rdr s ep g L d ((((((W3.setCell ⟨B, 0, none⟩ (.int .i64 x.f0)).setCell ⟨B, 1, none⟩ v).setCell ⟨B, 2, none⟩ (.int .i64 x.f2)).setCell ⟨B, 3, none⟩ (.int .u64 x.f3)).setCell ⟨B, 4, none⟩ (.int .i64 x.f4)).setCell ⟨B, 5, none⟩ (.int .u64 x.f5)) ∧
    Chg (fun k => k = g) W ((((((W3.setCell ⟨B, 0, none⟩ (.int .i64 x.f0)).setCell ⟨B, 1, none⟩ v).setCell ⟨B, 2, none⟩ (.int .i64 x.f2)).setCell ⟨B, 3, none⟩ (.int .u64 x.f3)).setCell ⟨B, 4, none⟩ (.int .i64 x.f4)).setCell ⟨B, 5, none⟩ (.int .u64 x.f5)) ∧
    ((((((W3.setCell ⟨B, 0, none⟩ (.int .i64 x.f0)).setCell ⟨B, 1, none⟩ v).setCell ⟨B, 2, none⟩ (.int .i64 x.f2)).setCell ⟨B, 3, none⟩ (.int .u64 x.f3)).setCell ⟨B, 4, none⟩ (.int .i64 x.f4)).setCell ⟨B, 5, none⟩ (.int .u64 x.f5)).heap[B]? = some (.cells #[.int .i64 x.f0, v, .int .i64 x.f2, .int .u64 x.f3, .int .i64 x.f4, .int .u64 x.f5] 37 (0, 0)) :=
  ⟨(hX.chg ((Chg.refl (fun k => k = B) W3).sets6' B (fun k e => e) _ _ _ _ _ _) (fun k e => by omega)).lower (by omega), hR.far6 B (by omega) _ _ _ _ _ _, hc.sets6 B hB _ _ _ _ _ _, blk_sets6 hz _ _ _ _ _ _⟩
theorem and_any (s : ByteArray) (ep : EP) (g b : Nat) (L : List Tk) (d : Int) (w0 W : World) (hO : Okw w0 g W) (hR : Rdr s ep g L d W) (hH : Held W b g) :
    Calls Tryz.prog 69 #[.pointer (some ⟨b, 0, none⟩)] W (Outs g W (maybeP ep sAnd L) (BoolOut s ep g d)) := by
  have hc := hH.cell
  have HM := Lib.hid (maybe_any s ep g L d sAnd w0 W hO hR)
  clear hO hR hH
  rcases hm : maybeP ep sAnd L with p | p
  · rw [hm] at HM
    clear hm
    go_enter Tryz.func69, Tryz.ntmps69
    go_wp2_with fail
    refine HM.out.mono ?_
    rintro e W2 h
    obtain ⟨rfl, hc⟩ := h.err rfl
    go_wp2
    exact ⟨rfl, Outs.mk_err rfl rfl hc⟩
  · rw [hm] at HM
    clear hm
    go_enter Tryz.func69, Tryz.ntmps69
    go_wp2_with fail
    refine HM.out.mono ?_
    rintro e W2 h
    obtain ⟨⟨rfl, hR'⟩, hc⟩ := h.ok rfl
    have HR := Lib.hid hR'; have HC := Lib.hid hc; clear hR' hc
    go_wp2
    go_ret
    exact Outs.mk_ok rfl ⟨rfl, HR.out⟩ HC.out
theorem or_any (s : ByteArray) (ep : EP) (g b : Nat) (L : List Tk) (d : Int) (w0 W : World) (hO : Okw w0 g W) (hR : Rdr s ep g L d W) (hH : Held W b g) :
    Calls Tryz.prog 71 #[.pointer (some ⟨b, 0, none⟩)] W (Outs g W (maybeP ep sOr L) (BoolOut s ep g d)) := by
  have hc := hH.cell
  have HM := Lib.hid (maybe_any s ep g L d sOr w0 W hO hR)
  clear hO hR hH
  rcases hm : maybeP ep sOr L with p | p
  · rw [hm] at HM
    clear hm
    go_enter Tryz.func71, Tryz.ntmps71
    go_wp2_with fail
    refine HM.out.mono ?_
    rintro e W2 h
    obtain ⟨rfl, hc⟩ := h.err rfl
    go_wp2
    exact ⟨rfl, Outs.mk_err rfl rfl hc⟩
  · rw [hm] at HM
    clear hm
    go_enter Tryz.func71, Tryz.ntmps71
    go_wp2_with fail
    refine HM.out.mono ?_
    rintro e W2 h
    obtain ⟨⟨rfl, hR'⟩, hc⟩ := h.ok rfl
    have HR := Lib.hid hR'; have HC := Lib.hid hc; clear hR' hc
    go_wp2
    go_ret
    exact Outs.mk_ok rfl ⟨rfl, HR.out⟩ HC.out

/-- what one of the grammar does, of a depth -/
def OneC (s : ByteArray) (ep : EP) (g : Nat) (w0 : World) (d : Int) (one : List Tk → Rd Ex) : Prop := ∀ L W, L.length ≤ 65537 → Okw w0 g W → Rdr s ep g L d W → Calls Tryz.prog 68 #[.pointer (some ⟨g, 0, none⟩)] W (Outs g W (one L) (ExOut s ep g d W.heap.size))
theorem enters_one : Enters Tryz.prog 68 := enters_of Tryz.func68 (by kernel_rfl) rfl
theorem enters_and : Enters Tryz.prog 69 := enters_of Tryz.func69 (by kernel_rfl) rfl
theorem enters_all : Enters Tryz.prog 65 := enters_of Tryz.func65 (by kernel_rfl) rfl
theorem enters_or : Enters Tryz.prog 71 := enters_of Tryz.func71 (by kernel_rfl) rfl

set_option maxRecDepth 100000 in
set_option maxHeartbeats 1000000 in
theorem all_of (s : ByteArray) (ep : EP) (g b : Nat) (L : List Tk) (d : Int) (w0 W : World) (one : List Tk → Rd Ex) (hone : OneC s ep g w0 d one) (hsh : Shr one) (hL : L.length ≤ 65537) (hO : Okw w0 g W) (hR : Rdr s ep g L d W) (hH : Held W b g) (hbg : b ≠ g) :
    Calls Tryz.prog 65 #[.pointer (some ⟨b, 0, none⟩)] W (Outs g W (allP ep one L) (ExOut s ep g d W.heap.size)) := by
  have hgW := hR.lt
  have hal := (Below.refl W.heap.size W).alloc (Nat.le_refl _) exZero
  have hz1 := new_blk W #[.int .i64 0, .slice none 0 0, .int .i64 0, .int .u64 0, .int .i64 0, .int .u64 0] 37
  have hc := cell_past exZero hH.cell
  have hmf : ∀ (fn : Fn) (first cap : Array Value) (w : World), (Instr.makeFunc fn first cap).run Tryz.prog w = .ok (.func fn first cap) w := fun _ _ _ _ => rfl
  have HT := Lib.hid (turns_any enters_one enters_and s ep g b L d w0 (W.alloc exZero) one sAnd (.func (.func 68) #[.pointer (some ⟨g, 0, none⟩)] #[]) (.pointer (some ⟨g, 0, none⟩)) (.inl rfl) hL hsh (hO.below hal) (hR.below hal) (hH.below hal) hbg
    (fun L1 W1 h1 h2 h3 _ => hone L1 W1 h1 h2 h3) (fun L1 W1 h1 h2 h3 => and_any s ep g b L1 d w0 W1 h1 h2 h3))
  have HAL := Lib.hid hal; have HZ1 := Lib.hid hz1
  clear hone hsh hO hR hH hal hz1
  rcases ht : turnsP ep one sAnd L with p | ⟨l, L1⟩
  · have H := Lib.hid ht; clear ht
    go_enter Tryz.func65, Tryz.ntmps65
    go_wp2_with fail
    refine HT.out.mono ?_
    rintro e W2 h
    obtain ⟨rfl, hc2⟩ := h.err H.out
    go_wp2
    exact ⟨rfl, Outs.mk_err (by unfold allP; rw [H.out]; rfl) rfl ((Chg.of_below HAL.out (fun k => k = g)).trans hc2 (fun k e => .inl e))⟩
  · have H := Lib.hid ht; clear ht
    go_enter Tryz.func65, Tryz.ntmps65
    go_wp2_with fail
    refine HT.out.mono ?_
    rintro e W2 h
    obtain ⟨⟨v, rfl, hX, hR2⟩, hc2⟩ := h.ok H.out
    have hz2 := chg_block hc2 HZ1.out (by omega)
    have hs2 : W.heap.size < W2.heap.size := (Array.getElem?_eq_some_iff.1 hz2).1
    have HJ := Lib.hid (joined_any 4 v l _ W2 hX)
    have HC2 := Lib.hid ((Chg.of_below HAL.out (fun k => k = g)).trans hc2 (fun k e => .inl e)); have HR2 := Lib.hid hR2; have HZ2 := Lib.hid hz2
    clear hX hR2 hc2 hz2
    go_wp2_with fail
    refine HJ.out.mono ?_
    rintro e W3 ⟨⟨v3, rfl, hX3⟩, hb3⟩
    obtain ⟨A3, c3, rfl⟩ := Kd.R_slice hX3
    have hz3 := (hb3.block W.heap.size hs2).trans HZ2.out
    obtain ⟨z0, z1, z2, z3, z4, z5, zf⟩ := blk6 hz3
    have hs3 := hb3.size
    generalize hxe : joinE 4 l = x at *
    have HXE := Lib.hid hxe; clear hxe
    have HX3 := Lib.hid hX3; have HB3 := Lib.hid hb3; have HZ3 := Lib.hid hz3
    clear hX3 hb3 hz3
    unfold exAgg
    go_wp2
    obtain ⟨e1, e2, e3, e4⟩ := ex_end HZ3.out (Nat.le_refl _) hgW HX3.out (by simp) (HR2.out.below HB3.out) (HC2.out.trans (Chg.of_below HB3.out (fun k => k = g)) (fun k e => .inl e))
    obtain ⟨r0, r1, r2, r3, r4, r5, rf⟩ := blk6 e4
    refine bodyPost_ret (v := exAgg x (.slice A3 x.f1.length c3)) (by simp [results, Tryz.results65, go_sem, r0, r1, r2, r3, r4, r5]) rfl ?_
    exact Outs.mk_ok (b := (x, L1)) (by unfold allP; rw [H.out]; show Except.ok (joinE 4 l, L1) = _; rw [HXE.out]) ⟨_, rfl, e1, e2⟩ e3

set_option maxRecDepth 100000 in
set_option maxHeartbeats 1000000 in
theorem expr_of (s : ByteArray) (ep : EP) (g : Nat) (L : List Tk) (d : Int) (w0 W : World) (one : List Tk → Rd Ex) (hone : OneC s ep g w0 d one) (hsh : Shr one) (hL : L.length ≤ 65537) (hO : Okw w0 g W) (hR : Rdr s ep g L d W) :
    Calls Tryz.prog 34 #[.pointer (some ⟨g, 0, none⟩)] W (Outs g W (exprP ep one L) (ExOut s ep g d W.heap.size)) := by
  have hgW := hR.lt
  have hal := ((Below.refl W.heap.size W).alloc (Nat.le_refl _) (.cells #[.pointer (some ⟨g, 0, none⟩)] 51)).alloc (by simp) exZero
  have hz1 : ((W.alloc (.cells #[.pointer (some ⟨g, 0, none⟩)] 51)).alloc exZero).heap[W.heap.size + 1]? = some (.cells #[.int .i64 0, .slice none 0 0, .int .i64 0, .int .u64 0, .int .i64 0, .int .u64 0] 37 (0, 0)) := new_blk' (by simp) _ _
  have hH : Held ((W.alloc (.cells #[.pointer (some ⟨g, 0, none⟩)] 51)).alloc exZero) W.heap.size g := blk_past exZero (new_blk W _ _)
  have hmf : ∀ (fn : Fn) (first cap : Array Value) (w : World), (Instr.makeFunc fn first cap).run Tryz.prog w = .ok (.func fn first cap) w := fun _ _ _ _ => rfl
  have HT := Lib.hid (turns_any enters_all enters_or s ep g W.heap.size L d w0 ((W.alloc (.cells #[.pointer (some ⟨g, 0, none⟩)] 51)).alloc exZero) (allP ep one) sOr (.func (.func 65) #[] #[.pointer (some ⟨W.heap.size, 0, none⟩)]) (.pointer (some ⟨W.heap.size, 0, none⟩)) (.inr rfl) hL (allP_shr ep hsh) (hO.below hal) (hR.below hal) hH (by omega)
    (fun L1 W1 h1 h2 h3 h4 => all_of s ep g W.heap.size L1 d w0 W1 one hone hsh h1 h2 h3 h4 (by omega)) (fun L1 W1 h1 h2 h3 => or_any s ep g W.heap.size L1 d w0 W1 h1 h2 h3))
  have HAL := Lib.hid hal; have HZ1 := Lib.hid hz1
  clear hone hsh hO hR hH hal hz1
  rcases ht : turnsP ep (allP ep one) sOr L with p | ⟨l, L1⟩
  · have H := Lib.hid ht; clear ht
    go_enter Tryz.func34, Tryz.ntmps34
    go_wp2_with fail
    refine HT.out.mono ?_
    rintro e W2 h
    obtain ⟨rfl, hc2⟩ := h.err H.out
    go_wp2
    exact ⟨rfl, Outs.mk_err (by unfold exprP; rw [H.out]; rfl) rfl ((Chg.of_below HAL.out (fun k => k = g)).trans hc2 (fun k e => .inl e))⟩
  · have H := Lib.hid ht; clear ht
    go_enter Tryz.func34, Tryz.ntmps34
    go_wp2_with fail
    refine HT.out.mono ?_
    rintro e W2 h
    obtain ⟨⟨v, rfl, hX, hR2⟩, hc2⟩ := h.ok H.out
    have hz2 := chg_block hc2 HZ1.out (by omega)
    have hs2 : W.heap.size + 1 < W2.heap.size := (Array.getElem?_eq_some_iff.1 hz2).1
    have HJ := Lib.hid (joined_any 5 v l _ W2 hX)
    have HC2 := Lib.hid ((Chg.of_below HAL.out (fun k => k = g)).trans hc2 (fun k e => .inl e)); have HR2 := Lib.hid hR2; have HZ2 := Lib.hid hz2
    clear hX hR2 hc2 hz2
    go_wp2_with fail
    refine HJ.out.mono ?_
    rintro e W3 ⟨⟨v3, rfl, hX3⟩, hb3⟩
    obtain ⟨A3, c3, rfl⟩ := Kd.R_slice hX3
    have hz3 := (hb3.block (W.heap.size + 1) hs2).trans HZ2.out
    obtain ⟨z0, z1, z2, z3, z4, z5, zf⟩ := blk6 hz3
    have hs3 := hb3.size
    generalize hxe : joinE 5 l = x at *
    have HXE := Lib.hid hxe; clear hxe
    have HX3 := Lib.hid hX3; have HB3 := Lib.hid hb3; have HZ3 := Lib.hid hz3
    clear hX3 hb3 hz3
    unfold exAgg
    go_wp2
    obtain ⟨e1, e2, e3, e4⟩ := ex_end HZ3.out (by omega) hgW HX3.out (by simp) (HR2.out.below HB3.out) (HC2.out.trans (Chg.of_below HB3.out (fun k => k = g)) (fun k e => .inl e))
    obtain ⟨r0, r1, r2, r3, r4, r5, rf⟩ := blk6 e4
    refine bodyPost_ret (v := exAgg x (.slice A3 x.f1.length c3)) (by simp [results, Tryz.results34, go_sem, r0, r1, r2, r3, r4, r5]) rfl ?_
    exact Outs.mk_ok (b := (x, L1)) (by unfold exprP; rw [H.out]; show Except.ok (joinE 5 l, L1) = _; rw [HXE.out]) ⟨_, rfl, e1, e2⟩ e3
end Go.Proofs.YtlmopoipjolbgaaGreatDoor.LexW
