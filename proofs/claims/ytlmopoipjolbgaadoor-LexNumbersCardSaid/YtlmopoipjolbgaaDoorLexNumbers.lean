/-
  LexNumbers is proved: at every list of strings the call returns true, and the argument reads as it did. Conditions: the form's own (what comes in is readable and each string and slice takes at most 2^47 - 4096 bytes), and the listed package-level variables start as the program's text lays them (the card ties them).
-/
import Derived.Test.YtlmopoipjolbgaaDoorLexRow1
namespace Go.Proofs.YtlmopoipjolbgaaDoor.LexNumbers
open Go.ChangeShapes Go.WideShapes Go.ChangeAt Go.RowKit Go.Lib Go.Shelf Go.Proofs.YtlmopoipjolbgaaDoor.LexW
set_option linter.unusedVariables false
set_option linter.unusedSimpArgs false

theorem laidOut : laidOutB Tryd.prog = true := by kernel_rfl
theorem cellsStr : Tryd.prog.cellsOf 9 = 1 := by kernel_rfl

theorem weights_strs {H : Type} {P : Program} {t e : TypeId} {xs ys : List ByteArray} (ht : P.underlying t = some (.slice e)) 
    (h : (DataW.weightsEach P [t] [DataW.slice (H := H) (strs xs) (strs ys)]).all (· ≤ reachBytes) = true) : ∀ s ∈ xs, s.size ≤ 140737488351232 := by
  intro s hs
  have hm : s.data.toList.length ∈ DataW.weightsEach P [t] [DataW.slice (H := H) (strs xs) (strs ys)] := by
    simp only [DataW.weightsEach, List.append_nil, DataW.weights, ht, List.mem_cons, List.mem_append]
    right; left
    induction xs with
    | nil => cases hs
    | cons x r ih =>
      show _ ∈ DataW.weightsAll P e (DataW.lit (.string x.data.toList) :: strs r)
      simp only [DataW.weightsAll, DataW.weights, List.mem_append, List.mem_cons, List.not_mem_nil, or_false]
      rcases List.mem_cons.1 hs with rfl | hs
      · exact .inl rfl
      · refine .inr (ih ?_ hs)
        simp only [DataW.weightsEach, List.append_nil, DataW.weights, ht, List.all_cons, List.all_append, Bool.and_eq_true] at h ⊢
        refine ⟨?_, ?_, h.2.2⟩
        · have h1 := of_decide_eq_true h.1
          refine decide_eq_true (Nat.le_trans (Nat.mul_le_mul_right _ ?_) h1)
          simp only [strs, List.map_cons, List.length_cons]
          omega
        · have h2 := h.2.1
          change (DataW.weightsAll P e (DataW.lit (.string x.data.toList) :: strs r)).all _ = true at h2
          simp only [DataW.weightsAll, List.all_append, Bool.and_eq_true] at h2
          exact h2.2
  have := of_decide_eq_true (List.all_eq_true.1 h _ hm)
  simp only [reachBytes] at this
  have hl : s.data.toList.length = s.size := by simp
  omega

set_option maxRecDepth 100000 in
/-- WHAT THE WALK GIVES, FOR EVERY ARGUMENT AND EVERY WORLD THAT HOLDS THE LISTED VARIABLES. -/
theorem contract (H : Type) (enc : TypeId × Value → H) (W : World) (base : Nat) (args : Array Value) (ds gs : List (DataW H)) (before : List MemPlace)
    (hval0 : ∀ (j : Nat) t v, Tryd.f3.params[j]? = some t → args[j]? = some v → Value.okWide Tryd.prog W .any base t v)
    (hW : DataW.Whole enc Tryd.prog Tryd.f3.params.toList Rows.lexNumbersSpec.vars false W args.toList ds gs before)
    (hsz0 : (DataW.weightsEach Tryd.prog (Tryd.f3.params.toList ++ Rows.lexNumbersSpec.plain.varTypes Tryd.prog) (ds ++ gs)).all (· ≤ reachBytes) = true)
    (hL : laidMetH Tryd.prog Rows.lexNumbersRow.laid W) :
    Calls Tryd.prog 3 args W fun e W' => ∃ v, e = .returned v ∧ Rows.lexNumbersSpec.post enc Tryd.prog Tryd.f3 false true false false W args v W' := by
  have hE := env_of_laid hL
  have hW' := hW
  obtain ⟨p, q, hA0, hV, rfl, hfz, hnd⟩ := hW
  have hval : ∀ (j : Nat) t v, Tryd.f3.params[j]? = some t → args[j]? = some v → Value.okWide Tryd.prog W .any base t v := hval0
  have hsz := hsz0
  clear hval0 hsz0
  have hA : DataW.TrodAll enc Tryd.prog W 0 (fun _ => true) true Tryd.f3.params.toList args.toList ds p := hA0
  rw [Tryd.params3] at hA hval hsz
  obtain ⟨v0, vs0, d0, ds0, p0, q0, hargs, rfl, rfl, h0, r0⟩ := trodAll_cons hA
  obtain ⟨rfl, rfl, rfl⟩ := trodAll_nil r0
  obtain rfl : args = #[v0] := by cases args; simp_all
  obtain ⟨rfl, rfl⟩ := trodVars_none hV
  obtain ⟨a0, len, cap, rfl⟩ := okWide_slice Tryd.underlying22 (hval 0 22 v0 rfl rfl)
  have h0k := h0
  obtain ⟨fuel, hf⟩ := h0
  clear hA0
  simp only [List.append_nil] at hW'
  have hlt : ∀ x ∈ p0, x.block < W.heap.size := fun x hx => by simpa using hW'.lt x hx
  have walk : Calls Tryd.prog 3 #[.slice a0 len cap] W fun e w' => e = .returned (.bool true) ∧ Below W.heap.size W w' := by
    rcases open_strings Tryd.underlying22 Tryd.underlying9 cellsStr hf with ⟨hcs, hx⟩ | ⟨a, len', cap', ss, hcs, _, hl, hm, hz, hx, hcell, hws⟩
    · simp [Value.cells] at hcs
      obtain ⟨rfl, rfl, rfl⟩ := hcs
      exact numbers_any none 0 0 (fun _ => ByteArray.empty) W hE (by omega) (fun h => absurd h (by omega)) (fun i hi => absurd hi (by omega))
    · simp [Value.cells] at hcs
      obtain ⟨rfl, rfl, rfl⟩ := hcs
      simp only [Prod.mk.injEq] at hx
      obtain ⟨rfl, rfl⟩ := hx
      simp only [if_true] at hz
      have hsz' : (DataW.weightsEach Tryd.prog [22] [DataW.slice (H := H) (strs (ss.take len)) (strs (ss.drop len))]).all (· ≤ reachBytes) = true := hsz
      have hw := weights_strs Tryd.underlying22 hsz'
      refine numbers_any (some a) len cap (fun i => ss.getD i ByteArray.empty) W hE (by unfold maxLen at hm; omega) (fun hp => ?_) (fun i hi => ?_)
      · obtain ⟨b, off, spot⟩ := a
        have hspot : spot = none := by simpa [Addr.add] using World.cell?_spot (hcell 0 (by omega))
        subst hspot
        exact ⟨b, off, rfl, fun i hi => by rw [← add_plain]; exact hcell i (by omega)⟩
      · apply hw
        have hi2 : i < ss.length := by omega
        have hg : ss.getD i ByteArray.empty = ss[i] := by rw [List.getD_eq_getElem?_getD, List.getElem?_eq_getElem hi2]; rfl
        have ht : (ss.take len)[i]'(by rw [List.length_take]; omega) = ss[i] := List.getElem_take ..
        rw [hg, ← ht]
        exact List.getElem_mem _
  refine walk.mono fun e W' ⟨he, hb⟩ => ?_
  subst he
  refine ⟨_, rfl, _, _, _, [] ++ [], p0, [], hW', ?_, ?_, rfl, hb.frame _, fun h => by cases h⟩
  · exact trodAll_cons_mk (shut_bool Tryd.underlying4 _) trodAll_mk0
  · exact trodAll_mk1 (Below.trod laidOut (by kernel_rfl) (of_decide_eq_true (by kernel_rfl)) h0k hb hlt)

abbrev args0 : Array Value := #[.slice none 0 0]
theorem reads (os : Os) {H : Type} (enc : TypeId × Value → H) : ∃ places, DataW.whole enc Tryd.prog ((laidWorld os).forCall (fun _ _ => 0) ⟨#[], args0, []⟩).memory Tryd.f3.params.toList Rows.lexNumbersSpec.vars false args0.toList 8 = some ([.nil], [], places) :=
  ⟨[], by kernel_rfl⟩

set_option maxRecDepth 100000 in
theorem lifted (os : Os) (started : os.Started) (H : Type) (enc : TypeId × Value → H) (F : Stop.Interp) :
    ReturnsInHanded {} Tryd.checked os 3 .any ((OpenSpec.ofChange Rows.lexNumbersSpec).preRow enc Tryd.prog Tryd.f3 Rows.lexNumbersRow.domain false Rows.lexNumbersRow.laid) (((OpenSpec.ofChange Rows.lexNumbersSpec).at F).post enc Tryd.prog Tryd.f3 false true false false) := by
  obtain ⟨places, hx⟩ := reads os enc
  refine returnsInHanded_of_row (C := Tryd.checked) (s := OpenSpec.ofChange Rows.lexNumbersSpec) own started (by kernel_rfl) Tryd.func3
    (witness_row_atRef (enc := enc) (C := Tryd.checked) false (laidWorld os) args0 rfl (by kernel_rfl) (by kernel_rfl) (by kernel_rfl)
      (OpenSpec.preRow_of_cond 8 hx (by kernel_rfl) (fun k hk => by cases hk) (by kernel_rfl) (laid_met os _))) ?_
  intro W base args ds gs before hval hW _ _ hsz hL _ _
  exact contract H enc W base args ds gs before hval hW hsz hL

theorem said : Rows.LexNumbersSaid :=
  OpenClaim.holds_of_cond 3 Tryd.f3 rfl rfl rfl rfl rfl rfl rfl ⟨rfl, rfl, rfl, rfl, rfl⟩ rfl rfl rfl rfl rfl (by kernel_rfl) Tryd.func3 (by kernel_rfl)
    (of_decide_eq_true (by kernel_rfl)) (by unfold Func.isWrapper; first | (rw [if_pos (by decide +kernel)]; kernel_rfl) | (rw [if_neg (by decide +kernel)]; exact ⟨rfl, rfl⟩))
    (fun os started H enc _ F => by rw [OpenClaim.pre_eq_preRow]; exact lifted os started H enc F)

theorem plain (f : FuncId) (fn : Func) (hf : Tryd.pinned.checked.prog.funcNamed "ravelin/ravelinlaw05.LexNumbers" = some f) (hfn : Tryd.pinned.checked.prog.funcs[f]? = some fn) :
    true = Tryd.pinned.checked.prog.looks [] ∧ ∀ (j : Nat) t, fn.params[j]? = some t → Tryd.pinned.checked.prog.wantsStandIn t = false := by
  obtain rfl : f = 3 := Option.some.inj ((show Tryd.prog.funcNamed "ravelin/ravelinlaw05.LexNumbers" = some 3 by kernel_rfl).symm.trans hf) |>.symm
  obtain rfl : fn = Tryd.f3 := (Option.some.inj (Tryd.func3.symm.trans hfn)).symm
  refine ⟨by kernel_rfl, fun j t ht => ?_⟩
  rw [Tryd.params3] at ht
  obtain rfl : t = 22 := by simpa using Array.mem_of_getElem? ht
  exact (show Tryd.prog.wantsStandIn 22 = false by kernel_rfl)

theorem card : Rows.LexNumbersCardSaid :=
  Claim7.holds_tied_plain_at .later [] _ _ _ _ said (fun _ h => by cases h) (by kernel_rfl) (fun _ h => by cases h) lexNumbers_row_tie rfl ⟨rfl, rfl⟩ (by kernel_rfl) rfl plain (by kernel_rfl)
end Go.Proofs.YtlmopoipjolbgaaDoor.LexNumbers
