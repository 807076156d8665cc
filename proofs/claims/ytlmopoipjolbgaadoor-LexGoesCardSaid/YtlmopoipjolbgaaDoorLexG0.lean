/-
  A region that draws its order within a round: by what holds of whatever has been carried out.
-/
import Derived.Test.YtlmopoipjolbgaaDoorLexG1
import Derived.OrdersIn
namespace Go.Proofs.YtlmopoipjolbgaaDoor.LexW
open Go.RowKit Go.Shelf Go.Proofs.YtlmopoipjolbgaaDoor.LexS Go.Proofs.YtlmopoipjolbgaaDoorW.PrintWords
set_option linter.unusedVariables false
set_option linter.unusedSimpArgs false

theorem count_set (l : List Bool) : ∀ i : Nat, l[i]? = some false → (l.set i true).count false + 1 = l.count false := by
  induction l with
  | nil => intro i h; simp at h
  | cons b l ih =>
    intro i h
    cases i with
    | zero =>
      have hb : b = false := by simpa using h
      subst hb
      simp
    | succ i =>
      have := ih i (by simpa using h)
      cases b <;> simp [List.count_cons] <;> omega
theorem ready_false {md : Region.Mode} {ops : Array Oper} {listed : Array Bool} {i : Nat} (h : i ∈ Region.ready md ops listed) : listed[i]? = some false := by
  unfold Region.ready at h
  have h2 := (List.mem_filter.1 h).2
  rw [Bool.and_eq_true] at h2
  have h3 := h2.1
  rw [Array.getD_eq_getD_getElem?] at h3
  cases hl : listed[i]? with
  | none => rw [hl] at h3; simp at h3
  | some b => rw [hl] at h3; simp at h3; rw [h3]
theorem anyIn_inv {F : Fence} {n : Nat} {P : Program} {ops : Array Oper} {Q : Exit → Act → World → Prop} {md : Region.Mode} (Inv : Array Bool → Act → World → Prop)
    (hstep : ∀ listed a w i, i ∈ Region.ready md ops listed → Inv listed a w → wpOpIn F n P ops Q i (fun a' w' => Inv (listed.setIfInBounds i true) a' w') a w)
    (hend : ∀ listed a w, Region.ready md ops listed = [] → Inv listed a w → Q .normal a w) :
    ∀ (fuel : Nat) (listed : Array Bool) (a : Act) (w : World), listed.toList.count false ≤ fuel → Inv listed a w → wpAnyIn F n P md ops Q fuel listed a w := by
  intro fuel
  induction fuel with
  | zero =>
    intro listed a w hc hI
    have hr : Region.ready md ops listed = [] := by
      cases hr : Region.ready md ops listed with
      | nil => rfl
      | cons i r =>
        exfalso
        have hf := ready_false (md := md) (ops := ops) (listed := listed) (i := i) (by rw [hr]; exact List.mem_cons_self)
        have := count_set listed.toList i (by simpa using hf)
        omega
    exact ⟨hr, hend _ _ _ hr hI⟩
  | succ fuel ih =>
    intro listed a w hc hI
    refine ⟨fun hr => hend _ _ _ hr hI, fun i hi => ?_⟩
    refine wpOpIn_mono (fun a' w' h => ih _ _ _ ?_ h) (hstep listed a w i hi hI)
    have := count_set listed.toList i (by simpa using ready_false hi)
    rw [Array.toList_setIfInBounds]
    omega
/-- **a region that draws its order: what holds of whatever has been carried out** -/
theorem wpIn_region_inv {F : Fence} {n : Nat} {P : Program} {ops : Array Oper} {Q : Exit → Act → World → Prop} {id : Nat} {a : Act} {w : World} (Inv : Array Bool → Act → World → Prop) (hm : P.follows .mixedOrders = true)
    (h0 : Inv (Array.replicate ops.size false) a w.drew)
    (hstep : ∀ listed a w i, i ∈ Region.ready .any ops listed → Inv listed a w → wpOpIn F n P ops Q i (fun a' w' => Inv (listed.setIfInBounds i true) a' w') a w)
    (hend : ∀ listed a w, Region.ready .any ops listed = [] → Inv listed a w → Q .normal a w) : (Code.region id ops true).wpIn F n P Q a w :=
  wpIn_region_any hm (anyIn_inv Inv hstep hend _ _ _ _ (by simp) h0)
end Go.Proofs.YtlmopoipjolbgaaDoor.LexW
