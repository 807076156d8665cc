/-
  LexGoes: what a round keeps, and what All's items are.
-/
import Derived.Test.YtlmopoipjolbgaaDoorLexL2
namespace Go.Proofs.YtlmopoipjolbgaaDoor.LexW
open Go.RowKit Go.Shelf Go.Proofs.YtlmopoipjolbgaaDoor.LexS Go.Proofs.YtlmopoipjolbgaaDoorW.PrintWords
set_option linter.unusedVariables false
set_option linter.unusedSimpArgs false

/-- what lay at W lies on, but for the blocks of S -/
structure Chg (S : Nat → Prop) (W W' : World) : Prop where
  os : W'.os = W.os
  tape : W'.tape = W.tape
  output : W'.output = W.output
  size : W.heap.size ≤ W'.heap.size
  block : ∀ k, k < W.heap.size → ¬ S k → W'.heap[k]? = W.heap[k]?
theorem Chg.refl (S : Nat → Prop) (W : World) : Chg S W W := ⟨rfl, rfl, rfl, Nat.le_refl _, fun _ _ _ => rfl⟩
theorem Chg.trans {S S' : Nat → Prop} {W W1 W2 : World} (h : Chg S W W1) (h2 : Chg S' W1 W2) (hS : ∀ k, S' k → S k ∨ W.heap.size ≤ k) : Chg S W W2 :=
  ⟨h2.os.trans h.os, h2.tape.trans h.tape, h2.output.trans h.output, Nat.le_trans h.size h2.size, fun k hk hn =>
    (h2.block k (Nat.lt_of_lt_of_le hk h.size) (fun e => (hS k e).elim hn (fun e2 => absurd hk (Nat.not_lt.2 e2)))).trans (h.block k hk hn)⟩
theorem Chg.of_below {W W' : World} (h : Below W.heap.size W W') (S : Nat → Prop) : Chg S W W' := ⟨h.os, h.tape, h.output, h.size, fun k hk _ => h.block k hk⟩
theorem Chg.of_alloc (W : World) (o : Obj) (S : Nat → Prop) : Chg S W (W.alloc o) := Chg.of_below ((Below.refl _ W).alloc (Nat.le_refl _) o) S
theorem Chg.of_set (W : World) (b : Nat) (v : Value) : Chg (fun k => k = b) W (W.setCell ⟨b, 0, none⟩ v) :=
  ⟨rfl, rfl, rfl, by simp, fun k _ hk => Below.heap_setCell _ _ _ k hk⟩
theorem Chg.of_grown {W W' : World} {row : Option Nat} (h : W.grownBy W' row) : Chg (fun k => some k = row) W W' := ⟨h.os, h.tape, h.output, h.size, fun k hk hn => h.block k hk hn⟩
theorem Chg.below {S : Nat → Prop} {W W' : World} (h : Chg S W W') {B : Nat} (hB : B ≤ W.heap.size) (hS : ∀ k, S k → B ≤ k) : Below B W W' :=
  ⟨h.os, h.tape, h.output, h.size, fun k hk => h.block k (by omega) (fun e => by have := hS k e; omega)⟩
theorem Chg.boxed {S : Nat → Prop} {W W' : World} (h : Chg S W W') {b t : Nat} {v : Value} (hb : Boxed W b t v) (hn : ¬ S b) : Boxed W' b t v := (h.block b hb.lt hn).trans hb
theorem Chg.tkbox {S : Nat → Prop} {W W' : World} (h : Chg S W W') {b : Nat} {x : Tk} (hb : TkBox W b x) (hn : ¬ S b) : TkBox W' b x := (h.block b hb.lt hn).trans hb
theorem Chg.keeps {S : Nat → Prop} {W W' : World} (h : Chg S W W') {B : Nat} (hS : ∀ k, S k → k < B) : KeepsFrom B W W' :=
  ⟨h.size, fun k o hk ho _ => (h.block k (Array.getElem?_eq_some_iff.1 ho).1 (fun e => by have := hS k e; omega)).trans ho⟩
theorem Chg.own {β : Type} (S : Nat → Prop) (W : World) {B : Nat} (hB : W.heap.size ≤ B) : OwnFrom B (fun (_ : β) W' => Chg S W W') := fun _ X Y row hs hg hr =>
  hs.trans (Chg.of_grown hg) (fun k e => .inr (by have := (hr k e.symm).1; omega))
theorem not_terr {Lb : Nat} {W : World} {t : TypeId} {i : Int} {kd : IntKind} (h : Boxed W Lb t (.int kd i)) (k : Nat) : ¬ terr Lb W k := by
  rintro ⟨v, hv, ho⟩
  rw [h.cell] at hv; cases hv
  simp [Value.ownBlock] at ho
/-- a round that turns no more than one box of the caller's keeps its word -/
theorem Chg.kpg {S : Nat → Prop} {W W' : World} (h : Chg S W W') {n₀ Bn B₁ Lb : Nat} {t : TypeId} {i : Int} {kd : IntKind} (hn : n₀ ≤ W.heap.size) (hS0 : ∀ k, S k → n₀ ≤ k ∧ k < B₁) (hB : Bn < W.heap.size) (hSB : ¬ S Bn) (hL : Boxed W Lb t (.int kd i)) (hSL : ¬ S Lb) : Kpg n₀ Bn B₁ Lb W W' := by
  have hL' := h.boxed hL hSL
  refine ⟨h.below hn (fun k e => (hS0 k e).1), h.block Bn hB hSB, fun _ => ⟨fun k ht => absurd ht (not_terr hL' k), fun k o hk ho hc _ => ⟨?_, not_terr hL' k⟩⟩⟩
  exact (h.block k (Array.getElem?_eq_some_iff.1 ho).1 (fun e => by have := (hS0 k e).2; omega)).trans ho

/-! ### the items -/
theorem gen_count (s : ByteArray) : (gen s 0).length = (toks s).1.length + (if (toks s).2.1 ≠ 0 then 1 else 0) := by
  rw [gen_eq, List.length_append, List.length_map]
  split <;> rfl
theorem gen_item {s : ByteArray} {k : Nat} (h : k < (toks s).1.length) : (gen s 0)[k]? = some ((toks s).1.getD k tkz, 0) := by
  rw [gen_eq, List.getElem?_append_left (by rw [List.length_map]; exact h), List.getElem?_map, List.getElem?_eq_getElem h, List.getD_eq_getElem?_getD, List.getElem?_eq_getElem h]
  rfl
theorem gen_last {s : ByteArray} (h : (toks s).2.1 ≠ 0) : (gen s 0)[(toks s).1.length]? = some (tkz, (toks s).2.1) := by
  rw [gen_eq, if_pos h, List.getElem?_append_right (by rw [List.length_map]; exact Nat.le_refl _), List.length_map]
  simp
theorem pre_snoc {l pre : List (Tk × Int)} {x : Tk × Int} (h : pre <+: l) : pre ++ [x] <+: l ↔ l[pre.length]? = some x := by
  obtain ⟨r, rfl⟩ := h
  constructor
  · rintro ⟨r2, h2⟩
    rw [← h2]; simp
  · intro h2
    rw [List.getElem?_append_right (Nat.le_refl _), Nat.sub_self] at h2
    cases r with
    | nil => simp at h2
    | cons y r =>
      have : y = x := by simpa using h2
      subst this
      exact ⟨r, by simp⟩
theorem addr_add (ad : Addr) (a b : Nat) : (ad.add a).add b = ad.add (a + b) := by
  unfold Addr.add
  by_cases ha : a = 0
  · subst ha; simp
  · by_cases hb : b = 0
    · subst hb; simp
    · rw [if_neg hb, if_neg ha, if_neg (by omega)]
      simp [Nat.add_assoc]
/-- one token of a list, as a slice of its own -/
theorem tk_slice {w : World} {ad : Addr} {n : Nat} {xs : List Tk} (h : kTk.C w (some ad) n xs) {k : Nat} (hk : k < n) : kTk.C w (some (ad.add (k * 4))) [xs.getD k tkz].length [xs.getD k tkz] := by
  obtain ⟨ad', e, x0, x1, x2, x3⟩ := tk_at h k hk
  cases e
  refine ⟨rfl, by simp, fun _ => ⟨_, rfl, fun j p hj => ?_⟩⟩
  have hj0 : j = 0 := by
    have := (List.getElem?_eq_some_iff.1 hj).1
    simpa using this
  subst hj0
  obtain rfl : xs.getD k tkz = p := by simpa using hj
  obtain ⟨ad2, c, e2, _, hK, hc0⟩ := Kd.C_get h tkz (k : Int) (by omega) (by omega)
  cases e2
  rw [Int.toNat_natCast] at hK hc0
  refine ⟨c, by have := kTk_open hK; rw [this]; rfl, hK, fun i u hu => ?_⟩
  have := hc0 i u hu
  rw [Nat.zero_mul, Nat.zero_add]
  rw [addr_add]
  exact this
end Go.Proofs.YtlmopoipjolbgaaDoor.LexW
