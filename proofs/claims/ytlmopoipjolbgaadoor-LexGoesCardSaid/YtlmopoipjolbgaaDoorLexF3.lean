/-
  lex.List: a loop over lex.All that gathers.
-/
import Derived.Test.YtlmopoipjolbgaaDoorLexF2
namespace Go.Proofs.YtlmopoipjolbgaaDoor.LexW
open Go.RowKit Go.Shelf Go.Proofs.YtlmopoipjolbgaaDoor.LexS Go.Proofs.YtlmopoipjolbgaaDoorW.PrintWords
set_option linter.unusedVariables false
set_option linter.unusedSimpArgs false
attribute [local go_sem] Oper.semAt_some

theorem cell_over {W : World} {a : Addr} {v : Value} (o : Obj) (h : W.cell? a = some v) : (W.alloc o).cell? a = some v := cell_kept h (World.grownBy_alloc W o none) (fun r e => by cases e)
theorem frozen_over {W : World} {a : Addr} {v : Value} (o : Obj) (h : W.cell? a = some v) (hf : W.frozen? a = false) : (W.alloc o).frozen? a = false := (frozen_kept h (World.grownBy_alloc W o none) (fun r e => by cases e)).trans hf

/-- between two rounds -/
structure LI (w0 : World) (s : ByteArray) (pre : List (Tk × Int)) (W : World) : Prop where
  text : Boxed W w0.heap.size 9 (.string s)
  r1 : Boxed W (w0.heap.size + 1) 29 (.slice none 0 0)
  r2 : Boxed W (w0.heap.size + 2) 30 (.int .i64 0)
  r3 : Boxed W (w0.heap.size + 3) 3 (.int .i64 0)
  row : ∃ v, Boxed W (w0.heap.size + 4) 29 v ∧ TkRow W w0.heap.size v (pre.map (·.1))
  pl : Boxed W (w0.heap.size + 5) 3 (.int .i64 (placeT (pre.map (·.1))))
  tbox : Boxed W (w0.heap.size + 6) 9 (.string s)
  ok : ∀ x ∈ pre, x.2 = 0
  bel : Below w0.heap.size w0 W
theorem boxed_turn {W W' : World} {B t : Nat} {v : Value} {row : Option Nat} (h : Boxed W B t v) (hg : W.grownBy W' row) (hr : ∀ r, row = some r → ∃ o : Obj, W.heap[r]? = some o ∧ o.isCells = false) : Boxed W' B t v :=
  h.kept hg (fun e => by obtain ⟨o, ho, hc⟩ := hr B e.symm; rw [show W.heap[B]? = _ from h] at ho; cases ho; cases hc)
theorem LI.own (w0 : World) (s : ByteArray) {B : Nat} (hB : w0.heap.size ≤ B) : OwnFrom B (LI w0 s) := fun pre W W' row h hg hr => by
  have hr2 := fun r e => (hr r e).2
  obtain ⟨h0, h1, h2, h3, ⟨v, h4, hv⟩, h5, h6, h7, h8⟩ := h
  exact ⟨boxed_turn h0 hg hr2, boxed_turn h1 hg hr2, boxed_turn h2 hg hr2, boxed_turn h3 hg hr2, ⟨v, boxed_turn h4 hg hr2, hv.turn hg hr2⟩, boxed_turn h5 hg hr2, boxed_turn h6 hg hr2, h7,
    h8.grown hg h8.size (fun k e => by have := (hr k e).1; omega)⟩
/-- where a round has left -/
def LX (w0 : World) (s : ByteArray) (c : Code) (xs : List (Tk × Int)) (W : World) : Prop :=
  c = .ret ∧ ∃ (pre : List (Tk × Int)) (x : Tk × Int), xs = pre ++ [x] ∧ x.2 ≠ 0 ∧ Boxed W (w0.heap.size + 1) 29 (.slice none 0 0) ∧ Boxed W (w0.heap.size + 2) 30 (.int .i64 x.2) ∧
    Boxed W (w0.heap.size + 3) 3 (.int .i64 (placeOf (nextV s (placeT (pre.map (·.1)))))) ∧ Below w0.heap.size w0 W
theorem LX.own (w0 : World) (s : ByteArray) {B : Nat} (hB : w0.heap.size ≤ B) (c : Code) : OwnFrom B (LX w0 s c) := fun xs W W' row h hg hr => by
  have hr2 := fun r e => (hr r e).2
  obtain ⟨hc, pre, x, he, hx, h1, h2, h3, h8⟩ := h
  exact ⟨hc, pre, x, he, hx, boxed_turn h1 hg hr2, boxed_turn h2 hg hr2, boxed_turn h3 hg hr2, h8.grown hg h8.size (fun k e => by have := (hr k e).1; omega)⟩

/-- what a round's append and its two stores keep -/
theorem round_keeps {n B : Nat} {W w2 : World} {v v2 : Value} {l l2 : List Tk} {t3 t : Nat} {s : ByteArray} {u5 : Value} (hB : n + 7 = B) (hBW : B ≤ W.heap.size) (ht : t ≠ 38) (ht3 : t3 ≠ 38) (hrow : TkRow W n v l) (hv : Boxed W (n + 4) t v) (htx : Boxed W (n + 6) t3 (.string s)) (hO2 : TkRow w2 n v2 l2)
    (hg : W.grownBy w2 v.ownBlock) (hat : v2.ownBlock = v.ownBlock ∨ ∃ b, v2.ownBlock = some b ∧ W.heap.size ≤ b) (u : Value) :
    KeepsFrom B W ((w2.setCell ⟨n + 4, 0, none⟩ v2).setCell ⟨n + 5, 0, none⟩ u) ∧ Kpg n (n + 6) B (n + 4) W ((w2.setCell ⟨n + 4, 0, none⟩ v2).setCell ⟨n + 5, 0, none⟩ u) := by
  have hn4 : some (n + 4) ≠ v.ownBlock := hrow.ne hv ht
  have hn6 : some (n + 6) ≠ v.ownBlock := hrow.ne htx ht3
  have hv2 : Boxed w2 (n + 4) t v := hv.kept hg hn4
  have hsz := hg.size
  have hs2 : ((w2.setCell ⟨n + 4, 0, none⟩ v2).setCell ⟨n + 5, 0, none⟩ u).heap.size = w2.heap.size := by simp
  have hoth : ∀ k, k ≠ n + 4 → k ≠ n + 5 → ((w2.setCell ⟨n + 4, 0, none⟩ v2).setCell ⟨n + 5, 0, none⟩ u).heap[k]? = w2.heap[k]? := fun k h4 h5 =>
    (Below.heap_setCell _ _ _ k h5).trans (Below.heap_setCell _ _ _ k h4)
  have hbox : Boxed ((w2.setCell ⟨n + 4, 0, none⟩ v2).setCell ⟨n + 5, 0, none⟩ u) (n + 4) t v2 := (hv2.set v2).other (by omega) u
  obtain ⟨inner, hown⟩ := Kd.R_own hrow
  have hbase := own_base hown
  have hcell : ∀ k, terr (n + 4) ((w2.setCell ⟨n + 4, 0, none⟩ v2).setCell ⟨n + 5, 0, none⟩ u) k → v2.ownBlock = some k := fun k ⟨x, hx, ho⟩ => by
    rw [hbox.cell] at hx; cases hx; exact ho
  refine ⟨?_, ?_, ?_, fun hw => ⟨fun k hk => ?_, fun k o hk ho hc hnt => ?_⟩⟩
  · refine (((KeepsOthers.of_grownBy hg (fun j o e ho => ?_)).trans (KeepsOthers.setCell _ _ _)).trans (KeepsOthers.setCell _ _ _)).from B
    obtain ⟨cells, hcs⟩ := own_typed hown j e
    rw [hcs] at ho; cases ho; rfl
  · exact (((Below.refl n W).grown hg (by omega) (fun k e => hbase k e)).setCell (p := ⟨n + 4, 0, none⟩) (by simp) _).setCell (p := ⟨n + 5, 0, none⟩) (by simp) _
  · exact (hoth _ (by omega) (by omega)).trans (hg.block _ (by omega) hn6)
  · have := TkRow.lt hO2
    rw [hs2]
    by_cases hlt : k < w2.heap.size
    · exact hlt
    · exact absurd (hcell k hk).symm (this k (by omega))
  · have hne : some k ≠ v.ownBlock := fun e => hnt ⟨v, hv.cell, e.symm⟩
    have hkW := (Array.getElem?_eq_some_iff.1 ho).1
    refine ⟨((hoth k (by omega) (by omega)).trans (hg.block k hkW hne)).trans ho, fun hk2 => ?_⟩
    have h2 := hcell k hk2
    rcases hat with hat | ⟨b, hb, hle⟩
    · exact hne (by rw [← hat, h2])
    · rw [hb] at h2; cases h2; omega

theorem LI.next {w0 W w2 : World} {s : ByteArray} {pre : List (Tk × Int)} {v v2 : Value} {x : Tk} (h : LI w0 s pre W) (hv : Boxed W (w0.heap.size + 4) 29 v) (hrow : TkRow W w0.heap.size v (pre.map fun x : Tk × Int => x.1))
    (hO2 : TkRow w2 w0.heap.size v2 ((pre.map fun x : Tk × Int => x.1) ++ [x])) (hg : W.grownBy w2 v.ownBlock) :
    LI w0 s (pre ++ [(x, 0)]) ((w2.setCell ⟨w0.heap.size + 4, 0, none⟩ v2).setCell ⟨w0.heap.size + 5, 0, none⟩ (.int .i64 (wrap64 (x.at_ + (x.text.size : Int))))) := by
  have hm : ((pre ++ [(x, (0 : Int))]).map fun x : Tk × Int => x.1) = (pre.map fun x : Tk × Int => x.1) ++ [x] := by rw [List.map_append]; rfl
  obtain ⟨inner, hown⟩ := Kd.R_own hrow
  have b4 := hv.kept hg (hrow.ne hv (by decide))
  have b5 := h.pl.kept hg (hrow.ne h.pl (by decide))
  exact {
    text := ((h.text.kept hg (hrow.ne h.text (by decide))).other (by omega) _).other (by omega) _
    r1 := ((h.r1.kept hg (hrow.ne h.r1 (by decide))).other (by omega) _).other (by omega) _
    r2 := ((h.r2.kept hg (hrow.ne h.r2 (by decide))).other (by omega) _).other (by omega) _
    r3 := ((h.r3.kept hg (hrow.ne h.r3 (by decide))).other (by omega) _).other (by omega) _
    row := ⟨v2, (b4.set v2).other (by omega) _, by rw [hm]; exact (hO2.set b4 (by decide) v2).set (b5.other (by omega) v2) (by decide) _⟩
    pl := by rw [hm, placeT_snoc]; exact (b5.other (by omega) v2).set _
    tbox := ((h.tbox.kept hg (hrow.ne h.tbox (by decide))).other (by omega) _).other (by omega) _
    ok := fun y hy => by
      rcases List.mem_append.1 hy with hy | hy
      · exact h.ok y hy
      · rw [List.mem_singleton] at hy; rw [hy]
    bel := ((h.bel.grown hg h.bel.size (own_base hown)).setCell (p := ⟨w0.heap.size + 4, 0, none⟩) (by simp) _).setCell (p := ⟨w0.heap.size + 5, 0, none⟩) (by simp) _ }

theorem LX.made {w0 W w2 : World} {s : ByteArray} {pre : List (Tk × Int)} {x : Tk × Int} (h : LI w0 s pre W) (hx : x.2 ≠ 0) (hb : Below W.heap.size W w2) (o : Obj) {pl : Int} (hpl : placeOf (nextV s (placeT (pre.map fun x : Tk × Int => x.1))) = pl) (B : Nat) :
    KeepsFrom B W ((((w2.alloc o).setCell ⟨w0.heap.size + 1, 0, none⟩ (.slice none 0 0)).setCell ⟨w0.heap.size + 2, 0, none⟩ (.int .i64 x.2)).setCell ⟨w0.heap.size + 3, 0, none⟩ (.int .i64 pl)) ∧
    LX w0 s .ret (pre ++ [x]) ((((w2.alloc o).setCell ⟨w0.heap.size + 1, 0, none⟩ (.slice none 0 0)).setCell ⟨w0.heap.size + 2, 0, none⟩ (.int .i64 x.2)).setCell ⟨w0.heap.size + 3, 0, none⟩ (.int .i64 pl)) := by
  have hg := grown_of_below hb none
  have hsz := h.bel.size
  have b1 := (h.r1.kept hg (by simp)).alloc o
  have b2 := (h.r2.kept hg (by simp)).alloc o
  have b3 := (h.r3.kept hg (by simp)).alloc o
  have hbel := h.bel.trans (hb.mono hsz)
  refine ⟨(((((KeepsOthers.of_grownBy hg (fun j o e _ => by cases e)).trans (KeepsOthers.alloc _ _)).trans (KeepsOthers.setCell _ _ _)).trans (KeepsOthers.setCell _ _ _)).trans (KeepsOthers.setCell _ _ _)).from B,
    rfl, pre, x, rfl, hx, ((b1.set _).other (by omega) _).other (by omega) _, ((b2.other (by omega) _).set _).other (by omega) _, by rw [hpl]; exact ((b3.other (by omega) _).other (by omega) _).set _, ?_⟩
  exact (((hbel.alloc hbel.size o).setCell (p := ⟨w0.heap.size + 1, 0, none⟩) (by simp) _).setCell (p := ⟨w0.heap.size + 2, 0, none⟩) (by simp) _).setCell (p := ⟨w0.heap.size + 3, 0, none⟩) (by simp) _
end Go.Proofs.YtlmopoipjolbgaaDoor.LexW
