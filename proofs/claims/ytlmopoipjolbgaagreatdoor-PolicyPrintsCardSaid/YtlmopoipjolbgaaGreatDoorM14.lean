/-
  Layer 6 (policy), the reference: one. · Layer 6 (policy), the reference: one and Expr at every depth; reader. · Layer 6 (policy), the reference: rule.
-/
import Derived.Test.YtlmopoipjolbgaaGreatDoorM13
import Derived.Deep.RegionLaw
import Derived.Test.YtlmopoipjolbgaaGreatDoorM08
namespace Go.Proofs.YtlmopoipjolbgaaGreatDoor.LexW
open Go.RowKit Go.Shelf Go.Proofs.YtlmopoipjolbgaaGreatDoor.LexS Go.Proofs.YtlmopoipjolbgaaGreatDoorW.PrintWords
set_option linter.unusedVariables false
set_option linter.unusedSimpArgs false

/-- on the way: the result's box, the token's, the expression's -/
structure OnSt (g : Nat) (LL : List Tk) (ep : EP) (W : World) (T : Nat) (t : Tk) (d : Int) (Wi : World) (S : RS) (cs : Array Value) : Prop where
  out : LOut W g LL ep d S Wi
  hB : Wi.heap[W.heap.size]? = some (.cells #[.int .i64 0, .slice none 0 0, .int .i64 0, .int .u64 0, .int .i64 0, .int .u64 0] 37 (0, 0))
  hT : Wi.heap[T]? = some (.cells #[.int .i64 t.kind, .string t.text, .int .u64 t.num, .int .i64 t.at_] 59 (0, 0))
  hX : Wi.heap[T + 1]? = some (.cells cs 37 (0, 0))
  hT1 : W.heap.size < T
section
variable {g : Nat} {LL : List Tk} {ep : EP} {W : World} {T : Nat} {t : Tk} {d d' : Int} {Wi Wj : World} {S S' : RS} {cs : Array Value}
theorem OnSt.lt (h : OnSt g LL ep W T t d Wi S cs) : T + 1 < Wi.heap.size := (Array.getElem?_eq_some_iff.1 h.hX).1
theorem OnSt.step (h : OnSt g LL ep W T t d Wi S cs) (hg : g < W.heap.size) (hO : LOut Wi g LL ep d' S' Wj) : OnSt g LL ep W T t d' Wj S' cs :=
  ⟨h.out.trans hO, chg_block hO.chg h.hB (by omega), chg_block hO.chg h.hT (by have := h.hT1; omega), chg_block hO.chg h.hX (by have := h.hT1; omega), h.hT1⟩
theorem OnSt.below (h : OnSt g LL ep W T t d Wi S cs) (hb : Below Wi.heap.size Wi Wj) : OnSt g LL ep W T t d Wj S cs :=
  ⟨h.out.below hb, (hb.block _ (Array.getElem?_eq_some_iff.1 h.hB).1).trans h.hB, (hb.block _ (Array.getElem?_eq_some_iff.1 h.hT).1).trans h.hT, (hb.block _ (Array.getElem?_eq_some_iff.1 h.hX).1).trans h.hX, h.hT1⟩
theorem OnSt.alloc (h : OnSt g LL ep W T t d Wi S cs) (o : Obj) : OnSt g LL ep W T t d (Wi.alloc o) S cs := h.below ((Below.refl _ _).alloc (Nat.le_refl _) o)
theorem OnSt.set (h : OnSt g LL ep W T t d Wi S cs) (hg : g < W.heap.size) (j : Nat) (v : Value) : OnSt g LL ep W T t d (Wi.setCell ⟨T + 1, j, none⟩ v) S (cs.setIfInBounds j v) :=
  ⟨h.out.far (T + 1) j hg (by have := h.hT1; omega) v, (Below.heap_setCell Wi ⟨T + 1, j, none⟩ v W.heap.size (by show W.heap.size ≠ T + 1; have := h.hT1; omega)).trans h.hB, (Below.heap_setCell Wi ⟨T + 1, j, none⟩ v T (by show T ≠ T + 1; omega)).trans h.hT, blk_set h.hX j v, h.hT1⟩
theorem OnSt.set0 {v0 v1 v2 v3 v4 v5 : Value} (h : OnSt g LL ep W T t d Wi S #[v0, v1, v2, v3, v4, v5]) (hg : g < W.heap.size) (a0 : Value) : OnSt g LL ep W T t d (Wi.setCell ⟨T + 1, 0, none⟩ a0) S #[a0, v1, v2, v3, v4, v5] := h.set hg 0 a0
theorem OnSt.sets6 {v0 v1 v2 v3 v4 v5 : Value} (h : OnSt g LL ep W T t d Wi S #[v0, v1, v2, v3, v4, v5]) (hg : g < W.heap.size) (a0 a1 a2 a3 a4 a5 : Value) : OnSt g LL ep W T t d ((((((Wi.setCell ⟨T + 1, 0, none⟩ a0).setCell ⟨T + 1, 1, none⟩ a1).setCell ⟨T + 1, 2, none⟩ a2).setCell ⟨T + 1, 3, none⟩ a3).setCell ⟨T + 1, 4, none⟩ a4).setCell ⟨T + 1, 5, none⟩ a5) S #[a0, a1, a2, a3, a4, a5] :=
  (((((h.set hg 0 a0).set hg 1 a1).set hg 2 a2).set hg 3 a3).set hg 4 a4).set hg 5 a5
/-- back from a level -/
theorem OnSt.deep (h : OnSt g LL ep W T t d Wi S cs) (hg : g < W.heap.size) (d' : Int) : OnSt g LL ep W T t d' (Wi.setCell ⟨g, 4, none⟩ (.int .i64 d')) S cs :=
  h.step hg ((rfs_deep h.out.st).2.2 d')
end
theorem ExRow.lowB {W : World} {base base' : Nat} {v : Value} {l : List Ex} (h : ExRow W base v l) (hb : base' ≤ base) : ExRow W base' v l := Kd.R_lower h hb

theorem on_end {g : Nat} {LL : List Tk} {ep : EP} {W : World} {T : Nat} {t : Tk} {d : Int} {Wi : World} {S : RS} {cs : Array Value} (h : OnSt g LL ep W T t d Wi S cs) (hg : g < W.heap.size) (x : Ex) (A : Option Addr) (c base : Nat) (hrow : ExRow Wi base (.slice A x.f1.length c) x.f1) (hb : W.heap.size < base) :
    ExRow ((((((Wi.setCell ⟨W.heap.size, 0, none⟩ (.int .i64 x.f0)).setCell ⟨W.heap.size, 1, none⟩ (.slice A x.f1.length c)).setCell ⟨W.heap.size, 2, none⟩ (.int .i64 x.f2)).setCell ⟨W.heap.size, 3, none⟩ (.int .u64 x.f3)).setCell ⟨W.heap.size, 4, none⟩ (.int .i64 x.f4)).setCell ⟨W.heap.size, 5, none⟩ (.int .u64 x.f5)) W.heap.size (.slice A x.f1.length c) x.f1 ∧
    LOut W g LL ep d S ((((((Wi.setCell ⟨W.heap.size, 0, none⟩ (.int .i64 x.f0)).setCell ⟨W.heap.size, 1, none⟩ (.slice A x.f1.length c)).setCell ⟨W.heap.size, 2, none⟩ (.int .i64 x.f2)).setCell ⟨W.heap.size, 3, none⟩ (.int .u64 x.f3)).setCell ⟨W.heap.size, 4, none⟩ (.int .i64 x.f4)).setCell ⟨W.heap.size, 5, none⟩ (.int .u64 x.f5)) :=
  ⟨(hrow.chg ((Chg.refl (fun k => k = W.heap.size) Wi).sets6' W.heap.size (fun k e => e) _ _ _ _ _ _) (fun k e => by omega)).lowB (Nat.le_of_lt hb), h.out.far6 W.heap.size hg (Nat.le_refl _) _ _ _ _ _ _⟩
/-- one: how it goes, where what is nested is known -/
def oneG (ep : EP) (b : Bool) (nest : RS → Ex × RS) (S : RS) : Ex × RS :=
  if (nextL ep S).2.err = 0 then
    (if (nextL ep S).1.kind = 2 then
      (if (nextL ep S).1.text = sNot then (if b = true then (⟨3, [(nest (nextL ep S).2).1], 0, 0, 0, 0⟩, (nest (nextL ep S).2).2) else (zEx, failsL 62 (nextL ep S).1.at_ (nextL ep S).2)) else atomL ep (nextL ep S).1 (nextL ep S).2)
     else if (nextL ep S).1.kind = 4 then
      (if (nextL ep S).1.text = sOpen then (if b = true then ((exprL ep nest (nextL ep S).2).1, wantL ep 4 sShut (exprL ep nest (nextL ep S).2).2) else (zEx, failsL 62 (nextL ep S).1.at_ (nextL ep S).2)) else (zEx, failsL 61 (nextL ep S).1.at_ (nextL ep S).2))
     else (zEx, failsL 61 (nextL ep S).1.at_ (nextL ep S).2))
  else (zEx, (nextL ep S).2)
theorem atom_not2 {ep : EP} {t : Tk} {S : RS} (h : ¬ t.kind = 2) : atomL ep t S = (zEx, failsL 61 t.at_ S) := by unfold atomL; rw [if_neg h]
theorem oneG_zero (ep : EP) (nest : RS → Ex × RS) (S : RS) : oneL ep 0 S = oneG ep false nest S := by
  unfold oneL oneG
  simp only
  split
  · by_cases h2 : (nextL ep S).1.kind = 2
    · rw [if_pos h2]
      by_cases h3 : (nextL ep S).1.text = sNot
      · rw [if_pos h3, if_pos ⟨h2, h3⟩]; rfl
      · rw [if_neg h3, if_neg (fun h => h3 h.2), if_neg (fun h => by rw [h2] at h; exact absurd h.1 (by decide))]
    · rw [if_neg h2, if_neg (fun h => h2 h.1)]
      by_cases h4 : (nextL ep S).1.kind = 4
      · rw [if_pos h4]
        by_cases h5 : (nextL ep S).1.text = sOpen
        · rw [if_pos h5, if_pos ⟨h4, h5⟩]; rfl
        · rw [if_neg h5, if_neg (fun h => h5 h.2), atom_not2 h2]
      · rw [if_neg h4, if_neg (fun h => h4 h.1), atom_not2 h2]
  · rfl
theorem oneG_succ (ep : EP) (k : Nat) (S : RS) : oneL ep (k + 1) S = oneG ep true (oneL ep k) S := by
  rw [oneL]
  unfold oneG
  simp only
  split
  · by_cases h2 : (nextL ep S).1.kind = 2
    · rw [if_pos h2]
      by_cases h3 : (nextL ep S).1.text = sNot
      · rw [if_pos h3, if_pos ⟨h2, h3⟩]; rfl
      · rw [if_neg h3, if_neg (fun h => h3 h.2), if_neg (fun h => by rw [h2] at h; exact absurd h.1 (by decide))]
    · rw [if_neg h2, if_neg (fun h => h2 h.1)]
      by_cases h4 : (nextL ep S).1.kind = 4
      · rw [if_pos h4]
        by_cases h5 : (nextL ep S).1.text = sOpen
        · rw [if_pos h5, if_pos ⟨h4, h5⟩]; rfl
        · rw [if_neg h5, if_neg (fun h => h5 h.2), atom_not2 h2]
      · rw [if_neg h4, if_neg (fun h => h4 h.1), atom_not2 h2]
  · rfl
theorem not_list : sNot.toList = [110, 111, 116] := by decide +kernel
theorem open_list : sOpen.toList = [40] := by decide +kernel
theorem true_list : sTrue.toList = [116, 114, 117, 101] := by decide +kernel
theorem false_list : sFalse.toList = [102, 97, 108, 115, 101] := by decide +kernel
theorem lit_yes {x y : ByteArray} {l : List UInt8} (hy : y.toList = l) (h : x = y) : (x.toList == l) = true := by rw [h, hy]; exact beq_self_eq_true _
theorem lit_no {x y : ByteArray} {l : List UInt8} (hy : y.toList = l) (h : ¬ x = y) : (x.toList == l) = false := by rw [← hy]; exact (text_neb h).1

set_option maxRecDepth 100000 in
set_option maxHeartbeats 8000000 in
theorem one_of (g : Nat) (LL : List Tk) (ep : EP) (d : Int) (hd0 : 0 ≤ d) (hd : d ≤ 64) (nest : RS → Ex × RS) (S : RS) (W : World) (hF : Fin3 ep S) (hR : RfS W g LL ep d S)
    (hfin : ∀ S1, Fin3 ep S1 → Fin3 ep (nest S1).2) (hlen : ∀ S1, (nest S1).2.M.length ≤ S1.M.length)
    (hnest : d < 64 → ∀ S1 W1, Fin3 ep S1 → RfS W1 g LL ep (d + 1) S1 → Calls Tryz.prog 92 #[.pointer (some ⟨g, 0, none⟩)] W1 (ExL W1 g LL ep (d + 1) (nest S1))) :
    Calls Tryz.prog 92 #[.pointer (some ⟨g, 0, none⟩)] W (ExL W g LL ep d (oneG ep (decide (d < 64)) nest S)) := by
  have hgW := hR.lt
  have hal := (Below.refl W.heap.size W).alloc (Nat.le_refl _) exZero
  have hz : (W.alloc exZero).heap[W.heap.size]? = some (.cells #[.int .i64 0, .slice none 0 0, .int .i64 0, .int .u64 0, .int .i64 0, .int .u64 0] 37 (0, 0)) := new_blk W _ _
  have hO1 : LOut W g LL ep d S (W.alloc exZero) := ⟨hR.below hal, Chg.of_below hal _⟩
  have HN := Lib.hid (next_ref g LL ep d S (W.alloc exZero) hF hO1.st)
  have HNEST := Lib.hid hnest; have HFIN := Lib.hid hfin; have HLEN := Lib.hid hlen
  have hg0 : oneG ep (decide (d < 64)) nest S = (if (nextL ep S).2.err = 0 then
    (if (nextL ep S).1.kind = 2 then
      (if (nextL ep S).1.text = sNot then (if (decide (d < 64)) = true then (⟨3, [(nest (nextL ep S).2).1], 0, 0, 0, 0⟩, (nest (nextL ep S).2).2) else (zEx, failsL 62 (nextL ep S).1.at_ (nextL ep S).2)) else atomL ep (nextL ep S).1 (nextL ep S).2)
     else if (nextL ep S).1.kind = 4 then
      (if (nextL ep S).1.text = sOpen then (if (decide (d < 64)) = true then ((exprL ep nest (nextL ep S).2).1, wantL ep 4 sShut (exprL ep nest (nextL ep S).2).2) else (zEx, failsL 62 (nextL ep S).1.at_ (nextL ep S).2)) else (zEx, failsL 61 (nextL ep S).1.at_ (nextL ep S).2))
     else (zEx, failsL 61 (nextL ep S).1.at_ (nextL ep S).2))
  else (zEx, (nextL ep S).2)) := rfl
  have hF1 : (nextL ep S).1.kind ≠ 1 → Fin3 ep (nextL ep S).2 := next_fin hF
  rw [hg0]
  have hstep : ∀ t S1 W2, LOut (W.alloc exZero) g LL ep d S1 W2 → OnSt g LL ep W W2.heap.size t d ((W2.alloc (tokBox t)).alloc exZero) S1 #[.int .i64 0, .slice none 0 0, .int .i64 0, .int .u64 0, .int .i64 0, .int .u64 0] := fun t S1 W2 h => by
    have hb2 : Below W2.heap.size W2 ((W2.alloc (tokBox t)).alloc exZero) := ((Below.refl W2.heap.size W2).alloc (Nat.le_refl _) _).alloc (by simp) _
    have hs2 := h.chg.size
    rw [show (W.alloc exZero).heap.size = W.heap.size + 1 by simp] at hs2
    exact ⟨(hO1.trans h).below hb2, (hb2.block _ (by omega)).trans (chg_block h.chg hz (by omega)), blk_past _ (new_blk W2 _ _), new_blk' (by simp) _ _, by omega⟩
  have HSTEP := Lib.hid hstep
  clear hstep hg0 hnest hfin hlen hR hF hal hO1 hz
  generalize nextL ep S = P at HN hF1 ⊢
  obtain ⟨t, S1⟩ := P
  have HF1 := Lib.hid hF1; clear hF1
  have hwd : wrap64 d = d := by unfold wrap64; omega
  have hwd1 : wrap64 (d + 1 - 1) = d := by unfold wrap64; omega
  have HW := Lib.hid hwd; have HW1 := Lib.hid hwd1; clear hwd hwd1

  by_cases h0 : S1.err = 0
  · have he : (S1.err != 0) = false := by rw [bne_eq_false_iff_eq]; exact h0
    rw [if_pos h0]
    by_cases hk2 : t.kind = 2
    · have hF2 := HF1.out (show t.kind ≠ 1 by rw [hk2]; decide)
      have HF2 := Lib.hid hF2; clear hF2
      have b2 : (t.kind == 2) = true := by rw [beq_iff_eq]; exact hk2
      have b4 : (t.kind == 4) = false := by rw [beq_eq_false_iff_ne, hk2]; decide
      rw [if_pos hk2]
      by_cases hn : t.text = sNot
      · have bn := lit_yes not_list hn
        rw [if_pos hn]
        by_cases hlt : d < 64
        · have hdl : deepL ep d t S1 = (true, S1) := by unfold deepL; rw [if_pos hlt]
          rw [if_pos (decide_eq_true hlt)]
          have HD := Lib.hid (fun Wx (h : RfS Wx g LL ep d S1) => deeper_ref g LL ep d t S1 Wx h0 hd0 hd h)
          rw [hdl] at HD
          have HNE := Lib.hid (HNEST.out hlt)
          clear hdl hn hk2
          go_enter Tryz.func92, Tryz.ntmps92
          go_wp2_with fail
          refine HN.out.mono ?_
          rintro e W2 ⟨rfl, hO2⟩
          have hS3 := HSTEP.out t S1 W2 hO2
          obtain ⟨q0, q1, q2, q3, qf⟩ := blk4 hS3.hT
          obtain ⟨y0, y1, y2, y3, y4, y5, yf⟩ := blk6 hS3.hX
          have HS3 := Lib.hid hS3
          clear hO2 hS3
          unfold tkVal
          go_wp2_with fail
          refine (field_ref t.text _).mono ?_
          rintro e W4 ⟨rfl, hD4⟩
          have hS4 := HS3.out.below (Drawn0.below hD4)
          clear q0 q1 q2 q3 qf y0 y1 y2 y3 y4 y5 yf
          obtain ⟨q0, q1, q2, q3, qf⟩ := blk4 hS4.hT
          obtain ⟨y0, y1, y2, y3, y4, y5, yf⟩ := blk6 hS4.hX
          obtain ⟨z0, z1, z2, z3, z4, z5, zf⟩ := blk6 hS4.hB
          have hy5 := rfs_err hS4.out.st
          have HS4 := Lib.hid hS4
          have hT1 := hS4.hT1
          clear hD4 hS4 HS3
          go_wp2_with fail
          refine (HD.out W4 HS4.out.out.st).mono ?_
          rintro e W5 ⟨rfl, hO5⟩
          have HS5 := Lib.hid (HS4.out.step hgW hO5)
          clear q0 q1 q2 q3 qf y0 y1 y2 y3 y4 y5 yf z0 z1 z2 z3 z4 z5 zf hy5
          obtain ⟨q0, q1, q2, q3, qf⟩ := blk4 HS5.out.hT
          obtain ⟨y0, y1, y2, y3, y4, y5, yf⟩ := blk6 HS5.out.hX
          obtain ⟨z0, z1, z2, z3, z4, z5, zf⟩ := blk6 HS5.out.hB
          have hy5 := rfs_err HS5.out.out.st
          clear hO5 HS4 HD
          go_wp2_with fail
          refine (HNE.out S1 W5 HF2.out HS5.out.out.st).mono ?_
          rintro e W6 ⟨v6, rfl, hX6, hO6⟩
          obtain ⟨x6, S6, hP6⟩ : ∃ x6 S6, nest S1 = (x6, S6) := ⟨_, _, rfl⟩
          rw [hP6] at hX6 hO6 ⊢
          have HP6 := Lib.hid hP6; clear hP6
          obtain ⟨A6, c6, rfl⟩ := Kd.R_slice hX6
          have hs5 : W2.heap.size + 1 < W5.heap.size := HS5.out.lt
          have hs6 := hO6.chg.size
          have hS7 := (HS5.out.step hgW hO6).alloc (.cells (exCells x6 (.slice A6 x6.f1.length c6)).toArray 37)
          have hrow := ex_one hX6 (Nat.le_refl _) hs6
          clear q0 q1 q2 q3 qf y0 y1 y2 y3 y4 y5 yf z0 z1 z2 z3 z4 z5 zf hy5
          obtain ⟨q0, q1, q2, q3, qf⟩ := blk4 hS7.hT
          obtain ⟨y0, y1, y2, y3, y4, y5, yf⟩ := blk6 hS7.hX
          obtain ⟨z0, z1, z2, z3, z4, z5, zf⟩ := blk6 hS7.hB
          have hy5 := rfs_err hS7.out.st
          have hS8 := hS7.sets6 hgW (.int .i64 3) (.slice (some ⟨W6.heap.size, 0, none⟩) 1 1) (.int .i64 0) (.int .u64 0) (.int .i64 0) (.int .u64 0)
          have hS9 := hS8.deep hgW d
          obtain ⟨dd, df, -⟩ := rfs_deep hS7.out.st
          obtain ⟨ee, ef, -⟩ := rfs_deep hS8.out.st
          obtain ⟨o0, o1, o2, o3, o4, o5, of_⟩ := blk6 hS9.hX
          obtain ⟨l0, l1, l2, l3, l4, l5, lf⟩ := blk6 hS9.hB
          obtain ⟨m0, m1, m2, m3, m4, m5, mf⟩ := blk6 hS8.hX
          obtain ⟨n0, n1, n2, n3, n4, n5, nf⟩ := blk6 hS8.hB
          have HS9 := Lib.hid hS9; have HROW := Lib.hid hrow
          have hT2 := hS9.lt
          clear hX6 hO6 hS7 hS8 hS9 hrow HS5
          have hwd := HW.out; have hwd1 := HW1.out
          unfold exAgg
          go_wp2
          have hcX := ((Chg.refl (fun k => k = W2.heap.size + 1 ∨ k = g) (W6.alloc (.cells (exCells x6 (.slice A6 x6.f1.length c6)).toArray 37))).sets6' (W2.heap.size + 1) (fun k e => .inl e) (.int .i64 3) (.slice (some ⟨W6.heap.size, 0, none⟩) 1 1) (.int .i64 0) (.int .u64 0) (.int .i64 0) (.int .u64 0)).trans (Chg.of_set _ g 4 (.int .i64 d)) (fun k e => .inl (.inr e))
          have hb9 := blk_sets6 HS9.out.hB (.int .i64 3) (.slice (some ⟨W6.heap.size, 0, none⟩) 1 1) (.int .i64 0) (.int .u64 0) (.int .i64 0) (.int .u64 0)
          obtain ⟨r0, r1, r2, r3, r4, r5, rf⟩ := blk6 hb9
          refine bodyPost_ret (v := exAgg ⟨3, [x6], 0, 0, 0, 0⟩ (.slice (some ⟨W6.heap.size, 0, none⟩) 1 1)) (by simp [results, Tryz.results92, go_sem, r0, r1, r2, r3, r4, r5, exAgg, zEx]) rfl ?_
          try rw [HP6.out]
          exact ⟨_, rfl, on_end HS9.out hgW ⟨3, [x6], 0, 0, 0, 0⟩ (some ⟨W6.heap.size, 0, none⟩) 1 W5.heap.size (HROW.out.chg hcX (fun k e => by omega)) (by omega)⟩
        · have hdl : deepL ep d t S1 = (false, failsL 62 t.at_ S1) := by unfold deepL; rw [if_neg hlt]
          rw [if_neg (by simpa using hlt)]
          have HD := Lib.hid (fun Wx (h : RfS Wx g LL ep d S1) => deeper_ref g LL ep d t S1 Wx h0 hd0 hd h)
          rw [hdl] at HD
          clear hdl hn hk2
          go_enter Tryz.func92, Tryz.ntmps92
          go_wp2_with fail
          refine HN.out.mono ?_
          rintro e W2 ⟨rfl, hO2⟩
          have hS3 := HSTEP.out t S1 W2 hO2
          obtain ⟨q0, q1, q2, q3, qf⟩ := blk4 hS3.hT
          obtain ⟨y0, y1, y2, y3, y4, y5, yf⟩ := blk6 hS3.hX
          have HS3 := Lib.hid hS3
          clear hO2 hS3
          unfold tkVal
          go_wp2_with fail
          refine (field_ref t.text _).mono ?_
          rintro e W4 ⟨rfl, hD4⟩
          have hS4 := HS3.out.below (Drawn0.below hD4)
          clear q0 q1 q2 q3 qf y0 y1 y2 y3 y4 y5 yf
          obtain ⟨q0, q1, q2, q3, qf⟩ := blk4 hS4.hT
          obtain ⟨y0, y1, y2, y3, y4, y5, yf⟩ := blk6 hS4.hX
          obtain ⟨z0, z1, z2, z3, z4, z5, zf⟩ := blk6 hS4.hB
          have hy5 := rfs_err hS4.out.st
          have HS4 := Lib.hid hS4
          have hT1 := hS4.hT1
          clear hD4 hS4 HS3
          go_wp2_with fail
          refine (HD.out W4 HS4.out.out.st).mono ?_
          rintro e W5 ⟨rfl, hO5⟩
          have HS5 := Lib.hid (HS4.out.step hgW hO5)
          clear q0 q1 q2 q3 qf y0 y1 y2 y3 y4 y5 yf z0 z1 z2 z3 z4 z5 zf hy5
          obtain ⟨q0, q1, q2, q3, qf⟩ := blk4 HS5.out.hT
          obtain ⟨y0, y1, y2, y3, y4, y5, yf⟩ := blk6 HS5.out.hX
          obtain ⟨z0, z1, z2, z3, z4, z5, zf⟩ := blk6 HS5.out.hB
          have hy5 := rfs_err HS5.out.out.st
          clear hO5 HS4 HD
          have HS6 := Lib.hid (HS5.out.deep hgW d)
          obtain ⟨dd, df, -⟩ := rfs_deep HS5.out.out.st
          obtain ⟨o0, o1, o2, o3, o4, o5, of_⟩ := blk6 HS6.out.hX
          obtain ⟨l0, l1, l2, l3, l4, l5, lf⟩ := blk6 HS6.out.hB
          have hwd := HW.out; have hwd1 := HW1.out
          go_wp2
          have hb9 := blk_sets6 HS6.out.hB (.int .i64 0) (.slice none 0 0) (.int .i64 0) (.int .u64 0) (.int .i64 0) (.int .u64 0)
          obtain ⟨r0, r1, r2, r3, r4, r5, rf⟩ := blk6 hb9
          refine bodyPost_ret (v := exAgg zEx (.slice none 0 0)) (by simp [results, Tryz.results92, go_sem, r0, r1, r2, r3, r4, r5, exAgg, zEx]) rfl ?_
          exact ⟨_, rfl, on_end HS6.out hgW zEx none 0 (W.heap.size + 1) (Kd.R_nil _ _ _ _ _) (by omega)⟩
      · have bn := lit_no not_list hn
        rw [if_neg hn]
        have hat : atomL ep t S1 = (if t.text = sTrue then (⟨1, [], 0, 0, 0, 0⟩, S1) else if t.text = sFalse then (⟨2, [], 0, 0, 0, 0⟩, S1) else if 0 ≤ fieldT t.text then testL ep (fieldT t.text) S1 else (zEx, failsL 61 t.at_ S1)) := by unfold atomL; rw [if_pos hk2]
        rw [hat]
        clear hat
        by_cases ht : t.text = sTrue
        · have bt1 := lit_yes true_list ht
          rw [if_pos ht]
          clear hn hk2 h0 ht
          go_enter Tryz.func92, Tryz.ntmps92
          go_wp2_with fail
          refine HN.out.mono ?_
          rintro e W2 ⟨rfl, hO2⟩
          have hS3 := HSTEP.out t S1 W2 hO2
          obtain ⟨q0, q1, q2, q3, qf⟩ := blk4 hS3.hT
          obtain ⟨y0, y1, y2, y3, y4, y5, yf⟩ := blk6 hS3.hX
          have HS3 := Lib.hid hS3
          clear hO2 hS3
          unfold tkVal
          go_wp2_with fail
          refine (field_ref t.text _).mono ?_
          rintro e W4 ⟨rfl, hD4⟩
          have hS4 := HS3.out.below (Drawn0.below hD4)
          clear q0 q1 q2 q3 qf y0 y1 y2 y3 y4 y5 yf
          obtain ⟨q0, q1, q2, q3, qf⟩ := blk4 hS4.hT
          obtain ⟨y0, y1, y2, y3, y4, y5, yf⟩ := blk6 hS4.hX
          obtain ⟨z0, z1, z2, z3, z4, z5, zf⟩ := blk6 hS4.hB
          have hy5 := rfs_err hS4.out.st
          have HS4 := Lib.hid hS4
          have hT1 := hS4.hT1
          clear hD4 hS4 HS3
          have HS6 := Lib.hid (HS4.out.set0 hgW (.int .i64 1))
          obtain ⟨o0, o1, o2, o3, o4, o5, of_⟩ := blk6 HS6.out.hX
          obtain ⟨l0, l1, l2, l3, l4, l5, lf⟩ := blk6 HS6.out.hB
          go_wp2
          have hb9 := blk_sets6 HS6.out.hB (.int .i64 1) (.slice none 0 0) (.int .i64 0) (.int .u64 0) (.int .i64 0) (.int .u64 0)
          obtain ⟨r0, r1, r2, r3, r4, r5, rf⟩ := blk6 hb9
          refine bodyPost_ret (v := exAgg ⟨1, [], 0, 0, 0, 0⟩ (.slice none 0 0)) (by simp [results, Tryz.results92, go_sem, r0, r1, r2, r3, r4, r5, exAgg, zEx]) rfl ?_
          exact ⟨_, rfl, on_end HS6.out hgW ⟨1, [], 0, 0, 0, 0⟩ none 0 (W.heap.size + 1) (Kd.R_nil _ _ _ _ _) (by omega)⟩
        have bt1 := lit_no true_list ht
        rw [if_neg ht]
        by_cases hf : t.text = sFalse
        · have bt2 := lit_yes false_list hf
          rw [if_pos hf]
          clear hn hk2 h0 hf
          go_enter Tryz.func92, Tryz.ntmps92
          go_wp2_with fail
          refine HN.out.mono ?_
          rintro e W2 ⟨rfl, hO2⟩
          have hS3 := HSTEP.out t S1 W2 hO2
          obtain ⟨q0, q1, q2, q3, qf⟩ := blk4 hS3.hT
          obtain ⟨y0, y1, y2, y3, y4, y5, yf⟩ := blk6 hS3.hX
          have HS3 := Lib.hid hS3
          clear hO2 hS3
          unfold tkVal
          go_wp2_with fail
          refine (field_ref t.text _).mono ?_
          rintro e W4 ⟨rfl, hD4⟩
          have hS4 := HS3.out.below (Drawn0.below hD4)
          clear q0 q1 q2 q3 qf y0 y1 y2 y3 y4 y5 yf
          obtain ⟨q0, q1, q2, q3, qf⟩ := blk4 hS4.hT
          obtain ⟨y0, y1, y2, y3, y4, y5, yf⟩ := blk6 hS4.hX
          obtain ⟨z0, z1, z2, z3, z4, z5, zf⟩ := blk6 hS4.hB
          have hy5 := rfs_err hS4.out.st
          have HS4 := Lib.hid hS4
          have hT1 := hS4.hT1
          clear hD4 hS4 HS3
          have HS6 := Lib.hid (HS4.out.set0 hgW (.int .i64 2))
          obtain ⟨o0, o1, o2, o3, o4, o5, of_⟩ := blk6 HS6.out.hX
          obtain ⟨l0, l1, l2, l3, l4, l5, lf⟩ := blk6 HS6.out.hB
          go_wp2
          have hb9 := blk_sets6 HS6.out.hB (.int .i64 2) (.slice none 0 0) (.int .i64 0) (.int .u64 0) (.int .i64 0) (.int .u64 0)
          obtain ⟨r0, r1, r2, r3, r4, r5, rf⟩ := blk6 hb9
          refine bodyPost_ret (v := exAgg ⟨2, [], 0, 0, 0, 0⟩ (.slice none 0 0)) (by simp [results, Tryz.results92, go_sem, r0, r1, r2, r3, r4, r5, exAgg, zEx]) rfl ?_
          exact ⟨_, rfl, on_end HS6.out hgW ⟨2, [], 0, 0, 0, 0⟩ none 0 (W.heap.size + 1) (Kd.R_nil _ _ _ _ _) (by omega)⟩
        have bt2 := lit_no false_list hf
        rw [if_neg hf]
        by_cases hfl : 0 ≤ fieldT t.text
        · have bf : decide (0 ≤ fieldT t.text) = true := decide_eq_true hfl
          rw [if_pos hfl]
          clear hn hk2 h0 ht hf
          go_enter Tryz.func92, Tryz.ntmps92
          go_wp2_with fail
          refine HN.out.mono ?_
          rintro e W2 ⟨rfl, hO2⟩
          have hS3 := HSTEP.out t S1 W2 hO2
          obtain ⟨q0, q1, q2, q3, qf⟩ := blk4 hS3.hT
          obtain ⟨y0, y1, y2, y3, y4, y5, yf⟩ := blk6 hS3.hX
          have HS3 := Lib.hid hS3
          clear hO2 hS3
          unfold tkVal
          go_wp2_with fail
          refine (field_ref t.text _).mono ?_
          rintro e W4 ⟨rfl, hD4⟩
          have hS4 := HS3.out.below (Drawn0.below hD4)
          clear q0 q1 q2 q3 qf y0 y1 y2 y3 y4 y5 yf
          obtain ⟨q0, q1, q2, q3, qf⟩ := blk4 hS4.hT
          obtain ⟨y0, y1, y2, y3, y4, y5, yf⟩ := blk6 hS4.hX
          obtain ⟨z0, z1, z2, z3, z4, z5, zf⟩ := blk6 hS4.hB
          have hy5 := rfs_err hS4.out.st
          have HS4 := Lib.hid hS4
          have hT1 := hS4.hT1
          clear hD4 hS4 HS3
          go_wp2_with fail
          refine (test_ref g LL ep d (fieldT t.text) S1 W4 HF2.out HS4.out.out.st).mono ?_
          rintro e W6 ⟨v6, rfl, hX6, hO6⟩
          obtain ⟨x6, S6, hP6⟩ : ∃ x6 S6, testL ep (fieldT t.text) S1 = (x6, S6) := ⟨_, _, rfl⟩
          rw [hP6] at hX6 hO6 ⊢
          have HP6 := Lib.hid hP6; clear hP6
          obtain ⟨A6, c6, rfl⟩ := Kd.R_slice hX6
          have hs4 : W2.heap.size + 1 < W4.heap.size := HS4.out.lt
          have hS6 := HS4.out.step hgW hO6
          clear q0 q1 q2 q3 qf y0 y1 y2 y3 y4 y5 yf z0 z1 z2 z3 z4 z5 zf hy5
          obtain ⟨q0, q1, q2, q3, qf⟩ := blk4 hS6.hT
          obtain ⟨y0, y1, y2, y3, y4, y5, yf⟩ := blk6 hS6.hX
          obtain ⟨z0, z1, z2, z3, z4, z5, zf⟩ := blk6 hS6.hB
          have hy5 := rfs_err hS6.out.st
          have hS7 := hS6.sets6 hgW (.int .i64 x6.f0) (.slice A6 x6.f1.length c6) (.int .i64 x6.f2) (.int .u64 x6.f3) (.int .i64 x6.f4) (.int .u64 x6.f5)
          obtain ⟨o0, o1, o2, o3, o4, o5, of_⟩ := blk6 hS7.hX
          obtain ⟨l0, l1, l2, l3, l4, l5, lf⟩ := blk6 hS7.hB
          have HS7 := Lib.hid hS7; have HX6 := Lib.hid hX6
          clear hX6 hO6 hS6 hS7 HS4
          unfold exAgg
          go_wp2
          have hcX := (Chg.refl (fun k => k = W2.heap.size + 1) W6).sets6' (W2.heap.size + 1) (fun k e => e) (.int .i64 x6.f0) (.slice A6 x6.f1.length c6) (.int .i64 x6.f2) (.int .u64 x6.f3) (.int .i64 x6.f4) (.int .u64 x6.f5)
          have hb9 := blk_sets6 HS7.out.hB (.int .i64 x6.f0) (.slice A6 x6.f1.length c6) (.int .i64 x6.f2) (.int .u64 x6.f3) (.int .i64 x6.f4) (.int .u64 x6.f5)
          obtain ⟨r0, r1, r2, r3, r4, r5, rf⟩ := blk6 hb9
          refine bodyPost_ret (v := exAgg x6 (.slice A6 x6.f1.length c6)) (by simp [results, Tryz.results92, go_sem, r0, r1, r2, r3, r4, r5, exAgg, zEx]) rfl ?_
          try rw [HP6.out]
          exact ⟨_, rfl, on_end HS7.out hgW x6 A6 c6 W4.heap.size (HX6.out.chg hcX (fun k e => by omega)) (by omega)⟩
        · have bf : decide (0 ≤ fieldT t.text) = false := decide_eq_false hfl
          have hfl2 : fieldT t.text < 0 := by omega
          rw [if_neg hfl]
          clear hn hk2 h0 ht hf hfl
          go_enter Tryz.func92, Tryz.ntmps92
          go_wp2_with fail
          refine HN.out.mono ?_
          rintro e W2 ⟨rfl, hO2⟩
          have hS3 := HSTEP.out t S1 W2 hO2
          obtain ⟨q0, q1, q2, q3, qf⟩ := blk4 hS3.hT
          obtain ⟨y0, y1, y2, y3, y4, y5, yf⟩ := blk6 hS3.hX
          have HS3 := Lib.hid hS3
          clear hO2 hS3
          unfold tkVal
          go_wp2_with fail
          refine (field_ref t.text _).mono ?_
          rintro e W4 ⟨rfl, hD4⟩
          have hS4 := HS3.out.below (Drawn0.below hD4)
          clear q0 q1 q2 q3 qf y0 y1 y2 y3 y4 y5 yf
          obtain ⟨q0, q1, q2, q3, qf⟩ := blk4 hS4.hT
          obtain ⟨y0, y1, y2, y3, y4, y5, yf⟩ := blk6 hS4.hX
          obtain ⟨z0, z1, z2, z3, z4, z5, zf⟩ := blk6 hS4.hB
          have hy5 := rfs_err hS4.out.st
          have HS4 := Lib.hid hS4
          have hT1 := hS4.hT1
          clear hD4 hS4 HS3
          go_wp2_with fail
          refine (fails_any g LL ep d S1 61 t.at_ W4 HS4.out.out.st).mono ?_
          rintro e W6 ⟨rfl, hO6⟩
          have HS6 := Lib.hid (HS4.out.step hgW hO6)
          clear q0 q1 q2 q3 qf y0 y1 y2 y3 y4 y5 yf z0 z1 z2 z3 z4 z5 zf hy5
          obtain ⟨q0, q1, q2, q3, qf⟩ := blk4 HS6.out.hT
          obtain ⟨y0, y1, y2, y3, y4, y5, yf⟩ := blk6 HS6.out.hX
          obtain ⟨z0, z1, z2, z3, z4, z5, zf⟩ := blk6 HS6.out.hB
          have hy5 := rfs_err HS6.out.out.st
          clear hO6
          go_wp2
          have hb9 := blk_sets6 HS6.out.hB (.int .i64 0) (.slice none 0 0) (.int .i64 0) (.int .u64 0) (.int .i64 0) (.int .u64 0)
          obtain ⟨r0, r1, r2, r3, r4, r5, rf⟩ := blk6 hb9
          refine bodyPost_ret (v := exAgg zEx (.slice none 0 0)) (by simp [results, Tryz.results92, go_sem, r0, r1, r2, r3, r4, r5, exAgg, zEx]) rfl ?_
          exact ⟨_, rfl, on_end HS6.out hgW zEx none 0 (W.heap.size + 1) (Kd.R_nil _ _ _ _ _) (by omega)⟩
    · have b2 : (t.kind == 2) = false := by rw [beq_eq_false_iff_ne]; exact hk2
      rw [if_neg hk2]
      by_cases hk4 : t.kind = 4
      · have hF2 := HF1.out (show t.kind ≠ 1 by rw [hk4]; decide)
        have HF2 := Lib.hid hF2; clear hF2
        have b4 : (t.kind == 4) = true := by rw [beq_iff_eq]; exact hk4
        rw [if_pos hk4]
        by_cases hn : t.text = sOpen
        · have bn := lit_yes open_list hn
          rw [if_pos hn]
          by_cases hlt : d < 64
          · have hdl : deepL ep d t S1 = (true, S1) := by unfold deepL; rw [if_pos hlt]
            rw [if_pos (decide_eq_true hlt)]
            have HD := Lib.hid (fun Wx (h : RfS Wx g LL ep d S1) => deeper_ref g LL ep d t S1 Wx h0 hd0 hd h)
            rw [hdl] at HD
            have HNE := Lib.hid (HNEST.out hlt)
            clear hdl hn hk2 hk4
            go_enter Tryz.func92, Tryz.ntmps92
            go_wp2_with fail
            refine HN.out.mono ?_
            rintro e W2 ⟨rfl, hO2⟩
            have hS3 := HSTEP.out t S1 W2 hO2
            obtain ⟨q0, q1, q2, q3, qf⟩ := blk4 hS3.hT
            obtain ⟨y0, y1, y2, y3, y4, y5, yf⟩ := blk6 hS3.hX
            have HS3 := Lib.hid hS3
            clear hO2 hS3
            unfold tkVal
            go_wp2_with fail
            refine (field_ref t.text _).mono ?_
            rintro e W4 ⟨rfl, hD4⟩
            have hS4 := HS3.out.below (Drawn0.below hD4)
            clear q0 q1 q2 q3 qf y0 y1 y2 y3 y4 y5 yf
            obtain ⟨q0, q1, q2, q3, qf⟩ := blk4 hS4.hT
            obtain ⟨y0, y1, y2, y3, y4, y5, yf⟩ := blk6 hS4.hX
            obtain ⟨z0, z1, z2, z3, z4, z5, zf⟩ := blk6 hS4.hB
            have hy5 := rfs_err hS4.out.st
            have HS4 := Lib.hid hS4
            have hT1 := hS4.hT1
            clear hD4 hS4 HS3
            go_wp2_with fail
            refine (HD.out W4 HS4.out.out.st).mono ?_
            rintro e W5 ⟨rfl, hO5⟩
            have HS5 := Lib.hid (HS4.out.step hgW hO5)
            clear q0 q1 q2 q3 qf y0 y1 y2 y3 y4 y5 yf z0 z1 z2 z3 z4 z5 zf hy5
            obtain ⟨q0, q1, q2, q3, qf⟩ := blk4 HS5.out.hT
            obtain ⟨y0, y1, y2, y3, y4, y5, yf⟩ := blk6 HS5.out.hX
            obtain ⟨z0, z1, z2, z3, z4, z5, zf⟩ := blk6 HS5.out.hB
            have hy5 := rfs_err HS5.out.out.st
            clear hO5 HS4 HD
            go_wp2_with fail
            refine (Expr_ref g LL ep (d + 1) (allL ep nest) S1 W5 HF2.out HS5.out.out.st (fun _ h => all_fin HFIN.out h) (fun _ => all_len ep HLEN.out _) (fun S2 W3 h1 h2 => all_ref g LL ep (d + 1) nest S2 W3 h1 h2 HFIN.out HLEN.out HNE.out)).mono ?_
            rintro e W6 ⟨v6, rfl, hX6, hO6⟩
            have hFE : Fin3 ep (exprL ep nest S1).2 := expr_fin HFIN.out HF2.out
            rw [← exprAL_is] at hX6 hO6 ⊢
            obtain ⟨x6, S6, hP6⟩ : ∃ x6 S6, exprL ep nest S1 = (x6, S6) := ⟨_, _, rfl⟩
            rw [hP6] at hX6 hO6 hFE ⊢
            have HP6 := Lib.hid hP6; clear hP6
            obtain ⟨A6, c6, rfl⟩ := Kd.R_slice hX6
            have hs5 : W2.heap.size + 1 < W5.heap.size := HS5.out.lt
            have hs6 := hO6.chg.size
            have hS6 := HS5.out.step hgW hO6
            clear q0 q1 q2 q3 qf y0 y1 y2 y3 y4 y5 yf z0 z1 z2 z3 z4 z5 zf hy5
            obtain ⟨q0, q1, q2, q3, qf⟩ := blk4 hS6.hT
            obtain ⟨y0, y1, y2, y3, y4, y5, yf⟩ := blk6 hS6.hX
            obtain ⟨z0, z1, z2, z3, z4, z5, zf⟩ := blk6 hS6.hB
            have hy5 := rfs_err hS6.out.st
            have hS7 := hS6.sets6 hgW (.int .i64 x6.f0) (.slice A6 x6.f1.length c6) (.int .i64 x6.f2) (.int .u64 x6.f3) (.int .i64 x6.f4) (.int .u64 x6.f5)
            have HS7 := Lib.hid hS7; have HX6 := Lib.hid hX6; have HFE := Lib.hid hFE
            clear hX6 hO6 hFE hS6 hS7 HS5
            unfold exAgg
            go_wp2_with fail
            refine (want_ref g LL ep (d + 1) 4 sShut S6 _ HFE.out HS7.out.out.st).mono ?_
            rintro e W8 ⟨rfl, hO8⟩
            have hS8 := HS7.out.step hgW hO8
            have hS9 := hS8.deep hgW d
            have HC8 := Lib.hid hO8.chg
            clear q0 q1 q2 q3 qf y0 y1 y2 y3 y4 y5 yf z0 z1 z2 z3 z4 z5 zf hy5
            obtain ⟨q0, q1, q2, q3, qf⟩ := blk4 hS8.hT
            obtain ⟨y0, y1, y2, y3, y4, y5, yf⟩ := blk6 hS8.hX
            obtain ⟨z0, z1, z2, z3, z4, z5, zf⟩ := blk6 hS8.hB
            have hy5 := rfs_err hS8.out.st
            obtain ⟨dd, df, -⟩ := rfs_deep hS8.out.st
            obtain ⟨o0, o1, o2, o3, o4, o5, of_⟩ := blk6 hS9.hX
            obtain ⟨l0, l1, l2, l3, l4, l5, lf⟩ := blk6 hS9.hB
            have HS9 := Lib.hid hS9
            clear hO8 hS8 hS9 HS7
            have hwd := HW.out; have hwd1 := HW1.out
            go_wp2
            have hcX := (Chg.refl (fun k => k = W2.heap.size + 1) W6).sets6' (W2.heap.size + 1) (fun k e => e) (.int .i64 x6.f0) (.slice A6 x6.f1.length c6) (.int .i64 x6.f2) (.int .u64 x6.f3) (.int .i64 x6.f4) (.int .u64 x6.f5)
            have hcD := Chg.of_set W8 g 4 (.int .i64 d)
            have hb9 := blk_sets6 HS9.out.hB (.int .i64 x6.f0) (.slice A6 x6.f1.length c6) (.int .i64 x6.f2) (.int .u64 x6.f3) (.int .i64 x6.f4) (.int .u64 x6.f5)
            obtain ⟨r0, r1, r2, r3, r4, r5, rf⟩ := blk6 hb9
            refine bodyPost_ret (v := exAgg x6 (.slice A6 x6.f1.length c6)) (by simp [results, Tryz.results92, go_sem, r0, r1, r2, r3, r4, r5, exAgg, zEx]) rfl ?_
            try rw [HP6.out]
            exact ⟨_, rfl, on_end HS9.out hgW x6 A6 c6 W5.heap.size (((HX6.out.chg hcX (fun k e => by omega)).chg HC8.out (fun k e => by omega)).chg hcD (fun k e => by omega)) (by omega)⟩
          · have hdl : deepL ep d t S1 = (false, failsL 62 t.at_ S1) := by unfold deepL; rw [if_neg hlt]
            rw [if_neg (by simpa using hlt)]
            have HD := Lib.hid (fun Wx (h : RfS Wx g LL ep d S1) => deeper_ref g LL ep d t S1 Wx h0 hd0 hd h)
            rw [hdl] at HD
            clear hdl hn hk2 hk4
            go_enter Tryz.func92, Tryz.ntmps92
            go_wp2_with fail
            refine HN.out.mono ?_
            rintro e W2 ⟨rfl, hO2⟩
            have hS3 := HSTEP.out t S1 W2 hO2
            obtain ⟨q0, q1, q2, q3, qf⟩ := blk4 hS3.hT
            obtain ⟨y0, y1, y2, y3, y4, y5, yf⟩ := blk6 hS3.hX
            have HS3 := Lib.hid hS3
            clear hO2 hS3
            unfold tkVal
            go_wp2_with fail
            refine (field_ref t.text _).mono ?_
            rintro e W4 ⟨rfl, hD4⟩
            have hS4 := HS3.out.below (Drawn0.below hD4)
            clear q0 q1 q2 q3 qf y0 y1 y2 y3 y4 y5 yf
            obtain ⟨q0, q1, q2, q3, qf⟩ := blk4 hS4.hT
            obtain ⟨y0, y1, y2, y3, y4, y5, yf⟩ := blk6 hS4.hX
            obtain ⟨z0, z1, z2, z3, z4, z5, zf⟩ := blk6 hS4.hB
            have hy5 := rfs_err hS4.out.st
            have HS4 := Lib.hid hS4
            have hT1 := hS4.hT1
            clear hD4 hS4 HS3
            go_wp2_with fail
            refine (HD.out W4 HS4.out.out.st).mono ?_
            rintro e W5 ⟨rfl, hO5⟩
            have HS5 := Lib.hid (HS4.out.step hgW hO5)
            clear q0 q1 q2 q3 qf y0 y1 y2 y3 y4 y5 yf z0 z1 z2 z3 z4 z5 zf hy5
            obtain ⟨q0, q1, q2, q3, qf⟩ := blk4 HS5.out.hT
            obtain ⟨y0, y1, y2, y3, y4, y5, yf⟩ := blk6 HS5.out.hX
            obtain ⟨z0, z1, z2, z3, z4, z5, zf⟩ := blk6 HS5.out.hB
            have hy5 := rfs_err HS5.out.out.st
            clear hO5 HS4 HD
            have HS6 := Lib.hid (HS5.out.deep hgW d)
            obtain ⟨dd, df, -⟩ := rfs_deep HS5.out.out.st
            obtain ⟨o0, o1, o2, o3, o4, o5, of_⟩ := blk6 HS6.out.hX
            obtain ⟨l0, l1, l2, l3, l4, l5, lf⟩ := blk6 HS6.out.hB
            have hwd := HW.out; have hwd1 := HW1.out
            go_wp2
            have hb9 := blk_sets6 HS6.out.hB (.int .i64 0) (.slice none 0 0) (.int .i64 0) (.int .u64 0) (.int .i64 0) (.int .u64 0)
            obtain ⟨r0, r1, r2, r3, r4, r5, rf⟩ := blk6 hb9
            refine bodyPost_ret (v := exAgg zEx (.slice none 0 0)) (by simp [results, Tryz.results92, go_sem, r0, r1, r2, r3, r4, r5, exAgg, zEx]) rfl ?_
            exact ⟨_, rfl, on_end HS6.out hgW zEx none 0 (W.heap.size + 1) (Kd.R_nil _ _ _ _ _) (by omega)⟩
        · have bn := lit_no open_list hn
          rw [if_neg hn]
          clear hn hk2 hk4 h0
          go_enter Tryz.func92, Tryz.ntmps92
          go_wp2_with fail
          refine HN.out.mono ?_
          rintro e W2 ⟨rfl, hO2⟩
          have hS3 := HSTEP.out t S1 W2 hO2
          obtain ⟨q0, q1, q2, q3, qf⟩ := blk4 hS3.hT
          obtain ⟨y0, y1, y2, y3, y4, y5, yf⟩ := blk6 hS3.hX
          have HS3 := Lib.hid hS3
          clear hO2 hS3
          unfold tkVal
          go_wp2_with fail
          refine (field_ref t.text _).mono ?_
          rintro e W4 ⟨rfl, hD4⟩
          have hS4 := HS3.out.below (Drawn0.below hD4)
          clear q0 q1 q2 q3 qf y0 y1 y2 y3 y4 y5 yf
          obtain ⟨q0, q1, q2, q3, qf⟩ := blk4 hS4.hT
          obtain ⟨y0, y1, y2, y3, y4, y5, yf⟩ := blk6 hS4.hX
          obtain ⟨z0, z1, z2, z3, z4, z5, zf⟩ := blk6 hS4.hB
          have hy5 := rfs_err hS4.out.st
          have HS4 := Lib.hid hS4
          have hT1 := hS4.hT1
          clear hD4 hS4 HS3
          go_wp2_with fail
          refine (fails_any g LL ep d S1 61 t.at_ W4 HS4.out.out.st).mono ?_
          rintro e W6 ⟨rfl, hO6⟩
          have HS6 := Lib.hid (HS4.out.step hgW hO6)
          clear q0 q1 q2 q3 qf y0 y1 y2 y3 y4 y5 yf z0 z1 z2 z3 z4 z5 zf hy5
          obtain ⟨q0, q1, q2, q3, qf⟩ := blk4 HS6.out.hT
          obtain ⟨y0, y1, y2, y3, y4, y5, yf⟩ := blk6 HS6.out.hX
          obtain ⟨z0, z1, z2, z3, z4, z5, zf⟩ := blk6 HS6.out.hB
          have hy5 := rfs_err HS6.out.out.st
          clear hO6
          go_wp2
          have hb9 := blk_sets6 HS6.out.hB (.int .i64 0) (.slice none 0 0) (.int .i64 0) (.int .u64 0) (.int .i64 0) (.int .u64 0)
          obtain ⟨r0, r1, r2, r3, r4, r5, rf⟩ := blk6 hb9
          refine bodyPost_ret (v := exAgg zEx (.slice none 0 0)) (by simp [results, Tryz.results92, go_sem, r0, r1, r2, r3, r4, r5, exAgg, zEx]) rfl ?_
          exact ⟨_, rfl, on_end HS6.out hgW zEx none 0 (W.heap.size + 1) (Kd.R_nil _ _ _ _ _) (by omega)⟩
      · have b4 : (t.kind == 4) = false := by rw [beq_eq_false_iff_ne]; exact hk4
        rw [if_neg hk4]
        clear hk2 hk4 h0
        go_enter Tryz.func92, Tryz.ntmps92
        go_wp2_with fail
        refine HN.out.mono ?_
        rintro e W2 ⟨rfl, hO2⟩
        have hS3 := HSTEP.out t S1 W2 hO2
        obtain ⟨q0, q1, q2, q3, qf⟩ := blk4 hS3.hT
        obtain ⟨y0, y1, y2, y3, y4, y5, yf⟩ := blk6 hS3.hX
        have HS3 := Lib.hid hS3
        clear hO2 hS3
        unfold tkVal
        go_wp2_with fail
        refine (field_ref t.text _).mono ?_
        rintro e W4 ⟨rfl, hD4⟩
        have hS4 := HS3.out.below (Drawn0.below hD4)
        clear q0 q1 q2 q3 qf y0 y1 y2 y3 y4 y5 yf
        obtain ⟨q0, q1, q2, q3, qf⟩ := blk4 hS4.hT
        obtain ⟨y0, y1, y2, y3, y4, y5, yf⟩ := blk6 hS4.hX
        obtain ⟨z0, z1, z2, z3, z4, z5, zf⟩ := blk6 hS4.hB
        have hy5 := rfs_err hS4.out.st
        have HS4 := Lib.hid hS4
        have hT1 := hS4.hT1
        clear hD4 hS4 HS3
        go_wp2_with fail
        refine (fails_any g LL ep d S1 61 t.at_ W4 HS4.out.out.st).mono ?_
        rintro e W6 ⟨rfl, hO6⟩
        have HS6 := Lib.hid (HS4.out.step hgW hO6)
        clear q0 q1 q2 q3 qf y0 y1 y2 y3 y4 y5 yf z0 z1 z2 z3 z4 z5 zf hy5
        obtain ⟨q0, q1, q2, q3, qf⟩ := blk4 HS6.out.hT
        obtain ⟨y0, y1, y2, y3, y4, y5, yf⟩ := blk6 HS6.out.hX
        obtain ⟨z0, z1, z2, z3, z4, z5, zf⟩ := blk6 HS6.out.hB
        have hy5 := rfs_err HS6.out.out.st
        clear hO6
        go_wp2
        have hb9 := blk_sets6 HS6.out.hB (.int .i64 0) (.slice none 0 0) (.int .i64 0) (.int .u64 0) (.int .i64 0) (.int .u64 0)
        obtain ⟨r0, r1, r2, r3, r4, r5, rf⟩ := blk6 hb9
        refine bodyPost_ret (v := exAgg zEx (.slice none 0 0)) (by simp [results, Tryz.results92, go_sem, r0, r1, r2, r3, r4, r5, exAgg, zEx]) rfl ?_
        exact ⟨_, rfl, on_end HS6.out hgW zEx none 0 (W.heap.size + 1) (Kd.R_nil _ _ _ _ _) (by omega)⟩
  · have he : (S1.err != 0) = true := by rw [bne_iff_ne]; exact h0
    rw [if_neg h0]
    clear h0
    go_enter Tryz.func92, Tryz.ntmps92
    go_wp2_with fail
    refine HN.out.mono ?_
    rintro e W2 ⟨rfl, hO2⟩
    have hS3 := HSTEP.out t S1 W2 hO2
    obtain ⟨q0, q1, q2, q3, qf⟩ := blk4 hS3.hT
    obtain ⟨y0, y1, y2, y3, y4, y5, yf⟩ := blk6 hS3.hX
    have HS3 := Lib.hid hS3
    clear hO2 hS3
    unfold tkVal
    go_wp2_with fail
    refine (field_ref t.text _).mono ?_
    rintro e W4 ⟨rfl, hD4⟩
    have hS4 := HS3.out.below (Drawn0.below hD4)
    clear q0 q1 q2 q3 qf y0 y1 y2 y3 y4 y5 yf
    obtain ⟨q0, q1, q2, q3, qf⟩ := blk4 hS4.hT
    obtain ⟨y0, y1, y2, y3, y4, y5, yf⟩ := blk6 hS4.hX
    obtain ⟨z0, z1, z2, z3, z4, z5, zf⟩ := blk6 hS4.hB
    have hy5 := rfs_err hS4.out.st
    have HS4 := Lib.hid hS4
    have hT1 := hS4.hT1
    clear hD4 hS4 HS3
    go_wp2
    have hb9 := blk_sets6 HS4.out.hB (.int .i64 0) (.slice none 0 0) (.int .i64 0) (.int .u64 0) (.int .i64 0) (.int .u64 0)
    obtain ⟨r0, r1, r2, r3, r4, r5, rf⟩ := blk6 hb9
    refine bodyPost_ret (v := exAgg zEx (.slice none 0 0)) (by simp [results, Tryz.results92, go_sem, r0, r1, r2, r3, r4, r5, exAgg, zEx]) rfl ?_
    exact ⟨_, rfl, on_end HS4.out hgW zEx none 0 (W.heap.size + 1) (Kd.R_nil _ _ _ _ _) (by omega)⟩
end Go.Proofs.YtlmopoipjolbgaaGreatDoor.LexW
namespace Go.Proofs.YtlmopoipjolbgaaGreatDoor.LexW
open Go.RowKit Go.Shelf Go.Proofs.YtlmopoipjolbgaaGreatDoor.LexS Go.Proofs.YtlmopoipjolbgaaGreatDoorW.PrintWords
set_option linter.unusedVariables false
set_option linter.unusedSimpArgs false

theorem one_ref (g : Nat) (LL : List Tk) (ep : EP) : ∀ (k : Nat), k ≤ 64 → ∀ (S : RS) (W : World), Fin3 ep S → RfS W g LL ep (64 - (k : Int)) S →
    Calls Tryz.prog 92 #[.pointer (some ⟨g, 0, none⟩)] W (ExL W g LL ep (64 - (k : Int)) (oneL ep k S)) := by
  intro k
  induction k with
  | zero =>
    intro _ S W hF hR
    have h := one_of g LL ep 64 (by decide) (by decide) (fun S => (zEx, S)) S W hF hR (fun _ h => h) (fun _ => Nat.le_refl _) (fun h => absurd h (by decide))
    rw [show decide ((64 : Int) < 64) = false by decide, ← oneG_zero] at h
    exact h
  | succ k ih =>
    intro hk S W hF hR
    have h := one_of g LL ep (64 - ((k + 1 : Nat) : Int)) (by omega) (by omega) (oneL ep k) S W hF hR (one_fin k) (one_len ep k) (fun _ S1 W1 h1 h2 => by
      have e : (64 - ((k + 1 : Nat) : Int) + 1) = 64 - (k : Int) := by omega
      rw [e] at h2 ⊢
      exact ih (by omega) S1 W1 h1 h2)
    rw [show decide ((64 - ((k + 1 : Nat) : Int)) < 64) = true by rw [decide_eq_true_eq]; omega, ← oneG_succ] at h
    exact h
theorem expr_ref (g : Nat) (LL : List Tk) (ep : EP) (S : RS) (W : World) (hF : Fin3 ep S) (hR : RfS W g LL ep 0 S) :
    Calls Tryz.prog 35 #[.pointer (some ⟨g, 0, none⟩)] W (ExL W g LL ep 0 (exprL ep (oneL ep 64) S)) := by
  rw [exprAL_is]
  exact Expr_ref g LL ep 0 (allL ep (oneL ep 64)) S W hF hR (fun _ h => all_fin (one_fin 64) h) (fun _ => all_len ep (one_len ep 64) _)
    (fun S2 W3 h1 h2 => all_ref g LL ep 0 (oneL ep 64) S2 W3 h1 h2 (one_fin 64) (one_len ep 64) (fun S4 W5 h3 h4 => one_ref g LL ep 64 (Nat.le_refl _) S4 W5 h3 h4))

set_option maxRecDepth 100000 in
set_option maxHeartbeats 1000000 in
theorem reader_ref (s : ByteArray) (W : World) (hlen : (toks s).1.length ≤ 65537) :
    Calls Tryz.prog 25 #[.string s] W fun e W' => ∃ g, e = .returned (.pointer (some ⟨g, 0, none⟩)) ∧ W.heap.size ≤ g ∧ RfS W' g (toks s).1 (toks s).2 0 ⟨(toks s).1, 0, 0⟩ ∧ Below W.heap.size W W' := by
  have HC := Lib.hid (rtokens_any s W)
  generalize toks s = P at *
  obtain ⟨L, ep⟩ := P
  go_enter Tryz.func25, Tryz.ntmps25
  go_wp2_with fail
  refine HC.out.mono ?_
  rintro e W2 ⟨⟨v, rfl, hO⟩, hb2⟩
  obtain ⟨A, c, rfl⟩ := Kd.R_slice hO
  have hal := (Below.refl W2.heap.size W2).alloc (Nat.le_refl _) (.cells #[.slice A L.length c, .int .i64 ep.1, .int .i64 ep.2, .int .i64 0, .int .i64 0, .int .i64 0, .int .i64 0] 64)
  have hT : RfT W2 W2.heap.size L A c := Kd.R_lower (Kd.R_mono (Kd.R_bound hO) (fun k hk => hk.2.2.1)) (Nat.zero_le _)
  have hT2 := hT.chg (Chg.of_below hal (fun _ => False)) (fun k e => e.elim)
  have hR : RfS (W2.alloc (.cells #[.slice A L.length c, .int .i64 ep.1, .int .i64 ep.2, .int .i64 0, .int .i64 0, .int .i64 0, .int .i64 0] 64)) W2.heap.size L ep 0 ⟨L, 0, 0⟩ := ⟨A, c, 0, new_blk W2 _ _, hT2, rfl, Nat.zero_le _, hlen⟩
  have HR := Lib.hid hR; have HB := Lib.hid (hb2.trans (hal.mono hb2.size)); have HS := Lib.hid hb2.size
  clear hO hb2 hal hT hT2 hR
  go_wp2
  go_ret
  exact ⟨W2.heap.size, rfl, HS.out, HR.out, HB.out⟩
end Go.Proofs.YtlmopoipjolbgaaGreatDoor.LexW
namespace Go.Proofs.YtlmopoipjolbgaaGreatDoor.LexW
open Go.RowKit Go.Shelf Go.Proofs.YtlmopoipjolbgaaGreatDoor.LexS Go.Proofs.YtlmopoipjolbgaaGreatDoorW.PrintWords
set_option linter.unusedVariables false
set_option linter.unusedSimpArgs false

/-- on the way: the result's box, the rule's -/
structure RuSt (g : Nat) (LL : List Tk) (ep : EP) (W Wi : World) (S : RS) (cs : Array Value) : Prop where
  out : LOut W g LL ep 0 S Wi
  hB : Wi.heap[W.heap.size]? = some (.cells #[.slice none 0 0, .int .i64 0, .slice none 0 0, .int .i64 0, .int .u64 0, .int .i64 0, .int .u64 0, .int .i64 0, .int .u64 0] 70 (0, 0))
  hX : Wi.heap[W.heap.size + 1]? = some (.cells cs 70 (0, 0))
section
variable {g : Nat} {LL : List Tk} {ep : EP} {W Wi Wj : World} {S S' : RS} {cs : Array Value} {v0 v1 v2 v3 v4 v5 v6 v7 v8 : Value}
theorem RuSt.lt (h : RuSt g LL ep W Wi S cs) : W.heap.size + 1 < Wi.heap.size := (Array.getElem?_eq_some_iff.1 h.hX).1
theorem RuSt.step (h : RuSt g LL ep W Wi S cs) (hg : g < W.heap.size) (hO : LOut Wi g LL ep 0 S' Wj) : RuSt g LL ep W Wj S' cs :=
  ⟨h.out.trans hO, chg_block hO.chg h.hB (by omega), chg_block hO.chg h.hX (by omega)⟩
theorem RuSt.belowB (h : RuSt g LL ep W Wi S cs) (hg : g < W.heap.size) (hb : Below (W.heap.size + 2) Wi Wj) : RuSt g LL ep W Wj S cs :=
  ⟨⟨h.out.st.chg (Chg.of_belowB hb) (fun k e => by omega), h.out.chg.trans (Chg.of_belowB hb) (fun k e => .inr (by omega))⟩, (hb.block _ (by omega)).trans h.hB, (hb.block _ (by omega)).trans h.hX⟩
theorem RuSt.below (h : RuSt g LL ep W Wi S cs) (hg : g < W.heap.size) (hb : Below Wi.heap.size Wi Wj) : RuSt g LL ep W Wj S cs := h.belowB hg (hb.mono h.lt)
theorem RuSt.set (h : RuSt g LL ep W Wi S cs) (hg : g < W.heap.size) (j : Nat) (v : Value) : RuSt g LL ep W (Wi.setCell ⟨W.heap.size + 1, j, none⟩ v) S (cs.setIfInBounds j v) :=
  ⟨h.out.far (W.heap.size + 1) j hg (by omega) v, (Below.heap_setCell Wi ⟨W.heap.size + 1, j, none⟩ v W.heap.size (by show W.heap.size ≠ W.heap.size + 1; omega)).trans h.hB, blk_set h.hX j v⟩
theorem RuSt.set0 (h : RuSt g LL ep W Wi S #[v0, v1, v2, v3, v4, v5, v6, v7, v8]) (hg : g < W.heap.size) (u : Value) : RuSt g LL ep W (Wi.setCell ⟨W.heap.size + 1, 0, none⟩ u) S #[u, v1, v2, v3, v4, v5, v6, v7, v8] := h.set hg 0 u
theorem RuSt.set16 (h : RuSt g LL ep W Wi S #[v0, v1, v2, v3, v4, v5, v6, v7, v8]) (hg : g < W.heap.size) (a1 a2 a3 a4 a5 a6 : Value) :
    RuSt g LL ep W ((((((Wi.setCell ⟨W.heap.size + 1, 1, none⟩ a1).setCell ⟨W.heap.size + 1, 2, none⟩ a2).setCell ⟨W.heap.size + 1, 3, none⟩ a3).setCell ⟨W.heap.size + 1, 4, none⟩ a4).setCell ⟨W.heap.size + 1, 5, none⟩ a5).setCell ⟨W.heap.size + 1, 6, none⟩ a6) S #[v0, a1, a2, a3, a4, a5, a6, v7, v8] :=
  (((((h.set hg 1 a1).set hg 2 a2).set hg 3 a3).set hg 4 a4).set hg 5 a5).set hg 6 a6
theorem RuSt.set78 (h : RuSt g LL ep W Wi S #[v0, v1, v2, v3, v4, v5, v6, v7, v8]) (hg : g < W.heap.size) (a7 a8 : Value) :
    RuSt g LL ep W ((Wi.setCell ⟨W.heap.size + 1, 7, none⟩ a7).setCell ⟨W.heap.size + 1, 8, none⟩ a8) S #[v0, v1, v2, v3, v4, v5, v6, a7, a8] := (h.set hg 7 a7).set hg 8 a8
end
theorem chg16 (W : World) (b : Nat) (a1 a2 a3 a4 a5 a6 : Value) : Chg (fun k => k = b) W ((((((W.setCell ⟨b, 1, none⟩ a1).setCell ⟨b, 2, none⟩ a2).setCell ⟨b, 3, none⟩ a3).setCell ⟨b, 4, none⟩ a4).setCell ⟨b, 5, none⟩ a5).setCell ⟨b, 6, none⟩ a6) :=
  (((((Chg.of_set W b 1 a1).trans (Chg.of_set _ b 2 a2) (fun k e => .inl e)).trans (Chg.of_set _ b 3 a3) (fun k e => .inl e)).trans (Chg.of_set _ b 4 a4) (fun k e => .inl e)).trans (Chg.of_set _ b 5 a5) (fun k e => .inl e)).trans (Chg.of_set _ b 6 a6) (fun k e => .inl e)
theorem chg78 (W : World) (b : Nat) (a7 a8 : Value) : Chg (fun k => k = b) W ((W.setCell ⟨b, 7, none⟩ a7).setCell ⟨b, 8, none⟩ a8) := (Chg.of_set W b 7 a7).trans (Chg.of_set _ b 8 a8) (fun k e => .inl e)
def RlL (W : World) (g : Nat) (LL : List Tk) (ep : EP) (p : Rl × RS) (en : Ending) (W' : World) : Prop := ∃ vc v1, en = .returned (rlAgg p.1 vc v1) ∧ ClRow W' W.heap.size vc p.1.f0 ∧ ExRow W' W.heap.size v1 p.1.f1.f1 ∧ LOut W g LL ep 0 p.2 W'
theorem rule_end {g : Nat} {LL : List Tk} {ep : EP} {W Wi : World} {S : RS} {cs : Array Value} (h : RuSt g LL ep W Wi S cs) (hg : g < W.heap.size) (x : Rl) (A B : Option Addr) (c d : Nat) (h0 : ClRow Wi (W.heap.size + 2) (.slice A x.f0.length c) x.f0) (h2 : ExRow Wi (W.heap.size + 2) (.slice B x.f1.f1.length d) x.f1.f1) (Wz : World)
    (hc : Chg (fun k => k = W.heap.size) Wi Wz) : ClRow Wz W.heap.size (.slice A x.f0.length c) x.f0 ∧ ExRow Wz W.heap.size (.slice B x.f1.f1.length d) x.f1.f1 ∧ LOut W g LL ep 0 S Wz :=
  ⟨(h0.chg hc (fun k e => by omega)).lower (by omega), (h2.chg hc (fun k e => by omega)).lowB (by omega), ⟨h.out.st.chg hc (fun k e => by omega), h.out.chg.trans hc (fun k e => .inr (by omega))⟩⟩
theorem calls_unfold (ep : EP) (n : Nat) (l : List Cl) (S : RS) : callsL ep (n + 1) l S = if (isL ep 4 sComma (callL ep S).2).1 = true then callsL ep n (l ++ [(callL ep S).1]) (isL ep 4 sComma (callL ep S).2).2 else (l ++ [(callL ep S).1], (isL ep 4 sComma (callL ep S).2).2) := rfl

set_option maxRecDepth 100000 in
set_option maxHeartbeats 8000000 in
theorem rule_ref (g : Nat) (LL : List Tk) (ep : EP) (S : RS) (W : World) (hF : Fin3 ep S) (hR : RfS W g LL ep 0 S) :
    Calls Tryz.prog 32 #[.pointer (some ⟨g, 0, none⟩)] W (RlL W g LL ep (ruleL ep S)) := by
  have hgW := hR.lt
  have hlen := rfs_len hR
  have hal : Below W.heap.size W ((W.alloc rlZero).alloc rlInit) := ((Below.refl W.heap.size W).alloc (Nat.le_refl _) _).alloc (by simp) _
  have hS0 : RuSt g LL ep W ((W.alloc rlZero).alloc rlInit) S #[.slice none 0 0, .int .i64 1, .slice none 0 0, .int .i64 0, .int .u64 0, .int .i64 0, .int .u64 0, .int .i64 0, .int .u64 0] :=
    ⟨⟨hR.below hal, Chg.of_below hal _⟩, blk_past _ (new_blk W _ _), new_blk' (by simp) _ _⟩
  have HS0 := Lib.hid hS0; have HF0 := Lib.hid hF
  have hru : ruleL ep S = (⟨(callsL ep (S.M.length + 1) [] S).1, (whenL ep (callsL ep (S.M.length + 1) [] S).2).1, (verdictL ep (wantL ep 2 sDo (whenL ep (callsL ep (S.M.length + 1) [] S).2).2)).1⟩, wantL ep 4 sSemi (verdictL ep (wantL ep 2 sDo (whenL ep (callsL ep (S.M.length + 1) [] S).2).2)).2) := rfl
  have HRU := Lib.hid hru
  clear hS0 hal hR hF hru
  go_enter Tryz.func32, Tryz.ntmps32
  go_wp2
  go_loopg [] (S.M.length + 1) (fun n wr => ∃ (l : List Cl) (S4 : RS) (v : Value), Hid (callsL ep (S.M.length + 1) [] S = callsL ep n l S4) ∧ S4.M.length < n ∧ l.length + S4.M.length ≤ 65538 ∧ Hid (ClRow wr (W.heap.size + 2) v l) ∧ Hid (RuSt g LL ep W wr S4 #[v, .int .i64 1, .slice none 0 0, .int .i64 0, .int .u64 0, .int .i64 0, .int .u64 0, .int .i64 0, .int .u64 0]) ∧ Hid (Fin3 ep S4))
  case atStart => exact ⟨[], S, .slice none 0 0, Lib.hid rfl, by omega, by simp; omega, Lib.hid (Kd.R_nil _ _ _ _ _), HS0, HF0⟩
  case round =>
    clear HS0 HF0
    obtain ⟨l, S4, v, HT, hn, hl, HROW, HS4, HF4⟩ := hrel
    obtain ⟨n, rfl⟩ : ∃ n, gk = n + 1 := ⟨gk - 1, by omega⟩
    obtain ⟨A, c, rfl⟩ := Kd.R_slice HROW.out
    have hlt4 := HS4.out.lt
    have hdr : Below wr.heap.size wr wr.drew := (Below.refl _ _).drew
    have hS4d := HS4.out.below hgW hdr
    have HC := Lib.hid (call_ref g LL ep 0 S4 wr.drew HF4.out hS4d.out.st)
    have hrow4 := HROW.out.chg (Chg.of_below hdr (fun k => k = g)) (fun k e => by omega)
    have HS4D := Lib.hid hS4d; have HROWD := Lib.hid hrow4
    have hF5 := call_fin HF4.out
    have hl5 := call_len ep S4
    have HUN := Lib.hid (calls_unfold ep n l S4)
    have hszd : wr.drew.heap.size = wr.heap.size := rfl
    obtain ⟨x0, x1, x2, x3, x4, x5, x6, x7, x8, xf⟩ := blk9 HS4.out.hX
    clear hS4d hrow4 hdr
    generalize callL ep S4 = P5 at HC hF5 hl5 HUN
    obtain ⟨y, S5⟩ := P5
    have HF5 := Lib.hid hF5; clear hF5
    go_wp2_with fail
    go_region_law (first
      | (refine Kd.R_append_step kCl (w0 := W7) (W := W7) (W.heap.size + 2) (by rfl) (.tmp 9) (.tmp 12) 68 74 (.agg #[.string ⟨#[]⟩, .int .u64 0]) 24 rfl Tryz.underlying68 infoCl rfl (by decide) (by decide) (.slice A l.length c) l y (clCells y) (fun _ => True) (fun _ => False) (by first | rfl | (go_simp; done)) (by first | rfl | (go_simp; done)) HMADE.out (fun k hk => hk.elim) (fun _ _ => trivial) HROW7.out (Below.refl _ _) (by omega) (by omega) ?_; intro v8 w8 hO8 hb8 hg8 hat8
         obtain ⟨A8, c8, rfl⟩ := Kd.R_slice hO8
         have HS8 := Lib.hid (HS7.out.belowB hgW hb8); have HO8 : Hid (ClRow w8 (W.heap.size + 2) (.slice A8 (l ++ [y]).length c8) (l ++ [y])) := Lib.hid hO8; clear hO8 hb8 hg8 hat8
         obtain ⟨w0', w1', w2', w3', w4', w5', w6', w7', w8', wf'⟩ := blk9 HS8.out.hX)
      | (go_simp; go_at_call 64; refine HC.out.mono ?_; rintro e W7 ⟨rfl, hO7⟩
         have hs7 := hO7.chg.size
         have HS7 := Lib.hid (HS4D.out.step hgW hO7); have HROW7 := Lib.hid (HROWD.out.chg hO7.chg (fun k e => by omega))
         have HMADE := Lib.hid (kCl_mkM W7 (W.heap.size + 2) (fun _ => False) y)
         obtain ⟨z0, z1, z2, z3, z4, z5, z6, z7, z8, zf⟩ := blk9 HS7.out.hX
         obtain ⟨t0, t1, t2, t3, t4, t5, t6, t7, t8, tf⟩ := blk9 (blk_past (.cells (clCells y).toArray 74) HS7.out.hX)
         clear hO7))
    all_goals
      have hlen1 : (l ++ [y]).length = l.length + 1 := by simp
      rw [hlen1] at HO8
      have hset := Chg.of_set w8 (W.heap.size + 1) 0 (.slice A8 (l.length + 1) c8)
      have HS9 := Lib.hid (HS8.out.set0 hgW (.slice A8 (l.length + 1) c8))
      have HO9 := Lib.hid (HO8.out.chg hset (fun k e => by omega))
      have HI := Lib.hid (is_ref g LL ep 0 4 sComma S5 _ HF5.out HS9.out.out.st)
      have hFi := is_fin (k := 4) (x := sComma) HF5.out (by decide)
      have hIt := isL_true (k := 4) (x := sComma) HF5.out
      obtain ⟨b, S6, hP⟩ : ∃ b S6, isL ep 4 sComma S5 = (b, S6) := ⟨_, _, rfl⟩
      rw [hP] at HI hFi hIt
      have HUN2 : Hid (callsL ep (n + 1) l S4 = if b = true then callsL ep n (l ++ [y]) S6 else (l ++ [y], S6)) := Lib.hid (by rw [HUN.out]; show (if (isL ep 4 sComma S5).1 = true then callsL ep n (l ++ [y]) (isL ep 4 sComma S5).2 else _) = _; rw [hP])
      have HF6 := Lib.hid hFi
      have hl5' : S5.M.length ≤ S4.M.length := hl5
      clear hset hP hFi x0 x1 x2 x3 x4 x5 x6 x7 x8 xf z0 z1 z2 z3 z4 z5 z6 z7 z8 zf t0 t1 t2 t3 t4 t5 t6 t7 t8 tf w0' w1' w2' w3' w4' w5' w6' w7' w8' wf'
      cases b with
      | true =>
        have hIt' : S6.M.length + 1 = S5.M.length := hIt rfl
        go_wp2_with fail
        refine HI.out.mono ?_
        rintro e W9 ⟨rfl, hO⟩
        have HSA := Lib.hid (HS9.out.step hgW hO)
        have HOA := Lib.hid (HO9.out.chg hO.chg (fun k e => by omega))
        clear hO
        go_wp2
        go_roundg n
        case measure => omega
        case rel => exact ⟨l ++ [y], S6, _, Lib.hid (by rw [HT.out, HUN2.out]; rfl), by omega, by rw [hlen1]; omega, HOA, HSA, HF6⟩
      | false =>
        have HV : Hid (callsL ep (S.M.length + 1) [] S = (l ++ [y], S6)) := Lib.hid (by rw [HT.out, HUN2.out]; rfl)
        go_wp2_with fail
        refine HI.out.mono ?_
        rintro e W9 ⟨rfl, hO⟩
        have HSA := Lib.hid (HS9.out.step hgW hO)
        have HOA := Lib.hid (HO9.out.chg hO.chg (fun k e => by omega))
        obtain ⟨lz, hlz⟩ : ∃ lz, lz = l ++ [y] := ⟨_, rfl⟩
        have hlzl : l.length + 1 = lz.length := by rw [hlz]; simp
        rw [← hlz] at HV HOA
        rw [hlzl] at HOA HSA
        clear hlz hlzl hlen1 hO HS9 HO9 HI HT HUN2 HROW HS4 HC HS4D HROWD HUN HF4 HF5 hIt
        have HIW := Lib.hid (is_ref g LL ep 0 2 sWhen S6 W9 HF6.out HSA.out.out.st)
        have hFw := is_fin (k := 2) (x := sWhen) HF6.out (by decide)
        have hwn : whenL ep S6 = if (isL ep 2 sWhen S6).1 = true then exprL ep (oneL ep 64) (isL ep 2 sWhen S6).2 else (⟨1, [], 0, 0, 0, 0⟩, (isL ep 2 sWhen S6).2) := rfl
        obtain ⟨bw, S7, hP⟩ : ∃ bw S7, isL ep 2 sWhen S6 = (bw, S7) := ⟨_, _, rfl⟩
        rw [hP] at HIW hFw hwn
        have HFW := Lib.hid hFw
        clear hP hFw
        cases bw with
        | true =>
          have HWN : Hid (whenL ep S6 = exprL ep (oneL ep 64) S7) := Lib.hid hwn
          clear hwn
          go_wp2_with fail
          refine HIW.out.mono ?_
          rintro e WA ⟨rfl, hO⟩
          have HSB := Lib.hid (HSA.out.step hgW hO)
          have HOB := Lib.hid (HOA.out.chg hO.chg (fun k e => by omega))
          clear hO HIW
          go_wp2_with fail
          refine (expr_ref g LL ep S7 WA HFW.out HSB.out.out.st).mono ?_
          rintro e WB ⟨vx, rfl, hX, hO⟩
          have hFx : Fin3 ep (exprL ep (oneL ep 64) S7).2 := expr_fin (one_fin 64) HFW.out
          obtain ⟨x6, S8, hP6⟩ : ∃ x6 S8, exprL ep (oneL ep 64) S7 = (x6, S8) := ⟨_, _, rfl⟩
          rw [hP6] at hX hO hFx ⊢
          have HWN2 : Hid (whenL ep S6 = (x6, S8)) := Lib.hid (by rw [HWN.out, hP6])
          obtain ⟨Ax, cx, rfl⟩ := Kd.R_slice hX
          have hsA := HSB.out.lt
          have hSC := HSB.out.step hgW hO
          obtain ⟨p0, p1, p2, p3, p4, p5, p6, p7, p8, pf⟩ := blk9 hSC.hX
          have hc16 := chg16 WB (W.heap.size + 1) (.int .i64 x6.f0) (.slice Ax x6.f1.length cx) (.int .i64 x6.f2) (.int .u64 x6.f3) (.int .i64 x6.f4) (.int .u64 x6.f5)
          have HSD := Lib.hid (hSC.set16 hgW (.int .i64 x6.f0) (.slice Ax x6.f1.length cx) (.int .i64 x6.f2) (.int .u64 x6.f3) (.int .i64 x6.f4) (.int .u64 x6.f5))
          have HOD := Lib.hid ((HOB.out.chg hO.chg (fun k e => by omega)).chg hc16 (fun k e => by omega))
          have HXD : Hid (ExRow _ (W.heap.size + 2) (.slice Ax x6.f1.length cx) x6.f1) := Lib.hid (((show ExRow WB WA.heap.size (.slice Ax x6.f1.length cx) x6.f1 from hX).lowB (by omega)).chg hc16 (fun k e => by omega))
          have HFX := Lib.hid hFx
          clear hP6 hX hO hFx hSC hc16 HSB HOB HWN
          unfold exAgg
          go_wp2_with fail
          refine (want_ref g LL ep 0 2 sDo S8 _ HFX.out HSD.out.out.st).mono ?_
          rintro e WE ⟨rfl, hO⟩
          have HSE := Lib.hid (HSD.out.step hgW hO)
          have HOE := Lib.hid (HOD.out.chg hO.chg (fun k e => by omega))
          have HXE := Lib.hid (HXD.out.chg hO.chg (fun k e => by omega))
          have hFd := want_fin (k := 2) (x := sDo) HFX.out (by decide)
          obtain ⟨S9, hS9⟩ : ∃ S9, S9 = wantL ep 2 sDo S8 := ⟨_, rfl⟩
          rw [← hS9] at HSE hFd
          have HQ1 := Lib.hid hS9
          have HFD := Lib.hid hFd
          clear hO HSD HOD HXD hFd hS9
          go_wp2_with fail
          refine (verdict_ref g LL ep 0 S9 WE HFD.out HSE.out.out.st).mono ?_
          rintro e WF ⟨rfl, hO⟩
          have hFv := verdict_fin HFD.out
          obtain ⟨vd, SA, hP⟩ : ∃ vd SA, verdictL ep S9 = (vd, SA) := ⟨_, _, rfl⟩
          rw [hP] at hO hFv ⊢
          have hSF := HSE.out.step hgW hO
          obtain ⟨p0, p1, p2, p3, p4, p5, p6, p7, p8, pf⟩ := blk9 hSF.hX
          have hc78 := chg78 WF (W.heap.size + 1) (.int .i64 vd.f0) (.int .u64 vd.f1)
          have HSG := Lib.hid (hSF.set78 hgW (.int .i64 vd.f0) (.int .u64 vd.f1))
          have HOG := Lib.hid ((HOE.out.chg hO.chg (fun k e => by omega)).chg hc78 (fun k e => by omega))
          have HXG := Lib.hid ((HXE.out.chg hO.chg (fun k e => by omega)).chg hc78 (fun k e => by omega))
          have HQ2 := Lib.hid hP; have HFV := Lib.hid hFv
          clear hP hO hFv hSF hc78 HSE HOE HXE
          unfold vdVal
          go_wp2_with fail
          refine (want_ref g LL ep 0 4 sSemi SA _ HFV.out HSG.out.out.st).mono ?_
          rintro e WH ⟨rfl, hO⟩
          have hSH := HSG.out.step hgW hO
          have HOH := Lib.hid (HOG.out.chg hO.chg (fun k e => by omega))
          have HXH := Lib.hid (HXG.out.chg hO.chg (fun k e => by omega))
          clear p0 p1 p2 p3 p4 p5 p6 p7 p8 pf
          obtain ⟨p0, p1, p2, p3, p4, p5, p6, p7, p8, pf⟩ := blk9 hSH.hX
          obtain ⟨q0, q1, q2, q3, q4, q5, q6, q7, q8, qf⟩ := blk9 hSH.hB
          have HSH := Lib.hid hSH
          clear hO hSH HSG HOG HXG
          go_wp2
          obtain ⟨hb9, hc9⟩ := sets9 HSH.out.hB (.slice A8 lz.length c8) (.int .i64 x6.f0) (.slice Ax x6.f1.length cx) (.int .i64 x6.f2) (.int .u64 x6.f3) (.int .i64 x6.f4) (.int .u64 x6.f5) (.int .i64 vd.f0) (.int .u64 vd.f1)
          obtain ⟨r0, r1, r2, r3, r4, r5, r6, r7, r8, rf⟩ := blk9 hb9
          refine bodyPost_ret (v := rlAgg ⟨lz, x6, vd⟩ (.slice A8 lz.length c8) (.slice Ax x6.f1.length cx)) (by simp [results, Tryz.results32, go_sem, r0, r1, r2, r3, r4, r5, r6, r7, r8, rlAgg]) rfl ?_
          rw [HRU.out, HV.out]
          show RlL W g LL ep (⟨lz, (whenL ep S6).1, (verdictL ep (wantL ep 2 sDo (whenL ep S6).2)).1⟩, wantL ep 4 sSemi (verdictL ep (wantL ep 2 sDo (whenL ep S6).2)).2) _ _
          rw [HWN2.out]
          show RlL W g LL ep (⟨lz, x6, (verdictL ep (wantL ep 2 sDo S8)).1⟩, wantL ep 4 sSemi (verdictL ep (wantL ep 2 sDo S8)).2) _ _
          rw [← HQ1.out, HQ2.out]
          exact ⟨_, _, rfl, rule_end HSH.out hgW ⟨lz, x6, vd⟩ _ _ _ _ HOH.out HXH.out _ hc9⟩
        | false =>
          have HWN2 : Hid (whenL ep S6 = ((⟨1, [], 0, 0, 0, 0⟩ : Ex), S7)) := Lib.hid hwn
          clear hwn
          go_wp2_with fail
          refine HIW.out.mono ?_
          rintro e WA ⟨rfl, hO⟩
          have HSD := Lib.hid (HSA.out.step hgW hO)
          have HOD := Lib.hid (HOA.out.chg hO.chg (fun k e => by omega))
          have HXD : Hid (ExRow WA (W.heap.size + 2) (.slice none 0 0) []) := Lib.hid (Kd.R_nil _ _ _ _ _)
          clear hO HIW
          go_wp2_with fail
          refine (want_ref g LL ep 0 2 sDo S7 _ HFW.out HSD.out.out.st).mono ?_
          rintro e WE ⟨rfl, hO⟩
          have HSE := Lib.hid (HSD.out.step hgW hO)
          have HOE := Lib.hid (HOD.out.chg hO.chg (fun k e => by omega))
          have HXE := Lib.hid (HXD.out.chg hO.chg (fun k e => by omega))
          have hFd := want_fin (k := 2) (x := sDo) HFW.out (by decide)
          obtain ⟨S9, hS9⟩ : ∃ S9, S9 = wantL ep 2 sDo S7 := ⟨_, rfl⟩
          rw [← hS9] at HSE hFd
          have HQ1 := Lib.hid hS9
          have HFD := Lib.hid hFd
          clear hO HSD HOD HXD hFd hS9
          go_wp2_with fail
          refine (verdict_ref g LL ep 0 S9 WE HFD.out HSE.out.out.st).mono ?_
          rintro e WF ⟨rfl, hO⟩
          have hFv := verdict_fin HFD.out
          obtain ⟨vd, SA, hP⟩ : ∃ vd SA, verdictL ep S9 = (vd, SA) := ⟨_, _, rfl⟩
          rw [hP] at hO hFv ⊢
          have hSF := HSE.out.step hgW hO
          obtain ⟨p0, p1, p2, p3, p4, p5, p6, p7, p8, pf⟩ := blk9 hSF.hX
          have hc78 := chg78 WF (W.heap.size + 1) (.int .i64 vd.f0) (.int .u64 vd.f1)
          have HSG := Lib.hid (hSF.set78 hgW (.int .i64 vd.f0) (.int .u64 vd.f1))
          have HOG := Lib.hid ((HOE.out.chg hO.chg (fun k e => by omega)).chg hc78 (fun k e => by omega))
          have HXG := Lib.hid ((HXE.out.chg hO.chg (fun k e => by omega)).chg hc78 (fun k e => by omega))
          have HQ2 := Lib.hid hP; have HFV := Lib.hid hFv
          clear hP hO hFv hSF hc78 HSE HOE HXE
          unfold vdVal
          go_wp2_with fail
          refine (want_ref g LL ep 0 4 sSemi SA _ HFV.out HSG.out.out.st).mono ?_
          rintro e WH ⟨rfl, hO⟩
          have hSH := HSG.out.step hgW hO
          have HOH := Lib.hid (HOG.out.chg hO.chg (fun k e => by omega))
          have HXH := Lib.hid (HXG.out.chg hO.chg (fun k e => by omega))
          clear p0 p1 p2 p3 p4 p5 p6 p7 p8 pf
          obtain ⟨p0, p1, p2, p3, p4, p5, p6, p7, p8, pf⟩ := blk9 hSH.hX
          obtain ⟨q0, q1, q2, q3, q4, q5, q6, q7, q8, qf⟩ := blk9 hSH.hB
          have HSH := Lib.hid hSH
          clear hO hSH HSG HOG HXG
          go_wp2
          obtain ⟨hb9, hc9⟩ := sets9 HSH.out.hB (.slice A8 lz.length c8) (.int .i64 1) (.slice none 0 0) (.int .i64 0) (.int .u64 0) (.int .i64 0) (.int .u64 0) (.int .i64 vd.f0) (.int .u64 vd.f1)
          obtain ⟨r0, r1, r2, r3, r4, r5, r6, r7, r8, rf⟩ := blk9 hb9
          refine bodyPost_ret (v := rlAgg ⟨lz, (⟨1, [], 0, 0, 0, 0⟩ : Ex), vd⟩ (.slice A8 lz.length c8) (.slice none 0 0)) (by simp [results, Tryz.results32, go_sem, r0, r1, r2, r3, r4, r5, r6, r7, r8, rlAgg]) rfl ?_
          rw [HRU.out, HV.out]
          show RlL W g LL ep (⟨lz, (whenL ep S6).1, (verdictL ep (wantL ep 2 sDo (whenL ep S6).2)).1⟩, wantL ep 4 sSemi (verdictL ep (wantL ep 2 sDo (whenL ep S6).2)).2) _ _
          rw [HWN2.out]
          show RlL W g LL ep (⟨lz, (⟨1, [], 0, 0, 0, 0⟩ : Ex), (verdictL ep (wantL ep 2 sDo S7)).1⟩, wantL ep 4 sSemi (verdictL ep (wantL ep 2 sDo S7)).2) _ _
          rw [← HQ1.out, HQ2.out]
          exact ⟨_, _, rfl, rule_end HSH.out hgW ⟨lz, (⟨1, [], 0, 0, 0, 0⟩ : Ex), vd⟩ _ _ _ _ HOH.out HXH.out _ hc9⟩
end Go.Proofs.YtlmopoipjolbgaaGreatDoor.LexW
