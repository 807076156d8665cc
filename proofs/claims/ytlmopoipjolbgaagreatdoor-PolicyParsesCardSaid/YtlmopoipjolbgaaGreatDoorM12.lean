/-
  Layer 6 (policy), the reference: one. · Layer 6 (policy), the reference: one and Expr at every depth; reader.
-/
import Derived.Test.YtlmopoipjolbgaaGreatDoorM11
namespace Go.Proofs.YtlmopoipjolbgaaGreatDoor.LexW
open Go.RowKit Go.Shelf Go.Proofs.YtlmopoipjolbgaaGreatDoor.LexS Go.Proofs.YtlmopoipjolbgaaGreatDoorW.PrintWords
set_option linter.unusedVariables false
set_option linter.unusedSimpArgs false

/-- on the way: the result's box, the token's, the expression's -/
structure OnSt (g : Nat) (LL : List Tk) (ep : EP) (W : World) (T : Nat) (t : Tk) (d : Int) (Wi : World) (S : RS) (cs : Array Value) : Prop where
  out : LOut W g LL ep d S Wi
  hB : Wi.heap[W.heap.size]? = some (.cells #[.int .i64 0, .slice none 0 0, .int .i64 0, .int .u64 0, .int .i64 0, .int .u64 0] 37 (0, 0))
  hT : Wi.heap[T]? = some (.cells #[.int .i64 t.kind, .string t.text, .int .u64 t.num, .int .i64 t.at_] 59 (0, 0))
  hX : Wi.heap[T + 1]? = some (.cells cs 37 (0, 0))
  hT1 : W.heap.size < T
section
variable {g : Nat} {LL : List Tk} {ep : EP} {W : World} {T : Nat} {t : Tk} {d d' : Int} {Wi Wj : World} {S S' : RS} {cs : Array Value}
theorem OnSt.lt (h : OnSt g LL ep W T t d Wi S cs) : T + 1 < Wi.heap.size := (Array.getElem?_eq_some_iff.1 h.hX).1
theorem OnSt.step (h : OnSt g LL ep W T t d Wi S cs) (hg : g < W.heap.size) (hO : LOut Wi g LL ep d' S' Wj) : OnSt g LL ep W T t d' Wj S' cs :=
  ⟨h.out.trans hO, chg_block hO.chg h.hB (by omega), chg_block hO.chg h.hT (by have := h.hT1; omega), chg_block hO.chg h.hX (by have := h.hT1; omega), h.hT1⟩
theorem OnSt.below (h : OnSt g LL ep W T t d Wi S cs) (hb : Below Wi.heap.size Wi Wj) : OnSt g LL ep W T t d Wj S cs :=
  ⟨h.out.below hb, (hb.block _ (Array.getElem?_eq_some_iff.1 h.hB).1).trans h.hB, (hb.block _ (Array.getElem?_eq_some_iff.1 h.hT).1).trans h.hT, (hb.block _ (Array.getElem?_eq_some_iff.1 h.hX).1).trans h.hX, h.hT1⟩
theorem OnSt.alloc (h : OnSt g LL ep W T t d Wi S cs) (o : Obj) : OnSt g LL ep W T t d (Wi.alloc o) S cs := h.below ((Below.refl _ _).alloc (Nat.le_refl _) o)
theorem OnSt.set (h : OnSt g LL ep W T t d Wi S cs) (hg : g < W.heap.size) (j : Nat) (v : Value) : OnSt g LL ep W T t d (Wi.setCell ⟨T + 1, j, none⟩ v) S (cs.setIfInBounds j v) :=
  ⟨h.out.far (T + 1) j hg (by have := h.hT1; omega) v, (Below.heap_setCell Wi ⟨T + 1, j, none⟩ v W.heap.size (by show W.heap.size ≠ T + 1; have := h.hT1; omega)).trans h.hB, (Below.heap_setCell Wi ⟨T + 1, j, none⟩ v T (by show T ≠ T + 1; omega)).trans h.hT, blk_set h.hX j v, h.hT1⟩
theorem OnSt.set0 {v0 v1 v2 v3 v4 v5 : Value} (h : OnSt g LL ep W T t d Wi S #[v0, v1, v2, v3, v4, v5]) (hg : g < W.heap.size) (a0 : Value) : OnSt g LL ep W T t d (Wi.setCell ⟨T + 1, 0, none⟩ a0) S #[a0, v1, v2, v3, v4, v5] := h.set hg 0 a0
theorem OnSt.sets6 {v0 v1 v2 v3 v4 v5 : Value} (h : OnSt g LL ep W T t d Wi S #[v0, v1, v2, v3, v4, v5]) (hg : g < W.heap.size) (a0 a1 a2 a3 a4 a5 : Value) : OnSt g LL ep W T t d ((((((Wi.setCell ⟨T + 1, 0, none⟩ a0).setCell ⟨T + 1, 1, none⟩ a1).setCell ⟨T + 1, 2, none⟩ a2).setCell ⟨T + 1, 3, none⟩ a3).setCell ⟨T + 1, 4, none⟩ a4).setCell ⟨T + 1, 5, none⟩ a5) S #[a0, a1, a2, a3, a4, a5] :=
  (((((h.set hg 0 a0).set hg 1 a1).set hg 2 a2).set hg 3 a3).set hg 4 a4).set hg 5 a5
/-- back from a level -/
theorem OnSt.deep (h : OnSt g LL ep W T t d Wi S cs) (hg : g < W.heap.size) (d' : Int) : OnSt g LL ep W T t d' (Wi.setCell ⟨g, 4, none⟩ (.int .i64 d')) S cs :=
  h.step hg ((rfs_deep h.out.st).2.2 d')
end
theorem ExRow.lowB {W : World} {base base' : Nat} {v : Value} {l : List Ex} (h : ExRow W base v l) (hb : base' ≤ base) : ExRow W base' v l := Kd.R_lower h hb

theorem on_end {g : Nat} {LL : List Tk} {ep : EP} {W : World} {T : Nat} {t : Tk} {d : Int} {Wi : World} {S : RS} {cs : Array Value} (h : OnSt g LL ep W T t d Wi S cs) (hg : g < W.heap.size) (x : Ex) (A : Option Addr) (c base : Nat) (hrow : ExRow Wi base (.slice A x.f1.length c) x.f1) (hb : W.heap.size < base) :
    ExRow ((((((Wi.setCell ⟨W.heap.size, 0, none⟩ (.int .i64 x.f0)).setCell ⟨W.heap.size, 1, none⟩ (.slice A x.f1.length c)).setCell ⟨W.heap.size, 2, none⟩ (.int .i64 x.f2)).setCell ⟨W.heap.size, 3, none⟩ (.int .u64 x.f3)).setCell ⟨W.heap.size, 4, none⟩ (.int .i64 x.f4)).setCell ⟨W.heap.size, 5, none⟩ (.int .u64 x.f5)) W.heap.size (.slice A x.f1.length c) x.f1 ∧
    LOut W g LL ep d S ((((((Wi.setCell ⟨W.heap.size, 0, none⟩ (.int .i64 x.f0)).setCell ⟨W.heap.size, 1, none⟩ (.slice A x.f1.length c)).setCell ⟨W.heap.size, 2, none⟩ (.int .i64 x.f2)).setCell ⟨W.heap.size, 3, none⟩ (.int .u64 x.f3)).setCell ⟨W.heap.size, 4, none⟩ (.int .i64 x.f4)).setCell ⟨W.heap.size, 5, none⟩ (.int .u64 x.f5)) :=
  ⟨(hrow.chg ((Chg.refl (fun k => k = W.heap.size) Wi).sets6' W.heap.size (fun k e => e) _ _ _ _ _ _) (fun k e => by omega)).lowB (Nat.le_of_lt hb), h.out.far6 W.heap.size hg (Nat.le_refl _) _ _ _ _ _ _⟩
/-- one: how it goes, where what is nested is known -/
def oneG (ep : EP) (b : Bool) (nest : RS → Ex × RS) (S : RS) : Ex × RS :=
  if (nextL ep S).2.err = 0 then
    (if (nextL ep S).1.kind = 2 then
      (if (nextL ep S).1.text = sNot then (if b = true then (⟨3, [(nest (nextL ep S).2).1], 0, 0, 0, 0⟩, (nest (nextL ep S).2).2) else (zEx, failsL 62 (nextL ep S).1.at_ (nextL ep S).2)) else atomL ep (nextL ep S).1 (nextL ep S).2)
     else if (nextL ep S).1.kind = 4 then
      (if (nextL ep S).1.text = sOpen then (if b = true then ((exprL ep nest (nextL ep S).2).1, wantL ep 4 sShut (exprL ep nest (nextL ep S).2).2) else (zEx, failsL 62 (nextL ep S).1.at_ (nextL ep S).2)) else (zEx, failsL 61 (nextL ep S).1.at_ (nextL ep S).2))
     else (zEx, failsL 61 (nextL ep S).1.at_ (nextL ep S).2))
  else (zEx, (nextL ep S).2)
theorem atom_not2 {ep : EP} {t : Tk} {S : RS} (h : ¬ t.kind = 2) : atomL ep t S = (zEx, failsL 61 t.at_ S) := by unfold atomL; rw [if_neg h]
theorem oneG_zero (ep : EP) (nest : RS → Ex × RS) (S : RS) : oneL ep 0 S = oneG ep false nest S := by
  unfold oneL oneG
  simp only
  split
  · by_cases h2 : (nextL ep S).1.kind = 2
    · rw [if_pos h2]
      by_cases h3 : (nextL ep S).1.text = sNot
      · rw [if_pos h3, if_pos ⟨h2, h3⟩]; rfl
      · rw [if_neg h3, if_neg (fun h => h3 h.2), if_neg (fun h => by rw [h2] at h; exact absurd h.1 (by decide))]
    · rw [if_neg h2, if_neg (fun h => h2 h.1)]
      by_cases h4 : (nextL ep S).1.kind = 4
      · rw [if_pos h4]
        by_cases h5 : (nextL ep S).1.text = sOpen
        · rw [if_pos h5, if_pos ⟨h4, h5⟩]; rfl
        · rw [if_neg h5, if_neg (fun h => h5 h.2), atom_not2 h2]
      · rw [if_neg h4, if_neg (fun h => h4 h.1), atom_not2 h2]
  · rfl
theorem oneG_succ (ep : EP) (k : Nat) (S : RS) : oneL ep (k + 1) S = oneG ep true (oneL ep k) S := by
  rw [oneL]
  unfold oneG
  simp only
  split
  · by_cases h2 : (nextL ep S).1.kind = 2
    · rw [if_pos h2]
      by_cases h3 : (nextL ep S).1.text = sNot
      · rw [if_pos h3, if_pos ⟨h2, h3⟩]; rfl
      · rw [if_neg h3, if_neg (fun h => h3 h.2), if_neg (fun h => by rw [h2] at h; exact absurd h.1 (by decide))]
    · rw [if_neg h2, if_neg (fun h => h2 h.1)]
      by_cases h4 : (nextL ep S).1.kind = 4
      · rw [if_pos h4]
        by_cases h5 : (nextL ep S).1.text = sOpen
        · rw [if_pos h5, if_pos ⟨h4, h5⟩]; rfl
        · rw [if_neg h5, if_neg (fun h => h5 h.2), atom_not2 h2]
      · rw [if_neg h4, if_neg (fun h => h4 h.1), atom_not2 h2]
  · rfl
theorem not_list : sNot.toList = [110, 111, 116] := by decide +kernel
theorem open_list : sOpen.toList = [40] := by decide +kernel
theorem true_list : sTrue.toList = [116, 114, 117, 101] := by decide +kernel
theorem false_list : sFalse.toList = [102, 97, 108, 115, 101] := by decide +kernel
theorem lit_yes {x y : ByteArray} {l : List UInt8} (hy : y.toList = l) (h : x = y) : (x.toList == l) = true := by rw [h, hy]; exact beq_self_eq_true _
theorem lit_no {x y : ByteArray} {l : List UInt8} (hy : y.toList = l) (h : ¬ x = y) : (x.toList == l) = false := by rw [← hy]; exact (text_neb h).1

set_option maxRecDepth 100000 in
set_option maxHeartbeats 8000000 in
theorem one_of (g : Nat) (LL : List Tk) (ep : EP) (d : Int) (hd0 : 0 ≤ d) (hd : d ≤ 64) (nest : RS → Ex × RS) (S : RS) (W : World) (hF : Fin3 ep S) (hR : RfS W g LL ep d S)
    (hfin : ∀ S1, Fin3 ep S1 → Fin3 ep (nest S1).2) (hlen : ∀ S1, (nest S1).2.M.length ≤ S1.M.length)
    (hnest : d < 64 → ∀ S1 W1, Fin3 ep S1 → RfS W1 g LL ep (d + 1) S1 → Calls Tryz.prog 92 #[.pointer (some ⟨g, 0, none⟩)] W1 (ExL W1 g LL ep (d + 1) (nest S1))) :
    Calls Tryz.prog 92 #[.pointer (some ⟨g, 0, none⟩)] W (ExL W g LL ep d (oneG ep (decide (d < 64)) nest S)) := by
  have hgW := hR.lt
  have hal := (Below.refl W.heap.size W).alloc (Nat.le_refl _) exZero
  have hz : (W.alloc exZero).heap[W.heap.size]? = some (.cells #[.int .i64 0, .slice none 0 0, .int .i64 0, .int .u64 0, .int .i64 0, .int .u64 0] 37 (0, 0)) := new_blk W _ _
  have hO1 : LOut W g LL ep d S (W.alloc exZero) := ⟨hR.below hal, Chg.of_below hal _⟩
  have HN := Lib.hid (next_ref g LL ep d S (W.alloc exZero) hF hO1.st)
  have HNEST := Lib.hid hnest; have HFIN := Lib.hid hfin; have HLEN := Lib.hid hlen
  have hg0 : oneG ep (decide (d < 64)) nest S = (if (nextL ep S).2.err = 0 then
    (if (nextL ep S).1.kind = 2 then
      (if (nextL ep S).1.text = sNot then (if (decide (d < 64)) = true then (⟨3, [(nest (nextL ep S).2).1], 0, 0, 0, 0⟩, (nest (nextL ep S).2).2) else (zEx, failsL 62 (nextL ep S).1.at_ (nextL ep S).2)) else atomL ep (nextL ep S).1 (nextL ep S).2)
     else if (nextL ep S).1.kind = 4 then
      (if (nextL ep S).1.text = sOpen then (if (decide (d < 64)) = true then ((exprL ep nest (nextL ep S).2).1, wantL ep 4 sShut (exprL ep nest (nextL ep S).2).2) else (zEx, failsL 62 (nextL ep S).1.at_ (nextL ep S).2)) else (zEx, failsL 61 (nextL ep S).1.at_ (nextL ep S).2))
     else (zEx, failsL 61 (nextL ep S).1.at_ (nextL ep S).2))
  else (zEx, (nextL ep S).2)) := rfl
  have hF1 : (nextL ep S).1.kind ≠ 1 → Fin3 ep (nextL ep S).2 := next_fin hF
  rw [hg0]
  have hstep : ∀ t S1 W2, LOut (W.alloc exZero) g LL ep d S1 W2 → OnSt g LL ep W W2.heap.size t d ((W2.alloc (tokBox t)).alloc exZero) S1 #[.int .i64 0, .slice none 0 0, .int .i64 0, .int .u64 0, .int .i64 0, .int .u64 0] := fun t S1 W2 h => by
    have hb2 : Below W2.heap.size W2 ((W2.alloc (tokBox t)).alloc exZero) := ((Below.refl W2.heap.size W2).alloc (Nat.le_refl _) _).alloc (by simp) _
    have hs2 := h.chg.size
    rw [show (W.alloc exZero).heap.size = W.heap.size + 1 by simp] at hs2
    exact ⟨(hO1.trans h).below hb2, (hb2.block _ (by omega)).trans (chg_block h.chg hz (by omega)), blk_past _ (new_blk W2 _ _), new_blk' (by simp) _ _, by omega⟩
  have HSTEP := Lib.hid hstep
  clear hstep hg0 hnest hfin hlen hR hF hal hO1 hz
  generalize nextL ep S = P at HN hF1 ⊢
  obtain ⟨t, S1⟩ := P
  have HF1 := Lib.hid hF1; clear hF1
  have hwd : wrap64 d = d := by unfold wrap64; omega
  have hwd1 : wrap64 (d + 1 - 1) = d := by unfold wrap64; omega
  have HW := Lib.hid hwd; have HW1 := Lib.hid hwd1; clear hwd hwd1

  by_cases h0 : S1.err = 0
  · have he : (S1.err != 0) = false := by rw [bne_eq_false_iff_eq]; exact h0
    rw [if_pos h0]
    by_cases hk2 : t.kind = 2
    · have hF2 := HF1.out (show t.kind ≠ 1 by rw [hk2]; decide)
      have HF2 := Lib.hid hF2; clear hF2
      have b2 : (t.kind == 2) = true := by rw [beq_iff_eq]; exact hk2
      have b4 : (t.kind == 4) = false := by rw [beq_eq_false_iff_ne, hk2]; decide
      rw [if_pos hk2]
      by_cases hn : t.text = sNot
      · have bn := lit_yes not_list hn
        rw [if_pos hn]
        by_cases hlt : d < 64
        · have hdl : deepL ep d t S1 = (true, S1) := by unfold deepL; rw [if_pos hlt]
          rw [if_pos (decide_eq_true hlt)]
          have HD := Lib.hid (fun Wx (h : RfS Wx g LL ep d S1) => deeper_ref g LL ep d t S1 Wx h0 hd0 hd h)
          rw [hdl] at HD
          have HNE := Lib.hid (HNEST.out hlt)
          clear hdl hn hk2
          go_enter Tryz.func92, Tryz.ntmps92
          go_wp2_with fail
          refine HN.out.mono ?_
          rintro e W2 ⟨rfl, hO2⟩
          have hS3 := HSTEP.out t S1 W2 hO2
          obtain ⟨q0, q1, q2, q3, qf⟩ := blk4 hS3.hT
          obtain ⟨y0, y1, y2, y3, y4, y5, yf⟩ := blk6 hS3.hX
          have HS3 := Lib.hid hS3
          clear hO2 hS3
          unfold tkVal
          go_wp2_with fail
          refine (field_ref t.text _).mono ?_
          rintro e W4 ⟨rfl, hD4⟩
          have hS4 := HS3.out.below (Drawn0.below hD4)
          clear q0 q1 q2 q3 qf y0 y1 y2 y3 y4 y5 yf
          obtain ⟨q0, q1, q2, q3, qf⟩ := blk4 hS4.hT
          obtain ⟨y0, y1, y2, y3, y4, y5, yf⟩ := blk6 hS4.hX
          obtain ⟨z0, z1, z2, z3, z4, z5, zf⟩ := blk6 hS4.hB
          have hy5 := rfs_err hS4.out.st
          have HS4 := Lib.hid hS4
          have hT1 := hS4.hT1
          clear hD4 hS4 HS3
          go_wp2_with fail
          refine (HD.out W4 HS4.out.out.st).mono ?_
          rintro e W5 ⟨rfl, hO5⟩
          have HS5 := Lib.hid (HS4.out.step hgW hO5)
          clear q0 q1 q2 q3 qf y0 y1 y2 y3 y4 y5 yf z0 z1 z2 z3 z4 z5 zf hy5
          obtain ⟨q0, q1, q2, q3, qf⟩ := blk4 HS5.out.hT
          obtain ⟨y0, y1, y2, y3, y4, y5, yf⟩ := blk6 HS5.out.hX
          obtain ⟨z0, z1, z2, z3, z4, z5, zf⟩ := blk6 HS5.out.hB
          have hy5 := rfs_err HS5.out.out.st
          clear hO5 HS4 HD
          go_wp2_with fail
          refine (HNE.out S1 W5 HF2.out HS5.out.out.st).mono ?_
          rintro e W6 ⟨v6, rfl, hX6, hO6⟩
          obtain ⟨x6, S6, hP6⟩ : ∃ x6 S6, nest S1 = (x6, S6) := ⟨_, _, rfl⟩
          rw [hP6] at hX6 hO6 ⊢
          have HP6 := Lib.hid hP6; clear hP6
          obtain ⟨A6, c6, rfl⟩ := Kd.R_slice hX6
          have hs5 : W2.heap.size + 1 < W5.heap.size := HS5.out.lt
          have hs6 := hO6.chg.size
          have hS7 := (HS5.out.step hgW hO6).alloc (.cells (exCells x6 (.slice A6 x6.f1.length c6)).toArray 37)
          have hrow := ex_one hX6 (Nat.le_refl _) hs6
          clear q0 q1 q2 q3 qf y0 y1 y2 y3 y4 y5 yf z0 z1 z2 z3 z4 z5 zf hy5
          obtain ⟨q0, q1, q2, q3, qf⟩ := blk4 hS7.hT
          obtain ⟨y0, y1, y2, y3, y4, y5, yf⟩ := blk6 hS7.hX
          obtain ⟨z0, z1, z2, z3, z4, z5, zf⟩ := blk6 hS7.hB
          have hy5 := rfs_err hS7.out.st
          have hS8 := hS7.sets6 hgW (.int .i64 3) (.slice (some ⟨W6.heap.size, 0, none⟩) 1 1) (.int .i64 0) (.int .u64 0) (.int .i64 0) (.int .u64 0)
          have hS9 := hS8.deep hgW d
          obtain ⟨dd, df, -⟩ := rfs_deep hS7.out.st
          obtain ⟨ee, ef, -⟩ := rfs_deep hS8.out.st
          obtain ⟨o0, o1, o2, o3, o4, o5, of_⟩ := blk6 hS9.hX
          obtain ⟨l0, l1, l2, l3, l4, l5, lf⟩ := blk6 hS9.hB
          obtain ⟨m0, m1, m2, m3, m4, m5, mf⟩ := blk6 hS8.hX
          obtain ⟨n0, n1, n2, n3, n4, n5, nf⟩ := blk6 hS8.hB
          have HS9 := Lib.hid hS9; have HROW := Lib.hid hrow
          have hT2 := hS9.lt
          clear hX6 hO6 hS7 hS8 hS9 hrow HS5
          have hwd := HW.out; have hwd1 := HW1.out
          unfold exAgg
          go_wp2
          have hcX := ((Chg.refl (fun k => k = W2.heap.size + 1 ∨ k = g) (W6.alloc (.cells (exCells x6 (.slice A6 x6.f1.length c6)).toArray 37))).sets6' (W2.heap.size + 1) (fun k e => .inl e) (.int .i64 3) (.slice (some ⟨W6.heap.size, 0, none⟩) 1 1) (.int .i64 0) (.int .u64 0) (.int .i64 0) (.int .u64 0)).trans (Chg.of_set _ g 4 (.int .i64 d)) (fun k e => .inl (.inr e))
          have hb9 := blk_sets6 HS9.out.hB (.int .i64 3) (.slice (some ⟨W6.heap.size, 0, none⟩) 1 1) (.int .i64 0) (.int .u64 0) (.int .i64 0) (.int .u64 0)
          obtain ⟨r0, r1, r2, r3, r4, r5, rf⟩ := blk6 hb9
          refine bodyPost_ret (v := exAgg ⟨3, [x6], 0, 0, 0, 0⟩ (.slice (some ⟨W6.heap.size, 0, none⟩) 1 1)) (by simp [results, Tryz.results92, go_sem, r0, r1, r2, r3, r4, r5, exAgg, zEx]) rfl ?_
          try rw [HP6.out]
          exact ⟨_, rfl, on_end HS9.out hgW ⟨3, [x6], 0, 0, 0, 0⟩ (some ⟨W6.heap.size, 0, none⟩) 1 W5.heap.size (HROW.out.chg hcX (fun k e => by omega)) (by omega)⟩
        · have hdl : deepL ep d t S1 = (false, failsL 62 t.at_ S1) := by unfold deepL; rw [if_neg hlt]
          rw [if_neg (by simpa using hlt)]
          have HD := Lib.hid (fun Wx (h : RfS Wx g LL ep d S1) => deeper_ref g LL ep d t S1 Wx h0 hd0 hd h)
          rw [hdl] at HD
          clear hdl hn hk2
          go_enter Tryz.func92, Tryz.ntmps92
          go_wp2_with fail
          refine HN.out.mono ?_
          rintro e W2 ⟨rfl, hO2⟩
          have hS3 := HSTEP.out t S1 W2 hO2
          obtain ⟨q0, q1, q2, q3, qf⟩ := blk4 hS3.hT
          obtain ⟨y0, y1, y2, y3, y4, y5, yf⟩ := blk6 hS3.hX
          have HS3 := Lib.hid hS3
          clear hO2 hS3
          unfold tkVal
          go_wp2_with fail
          refine (field_ref t.text _).mono ?_
          rintro e W4 ⟨rfl, hD4⟩
          have hS4 := HS3.out.below (Drawn0.below hD4)
          clear q0 q1 q2 q3 qf y0 y1 y2 y3 y4 y5 yf
          obtain ⟨q0, q1, q2, q3, qf⟩ := blk4 hS4.hT
          obtain ⟨y0, y1, y2, y3, y4, y5, yf⟩ := blk6 hS4.hX
          obtain ⟨z0, z1, z2, z3, z4, z5, zf⟩ := blk6 hS4.hB
          have hy5 := rfs_err hS4.out.st
          have HS4 := Lib.hid hS4
          have hT1 := hS4.hT1
          clear hD4 hS4 HS3
          go_wp2_with fail
          refine (HD.out W4 HS4.out.out.st).mono ?_
          rintro e W5 ⟨rfl, hO5⟩
          have HS5 := Lib.hid (HS4.out.step hgW hO5)
          clear q0 q1 q2 q3 qf y0 y1 y2 y3 y4 y5 yf z0 z1 z2 z3 z4 z5 zf hy5
          obtain ⟨q0, q1, q2, q3, qf⟩ := blk4 HS5.out.hT
          obtain ⟨y0, y1, y2, y3, y4, y5, yf⟩ := blk6 HS5.out.hX
          obtain ⟨z0, z1, z2, z3, z4, z5, zf⟩ := blk6 HS5.out.hB
          have hy5 := rfs_err HS5.out.out.st
          clear hO5 HS4 HD
          have HS6 := Lib.hid (HS5.out.deep hgW d)
          obtain ⟨dd, df, -⟩ := rfs_deep HS5.out.out.st
          obtain ⟨o0, o1, o2, o3, o4, o5, of_⟩ := blk6 HS6.out.hX
          obtain ⟨l0, l1, l2, l3, l4, l5, lf⟩ := blk6 HS6.out.hB
          have hwd := HW.out; have hwd1 := HW1.out
          go_wp2
          have hb9 := blk_sets6 HS6.out.hB (.int .i64 0) (.slice none 0 0) (.int .i64 0) (.int .u64 0) (.int .i64 0) (.int .u64 0)
          obtain ⟨r0, r1, r2, r3, r4, r5, rf⟩ := blk6 hb9
          refine bodyPost_ret (v := exAgg zEx (.slice none 0 0)) (by simp [results, Tryz.results92, go_sem, r0, r1, r2, r3, r4, r5, exAgg, zEx]) rfl ?_
          exact ⟨_, rfl, on_end HS6.out hgW zEx none 0 (W.heap.size + 1) (Kd.R_nil _ _ _ _ _) (by omega)⟩
      · have bn := lit_no not_list hn
        rw [if_neg hn]
        have hat : atomL ep t S1 = (if t.text = sTrue then (⟨1, [], 0, 0, 0, 0⟩, S1) else if t.text = sFalse then (⟨2, [], 0, 0, 0, 0⟩, S1) else if 0 ≤ fieldT t.text then testL ep (fieldT t.text) S1 else (zEx, failsL 61 t.at_ S1)) := by unfold atomL; rw [if_pos hk2]
        rw [hat]
        clear hat
        by_cases ht : t.text = sTrue
        · have bt1 := lit_yes true_list ht
          rw [if_pos ht]
          clear hn hk2 h0 ht
          go_enter Tryz.func92, Tryz.ntmps92
          go_wp2_with fail
          refine HN.out.mono ?_
          rintro e W2 ⟨rfl, hO2⟩
          have hS3 := HSTEP.out t S1 W2 hO2
          obtain ⟨q0, q1, q2, q3, qf⟩ := blk4 hS3.hT
          obtain ⟨y0, y1, y2, y3, y4, y5, yf⟩ := blk6 hS3.hX
          have HS3 := Lib.hid hS3
          clear hO2 hS3
          unfold tkVal
          go_wp2_with fail
          refine (field_ref t.text _).mono ?_
          rintro e W4 ⟨rfl, hD4⟩
          have hS4 := HS3.out.below (Drawn0.below hD4)
          clear q0 q1 q2 q3 qf y0 y1 y2 y3 y4 y5 yf
          obtain ⟨q0, q1, q2, q3, qf⟩ := blk4 hS4.hT
          obtain ⟨y0, y1, y2, y3, y4, y5, yf⟩ := blk6 hS4.hX
          obtain ⟨z0, z1, z2, z3, z4, z5, zf⟩ := blk6 hS4.hB
          have hy5 := rfs_err hS4.out.st
          have HS4 := Lib.hid hS4
          have hT1 := hS4.hT1
          clear hD4 hS4 HS3
          have HS6 := Lib.hid (HS4.out.set0 hgW (.int .i64 1))
          obtain ⟨o0, o1, o2, o3, o4, o5, of_⟩ := blk6 HS6.out.hX
          obtain ⟨l0, l1, l2, l3, l4, l5, lf⟩ := blk6 HS6.out.hB
          go_wp2
          have hb9 := blk_sets6 HS6.out.hB (.int .i64 1) (.slice none 0 0) (.int .i64 0) (.int .u64 0) (.int .i64 0) (.int .u64 0)
          obtain ⟨r0, r1, r2, r3, r4, r5, rf⟩ := blk6 hb9
          refine bodyPost_ret (v := exAgg ⟨1, [], 0, 0, 0, 0⟩ (.slice none 0 0)) (by simp [results, Tryz.results92, go_sem, r0, r1, r2, r3, r4, r5, exAgg, zEx]) rfl ?_
          exact ⟨_, rfl, on_end HS6.out hgW ⟨1, [], 0, 0, 0, 0⟩ none 0 (W.heap.size + 1) (Kd.R_nil _ _ _ _ _) (by omega)⟩
        have bt1 := lit_no true_list ht
        rw [if_neg ht]
        by_cases hf : t.text = sFalse
        · have bt2 := lit_yes false_list hf
          rw [if_pos hf]
          clear hn hk2 h0 hf
          go_enter Tryz.func92, Tryz.ntmps92
          go_wp2_with fail
          refine HN.out.mono ?_
          rintro e W2 ⟨rfl, hO2⟩
          have hS3 := HSTEP.out t S1 W2 hO2
          obtain ⟨q0, q1, q2, q3, qf⟩ := blk4 hS3.hT
          obtain ⟨y0, y1, y2, y3, y4, y5, yf⟩ := blk6 hS3.hX
          have HS3 := Lib.hid hS3
          clear hO2 hS3
          unfold tkVal
          go_wp2_with fail
          refine (field_ref t.text _).mono ?_
          rintro e W4 ⟨rfl, hD4⟩
          have hS4 := HS3.out.below (Drawn0.below hD4)
          clear q0 q1 q2 q3 qf y0 y1 y2 y3 y4 y5 yf
          obtain ⟨q0, q1, q2, q3, qf⟩ := blk4 hS4.hT
          obtain ⟨y0, y1, y2, y3, y4, y5, yf⟩ := blk6 hS4.hX
          obtain ⟨z0, z1, z2, z3, z4, z5, zf⟩ := blk6 hS4.hB
          have hy5 := rfs_err hS4.out.st
          have HS4 := Lib.hid hS4
          have hT1 := hS4.hT1
          clear hD4 hS4 HS3
          have HS6 := Lib.hid (HS4.out.set0 hgW (.int .i64 2))
          obtain ⟨o0, o1, o2, o3, o4, o5, of_⟩ := blk6 HS6.out.hX
          obtain ⟨l0, l1, l2, l3, l4, l5, lf⟩ := blk6 HS6.out.hB
          go_wp2
          have hb9 := blk_sets6 HS6.out.hB (.int .i64 2) (.slice none 0 0) (.int .i64 0) (.int .u64 0) (.int .i64 0) (.int .u64 0)
          obtain ⟨r0, r1, r2, r3, r4, r5, rf⟩ := blk6 hb9
          refine bodyPost_ret (v := exAgg ⟨2, [], 0, 0, 0, 0⟩ (.slice none 0 0)) (by simp [results, Tryz.results92, go_sem, r0, r1, r2, r3, r4, r5, exAgg, zEx]) rfl ?_
          exact ⟨_, rfl, on_end HS6.out hgW ⟨2, [], 0, 0, 0, 0⟩ none 0 (W.heap.size + 1) (Kd.R_nil _ _ _ _ _) (by omega)⟩
        have bt2 := lit_no false_list hf
        rw [if_neg hf]
        by_cases hfl : 0 ≤ fieldT t.text
        · have bf : decide (0 ≤ fieldT t.text) = true := decide_eq_true hfl
          rw [if_pos hfl]
          clear hn hk2 h0 ht hf
          go_enter Tryz.func92, Tryz.ntmps92
          go_wp2_with fail
          refine HN.out.mono ?_
          rintro e W2 ⟨rfl, hO2⟩
          have hS3 := HSTEP.out t S1 W2 hO2
          obtain ⟨q0, q1, q2, q3, qf⟩ := blk4 hS3.hT
          obtain ⟨y0, y1, y2, y3, y4, y5, yf⟩ := blk6 hS3.hX
          have HS3 := Lib.hid hS3
          clear hO2 hS3
          unfold tkVal
          go_wp2_with fail
          refine (field_ref t.text _).mono ?_
          rintro e W4 ⟨rfl, hD4⟩
          have hS4 := HS3.out.below (Drawn0.below hD4)
          clear q0 q1 q2 q3 qf y0 y1 y2 y3 y4 y5 yf
          obtain ⟨q0, q1, q2, q3, qf⟩ := blk4 hS4.hT
          obtain ⟨y0, y1, y2, y3, y4, y5, yf⟩ := blk6 hS4.hX
          obtain ⟨z0, z1, z2, z3, z4, z5, zf⟩ := blk6 hS4.hB
          have hy5 := rfs_err hS4.out.st
          have HS4 := Lib.hid hS4
          have hT1 := hS4.hT1
          clear hD4 hS4 HS3
          go_wp2_with fail
          refine (test_ref g LL ep d (fieldT t.text) S1 W4 HF2.out HS4.out.out.st).mono ?_
          rintro e W6 ⟨v6, rfl, hX6, hO6⟩
          obtain ⟨x6, S6, hP6⟩ : ∃ x6 S6, testL ep (fieldT t.text) S1 = (x6, S6) := ⟨_, _, rfl⟩
          rw [hP6] at hX6 hO6 ⊢
          have HP6 := Lib.hid hP6; clear hP6
          obtain ⟨A6, c6, rfl⟩ := Kd.R_slice hX6
          have hs4 : W2.heap.size + 1 < W4.heap.size := HS4.out.lt
          have hS6 := HS4.out.step hgW hO6
          clear q0 q1 q2 q3 qf y0 y1 y2 y3 y4 y5 yf z0 z1 z2 z3 z4 z5 zf hy5
          obtain ⟨q0, q1, q2, q3, qf⟩ := blk4 hS6.hT
          obtain ⟨y0, y1, y2, y3, y4, y5, yf⟩ := blk6 hS6.hX
          obtain ⟨z0, z1, z2, z3, z4, z5, zf⟩ := blk6 hS6.hB
          have hy5 := rfs_err hS6.out.st
          have hS7 := hS6.sets6 hgW (.int .i64 x6.f0) (.slice A6 x6.f1.length c6) (.int .i64 x6.f2) (.int .u64 x6.f3) (.int .i64 x6.f4) (.int .u64 x6.f5)
          obtain ⟨o0, o1, o2, o3, o4, o5, of_⟩ := blk6 hS7.hX
          obtain ⟨l0, l1, l2, l3, l4, l5, lf⟩ := blk6 hS7.hB
          have HS7 := Lib.hid hS7; have HX6 := Lib.hid hX6
          clear hX6 hO6 hS6 hS7 HS4
          unfold exAgg
          go_wp2
          have hcX := (Chg.refl (fun k => k = W2.heap.size + 1) W6).sets6' (W2.heap.size + 1) (fun k e => e) (.int .i64 x6.f0) (.slice A6 x6.f1.length c6) (.int .i64 x6.f2) (.int .u64 x6.f3) (.int .i64 x6.f4) (.int .u64 x6.f5)
          have hb9 := blk_sets6 HS7.out.hB (.int .i64 x6.f0) (.slice A6 x6.f1.length c6) (.int .i64 x6.f2) (.int .u64 x6.f3) (.int .i64 x6.f4) (.int .u64 x6.f5)
          obtain ⟨r0, r1, r2, r3, r4, r5, rf⟩ := blk6 hb9
          refine bodyPost_ret (v := exAgg x6 (.slice A6 x6.f1.length c6)) (by simp [results, Tryz.results92, go_sem, r0, r1, r2, r3, r4, r5, exAgg, zEx]) rfl ?_
          try rw [HP6.out]
          exact ⟨_, rfl, on_end HS7.out hgW x6 A6 c6 W4.heap.size (HX6.out.chg hcX (fun k e => by omega)) (by omega)⟩
        · have bf : decide (0 ≤ fieldT t.text) = false := decide_eq_false hfl
          have hfl2 : fieldT t.text < 0 := by omega
          rw [if_neg hfl]
          clear hn hk2 h0 ht hf hfl
          go_enter Tryz.func92, Tryz.ntmps92
          go_wp2_with fail
          refine HN.out.mono ?_
          rintro e W2 ⟨rfl, hO2⟩
          have hS3 := HSTEP.out t S1 W2 hO2
          obtain ⟨q0, q1, q2, q3, qf⟩ := blk4 hS3.hT
          obtain ⟨y0, y1, y2, y3, y4, y5, yf⟩ := blk6 hS3.hX
          have HS3 := Lib.hid hS3
          clear hO2 hS3
          unfold tkVal
          go_wp2_with fail
          refine (field_ref t.text _).mono ?_
          rintro e W4 ⟨rfl, hD4⟩
          have hS4 := HS3.out.below (Drawn0.below hD4)
          clear q0 q1 q2 q3 qf y0 y1 y2 y3 y4 y5 yf
          obtain ⟨q0, q1, q2, q3, qf⟩ := blk4 hS4.hT
          obtain ⟨y0, y1, y2, y3, y4, y5, yf⟩ := blk6 hS4.hX
          obtain ⟨z0, z1, z2, z3, z4, z5, zf⟩ := blk6 hS4.hB
          have hy5 := rfs_err hS4.out.st
          have HS4 := Lib.hid hS4
          have hT1 := hS4.hT1
          clear hD4 hS4 HS3
          go_wp2_with fail
          refine (fails_any g LL ep d S1 61 t.at_ W4 HS4.out.out.st).mono ?_
          rintro e W6 ⟨rfl, hO6⟩
          have HS6 := Lib.hid (HS4.out.step hgW hO6)
          clear q0 q1 q2 q3 qf y0 y1 y2 y3 y4 y5 yf z0 z1 z2 z3 z4 z5 zf hy5
          obtain ⟨q0, q1, q2, q3, qf⟩ := blk4 HS6.out.hT
          obtain ⟨y0, y1, y2, y3, y4, y5, yf⟩ := blk6 HS6.out.hX
          obtain ⟨z0, z1, z2, z3, z4, z5, zf⟩ := blk6 HS6.out.hB
          have hy5 := rfs_err HS6.out.out.st
          clear hO6
          go_wp2
          have hb9 := blk_sets6 HS6.out.hB (.int .i64 0) (.slice none 0 0) (.int .i64 0) (.int .u64 0) (.int .i64 0) (.int .u64 0)
          obtain ⟨r0, r1, r2, r3, r4, r5, rf⟩ := blk6 hb9
          refine bodyPost_ret (v := exAgg zEx (.slice none 0 0)) (by simp [results, Tryz.results92, go_sem, r0, r1, r2, r3, r4, r5, exAgg, zEx]) rfl ?_
          exact ⟨_, rfl, on_end HS6.out hgW zEx none 0 (W.heap.size + 1) (Kd.R_nil _ _ _ _ _) (by omega)⟩
    · have b2 : (t.kind == 2) = false := by rw [beq_eq_false_iff_ne]; exact hk2
      rw [if_neg hk2]
      by_cases hk4 : t.kind = 4
      · have hF2 := HF1.out (show t.kind ≠ 1 by rw [hk4]; decide)
        have HF2 := Lib.hid hF2; clear hF2
        have b4 : (t.kind == 4) = true := by rw [beq_iff_eq]; exact hk4
        rw [if_pos hk4]
        by_cases hn : t.text = sOpen
        · have bn := lit_yes open_list hn
          rw [if_pos hn]
          by_cases hlt : d < 64
          · have hdl : deepL ep d t S1 = (true, S1) := by unfold deepL; rw [if_pos hlt]
            rw [if_pos (decide_eq_true hlt)]
            have HD := Lib.hid (fun Wx (h : RfS Wx g LL ep d S1) => deeper_ref g LL ep d t S1 Wx h0 hd0 hd h)
            rw [hdl] at HD
            have HNE := Lib.hid (HNEST.out hlt)
            clear hdl hn hk2 hk4
            go_enter Tryz.func92, Tryz.ntmps92
            go_wp2_with fail
            refine HN.out.mono ?_
            rintro e W2 ⟨rfl, hO2⟩
            have hS3 := HSTEP.out t S1 W2 hO2
            obtain ⟨q0, q1, q2, q3, qf⟩ := blk4 hS3.hT
            obtain ⟨y0, y1, y2, y3, y4, y5, yf⟩ := blk6 hS3.hX
            have HS3 := Lib.hid hS3
            clear hO2 hS3
            unfold tkVal
            go_wp2_with fail
            refine (field_ref t.text _).mono ?_
            rintro e W4 ⟨rfl, hD4⟩
            have hS4 := HS3.out.below (Drawn0.below hD4)
            clear q0 q1 q2 q3 qf y0 y1 y2 y3 y4 y5 yf
            obtain ⟨q0, q1, q2, q3, qf⟩ := blk4 hS4.hT
            obtain ⟨y0, y1, y2, y3, y4, y5, yf⟩ := blk6 hS4.hX
            obtain ⟨z0, z1, z2, z3, z4, z5, zf⟩ := blk6 hS4.hB
            have hy5 := rfs_err hS4.out.st
            have HS4 := Lib.hid hS4
            have hT1 := hS4.hT1
            clear hD4 hS4 HS3
            go_wp2_with fail
            refine (HD.out W4 HS4.out.out.st).mono ?_
            rintro e W5 ⟨rfl, hO5⟩
            have HS5 := Lib.hid (HS4.out.step hgW hO5)
            clear q0 q1 q2 q3 qf y0 y1 y2 y3 y4 y5 yf z0 z1 z2 z3 z4 z5 zf hy5
            obtain ⟨q0, q1, q2, q3, qf⟩ := blk4 HS5.out.hT
            obtain ⟨y0, y1, y2, y3, y4, y5, yf⟩ := blk6 HS5.out.hX
            obtain ⟨z0, z1, z2, z3, z4, z5, zf⟩ := blk6 HS5.out.hB
            have hy5 := rfs_err HS5.out.out.st
            clear hO5 HS4 HD
            go_wp2_with fail
            refine (Expr_ref g LL ep (d + 1) (allL ep nest) S1 W5 HF2.out HS5.out.out.st (fun _ h => all_fin HFIN.out h) (fun _ => all_len ep HLEN.out _) (fun S2 W3 h1 h2 => all_ref g LL ep (d + 1) nest S2 W3 h1 h2 HFIN.out HLEN.out HNE.out)).mono ?_
            rintro e W6 ⟨v6, rfl, hX6, hO6⟩
            have hFE : Fin3 ep (exprL ep nest S1).2 := expr_fin HFIN.out HF2.out
            rw [← exprAL_is] at hX6 hO6 ⊢
            obtain ⟨x6, S6, hP6⟩ : ∃ x6 S6, exprL ep nest S1 = (x6, S6) := ⟨_, _, rfl⟩
            rw [hP6] at hX6 hO6 hFE ⊢
            have HP6 := Lib.hid hP6; clear hP6
            obtain ⟨A6, c6, rfl⟩ := Kd.R_slice hX6
            have hs5 : W2.heap.size + 1 < W5.heap.size := HS5.out.lt
            have hs6 := hO6.chg.size
            have hS6 := HS5.out.step hgW hO6
            clear q0 q1 q2 q3 qf y0 y1 y2 y3 y4 y5 yf z0 z1 z2 z3 z4 z5 zf hy5
            obtain ⟨q0, q1, q2, q3, qf⟩ := blk4 hS6.hT
            obtain ⟨y0, y1, y2, y3, y4, y5, yf⟩ := blk6 hS6.hX
            obtain ⟨z0, z1, z2, z3, z4, z5, zf⟩ := blk6 hS6.hB
            have hy5 := rfs_err hS6.out.st
            have hS7 := hS6.sets6 hgW (.int .i64 x6.f0) (.slice A6 x6.f1.length c6) (.int .i64 x6.f2) (.int .u64 x6.f3) (.int .i64 x6.f4) (.int .u64 x6.f5)
            have HS7 := Lib.hid hS7; have HX6 := Lib.hid hX6; have HFE := Lib.hid hFE
            clear hX6 hO6 hFE hS6 hS7 HS5
            unfold exAgg
            go_wp2_with fail
            refine (want_ref g LL ep (d + 1) 4 sShut S6 _ HFE.out HS7.out.out.st).mono ?_
            rintro e W8 ⟨rfl, hO8⟩
            have hS8 := HS7.out.step hgW hO8
            have hS9 := hS8.deep hgW d
            have HC8 := Lib.hid hO8.chg
            clear q0 q1 q2 q3 qf y0 y1 y2 y3 y4 y5 yf z0 z1 z2 z3 z4 z5 zf hy5
            obtain ⟨q0, q1, q2, q3, qf⟩ := blk4 hS8.hT
            obtain ⟨y0, y1, y2, y3, y4, y5, yf⟩ := blk6 hS8.hX
            obtain ⟨z0, z1, z2, z3, z4, z5, zf⟩ := blk6 hS8.hB
            have hy5 := rfs_err hS8.out.st
            obtain ⟨dd, df, -⟩ := rfs_deep hS8.out.st
            obtain ⟨o0, o1, o2, o3, o4, o5, of_⟩ := blk6 hS9.hX
            obtain ⟨l0, l1, l2, l3, l4, l5, lf⟩ := blk6 hS9.hB
            have HS9 := Lib.hid hS9
            clear hO8 hS8 hS9 HS7
            have hwd := HW.out; have hwd1 := HW1.out
            go_wp2
            have hcX := (Chg.refl (fun k => k = W2.heap.size + 1) W6).sets6' (W2.heap.size + 1) (fun k e => e) (.int .i64 x6.f0) (.slice A6 x6.f1.length c6) (.int .i64 x6.f2) (.int .u64 x6.f3) (.int .i64 x6.f4) (.int .u64 x6.f5)
            have hcD := Chg.of_set W8 g 4 (.int .i64 d)
            have hb9 := blk_sets6 HS9.out.hB (.int .i64 x6.f0) (.slice A6 x6.f1.length c6) (.int .i64 x6.f2) (.int .u64 x6.f3) (.int .i64 x6.f4) (.int .u64 x6.f5)
            obtain ⟨r0, r1, r2, r3, r4, r5, rf⟩ := blk6 hb9
            refine bodyPost_ret (v := exAgg x6 (.slice A6 x6.f1.length c6)) (by simp [results, Tryz.results92, go_sem, r0, r1, r2, r3, r4, r5, exAgg, zEx]) rfl ?_
            try rw [HP6.out]
            exact ⟨_, rfl, on_end HS9.out hgW x6 A6 c6 W5.heap.size (((HX6.out.chg hcX (fun k e => by omega)).chg HC8.out (fun k e => by omega)).chg hcD (fun k e => by omega)) (by omega)⟩
          · have hdl : deepL ep d t S1 = (false, failsL 62 t.at_ S1) := by unfold deepL; rw [if_neg hlt]
            rw [if_neg (by simpa using hlt)]
            have HD := Lib.hid (fun Wx (h : RfS Wx g LL ep d S1) => deeper_ref g LL ep d t S1 Wx h0 hd0 hd h)
            rw [hdl] at HD
            clear hdl hn hk2 hk4
            go_enter Tryz.func92, Tryz.ntmps92
            go_wp2_with fail
            refine HN.out.mono ?_
            rintro e W2 ⟨rfl, hO2⟩
            have hS3 := HSTEP.out t S1 W2 hO2
            obtain ⟨q0, q1, q2, q3, qf⟩ := blk4 hS3.hT
            obtain ⟨y0, y1, y2, y3, y4, y5, yf⟩ := blk6 hS3.hX
            have HS3 := Lib.hid hS3
            clear hO2 hS3
            unfold tkVal
            go_wp2_with fail
            refine (field_ref t.text _).mono ?_
            rintro e W4 ⟨rfl, hD4⟩
            have hS4 := HS3.out.below (Drawn0.below hD4)
            clear q0 q1 q2 q3 qf y0 y1 y2 y3 y4 y5 yf
            obtain ⟨q0, q1, q2, q3, qf⟩ := blk4 hS4.hT
            obtain ⟨y0, y1, y2, y3, y4, y5, yf⟩ := blk6 hS4.hX
            obtain ⟨z0, z1, z2, z3, z4, z5, zf⟩ := blk6 hS4.hB
            have hy5 := rfs_err hS4.out.st
            have HS4 := Lib.hid hS4
            have hT1 := hS4.hT1
            clear hD4 hS4 HS3
            go_wp2_with fail
            refine (HD.out W4 HS4.out.out.st).mono ?_
            rintro e W5 ⟨rfl, hO5⟩
            have HS5 := Lib.hid (HS4.out.step hgW hO5)
            clear q0 q1 q2 q3 qf y0 y1 y2 y3 y4 y5 yf z0 z1 z2 z3 z4 z5 zf hy5
            obtain ⟨q0, q1, q2, q3, qf⟩ := blk4 HS5.out.hT
            obtain ⟨y0, y1, y2, y3, y4, y5, yf⟩ := blk6 HS5.out.hX
            obtain ⟨z0, z1, z2, z3, z4, z5, zf⟩ := blk6 HS5.out.hB
            have hy5 := rfs_err HS5.out.out.st
            clear hO5 HS4 HD
            have HS6 := Lib.hid (HS5.out.deep hgW d)
            obtain ⟨dd, df, -⟩ := rfs_deep HS5.out.out.st
            obtain ⟨o0, o1, o2, o3, o4, o5, of_⟩ := blk6 HS6.out.hX
            obtain ⟨l0, l1, l2, l3, l4, l5, lf⟩ := blk6 HS6.out.hB
            have hwd := HW.out; have hwd1 := HW1.out
            go_wp2
            have hb9 := blk_sets6 HS6.out.hB (.int .i64 0) (.slice none 0 0) (.int .i64 0) (.int .u64 0) (.int .i64 0) (.int .u64 0)
            obtain ⟨r0, r1, r2, r3, r4, r5, rf⟩ := blk6 hb9
            refine bodyPost_ret (v := exAgg zEx (.slice none 0 0)) (by simp [results, Tryz.results92, go_sem, r0, r1, r2, r3, r4, r5, exAgg, zEx]) rfl ?_
            exact ⟨_, rfl, on_end HS6.out hgW zEx none 0 (W.heap.size + 1) (Kd.R_nil _ _ _ _ _) (by omega)⟩
        · have bn := lit_no open_list hn
          rw [if_neg hn]
          clear hn hk2 hk4 h0
          go_enter Tryz.func92, Tryz.ntmps92
          go_wp2_with fail
          refine HN.out.mono ?_
          rintro e W2 ⟨rfl, hO2⟩
          have hS3 := HSTEP.out t S1 W2 hO2
          obtain ⟨q0, q1, q2, q3, qf⟩ := blk4 hS3.hT
          obtain ⟨y0, y1, y2, y3, y4, y5, yf⟩ := blk6 hS3.hX
          have HS3 := Lib.hid hS3
          clear hO2 hS3
          unfold tkVal
          go_wp2_with fail
          refine (field_ref t.text _).mono ?_
          rintro e W4 ⟨rfl, hD4⟩
          have hS4 := HS3.out.below (Drawn0.below hD4)
          clear q0 q1 q2 q3 qf y0 y1 y2 y3 y4 y5 yf
          obtain ⟨q0, q1, q2, q3, qf⟩ := blk4 hS4.hT
          obtain ⟨y0, y1, y2, y3, y4, y5, yf⟩ := blk6 hS4.hX
          obtain ⟨z0, z1, z2, z3, z4, z5, zf⟩ := blk6 hS4.hB
          have hy5 := rfs_err hS4.out.st
          have HS4 := Lib.hid hS4
          have hT1 := hS4.hT1
          clear hD4 hS4 HS3
          go_wp2_with fail
          refine (fails_any g LL ep d S1 61 t.at_ W4 HS4.out.out.st).mono ?_
          rintro e W6 ⟨rfl, hO6⟩
          have HS6 := Lib.hid (HS4.out.step hgW hO6)
          clear q0 q1 q2 q3 qf y0 y1 y2 y3 y4 y5 yf z0 z1 z2 z3 z4 z5 zf hy5
          obtain ⟨q0, q1, q2, q3, qf⟩ := blk4 HS6.out.hT
          obtain ⟨y0, y1, y2, y3, y4, y5, yf⟩ := blk6 HS6.out.hX
          obtain ⟨z0, z1, z2, z3, z4, z5, zf⟩ := blk6 HS6.out.hB
          have hy5 := rfs_err HS6.out.out.st
          clear hO6
          go_wp2
          have hb9 := blk_sets6 HS6.out.hB (.int .i64 0) (.slice none 0 0) (.int .i64 0) (.int .u64 0) (.int .i64 0) (.int .u64 0)
          obtain ⟨r0, r1, r2, r3, r4, r5, rf⟩ := blk6 hb9
          refine bodyPost_ret (v := exAgg zEx (.slice none 0 0)) (by simp [results, Tryz.results92, go_sem, r0, r1, r2, r3, r4, r5, exAgg, zEx]) rfl ?_
          exact ⟨_, rfl, on_end HS6.out hgW zEx none 0 (W.heap.size + 1) (Kd.R_nil _ _ _ _ _) (by omega)⟩
      · have b4 : (t.kind == 4) = false := by rw [beq_eq_false_iff_ne]; exact hk4
        rw [if_neg hk4]
        clear hk2 hk4 h0
        go_enter Tryz.func92, Tryz.ntmps92
        go_wp2_with fail
        refine HN.out.mono ?_
        rintro e W2 ⟨rfl, hO2⟩
        have hS3 := HSTEP.out t S1 W2 hO2
        obtain ⟨q0, q1, q2, q3, qf⟩ := blk4 hS3.hT
        obtain ⟨y0, y1, y2, y3, y4, y5, yf⟩ := blk6 hS3.hX
        have HS3 := Lib.hid hS3
        clear hO2 hS3
        unfold tkVal
        go_wp2_with fail
        refine (field_ref t.text _).mono ?_
        rintro e W4 ⟨rfl, hD4⟩
        have hS4 := HS3.out.below (Drawn0.below hD4)
        clear q0 q1 q2 q3 qf y0 y1 y2 y3 y4 y5 yf
        obtain ⟨q0, q1, q2, q3, qf⟩ := blk4 hS4.hT
        obtain ⟨y0, y1, y2, y3, y4, y5, yf⟩ := blk6 hS4.hX
        obtain ⟨z0, z1, z2, z3, z4, z5, zf⟩ := blk6 hS4.hB
        have hy5 := rfs_err hS4.out.st
        have HS4 := Lib.hid hS4
        have hT1 := hS4.hT1
        clear hD4 hS4 HS3
        go_wp2_with fail
        refine (fails_any g LL ep d S1 61 t.at_ W4 HS4.out.out.st).mono ?_
        rintro e W6 ⟨rfl, hO6⟩
        have HS6 := Lib.hid (HS4.out.step hgW hO6)
        clear q0 q1 q2 q3 qf y0 y1 y2 y3 y4 y5 yf z0 z1 z2 z3 z4 z5 zf hy5
        obtain ⟨q0, q1, q2, q3, qf⟩ := blk4 HS6.out.hT
        obtain ⟨y0, y1, y2, y3, y4, y5, yf⟩ := blk6 HS6.out.hX
        obtain ⟨z0, z1, z2, z3, z4, z5, zf⟩ := blk6 HS6.out.hB
        have hy5 := rfs_err HS6.out.out.st
        clear hO6
        go_wp2
        have hb9 := blk_sets6 HS6.out.hB (.int .i64 0) (.slice none 0 0) (.int .i64 0) (.int .u64 0) (.int .i64 0) (.int .u64 0)
        obtain ⟨r0, r1, r2, r3, r4, r5, rf⟩ := blk6 hb9
        refine bodyPost_ret (v := exAgg zEx (.slice none 0 0)) (by simp [results, Tryz.results92, go_sem, r0, r1, r2, r3, r4, r5, exAgg, zEx]) rfl ?_
        exact ⟨_, rfl, on_end HS6.out hgW zEx none 0 (W.heap.size + 1) (Kd.R_nil _ _ _ _ _) (by omega)⟩
  · have he : (S1.err != 0) = true := by rw [bne_iff_ne]; exact h0
    rw [if_neg h0]
    clear h0
    go_enter Tryz.func92, Tryz.ntmps92
    go_wp2_with fail
    refine HN.out.mono ?_
    rintro e W2 ⟨rfl, hO2⟩
    have hS3 := HSTEP.out t S1 W2 hO2
    obtain ⟨q0, q1, q2, q3, qf⟩ := blk4 hS3.hT
    obtain ⟨y0, y1, y2, y3, y4, y5, yf⟩ := blk6 hS3.hX
    have HS3 := Lib.hid hS3
    clear hO2 hS3
    unfold tkVal
    go_wp2_with fail
    refine (field_ref t.text _).mono ?_
    rintro e W4 ⟨rfl, hD4⟩
    have hS4 := HS3.out.below (Drawn0.below hD4)
    clear q0 q1 q2 q3 qf y0 y1 y2 y3 y4 y5 yf
    obtain ⟨q0, q1, q2, q3, qf⟩ := blk4 hS4.hT
    obtain ⟨y0, y1, y2, y3, y4, y5, yf⟩ := blk6 hS4.hX
    obtain ⟨z0, z1, z2, z3, z4, z5, zf⟩ := blk6 hS4.hB
    have hy5 := rfs_err hS4.out.st
    have HS4 := Lib.hid hS4
    have hT1 := hS4.hT1
    clear hD4 hS4 HS3
    go_wp2
    have hb9 := blk_sets6 HS4.out.hB (.int .i64 0) (.slice none 0 0) (.int .i64 0) (.int .u64 0) (.int .i64 0) (.int .u64 0)
    obtain ⟨r0, r1, r2, r3, r4, r5, rf⟩ := blk6 hb9
    refine bodyPost_ret (v := exAgg zEx (.slice none 0 0)) (by simp [results, Tryz.results92, go_sem, r0, r1, r2, r3, r4, r5, exAgg, zEx]) rfl ?_
    exact ⟨_, rfl, on_end HS4.out hgW zEx none 0 (W.heap.size + 1) (Kd.R_nil _ _ _ _ _) (by omega)⟩
end Go.Proofs.YtlmopoipjolbgaaGreatDoor.LexW
namespace Go.Proofs.YtlmopoipjolbgaaGreatDoor.LexW
open Go.RowKit Go.Shelf Go.Proofs.YtlmopoipjolbgaaGreatDoor.LexS Go.Proofs.YtlmopoipjolbgaaGreatDoorW.PrintWords
set_option linter.unusedVariables false
set_option linter.unusedSimpArgs false

theorem one_ref (g : Nat) (LL : List Tk) (ep : EP) : ∀ (k : Nat), k ≤ 64 → ∀ (S : RS) (W : World), Fin3 ep S → RfS W g LL ep (64 - (k : Int)) S →
    Calls Tryz.prog 92 #[.pointer (some ⟨g, 0, none⟩)] W (ExL W g LL ep (64 - (k : Int)) (oneL ep k S)) := by
  intro k
  induction k with
  | zero =>
    intro _ S W hF hR
    have h := one_of g LL ep 64 (by decide) (by decide) (fun S => (zEx, S)) S W hF hR (fun _ h => h) (fun _ => Nat.le_refl _) (fun h => absurd h (by decide))
    rw [show decide ((64 : Int) < 64) = false by decide, ← oneG_zero] at h
    exact h
  | succ k ih =>
    intro hk S W hF hR
    have h := one_of g LL ep (64 - ((k + 1 : Nat) : Int)) (by omega) (by omega) (oneL ep k) S W hF hR (one_fin k) (one_len ep k) (fun _ S1 W1 h1 h2 => by
      have e : (64 - ((k + 1 : Nat) : Int) + 1) = 64 - (k : Int) := by omega
      rw [e] at h2 ⊢
      exact ih (by omega) S1 W1 h1 h2)
    rw [show decide ((64 - ((k + 1 : Nat) : Int)) < 64) = true by rw [decide_eq_true_eq]; omega, ← oneG_succ] at h
    exact h
theorem expr_ref (g : Nat) (LL : List Tk) (ep : EP) (S : RS) (W : World) (hF : Fin3 ep S) (hR : RfS W g LL ep 0 S) :
    Calls Tryz.prog 35 #[.pointer (some ⟨g, 0, none⟩)] W (ExL W g LL ep 0 (exprL ep (oneL ep 64) S)) := by
  rw [exprAL_is]
  exact Expr_ref g LL ep 0 (allL ep (oneL ep 64)) S W hF hR (fun _ h => all_fin (one_fin 64) h) (fun _ => all_len ep (one_len ep 64) _)
    (fun S2 W3 h1 h2 => all_ref g LL ep 0 (oneL ep 64) S2 W3 h1 h2 (one_fin 64) (one_len ep 64) (fun S4 W5 h3 h4 => one_ref g LL ep 64 (Nat.le_refl _) S4 W5 h3 h4))

set_option maxRecDepth 100000 in
set_option maxHeartbeats 1000000 in
theorem reader_ref (s : ByteArray) (W : World) (hlen : (toks s).1.length ≤ 65537) :
    Calls Tryz.prog 25 #[.string s] W fun e W' => ∃ g, e = .returned (.pointer (some ⟨g, 0, none⟩)) ∧ W.heap.size ≤ g ∧ RfS W' g (toks s).1 (toks s).2 0 ⟨(toks s).1, 0, 0⟩ ∧ Below W.heap.size W W' := by
  have HC := Lib.hid (rtokens_any s W)
  generalize toks s = P at *
  obtain ⟨L, ep⟩ := P
  go_enter Tryz.func25, Tryz.ntmps25
  go_wp2_with fail
  refine HC.out.mono ?_
  rintro e W2 ⟨⟨v, rfl, hO⟩, hb2⟩
  obtain ⟨A, c, rfl⟩ := Kd.R_slice hO
  have hal := (Below.refl W2.heap.size W2).alloc (Nat.le_refl _) (.cells #[.slice A L.length c, .int .i64 ep.1, .int .i64 ep.2, .int .i64 0, .int .i64 0, .int .i64 0, .int .i64 0] 64)
  have hT : RfT W2 W2.heap.size L A c := Kd.R_lower (Kd.R_mono (Kd.R_bound hO) (fun k hk => hk.2.2.1)) (Nat.zero_le _)
  have hT2 := hT.chg (Chg.of_below hal (fun _ => False)) (fun k e => e.elim)
  have hR : RfS (W2.alloc (.cells #[.slice A L.length c, .int .i64 ep.1, .int .i64 ep.2, .int .i64 0, .int .i64 0, .int .i64 0, .int .i64 0] 64)) W2.heap.size L ep 0 ⟨L, 0, 0⟩ := ⟨A, c, 0, new_blk W2 _ _, hT2, rfl, Nat.zero_le _, hlen⟩
  have HR := Lib.hid hR; have HB := Lib.hid (hb2.trans (hal.mono hb2.size)); have HS := Lib.hid hb2.size
  clear hO hb2 hal hT hT2 hR
  go_wp2
  go_ret
  exact ⟨W2.heap.size, rfl, HS.out, HR.out, HB.out⟩
end Go.Proofs.YtlmopoipjolbgaaGreatDoor.LexW
