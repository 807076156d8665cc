/-
  Layer 6 (policy): what stands between and and or.
-/
import Derived.Test.YtlmopoipjolbgaaDoorPolR9
namespace Go.Proofs.YtlmopoipjolbgaaDoor.LexW
open Go.RowKit Go.Shelf Go.Proofs.YtlmopoipjolbgaaDoor.LexS Go.Proofs.YtlmopoipjolbgaaDoorW.PrintWords
set_option linter.unusedVariables false
set_option linter.unusedSimpArgs false

theorem nested_deep (s : ByteArray) (ep : EP) (g : Nat) (L : List Tk) (w0 W : World) (fv : Value) (hO : Okw w0 g W) (hR : Rdr s ep g L 64 W) :
    Calls Tryd.prog 85 #[.pointer (some ⟨g, 0, none⟩), fv] W fun e W' => e = panics (badP 62 L) ∧ Chg (fun k => k = g) W W' := by
  have hal := (Below.refl W.heap.size W).alloc (Nat.le_refl _) exZero
  have HB := Lib.hid (bad_any s ep g L 64 62 (W.alloc exZero) (hR.below hal))
  obtain ⟨t, e, hB, rest, j, rfl, rfl, hT⟩ := hR
  obtain ⟨c0, c1, c2, c3, c4, c5, c6⟩ := rdb_cell hB
  have a6 := cell_past exZero c6
  have HAL := Lib.hid hal
  clear hal hB hT c0 c1 c2 c3 c4 c5 hO
  go_enter Tryd.func85, Tryd.ntmps85
  go_wp2_with fail
  refine HB.out.mono ?_
  rintro e W2 ⟨he, rfl⟩
  unfold panics at he
  subst he
  go_wp2
  exact ⟨rfl, rfl, Chg.of_below HAL.out _⟩

def notP (one : List Tk → Rd Ex) (L : List Tk) : Rd Ex := bnd (one L) (fun p => .ok (⟨3, [p.1], 0, 0, 0, 0⟩, p.2))
def openP (ep : EP) (one : List Tk → Rd Ex) (L : List Tk) : Rd Ex := bnd (exprP ep one L) (fun p => bnd (wantP ep sShut p.2) (fun q => .ok (p.1, q.2)))

set_option maxRecDepth 100000 in
set_option maxHeartbeats 1000000 in
theorem not_of (s : ByteArray) (ep : EP) (g b : Nat) (L : List Tk) (d : Int) (w0 W : World) (one : List Tk → Rd Ex) (hone : OneC s ep g w0 d one) (hL : L.length ≤ 65537) (hO : Okw w0 g W) (hR : Rdr s ep g L d W) (hH : Held W b g) :
    Calls Tryd.prog 86 #[.pointer (some ⟨b, 0, none⟩)] W (Outs g W (notP one L) (ExOut s ep g d W.heap.size)) := by
  have hgW := hR.lt
  have hal := (Below.refl W.heap.size W).alloc (Nat.le_refl _) exZero
  have hz1 := new_blk W #[.int .i64 0, .slice none 0 0, .int .i64 0, .int .u64 0, .int .i64 0, .int .u64 0] 58
  have hc := cell_past exZero hH.cell
  have HT := Lib.hid (hone L (W.alloc exZero) hL (hO.below hal) (hR.below hal))
  have HAL := Lib.hid hal; have HZ1 := Lib.hid hz1
  clear hone hO hR hH hal hz1
  rcases ht : one L with p | ⟨y, L1⟩
  · have H := Lib.hid ht; clear ht
    go_enter Tryd.func86, Tryd.ntmps86
    go_wp2_with fail
    refine HT.out.mono ?_
    rintro e W2 h
    obtain ⟨rfl, hc2⟩ := h.err H.out
    go_wp2
    exact ⟨rfl, Outs.mk_err (by unfold notP; rw [H.out]; rfl) rfl ((Chg.of_below HAL.out (fun k => k = g)).trans hc2 (fun k e => .inl e))⟩
  · have H := Lib.hid ht; clear ht
    go_enter Tryd.func86, Tryd.ntmps86
    go_wp2_with fail
    refine HT.out.mono ?_
    rintro e W2 h
    obtain ⟨⟨v, rfl, hX, hR2⟩, hc2⟩ := h.ok H.out
    obtain ⟨A2, c2, rfl⟩ := Kd.R_slice hX
    have hz2 := chg_block hc2 HZ1.out (by omega)
    have hs2 : W.heap.size < W2.heap.size := (Array.getElem?_eq_some_iff.1 hz2).1
    obtain ⟨z0, z1, z2, z3, z4, z5, zf⟩ := blk6 hz2
    have HC2 := Lib.hid ((Chg.of_below HAL.out (fun k => k = g)).trans hc2 (fun k e => .inl e)); have HR2 := Lib.hid hR2; have HZ2 := Lib.hid hz2; have HX := Lib.hid hX
    clear hX hR2 hc2 hz2
    unfold exAgg
    go_wp2
    have hch := (Chg.refl (fun k => k = W.heap.size) W2).sets6' W.heap.size (fun k e => e) (.int .i64 3) (.slice (some ⟨W2.heap.size, 0, none⟩) 1 1) (.int .i64 0) (.int .u64 0) (.int .i64 0) (.int .u64 0)
    have hrow := ex_one (base := W.heap.size) (HX.out.chg hch (fun k e => by subst e; simp)) (by simp) (by simp; omega)
    have hz3 := blk_past (.cells (exCells y (.slice A2 y.f1.length c2)).toArray 58) (blk_sets6 HZ2.out (.int .i64 3) (.slice (some ⟨W2.heap.size, 0, none⟩) 1 1) (.int .i64 0) (.int .u64 0) (.int .i64 0) (.int .u64 0))
    have hR3 := HR2.out.far6 W.heap.size (by omega) (.int .i64 3) (.slice (some ⟨W2.heap.size, 0, none⟩) 1 1) (.int .i64 0) (.int .u64 0) (.int .i64 0) (.int .u64 0)
    have hC3 := HC2.out.sets6 W.heap.size (Nat.le_refl _) (.int .i64 3) (.slice (some ⟨W2.heap.size, 0, none⟩) 1 1) (.int .i64 0) (.int .u64 0) (.int .i64 0) (.int .u64 0)
    have hsz : ((((((W2.setCell ⟨W.heap.size, 0, none⟩ (.int .i64 3)).setCell ⟨W.heap.size, 1, none⟩ (.slice (some ⟨W2.heap.size, 0, none⟩) 1 1)).setCell ⟨W.heap.size, 2, none⟩ (.int .i64 0)).setCell ⟨W.heap.size, 3, none⟩ (.int .u64 0)).setCell ⟨W.heap.size, 4, none⟩ (.int .i64 0)).setCell ⟨W.heap.size, 5, none⟩ (.int .u64 0)).heap.size = W2.heap.size := by simp
    rw [hsz] at hrow
    generalize ((((((W2.setCell ⟨W.heap.size, 0, none⟩ (.int .i64 3)).setCell ⟨W.heap.size, 1, none⟩ (.slice (some ⟨W2.heap.size, 0, none⟩) 1 1)).setCell ⟨W.heap.size, 2, none⟩ (.int .i64 0)).setCell ⟨W.heap.size, 3, none⟩ (.int .u64 0)).setCell ⟨W.heap.size, 4, none⟩ (.int .i64 0)).setCell ⟨W.heap.size, 5, none⟩ (.int .u64 0)) = W3 at *
    have hal3 := (Below.refl W3.heap.size W3).alloc (Nat.le_refl _) (.cells (exCells y (.slice A2 y.f1.length c2)).toArray 58)
    obtain ⟨r0, r1, r2, r3, r4, r5, rf⟩ := blk6 hz3
    refine bodyPost_ret (v := exAgg ⟨3, [y], 0, 0, 0, 0⟩ (.slice (some ⟨W2.heap.size, 0, none⟩) 1 1)) (by simp [results, Tryd.results86, go_sem, r0, r1, r2, r3, r4, r5]) rfl ?_
    exact Outs.mk_ok (b := (⟨3, [y], 0, 0, 0, 0⟩, L1)) (by unfold notP; rw [H.out]; rfl) ⟨_, rfl, hrow, hR3.below hal3⟩ (hC3.trans (Chg.of_below hal3 (fun k => k = g)) (fun k e => .inl e))

set_option maxRecDepth 100000 in
set_option maxHeartbeats 1000000 in
theorem open_of (s : ByteArray) (ep : EP) (g b : Nat) (L : List Tk) (d : Int) (w0 W : World) (one : List Tk → Rd Ex) (hone : OneC s ep g w0 d one) (hsh : Shr one) (hL : L.length ≤ 65537) (hO : Okw w0 g W) (hR : Rdr s ep g L d W) (hH : Held W b g) (hbg : b ≠ g) :
    Calls Tryd.prog 87 #[.pointer (some ⟨b, 0, none⟩)] W (Outs g W (openP ep one L) (ExOut s ep g d W.heap.size)) := by
  have hgW := hR.lt
  have hbW := hH.lt
  have hal := (Below.refl W.heap.size W).alloc (Nat.le_refl _) exZero
  have hz1 := new_blk W #[.int .i64 0, .slice none 0 0, .int .i64 0, .int .u64 0, .int .i64 0, .int .u64 0] 58
  have hc := cell_past exZero hH.cell
  have HT := Lib.hid (expr_of s ep g L d w0 (W.alloc exZero) one hone hsh hL (hO.below hal) (hR.below hal))
  have HAL := Lib.hid hal; have HZ1 := Lib.hid hz1; have HO := Lib.hid hO; have HH := Lib.hid (hH.below hal)
  clear hone hsh hO hR hH hal hz1
  rcases ht : exprP ep one L with p | ⟨x, L1⟩
  · have H := Lib.hid ht; clear ht
    go_enter Tryd.func87, Tryd.ntmps87
    go_wp2_with fail
    refine HT.out.mono ?_
    rintro e W2 h
    obtain ⟨rfl, hc2⟩ := h.err H.out
    go_wp2
    exact ⟨rfl, Outs.mk_err (by unfold openP; rw [H.out]; rfl) rfl ((Chg.of_below HAL.out (fun k => k = g)).trans hc2 (fun k e => .inl e))⟩
  · have H := Lib.hid ht; clear ht
    go_enter Tryd.func87, Tryd.ntmps87
    go_wp2_with fail
    refine HT.out.mono ?_
    rintro e W2 h
    obtain ⟨⟨v, rfl, hX, hR2⟩, hc2⟩ := h.ok H.out
    obtain ⟨A2, c2, rfl⟩ := Kd.R_slice hX
    have hz2 := chg_block hc2 HZ1.out (by omega)
    have hs2 : W.heap.size < W2.heap.size := (Array.getElem?_eq_some_iff.1 hz2).1
    have hcW2 := (Chg.of_below HAL.out (fun k => k = g)).trans hc2 (fun k e => .inl e)
    have hH2 := HH.out.chg hc2 hbg
    have hal2 := (Below.refl W2.heap.size W2).alloc (Nat.le_refl _) (.cells #[.int .i64 x.f0, .slice A2 x.f1.length c2, .int .i64 x.f2, .int .u64 x.f3, .int .i64 x.f4, .int .u64 x.f5] 58)
    have hx3 := new_blk W2 #[.int .i64 x.f0, .slice A2 x.f1.length c2, .int .i64 x.f2, .int .u64 x.f3, .int .i64 x.f4, .int .u64 x.f5] 58
    have hz3 := blk_past (.cells #[.int .i64 x.f0, .slice A2 x.f1.length c2, .int .i64 x.f2, .int .u64 x.f3, .int .i64 x.f4, .int .u64 x.f5] 58) hz2
    have hc3 := (hH2.below hal2).cell
    have HW := Lib.hid (want_any s ep g L1 d sShut w0 _ ((HO.out.chg hcW2).below hal2) (hR2.below hal2))
    have HC3 := Lib.hid (hcW2.trans (Chg.of_below hal2 (fun k => k = g)) (fun k e => .inl e)); have HZ3 := Lib.hid hz3; have HX3 := Lib.hid hx3; have HX := Lib.hid (hX.below hal2)
    clear hX hR2 hc2 hz2 hcW2 hH2 hal2 hz3 hx3
    unfold exAgg
    rcases hw : wantP ep sShut L1 with p | ⟨u, L2⟩
    · have HWE := Lib.hid hw; clear hw
      go_wp2_with fail
      refine HW.out.mono ?_
      rintro e W4 h
      obtain ⟨rfl, hc4⟩ := h.err HWE.out
      go_wp2
      exact ⟨rfl, Outs.mk_err (by unfold openP; rw [H.out]; show bnd (wantP ep sShut L1) _ = _; rw [HWE.out]; rfl) rfl (HC3.out.trans hc4 (fun k e => .inl e))⟩
    · have HWE := Lib.hid hw; clear hw
      go_wp2_with fail
      refine HW.out.mono ?_
      rintro e W4 h
      obtain ⟨⟨rfl, hR4⟩, hc4⟩ := h.ok HWE.out
      have hz4 := chg_block hc4 HZ3.out (by omega)
      have hx4 := chg_block hc4 HX3.out (by omega)
      obtain ⟨z0, z1, z2, z3, z4, z5, zf⟩ := blk6 hz4
      obtain ⟨y0, y1, y2, y3, y4, y5, yf⟩ := blk6 hx4
      have HX4 := Lib.hid (HX.out.chg hc4 (fun k e => by subst e; simp; omega))
      have HC4 := Lib.hid (HC3.out.trans hc4 (fun k e => .inl e)); have HR4 := Lib.hid hR4; have HZ4 := Lib.hid hz4
      have hne : W2.heap.size ≠ W.heap.size := by omega
      clear hz4 hx4 hc4 hR4
      go_wp2
      obtain ⟨e1, e2, e3, e4⟩ := ex_end HZ4.out (Nat.le_refl _) hgW HX4.out (by simp) HR4.out HC4.out
      obtain ⟨r0, r1, r2, r3, r4, r5, rf⟩ := blk6 e4
      refine bodyPost_ret (v := exAgg x (.slice A2 x.f1.length c2)) (by simp [results, Tryd.results87, go_sem, r0, r1, r2, r3, r4, r5]) rfl ?_
      exact Outs.mk_ok (b := (x, L2)) (by unfold openP; rw [H.out]; show bnd (wantP ep sShut L1) _ = _; rw [HWE.out]; rfl) ⟨_, rfl, e1, e2⟩ e3
end Go.Proofs.YtlmopoipjolbgaaDoor.LexW
