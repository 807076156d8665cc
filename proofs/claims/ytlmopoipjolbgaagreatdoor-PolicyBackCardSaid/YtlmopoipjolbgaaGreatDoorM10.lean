/-
  Layer 6 (policy): what stands between and and or. · Layer 6 (policy): what stands between and and or: the walk. · Layer 6 (policy): what is neither nested: the walk; and all of one. · Layer 6 (policy): some calls, as long as one more follows. · Layer 6 (policy): a rule.
-/
import Derived.Test.YtlmopoipjolbgaaGreatDoorM09
namespace Go.Proofs.YtlmopoipjolbgaaGreatDoor.LexW
open Go.RowKit Go.Shelf Go.Proofs.YtlmopoipjolbgaaGreatDoor.LexS Go.Proofs.YtlmopoipjolbgaaGreatDoorW.PrintWords
set_option linter.unusedVariables false
set_option linter.unusedSimpArgs false

theorem nested_deep (s : ByteArray) (ep : EP) (g : Nat) (L : List Tk) (w0 W : World) (fv : Value) (hO : Okw w0 g W) (hR : Rdr s ep g L 64 W) :
    Calls Tryz.prog 88 #[.pointer (some ⟨g, 0, none⟩), fv] W fun e W' => e = panics (badP 62 L) ∧ Chg (fun k => k = g) W W' := by
  have hal := (Below.refl W.heap.size W).alloc (Nat.le_refl _) exZero
  have HB := Lib.hid (bad_any s ep g L 64 62 (W.alloc exZero) (hR.below hal))
  obtain ⟨t, e, hB, rest, j, rfl, rfl, hT⟩ := hR
  obtain ⟨c0, c1, c2, c3, c4, c5, c6⟩ := rdb_cell hB
  have a6 := cell_past exZero c6
  have HAL := Lib.hid hal
  clear hal hB hT c0 c1 c2 c3 c4 c5 hO
  go_enter Tryz.func88, Tryz.ntmps88
  go_wp2_with fail
  refine HB.out.mono ?_
  rintro e W2 ⟨he, rfl⟩
  unfold panics at he
  subst he
  go_wp2
  exact ⟨rfl, rfl, Chg.of_below HAL.out _⟩

def notP (one : List Tk → Rd Ex) (L : List Tk) : Rd Ex := bnd (one L) (fun p => .ok (⟨3, [p.1], 0, 0, 0, 0⟩, p.2))
def openP (ep : EP) (one : List Tk → Rd Ex) (L : List Tk) : Rd Ex := bnd (exprP ep one L) (fun p => bnd (wantP ep sShut p.2) (fun q => .ok (p.1, q.2)))

set_option maxRecDepth 100000 in
set_option maxHeartbeats 1000000 in
theorem not_of (s : ByteArray) (ep : EP) (g b : Nat) (L : List Tk) (d : Int) (w0 W : World) (one : List Tk → Rd Ex) (hone : OneC s ep g w0 d one) (hL : L.length ≤ 65537) (hO : Okw w0 g W) (hR : Rdr s ep g L d W) (hH : Held W b g) :
    Calls Tryz.prog 89 #[.pointer (some ⟨b, 0, none⟩)] W (Outs g W (notP one L) (ExOut s ep g d W.heap.size)) := by
  have hgW := hR.lt
  have hal := (Below.refl W.heap.size W).alloc (Nat.le_refl _) exZero
  have hz1 := new_blk W #[.int .i64 0, .slice none 0 0, .int .i64 0, .int .u64 0, .int .i64 0, .int .u64 0] 37
  have hc := cell_past exZero hH.cell
  have HT := Lib.hid (hone L (W.alloc exZero) hL (hO.below hal) (hR.below hal))
  have HAL := Lib.hid hal; have HZ1 := Lib.hid hz1
  clear hone hO hR hH hal hz1
  rcases ht : one L with p | ⟨y, L1⟩
  · have H := Lib.hid ht; clear ht
    go_enter Tryz.func89, Tryz.ntmps89
    go_wp2_with fail
    refine HT.out.mono ?_
    rintro e W2 h
    obtain ⟨rfl, hc2⟩ := h.err H.out
    go_wp2
    exact ⟨rfl, Outs.mk_err (by unfold notP; rw [H.out]; rfl) rfl ((Chg.of_below HAL.out (fun k => k = g)).trans hc2 (fun k e => .inl e))⟩
  · have H := Lib.hid ht; clear ht
    go_enter Tryz.func89, Tryz.ntmps89
    go_wp2_with fail
    refine HT.out.mono ?_
    rintro e W2 h
    obtain ⟨⟨v, rfl, hX, hR2⟩, hc2⟩ := h.ok H.out
    obtain ⟨A2, c2, rfl⟩ := Kd.R_slice hX
    have hz2 := chg_block hc2 HZ1.out (by omega)
    have hs2 : W.heap.size < W2.heap.size := (Array.getElem?_eq_some_iff.1 hz2).1
    obtain ⟨z0, z1, z2, z3, z4, z5, zf⟩ := blk6 hz2
    have HC2 := Lib.hid ((Chg.of_below HAL.out (fun k => k = g)).trans hc2 (fun k e => .inl e)); have HR2 := Lib.hid hR2; have HZ2 := Lib.hid hz2; have HX := Lib.hid hX
    clear hX hR2 hc2 hz2
    unfold exAgg
    go_wp2
    have hch := (Chg.refl (fun k => k = W.heap.size) W2).sets6' W.heap.size (fun k e => e) (.int .i64 3) (.slice (some ⟨W2.heap.size, 0, none⟩) 1 1) (.int .i64 0) (.int .u64 0) (.int .i64 0) (.int .u64 0)
    have hrow := ex_one (base := W.heap.size) (HX.out.chg hch (fun k e => by subst e; simp)) (by simp) (by simp; omega)
    have hz3 := blk_past (.cells (exCells y (.slice A2 y.f1.length c2)).toArray 37) (blk_sets6 HZ2.out (.int .i64 3) (.slice (some ⟨W2.heap.size, 0, none⟩) 1 1) (.int .i64 0) (.int .u64 0) (.int .i64 0) (.int .u64 0))
    have hR3 := HR2.out.far6 W.heap.size (by omega) (.int .i64 3) (.slice (some ⟨W2.heap.size, 0, none⟩) 1 1) (.int .i64 0) (.int .u64 0) (.int .i64 0) (.int .u64 0)
    have hC3 := HC2.out.sets6 W.heap.size (Nat.le_refl _) (.int .i64 3) (.slice (some ⟨W2.heap.size, 0, none⟩) 1 1) (.int .i64 0) (.int .u64 0) (.int .i64 0) (.int .u64 0)
    have hsz : ((((((W2.setCell ⟨W.heap.size, 0, none⟩ (.int .i64 3)).setCell ⟨W.heap.size, 1, none⟩ (.slice (some ⟨W2.heap.size, 0, none⟩) 1 1)).setCell ⟨W.heap.size, 2, none⟩ (.int .i64 0)).setCell ⟨W.heap.size, 3, none⟩ (.int .u64 0)).setCell ⟨W.heap.size, 4, none⟩ (.int .i64 0)).setCell ⟨W.heap.size, 5, none⟩ (.int .u64 0)).heap.size = W2.heap.size := by simp
    rw [hsz] at hrow
    generalize ((((((W2.setCell ⟨W.heap.size, 0, none⟩ (.int .i64 3)).setCell ⟨W.heap.size, 1, none⟩ (.slice (some ⟨W2.heap.size, 0, none⟩) 1 1)).setCell ⟨W.heap.size, 2, none⟩ (.int .i64 0)).setCell ⟨W.heap.size, 3, none⟩ (.int .u64 0)).setCell ⟨W.heap.size, 4, none⟩ (.int .i64 0)).setCell ⟨W.heap.size, 5, none⟩ (.int .u64 0)) = W3 at *
    have hal3 := (Below.refl W3.heap.size W3).alloc (Nat.le_refl _) (.cells (exCells y (.slice A2 y.f1.length c2)).toArray 37)
    obtain ⟨r0, r1, r2, r3, r4, r5, rf⟩ := blk6 hz3
    refine bodyPost_ret (v := exAgg ⟨3, [y], 0, 0, 0, 0⟩ (.slice (some ⟨W2.heap.size, 0, none⟩) 1 1)) (by simp [results, Tryz.results89, go_sem, r0, r1, r2, r3, r4, r5]) rfl ?_
    exact Outs.mk_ok (b := (⟨3, [y], 0, 0, 0, 0⟩, L1)) (by unfold notP; rw [H.out]; rfl) ⟨_, rfl, hrow, hR3.below hal3⟩ (hC3.trans (Chg.of_below hal3 (fun k => k = g)) (fun k e => .inl e))

set_option maxRecDepth 100000 in
set_option maxHeartbeats 1000000 in
theorem open_of (s : ByteArray) (ep : EP) (g b : Nat) (L : List Tk) (d : Int) (w0 W : World) (one : List Tk → Rd Ex) (hone : OneC s ep g w0 d one) (hsh : Shr one) (hL : L.length ≤ 65537) (hO : Okw w0 g W) (hR : Rdr s ep g L d W) (hH : Held W b g) (hbg : b ≠ g) :
    Calls Tryz.prog 90 #[.pointer (some ⟨b, 0, none⟩)] W (Outs g W (openP ep one L) (ExOut s ep g d W.heap.size)) := by
  have hgW := hR.lt
  have hbW := hH.lt
  have hal := (Below.refl W.heap.size W).alloc (Nat.le_refl _) exZero
  have hz1 := new_blk W #[.int .i64 0, .slice none 0 0, .int .i64 0, .int .u64 0, .int .i64 0, .int .u64 0] 37
  have hc := cell_past exZero hH.cell
  have HT := Lib.hid (expr_of s ep g L d w0 (W.alloc exZero) one hone hsh hL (hO.below hal) (hR.below hal))
  have HAL := Lib.hid hal; have HZ1 := Lib.hid hz1; have HO := Lib.hid hO; have HH := Lib.hid (hH.below hal)
  clear hone hsh hO hR hH hal hz1
  rcases ht : exprP ep one L with p | ⟨x, L1⟩
  · have H := Lib.hid ht; clear ht
    go_enter Tryz.func90, Tryz.ntmps90
    go_wp2_with fail
    refine HT.out.mono ?_
    rintro e W2 h
    obtain ⟨rfl, hc2⟩ := h.err H.out
    go_wp2
    exact ⟨rfl, Outs.mk_err (by unfold openP; rw [H.out]; rfl) rfl ((Chg.of_below HAL.out (fun k => k = g)).trans hc2 (fun k e => .inl e))⟩
  · have H := Lib.hid ht; clear ht
    go_enter Tryz.func90, Tryz.ntmps90
    go_wp2_with fail
    refine HT.out.mono ?_
    rintro e W2 h
    obtain ⟨⟨v, rfl, hX, hR2⟩, hc2⟩ := h.ok H.out
    obtain ⟨A2, c2, rfl⟩ := Kd.R_slice hX
    have hz2 := chg_block hc2 HZ1.out (by omega)
    have hs2 : W.heap.size < W2.heap.size := (Array.getElem?_eq_some_iff.1 hz2).1
    have hcW2 := (Chg.of_below HAL.out (fun k => k = g)).trans hc2 (fun k e => .inl e)
    have hH2 := HH.out.chg hc2 hbg
    have hal2 := (Below.refl W2.heap.size W2).alloc (Nat.le_refl _) (.cells #[.int .i64 x.f0, .slice A2 x.f1.length c2, .int .i64 x.f2, .int .u64 x.f3, .int .i64 x.f4, .int .u64 x.f5] 37)
    have hx3 := new_blk W2 #[.int .i64 x.f0, .slice A2 x.f1.length c2, .int .i64 x.f2, .int .u64 x.f3, .int .i64 x.f4, .int .u64 x.f5] 37
    have hz3 := blk_past (.cells #[.int .i64 x.f0, .slice A2 x.f1.length c2, .int .i64 x.f2, .int .u64 x.f3, .int .i64 x.f4, .int .u64 x.f5] 37) hz2
    have hc3 := (hH2.below hal2).cell
    have HW := Lib.hid (want_any s ep g L1 d sShut w0 _ ((HO.out.chg hcW2).below hal2) (hR2.below hal2))
    have HC3 := Lib.hid (hcW2.trans (Chg.of_below hal2 (fun k => k = g)) (fun k e => .inl e)); have HZ3 := Lib.hid hz3; have HX3 := Lib.hid hx3; have HX := Lib.hid (hX.below hal2)
    clear hX hR2 hc2 hz2 hcW2 hH2 hal2 hz3 hx3
    unfold exAgg
    rcases hw : wantP ep sShut L1 with p | ⟨u, L2⟩
    · have HWE := Lib.hid hw; clear hw
      go_wp2_with fail
      refine HW.out.mono ?_
      rintro e W4 h
      obtain ⟨rfl, hc4⟩ := h.err HWE.out
      go_wp2
      exact ⟨rfl, Outs.mk_err (by unfold openP; rw [H.out]; show bnd (wantP ep sShut L1) _ = _; rw [HWE.out]; rfl) rfl (HC3.out.trans hc4 (fun k e => .inl e))⟩
    · have HWE := Lib.hid hw; clear hw
      go_wp2_with fail
      refine HW.out.mono ?_
      rintro e W4 h
      obtain ⟨⟨rfl, hR4⟩, hc4⟩ := h.ok HWE.out
      have hz4 := chg_block hc4 HZ3.out (by omega)
      have hx4 := chg_block hc4 HX3.out (by omega)
      obtain ⟨z0, z1, z2, z3, z4, z5, zf⟩ := blk6 hz4
      obtain ⟨y0, y1, y2, y3, y4, y5, yf⟩ := blk6 hx4
      have HX4 := Lib.hid (HX.out.chg hc4 (fun k e => by subst e; simp; omega))
      have HC4 := Lib.hid (HC3.out.trans hc4 (fun k e => .inl e)); have HR4 := Lib.hid hR4; have HZ4 := Lib.hid hz4
      have hne : W2.heap.size ≠ W.heap.size := by omega
      clear hz4 hx4 hc4 hR4
      go_wp2
      obtain ⟨e1, e2, e3, e4⟩ := ex_end HZ4.out (Nat.le_refl _) hgW HX4.out (by simp) HR4.out HC4.out
      obtain ⟨r0, r1, r2, r3, r4, r5, rf⟩ := blk6 e4
      refine bodyPost_ret (v := exAgg x (.slice A2 x.f1.length c2)) (by simp [results, Tryz.results90, go_sem, r0, r1, r2, r3, r4, r5]) rfl ?_
      exact Outs.mk_ok (b := (x, L2)) (by unfold openP; rw [H.out]; show bnd (wantP ep sShut L1) _ = _; rw [HWE.out]; rfl) ⟨_, rfl, e1, e2⟩ e3
end Go.Proofs.YtlmopoipjolbgaaGreatDoor.LexW
namespace Go.Proofs.YtlmopoipjolbgaaGreatDoor.LexW
open Go.RowKit Go.Shelf Go.Proofs.YtlmopoipjolbgaaGreatDoor.LexS Go.Proofs.YtlmopoipjolbgaaGreatDoorW.PrintWords
set_option linter.unusedVariables false
set_option linter.unusedSimpArgs false

theorem enters_not : Enters Tryz.prog 89 := enters_of Tryz.func89 (by kernel_rfl) rfl
theorem enters_open : Enters Tryz.prog 90 := enters_of Tryz.func90 (by kernel_rfl) rfl
/-- the world in which one reads -/
abbrev oneW (W : World) (g : Nat) : World := (W.alloc (.cells #[.pointer (some ⟨g, 0, none⟩)] 51)).alloc exZero
theorem oneW_below (W : World) (g : Nat) : Below W.heap.size W (oneW W g) := ((Below.refl W.heap.size W).alloc (Nat.le_refl _) _).alloc (by simp) _
theorem oneW_zero (W : World) (g : Nat) : (oneW W g).heap[W.heap.size + 1]? = some (.cells #[.int .i64 0, .slice none 0 0, .int .i64 0, .int .u64 0, .int .i64 0, .int .u64 0] 37 (0, 0)) := new_blk' (by simp) _ _
theorem oneW_held (W : World) (g : Nat) : Held (oneW W g) W.heap.size g := blk_past exZero (new_blk W _ _)
theorem oneW_size (W : World) (g : Nat) : (oneW W g).heap.size = W.heap.size + 2 := by simp

set_option maxRecDepth 100000 in
set_option maxHeartbeats 1000000 in
/-- a not, or a (: what nested comes to is handed on -/
theorem one_nested (s : ByteArray) (ep : EP) (g : Nat) (L : List Tk) (d : Int) (w0 W : World) (res : Rd Ex) (hO : Okw w0 g W) (hR : Rdr s ep g L d W)
    (hn : isT sNot (hdT L) = true ∨ (isT sNot (hdT L) = false ∧ isT sOpen (hdT L) = true))
    (hnest : ∀ f, f = (if isT sNot (hdT L) then 89 else 90) → Calls Tryz.prog 88 #[.pointer (some ⟨g, 0, none⟩), .func (.func f) #[] #[.pointer (some ⟨W.heap.size, 0, none⟩)]] (oneW W g) (Outs g (oneW W g) res (ExOut s ep g d (oneW W g).heap.size))) :
    Calls Tryz.prog 68 #[.pointer (some ⟨g, 0, none⟩)] W (Outs g W res (ExOut s ep g d W.heap.size)) := by
  have hgW := hR.lt
  have hmf : ∀ (fn : Fn) (first cap : Array Value) (w : World), (Instr.makeFunc fn first cap).run Tryz.prog w = .ok (.func fn first cap) w := fun _ _ _ _ => rfl
  have hc := (oneW_held W g).cell
  have HI := Lib.hid (fun x => is_any s ep g L d x (oneW W g) (hR.below (oneW_below W g)))
  have HN := Lib.hid hnest
  clear hnest hO hR
  rcases hn with h1 | ⟨h1, h2⟩
  · have HN1 := Lib.hid (HN.out 89 (by rw [if_pos h1]))
    have HI1 := Lib.hid (HI.out sNot)
    rw [h1] at HI1
    clear h1 HN HI
    cases res with
    | error p =>
      go_enter Tryz.func68, Tryz.ntmps68
      go_wp2_with fail
      refine HI1.out.mono ?_
      rintro e W1 ⟨rfl, rfl⟩
      go_wp2_with fail
      refine HN1.out.mono ?_
      rintro e W2 h
      obtain ⟨rfl, hc2⟩ := h.err rfl
      go_wp2
      exact ⟨rfl, Outs.mk_err rfl rfl ((Chg.of_below (oneW_below W g) (fun k => k = g)).trans hc2 (fun k e => .inl e))⟩
    | ok p =>
      go_enter Tryz.func68, Tryz.ntmps68
      go_wp2_with fail
      refine HI1.out.mono ?_
      rintro e W1 ⟨rfl, rfl⟩
      go_wp2_with fail
      refine HN1.out.mono ?_
      rintro e W2 h
      obtain ⟨⟨v, rfl, hX, hR2⟩, hc2⟩ := h.ok rfl
      obtain ⟨A2, c2, rfl⟩ := Kd.R_slice hX
      have hz2 := chg_block hc2 (oneW_zero W g) (by omega)
      obtain ⟨z0, z1, z2, z3, z4, z5, zf⟩ := blk6 hz2
      have HX := Lib.hid hX; have HR2 := Lib.hid hR2; have HZ2 := Lib.hid hz2; have HC2 := Lib.hid ((Chg.of_below (oneW_below W g) (fun k => k = g)).trans hc2 (fun k e => .inl e))
      clear hX hR2 hz2 hc2
      unfold exAgg
      go_wp2
      obtain ⟨e1, e2, e3, e4⟩ := ex_end HZ2.out (by omega) hgW HX.out (by simp) HR2.out HC2.out
      obtain ⟨r0, r1, r2, r3, r4, r5, rf⟩ := blk6 e4
      refine bodyPost_ret (v := exAgg p.1 (.slice A2 p.1.f1.length c2)) (by simp [results, Tryz.results68, go_sem, r0, r1, r2, r3, r4, r5]) rfl ?_
      exact Outs.mk_ok (b := p) rfl ⟨_, rfl, e1, e2⟩ e3
  · have HN1 := Lib.hid (HN.out 90 (by rw [if_neg (by rw [h1]; simp)]))
    have HI1 := Lib.hid (HI.out sNot)
    have HI2 := Lib.hid (HI.out sOpen)
    rw [h1] at HI1
    rw [h2] at HI2
    clear h1 h2 HN HI
    cases res with
    | error p =>
      go_enter Tryz.func68, Tryz.ntmps68
      go_wp2_with fail
      refine HI1.out.mono ?_
      rintro e W1 ⟨rfl, rfl⟩
      go_wp2_with fail
      refine HI2.out.mono ?_
      rintro e W1 ⟨rfl, rfl⟩
      go_wp2_with fail
      refine HN1.out.mono ?_
      rintro e W2 h
      obtain ⟨rfl, hc2⟩ := h.err rfl
      go_wp2
      exact ⟨rfl, Outs.mk_err rfl rfl ((Chg.of_below (oneW_below W g) (fun k => k = g)).trans hc2 (fun k e => .inl e))⟩
    | ok p =>
      go_enter Tryz.func68, Tryz.ntmps68
      go_wp2_with fail
      refine HI1.out.mono ?_
      rintro e W1 ⟨rfl, rfl⟩
      go_wp2_with fail
      refine HI2.out.mono ?_
      rintro e W1 ⟨rfl, rfl⟩
      go_wp2_with fail
      refine HN1.out.mono ?_
      rintro e W2 h
      obtain ⟨⟨v, rfl, hX, hR2⟩, hc2⟩ := h.ok rfl
      obtain ⟨A2, c2, rfl⟩ := Kd.R_slice hX
      have hz2 := chg_block hc2 (oneW_zero W g) (by omega)
      obtain ⟨z0, z1, z2, z3, z4, z5, zf⟩ := blk6 hz2
      have HX := Lib.hid hX; have HR2 := Lib.hid hR2; have HZ2 := Lib.hid hz2; have HC2 := Lib.hid ((Chg.of_below (oneW_below W g) (fun k => k = g)).trans hc2 (fun k e => .inl e))
      clear hX hR2 hz2 hc2
      unfold exAgg
      go_wp2
      obtain ⟨e1, e2, e3, e4⟩ := ex_end HZ2.out (by omega) hgW HX.out (by simp) HR2.out HC2.out
      obtain ⟨r0, r1, r2, r3, r4, r5, rf⟩ := blk6 e4
      refine bodyPost_ret (v := exAgg p.1 (.slice A2 p.1.f1.length c2)) (by simp [results, Tryz.results68, go_sem, r0, r1, r2, r3, r4, r5]) rfl ?_
      exact Outs.mk_ok (b := p) rfl ⟨_, rfl, e1, e2⟩ e3
end Go.Proofs.YtlmopoipjolbgaaGreatDoor.LexW
namespace Go.Proofs.YtlmopoipjolbgaaGreatDoor.LexW
open Go.RowKit Go.Shelf Go.Proofs.YtlmopoipjolbgaaGreatDoor.LexS Go.Proofs.YtlmopoipjolbgaaGreatDoorW.PrintWords
set_option linter.unusedVariables false
set_option linter.unusedSimpArgs false

theorem fields_blk {w : World} {B : Nat} (h : w.heap[B]? = some (.cells (fieldsT.map Value.string).toArray 9 (0, 0))) (i : Nat) (hi : i < 7) : w.cell? ⟨B, i, none⟩ = some (.string (fieldsT.getD i nil0)) := by
  match i, hi with
  | 0, _ | 1, _ | 2, _ | 3, _ | 4, _ | 5, _ | 6, _ => simp [World.cell?, h, fieldsT]
theorem fidx_none {t : Tk} (h : ∀ j, j < 7 → isT (fieldsT.getD j nil0) t = false) : fieldsT.findIdx? (fun x => isT x t) = none := by
  rw [List.findIdx?_eq_none_iff]
  intro y hy
  obtain ⟨j, hj, rfl⟩ := List.getElem_of_mem hy
  have := h j hj
  simpa [List.getD_eq_getElem?_getD, List.getElem?_eq_getElem hj] using this
theorem fidx_some {t : Tk} {i : Nat} (hi : i < 7) (h : ∀ j, j < i → isT (fieldsT.getD j nil0) t = false) (hx : isT (fieldsT.getD i nil0) t = true) : fieldsT.findIdx? (fun x => isT x t) = some i := by
  have hlen : fieldsT.length = 7 := rfl
  rw [List.findIdx?_eq_some_iff_getElem]
  refine ⟨by omega, by simpa [List.getD_eq_getElem?_getD, List.getElem?_eq_getElem (show i < fieldsT.length by omega)] using hx, fun j hj => ?_⟩
  have := h j hj
  simpa [List.getD_eq_getElem?_getD, List.getElem?_eq_getElem (show j < fieldsT.length by omega)] using this

set_option maxRecDepth 100000 in
set_option maxHeartbeats 2000000 in
theorem one_atom (s : ByteArray) (ep : EP) (g : Nat) (L : List Tk) (d : Int) (w0 W : World) (hO : Okw w0 g W) (hR : Rdr s ep g L d W) (h1 : isT sNot (hdT L) = false) (h2 : isT sOpen (hdT L) = false) :
    Calls Tryz.prog 68 #[.pointer (some ⟨g, 0, none⟩)] W (Outs g W (atomP ep L) (ExOut s ep g d W.heap.size)) := by
  have hgW := hR.lt
  have hc := (oneW_held W g).cell
  have HI1 := Lib.hid (is_any s ep g L d sNot (oneW W g) (hR.below (oneW_below W g)))
  have HI2 := Lib.hid (is_any s ep g L d sOpen (oneW W g) (hR.below (oneW_below W g)))
  have HMT := Lib.hid (maybe_any s ep g L d sTrue w0 (oneW W g) (hO.below (oneW_below W g)) (hR.below (oneW_below W g)))
  rw [h1] at HI1
  rw [h2] at HI2
  have HO := Lib.hid hO
  clear h1 h2 hO hR
  cases ht : isT sTrue (hdT L) with
  | true =>
    have hat : atomP ep L = bnd (stepP ep L) (fun L' => .ok (⟨1, [], 0, 0, 0, 0⟩, L')) := by unfold atomP; rw [if_pos ht]
    have hmt : maybeP ep sTrue L = bnd (stepP ep L) (fun L' => .ok (true, L')) := by unfold maybeP; rw [if_pos ht]
    rw [hmt] at HMT
    have HAT := Lib.hid hat
    clear hat hmt ht
    rcases hs : stepP ep L with p | L1
    · rw [hs] at HMT
      have HSE := Lib.hid hs; clear hs
      go_enter Tryz.func68, Tryz.ntmps68
      go_wp2_with fail
      refine HI1.out.mono ?_
      rintro e W1 ⟨rfl, rfl⟩
      go_wp2_with fail
      refine HI2.out.mono ?_
      rintro e W1 ⟨rfl, rfl⟩
      go_wp2_with fail
      refine HMT.out.mono ?_
      rintro e W2 h
      obtain ⟨rfl, hc2⟩ := h.err rfl
      go_wp2
      exact ⟨rfl, Outs.mk_err (by rw [HAT.out, HSE.out]; rfl) rfl ((Chg.of_below (oneW_below W g) (fun k => k = g)).trans hc2 (fun k e => .inl e))⟩
    · rw [hs] at HMT
      have HSE := Lib.hid hs; clear hs
      go_enter Tryz.func68, Tryz.ntmps68
      go_wp2_with fail
      refine HI1.out.mono ?_
      rintro e W1 ⟨rfl, rfl⟩
      go_wp2_with fail
      refine HI2.out.mono ?_
      rintro e W1 ⟨rfl, rfl⟩
      go_wp2_with fail
      refine HMT.out.mono ?_
      rintro e W2 h
      obtain ⟨⟨rfl, hR2⟩, hc2⟩ := h.ok (b := (true, L1)) rfl
      have hz2 := chg_block hc2 (oneW_zero W g) (by omega)
      have hs2 := hc2.size
      obtain ⟨z0, z1, z2, z3, z4, z5, zf⟩ := blk6 hz2
      have HR2 := Lib.hid hR2; have HZ2 := Lib.hid hz2; have HC2 := Lib.hid ((Chg.of_below (oneW_below W g) (fun k => k = g)).trans hc2 (fun k e => .inl e))
      clear hR2 hz2 hc2
      go_wp2
      obtain ⟨e1, e2, e3, e4⟩ := ex_end (x := ⟨1, [], 0, 0, 0, 0⟩) (v := .slice none 0 0) (base := W.heap.size + 2) HZ2.out (by omega) hgW (Kd.R_nil _ _ _ _ _) (by omega) HR2.out HC2.out
      obtain ⟨r0, r1, r2, r3, r4, r5, rf⟩ := blk6 e4
      refine bodyPost_ret (v := exAgg ⟨1, [], 0, 0, 0, 0⟩ (.slice none 0 0)) (by simp [results, Tryz.results68, go_sem, r0, r1, r2, r3, r4, r5]) rfl ?_
      exact Outs.mk_ok (b := (⟨1, [], 0, 0, 0, 0⟩, L1)) (by rw [HAT.out, HSE.out]; rfl) ⟨_, rfl, e1, e2⟩ e3
  | false =>
    have hat : atomP ep L = if isT sFalse (hdT L) then bnd (stepP ep L) (fun L' => .ok (⟨2, [], 0, 0, 0, 0⟩, L')) else match fieldsT.findIdx? (fun x => isT x (hdT L)) with | some i => testP ep i L | none => .error (badP 61 L) := by unfold atomP; rw [if_neg (by rw [ht]; simp)]; rfl
    have hmt : maybeP ep sTrue L = .ok (false, L) := by unfold maybeP; rw [if_neg (by rw [ht]; simp)]
    rw [hmt] at HMT
    have HAT := Lib.hid hat
    clear hat hmt ht
    go_enter Tryz.func68, Tryz.ntmps68
    go_wp2_with fail
    refine HI1.out.mono ?_
    rintro e W1 ⟨rfl, rfl⟩
    go_wp2_with fail
    refine HI2.out.mono ?_
    rintro e W1 ⟨rfl, rfl⟩
    go_wp2_with fail
    refine HMT.out.mono ?_
    rintro e W2 h
    obtain ⟨⟨rfl, hR2⟩, hc2⟩ := h.ok (b := (false, L)) rfl
    have hz2 := chg_block hc2 (oneW_zero W g) (by omega)
    have hH2 := (oneW_held W g).chg hc2 (by omega)
    have hs2 : W.heap.size + 2 ≤ W2.heap.size := by have := hc2.size; rw [oneW_size] at this; exact this
    have hC2 := (Chg.of_below (oneW_below W g) (fun k => k = g)).trans hc2 (fun k e => .inl e)
    have hO2 := HO.out.chg hC2
    have hcell := hH2.cell
    have HMF := Lib.hid (maybe_any s ep g L d sFalse w0 W2 hO2 hR2)
    have HO2 := Lib.hid hO2; have HZ2 := Lib.hid hz2; have HC2 := Lib.hid hC2; have HH2 := Lib.hid hH2
    clear hc2 hR2 hz2 hC2 hO2 hH2 hc
    cases hf : isT sFalse (hdT L) with
    | true =>
      have hmf : maybeP ep sFalse L = bnd (stepP ep L) (fun L' => .ok (true, L')) := by unfold maybeP; rw [if_pos hf]
      rw [hmf] at HMF
      have HATT : Hid (atomP ep L = bnd (stepP ep L) (fun L' => .ok (⟨2, [], 0, 0, 0, 0⟩, L'))) := Lib.hid (by rw [HAT.out, if_pos hf])
      clear hmf hf
      rcases hs : stepP ep L with p | L1
      · rw [hs] at HMF
        have HSE := Lib.hid hs; clear hs
        go_wp2_with fail
        refine HMF.out.mono ?_
        rintro e W3 h
        obtain ⟨rfl, hc3⟩ := h.err rfl
        go_wp2
        exact ⟨rfl, Outs.mk_err (by rw [HATT.out, HSE.out]; rfl) rfl (HC2.out.trans hc3 (fun k e => .inl e))⟩
      · rw [hs] at HMF
        have HSE := Lib.hid hs; clear hs
        go_wp2_with fail
        refine HMF.out.mono ?_
        rintro e W3 h
        obtain ⟨⟨rfl, hR3⟩, hc3⟩ := h.ok (b := (true, L1)) rfl
        have hz3 := chg_block hc3 HZ2.out (by omega)
        obtain ⟨z0, z1, z2, z3, z4, z5, zf⟩ := blk6 hz3
        have HR3 := Lib.hid hR3; have HZ3 := Lib.hid hz3; have HC3 := Lib.hid (HC2.out.trans hc3 (fun k e => .inl e))
        clear hR3 hz3 hc3
        go_wp2
        obtain ⟨e1, e2, e3, e4⟩ := ex_end (x := ⟨2, [], 0, 0, 0, 0⟩) (v := .slice none 0 0) (base := W.heap.size + 2) HZ3.out (by omega) hgW (Kd.R_nil _ _ _ _ _) (by omega) HR3.out HC3.out
        obtain ⟨r0, r1, r2, r3, r4, r5, rf⟩ := blk6 e4
        refine bodyPost_ret (v := exAgg ⟨2, [], 0, 0, 0, 0⟩ (.slice none 0 0)) (by simp [results, Tryz.results68, go_sem, r0, r1, r2, r3, r4, r5]) rfl ?_
        exact Outs.mk_ok (b := (⟨2, [], 0, 0, 0, 0⟩, L1)) (by rw [HATT.out, HSE.out]; rfl) ⟨_, rfl, e1, e2⟩ e3
    | false =>
      have hmf : maybeP ep sFalse L = .ok (false, L) := by unfold maybeP; rw [if_neg (by rw [hf]; simp)]
      rw [hmf] at HMF
      have HATT : Hid (atomP ep L = match fieldsT.findIdx? (fun x => isT x (hdT L)) with | some i => testP ep i L | none => .error (badP 61 L)) := Lib.hid (by rw [HAT.out, if_neg (by rw [hf]; simp)])
      clear hmf hf
      go_wp2_with fail
      refine HMF.out.mono ?_
      rintro e W3 h
      obtain ⟨⟨rfl, hR3⟩, hc3⟩ := h.ok (b := (false, L)) rfl
      have hz3 := chg_block hc3 HZ2.out (by omega)
      have hH3 := HH2.out.chg hc3 (by omega)
      have hs3 : W.heap.size + 2 ≤ W3.heap.size := by have := hc3.size; omega
      have hC3 := HC2.out.trans hc3 (fun k e => .inl e)
      have hO3 := HO2.out.chg hc3
      have hb4 := (Below.refl W3.heap.size W3).alloc (Nat.le_refl _) fieldsObj
      have hq4 : (W3.alloc fieldsObj).heap[W3.heap.size]? = some (.cells (fieldsT.map Value.string).toArray 9 (0, 0)) := new_blk W3 _ _
      have hcell4 := (hH3.below hb4).cell
      have HZ4 := Lib.hid (blk_past fieldsObj hz3); have HC4 := Lib.hid (hC3.trans (Chg.of_below hb4 (fun k => k = g)) (fun k e => .inl e)); have HR4 := Lib.hid (hR3.below hb4); have HO4 := Lib.hid (hO3.below hb4); have HQ4 := Lib.hid hq4
      have hs4 : (W3.alloc fieldsObj).heap.size = W3.heap.size + 1 := by simp
      clear hc3 hR3 hz3 hH3 hC3 hO3 hb4 hq4 hcell
      go_wp2_with fail
      refine (fields_any W3).mono ?_
      rintro e W4 ⟨rfl, rfl⟩
      go_wp2
      show Code.wp _ _ _ _ (W3.alloc fieldsObj)
      generalize W3.alloc fieldsObj = W4 at *
      go_loopw [27] (fun vi wr => ∃ i : Nat, vi = .int .i64 i ∧ i ≤ 7 ∧ Hid (∀ j, j < i → isT (fieldsT.getD j nil0) (hdT L) = false) ∧ W4 = wr) (fun vi _ => 7 - (intOf vi).toNat)
      case atStart => exact ⟨0, rfl, by omega, Lib.hid (fun j h => absurd h (by omega)), rfl⟩
      case round =>
        obtain ⟨i, rfl, hi, HNE, rfl⟩ := hrel
        by_cases hlt : i < 7
        · have x0 := fields_blk HQ4.out i hlt
          have HI := Lib.hid (is_any s ep g L d (fieldsT.getD i nil0) W4 HR4.out)
          cases hb : isT (fieldsT.getD i nil0) (hdT L) with
          | false =>
            have HNE2 : Hid (∀ j, j < i + 1 → isT (fieldsT.getD j nil0) (hdT L) = false) := Lib.hid (fun j hj => by
              by_cases hji : j = i
              · subst hji; exact hb
              · exact HNE.out j (by omega))
            rw [hb] at HI
            clear hb
            go_wp2_with fail
            refine HI.out.mono ?_
            rintro e wr' ⟨rfl, rfl⟩
            go_wp2
            exact ⟨⟨i + 1, by go_num, by omega, HNE2, trivial⟩, by simp [intOf]; omega⟩
          | true =>
            have hat2 : atomP ep L = testP ep i L := by rw [HATT.out, fidx_some hlt HNE.out hb]
            have HT := Lib.hid (test_any s ep g L d i w0 W4 HO4.out HR4.out (isT_kind hb))
            have HAT2 := Lib.hid hat2
            rw [hb] at HI
            clear hb hat2
            rcases ht : testP ep i L with p | ⟨x, L2⟩
            · have HTE := Lib.hid ht; clear ht
              go_wp2_with fail
              refine HI.out.mono ?_
              rintro e wr' ⟨rfl, rfl⟩
              go_wp2_with fail
              refine HT.out.mono ?_
              rintro e W5 h
              obtain ⟨rfl, hc5⟩ := h.err HTE.out
              go_wp2
              exact ⟨rfl, Outs.mk_err (by rw [HAT2.out, HTE.out]) rfl (HC4.out.trans hc5 (fun k e => .inl e))⟩
            · have HTE := Lib.hid ht; clear ht
              go_wp2_with fail
              refine HI.out.mono ?_
              rintro e wr' ⟨rfl, rfl⟩
              go_wp2_with fail
              refine HT.out.mono ?_
              rintro e W5 h
              obtain ⟨⟨v, rfl, hX, hR5⟩, hc5⟩ := h.ok HTE.out
              obtain ⟨A5, c5, rfl⟩ := Kd.R_slice hX
              have hz5 := chg_block hc5 HZ4.out (by omega)
              obtain ⟨z0, z1, z2, z3, z4, z5, zf⟩ := blk6 hz5
              have HX := Lib.hid hX; have HR5 := Lib.hid hR5; have HZ5 := Lib.hid hz5; have HC5 := Lib.hid (HC4.out.trans hc5 (fun k e => .inl e))
              clear hX hR5 hz5 hc5
              unfold exAgg
              go_wp2
              obtain ⟨e1, e2, e3, e4⟩ := ex_end HZ5.out (by omega) hgW HX.out (by omega) HR5.out HC5.out
              obtain ⟨r0, r1, r2, r3, r4, r5, rf⟩ := blk6 e4
              refine bodyPost_ret (v := exAgg x (.slice A5 x.f1.length c5)) (by simp [results, Tryz.results68, go_sem, r0, r1, r2, r3, r4, r5]) rfl ?_
              exact Outs.mk_ok (b := (x, L2)) (by rw [HAT2.out, HTE.out]) ⟨_, rfl, e1, e2⟩ e3
        · obtain rfl : i = 7 := by omega
          have hat2 : atomP ep L = .error (badP 61 L) := by rw [HATT.out, fidx_none HNE.out]
          have HAT2 := Lib.hid hat2; clear hat2
          go_wp2_with fail
          refine (bad_any s ep g L d 61 W4 HR4.out).mono ?_
          rintro e W5 ⟨he, rfl⟩
          unfold panics at he
          subst he
          go_wp2
          exact ⟨rfl, Outs.mk_err HAT2.out rfl HC4.out⟩

/-- **one of the grammar, at whatever depth** -/
theorem one_any (s : ByteArray) (ep : EP) (g : Nat) (w0 : World) : ∀ k : Nat, k ≤ 64 → OneC s ep g w0 (64 - (k : Int)) (oneP ep k) := by
  intro k
  induction k with
  | zero =>
    intro hk L W hL hO hR
    have hd : (64 : Int) - ((0 : Nat) : Int) = 64 := by omega
    rw [hd] at hR ⊢
    cases hn : isT sNot (hdT L) with
    | true =>
      have hres : oneP ep 0 L = .error (badP 62 L) := by unfold oneP; rw [if_pos hn]
      rw [hres]
      refine one_nested s ep g L 64 w0 W _ hO hR (.inl hn) (fun f _ => ?_)
      refine (nested_deep s ep g L w0 (oneW W g) _ (hO.below (oneW_below W g)) (hR.below (oneW_below W g))).mono ?_
      rintro e W' ⟨rfl, hc⟩
      exact Outs.mk_err rfl rfl hc
    | false =>
      cases ho : isT sOpen (hdT L) with
      | true =>
        have hres : oneP ep 0 L = .error (badP 62 L) := by unfold oneP; rw [if_neg (by rw [hn]; simp), if_pos ho]
        rw [hres]
        refine one_nested s ep g L 64 w0 W _ hO hR (.inr ⟨hn, ho⟩) (fun f _ => ?_)
        refine (nested_deep s ep g L w0 (oneW W g) _ (hO.below (oneW_below W g)) (hR.below (oneW_below W g))).mono ?_
        rintro e W' ⟨rfl, hc⟩
        exact Outs.mk_err rfl rfl hc
      | false =>
        have hres : oneP ep 0 L = atomP ep L := by unfold oneP; rw [if_neg (by rw [hn]; simp), if_neg (by rw [ho]; simp)]
        rw [hres]
        exact one_atom s ep g L 64 w0 W hO hR hn ho
  | succ k ih =>
    intro hk L W hL hO hR
    have ih := ih (by omega)
    have hd : (64 : Int) - ((k + 1 : Nat) : Int) + 1 = 64 - (k : Int) := by omega
    have hgW := hR.lt
    cases hn : isT sNot (hdT L) with
    | true =>
      have hres : oneP ep (k + 1) L = bnd (stepP ep L) (notP (oneP ep k)) := by
        conv => lhs; unfold oneP
        rw [if_pos hn]; rfl
      rw [hres]
      refine one_nested s ep g L _ w0 W _ hO hR (.inl hn) (fun f hf => ?_)
      rw [if_pos hn] at hf
      subst hf
      exact nested_any enters_not s ep g W.heap.size L (64 - ((k + 1 : Nat) : Int)) w0 (oneW W g) (notP (oneP ep k)) (hO.below (oneW_below W g)) (hR.below (oneW_below W g)) (isT_kind hn) (oneW_held W g) (by omega) (by omega) (by omega)
        (fun L1 W1 h0 h1 h2 h3 => by rw [hd] at h2 ⊢; exact not_of s ep g W.heap.size L1 _ w0 W1 (oneP ep k) ih (Nat.le_trans h0 hL) h1 h2 h3)
    | false =>
      cases ho : isT sOpen (hdT L) with
      | true =>
        have hres : oneP ep (k + 1) L = bnd (stepP ep L) (openP ep (oneP ep k)) := by
          conv => lhs; unfold oneP
          rw [if_neg (by rw [hn]; simp), if_pos ho]; rfl
        rw [hres]
        refine one_nested s ep g L _ w0 W _ hO hR (.inr ⟨hn, ho⟩) (fun f hf => ?_)
        rw [if_neg (by rw [hn]; simp)] at hf
        subst hf
        exact nested_any enters_open s ep g W.heap.size L (64 - ((k + 1 : Nat) : Int)) w0 (oneW W g) (openP ep (oneP ep k)) (hO.below (oneW_below W g)) (hR.below (oneW_below W g)) (isT_kind ho) (oneW_held W g) (by omega) (by omega) (by omega)
          (fun L1 W1 h0 h1 h2 h3 => by rw [hd] at h2 ⊢; exact open_of s ep g W.heap.size L1 _ w0 W1 (oneP ep k) ih (oneP_shr ep k) (Nat.le_trans h0 hL) h1 h2 h3 (by omega))
      | false =>
        have hres : oneP ep (k + 1) L = atomP ep L := by
          conv => lhs; unfold oneP
          rw [if_neg (by rw [hn]; simp), if_neg (by rw [ho]; simp)]
        rw [hres]
        exact one_atom s ep g L _ w0 W hO hR hn ho
end Go.Proofs.YtlmopoipjolbgaaGreatDoor.LexW
namespace Go.Proofs.YtlmopoipjolbgaaGreatDoor.LexW
open Go.RowKit Go.Shelf Go.Proofs.YtlmopoipjolbgaaGreatDoor.LexS Go.Proofs.YtlmopoipjolbgaaGreatDoorW.PrintWords
set_option linter.unusedVariables false
set_option linter.unusedSimpArgs false

def ClRow (W : World) (base : Nat) (v : Value) (l : List Cl) : Prop := kCl.R 74 W base (fun _ => True) v l
theorem ClRow.chg {S : Nat → Prop} {W W' : World} {base : Nat} {v : Value} {l : List Cl} (h : ClRow W base v l) (hc : Chg S W W') (hS : ∀ k, S k → k < base) : ClRow W' base v l :=
  Kd.R_mono (Kd.R_move (Kd.R_bound h) (fun k hk => hc.block k hk.2.2.1 (fun e => by have := hS k e; have := hk.2.1; omega))) (fun _ _ => trivial)
theorem ClRow.lower {W : World} {base base' : Nat} {v : Value} {l : List Cl} (h : ClRow W base v l) (hb : base' ≤ base) : ClRow W base' v l := Kd.R_lower h hb
theorem ClRow.below {W W' : World} {base : Nat} {v : Value} {l : List Cl} (h : ClRow W base v l) (hb : Below W.heap.size W W') : ClRow W' base v l := Kd.R_below h hb
theorem infoCl : (Tryz.prog.info? 74).map (fun i => (i.zero, i.size, i.bytes)) = some (some (.agg #[.string ⟨#[]⟩, .int .u64 0]), kCl.sz, 24) := by kernel_rfl
abbrev clCells (x : Cl) : List Value := [.string x.f0, .int .u64 x.f1]
theorem cl_one {W : World} {base : Nat} {x : Cl} (hbW : base ≤ W.heap.size) : ClRow (W.alloc (.cells (clCells x).toArray 74)) base (.slice (some ⟨W.heap.size, 0, none⟩) 1 1) [x] := by
  refine ⟨fun _ _ => trivial, clCells x, ⟨rfl, .inr ⟨W.heap.size, 1, (clCells x).toArray, rfl, hbW, new_blk W _ _, Nat.le_refl _, by unfold maxLen; omega, rfl, rfl⟩⟩, rfl, fun j p hj => ?_⟩
  have hj0 : j = 0 := by
    have := (List.getElem?_eq_some_iff.1 hj).1
    simpa using this
  subst hj0
  obtain rfl : x = p := by simpa using hj
  exact kCl_mkM _ _ _ x
def ClRowOut (s : ByteArray) (ep : EP) (g : Nat) (d : Int) (base : Nat) (p : List Cl × List Tk) (e : Ending) (W' : World) : Prop := ∃ v, e = .returned v ∧ ClRow W' base v p.1 ∧ Rdr s ep g p.2 d W'

set_option maxRecDepth 100000 in
set_option maxHeartbeats 2000000 in
theorem callTurns_any {f m : Nat} (he : Enters Tryz.prog f) (hem : Enters Tryz.prog m) (s : ByteArray) (ep : EP) (g b : Nat) (L : List Tk) (d : Int) (w0 W : World) (one : List Tk → Rd Cl) (sep : ByteArray) (fv q : Value) (hfv : fv = .func (.func f) #[q] #[] ∨ fv = .func (.func f) #[] #[q]) (hL : L.length ≤ 65537) (hsh : Shr one) (hO : Okw w0 g W) (hR : Rdr s ep g L d W) (hH : Held W b g) (hbg : b ≠ g)
    (hone : ∀ L1 W1, L1.length ≤ 65537 → Okw w0 g W1 → Rdr s ep g L1 d W1 → Held W1 b g → Calls Tryz.prog f #[q] W1 (Outs g W1 (one L1) (ClOut s ep g d)))
    (hmore : ∀ L1 W1, Okw w0 g W1 → Rdr s ep g L1 d W1 → Held W1 b g → Calls Tryz.prog m #[.pointer (some ⟨b, 0, none⟩)] W1 (Outs g W1 (maybeP ep sep L1) (BoolOut s ep g d))) :
    Calls Tryz.prog 84 #[fv, .func (.func m) #[] #[.pointer (some ⟨b, 0, none⟩)]] W (Outs g W (turnsP ep one sep L) (ClRowOut s ep g d W.heap.size)) := by
  have hgW := hR.lt
  have HO := Lib.hid hO; have HH := Lib.hid hH; have HONE := Lib.hid hone; have HMORE := Lib.hid hmore; have HSH := Lib.hid hsh
  have HD := Lib.hid (hone L W hL hO hR hH)
  have heg : ∀ (args : Array Value) (w : World), (callFunc f args).run Tryz.prog w = .ok (.enter f args) w := he
  have hem' : ∀ (args : Array Value) (w : World), (callFunc m args).run Tryz.prog w = .ok (.enter m args) w := hem
  clear hO hR hH hone hmore he hem hsh
  rcases h1 : one L with p | ⟨x, L1⟩
  · have H1 := Lib.hid h1; clear h1
    rcases hfv with rfl | rfl
    all_goals
      go_enter Tryz.func84, Tryz.ntmps84
      go_wp2_with fail
      refine HD.out.mono ?_
      rintro e W2 h
      obtain ⟨rfl, hc⟩ := h.err H1.out
      go_wp2
      exact ⟨rfl, Outs.mk_err (by unfold turnsP; rw [H1.out]; rfl) rfl hc⟩
  · have H1 := Lib.hid h1; clear h1
    have hl1 := HSH.out _ _ _ H1.out
    rcases hfv with rfl | rfl
    all_goals
      go_enter Tryz.func84, Tryz.ntmps84
      go_wp2_with fail
      refine HD.out.mono ?_
      rintro e W2 h
      obtain ⟨⟨rfl, hR2⟩, hc⟩ := h.ok H1.out
      have hs2 := hc.size
      have hrow := cl_one (x := x) hs2
      have hal := (Below.refl W2.heap.size W2).alloc (Nat.le_refl _) (.cells (clCells x).toArray 74)
      have HROW := Lib.hid hrow; have HR3 := Lib.hid (hR2.below hal); have HC3 := Lib.hid (hc.trans (Chg.of_below hal (fun k => k = g)) (fun k e => .inl e))
      clear hR2 hc hrow hal
      unfold clVal
      go_wp2_with fail
      obtain ⟨v0, hv0⟩ : ∃ v0, v0 = Value.slice (some ⟨W2.heap.size, 0, none⟩) 1 1 := ⟨_, rfl⟩
      rw [← hv0] at HROW ⊢
      show Code.wp _ _ _ _ (W2.alloc (.cells (clCells x).toArray 74))
      generalize W2.alloc (.cells (clCells x).toArray 74) = W3 at *
      clear hv0
      have hturn : turnsP ep one sep L = moreP ep one sep (L1.length + 1) [x] L1 := by unfold turnsP; rw [H1.out]; rfl
      have HT := Lib.hid hturn; clear hturn
      go_loopg [5] (L1.length + 1) (fun n vl wr => ∃ (l : List Cl) (L4 : List Tk), Hid (turnsP ep one sep L = moreP ep one sep n l L4) ∧ L4.length < n ∧ l.length + L4.length ≤ 65538 ∧ L4.length ≤ 65537 ∧ Hid (ClRow wr W.heap.size vl l) ∧ Hid (Rdr s ep g L4 d wr) ∧ Hid (Chg (fun k => k = g) W wr))
      case atStart => exact ⟨[x], L1, HT, by omega, by simp; omega, by omega, HROW, HR3, HC3⟩
      case round =>
        clear HROW HR3 HC3 HT
        obtain ⟨l, L4, HT, hn, hl, hl4, HROW, HR4, HC4⟩ := hrel
        obtain ⟨n, rfl⟩ : ∃ n, gk = n + 1 := ⟨gk - 1, by omega⟩
        have hun : moreP ep one sep (n + 1) l L4 = bnd (maybeP ep sep L4) (fun p => if p.1 = true then bnd (one p.2) (fun q => moreP ep one sep n (l ++ [q.1]) q.2) else .ok (l, p.2)) := rfl
        have HUN := Lib.hid hun; clear hun
        have HOr := Lib.hid (HO.out.chg HC4.out); have HHr := Lib.hid (HH.out.chg HC4.out hbg)
        have HM := Lib.hid (HMORE.out L4 wr HOr.out HR4.out HHr.out)
        have hwr := HC4.out.size
        rcases hm : maybeP ep sep L4 with p | ⟨t, L5⟩
        · have HMM := Lib.hid hm; clear hm
          go_wp2_with fail
          refine HM.out.mono ?_
          rintro e W5 h
          obtain ⟨rfl, hc⟩ := h.err HMM.out
          go_wp2
          exact ⟨rfl, Outs.mk_err (by rw [HT.out, HUN.out, HMM.out]; rfl) rfl (HC4.out.trans hc (fun k e => .inl e))⟩
        · have hl5 := maybeP_shr hm
          have HMM := Lib.hid hm; clear hm
          cases t with
          | false =>
            go_wp2_with fail
            refine HM.out.mono ?_
            rintro e W5 h
            obtain ⟨⟨rfl, hR5⟩, hc⟩ := h.ok HMM.out
            obtain ⟨A5, c5, rfl⟩ := Kd.R_slice HROW.out
            have HR5 := Lib.hid hR5; have HC5 := Lib.hid hc; clear hR5 hc
            go_wp2
            go_ret
            exact Outs.mk_ok (b := (l, L5)) (by rw [HT.out, HUN.out, HMM.out]; rfl) ⟨_, rfl, HROW.out.chg HC5.out (fun k e => by omega), HR5.out⟩ (HC4.out.trans HC5.out (fun k e => .inl e))
          | true =>
            have hl5' := hl5.2 rfl
            clear hl5
            go_wp2_with fail
            refine HM.out.mono ?_
            rintro e W5 h
            obtain ⟨⟨rfl, hR5⟩, hc⟩ := h.ok HMM.out
            have hs5 := hc.size
            have hc5 := HC4.out.trans hc (fun k e => .inl e)
            have HD5 := Lib.hid (HONE.out L5 W5 (by omega) (HOr.out.chg hc) hR5 (HHr.out.chg hc hbg))
            have HROW5 := Lib.hid (HROW.out.chg hc (fun k e => by omega)); have HC5 := Lib.hid hc5
            clear hR5 hc hc5
            rcases h5 : one L5 with p | ⟨y, L6⟩
            · have H5 := Lib.hid h5; clear h5
              go_wp2_with fail
              refine HD5.out.mono ?_
              rintro e W6 h
              obtain ⟨rfl, hc⟩ := h.err H5.out
              go_wp2
              exact ⟨rfl, Outs.mk_err (by rw [HT.out, HUN.out, HMM.out]; show bnd (one L5) _ = _; rw [H5.out]; rfl) rfl (HC5.out.trans hc (fun k e => .inl e))⟩
            · have H5 := Lib.hid h5; clear h5
              have hl6 := HSH.out _ _ _ H5.out
              go_wp2_with fail
              refine HD5.out.mono ?_
              rintro e W6 h
              obtain ⟨⟨rfl, hR6⟩, hc⟩ := h.ok H5.out
              have hs6 := hc.size
              have HROW6 := Lib.hid (HROW5.out.chg hc (fun k e => by omega)); have HX6 := Lib.hid (kCl_mkM W6 W.heap.size (fun _ => False) y); have HR6 := Lib.hid hR6; have HC6 := Lib.hid (HC5.out.trans hc (fun k e => .inl e))
              have hvlt : ∀ k, u5.ownBlock = some k → k < W5.heap.size := fun k hk => by
                obtain ⟨inner, ho⟩ := Kd.R_own HROW5.out
                exact own_lt ho k hk
              have HVLT := Lib.hid hvlt
              clear hR6 hc hvlt
              unfold clVal
              go_wp2_with (at_builtin; refine Kd.R_append kCl (w0 := W6) (W := W6) W.heap.size rfl (.tmp 11) (.tmp 14) 68 74 (.agg #[.string ⟨#[]⟩, .int .u64 0]) 24 rfl Tryz.underlying68 infoCl rfl (by decide) (by decide) u5 l y (clCells y) (fun _ => True) (fun _ => False) rfl (by go_simp) HX6.out (fun k hk => hk.elim) (fun _ _ => trivial) HROW6.out (Below.refl _ _) (by omega) (by omega) ?_; intro v7 w7 hO7 hb7 hg7 hat7)
              have HO7 := Lib.hid hO7
              clear hO7
              go_roundg n
              case measure => omega
              case rel =>
                refine ⟨l ++ [y], L6, Lib.hid (by rw [HT.out, HUN.out, HMM.out]; show bnd (one L5) _ = _; rw [H5.out]; rfl), by omega, by simp; omega, by omega, HO7, Lib.hid (HR6.out.belowB hb7 hgW), Lib.hid (HC6.out.trans (Chg.of_belowB hb7) (fun k e => .inr e))⟩
end Go.Proofs.YtlmopoipjolbgaaGreatDoor.LexW
namespace Go.Proofs.YtlmopoipjolbgaaGreatDoor.LexW
open Go.RowKit Go.Shelf Go.Proofs.YtlmopoipjolbgaaGreatDoor.LexS Go.Proofs.YtlmopoipjolbgaaGreatDoorW.PrintWords
set_option linter.unusedVariables false
set_option linter.unusedSimpArgs false

theorem comma_any (s : ByteArray) (ep : EP) (g b : Nat) (L : List Tk) (d : Int) (w0 W : World) (hO : Okw w0 g W) (hR : Rdr s ep g L d W) (hH : Held W b g) :
    Calls Tryz.prog 86 #[.pointer (some ⟨b, 0, none⟩)] W (Outs g W (maybeP ep sComma L) (BoolOut s ep g d)) := by
  have hc := hH.cell
  have HM := Lib.hid (maybe_any s ep g L d sComma w0 W hO hR)
  clear hO hR hH
  rcases hm : maybeP ep sComma L with p | p
  · rw [hm] at HM
    clear hm
    go_enter Tryz.func86, Tryz.ntmps86
    go_wp2_with fail
    refine HM.out.mono ?_
    rintro e W2 h
    obtain ⟨rfl, hc⟩ := h.err rfl
    go_wp2
    exact ⟨rfl, Outs.mk_err rfl rfl hc⟩
  · rw [hm] at HM
    clear hm
    go_enter Tryz.func86, Tryz.ntmps86
    go_wp2_with fail
    refine HM.out.mono ?_
    rintro e W2 h
    obtain ⟨⟨rfl, hR'⟩, hc⟩ := h.ok rfl
    have HR := Lib.hid hR'; have HC := Lib.hid hc; clear hR' hc
    go_wp2
    go_ret
    exact Outs.mk_ok rfl ⟨rfl, HR.out⟩ HC.out
theorem enters_call : Enters Tryz.prog 85 := enters_of Tryz.func85 (by kernel_rfl) rfl
theorem enters_comma : Enters Tryz.prog 86 := enters_of Tryz.func86 (by kernel_rfl) rfl

abbrev rlZero : Obj := .cells #[.slice none 0 0, .int .i64 0, .slice none 0 0, .int .i64 0, .int .u64 0, .int .i64 0, .int .u64 0, .int .i64 0, .int .u64 0] 70
abbrev rlInit : Obj := .cells #[.slice none 0 0, .int .i64 1, .slice none 0 0, .int .i64 0, .int .u64 0, .int .i64 0, .int .u64 0, .int .i64 0, .int .u64 0] 70
abbrev rlAgg (x : Rl) (vc v1 : Value) : Value := .agg #[vc, .int .i64 x.f1.f0, v1, .int .i64 x.f1.f2, .int .u64 x.f1.f3, .int .i64 x.f1.f4, .int .u64 x.f1.f5, .int .i64 x.f2.f0, .int .u64 x.f2.f1]
theorem blk9 {W : World} {b : Nat} {v0 v1 v2 v3 v4 v5 v6 v7 v8 : Value} {t : TypeId} (h : W.heap[b]? = some (.cells #[v0, v1, v2, v3, v4, v5, v6, v7, v8] t (0, 0))) : W.cell? ⟨b, 0, none⟩ = some v0 ∧ W.cell? ⟨b, 1, none⟩ = some v1 ∧ W.cell? ⟨b, 2, none⟩ = some v2 ∧ W.cell? ⟨b, 3, none⟩ = some v3 ∧ W.cell? ⟨b, 4, none⟩ = some v4 ∧ W.cell? ⟨b, 5, none⟩ = some v5 ∧ W.cell? ⟨b, 6, none⟩ = some v6 ∧ W.cell? ⟨b, 7, none⟩ = some v7 ∧ W.cell? ⟨b, 8, none⟩ = some v8 ∧ ∀ j, W.frozen? ⟨b, j, none⟩ = false := by
  refine ⟨?_, ?_, ?_, ?_, ?_, ?_, ?_, ?_, ?_, fun j => ?_⟩ <;> simp [World.cell?, World.frozen?, h]
/-- the world in which a rule is read -/
abbrev ruleW (W : World) (g : Nat) : World := ((W.alloc (.cells #[.pointer (some ⟨g, 0, none⟩)] 51)).alloc rlZero).alloc rlInit
/-- on the way -/
structure RlSt (s : ByteArray) (ep : EP) (g : Nat) (d : Int) (W Wi : World) (L : List Tk) (cs : Array Value) : Prop where
  rd : Rdr s ep g L d Wi
  chg : Chg (fun k => k = g) W Wi
  hB : Wi.heap[W.heap.size + 1]? = some (.cells #[.slice none 0 0, .int .i64 0, .slice none 0 0, .int .i64 0, .int .u64 0, .int .i64 0, .int .u64 0, .int .i64 0, .int .u64 0] 70 (0, 0))
  hX : Wi.heap[W.heap.size + 1 + 1]? = some (.cells cs 70 (0, 0))
  held : Held Wi W.heap.size g
theorem RlSt.lt {s : ByteArray} {ep : EP} {g : Nat} {d : Int} {W Wi : World} {L : List Tk} {cs : Array Value} (h : RlSt s ep g d W Wi L cs) : W.heap.size + 1 + 1 < Wi.heap.size := (Array.getElem?_eq_some_iff.1 h.hX).1
theorem RlSt.next {s : ByteArray} {ep : EP} {g : Nat} {d : Int} {W Wi Wj : World} {L L' : List Tk} {cs : Array Value} (h : RlSt s ep g d W Wi L cs) (hg : g < W.heap.size) (hc : Chg (fun k => k = g) Wi Wj) (hR : Rdr s ep g L' d Wj) : RlSt s ep g d W Wj L' cs :=
  ⟨hR, h.chg.trans hc (fun k e => .inl e), chg_block hc h.hB (by omega), chg_block hc h.hX (by omega), h.held.chg hc (by omega)⟩
theorem RlSt.set {s : ByteArray} {ep : EP} {g : Nat} {d : Int} {W Wi : World} {L : List Tk} {cs : Array Value} (h : RlSt s ep g d W Wi L cs) (hg : g < W.heap.size) (j : Nat) (v : Value) : RlSt s ep g d W (Wi.setCell ⟨W.heap.size + 1 + 1, j, none⟩ v) L (cs.setIfInBounds j v) :=
  ⟨h.rd.far _ j (by omega) v, h.chg.set1 (W.heap.size + 1 + 1) j (by omega) v, (Below.heap_setCell Wi ⟨W.heap.size + 1 + 1, j, none⟩ v (W.heap.size + 1) (by show W.heap.size + 1 ≠ W.heap.size + 1 + 1; omega)).trans h.hB, blk_set h.hX j v,
    (Below.heap_setCell Wi ⟨W.heap.size + 1 + 1, j, none⟩ v W.heap.size (by show W.heap.size ≠ W.heap.size + 1 + 1; omega)).trans h.held⟩
theorem RlSt.set0 {s : ByteArray} {ep : EP} {g : Nat} {d : Int} {W Wi : World} {L : List Tk} {v0 v1 v2 v3 v4 v5 v6 v7 v8 : Value} (h : RlSt s ep g d W Wi L #[v0, v1, v2, v3, v4, v5, v6, v7, v8]) (hg : g < W.heap.size) (u : Value) :
    RlSt s ep g d W (Wi.setCell ⟨W.heap.size + 1 + 1, 0, none⟩ u) L #[u, v1, v2, v3, v4, v5, v6, v7, v8] := h.set hg 0 u
theorem RlSt.set16 {s : ByteArray} {ep : EP} {g : Nat} {d : Int} {W Wi : World} {L : List Tk} {v0 v1 v2 v3 v4 v5 v6 v7 v8 : Value} (h : RlSt s ep g d W Wi L #[v0, v1, v2, v3, v4, v5, v6, v7, v8]) (hg : g < W.heap.size) (a1 a2 a3 a4 a5 a6 : Value) :
    RlSt s ep g d W ((((((Wi.setCell ⟨W.heap.size + 1 + 1, 1, none⟩ a1).setCell ⟨W.heap.size + 1 + 1, 2, none⟩ a2).setCell ⟨W.heap.size + 1 + 1, 3, none⟩ a3).setCell ⟨W.heap.size + 1 + 1, 4, none⟩ a4).setCell ⟨W.heap.size + 1 + 1, 5, none⟩ a5).setCell ⟨W.heap.size + 1 + 1, 6, none⟩ a6) L #[v0, a1, a2, a3, a4, a5, a6, v7, v8] :=
  (((((h.set hg 1 a1).set hg 2 a2).set hg 3 a3).set hg 4 a4).set hg 5 a5).set hg 6 a6
theorem RlSt.set78 {s : ByteArray} {ep : EP} {g : Nat} {d : Int} {W Wi : World} {L : List Tk} {v0 v1 v2 v3 v4 v5 v6 v7 v8 : Value} (h : RlSt s ep g d W Wi L #[v0, v1, v2, v3, v4, v5, v6, v7, v8]) (hg : g < W.heap.size) (a7 a8 : Value) :
    RlSt s ep g d W ((Wi.setCell ⟨W.heap.size + 1 + 1, 7, none⟩ a7).setCell ⟨W.heap.size + 1 + 1, 8, none⟩ a8) L #[v0, v1, v2, v3, v4, v5, v6, a7, a8] := (h.set hg 7 a7).set hg 8 a8
theorem ruleW_st {s : ByteArray} {ep : EP} {g : Nat} {d : Int} {W : World} {L : List Tk} (hR : Rdr s ep g L d W) : RlSt s ep g d W (ruleW W g) L #[.slice none 0 0, .int .i64 1, .slice none 0 0, .int .i64 0, .int .u64 0, .int .i64 0, .int .u64 0, .int .i64 0, .int .u64 0] := by
  have hb : Below W.heap.size W (ruleW W g) := (((Below.refl W.heap.size W).alloc (Nat.le_refl _) _).alloc (by simp) _).alloc (by simp; omega) _
  exact ⟨hR.below hb, Chg.of_below hb _, blk_past _ (new_blk' (by simp) _ _), new_blk' (by simp) _ _, blk_past _ (blk_past _ (new_blk W _ _))⟩

theorem sets9 {W : World} {b : Nat} {u0 u1 u2 u3 u4 u5 u6 u7 u8 : Value} {t : TypeId} (h : W.heap[b]? = some (.cells #[u0, u1, u2, u3, u4, u5, u6, u7, u8] t (0, 0))) (a0 a1 a2 a3 a4 a5 a6 a7 a8 : Value) :
    (((((((((W.setCell ⟨b, 0, none⟩ a0).setCell ⟨b, 1, none⟩ a1).setCell ⟨b, 2, none⟩ a2).setCell ⟨b, 3, none⟩ a3).setCell ⟨b, 4, none⟩ a4).setCell ⟨b, 5, none⟩ a5).setCell ⟨b, 6, none⟩ a6).setCell ⟨b, 7, none⟩ a7).setCell ⟨b, 8, none⟩ a8).heap[b]? = some (.cells #[a0, a1, a2, a3, a4, a5, a6, a7, a8] t (0, 0)) ∧ Chg (fun k => k = b) W (((((((((W.setCell ⟨b, 0, none⟩ a0).setCell ⟨b, 1, none⟩ a1).setCell ⟨b, 2, none⟩ a2).setCell ⟨b, 3, none⟩ a3).setCell ⟨b, 4, none⟩ a4).setCell ⟨b, 5, none⟩ a5).setCell ⟨b, 6, none⟩ a6).setCell ⟨b, 7, none⟩ a7).setCell ⟨b, 8, none⟩ a8) := by
  have h0 := h
  have h1 : (W.setCell ⟨b, 0, none⟩ a0).heap[b]? = some (.cells #[a0, u1, u2, u3, u4, u5, u6, u7, u8] t (0, 0)) := blk_set h0 0 a0
  have h2 : ((W.setCell ⟨b, 0, none⟩ a0).setCell ⟨b, 1, none⟩ a1).heap[b]? = some (.cells #[a0, a1, u2, u3, u4, u5, u6, u7, u8] t (0, 0)) := blk_set h1 1 a1
  have h3 : (((W.setCell ⟨b, 0, none⟩ a0).setCell ⟨b, 1, none⟩ a1).setCell ⟨b, 2, none⟩ a2).heap[b]? = some (.cells #[a0, a1, a2, u3, u4, u5, u6, u7, u8] t (0, 0)) := blk_set h2 2 a2
  have h4 : ((((W.setCell ⟨b, 0, none⟩ a0).setCell ⟨b, 1, none⟩ a1).setCell ⟨b, 2, none⟩ a2).setCell ⟨b, 3, none⟩ a3).heap[b]? = some (.cells #[a0, a1, a2, a3, u4, u5, u6, u7, u8] t (0, 0)) := blk_set h3 3 a3
  have h5 : (((((W.setCell ⟨b, 0, none⟩ a0).setCell ⟨b, 1, none⟩ a1).setCell ⟨b, 2, none⟩ a2).setCell ⟨b, 3, none⟩ a3).setCell ⟨b, 4, none⟩ a4).heap[b]? = some (.cells #[a0, a1, a2, a3, a4, u5, u6, u7, u8] t (0, 0)) := blk_set h4 4 a4
  have h6 : ((((((W.setCell ⟨b, 0, none⟩ a0).setCell ⟨b, 1, none⟩ a1).setCell ⟨b, 2, none⟩ a2).setCell ⟨b, 3, none⟩ a3).setCell ⟨b, 4, none⟩ a4).setCell ⟨b, 5, none⟩ a5).heap[b]? = some (.cells #[a0, a1, a2, a3, a4, a5, u6, u7, u8] t (0, 0)) := blk_set h5 5 a5
  have h7 : (((((((W.setCell ⟨b, 0, none⟩ a0).setCell ⟨b, 1, none⟩ a1).setCell ⟨b, 2, none⟩ a2).setCell ⟨b, 3, none⟩ a3).setCell ⟨b, 4, none⟩ a4).setCell ⟨b, 5, none⟩ a5).setCell ⟨b, 6, none⟩ a6).heap[b]? = some (.cells #[a0, a1, a2, a3, a4, a5, a6, u7, u8] t (0, 0)) := blk_set h6 6 a6
  have h8 : ((((((((W.setCell ⟨b, 0, none⟩ a0).setCell ⟨b, 1, none⟩ a1).setCell ⟨b, 2, none⟩ a2).setCell ⟨b, 3, none⟩ a3).setCell ⟨b, 4, none⟩ a4).setCell ⟨b, 5, none⟩ a5).setCell ⟨b, 6, none⟩ a6).setCell ⟨b, 7, none⟩ a7).heap[b]? = some (.cells #[a0, a1, a2, a3, a4, a5, a6, a7, u8] t (0, 0)) := blk_set h7 7 a7
  have h9 : (((((((((W.setCell ⟨b, 0, none⟩ a0).setCell ⟨b, 1, none⟩ a1).setCell ⟨b, 2, none⟩ a2).setCell ⟨b, 3, none⟩ a3).setCell ⟨b, 4, none⟩ a4).setCell ⟨b, 5, none⟩ a5).setCell ⟨b, 6, none⟩ a6).setCell ⟨b, 7, none⟩ a7).setCell ⟨b, 8, none⟩ a8).heap[b]? = some (.cells #[a0, a1, a2, a3, a4, a5, a6, a7, a8] t (0, 0)) := blk_set h8 8 a8
  exact ⟨h9, (((Chg.refl (fun k => k = b) W).sets6' b (fun k e => e) a0 a1 a2 a3 a4 a5).trans (Chg.of_set _ b 6 a6) (fun k e => .inl e)).trans ((Chg.of_set _ b 7 a7).trans (Chg.of_set _ b 8 a8) (fun k e => .inl e)) (fun k e => .inl e)⟩
theorem Rdr.chgd {S : Nat → Prop} {s : ByteArray} {ep : EP} {g : Nat} {L : List Tk} {d : Int} {W W' : World} (h : Rdr s ep g L d W) (hc : Chg S W W') (hn : ¬ S g) : Rdr s ep g L d W' := let ⟨t, e, hB, hA⟩ := h; ⟨t, e, chg_block hc hB hn, hA⟩
def RlOut (s : ByteArray) (ep : EP) (g : Nat) (d : Int) (base : Nat) (p : Rl × List Tk) (e : Ending) (W' : World) : Prop := ∃ vc v1, e = .returned (rlAgg p.1 vc v1) ∧ ClRow W' base vc p.1.f0 ∧ ExRow W' base v1 p.1.f1.f1 ∧ Rdr s ep g p.2 d W'

set_option maxRecDepth 100000 in
set_option maxHeartbeats 2000000 in
theorem rule_any (s : ByteArray) (ep : EP) (g : Nat) (L : List Tk) (w0 W : World) (hL : L.length ≤ 65537) (hO : Okw w0 g W) (hR : Rdr s ep g L 0 W) :
    Calls Tryz.prog 61 #[.pointer (some ⟨g, 0, none⟩)] W (Outs g W (ruleP ep L) (RlOut s ep g 0 W.heap.size)) := by
  have hgW := hR.lt
  have hmf : ∀ (fn : Fn) (first cap : Array Value) (w : World), (Instr.makeFunc fn first cap).run Tryz.prog w = .ok (.func fn first cap) w := fun _ _ _ _ => rfl
  have hS0 := ruleW_st hR
  have hc0 := hS0.held.cell
  have HT := Lib.hid (callTurns_any enters_call enters_comma s ep g W.heap.size L 0 w0 (ruleW W g) (callP ep) sComma (.func (.func 85) #[.pointer (some ⟨g, 0, none⟩)] #[]) (.pointer (some ⟨g, 0, none⟩)) (.inl rfl) hL (callP_shr ep) (hO.chg hS0.chg) hS0.rd hS0.held (by omega)
    (fun L1 W1 _ h2 h3 _ => call_any s ep g L1 0 w0 W1 h2 h3) (fun L1 W1 h1 h2 h3 => comma_any s ep g W.heap.size L1 0 w0 W1 h1 h2 h3))
  have HS0 := Lib.hid hS0; have HO := Lib.hid hO
  clear hS0 hO hR
  have hrp : ruleP ep L = bnd (turnsP ep (callP ep) sComma L) (fun p => bnd (maybeP ep sWhen p.2) (fun m =>
    bnd (if m.1 = true then exprP ep (oneP ep 64) m.2 else .ok (⟨1, [], 0, 0, 0, 0⟩, m.2)) (fun x =>
      bnd (wantP ep sDo x.2) (fun d => bnd (verdictP ep d.2) (fun v => bnd (wantP ep sSemi v.2) (fun z => .ok (⟨p.1, x.1, v.1⟩, z.2))))))) := rfl
  have HRP := Lib.hid hrp; clear hrp
  rcases ht : turnsP ep (callP ep) sComma L with p | ⟨l, L1⟩
  · have H := Lib.hid ht; clear ht
    go_enter Tryz.func61, Tryz.ntmps61
    go_wp2_with fail
    refine HT.out.mono ?_
    rintro e W2 h
    obtain ⟨rfl, hc2⟩ := h.err H.out
    go_wp2
    exact ⟨rfl, Outs.mk_err (by rw [HRP.out, H.out]; rfl) rfl (HS0.out.chg.trans hc2 (fun k e => .inl e))⟩
  · have hl1 := turnsP_shr ep (callP_shr ep) _ _ _ _ ht
    have H := Lib.hid ht; clear ht
    go_enter Tryz.func61, Tryz.ntmps61
    go_wp2_with fail
    refine HT.out.mono ?_
    rintro e W2 h
    obtain ⟨⟨vc, rfl, hV, hR2⟩, hc2⟩ := h.ok H.out
    obtain ⟨Ac, cc, rfl⟩ := Kd.R_slice hV
    have hS2 := HS0.out.next hgW hc2 hR2
    obtain ⟨y0, y1, y2, y3, y4, y5, y6, y7, y8, yf⟩ := blk9 hS2.hX
    have hS3 := hS2.set0 hgW (.slice Ac l.length cc)
    have hV3 := (hV.chg (Chg.of_set W2 (W.heap.size + 1 + 1) 0 (.slice Ac l.length cc)) (fun k e => by subst e; simp)).lower (base' := W.heap.size + 1 + 1 + 1) (by simp)
    have hc3 := hS3.held.cell
    have HS3 := Lib.hid hS3; have HV3 := Lib.hid hV3
    have HM := Lib.hid (maybe_any s ep g L1 0 sWhen w0 _ (HO.out.chg hS3.chg) hS3.rd)
    clear hS2 hS3 hV hV3 hc2 hR2
    rcases hm : maybeP ep sWhen L1 with p | ⟨bm, L3⟩
    · have HMM := Lib.hid hm; clear hm
      go_wp2_with fail
      refine HM.out.mono ?_
      rintro e W4 h
      obtain ⟨rfl, hc4⟩ := h.err HMM.out
      go_wp2
      exact ⟨rfl, Outs.mk_err (by rw [HRP.out, H.out]; show bnd (maybeP ep sWhen L1) _ = _; rw [HMM.out]; rfl) rfl (HS3.out.chg.trans hc4 (fun k e => .inl e))⟩
    have hl3 := (maybeP_shr hm).1
    have HMM := Lib.hid hm; clear hm
    go_wp2_with fail
    refine HM.out.mono ?_
    rintro e W4 h
    obtain ⟨⟨rfl, hR4⟩, hc4⟩ := h.ok HMM.out
    have hS4 := HS3.out.next hgW hc4 hR4
    have hV4 := HV3.out.chg hc4 (fun k e => by omega)
    have hc5 := hS4.held.cell
    have HS4 := Lib.hid hS4; have HV4 := Lib.hid hV4
    clear hS4 hV4 hc4 hR4 hc3 hc0 HT HM y0 y1 y2 y3 y4 y5 y6 y7 y8 yf
    have hlt4 := HS4.out.lt
    cases bm
    obtain ⟨x, hx⟩ : ∃ x : Ex, x = ⟨1, [], 0, 0, 0, 0⟩ := ⟨_, rfl⟩
    have HRX : Hid (ruleP ep L = bnd (wantP ep sDo L3) (fun d => bnd (verdictP ep d.2) (fun v => bnd (wantP ep sSemi v.2) (fun z => .ok (⟨l, x, v.1⟩, z.2))))) := Lib.hid (by rw [HRP.out, H.out]; show bnd (maybeP ep sWhen L1) _ = _; rw [HMM.out, hx]; rfl)
    obtain ⟨v1, hv1⟩ : ∃ v1 : Value, v1 = .slice none 0 0 := ⟨_, rfl⟩
    have HS6 : Hid (RlSt s ep g 0 W W4 L3 #[.slice Ac l.length cc, .int .i64 x.f0, v1, .int .i64 x.f2, .int .u64 x.f3, .int .i64 x.f4, .int .u64 x.f5, .int .i64 0, .int .u64 0]) := Lib.hid (by rw [hx, hv1]; exact HS4.out)
    have HX6 : Hid (ExRow W4 (W.heap.size + 1 + 1 + 1) v1 x.f1) := Lib.hid (by rw [hx, hv1]; exact Kd.R_nil _ _ _ _ _)
    have HV6 := HV4
    have HIS : Hid (∃ A c, v1 = .slice A x.f1.length c) := Lib.hid ⟨none, 0, by rw [hv1, hx]; rfl⟩
    obtain ⟨L6, hL6⟩ : ∃ L6, L6 = L3 := ⟨_, rfl⟩
    obtain ⟨W6, hW6⟩ : ∃ W6, W6 = W4 := ⟨_, rfl⟩
    go_wp2_with fail
    rw [← hL6] at HS6 HRX
    rw [← hW6] at HS6 HX6 HV6 ⊢
    clear hx hv1 hL6 hW6 HS4 HV4 HRP H HMM hc5
    rotate_left
    have HE := Lib.hid (expr_of s ep g L3 0 w0 W4 (oneP ep 64) (one_any s ep g w0 64 (by omega)) (oneP_shr ep 64) (by omega) (HO.out.chg HS4.out.chg) HS4.out.rd)
    rcases he : exprP ep (oneP ep 64) L3 with p | ⟨x, L6⟩
    · have HEE := Lib.hid he; clear he
      go_wp2_with fail
      refine HE.out.mono ?_
      rintro e W5 h
      obtain ⟨rfl, hc⟩ := h.err HEE.out
      go_wp2
      exact ⟨rfl, Outs.mk_err (by rw [HRP.out, H.out]; show bnd (maybeP ep sWhen L1) _ = _; rw [HMM.out]; show bnd (exprP ep (oneP ep 64) L3) _ = _; rw [HEE.out]; rfl) rfl (HS4.out.chg.trans hc (fun k e => .inl e))⟩
    have HRX : Hid (ruleP ep L = bnd (wantP ep sDo L6) (fun d => bnd (verdictP ep d.2) (fun v => bnd (wantP ep sSemi v.2) (fun z => .ok (⟨l, x, v.1⟩, z.2))))) := Lib.hid (by rw [HRP.out, H.out]; show bnd (maybeP ep sWhen L1) _ = _; rw [HMM.out]; show bnd (exprP ep (oneP ep 64) L3) _ = _; rw [he]; rfl)
    have HEE := Lib.hid he; clear he
    go_wp2_with fail
    refine HE.out.mono ?_
    rintro e W5 h
    obtain ⟨⟨v1, rfl, hX5, hR5⟩, hc⟩ := h.ok HEE.out
    obtain ⟨A1, c1, rfl⟩ := Kd.R_slice hX5
    have hS5 := HS4.out.next hgW hc hR5
    have hV5 := HV4.out.chg hc (fun k e => by omega)
    have hcw := hS5.held.cell
    obtain ⟨y0, y1, y2, y3, y4, y5, y6, y7, y8, yf⟩ := blk9 hS5.hX
    have hS6 := hS5.set16 hgW (.int .i64 x.f0) (.slice A1 x.f1.length c1) (.int .i64 x.f2) (.int .u64 x.f3) (.int .i64 x.f4) (.int .u64 x.f5)
    have hsets : Chg (fun k => k = W.heap.size + 1 + 1) W5 ((((((W5.setCell ⟨W.heap.size + 1 + 1, 1, none⟩ (.int .i64 x.f0)).setCell ⟨W.heap.size + 1 + 1, 2, none⟩ (.slice A1 x.f1.length c1)).setCell ⟨W.heap.size + 1 + 1, 3, none⟩ (.int .i64 x.f2)).setCell ⟨W.heap.size + 1 + 1, 4, none⟩ (.int .u64 x.f3)).setCell ⟨W.heap.size + 1 + 1, 5, none⟩ (.int .i64 x.f4)).setCell ⟨W.heap.size + 1 + 1, 6, none⟩ (.int .u64 x.f5)) :=
      (((((Chg.of_set W5 (W.heap.size + 1 + 1) 1 _).trans (Chg.of_set _ _ 2 _) (fun k e => .inl e)).trans (Chg.of_set _ _ 3 _) (fun k e => .inl e)).trans (Chg.of_set _ _ 4 _) (fun k e => .inl e)).trans (Chg.of_set _ _ 5 _) (fun k e => .inl e)).trans (Chg.of_set _ _ 6 _) (fun k e => .inl e)
    have HX6 := Lib.hid ((hX5.chg hsets (fun k e => by omega)).lower (base' := W.heap.size + 1 + 1 + 1) (by omega))
    have HV6 := Lib.hid (hV5.chg hsets (fun k e => by omega))
    have HIS : Hid (∃ A c, Value.slice A1 x.f1.length c1 = .slice A x.f1.length c) := Lib.hid ⟨_, _, rfl⟩
    have HS6 := Lib.hid hS6
    clear hX5 hR5 hc hS5 hV5 hS6 hsets
    unfold exAgg
    go_wp2_with fail
    obtain ⟨W6, hW6⟩ : ∃ W6, W6 = (((((W5.setCell ⟨W.heap.size + 1 + 1, 1, none⟩ (.int .i64 x.f0)).setCell ⟨W.heap.size + 1 + 1, 2, none⟩ (.slice A1 x.f1.length c1)).setCell ⟨W.heap.size + 1 + 1, 3, none⟩ (.int .i64 x.f2)).setCell ⟨W.heap.size + 1 + 1, 4, none⟩ (.int .u64 x.f3)).setCell ⟨W.heap.size + 1 + 1, 5, none⟩ (.int .i64 x.f4)).setCell ⟨W.heap.size + 1 + 1, 6, none⟩ (.int .u64 x.f5) := ⟨_, rfl⟩
    rw [← hW6] at HS6 HX6 HV6 ⊢
    clear hW6
    obtain ⟨v1, hv1⟩ : ∃ v1, v1 = Value.slice A1 x.f1.length c1 := ⟨_, rfl⟩
    rw [← hv1] at HS6 HX6 HIS ⊢
    clear hv1
    clear HS4 HV4 HRP H HMM hc5 hcw y0 y1 y2 y3 y4 y5 y6 y7 y8 yf HE HEE
    all_goals
      have HW := Lib.hid (want_any s ep g L6 0 sDo w0 W6 (HO.out.chg HS6.out.chg) HS6.out.rd)
      rcases hw : wantP ep sDo L6 with p | ⟨u, L7⟩
      · have HWE := Lib.hid hw; clear hw
        go_wp2_with fail
        refine HW.out.mono ?_
        rintro e W7 h
        obtain ⟨rfl, hc⟩ := h.err HWE.out
        go_wp2
        exact ⟨rfl, Outs.mk_err (by rw [HRX.out, HWE.out]; rfl) rfl (HS6.out.chg.trans hc (fun k e => .inl e))⟩
      have HWE := Lib.hid hw; clear hw
      go_wp2_with fail
      refine HW.out.mono ?_
      rintro e W7 h
      obtain ⟨⟨rfl, hR7⟩, hc⟩ := h.ok HWE.out
      have HS7 := Lib.hid (HS6.out.next hgW hc hR7)
      have HV7 := Lib.hid (HV6.out.chg hc (fun k e => by omega)); have HX7 := Lib.hid (HX6.out.chg hc (fun k e => by omega))
      have hcell7 := HS7.out.held.cell
      have HVD := Lib.hid (verdict_any s ep g L7 0 w0 W7 (HO.out.chg HS7.out.chg) HS7.out.rd)
      clear hR7 hc HS6 HV6 HX6 HW
      rcases hv : verdictP ep L7 with p | ⟨vd, L8⟩
      · have HVE := Lib.hid hv; clear hv
        go_wp2_with fail
        refine HVD.out.mono ?_
        rintro e W8 h
        obtain ⟨rfl, hc⟩ := h.err HVE.out
        go_wp2
        exact ⟨rfl, Outs.mk_err (by rw [HRX.out, HWE.out]; show bnd (verdictP ep L7) _ = _; rw [HVE.out]; rfl) rfl (HS7.out.chg.trans hc (fun k e => .inl e))⟩
      have HVE := Lib.hid hv; clear hv
      go_wp2_with fail
      refine HVD.out.mono ?_
      rintro e W8 h
      obtain ⟨⟨rfl, hR8⟩, hc⟩ := h.ok HVE.out
      have hS8 := HS7.out.next hgW hc hR8
      have hcell8 := hS8.held.cell
      obtain ⟨y0, y1, y2, y3, y4, y5, y6, y7, y8, yf⟩ := blk9 hS8.hX
      have hset9 : Chg (fun k => k = W.heap.size + 1 + 1) W8 ((W8.setCell ⟨W.heap.size + 1 + 1, 7, none⟩ (.int .i64 vd.f0)).setCell ⟨W.heap.size + 1 + 1, 8, none⟩ (.int .u64 vd.f1)) := (Chg.of_set W8 (W.heap.size + 1 + 1) 7 _).trans (Chg.of_set _ _ 8 _) (fun k e => .inl e)
      have HS9 := Lib.hid (hS8.set78 hgW (.int .i64 vd.f0) (.int .u64 vd.f1))
      have HV9 := Lib.hid ((HV7.out.chg hc (fun k e => by omega)).chg hset9 (fun k e => by omega)); have HX9 := Lib.hid ((HX7.out.chg hc (fun k e => by omega)).chg hset9 (fun k e => by omega))
      have HWS := Lib.hid (want_any s ep g L8 0 sSemi w0 _ (HO.out.chg HS9.out.chg) HS9.out.rd)
      clear hS8 hR8 hc hset9 HS7 HV7 HX7 HVD hcell7
      unfold vdVal
      rcases hw : wantP ep sSemi L8 with p | ⟨u, LA⟩
      · have HWF := Lib.hid hw; clear hw
        go_wp2_with fail
        refine HWS.out.mono ?_
        rintro e WA h
        obtain ⟨rfl, hc⟩ := h.err HWF.out
        go_wp2
        exact ⟨rfl, Outs.mk_err (by rw [HRX.out, HWE.out]; show bnd (verdictP ep L7) _ = _; rw [HVE.out]; show bnd (wantP ep sSemi L8) _ = _; rw [HWF.out]; rfl) rfl (HS9.out.chg.trans hc (fun k e => .inl e))⟩
      have HWF := Lib.hid hw; clear hw
      go_wp2_with fail
      refine HWS.out.mono ?_
      rintro e WA h
      obtain ⟨⟨rfl, hRA⟩, hc⟩ := h.ok HWF.out
      have hSA := HS9.out.next hgW hc hRA
      have HVA := Lib.hid (HV9.out.chg hc (fun k e => by omega)); have HXA := Lib.hid (HX9.out.chg hc (fun k e => by omega))
      clear y0 y1 y2 y3 y4 y5 y6 y7 y8 yf hcell8
      obtain ⟨y0, y1, y2, y3, y4, y5, y6, y7, y8, yf⟩ := blk9 hSA.hX
      obtain ⟨z0, z1, z2, z3, z4, z5, z6, z7, z8, zf⟩ := blk9 hSA.hB
      have HSA := Lib.hid hSA
      obtain ⟨A1, c1, hv1⟩ := HIS.out
      subst hv1
      clear hSA hRA hc HS9 HV9 HX9 HWS
      go_wp2
      have hlt := HSA.out.lt
      obtain ⟨e1, e2⟩ := sets9 HSA.out.hB (.slice Ac l.length cc) (.int .i64 x.f0) (.slice A1 x.f1.length c1) (.int .i64 x.f2) (.int .u64 x.f3) (.int .i64 x.f4) (.int .u64 x.f5) (.int .i64 vd.f0) (.int .u64 vd.f1)
      obtain ⟨r0, r1, r2, r3, r4, r5, r6, r7, r8, rf⟩ := blk9 e1
      refine bodyPost_ret (v := rlAgg ⟨l, x, vd⟩ (.slice Ac l.length cc) (.slice A1 x.f1.length c1)) (by simp [results, Tryz.results61, go_sem, r0, r1, r2, r3, r4, r5, r6, r7, r8]) rfl ?_
      refine Outs.mk_ok (b := (⟨l, x, vd⟩, LA)) (by rw [HRX.out, HWE.out]; show bnd (verdictP ep L7) _ = _; rw [HVE.out]; show bnd (wantP ep sSemi L8) _ = _; rw [HWF.out]; rfl) ⟨_, _, rfl, ?_, ?_, ?_⟩ (HSA.out.chg.trans e2 (fun k e => .inr (by omega)))
      · exact (HVA.out.chg e2 (fun k e => by omega)).lower (by omega)
      · exact (HXA.out.chg e2 (fun k e => by omega)).lower (by omega)
      · exact HSA.out.rd.chgd e2 (by omega)
end Go.Proofs.YtlmopoipjolbgaaGreatDoor.LexW
