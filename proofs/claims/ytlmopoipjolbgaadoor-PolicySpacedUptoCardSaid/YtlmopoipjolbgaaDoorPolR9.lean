/-
  Layer 6 (policy): an expression, given what stands between and and or.
-/
import Derived.Test.YtlmopoipjolbgaaDoorPolR8
namespace Go.Proofs.YtlmopoipjolbgaaDoor.LexW
open Go.RowKit Go.Shelf Go.Proofs.YtlmopoipjolbgaaDoor.LexS Go.Proofs.YtlmopoipjolbgaaDoorW.PrintWords
set_option linter.unusedVariables false
set_option linter.unusedSimpArgs false

/-- a result's box is written, and the call returns -/
theorem ex_end {s : ByteArray} {ep : EP} {g B base : Nat} {L : List Tk} {d : Int} {W W3 : World} {x : Ex} {v u1 : Value} (hz : W3.heap[B]? = some (.cells #[.int .i64 0, u1, .int .i64 0, .int .u64 0, .int .i64 0, .int .u64 0] 58 (0, 0))) (hB : W.heap.size ≤ B) (hgB : g < W.heap.size) (hX : ExRow W3 base v x.f1) (hbB : B < base) (hR : Rdr s ep g L d W3) (hc : Chg (fun k => k = g) W W3) :
    ExRow ((((((W3.setCell ⟨B, 0, none⟩ (.int .i64 x.f0)).setCell ⟨B, 1, none⟩ v).setCell ⟨B, 2, none⟩ (.int .i64 x.f2)).setCell ⟨B, 3, none⟩ (.int .u64 x.f3)).setCell ⟨B, 4, none⟩ (.int .i64 x.f4)).setCell ⟨B, 5, none⟩ (.int .u64 x.f5)) W.heap.size v x.f1 ∧
    Rdr s ep g L d ((((((W3.setCell ⟨B, 0, none⟩ (.int .i64 x.f0)).setCell ⟨B, 1, none⟩ v).setCell ⟨B, 2, none⟩ (.int .i64 x.f2)).setCell ⟨B, 3, none⟩ (.int .u64 x.f3)).setCell ⟨B, 4, none⟩ (.int .i64 x.f4)).setCell ⟨B, 5, none⟩ (.int .u64 x.f5)) ∧
    Chg (fun k => k = g) W ((((((W3.setCell ⟨B, 0, none⟩ (.int .i64 x.f0)).setCell ⟨B, 1, none⟩ v).setCell ⟨B, 2, none⟩ (.int .i64 x.f2)).setCell ⟨B, 3, none⟩ (.int .u64 x.f3)).setCell ⟨B, 4, none⟩ (.int .i64 x.f4)).setCell ⟨B, 5, none⟩ (.int .u64 x.f5)) ∧
    ((((((W3.setCell ⟨B, 0, none⟩ (.int .i64 x.f0)).setCell ⟨B, 1, none⟩ v).setCell ⟨B, 2, none⟩ (.int .i64 x.f2)).setCell ⟨B, 3, none⟩ (.int .u64 x.f3)).setCell ⟨B, 4, none⟩ (.int .i64 x.f4)).setCell ⟨B, 5, none⟩ (.int .u64 x.f5)).heap[B]? = some (.cells #[.int .i64 x.f0, v, .int .i64 x.f2, .int .u64 x.f3, .int .i64 x.f4, .int .u64 x.f5] 58 (0, 0)) :=
  ⟨(hX.chg ((Chg.refl (fun k => k = B) W3).sets6' B (fun k e => e) _ _ _ _ _ _) (fun k e => by omega)).lower (by omega), hR.far6 B (by omega) _ _ _ _ _ _, hc.sets6 B hB _ _ _ _ _ _, blk_sets6 hz _ _ _ _ _ _⟩
theorem and_any (s : ByteArray) (ep : EP) (g b : Nat) (L : List Tk) (d : Int) (w0 W : World) (hO : Okw w0 g W) (hR : Rdr s ep g L d W) (hH : Held W b g) :
    Calls Tryd.prog 68 #[.pointer (some ⟨b, 0, none⟩)] W (Outs g W (maybeP ep sAnd L) (BoolOut s ep g d)) := by
  have hc := hH.cell
  have HM := Lib.hid (maybe_any s ep g L d sAnd w0 W hO hR)
  clear hO hR hH
  rcases hm : maybeP ep sAnd L with p | p
  · rw [hm] at HM
    clear hm
    go_enter Tryd.func68, Tryd.ntmps68
    go_wp2_with fail
    refine HM.out.mono ?_
    rintro e W2 h
    obtain ⟨rfl, hc⟩ := h.err rfl
    go_wp2
    exact ⟨rfl, Outs.mk_err rfl rfl hc⟩
  · rw [hm] at HM
    clear hm
    go_enter Tryd.func68, Tryd.ntmps68
    go_wp2_with fail
    refine HM.out.mono ?_
    rintro e W2 h
    obtain ⟨⟨rfl, hR'⟩, hc⟩ := h.ok rfl
    have HR := Lib.hid hR'; have HC := Lib.hid hc; clear hR' hc
    go_wp2
    go_ret
    exact Outs.mk_ok rfl ⟨rfl, HR.out⟩ HC.out
theorem or_any (s : ByteArray) (ep : EP) (g b : Nat) (L : List Tk) (d : Int) (w0 W : World) (hO : Okw w0 g W) (hR : Rdr s ep g L d W) (hH : Held W b g) :
    Calls Tryd.prog 70 #[.pointer (some ⟨b, 0, none⟩)] W (Outs g W (maybeP ep sOr L) (BoolOut s ep g d)) := by
  have hc := hH.cell
  have HM := Lib.hid (maybe_any s ep g L d sOr w0 W hO hR)
  clear hO hR hH
  rcases hm : maybeP ep sOr L with p | p
  · rw [hm] at HM
    clear hm
    go_enter Tryd.func70, Tryd.ntmps70
    go_wp2_with fail
    refine HM.out.mono ?_
    rintro e W2 h
    obtain ⟨rfl, hc⟩ := h.err rfl
    go_wp2
    exact ⟨rfl, Outs.mk_err rfl rfl hc⟩
  · rw [hm] at HM
    clear hm
    go_enter Tryd.func70, Tryd.ntmps70
    go_wp2_with fail
    refine HM.out.mono ?_
    rintro e W2 h
    obtain ⟨⟨rfl, hR'⟩, hc⟩ := h.ok rfl
    have HR := Lib.hid hR'; have HC := Lib.hid hc; clear hR' hc
    go_wp2
    go_ret
    exact Outs.mk_ok rfl ⟨rfl, HR.out⟩ HC.out

/-- what one of the grammar does, of a depth -/
def OneC (s : ByteArray) (ep : EP) (g : Nat) (w0 : World) (d : Int) (one : List Tk → Rd Ex) : Prop := ∀ L W, L.length ≤ 65537 → Okw w0 g W → Rdr s ep g L d W → Calls Tryd.prog 67 #[.pointer (some ⟨g, 0, none⟩)] W (Outs g W (one L) (ExOut s ep g d W.heap.size))
theorem enters_one : Enters Tryd.prog 67 := enters_of Tryd.func67 (by kernel_rfl) rfl
theorem enters_and : Enters Tryd.prog 68 := enters_of Tryd.func68 (by kernel_rfl) rfl
theorem enters_all : Enters Tryd.prog 64 := enters_of Tryd.func64 (by kernel_rfl) rfl
theorem enters_or : Enters Tryd.prog 70 := enters_of Tryd.func70 (by kernel_rfl) rfl

set_option maxRecDepth 100000 in
set_option maxHeartbeats 1000000 in
theorem all_of (s : ByteArray) (ep : EP) (g b : Nat) (L : List Tk) (d : Int) (w0 W : World) (one : List Tk → Rd Ex) (hone : OneC s ep g w0 d one) (hsh : Shr one) (hL : L.length ≤ 65537) (hO : Okw w0 g W) (hR : Rdr s ep g L d W) (hH : Held W b g) (hbg : b ≠ g) :
    Calls Tryd.prog 64 #[.pointer (some ⟨b, 0, none⟩)] W (Outs g W (allP ep one L) (ExOut s ep g d W.heap.size)) := by
  have hgW := hR.lt
  have hal := (Below.refl W.heap.size W).alloc (Nat.le_refl _) exZero
  have hz1 := new_blk W #[.int .i64 0, .slice none 0 0, .int .i64 0, .int .u64 0, .int .i64 0, .int .u64 0] 58
  have hc := cell_past exZero hH.cell
  have hmf : ∀ (fn : Fn) (first cap : Array Value) (w : World), (Instr.makeFunc fn first cap).run Tryd.prog w = .ok (.func fn first cap) w := fun _ _ _ _ => rfl
  have HT := Lib.hid (turns_any enters_one enters_and s ep g b L d w0 (W.alloc exZero) one sAnd (.func (.func 67) #[.pointer (some ⟨g, 0, none⟩)] #[]) (.pointer (some ⟨g, 0, none⟩)) (.inl rfl) hL hsh (hO.below hal) (hR.below hal) (hH.below hal) hbg
    (fun L1 W1 h1 h2 h3 _ => hone L1 W1 h1 h2 h3) (fun L1 W1 h1 h2 h3 => and_any s ep g b L1 d w0 W1 h1 h2 h3))
  have HAL := Lib.hid hal; have HZ1 := Lib.hid hz1
  clear hone hsh hO hR hH hal hz1
  rcases ht : turnsP ep one sAnd L with p | ⟨l, L1⟩
  · have H := Lib.hid ht; clear ht
    go_enter Tryd.func64, Tryd.ntmps64
    go_wp2_with fail
    refine HT.out.mono ?_
    rintro e W2 h
    obtain ⟨rfl, hc2⟩ := h.err H.out
    go_wp2
    exact ⟨rfl, Outs.mk_err (by unfold allP; rw [H.out]; rfl) rfl ((Chg.of_below HAL.out (fun k => k = g)).trans hc2 (fun k e => .inl e))⟩
  · have H := Lib.hid ht; clear ht
    go_enter Tryd.func64, Tryd.ntmps64
    go_wp2_with fail
    refine HT.out.mono ?_
    rintro e W2 h
    obtain ⟨⟨v, rfl, hX, hR2⟩, hc2⟩ := h.ok H.out
    have hz2 := chg_block hc2 HZ1.out (by omega)
    have hs2 : W.heap.size < W2.heap.size := (Array.getElem?_eq_some_iff.1 hz2).1
    have HJ := Lib.hid (joined_any 4 v l _ W2 hX)
    have HC2 := Lib.hid ((Chg.of_below HAL.out (fun k => k = g)).trans hc2 (fun k e => .inl e)); have HR2 := Lib.hid hR2; have HZ2 := Lib.hid hz2
    clear hX hR2 hc2 hz2
    go_wp2_with fail
    refine HJ.out.mono ?_
    rintro e W3 ⟨⟨v3, rfl, hX3⟩, hb3⟩
    obtain ⟨A3, c3, rfl⟩ := Kd.R_slice hX3
    have hz3 := (hb3.block W.heap.size hs2).trans HZ2.out
    obtain ⟨z0, z1, z2, z3, z4, z5, zf⟩ := blk6 hz3
    have hs3 := hb3.size
    generalize hxe : joinE 4 l = x at *
    have HXE := Lib.hid hxe; clear hxe
    have HX3 := Lib.hid hX3; have HB3 := Lib.hid hb3; have HZ3 := Lib.hid hz3
    clear hX3 hb3 hz3
    unfold exAgg
    go_wp2
    obtain ⟨e1, e2, e3, e4⟩ := ex_end HZ3.out (Nat.le_refl _) hgW HX3.out (by simp) (HR2.out.below HB3.out) (HC2.out.trans (Chg.of_below HB3.out (fun k => k = g)) (fun k e => .inl e))
    obtain ⟨r0, r1, r2, r3, r4, r5, rf⟩ := blk6 e4
    refine bodyPost_ret (v := exAgg x (.slice A3 x.f1.length c3)) (by simp [results, Tryd.results64, go_sem, r0, r1, r2, r3, r4, r5]) rfl ?_
    exact Outs.mk_ok (b := (x, L1)) (by unfold allP; rw [H.out]; show Except.ok (joinE 4 l, L1) = _; rw [HXE.out]) ⟨_, rfl, e1, e2⟩ e3

set_option maxRecDepth 100000 in
set_option maxHeartbeats 1000000 in
theorem expr_of (s : ByteArray) (ep : EP) (g : Nat) (L : List Tk) (d : Int) (w0 W : World) (one : List Tk → Rd Ex) (hone : OneC s ep g w0 d one) (hsh : Shr one) (hL : L.length ≤ 65537) (hO : Okw w0 g W) (hR : Rdr s ep g L d W) :
    Calls Tryd.prog 45 #[.pointer (some ⟨g, 0, none⟩)] W (Outs g W (exprP ep one L) (ExOut s ep g d W.heap.size)) := by
  have hgW := hR.lt
  have hal := ((Below.refl W.heap.size W).alloc (Nat.le_refl _) (.cells #[.pointer (some ⟨g, 0, none⟩)] 78)).alloc (by simp) exZero
  have hz1 : ((W.alloc (.cells #[.pointer (some ⟨g, 0, none⟩)] 78)).alloc exZero).heap[W.heap.size + 1]? = some (.cells #[.int .i64 0, .slice none 0 0, .int .i64 0, .int .u64 0, .int .i64 0, .int .u64 0] 58 (0, 0)) := new_blk' (by simp) _ _
  have hH : Held ((W.alloc (.cells #[.pointer (some ⟨g, 0, none⟩)] 78)).alloc exZero) W.heap.size g := blk_past exZero (new_blk W _ _)
  have hmf : ∀ (fn : Fn) (first cap : Array Value) (w : World), (Instr.makeFunc fn first cap).run Tryd.prog w = .ok (.func fn first cap) w := fun _ _ _ _ => rfl
  have HT := Lib.hid (turns_any enters_all enters_or s ep g W.heap.size L d w0 ((W.alloc (.cells #[.pointer (some ⟨g, 0, none⟩)] 78)).alloc exZero) (allP ep one) sOr (.func (.func 64) #[] #[.pointer (some ⟨W.heap.size, 0, none⟩)]) (.pointer (some ⟨W.heap.size, 0, none⟩)) (.inr rfl) hL (allP_shr ep hsh) (hO.below hal) (hR.below hal) hH (by omega)
    (fun L1 W1 h1 h2 h3 h4 => all_of s ep g W.heap.size L1 d w0 W1 one hone hsh h1 h2 h3 h4 (by omega)) (fun L1 W1 h1 h2 h3 => or_any s ep g W.heap.size L1 d w0 W1 h1 h2 h3))
  have HAL := Lib.hid hal; have HZ1 := Lib.hid hz1
  clear hone hsh hO hR hH hal hz1
  rcases ht : turnsP ep (allP ep one) sOr L with p | ⟨l, L1⟩
  · have H := Lib.hid ht; clear ht
    go_enter Tryd.func45, Tryd.ntmps45
    go_wp2_with fail
    refine HT.out.mono ?_
    rintro e W2 h
    obtain ⟨rfl, hc2⟩ := h.err H.out
    go_wp2
    exact ⟨rfl, Outs.mk_err (by unfold exprP; rw [H.out]; rfl) rfl ((Chg.of_below HAL.out (fun k => k = g)).trans hc2 (fun k e => .inl e))⟩
  · have H := Lib.hid ht; clear ht
    go_enter Tryd.func45, Tryd.ntmps45
    go_wp2_with fail
    refine HT.out.mono ?_
    rintro e W2 h
    obtain ⟨⟨v, rfl, hX, hR2⟩, hc2⟩ := h.ok H.out
    have hz2 := chg_block hc2 HZ1.out (by omega)
    have hs2 : W.heap.size + 1 < W2.heap.size := (Array.getElem?_eq_some_iff.1 hz2).1
    have HJ := Lib.hid (joined_any 5 v l _ W2 hX)
    have HC2 := Lib.hid ((Chg.of_below HAL.out (fun k => k = g)).trans hc2 (fun k e => .inl e)); have HR2 := Lib.hid hR2; have HZ2 := Lib.hid hz2
    clear hX hR2 hc2 hz2
    go_wp2_with fail
    refine HJ.out.mono ?_
    rintro e W3 ⟨⟨v3, rfl, hX3⟩, hb3⟩
    obtain ⟨A3, c3, rfl⟩ := Kd.R_slice hX3
    have hz3 := (hb3.block (W.heap.size + 1) hs2).trans HZ2.out
    obtain ⟨z0, z1, z2, z3, z4, z5, zf⟩ := blk6 hz3
    have hs3 := hb3.size
    generalize hxe : joinE 5 l = x at *
    have HXE := Lib.hid hxe; clear hxe
    have HX3 := Lib.hid hX3; have HB3 := Lib.hid hb3; have HZ3 := Lib.hid hz3
    clear hX3 hb3 hz3
    unfold exAgg
    go_wp2
    obtain ⟨e1, e2, e3, e4⟩ := ex_end HZ3.out (by omega) hgW HX3.out (by simp) (HR2.out.below HB3.out) (HC2.out.trans (Chg.of_below HB3.out (fun k => k = g)) (fun k e => .inl e))
    obtain ⟨r0, r1, r2, r3, r4, r5, rf⟩ := blk6 e4
    refine bodyPost_ret (v := exAgg x (.slice A3 x.f1.length c3)) (by simp [results, Tryd.results45, go_sem, r0, r1, r2, r3, r4, r5]) rfl ?_
    exact Outs.mk_ok (b := (x, L1)) (by unfold exprP; rw [H.out]; show Except.ok (joinE 5 l, L1) = _; rw [HXE.out]) ⟨_, rfl, e1, e2⟩ e3
end Go.Proofs.YtlmopoipjolbgaaDoor.LexW
