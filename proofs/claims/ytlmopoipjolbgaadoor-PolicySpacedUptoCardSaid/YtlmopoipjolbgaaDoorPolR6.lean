/-
  Layer 6 (policy): what stands within a ( or a not; one, or several as one.
-/
import Derived.Test.YtlmopoipjolbgaaDoorPolR5
namespace Go.Proofs.YtlmopoipjolbgaaDoor.LexW
open Go.RowKit Go.Shelf Go.Proofs.YtlmopoipjolbgaaDoor.LexS Go.Proofs.YtlmopoipjolbgaaDoorW.PrintWords
set_option linter.unusedVariables false
set_option linter.unusedSimpArgs false

theorem ExRow.chg {S : Nat → Prop} {W W' : World} {base : Nat} {v : Value} {l : List Ex} (h : ExRow W base v l) (hc : Chg S W W') (hS : ∀ k, S k → k < base) : ExRow W' base v l :=
  Kd.R_mono (Kd.R_move (Kd.R_bound h) (fun k hk => hc.block k hk.2.2.1 (fun e => by have := hS k e; have := hk.2.1; omega))) (fun _ _ => trivial)
theorem ExRow.lower {W : World} {base base' : Nat} {v : Value} {l : List Ex} (h : ExRow W base v l) (hb : base' ≤ base) : ExRow W base' v l := Kd.R_lower h hb
theorem ExRow.below {W W' : World} {base : Nat} {v : Value} {l : List Ex} (h : ExRow W base v l) (hb : Below W.heap.size W W') : ExRow W' base v l := Kd.R_below h hb
theorem Rdr.deep {s : ByteArray} {ep : EP} {g : Nat} {L : List Tk} {d : Int} {W : World} (h : Rdr s ep g L d W) (d' : Int) : Rdr s ep g L d' (W.setCell ⟨g, 6, none⟩ (.int .i64 d')) :=
  let ⟨t, e, hB, hA⟩ := h; ⟨t, e, blk_set hB 6 _, hA⟩
/-- a variable that holds the reader's address -/
def Held (W : World) (b g : Nat) : Prop := W.heap[b]? = some (.cells #[.pointer (some ⟨g, 0, none⟩)] 78 (0, 0))
theorem Held.cell {W : World} {b g : Nat} (h : Held W b g) : W.cell? ⟨b, 0, none⟩ = some (.pointer (some ⟨g, 0, none⟩)) := by simp [World.cell?, show W.heap[b]? = _ from h]
theorem Held.lt {W : World} {b g : Nat} (h : Held W b g) : b < W.heap.size := (Array.getElem?_eq_some_iff.1 h).1
theorem Held.chg {S : Nat → Prop} {W W' : World} {b g : Nat} (h : Held W b g) (hc : Chg S W W') (hn : ¬ S b) : Held W' b g := chg_block hc h hn
theorem Held.below {W W' : World} {b g : Nat} (h : Held W b g) (hb : Below W.heap.size W W') : Held W' b g := (hb.block b h.lt).trans h

theorem Chg.wider {S S' : Nat → Prop} {W W' : World} (h : Chg S W W') (hS : ∀ k, S k → S' k) : Chg S' W W' := ⟨h.os, h.tape, h.output, h.size, fun k hk hn => h.block k hk (fun e => hn (hS k e))⟩
theorem Chg.sets6' {S : Nat → Prop} {W W' : World} (h : Chg S W W') (b : Nat) (hb : ∀ k, k = b → S k) (v0 v1 v2 v3 v4 v5 : Value) :
    Chg S W ((((((W'.setCell ⟨b, 0, none⟩ v0).setCell ⟨b, 1, none⟩ v1).setCell ⟨b, 2, none⟩ v2).setCell ⟨b, 3, none⟩ v3).setCell ⟨b, 4, none⟩ v4).setCell ⟨b, 5, none⟩ v5) :=
  (((((h.trans (Chg.of_set _ b 0 v0) (fun k e => .inl (hb k e))).trans (Chg.of_set _ b 1 v1) (fun k e => .inl (hb k e))).trans (Chg.of_set _ b 2 v2) (fun k e => .inl (hb k e))).trans (Chg.of_set _ b 3 v3) (fun k e => .inl (hb k e))).trans (Chg.of_set _ b 4 v4) (fun k e => .inl (hb k e))).trans (Chg.of_set _ b 5 v5) (fun k e => .inl (hb k e))

theorem stepP_len {ep : EP} {L L1 : List Tk} (h : stepP ep L = .ok L1) : L1.length ≤ L.length := by
  obtain ⟨t, rfl, _⟩ := stepP_ok h
  simp

set_option maxRecDepth 100000 in
set_option maxHeartbeats 2000000 in
theorem nested_any {f : Nat} (he : Enters Tryd.prog f) (s : ByteArray) (ep : EP) (g b : Nat) (L : List Tk) (d : Int) (w0 W : World) (inner : List Tk → Rd Ex) (hO : Okw w0 g W) (hR : Rdr s ep g L d W) (hk : (hdT L).kind ≠ 1) (hH : Held W b g) (hbg : b ≠ g) (hd0 : 0 ≤ d) (hd1 : d < 64)
    (hdo : ∀ L1 W1, L1.length ≤ L.length → Okw w0 g W1 → Rdr s ep g L1 (d + 1) W1 → Held W1 b g → Calls Tryd.prog f #[.pointer (some ⟨b, 0, none⟩)] W1 (Outs g W1 (inner L1) (ExOut s ep g (d + 1) W1.heap.size))) :
    Calls Tryd.prog 85 #[.pointer (some ⟨g, 0, none⟩), .func (.func f) #[] #[.pointer (some ⟨b, 0, none⟩)]] W (Outs g W (bnd (stepP ep L) inner) (ExOut s ep g d W.heap.size)) := by
  have hgW := hR.lt
  have hbW := hH.lt
  have hdb : (d == 64) = false := by rw [beq_eq_false_iff_ne]; omega
  have hW1 : Below W.heap.size W (W.alloc exZero) := (Below.refl _ W).alloc (Nat.le_refl _) _
  have hz1 := new_blk W #[.int .i64 0, .slice none 0 0, .int .i64 0, .int .u64 0, .int .i64 0, .int .u64 0] 58
  have hc1 : Chg (fun k => k = g) W ((W.setCell ⟨g, 6, none⟩ (.int .i64 (d + 1))).alloc exZero) := (Chg.of_set W g 6 _).trans (Chg.of_alloc _ _ (fun k => k = g)) (fun k e => .inl e)
  have hR1 : Rdr s ep g L (d + 1) ((W.setCell ⟨g, 6, none⟩ (.int .i64 (d + 1))).alloc exZero) := (hR.deep (d + 1)).below ((Below.refl _ _).alloc (Nat.le_refl _) _)
  have hz1 : ((W.setCell ⟨g, 6, none⟩ (.int .i64 (d + 1))).alloc exZero).heap[W.heap.size]? = some (.cells #[.int .i64 0, .slice none 0 0, .int .i64 0, .int .u64 0, .int .i64 0, .int .u64 0] 58 (0, 0)) := new_blk' (by simp) _ _
  have hs1 : ((W.setCell ⟨g, 6, none⟩ (.int .i64 (d + 1))).alloc exZero).heap.size = W.heap.size + 1 := by simp
  have hH1 := hH.chg hc1 hbg
  have HS := Lib.hid (step_any s ep g L (d + 1) w0 _ (hO.chg hc1) hR1 hk)
  obtain ⟨t, e, hB, rest, j, rfl, rfl, hT⟩ := hR
  obtain ⟨c0, c1, c2, c3, c4, c5, c6⟩ := rdb_cell hB
  have f0 := rdb_free hB
  have a6 := cell_past exZero c6
  have HO := Lib.hid hO; have HZ1 := Lib.hid hz1; have HC1 := Lib.hid hc1; have HH1 := Lib.hid hH1; have HDO := Lib.hid hdo
  have heg : ∀ (args : Array Value) (w : World), (callFunc f args).run Tryd.prog w = .ok (.enter f args) w := he
  clear hO hz1 hc1 hR1 hH1 hdo hW1 hB hT hH he c0 c1 c2 c3 c4 c5 hk
  rcases hs : stepP ep (t :: rest) with p | L1
  · have HSE := Lib.hid hs; clear hs
    go_enter Tryd.func85, Tryd.ntmps85
    go_wp2_with fail
    refine HS.out.mono ?_
    rintro e W2 h
    obtain ⟨rfl, hc⟩ := h.err HSE.out
    go_wp2
    exact ⟨rfl, Outs.mk_err rfl rfl (HC1.out.trans hc (fun k e => .inl e))⟩
  · have HSE := Lib.hid hs; clear hs
    go_enter Tryd.func85, Tryd.ntmps85
    go_wp2_with fail
    refine HS.out.mono ?_
    rintro e W2 h
    obtain ⟨⟨rfl, hR2⟩, hc⟩ := h.ok HSE.out
    have hc2 := HC1.out.trans hc (fun k e => .inl e)
    have hz2 := chg_block hc HZ1.out (by omega)
    have hB2 : W.heap.size < W2.heap.size := (Array.getElem?_eq_some_iff.1 hz2).1
    have HC2 := Lib.hid hc2; have HZ2 := Lib.hid hz2
    have HD := Lib.hid (HDO.out L1 W2 (stepP_len HSE.out) (HO.out.chg hc2) hR2 (HH1.out.chg hc hbg))
    clear hc hc2 hz2 hR2 c6 f0 a6
    rcases hi : inner L1 with p | ⟨x, L2⟩
    · have HI := Lib.hid hi; clear hi
      go_wp2_with (go_at_fn f; refine HD.out.mono ?_; rintro e W3 h; obtain ⟨rfl, hc⟩ := h.err HI.out; have HC := Lib.hid hc; clear hc)
      exact ⟨rfl, Outs.mk_err (by show inner L1 = _; exact HI.out) rfl (HC2.out.trans HC.out (fun k e => .inl e))⟩
    · have HI := Lib.hid hi; clear hi
      go_wp2_with fail
      refine HD.out.mono ?_
      rintro e W3 h
      obtain ⟨⟨v, rfl, hX, hR3⟩, hc⟩ := h.ok HI.out
      obtain ⟨A, c, rfl⟩ := Kd.R_slice hX
      have hz3 := chg_block hc HZ2.out (by omega)
      have HX := Lib.hid hX; have HC := Lib.hid hc; have HZ3 := Lib.hid hz3; have HR3 := Lib.hid hR3
      obtain ⟨t3, e3, hB3, hA3⟩ := hR3
      obtain ⟨-, -, -, -, -, -, c6⟩ := rdb_cell hB3
      have f0 := rdb_free hB3
      obtain ⟨z0, z1, z2, z3, z4, z5, zf⟩ := blk6 hz3
      have hs3 := hc.size
      have a6 := cell_past (.cells #[.int .i64 x.f0, .slice A x.f1.length c, .int .i64 x.f2, .int .u64 x.f3, .int .i64 x.f4, .int .u64 x.f5] 58) c6
      have hgB : W.heap.size ≠ g := by omega
      have hz4 := blk_past (.cells #[.int .i64 x.f0, .slice A x.f1.length c, .int .i64 x.f2, .int .u64 x.f3, .int .i64 x.f4, .int .u64 x.f5] 58) hz3
      obtain ⟨y0, y1, y2, y3, y4, y5, yf⟩ := blk6 hz4
      have HZ4 := Lib.hid hz4
      have fa := rdb_free (hB3.below ((Below.refl _ W3).alloc (Nat.le_refl _) (.cells #[.int .i64 x.f0, .slice A x.f1.length c, .int .i64 x.f2, .int .u64 x.f3, .int .i64 x.f4, .int .u64 x.f5] 58)))
      clear hX hc hz3 hB3 hA3 hz4
      go_wp2
      have hal := (Below.refl W3.heap.size W3).alloc (Nat.le_refl _) (.cells #[.int .i64 x.f0, .slice A x.f1.length c, .int .i64 x.f2, .int .u64 x.f3, .int .i64 x.f4, .int .u64 x.f5] 58)
      have hb6 := blk_sets6 ((Below.heap_setCell _ ⟨g, 6, none⟩ (.int .i64 d) W.heap.size hgB).trans HZ4.out) (.int .i64 x.f0) (.slice A x.f1.length c) (.int .i64 x.f2) (.int .u64 x.f3) (.int .i64 x.f4) (.int .u64 x.f5)
      obtain ⟨r0, r1, r2, r3, r4, r5, rf⟩ := blk6 hb6
      have hcA : Chg (fun k => k = g) W3 ((W3.alloc (.cells #[.int .i64 x.f0, .slice A x.f1.length c, .int .i64 x.f2, .int .u64 x.f3, .int .i64 x.f4, .int .u64 x.f5] 58)).setCell ⟨g, 6, none⟩ (.int .i64 d)) := (Chg.of_below hal (fun k => k = g)).trans (Chg.of_set _ g 6 _) (fun k e => .inl e)
      have hcB : Chg (fun k => k = g ∨ k = W.heap.size) W3 _ := (hcA.wider (fun k e => .inl e)).sets6' W.heap.size (fun k e => .inr e) (.int .i64 x.f0) (.slice A x.f1.length c) (.int .i64 x.f2) (.int .u64 x.f3) (.int .i64 x.f4) (.int .u64 x.f5)
      refine bodyPost_ret (v := exAgg x (.slice A x.f1.length c)) (by simp [results, Tryd.results85, go_sem, r0, r1, r2, r3, r4, r5]) rfl ?_
      refine Outs.mk_ok (b := (x, L2)) (by show inner L1 = _; exact HI.out) ⟨.slice A x.f1.length c, rfl, (HX.out.chg hcB (fun k e => by omega)).lower (by omega), ?_⟩ (((HC2.out.trans HC.out (fun k e => .inl e)).trans hcA (fun k e => .inl e)).sets6 W.heap.size (Nat.le_refl _) _ _ _ _ _ _)
      exact (((HR3.out.below hal).deep d).far6 W.heap.size (by omega) _ _ _ _ _ _)
end Go.Proofs.YtlmopoipjolbgaaDoor.LexW
