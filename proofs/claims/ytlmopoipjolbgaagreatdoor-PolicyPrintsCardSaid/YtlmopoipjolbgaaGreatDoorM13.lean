/-
  Layer 6 (policy), the reference: test. · Layer 6 (policy), the reference: all, Expr. · Layer 6 (policy), the reference, plain: what is left is no more.
-/
import Derived.Test.YtlmopoipjolbgaaGreatDoorM12
import Derived.Deep.LoopGhost
import Derived.Test.YtlmopoipjolbgaaGreatDoorM07
import Derived.Test.YtlmopoipjolbgaaGreatDoorM11
namespace Go.Proofs.YtlmopoipjolbgaaGreatDoor.LexW
open Go.RowKit Go.Shelf Go.Proofs.YtlmopoipjolbgaaGreatDoor.LexS Go.Proofs.YtlmopoipjolbgaaGreatDoorW.PrintWords
set_option linter.unusedVariables false
set_option linter.unusedSimpArgs false

/-- on the way: the result's box, the expression's box -/
structure ExSt (g : Nat) (LL : List Tk) (ep : EP) (d : Int) (W Wi : World) (S : RS) (cs : Array Value) : Prop where
  out : LOut W g LL ep d S Wi
  hB : Wi.heap[W.heap.size]? = some (.cells #[.int .i64 0, .slice none 0 0, .int .i64 0, .int .u64 0, .int .i64 0, .int .u64 0] 37 (0, 0))
  hX : Wi.heap[W.heap.size + 1]? = some (.cells cs 37 (0, 0))
theorem ExSt.lt {g : Nat} {LL : List Tk} {ep : EP} {d : Int} {W Wi : World} {S : RS} {cs : Array Value} (h : ExSt g LL ep d W Wi S cs) : W.heap.size + 1 < Wi.heap.size := (Array.getElem?_eq_some_iff.1 h.hX).1
theorem ExSt.step {g : Nat} {LL : List Tk} {ep : EP} {d d' : Int} {W Wi Wj : World} {S S' : RS} {cs : Array Value} (h : ExSt g LL ep d W Wi S cs) (hg : g < W.heap.size) (hO : LOut Wi g LL ep d' S' Wj) : ExSt g LL ep d' W Wj S' cs :=
  ⟨h.out.trans hO, chg_block hO.chg h.hB (by omega), chg_block hO.chg h.hX (by omega)⟩
theorem ExSt.below {g : Nat} {LL : List Tk} {ep : EP} {d : Int} {W Wi Wj : World} {S : RS} {cs : Array Value} (h : ExSt g LL ep d W Wi S cs) (hb : Below Wi.heap.size Wi Wj) : ExSt g LL ep d W Wj S cs :=
  ⟨h.out.below hb, (hb.block _ (Array.getElem?_eq_some_iff.1 h.hB).1).trans h.hB, (hb.block _ (Array.getElem?_eq_some_iff.1 h.hX).1).trans h.hX⟩
theorem ExSt.alloc {g : Nat} {LL : List Tk} {ep : EP} {d : Int} {W Wi : World} {S : RS} {cs : Array Value} (h : ExSt g LL ep d W Wi S cs) (o : Obj) : ExSt g LL ep d W (Wi.alloc o) S cs := h.below ((Below.refl _ _).alloc (Nat.le_refl _) o)
theorem ExSt.set {g : Nat} {LL : List Tk} {ep : EP} {d : Int} {W Wi : World} {S : RS} {cs : Array Value} (h : ExSt g LL ep d W Wi S cs) (hg : g < W.heap.size) (j : Nat) (v : Value) : ExSt g LL ep d W (Wi.setCell ⟨W.heap.size + 1, j, none⟩ v) S (cs.setIfInBounds j v) :=
  ⟨h.out.far (W.heap.size + 1) j hg (by omega) v, (Below.heap_setCell Wi ⟨W.heap.size + 1, j, none⟩ v W.heap.size (by show W.heap.size ≠ W.heap.size + 1; omega)).trans h.hB, blk_set h.hX j v⟩
theorem LOut.far6 {W W1 : World} {g : Nat} {LL : List Tk} {ep : EP} {d : Int} {S : RS} (h : LOut W g LL ep d S W1) (b : Nat) (hg : g < W.heap.size) (hb : W.heap.size ≤ b) (v0 v1 v2 v3 v4 v5 : Value) : LOut W g LL ep d S ((((((W1.setCell ⟨b, 0, none⟩ v0).setCell ⟨b, 1, none⟩ v1).setCell ⟨b, 2, none⟩ v2).setCell ⟨b, 3, none⟩ v3).setCell ⟨b, 4, none⟩ v4).setCell ⟨b, 5, none⟩ v5) :=
  (((((h.far b 0 hg hb v0).far b 1 hg hb v1).far b 2 hg hb v2).far b 3 hg hb v3).far b 4 hg hb v4).far b 5 hg hb v5
def ExL (W : World) (g : Nat) (LL : List Tk) (ep : EP) (d : Int) (p : Ex × RS) (en : Ending) (W' : World) : Prop := ∃ v, en = .returned (exAgg p.1 v) ∧ ExRow W' W.heap.size v p.1.f1 ∧ LOut W g LL ep d p.2 W'

/-- behind the mask -/
theorem testL_eq (ep : EP) (f : Int) (S : RS) {mk : Int} {Sm : RS} (h : maskL ep S = (mk, Sm)) : testL ep f S = (⟨6, [], f, mk, relT (kindL ep 4 Sm).1.text, (kindL ep 3 (if relT (kindL ep 4 Sm).1.text = 0 then failsL 61 (kindL ep 4 Sm).1.at_ (kindL ep 4 Sm).2 else (kindL ep 4 Sm).2)).1.num⟩, (kindL ep 3 (if relT (kindL ep 4 Sm).1.text = 0 then failsL 61 (kindL ep 4 Sm).1.at_ (kindL ep 4 Sm).2 else (kindL ep 4 Sm).2)).2) := by
  unfold testL
  rw [h]
set_option maxRecDepth 100000 in
set_option maxHeartbeats 4000000 in
theorem test_ref (g : Nat) (LL : List Tk) (ep : EP) (d : Int) (f : Int) (S : RS) (W : World) (hF : Fin3 ep S) (hR : RfS W g LL ep d S) :
    Calls Tryz.prog 115 #[.pointer (some ⟨g, 0, none⟩), .int .i64 f] W (ExL W g LL ep d (testL ep f S)) := by
  have hgW := hR.lt
  have hal : Below W.heap.size W ((W.alloc exZero).alloc (.cells #[.int .i64 6, .slice none 0 0, .int .i64 f, .int .u64 18446744073709551615, .int .i64 0, .int .u64 0] 37)) := ((Below.refl W.heap.size W).alloc (Nat.le_refl _) _).alloc (by simp) _
  have hS0 : ExSt g LL ep d W ((W.alloc exZero).alloc (.cells #[.int .i64 6, .slice none 0 0, .int .i64 f, .int .u64 18446744073709551615, .int .i64 0, .int .u64 0] 37)) S #[.int .i64 6, .slice none 0 0, .int .i64 f, .int .u64 18446744073709551615, .int .i64 0, .int .u64 0] :=
    ⟨⟨hR.below hal, Chg.of_below hal _⟩, blk_past _ (new_blk W _ _), new_blk' (by simp) _ _⟩
  have HI := Lib.hid (is_ref g LL ep d 4 sAmp S _ hF hS0.out.st)
  have HS0 := Lib.hid hS0
  have hmk : maskL ep S = if (isL ep 4 sAmp S).1 = true then ((kindL ep 3 (isL ep 4 sAmp S).2).1.num, (kindL ep 3 (isL ep 4 sAmp S).2).2) else (18446744073709551615, (isL ep 4 sAmp S).2) := rfl
  have hFi := is_fin (x := sAmp) hF (show (4 : Int) ≠ 1 by decide)
  have HTE := Lib.hid (fun mk Sm h => testL_eq ep f S (mk := mk) (Sm := Sm) h)
  have HMK := Lib.hid hmk
  clear hS0 hal hR hF hmk
  generalize isL ep 4 sAmp S = I at *
  obtain ⟨b, S1⟩ := I
  have HFI := Lib.hid hFi; clear hFi
  cases b with
  | false =>
    have hm : maskL ep S = (18446744073709551615, S1) := by rw [HMK.out]; rfl
    have HNX := Lib.hid (HTE.out _ _ hm)
    clear HMK HTE hm
    go_enter Tryz.func115, Tryz.ntmps115
    go_wp2_with fail
    refine HI.out.mono ?_
    rintro e W2 ⟨rfl, hO2⟩
    have HS2 := Lib.hid (HS0.out.step hgW hO2)
    clear hO2 HS0 HI
    go_wp2_with fail
    refine (kind_ref g LL ep d 4 S1 _ HFI.out HS2.out.out.st).mono ?_
    rintro e W5 ⟨rfl, hO5⟩
    have hS5 := HS2.out.step hgW hO5
    have hF4 := kind_fin HFI.out (show (4 : Int) ≠ 1 by decide)
    generalize kindL ep 4 S1 = P4 at hO5 hS5 hF4 HNX ⊢
    obtain ⟨t4, S4⟩ := P4
    obtain ⟨q0, q1, q2, q3, qf⟩ := blk4 (new_blk W5 #[.int .i64 t4.kind, .string t4.text, .int .u64 t4.num, .int .i64 t4.at_] 59)
    have HS5 := Lib.hid (hS5.alloc (tokBox t4)); have HF4 := Lib.hid hF4
    have hs5 : W.heap.size + 1 < W5.heap.size := hS5.lt
    clear hO5 hS5 hF4
    unfold tkVal
    go_wp2_with fail
    refine (rel_ref t4.text _).mono ?_
    rintro e W6 ⟨rfl, hD6⟩
    have hb6 := Drawn0.below hD6
    have hS6 := HS5.out.below hb6
    have hx6 := (hb6.block W5.heap.size (by simp)).trans (new_blk W5 #[.int .i64 t4.kind, .string t4.text, .int .u64 t4.num, .int .i64 t4.at_] 59)
    clear q0 q1 q2 q3 qf
    obtain ⟨rl, hrl⟩ : ∃ rl, rl = relT t4.text := ⟨_, rfl⟩
    have HNX2 := Lib.hid HNX.out
    rw [← hrl] at HNX2 ⊢
    obtain ⟨y0, y1, y2, y3, y4, y5, yf⟩ := blk6 hS6.hX
    have hS7 : ExSt g LL ep d W (W6.setCell ⟨W.heap.size + 1, 4, none⟩ (.int .i64 rl)) S4 #[.int .i64 6, .slice none 0 0, .int .i64 f, .int .u64 18446744073709551615, .int .i64 rl, .int .u64 0] := hS6.set hgW 4 (.int .i64 rl)
    have hx7 := (Below.heap_setCell W6 ⟨W.heap.size + 1, 4, none⟩ (.int .i64 rl) W5.heap.size (by show W5.heap.size ≠ W.heap.size + 1; omega)).trans hx6
    obtain ⟨z0, z1, z2, z3, z4, z5, zf⟩ := blk6 hS7.hX
    obtain ⟨q0, q1, q2, q3, qf⟩ := blk4 hx7
    obtain ⟨o0, o1, o2, o3, of_⟩ := blk4 hx6
    have hne1 : ¬ (W5.heap.size = W.heap.size + 1) := by omega
    have hne2 : ¬ (W.heap.size + 1 = W5.heap.size) := by omega
    have HS7 := Lib.hid hS7
    clear hD6 hb6 hS6 hx6 hS7 hx7 HS5 hrl
    by_cases hr0 : rl = 0
    · subst hr0
      rw [if_pos rfl] at HNX2
      go_wp2_with fail
      refine (fails_any g LL ep d S4 61 t4.at_ _ HS7.out.out.st).mono ?_
      rintro e W7 ⟨rfl, hO7⟩
      have HS8 := Lib.hid (HS7.out.step hgW hO7); clear hO7
      go_wp2_with fail
      refine (kind_ref g LL ep d 3 (failsL 61 t4.at_ S4) _ (fails_fin (by decide)) HS8.out.out.st).mono ?_
      rintro e W8 ⟨rfl, hO8⟩
      have hS8 := HS8.out.step hgW hO8
      generalize kindL ep 3 (failsL 61 t4.at_ S4) = P8 at hO8 hS8 HNX2 ⊢
      obtain ⟨t8, S8⟩ := P8
      clear q0 q1 q2 q3 qf o0 o1 o2 o3 of_ hne1 hne2 y0 y1 y2 y3 y4 y5 yf z0 z1 z2 z3 z4 z5 zf
      obtain ⟨q0, q1, q2, q3, qf⟩ := blk4 (new_blk W8 #[.int .i64 t8.kind, .string t8.text, .int .u64 t8.num, .int .i64 t8.at_] 59)
      obtain ⟨y0, y1, y2, y3, y4, y5, yf⟩ := blk6 (hS8.alloc (tokBox t8)).hX
      have hS9 : ExSt g LL ep d W ((W8.alloc (tokBox t8)).setCell ⟨W.heap.size + 1, 5, none⟩ (.int .u64 t8.num)) S8 #[.int .i64 6, .slice none 0 0, .int .i64 f, .int .u64 18446744073709551615, (.int .i64 0), .int .u64 t8.num] := (hS8.alloc (tokBox t8)).set hgW 5 (.int .u64 t8.num)
      obtain ⟨z0, z1, z2, z3, z4, z5, zf⟩ := blk6 hS9.hX
      obtain ⟨l0, l1, l2, l3, l4, l5, lf⟩ := blk6 hS9.hB
      obtain ⟨m0, m1, m2, m3, m4, m5, mf⟩ := blk6 (hS8.alloc (tokBox t8)).hB
      have HS9 := Lib.hid hS9
      clear hO8 hS8 hS9
      unfold tkVal
      go_wp2
      have hb9 := blk_sets6 HS9.out.hB (.int .i64 6) (.slice none 0 0) (.int .i64 f) (.int .u64 18446744073709551615) (.int .i64 0) (.int .u64 t8.num)
      obtain ⟨r0, r1, r2, r3, r4, r5, rf⟩ := blk6 hb9
      refine bodyPost_ret (v := exAgg ⟨6, [], f, 18446744073709551615, 0, t8.num⟩ (.slice none 0 0)) (by simp [results, Tryz.results115, go_sem, r0, r1, r2, r3, r4, r5]) rfl ?_
      rw [HNX2.out]
      exact ⟨.slice none 0 0, rfl, Kd.R_nil _ _ _ _ _, HS9.out.out.far6 W.heap.size hgW (Nat.le_refl _) _ _ _ _ _ _⟩
    · have hrb : (rl == 0) = false := by rw [beq_eq_false_iff_ne]; exact hr0
      rw [if_neg hr0] at HNX2
      go_wp2_with fail
      refine (kind_ref g LL ep d 3 S4 _ HF4.out HS7.out.out.st).mono ?_
      rintro e W8 ⟨rfl, hO8⟩
      have hS8 := HS7.out.step hgW hO8
      generalize kindL ep 3 S4 = P8 at hO8 hS8 HNX2 ⊢
      obtain ⟨t8, S8⟩ := P8
      clear q0 q1 q2 q3 qf o0 o1 o2 o3 of_ hne1 hne2 y0 y1 y2 y3 y4 y5 yf z0 z1 z2 z3 z4 z5 zf
      obtain ⟨q0, q1, q2, q3, qf⟩ := blk4 (new_blk W8 #[.int .i64 t8.kind, .string t8.text, .int .u64 t8.num, .int .i64 t8.at_] 59)
      obtain ⟨y0, y1, y2, y3, y4, y5, yf⟩ := blk6 (hS8.alloc (tokBox t8)).hX
      have hS9 : ExSt g LL ep d W ((W8.alloc (tokBox t8)).setCell ⟨W.heap.size + 1, 5, none⟩ (.int .u64 t8.num)) S8 #[.int .i64 6, .slice none 0 0, .int .i64 f, .int .u64 18446744073709551615, (.int .i64 rl), .int .u64 t8.num] := (hS8.alloc (tokBox t8)).set hgW 5 (.int .u64 t8.num)
      obtain ⟨z0, z1, z2, z3, z4, z5, zf⟩ := blk6 hS9.hX
      obtain ⟨l0, l1, l2, l3, l4, l5, lf⟩ := blk6 hS9.hB
      obtain ⟨m0, m1, m2, m3, m4, m5, mf⟩ := blk6 (hS8.alloc (tokBox t8)).hB
      have HS9 := Lib.hid hS9
      clear hO8 hS8 hS9
      unfold tkVal
      go_wp2
      have hb9 := blk_sets6 HS9.out.hB (.int .i64 6) (.slice none 0 0) (.int .i64 f) (.int .u64 18446744073709551615) (.int .i64 rl) (.int .u64 t8.num)
      obtain ⟨r0, r1, r2, r3, r4, r5, rf⟩ := blk6 hb9
      refine bodyPost_ret (v := exAgg ⟨6, [], f, 18446744073709551615, rl, t8.num⟩ (.slice none 0 0)) (by simp [results, Tryz.results115, go_sem, r0, r1, r2, r3, r4, r5]) rfl ?_
      rw [HNX2.out]
      exact ⟨.slice none 0 0, rfl, Kd.R_nil _ _ _ _ _, HS9.out.out.far6 W.heap.size hgW (Nat.le_refl _) _ _ _ _ _ _⟩
  | true =>
    have hm : maskL ep S = ((kindL ep 3 S1).1.num, (kindL ep 3 S1).2) := by rw [HMK.out]; rfl
    have HNX := Lib.hid (HTE.out _ _ hm)
    clear HMK HTE hm
    have hF3 := kind_fin HFI.out (show (3 : Int) ≠ 1 by decide)
    go_enter Tryz.func115, Tryz.ntmps115
    go_wp2_with fail
    refine HI.out.mono ?_
    rintro e W2 ⟨rfl, hO2⟩
    have HS2 := Lib.hid (HS0.out.step hgW hO2)
    clear hO2 HS0 HI
    go_wp2_with fail
    refine (kind_ref g LL ep d 3 S1 _ HFI.out HS2.out.out.st).mono ?_
    rintro e W3 ⟨rfl, hO3⟩
    have hS3 := HS2.out.step hgW hO3
    generalize kindL ep 3 S1 = P3 at hO3 hS3 HNX hF3 ⊢
    obtain ⟨t3, S3⟩ := P3
    have HF3 := Lib.hid hF3
    obtain ⟨q0, q1, q2, q3, qf⟩ := blk4 (new_blk W3 #[.int .i64 t3.kind, .string t3.text, .int .u64 t3.num, .int .i64 t3.at_] 59)
    obtain ⟨y0, y1, y2, y3, y4, y5, yf⟩ := blk6 (hS3.alloc (tokBox t3)).hX
    have hS4 : ExSt g LL ep d W ((W3.alloc (tokBox t3)).setCell ⟨W.heap.size + 1, 3, none⟩ (.int .u64 t3.num)) S3 #[.int .i64 6, .slice none 0 0, .int .i64 f, .int .u64 t3.num, .int .i64 0, .int .u64 0] := (hS3.alloc (tokBox t3)).set hgW 3 (.int .u64 t3.num)
    have HS4 := Lib.hid hS4
    clear hO3 hS3 hS4 hF3
    unfold tkVal
    go_wp2_with fail
    clear q0 q1 q2 q3 qf y0 y1 y2 y3 y4 y5 yf
    refine (kind_ref g LL ep d 4 S3 _ HF3.out HS4.out.out.st).mono ?_
    rintro e W5 ⟨rfl, hO5⟩
    have hS5 := HS4.out.step hgW hO5
    have hF4 := kind_fin HF3.out (show (4 : Int) ≠ 1 by decide)
    generalize kindL ep 4 S3 = P4 at hO5 hS5 hF4 HNX ⊢
    obtain ⟨t4, S4⟩ := P4
    obtain ⟨q0, q1, q2, q3, qf⟩ := blk4 (new_blk W5 #[.int .i64 t4.kind, .string t4.text, .int .u64 t4.num, .int .i64 t4.at_] 59)
    have HS5 := Lib.hid (hS5.alloc (tokBox t4)); have HF4 := Lib.hid hF4
    have hs5 : W.heap.size + 1 < W5.heap.size := hS5.lt
    clear hO5 hS5 hF4
    unfold tkVal
    go_wp2_with fail
    refine (rel_ref t4.text _).mono ?_
    rintro e W6 ⟨rfl, hD6⟩
    have hb6 := Drawn0.below hD6
    have hS6 := HS5.out.below hb6
    have hx6 := (hb6.block W5.heap.size (by simp)).trans (new_blk W5 #[.int .i64 t4.kind, .string t4.text, .int .u64 t4.num, .int .i64 t4.at_] 59)
    clear q0 q1 q2 q3 qf
    obtain ⟨rl, hrl⟩ : ∃ rl, rl = relT t4.text := ⟨_, rfl⟩
    have HNX2 := Lib.hid HNX.out
    rw [← hrl] at HNX2 ⊢
    obtain ⟨y0, y1, y2, y3, y4, y5, yf⟩ := blk6 hS6.hX
    have hS7 : ExSt g LL ep d W (W6.setCell ⟨W.heap.size + 1, 4, none⟩ (.int .i64 rl)) S4 #[.int .i64 6, .slice none 0 0, .int .i64 f, .int .u64 t3.num, .int .i64 rl, .int .u64 0] := hS6.set hgW 4 (.int .i64 rl)
    have hx7 := (Below.heap_setCell W6 ⟨W.heap.size + 1, 4, none⟩ (.int .i64 rl) W5.heap.size (by show W5.heap.size ≠ W.heap.size + 1; omega)).trans hx6
    obtain ⟨z0, z1, z2, z3, z4, z5, zf⟩ := blk6 hS7.hX
    obtain ⟨q0, q1, q2, q3, qf⟩ := blk4 hx7
    obtain ⟨o0, o1, o2, o3, of_⟩ := blk4 hx6
    have hne1 : ¬ (W5.heap.size = W.heap.size + 1) := by omega
    have hne2 : ¬ (W.heap.size + 1 = W5.heap.size) := by omega
    have HS7 := Lib.hid hS7
    clear hD6 hb6 hS6 hx6 hS7 hx7 HS5 hrl
    by_cases hr0 : rl = 0
    · subst hr0
      rw [if_pos rfl] at HNX2
      go_wp2_with fail
      refine (fails_any g LL ep d S4 61 t4.at_ _ HS7.out.out.st).mono ?_
      rintro e W7 ⟨rfl, hO7⟩
      have HS8 := Lib.hid (HS7.out.step hgW hO7); clear hO7
      go_wp2_with fail
      refine (kind_ref g LL ep d 3 (failsL 61 t4.at_ S4) _ (fails_fin (by decide)) HS8.out.out.st).mono ?_
      rintro e W8 ⟨rfl, hO8⟩
      have hS8 := HS8.out.step hgW hO8
      generalize kindL ep 3 (failsL 61 t4.at_ S4) = P8 at hO8 hS8 HNX2 ⊢
      obtain ⟨t8, S8⟩ := P8
      clear q0 q1 q2 q3 qf o0 o1 o2 o3 of_ hne1 hne2 y0 y1 y2 y3 y4 y5 yf z0 z1 z2 z3 z4 z5 zf
      obtain ⟨q0, q1, q2, q3, qf⟩ := blk4 (new_blk W8 #[.int .i64 t8.kind, .string t8.text, .int .u64 t8.num, .int .i64 t8.at_] 59)
      obtain ⟨y0, y1, y2, y3, y4, y5, yf⟩ := blk6 (hS8.alloc (tokBox t8)).hX
      have hS9 : ExSt g LL ep d W ((W8.alloc (tokBox t8)).setCell ⟨W.heap.size + 1, 5, none⟩ (.int .u64 t8.num)) S8 #[.int .i64 6, .slice none 0 0, .int .i64 f, .int .u64 t3.num, (.int .i64 0), .int .u64 t8.num] := (hS8.alloc (tokBox t8)).set hgW 5 (.int .u64 t8.num)
      obtain ⟨z0, z1, z2, z3, z4, z5, zf⟩ := blk6 hS9.hX
      obtain ⟨l0, l1, l2, l3, l4, l5, lf⟩ := blk6 hS9.hB
      obtain ⟨m0, m1, m2, m3, m4, m5, mf⟩ := blk6 (hS8.alloc (tokBox t8)).hB
      have HS9 := Lib.hid hS9
      clear hO8 hS8 hS9
      unfold tkVal
      go_wp2
      have hb9 := blk_sets6 HS9.out.hB (.int .i64 6) (.slice none 0 0) (.int .i64 f) (.int .u64 t3.num) (.int .i64 0) (.int .u64 t8.num)
      obtain ⟨r0, r1, r2, r3, r4, r5, rf⟩ := blk6 hb9
      refine bodyPost_ret (v := exAgg ⟨6, [], f, t3.num, 0, t8.num⟩ (.slice none 0 0)) (by simp [results, Tryz.results115, go_sem, r0, r1, r2, r3, r4, r5]) rfl ?_
      rw [HNX2.out]
      exact ⟨.slice none 0 0, rfl, Kd.R_nil _ _ _ _ _, HS9.out.out.far6 W.heap.size hgW (Nat.le_refl _) _ _ _ _ _ _⟩
    · have hrb : (rl == 0) = false := by rw [beq_eq_false_iff_ne]; exact hr0
      rw [if_neg hr0] at HNX2
      go_wp2_with fail
      refine (kind_ref g LL ep d 3 S4 _ HF4.out HS7.out.out.st).mono ?_
      rintro e W8 ⟨rfl, hO8⟩
      have hS8 := HS7.out.step hgW hO8
      generalize kindL ep 3 S4 = P8 at hO8 hS8 HNX2 ⊢
      obtain ⟨t8, S8⟩ := P8
      clear q0 q1 q2 q3 qf o0 o1 o2 o3 of_ hne1 hne2 y0 y1 y2 y3 y4 y5 yf z0 z1 z2 z3 z4 z5 zf
      obtain ⟨q0, q1, q2, q3, qf⟩ := blk4 (new_blk W8 #[.int .i64 t8.kind, .string t8.text, .int .u64 t8.num, .int .i64 t8.at_] 59)
      obtain ⟨y0, y1, y2, y3, y4, y5, yf⟩ := blk6 (hS8.alloc (tokBox t8)).hX
      have hS9 : ExSt g LL ep d W ((W8.alloc (tokBox t8)).setCell ⟨W.heap.size + 1, 5, none⟩ (.int .u64 t8.num)) S8 #[.int .i64 6, .slice none 0 0, .int .i64 f, .int .u64 t3.num, (.int .i64 rl), .int .u64 t8.num] := (hS8.alloc (tokBox t8)).set hgW 5 (.int .u64 t8.num)
      obtain ⟨z0, z1, z2, z3, z4, z5, zf⟩ := blk6 hS9.hX
      obtain ⟨l0, l1, l2, l3, l4, l5, lf⟩ := blk6 hS9.hB
      obtain ⟨m0, m1, m2, m3, m4, m5, mf⟩ := blk6 (hS8.alloc (tokBox t8)).hB
      have HS9 := Lib.hid hS9
      clear hO8 hS8 hS9
      unfold tkVal
      go_wp2
      have hb9 := blk_sets6 HS9.out.hB (.int .i64 6) (.slice none 0 0) (.int .i64 f) (.int .u64 t3.num) (.int .i64 rl) (.int .u64 t8.num)
      obtain ⟨r0, r1, r2, r3, r4, r5, rf⟩ := blk6 hb9
      refine bodyPost_ret (v := exAgg ⟨6, [], f, t3.num, rl, t8.num⟩ (.slice none 0 0)) (by simp [results, Tryz.results115, go_sem, r0, r1, r2, r3, r4, r5]) rfl ?_
      rw [HNX2.out]
      exact ⟨.slice none 0 0, rfl, Kd.R_nil _ _ _ _ _, HS9.out.out.far6 W.heap.size hgW (Nat.le_refl _) _ _ _ _ _ _⟩
end Go.Proofs.YtlmopoipjolbgaaGreatDoor.LexW
namespace Go.Proofs.YtlmopoipjolbgaaGreatDoor.LexW
open Go.RowKit Go.Shelf Go.Proofs.YtlmopoipjolbgaaGreatDoor.LexS Go.Proofs.YtlmopoipjolbgaaGreatDoorW.PrintWords
set_option linter.unusedVariables false
set_option linter.unusedSimpArgs false

theorem isL_true {ep : EP} {k : Int} {x : ByteArray} {S : RS} (hF : Fin3 ep S) (h : (isL ep k x S).1 = true) : (isL ep k x S).2.M.length + 1 = S.M.length := by
  unfold isL at h ⊢
  by_cases h0 : (peekL ep S).2.err = 0
  · obtain ⟨r, hM, h2, _⟩ := peek_ok hF h0
    rw [if_pos h0] at h ⊢
    by_cases h1 : (peekL ep S).1.kind = k
    · rw [if_pos h1] at h ⊢
      by_cases h3 : (peekL ep S).1.text = x
      · rw [if_pos h3]
        unfold RS.tl
        rw [h2]
        show S.M.tail.length + 1 = _
        rw [hM]; rfl
      · rw [if_neg h3] at h; cases h
    · rw [if_neg h1] at h; cases h
  · rw [if_neg h0] at h; cases h
theorem rfs_len {W : World} {g : Nat} {LL : List Tk} {ep : EP} {d : Int} {S : RS} (h : RfS W g LL ep d S) : S.M.length ≤ 65537 := by
  obtain ⟨A, c, k, hB, hT, hM, hk, hL⟩ := h
  rw [hM, List.length_drop]; omega
theorem more_unfold {α : Type} (ep : EP) (one : RS → α × RS) (k : Int) (x : ByteArray) (n : Nat) (l : List α) (S : RS) : moreL ep one k x (n + 1) l S = if S.err = 0 then (if (isL ep k x S).1 = true then moreL ep one k x n (l ++ [(one (isL ep k x S).2).1]) (one (isL ep k x S).2).2 else (l, (isL ep k x S).2)) else (l, S) := rfl
def exprAL (ep : EP) (al : RS → Ex × RS) (S : RS) : Ex × RS := (joinE 5 (moreL ep al 2 sOr ((al S).2.M.length + 1) [(al S).1] (al S).2).1, (moreL ep al 2 sOr ((al S).2.M.length + 1) [(al S).1] (al S).2).2)
theorem exprAL_is (ep : EP) (one : RS → Ex × RS) (S : RS) : exprL ep one S = exprAL ep (allL ep one) S := rfl
/-- a row of one, read -/
theorem row_one {W : World} {base : Nat} {v : Value} {x : Ex} (h : ExRow W base v [x]) : ∃ gb c A1 c1, v = .slice (some ⟨gb, 0, none⟩) 1 c ∧ W.cell? ⟨gb, 0, none⟩ = some (.int .i64 x.f0) ∧ W.cell? ⟨gb, 1, none⟩ = some (.slice A1 x.f1.length c1) ∧ W.cell? ⟨gb, 2, none⟩ = some (.int .i64 x.f2) ∧ W.cell? ⟨gb, 3, none⟩ = some (.int .u64 x.f3) ∧ W.cell? ⟨gb, 4, none⟩ = some (.int .i64 x.f4) ∧ W.cell? ⟨gb, 5, none⟩ = some (.int .u64 x.f5) ∧ ExRow W base (.slice A1 x.f1.length c1) x.f1 := by
  obtain ⟨A, c, rfl⟩ := Kd.R_slice h
  obtain ⟨gb, hA⟩ : ∃ gb, A = some ⟨gb, 0, none⟩ := by
    obtain ⟨_, inner, ho, _⟩ := h
    rcases ho.2 with ⟨h1, h2⟩ | ⟨gb, cap, cur, h1, _⟩
    · cases h2
    · injection h1 with h1; exact ⟨gb, h1⟩
  subst hA
  obtain ⟨cs, hcl, hM, hcell, hfz⟩ := Kd.R_elem h x 0 (by omega) (by simp)
  have hM' : kEx.M W base (fun k => True ∧ k ≠ gb) x cs := hM
  obtain ⟨v1, rfl, hR⟩ := kEx_openM hM'
  have hR2 : ExRow W base v1 x.f1 := Kd.R_mono hR (fun _ _ => trivial)
  obtain ⟨A1, c1, rfl⟩ := Kd.R_slice hR2
  refine ⟨gb, c, A1, c1, rfl, ?_, ?_, ?_, ?_, ?_, ?_, hR2⟩
  · have := hcell 0 _ rfl; simpa [kEx] using this
  · have := hcell 1 _ rfl; simpa [kEx] using this
  · have := hcell 2 _ rfl; simpa [kEx] using this
  · have := hcell 3 _ rfl; simpa [kEx] using this
  · have := hcell 4 _ rfl; simpa [kEx] using this
  · have := hcell 5 _ rfl; simpa [kEx] using this

set_option maxRecDepth 100000 in
set_option maxHeartbeats 4000000 in
theorem all_ref (g : Nat) (LL : List Tk) (ep : EP) (d : Int) (one : RS → Ex × RS) (S : RS) (W : World) (hF : Fin3 ep S) (hR : RfS W g LL ep d S) (hfin : ∀ S1, Fin3 ep S1 → Fin3 ep (one S1).2) (hlen : ∀ S1, (one S1).2.M.length ≤ S1.M.length)
    (hone : ∀ S1 W1, Fin3 ep S1 → RfS W1 g LL ep d S1 → Calls Tryz.prog 92 #[.pointer (some ⟨g, 0, none⟩)] W1 (ExL W1 g LL ep d (one S1))) :
    Calls Tryz.prog 72 #[.pointer (some ⟨g, 0, none⟩)] W (ExL W g LL ep d (allL ep one S)) := by
  have hgW := hR.lt
  have hal := (Below.refl W.heap.size W).alloc (Nat.le_refl _) exZero
  have hz : (W.alloc exZero).heap[W.heap.size]? = some (.cells #[.int .i64 0, .slice none 0 0, .int .i64 0, .int .u64 0, .int .i64 0, .int .u64 0] 37 (0, 0)) := new_blk W _ _
  have hO1 : LOut W g LL ep d S (W.alloc exZero) := ⟨hR.below hal, Chg.of_below hal _⟩
  have hsz1 : (W.alloc exZero).heap.size = W.heap.size + 1 := by simp
  have HD := Lib.hid (hone S _ hF hO1.st)
  have HONE := Lib.hid hone; have HFIN := Lib.hid hfin; have HLEN := Lib.hid hlen; have HO1 := Lib.hid hO1; have HZ := Lib.hid hz
  have hF1 := hfin S hF
  have hun0 : (allL ep one S) = (joinE 4 (moreL ep one 2 sAnd ((one S).2.M.length + 1) [(one S).1] (one S).2).1, (moreL ep one 2 sAnd ((one S).2.M.length + 1) [(one S).1] (one S).2).2) := rfl
  rw [hun0]
  clear hun0 hone hfin hlen hR hF hal hO1 hz
  generalize one S = P at HD hF1 ⊢
  obtain ⟨x, S1⟩ := P
  have HF1 := Lib.hid hF1; clear hF1
  go_enter Tryz.func72, Tryz.ntmps72
  go_wp2_with fail
  refine HD.out.mono ?_
  rintro e W2 ⟨v, rfl, hX, hO2⟩
  obtain ⟨A, c, rfl⟩ := Kd.R_slice hX
  have hs2 := hO2.chg.size
  have hrow := ex_one hX (show W.heap.size + 1 ≤ (W.alloc exZero).heap.size by omega) (by omega)
  have hal2 := (Below.refl W2.heap.size W2).alloc (Nat.le_refl _) (.cells (exCells x (.slice A x.f1.length c)).toArray 37)
  have hO3 := (HO1.out.trans hO2).below hal2
  have hz3 := (hal2.block W.heap.size (by omega)).trans (chg_block hO2.chg HZ.out (by omega))
  have HROW := Lib.hid hrow; have HO3 := Lib.hid hO3; have HZ3 := Lib.hid hz3
  clear hX hO2 hrow hal2 hO3 hz3 hs2 HD HO1 HZ
  unfold exAgg
  go_wp2_with fail
  obtain ⟨v0, hv0⟩ : ∃ v0, v0 = Value.slice (some ⟨W2.heap.size, 0, none⟩) 1 1 := ⟨_, rfl⟩
  rw [← hv0] at HROW ⊢
  show Code.wp _ _ _ _ (W2.alloc (.cells (exCells x (.slice A x.f1.length c)).toArray 37))
  generalize W2.alloc (.cells (exCells x (.slice A x.f1.length c)).toArray 37) = W3 at HROW HO3 HZ3 ⊢
  clear hv0
  have hlen1 := rfs_len HO3.out.st
  go_loopg [3] (S1.M.length + 1) (fun n vl wr => ∃ (l : List Ex) (S4 : RS), Hid (moreL ep one 2 sAnd (S1.M.length + 1) [x] S1 = moreL ep one 2 sAnd n l S4) ∧ S4.M.length < n ∧ l.length + S4.M.length ≤ 65538 ∧ 1 ≤ l.length ∧ Hid (ExRow wr (W.heap.size + 1) vl l) ∧ Hid (LOut W g LL ep d S4 wr) ∧ Hid (wr.heap[W.heap.size]? = some (.cells #[.int .i64 0, .slice none 0 0, .int .i64 0, .int .u64 0, .int .i64 0, .int .u64 0] 37 (0, 0))) ∧ Hid (Fin3 ep S4))
  case atStart => exact ⟨[x], S1, Lib.hid rfl, by omega, by simp; omega, by simp, HROW, HO3, HZ3, HF1⟩
  case round =>
    clear HROW HO3 HZ3 HF1
    obtain ⟨l, S4, HT, hn, hl, hl1, HROW, HO4, HZ4, HF4⟩ := hrel
    obtain ⟨n, rfl⟩ : ∃ n, gk = n + 1 := ⟨gk - 1, by omega⟩
    have HUN := Lib.hid (more_unfold ep one 2 sAnd n l S4)
    have hy5 := rfs_err HO4.out.st
    have hwr := HO4.out.chg.size
    have hzl : W.heap.size < wr.heap.size := (Array.getElem?_eq_some_iff.1 HZ4.out).1
    by_cases h0 : S4.err = 0
    · have hb0 : (S4.err == 0) = true := by rw [beq_iff_eq]; exact h0
      have HI := Lib.hid (is_ref g LL ep d 2 sAnd S4 wr HF4.out HO4.out.st)
      have hFi := is_fin (k := 2) (x := sAnd) HF4.out (by decide)
      have hIt := isL_true (k := 2) (x := sAnd) HF4.out
      have hIl := is_len ep 2 sAnd S4
      have HUN2 : Hid (moreL ep one 2 sAnd (n + 1) l S4 = if (isL ep 2 sAnd S4).1 = true then moreL ep one 2 sAnd n (l ++ [(one (isL ep 2 sAnd S4).2).1]) (one (isL ep 2 sAnd S4).2).2 else (l, (isL ep 2 sAnd S4).2)) := Lib.hid (by rw [HUN.out, if_pos h0])
      clear HUN h0
      generalize isL ep 2 sAnd S4 = I at HI hFi hIt hIl HUN2
      obtain ⟨b, S5⟩ := I
      have HF5 := Lib.hid hFi; clear hFi
      cases b with
      | false =>
        have HV : Hid (moreL ep one 2 sAnd (S1.M.length + 1) [x] S1 = (l, S5)) := Lib.hid (by rw [HT.out, HUN2.out]; rfl)
        clear HT HUN2 hIt
        go_wp2_with fail
        refine HI.out.mono ?_
        rintro e W5 ⟨rfl, hO5⟩
        have hrow5 := HROW.out.chg hO5.chg (fun k e => by omega)
        have hz5 := chg_block hO5.chg HZ4.out (by omega)
        have HO5 := Lib.hid (HO4.out.trans hO5); have HROW5 := Lib.hid hrow5; have HZ5 := Lib.hid hz5
        obtain ⟨p0, p1, p2, p3, p4, p5, pf⟩ := blk6 hz5
        clear hO5 hrow5 hz5
        by_cases h1 : l.length = 1
        · have hb1 : ((l.length : Int) == 1) = true := by rw [beq_iff_eq]; omega
          obtain ⟨z, rfl⟩ : ∃ z, l = [z] := List.length_eq_one_iff.1 h1
          obtain ⟨gb, cc, B1, c1, rfl, x0, x1, x2, x3, x4, x5, hrow⟩ := row_one HROW5.out
          have HR1 := Lib.hid hrow
          clear hrow hb1 h1
          go_wp2
          have hb9 := blk_sets6 HZ5.out (.int .i64 z.f0) (.slice B1 z.f1.length c1) (.int .i64 z.f2) (.int .u64 z.f3) (.int .i64 z.f4) (.int .u64 z.f5)
          obtain ⟨r0, r1, r2, r3, r4, r5, rf⟩ := blk6 hb9
          have hcB : Chg (fun k => k = W.heap.size) W5 _ := (Chg.refl (fun k => k = W.heap.size) W5).sets6' W.heap.size (fun k e => e) (.int .i64 z.f0) (.slice B1 z.f1.length c1) (.int .i64 z.f2) (.int .u64 z.f3) (.int .i64 z.f4) (.int .u64 z.f5)
          refine bodyPost_ret (v := exAgg z (.slice B1 z.f1.length c1)) (by simp [results, Tryz.results72, go_sem, r0, r1, r2, r3, r4, r5, exAgg]) rfl ?_
          rw [HV.out]
          exact ⟨.slice B1 z.f1.length c1, rfl, (HR1.out.chg hcB (fun k e => by omega)).lower (by omega), HO5.out.far6 W.heap.size hgW (Nat.le_refl _) _ _ _ _ _ _⟩
        · have hb1 : ((l.length : Int) == 1) = false := by rw [beq_eq_false_iff_ne]; omega
          obtain ⟨A5, c5, rfl⟩ := Kd.R_slice HROW5.out
          go_wp2
          have hb9 := blk_sets6 HZ5.out (.int .i64 4) (.slice A5 l.length c5) (.int .i64 0) (.int .u64 0) (.int .i64 0) (.int .u64 0)
          obtain ⟨r0, r1, r2, r3, r4, r5, rf⟩ := blk6 hb9
          have hcB : Chg (fun k => k = W.heap.size) W5 _ := (Chg.refl (fun k => k = W.heap.size) W5).sets6' W.heap.size (fun k e => e) (.int .i64 4) (.slice A5 l.length c5) (.int .i64 0) (.int .u64 0) (.int .i64 0) (.int .u64 0)
          refine bodyPost_ret (v := exAgg ⟨4, l, 0, 0, 0, 0⟩ (.slice A5 l.length c5)) (by simp [results, Tryz.results72, go_sem, r0, r1, r2, r3, r4, r5, exAgg]) rfl ?_
          rw [HV.out, joinE_many h1]
          exact ⟨.slice A5 l.length c5, rfl, (HROW5.out.chg hcB (fun k e => by omega)).lower (by omega), HO5.out.far6 W.heap.size hgW (Nat.le_refl _) _ _ _ _ _ _⟩
      | true =>
        have hIt' : S5.M.length + 1 = S4.M.length := hIt rfl
        have HV : Hid (moreL ep one 2 sAnd (S1.M.length + 1) [x] S1 = moreL ep one 2 sAnd n (l ++ [(one S5).1]) (one S5).2) := Lib.hid (by rw [HT.out, HUN2.out]; rfl)
        clear HT HUN2 hIt
        go_wp2_with fail
        refine HI.out.mono ?_
        rintro e W5 ⟨rfl, hO5⟩
        have hs5 := hO5.chg.size
        have HD5 := Lib.hid (HONE.out S5 W5 HF5.out hO5.st)
        have HROW5 := Lib.hid (HROW.out.chg hO5.chg (fun k e => by omega)); have HO5 := Lib.hid (HO4.out.trans hO5); have HZ5 := Lib.hid (chg_block hO5.chg HZ4.out (by omega))
        have hl6 := HLEN.out S5
        have HF6 := Lib.hid (HFIN.out S5 HF5.out)
        clear hO5
        generalize one S5 = P6 at HD5 hl6 HF6 HV
        obtain ⟨y, S6⟩ := P6
        go_wp2_with fail
        refine HD5.out.mono ?_
        rintro e W6 ⟨v6, rfl, hX6, hO6⟩
        obtain ⟨A6, c6, rfl⟩ := Kd.R_slice hX6
        have hs6 := hO6.chg.size
        have HROW6 := Lib.hid (HROW5.out.chg hO6.chg (fun k e => by omega)); have HX6 := Lib.hid (ex_made (base := W.heap.size + 1) hX6 (by omega)); have HO6 := Lib.hid (HO5.out.trans hO6); have HZ6 := Lib.hid (chg_block hO6.chg HZ5.out (by omega))
        have hvlt : ∀ k, u3.ownBlock = some k → k < W5.heap.size := fun k hk => by
          obtain ⟨inner, ho⟩ := Kd.R_own HROW5.out
          exact own_lt ho k hk
        have HVLT := Lib.hid hvlt
        clear hX6 hO6 hvlt
        unfold exAgg
        go_wp2_with (at_builtin; refine Kd.R_append kEx (w0 := W6) (W := W6) (W.heap.size + 1) rfl (.tmp 17) (.tmp 20) 34 37 (.agg #[.int .i64 0, .slice none 0 0, .int .i64 0, .int .u64 0, .int .i64 0, .int .u64 0]) 64 rfl Tryz.underlying34 infoEx rfl (by decide) (by decide) u3 l y (exCells y (.slice A6 y.f1.length c6)) (fun _ => True) (fun k => W5.heap.size ≤ k ∧ k < W6.heap.size) rfl (by go_simp) HX6.out (fun k hk => ⟨trivial, fun e => Nat.lt_irrefl k (Nat.lt_of_lt_of_le (HVLT.out k e.symm) hk.1)⟩) (fun _ _ => trivial) HROW6.out (Below.refl _ _) (by omega) (by omega) ?_; intro v7 w7 hO7 hb7 hg7 hat7)
        have HO7 := Lib.hid hO7
        clear hO7
        go_roundg n
        case measure => omega
        case rel =>
          have hl6' : S6.M.length ≤ S5.M.length := hl6
          exact ⟨l ++ [y], S6, HV, by omega, by simp; omega, by simp, HO7, Lib.hid ⟨HO6.out.st.chg (Chg.of_belowB hb7) (fun k e => by omega), HO6.out.chg.trans (Chg.of_belowB hb7) (fun k e => .inr (by omega))⟩, Lib.hid ((hb7.block _ (by omega)).trans HZ6.out), HF6⟩
    · have hb0 : (S4.err == 0) = false := by rw [beq_eq_false_iff_ne]; exact h0
      have HV : Hid (moreL ep one 2 sAnd (S1.M.length + 1) [x] S1 = (l, S4)) := Lib.hid (by rw [HT.out, HUN.out, if_neg h0])
      clear HT HUN h0
      obtain ⟨p0, p1, p2, p3, p4, p5, pf⟩ := blk6 HZ4.out
      by_cases h1 : l.length = 1
      · have hb1 : ((l.length : Int) == 1) = true := by rw [beq_iff_eq]; omega
        obtain ⟨z, rfl⟩ : ∃ z, l = [z] := List.length_eq_one_iff.1 h1
        obtain ⟨gb, cc, B1, c1, rfl, x0, x1, x2, x3, x4, x5, hrow⟩ := row_one HROW.out
        have HR1 := Lib.hid hrow
        clear hrow hb1 h1
        go_wp2
        have hb9 := blk_sets6 HZ4.out (.int .i64 z.f0) (.slice B1 z.f1.length c1) (.int .i64 z.f2) (.int .u64 z.f3) (.int .i64 z.f4) (.int .u64 z.f5)
        obtain ⟨r0, r1, r2, r3, r4, r5, rf⟩ := blk6 hb9
        have hcB : Chg (fun k => k = W.heap.size) wr _ := (Chg.refl (fun k => k = W.heap.size) wr).sets6' W.heap.size (fun k e => e) (.int .i64 z.f0) (.slice B1 z.f1.length c1) (.int .i64 z.f2) (.int .u64 z.f3) (.int .i64 z.f4) (.int .u64 z.f5)
        refine bodyPost_ret (v := exAgg z (.slice B1 z.f1.length c1)) (by simp [results, Tryz.results72, go_sem, r0, r1, r2, r3, r4, r5, exAgg]) rfl ?_
        rw [HV.out]
        exact ⟨.slice B1 z.f1.length c1, rfl, (HR1.out.chg hcB (fun k e => by omega)).lower (by omega), HO4.out.far6 W.heap.size hgW (Nat.le_refl _) _ _ _ _ _ _⟩
      · have hb1 : ((l.length : Int) == 1) = false := by rw [beq_eq_false_iff_ne]; omega
        obtain ⟨A5, c5, rfl⟩ := Kd.R_slice HROW.out
        go_wp2
        have hb9 := blk_sets6 HZ4.out (.int .i64 4) (.slice A5 l.length c5) (.int .i64 0) (.int .u64 0) (.int .i64 0) (.int .u64 0)
        obtain ⟨r0, r1, r2, r3, r4, r5, rf⟩ := blk6 hb9
        have hcB : Chg (fun k => k = W.heap.size) wr _ := (Chg.refl (fun k => k = W.heap.size) wr).sets6' W.heap.size (fun k e => e) (.int .i64 4) (.slice A5 l.length c5) (.int .i64 0) (.int .u64 0) (.int .i64 0) (.int .u64 0)
        refine bodyPost_ret (v := exAgg ⟨4, l, 0, 0, 0, 0⟩ (.slice A5 l.length c5)) (by simp [results, Tryz.results72, go_sem, r0, r1, r2, r3, r4, r5, exAgg]) rfl ?_
        rw [HV.out, joinE_many h1]
        exact ⟨.slice A5 l.length c5, rfl, (HROW.out.chg hcB (fun k e => by omega)).lower (by omega), HO4.out.far6 W.heap.size hgW (Nat.le_refl _) _ _ _ _ _ _⟩

set_option maxRecDepth 100000 in
set_option maxHeartbeats 4000000 in
theorem Expr_ref (g : Nat) (LL : List Tk) (ep : EP) (d : Int) (one : RS → Ex × RS) (S : RS) (W : World) (hF : Fin3 ep S) (hR : RfS W g LL ep d S) (hfin : ∀ S1, Fin3 ep S1 → Fin3 ep (one S1).2) (hlen : ∀ S1, (one S1).2.M.length ≤ S1.M.length)
    (hone : ∀ S1 W1, Fin3 ep S1 → RfS W1 g LL ep d S1 → Calls Tryz.prog 72 #[.pointer (some ⟨g, 0, none⟩)] W1 (ExL W1 g LL ep d (one S1))) :
    Calls Tryz.prog 35 #[.pointer (some ⟨g, 0, none⟩)] W (ExL W g LL ep d (exprAL ep one S)) := by
  have hgW := hR.lt
  have hal := (Below.refl W.heap.size W).alloc (Nat.le_refl _) exZero
  have hz : (W.alloc exZero).heap[W.heap.size]? = some (.cells #[.int .i64 0, .slice none 0 0, .int .i64 0, .int .u64 0, .int .i64 0, .int .u64 0] 37 (0, 0)) := new_blk W _ _
  have hO1 : LOut W g LL ep d S (W.alloc exZero) := ⟨hR.below hal, Chg.of_below hal _⟩
  have hsz1 : (W.alloc exZero).heap.size = W.heap.size + 1 := by simp
  have HD := Lib.hid (hone S _ hF hO1.st)
  have HONE := Lib.hid hone; have HFIN := Lib.hid hfin; have HLEN := Lib.hid hlen; have HO1 := Lib.hid hO1; have HZ := Lib.hid hz
  have hF1 := hfin S hF
  have hun0 : (exprAL ep one S) = (joinE 5 (moreL ep one 2 sOr ((one S).2.M.length + 1) [(one S).1] (one S).2).1, (moreL ep one 2 sOr ((one S).2.M.length + 1) [(one S).1] (one S).2).2) := rfl
  rw [hun0]
  clear hun0 hone hfin hlen hR hF hal hO1 hz
  generalize one S = P at HD hF1 ⊢
  obtain ⟨x, S1⟩ := P
  have HF1 := Lib.hid hF1; clear hF1
  go_enter Tryz.func35, Tryz.ntmps35
  go_wp2_with fail
  refine HD.out.mono ?_
  rintro e W2 ⟨v, rfl, hX, hO2⟩
  obtain ⟨A, c, rfl⟩ := Kd.R_slice hX
  have hs2 := hO2.chg.size
  have hrow := ex_one hX (show W.heap.size + 1 ≤ (W.alloc exZero).heap.size by omega) (by omega)
  have hal2 := (Below.refl W2.heap.size W2).alloc (Nat.le_refl _) (.cells (exCells x (.slice A x.f1.length c)).toArray 37)
  have hO3 := (HO1.out.trans hO2).below hal2
  have hz3 := (hal2.block W.heap.size (by omega)).trans (chg_block hO2.chg HZ.out (by omega))
  have HROW := Lib.hid hrow; have HO3 := Lib.hid hO3; have HZ3 := Lib.hid hz3
  clear hX hO2 hrow hal2 hO3 hz3 hs2 HD HO1 HZ
  unfold exAgg
  go_wp2_with fail
  obtain ⟨v0, hv0⟩ : ∃ v0, v0 = Value.slice (some ⟨W2.heap.size, 0, none⟩) 1 1 := ⟨_, rfl⟩
  rw [← hv0] at HROW ⊢
  show Code.wp _ _ _ _ (W2.alloc (.cells (exCells x (.slice A x.f1.length c)).toArray 37))
  generalize W2.alloc (.cells (exCells x (.slice A x.f1.length c)).toArray 37) = W3 at HROW HO3 HZ3 ⊢
  clear hv0
  have hlen1 := rfs_len HO3.out.st
  go_loopg [3] (S1.M.length + 1) (fun n vl wr => ∃ (l : List Ex) (S4 : RS), Hid (moreL ep one 2 sOr (S1.M.length + 1) [x] S1 = moreL ep one 2 sOr n l S4) ∧ S4.M.length < n ∧ l.length + S4.M.length ≤ 65538 ∧ 1 ≤ l.length ∧ Hid (ExRow wr (W.heap.size + 1) vl l) ∧ Hid (LOut W g LL ep d S4 wr) ∧ Hid (wr.heap[W.heap.size]? = some (.cells #[.int .i64 0, .slice none 0 0, .int .i64 0, .int .u64 0, .int .i64 0, .int .u64 0] 37 (0, 0))) ∧ Hid (Fin3 ep S4))
  case atStart => exact ⟨[x], S1, Lib.hid rfl, by omega, by simp; omega, by simp, HROW, HO3, HZ3, HF1⟩
  case round =>
    clear HROW HO3 HZ3 HF1
    obtain ⟨l, S4, HT, hn, hl, hl1, HROW, HO4, HZ4, HF4⟩ := hrel
    obtain ⟨n, rfl⟩ : ∃ n, gk = n + 1 := ⟨gk - 1, by omega⟩
    have HUN := Lib.hid (more_unfold ep one 2 sOr n l S4)
    have hy5 := rfs_err HO4.out.st
    have hwr := HO4.out.chg.size
    have hzl : W.heap.size < wr.heap.size := (Array.getElem?_eq_some_iff.1 HZ4.out).1
    by_cases h0 : S4.err = 0
    · have hb0 : (S4.err == 0) = true := by rw [beq_iff_eq]; exact h0
      have HI := Lib.hid (is_ref g LL ep d 2 sOr S4 wr HF4.out HO4.out.st)
      have hFi := is_fin (k := 2) (x := sOr) HF4.out (by decide)
      have hIt := isL_true (k := 2) (x := sOr) HF4.out
      have hIl := is_len ep 2 sOr S4
      have HUN2 : Hid (moreL ep one 2 sOr (n + 1) l S4 = if (isL ep 2 sOr S4).1 = true then moreL ep one 2 sOr n (l ++ [(one (isL ep 2 sOr S4).2).1]) (one (isL ep 2 sOr S4).2).2 else (l, (isL ep 2 sOr S4).2)) := Lib.hid (by rw [HUN.out, if_pos h0])
      clear HUN h0
      generalize isL ep 2 sOr S4 = I at HI hFi hIt hIl HUN2
      obtain ⟨b, S5⟩ := I
      have HF5 := Lib.hid hFi; clear hFi
      cases b with
      | false =>
        have HV : Hid (moreL ep one 2 sOr (S1.M.length + 1) [x] S1 = (l, S5)) := Lib.hid (by rw [HT.out, HUN2.out]; rfl)
        clear HT HUN2 hIt
        go_wp2_with fail
        refine HI.out.mono ?_
        rintro e W5 ⟨rfl, hO5⟩
        have hrow5 := HROW.out.chg hO5.chg (fun k e => by omega)
        have hz5 := chg_block hO5.chg HZ4.out (by omega)
        have HO5 := Lib.hid (HO4.out.trans hO5); have HROW5 := Lib.hid hrow5; have HZ5 := Lib.hid hz5
        obtain ⟨p0, p1, p2, p3, p4, p5, pf⟩ := blk6 hz5
        clear hO5 hrow5 hz5
        by_cases h1 : l.length = 1
        · have hb1 : ((l.length : Int) == 1) = true := by rw [beq_iff_eq]; omega
          obtain ⟨z, rfl⟩ : ∃ z, l = [z] := List.length_eq_one_iff.1 h1
          obtain ⟨gb, cc, B1, c1, rfl, x0, x1, x2, x3, x4, x5, hrow⟩ := row_one HROW5.out
          have HR1 := Lib.hid hrow
          clear hrow hb1 h1
          go_wp2
          have hb9 := blk_sets6 HZ5.out (.int .i64 z.f0) (.slice B1 z.f1.length c1) (.int .i64 z.f2) (.int .u64 z.f3) (.int .i64 z.f4) (.int .u64 z.f5)
          obtain ⟨r0, r1, r2, r3, r4, r5, rf⟩ := blk6 hb9
          have hcB : Chg (fun k => k = W.heap.size) W5 _ := (Chg.refl (fun k => k = W.heap.size) W5).sets6' W.heap.size (fun k e => e) (.int .i64 z.f0) (.slice B1 z.f1.length c1) (.int .i64 z.f2) (.int .u64 z.f3) (.int .i64 z.f4) (.int .u64 z.f5)
          refine bodyPost_ret (v := exAgg z (.slice B1 z.f1.length c1)) (by simp [results, Tryz.results35, go_sem, r0, r1, r2, r3, r4, r5, exAgg]) rfl ?_
          rw [HV.out]
          exact ⟨.slice B1 z.f1.length c1, rfl, (HR1.out.chg hcB (fun k e => by omega)).lower (by omega), HO5.out.far6 W.heap.size hgW (Nat.le_refl _) _ _ _ _ _ _⟩
        · have hb1 : ((l.length : Int) == 1) = false := by rw [beq_eq_false_iff_ne]; omega
          obtain ⟨A5, c5, rfl⟩ := Kd.R_slice HROW5.out
          go_wp2
          have hb9 := blk_sets6 HZ5.out (.int .i64 5) (.slice A5 l.length c5) (.int .i64 0) (.int .u64 0) (.int .i64 0) (.int .u64 0)
          obtain ⟨r0, r1, r2, r3, r4, r5, rf⟩ := blk6 hb9
          have hcB : Chg (fun k => k = W.heap.size) W5 _ := (Chg.refl (fun k => k = W.heap.size) W5).sets6' W.heap.size (fun k e => e) (.int .i64 5) (.slice A5 l.length c5) (.int .i64 0) (.int .u64 0) (.int .i64 0) (.int .u64 0)
          refine bodyPost_ret (v := exAgg ⟨5, l, 0, 0, 0, 0⟩ (.slice A5 l.length c5)) (by simp [results, Tryz.results35, go_sem, r0, r1, r2, r3, r4, r5, exAgg]) rfl ?_
          rw [HV.out, joinE_many h1]
          exact ⟨.slice A5 l.length c5, rfl, (HROW5.out.chg hcB (fun k e => by omega)).lower (by omega), HO5.out.far6 W.heap.size hgW (Nat.le_refl _) _ _ _ _ _ _⟩
      | true =>
        have hIt' : S5.M.length + 1 = S4.M.length := hIt rfl
        have HV : Hid (moreL ep one 2 sOr (S1.M.length + 1) [x] S1 = moreL ep one 2 sOr n (l ++ [(one S5).1]) (one S5).2) := Lib.hid (by rw [HT.out, HUN2.out]; rfl)
        clear HT HUN2 hIt
        go_wp2_with fail
        refine HI.out.mono ?_
        rintro e W5 ⟨rfl, hO5⟩
        have hs5 := hO5.chg.size
        have HD5 := Lib.hid (HONE.out S5 W5 HF5.out hO5.st)
        have HROW5 := Lib.hid (HROW.out.chg hO5.chg (fun k e => by omega)); have HO5 := Lib.hid (HO4.out.trans hO5); have HZ5 := Lib.hid (chg_block hO5.chg HZ4.out (by omega))
        have hl6 := HLEN.out S5
        have HF6 := Lib.hid (HFIN.out S5 HF5.out)
        clear hO5
        generalize one S5 = P6 at HD5 hl6 HF6 HV
        obtain ⟨y, S6⟩ := P6
        go_wp2_with fail
        refine HD5.out.mono ?_
        rintro e W6 ⟨v6, rfl, hX6, hO6⟩
        obtain ⟨A6, c6, rfl⟩ := Kd.R_slice hX6
        have hs6 := hO6.chg.size
        have HROW6 := Lib.hid (HROW5.out.chg hO6.chg (fun k e => by omega)); have HX6 := Lib.hid (ex_made (base := W.heap.size + 1) hX6 (by omega)); have HO6 := Lib.hid (HO5.out.trans hO6); have HZ6 := Lib.hid (chg_block hO6.chg HZ5.out (by omega))
        have hvlt : ∀ k, u3.ownBlock = some k → k < W5.heap.size := fun k hk => by
          obtain ⟨inner, ho⟩ := Kd.R_own HROW5.out
          exact own_lt ho k hk
        have HVLT := Lib.hid hvlt
        clear hX6 hO6 hvlt
        unfold exAgg
        go_wp2_with (at_builtin; refine Kd.R_append kEx (w0 := W6) (W := W6) (W.heap.size + 1) rfl (.tmp 17) (.tmp 20) 34 37 (.agg #[.int .i64 0, .slice none 0 0, .int .i64 0, .int .u64 0, .int .i64 0, .int .u64 0]) 64 rfl Tryz.underlying34 infoEx rfl (by decide) (by decide) u3 l y (exCells y (.slice A6 y.f1.length c6)) (fun _ => True) (fun k => W5.heap.size ≤ k ∧ k < W6.heap.size) rfl (by go_simp) HX6.out (fun k hk => ⟨trivial, fun e => Nat.lt_irrefl k (Nat.lt_of_lt_of_le (HVLT.out k e.symm) hk.1)⟩) (fun _ _ => trivial) HROW6.out (Below.refl _ _) (by omega) (by omega) ?_; intro v7 w7 hO7 hb7 hg7 hat7)
        have HO7 := Lib.hid hO7
        clear hO7
        go_roundg n
        case measure => omega
        case rel =>
          have hl6' : S6.M.length ≤ S5.M.length := hl6
          exact ⟨l ++ [y], S6, HV, by omega, by simp; omega, by simp, HO7, Lib.hid ⟨HO6.out.st.chg (Chg.of_belowB hb7) (fun k e => by omega), HO6.out.chg.trans (Chg.of_belowB hb7) (fun k e => .inr (by omega))⟩, Lib.hid ((hb7.block _ (by omega)).trans HZ6.out), HF6⟩
    · have hb0 : (S4.err == 0) = false := by rw [beq_eq_false_iff_ne]; exact h0
      have HV : Hid (moreL ep one 2 sOr (S1.M.length + 1) [x] S1 = (l, S4)) := Lib.hid (by rw [HT.out, HUN.out, if_neg h0])
      clear HT HUN h0
      obtain ⟨p0, p1, p2, p3, p4, p5, pf⟩ := blk6 HZ4.out
      by_cases h1 : l.length = 1
      · have hb1 : ((l.length : Int) == 1) = true := by rw [beq_iff_eq]; omega
        obtain ⟨z, rfl⟩ : ∃ z, l = [z] := List.length_eq_one_iff.1 h1
        obtain ⟨gb, cc, B1, c1, rfl, x0, x1, x2, x3, x4, x5, hrow⟩ := row_one HROW.out
        have HR1 := Lib.hid hrow
        clear hrow hb1 h1
        go_wp2
        have hb9 := blk_sets6 HZ4.out (.int .i64 z.f0) (.slice B1 z.f1.length c1) (.int .i64 z.f2) (.int .u64 z.f3) (.int .i64 z.f4) (.int .u64 z.f5)
        obtain ⟨r0, r1, r2, r3, r4, r5, rf⟩ := blk6 hb9
        have hcB : Chg (fun k => k = W.heap.size) wr _ := (Chg.refl (fun k => k = W.heap.size) wr).sets6' W.heap.size (fun k e => e) (.int .i64 z.f0) (.slice B1 z.f1.length c1) (.int .i64 z.f2) (.int .u64 z.f3) (.int .i64 z.f4) (.int .u64 z.f5)
        refine bodyPost_ret (v := exAgg z (.slice B1 z.f1.length c1)) (by simp [results, Tryz.results35, go_sem, r0, r1, r2, r3, r4, r5, exAgg]) rfl ?_
        rw [HV.out]
        exact ⟨.slice B1 z.f1.length c1, rfl, (HR1.out.chg hcB (fun k e => by omega)).lower (by omega), HO4.out.far6 W.heap.size hgW (Nat.le_refl _) _ _ _ _ _ _⟩
      · have hb1 : ((l.length : Int) == 1) = false := by rw [beq_eq_false_iff_ne]; omega
        obtain ⟨A5, c5, rfl⟩ := Kd.R_slice HROW.out
        go_wp2
        have hb9 := blk_sets6 HZ4.out (.int .i64 5) (.slice A5 l.length c5) (.int .i64 0) (.int .u64 0) (.int .i64 0) (.int .u64 0)
        obtain ⟨r0, r1, r2, r3, r4, r5, rf⟩ := blk6 hb9
        have hcB : Chg (fun k => k = W.heap.size) wr _ := (Chg.refl (fun k => k = W.heap.size) wr).sets6' W.heap.size (fun k e => e) (.int .i64 5) (.slice A5 l.length c5) (.int .i64 0) (.int .u64 0) (.int .i64 0) (.int .u64 0)
        refine bodyPost_ret (v := exAgg ⟨5, l, 0, 0, 0, 0⟩ (.slice A5 l.length c5)) (by simp [results, Tryz.results35, go_sem, r0, r1, r2, r3, r4, r5, exAgg]) rfl ?_
        rw [HV.out, joinE_many h1]
        exact ⟨.slice A5 l.length c5, rfl, (HROW.out.chg hcB (fun k e => by omega)).lower (by omega), HO4.out.far6 W.heap.size hgW (Nat.le_refl _) _ _ _ _ _ _⟩
end Go.Proofs.YtlmopoipjolbgaaGreatDoor.LexW
namespace Go.Proofs.YtlmopoipjolbgaaGreatDoor.LexW
open Go.RowKit Go.Shelf Go.Proofs.YtlmopoipjolbgaaGreatDoor.LexS Go.Proofs.YtlmopoipjolbgaaGreatDoorW.PrintWords
set_option linter.unusedVariables false
set_option linter.unusedSimpArgs false

theorem kind_len (ep : EP) (k : Int) (S : RS) : (kindL ep k S).2.M.length ≤ S.M.length := by
  unfold kindL
  split
  · have := next_len ep (peekL ep S).2; rw [peek_M] at this; exact this
  · rw [fails_M, peek_M]; exact Nat.le_refl _
theorem want_len (ep : EP) (k : Int) (x : ByteArray) (S : RS) : (wantL ep k x S).M.length ≤ S.M.length := by
  unfold wantL
  split
  · exact is_len ep k x S
  · rw [fails_M, peek_M]; exact is_len ep k x S
theorem verdict_len (ep : EP) (S : RS) : (verdictL ep S).2.M.length ≤ S.M.length := by
  have h1 := kind_len ep 2 S
  have h2 := kind_len ep 3 (kindL ep 2 S).2
  unfold verdictL
  simp only
  split
  · split
    · split
      · exact Nat.le_trans h2 h1
      · exact h1
    · rw [fails_M]; exact h1
  · exact h1
theorem call_len (ep : EP) (S : RS) : (callL ep S).2.M.length ≤ S.M.length := by
  have h1 := next_len ep (peekL ep S).2
  rw [peek_M] at h1
  unfold callL
  simp only
  split
  · exact h1
  · split
    · exact h1
    · rw [fails_M, peek_M]; exact Nat.le_refl _
theorem mask_len (ep : EP) (S : RS) : (maskL ep S).2.M.length ≤ S.M.length := by
  have h1 := is_len ep 4 sAmp S
  unfold maskL
  simp only
  split
  · exact Nat.le_trans (kind_len ep 3 _) h1
  · exact h1
theorem test_len (ep : EP) (f : Int) (S : RS) : (testL ep f S).2.M.length ≤ S.M.length := by
  unfold testL
  simp only
  refine Nat.le_trans (kind_len ep 3 _) ?_
  have h1 := Nat.le_trans (kind_len ep 4 (maskL ep S).2) (mask_len ep S)
  split
  · rw [fails_M]; exact h1
  · exact h1
theorem more_len {α : Type} (ep : EP) {one : RS → α × RS} (h1 : ∀ S, (one S).2.M.length ≤ S.M.length) (k : Int) (x : ByteArray) : ∀ n l S, (moreL ep one k x n l S).2.M.length ≤ S.M.length := by
  intro n
  induction n with
  | zero => intro l S; exact Nat.le_refl _
  | succ n ih =>
    intro l S
    unfold moreL
    split
    · split
      · exact Nat.le_trans (ih _ _) (Nat.le_trans (h1 _) (is_len ep k x S))
      · exact is_len ep k x S
    · exact Nat.le_refl _
theorem all_len (ep : EP) {one : RS → Ex × RS} (h1 : ∀ S, (one S).2.M.length ≤ S.M.length) (S : RS) : (allL ep one S).2.M.length ≤ S.M.length := by
  unfold allL
  exact Nat.le_trans (more_len ep h1 _ _ _ _ _) (h1 S)
theorem expr_len (ep : EP) {one : RS → Ex × RS} (h1 : ∀ S, (one S).2.M.length ≤ S.M.length) (S : RS) : (exprL ep one S).2.M.length ≤ S.M.length := by
  unfold exprL
  exact Nat.le_trans (more_len ep (all_len ep h1) _ _ _ _ _) (all_len ep h1 S)
theorem atom_len (ep : EP) (t : Tk) (S : RS) : (atomL ep t S).2.M.length ≤ S.M.length := by
  unfold atomL
  split
  · split
    · exact Nat.le_refl _
    · split
      · exact Nat.le_refl _
      · split
        · exact test_len ep _ S
        · rw [fails_M]; exact Nat.le_refl _
  · rw [fails_M]; exact Nat.le_refl _
theorem one_len (ep : EP) : ∀ k S, (oneL ep k S).2.M.length ≤ S.M.length := by
  intro k
  induction k with
  | zero =>
    intro S
    have h1 := next_len ep S
    unfold oneL
    simp only
    split
    · split
      · rw [fails_M]; exact h1
      · split
        · rw [fails_M]; exact h1
        · exact Nat.le_trans (atom_len ep _ _) h1
    · exact h1
  | succ k ih =>
    intro S
    have h1 := next_len ep S
    unfold oneL
    simp only
    split
    · split
      · exact Nat.le_trans (ih _) h1
      · split
        · exact Nat.le_trans (want_len ep _ _ _) (Nat.le_trans (expr_len ep ih _) h1)
        · exact Nat.le_trans (atom_len ep _ _) h1
    · exact h1
theorem calls_len (ep : EP) : ∀ n l S, (callsL ep n l S).2.M.length ≤ S.M.length := by
  intro n
  induction n with
  | zero => intro l S; exact Nat.le_refl _
  | succ n ih =>
    intro l S
    have h1 := Nat.le_trans (is_len ep 4 sComma (callL ep S).2) (call_len ep S)
    unfold callsL
    simp only
    split
    · exact Nat.le_trans (ih _ _) h1
    · exact h1
theorem when_len (ep : EP) (S : RS) : (whenL ep S).2.M.length ≤ S.M.length := by
  have h1 := is_len ep 2 sWhen S
  unfold whenL
  split
  · exact Nat.le_trans (expr_len ep (one_len ep 64) _) h1
  · exact h1
theorem rule_len (ep : EP) (S : RS) : (ruleL ep S).2.M.length ≤ S.M.length := by
  unfold ruleL
  simp only
  exact Nat.le_trans (want_len ep _ _ _) (Nat.le_trans (verdict_len ep _) (Nat.le_trans (want_len ep _ _ _) (Nat.le_trans (when_len ep _) (calls_len ep _ _ S))))
end Go.Proofs.YtlmopoipjolbgaaGreatDoor.LexW
