/-
  Layer 6 (policy), the reference: verdict. · Layer 6 (policy), the reference: field, rel (the two walks are the kit's print, turned to names); they are the plain words' fieldT, relT. · Layer 6 (policy), the reference: call, deeper.
-/
import Derived.Test.YtlmopoipjolbgaaGreatDoorM11
import Derived.Test.YtlmopoipjolbgaaGreatDoorM04
import Derived.Test.YtlmopoipjolbgaaGreatDoorM07
namespace Go.Proofs.YtlmopoipjolbgaaGreatDoor.LexW
open Go.RowKit Go.Shelf Go.Proofs.YtlmopoipjolbgaaGreatDoor.LexS Go.Proofs.YtlmopoipjolbgaaGreatDoorW.PrintWords
set_option linter.unusedVariables false
set_option linter.unusedSimpArgs false

abbrev tokBox (t : Tk) : Obj := .cells #[.int .i64 t.kind, .string t.text, .int .u64 t.num, .int .i64 t.at_] 59
def VdL (W : World) (g : Nat) (LL : List Tk) (ep : EP) (d : Int) (p : Vd × RS) (en : Ending) (W' : World) : Prop := en = .returned (vdVal p.1) ∧ LOut W g LL ep d p.2 W'
theorem blk_sets2 {W : World} {b : Nat} {u0 u1 : Value} {t : TypeId} (h : W.heap[b]? = some (.cells #[u0, u1] t (0, 0))) (v0 v1 : Value) :
    ((W.setCell ⟨b, 0, none⟩ v0).setCell ⟨b, 1, none⟩ v1).heap[b]? = some (.cells #[v0, v1] t (0, 0)) := blk_set (blk_set h 0 v0) 1 v1
theorem LOut.far2 {W W1 : World} {g : Nat} {LL : List Tk} {ep : EP} {d : Int} {S : RS} (h : LOut W g LL ep d S W1) (b : Nat) (hg : g < W.heap.size) (hb : W.heap.size ≤ b) (v0 v1 : Value) : LOut W g LL ep d S ((W1.setCell ⟨b, 0, none⟩ v0).setCell ⟨b, 1, none⟩ v1) :=
  (h.far b 0 hg hb v0).far b 1 hg hb v1

theorem find_w0 {x : ByteArray}  (h : x = (⟨#[107, 105, 108, 108, 95, 112, 114, 111, 99, 101, 115, 115]⟩ : ByteArray)) : wordsT.find? (fun y => decide (x = y.1)) = some ((⟨#[107, 105, 108, 108, 95, 112, 114, 111, 99, 101, 115, 115]⟩ : ByteArray), 1, false) := by
  subst h
  decide +kernel
theorem find_w1 {x : ByteArray}  (h : x = (⟨#[107, 105, 108, 108, 95, 116, 104, 114, 101, 97, 100]⟩ : ByteArray)) : wordsT.find? (fun y => decide (x = y.1)) = some ((⟨#[107, 105, 108, 108, 95, 116, 104, 114, 101, 97, 100]⟩ : ByteArray), 2, false) := by
  subst h
  decide +kernel
theorem find_w2 {x : ByteArray}  (h : x = (⟨#[116, 114, 97, 112]⟩ : ByteArray)) : wordsT.find? (fun y => decide (x = y.1)) = some ((⟨#[116, 114, 97, 112]⟩ : ByteArray), 3, true) := by
  subst h
  decide +kernel
theorem find_w3 {x : ByteArray}  (h : x = (⟨#[101, 114, 114, 110, 111]⟩ : ByteArray)) : wordsT.find? (fun y => decide (x = y.1)) = some ((⟨#[101, 114, 114, 110, 111]⟩ : ByteArray), 4, true) := by
  subst h
  decide +kernel
theorem find_w4 {x : ByteArray}  (h : x = (⟨#[110, 111, 116, 105, 102, 121]⟩ : ByteArray)) : wordsT.find? (fun y => decide (x = y.1)) = some ((⟨#[110, 111, 116, 105, 102, 121]⟩ : ByteArray), 5, false) := by
  subst h
  decide +kernel
theorem find_w5 {x : ByteArray}  (h : x = (⟨#[116, 114, 97, 99, 101]⟩ : ByteArray)) : wordsT.find? (fun y => decide (x = y.1)) = some ((⟨#[116, 114, 97, 99, 101]⟩ : ByteArray), 6, true) := by
  subst h
  decide +kernel
theorem find_w6 {x : ByteArray}  (h : x = (⟨#[108, 111, 103]⟩ : ByteArray)) : wordsT.find? (fun y => decide (x = y.1)) = some ((⟨#[108, 111, 103]⟩ : ByteArray), 7, false) := by
  subst h
  decide +kernel
theorem find_w7 {x : ByteArray}  (h : x = (⟨#[97, 108, 108, 111, 119]⟩ : ByteArray)) : wordsT.find? (fun y => decide (x = y.1)) = some ((⟨#[97, 108, 108, 111, 119]⟩ : ByteArray), 8, false) := by
  subst h
  decide +kernel
theorem w0_list : (⟨#[107, 105, 108, 108, 95, 112, 114, 111, 99, 101, 115, 115]⟩ : ByteArray).toList = [107, 105, 108, 108, 95, 112, 114, 111, 99, 101, 115, 115] := by decide +kernel
theorem w1_list : (⟨#[107, 105, 108, 108, 95, 116, 104, 114, 101, 97, 100]⟩ : ByteArray).toList = [107, 105, 108, 108, 95, 116, 104, 114, 101, 97, 100] := by decide +kernel
theorem w2_list : (⟨#[116, 114, 97, 112]⟩ : ByteArray).toList = [116, 114, 97, 112] := by decide +kernel
theorem w3_list : (⟨#[101, 114, 114, 110, 111]⟩ : ByteArray).toList = [101, 114, 114, 110, 111] := by decide +kernel
theorem w4_list : (⟨#[110, 111, 116, 105, 102, 121]⟩ : ByteArray).toList = [110, 111, 116, 105, 102, 121] := by decide +kernel
theorem w5_list : (⟨#[116, 114, 97, 99, 101]⟩ : ByteArray).toList = [116, 114, 97, 99, 101] := by decide +kernel
theorem w6_list : (⟨#[108, 111, 103]⟩ : ByteArray).toList = [108, 111, 103] := by decide +kernel
theorem w7_list : (⟨#[97, 108, 108, 111, 119]⟩ : ByteArray).toList = [97, 108, 108, 111, 119] := by decide +kernel
theorem find_w_none {x : ByteArray} (h0 : x ≠ (⟨#[107, 105, 108, 108, 95, 112, 114, 111, 99, 101, 115, 115]⟩ : ByteArray)) (h1 : x ≠ (⟨#[107, 105, 108, 108, 95, 116, 104, 114, 101, 97, 100]⟩ : ByteArray)) (h2 : x ≠ (⟨#[116, 114, 97, 112]⟩ : ByteArray)) (h3 : x ≠ (⟨#[101, 114, 114, 110, 111]⟩ : ByteArray)) (h4 : x ≠ (⟨#[110, 111, 116, 105, 102, 121]⟩ : ByteArray)) (h5 : x ≠ (⟨#[116, 114, 97, 99, 101]⟩ : ByteArray)) (h6 : x ≠ (⟨#[108, 111, 103]⟩ : ByteArray)) (h7 : x ≠ (⟨#[97, 108, 108, 111, 119]⟩ : ByteArray)) : wordsT.find? (fun y => decide (x = y.1)) = none := by
  rw [List.find?_eq_none]
  intro y hy
  simp only [wordsT, List.mem_cons, List.not_mem_nil, or_false] at hy
  rcases hy with rfl | rfl | rfl | rfl | rfl | rfl | rfl | rfl
  all_goals simpa using ‹_›

set_option maxRecDepth 100000 in
set_option maxHeartbeats 4000000 in
theorem verdict_ref (g : Nat) (LL : List Tk) (ep : EP) (d : Int) (S : RS) (W : World) (hF : Fin3 ep S) (hR : RfS W g LL ep d S) :
    Calls Tryz.prog 28 #[.pointer (some ⟨g, 0, none⟩)] W (VdL W g LL ep d (verdictL ep S)) := by
  have hgW := hR.lt
  have hal := (Below.refl W.heap.size W).alloc (Nat.le_refl _) vdZero
  have hz : (W.alloc vdZero).heap[W.heap.size]? = some (.cells #[.int .i64 0, .int .u64 0] 26 (0, 0)) := new_blk W _ _
  have hO1 : LOut W g LL ep d S (W.alloc vdZero) := ⟨hR.below hal, Chg.of_below hal _⟩
  have HP := Lib.hid (kind_ref g LL ep d 2 S (W.alloc vdZero) hF (hR.below hal))
  have HO1 := Lib.hid hO1; have HZ := Lib.hid hz
  have hnx : verdictL ep S = if (kindL ep 2 S).2.err = 0 then
    (match wordsT.find? (fun x => decide ((kindL ep 2 S).1.text = x.1)) with
    | some (_, k, n) => if n = true then (⟨k, (kindL ep 3 (kindL ep 2 S).2).1.num⟩, (kindL ep 3 (kindL ep 2 S).2).2) else (⟨k, 0⟩, (kindL ep 2 S).2)
    | none => (zVd, failsL 61 (kindL ep 2 S).1.at_ (kindL ep 2 S).2)) else (zVd, (kindL ep 2 S).2) := rfl
  have hF1 := kind_fin hF (show (2 : Int) ≠ 1 by decide)
  rw [hnx]
  clear hO1 hz hR hal hnx hF
  generalize kindL ep 2 S = P at *
  obtain ⟨t, S1⟩ := P
  have HF1 := Lib.hid hF1; clear hF1
  have hstep : ∀ W2, LOut (W.alloc vdZero) g LL ep d S1 W2 → LOut W g LL ep d S1 (W2.alloc (tokBox t)) ∧ (W2.alloc (tokBox t)).heap[W.heap.size]? = some (.cells #[.int .i64 0, .int .u64 0] 26 (0, 0)) := fun W2 h =>
    ⟨(HO1.out.trans h).below ((Below.refl _ _).alloc (Nat.le_refl _) _), blk_past _ (chg_block h.chg HZ.out (by omega))⟩
  have HSTEP := Lib.hid hstep; clear hstep
  by_cases h0 : S1.err = 0
  · have hb0 : (S1.err != 0) = false := by rw [bne_eq_false_iff_eq]; exact h0
    rw [if_pos h0]
    clear h0
    by_cases h0 : t.text = (⟨#[107, 105, 108, 108, 95, 112, 114, 111, 99, 101, 115, 115]⟩ : ByteArray)
    · have b0 : (t.text.toList == [107, 105, 108, 108, 95, 112, 114, 111, 99, 101, 115, 115]) = true := by rw [h0, w0_list]; exact beq_self_eq_true _
      have hm := find_w0 h0
      rw [hm]
      clear hm h0
      show Calls _ _ _ _ (VdL W g LL ep d (⟨1, 0⟩, S1))
      go_enter Tryz.func28, Tryz.ntmps28
      go_wp2_with fail
      refine HP.out.mono ?_
      rintro e W2 ⟨rfl, hO2⟩
      obtain ⟨hO3, hz3⟩ := HSTEP.out W2 hO2
      obtain ⟨q0, q1, q2, q3, qf⟩ := blk4 (new_blk W2 #[.int .i64 t.kind, .string t.text, .int .u64 t.num, .int .i64 t.at_] 59)
      have hy3 := rfs_err hO3.st
      have HO3 := Lib.hid hO3; have HZ3 := Lib.hid hz3
      obtain ⟨p0, p1, pf⟩ := blk2 hz3
      obtain ⟨l0, l1, lf⟩ := blk2 (blk_past (.cells #[.int .i64 1, .int .u64 0] 26) hz3)
      clear hO2 hO3 hz3
      unfold tkVal
      go_wp2
      have hb4 := blk_sets2 (blk_past (.cells #[.int .i64 1, .int .u64 0] 26) HZ3.out) (.int .i64 1) (.int .u64 0)
      obtain ⟨r0, r1, rf⟩ := blk2 hb4
      refine bodyPost_ret (v := vdVal ⟨1, 0⟩) (by simp [results, Tryz.results28, go_sem, r0, r1, vdVal, zVd]) rfl ?_
      exact ⟨rfl, (HO3.out.below ((Below.refl _ _).alloc (Nat.le_refl _) (.cells #[.int .i64 1, .int .u64 0] 26))).far2 W.heap.size hgW (Nat.le_refl _) _ _⟩
    have b0 : (t.text.toList == [107, 105, 108, 108, 95, 112, 114, 111, 99, 101, 115, 115]) = false := by rw [← w0_list]; exact (text_neb h0).1
    by_cases h1 : t.text = (⟨#[107, 105, 108, 108, 95, 116, 104, 114, 101, 97, 100]⟩ : ByteArray)
    · have b1 : (t.text.toList == [107, 105, 108, 108, 95, 116, 104, 114, 101, 97, 100]) = true := by rw [h1, w1_list]; exact beq_self_eq_true _
      have hm := find_w1 h1
      rw [hm]
      clear hm h0 h1
      show Calls _ _ _ _ (VdL W g LL ep d (⟨2, 0⟩, S1))
      go_enter Tryz.func28, Tryz.ntmps28
      go_wp2_with fail
      refine HP.out.mono ?_
      rintro e W2 ⟨rfl, hO2⟩
      obtain ⟨hO3, hz3⟩ := HSTEP.out W2 hO2
      obtain ⟨q0, q1, q2, q3, qf⟩ := blk4 (new_blk W2 #[.int .i64 t.kind, .string t.text, .int .u64 t.num, .int .i64 t.at_] 59)
      have hy3 := rfs_err hO3.st
      have HO3 := Lib.hid hO3; have HZ3 := Lib.hid hz3
      obtain ⟨p0, p1, pf⟩ := blk2 hz3
      obtain ⟨l0, l1, lf⟩ := blk2 (blk_past (.cells #[.int .i64 2, .int .u64 0] 26) hz3)
      clear hO2 hO3 hz3
      unfold tkVal
      go_wp2
      have hb4 := blk_sets2 (blk_past (.cells #[.int .i64 2, .int .u64 0] 26) HZ3.out) (.int .i64 2) (.int .u64 0)
      obtain ⟨r0, r1, rf⟩ := blk2 hb4
      refine bodyPost_ret (v := vdVal ⟨2, 0⟩) (by simp [results, Tryz.results28, go_sem, r0, r1, vdVal, zVd]) rfl ?_
      exact ⟨rfl, (HO3.out.below ((Below.refl _ _).alloc (Nat.le_refl _) (.cells #[.int .i64 2, .int .u64 0] 26))).far2 W.heap.size hgW (Nat.le_refl _) _ _⟩
    have b1 : (t.text.toList == [107, 105, 108, 108, 95, 116, 104, 114, 101, 97, 100]) = false := by rw [← w1_list]; exact (text_neb h1).1
    by_cases h2 : t.text = (⟨#[116, 114, 97, 112]⟩ : ByteArray)
    · have b2 : (t.text.toList == [116, 114, 97, 112]) = true := by rw [h2, w2_list]; exact beq_self_eq_true _
      have hm := find_w2 h2
      rw [hm]
      clear hm h0 h1 h2
      show Calls _ _ _ _ (VdL W g LL ep d (⟨3, (kindL ep 3 S1).1.num⟩, (kindL ep 3 S1).2))
      go_enter Tryz.func28, Tryz.ntmps28
      go_wp2_with fail
      refine HP.out.mono ?_
      rintro e W2 ⟨rfl, hO2⟩
      obtain ⟨hO3, hz3⟩ := HSTEP.out W2 hO2
      obtain ⟨q0, q1, q2, q3, qf⟩ := blk4 (new_blk W2 #[.int .i64 t.kind, .string t.text, .int .u64 t.num, .int .i64 t.at_] 59)
      have hy3 := rfs_err hO3.st
      have HO3 := Lib.hid hO3; have HZ3 := Lib.hid hz3
      obtain ⟨p0, p1, pf⟩ := blk2 hz3
      have hO4 := hO3.below ((Below.refl _ _).alloc (Nat.le_refl _) (.cells #[.int .i64 3, .int .u64 0] 26))
      have hz4 := blk_past (.cells #[.int .i64 3, .int .u64 0] 26) hz3
      have hx4 : ((W2.alloc (tokBox t)).alloc (.cells #[.int .i64 3, .int .u64 0] 26)).heap[W2.heap.size + 1]? = some (.cells #[.int .i64 3, .int .u64 0] 26 (0, 0)) := new_blk' (by simp) _ _
      have HN := Lib.hid (kind_ref g LL ep d 3 S1 _ HF1.out hO4.st)
      have HO4 := Lib.hid hO4; have HZ4 := Lib.hid hz4; have HX4 := Lib.hid hx4
      have hs2 := hO2.chg.size
      have hsz2 : W.heap.size + 1 ≤ W2.heap.size := by simpa using hs2
      clear hO2 hO3 hz3 hO4 hz4 hx4 hs2
      unfold tkVal
      go_wp2_with fail
      refine HN.out.mono ?_
      rintro e W4 ⟨rfl, hO5⟩
      have hgx : g < W2.heap.size + 1 := by omega
      generalize kindL ep 3 S1 = P2 at *
      obtain ⟨t2, S2⟩ := P2
      have hz5 := blk_past (tokBox t2) (chg_block hO5.chg HZ4.out (by omega))
      have hx5 := blk_past (tokBox t2) (chg_block hO5.chg HX4.out (by omega))
      have hO6 := (HO4.out.trans hO5).below ((Below.refl _ _).alloc (Nat.le_refl _) (tokBox t2))
      obtain ⟨s0, s1, s2, s3, sf⟩ := blk4 (new_blk W4 #[.int .i64 t2.kind, .string t2.text, .int .u64 t2.num, .int .i64 t2.at_] 59)
      have hx6 := blk_set hx5 1 (.int .u64 t2.num)
      have hz6 := (Below.heap_setCell (W4.alloc (tokBox t2)) ⟨W2.heap.size + 1, 1, none⟩ (.int .u64 t2.num) W.heap.size (by show W.heap.size ≠ W2.heap.size + 1; omega)).trans hz5
      have hO7 := hO6.far (W2.heap.size + 1) 1 hgW (by omega) (.int .u64 t2.num)
      obtain ⟨m0, m1, mf⟩ := blk2 hx5
      obtain ⟨n0, n1, nf⟩ := blk2 hx6
      obtain ⟨l0, l1, lf⟩ := blk2 hz6
      have HO7 := Lib.hid hO7; have HZ6 := Lib.hid hz6
      clear hO5 hO6 hz5 hx5 hx6 hz6 hO7
      unfold tkVal
      go_wp2
      have hb4 := blk_sets2 HZ6.out (.int .i64 3) (.int .u64 t2.num)
      obtain ⟨r0, r1, rf⟩ := blk2 hb4
      refine bodyPost_ret (v := vdVal ⟨3, t2.num⟩) (by simp [results, Tryz.results28, go_sem, r0, r1, vdVal, zVd]) rfl ?_
      exact ⟨rfl, HO7.out.far2 W.heap.size hgW (Nat.le_refl _) _ _⟩
    have b2 : (t.text.toList == [116, 114, 97, 112]) = false := by rw [← w2_list]; exact (text_neb h2).1
    by_cases h3 : t.text = (⟨#[101, 114, 114, 110, 111]⟩ : ByteArray)
    · have b3 : (t.text.toList == [101, 114, 114, 110, 111]) = true := by rw [h3, w3_list]; exact beq_self_eq_true _
      have hm := find_w3 h3
      rw [hm]
      clear hm h0 h1 h2 h3
      show Calls _ _ _ _ (VdL W g LL ep d (⟨4, (kindL ep 3 S1).1.num⟩, (kindL ep 3 S1).2))
      go_enter Tryz.func28, Tryz.ntmps28
      go_wp2_with fail
      refine HP.out.mono ?_
      rintro e W2 ⟨rfl, hO2⟩
      obtain ⟨hO3, hz3⟩ := HSTEP.out W2 hO2
      obtain ⟨q0, q1, q2, q3, qf⟩ := blk4 (new_blk W2 #[.int .i64 t.kind, .string t.text, .int .u64 t.num, .int .i64 t.at_] 59)
      have hy3 := rfs_err hO3.st
      have HO3 := Lib.hid hO3; have HZ3 := Lib.hid hz3
      obtain ⟨p0, p1, pf⟩ := blk2 hz3
      have hO4 := hO3.below ((Below.refl _ _).alloc (Nat.le_refl _) (.cells #[.int .i64 4, .int .u64 0] 26))
      have hz4 := blk_past (.cells #[.int .i64 4, .int .u64 0] 26) hz3
      have hx4 : ((W2.alloc (tokBox t)).alloc (.cells #[.int .i64 4, .int .u64 0] 26)).heap[W2.heap.size + 1]? = some (.cells #[.int .i64 4, .int .u64 0] 26 (0, 0)) := new_blk' (by simp) _ _
      have HN := Lib.hid (kind_ref g LL ep d 3 S1 _ HF1.out hO4.st)
      have HO4 := Lib.hid hO4; have HZ4 := Lib.hid hz4; have HX4 := Lib.hid hx4
      have hs2 := hO2.chg.size
      have hsz2 : W.heap.size + 1 ≤ W2.heap.size := by simpa using hs2
      clear hO2 hO3 hz3 hO4 hz4 hx4 hs2
      unfold tkVal
      go_wp2_with fail
      refine HN.out.mono ?_
      rintro e W4 ⟨rfl, hO5⟩
      have hgx : g < W2.heap.size + 1 := by omega
      generalize kindL ep 3 S1 = P2 at *
      obtain ⟨t2, S2⟩ := P2
      have hz5 := blk_past (tokBox t2) (chg_block hO5.chg HZ4.out (by omega))
      have hx5 := blk_past (tokBox t2) (chg_block hO5.chg HX4.out (by omega))
      have hO6 := (HO4.out.trans hO5).below ((Below.refl _ _).alloc (Nat.le_refl _) (tokBox t2))
      obtain ⟨s0, s1, s2, s3, sf⟩ := blk4 (new_blk W4 #[.int .i64 t2.kind, .string t2.text, .int .u64 t2.num, .int .i64 t2.at_] 59)
      have hx6 := blk_set hx5 1 (.int .u64 t2.num)
      have hz6 := (Below.heap_setCell (W4.alloc (tokBox t2)) ⟨W2.heap.size + 1, 1, none⟩ (.int .u64 t2.num) W.heap.size (by show W.heap.size ≠ W2.heap.size + 1; omega)).trans hz5
      have hO7 := hO6.far (W2.heap.size + 1) 1 hgW (by omega) (.int .u64 t2.num)
      obtain ⟨m0, m1, mf⟩ := blk2 hx5
      obtain ⟨n0, n1, nf⟩ := blk2 hx6
      obtain ⟨l0, l1, lf⟩ := blk2 hz6
      have HO7 := Lib.hid hO7; have HZ6 := Lib.hid hz6
      clear hO5 hO6 hz5 hx5 hx6 hz6 hO7
      unfold tkVal
      go_wp2
      have hb4 := blk_sets2 HZ6.out (.int .i64 4) (.int .u64 t2.num)
      obtain ⟨r0, r1, rf⟩ := blk2 hb4
      refine bodyPost_ret (v := vdVal ⟨4, t2.num⟩) (by simp [results, Tryz.results28, go_sem, r0, r1, vdVal, zVd]) rfl ?_
      exact ⟨rfl, HO7.out.far2 W.heap.size hgW (Nat.le_refl _) _ _⟩
    have b3 : (t.text.toList == [101, 114, 114, 110, 111]) = false := by rw [← w3_list]; exact (text_neb h3).1
    by_cases h4 : t.text = (⟨#[110, 111, 116, 105, 102, 121]⟩ : ByteArray)
    · have b4 : (t.text.toList == [110, 111, 116, 105, 102, 121]) = true := by rw [h4, w4_list]; exact beq_self_eq_true _
      have hm := find_w4 h4
      rw [hm]
      clear hm h0 h1 h2 h3 h4
      show Calls _ _ _ _ (VdL W g LL ep d (⟨5, 0⟩, S1))
      go_enter Tryz.func28, Tryz.ntmps28
      go_wp2_with fail
      refine HP.out.mono ?_
      rintro e W2 ⟨rfl, hO2⟩
      obtain ⟨hO3, hz3⟩ := HSTEP.out W2 hO2
      obtain ⟨q0, q1, q2, q3, qf⟩ := blk4 (new_blk W2 #[.int .i64 t.kind, .string t.text, .int .u64 t.num, .int .i64 t.at_] 59)
      have hy3 := rfs_err hO3.st
      have HO3 := Lib.hid hO3; have HZ3 := Lib.hid hz3
      obtain ⟨p0, p1, pf⟩ := blk2 hz3
      obtain ⟨l0, l1, lf⟩ := blk2 (blk_past (.cells #[.int .i64 5, .int .u64 0] 26) hz3)
      clear hO2 hO3 hz3
      unfold tkVal
      go_wp2
      have hb4 := blk_sets2 (blk_past (.cells #[.int .i64 5, .int .u64 0] 26) HZ3.out) (.int .i64 5) (.int .u64 0)
      obtain ⟨r0, r1, rf⟩ := blk2 hb4
      refine bodyPost_ret (v := vdVal ⟨5, 0⟩) (by simp [results, Tryz.results28, go_sem, r0, r1, vdVal, zVd]) rfl ?_
      exact ⟨rfl, (HO3.out.below ((Below.refl _ _).alloc (Nat.le_refl _) (.cells #[.int .i64 5, .int .u64 0] 26))).far2 W.heap.size hgW (Nat.le_refl _) _ _⟩
    have b4 : (t.text.toList == [110, 111, 116, 105, 102, 121]) = false := by rw [← w4_list]; exact (text_neb h4).1
    by_cases h5 : t.text = (⟨#[116, 114, 97, 99, 101]⟩ : ByteArray)
    · have b5 : (t.text.toList == [116, 114, 97, 99, 101]) = true := by rw [h5, w5_list]; exact beq_self_eq_true _
      have hm := find_w5 h5
      rw [hm]
      clear hm h0 h1 h2 h3 h4 h5
      show Calls _ _ _ _ (VdL W g LL ep d (⟨6, (kindL ep 3 S1).1.num⟩, (kindL ep 3 S1).2))
      go_enter Tryz.func28, Tryz.ntmps28
      go_wp2_with fail
      refine HP.out.mono ?_
      rintro e W2 ⟨rfl, hO2⟩
      obtain ⟨hO3, hz3⟩ := HSTEP.out W2 hO2
      obtain ⟨q0, q1, q2, q3, qf⟩ := blk4 (new_blk W2 #[.int .i64 t.kind, .string t.text, .int .u64 t.num, .int .i64 t.at_] 59)
      have hy3 := rfs_err hO3.st
      have HO3 := Lib.hid hO3; have HZ3 := Lib.hid hz3
      obtain ⟨p0, p1, pf⟩ := blk2 hz3
      have hO4 := hO3.below ((Below.refl _ _).alloc (Nat.le_refl _) (.cells #[.int .i64 6, .int .u64 0] 26))
      have hz4 := blk_past (.cells #[.int .i64 6, .int .u64 0] 26) hz3
      have hx4 : ((W2.alloc (tokBox t)).alloc (.cells #[.int .i64 6, .int .u64 0] 26)).heap[W2.heap.size + 1]? = some (.cells #[.int .i64 6, .int .u64 0] 26 (0, 0)) := new_blk' (by simp) _ _
      have HN := Lib.hid (kind_ref g LL ep d 3 S1 _ HF1.out hO4.st)
      have HO4 := Lib.hid hO4; have HZ4 := Lib.hid hz4; have HX4 := Lib.hid hx4
      have hs2 := hO2.chg.size
      have hsz2 : W.heap.size + 1 ≤ W2.heap.size := by simpa using hs2
      clear hO2 hO3 hz3 hO4 hz4 hx4 hs2
      unfold tkVal
      go_wp2_with fail
      refine HN.out.mono ?_
      rintro e W4 ⟨rfl, hO5⟩
      have hgx : g < W2.heap.size + 1 := by omega
      generalize kindL ep 3 S1 = P2 at *
      obtain ⟨t2, S2⟩ := P2
      have hz5 := blk_past (tokBox t2) (chg_block hO5.chg HZ4.out (by omega))
      have hx5 := blk_past (tokBox t2) (chg_block hO5.chg HX4.out (by omega))
      have hO6 := (HO4.out.trans hO5).below ((Below.refl _ _).alloc (Nat.le_refl _) (tokBox t2))
      obtain ⟨s0, s1, s2, s3, sf⟩ := blk4 (new_blk W4 #[.int .i64 t2.kind, .string t2.text, .int .u64 t2.num, .int .i64 t2.at_] 59)
      have hx6 := blk_set hx5 1 (.int .u64 t2.num)
      have hz6 := (Below.heap_setCell (W4.alloc (tokBox t2)) ⟨W2.heap.size + 1, 1, none⟩ (.int .u64 t2.num) W.heap.size (by show W.heap.size ≠ W2.heap.size + 1; omega)).trans hz5
      have hO7 := hO6.far (W2.heap.size + 1) 1 hgW (by omega) (.int .u64 t2.num)
      obtain ⟨m0, m1, mf⟩ := blk2 hx5
      obtain ⟨n0, n1, nf⟩ := blk2 hx6
      obtain ⟨l0, l1, lf⟩ := blk2 hz6
      have HO7 := Lib.hid hO7; have HZ6 := Lib.hid hz6
      clear hO5 hO6 hz5 hx5 hx6 hz6 hO7
      unfold tkVal
      go_wp2
      have hb4 := blk_sets2 HZ6.out (.int .i64 6) (.int .u64 t2.num)
      obtain ⟨r0, r1, rf⟩ := blk2 hb4
      refine bodyPost_ret (v := vdVal ⟨6, t2.num⟩) (by simp [results, Tryz.results28, go_sem, r0, r1, vdVal, zVd]) rfl ?_
      exact ⟨rfl, HO7.out.far2 W.heap.size hgW (Nat.le_refl _) _ _⟩
    have b5 : (t.text.toList == [116, 114, 97, 99, 101]) = false := by rw [← w5_list]; exact (text_neb h5).1
    by_cases h6 : t.text = (⟨#[108, 111, 103]⟩ : ByteArray)
    · have b6 : (t.text.toList == [108, 111, 103]) = true := by rw [h6, w6_list]; exact beq_self_eq_true _
      have hm := find_w6 h6
      rw [hm]
      clear hm h0 h1 h2 h3 h4 h5 h6
      show Calls _ _ _ _ (VdL W g LL ep d (⟨7, 0⟩, S1))
      go_enter Tryz.func28, Tryz.ntmps28
      go_wp2_with fail
      refine HP.out.mono ?_
      rintro e W2 ⟨rfl, hO2⟩
      obtain ⟨hO3, hz3⟩ := HSTEP.out W2 hO2
      obtain ⟨q0, q1, q2, q3, qf⟩ := blk4 (new_blk W2 #[.int .i64 t.kind, .string t.text, .int .u64 t.num, .int .i64 t.at_] 59)
      have hy3 := rfs_err hO3.st
      have HO3 := Lib.hid hO3; have HZ3 := Lib.hid hz3
      obtain ⟨p0, p1, pf⟩ := blk2 hz3
      obtain ⟨l0, l1, lf⟩ := blk2 (blk_past (.cells #[.int .i64 7, .int .u64 0] 26) hz3)
      clear hO2 hO3 hz3
      unfold tkVal
      go_wp2
      have hb4 := blk_sets2 (blk_past (.cells #[.int .i64 7, .int .u64 0] 26) HZ3.out) (.int .i64 7) (.int .u64 0)
      obtain ⟨r0, r1, rf⟩ := blk2 hb4
      refine bodyPost_ret (v := vdVal ⟨7, 0⟩) (by simp [results, Tryz.results28, go_sem, r0, r1, vdVal, zVd]) rfl ?_
      exact ⟨rfl, (HO3.out.below ((Below.refl _ _).alloc (Nat.le_refl _) (.cells #[.int .i64 7, .int .u64 0] 26))).far2 W.heap.size hgW (Nat.le_refl _) _ _⟩
    have b6 : (t.text.toList == [108, 111, 103]) = false := by rw [← w6_list]; exact (text_neb h6).1
    by_cases h7 : t.text = (⟨#[97, 108, 108, 111, 119]⟩ : ByteArray)
    · have b7 : (t.text.toList == [97, 108, 108, 111, 119]) = true := by rw [h7, w7_list]; exact beq_self_eq_true _
      have hm := find_w7 h7
      rw [hm]
      clear hm h0 h1 h2 h3 h4 h5 h6 h7
      show Calls _ _ _ _ (VdL W g LL ep d (⟨8, 0⟩, S1))
      go_enter Tryz.func28, Tryz.ntmps28
      go_wp2_with fail
      refine HP.out.mono ?_
      rintro e W2 ⟨rfl, hO2⟩
      obtain ⟨hO3, hz3⟩ := HSTEP.out W2 hO2
      obtain ⟨q0, q1, q2, q3, qf⟩ := blk4 (new_blk W2 #[.int .i64 t.kind, .string t.text, .int .u64 t.num, .int .i64 t.at_] 59)
      have hy3 := rfs_err hO3.st
      have HO3 := Lib.hid hO3; have HZ3 := Lib.hid hz3
      obtain ⟨p0, p1, pf⟩ := blk2 hz3
      obtain ⟨l0, l1, lf⟩ := blk2 (blk_past (.cells #[.int .i64 8, .int .u64 0] 26) hz3)
      clear hO2 hO3 hz3
      unfold tkVal
      go_wp2
      have hb4 := blk_sets2 (blk_past (.cells #[.int .i64 8, .int .u64 0] 26) HZ3.out) (.int .i64 8) (.int .u64 0)
      obtain ⟨r0, r1, rf⟩ := blk2 hb4
      refine bodyPost_ret (v := vdVal ⟨8, 0⟩) (by simp [results, Tryz.results28, go_sem, r0, r1, vdVal, zVd]) rfl ?_
      exact ⟨rfl, (HO3.out.below ((Below.refl _ _).alloc (Nat.le_refl _) (.cells #[.int .i64 8, .int .u64 0] 26))).far2 W.heap.size hgW (Nat.le_refl _) _ _⟩
    have b7 : (t.text.toList == [97, 108, 108, 111, 119]) = false := by rw [← w7_list]; exact (text_neb h7).1
    have hm := find_w_none h0 h1 h2 h3 h4 h5 h6 h7
    rw [hm]
    clear hm h0 h1 h2 h3 h4 h5 h6 h7
    show Calls _ _ _ _ (VdL W g LL ep d (zVd, failsL 61 t.at_ S1))
    go_enter Tryz.func28, Tryz.ntmps28
    go_wp2_with fail
    refine HP.out.mono ?_
    rintro e W2 ⟨rfl, hO2⟩
    obtain ⟨hO3, hz3⟩ := HSTEP.out W2 hO2
    obtain ⟨q0, q1, q2, q3, qf⟩ := blk4 (new_blk W2 #[.int .i64 t.kind, .string t.text, .int .u64 t.num, .int .i64 t.at_] 59)
    have hy3 := rfs_err hO3.st
    have HO3 := Lib.hid hO3; have HZ3 := Lib.hid hz3
    obtain ⟨p0, p1, pf⟩ := blk2 hz3
    have HN := Lib.hid (fails_any g LL ep d S1 61 t.at_ _ hO3.st)
    clear hO2 hO3 hz3
    unfold tkVal
    go_wp2_with fail
    refine HN.out.mono ?_
    rintro e W4 ⟨rfl, hO5⟩
    have hz5 := chg_block hO5.chg HZ3.out (by omega)
    have HO5 := Lib.hid (HO3.out.trans hO5); have HZ5 := Lib.hid hz5
    obtain ⟨l0, l1, lf⟩ := blk2 hz5
    clear hO5 hz5
    go_wp2
    have hb4 := blk_sets2 HZ5.out (.int .i64 0) (.int .u64 0)
    obtain ⟨r0, r1, rf⟩ := blk2 hb4
    refine bodyPost_ret (v := vdVal zVd) (by simp [results, Tryz.results28, go_sem, r0, r1, vdVal, zVd]) rfl ?_
    exact ⟨rfl, HO5.out.far2 W.heap.size hgW (Nat.le_refl _) _ _⟩
  · have hb0 : (S1.err != 0) = true := by rw [bne_iff_ne]; exact h0
    rw [if_neg h0]
    clear h0
    go_enter Tryz.func28, Tryz.ntmps28
    go_wp2_with fail
    refine HP.out.mono ?_
    rintro e W2 ⟨rfl, hO2⟩
    obtain ⟨hO3, hz3⟩ := HSTEP.out W2 hO2
    obtain ⟨q0, q1, q2, q3, qf⟩ := blk4 (new_blk W2 #[.int .i64 t.kind, .string t.text, .int .u64 t.num, .int .i64 t.at_] 59)
    have hy3 := rfs_err hO3.st
    have HO3 := Lib.hid hO3; have HZ3 := Lib.hid hz3
    obtain ⟨p0, p1, pf⟩ := blk2 hz3
    clear hO2 hO3 hz3
    unfold tkVal
    go_wp2
    have hb4 := blk_sets2 HZ3.out (.int .i64 0) (.int .u64 0)
    obtain ⟨r0, r1, rf⟩ := blk2 hb4
    refine bodyPost_ret (v := vdVal zVd) (by simp [results, Tryz.results28, go_sem, r0, r1, vdVal, zVd]) rfl ?_
    exact ⟨rfl, HO3.out.far2 W.heap.size hgW (Nat.le_refl _) _ _⟩
end Go.Proofs.YtlmopoipjolbgaaGreatDoor.LexW
namespace Go.Proofs.YtlmopoipjolbgaaGreatDoor.LexW
open Go.RowKit Go.Shelf Go.Proofs.YtlmopoipjolbgaaGreatDoor.LexS Go.Proofs.YtlmopoipjolbgaaGreatDoorW.PrintWords
set_option linter.unusedVariables false
set_option linter.unusedSimpArgs false

def fieldK.f (a0 : ByteArray) : Option (Int) := if a0.toList = ([105, 112] : List UInt8) then (some 6) else (if (a0.size : Int) = 4 then (if 0 ≤ 3 then (if 3 ≤ (a0.size : Int) then (if (a0.extract 0 3).toList = ([97, 114, 103] : List UInt8) then (if 3 < (a0.size : Int) then (if (bt a0 3) ≥ 48 then (if (bt a0 3) ≤ 53 then (some (((bt a0 3) - 48) % 256)) else (some (-1))) else (some (-1))) else (none)) else (some (-1))) else (none)) else (none)) else (some (-1)))
set_option maxHeartbeats 8000000 in
set_option maxRecDepth 100000 in
theorem fieldK.calls (a0 : ByteArray) (r : Int) (w : World) (h : fieldK.f a0 = some r) :
    Calls Tryz.prog 113 #[.string a0] w fun e w' => e = .returned (.int .i64 r) ∧ Drawn0 w w' := by
  have H : (if a0.toList = ([105, 112] : List UInt8) then (some 6) else (if (a0.size : Int) = 4 then (if 0 ≤ 3 then (if 3 ≤ (a0.size : Int) then (if (a0.extract 0 3).toList = ([97, 114, 103] : List UInt8) then (if 3 < (a0.size : Int) then (if (bt a0 3) ≥ 48 then (if (bt a0 3) ≤ 53 then (some (((bt a0 3) - 48) % 256)) else (some (-1))) else (some (-1))) else (none)) else (some (-1))) else (none)) else (none)) else (some (-1)))) = some r := h
  clear h
  by_cases c2 : a0.toList = ([105, 112] : List UInt8)
  · rw [if_pos c2] at H
    have c2b0 : (a0.toList == ([105, 112] : List UInt8)) = true := beq_iff_eq.mpr c2
    have c2b1 : (a0.toList != ([105, 112] : List UInt8)) = false := bne_eq_false_iff_eq.mpr c2
    clear c2
    obtain rfl := Option.some.inj H
    go_enter Tryz.func113, Tryz.ntmps113
    go_wp2
    go_ret
    exact ⟨by first | rfl | (simp; done) | (simp [*]; done), by repeat (first | exact Drawn0.refl _ | apply Drawn0.step)⟩
  · rw [if_neg c2] at H
    have c2b0 : (a0.toList == ([105, 112] : List UInt8)) = false := beq_eq_false_iff_ne.mpr c2
    have c2b1 : (a0.toList != ([105, 112] : List UInt8)) = true := bne_iff_ne.mpr c2
    by_cases c3 : (a0.size : Int) = 4
    · rw [if_pos c3] at H
      have c3b0 : ((a0.size : Int) == 4) = true := beq_iff_eq.mpr c3
      have c3b1 : ((a0.size : Int) != 4) = false := bne_eq_false_iff_eq.mpr c3
      clear c3
      by_cases c4 : 0 ≤ 3
      · rw [if_pos c4] at H
        have c4b0 := eq_true c4
        have c4b1 : decide (0 ≤ 3) = true := decide_eq_true c4
        clear c4
        by_cases c5 : 3 ≤ (a0.size : Int)
        · rw [if_pos c5] at H
          have c5b0 := eq_true c5
          have c5b1 : decide (3 ≤ (a0.size : Int)) = true := decide_eq_true c5
          clear c5
          by_cases c6 : (a0.extract 0 3).toList = ([97, 114, 103] : List UInt8)
          · rw [if_pos c6] at H
            have c6b0 : ((a0.extract 0 3).toList == ([97, 114, 103] : List UInt8)) = true := beq_iff_eq.mpr c6
            have c6b1 : ((a0.extract 0 3).toList != ([97, 114, 103] : List UInt8)) = false := bne_eq_false_iff_eq.mpr c6
            clear c6
            by_cases c7 : 3 < (a0.size : Int)
            · rw [if_pos c7] at H
              have c7b0 : decide (3 < (a0.size : Int)) = true := decide_eq_true c7
              have c7b1 : decide (3 < a0.size) = true := decide_eq_true (by omega)
              clear c7
              by_cases c9 : (bt a0 3) ≥ 48
              · rw [if_pos c9] at H
                have c9b0 : decide (48 ≤ (bt a0 3)) = true := decide_eq_true c9
                clear c9
                by_cases c11 : (bt a0 3) ≤ 53
                · rw [if_pos c11] at H
                  have c11b0 : decide ((bt a0 3) ≤ 53) = true := decide_eq_true c11
                  clear c11
                  obtain rfl := Option.some.inj H
                  have p8 : 0 ≤ (3 : Int) := (by omega)
                  have q8 : 3 < a0.size := (by have : (3 : Int) < (a0.size : Int) := of_decide_eq_true (by first | (with_reducible assumption) | assumption); omega)
                  have hx8 : ∀ h : 3 < a0.size, ((a0[3]'h).toNat : Int) = bt a0 3 := bt_at a0 3
                  clear p8
                  have qi8 : (3 < (a0.size : Int)) = True := eq_true (of_decide_eq_true (by first | (with_reducible assumption) | assumption))
                  replace q8 := eq_true q8
                  have p10 : 0 ≤ (3 : Int) := (by omega)
                  have q10 : 3 < a0.size := (by have : (3 : Int) < (a0.size : Int) := of_decide_eq_true (by first | (with_reducible assumption) | assumption); omega)
                  have hx10 : ∀ h : 3 < a0.size, ((a0[3]'h).toNat : Int) = bt a0 3 := bt_at a0 3
                  clear p10
                  have qi10 : (3 < (a0.size : Int)) = True := eq_true (of_decide_eq_true (by first | (with_reducible assumption) | assumption))
                  replace q10 := eq_true q10
                  have p12 : 0 ≤ (3 : Int) := (by omega)
                  have q12 : 3 < a0.size := (by have : (3 : Int) < (a0.size : Int) := of_decide_eq_true (by first | (with_reducible assumption) | assumption); omega)
                  have hx12 : ∀ h : 3 < a0.size, ((a0[3]'h).toNat : Int) = bt a0 3 := bt_at a0 3
                  clear p12
                  have qi12 : (3 < (a0.size : Int)) = True := eq_true (of_decide_eq_true (by first | (with_reducible assumption) | assumption))
                  replace q12 := eq_true q12
                  go_enter Tryz.func113, Tryz.ntmps113
                  go_wp2
                  go_ret
                  exact ⟨by first | rfl | (simp; done) | (simp [*]; done), by repeat (first | exact Drawn0.refl _ | apply Drawn0.step)⟩
                · rw [if_neg c11] at H
                  have c11b0 : decide ((bt a0 3) ≤ 53) = false := decide_eq_false c11
                  clear c11
                  obtain rfl := Option.some.inj H
                  have p8 : 0 ≤ (3 : Int) := (by omega)
                  have q8 : 3 < a0.size := (by have : (3 : Int) < (a0.size : Int) := of_decide_eq_true (by first | (with_reducible assumption) | assumption); omega)
                  have hx8 : ∀ h : 3 < a0.size, ((a0[3]'h).toNat : Int) = bt a0 3 := bt_at a0 3
                  clear p8
                  have qi8 : (3 < (a0.size : Int)) = True := eq_true (of_decide_eq_true (by first | (with_reducible assumption) | assumption))
                  replace q8 := eq_true q8
                  have p10 : 0 ≤ (3 : Int) := (by omega)
                  have q10 : 3 < a0.size := (by have : (3 : Int) < (a0.size : Int) := of_decide_eq_true (by first | (with_reducible assumption) | assumption); omega)
                  have hx10 : ∀ h : 3 < a0.size, ((a0[3]'h).toNat : Int) = bt a0 3 := bt_at a0 3
                  clear p10
                  have qi10 : (3 < (a0.size : Int)) = True := eq_true (of_decide_eq_true (by first | (with_reducible assumption) | assumption))
                  replace q10 := eq_true q10
                  go_enter Tryz.func113, Tryz.ntmps113
                  go_wp2
                  go_ret
                  exact ⟨by first | rfl | (simp; done) | (simp [*]; done), by repeat (first | exact Drawn0.refl _ | apply Drawn0.step)⟩
              · rw [if_neg c9] at H
                have c9b0 : decide (48 ≤ (bt a0 3)) = false := decide_eq_false c9
                clear c9
                obtain rfl := Option.some.inj H
                have p8 : 0 ≤ (3 : Int) := (by omega)
                have q8 : 3 < a0.size := (by have : (3 : Int) < (a0.size : Int) := of_decide_eq_true (by first | (with_reducible assumption) | assumption); omega)
                have hx8 : ∀ h : 3 < a0.size, ((a0[3]'h).toNat : Int) = bt a0 3 := bt_at a0 3
                clear p8
                have qi8 : (3 < (a0.size : Int)) = True := eq_true (of_decide_eq_true (by first | (with_reducible assumption) | assumption))
                replace q8 := eq_true q8
                go_enter Tryz.func113, Tryz.ntmps113
                go_wp2
                go_ret
                exact ⟨by first | rfl | (simp; done) | (simp [*]; done), by repeat (first | exact Drawn0.refl _ | apply Drawn0.step)⟩
            · rw [if_neg c7] at H
              exact absurd H (by simp)
          · rw [if_neg c6] at H
            have c6b0 : ((a0.extract 0 3).toList == ([97, 114, 103] : List UInt8)) = false := beq_eq_false_iff_ne.mpr c6
            have c6b1 : ((a0.extract 0 3).toList != ([97, 114, 103] : List UInt8)) = true := bne_iff_ne.mpr c6
            obtain rfl := Option.some.inj H
            go_enter Tryz.func113, Tryz.ntmps113
            go_wp2
            go_ret
            exact ⟨by first | rfl | (simp; done) | (simp [*]; done), by repeat (first | exact Drawn0.refl _ | apply Drawn0.step)⟩
        · rw [if_neg c5] at H
          exact absurd H (by simp)
      · rw [if_neg c4] at H
        exact absurd H (by simp)
    · rw [if_neg c3] at H
      have c3b0 : ((a0.size : Int) == 4) = false := beq_eq_false_iff_ne.mpr c3
      have c3b1 : ((a0.size : Int) != 4) = true := bne_iff_ne.mpr c3
      obtain rfl := Option.some.inj H
      go_enter Tryz.func113, Tryz.ntmps113
      go_wp2
      go_ret
      exact ⟨by first | rfl | (simp; done) | (simp [*]; done), by repeat (first | exact Drawn0.refl _ | apply Drawn0.step)⟩


def relK.f (a0 : ByteArray) : Option (Int) := if a0.toList = ([61, 61] : List UInt8) then (some 1) else (if a0.toList = ([33, 61] : List UInt8) then (some 2) else (if a0.toList = ([60] : List UInt8) then (some 3) else (if a0.toList = ([60, 61] : List UInt8) then (some 4) else (if a0.toList = ([62] : List UInt8) then (some 5) else (if a0.toList = ([62, 61] : List UInt8) then (some 6) else (some 0))))))
set_option maxHeartbeats 8000000 in
set_option maxRecDepth 100000 in
theorem relK.calls (a0 : ByteArray) (r : Int) (w : World) (h : relK.f a0 = some r) :
    Calls Tryz.prog 130 #[.string a0] w fun e w' => e = .returned (.int .i64 r) ∧ Drawn0 w w' := by
  have H : (if a0.toList = ([61, 61] : List UInt8) then (some 1) else (if a0.toList = ([33, 61] : List UInt8) then (some 2) else (if a0.toList = ([60] : List UInt8) then (some 3) else (if a0.toList = ([60, 61] : List UInt8) then (some 4) else (if a0.toList = ([62] : List UInt8) then (some 5) else (if a0.toList = ([62, 61] : List UInt8) then (some 6) else (some 0))))))) = some r := h
  clear h
  by_cases c2 : a0.toList = ([61, 61] : List UInt8)
  · rw [if_pos c2] at H
    have c2b0 : (a0.toList == ([61, 61] : List UInt8)) = true := beq_iff_eq.mpr c2
    have c2b1 : (a0.toList != ([61, 61] : List UInt8)) = false := bne_eq_false_iff_eq.mpr c2
    clear c2
    obtain rfl := Option.some.inj H
    go_enter Tryz.func130, Tryz.ntmps130
    go_wp2
    go_ret
    exact ⟨by first | rfl | (simp; done) | (simp [*]; done), by repeat (first | exact Drawn0.refl _ | apply Drawn0.step)⟩
  · rw [if_neg c2] at H
    have c2b0 : (a0.toList == ([61, 61] : List UInt8)) = false := beq_eq_false_iff_ne.mpr c2
    have c2b1 : (a0.toList != ([61, 61] : List UInt8)) = true := bne_iff_ne.mpr c2
    by_cases c3 : a0.toList = ([33, 61] : List UInt8)
    · rw [if_pos c3] at H
      have c3b0 : (a0.toList == ([33, 61] : List UInt8)) = true := beq_iff_eq.mpr c3
      have c3b1 : (a0.toList != ([33, 61] : List UInt8)) = false := bne_eq_false_iff_eq.mpr c3
      clear c3
      obtain rfl := Option.some.inj H
      go_enter Tryz.func130, Tryz.ntmps130
      go_wp2
      go_ret
      exact ⟨by first | rfl | (simp; done) | (simp [*]; done), by repeat (first | exact Drawn0.refl _ | apply Drawn0.step)⟩
    · rw [if_neg c3] at H
      have c3b0 : (a0.toList == ([33, 61] : List UInt8)) = false := beq_eq_false_iff_ne.mpr c3
      have c3b1 : (a0.toList != ([33, 61] : List UInt8)) = true := bne_iff_ne.mpr c3
      by_cases c4 : a0.toList = ([60] : List UInt8)
      · rw [if_pos c4] at H
        have c4b0 : (a0.toList == ([60] : List UInt8)) = true := beq_iff_eq.mpr c4
        have c4b1 : (a0.toList != ([60] : List UInt8)) = false := bne_eq_false_iff_eq.mpr c4
        clear c4
        obtain rfl := Option.some.inj H
        go_enter Tryz.func130, Tryz.ntmps130
        go_wp2
        go_ret
        exact ⟨by first | rfl | (simp; done) | (simp [*]; done), by repeat (first | exact Drawn0.refl _ | apply Drawn0.step)⟩
      · rw [if_neg c4] at H
        have c4b0 : (a0.toList == ([60] : List UInt8)) = false := beq_eq_false_iff_ne.mpr c4
        have c4b1 : (a0.toList != ([60] : List UInt8)) = true := bne_iff_ne.mpr c4
        by_cases c5 : a0.toList = ([60, 61] : List UInt8)
        · rw [if_pos c5] at H
          have c5b0 : (a0.toList == ([60, 61] : List UInt8)) = true := beq_iff_eq.mpr c5
          have c5b1 : (a0.toList != ([60, 61] : List UInt8)) = false := bne_eq_false_iff_eq.mpr c5
          clear c5
          obtain rfl := Option.some.inj H
          go_enter Tryz.func130, Tryz.ntmps130
          go_wp2
          go_ret
          exact ⟨by first | rfl | (simp; done) | (simp [*]; done), by repeat (first | exact Drawn0.refl _ | apply Drawn0.step)⟩
        · rw [if_neg c5] at H
          have c5b0 : (a0.toList == ([60, 61] : List UInt8)) = false := beq_eq_false_iff_ne.mpr c5
          have c5b1 : (a0.toList != ([60, 61] : List UInt8)) = true := bne_iff_ne.mpr c5
          by_cases c6 : a0.toList = ([62] : List UInt8)
          · rw [if_pos c6] at H
            have c6b0 : (a0.toList == ([62] : List UInt8)) = true := beq_iff_eq.mpr c6
            have c6b1 : (a0.toList != ([62] : List UInt8)) = false := bne_eq_false_iff_eq.mpr c6
            clear c6
            obtain rfl := Option.some.inj H
            go_enter Tryz.func130, Tryz.ntmps130
            go_wp2
            go_ret
            exact ⟨by first | rfl | (simp; done) | (simp [*]; done), by repeat (first | exact Drawn0.refl _ | apply Drawn0.step)⟩
          · rw [if_neg c6] at H
            have c6b0 : (a0.toList == ([62] : List UInt8)) = false := beq_eq_false_iff_ne.mpr c6
            have c6b1 : (a0.toList != ([62] : List UInt8)) = true := bne_iff_ne.mpr c6
            by_cases c7 : a0.toList = ([62, 61] : List UInt8)
            · rw [if_pos c7] at H
              have c7b0 : (a0.toList == ([62, 61] : List UInt8)) = true := beq_iff_eq.mpr c7
              have c7b1 : (a0.toList != ([62, 61] : List UInt8)) = false := bne_eq_false_iff_eq.mpr c7
              clear c7
              obtain rfl := Option.some.inj H
              go_enter Tryz.func130, Tryz.ntmps130
              go_wp2
              go_ret
              exact ⟨by first | rfl | (simp; done) | (simp [*]; done), by repeat (first | exact Drawn0.refl _ | apply Drawn0.step)⟩
            · rw [if_neg c7] at H
              have c7b0 : (a0.toList == ([62, 61] : List UInt8)) = false := beq_eq_false_iff_ne.mpr c7
              have c7b1 : (a0.toList != ([62, 61] : List UInt8)) = true := bne_iff_ne.mpr c7
              obtain rfl := Option.some.inj H
              go_enter Tryz.func130, Tryz.ntmps130
              go_wp2
              go_ret
              exact ⟨by first | rfl | (simp; done) | (simp [*]; done), by repeat (first | exact Drawn0.refl _ | apply Drawn0.step)⟩

-- NOT PRINTED: function 115 (ravelinref06_Reader_test)

-- NOT PRINTED: function 92 (ravelinref06_Reader_one)

-- NOT PRINTED: function 72 (ravelinref06_Reader_all)

-- NOT PRINTED: function 35 (ravelinref06_Reader_Expr)

-- NOT PRINTED: function 64 (ravelinref06_Reader_call)

-- NOT PRINTED: function 32 (ravelinref06_Reader_rule)

-- NOT PRINTED: function 9 (ravelinref06_Parse)

-- NOT PRINTED: function 11 (ravelinref06_ParseExpr)

theorem toList_lit {x y : ByteArray} {l : List UInt8} (hy : y.toList = l) : x.toList = l ↔ x = y := by
  rw [← hy, Lib.toList_data, Lib.toList_data]
  exact ⟨fun h => WideShapes.bytes_inj h, fun h => by rw [h]⟩
theorem relK_is (x : ByteArray) : relK.f x = some (relT x) := by
  by_cases hx : x ∈ relsT
  · simp only [relsT, List.mem_cons, List.not_mem_nil, or_false] at hx
    rcases hx with rfl | rfl | rfl | rfl | rfl | rfl
    all_goals decide +kernel
  · have h0 : relT x = 0 := by
      unfold relT
      rw [List.findIdx?_eq_none_iff.2 (fun y hy => by rw [decide_eq_false_iff_not]; intro e; subst e; exact hx hy)]
    have key : ∀ (y : ByteArray) (l : List UInt8), y.toList = l → y ∈ relsT → ¬ x.toList = l := fun y l h1 h2 h3 => hx (((toList_lit h1).1 h3) ▸ h2)
    unfold relK.f
    rw [if_neg (key ⟨#[61, 61]⟩ _ (by decide +kernel) (by simp [relsT])), if_neg (key ⟨#[33, 61]⟩ _ (by decide +kernel) (by simp [relsT])), if_neg (key ⟨#[60]⟩ _ (by decide +kernel) (by simp [relsT])), if_neg (key ⟨#[60, 61]⟩ _ (by decide +kernel) (by simp [relsT])), if_neg (key ⟨#[62]⟩ _ (by decide +kernel) (by simp [relsT])), if_neg (key ⟨#[62, 61]⟩ _ (by decide +kernel) (by simp [relsT])), h0]
theorem field_mem {x : ByteArray} (hs : (x.size : Int) = 4) (h3 : (x.extract 0 3).toList = [97, 114, 103]) (h48 : bt x 3 ≥ 48) (h53 : bt x 3 ≤ 53) : x ∈ fieldsT := by
  have hl : x.data.toList.length = 4 := by have : x.data.toList.length = x.size := by simp
                                           omega
  rw [Lib.toList_data, ByteArray.data_extract, Array.toList_extract] at h3
  have hd : x = ⟨x.data.toList.toArray⟩ := by simp
  have hb : bt x 3 = ((x.data.toList.getD 3 0).toNat : Int) := by
    unfold bt
    rw [dif_pos (by omega)]
    have : x[(3 : Int).toNat]'(by omega) = x.data.toList.getD 3 0 := by
      rw [List.getD_eq_getElem?_getD, List.getElem?_eq_getElem (by omega)]
      rfl
    rw [this]
  match hm : x.data.toList, hl with
  | [a, b, c, e], _ =>
    rw [hm] at h3 hd hb
    have h4 : [a, b, c] = [97, 114, 103] := h3
    simp only [List.cons.injEq, and_true] at h4
    obtain ⟨rfl, rfl, rfl⟩ := h4
    have hb' : bt x 3 = (e.toNat : Int) := hb
    rw [hb'] at h48 h53
    have he : e.toNat = 48 ∨ e.toNat = 49 ∨ e.toNat = 50 ∨ e.toNat = 51 ∨ e.toNat = 52 ∨ e.toNat = 53 := by omega
    rw [hd]
    have hx : ∀ n : Nat, n < 256 → e.toNat = n → e = UInt8.ofNat n := fun n hn h => by rw [← h]; simp
    rcases he with h | h | h | h | h | h
    all_goals
      rw [hx _ (by decide) h]
      simp [fieldsT]
theorem fieldK_is (x : ByteArray) : fieldK.f x = some (fieldT x) := by
  by_cases hx : x ∈ fieldsT
  · simp only [fieldsT, List.mem_cons, List.not_mem_nil, or_false] at hx
    rcases hx with rfl | rfl | rfl | rfl | rfl | rfl | rfl
    all_goals decide +kernel
  · have h0 : fieldT x = -1 := by
      unfold fieldT
      rw [List.findIdx?_eq_none_iff.2 (fun y hy => by rw [decide_eq_false_iff_not]; intro e; subst e; exact hx hy)]
    have hip : ¬ x.toList = [105, 112] := fun h => hx (((toList_lit (y := ⟨#[105, 112]⟩) (by decide +kernel)).1 h) ▸ (by simp [fieldsT]))
    unfold fieldK.f
    rw [if_neg hip, h0]
    by_cases h4 : (x.size : Int) = 4
    · rw [if_pos h4, if_pos (by decide), if_pos (by omega)]
      split
      · rename_i h1
        rw [if_pos (by omega)]
        split
        · rename_i h2
          split
          · rename_i h3; exact absurd (field_mem h4 h1 h2 h3) hx
          · rfl
        · rfl
      · rfl
    · rw [if_neg h4]
theorem field_ref (x : ByteArray) (W : World) : Calls Tryz.prog 113 #[.string x] W fun e W' => e = .returned (.int .i64 (fieldT x)) ∧ Drawn0 W W' := fieldK.calls x _ W (fieldK_is x)
theorem rel_ref (x : ByteArray) (W : World) : Calls Tryz.prog 130 #[.string x] W fun e W' => e = .returned (.int .i64 (relT x)) ∧ Drawn0 W W' := relK.calls x _ W (relK_is x)
end Go.Proofs.YtlmopoipjolbgaaGreatDoor.LexW
namespace Go.Proofs.YtlmopoipjolbgaaGreatDoor.LexW
open Go.RowKit Go.Shelf Go.Proofs.YtlmopoipjolbgaaGreatDoor.LexS Go.Proofs.YtlmopoipjolbgaaGreatDoorW.PrintWords
set_option linter.unusedVariables false
set_option linter.unusedSimpArgs false

theorem rfs_deep {W : World} {g : Nat} {LL : List Tk} {ep : EP} {d : Int} {S : RS} (h : RfS W g LL ep d S) : W.cell? ⟨g, 4, none⟩ = some (.int .i64 d) ∧ W.frozen? ⟨g, 4, none⟩ = false ∧ ∀ d' : Int, LOut W g LL ep d' S (W.setCell ⟨g, 4, none⟩ (.int .i64 d')) := by
  obtain ⟨A, c, k, hB, hT, hk, hl, hL⟩ := h
  obtain ⟨y0, y1, y2, y3, y4, y5, y6, yf⟩ := blk7 hB
  refine ⟨y4, yf 4, fun d' => ?_⟩
  have hB2 : RfB (W.setCell ⟨g, 4, none⟩ (.int .i64 d')) g LL ep A c k d' S.err S.bad := blk_set hB 4 _
  have hch := Chg.of_set W g 4 (.int .i64 d')
  exact ⟨⟨A, c, k, hB2, hT.chg hch (fun k e => by omega), hk, hl, hL⟩, hch⟩

def ClL (W : World) (g : Nat) (LL : List Tk) (ep : EP) (d : Int) (p : Cl × RS) (en : Ending) (W' : World) : Prop := en = .returned (.agg #[.string p.1.f0, .int .u64 p.1.f1]) ∧ LOut W g LL ep d p.2 W'

set_option maxRecDepth 100000 in
set_option maxHeartbeats 2000000 in
theorem call_ref (g : Nat) (LL : List Tk) (ep : EP) (d : Int) (S : RS) (W : World) (hF : Fin3 ep S) (hR : RfS W g LL ep d S) :
    Calls Tryz.prog 64 #[.pointer (some ⟨g, 0, none⟩)] W (ClL W g LL ep d (callL ep S)) := by
  have hgW := hR.lt
  have hal := (Below.refl W.heap.size W).alloc (Nat.le_refl _) clZero
  have hz : (W.alloc clZero).heap[W.heap.size]? = some (.cells #[.string ⟨#[]⟩, .int .u64 0] 74 (0, 0)) := new_blk W _ _
  have hO1 : LOut W g LL ep d S (W.alloc clZero) := ⟨hR.below hal, Chg.of_below hal _⟩
  have HP := Lib.hid (peek_any g LL ep d S (W.alloc clZero) (hR.below hal))
  have HO1 := Lib.hid hO1; have HZ := Lib.hid hz
  have hnx : callL ep S = if (peekL ep S).1.kind = 2 then (⟨(peekL ep S).1.text, 0⟩, (nextL ep (peekL ep S).2).2) else if (peekL ep S).1.kind = 3 then (⟨nil0, (peekL ep S).1.num⟩, (nextL ep (peekL ep S).2).2) else (zCl, failsL 61 (peekL ep S).1.at_ (peekL ep S).2) := rfl
  have hF1 := peek_fin hF
  rw [hnx]
  clear hO1 hz hR hal hnx hF
  generalize peekL ep S = P at *
  obtain ⟨t, S1⟩ := P
  have HF1 := Lib.hid hF1; clear hF1
  have hstep : ∀ W2, LOut (W.alloc clZero) g LL ep d S1 W2 → LOut W g LL ep d S1 (W2.alloc (tokBox t)) ∧ (W2.alloc (tokBox t)).heap[W.heap.size]? = some (.cells #[.string ⟨#[]⟩, .int .u64 0] 74 (0, 0)) ∧ W.heap.size < W2.heap.size := fun W2 h =>
    ⟨(HO1.out.trans h).below ((Below.refl _ _).alloc (Nat.le_refl _) _), blk_past _ (chg_block h.chg HZ.out (by omega)), (Array.getElem?_eq_some_iff.1 (chg_block h.chg HZ.out (by omega))).1⟩
  have HSTEP := Lib.hid hstep; clear hstep
  by_cases h2 : t.kind = 2
  · have hb2 : (t.kind == 2) = true := by rw [beq_iff_eq]; exact h2
    rw [if_pos h2]
    clear h2
    go_enter Tryz.func64, Tryz.ntmps64
    go_wp2_with fail
    refine HP.out.mono ?_
    rintro e W2 ⟨rfl, hO2⟩
    obtain ⟨hO3, hz3, hs3⟩ := HSTEP.out W2 hO2
    have hx3 := new_blk W2 #[.int .i64 t.kind, .string t.text, .int .u64 t.num, .int .i64 t.at_] 59
    obtain ⟨q0, q1, q2, q3, qf⟩ := blk4 hx3
    have HO3 := Lib.hid hO3; have HZ3 := Lib.hid hz3; have HX3 := Lib.hid hx3
    have HN := Lib.hid (next_ref g LL ep d S1 _ HF1.out hO3.st)
    clear hO2 hO3 hz3 hx3
    unfold tkVal
    go_wp2_with fail
    refine HN.out.mono ?_
    rintro e W4 ⟨rfl, hO5⟩
    clear q0 q1 q2 q3 qf
    have hx5 := chg_block hO5.chg HX3.out (by omega)
    have hz5 := chg_block hO5.chg HZ3.out (by omega)
    have HO5 := Lib.hid (HO3.out.trans hO5); have HZ5 := Lib.hid hz5
    obtain ⟨q0, q1, q2, q3, qf⟩ := blk4 hx5
    obtain ⟨p0, p1, pf⟩ := blk2 hz5
    clear hO5 hx5 hz5
    go_wp2
    have hb4 := blk_sets2 HZ5.out (.string t.text) (.int .u64 0)
    obtain ⟨r0, r1, rf⟩ := blk2 hb4
    refine bodyPost_ret (v := .agg #[.string t.text, .int .u64 0]) (by simp [results, Tryz.results64, go_sem, r0, r1]) rfl ?_
    exact ⟨rfl, HO5.out.far2 W.heap.size hgW (Nat.le_refl _) _ _⟩
  · have hb2 : (t.kind == 2) = false := by rw [beq_eq_false_iff_ne]; exact h2
    rw [if_neg h2]
    clear h2
    by_cases h3 : t.kind = 3
    · have hb3 : (t.kind == 3) = true := by rw [beq_iff_eq]; exact h3
      rw [if_pos h3]
      clear h3
      go_enter Tryz.func64, Tryz.ntmps64
      go_wp2_with fail
      refine HP.out.mono ?_
      rintro e W2 ⟨rfl, hO2⟩
      obtain ⟨hO3, hz3, hs3⟩ := HSTEP.out W2 hO2
      have hx3 := new_blk W2 #[.int .i64 t.kind, .string t.text, .int .u64 t.num, .int .i64 t.at_] 59
      obtain ⟨q0, q1, q2, q3, qf⟩ := blk4 hx3
      have HO3 := Lib.hid hO3; have HZ3 := Lib.hid hz3; have HX3 := Lib.hid hx3
      have HN := Lib.hid (next_ref g LL ep d S1 _ HF1.out hO3.st)
      clear hO2 hO3 hz3 hx3
      unfold tkVal
      go_wp2_with fail
      refine HN.out.mono ?_
      rintro e W4 ⟨rfl, hO5⟩
      clear q0 q1 q2 q3 qf
      have hx5 := chg_block hO5.chg HX3.out (by omega)
      have hz5 := chg_block hO5.chg HZ3.out (by omega)
      have HO5 := Lib.hid (HO3.out.trans hO5); have HZ5 := Lib.hid hz5
      obtain ⟨q0, q1, q2, q3, qf⟩ := blk4 hx5
      obtain ⟨p0, p1, pf⟩ := blk2 hz5
      clear hO5 hx5 hz5
      go_wp2
      have hb4 := blk_sets2 HZ5.out (.string ⟨#[]⟩) (.int .u64 t.num)
      obtain ⟨r0, r1, rf⟩ := blk2 hb4
      refine bodyPost_ret (v := .agg #[.string ⟨#[]⟩, .int .u64 t.num]) (by simp [results, Tryz.results64, go_sem, r0, r1]) rfl ?_
      exact ⟨rfl, HO5.out.far2 W.heap.size hgW (Nat.le_refl _) _ _⟩
    · have hb3 : (t.kind == 3) = false := by rw [beq_eq_false_iff_ne]; exact h3
      rw [if_neg h3]
      clear h3
      go_enter Tryz.func64, Tryz.ntmps64
      go_wp2_with fail
      refine HP.out.mono ?_
      rintro e W2 ⟨rfl, hO2⟩
      obtain ⟨hO3, hz3, hs3⟩ := HSTEP.out W2 hO2
      have hx3 := new_blk W2 #[.int .i64 t.kind, .string t.text, .int .u64 t.num, .int .i64 t.at_] 59
      obtain ⟨q0, q1, q2, q3, qf⟩ := blk4 hx3
      have HO3 := Lib.hid hO3; have HZ3 := Lib.hid hz3
      have HN := Lib.hid (fails_any g LL ep d S1 61 t.at_ _ hO3.st)
      clear hO2 hO3 hz3 hx3
      unfold tkVal
      go_wp2_with fail
      refine HN.out.mono ?_
      rintro e W4 ⟨rfl, hO5⟩
      clear q0 q1 q2 q3 qf
      have hz5 := chg_block hO5.chg HZ3.out (by omega)
      have HO5 := Lib.hid (HO3.out.trans hO5); have HZ5 := Lib.hid hz5
      obtain ⟨p0, p1, pf⟩ := blk2 hz5
      clear hO5 hz5
      go_wp2
      have hb4 := blk_sets2 HZ5.out (.string ⟨#[]⟩) (.int .u64 0)
      obtain ⟨r0, r1, rf⟩ := blk2 hb4
      refine bodyPost_ret (v := .agg #[.string ⟨#[]⟩, .int .u64 0]) (by simp [results, Tryz.results64, go_sem, r0, r1]) rfl ?_
      exact ⟨rfl, HO5.out.far2 W.heap.size hgW (Nat.le_refl _) _ _⟩

/-- one level more: 64 are borne -/
def deepL (ep : EP) (d : Int) (t : Tk) (S : RS) : Bool × RS := if d < 64 then (true, S) else (false, failsL 62 t.at_ S)
set_option maxRecDepth 100000 in
set_option maxHeartbeats 2000000 in
theorem deeper_ref (g : Nat) (LL : List Tk) (ep : EP) (d : Int) (t : Tk) (S : RS) (W : World) (h0 : S.err = 0) (hd0 : 0 ≤ d) (hd : d ≤ 64) (hR : RfS W g LL ep d S) :
    Calls Tryz.prog 114 #[.pointer (some ⟨g, 0, none⟩), tkVal t] W fun en W' => en = .returned (.bool (deepL ep d t S).1) ∧ LOut W g LL ep (d + 1) (deepL ep d t S).2 W' := by
  have hgW := hR.lt
  have hal := (Below.refl W.heap.size W).alloc (Nat.le_refl _) (tokBox t)
  have hO1 : LOut W g LL ep d S (W.alloc (tokBox t)) := ⟨hR.below hal, Chg.of_below hal _⟩
  obtain ⟨y4, yf, -⟩ := rfs_deep hO1.st
  obtain ⟨-, -, hset⟩ := rfs_deep hR
  have hO2 : LOut W g LL ep (d + 1) S ((W.setCell ⟨g, 4, none⟩ (.int .i64 (d + 1))).alloc (tokBox t)) := (hset (d + 1)).below ((Below.refl _ _).alloc (Nat.le_refl _) (tokBox t))
  have hw : wrap64 (d + 1) = d + 1 := by unfold wrap64; omega
  have hx : ((W.setCell ⟨g, 4, none⟩ (.int .i64 (d + 1))).alloc (tokBox t)).heap[W.heap.size]? = some (.cells #[.int .i64 t.kind, .string t.text, .int .u64 t.num, .int .i64 t.at_] 59 (0, 0)) := new_blk' (by simp) _ _
  obtain ⟨q0, q1, q2, q3, qf⟩ := blk4 hx
  have hy2 := rfs_err hO2.st
  obtain ⟨z4, zf, -⟩ := rfs_deep hO2.st
  have HO2 := Lib.hid hO2
  clear hR hal hO1 hset hO2 hx
  unfold tkVal
  by_cases hlt : d < 64
  · have hb : decide (64 < d + 1) = false := by rw [decide_eq_false_iff_not]; omega
    have hng : ¬ (64 < d + 1) := by omega
    have hle : d + 1 ≤ 64 := by omega
    have he : (S.err == 0) = true := by rw [beq_iff_eq]; exact h0
    have hv : deepL ep d t S = (true, S) := by unfold deepL; rw [if_pos hlt]
    rw [hv]
    clear hv h0 hlt
    go_enter Tryz.func114, Tryz.ntmps114
    go_wp2
    go_ret
    exact ⟨rfl, HO2.out⟩
  · have hb : decide (64 < d + 1) = true := by rw [decide_eq_true_eq]; omega
    have hgt : 64 < d + 1 := by omega
    have hv : deepL ep d t S = (false, failsL 62 t.at_ S) := by unfold deepL; rw [if_neg hlt]
    rw [hv]
    clear hv hlt
    have HN := Lib.hid (fails_any g LL ep (d + 1) S 62 t.at_ _ HO2.out.st)
    go_enter Tryz.func114, Tryz.ntmps114
    go_wp2_with fail
    refine HN.out.mono ?_
    rintro e W4 ⟨rfl, hO5⟩
    have hy5 := rfs_err hO5.st
    have hne := fails_err (S := S) (e := 62) (a := t.at_) (by decide)
    have hb5 : ((failsL 62 t.at_ S).err == 0) = false := by rw [beq_eq_false_iff_ne]; exact hne
    have HO5 := Lib.hid (HO2.out.trans hO5)
    clear hO5 hne
    go_wp2
    go_ret
    exact ⟨rfl, HO5.out⟩
end Go.Proofs.YtlmopoipjolbgaaGreatDoor.LexW
