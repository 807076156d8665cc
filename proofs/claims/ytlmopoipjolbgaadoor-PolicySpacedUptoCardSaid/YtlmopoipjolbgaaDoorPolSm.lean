/-
  Layer 6 (policy): the reference's SameExpr, on equal values: true.
-/
import Derived.Deep.RegionHeld3
import Derived.BigQuiet
import Derived.Test.YtlmopoipjolbgaaDoorPolR3
namespace Go.Proofs.YtlmopoipjolbgaaDoor.LexW
open Go.RowKit Go.Shelf Go.Proofs.YtlmopoipjolbgaaDoor.LexS Go.Proofs.YtlmopoipjolbgaaDoorW.PrintWords
set_option linter.unusedVariables false
set_option linter.unusedSimpArgs false

abbrev exBox (x : Ex) (A : Option Addr) (c : Nat) : Obj := .cells #[.int .i64 x.f0, .slice A x.f1.length c, .int .i64 x.f2, .int .u64 x.f3, .int .i64 x.f4, .int .u64 x.f5] 58
theorem box6 {W : World} {b : Nat} {v0 v1 v2 v3 v4 v5 : Value} {t : TypeId} (h : W.heap[b]? = some (.cells #[v0, v1, v2, v3, v4, v5] t (0, 0))) : W.cell? ⟨b, 0, none⟩ = some v0 ∧ W.cell? ⟨b, 1, none⟩ = some v1 ∧ W.cell? ⟨b, 2, none⟩ = some v2 ∧ W.cell? ⟨b, 3, none⟩ = some v3 ∧ W.cell? ⟨b, 4, none⟩ = some v4 ∧ W.cell? ⟨b, 5, none⟩ = some v5 := by
  refine ⟨?_, ?_, ?_, ?_, ?_, ?_⟩ <;> simp [World.cell?, h]
theorem mem_size {x y : Ex} {xs : List Ex} (h : x ∈ xs) (hy : y.f1 = xs) : SizeOf.sizeOf x < SizeOf.sizeOf y := by
  cases y
  simp only at hy
  subst hy
  have := List.sizeOf_lt_of_mem h
  simp
  omega
theorem box_lt {W : World} {b : Nat} {o : Obj} (h : W.heap[b]? = some o) : b < W.heap.size := (Array.getElem?_eq_some_iff.1 h).1

theorem bel_cell {W W5 : World} {a : Addr} {v : Value} (h : Below W.drew.heap.size W.drew W5) (hc : W.cell? a = some v) : W5.cell? a = some v := by
  have := World.block_lt_of_cell? W a hc
  rw [World.cell?_of_block (h.block a.block this)]
  exact hc

set_option maxHeartbeats 8000000 in
set_option maxRecDepth 100000 in
theorem sameEx_any (n : Nat) : ∀ (x : Ex), SizeOf.sizeOf x < n → ∀ (A0 : Option Addr) (c0 : Nat) (A1 : Option Addr) (c1 : Nat) (w : World), kEx.C w A0 x.f1.length x.f1 → kEx.C w A1 x.f1.length x.f1 →
    Calls Tryd.prog 25 #[.agg #[.int .i64 x.f0, .slice A0 x.f1.length c0, .int .i64 x.f2, .int .u64 x.f3, .int .i64 x.f4, .int .u64 x.f5], .agg #[.int .i64 x.f0, .slice A1 x.f1.length c1, .int .i64 x.f2, .int .u64 x.f3, .int .i64 x.f4, .int .u64 x.f5]] w fun e w' => e = .returned (.bool true) ∧ Below w.heap.size w w' := by
  induction n with
  | zero => intro x h; omega
  | succ n ih =>
  intro x hx A0 c0 A1 c1 w h0 h1
  have hmax : x.f1.length ≤ 9223372036854775807 := h0.2.1
  have IH := Lib.hid ih; clear ih
  have hal : Below w.heap.size w ((w.alloc (exBox x A0 c0)).alloc (exBox x A1 c1)) := ((Below.refl w.heap.size w).alloc (Nat.le_refl _) _).alloc (by simp) _
  have hb0 : ((w.alloc (exBox x A0 c0)).alloc (exBox x A1 c1)).heap[w.heap.size]? = some (.cells #[.int .i64 x.f0, .slice A0 x.f1.length c0, .int .i64 x.f2, .int .u64 x.f3, .int .i64 x.f4, .int .u64 x.f5] 58 (0, 0)) := blk_past _ (new_blk w _ _)
  have hb1 : ((w.alloc (exBox x A0 c0)).alloc (exBox x A1 c1)).heap[w.heap.size + 1]? = some (.cells #[.int .i64 x.f0, .slice A1 x.f1.length c1, .int .i64 x.f2, .int .u64 x.f3, .int .i64 x.f4, .int .u64 x.f5] 58 (0, 0)) := new_blk' (by simp) _ _
  have hsz : ((w.alloc (exBox x A0 c0)).alloc (exBox x A1 c1)).heap.size = w.heap.size + 2 := by simp
  obtain ⟨y0, y1, y2, y3, y4, y5⟩ := box6 hb0
  obtain ⟨z0, z1, z2, z3, z4, z5⟩ := box6 hb1
  have hh0 := h0
  have H0 := Lib.hid (Kd.C_below h0 hal); have H1 := Lib.hid (Kd.C_below h1 hal); have HB0 := Lib.hid hb0; have HB1 := Lib.hid hb1; have HAL := Lib.hid hal
  clear h0 h1 hh0 hal hb0 hb1
  have hn0 : (x.f0 != x.f0) = false := by simp
  have hn1 : ((x.f1.length : Int) != (x.f1.length : Int)) = false := by simp
  have hn2 : (x.f2 != x.f2) = false := by simp
  have hn3 : (x.f3 != x.f3) = false := by simp
  have hn4 : (x.f4 != x.f4) = false := by simp
  have hn5 : (x.f5 != x.f5) = false := by simp
  go_enter Tryd.func25, Tryd.ntmps25
  go_wp2
  go_loopw [5] (fun vi wr => ∃ k : Nat, vi = .int .i64 k ∧ k ≤ x.f1.length ∧ Hid (Below ((w.alloc (exBox x A0 c0)).alloc (exBox x A1 c1)).heap.size ((w.alloc (exBox x A0 c0)).alloc (exBox x A1 c1)) wr)) (fun vi _ => x.f1.length - (intOf vi).toNat)
  case atStart => exact ⟨0, rfl, by omega, Lib.hid (Below.refl _ _)⟩
  case round =>
    obtain ⟨k, rfl, hk, HB⟩ := hrel
    clear y0 y1 y2 y3 y4 y5 z0 z1 z2 z3 z4 z5
    obtain ⟨y0, y1, y2, y3, y4, y5⟩ := box6 ((HB.out.block _ (by rw [hsz]; omega)).trans HB0.out)
    obtain ⟨z0, z1, z2, z3, z4, z5⟩ := box6 ((HB.out.block _ (by rw [hsz]; omega)).trans HB1.out)
    by_cases hlt : k < x.f1.length
    · have hltb : decide ((k : Int) < (x.f1.length : Int)) = true := by simpa using hlt
      have hC0 := Kd.C_below H0.out HB.out
      have hC1 := Kd.C_below H1.out HB.out
      obtain ⟨a0, A2, c2, e0, p0, p1, p2, p3, p4, p5, pl, pc⟩ := at_Ex hC0 (k : Int) (by omega) (by omega)
      obtain ⟨a1, A3, c3, e1, q0, q1, q2, q3, q4, q5, ql, qc⟩ := at_Ex hC1 (k : Int) (by omega) (by omega)
      cases e0; cases e1
      rw [Int.toNat_natCast] at p0 p1 p2 p3 p4 p5 q0 q1 q2 q3 q4 q5
      have hmem : rd_Ex x.f1 (k : Int) ∈ x.f1 := by
        unfold rd_Ex
        rw [Int.toNat_natCast, List.getD_eq_getElem?_getD, List.getElem?_eq_getElem hlt]
        exact List.getElem_mem hlt
      have hsm := mem_size hmem rfl
      generalize rd_Ex x.f1 (k : Int) = y at *
      have HS := Lib.hid (IH.out y (by omega) A2 c2 A3 c3 wr.drew (Kd.C_below pc (Below.refl _ _).drew) (Kd.C_below qc (Below.refl _ _).drew))
      have hwr : wrap64 ((k : Int) + 1) = (k : Int) + 1 := by unfold wrap64; omega
      have HB9 := Lib.hid HB
      clear pc qc pl ql hC0 hC1 hsm hmem
      go_wp2
      go_region_held3 (fun w' => w'.cell? ⟨w.heap.size, 1, none⟩ = some (.slice (some a0) x.f1.length c0) ∧ w'.cell? ⟨w.heap.size + 1, 1, none⟩ = some (.slice (some a1) x.f1.length c1) ∧
          w'.cell? (a0.add (k * 6)) = some (.int .i64 y.f0) ∧ w'.cell? ⟨(a0.add (k * 6)).block, (a0.add (k * 6)).off + 1, none⟩ = some (.slice A2 y.f1.length c2) ∧ w'.cell? ⟨(a0.add (k * 6)).block, (a0.add (k * 6)).off + 2, none⟩ = some (.int .i64 y.f2) ∧ w'.cell? ⟨(a0.add (k * 6)).block, (a0.add (k * 6)).off + 3, none⟩ = some (.int .u64 y.f3) ∧ w'.cell? ⟨(a0.add (k * 6)).block, (a0.add (k * 6)).off + 4, none⟩ = some (.int .i64 y.f4) ∧ w'.cell? ⟨(a0.add (k * 6)).block, (a0.add (k * 6)).off + 5, none⟩ = some (.int .u64 y.f5) ∧
          w'.cell? (a1.add (k * 6)) = some (.int .i64 y.f0) ∧ w'.cell? ⟨(a1.add (k * 6)).block, (a1.add (k * 6)).off + 1, none⟩ = some (.slice A3 y.f1.length c3) ∧ w'.cell? ⟨(a1.add (k * 6)).block, (a1.add (k * 6)).off + 2, none⟩ = some (.int .i64 y.f2) ∧ w'.cell? ⟨(a1.add (k * 6)).block, (a1.add (k * 6)).off + 3, none⟩ = some (.int .u64 y.f3) ∧ w'.cell? ⟨(a1.add (k * 6)).block, (a1.add (k * 6)).off + 4, none⟩ = some (.int .i64 y.f4) ∧ w'.cell? ⟨(a1.add (k * 6)).block, (a1.add (k * 6)).off + 5, none⟩ = some (.int .u64 y.f5))
        (first | go_keep | exact ⟨bel_cell hb5 y1, bel_cell hb5 z1, bel_cell hb5 p0, bel_cell hb5 p1, bel_cell hb5 p2, bel_cell hb5 p3, bel_cell hb5 p4, bel_cell hb5 p5, bel_cell hb5 q0, bel_cell hb5 q1, bel_cell hb5 q2, bel_cell hb5 q3, bel_cell hb5 q4, bel_cell hb5 q5⟩)
        (first | (go_at_call 25; refine HS.out.mono ?_; rintro e W5 ⟨rfl, hb5⟩))
      go_wp2
      go_roundw
      case rel => exact ⟨k + 1, by simp, by omega, Lib.hid (((HB.out.trans ((Below.refl _ _).drew)).trans (hb5.mono HB.out.size)))⟩
      case measure => simp [intOf]; omega
    · have hltb : decide ((k : Int) < (x.f1.length : Int)) = false := by simpa using hlt
      have hle : x.f1.length ≤ k := by omega
      clear hlt hltb
      go_wp2
      go_ret
      exact ⟨rfl, HAL.out.trans (HB.out.mono (by rw [hsz]; omega))⟩
end Go.Proofs.YtlmopoipjolbgaaDoor.LexW
