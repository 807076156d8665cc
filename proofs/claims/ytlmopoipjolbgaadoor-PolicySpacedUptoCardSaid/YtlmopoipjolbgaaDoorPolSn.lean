/-
  Layer 6 (policy): the reference's Same, on equal policies: true.
-/
import Derived.Test.YtlmopoipjolbgaaDoorPolSm
import Derived.Test.YtlmopoipjolbgaaDoorPolSpec
namespace Go.Proofs.YtlmopoipjolbgaaDoor.LexW
open Go.RowKit Go.Shelf Go.Proofs.YtlmopoipjolbgaaDoor.LexS Go.Proofs.YtlmopoipjolbgaaDoorW.PrintWords
set_option linter.unusedVariables false
set_option linter.unusedSimpArgs false

abbrev poBox (x : Po) (A : Option Addr) (c : Nat) : Obj := .cells #[.string x.arch, .int .i64 x.foreign.f0, .int .u64 x.foreign.f1, .int .i64 x.dflt.f0, .int .u64 x.dflt.f1, .slice A x.rules.length c] 51
abbrev rlBox (y : Rl) (A : Option Addr) (c : Nat) (B : Option Addr) (d : Nat) : Obj := .cells #[.slice A y.f0.length c, .int .i64 y.f1.f0, .slice B y.f1.f1.length d, .int .i64 y.f1.f2, .int .u64 y.f1.f3, .int .i64 y.f1.f4, .int .u64 y.f1.f5, .int .i64 y.f2.f0, .int .u64 y.f2.f1] 84
theorem box9 {W : World} {b : Nat} {v0 v1 v2 v3 v4 v5 v6 v7 v8 : Value} {t : TypeId} (h : W.heap[b]? = some (.cells #[v0, v1, v2, v3, v4, v5, v6, v7, v8] t (0, 0))) : W.cell? ⟨b, 0, none⟩ = some v0 ∧ W.cell? ⟨b, 1, none⟩ = some v1 ∧ W.cell? ⟨b, 2, none⟩ = some v2 ∧ W.cell? ⟨b, 3, none⟩ = some v3 ∧ W.cell? ⟨b, 4, none⟩ = some v4 ∧ W.cell? ⟨b, 5, none⟩ = some v5 ∧ W.cell? ⟨b, 6, none⟩ = some v6 ∧ W.cell? ⟨b, 7, none⟩ = some v7 ∧ W.cell? ⟨b, 8, none⟩ = some v8 := by
  refine ⟨?_, ?_, ?_, ?_, ?_, ?_, ?_, ?_, ?_⟩ <;> simp [World.cell?, h]

set_option maxHeartbeats 8000000 in
set_option maxRecDepth 100000 in
theorem samePo_any (x : Po) (A0 : Option Addr) (c0 : Nat) (A1 : Option Addr) (c1 : Nat) (w : World) (h0 : kRl.C w A0 x.rules.length x.rules) (h1 : kRl.C w A1 x.rules.length x.rules) :
    Calls Tryd.prog 24 #[.agg #[.string x.arch, .int .i64 x.foreign.f0, .int .u64 x.foreign.f1, .int .i64 x.dflt.f0, .int .u64 x.dflt.f1, .slice A0 x.rules.length c0], .agg #[.string x.arch, .int .i64 x.foreign.f0, .int .u64 x.foreign.f1, .int .i64 x.dflt.f0, .int .u64 x.dflt.f1, .slice A1 x.rules.length c1]] w fun e w' => e = .returned (.bool true) ∧ Below w.heap.size w w' := by
  have hmax : x.rules.length ≤ 9223372036854775807 := h0.2.1
  have hal : Below w.heap.size w ((w.alloc (poBox x A0 c0)).alloc (poBox x A1 c1)) := ((Below.refl w.heap.size w).alloc (Nat.le_refl _) _).alloc (by simp) _
  have hb0 : ((w.alloc (poBox x A0 c0)).alloc (poBox x A1 c1)).heap[w.heap.size]? = some (.cells #[.string x.arch, .int .i64 x.foreign.f0, .int .u64 x.foreign.f1, .int .i64 x.dflt.f0, .int .u64 x.dflt.f1, .slice A0 x.rules.length c0] 51 (0, 0)) := blk_past _ (new_blk w _ _)
  have hb1 : ((w.alloc (poBox x A0 c0)).alloc (poBox x A1 c1)).heap[w.heap.size + 1]? = some (.cells #[.string x.arch, .int .i64 x.foreign.f0, .int .u64 x.foreign.f1, .int .i64 x.dflt.f0, .int .u64 x.dflt.f1, .slice A1 x.rules.length c1] 51 (0, 0)) := new_blk' (by simp) _ _
  have hsz : ((w.alloc (poBox x A0 c0)).alloc (poBox x A1 c1)).heap.size = w.heap.size + 2 := by simp
  obtain ⟨y0, y1, y2, y3, y4, y5⟩ := box6 hb0
  obtain ⟨z0, z1, z2, z3, z4, z5⟩ := box6 hb1
  have H0 := Lib.hid (Kd.C_below h0 hal); have H1 := Lib.hid (Kd.C_below h1 hal); have HB0 := Lib.hid hb0; have HB1 := Lib.hid hb1; have HAL := Lib.hid hal
  clear h0 h1 hal hb0 hb1
  have hs0 : (x.arch.toList == x.arch.toList) = true := beq_self_eq_true _
  have hn0 : (x.arch.toList != x.arch.toList) = false := by simp
  have hn1 : (x.foreign.f0 != x.foreign.f0) = false := by simp
  have hn2 : (x.foreign.f1 != x.foreign.f1) = false := by simp
  have hn3 : (x.dflt.f0 != x.dflt.f0) = false := by simp
  have hn4 : (x.dflt.f1 != x.dflt.f1) = false := by simp
  have hn5 : ((x.rules.length : Int) != (x.rules.length : Int)) = false := by simp
  go_enter Tryd.func24, Tryd.ntmps24
  go_wp2
  go_loopw [5] (fun vi wr => ∃ k : Nat, vi = .int .i64 k ∧ k ≤ x.rules.length ∧ Hid (Below ((w.alloc (poBox x A0 c0)).alloc (poBox x A1 c1)).heap.size ((w.alloc (poBox x A0 c0)).alloc (poBox x A1 c1)) wr)) (fun vi _ => x.rules.length - (intOf vi).toNat)
  case atStart => exact ⟨0, rfl, by omega, Lib.hid (Below.refl _ _)⟩
  case round =>
    obtain ⟨k, rfl, hk, HB⟩ := hrel
    clear y0 y1 y2 y3 y4 y5 z0 z1 z2 z3 z4 z5 hs0 hn0 hn1 hn2 hn3 hn4 hn5
    obtain ⟨-, -, -, -, -, y5⟩ := box6 ((HB.out.block _ (by rw [hsz]; omega)).trans HB0.out)
    obtain ⟨-, -, -, -, -, z5⟩ := box6 ((HB.out.block _ (by rw [hsz]; omega)).trans HB1.out)
    by_cases hlt : k < x.rules.length
    · have hltb : decide ((k : Int) < (x.rules.length : Int)) = true := by simpa using hlt
      have hC0 := Kd.C_below H0.out HB.out
      have hC1 := Kd.C_below H1.out HB.out
      obtain ⟨a0, A2, c2, B2, d2, e0, p0, p1, p2, p3, p4, p5, p6, p7, p8, pl, pc, pm, pd⟩ := at_Rl hC0 (k : Int) (by omega) (by omega)
      obtain ⟨a1, A3, c3, B3, d3, e1, q0, q1, q2, q3, q4, q5, q6, q7, q8, ql, qc, qm, qd⟩ := at_Rl hC1 (k : Int) (by omega) (by omega)
      cases e0; cases e1
      rw [Int.toNat_natCast] at p0 p1 p2 p3 p4 p5 p6 p7 p8 q0 q1 q2 q3 q4 q5 q6 q7 q8
      obtain ⟨y, hy⟩ : ∃ y, y = rd_Rl x.rules (k : Int) := ⟨_, rfl⟩
      rw [← hy] at p0 p1 p2 p3 p4 p5 p6 p7 p8 q0 q1 q2 q3 q4 q5 q6 q7 q8 pc qc pd qd
      clear hy pl pm ql qm
      have hwr : wrap64 ((k : Int) + 1) = (k : Int) + 1 := by unfold wrap64; omega
      have hal2 : Below wr.heap.size wr ((wr.alloc (rlBox y A2 c2 B2 d2)).alloc (rlBox y A3 c3 B3 d3)) := ((Below.refl wr.heap.size wr).alloc (Nat.le_refl _) _).alloc (by simp) _
      have hr0 : ((wr.alloc (rlBox y A2 c2 B2 d2)).alloc (rlBox y A3 c3 B3 d3)).heap[wr.heap.size]? = some (.cells #[.slice A2 y.f0.length c2, .int .i64 y.f1.f0, .slice B2 y.f1.f1.length d2, .int .i64 y.f1.f2, .int .u64 y.f1.f3, .int .i64 y.f1.f4, .int .u64 y.f1.f5, .int .i64 y.f2.f0, .int .u64 y.f2.f1] 84 (0, 0)) := blk_past _ (new_blk wr _ _)
      have hr1 : ((wr.alloc (rlBox y A2 c2 B2 d2)).alloc (rlBox y A3 c3 B3 d3)).heap[wr.heap.size + 1]? = some (.cells #[.slice A3 y.f0.length c3, .int .i64 y.f1.f0, .slice B3 y.f1.f1.length d3, .int .i64 y.f1.f2, .int .u64 y.f1.f3, .int .i64 y.f1.f4, .int .u64 y.f1.f5, .int .i64 y.f2.f0, .int .u64 y.f2.f1] 84 (0, 0)) := new_blk' (by simp) _ _
      have hsz2 : ((wr.alloc (rlBox y A2 c2 B2 d2)).alloc (rlBox y A3 c3 B3 d3)).heap.size = wr.heap.size + 2 := by simp
      obtain ⟨r0, r1, r2, r3, r4, r5, r6, r7, r8⟩ := box9 hr0
      obtain ⟨s0, s1, s2, s3, s4, s5, s6, s7, s8⟩ := box9 hr1
      have ov : ∀ {a : Addr} {v : Value}, wr.cell? a = some v → (wr.alloc (rlBox y A2 c2 B2 d2)).cell? a = some v := fun {a v} h => (World.cell?_alloc_some wr a _ (by rw [h]; rfl)).trans h
      have u5 := ov z5
      have v0 := ov q0; have v1 := ov q1; have v2 := ov q2; have v3 := ov q3; have v4 := ov q4; have v5 := ov q5; have v6 := ov q6; have v7 := ov q7; have v8 := ov q8
      clear ov
      have HS := Lib.hid (sameEx_any _ y.f1 (Nat.lt_succ_self _) B2 d2 B3 d3 _ (Kd.C_below pd hal2) (Kd.C_below qd hal2))
      have HP := Lib.hid (Kd.C_below pc hal2); have HQ := Lib.hid (Kd.C_below qc hal2); have HAL2 := Lib.hid hal2; have HR0 := Lib.hid hr0; have HR1 := Lib.hid hr1
      clear pc qc pd qd hC0 hC1 hal2 hr0 hr1
      go_wp2_with fail
      refine HS.out.mono ?_
      rintro e W5 ⟨rfl, hb5⟩
      clear r0 r1 r2 r3 r4 r5 r6 r7 r8 s0 s1 s2 s3 s4 s5 s6 s7 s8 u5 v0 v1 v2 v3 v4 v5 v6 v7 v8 y5 z5 p0 p1 p2 p3 p4 p5 p6 p7 p8 q0 q1 q2 q3 q4 q5 q6 q7 q8
      obtain ⟨r0, r1, r2, r3, r4, r5, r6, r7, r8⟩ := box9 ((hb5.block _ (by rw [hsz2]; omega)).trans HR0.out)
      obtain ⟨s0, s1, s2, s3, s4, s5, s6, s7, s8⟩ := box9 ((hb5.block _ (by rw [hsz2]; omega)).trans HR1.out)
      have HP5 := Lib.hid (Kd.C_below HP.out hb5); have HQ5 := Lib.hid (Kd.C_below HQ.out hb5)
      have HB5 := Lib.hid (HB.out.trans ((HAL2.out.trans (hb5.mono (by rw [hsz2]; omega))).mono HB.out.size))
      clear hb5
      have hd1 : (y.f2.f0 != y.f2.f0) = false := by simp
      have hd2 : (y.f2.f1 != y.f2.f1) = false := by simp
      have hd3 : ((y.f0.length : Int) != (y.f0.length : Int)) = false := by simp
      have hmax2 : y.f0.length ≤ 9223372036854775807 := HP5.out.2.1
      go_wp2
      go_loopw [9] (fun vj wi => ∃ j : Nat, vj = .int .i64 j ∧ j ≤ y.f0.length ∧ Drawn0 W5 wi) (fun vj _ => y.f0.length - (intOf vj).toNat)
      case atStart => exact ⟨0, rfl, by omega, Drawn0.refl _⟩
      case round =>
        obtain ⟨j, rfl, hj, ⟨m, rfl⟩⟩ := hrel
        by_cases hlt2 : j < y.f0.length
        · have hltb2 : decide ((j : Int) < (y.f0.length : Int)) = true := by simpa using hlt2
          have hwj : wrap64 ((j : Int) + 1) = (j : Int) + 1 := by unfold wrap64; omega
          obtain ⟨b0, e0, i0, i1⟩ := at_Cl HP5.out (j : Int) (by omega) (by omega)
          obtain ⟨b1, e1, j0, j1⟩ := at_Cl HQ5.out (j : Int) (by omega) (by omega)
          cases e0; cases e1
          rw [Int.toNat_natCast] at i0 i1 j0 j1
          obtain ⟨z, hz⟩ : ∃ z, z = rd_Cl y.f0 (j : Int) := ⟨_, rfl⟩
          rw [← hz] at i0 i1 j0 j1
          clear hz
          obtain ⟨zt, hzt⟩ : ∃ zt, zt = z.f0 := ⟨_, rfl⟩
          obtain ⟨zn, hzn⟩ : ∃ zn, zn = z.f1 := ⟨_, rfl⟩
          rw [← hzt] at i0 j0
          rw [← hzn] at i1 j1
          clear hzt hzn
          have hz0 : (zt.toList == zt.toList) = true := beq_self_eq_true _
          have hz0' : (zt.toList != zt.toList) = false := by simp
          have hz1 : (zn != zn) = false := by simp
          have hz1' : (zn == zn) = true := by simp
          go_wp2
          repeat (go_quiet (fail); try go_wp2)
          go_roundw
          case rel => exact ⟨j + 1, by simp, by omega, ⟨⟨_, rfl⟩⟩⟩
          case measure => simp [intOf]; omega
        · have hltb2 : decide ((j : Int) < (y.f0.length : Int)) = false := by simpa using hlt2
          have hle2 : y.f0.length ≤ j := by omega
          clear hlt2 hltb2
          go_wp2
          go_roundw
          case rel => exact ⟨k + 1, by simp, by omega, Lib.hid (HB5.out.trans ((Drawn0.below (show Drawn0 W5 (W5.drewN m) from ⟨⟨m, rfl⟩⟩)).mono HB5.out.size))⟩
          case measure => simp [intOf]; omega
    · have hltb : decide ((k : Int) < (x.rules.length : Int)) = false := by simpa using hlt
      have hle : x.rules.length ≤ k := by omega
      clear hlt hltb
      go_wp2
      go_ret
      exact ⟨rfl, HAL.out.trans (HB.out.mono (by rw [hsz]; omega))⟩
end Go.Proofs.YtlmopoipjolbgaaDoor.LexW
