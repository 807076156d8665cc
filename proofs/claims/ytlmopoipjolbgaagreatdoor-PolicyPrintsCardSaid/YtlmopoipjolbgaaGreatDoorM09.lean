/-
  The reference's inner, PrintExpr: as the program's. · The reference's PrintExpr: as the program's. · The reference's PrintExpr: a test; every expression. · Layer 6 (policy): the reference's Same, on equal policies: true.
-/
import Derived.Test.YtlmopoipjolbgaaGreatDoorM06
import Derived.Test.YtlmopoipjolbgaaGreatDoorM08
import Derived.StillTailTactics
import Derived.Test.YtlmopoipjolbgaaGreatDoorM04
import Derived.Test.YtlmopoipjolbgaaGreatDoorM03
namespace Go.Proofs.YtlmopoipjolbgaaGreatDoor.LexW
open Go.RowKit Go.Shelf Go.Proofs.YtlmopoipjolbgaaGreatDoor.LexS Go.Proofs.YtlmopoipjolbgaaGreatDoorW.PrintWords
set_option linter.unusedVariables false
set_option linter.unusedSimpArgs false

def RPeC (x : Ex) : Prop := ∀ (A : Option Addr) (c : Nat) (w : World), EnvN w → kEx.C w A x.f1.length x.f1 →
    Calls Tryz.prog 17 #[.agg #[.int .i64 x.f0, .slice A x.f1.length c, .int .i64 x.f2, .int .u64 x.f3, .int .i64 x.f4, .int .u64 x.f5]] w fun e w' => e = .returned (.string (prE x)) ∧ Below w.heap.size w w'

set_option maxHeartbeats 2000000 in
set_option maxRecDepth 100000 in
theorem rinner_any (b : Bool) (x : Ex) (hx : RPeC x) (hz : (prE x).size ≤ 100000000) (A : Option Addr) (c : Nat) (w : World) (hE : EnvN w) (hC : kEx.C w A x.f1.length x.f1) :
    Calls Tryz.prog 46 #[.agg #[.int .i64 x.f0, .slice A x.f1.length c, .int .i64 x.f2, .int .u64 x.f3, .int .i64 x.f4, .int .u64 x.f5], .bool b] w fun e w' => e = .returned (.string (parT b (prE x))) ∧ Below w.heap.size w w' := by
  have hb1 : Below w.heap.size w (w.alloc (exBox x A c)) := (Below.refl _ w).alloc (Nat.le_refl _) _
  have hk1 : (w.alloc (exBox x A c)).heap[w.heap.size]? = some (.cells #[.int .i64 x.f0, .slice A x.f1.length c, .int .i64 x.f2, .int .u64 x.f3, .int .i64 x.f4, .int .u64 x.f5] 37 (0, 0)) := new_blk w _ _
  have HR := Lib.hid (hx A c _ (hE.below hb1) (Kd.C_below hC hb1))
  have HBB := Lib.hid hb1
  have c1 : ¬ 9223372036854775807 < 1 + (prE x).size := by omega
  have c2 : ¬ 9223372036854775807 < 1 + (prE x).size + 1 := by omega
  obtain ⟨y0, y1, y2, y3, y4, y5⟩ := box6 hk1
  clear hb1 hk1 hx hC hE hz
  cases b with
  | true =>
    go_enter Tryz.func46, Tryz.ntmps46
    go_wp2_with fail
    refine HR.out.mono ?_
    rintro e W2 ⟨rfl, hb⟩
    go_wp2
    go_ret
    exact ⟨rfl, HBB.out.trans (hb.mono HBB.out.size)⟩
  | false =>
    go_enter Tryz.func46, Tryz.ntmps46
    go_wp2_with fail
    refine HR.out.mono ?_
    rintro e W2 ⟨rfl, hb⟩
    go_wp2
    go_ret
    exact ⟨rfl, HBB.out.trans (hb.mono HBB.out.size)⟩

theorem prL_get (op : Int) (l : List Ex) (k : Nat) (h : k < l.length) : (prL op l)[k]'(by rw [prL_len]; exact h) = parT (aroundB op (rd_Ex l (k : Int)).f0) (prE (rd_Ex l (k : Int))) := by
  have hr : rd_Ex l (k : Int) = l[k] := by
    unfold rd_Ex
    rw [Int.toNat_natCast, List.getD_eq_getElem?_getD, List.getElem?_eq_getElem h]
    rfl
  simp only [hr, prL_map, List.getElem_map]
theorem sumT_take (l : List ByteArray) (k : Nat) : sumT (l.take k) ≤ sumT l := by
  induction l generalizing k with
  | nil => simp
  | cons a l ih =>
    cases k with
    | zero => simp [sumT]
    | succ k => have := ih k; rw [List.take_succ_cons, sumT_cons, sumT_cons]; omega
theorem joinT_first (sep a s : ByteArray) (l : List ByteArray) (ha : a = joinT sep (l.take 0)) (h : 0 < l.length) (hs : l[0] = s) : a ++ s = joinT sep (l.take (0 + 1)) := by
  rw [List.take_succ_eq_append_getElem h, hs, List.take_zero, List.nil_append, joinT_one, ha, List.take_zero, joinT_nil]
  exact ba_ext (by rw [ba_app]; rfl)
theorem joinT_next (sep a s : ByteArray) (l : List ByteArray) (k : Nat) (ha : a = joinT sep (l.take k)) (hk : 0 < k) (h : k < l.length) (hs : l[k] = s) : (a ++ sep) ++ s = joinT sep (l.take (k + 1)) := by
  rw [List.take_succ_eq_append_getElem h, hs, joinT_snoc _ _ _ (by intro e; have := congrArg List.length e; rw [List.length_take] at this; simp only [List.length_nil] at this; omega), ha]

set_option maxHeartbeats 8000000 in
set_option maxRecDepth 100000 in
theorem rpe_4 (x : Ex) (hop : x.f0 = 4) (hl100 : x.f1.length ≤ 100000) (IH : Hid (∀ (y : Ex), y ∈ x.f1 → RPeC y)) (ISZ : Hid (∀ (y : Ex), y ∈ x.f1 → (prE y).size ≤ 100000000)) (HSUM : Hid (sumT (prL x.f0 x.f1) + 6 * (prL x.f0 x.f1).length ≤ 6400000)) : RPeC x := by
  intro A c w hE hC
  have hb1 : Below w.heap.size w (w.alloc (exBox x A c)) := (Below.refl _ w).alloc (Nat.le_refl _) _
  have hk1 : (w.alloc (exBox x A c)).heap[w.heap.size]? = some (.cells #[.int .i64 x.f0, .slice A x.f1.length c, .int .i64 x.f2, .int .u64 x.f3, .int .i64 x.f4, .int .u64 x.f5] 37 (0, 0)) := new_blk w _ _
  have hs1 : (w.alloc (exBox x A c)).heap.size = w.heap.size + 1 := by simp
  obtain ⟨y0, y1, y2, y3, y4, y5⟩ := box6 hk1
  have HB1 := Lib.hid hb1; have HK1 := Lib.hid hk1; have HS1 := Lib.hid hs1; have HC1 := Lib.hid (Kd.C_below hC hb1); have HE1 := Lib.hid (hE.below hb1)
  have b1 : (x.f0 == 1) = false := by rw [hop]; decide
  have b2 : (x.f0 == 2) = false := by rw [hop]; decide
  have b3 : (x.f0 == 3) = false := by rw [hop]; decide
  have b4 : (x.f0 == 4) = true := by rw [hop]; decide
  have b5 : (x.f0 == 5) = false := by rw [hop]; decide
  obtain ⟨S, hS⟩ : ∃ S, S = prE x := ⟨_, rfl⟩
  rw [← hS]
  have HT := Lib.hid (show S = joinT sAndS (prL x.f0 x.f1) by rw [hS, prE_eq]; unfold nodeT; rw [if_neg (by omega), if_neg (by omega), if_neg (by omega), if_pos hop])
  have HOP := Lib.hid hop
  clear hb1 hk1 hs1 hC hE hS hop
  go_enter Tryz.func17, Tryz.ntmps17
  go_wp2
  show Code.wp _ _ _ _ (w.alloc (exBox x A c))
  generalize w.alloc (exBox x A c) = W1 at *
  clear y0 y1 y2 y3 y4 y5
  go_loopw [3, 4] (fun v3 v10 wr => ∃ (k : Nat) (a : ByteArray), v10 = .int .i64 k ∧ v3 = .string a ∧ k ≤ x.f1.length ∧ Hid (a = joinT sAndS ((prL x.f0 x.f1).take k)) ∧ Hid (Below W1.heap.size W1 wr)) (fun _ v10 _ => x.f1.length - (intOf v10).toNat)
  case atStart => exact ⟨0, nil0, rfl, rfl, by omega, Lib.hid (by rw [List.take_zero]; rfl), Lib.hid (Below.refl _ _)⟩
  case round =>
    obtain ⟨k, a, rfl, rfl, hk, HA, HB⟩ := hrel
    have hws := HB.out.size
    rw [HS1.out] at hws
    have HKr := Lib.hid ((HB.out.block w.heap.size (by rw [HS1.out]; omega)).trans HK1.out)
    have HEr := Lib.hid (HE1.out.below HB.out)
    have HCr := Lib.hid (Kd.C_below HC1.out HB.out)
    have haz : a.size ≤ 100000000 := by
      have h1 := joinT_size sAndS ((prL x.f0 x.f1).take k)
      have h2 := sumT_take (prL x.f0 x.f1) k
      have h3 := HSUM.out
      have h4 : ((prL x.f0 x.f1).take k).length ≤ x.f1.length := by rw [List.length_take, prL_len]; omega
      have h5 := Nat.mul_le_mul_left sAndS.size h4
      have h6 : sAndS.size ≤ 5 := by decide
      have h7 := Nat.mul_le_mul_right x.f1.length h6
      rw [← HA.out] at h1
      omega
    by_cases hlt : k < x.f1.length
    · have hltb : decide ((k : Int) < (x.f1.length : Int)) = true := by simpa using hlt
      obtain ⟨a0, A2, c2, e0, p0, p1, p2, p3, p4, p5, pl, pc⟩ := at_Ex HCr.out (k : Int) (by omega) (by omega)
      rw [Int.toNat_natCast] at p0 p1 p2 p3 p4 p5
      have hmem := rdEx_mem hlt
      have hget := prL_get x.f0 x.f1 k hlt
      have hIn := IH.out _ hmem
      have hSz := ISZ.out _ hmem
      generalize rd_Ex x.f1 (k : Int) = y at *
      have hal : Below wr.heap.size wr (wr.alloc (exBox y A2 c2)) := (Below.refl _ _).alloc (Nat.le_refl _) _
      have hk2 : (wr.alloc (exBox y A2 c2)).heap[wr.heap.size]? = some (.cells #[.int .i64 y.f0, .slice A2 y.f1.length c2, .int .i64 y.f2, .int .u64 y.f3, .int .i64 y.f4, .int .u64 y.f5] 37 (0, 0)) := new_blk wr _ _
      obtain ⟨z0, z1, z2, z3, z4, z5⟩ := box6 hk2
      obtain ⟨y0, y1, -, -, -, -⟩ := box6 HKr.out
      have q0 := pw_cell_below hal y0
      have q1 := pw_cell_below hal y1
      have HR := Lib.hid (fun b => rinner_any b y hIn hSz A2 c2 _ (HEr.out.below hal) (Kd.C_below pc hal))
      have HAL := Lib.hid hal
      obtain ⟨T, hT⟩ : ∃ T, T = parT (aroundB x.f0 y.f0) (prE y) := ⟨_, rfl⟩
      rw [← hT] at hget
      have HGET := Lib.hid hget; have HTT := Lib.hid hT
      have hTz : T.size ≤ 100000002 := by rw [hT]; exact Nat.le_trans (parT_size _ _) (by omega)
      have hwr := wrap_s (m := k) (by omega)
      have hlen := prL_len x.f0 x.f1
      have HLT := Lib.hid (show k < (prL x.f0 x.f1).length by omega)
      subst e0
      have d1 : ¬ 9223372036854775807 < a.size + 5 := by omega
      have d2 : ¬ 9223372036854775807 < a.size + 5 + T.size := by omega
      have d3 : ¬ 9223372036854775807 < a.size + T.size := by omega
      have HK0 : Hid (0 < k ∨ k = 0) := by by_cases h : k = 0; exact .inr h; exact .inl (by omega)
      clear hget hIn hSz hal hk2 pc pl hmem hT hTz haz hlen
      by_cases hkp : 0 < k
      · have hkb : decide ((0 : Int) < (k : Int)) = true := by simpa using hkp
        have HKP := Lib.hid hkp
        by_cases h5 : y.f0 = 5
        · have c5 : (y.f0 == 5) = true := by simpa using h5
          have hr : aroundB x.f0 y.f0 = true := by simp [aroundB, h5]
          have hTV : parT true (prE y) = T := by rw [HTT.out, hr]
          have HRV := Lib.hid (HR.out true)
          rw [hTV] at HRV
          clear HR hr hTV h5
          go_wp2_with fail
          refine HRV.out.mono ?_
          rintro e W5 ⟨rfl, hb5⟩
          have hbr := HAL.out.trans (hb5.mono HAL.out.size)
          have HB5 := Lib.hid (HB.out.trans (hbr.mono HB.out.size))
          clear hb5 hbr p0 p1 p2 p3 p4 p5 z0 z1 z2 z3 z4 z5 q0 q1 y0 y1
          go_wp2
          go_roundw
          case rel => exact ⟨k + 1, _, by simp, rfl, by omega, Lib.hid (joinT_next sAndS _ _ _ k HA.out HKP.out HLT.out HGET.out), HB5⟩
          case measure => simp [intOf]; omega
        have c5 : (y.f0 == 5) = false := by simpa using h5
        by_cases h4 : y.f0 = 4
        · have c4 : (y.f0 == 4) = true := by simpa using h4
          have hr : aroundB x.f0 y.f0 = true := by simp [aroundB, h4, HOP.out]
          have hTV : parT true (prE y) = T := by rw [HTT.out, hr]
          have HRV := Lib.hid (HR.out true)
          rw [hTV] at HRV
          clear HR hr hTV h5 h4
          go_wp2_with fail
          refine HRV.out.mono ?_
          rintro e W5 ⟨rfl, hb5⟩
          have hbr := HAL.out.trans (hb5.mono HAL.out.size)
          have HB5 := Lib.hid (HB.out.trans (hbr.mono HB.out.size))
          clear hb5 hbr p0 p1 p2 p3 p4 p5 z0 z1 z2 z3 z4 z5 q0 q1 y0 y1
          go_wp2
          go_roundw
          case rel => exact ⟨k + 1, _, by simp, rfl, by omega, Lib.hid (joinT_next sAndS _ _ _ k HA.out HKP.out HLT.out HGET.out), HB5⟩
          case measure => simp [intOf]; omega
        · have c4 : (y.f0 == 4) = false := by simpa using h4
          have hr : aroundB x.f0 y.f0 = false := by simp [aroundB, h4, h5]
          have hTV : parT false (prE y) = T := by rw [HTT.out, hr]
          have HRV := Lib.hid (HR.out false)
          rw [hTV] at HRV
          clear HR hr hTV h5 h4
          go_wp2_with fail
          refine HRV.out.mono ?_
          rintro e W5 ⟨rfl, hb5⟩
          have hbr := HAL.out.trans (hb5.mono HAL.out.size)
          have HB5 := Lib.hid (HB.out.trans (hbr.mono HB.out.size))
          clear hb5 hbr p0 p1 p2 p3 p4 p5 z0 z1 z2 z3 z4 z5 q0 q1 y0 y1
          go_wp2
          go_roundw
          case rel => exact ⟨k + 1, _, by simp, rfl, by omega, Lib.hid (joinT_next sAndS _ _ _ k HA.out HKP.out HLT.out HGET.out), HB5⟩
          case measure => simp [intOf]; omega
      · obtain rfl : k = 0 := by omega
        clear hkp
        simp only [Nat.zero_mul] at p0 p1 p2 p3 p4 p5
        rw [addr_add0 a0] at p0 p1 p2 p3 p4 p5
        by_cases h5 : y.f0 = 5
        · have c5 : (y.f0 == 5) = true := by simpa using h5
          have hr : aroundB x.f0 y.f0 = true := by simp [aroundB, h5]
          have hTV : parT true (prE y) = T := by rw [HTT.out, hr]
          have HRV := Lib.hid (HR.out true)
          rw [hTV] at HRV
          clear HR hr hTV h5
          go_wp2_with fail
          refine HRV.out.mono ?_
          rintro e W5 ⟨rfl, hb5⟩
          have hbr := HAL.out.trans (hb5.mono HAL.out.size)
          have HB5 := Lib.hid (HB.out.trans (hbr.mono HB.out.size))
          clear hb5 hbr p0 p1 p2 p3 p4 p5 z0 z1 z2 z3 z4 z5 q0 q1 y0 y1
          go_wp2
          go_roundw
          case rel => exact ⟨0 + 1, _, by simp, rfl, by omega, Lib.hid (joinT_first sAndS _ _ _ HA.out HLT.out HGET.out), HB5⟩
          case measure => simp [intOf]; omega
        have c5 : (y.f0 == 5) = false := by simpa using h5
        by_cases h4 : y.f0 = 4
        · have c4 : (y.f0 == 4) = true := by simpa using h4
          have hr : aroundB x.f0 y.f0 = true := by simp [aroundB, h4, HOP.out]
          have hTV : parT true (prE y) = T := by rw [HTT.out, hr]
          have HRV := Lib.hid (HR.out true)
          rw [hTV] at HRV
          clear HR hr hTV h5 h4
          go_wp2_with fail
          refine HRV.out.mono ?_
          rintro e W5 ⟨rfl, hb5⟩
          have hbr := HAL.out.trans (hb5.mono HAL.out.size)
          have HB5 := Lib.hid (HB.out.trans (hbr.mono HB.out.size))
          clear hb5 hbr p0 p1 p2 p3 p4 p5 z0 z1 z2 z3 z4 z5 q0 q1 y0 y1
          go_wp2
          go_roundw
          case rel => exact ⟨0 + 1, _, by simp, rfl, by omega, Lib.hid (joinT_first sAndS _ _ _ HA.out HLT.out HGET.out), HB5⟩
          case measure => simp [intOf]; omega
        · have c4 : (y.f0 == 4) = false := by simpa using h4
          have hr : aroundB x.f0 y.f0 = false := by simp [aroundB, h4, h5]
          have hTV : parT false (prE y) = T := by rw [HTT.out, hr]
          have HRV := Lib.hid (HR.out false)
          rw [hTV] at HRV
          clear HR hr hTV h5 h4
          go_wp2_with fail
          refine HRV.out.mono ?_
          rintro e W5 ⟨rfl, hb5⟩
          have hbr := HAL.out.trans (hb5.mono HAL.out.size)
          have HB5 := Lib.hid (HB.out.trans (hbr.mono HB.out.size))
          clear hb5 hbr p0 p1 p2 p3 p4 p5 z0 z1 z2 z3 z4 z5 q0 q1 y0 y1
          go_wp2
          go_roundw
          case rel => exact ⟨0 + 1, _, by simp, rfl, by omega, Lib.hid (joinT_first sAndS _ _ _ HA.out HLT.out HGET.out), HB5⟩
          case measure => simp [intOf]; omega
    · have hltb : decide ((k : Int) < (x.f1.length : Int)) = false := by simpa using hlt
      have hle : x.f1.length ≤ k := by omega
      have hBw : Below w.heap.size w wr := HB1.out.trans (HB.out.mono (by rw [HS1.out]; omega))
      have HAA := Lib.hid (show a = S by rw [HA.out, HT.out, List.take_of_length_le (by rw [prL_len]; omega)])
      have HBW := Lib.hid hBw
      obtain ⟨y0, y1, -, -, -, -⟩ := box6 HKr.out
      clear hlt hltb hBw haz
      go_wp2
      go_ret
      exact ⟨by rw [← HAA.out]; rfl, HBW.out⟩

set_option maxHeartbeats 8000000 in
set_option maxRecDepth 100000 in
theorem rpe_5 (x : Ex) (hop : x.f0 = 5) (hl100 : x.f1.length ≤ 100000) (IH : Hid (∀ (y : Ex), y ∈ x.f1 → RPeC y)) (ISZ : Hid (∀ (y : Ex), y ∈ x.f1 → (prE y).size ≤ 100000000)) (HSUM : Hid (sumT (prL x.f0 x.f1) + 6 * (prL x.f0 x.f1).length ≤ 6400000)) : RPeC x := by
  intro A c w hE hC
  have hb1 : Below w.heap.size w (w.alloc (exBox x A c)) := (Below.refl _ w).alloc (Nat.le_refl _) _
  have hk1 : (w.alloc (exBox x A c)).heap[w.heap.size]? = some (.cells #[.int .i64 x.f0, .slice A x.f1.length c, .int .i64 x.f2, .int .u64 x.f3, .int .i64 x.f4, .int .u64 x.f5] 37 (0, 0)) := new_blk w _ _
  have hs1 : (w.alloc (exBox x A c)).heap.size = w.heap.size + 1 := by simp
  obtain ⟨y0, y1, y2, y3, y4, y5⟩ := box6 hk1
  have HB1 := Lib.hid hb1; have HK1 := Lib.hid hk1; have HS1 := Lib.hid hs1; have HC1 := Lib.hid (Kd.C_below hC hb1); have HE1 := Lib.hid (hE.below hb1)
  have b1 : (x.f0 == 1) = false := by rw [hop]; decide
  have b2 : (x.f0 == 2) = false := by rw [hop]; decide
  have b3 : (x.f0 == 3) = false := by rw [hop]; decide
  have b5 : (x.f0 == 5) = true := by rw [hop]; decide
  have b4 : (x.f0 == 4) = false := by rw [hop]; decide
  obtain ⟨S, hS⟩ : ∃ S, S = prE x := ⟨_, rfl⟩
  rw [← hS]
  have HT := Lib.hid (show S = joinT sOrS (prL x.f0 x.f1) by rw [hS, prE_eq]; unfold nodeT; rw [if_neg (by omega), if_neg (by omega), if_neg (by omega), if_neg (by omega), if_pos hop])
  have HOP := Lib.hid hop
  clear hb1 hk1 hs1 hC hE hS hop
  go_enter Tryz.func17, Tryz.ntmps17
  go_wp2
  show Code.wp _ _ _ _ (w.alloc (exBox x A c))
  generalize w.alloc (exBox x A c) = W1 at *
  clear y0 y1 y2 y3 y4 y5
  go_loopw [3, 4] (fun v3 v10 wr => ∃ (k : Nat) (a : ByteArray), v10 = .int .i64 k ∧ v3 = .string a ∧ k ≤ x.f1.length ∧ Hid (a = joinT sOrS ((prL x.f0 x.f1).take k)) ∧ Hid (Below W1.heap.size W1 wr)) (fun _ v10 _ => x.f1.length - (intOf v10).toNat)
  case atStart => exact ⟨0, nil0, rfl, rfl, by omega, Lib.hid (by rw [List.take_zero]; rfl), Lib.hid (Below.refl _ _)⟩
  case round =>
    obtain ⟨k, a, rfl, rfl, hk, HA, HB⟩ := hrel
    have hws := HB.out.size
    rw [HS1.out] at hws
    have HKr := Lib.hid ((HB.out.block w.heap.size (by rw [HS1.out]; omega)).trans HK1.out)
    have HEr := Lib.hid (HE1.out.below HB.out)
    have HCr := Lib.hid (Kd.C_below HC1.out HB.out)
    have haz : a.size ≤ 100000000 := by
      have h1 := joinT_size sOrS ((prL x.f0 x.f1).take k)
      have h2 := sumT_take (prL x.f0 x.f1) k
      have h3 := HSUM.out
      have h4 : ((prL x.f0 x.f1).take k).length ≤ x.f1.length := by rw [List.length_take, prL_len]; omega
      have h5 := Nat.mul_le_mul_left sOrS.size h4
      have h6 : sOrS.size ≤ 5 := by decide
      have h7 := Nat.mul_le_mul_right x.f1.length h6
      rw [← HA.out] at h1
      omega
    by_cases hlt : k < x.f1.length
    · have hltb : decide ((k : Int) < (x.f1.length : Int)) = true := by simpa using hlt
      obtain ⟨a0, A2, c2, e0, p0, p1, p2, p3, p4, p5, pl, pc⟩ := at_Ex HCr.out (k : Int) (by omega) (by omega)
      rw [Int.toNat_natCast] at p0 p1 p2 p3 p4 p5
      have hmem := rdEx_mem hlt
      have hget := prL_get x.f0 x.f1 k hlt
      have hIn := IH.out _ hmem
      have hSz := ISZ.out _ hmem
      generalize rd_Ex x.f1 (k : Int) = y at *
      have hal : Below wr.heap.size wr (wr.alloc (exBox y A2 c2)) := (Below.refl _ _).alloc (Nat.le_refl _) _
      have hk2 : (wr.alloc (exBox y A2 c2)).heap[wr.heap.size]? = some (.cells #[.int .i64 y.f0, .slice A2 y.f1.length c2, .int .i64 y.f2, .int .u64 y.f3, .int .i64 y.f4, .int .u64 y.f5] 37 (0, 0)) := new_blk wr _ _
      obtain ⟨z0, z1, z2, z3, z4, z5⟩ := box6 hk2
      obtain ⟨y0, y1, -, -, -, -⟩ := box6 HKr.out
      have q0 := pw_cell_below hal y0
      have q1 := pw_cell_below hal y1
      have HR := Lib.hid (fun b => rinner_any b y hIn hSz A2 c2 _ (HEr.out.below hal) (Kd.C_below pc hal))
      have HAL := Lib.hid hal
      obtain ⟨T, hT⟩ : ∃ T, T = parT (aroundB x.f0 y.f0) (prE y) := ⟨_, rfl⟩
      rw [← hT] at hget
      have HGET := Lib.hid hget; have HTT := Lib.hid hT
      have hTz : T.size ≤ 100000002 := by rw [hT]; exact Nat.le_trans (parT_size _ _) (by omega)
      have hwr := wrap_s (m := k) (by omega)
      have hlen := prL_len x.f0 x.f1
      have HLT := Lib.hid (show k < (prL x.f0 x.f1).length by omega)
      subst e0
      have d1 : ¬ 9223372036854775807 < a.size + 4 := by omega
      have d2 : ¬ 9223372036854775807 < a.size + 4 + T.size := by omega
      have d3 : ¬ 9223372036854775807 < a.size + T.size := by omega
      have HK0 : Hid (0 < k ∨ k = 0) := by by_cases h : k = 0; exact .inr h; exact .inl (by omega)
      clear hget hIn hSz hal hk2 pc pl hmem hT hTz haz hlen
      by_cases hkp : 0 < k
      · have hkb : decide ((0 : Int) < (k : Int)) = true := by simpa using hkp
        have HKP := Lib.hid hkp
        by_cases h5 : y.f0 = 5
        · have c5 : (y.f0 == 5) = true := by simpa using h5
          have hr : aroundB x.f0 y.f0 = true := by simp [aroundB, h5]
          have hTV : parT true (prE y) = T := by rw [HTT.out, hr]
          have HRV := Lib.hid (HR.out true)
          rw [hTV] at HRV
          clear HR hr hTV h5
          go_wp2_with fail
          refine HRV.out.mono ?_
          rintro e W5 ⟨rfl, hb5⟩
          have hbr := HAL.out.trans (hb5.mono HAL.out.size)
          have HB5 := Lib.hid (HB.out.trans (hbr.mono HB.out.size))
          clear hb5 hbr p0 p1 p2 p3 p4 p5 z0 z1 z2 z3 z4 z5 q0 q1 y0 y1
          go_wp2
          go_roundw
          case rel => exact ⟨k + 1, _, by simp, rfl, by omega, Lib.hid (joinT_next sOrS _ _ _ k HA.out HKP.out HLT.out HGET.out), HB5⟩
          case measure => simp [intOf]; omega
        have c5 : (y.f0 == 5) = false := by simpa using h5
        by_cases h4 : y.f0 = 4
        · have c4 : (y.f0 == 4) = true := by simpa using h4
          have hr : aroundB x.f0 y.f0 = false := by simp [aroundB, h4, HOP.out]
          have hTV : parT false (prE y) = T := by rw [HTT.out, hr]
          have HRV := Lib.hid (HR.out false)
          rw [hTV] at HRV
          clear HR hr hTV h5 h4
          go_wp2_with fail
          refine HRV.out.mono ?_
          rintro e W5 ⟨rfl, hb5⟩
          have hbr := HAL.out.trans (hb5.mono HAL.out.size)
          have HB5 := Lib.hid (HB.out.trans (hbr.mono HB.out.size))
          clear hb5 hbr p0 p1 p2 p3 p4 p5 z0 z1 z2 z3 z4 z5 q0 q1 y0 y1
          go_wp2
          go_roundw
          case rel => exact ⟨k + 1, _, by simp, rfl, by omega, Lib.hid (joinT_next sOrS _ _ _ k HA.out HKP.out HLT.out HGET.out), HB5⟩
          case measure => simp [intOf]; omega
        · have c4 : (y.f0 == 4) = false := by simpa using h4
          have hr : aroundB x.f0 y.f0 = false := by simp [aroundB, h4, h5]
          have hTV : parT false (prE y) = T := by rw [HTT.out, hr]
          have HRV := Lib.hid (HR.out false)
          rw [hTV] at HRV
          clear HR hr hTV h5 h4
          go_wp2_with fail
          refine HRV.out.mono ?_
          rintro e W5 ⟨rfl, hb5⟩
          have hbr := HAL.out.trans (hb5.mono HAL.out.size)
          have HB5 := Lib.hid (HB.out.trans (hbr.mono HB.out.size))
          clear hb5 hbr p0 p1 p2 p3 p4 p5 z0 z1 z2 z3 z4 z5 q0 q1 y0 y1
          go_wp2
          go_roundw
          case rel => exact ⟨k + 1, _, by simp, rfl, by omega, Lib.hid (joinT_next sOrS _ _ _ k HA.out HKP.out HLT.out HGET.out), HB5⟩
          case measure => simp [intOf]; omega
      · obtain rfl : k = 0 := by omega
        clear hkp
        simp only [Nat.zero_mul] at p0 p1 p2 p3 p4 p5
        rw [addr_add0 a0] at p0 p1 p2 p3 p4 p5
        by_cases h5 : y.f0 = 5
        · have c5 : (y.f0 == 5) = true := by simpa using h5
          have hr : aroundB x.f0 y.f0 = true := by simp [aroundB, h5]
          have hTV : parT true (prE y) = T := by rw [HTT.out, hr]
          have HRV := Lib.hid (HR.out true)
          rw [hTV] at HRV
          clear HR hr hTV h5
          go_wp2_with fail
          refine HRV.out.mono ?_
          rintro e W5 ⟨rfl, hb5⟩
          have hbr := HAL.out.trans (hb5.mono HAL.out.size)
          have HB5 := Lib.hid (HB.out.trans (hbr.mono HB.out.size))
          clear hb5 hbr p0 p1 p2 p3 p4 p5 z0 z1 z2 z3 z4 z5 q0 q1 y0 y1
          go_wp2
          go_roundw
          case rel => exact ⟨0 + 1, _, by simp, rfl, by omega, Lib.hid (joinT_first sOrS _ _ _ HA.out HLT.out HGET.out), HB5⟩
          case measure => simp [intOf]; omega
        have c5 : (y.f0 == 5) = false := by simpa using h5
        by_cases h4 : y.f0 = 4
        · have c4 : (y.f0 == 4) = true := by simpa using h4
          have hr : aroundB x.f0 y.f0 = false := by simp [aroundB, h4, HOP.out]
          have hTV : parT false (prE y) = T := by rw [HTT.out, hr]
          have HRV := Lib.hid (HR.out false)
          rw [hTV] at HRV
          clear HR hr hTV h5 h4
          go_wp2_with fail
          refine HRV.out.mono ?_
          rintro e W5 ⟨rfl, hb5⟩
          have hbr := HAL.out.trans (hb5.mono HAL.out.size)
          have HB5 := Lib.hid (HB.out.trans (hbr.mono HB.out.size))
          clear hb5 hbr p0 p1 p2 p3 p4 p5 z0 z1 z2 z3 z4 z5 q0 q1 y0 y1
          go_wp2
          go_roundw
          case rel => exact ⟨0 + 1, _, by simp, rfl, by omega, Lib.hid (joinT_first sOrS _ _ _ HA.out HLT.out HGET.out), HB5⟩
          case measure => simp [intOf]; omega
        · have c4 : (y.f0 == 4) = false := by simpa using h4
          have hr : aroundB x.f0 y.f0 = false := by simp [aroundB, h4, h5]
          have hTV : parT false (prE y) = T := by rw [HTT.out, hr]
          have HRV := Lib.hid (HR.out false)
          rw [hTV] at HRV
          clear HR hr hTV h5 h4
          go_wp2_with fail
          refine HRV.out.mono ?_
          rintro e W5 ⟨rfl, hb5⟩
          have hbr := HAL.out.trans (hb5.mono HAL.out.size)
          have HB5 := Lib.hid (HB.out.trans (hbr.mono HB.out.size))
          clear hb5 hbr p0 p1 p2 p3 p4 p5 z0 z1 z2 z3 z4 z5 q0 q1 y0 y1
          go_wp2
          go_roundw
          case rel => exact ⟨0 + 1, _, by simp, rfl, by omega, Lib.hid (joinT_first sOrS _ _ _ HA.out HLT.out HGET.out), HB5⟩
          case measure => simp [intOf]; omega
    · have hltb : decide ((k : Int) < (x.f1.length : Int)) = false := by simpa using hlt
      have hle : x.f1.length ≤ k := by omega
      have hBw : Below w.heap.size w wr := HB1.out.trans (HB.out.mono (by rw [HS1.out]; omega))
      have HAA := Lib.hid (show a = S by rw [HA.out, HT.out, List.take_of_length_le (by rw [prL_len]; omega)])
      have HBW := Lib.hid hBw
      obtain ⟨y0, y1, -, -, -, -⟩ := box6 HKr.out
      clear hlt hltb hBw haz
      go_wp2
      go_ret
      exact ⟨by rw [← HAA.out]; rfl, HBW.out⟩
end Go.Proofs.YtlmopoipjolbgaaGreatDoor.LexW
namespace Go.Proofs.YtlmopoipjolbgaaGreatDoor.LexW
open Go.RowKit Go.Shelf Go.Proofs.YtlmopoipjolbgaaGreatDoor.LexS Go.Proofs.YtlmopoipjolbgaaGreatDoorW.PrintWords
set_option linter.unusedVariables false
set_option linter.unusedSimpArgs false

set_option maxHeartbeats 2000000 in
set_option maxRecDepth 100000 in
theorem rpe_12 (x : Ex) (hop : x.f0 = 1 ∨ x.f0 = 2) : RPeC x := by
  intro A c w hE hC
  have hb1 : Below w.heap.size w (w.alloc (exBox x A c)) := (Below.refl _ w).alloc (Nat.le_refl _) _
  have hk1 : (w.alloc (exBox x A c)).heap[w.heap.size]? = some (.cells #[.int .i64 x.f0, .slice A x.f1.length c, .int .i64 x.f2, .int .u64 x.f3, .int .i64 x.f4, .int .u64 x.f5] 37 (0, 0)) := new_blk w _ _
  obtain ⟨y0, y1, y2, y3, y4, y5⟩ := box6 hk1
  have HB1 := Lib.hid hb1
  obtain ⟨S, hS⟩ : ∃ S, S = prE x := ⟨_, rfl⟩
  rw [← hS]
  by_cases h1 : x.f0 = 1
  · have HT := Lib.hid (show S = sTrue by rw [hS, prE_eq]; unfold nodeT; rw [if_pos h1])
    have b1 : (x.f0 == 1) = true := by rw [h1]; decide
    clear hb1 hk1 hE hC hS hop h1
    go_enter Tryz.func17, Tryz.ntmps17
    go_wp2
    go_ret
    exact ⟨by rw [HT.out]; rfl, HB1.out⟩
  · have h2 : x.f0 = 2 := by omega
    have HT := Lib.hid (show S = sFalse by rw [hS, prE_eq]; unfold nodeT; rw [if_neg h1, if_pos h2])
    have b1 : (x.f0 == 1) = false := by rw [h2]; decide
    have b2 : (x.f0 == 2) = true := by rw [h2]; decide
    clear hb1 hk1 hE hC hS hop h1 h2
    go_enter Tryz.func17, Tryz.ntmps17
    go_wp2
    go_ret
    exact ⟨by rw [HT.out]; rfl, HB1.out⟩

theorem EnvN.drew {w : World} (h : EnvN w) : EnvN w.drew := h.below (Below.refl _ _).drew
set_option maxHeartbeats 4000000 in
set_option maxRecDepth 100000 in
theorem rpe_3 (x : Ex) (hop : x.f0 = 3) (hl : x.f1.length = 1) (IH : Hid (∀ (y : Ex), y ∈ x.f1 → RPeC y)) (ISZ : Hid (∀ (y : Ex), y ∈ x.f1 → (prE y).size ≤ 100000000)) : RPeC x := by
  intro A c w hE hC
  have hb1 : Below w.heap.size w (w.alloc (exBox x A c)) := (Below.refl _ w).alloc (Nat.le_refl _) _
  have hk1 : (w.alloc (exBox x A c)).heap[w.heap.size]? = some (.cells #[.int .i64 x.f0, .slice A x.f1.length c, .int .i64 x.f2, .int .u64 x.f3, .int .i64 x.f4, .int .u64 x.f5] 37 (0, 0)) := new_blk w _ _
  obtain ⟨y0, y1, y2, y3, y4, y5⟩ := box6 hk1
  have hC1 := Kd.C_below hC hb1
  obtain ⟨a0, A2, c2, e0, p0, p1, p2, p3, p4, p5, pl, pc⟩ := at_Ex hC1 ((0 : Nat) : Int) (by omega) (by omega)
  rw [Int.toNat_natCast, Nat.zero_mul] at p0 p1 p2 p3 p4 p5
  rw [addr_add0 a0] at p0 p1 p2 p3 p4 p5
  have hmem := rdEx_mem (l := x.f1) (k := 0) (by omega)
  have hget := prL_get x.f0 x.f1 0 (by omega)
  have hIn := IH.out _ hmem
  have hSz := ISZ.out _ hmem
  generalize rd_Ex x.f1 ((0 : Nat) : Int) = y at *
  have hpr : prL x.f0 x.f1 = [parT (aroundB x.f0 y.f0) (prE y)] := by
    have h1 : (prL x.f0 x.f1).length = 1 := by rw [prL_len, hl]
    match hp : prL x.f0 x.f1, h1 with
    | [t], _ => simp only [hp, List.getElem_cons_zero] at hget; rw [hget]
  obtain ⟨T, hT⟩ : ∃ T, T = parT (aroundB x.f0 y.f0) (prE y) := ⟨_, rfl⟩
  rw [← hT] at hpr
  obtain ⟨S, hS⟩ : ∃ S, S = prE x := ⟨_, rfl⟩
  rw [← hS]
  have HT := Lib.hid (show S = sNotS ++ T by rw [hS, prE_eq]; unfold nodeT; rw [if_neg (by omega), if_neg (by omega), if_pos hop, hpr, joinT_one])
  have hTz : T.size ≤ 100000002 := by rw [hT]; exact Nat.le_trans (parT_size _ _) (by omega)
  have d1 : ¬ 9223372036854775807 < 4 + T.size := by omega
  have b1 : (x.f0 == 1) = false := by rw [hop]; decide
  have b2 : (x.f0 == 2) = false := by rw [hop]; decide
  have b3 : (x.f0 == 3) = true := by rw [hop]; decide
  have HB1 := Lib.hid hb1
  have hlp : 0 < x.f1.length := by omega
  have HR := Lib.hid (fun b => rinner_any b y hIn hSz A2 c2 (w.alloc (exBox x A c)).drew (hE.below hb1).drew (Kd.C_below pc (Below.refl _ _).drew))
  have HHT := Lib.hid hT; have HOP := Lib.hid hop
  subst e0
  clear hb1 hk1 hE hC hC1 hS hop hpr hT hTz hIn hSz pc pl hmem hget hl
  obtain ⟨W2, hW2⟩ : ∃ W2, W2 = (w.alloc (exBox x (some a0) c)).drew := ⟨_, rfl⟩
  have y1 : W2.cell? ⟨w.heap.size, 1, none⟩ = some (.slice (some a0) x.f1.length c) := by rw [hW2]; exact y1
  have p0 : W2.cell? a0 = some (.int .i64 y.f0) := by rw [hW2]; exact p0
  have p1 : W2.cell? ⟨a0.block, a0.off + 1, none⟩ = some (.slice A2 y.f1.length c2) := by rw [hW2]; exact p1
  have p2 : W2.cell? ⟨a0.block, a0.off + 2, none⟩ = some (.int .i64 y.f2) := by rw [hW2]; exact p2
  have p3 : W2.cell? ⟨a0.block, a0.off + 3, none⟩ = some (.int .u64 y.f3) := by rw [hW2]; exact p3
  have p4 : W2.cell? ⟨a0.block, a0.off + 4, none⟩ = some (.int .i64 y.f4) := by rw [hW2]; exact p4
  have p5 : W2.cell? ⟨a0.block, a0.off + 5, none⟩ = some (.int .u64 y.f5) := by rw [hW2]; exact p5
  have hbw : Below w.heap.size w W2 := by rw [hW2]; exact HB1.out.trans (((Below.refl _ _).drew).mono HB1.out.size)
  have HBW := Lib.hid hbw; have HW2 := Lib.hid hW2
  rw [← hW2] at HR
  clear hbw hW2 HB1
  by_cases h4 : y.f0 = 4
  · have c4 : (y.f0 == 4) = true := by simpa using h4
    have hTV : parT true (prE y) = T := by rw [HHT.out, show aroundB x.f0 y.f0 = true by simp [aroundB, h4, HOP.out]]
    have HRV := Lib.hid (HR.out true)
    rw [hTV] at HRV
    clear HR hTV h4
    go_enter Tryz.func17, Tryz.ntmps17
    go_wp2
    refine wp_region_still_tail 18 (by kernel_rfl) (by kernel_rfl) ?_
    simp only [List.take_succ_cons, List.take_zero, List.drop_succ_cons, List.drop_zero]
    show wpStill _ _ (w.alloc (exBox x (some a0) c)).drew _ _ _
    rw [← HW2.out]
    repeat still_step
    refine wpStill_nil ?_
    show wpList _ _ _ _ _ (w.alloc (exBox x (some a0) c)).drew
    rw [← HW2.out]
    go_wp2_with fail
    refine HRV.out.mono ?_
    rintro e W5 ⟨rfl, hb5⟩
    go_wp2
    go_ret
    exact ⟨by rw [HT.out]; rfl, HBW.out.trans (hb5.mono HBW.out.size)⟩
  have c4 : (y.f0 == 4) = false := by simpa using h4
  by_cases h5 : y.f0 = 5
  · have c5 : (y.f0 == 5) = true := by simpa using h5
    have hTV : parT true (prE y) = T := by rw [HHT.out, show aroundB x.f0 y.f0 = true by simp [aroundB, h5]]
    have HRV := Lib.hid (HR.out true)
    rw [hTV] at HRV
    clear HR hTV h4 h5
    go_enter Tryz.func17, Tryz.ntmps17
    go_wp2
    refine wp_region_still_tail 18 (by kernel_rfl) (by kernel_rfl) ?_
    simp only [List.take_succ_cons, List.take_zero, List.drop_succ_cons, List.drop_zero]
    show wpStill _ _ (w.alloc (exBox x (some a0) c)).drew _ _ _
    rw [← HW2.out]
    repeat still_step
    refine wpStill_nil ?_
    show wpList _ _ _ _ _ (w.alloc (exBox x (some a0) c)).drew
    rw [← HW2.out]
    go_wp2_with fail
    refine HRV.out.mono ?_
    rintro e W5 ⟨rfl, hb5⟩
    go_wp2
    go_ret
    exact ⟨by rw [HT.out]; rfl, HBW.out.trans (hb5.mono HBW.out.size)⟩
  · have c5 : (y.f0 == 5) = false := by simpa using h5
    have hTV : parT false (prE y) = T := by rw [HHT.out, show aroundB x.f0 y.f0 = false by simp [aroundB, h4, h5]]
    have HRV := Lib.hid (HR.out false)
    rw [hTV] at HRV
    clear HR hTV h4 h5
    go_enter Tryz.func17, Tryz.ntmps17
    go_wp2
    refine wp_region_still_tail 18 (by kernel_rfl) (by kernel_rfl) ?_
    simp only [List.take_succ_cons, List.take_zero, List.drop_succ_cons, List.drop_zero]
    show wpStill _ _ (w.alloc (exBox x (some a0) c)).drew _ _ _
    rw [← HW2.out]
    repeat still_step
    refine wpStill_nil ?_
    show wpList _ _ _ _ _ (w.alloc (exBox x (some a0) c)).drew
    rw [← HW2.out]
    go_wp2_with fail
    refine HRV.out.mono ?_
    rintro e W5 ⟨rfl, hb5⟩
    go_wp2
    go_ret
    exact ⟨by rw [HT.out]; rfl, HBW.out.trans (hb5.mono HBW.out.size)⟩
end Go.Proofs.YtlmopoipjolbgaaGreatDoor.LexW
namespace Go.Proofs.YtlmopoipjolbgaaGreatDoor.LexW
open Go.RowKit Go.Shelf Go.Proofs.YtlmopoipjolbgaaGreatDoor.LexS Go.Proofs.YtlmopoipjolbgaaGreatDoorW.PrintWords
set_option linter.unusedVariables false
set_option linter.unusedSimpArgs false

theorem arg_dec (i : Nat) (h : i < 6) : (⟨#[97, 114, 103]⟩ : ByteArray) ++ ⟨(Lib.decDigits i).toArray⟩ = fieldsT.getD i nil0 := by
  match i, h with
  | 0, _ | 1, _ | 2, _ | 3, _ | 4, _ | 5, _ => rw [Lib.decDigits, dif_pos (by decide)]; rfl
theorem dec_one (i : Nat) (h : i < 6) : (⟨(Lib.decDigits i).toArray⟩ : ByteArray).size = 1 := by
  rw [Lib.decDigits, dif_pos (by omega)]; rfl

set_option maxHeartbeats 8000000 in
set_option maxRecDepth 100000 in
theorem rpe_6 (x : Ex) (hop : x.f0 = 6) (hf : 0 ≤ x.f2 ∧ x.f2 ≤ 6) (hr : 1 ≤ x.f4 ∧ x.f4 ≤ 6) (hm : U64 x.f3) (hv : U64 x.f5) : RPeC x := by
  intro A c w hE hC
  have hb1 : Below w.heap.size w (w.alloc (exBox x A c)) := (Below.refl _ w).alloc (Nat.le_refl _) _
  have hk1 : (w.alloc (exBox x A c)).heap[w.heap.size]? = some (.cells #[.int .i64 x.f0, .slice A x.f1.length c, .int .i64 x.f2, .int .u64 x.f3, .int .i64 x.f4, .int .u64 x.f5] 37 (0, 0)) := new_blk w _ _
  have hs1 : (w.alloc (exBox x A c)).heap.size = w.heap.size + 1 := by simp
  obtain ⟨y0, y1, y2, y3, y4, y5⟩ := box6 hk1
  have HB1 := Lib.hid hb1; have HK1 := Lib.hid hk1; have HS1 := Lib.hid hs1; have HE1 := Lib.hid (hE.below hb1)
  have b1 : (x.f0 == 1) = false := by rw [hop]; decide
  have b2 : (x.f0 == 2) = false := by rw [hop]; decide
  have b3 : (x.f0 == 3) = false := by rw [hop]; decide
  have b4 : (x.f0 == 4) = false := by rw [hop]; decide
  have b5 : (x.f0 == 5) = false := by rw [hop]; decide
  obtain ⟨S, hS⟩ : ∃ S, S = prE x := ⟨_, rfl⟩
  rw [← hS]
  have HT := Lib.hid (show S = testT x.f2 x.f3 x.f4 x.f5 by rw [hS, prE_eq]; unfold nodeT; rw [if_neg (by omega), if_neg (by omega), if_neg (by omega), if_neg (by omega), if_neg (by omega)])
  have HM := Lib.hid hm; have HV := Lib.hid hv
  obtain ⟨hf0, hf6⟩ := hf
  obtain ⟨hr1, hr6⟩ := hr
  have HRZ := Lib.hid (show (amongT relsT (x.f4 - 1)).size ≤ 2 by rw [among_eq _ _ (by omega) (by show x.f4 - 1 < 6; omega)]; exact relsT_size _ (by omega))
  have HF9 := Lib.hid (fun W hp => fmt10_any x.f5 hv.1 hv.2 W hp)
  have hnz := numB_size x.f5 hv
  have hxz := hexT_size x.f3
  clear hb1 hk1 hs1 hC hE hS hop hm hv
  by_cases hfi : x.f2 = 6
  · have bf : (x.f2 != 6) = false := by simpa using hfi
    have HFI := Lib.hid (show amongT fieldsT x.f2 = ⟨#[105, 112]⟩ by rw [hfi]; rfl)
    have HB6 : Hid (Below (w.alloc (exBox x A c)).heap.size (w.alloc (exBox x A c)) (w.alloc (exBox x A c))) := Lib.hid (Below.refl _ _)
    have HE6 := HE1
    clear hfi
    go_enter Tryz.func17, Tryz.ntmps17
    by_cases hmx : x.f3 = 18446744073709551615
    · have bm : (x.f3 != 18446744073709551615) = false := by simpa using hmx
      have HT2 := Lib.hid (show S = (((amongT fieldsT x.f2 ++ sSp) ++ amongT relsT (x.f4 - 1)) ++ sSp) ++ numB x.f5 by rw [HT.out]; unfold testT; rw [if_pos hmx])
      have HBV := HB6; have HEV := HE6
      clear hmx
      have e0 : ¬ 9223372036854775807 < 3 + (amongT relsT (x.f4 - 1)).size := by have := HRZ.out; omega
      have e1 : ¬ 9223372036854775807 < 3 + (amongT relsT (x.f4 - 1)).size + 1 := by have := HRZ.out; omega
      have e2 : ¬ 9223372036854775807 < 3 + (amongT relsT (x.f4 - 1)).size + 1 + (numB x.f5).size := by have := HRZ.out; omega
      clear hnz hxz
      have hkV := (HBV.out.block w.heap.size (by have := HS1.out; omega)).trans HK1.out
      obtain ⟨-, -, -, -, v4, v5⟩ := box6 hkV
      have HPV := Lib.hid HEV.out.pow.drew
      clear hkV
      go_wp2
      go_region_held3 (fun w' => w'.cell? ⟨w.heap.size, 4, none⟩ = some (.int .i64 x.f4) ∧ w'.cell? ⟨w.heap.size, 5, none⟩ = some (.int .u64 x.f5))
        (first | go_keep | exact ⟨bel_cell hb9 v4, bel_cell hb9 v5⟩)
        (first | (go_at_call 48; ((with_reducible refine (sign_rany x.f4 ⟨hr1, hr6⟩ _).mono ?_); rintro e W8 ⟨rfl, rfl⟩)) | (go_at_call 38; ((with_reducible refine (HF9.out (w.alloc (exBox x A c)).drew HPV.out).mono ?_); rintro e W9 ⟨rfl, hb9⟩)))
      go_wp2
      go_ret
      exact ⟨by rw [HT2.out]; rw [HFI.out]; rfl, HB1.out.trans ((HBV.out.trans ((((Below.refl (w.alloc (exBox x A c)).heap.size (w.alloc (exBox x A c))).drew).trans hb9).mono HBV.out.size)).mono HB1.out.size)⟩
    · have bm : (x.f3 != 18446744073709551615) = true := by simpa using hmx
      have HT2 := Lib.hid (show S = ((((amongT fieldsT x.f2 ++ (sMask ++ hexT x.f3)) ++ sSp) ++ amongT relsT (x.f4 - 1)) ++ sSp) ++ numB x.f5 by rw [HT.out]; unfold testT; rw [if_neg hmx])
      clear hmx
      have c1 : ¬ 9223372036854775807 < 7 + (hexT x.f3).size := by omega
      have HF := Lib.hid (fmt16_any x.f3 HM.out.1 HM.out.2 (w.alloc (exBox x A c)) HE6.out.tz)
      go_wp2_with fail
      refine HF.out.mono ?_
      rintro e V6 ⟨rfl, hb7⟩
      have HBV := Lib.hid (HB6.out.trans (hb7.mono HB6.out.size)); have HEV := Lib.hid (HE6.out.below hb7)
      clear hb7 
      have e0 : ¬ 9223372036854775807 < 7 + (hexT x.f3).size + 1 := by have := HRZ.out; omega
      have e1 : ¬ 9223372036854775807 < 7 + (hexT x.f3).size + 1 + (amongT relsT (x.f4 - 1)).size := by have := HRZ.out; omega
      have e2 : ¬ 9223372036854775807 < 7 + (hexT x.f3).size + 1 + (amongT relsT (x.f4 - 1)).size + 1 := by have := HRZ.out; omega
      have e3 : ¬ 9223372036854775807 < 7 + (hexT x.f3).size + 1 + (amongT relsT (x.f4 - 1)).size + 1 + (numB x.f5).size := by have := HRZ.out; omega
      clear hnz hxz
      have hkV := (HBV.out.block w.heap.size (by have := HS1.out; omega)).trans HK1.out
      obtain ⟨-, -, -, -, v4, v5⟩ := box6 hkV
      have HPV := Lib.hid HEV.out.pow.drew
      clear hkV
      go_wp2
      go_region_held3 (fun w' => w'.cell? ⟨w.heap.size, 4, none⟩ = some (.int .i64 x.f4) ∧ w'.cell? ⟨w.heap.size, 5, none⟩ = some (.int .u64 x.f5))
        (first | go_keep | exact ⟨bel_cell hb9 v4, bel_cell hb9 v5⟩)
        (first | (go_at_call 48; ((with_reducible refine (sign_rany x.f4 ⟨hr1, hr6⟩ _).mono ?_); rintro e W8 ⟨rfl, rfl⟩)) | (go_at_call 38; ((with_reducible refine (HF9.out V6.drew HPV.out).mono ?_); rintro e W9 ⟨rfl, hb9⟩)))
      go_wp2
      go_ret
      exact ⟨by rw [HT2.out]; rw [HFI.out]; rfl, HB1.out.trans ((HBV.out.trans ((((Below.refl V6.heap.size V6).drew).trans hb9).mono HBV.out.size)).mono HB1.out.size)⟩
  · have bf : (x.f2 != 6) = true := by simpa using hfi
    obtain ⟨i, hi⟩ : ∃ i : Nat, x.f2 = (i : Int) := ⟨x.f2.toNat, by omega⟩
    have hi6 : i < 6 := by omega
    obtain ⟨D, hD⟩ : ∃ D : ByteArray, D = ⟨(Lib.decDigits i).toArray⟩ := ⟨_, rfl⟩
    have hdz : D.size = 1 := by rw [hD]; exact dec_one i hi6
    have HFI := Lib.hid (show amongT fieldsT x.f2 = (⟨#[97, 114, 103]⟩ : ByteArray) ++ D by rw [hD, arg_dec i hi6, among_eq _ _ hf0 (by show x.f2 < 7; omega), hi]; rfl)
    have hdz2 : D.size ≤ 1 := by omega
    have HI := Lib.hid (fun W => (show Calls Tryz.prog 47 #[.int .i64 x.f2] W fun e w' => e = .returned (.string D) ∧ w' = W by rw [hi, hD]; exact Tryz.strconv_Itoa_small i (by omega) W))
    have HB6 : Hid (Below (w.alloc (exBox x A c)).heap.size (w.alloc (exBox x A c)) (w.alloc (exBox x A c))) := Lib.hid (Below.refl _ _)
    have HE6 := HE1
    have f1 : ¬ 9223372036854775807 < 3 + D.size := by omega
    clear hfi hi hi6 hD hdz
    go_enter Tryz.func17, Tryz.ntmps17
    go_wp2_with fail
    refine (HI.out _).mono ?_
    rintro e W5 ⟨rfl, rfl⟩
    by_cases hmx : x.f3 = 18446744073709551615
    · have bm : (x.f3 != 18446744073709551615) = false := by simpa using hmx
      have HT2 := Lib.hid (show S = (((amongT fieldsT x.f2 ++ sSp) ++ amongT relsT (x.f4 - 1)) ++ sSp) ++ numB x.f5 by rw [HT.out]; unfold testT; rw [if_pos hmx])
      have HBV := HB6; have HEV := HE6
      clear hmx
      have e0 : ¬ 9223372036854775807 < 3 + D.size + 1 := by have := HRZ.out; omega
      have e1 : ¬ 9223372036854775807 < 3 + D.size + 1 + (amongT relsT (x.f4 - 1)).size := by have := HRZ.out; omega
      have e2 : ¬ 9223372036854775807 < 3 + D.size + 1 + (amongT relsT (x.f4 - 1)).size + 1 := by have := HRZ.out; omega
      have e3 : ¬ 9223372036854775807 < 3 + D.size + 1 + (amongT relsT (x.f4 - 1)).size + 1 + (numB x.f5).size := by have := HRZ.out; omega
      clear hnz hxz
      have hkV := (HBV.out.block w.heap.size (by have := HS1.out; omega)).trans HK1.out
      obtain ⟨-, -, -, -, v4, v5⟩ := box6 hkV
      have HPV := Lib.hid HEV.out.pow.drew
      clear hkV
      go_wp2
      go_region_held3 (fun w' => w'.cell? ⟨w.heap.size, 4, none⟩ = some (.int .i64 x.f4) ∧ w'.cell? ⟨w.heap.size, 5, none⟩ = some (.int .u64 x.f5))
        (first | go_keep | exact ⟨bel_cell hb9 v4, bel_cell hb9 v5⟩)
        (first | (go_at_call 48; ((with_reducible refine (sign_rany x.f4 ⟨hr1, hr6⟩ _).mono ?_); rintro e W8 ⟨rfl, rfl⟩)) | (go_at_call 38; ((with_reducible refine (HF9.out (w.alloc (exBox x A c)).drew HPV.out).mono ?_); rintro e W9 ⟨rfl, hb9⟩)))
      go_wp2
      go_ret
      exact ⟨by rw [HT2.out]; rw [HFI.out]; rfl, HB1.out.trans ((HBV.out.trans ((((Below.refl (w.alloc (exBox x A c)).heap.size (w.alloc (exBox x A c))).drew).trans hb9).mono HBV.out.size)).mono HB1.out.size)⟩
    · have bm : (x.f3 != 18446744073709551615) = true := by simpa using hmx
      have HT2 := Lib.hid (show S = ((((amongT fieldsT x.f2 ++ (sMask ++ hexT x.f3)) ++ sSp) ++ amongT relsT (x.f4 - 1)) ++ sSp) ++ numB x.f5 by rw [HT.out]; unfold testT; rw [if_neg hmx])
      clear hmx
      have c0 : ¬ 9223372036854775807 < 3 + D.size + 5 := by omega
      have c1 : ¬ 9223372036854775807 < 3 + D.size + 5 + (hexT x.f3).size := by omega
      have HF := Lib.hid (fmt16_any x.f3 HM.out.1 HM.out.2 (w.alloc (exBox x A c)) HE6.out.tz)
      go_wp2_with fail
      refine HF.out.mono ?_
      rintro e V6 ⟨rfl, hb7⟩
      have HBV := Lib.hid (HB6.out.trans (hb7.mono HB6.out.size)); have HEV := Lib.hid (HE6.out.below hb7)
      clear hb7 
      have e0 : ¬ 9223372036854775807 < 3 + D.size + 5 + (hexT x.f3).size + 1 := by have := HRZ.out; omega
      have e1 : ¬ 9223372036854775807 < 3 + D.size + 5 + (hexT x.f3).size + 1 + (amongT relsT (x.f4 - 1)).size := by have := HRZ.out; omega
      have e2 : ¬ 9223372036854775807 < 3 + D.size + 5 + (hexT x.f3).size + 1 + (amongT relsT (x.f4 - 1)).size + 1 := by have := HRZ.out; omega
      have e3 : ¬ 9223372036854775807 < 3 + D.size + 5 + (hexT x.f3).size + 1 + (amongT relsT (x.f4 - 1)).size + 1 + (numB x.f5).size := by have := HRZ.out; omega
      clear hnz hxz
      have hkV := (HBV.out.block w.heap.size (by have := HS1.out; omega)).trans HK1.out
      obtain ⟨-, -, -, -, v4, v5⟩ := box6 hkV
      have HPV := Lib.hid HEV.out.pow.drew
      clear hkV
      go_wp2
      go_region_held3 (fun w' => w'.cell? ⟨w.heap.size, 4, none⟩ = some (.int .i64 x.f4) ∧ w'.cell? ⟨w.heap.size, 5, none⟩ = some (.int .u64 x.f5))
        (first | go_keep | exact ⟨bel_cell hb9 v4, bel_cell hb9 v5⟩)
        (first | (go_at_call 48; ((with_reducible refine (sign_rany x.f4 ⟨hr1, hr6⟩ _).mono ?_); rintro e W8 ⟨rfl, rfl⟩)) | (go_at_call 38; ((with_reducible refine (HF9.out V6.drew HPV.out).mono ?_); rintro e W9 ⟨rfl, hb9⟩)))
      go_wp2
      go_ret
      exact ⟨by rw [HT2.out]; rw [HFI.out, ← ByteArray.append_assoc]; rfl, HB1.out.trans ((HBV.out.trans ((((Below.refl V6.heap.size V6).drew).trans hb9).mono HBV.out.size)).mono HB1.out.size)⟩

theorem rpe_any (n : Nat) : ∀ (x : Ex), SizeOf.sizeOf x < n → okE x → wE x ≤ 100000 → RPeC x := by
  induction n with
  | zero => intro x h; omega
  | succ n ih =>
  intro x hx hok hw
  have hok2 := hok
  rw [okE_eq] at hok2
  have hw2 := hw
  rw [wE_eq] at hw2
  have hlen := wL_len x.f1
  have hl100 : x.f1.length ≤ 100000 := by omega
  have IH := Lib.hid (fun (y : Ex) (hy : y ∈ x.f1) => ih y (by have := mem_size hy rfl; omega) ((okL_all _).1 hok2.2 y hy) (by have := wE_mem hy; omega))
  have ISZ := Lib.hid (fun (y : Ex) (hy : y ∈ x.f1) => (show (prE y).size ≤ 100000000 by have := prE_size y ((okL_all _).1 hok2.2 y hy); have := wE_mem hy; omega))
  have HSUM := Lib.hid (show sumT (prL x.f0 x.f1) + 6 * (prL x.f0 x.f1).length ≤ 6400000 by have := prL_size x.f0 x.f1 hok2.2; omega)
  obtain ⟨h1, h6, h3, h45, h126, ht, hz, hm, hv⟩ := hok2.1
  by_cases o12 : x.f0 = 1 ∨ x.f0 = 2
  · exact rpe_12 x o12
  · by_cases o3 : x.f0 = 3
    · exact rpe_3 x o3 (h3 o3) IH ISZ
    · by_cases o4 : x.f0 = 4
      · exact rpe_4 x o4 hl100 IH ISZ HSUM
      · by_cases o5 : x.f0 = 5
        · exact rpe_5 x o5 hl100 IH ISZ HSUM
        · have o6 : x.f0 = 6 := by omega
          have := ht o6
          exact rpe_6 x o6 ⟨this.1, this.2.1⟩ this.2.2 hm hv
end Go.Proofs.YtlmopoipjolbgaaGreatDoor.LexW
namespace Go.Proofs.YtlmopoipjolbgaaGreatDoor.LexW
open Go.RowKit Go.Shelf Go.Proofs.YtlmopoipjolbgaaGreatDoor.LexS Go.Proofs.YtlmopoipjolbgaaGreatDoorW.PrintWords
set_option linter.unusedVariables false
set_option linter.unusedSimpArgs false

abbrev poBox (x : Po) (A : Option Addr) (c : Nat) : Obj := .cells #[.string x.arch, .int .i64 x.foreign.f0, .int .u64 x.foreign.f1, .int .i64 x.dflt.f0, .int .u64 x.dflt.f1, .slice A x.rules.length c] 29
abbrev rlBox (y : Rl) (A : Option Addr) (c : Nat) (B : Option Addr) (d : Nat) : Obj := .cells #[.slice A y.f0.length c, .int .i64 y.f1.f0, .slice B y.f1.f1.length d, .int .i64 y.f1.f2, .int .u64 y.f1.f3, .int .i64 y.f1.f4, .int .u64 y.f1.f5, .int .i64 y.f2.f0, .int .u64 y.f2.f1] 70
theorem box9 {W : World} {b : Nat} {v0 v1 v2 v3 v4 v5 v6 v7 v8 : Value} {t : TypeId} (h : W.heap[b]? = some (.cells #[v0, v1, v2, v3, v4, v5, v6, v7, v8] t (0, 0))) : W.cell? ⟨b, 0, none⟩ = some v0 ∧ W.cell? ⟨b, 1, none⟩ = some v1 ∧ W.cell? ⟨b, 2, none⟩ = some v2 ∧ W.cell? ⟨b, 3, none⟩ = some v3 ∧ W.cell? ⟨b, 4, none⟩ = some v4 ∧ W.cell? ⟨b, 5, none⟩ = some v5 ∧ W.cell? ⟨b, 6, none⟩ = some v6 ∧ W.cell? ⟨b, 7, none⟩ = some v7 ∧ W.cell? ⟨b, 8, none⟩ = some v8 := by
  refine ⟨?_, ?_, ?_, ?_, ?_, ?_, ?_, ?_, ?_⟩ <;> simp [World.cell?, h]

set_option maxHeartbeats 8000000 in
set_option maxRecDepth 100000 in
theorem samePo_any (x : Po) (A0 : Option Addr) (c0 : Nat) (A1 : Option Addr) (c1 : Nat) (w : World) (h0 : kRl.C w A0 x.rules.length x.rules) (h1 : kRl.C w A1 x.rules.length x.rules) :
    Calls Tryz.prog 12 #[.agg #[.string x.arch, .int .i64 x.foreign.f0, .int .u64 x.foreign.f1, .int .i64 x.dflt.f0, .int .u64 x.dflt.f1, .slice A0 x.rules.length c0], .agg #[.string x.arch, .int .i64 x.foreign.f0, .int .u64 x.foreign.f1, .int .i64 x.dflt.f0, .int .u64 x.dflt.f1, .slice A1 x.rules.length c1]] w fun e w' => e = .returned (.bool true) ∧ Below w.heap.size w w' := by
  have hmax : x.rules.length ≤ 9223372036854775807 := h0.2.1
  have hal : Below w.heap.size w ((w.alloc (poBox x A0 c0)).alloc (poBox x A1 c1)) := ((Below.refl w.heap.size w).alloc (Nat.le_refl _) _).alloc (by simp) _
  have hb0 : ((w.alloc (poBox x A0 c0)).alloc (poBox x A1 c1)).heap[w.heap.size]? = some (.cells #[.string x.arch, .int .i64 x.foreign.f0, .int .u64 x.foreign.f1, .int .i64 x.dflt.f0, .int .u64 x.dflt.f1, .slice A0 x.rules.length c0] 29 (0, 0)) := blk_past _ (new_blk w _ _)
  have hb1 : ((w.alloc (poBox x A0 c0)).alloc (poBox x A1 c1)).heap[w.heap.size + 1]? = some (.cells #[.string x.arch, .int .i64 x.foreign.f0, .int .u64 x.foreign.f1, .int .i64 x.dflt.f0, .int .u64 x.dflt.f1, .slice A1 x.rules.length c1] 29 (0, 0)) := new_blk' (by simp) _ _
  have hsz : ((w.alloc (poBox x A0 c0)).alloc (poBox x A1 c1)).heap.size = w.heap.size + 2 := by simp
  obtain ⟨y0, y1, y2, y3, y4, y5⟩ := box6 hb0
  obtain ⟨z0, z1, z2, z3, z4, z5⟩ := box6 hb1
  have H0 := Lib.hid (Kd.C_below h0 hal); have H1 := Lib.hid (Kd.C_below h1 hal); have HB0 := Lib.hid hb0; have HB1 := Lib.hid hb1; have HAL := Lib.hid hal
  clear h0 h1 hal hb0 hb1
  have hs0 : (x.arch.toList == x.arch.toList) = true := beq_self_eq_true _
  have hn0 : (x.arch.toList != x.arch.toList) = false := by simp
  have hn1 : (x.foreign.f0 != x.foreign.f0) = false := by simp
  have hn2 : (x.foreign.f1 != x.foreign.f1) = false := by simp
  have hn3 : (x.dflt.f0 != x.dflt.f0) = false := by simp
  have hn4 : (x.dflt.f1 != x.dflt.f1) = false := by simp
  have hn5 : ((x.rules.length : Int) != (x.rules.length : Int)) = false := by simp
  go_enter Tryz.func12, Tryz.ntmps12
  go_wp2
  go_loopw [5] (fun vi wr => ∃ k : Nat, vi = .int .i64 k ∧ k ≤ x.rules.length ∧ Hid (Below ((w.alloc (poBox x A0 c0)).alloc (poBox x A1 c1)).heap.size ((w.alloc (poBox x A0 c0)).alloc (poBox x A1 c1)) wr)) (fun vi _ => x.rules.length - (intOf vi).toNat)
  case atStart => exact ⟨0, rfl, by omega, Lib.hid (Below.refl _ _)⟩
  case round =>
    obtain ⟨k, rfl, hk, HB⟩ := hrel
    clear y0 y1 y2 y3 y4 y5 z0 z1 z2 z3 z4 z5 hs0 hn0 hn1 hn2 hn3 hn4 hn5
    obtain ⟨-, -, -, -, -, y5⟩ := box6 ((HB.out.block _ (by rw [hsz]; omega)).trans HB0.out)
    obtain ⟨-, -, -, -, -, z5⟩ := box6 ((HB.out.block _ (by rw [hsz]; omega)).trans HB1.out)
    by_cases hlt : k < x.rules.length
    · have hltb : decide ((k : Int) < (x.rules.length : Int)) = true := by simpa using hlt
      have hC0 := Kd.C_below H0.out HB.out
      have hC1 := Kd.C_below H1.out HB.out
      obtain ⟨a0, A2, c2, B2, d2, e0, p0, p1, p2, p3, p4, p5, p6, p7, p8, pl, pc, pm, pd⟩ := at_Rl hC0 (k : Int) (by omega) (by omega)
      obtain ⟨a1, A3, c3, B3, d3, e1, q0, q1, q2, q3, q4, q5, q6, q7, q8, ql, qc, qm, qd⟩ := at_Rl hC1 (k : Int) (by omega) (by omega)
      cases e0; cases e1
      rw [Int.toNat_natCast] at p0 p1 p2 p3 p4 p5 p6 p7 p8 q0 q1 q2 q3 q4 q5 q6 q7 q8
      obtain ⟨y, hy⟩ : ∃ y, y = rd_Rl x.rules (k : Int) := ⟨_, rfl⟩
      rw [← hy] at p0 p1 p2 p3 p4 p5 p6 p7 p8 q0 q1 q2 q3 q4 q5 q6 q7 q8 pc qc pd qd
      clear hy pl pm ql qm
      have hwr : wrap64 ((k : Int) + 1) = (k : Int) + 1 := by unfold wrap64; omega
      have hal2 : Below wr.heap.size wr ((wr.alloc (rlBox y A2 c2 B2 d2)).alloc (rlBox y A3 c3 B3 d3)) := ((Below.refl wr.heap.size wr).alloc (Nat.le_refl _) _).alloc (by simp) _
      have hr0 : ((wr.alloc (rlBox y A2 c2 B2 d2)).alloc (rlBox y A3 c3 B3 d3)).heap[wr.heap.size]? = some (.cells #[.slice A2 y.f0.length c2, .int .i64 y.f1.f0, .slice B2 y.f1.f1.length d2, .int .i64 y.f1.f2, .int .u64 y.f1.f3, .int .i64 y.f1.f4, .int .u64 y.f1.f5, .int .i64 y.f2.f0, .int .u64 y.f2.f1] 70 (0, 0)) := blk_past _ (new_blk wr _ _)
      have hr1 : ((wr.alloc (rlBox y A2 c2 B2 d2)).alloc (rlBox y A3 c3 B3 d3)).heap[wr.heap.size + 1]? = some (.cells #[.slice A3 y.f0.length c3, .int .i64 y.f1.f0, .slice B3 y.f1.f1.length d3, .int .i64 y.f1.f2, .int .u64 y.f1.f3, .int .i64 y.f1.f4, .int .u64 y.f1.f5, .int .i64 y.f2.f0, .int .u64 y.f2.f1] 70 (0, 0)) := new_blk' (by simp) _ _
      have hsz2 : ((wr.alloc (rlBox y A2 c2 B2 d2)).alloc (rlBox y A3 c3 B3 d3)).heap.size = wr.heap.size + 2 := by simp
      obtain ⟨r0, r1, r2, r3, r4, r5, r6, r7, r8⟩ := box9 hr0
      obtain ⟨s0, s1, s2, s3, s4, s5, s6, s7, s8⟩ := box9 hr1
      have ov : ∀ {a : Addr} {v : Value}, wr.cell? a = some v → (wr.alloc (rlBox y A2 c2 B2 d2)).cell? a = some v := fun {a v} h => (World.cell?_alloc_some wr a _ (by rw [h]; rfl)).trans h
      have u5 := ov z5
      have v0 := ov q0; have v1 := ov q1; have v2 := ov q2; have v3 := ov q3; have v4 := ov q4; have v5 := ov q5; have v6 := ov q6; have v7 := ov q7; have v8 := ov q8
      clear ov
      have HS := Lib.hid (sameEx_any _ y.f1 (Nat.lt_succ_self _) B2 d2 B3 d3 _ (Kd.C_below pd hal2) (Kd.C_below qd hal2))
      have HP := Lib.hid (Kd.C_below pc hal2); have HQ := Lib.hid (Kd.C_below qc hal2); have HAL2 := Lib.hid hal2; have HR0 := Lib.hid hr0; have HR1 := Lib.hid hr1
      clear pc qc pd qd hC0 hC1 hal2 hr0 hr1
      go_wp2_with fail
      refine HS.out.mono ?_
      rintro e W5 ⟨rfl, hb5⟩
      clear r0 r1 r2 r3 r4 r5 r6 r7 r8 s0 s1 s2 s3 s4 s5 s6 s7 s8 u5 v0 v1 v2 v3 v4 v5 v6 v7 v8 y5 z5 p0 p1 p2 p3 p4 p5 p6 p7 p8 q0 q1 q2 q3 q4 q5 q6 q7 q8
      obtain ⟨r0, r1, r2, r3, r4, r5, r6, r7, r8⟩ := box9 ((hb5.block _ (by rw [hsz2]; omega)).trans HR0.out)
      obtain ⟨s0, s1, s2, s3, s4, s5, s6, s7, s8⟩ := box9 ((hb5.block _ (by rw [hsz2]; omega)).trans HR1.out)
      have HP5 := Lib.hid (Kd.C_below HP.out hb5); have HQ5 := Lib.hid (Kd.C_below HQ.out hb5)
      have HB5 := Lib.hid (HB.out.trans ((HAL2.out.trans (hb5.mono (by rw [hsz2]; omega))).mono HB.out.size))
      clear hb5
      have hd1 : (y.f2.f0 != y.f2.f0) = false := by simp
      have hd2 : (y.f2.f1 != y.f2.f1) = false := by simp
      have hd3 : ((y.f0.length : Int) != (y.f0.length : Int)) = false := by simp
      have hmax2 : y.f0.length ≤ 9223372036854775807 := HP5.out.2.1
      go_wp2
      go_loopw [9] (fun vj wi => ∃ j : Nat, vj = .int .i64 j ∧ j ≤ y.f0.length ∧ Drawn0 W5 wi) (fun vj _ => y.f0.length - (intOf vj).toNat)
      case atStart => exact ⟨0, rfl, by omega, Drawn0.refl _⟩
      case round =>
        obtain ⟨j, rfl, hj, ⟨m, rfl⟩⟩ := hrel
        by_cases hlt2 : j < y.f0.length
        · have hltb2 : decide ((j : Int) < (y.f0.length : Int)) = true := by simpa using hlt2
          have hwj : wrap64 ((j : Int) + 1) = (j : Int) + 1 := by unfold wrap64; omega
          obtain ⟨b0, e0, i0, i1⟩ := at_Cl HP5.out (j : Int) (by omega) (by omega)
          obtain ⟨b1, e1, j0, j1⟩ := at_Cl HQ5.out (j : Int) (by omega) (by omega)
          cases e0; cases e1
          rw [Int.toNat_natCast] at i0 i1 j0 j1
          obtain ⟨z, hz⟩ : ∃ z, z = rd_Cl y.f0 (j : Int) := ⟨_, rfl⟩
          rw [← hz] at i0 i1 j0 j1
          clear hz
          obtain ⟨zt, hzt⟩ : ∃ zt, zt = z.f0 := ⟨_, rfl⟩
          obtain ⟨zn, hzn⟩ : ∃ zn, zn = z.f1 := ⟨_, rfl⟩
          rw [← hzt] at i0 j0
          rw [← hzn] at i1 j1
          clear hzt hzn
          have hz0 : (zt.toList == zt.toList) = true := beq_self_eq_true _
          have hz0' : (zt.toList != zt.toList) = false := by simp
          have hz1 : (zn != zn) = false := by simp
          have hz1' : (zn == zn) = true := by simp
          go_wp2
          repeat (go_quiet (fail); try go_wp2)
          go_roundw
          case rel => exact ⟨j + 1, by simp, by omega, ⟨⟨_, rfl⟩⟩⟩
          case measure => simp [intOf]; omega
        · have hltb2 : decide ((j : Int) < (y.f0.length : Int)) = false := by simpa using hlt2
          have hle2 : y.f0.length ≤ j := by omega
          clear hlt2 hltb2
          go_wp2
          go_roundw
          case rel => exact ⟨k + 1, by simp, by omega, Lib.hid (HB5.out.trans ((Drawn0.below (show Drawn0 W5 (W5.drewN m) from ⟨⟨m, rfl⟩⟩)).mono HB5.out.size))⟩
          case measure => simp [intOf]; omega
    · have hltb : decide ((k : Int) < (x.rules.length : Int)) = false := by simpa using hlt
      have hle : x.rules.length ≤ k := by omega
      clear hlt hltb
      go_wp2
      go_ret
      exact ⟨rfl, HAL.out.trans (HB.out.mono (by rw [hsz]; omega))⟩
end Go.Proofs.YtlmopoipjolbgaaGreatDoor.LexW
