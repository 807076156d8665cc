/-
  The reference's inner, PrintExpr: as the program's. · The reference's PrintExpr: as the program's. · The reference's PrintExpr: a test; every expression. · The reference's Print: as the program's.
-/
import Derived.Test.YtlmopoipjolbgaaGreatDoorM07
import Derived.Test.YtlmopoipjolbgaaGreatDoorM09
import Derived.StillTailTactics
namespace Go.Proofs.YtlmopoipjolbgaaGreatDoor.LexW
open Go.RowKit Go.Shelf Go.Proofs.YtlmopoipjolbgaaGreatDoor.LexS Go.Proofs.YtlmopoipjolbgaaGreatDoorW.PrintWords
set_option linter.unusedVariables false
set_option linter.unusedSimpArgs false

def RPeC (x : Ex) : Prop := ∀ (A : Option Addr) (c : Nat) (w : World), EnvN w → kEx.C w A x.f1.length x.f1 →
    Calls Tryz.prog 17 #[.agg #[.int .i64 x.f0, .slice A x.f1.length c, .int .i64 x.f2, .int .u64 x.f3, .int .i64 x.f4, .int .u64 x.f5]] w fun e w' => e = .returned (.string (prE x)) ∧ Below w.heap.size w w'

set_option maxHeartbeats 2000000 in
set_option maxRecDepth 100000 in
theorem rinner_any (b : Bool) (x : Ex) (hx : RPeC x) (hz : (prE x).size ≤ 100000000) (A : Option Addr) (c : Nat) (w : World) (hE : EnvN w) (hC : kEx.C w A x.f1.length x.f1) :
    Calls Tryz.prog 46 #[.agg #[.int .i64 x.f0, .slice A x.f1.length c, .int .i64 x.f2, .int .u64 x.f3, .int .i64 x.f4, .int .u64 x.f5], .bool b] w fun e w' => e = .returned (.string (parT b (prE x))) ∧ Below w.heap.size w w' := by
  have hb1 : Below w.heap.size w (w.alloc (exBox x A c)) := (Below.refl _ w).alloc (Nat.le_refl _) _
  have hk1 : (w.alloc (exBox x A c)).heap[w.heap.size]? = some (.cells #[.int .i64 x.f0, .slice A x.f1.length c, .int .i64 x.f2, .int .u64 x.f3, .int .i64 x.f4, .int .u64 x.f5] 37 (0, 0)) := new_blk w _ _
  have HR := Lib.hid (hx A c _ (hE.below hb1) (Kd.C_below hC hb1))
  have HBB := Lib.hid hb1
  have c1 : ¬ 9223372036854775807 < 1 + (prE x).size := by omega
  have c2 : ¬ 9223372036854775807 < 1 + (prE x).size + 1 := by omega
  obtain ⟨y0, y1, y2, y3, y4, y5⟩ := box6 hk1
  clear hb1 hk1 hx hC hE hz
  cases b with
  | true =>
    go_enter Tryz.func46, Tryz.ntmps46
    go_wp2_with fail
    refine HR.out.mono ?_
    rintro e W2 ⟨rfl, hb⟩
    go_wp2
    go_ret
    exact ⟨rfl, HBB.out.trans (hb.mono HBB.out.size)⟩
  | false =>
    go_enter Tryz.func46, Tryz.ntmps46
    go_wp2_with fail
    refine HR.out.mono ?_
    rintro e W2 ⟨rfl, hb⟩
    go_wp2
    go_ret
    exact ⟨rfl, HBB.out.trans (hb.mono HBB.out.size)⟩

theorem prL_get (op : Int) (l : List Ex) (k : Nat) (h : k < l.length) : (prL op l)[k]'(by rw [prL_len]; exact h) = parT (aroundB op (rd_Ex l (k : Int)).f0) (prE (rd_Ex l (k : Int))) := by
  have hr : rd_Ex l (k : Int) = l[k] := by
    unfold rd_Ex
    rw [Int.toNat_natCast, List.getD_eq_getElem?_getD, List.getElem?_eq_getElem h]
    rfl
  simp only [hr, prL_map, List.getElem_map]
theorem sumT_take (l : List ByteArray) (k : Nat) : sumT (l.take k) ≤ sumT l := by
  induction l generalizing k with
  | nil => simp
  | cons a l ih =>
    cases k with
    | zero => simp [sumT]
    | succ k => have := ih k; rw [List.take_succ_cons, sumT_cons, sumT_cons]; omega
theorem joinT_first (sep a s : ByteArray) (l : List ByteArray) (ha : a = joinT sep (l.take 0)) (h : 0 < l.length) (hs : l[0] = s) : a ++ s = joinT sep (l.take (0 + 1)) := by
  rw [List.take_succ_eq_append_getElem h, hs, List.take_zero, List.nil_append, joinT_one, ha, List.take_zero, joinT_nil]
  exact ba_ext (by rw [ba_app]; rfl)
theorem joinT_next (sep a s : ByteArray) (l : List ByteArray) (k : Nat) (ha : a = joinT sep (l.take k)) (hk : 0 < k) (h : k < l.length) (hs : l[k] = s) : (a ++ sep) ++ s = joinT sep (l.take (k + 1)) := by
  rw [List.take_succ_eq_append_getElem h, hs, joinT_snoc _ _ _ (by intro e; have := congrArg List.length e; rw [List.length_take] at this; simp only [List.length_nil] at this; omega), ha]

set_option maxHeartbeats 8000000 in
set_option maxRecDepth 100000 in
theorem rpe_4 (x : Ex) (hop : x.f0 = 4) (hl100 : x.f1.length ≤ 100000) (IH : Hid (∀ (y : Ex), y ∈ x.f1 → RPeC y)) (ISZ : Hid (∀ (y : Ex), y ∈ x.f1 → (prE y).size ≤ 100000000)) (HSUM : Hid (sumT (prL x.f0 x.f1) + 6 * (prL x.f0 x.f1).length ≤ 6400000)) : RPeC x := by
  intro A c w hE hC
  have hb1 : Below w.heap.size w (w.alloc (exBox x A c)) := (Below.refl _ w).alloc (Nat.le_refl _) _
  have hk1 : (w.alloc (exBox x A c)).heap[w.heap.size]? = some (.cells #[.int .i64 x.f0, .slice A x.f1.length c, .int .i64 x.f2, .int .u64 x.f3, .int .i64 x.f4, .int .u64 x.f5] 37 (0, 0)) := new_blk w _ _
  have hs1 : (w.alloc (exBox x A c)).heap.size = w.heap.size + 1 := by simp
  obtain ⟨y0, y1, y2, y3, y4, y5⟩ := box6 hk1
  have HB1 := Lib.hid hb1; have HK1 := Lib.hid hk1; have HS1 := Lib.hid hs1; have HC1 := Lib.hid (Kd.C_below hC hb1); have HE1 := Lib.hid (hE.below hb1)
  have b1 : (x.f0 == 1) = false := by rw [hop]; decide
  have b2 : (x.f0 == 2) = false := by rw [hop]; decide
  have b3 : (x.f0 == 3) = false := by rw [hop]; decide
  have b4 : (x.f0 == 4) = true := by rw [hop]; decide
  have b5 : (x.f0 == 5) = false := by rw [hop]; decide
  obtain ⟨S, hS⟩ : ∃ S, S = prE x := ⟨_, rfl⟩
  rw [← hS]
  have HT := Lib.hid (show S = joinT sAndS (prL x.f0 x.f1) by rw [hS, prE_eq]; unfold nodeT; rw [if_neg (by omega), if_neg (by omega), if_neg (by omega), if_pos hop])
  have HOP := Lib.hid hop
  clear hb1 hk1 hs1 hC hE hS hop
  go_enter Tryz.func17, Tryz.ntmps17
  go_wp2
  show Code.wp _ _ _ _ (w.alloc (exBox x A c))
  generalize w.alloc (exBox x A c) = W1 at *
  clear y0 y1 y2 y3 y4 y5
  go_loopw [3, 4] (fun v3 v10 wr => ∃ (k : Nat) (a : ByteArray), v10 = .int .i64 k ∧ v3 = .string a ∧ k ≤ x.f1.length ∧ Hid (a = joinT sAndS ((prL x.f0 x.f1).take k)) ∧ Hid (Below W1.heap.size W1 wr)) (fun _ v10 _ => x.f1.length - (intOf v10).toNat)
  case atStart => exact ⟨0, nil0, rfl, rfl, by omega, Lib.hid (by rw [List.take_zero]; rfl), Lib.hid (Below.refl _ _)⟩
  case round =>
    obtain ⟨k, a, rfl, rfl, hk, HA, HB⟩ := hrel
    have hws := HB.out.size
    rw [HS1.out] at hws
    have HKr := Lib.hid ((HB.out.block w.heap.size (by rw [HS1.out]; omega)).trans HK1.out)
    have HEr := Lib.hid (HE1.out.below HB.out)
    have HCr := Lib.hid (Kd.C_below HC1.out HB.out)
    have haz : a.size ≤ 100000000 := by
      have h1 := joinT_size sAndS ((prL x.f0 x.f1).take k)
      have h2 := sumT_take (prL x.f0 x.f1) k
      have h3 := HSUM.out
      have h4 : ((prL x.f0 x.f1).take k).length ≤ x.f1.length := by rw [List.length_take, prL_len]; omega
      have h5 := Nat.mul_le_mul_left sAndS.size h4
      have h6 : sAndS.size ≤ 5 := by decide
      have h7 := Nat.mul_le_mul_right x.f1.length h6
      rw [← HA.out] at h1
      omega
    by_cases hlt : k < x.f1.length
    · have hltb : decide ((k : Int) < (x.f1.length : Int)) = true := by simpa using hlt
      obtain ⟨a0, A2, c2, e0, p0, p1, p2, p3, p4, p5, pl, pc⟩ := at_Ex HCr.out (k : Int) (by omega) (by omega)
      rw [Int.toNat_natCast] at p0 p1 p2 p3 p4 p5
      have hmem := rdEx_mem hlt
      have hget := prL_get x.f0 x.f1 k hlt
      have hIn := IH.out _ hmem
      have hSz := ISZ.out _ hmem
      generalize rd_Ex x.f1 (k : Int) = y at *
      have hal : Below wr.heap.size wr (wr.alloc (exBox y A2 c2)) := (Below.refl _ _).alloc (Nat.le_refl _) _
      have hk2 : (wr.alloc (exBox y A2 c2)).heap[wr.heap.size]? = some (.cells #[.int .i64 y.f0, .slice A2 y.f1.length c2, .int .i64 y.f2, .int .u64 y.f3, .int .i64 y.f4, .int .u64 y.f5] 37 (0, 0)) := new_blk wr _ _
      obtain ⟨z0, z1, z2, z3, z4, z5⟩ := box6 hk2
      obtain ⟨y0, y1, -, -, -, -⟩ := box6 HKr.out
      have q0 := pw_cell_below hal y0
      have q1 := pw_cell_below hal y1
      have HR := Lib.hid (fun b => rinner_any b y hIn hSz A2 c2 _ (HEr.out.below hal) (Kd.C_below pc hal))
      have HAL := Lib.hid hal
      obtain ⟨T, hT⟩ : ∃ T, T = parT (aroundB x.f0 y.f0) (prE y) := ⟨_, rfl⟩
      rw [← hT] at hget
      have HGET := Lib.hid hget; have HTT := Lib.hid hT
      have hTz : T.size ≤ 100000002 := by rw [hT]; exact Nat.le_trans (parT_size _ _) (by omega)
      have hwr := wrap_s (m := k) (by omega)
      have hlen := prL_len x.f0 x.f1
      have HLT := Lib.hid (show k < (prL x.f0 x.f1).length by omega)
      subst e0
      have d1 : ¬ 9223372036854775807 < a.size + 5 := by omega
      have d2 : ¬ 9223372036854775807 < a.size + 5 + T.size := by omega
      have d3 : ¬ 9223372036854775807 < a.size + T.size := by omega
      have HK0 : Hid (0 < k ∨ k = 0) := by by_cases h : k = 0; exact .inr h; exact .inl (by omega)
      clear hget hIn hSz hal hk2 pc pl hmem hT hTz haz hlen
      by_cases hkp : 0 < k
      · have hkb : decide ((0 : Int) < (k : Int)) = true := by simpa using hkp
        have HKP := Lib.hid hkp
        by_cases h5 : y.f0 = 5
        · have c5 : (y.f0 == 5) = true := by simpa using h5
          have hr : aroundB x.f0 y.f0 = true := by simp [aroundB, h5]
          have hTV : parT true (prE y) = T := by rw [HTT.out, hr]
          have HRV := Lib.hid (HR.out true)
          rw [hTV] at HRV
          clear HR hr hTV h5
          go_wp2_with fail
          refine HRV.out.mono ?_
          rintro e W5 ⟨rfl, hb5⟩
          have hbr := HAL.out.trans (hb5.mono HAL.out.size)
          have HB5 := Lib.hid (HB.out.trans (hbr.mono HB.out.size))
          clear hb5 hbr p0 p1 p2 p3 p4 p5 z0 z1 z2 z3 z4 z5 q0 q1 y0 y1
          go_wp2
          go_roundw
          case rel => exact ⟨k + 1, _, by simp, rfl, by omega, Lib.hid (joinT_next sAndS _ _ _ k HA.out HKP.out HLT.out HGET.out), HB5⟩
          case measure => simp [intOf]; omega
        have c5 : (y.f0 == 5) = false := by simpa using h5
        by_cases h4 : y.f0 = 4
        · have c4 : (y.f0 == 4) = true := by simpa using h4
          have hr : aroundB x.f0 y.f0 = true := by simp [aroundB, h4, HOP.out]
          have hTV : parT true (prE y) = T := by rw [HTT.out, hr]
          have HRV := Lib.hid (HR.out true)
          rw [hTV] at HRV
          clear HR hr hTV h5 h4
          go_wp2_with fail
          refine HRV.out.mono ?_
          rintro e W5 ⟨rfl, hb5⟩
          have hbr := HAL.out.trans (hb5.mono HAL.out.size)
          have HB5 := Lib.hid (HB.out.trans (hbr.mono HB.out.size))
          clear hb5 hbr p0 p1 p2 p3 p4 p5 z0 z1 z2 z3 z4 z5 q0 q1 y0 y1
          go_wp2
          go_roundw
          case rel => exact ⟨k + 1, _, by simp, rfl, by omega, Lib.hid (joinT_next sAndS _ _ _ k HA.out HKP.out HLT.out HGET.out), HB5⟩
          case measure => simp [intOf]; omega
        · have c4 : (y.f0 == 4) = false := by simpa using h4
          have hr : aroundB x.f0 y.f0 = false := by simp [aroundB, h4, h5]
          have hTV : parT false (prE y) = T := by rw [HTT.out, hr]
          have HRV := Lib.hid (HR.out false)
          rw [hTV] at HRV
          clear HR hr hTV h5 h4
          go_wp2_with fail
          refine HRV.out.mono ?_
          rintro e W5 ⟨rfl, hb5⟩
          have hbr := HAL.out.trans (hb5.mono HAL.out.size)
          have HB5 := Lib.hid (HB.out.trans (hbr.mono HB.out.size))
          clear hb5 hbr p0 p1 p2 p3 p4 p5 z0 z1 z2 z3 z4 z5 q0 q1 y0 y1
          go_wp2
          go_roundw
          case rel => exact ⟨k + 1, _, by simp, rfl, by omega, Lib.hid (joinT_next sAndS _ _ _ k HA.out HKP.out HLT.out HGET.out), HB5⟩
          case measure => simp [intOf]; omega
      · obtain rfl : k = 0 := by omega
        clear hkp
        simp only [Nat.zero_mul] at p0 p1 p2 p3 p4 p5
        rw [addr_add0 a0] at p0 p1 p2 p3 p4 p5
        by_cases h5 : y.f0 = 5
        · have c5 : (y.f0 == 5) = true := by simpa using h5
          have hr : aroundB x.f0 y.f0 = true := by simp [aroundB, h5]
          have hTV : parT true (prE y) = T := by rw [HTT.out, hr]
          have HRV := Lib.hid (HR.out true)
          rw [hTV] at HRV
          clear HR hr hTV h5
          go_wp2_with fail
          refine HRV.out.mono ?_
          rintro e W5 ⟨rfl, hb5⟩
          have hbr := HAL.out.trans (hb5.mono HAL.out.size)
          have HB5 := Lib.hid (HB.out.trans (hbr.mono HB.out.size))
          clear hb5 hbr p0 p1 p2 p3 p4 p5 z0 z1 z2 z3 z4 z5 q0 q1 y0 y1
          go_wp2
          go_roundw
          case rel => exact ⟨0 + 1, _, by simp, rfl, by omega, Lib.hid (joinT_first sAndS _ _ _ HA.out HLT.out HGET.out), HB5⟩
          case measure => simp [intOf]; omega
        have c5 : (y.f0 == 5) = false := by simpa using h5
        by_cases h4 : y.f0 = 4
        · have c4 : (y.f0 == 4) = true := by simpa using h4
          have hr : aroundB x.f0 y.f0 = true := by simp [aroundB, h4, HOP.out]
          have hTV : parT true (prE y) = T := by rw [HTT.out, hr]
          have HRV := Lib.hid (HR.out true)
          rw [hTV] at HRV
          clear HR hr hTV h5 h4
          go_wp2_with fail
          refine HRV.out.mono ?_
          rintro e W5 ⟨rfl, hb5⟩
          have hbr := HAL.out.trans (hb5.mono HAL.out.size)
          have HB5 := Lib.hid (HB.out.trans (hbr.mono HB.out.size))
          clear hb5 hbr p0 p1 p2 p3 p4 p5 z0 z1 z2 z3 z4 z5 q0 q1 y0 y1
          go_wp2
          go_roundw
          case rel => exact ⟨0 + 1, _, by simp, rfl, by omega, Lib.hid (joinT_first sAndS _ _ _ HA.out HLT.out HGET.out), HB5⟩
          case measure => simp [intOf]; omega
        · have c4 : (y.f0 == 4) = false := by simpa using h4
          have hr : aroundB x.f0 y.f0 = false := by simp [aroundB, h4, h5]
          have hTV : parT false (prE y) = T := by rw [HTT.out, hr]
          have HRV := Lib.hid (HR.out false)
          rw [hTV] at HRV
          clear HR hr hTV h5 h4
          go_wp2_with fail
          refine HRV.out.mono ?_
          rintro e W5 ⟨rfl, hb5⟩
          have hbr := HAL.out.trans (hb5.mono HAL.out.size)
          have HB5 := Lib.hid (HB.out.trans (hbr.mono HB.out.size))
          clear hb5 hbr p0 p1 p2 p3 p4 p5 z0 z1 z2 z3 z4 z5 q0 q1 y0 y1
          go_wp2
          go_roundw
          case rel => exact ⟨0 + 1, _, by simp, rfl, by omega, Lib.hid (joinT_first sAndS _ _ _ HA.out HLT.out HGET.out), HB5⟩
          case measure => simp [intOf]; omega
    · have hltb : decide ((k : Int) < (x.f1.length : Int)) = false := by simpa using hlt
      have hle : x.f1.length ≤ k := by omega
      have hBw : Below w.heap.size w wr := HB1.out.trans (HB.out.mono (by rw [HS1.out]; omega))
      have HAA := Lib.hid (show a = S by rw [HA.out, HT.out, List.take_of_length_le (by rw [prL_len]; omega)])
      have HBW := Lib.hid hBw
      obtain ⟨y0, y1, -, -, -, -⟩ := box6 HKr.out
      clear hlt hltb hBw haz
      go_wp2
      go_ret
      exact ⟨by rw [← HAA.out]; rfl, HBW.out⟩

set_option maxHeartbeats 8000000 in
set_option maxRecDepth 100000 in
theorem rpe_5 (x : Ex) (hop : x.f0 = 5) (hl100 : x.f1.length ≤ 100000) (IH : Hid (∀ (y : Ex), y ∈ x.f1 → RPeC y)) (ISZ : Hid (∀ (y : Ex), y ∈ x.f1 → (prE y).size ≤ 100000000)) (HSUM : Hid (sumT (prL x.f0 x.f1) + 6 * (prL x.f0 x.f1).length ≤ 6400000)) : RPeC x := by
  intro A c w hE hC
  have hb1 : Below w.heap.size w (w.alloc (exBox x A c)) := (Below.refl _ w).alloc (Nat.le_refl _) _
  have hk1 : (w.alloc (exBox x A c)).heap[w.heap.size]? = some (.cells #[.int .i64 x.f0, .slice A x.f1.length c, .int .i64 x.f2, .int .u64 x.f3, .int .i64 x.f4, .int .u64 x.f5] 37 (0, 0)) := new_blk w _ _
  have hs1 : (w.alloc (exBox x A c)).heap.size = w.heap.size + 1 := by simp
  obtain ⟨y0, y1, y2, y3, y4, y5⟩ := box6 hk1
  have HB1 := Lib.hid hb1; have HK1 := Lib.hid hk1; have HS1 := Lib.hid hs1; have HC1 := Lib.hid (Kd.C_below hC hb1); have HE1 := Lib.hid (hE.below hb1)
  have b1 : (x.f0 == 1) = false := by rw [hop]; decide
  have b2 : (x.f0 == 2) = false := by rw [hop]; decide
  have b3 : (x.f0 == 3) = false := by rw [hop]; decide
  have b5 : (x.f0 == 5) = true := by rw [hop]; decide
  have b4 : (x.f0 == 4) = false := by rw [hop]; decide
  obtain ⟨S, hS⟩ : ∃ S, S = prE x := ⟨_, rfl⟩
  rw [← hS]
  have HT := Lib.hid (show S = joinT sOrS (prL x.f0 x.f1) by rw [hS, prE_eq]; unfold nodeT; rw [if_neg (by omega), if_neg (by omega), if_neg (by omega), if_neg (by omega), if_pos hop])
  have HOP := Lib.hid hop
  clear hb1 hk1 hs1 hC hE hS hop
  go_enter Tryz.func17, Tryz.ntmps17
  go_wp2
  show Code.wp _ _ _ _ (w.alloc (exBox x A c))
  generalize w.alloc (exBox x A c) = W1 at *
  clear y0 y1 y2 y3 y4 y5
  go_loopw [3, 4] (fun v3 v10 wr => ∃ (k : Nat) (a : ByteArray), v10 = .int .i64 k ∧ v3 = .string a ∧ k ≤ x.f1.length ∧ Hid (a = joinT sOrS ((prL x.f0 x.f1).take k)) ∧ Hid (Below W1.heap.size W1 wr)) (fun _ v10 _ => x.f1.length - (intOf v10).toNat)
  case atStart => exact ⟨0, nil0, rfl, rfl, by omega, Lib.hid (by rw [List.take_zero]; rfl), Lib.hid (Below.refl _ _)⟩
  case round =>
    obtain ⟨k, a, rfl, rfl, hk, HA, HB⟩ := hrel
    have hws := HB.out.size
    rw [HS1.out] at hws
    have HKr := Lib.hid ((HB.out.block w.heap.size (by rw [HS1.out]; omega)).trans HK1.out)
    have HEr := Lib.hid (HE1.out.below HB.out)
    have HCr := Lib.hid (Kd.C_below HC1.out HB.out)
    have haz : a.size ≤ 100000000 := by
      have h1 := joinT_size sOrS ((prL x.f0 x.f1).take k)
      have h2 := sumT_take (prL x.f0 x.f1) k
      have h3 := HSUM.out
      have h4 : ((prL x.f0 x.f1).take k).length ≤ x.f1.length := by rw [List.length_take, prL_len]; omega
      have h5 := Nat.mul_le_mul_left sOrS.size h4
      have h6 : sOrS.size ≤ 5 := by decide
      have h7 := Nat.mul_le_mul_right x.f1.length h6
      rw [← HA.out] at h1
      omega
    by_cases hlt : k < x.f1.length
    · have hltb : decide ((k : Int) < (x.f1.length : Int)) = true := by simpa using hlt
      obtain ⟨a0, A2, c2, e0, p0, p1, p2, p3, p4, p5, pl, pc⟩ := at_Ex HCr.out (k : Int) (by omega) (by omega)
      rw [Int.toNat_natCast] at p0 p1 p2 p3 p4 p5
      have hmem := rdEx_mem hlt
      have hget := prL_get x.f0 x.f1 k hlt
      have hIn := IH.out _ hmem
      have hSz := ISZ.out _ hmem
      generalize rd_Ex x.f1 (k : Int) = y at *
      have hal : Below wr.heap.size wr (wr.alloc (exBox y A2 c2)) := (Below.refl _ _).alloc (Nat.le_refl _) _
      have hk2 : (wr.alloc (exBox y A2 c2)).heap[wr.heap.size]? = some (.cells #[.int .i64 y.f0, .slice A2 y.f1.length c2, .int .i64 y.f2, .int .u64 y.f3, .int .i64 y.f4, .int .u64 y.f5] 37 (0, 0)) := new_blk wr _ _
      obtain ⟨z0, z1, z2, z3, z4, z5⟩ := box6 hk2
      obtain ⟨y0, y1, -, -, -, -⟩ := box6 HKr.out
      have q0 := pw_cell_below hal y0
      have q1 := pw_cell_below hal y1
      have HR := Lib.hid (fun b => rinner_any b y hIn hSz A2 c2 _ (HEr.out.below hal) (Kd.C_below pc hal))
      have HAL := Lib.hid hal
      obtain ⟨T, hT⟩ : ∃ T, T = parT (aroundB x.f0 y.f0) (prE y) := ⟨_, rfl⟩
      rw [← hT] at hget
      have HGET := Lib.hid hget; have HTT := Lib.hid hT
      have hTz : T.size ≤ 100000002 := by rw [hT]; exact Nat.le_trans (parT_size _ _) (by omega)
      have hwr := wrap_s (m := k) (by omega)
      have hlen := prL_len x.f0 x.f1
      have HLT := Lib.hid (show k < (prL x.f0 x.f1).length by omega)
      subst e0
      have d1 : ¬ 9223372036854775807 < a.size + 4 := by omega
      have d2 : ¬ 9223372036854775807 < a.size + 4 + T.size := by omega
      have d3 : ¬ 9223372036854775807 < a.size + T.size := by omega
      have HK0 : Hid (0 < k ∨ k = 0) := by by_cases h : k = 0; exact .inr h; exact .inl (by omega)
      clear hget hIn hSz hal hk2 pc pl hmem hT hTz haz hlen
      by_cases hkp : 0 < k
      · have hkb : decide ((0 : Int) < (k : Int)) = true := by simpa using hkp
        have HKP := Lib.hid hkp
        by_cases h5 : y.f0 = 5
        · have c5 : (y.f0 == 5) = true := by simpa using h5
          have hr : aroundB x.f0 y.f0 = true := by simp [aroundB, h5]
          have hTV : parT true (prE y) = T := by rw [HTT.out, hr]
          have HRV := Lib.hid (HR.out true)
          rw [hTV] at HRV
          clear HR hr hTV h5
          go_wp2_with fail
          refine HRV.out.mono ?_
          rintro e W5 ⟨rfl, hb5⟩
          have hbr := HAL.out.trans (hb5.mono HAL.out.size)
          have HB5 := Lib.hid (HB.out.trans (hbr.mono HB.out.size))
          clear hb5 hbr p0 p1 p2 p3 p4 p5 z0 z1 z2 z3 z4 z5 q0 q1 y0 y1
          go_wp2
          go_roundw
          case rel => exact ⟨k + 1, _, by simp, rfl, by omega, Lib.hid (joinT_next sOrS _ _ _ k HA.out HKP.out HLT.out HGET.out), HB5⟩
          case measure => simp [intOf]; omega
        have c5 : (y.f0 == 5) = false := by simpa using h5
        by_cases h4 : y.f0 = 4
        · have c4 : (y.f0 == 4) = true := by simpa using h4
          have hr : aroundB x.f0 y.f0 = false := by simp [aroundB, h4, HOP.out]
          have hTV : parT false (prE y) = T := by rw [HTT.out, hr]
          have HRV := Lib.hid (HR.out false)
          rw [hTV] at HRV
          clear HR hr hTV h5 h4
          go_wp2_with fail
          refine HRV.out.mono ?_
          rintro e W5 ⟨rfl, hb5⟩
          have hbr := HAL.out.trans (hb5.mono HAL.out.size)
          have HB5 := Lib.hid (HB.out.trans (hbr.mono HB.out.size))
          clear hb5 hbr p0 p1 p2 p3 p4 p5 z0 z1 z2 z3 z4 z5 q0 q1 y0 y1
          go_wp2
          go_roundw
          case rel => exact ⟨k + 1, _, by simp, rfl, by omega, Lib.hid (joinT_next sOrS _ _ _ k HA.out HKP.out HLT.out HGET.out), HB5⟩
          case measure => simp [intOf]; omega
        · have c4 : (y.f0 == 4) = false := by simpa using h4
          have hr : aroundB x.f0 y.f0 = false := by simp [aroundB, h4, h5]
          have hTV : parT false (prE y) = T := by rw [HTT.out, hr]
          have HRV := Lib.hid (HR.out false)
          rw [hTV] at HRV
          clear HR hr hTV h5 h4
          go_wp2_with fail
          refine HRV.out.mono ?_
          rintro e W5 ⟨rfl, hb5⟩
          have hbr := HAL.out.trans (hb5.mono HAL.out.size)
          have HB5 := Lib.hid (HB.out.trans (hbr.mono HB.out.size))
          clear hb5 hbr p0 p1 p2 p3 p4 p5 z0 z1 z2 z3 z4 z5 q0 q1 y0 y1
          go_wp2
          go_roundw
          case rel => exact ⟨k + 1, _, by simp, rfl, by omega, Lib.hid (joinT_next sOrS _ _ _ k HA.out HKP.out HLT.out HGET.out), HB5⟩
          case measure => simp [intOf]; omega
      · obtain rfl : k = 0 := by omega
        clear hkp
        simp only [Nat.zero_mul] at p0 p1 p2 p3 p4 p5
        rw [addr_add0 a0] at p0 p1 p2 p3 p4 p5
        by_cases h5 : y.f0 = 5
        · have c5 : (y.f0 == 5) = true := by simpa using h5
          have hr : aroundB x.f0 y.f0 = true := by simp [aroundB, h5]
          have hTV : parT true (prE y) = T := by rw [HTT.out, hr]
          have HRV := Lib.hid (HR.out true)
          rw [hTV] at HRV
          clear HR hr hTV h5
          go_wp2_with fail
          refine HRV.out.mono ?_
          rintro e W5 ⟨rfl, hb5⟩
          have hbr := HAL.out.trans (hb5.mono HAL.out.size)
          have HB5 := Lib.hid (HB.out.trans (hbr.mono HB.out.size))
          clear hb5 hbr p0 p1 p2 p3 p4 p5 z0 z1 z2 z3 z4 z5 q0 q1 y0 y1
          go_wp2
          go_roundw
          case rel => exact ⟨0 + 1, _, by simp, rfl, by omega, Lib.hid (joinT_first sOrS _ _ _ HA.out HLT.out HGET.out), HB5⟩
          case measure => simp [intOf]; omega
        have c5 : (y.f0 == 5) = false := by simpa using h5
        by_cases h4 : y.f0 = 4
        · have c4 : (y.f0 == 4) = true := by simpa using h4
          have hr : aroundB x.f0 y.f0 = false := by simp [aroundB, h4, HOP.out]
          have hTV : parT false (prE y) = T := by rw [HTT.out, hr]
          have HRV := Lib.hid (HR.out false)
          rw [hTV] at HRV
          clear HR hr hTV h5 h4
          go_wp2_with fail
          refine HRV.out.mono ?_
          rintro e W5 ⟨rfl, hb5⟩
          have hbr := HAL.out.trans (hb5.mono HAL.out.size)
          have HB5 := Lib.hid (HB.out.trans (hbr.mono HB.out.size))
          clear hb5 hbr p0 p1 p2 p3 p4 p5 z0 z1 z2 z3 z4 z5 q0 q1 y0 y1
          go_wp2
          go_roundw
          case rel => exact ⟨0 + 1, _, by simp, rfl, by omega, Lib.hid (joinT_first sOrS _ _ _ HA.out HLT.out HGET.out), HB5⟩
          case measure => simp [intOf]; omega
        · have c4 : (y.f0 == 4) = false := by simpa using h4
          have hr : aroundB x.f0 y.f0 = false := by simp [aroundB, h4, h5]
          have hTV : parT false (prE y) = T := by rw [HTT.out, hr]
          have HRV := Lib.hid (HR.out false)
          rw [hTV] at HRV
          clear HR hr hTV h5 h4
          go_wp2_with fail
          refine HRV.out.mono ?_
          rintro e W5 ⟨rfl, hb5⟩
          have hbr := HAL.out.trans (hb5.mono HAL.out.size)
          have HB5 := Lib.hid (HB.out.trans (hbr.mono HB.out.size))
          clear hb5 hbr p0 p1 p2 p3 p4 p5 z0 z1 z2 z3 z4 z5 q0 q1 y0 y1
          go_wp2
          go_roundw
          case rel => exact ⟨0 + 1, _, by simp, rfl, by omega, Lib.hid (joinT_first sOrS _ _ _ HA.out HLT.out HGET.out), HB5⟩
          case measure => simp [intOf]; omega
    · have hltb : decide ((k : Int) < (x.f1.length : Int)) = false := by simpa using hlt
      have hle : x.f1.length ≤ k := by omega
      have hBw : Below w.heap.size w wr := HB1.out.trans (HB.out.mono (by rw [HS1.out]; omega))
      have HAA := Lib.hid (show a = S by rw [HA.out, HT.out, List.take_of_length_le (by rw [prL_len]; omega)])
      have HBW := Lib.hid hBw
      obtain ⟨y0, y1, -, -, -, -⟩ := box6 HKr.out
      clear hlt hltb hBw haz
      go_wp2
      go_ret
      exact ⟨by rw [← HAA.out]; rfl, HBW.out⟩
end Go.Proofs.YtlmopoipjolbgaaGreatDoor.LexW
namespace Go.Proofs.YtlmopoipjolbgaaGreatDoor.LexW
open Go.RowKit Go.Shelf Go.Proofs.YtlmopoipjolbgaaGreatDoor.LexS Go.Proofs.YtlmopoipjolbgaaGreatDoorW.PrintWords
set_option linter.unusedVariables false
set_option linter.unusedSimpArgs false

set_option maxHeartbeats 2000000 in
set_option maxRecDepth 100000 in
theorem rpe_12 (x : Ex) (hop : x.f0 = 1 ∨ x.f0 = 2) : RPeC x := by
  intro A c w hE hC
  have hb1 : Below w.heap.size w (w.alloc (exBox x A c)) := (Below.refl _ w).alloc (Nat.le_refl _) _
  have hk1 : (w.alloc (exBox x A c)).heap[w.heap.size]? = some (.cells #[.int .i64 x.f0, .slice A x.f1.length c, .int .i64 x.f2, .int .u64 x.f3, .int .i64 x.f4, .int .u64 x.f5] 37 (0, 0)) := new_blk w _ _
  obtain ⟨y0, y1, y2, y3, y4, y5⟩ := box6 hk1
  have HB1 := Lib.hid hb1
  obtain ⟨S, hS⟩ : ∃ S, S = prE x := ⟨_, rfl⟩
  rw [← hS]
  by_cases h1 : x.f0 = 1
  · have HT := Lib.hid (show S = sTrue by rw [hS, prE_eq]; unfold nodeT; rw [if_pos h1])
    have b1 : (x.f0 == 1) = true := by rw [h1]; decide
    clear hb1 hk1 hE hC hS hop h1
    go_enter Tryz.func17, Tryz.ntmps17
    go_wp2
    go_ret
    exact ⟨by rw [HT.out]; rfl, HB1.out⟩
  · have h2 : x.f0 = 2 := by omega
    have HT := Lib.hid (show S = sFalse by rw [hS, prE_eq]; unfold nodeT; rw [if_neg h1, if_pos h2])
    have b1 : (x.f0 == 1) = false := by rw [h2]; decide
    have b2 : (x.f0 == 2) = true := by rw [h2]; decide
    clear hb1 hk1 hE hC hS hop h1 h2
    go_enter Tryz.func17, Tryz.ntmps17
    go_wp2
    go_ret
    exact ⟨by rw [HT.out]; rfl, HB1.out⟩

theorem EnvN.drew {w : World} (h : EnvN w) : EnvN w.drew := h.below (Below.refl _ _).drew
set_option maxHeartbeats 4000000 in
set_option maxRecDepth 100000 in
theorem rpe_3 (x : Ex) (hop : x.f0 = 3) (hl : x.f1.length = 1) (IH : Hid (∀ (y : Ex), y ∈ x.f1 → RPeC y)) (ISZ : Hid (∀ (y : Ex), y ∈ x.f1 → (prE y).size ≤ 100000000)) : RPeC x := by
  intro A c w hE hC
  have hb1 : Below w.heap.size w (w.alloc (exBox x A c)) := (Below.refl _ w).alloc (Nat.le_refl _) _
  have hk1 : (w.alloc (exBox x A c)).heap[w.heap.size]? = some (.cells #[.int .i64 x.f0, .slice A x.f1.length c, .int .i64 x.f2, .int .u64 x.f3, .int .i64 x.f4, .int .u64 x.f5] 37 (0, 0)) := new_blk w _ _
  obtain ⟨y0, y1, y2, y3, y4, y5⟩ := box6 hk1
  have hC1 := Kd.C_below hC hb1
  obtain ⟨a0, A2, c2, e0, p0, p1, p2, p3, p4, p5, pl, pc⟩ := at_Ex hC1 ((0 : Nat) : Int) (by omega) (by omega)
  rw [Int.toNat_natCast, Nat.zero_mul] at p0 p1 p2 p3 p4 p5
  rw [addr_add0 a0] at p0 p1 p2 p3 p4 p5
  have hmem := rdEx_mem (l := x.f1) (k := 0) (by omega)
  have hget := prL_get x.f0 x.f1 0 (by omega)
  have hIn := IH.out _ hmem
  have hSz := ISZ.out _ hmem
  generalize rd_Ex x.f1 ((0 : Nat) : Int) = y at *
  have hpr : prL x.f0 x.f1 = [parT (aroundB x.f0 y.f0) (prE y)] := by
    have h1 : (prL x.f0 x.f1).length = 1 := by rw [prL_len, hl]
    match hp : prL x.f0 x.f1, h1 with
    | [t], _ => simp only [hp, List.getElem_cons_zero] at hget; rw [hget]
  obtain ⟨T, hT⟩ : ∃ T, T = parT (aroundB x.f0 y.f0) (prE y) := ⟨_, rfl⟩
  rw [← hT] at hpr
  obtain ⟨S, hS⟩ : ∃ S, S = prE x := ⟨_, rfl⟩
  rw [← hS]
  have HT := Lib.hid (show S = sNotS ++ T by rw [hS, prE_eq]; unfold nodeT; rw [if_neg (by omega), if_neg (by omega), if_pos hop, hpr, joinT_one])
  have hTz : T.size ≤ 100000002 := by rw [hT]; exact Nat.le_trans (parT_size _ _) (by omega)
  have d1 : ¬ 9223372036854775807 < 4 + T.size := by omega
  have b1 : (x.f0 == 1) = false := by rw [hop]; decide
  have b2 : (x.f0 == 2) = false := by rw [hop]; decide
  have b3 : (x.f0 == 3) = true := by rw [hop]; decide
  have HB1 := Lib.hid hb1
  have hlp : 0 < x.f1.length := by omega
  have HR := Lib.hid (fun b => rinner_any b y hIn hSz A2 c2 (w.alloc (exBox x A c)).drew (hE.below hb1).drew (Kd.C_below pc (Below.refl _ _).drew))
  have HHT := Lib.hid hT; have HOP := Lib.hid hop
  subst e0
  clear hb1 hk1 hE hC hC1 hS hop hpr hT hTz hIn hSz pc pl hmem hget hl
  obtain ⟨W2, hW2⟩ : ∃ W2, W2 = (w.alloc (exBox x (some a0) c)).drew := ⟨_, rfl⟩
  have y1 : W2.cell? ⟨w.heap.size, 1, none⟩ = some (.slice (some a0) x.f1.length c) := by rw [hW2]; exact y1
  have p0 : W2.cell? a0 = some (.int .i64 y.f0) := by rw [hW2]; exact p0
  have p1 : W2.cell? ⟨a0.block, a0.off + 1, none⟩ = some (.slice A2 y.f1.length c2) := by rw [hW2]; exact p1
  have p2 : W2.cell? ⟨a0.block, a0.off + 2, none⟩ = some (.int .i64 y.f2) := by rw [hW2]; exact p2
  have p3 : W2.cell? ⟨a0.block, a0.off + 3, none⟩ = some (.int .u64 y.f3) := by rw [hW2]; exact p3
  have p4 : W2.cell? ⟨a0.block, a0.off + 4, none⟩ = some (.int .i64 y.f4) := by rw [hW2]; exact p4
  have p5 : W2.cell? ⟨a0.block, a0.off + 5, none⟩ = some (.int .u64 y.f5) := by rw [hW2]; exact p5
  have hbw : Below w.heap.size w W2 := by rw [hW2]; exact HB1.out.trans (((Below.refl _ _).drew).mono HB1.out.size)
  have HBW := Lib.hid hbw; have HW2 := Lib.hid hW2
  rw [← hW2] at HR
  clear hbw hW2 HB1
  by_cases h4 : y.f0 = 4
  · have c4 : (y.f0 == 4) = true := by simpa using h4
    have hTV : parT true (prE y) = T := by rw [HHT.out, show aroundB x.f0 y.f0 = true by simp [aroundB, h4, HOP.out]]
    have HRV := Lib.hid (HR.out true)
    rw [hTV] at HRV
    clear HR hTV h4
    go_enter Tryz.func17, Tryz.ntmps17
    go_wp2
    refine wp_region_still_tail 18 (by kernel_rfl) (by kernel_rfl) ?_
    simp only [List.take_succ_cons, List.take_zero, List.drop_succ_cons, List.drop_zero]
    show wpStill _ _ (w.alloc (exBox x (some a0) c)).drew _ _ _
    rw [← HW2.out]
    repeat still_step
    refine wpStill_nil ?_
    show wpList _ _ _ _ _ (w.alloc (exBox x (some a0) c)).drew
    rw [← HW2.out]
    go_wp2_with fail
    refine HRV.out.mono ?_
    rintro e W5 ⟨rfl, hb5⟩
    go_wp2
    go_ret
    exact ⟨by rw [HT.out]; rfl, HBW.out.trans (hb5.mono HBW.out.size)⟩
  have c4 : (y.f0 == 4) = false := by simpa using h4
  by_cases h5 : y.f0 = 5
  · have c5 : (y.f0 == 5) = true := by simpa using h5
    have hTV : parT true (prE y) = T := by rw [HHT.out, show aroundB x.f0 y.f0 = true by simp [aroundB, h5]]
    have HRV := Lib.hid (HR.out true)
    rw [hTV] at HRV
    clear HR hTV h4 h5
    go_enter Tryz.func17, Tryz.ntmps17
    go_wp2
    refine wp_region_still_tail 18 (by kernel_rfl) (by kernel_rfl) ?_
    simp only [List.take_succ_cons, List.take_zero, List.drop_succ_cons, List.drop_zero]
    show wpStill _ _ (w.alloc (exBox x (some a0) c)).drew _ _ _
    rw [← HW2.out]
    repeat still_step
    refine wpStill_nil ?_
    show wpList _ _ _ _ _ (w.alloc (exBox x (some a0) c)).drew
    rw [← HW2.out]
    go_wp2_with fail
    refine HRV.out.mono ?_
    rintro e W5 ⟨rfl, hb5⟩
    go_wp2
    go_ret
    exact ⟨by rw [HT.out]; rfl, HBW.out.trans (hb5.mono HBW.out.size)⟩
  · have c5 : (y.f0 == 5) = false := by simpa using h5
    have hTV : parT false (prE y) = T := by rw [HHT.out, show aroundB x.f0 y.f0 = false by simp [aroundB, h4, h5]]
    have HRV := Lib.hid (HR.out false)
    rw [hTV] at HRV
    clear HR hTV h4 h5
    go_enter Tryz.func17, Tryz.ntmps17
    go_wp2
    refine wp_region_still_tail 18 (by kernel_rfl) (by kernel_rfl) ?_
    simp only [List.take_succ_cons, List.take_zero, List.drop_succ_cons, List.drop_zero]
    show wpStill _ _ (w.alloc (exBox x (some a0) c)).drew _ _ _
    rw [← HW2.out]
    repeat still_step
    refine wpStill_nil ?_
    show wpList _ _ _ _ _ (w.alloc (exBox x (some a0) c)).drew
    rw [← HW2.out]
    go_wp2_with fail
    refine HRV.out.mono ?_
    rintro e W5 ⟨rfl, hb5⟩
    go_wp2
    go_ret
    exact ⟨by rw [HT.out]; rfl, HBW.out.trans (hb5.mono HBW.out.size)⟩
end Go.Proofs.YtlmopoipjolbgaaGreatDoor.LexW
namespace Go.Proofs.YtlmopoipjolbgaaGreatDoor.LexW
open Go.RowKit Go.Shelf Go.Proofs.YtlmopoipjolbgaaGreatDoor.LexS Go.Proofs.YtlmopoipjolbgaaGreatDoorW.PrintWords
set_option linter.unusedVariables false
set_option linter.unusedSimpArgs false

theorem arg_dec (i : Nat) (h : i < 6) : (⟨#[97, 114, 103]⟩ : ByteArray) ++ ⟨(Lib.decDigits i).toArray⟩ = fieldsT.getD i nil0 := by
  match i, h with
  | 0, _ | 1, _ | 2, _ | 3, _ | 4, _ | 5, _ => rw [Lib.decDigits, dif_pos (by decide)]; rfl
theorem dec_one (i : Nat) (h : i < 6) : (⟨(Lib.decDigits i).toArray⟩ : ByteArray).size = 1 := by
  rw [Lib.decDigits, dif_pos (by omega)]; rfl

set_option maxHeartbeats 8000000 in
set_option maxRecDepth 100000 in
theorem rpe_6 (x : Ex) (hop : x.f0 = 6) (hf : 0 ≤ x.f2 ∧ x.f2 ≤ 6) (hr : 1 ≤ x.f4 ∧ x.f4 ≤ 6) (hm : U64 x.f3) (hv : U64 x.f5) : RPeC x := by
  intro A c w hE hC
  have hb1 : Below w.heap.size w (w.alloc (exBox x A c)) := (Below.refl _ w).alloc (Nat.le_refl _) _
  have hk1 : (w.alloc (exBox x A c)).heap[w.heap.size]? = some (.cells #[.int .i64 x.f0, .slice A x.f1.length c, .int .i64 x.f2, .int .u64 x.f3, .int .i64 x.f4, .int .u64 x.f5] 37 (0, 0)) := new_blk w _ _
  have hs1 : (w.alloc (exBox x A c)).heap.size = w.heap.size + 1 := by simp
  obtain ⟨y0, y1, y2, y3, y4, y5⟩ := box6 hk1
  have HB1 := Lib.hid hb1; have HK1 := Lib.hid hk1; have HS1 := Lib.hid hs1; have HE1 := Lib.hid (hE.below hb1)
  have b1 : (x.f0 == 1) = false := by rw [hop]; decide
  have b2 : (x.f0 == 2) = false := by rw [hop]; decide
  have b3 : (x.f0 == 3) = false := by rw [hop]; decide
  have b4 : (x.f0 == 4) = false := by rw [hop]; decide
  have b5 : (x.f0 == 5) = false := by rw [hop]; decide
  obtain ⟨S, hS⟩ : ∃ S, S = prE x := ⟨_, rfl⟩
  rw [← hS]
  have HT := Lib.hid (show S = testT x.f2 x.f3 x.f4 x.f5 by rw [hS, prE_eq]; unfold nodeT; rw [if_neg (by omega), if_neg (by omega), if_neg (by omega), if_neg (by omega), if_neg (by omega)])
  have HM := Lib.hid hm; have HV := Lib.hid hv
  obtain ⟨hf0, hf6⟩ := hf
  obtain ⟨hr1, hr6⟩ := hr
  have HRZ := Lib.hid (show (amongT relsT (x.f4 - 1)).size ≤ 2 by rw [among_eq _ _ (by omega) (by show x.f4 - 1 < 6; omega)]; exact relsT_size _ (by omega))
  have HF9 := Lib.hid (fun W hp => fmt10_any x.f5 hv.1 hv.2 W hp)
  have hnz := numB_size x.f5 hv
  have hxz := hexT_size x.f3
  clear hb1 hk1 hs1 hC hE hS hop hm hv
  by_cases hfi : x.f2 = 6
  · have bf : (x.f2 != 6) = false := by simpa using hfi
    have HFI := Lib.hid (show amongT fieldsT x.f2 = ⟨#[105, 112]⟩ by rw [hfi]; rfl)
    have HB6 : Hid (Below (w.alloc (exBox x A c)).heap.size (w.alloc (exBox x A c)) (w.alloc (exBox x A c))) := Lib.hid (Below.refl _ _)
    have HE6 := HE1
    clear hfi
    go_enter Tryz.func17, Tryz.ntmps17
    by_cases hmx : x.f3 = 18446744073709551615
    · have bm : (x.f3 != 18446744073709551615) = false := by simpa using hmx
      have HT2 := Lib.hid (show S = (((amongT fieldsT x.f2 ++ sSp) ++ amongT relsT (x.f4 - 1)) ++ sSp) ++ numB x.f5 by rw [HT.out]; unfold testT; rw [if_pos hmx])
      have HBV := HB6; have HEV := HE6
      clear hmx
      have e0 : ¬ 9223372036854775807 < 3 + (amongT relsT (x.f4 - 1)).size := by have := HRZ.out; omega
      have e1 : ¬ 9223372036854775807 < 3 + (amongT relsT (x.f4 - 1)).size + 1 := by have := HRZ.out; omega
      have e2 : ¬ 9223372036854775807 < 3 + (amongT relsT (x.f4 - 1)).size + 1 + (numB x.f5).size := by have := HRZ.out; omega
      clear hnz hxz
      have hkV := (HBV.out.block w.heap.size (by have := HS1.out; omega)).trans HK1.out
      obtain ⟨-, -, -, -, v4, v5⟩ := box6 hkV
      have HPV := Lib.hid HEV.out.pow.drew
      clear hkV
      go_wp2
      go_region_held3 (fun w' => w'.cell? ⟨w.heap.size, 4, none⟩ = some (.int .i64 x.f4) ∧ w'.cell? ⟨w.heap.size, 5, none⟩ = some (.int .u64 x.f5))
        (first | go_keep | exact ⟨bel_cell hb9 v4, bel_cell hb9 v5⟩)
        (first | (go_at_call 48; ((with_reducible refine (sign_rany x.f4 ⟨hr1, hr6⟩ _).mono ?_); rintro e W8 ⟨rfl, rfl⟩)) | (go_at_call 38; ((with_reducible refine (HF9.out (w.alloc (exBox x A c)).drew HPV.out).mono ?_); rintro e W9 ⟨rfl, hb9⟩)))
      go_wp2
      go_ret
      exact ⟨by rw [HT2.out]; rw [HFI.out]; rfl, HB1.out.trans ((HBV.out.trans ((((Below.refl (w.alloc (exBox x A c)).heap.size (w.alloc (exBox x A c))).drew).trans hb9).mono HBV.out.size)).mono HB1.out.size)⟩
    · have bm : (x.f3 != 18446744073709551615) = true := by simpa using hmx
      have HT2 := Lib.hid (show S = ((((amongT fieldsT x.f2 ++ (sMask ++ hexT x.f3)) ++ sSp) ++ amongT relsT (x.f4 - 1)) ++ sSp) ++ numB x.f5 by rw [HT.out]; unfold testT; rw [if_neg hmx])
      clear hmx
      have c1 : ¬ 9223372036854775807 < 7 + (hexT x.f3).size := by omega
      have HF := Lib.hid (fmt16_any x.f3 HM.out.1 HM.out.2 (w.alloc (exBox x A c)) HE6.out.tz)
      go_wp2_with fail
      refine HF.out.mono ?_
      rintro e V6 ⟨rfl, hb7⟩
      have HBV := Lib.hid (HB6.out.trans (hb7.mono HB6.out.size)); have HEV := Lib.hid (HE6.out.below hb7)
      clear hb7 
      have e0 : ¬ 9223372036854775807 < 7 + (hexT x.f3).size + 1 := by have := HRZ.out; omega
      have e1 : ¬ 9223372036854775807 < 7 + (hexT x.f3).size + 1 + (amongT relsT (x.f4 - 1)).size := by have := HRZ.out; omega
      have e2 : ¬ 9223372036854775807 < 7 + (hexT x.f3).size + 1 + (amongT relsT (x.f4 - 1)).size + 1 := by have := HRZ.out; omega
      have e3 : ¬ 9223372036854775807 < 7 + (hexT x.f3).size + 1 + (amongT relsT (x.f4 - 1)).size + 1 + (numB x.f5).size := by have := HRZ.out; omega
      clear hnz hxz
      have hkV := (HBV.out.block w.heap.size (by have := HS1.out; omega)).trans HK1.out
      obtain ⟨-, -, -, -, v4, v5⟩ := box6 hkV
      have HPV := Lib.hid HEV.out.pow.drew
      clear hkV
      go_wp2
      go_region_held3 (fun w' => w'.cell? ⟨w.heap.size, 4, none⟩ = some (.int .i64 x.f4) ∧ w'.cell? ⟨w.heap.size, 5, none⟩ = some (.int .u64 x.f5))
        (first | go_keep | exact ⟨bel_cell hb9 v4, bel_cell hb9 v5⟩)
        (first | (go_at_call 48; ((with_reducible refine (sign_rany x.f4 ⟨hr1, hr6⟩ _).mono ?_); rintro e W8 ⟨rfl, rfl⟩)) | (go_at_call 38; ((with_reducible refine (HF9.out V6.drew HPV.out).mono ?_); rintro e W9 ⟨rfl, hb9⟩)))
      go_wp2
      go_ret
      exact ⟨by rw [HT2.out]; rw [HFI.out]; rfl, HB1.out.trans ((HBV.out.trans ((((Below.refl V6.heap.size V6).drew).trans hb9).mono HBV.out.size)).mono HB1.out.size)⟩
  · have bf : (x.f2 != 6) = true := by simpa using hfi
    obtain ⟨i, hi⟩ : ∃ i : Nat, x.f2 = (i : Int) := ⟨x.f2.toNat, by omega⟩
    have hi6 : i < 6 := by omega
    obtain ⟨D, hD⟩ : ∃ D : ByteArray, D = ⟨(Lib.decDigits i).toArray⟩ := ⟨_, rfl⟩
    have hdz : D.size = 1 := by rw [hD]; exact dec_one i hi6
    have HFI := Lib.hid (show amongT fieldsT x.f2 = (⟨#[97, 114, 103]⟩ : ByteArray) ++ D by rw [hD, arg_dec i hi6, among_eq _ _ hf0 (by show x.f2 < 7; omega), hi]; rfl)
    have hdz2 : D.size ≤ 1 := by omega
    have HI := Lib.hid (fun W => (show Calls Tryz.prog 47 #[.int .i64 x.f2] W fun e w' => e = .returned (.string D) ∧ w' = W by rw [hi, hD]; exact Tryz.strconv_Itoa_small i (by omega) W))
    have HB6 : Hid (Below (w.alloc (exBox x A c)).heap.size (w.alloc (exBox x A c)) (w.alloc (exBox x A c))) := Lib.hid (Below.refl _ _)
    have HE6 := HE1
    have f1 : ¬ 9223372036854775807 < 3 + D.size := by omega
    clear hfi hi hi6 hD hdz
    go_enter Tryz.func17, Tryz.ntmps17
    go_wp2_with fail
    refine (HI.out _).mono ?_
    rintro e W5 ⟨rfl, rfl⟩
    by_cases hmx : x.f3 = 18446744073709551615
    · have bm : (x.f3 != 18446744073709551615) = false := by simpa using hmx
      have HT2 := Lib.hid (show S = (((amongT fieldsT x.f2 ++ sSp) ++ amongT relsT (x.f4 - 1)) ++ sSp) ++ numB x.f5 by rw [HT.out]; unfold testT; rw [if_pos hmx])
      have HBV := HB6; have HEV := HE6
      clear hmx
      have e0 : ¬ 9223372036854775807 < 3 + D.size + 1 := by have := HRZ.out; omega
      have e1 : ¬ 9223372036854775807 < 3 + D.size + 1 + (amongT relsT (x.f4 - 1)).size := by have := HRZ.out; omega
      have e2 : ¬ 9223372036854775807 < 3 + D.size + 1 + (amongT relsT (x.f4 - 1)).size + 1 := by have := HRZ.out; omega
      have e3 : ¬ 9223372036854775807 < 3 + D.size + 1 + (amongT relsT (x.f4 - 1)).size + 1 + (numB x.f5).size := by have := HRZ.out; omega
      clear hnz hxz
      have hkV := (HBV.out.block w.heap.size (by have := HS1.out; omega)).trans HK1.out
      obtain ⟨-, -, -, -, v4, v5⟩ := box6 hkV
      have HPV := Lib.hid HEV.out.pow.drew
      clear hkV
      go_wp2
      go_region_held3 (fun w' => w'.cell? ⟨w.heap.size, 4, none⟩ = some (.int .i64 x.f4) ∧ w'.cell? ⟨w.heap.size, 5, none⟩ = some (.int .u64 x.f5))
        (first | go_keep | exact ⟨bel_cell hb9 v4, bel_cell hb9 v5⟩)
        (first | (go_at_call 48; ((with_reducible refine (sign_rany x.f4 ⟨hr1, hr6⟩ _).mono ?_); rintro e W8 ⟨rfl, rfl⟩)) | (go_at_call 38; ((with_reducible refine (HF9.out (w.alloc (exBox x A c)).drew HPV.out).mono ?_); rintro e W9 ⟨rfl, hb9⟩)))
      go_wp2
      go_ret
      exact ⟨by rw [HT2.out]; rw [HFI.out]; rfl, HB1.out.trans ((HBV.out.trans ((((Below.refl (w.alloc (exBox x A c)).heap.size (w.alloc (exBox x A c))).drew).trans hb9).mono HBV.out.size)).mono HB1.out.size)⟩
    · have bm : (x.f3 != 18446744073709551615) = true := by simpa using hmx
      have HT2 := Lib.hid (show S = ((((amongT fieldsT x.f2 ++ (sMask ++ hexT x.f3)) ++ sSp) ++ amongT relsT (x.f4 - 1)) ++ sSp) ++ numB x.f5 by rw [HT.out]; unfold testT; rw [if_neg hmx])
      clear hmx
      have c0 : ¬ 9223372036854775807 < 3 + D.size + 5 := by omega
      have c1 : ¬ 9223372036854775807 < 3 + D.size + 5 + (hexT x.f3).size := by omega
      have HF := Lib.hid (fmt16_any x.f3 HM.out.1 HM.out.2 (w.alloc (exBox x A c)) HE6.out.tz)
      go_wp2_with fail
      refine HF.out.mono ?_
      rintro e V6 ⟨rfl, hb7⟩
      have HBV := Lib.hid (HB6.out.trans (hb7.mono HB6.out.size)); have HEV := Lib.hid (HE6.out.below hb7)
      clear hb7 
      have e0 : ¬ 9223372036854775807 < 3 + D.size + 5 + (hexT x.f3).size + 1 := by have := HRZ.out; omega
      have e1 : ¬ 9223372036854775807 < 3 + D.size + 5 + (hexT x.f3).size + 1 + (amongT relsT (x.f4 - 1)).size := by have := HRZ.out; omega
      have e2 : ¬ 9223372036854775807 < 3 + D.size + 5 + (hexT x.f3).size + 1 + (amongT relsT (x.f4 - 1)).size + 1 := by have := HRZ.out; omega
      have e3 : ¬ 9223372036854775807 < 3 + D.size + 5 + (hexT x.f3).size + 1 + (amongT relsT (x.f4 - 1)).size + 1 + (numB x.f5).size := by have := HRZ.out; omega
      clear hnz hxz
      have hkV := (HBV.out.block w.heap.size (by have := HS1.out; omega)).trans HK1.out
      obtain ⟨-, -, -, -, v4, v5⟩ := box6 hkV
      have HPV := Lib.hid HEV.out.pow.drew
      clear hkV
      go_wp2
      go_region_held3 (fun w' => w'.cell? ⟨w.heap.size, 4, none⟩ = some (.int .i64 x.f4) ∧ w'.cell? ⟨w.heap.size, 5, none⟩ = some (.int .u64 x.f5))
        (first | go_keep | exact ⟨bel_cell hb9 v4, bel_cell hb9 v5⟩)
        (first | (go_at_call 48; ((with_reducible refine (sign_rany x.f4 ⟨hr1, hr6⟩ _).mono ?_); rintro e W8 ⟨rfl, rfl⟩)) | (go_at_call 38; ((with_reducible refine (HF9.out V6.drew HPV.out).mono ?_); rintro e W9 ⟨rfl, hb9⟩)))
      go_wp2
      go_ret
      exact ⟨by rw [HT2.out]; rw [HFI.out, ← ByteArray.append_assoc]; rfl, HB1.out.trans ((HBV.out.trans ((((Below.refl V6.heap.size V6).drew).trans hb9).mono HBV.out.size)).mono HB1.out.size)⟩

theorem rpe_any (n : Nat) : ∀ (x : Ex), SizeOf.sizeOf x < n → okE x → wE x ≤ 100000 → RPeC x := by
  induction n with
  | zero => intro x h; omega
  | succ n ih =>
  intro x hx hok hw
  have hok2 := hok
  rw [okE_eq] at hok2
  have hw2 := hw
  rw [wE_eq] at hw2
  have hlen := wL_len x.f1
  have hl100 : x.f1.length ≤ 100000 := by omega
  have IH := Lib.hid (fun (y : Ex) (hy : y ∈ x.f1) => ih y (by have := mem_size hy rfl; omega) ((okL_all _).1 hok2.2 y hy) (by have := wE_mem hy; omega))
  have ISZ := Lib.hid (fun (y : Ex) (hy : y ∈ x.f1) => (show (prE y).size ≤ 100000000 by have := prE_size y ((okL_all _).1 hok2.2 y hy); have := wE_mem hy; omega))
  have HSUM := Lib.hid (show sumT (prL x.f0 x.f1) + 6 * (prL x.f0 x.f1).length ≤ 6400000 by have := prL_size x.f0 x.f1 hok2.2; omega)
  obtain ⟨h1, h6, h3, h45, h126, ht, hz, hm, hv⟩ := hok2.1
  by_cases o12 : x.f0 = 1 ∨ x.f0 = 2
  · exact rpe_12 x o12
  · by_cases o3 : x.f0 = 3
    · exact rpe_3 x o3 (h3 o3) IH ISZ
    · by_cases o4 : x.f0 = 4
      · exact rpe_4 x o4 hl100 IH ISZ HSUM
      · by_cases o5 : x.f0 = 5
        · exact rpe_5 x o5 hl100 IH ISZ HSUM
        · have o6 : x.f0 = 6 := by omega
          have := ht o6
          exact rpe_6 x o6 ⟨this.1, this.2.1⟩ this.2.2 hm hv
end Go.Proofs.YtlmopoipjolbgaaGreatDoor.LexW
namespace Go.Proofs.YtlmopoipjolbgaaGreatDoor.LexW
open Go.RowKit Go.Shelf Go.Proofs.YtlmopoipjolbgaaGreatDoor.LexS Go.Proofs.YtlmopoipjolbgaaGreatDoorW.PrintWords
set_option linter.unusedVariables false
set_option linter.unusedSimpArgs false

theorem pre_first (P a s : ByteArray) (l : List ByteArray) (ha : a = P ++ joinT sCommaS (l.take 0)) (h : 0 < l.length) (hs : l[0] = s) : a ++ s = P ++ joinT sCommaS (l.take (0 + 1)) := by
  rw [List.take_succ_eq_append_getElem h, hs, List.take_zero, List.nil_append, joinT_one, ha, List.take_zero, joinT_nil]
  congr 1
  exact ba_ext (by rw [ba_app]; simp [nil0])
theorem pre_next (P a s : ByteArray) (l : List ByteArray) (k : Nat) (ha : a = P ++ joinT sCommaS (l.take k)) (hk : 0 < k) (h : k < l.length) (hs : l[k] = s) : (a ++ sCommaS) ++ s = P ++ joinT sCommaS (l.take (k + 1)) := by
  rw [List.take_succ_eq_append_getElem h, hs, joinT_snoc _ _ _ (by intro e; have := congrArg List.length e; rw [List.length_take] at this; simp only [List.length_nil] at this; omega), ha]
  simp only [ByteArray.append_assoc]
theorem head_out (p : Po) : ((((((((⟨#[97, 114, 99, 104, 32]⟩ : ByteArray) ++ p.arch) ++ ⟨#[59, 10, 102, 111, 114, 101, 105, 103, 110, 32]⟩) ++ vdT p.foreign) ++ ⟨#[59, 10, 100, 101, 102, 97, 117, 108, 116, 32]⟩) ++ vdT p.dflt) ++ ⟨#[59, 10]⟩) : ByteArray).data.toList = outL p 0 := by
  have e : (((((((⟨#[97, 114, 99, 104, 32]⟩ : ByteArray) ++ p.arch) ++ ⟨#[59, 10, 102, 111, 114, 101, 105, 103, 110, 32]⟩) ++ vdT p.foreign) ++ ⟨#[59, 10, 100, 101, 102, 97, 117, 108, 116, 32]⟩) ++ vdT p.dflt) ++ ⟨#[59, 10]⟩) = headT p := rfl
  rw [e]
  simp [outL]
theorem rdCl_get (l : List Cl) (j : Nat) (h : j < l.length) : rd_Cl l (j : Int) = l[j] := by
  unfold rd_Cl
  rw [Int.toNat_natCast, List.getD_eq_getElem?_getD, List.getElem?_eq_getElem h]
  rfl

set_option maxHeartbeats 4000000 in
set_option maxRecDepth 100000 in
theorem rprint_any (p : Po) (hp : okP p) (hw : wP p ≤ 100000) (A : Option Addr) (c : Nat) (w : World) (hE : EnvN w) (hC : kRl.C w A p.rules.length p.rules) :
    Calls Tryz.prog 15 #[.agg #[.string p.arch, .int .i64 p.foreign.f0, .int .u64 p.foreign.f1, .int .i64 p.dflt.f0, .int .u64 p.dflt.f1, .slice A p.rules.length c]] w fun e w' => e = .returned (.string (prP p)) ∧ Below w.heap.size w w' := by
  have hb1 : Below w.heap.size w (w.alloc (poBox p A c)) := (Below.refl _ w).alloc (Nat.le_refl _) _
  have hk1 : (w.alloc (poBox p A c)).heap[w.heap.size]? = some (.cells #[.string p.arch, .int .i64 p.foreign.f0, .int .u64 p.foreign.f1, .int .i64 p.dflt.f0, .int .u64 p.dflt.f1, .slice A p.rules.length c] 29 (0, 0)) := new_blk w _ _
  have hs1 : (w.alloc (poBox p A c)).heap.size = w.heap.size + 1 := by simp
  have hC1 := Kd.C_below hC hb1
  have hE1 := hE.below hb1
  obtain ⟨S, hS⟩ : ∃ S, S = prP p := ⟨_, rfl⟩
  rw [← hS]
  have HS := Lib.hid hS
  have hrl : p.rules.length ≤ 512 := hp.many
  have HP := Lib.hid hp; have HW := Lib.hid hw
  clear hS hp hw hC hE
  go_enter Tryz.func15, Tryz.ntmps15
  go_wp2
  show Code.wp _ _ _ _ (w.alloc (poBox p A c))
  generalize w.alloc (poBox p A c) = W2 at *
  have HB1 := Lib.hid hb1; have HK1 := Lib.hid hk1; have HS1 := Lib.hid hs1; have HC1 := Lib.hid hC1; have HE1 := Lib.hid hE1
  obtain ⟨v0, v1, v2, v3, v4, v5⟩ := box6 hk1
  have HV1 := Lib.hid (rverdict_any p.foreign HP.out.forn W2.drew hE1.pow.drew)
  have HV2 := Lib.hid (fun W (hb : Below W2.drew.heap.size W2.drew W) => rverdict_any p.dflt HP.out.dflt W (HE1.out.pow.drew.below hb))
  have hz1 := vdT_size HP.out.forn
  have hz2 := vdT_size HP.out.dflt
  have hz3 := word_size HP.out.arch
  rw [← ba_size] at hz3
  have d1 : ¬ 9223372036854775807 < 5 + p.arch.size := by omega
  have d2 : ¬ 9223372036854775807 < 5 + p.arch.size + 10 := by omega
  have d3 : ¬ 9223372036854775807 < 5 + p.arch.size + 10 + (vdT p.foreign).size := by omega
  have d4 : ¬ 9223372036854775807 < 5 + p.arch.size + 10 + (vdT p.foreign).size + 10 := by omega
  have d5 : ¬ 9223372036854775807 < 5 + p.arch.size + 10 + (vdT p.foreign).size + 10 + (vdT p.dflt).size := by omega
  have d6 : ¬ 9223372036854775807 < 5 + p.arch.size + 10 + (vdT p.foreign).size + 10 + (vdT p.dflt).size + 2 := by omega
  clear hb1 hk1 hs1 hC1 hE1 hz1 hz2 hz3
  go_region_held3 (fun w' => w'.cell? ⟨w.heap.size, 0, none⟩ = some (.string p.arch) ∧ w'.cell? ⟨w.heap.size, 1, none⟩ = some (.int .i64 p.foreign.f0) ∧ w'.cell? ⟨w.heap.size, 2, none⟩ = some (.int .u64 p.foreign.f1) ∧ w'.cell? ⟨w.heap.size, 3, none⟩ = some (.int .i64 p.dflt.f0) ∧ w'.cell? ⟨w.heap.size, 4, none⟩ = some (.int .u64 p.dflt.f1))
    (first | go_keep | exact ⟨bel_cell hb5 v0, bel_cell hb5 v1, bel_cell hb5 v2, bel_cell hb5 v3, bel_cell hb5 v4⟩ | exact ⟨pw_cell_below hb6 (bel_cell hb5 v0), pw_cell_below hb6 (bel_cell hb5 v1), pw_cell_below hb6 (bel_cell hb5 v2), pw_cell_below hb6 (bel_cell hb5 v3), pw_cell_below hb6 (bel_cell hb5 v4)⟩)
    (first | (go_at_call 41; first | ((with_reducible refine HV1.out.mono ?_); rintro e W5 ⟨rfl, hb5⟩) | ((with_reducible refine (HV2.out W5 hb5).mono ?_); rintro e W6 ⟨rfl, hb6⟩)))
  have HB6 := Lib.hid (show Below W2.heap.size W2 W6 from ((Below.refl W2.heap.size W2).drew).trans (hb5.trans (hb6.mono hb5.size)))
  have HCC := Lib.hid (fun (W : World) (h : Below W2.heap.size W2 W) => Kd.C_below HC1.out h)
  have HEE := Lib.hid (fun (W : World) (h : Below W2.heap.size W2 W) => HE1.out.below h)
  clear hb5 hb6 v0 v1 v2 v3 v4 v5 d1 d2 d3 d4 d5 d6
  go_wp2
  go_loopw [3, 4] (fun v3 v4 wr => ∃ (k : Nat) (a : ByteArray), v3 = .string a ∧ v4 = .int .i64 k ∧ k ≤ p.rules.length ∧ Hid (a.data.toList = outL p k) ∧ Hid (Below W2.heap.size W2 wr)) (fun _ v4 _ => p.rules.length - (intOf v4).toNat)
  case atStart =>
    have h0 : 0 ≤ p.rules.length := Nat.zero_le _
    have h1 := Lib.hid (head_out p)
    refine ⟨0, _, rfl, rfl, h0, ?_, HB6⟩
    exact h1
  case round =>
    obtain ⟨k, a, rfl, rfl, hk, HA, HB⟩ := hrel
    obtain ⟨wo, rfl⟩ : ∃ wo : World, wo = wr := ⟨_, rfl⟩
    have haz : a.size ≤ 6400200 := by rw [ba_size, HA.out]; exact outL_len HP.out HW.out k
    have hws := HB.out.size
    obtain ⟨-, -, -, -, -, y5⟩ := box6 ((HB.out.block w.heap.size (box_lt HK1.out)).trans HK1.out)
    by_cases hlt : k < p.rules.length
    · have hltb : decide ((k : Int) < (p.rules.length : Int)) = true := by simpa using hlt
      have hwk := wrap_s (m := k) (by omega)
      have hB2 := HB.out
      obtain ⟨a0, A2, c2, B2, d2, e0, p0, p1, p2, p3, p4, p5, p6, p7, p8, pl, pc, pm, pd⟩ := at_Rl (HCC.out W2 (Below.refl _ _)) (k : Int) (by omega) (by omega)
      rw [Int.toNat_natCast] at p0 p1 p2 p3 p4 p5 p6 p7 p8
      have hmem := rdRl_mem hlt
      have hsucc := outL_succ p k hlt
      have hok := HP.out.rules _ hmem
      have hwR : wR (rd_Rl p.rules (k : Int)) ≤ 100000 := Nat.le_trans (wR_mem hmem) (by have := HW.out; unfold wP at this; exact this)
      generalize rd_Rl p.rules (k : Int) = r at *
      have HSUCC := Lib.hid hsucc; have HOK := Lib.hid hok; have HWR2 := Lib.hid hwR
      have hcl : r.f0.length ≤ 100000 := by unfold wR at hwR; omega
      have p0 := pw_cell_below hB2 p0; have p1 := pw_cell_below hB2 p1; have p2 := pw_cell_below hB2 p2; have p3 := pw_cell_below hB2 p3; have p4 := pw_cell_below hB2 p4; have p5 := pw_cell_below hB2 p5; have p6 := pw_cell_below hB2 p6; have p7 := pw_cell_below hB2 p7; have p8 := pw_cell_below hB2 p8
      have HCL := Lib.hid (fun (W : World) (h : Below W2.heap.size W2 W) => Kd.C_below pc h)
      have HEX := Lib.hid (fun (W : World) (h : Below W2.heap.size W2 W) => Kd.C_below pd h)
      have hal4 : Below wo.heap.size wo (wo.alloc (rlBox r A2 c2 B2 d2)) := (Below.refl _ _).alloc (Nat.le_refl _) _
      have hxb4 : (wo.alloc (rlBox r A2 c2 B2 d2)).heap[wo.heap.size]? = some (.cells #[.slice A2 r.f0.length c2, .int .i64 r.f1.f0, .slice B2 r.f1.f1.length d2, .int .i64 r.f1.f2, .int .u64 r.f1.f3, .int .i64 r.f1.f4, .int .u64 r.f1.f5, .int .i64 r.f2.f0, .int .u64 r.f2.f1] 70 (0, 0)) := new_blk wo _ _
      have HAL4 := Lib.hid hal4; have HXB4 := Lib.hid hxb4
      have d1 : ¬ 9223372036854775807 < a.size + 3 := by omega
      subst e0
      clear hsucc hok hwR pc pd pl pm hal4 hmem hB2
      go_wp2
      show Code.wp _ _ _ _ (wo.alloc (rlBox r A2 c2 B2 d2))
      generalize wo.alloc (rlBox r A2 c2 B2 d2) = W4 at *
      clear p0 p1 p2 p3 p4 p5 p6 p7 p8 hxb4 d1 y5
      have HB4 := Lib.hid (show Below W2.heap.size W2 W4 from HB.out.trans (HAL4.out.mono HB.out.size))
      go_loopw [3, 6] (fun v3 v6 wi => ∃ (j : Nat) (b : ByteArray), v3 = .string b ∧ v6 = .int .i64 j ∧ j ≤ r.f0.length ∧ Hid (b = (a ++ sOnS) ++ joinT sCommaS ((r.f0.map callT).take j)) ∧ Hid (Below W4.heap.size W4 wi)) (fun _ v6 _ => r.f0.length - (intOf v6).toNat)
      case atStart => exact ⟨0, _, rfl, rfl, by omega, Lib.hid (ba_ext (by rw [ba_app (a ++ sOnS), List.take_zero, joinT_nil]; show (a ++ sOnS).data.toList = (a ++ sOnS).data.toList ++ []; rw [List.append_nil])), Lib.hid (Below.refl _ _)⟩
      case round =>
        obtain ⟨j, b, rfl, rfl, hj, HL, HI⟩ := hrel
        have HBi := Lib.hid (show Below W2.heap.size W2 wr from HB4.out.trans (HI.out.mono HB4.out.size))
        have HXr := Lib.hid ((HI.out.block wo.heap.size (box_lt HXB4.out)).trans HXB4.out)
        obtain ⟨q0, q1, q2, q3, q4, q5, q6, q7, q8⟩ := box9 HXr.out
        have hbz : b.size ≤ 16400300 := by
          have h1 := joinT_size sCommaS ((r.f0.map callT).take j)
          have h2 := sumT_take (r.f0.map callT) j
          have h3 := calls_size r.f0 HOK.out.calls
          have h4 : ((r.f0.map callT).take j).length ≤ r.f0.length := by rw [List.length_take, List.length_map]; omega
          have h5 : sCommaS.size = 2 := rfl
          have h6 : sOnS.size = 3 := rfl
          rw [h5] at h1
          rw [HL.out]
          simp only [ByteArray.size_append]
          omega
        by_cases hjl : j < r.f0.length
        · have hjlb : decide ((j : Int) < (r.f0.length : Int)) = true := by simpa using hjl
          have hwj := wrap_s (m := j) (by omega)
          obtain ⟨a1, e1, i0, i1⟩ := at_Cl (HCL.out wr HBi.out) (j : Int) (by omega) (by omega)
          rw [Int.toNat_natCast] at i0 i1
          have hcmem : rd_Cl r.f0 (j : Int) ∈ r.f0 := by rw [rdCl_get r.f0 j hjl]; exact List.getElem_mem hjl
          have hokc := HOK.out.calls _ hcmem
          have hget : (r.f0.map callT)[j]'(by rw [List.length_map]; exact hjl) = callT (rd_Cl r.f0 (j : Int)) := by simp only [List.getElem_map, rdCl_get r.f0 j hjl]
          obtain ⟨y, hy⟩ : ∃ y, y = rd_Cl r.f0 (j : Int) := ⟨_, rfl⟩
          rw [← hy] at i0 i1 hokc hget
          clear hy hcmem
          have HLT := Lib.hid (show j < (r.f0.map callT).length by rw [List.length_map]; exact hjl)
          have HGET := Lib.hid hget
          have hcz := callT_size hokc
          obtain ⟨ct, cn⟩ := y
          dsimp only at i0 i1
          have HOKC := Lib.hid hokc
          obtain ⟨T, hT⟩ : ∃ T, T = callT ⟨ct, cn⟩ := ⟨_, rfl⟩
          have HTT := Lib.hid hT
          rw [← hT] at hcz
          clear hget hokc hT
          by_cases hjp : 0 < j
          · have hjb : decide ((0 : Int) < (j : Int)) = true := by simpa using hjp
            have HKP := Lib.hid hjp
            have d2 : ¬ 9223372036854775807 < b.size + 2 := by omega
            have d3 : ¬ 9223372036854775807 < b.size + 2 + T.size := by omega
            by_cases hct : ct = nil0
            · have hnum : U64 cn := by
                rcases HOKC.out with ⟨_, h⟩ | ⟨h, h2⟩
                · exact h
                · exfalso; simp only at h2; rw [hct] at h2; exact absurd h2 (by decide)
              have hTv : numB cn = T := by rw [HTT.out]; unfold callT; rw [if_pos hct]
              have HF := Lib.hid (fmt10_any cn hnum.1 hnum.2 wr (HEE.out wr HBi.out).pow)
              rw [hTv] at HF
              have g2 : ct.toList = [] := empty_yes (by rw [hct]; rfl)
              clear hct hnum hTv hcz hbz
              subst e1
              go_wp2_with fail
              refine HF.out.mono ?_
              rintro e W5 ⟨rfl, hb5⟩
              have HI5 := Lib.hid (HI.out.trans (hb5.mono HI.out.size))
              clear hb5 i0 i1 q0 q1 q2 q3 q4 q5 q6 q7 q8
              go_wp2
              go_roundw
              case rel => exact ⟨j + 1, _, rfl, by simp, by omega, Lib.hid (pre_next _ _ _ _ j HL.out HKP.out HLT.out (by rw [HGET.out, ← HTT.out])), HI5⟩
              case measure => simp [intOf]; omega
            · have hTv : ct = T := by rw [HTT.out]; unfold callT; rw [if_neg hct]
              have g2 : ct.toList.isEmpty = false := empty_no (by rcases Nat.eq_zero_or_pos ct.size with h | h; exact absurd (ba_empty h) hct; exact h)
              rw [hTv] at g2 i0
              clear hct hTv hcz hbz
              subst e1
              go_wp2
              go_roundw
              case rel => exact ⟨j + 1, _, rfl, by simp, by omega, Lib.hid (pre_next _ _ _ _ j HL.out HKP.out HLT.out (by rw [HGET.out, ← HTT.out])), HI⟩
              case measure => simp [intOf]; omega
          · obtain rfl : j = 0 := by omega
            have d3 : ¬ 9223372036854775807 < b.size + T.size := by omega
            simp only [Nat.zero_mul] at i0 i1
            rw [addr_add0 a1] at i0 i1
            clear hjp
            by_cases hct : ct = nil0
            · have hnum : U64 cn := by
                rcases HOKC.out with ⟨_, h⟩ | ⟨h, h2⟩
                · exact h
                · exfalso; simp only at h2; rw [hct] at h2; exact absurd h2 (by decide)
              have hTv : numB cn = T := by rw [HTT.out]; unfold callT; rw [if_pos hct]
              have HF := Lib.hid (fmt10_any cn hnum.1 hnum.2 wr (HEE.out wr HBi.out).pow)
              rw [hTv] at HF
              have g2 : ct.toList = [] := empty_yes (by rw [hct]; rfl)
              clear hct hnum hTv hcz hbz
              subst e1
              go_wp2_with fail
              refine HF.out.mono ?_
              rintro e W5 ⟨rfl, hb5⟩
              have HI5 := Lib.hid (HI.out.trans (hb5.mono HI.out.size))
              clear hb5 i0 i1 q0 q1 q2 q3 q4 q5 q6 q7 q8
              go_wp2
              go_roundw
              case rel => exact ⟨0 + 1, _, rfl, by simp, by omega, Lib.hid (pre_first _ _ _ _ HL.out HLT.out (by rw [HGET.out, ← HTT.out])), HI5⟩
              case measure => simp [intOf]; omega
            · have hTv : ct = T := by rw [HTT.out]; unfold callT; rw [if_neg hct]
              have g2 : ct.toList.isEmpty = false := empty_no (by rcases Nat.eq_zero_or_pos ct.size with h | h; exact absurd (ba_empty h) hct; exact h)
              rw [hTv] at g2 i0
              clear hct hTv hcz hbz
              subst e1
              go_wp2
              go_roundw
              case rel => exact ⟨0 + 1, _, rfl, by simp, by omega, Lib.hid (pre_first _ _ _ _ HL.out HLT.out (by rw [HGET.out, ← HTT.out])), HI⟩
              case measure => simp [intOf]; omega
        · have hjlb : decide ((j : Int) < (r.f0.length : Int)) = false := by simpa using hjl
          have hle : r.f0.length ≤ j := by omega
          have hll : (r.f0.map callT).take j = r.f0.map callT := by rw [List.take_of_length_le (by rw [List.length_map]; exact hle)]
          have HLL := Lib.hid (show b = (a ++ sOnS) ++ joinT sCommaS (r.f0.map callT) by rw [HL.out, hll])
          have hvz := vdT_size HOK.out.verd
          clear hjl hll HL
          by_cases hw1 : r.f1.f0 = 1
          · have bw : (r.f1.f0 != 1) = false := by simpa using hw1
            have HFIN := Lib.hid (show (((b ++ sDoS) ++ vdT r.f2) ++ sSemiN).data.toList = outL p (k + 1) by
              rw [HSUCC.out, HLL.out, ← HA.out]; unfold ruleT whenT; rw [if_pos hw1]; simp only [ba_app, List.append_assoc]; rfl)
            have e0 : ¬ 9223372036854775807 < b.size + 4 := by omega
            have e1 : ¬ 9223372036854775807 < b.size + 4 + (vdT r.f2).size := by omega
            have e2 : ¬ 9223372036854775807 < b.size + 4 + (vdT r.f2).size + 2 := by omega
            have HVD := Lib.hid (rverdict_any r.f2 HOK.out.verd wr (HEE.out wr HBi.out).pow)
            clear hw1 hvz hbz
            go_wp2_with fail
            refine HVD.out.mono ?_
            rintro e V9 ⟨rfl, hb9⟩
            have HB9 := Lib.hid (HBi.out.trans (hb9.mono HBi.out.size))
            clear hb9 q0 q1 q2 q3 q4 q5 q6 q7 q8
            go_wp2
            go_roundw
            case rel => exact ⟨k + 1, _, rfl, by simp, by omega, Lib.hid (by have := HFIN.out; exact this), HB9⟩
            case measure => simp [intOf]; omega
          · have bw : (r.f1.f0 != 1) = true := by simpa using hw1
            have hwe : wE r.f1 ≤ 100000 := by have := HWR2.out; unfold wR at this; omega
            have hpz := prE_size r.f1 HOK.out.cond
            have hpz2 : (prE r.f1).size ≤ 6400000 := by omega
            have HPE := Lib.hid (rpe_any _ r.f1 (Nat.lt_succ_self _) HOK.out.cond hwe B2 d2 wr (HEE.out wr HBi.out) (HEX.out wr HBi.out))
            have HFIN := Lib.hid (show (((((b ++ sWhenS) ++ prE r.f1) ++ sDoS) ++ vdT r.f2) ++ sSemiN).data.toList = outL p (k + 1) by
              rw [HSUCC.out, HLL.out, ← HA.out]; unfold ruleT whenT; rw [if_neg hw1]; simp only [ba_app, List.append_assoc])
            have f0 : ¬ 9223372036854775807 < b.size + 6 := by omega
            have f1 : ¬ 9223372036854775807 < b.size + 6 + (prE r.f1).size := by omega
            have e0 : ¬ 9223372036854775807 < b.size + 6 + (prE r.f1).size + 4 := by omega
            have e1 : ¬ 9223372036854775807 < b.size + 6 + (prE r.f1).size + 4 + (vdT r.f2).size := by omega
            have e2 : ¬ 9223372036854775807 < b.size + 6 + (prE r.f1).size + 4 + (vdT r.f2).size + 2 := by omega
            clear hw1 hwe hpz hpz2 hvz hbz
            go_wp2_with fail
            refine HPE.out.mono ?_
            rintro e W7 ⟨rfl, hb7⟩
            have HB7 := Lib.hid (HBi.out.trans (hb7.mono HBi.out.size))
            obtain ⟨-, -, -, -, -, -, -, x7, x8⟩ := box9 ((hb7.block wo.heap.size (box_lt HXr.out)).trans HXr.out)
            have HVD := Lib.hid (rverdict_any r.f2 HOK.out.verd W7 (HEE.out W7 HB7.out).pow)
            clear hb7 q0 q1 q2 q3 q4 q5 q6 q7 q8
            go_wp2_with fail
            refine HVD.out.mono ?_
            rintro e V9 ⟨rfl, hb9⟩
            have HB9 := Lib.hid (HB7.out.trans (hb9.mono HB7.out.size))
            clear hb9 x7 x8
            go_wp2
            go_roundw
            case rel => exact ⟨k + 1, _, rfl, by simp, by omega, Lib.hid (by have := HFIN.out; exact this), HB9⟩
            case measure => simp [intOf]; omega
    · have hltb : decide ((k : Int) < (p.rules.length : Int)) = false := by simpa using hlt
      have hle : p.rules.length ≤ k := by omega
      have hke : k = p.rules.length := by omega
      have HF := Lib.hid (show S = a by rw [HS.out]; exact ba_ext (by rw [HA.out, hke]; simp [prP]))
      have hBw := HB1.out.trans (HB.out.mono (by have := HS1.out; omega))
      have HBW := Lib.hid hBw
      clear hlt hltb hke hBw haz
      go_wp2
      go_ret
      exact ⟨by rw [HF.out]; rfl, HBW.out⟩
end Go.Proofs.YtlmopoipjolbgaaGreatDoor.LexW
