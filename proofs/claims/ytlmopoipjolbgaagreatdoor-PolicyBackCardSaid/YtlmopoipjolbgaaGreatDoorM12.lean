/-
  The walk of ravelinlaw06.PolicyBack. · PolicyBack is proved: at every text the call returns true, and the argument reads as it did. Conditions: the form's own (what comes in is readable and each string and slice takes at most 2^47 - 4096 bytes), and the listed package-level variables start as the program's text lays them (the card ties them).
-/
import Derived.Test.YtlmopoipjolbgaaGreatDoorM07
import Derived.Test.YtlmopoipjolbgaaGreatDoorM09
import Derived.Test.YtlmopoipjolbgaaGreatDoorM11
import Derived.Test.YtlmopoipjolbgaaGreatDoorM06
namespace Go.Proofs.YtlmopoipjolbgaaGreatDoor.LexW
open Go.RowKit Go.Shelf Go.Proofs.YtlmopoipjolbgaaGreatDoor.LexS Go.Proofs.YtlmopoipjolbgaaGreatDoorW.PrintWords
set_option linter.unusedVariables false
set_option linter.unusedSimpArgs false

theorem toks_long {s : ByteArray} (h : 65536 < s.size) : toks s = ([], 54, 0) := by
  unfold toks
  rw [toksA_err (by rw [long_err s _ h]; decide), long_err s _ h]
theorem parseV_long {s : ByteArray} (h : 65536 < s.size) : parseV s = (zPo, (54, 0)) := by
  unfold parseV wholeP
  rw [toks_long h]
theorem exprV_long {s : ByteArray} (h : 65536 < s.size) : exprV s = (zEx, (54, 0)) := by
  unfold exprV wholeP
  rw [toks_long h]

set_option maxHeartbeats 1000000 in
set_option maxRecDepth 100000 in
theorem samePo_ne (x y : Po) (hne : x.arch ≠ y.arch) (hf : x.foreign.f0 ≠ y.foreign.f0) (hd : x.dflt.f0 ≠ y.dflt.f0) (A0 : Option Addr) (c0 : Nat) (A1 : Option Addr) (c1 : Nat) (w : World) :
    Calls Tryz.prog 12 #[.agg #[.string x.arch, .int .i64 x.foreign.f0, .int .u64 x.foreign.f1, .int .i64 x.dflt.f0, .int .u64 x.dflt.f1, .slice A0 x.rules.length c0], .agg #[.string y.arch, .int .i64 y.foreign.f0, .int .u64 y.foreign.f1, .int .i64 y.dflt.f0, .int .u64 y.dflt.f1, .slice A1 y.rules.length c1]] w fun e w' => e = .returned (.bool false) ∧ Below w.heap.size w w' := by
  have hal : Below w.heap.size w ((w.alloc (poBox x A0 c0)).alloc (poBox y A1 c1)) := ((Below.refl w.heap.size w).alloc (Nat.le_refl _) _).alloc (by simp) _
  have hb0 : ((w.alloc (poBox x A0 c0)).alloc (poBox y A1 c1)).heap[w.heap.size]? = some (.cells #[.string x.arch, .int .i64 x.foreign.f0, .int .u64 x.foreign.f1, .int .i64 x.dflt.f0, .int .u64 x.dflt.f1, .slice A0 x.rules.length c0] 29 (0, 0)) := blk_past _ (new_blk w _ _)
  have hb1 : ((w.alloc (poBox x A0 c0)).alloc (poBox y A1 c1)).heap[w.heap.size + 1]? = some (.cells #[.string y.arch, .int .i64 y.foreign.f0, .int .u64 y.foreign.f1, .int .i64 y.dflt.f0, .int .u64 y.dflt.f1, .slice A1 y.rules.length c1] 29 (0, 0)) := new_blk' (by simp) _ _
  obtain ⟨y0, y1, y2, y3, y4, y5⟩ := box6 hb0
  obtain ⟨z0, z1, z2, z3, z4, z5⟩ := box6 hb1
  have HAL := Lib.hid hal
  have hn : (x.arch.toList != y.arch.toList) = true := by
    rw [bne_iff_ne]
    intro e
    exact hne (text_of_list (by rw [← Lib.toList_data, ← Lib.toList_data, e]))
  have hnf : (x.foreign.f0 != y.foreign.f0) = true := by rw [bne_iff_ne]; exact hf
  have hnd : (x.dflt.f0 != y.dflt.f0) = true := by rw [bne_iff_ne]; exact hd
  clear hal hb0 hb1 hne hf hd
  go_enter Tryz.func12, Tryz.ntmps12
  go_wp2
  all_goals go_ret
  all_goals exact ⟨rfl, ((Below.refl _ _).alloc (Nat.le_refl _) _).alloc (by simp) _⟩
set_option maxHeartbeats 1000000 in
set_option maxRecDepth 100000 in
theorem sameEx_ne (x y : Ex) (hne : x.f0 ≠ y.f0) (A0 : Option Addr) (c0 : Nat) (A1 : Option Addr) (c1 : Nat) (w : World) :
    Calls Tryz.prog 13 #[.agg #[.int .i64 x.f0, .slice A0 x.f1.length c0, .int .i64 x.f2, .int .u64 x.f3, .int .i64 x.f4, .int .u64 x.f5], .agg #[.int .i64 y.f0, .slice A1 y.f1.length c1, .int .i64 y.f2, .int .u64 y.f3, .int .i64 y.f4, .int .u64 y.f5]] w fun e w' => e = .returned (.bool false) ∧ Below w.heap.size w w' := by
  have hal : Below w.heap.size w ((w.alloc (exBox x A0 c0)).alloc (exBox y A1 c1)) := ((Below.refl w.heap.size w).alloc (Nat.le_refl _) _).alloc (by simp) _
  have hb0 : ((w.alloc (exBox x A0 c0)).alloc (exBox y A1 c1)).heap[w.heap.size]? = some (.cells #[.int .i64 x.f0, .slice A0 x.f1.length c0, .int .i64 x.f2, .int .u64 x.f3, .int .i64 x.f4, .int .u64 x.f5] 37 (0, 0)) := blk_past _ (new_blk w _ _)
  have hb1 : ((w.alloc (exBox x A0 c0)).alloc (exBox y A1 c1)).heap[w.heap.size + 1]? = some (.cells #[.int .i64 y.f0, .slice A1 y.f1.length c1, .int .i64 y.f2, .int .u64 y.f3, .int .i64 y.f4, .int .u64 y.f5] 37 (0, 0)) := new_blk' (by simp) _ _
  obtain ⟨y0, y1, y2, y3, y4, y5⟩ := box6 hb0
  obtain ⟨z0, z1, z2, z3, z4, z5⟩ := box6 hb1
  have HAL := Lib.hid hal
  have hn : (x.f0 != y.f0) = true := by rw [bne_iff_ne]; exact hne
  clear hal hb0 hb1 hne
  go_enter Tryz.func13, Tryz.ntmps13
  go_wp2
  go_ret
  exact ⟨rfl, HAL.out⟩

set_option maxHeartbeats 16000000 in
set_option maxRecDepth 100000 in
theorem backLaw_any (s : ByteArray) (w : World) (hE : Env w) (hN : EnvN w) :
    Calls Tryz.prog 5 #[.string s] w fun e w' => e = .returned (.bool true) ∧ Below w.heap.size w w' := by
  obtain ⟨P, e1, q1, hv1⟩ : ∃ P e1 q1, parseV s = (P, (e1, q1)) := ⟨_, _, _, rfl⟩
  obtain ⟨X, f1, r1, hx1⟩ : ∃ X f1 r1, exprV s = (X, (f1, r1)) := ⟨_, _, _, rfl⟩
  have HPV := Lib.hid (fun h => parseV_val hv1 h); have HXV := Lib.hid (fun h => exprV_val hx1 h)
  have H1 := Lib.hid (fun (W : World) (h1 : Below w.heap.size w W) => parse_any s w W hE h1 (toks_len s)); rw [hv1] at H1
  have H3 := Lib.hid (fun (W : World) (h1 : Below w.heap.size w W) => pexpr_any s w W hE h1 (toks_len s)); rw [hx1] at H3
  have HPS := Lib.hid (fun (S : ByteArray) (W : World) (h1 : Below w.heap.size w W) => parse_any S w W hE h1 (toks_len S))
  have HXS := Lib.hid (fun (S : ByteArray) (W : World) (h1 : Below w.heap.size w W) => pexpr_any S w W hE h1 (toks_len S))
  have HE := Lib.hid hE; have HN := Lib.hid hN
  clear hv1 hx1 hE hN
  go_enter Tryz.func5, Tryz.ntmps5
  go_wp2_with fail
  refine (lives06_any w HE.out).mono ?_
  rintro e w1 ⟨rfl, hb0⟩
  have HB1 := Lib.hid hb0
  clear hb0
  go_wp2_with fail
  refine (H1.out _ HB1.out).mono ?_
  rintro e V2 ⟨⟨v2, rfl, hR2⟩, hb2⟩
  obtain ⟨A2, c2, rfl, -, hC2⟩ := Kd.R_reads hR2
  have ha2 := (Below.refl V2.heap.size V2).alloc (Nat.le_refl _) (poBox P A2 c2)
  have HX2 := Lib.hid (show (V2.alloc (poBox P A2 c2)).heap[V2.heap.size]? = some (poBox P A2 c2) from new_blk V2 _ _)
  have HC2 := Lib.hid (Kd.C_below hC2 ha2)
  have HB2 := Lib.hid (HB1.out.trans ((hb2.trans (ha2.mono hb2.size)).mono HB1.out.size))
  clear hR2 hb2 hC2 ha2
  obtain ⟨i0, i1, i2, i3, i4, i5⟩ := box6 HX2.out
  by_cases he : e1 = 0
  · have be : (e1 == 0) = true := by simpa using he
    obtain ⟨hokp, hwp⟩ := HPV.out he
    have HOKP := Lib.hid hokp
    have HPR := Lib.hid (print_any P hokp (by omega))
    obtain ⟨S, hS⟩ : ∃ S, S = prP P := ⟨_, rfl⟩
    have HSS := Lib.hid hS
    clear he hokp hwp hS
    go_wp2_with fail
    refine (HPR.out A2 c2 _ (HN.out.below HB2.out) HC2.out).mono ?_
    rintro e V5 ⟨rfl, hb5⟩
    rw [← HSS.out]
    have HB5 := Lib.hid (HB2.out.trans (hb5.mono HB2.out.size))
    have HX5 := Lib.hid ((hb5.block _ (box_lt HX2.out)).trans HX2.out)
    have HC5 := Lib.hid (Kd.C_below HC2.out hb5)
    clear hb5 i0 i1 i2 i3 i4 i5
    by_cases hsz : S.size ≤ 65536
    · have hy : parseV S = (P, (0, 0)) := by rw [HSS.out]; exact parse_back HOKP.out (by rw [← HSS.out]; exact hsz)
      have H5 := Lib.hid (HPS.out S); rw [hy] at H5
      clear hy
      have hsb : decide ((S.size : Int) ≤ 65536) = true := by simp; omega
      go_wp2_with fail
      refine (H5.out _ HB5.out).mono ?_
      rintro e V6 ⟨⟨v6, rfl, hR6⟩, hb6⟩
      obtain ⟨A6, c6, rfl, -, hC6⟩ := Kd.R_reads hR6
      have ha6 := (Below.refl V6.heap.size V6).alloc (Nat.le_refl _) (poBox P A6 c6)
      have hbb6 := hb6.trans (ha6.mono hb6.size)
      have HX6 := Lib.hid (show (V6.alloc (poBox P A6 c6)).heap[V6.heap.size]? = some (poBox P A6 c6) from new_blk V6 _ _)
      have HX46 := Lib.hid ((hbb6.block _ (box_lt HX5.out)).trans HX5.out)
      have HC46 := Lib.hid (Kd.C_below HC5.out hbb6); have HC6 := Lib.hid (Kd.C_below hC6 ha6)
      have HB6 := Lib.hid (HB5.out.trans (hbb6.mono HB5.out.size))
      clear hR6 hb6 hC6 ha6 hbb6
      obtain ⟨i0, i1, i2, i3, i4, i5⟩ := box6 HX46.out
      obtain ⟨k0, k1, k2, k3, k4, k5⟩ := box6 HX6.out
      go_wp2_with fail
      refine (samePo_any P A2 c2 A6 c6 _ HC46.out HC6.out).mono ?_
      rintro e V7 ⟨rfl, hb7⟩
      have HX67 := Lib.hid ((hb7.block _ (box_lt HX6.out)).trans HX6.out)
      have HC67 := Lib.hid (Kd.C_below HC6.out hb7)
      have HB7 := Lib.hid (HB6.out.trans (hb7.mono HB6.out.size))
      clear hb7 i0 i1 i2 i3 i4 i5 k0 k1 k2 k3 k4 k5
      obtain ⟨k0, k1, k2, k3, k4, k5⟩ := box6 HX67.out
      go_wp2_with fail
      refine (HPR.out A6 c6 _ (HN.out.below HB7.out) HC67.out).mono ?_
      rintro e V9 ⟨rfl, hb9⟩
      rw [← HSS.out]
      have HBU := Lib.hid (HB7.out.trans (hb9.mono HB7.out.size))
      have hn0 : (S.toList != S.toList) = false := by simp
      clear hb9 k0 k1 k2 k3 k4 k5
      go_wp2_with fail
      refine (H3.out _ HBU.out).mono ?_
      rintro e U4 ⟨⟨u4, rfl, hR4⟩, hb4⟩
      obtain ⟨A4, c4, rfl, -, hC4⟩ := Kd.R_reads hR4
      have ha4 := (Below.refl U4.heap.size U4).alloc (Nat.le_refl _) (exBox X A4 c4)
      have HX4 := Lib.hid (show (U4.alloc (exBox X A4 c4)).heap[U4.heap.size]? = some (exBox X A4 c4) from new_blk U4 _ _)
      have HC4 := Lib.hid (Kd.C_below hC4 ha4)
      have HB4 := Lib.hid (HBU.out.trans ((hb4.trans (ha4.mono hb4.size)).mono HBU.out.size))
      clear hR4 hb4 hC4 ha4
      obtain ⟨j0, j1, j2, j3, j4, j5⟩ := box6 HX4.out
      by_cases hf : f1 = 0
      · have bf : (f1 == 0) = true := by simpa using hf
        have hxv := HXV.out hf
        obtain ⟨hok, hwe, hde⟩ := hxv
        have HOK := Lib.hid hok
        have HPE := Lib.hid (pe_any _ X (Nat.lt_succ_self _) hok (by omega))
        have HDE := Lib.hid (dep_any _ X (Nat.lt_succ_self _) (by omega))
        obtain ⟨D, hD⟩ : ∃ D, D = dE X := ⟨_, rfl⟩
        obtain ⟨T, hT⟩ : ∃ T, T = prE X := ⟨_, rfl⟩
        have HTT := Lib.hid hT
        have hd64 : D ≤ 64 := by omega
        have HD := Lib.hid hD; have HDL := Lib.hid hde
        clear hf hok hwe hD hT hde
        go_wp2_with fail
        refine (HPE.out A4 c4 _ (HN.out.below HB4.out) HC4.out).mono ?_
        rintro e U5 ⟨rfl, hb5⟩
        rw [← HTT.out]
        have HB5 := Lib.hid (HB4.out.trans (hb5.mono HB4.out.size))
        have HX5 := Lib.hid ((hb5.block _ (box_lt HX4.out)).trans HX4.out)
        have HC5 := Lib.hid (Kd.C_below HC4.out hb5)
        clear hb5 j0 j1 j2 j3 j4 j5
        by_cases hsz : T.size ≤ 65536
        · have hy : exprV T = (X, (0, 0)) := by rw [HTT.out]; exact exprV_back HOK.out HDL.out (by rw [← HTT.out]; exact hsz)
          have H5 := Lib.hid (HXS.out T); rw [hy] at H5
          clear hy
          have hsb : decide ((T.size : Int) ≤ 65536) = true := by simp; omega
          go_wp2_with fail
          refine (H5.out _ HB5.out).mono ?_
          rintro e U6 ⟨⟨u6, rfl, hR6⟩, hb6⟩
          obtain ⟨A6, c6, rfl, -, hC6⟩ := Kd.R_reads hR6
          have ha6 := (Below.refl U6.heap.size U6).alloc (Nat.le_refl _) (exBox X A6 c6)
          have hbb6 := hb6.trans (ha6.mono hb6.size)
          have HX6 := Lib.hid (show (U6.alloc (exBox X A6 c6)).heap[U6.heap.size]? = some (exBox X A6 c6) from new_blk U6 _ _)
          have HX46 := Lib.hid ((hbb6.block _ (box_lt HX5.out)).trans HX5.out)
          have HC46 := Lib.hid (Kd.C_below HC5.out hbb6); have HC6 := Lib.hid (Kd.C_below hC6 ha6)
          have HB6 := Lib.hid (HB5.out.trans (hbb6.mono HB5.out.size))
          clear hR6 hb6 hC6 ha6 hbb6
          obtain ⟨j0, j1, j2, j3, j4, j5⟩ := box6 HX46.out
          obtain ⟨k0, k1, k2, k3, k4, k5⟩ := box6 HX6.out
          go_wp2_with fail
          refine (sameEx_any _ X (Nat.lt_succ_self _) A4 c4 A6 c6 _ HC46.out HC6.out).mono ?_
          rintro e U7 ⟨rfl, hb7⟩
          have HX47 := Lib.hid ((hb7.block _ (box_lt HX46.out)).trans HX46.out); have HX67 := Lib.hid ((hb7.block _ (box_lt HX6.out)).trans HX6.out)
          have HC47 := Lib.hid (Kd.C_below HC46.out hb7); have HC67 := Lib.hid (Kd.C_below HC6.out hb7)
          have HB7 := Lib.hid (HB6.out.trans (hb7.mono HB6.out.size))
          clear hb7 j0 j1 j2 j3 j4 j5 k0 k1 k2 k3 k4 k5
          obtain ⟨j0, j1, j2, j3, j4, j5⟩ := box6 HX47.out
          go_wp2_with fail
          refine (HDE.out A4 c4 _ HC47.out).mono ?_
          rintro e U8 ⟨rfl, hb8⟩
          rw [← HD.out]
          have HX68 := Lib.hid ((hb8.block _ (box_lt HX67.out)).trans HX67.out)
          have HC68 := Lib.hid (Kd.C_below HC67.out hb8)
          have HB8 := Lib.hid (HB7.out.trans (hb8.mono HB7.out.size))
          clear hb8 j0 j1 j2 j3 j4 j5
          obtain ⟨k0, k1, k2, k3, k4, k5⟩ := box6 HX68.out
          go_wp2_with fail
          refine (HPE.out A6 c6 _ (HN.out.below HB8.out) HC68.out).mono ?_
          rintro e U9 ⟨rfl, hb9⟩
          rw [← HTT.out]
          have HB9 := Lib.hid (HB8.out.trans (hb9.mono HB8.out.size))
          have hn1 : (T.toList != T.toList) = false := by simp
          have hd1 : decide ((D : Int) < 0) = false := by simp
          have hd2 : decide ((64 : Int) < (D : Int)) = false := by simp; omega
          clear hb9 k0 k1 k2 k3 k4 k5
          go_wp2
          go_ret
          exact ⟨rfl, HB9.out⟩
        · have hsb : decide ((T.size : Int) ≤ 65536) = false := by simp; omega
          have hsz2 : 65536 < T.size := by omega
          have hy : exprV T = (zEx, (54, 0)) := exprV_long hsz2
          have H5 := Lib.hid (HXS.out T); rw [hy] at H5
          have hne : X.f0 ≠ zEx.f0 := by
            have := HOK.out
            rw [okE_eq] at this
            have h1 := this.1.1
            show X.f0 ≠ 0
            omega
          have HNE := Lib.hid hne
          clear hy hsz hne
          go_wp2_with fail
          refine (H5.out _ HB5.out).mono ?_
          rintro e U6 ⟨⟨u6, rfl, hR6⟩, hb6⟩
          obtain ⟨A6, c6, rfl, -, hC6⟩ := Kd.R_reads hR6
          have ha6 := (Below.refl U6.heap.size U6).alloc (Nat.le_refl _) (exBox zEx A6 c6)
          have hbb6 := hb6.trans (ha6.mono hb6.size)
          have HX6 := Lib.hid (show (U6.alloc (exBox zEx A6 c6)).heap[U6.heap.size]? = some (exBox zEx A6 c6) from new_blk U6 _ _)
          have HX46 := Lib.hid ((hbb6.block _ (box_lt HX5.out)).trans HX5.out)
          have HC46 := Lib.hid (Kd.C_below HC5.out hbb6)
          have HB6 := Lib.hid (HB5.out.trans (hbb6.mono HB5.out.size))
          clear hR6 hb6 hC6 ha6 hbb6
          obtain ⟨j0, j1, j2, j3, j4, j5⟩ := box6 HX46.out
          obtain ⟨k0, k1, k2, k3, k4, k5⟩ := box6 HX6.out
          go_wp2_with fail
          refine (sameEx_ne X zEx HNE.out A4 c4 A6 c6 _).mono ?_
          rintro e U7 ⟨rfl, hb7⟩
          have HX47 := Lib.hid ((hb7.block _ (box_lt HX46.out)).trans HX46.out)
          have HC47 := Lib.hid (Kd.C_below HC46.out hb7)
          have HB7 := Lib.hid (HB6.out.trans (hb7.mono HB6.out.size))
          clear hb7 j0 j1 j2 j3 j4 j5 k0 k1 k2 k3 k4 k5
          obtain ⟨j0, j1, j2, j3, j4, j5⟩ := box6 HX47.out
          go_wp2_with fail
          refine (HDE.out A4 c4 _ HC47.out).mono ?_
          rintro e U8 ⟨rfl, hb8⟩
          rw [← HD.out]
          have HB8 := Lib.hid (HB7.out.trans (hb8.mono HB7.out.size))
          have hd1 : decide ((D : Int) < 0) = false := by simp
          have hd2 : decide ((64 : Int) < (D : Int)) = false := by simp; omega
          clear hb8 j0 j1 j2 j3 j4 j5
          go_wp2
          go_ret
          exact ⟨rfl, HB8.out⟩
      · have bf : (f1 == 0) = false := by simpa using hf
        clear hf j0 j1 j2 j3 j4 j5
        go_wp2
        go_ret
        exact ⟨rfl, HB4.out⟩
    · have hsb : decide ((S.size : Int) ≤ 65536) = false := by simp; omega
      have hsz2 : 65536 < S.size := by omega
      have hy : parseV S = (zPo, (54, 0)) := parseV_long hsz2
      have H5 := Lib.hid (HPS.out S); rw [hy] at H5
      have hne : P.arch ≠ zPo.arch := by
        intro e
        have := HOKP.out.arch
        rw [e] at this
        exact absurd this (by decide)
      have HNE := Lib.hid hne
      clear hy hsz hne
      go_wp2_with fail
      refine (H5.out _ HB5.out).mono ?_
      rintro e V6 ⟨⟨v6, rfl, hR6⟩, hb6⟩
      obtain ⟨A6, c6, rfl, -, hC6⟩ := Kd.R_reads hR6
      have ha6 := (Below.refl V6.heap.size V6).alloc (Nat.le_refl _) (poBox zPo A6 c6)
      have hbb6 := hb6.trans (ha6.mono hb6.size)
      have HX6 := Lib.hid (show (V6.alloc (poBox zPo A6 c6)).heap[V6.heap.size]? = some (poBox zPo A6 c6) from new_blk V6 _ _)
      have HX46 := Lib.hid ((hbb6.block _ (box_lt HX5.out)).trans HX5.out)
      have HB6 := Lib.hid (HB5.out.trans (hbb6.mono HB5.out.size))
      clear hR6 hb6 hC6 ha6 hbb6
      obtain ⟨i0, i1, i2, i3, i4, i5⟩ := box6 HX46.out
      obtain ⟨k0, k1, k2, k3, k4, k5⟩ := box6 HX6.out
      go_wp2_with fail
      refine (samePo_ne P zPo HNE.out (by have := HOKP.out.forn.1; show P.foreign.f0 ≠ 0; omega) (by have := HOKP.out.dflt.1; show P.dflt.f0 ≠ 0; omega) A2 c2 A6 c6 _).mono ?_
      rintro e V7 ⟨rfl, hb7⟩
      have HBU := Lib.hid (HB6.out.trans (hb7.mono HB6.out.size))
      clear hb7 i0 i1 i2 i3 i4 i5 k0 k1 k2 k3 k4 k5
      go_wp2_with fail
      refine (H3.out _ HBU.out).mono ?_
      rintro e U4 ⟨⟨u4, rfl, hR4⟩, hb4⟩
      obtain ⟨A4, c4, rfl, -, hC4⟩ := Kd.R_reads hR4
      have ha4 := (Below.refl U4.heap.size U4).alloc (Nat.le_refl _) (exBox X A4 c4)
      have HX4 := Lib.hid (show (U4.alloc (exBox X A4 c4)).heap[U4.heap.size]? = some (exBox X A4 c4) from new_blk U4 _ _)
      have HC4 := Lib.hid (Kd.C_below hC4 ha4)
      have HB4 := Lib.hid (HBU.out.trans ((hb4.trans (ha4.mono hb4.size)).mono HBU.out.size))
      clear hR4 hb4 hC4 ha4
      obtain ⟨j0, j1, j2, j3, j4, j5⟩ := box6 HX4.out
      by_cases hf : f1 = 0
      · have bf : (f1 == 0) = true := by simpa using hf
        have hxv := HXV.out hf
        obtain ⟨hok, hwe, hde⟩ := hxv
        have HOK := Lib.hid hok
        have HPE := Lib.hid (pe_any _ X (Nat.lt_succ_self _) hok (by omega))
        have HDE := Lib.hid (dep_any _ X (Nat.lt_succ_self _) (by omega))
        obtain ⟨D, hD⟩ : ∃ D, D = dE X := ⟨_, rfl⟩
        obtain ⟨T, hT⟩ : ∃ T, T = prE X := ⟨_, rfl⟩
        have HTT := Lib.hid hT
        have hd64 : D ≤ 64 := by omega
        have HD := Lib.hid hD; have HDL := Lib.hid hde
        clear hf hok hwe hD hT hde
        go_wp2_with fail
        refine (HPE.out A4 c4 _ (HN.out.below HB4.out) HC4.out).mono ?_
        rintro e U5 ⟨rfl, hb5⟩
        rw [← HTT.out]
        have HB5 := Lib.hid (HB4.out.trans (hb5.mono HB4.out.size))
        have HX5 := Lib.hid ((hb5.block _ (box_lt HX4.out)).trans HX4.out)
        have HC5 := Lib.hid (Kd.C_below HC4.out hb5)
        clear hb5 j0 j1 j2 j3 j4 j5
        by_cases hsz : T.size ≤ 65536
        · have hy : exprV T = (X, (0, 0)) := by rw [HTT.out]; exact exprV_back HOK.out HDL.out (by rw [← HTT.out]; exact hsz)
          have H5 := Lib.hid (HXS.out T); rw [hy] at H5
          clear hy
          have hsb : decide ((T.size : Int) ≤ 65536) = true := by simp; omega
          go_wp2_with fail
          refine (H5.out _ HB5.out).mono ?_
          rintro e U6 ⟨⟨u6, rfl, hR6⟩, hb6⟩
          obtain ⟨A6, c6, rfl, -, hC6⟩ := Kd.R_reads hR6
          have ha6 := (Below.refl U6.heap.size U6).alloc (Nat.le_refl _) (exBox X A6 c6)
          have hbb6 := hb6.trans (ha6.mono hb6.size)
          have HX6 := Lib.hid (show (U6.alloc (exBox X A6 c6)).heap[U6.heap.size]? = some (exBox X A6 c6) from new_blk U6 _ _)
          have HX46 := Lib.hid ((hbb6.block _ (box_lt HX5.out)).trans HX5.out)
          have HC46 := Lib.hid (Kd.C_below HC5.out hbb6); have HC6 := Lib.hid (Kd.C_below hC6 ha6)
          have HB6 := Lib.hid (HB5.out.trans (hbb6.mono HB5.out.size))
          clear hR6 hb6 hC6 ha6 hbb6
          obtain ⟨j0, j1, j2, j3, j4, j5⟩ := box6 HX46.out
          obtain ⟨k0, k1, k2, k3, k4, k5⟩ := box6 HX6.out
          go_wp2_with fail
          refine (sameEx_any _ X (Nat.lt_succ_self _) A4 c4 A6 c6 _ HC46.out HC6.out).mono ?_
          rintro e U7 ⟨rfl, hb7⟩
          have HX47 := Lib.hid ((hb7.block _ (box_lt HX46.out)).trans HX46.out); have HX67 := Lib.hid ((hb7.block _ (box_lt HX6.out)).trans HX6.out)
          have HC47 := Lib.hid (Kd.C_below HC46.out hb7); have HC67 := Lib.hid (Kd.C_below HC6.out hb7)
          have HB7 := Lib.hid (HB6.out.trans (hb7.mono HB6.out.size))
          clear hb7 j0 j1 j2 j3 j4 j5 k0 k1 k2 k3 k4 k5
          obtain ⟨j0, j1, j2, j3, j4, j5⟩ := box6 HX47.out
          go_wp2_with fail
          refine (HDE.out A4 c4 _ HC47.out).mono ?_
          rintro e U8 ⟨rfl, hb8⟩
          rw [← HD.out]
          have HX68 := Lib.hid ((hb8.block _ (box_lt HX67.out)).trans HX67.out)
          have HC68 := Lib.hid (Kd.C_below HC67.out hb8)
          have HB8 := Lib.hid (HB7.out.trans (hb8.mono HB7.out.size))
          clear hb8 j0 j1 j2 j3 j4 j5
          obtain ⟨k0, k1, k2, k3, k4, k5⟩ := box6 HX68.out
          go_wp2_with fail
          refine (HPE.out A6 c6 _ (HN.out.below HB8.out) HC68.out).mono ?_
          rintro e U9 ⟨rfl, hb9⟩
          rw [← HTT.out]
          have HB9 := Lib.hid (HB8.out.trans (hb9.mono HB8.out.size))
          have hn1 : (T.toList != T.toList) = false := by simp
          have hd1 : decide ((D : Int) < 0) = false := by simp
          have hd2 : decide ((64 : Int) < (D : Int)) = false := by simp; omega
          clear hb9 k0 k1 k2 k3 k4 k5
          go_wp2
          go_ret
          exact ⟨rfl, HB9.out⟩
        · have hsb : decide ((T.size : Int) ≤ 65536) = false := by simp; omega
          have hsz2 : 65536 < T.size := by omega
          have hy : exprV T = (zEx, (54, 0)) := exprV_long hsz2
          have H5 := Lib.hid (HXS.out T); rw [hy] at H5
          have hne : X.f0 ≠ zEx.f0 := by
            have := HOK.out
            rw [okE_eq] at this
            have h1 := this.1.1
            show X.f0 ≠ 0
            omega
          have HNE := Lib.hid hne
          clear hy hsz hne
          go_wp2_with fail
          refine (H5.out _ HB5.out).mono ?_
          rintro e U6 ⟨⟨u6, rfl, hR6⟩, hb6⟩
          obtain ⟨A6, c6, rfl, -, hC6⟩ := Kd.R_reads hR6
          have ha6 := (Below.refl U6.heap.size U6).alloc (Nat.le_refl _) (exBox zEx A6 c6)
          have hbb6 := hb6.trans (ha6.mono hb6.size)
          have HX6 := Lib.hid (show (U6.alloc (exBox zEx A6 c6)).heap[U6.heap.size]? = some (exBox zEx A6 c6) from new_blk U6 _ _)
          have HX46 := Lib.hid ((hbb6.block _ (box_lt HX5.out)).trans HX5.out)
          have HC46 := Lib.hid (Kd.C_below HC5.out hbb6)
          have HB6 := Lib.hid (HB5.out.trans (hbb6.mono HB5.out.size))
          clear hR6 hb6 hC6 ha6 hbb6
          obtain ⟨j0, j1, j2, j3, j4, j5⟩ := box6 HX46.out
          obtain ⟨k0, k1, k2, k3, k4, k5⟩ := box6 HX6.out
          go_wp2_with fail
          refine (sameEx_ne X zEx HNE.out A4 c4 A6 c6 _).mono ?_
          rintro e U7 ⟨rfl, hb7⟩
          have HX47 := Lib.hid ((hb7.block _ (box_lt HX46.out)).trans HX46.out)
          have HC47 := Lib.hid (Kd.C_below HC46.out hb7)
          have HB7 := Lib.hid (HB6.out.trans (hb7.mono HB6.out.size))
          clear hb7 j0 j1 j2 j3 j4 j5 k0 k1 k2 k3 k4 k5
          obtain ⟨j0, j1, j2, j3, j4, j5⟩ := box6 HX47.out
          go_wp2_with fail
          refine (HDE.out A4 c4 _ HC47.out).mono ?_
          rintro e U8 ⟨rfl, hb8⟩
          rw [← HD.out]
          have HB8 := Lib.hid (HB7.out.trans (hb8.mono HB7.out.size))
          have hd1 : decide ((D : Int) < 0) = false := by simp
          have hd2 : decide ((64 : Int) < (D : Int)) = false := by simp; omega
          clear hb8 j0 j1 j2 j3 j4 j5
          go_wp2
          go_ret
          exact ⟨rfl, HB8.out⟩
      · have bf : (f1 == 0) = false := by simpa using hf
        clear hf j0 j1 j2 j3 j4 j5
        go_wp2
        go_ret
        exact ⟨rfl, HB4.out⟩
  · have be : (e1 == 0) = false := by simpa using he
    have HBU := HB2
    clear he i0 i1 i2 i3 i4 i5
    go_wp2_with fail
    refine (H3.out _ HBU.out).mono ?_
    rintro e U4 ⟨⟨u4, rfl, hR4⟩, hb4⟩
    obtain ⟨A4, c4, rfl, -, hC4⟩ := Kd.R_reads hR4
    have ha4 := (Below.refl U4.heap.size U4).alloc (Nat.le_refl _) (exBox X A4 c4)
    have HX4 := Lib.hid (show (U4.alloc (exBox X A4 c4)).heap[U4.heap.size]? = some (exBox X A4 c4) from new_blk U4 _ _)
    have HC4 := Lib.hid (Kd.C_below hC4 ha4)
    have HB4 := Lib.hid (HBU.out.trans ((hb4.trans (ha4.mono hb4.size)).mono HBU.out.size))
    clear hR4 hb4 hC4 ha4
    obtain ⟨j0, j1, j2, j3, j4, j5⟩ := box6 HX4.out
    by_cases hf : f1 = 0
    · have bf : (f1 == 0) = true := by simpa using hf
      have hxv := HXV.out hf
      obtain ⟨hok, hwe, hde⟩ := hxv
      have HOK := Lib.hid hok
      have HPE := Lib.hid (pe_any _ X (Nat.lt_succ_self _) hok (by omega))
      have HDE := Lib.hid (dep_any _ X (Nat.lt_succ_self _) (by omega))
      obtain ⟨D, hD⟩ : ∃ D, D = dE X := ⟨_, rfl⟩
      obtain ⟨T, hT⟩ : ∃ T, T = prE X := ⟨_, rfl⟩
      have HTT := Lib.hid hT
      have hd64 : D ≤ 64 := by omega
      have HD := Lib.hid hD; have HDL := Lib.hid hde
      clear hf hok hwe hD hT hde
      go_wp2_with fail
      refine (HPE.out A4 c4 _ (HN.out.below HB4.out) HC4.out).mono ?_
      rintro e U5 ⟨rfl, hb5⟩
      rw [← HTT.out]
      have HB5 := Lib.hid (HB4.out.trans (hb5.mono HB4.out.size))
      have HX5 := Lib.hid ((hb5.block _ (box_lt HX4.out)).trans HX4.out)
      have HC5 := Lib.hid (Kd.C_below HC4.out hb5)
      clear hb5 j0 j1 j2 j3 j4 j5
      by_cases hsz : T.size ≤ 65536
      · have hy : exprV T = (X, (0, 0)) := by rw [HTT.out]; exact exprV_back HOK.out HDL.out (by rw [← HTT.out]; exact hsz)
        have H5 := Lib.hid (HXS.out T); rw [hy] at H5
        clear hy
        have hsb : decide ((T.size : Int) ≤ 65536) = true := by simp; omega
        go_wp2_with fail
        refine (H5.out _ HB5.out).mono ?_
        rintro e U6 ⟨⟨u6, rfl, hR6⟩, hb6⟩
        obtain ⟨A6, c6, rfl, -, hC6⟩ := Kd.R_reads hR6
        have ha6 := (Below.refl U6.heap.size U6).alloc (Nat.le_refl _) (exBox X A6 c6)
        have hbb6 := hb6.trans (ha6.mono hb6.size)
        have HX6 := Lib.hid (show (U6.alloc (exBox X A6 c6)).heap[U6.heap.size]? = some (exBox X A6 c6) from new_blk U6 _ _)
        have HX46 := Lib.hid ((hbb6.block _ (box_lt HX5.out)).trans HX5.out)
        have HC46 := Lib.hid (Kd.C_below HC5.out hbb6); have HC6 := Lib.hid (Kd.C_below hC6 ha6)
        have HB6 := Lib.hid (HB5.out.trans (hbb6.mono HB5.out.size))
        clear hR6 hb6 hC6 ha6 hbb6
        obtain ⟨j0, j1, j2, j3, j4, j5⟩ := box6 HX46.out
        obtain ⟨k0, k1, k2, k3, k4, k5⟩ := box6 HX6.out
        go_wp2_with fail
        refine (sameEx_any _ X (Nat.lt_succ_self _) A4 c4 A6 c6 _ HC46.out HC6.out).mono ?_
        rintro e U7 ⟨rfl, hb7⟩
        have HX47 := Lib.hid ((hb7.block _ (box_lt HX46.out)).trans HX46.out); have HX67 := Lib.hid ((hb7.block _ (box_lt HX6.out)).trans HX6.out)
        have HC47 := Lib.hid (Kd.C_below HC46.out hb7); have HC67 := Lib.hid (Kd.C_below HC6.out hb7)
        have HB7 := Lib.hid (HB6.out.trans (hb7.mono HB6.out.size))
        clear hb7 j0 j1 j2 j3 j4 j5 k0 k1 k2 k3 k4 k5
        obtain ⟨j0, j1, j2, j3, j4, j5⟩ := box6 HX47.out
        go_wp2_with fail
        refine (HDE.out A4 c4 _ HC47.out).mono ?_
        rintro e U8 ⟨rfl, hb8⟩
        rw [← HD.out]
        have HX68 := Lib.hid ((hb8.block _ (box_lt HX67.out)).trans HX67.out)
        have HC68 := Lib.hid (Kd.C_below HC67.out hb8)
        have HB8 := Lib.hid (HB7.out.trans (hb8.mono HB7.out.size))
        clear hb8 j0 j1 j2 j3 j4 j5
        obtain ⟨k0, k1, k2, k3, k4, k5⟩ := box6 HX68.out
        go_wp2_with fail
        refine (HPE.out A6 c6 _ (HN.out.below HB8.out) HC68.out).mono ?_
        rintro e U9 ⟨rfl, hb9⟩
        rw [← HTT.out]
        have HB9 := Lib.hid (HB8.out.trans (hb9.mono HB8.out.size))
        have hn1 : (T.toList != T.toList) = false := by simp
        have hd1 : decide ((D : Int) < 0) = false := by simp
        have hd2 : decide ((64 : Int) < (D : Int)) = false := by simp; omega
        clear hb9 k0 k1 k2 k3 k4 k5
        go_wp2
        go_ret
        exact ⟨rfl, HB9.out⟩
      · have hsb : decide ((T.size : Int) ≤ 65536) = false := by simp; omega
        have hsz2 : 65536 < T.size := by omega
        have hy : exprV T = (zEx, (54, 0)) := exprV_long hsz2
        have H5 := Lib.hid (HXS.out T); rw [hy] at H5
        have hne : X.f0 ≠ zEx.f0 := by
          have := HOK.out
          rw [okE_eq] at this
          have h1 := this.1.1
          show X.f0 ≠ 0
          omega
        have HNE := Lib.hid hne
        clear hy hsz hne
        go_wp2_with fail
        refine (H5.out _ HB5.out).mono ?_
        rintro e U6 ⟨⟨u6, rfl, hR6⟩, hb6⟩
        obtain ⟨A6, c6, rfl, -, hC6⟩ := Kd.R_reads hR6
        have ha6 := (Below.refl U6.heap.size U6).alloc (Nat.le_refl _) (exBox zEx A6 c6)
        have hbb6 := hb6.trans (ha6.mono hb6.size)
        have HX6 := Lib.hid (show (U6.alloc (exBox zEx A6 c6)).heap[U6.heap.size]? = some (exBox zEx A6 c6) from new_blk U6 _ _)
        have HX46 := Lib.hid ((hbb6.block _ (box_lt HX5.out)).trans HX5.out)
        have HC46 := Lib.hid (Kd.C_below HC5.out hbb6)
        have HB6 := Lib.hid (HB5.out.trans (hbb6.mono HB5.out.size))
        clear hR6 hb6 hC6 ha6 hbb6
        obtain ⟨j0, j1, j2, j3, j4, j5⟩ := box6 HX46.out
        obtain ⟨k0, k1, k2, k3, k4, k5⟩ := box6 HX6.out
        go_wp2_with fail
        refine (sameEx_ne X zEx HNE.out A4 c4 A6 c6 _).mono ?_
        rintro e U7 ⟨rfl, hb7⟩
        have HX47 := Lib.hid ((hb7.block _ (box_lt HX46.out)).trans HX46.out)
        have HC47 := Lib.hid (Kd.C_below HC46.out hb7)
        have HB7 := Lib.hid (HB6.out.trans (hb7.mono HB6.out.size))
        clear hb7 j0 j1 j2 j3 j4 j5 k0 k1 k2 k3 k4 k5
        obtain ⟨j0, j1, j2, j3, j4, j5⟩ := box6 HX47.out
        go_wp2_with fail
        refine (HDE.out A4 c4 _ HC47.out).mono ?_
        rintro e U8 ⟨rfl, hb8⟩
        rw [← HD.out]
        have HB8 := Lib.hid (HB7.out.trans (hb8.mono HB7.out.size))
        have hd1 : decide ((D : Int) < 0) = false := by simp
        have hd2 : decide ((64 : Int) < (D : Int)) = false := by simp; omega
        clear hb8 j0 j1 j2 j3 j4 j5
        go_wp2
        go_ret
        exact ⟨rfl, HB8.out⟩
    · have bf : (f1 == 0) = false := by simpa using hf
      clear hf j0 j1 j2 j3 j4 j5
      go_wp2
      go_ret
      exact ⟨rfl, HB4.out⟩
end Go.Proofs.YtlmopoipjolbgaaGreatDoor.LexW
namespace Go.Proofs.YtlmopoipjolbgaaGreatDoor.PolicyBack
open Go.ChangeShapes Go.WideShapes Go.ChangeAt Go.RowKit Go.Lib Go.Shelf Go.Proofs.YtlmopoipjolbgaaGreatDoor.LexW Go.Proofs.YtlmopoipjolbgaaGreatDoorW.PrintWords
set_option linter.unusedVariables false
set_option linter.unusedSimpArgs false

theorem laidOut : laidOutB Tryz.prog = true := by kernel_rfl

set_option maxRecDepth 100000 in
/-- WHAT THE WALK GIVES, FOR EVERY ARGUMENT AND EVERY WORLD THAT HOLDS THE LISTED VARIABLES. -/
theorem contract (H : Type) (enc : TypeId × Value → H) (W : World) (base : Nat) (args : Array Value) (ds gs : List (DataW H)) (before : List MemPlace)
    (hval0 : ∀ (j : Nat) t v, Tryz.f5.params[j]? = some t → args[j]? = some v → Value.okWide Tryz.prog W .any base t v)
    (hW : DataW.Whole enc Tryz.prog Tryz.f5.params.toList Rows.policyBackSpec.vars false W args.toList ds gs before)
    (hsz0 : (DataW.weightsEach Tryz.prog (Tryz.f5.params.toList ++ Rows.policyBackSpec.plain.varTypes Tryz.prog) (ds ++ gs)).all (· ≤ reachBytes) = true)
    (hL : laidMetH Tryz.prog Rows.policyBackRow.laid W) :
    Calls Tryz.prog 5 args W fun e W' => ∃ v, e = .returned v ∧ Rows.policyBackSpec.post enc Tryz.prog Tryz.f5 false true false false W args v W' := by
  have hE := env_of_laid hL
  have hN := envN_of_laid hL
  have hW' := hW
  obtain ⟨p, q, hA0, hV, rfl, hfz, hnd⟩ := hW
  have hval : ∀ (j : Nat) t v, Tryz.f5.params[j]? = some t → args[j]? = some v → Value.okWide Tryz.prog W .any base t v := hval0
  have hsz := hsz0
  clear hval0 hsz0
  have hA : DataW.TrodAll enc Tryz.prog W 0 (fun _ => true) true Tryz.f5.params.toList args.toList ds p := hA0
  rw [Tryz.params5] at hA hval hsz
  obtain ⟨v0, vs0, d0, ds0, p0, q0, hargs0, rfl, rfl, h0, r0⟩ := trodAll_cons hA
  obtain ⟨rfl, rfl, rfl⟩ := trodAll_nil r0
  obtain rfl : args = #[v0] := by cases args; simp_all
  obtain ⟨rfl, rfl⟩ := trodVars_none hV
  obtain ⟨s, rfl, rfl, rfl, hs⟩ := Go.ChangeMaps.open_string Tryz.underlying9 (hval 0 9 v0 rfl rfl) h0
  clear hA0
  simp only [List.append_nil, List.nil_append] at hW'
  refine (backLaw_any s W hE hN).mono fun e W' ⟨he, hb⟩ => ?_
  subst he
  refine ⟨_, rfl, _, _, _, [] ++ [], [], [], hW', ?_, ?_, rfl, hb.frame _, fun h => by cases h⟩
  · exact trodAll_cons_mk (shut_bool Tryz.underlying4 _) trodAll_mk0
  · exact trodAll_mk1 (Go.ChangeMaps.shut_string Tryz.underlying9 hs)

abbrev args0 : Array Value := #[.string ⟨#[]⟩]
theorem reads (os : Os) {H : Type} (enc : TypeId × Value → H) : ∃ places, DataW.whole enc Tryz.prog ((laidWorld os).forCall (fun _ _ => 0) ⟨#[], args0, []⟩).memory Tryz.f5.params.toList Rows.policyBackSpec.vars false args0.toList 8 = some ([.lit (.string [])], [], places) :=
  ⟨[], by kernel_rfl⟩

set_option maxRecDepth 100000 in
theorem lifted (os : Os) (started : os.Started) (H : Type) (enc : TypeId × Value → H) (F : Stop.Interp) :
    ReturnsInHanded {} Tryz.checked os 5 .any ((OpenSpec.ofChange Rows.policyBackSpec).preRow enc Tryz.prog Tryz.f5 Rows.policyBackRow.domain false Rows.policyBackRow.laid) (((OpenSpec.ofChange Rows.policyBackSpec).at F).post enc Tryz.prog Tryz.f5 false true false false) := by
  obtain ⟨places, hx⟩ := reads os enc
  refine returnsInHanded_of_row (C := Tryz.checked) (s := OpenSpec.ofChange Rows.policyBackSpec) own started (by kernel_rfl) Tryz.func5
    (witness_row_atRef (enc := enc) (C := Tryz.checked) false (laidWorld os) args0 rfl (by kernel_rfl) (by kernel_rfl) (by kernel_rfl)
      (OpenSpec.preRow_of_cond 8 hx (by kernel_rfl) (fun k hk => by cases hk) (by kernel_rfl) (laid_met os _))) ?_
  intro W base args ds gs before hval hW _ _ hsz hL _ _
  exact contract H enc W base args ds gs before hval hW hsz hL

theorem said : Rows.PolicyBackSaid :=
  OpenClaim.holds_of_cond 5 Tryz.f5 rfl rfl rfl rfl rfl rfl rfl ⟨rfl, rfl, rfl, rfl, rfl⟩ rfl rfl rfl rfl rfl (by kernel_rfl) Tryz.func5 (by kernel_rfl)
    (of_decide_eq_true (by kernel_rfl)) (by unfold Func.isWrapper; first | (rw [if_pos (by decide +kernel)]; kernel_rfl) | (rw [if_neg (by decide +kernel)]; exact ⟨rfl, rfl⟩))
    (fun os started H enc _ F => by rw [OpenClaim.pre_eq_preRow]; exact lifted os started H enc F)

theorem plain (f : FuncId) (fn : Func) (hf : Tryz.pinned.checked.prog.funcNamed "ravelin/ravelinlaw06.PolicyBack" = some f) (hfn : Tryz.pinned.checked.prog.funcs[f]? = some fn) :
    true = Tryz.pinned.checked.prog.looks [] ∧ ∀ (j : Nat) t, fn.params[j]? = some t → Tryz.pinned.checked.prog.wantsStandIn t = false := by
  obtain rfl : f = 5 := Option.some.inj ((show Tryz.prog.funcNamed "ravelin/ravelinlaw06.PolicyBack" = some 5 by kernel_rfl).symm.trans hf) |>.symm
  obtain rfl : fn = Tryz.f5 := (Option.some.inj (Tryz.func5.symm.trans hfn)).symm
  refine ⟨by kernel_rfl, fun j t ht => ?_⟩
  rw [Tryz.params5] at ht
  obtain rfl : t = 9 := by simpa using Array.mem_of_getElem? ht
  exact (show Tryz.prog.wantsStandIn 9 = false by kernel_rfl)

theorem card : Rows.PolicyBackCardSaid :=
  Claim7.holds_tied_plain_at .later [] _ _ _ _ said (fun _ h => by cases h) (by kernel_rfl) (fun _ h => by cases h) policyBack_row_tie rfl ⟨rfl, rfl⟩ (by kernel_rfl) rfl plain (by kernel_rfl)
end Go.Proofs.YtlmopoipjolbgaaGreatDoor.PolicyBack
