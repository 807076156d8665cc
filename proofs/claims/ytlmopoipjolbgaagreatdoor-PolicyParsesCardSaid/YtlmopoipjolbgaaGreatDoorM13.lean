/-
  Layer 6 (policy), the reference: rule. · Layer 6 (policy), the reference: ParseExpr. · Layer 6 (policy): a policy: its head.
-/
import Derived.Deep.RegionLaw
import Derived.Test.YtlmopoipjolbgaaGreatDoorM12
import Derived.Test.YtlmopoipjolbgaaGreatDoorM08
import Derived.Test.YtlmopoipjolbgaaGreatDoorM05
import Derived.Deep.RegionHeld3
namespace Go.Proofs.YtlmopoipjolbgaaGreatDoor.LexW
open Go.RowKit Go.Shelf Go.Proofs.YtlmopoipjolbgaaGreatDoor.LexS Go.Proofs.YtlmopoipjolbgaaGreatDoorW.PrintWords
set_option linter.unusedVariables false
set_option linter.unusedSimpArgs false

/-- on the way: the result's box, the rule's -/
structure RuSt (g : Nat) (LL : List Tk) (ep : EP) (W Wi : World) (S : RS) (cs : Array Value) : Prop where
  out : LOut W g LL ep 0 S Wi
  hB : Wi.heap[W.heap.size]? = some (.cells #[.slice none 0 0, .int .i64 0, .slice none 0 0, .int .i64 0, .int .u64 0, .int .i64 0, .int .u64 0, .int .i64 0, .int .u64 0] 70 (0, 0))
  hX : Wi.heap[W.heap.size + 1]? = some (.cells cs 70 (0, 0))
section
variable {g : Nat} {LL : List Tk} {ep : EP} {W Wi Wj : World} {S S' : RS} {cs : Array Value} {v0 v1 v2 v3 v4 v5 v6 v7 v8 : Value}
theorem RuSt.lt (h : RuSt g LL ep W Wi S cs) : W.heap.size + 1 < Wi.heap.size := (Array.getElem?_eq_some_iff.1 h.hX).1
theorem RuSt.step (h : RuSt g LL ep W Wi S cs) (hg : g < W.heap.size) (hO : LOut Wi g LL ep 0 S' Wj) : RuSt g LL ep W Wj S' cs :=
  ⟨h.out.trans hO, chg_block hO.chg h.hB (by omega), chg_block hO.chg h.hX (by omega)⟩
theorem RuSt.belowB (h : RuSt g LL ep W Wi S cs) (hg : g < W.heap.size) (hb : Below (W.heap.size + 2) Wi Wj) : RuSt g LL ep W Wj S cs :=
  ⟨⟨h.out.st.chg (Chg.of_belowB hb) (fun k e => by omega), h.out.chg.trans (Chg.of_belowB hb) (fun k e => .inr (by omega))⟩, (hb.block _ (by omega)).trans h.hB, (hb.block _ (by omega)).trans h.hX⟩
theorem RuSt.below (h : RuSt g LL ep W Wi S cs) (hg : g < W.heap.size) (hb : Below Wi.heap.size Wi Wj) : RuSt g LL ep W Wj S cs := h.belowB hg (hb.mono h.lt)
theorem RuSt.set (h : RuSt g LL ep W Wi S cs) (hg : g < W.heap.size) (j : Nat) (v : Value) : RuSt g LL ep W (Wi.setCell ⟨W.heap.size + 1, j, none⟩ v) S (cs.setIfInBounds j v) :=
  ⟨h.out.far (W.heap.size + 1) j hg (by omega) v, (Below.heap_setCell Wi ⟨W.heap.size + 1, j, none⟩ v W.heap.size (by show W.heap.size ≠ W.heap.size + 1; omega)).trans h.hB, blk_set h.hX j v⟩
theorem RuSt.set0 (h : RuSt g LL ep W Wi S #[v0, v1, v2, v3, v4, v5, v6, v7, v8]) (hg : g < W.heap.size) (u : Value) : RuSt g LL ep W (Wi.setCell ⟨W.heap.size + 1, 0, none⟩ u) S #[u, v1, v2, v3, v4, v5, v6, v7, v8] := h.set hg 0 u
theorem RuSt.set16 (h : RuSt g LL ep W Wi S #[v0, v1, v2, v3, v4, v5, v6, v7, v8]) (hg : g < W.heap.size) (a1 a2 a3 a4 a5 a6 : Value) :
    RuSt g LL ep W ((((((Wi.setCell ⟨W.heap.size + 1, 1, none⟩ a1).setCell ⟨W.heap.size + 1, 2, none⟩ a2).setCell ⟨W.heap.size + 1, 3, none⟩ a3).setCell ⟨W.heap.size + 1, 4, none⟩ a4).setCell ⟨W.heap.size + 1, 5, none⟩ a5).setCell ⟨W.heap.size + 1, 6, none⟩ a6) S #[v0, a1, a2, a3, a4, a5, a6, v7, v8] :=
  (((((h.set hg 1 a1).set hg 2 a2).set hg 3 a3).set hg 4 a4).set hg 5 a5).set hg 6 a6
theorem RuSt.set78 (h : RuSt g LL ep W Wi S #[v0, v1, v2, v3, v4, v5, v6, v7, v8]) (hg : g < W.heap.size) (a7 a8 : Value) :
    RuSt g LL ep W ((Wi.setCell ⟨W.heap.size + 1, 7, none⟩ a7).setCell ⟨W.heap.size + 1, 8, none⟩ a8) S #[v0, v1, v2, v3, v4, v5, v6, a7, a8] := (h.set hg 7 a7).set hg 8 a8
end
theorem chg16 (W : World) (b : Nat) (a1 a2 a3 a4 a5 a6 : Value) : Chg (fun k => k = b) W ((((((W.setCell ⟨b, 1, none⟩ a1).setCell ⟨b, 2, none⟩ a2).setCell ⟨b, 3, none⟩ a3).setCell ⟨b, 4, none⟩ a4).setCell ⟨b, 5, none⟩ a5).setCell ⟨b, 6, none⟩ a6) :=
  (((((Chg.of_set W b 1 a1).trans (Chg.of_set _ b 2 a2) (fun k e => .inl e)).trans (Chg.of_set _ b 3 a3) (fun k e => .inl e)).trans (Chg.of_set _ b 4 a4) (fun k e => .inl e)).trans (Chg.of_set _ b 5 a5) (fun k e => .inl e)).trans (Chg.of_set _ b 6 a6) (fun k e => .inl e)
theorem chg78 (W : World) (b : Nat) (a7 a8 : Value) : Chg (fun k => k = b) W ((W.setCell ⟨b, 7, none⟩ a7).setCell ⟨b, 8, none⟩ a8) := (Chg.of_set W b 7 a7).trans (Chg.of_set _ b 8 a8) (fun k e => .inl e)
def RlL (W : World) (g : Nat) (LL : List Tk) (ep : EP) (p : Rl × RS) (en : Ending) (W' : World) : Prop := ∃ vc v1, en = .returned (rlAgg p.1 vc v1) ∧ ClRow W' W.heap.size vc p.1.f0 ∧ ExRow W' W.heap.size v1 p.1.f1.f1 ∧ LOut W g LL ep 0 p.2 W'
theorem rule_end {g : Nat} {LL : List Tk} {ep : EP} {W Wi : World} {S : RS} {cs : Array Value} (h : RuSt g LL ep W Wi S cs) (hg : g < W.heap.size) (x : Rl) (A B : Option Addr) (c d : Nat) (h0 : ClRow Wi (W.heap.size + 2) (.slice A x.f0.length c) x.f0) (h2 : ExRow Wi (W.heap.size + 2) (.slice B x.f1.f1.length d) x.f1.f1) (Wz : World)
    (hc : Chg (fun k => k = W.heap.size) Wi Wz) : ClRow Wz W.heap.size (.slice A x.f0.length c) x.f0 ∧ ExRow Wz W.heap.size (.slice B x.f1.f1.length d) x.f1.f1 ∧ LOut W g LL ep 0 S Wz :=
  ⟨(h0.chg hc (fun k e => by omega)).lower (by omega), (h2.chg hc (fun k e => by omega)).lowB (by omega), ⟨h.out.st.chg hc (fun k e => by omega), h.out.chg.trans hc (fun k e => .inr (by omega))⟩⟩
theorem calls_unfold (ep : EP) (n : Nat) (l : List Cl) (S : RS) : callsL ep (n + 1) l S = if (isL ep 4 sComma (callL ep S).2).1 = true then callsL ep n (l ++ [(callL ep S).1]) (isL ep 4 sComma (callL ep S).2).2 else (l ++ [(callL ep S).1], (isL ep 4 sComma (callL ep S).2).2) := rfl

set_option maxRecDepth 100000 in
set_option maxHeartbeats 8000000 in
theorem rule_ref (g : Nat) (LL : List Tk) (ep : EP) (S : RS) (W : World) (hF : Fin3 ep S) (hR : RfS W g LL ep 0 S) :
    Calls Tryz.prog 32 #[.pointer (some ⟨g, 0, none⟩)] W (RlL W g LL ep (ruleL ep S)) := by
  have hgW := hR.lt
  have hlen := rfs_len hR
  have hal : Below W.heap.size W ((W.alloc rlZero).alloc rlInit) := ((Below.refl W.heap.size W).alloc (Nat.le_refl _) _).alloc (by simp) _
  have hS0 : RuSt g LL ep W ((W.alloc rlZero).alloc rlInit) S #[.slice none 0 0, .int .i64 1, .slice none 0 0, .int .i64 0, .int .u64 0, .int .i64 0, .int .u64 0, .int .i64 0, .int .u64 0] :=
    ⟨⟨hR.below hal, Chg.of_below hal _⟩, blk_past _ (new_blk W _ _), new_blk' (by simp) _ _⟩
  have HS0 := Lib.hid hS0; have HF0 := Lib.hid hF
  have hru : ruleL ep S = (⟨(callsL ep (S.M.length + 1) [] S).1, (whenL ep (callsL ep (S.M.length + 1) [] S).2).1, (verdictL ep (wantL ep 2 sDo (whenL ep (callsL ep (S.M.length + 1) [] S).2).2)).1⟩, wantL ep 4 sSemi (verdictL ep (wantL ep 2 sDo (whenL ep (callsL ep (S.M.length + 1) [] S).2).2)).2) := rfl
  have HRU := Lib.hid hru
  clear hS0 hal hR hF hru
  go_enter Tryz.func32, Tryz.ntmps32
  go_wp2
  go_loopg [] (S.M.length + 1) (fun n wr => ∃ (l : List Cl) (S4 : RS) (v : Value), Hid (callsL ep (S.M.length + 1) [] S = callsL ep n l S4) ∧ S4.M.length < n ∧ l.length + S4.M.length ≤ 65538 ∧ Hid (ClRow wr (W.heap.size + 2) v l) ∧ Hid (RuSt g LL ep W wr S4 #[v, .int .i64 1, .slice none 0 0, .int .i64 0, .int .u64 0, .int .i64 0, .int .u64 0, .int .i64 0, .int .u64 0]) ∧ Hid (Fin3 ep S4))
  case atStart => exact ⟨[], S, .slice none 0 0, Lib.hid rfl, by omega, by simp; omega, Lib.hid (Kd.R_nil _ _ _ _ _), HS0, HF0⟩
  case round =>
    clear HS0 HF0
    obtain ⟨l, S4, v, HT, hn, hl, HROW, HS4, HF4⟩ := hrel
    obtain ⟨n, rfl⟩ : ∃ n, gk = n + 1 := ⟨gk - 1, by omega⟩
    obtain ⟨A, c, rfl⟩ := Kd.R_slice HROW.out
    have hlt4 := HS4.out.lt
    have hdr : Below wr.heap.size wr wr.drew := (Below.refl _ _).drew
    have hS4d := HS4.out.below hgW hdr
    have HC := Lib.hid (call_ref g LL ep 0 S4 wr.drew HF4.out hS4d.out.st)
    have hrow4 := HROW.out.chg (Chg.of_below hdr (fun k => k = g)) (fun k e => by omega)
    have HS4D := Lib.hid hS4d; have HROWD := Lib.hid hrow4
    have hF5 := call_fin HF4.out
    have hl5 := call_len ep S4
    have HUN := Lib.hid (calls_unfold ep n l S4)
    have hszd : wr.drew.heap.size = wr.heap.size := rfl
    obtain ⟨x0, x1, x2, x3, x4, x5, x6, x7, x8, xf⟩ := blk9 HS4.out.hX
    clear hS4d hrow4 hdr
    generalize callL ep S4 = P5 at HC hF5 hl5 HUN
    obtain ⟨y, S5⟩ := P5
    have HF5 := Lib.hid hF5; clear hF5
    go_wp2_with fail
    go_region_law (first
      | (refine Kd.R_append_step kCl (w0 := W7) (W := W7) (W.heap.size + 2) (by rfl) (.tmp 9) (.tmp 12) 68 74 (.agg #[.string ⟨#[]⟩, .int .u64 0]) 24 rfl Tryz.underlying68 infoCl rfl (by decide) (by decide) (.slice A l.length c) l y (clCells y) (fun _ => True) (fun _ => False) (by first | rfl | (go_simp; done)) (by first | rfl | (go_simp; done)) HMADE.out (fun k hk => hk.elim) (fun _ _ => trivial) HROW7.out (Below.refl _ _) (by omega) (by omega) ?_; intro v8 w8 hO8 hb8 hg8 hat8
         obtain ⟨A8, c8, rfl⟩ := Kd.R_slice hO8
         have HS8 := Lib.hid (HS7.out.belowB hgW hb8); have HO8 : Hid (ClRow w8 (W.heap.size + 2) (.slice A8 (l ++ [y]).length c8) (l ++ [y])) := Lib.hid hO8; clear hO8 hb8 hg8 hat8
         obtain ⟨w0', w1', w2', w3', w4', w5', w6', w7', w8', wf'⟩ := blk9 HS8.out.hX)
      | (go_simp; go_at_call 64; refine HC.out.mono ?_; rintro e W7 ⟨rfl, hO7⟩
         have hs7 := hO7.chg.size
         have HS7 := Lib.hid (HS4D.out.step hgW hO7); have HROW7 := Lib.hid (HROWD.out.chg hO7.chg (fun k e => by omega))
         have HMADE := Lib.hid (kCl_mkM W7 (W.heap.size + 2) (fun _ => False) y)
         obtain ⟨z0, z1, z2, z3, z4, z5, z6, z7, z8, zf⟩ := blk9 HS7.out.hX
         obtain ⟨t0, t1, t2, t3, t4, t5, t6, t7, t8, tf⟩ := blk9 (blk_past (.cells (clCells y).toArray 74) HS7.out.hX)
         clear hO7))
    all_goals
      have hlen1 : (l ++ [y]).length = l.length + 1 := by simp
      rw [hlen1] at HO8
      have hset := Chg.of_set w8 (W.heap.size + 1) 0 (.slice A8 (l.length + 1) c8)
      have HS9 := Lib.hid (HS8.out.set0 hgW (.slice A8 (l.length + 1) c8))
      have HO9 := Lib.hid (HO8.out.chg hset (fun k e => by omega))
      have HI := Lib.hid (is_ref g LL ep 0 4 sComma S5 _ HF5.out HS9.out.out.st)
      have hFi := is_fin (k := 4) (x := sComma) HF5.out (by decide)
      have hIt := isL_true (k := 4) (x := sComma) HF5.out
      obtain ⟨b, S6, hP⟩ : ∃ b S6, isL ep 4 sComma S5 = (b, S6) := ⟨_, _, rfl⟩
      rw [hP] at HI hFi hIt
      have HUN2 : Hid (callsL ep (n + 1) l S4 = if b = true then callsL ep n (l ++ [y]) S6 else (l ++ [y], S6)) := Lib.hid (by rw [HUN.out]; show (if (isL ep 4 sComma S5).1 = true then callsL ep n (l ++ [y]) (isL ep 4 sComma S5).2 else _) = _; rw [hP])
      have HF6 := Lib.hid hFi
      have hl5' : S5.M.length ≤ S4.M.length := hl5
      clear hset hP hFi x0 x1 x2 x3 x4 x5 x6 x7 x8 xf z0 z1 z2 z3 z4 z5 z6 z7 z8 zf t0 t1 t2 t3 t4 t5 t6 t7 t8 tf w0' w1' w2' w3' w4' w5' w6' w7' w8' wf'
      cases b with
      | true =>
        have hIt' : S6.M.length + 1 = S5.M.length := hIt rfl
        go_wp2_with fail
        refine HI.out.mono ?_
        rintro e W9 ⟨rfl, hO⟩
        have HSA := Lib.hid (HS9.out.step hgW hO)
        have HOA := Lib.hid (HO9.out.chg hO.chg (fun k e => by omega))
        clear hO
        go_wp2
        go_roundg n
        case measure => omega
        case rel => exact ⟨l ++ [y], S6, _, Lib.hid (by rw [HT.out, HUN2.out]; rfl), by omega, by rw [hlen1]; omega, HOA, HSA, HF6⟩
      | false =>
        have HV : Hid (callsL ep (S.M.length + 1) [] S = (l ++ [y], S6)) := Lib.hid (by rw [HT.out, HUN2.out]; rfl)
        go_wp2_with fail
        refine HI.out.mono ?_
        rintro e W9 ⟨rfl, hO⟩
        have HSA := Lib.hid (HS9.out.step hgW hO)
        have HOA := Lib.hid (HO9.out.chg hO.chg (fun k e => by omega))
        obtain ⟨lz, hlz⟩ : ∃ lz, lz = l ++ [y] := ⟨_, rfl⟩
        have hlzl : l.length + 1 = lz.length := by rw [hlz]; simp
        rw [← hlz] at HV HOA
        rw [hlzl] at HOA HSA
        clear hlz hlzl hlen1 hO HS9 HO9 HI HT HUN2 HROW HS4 HC HS4D HROWD HUN HF4 HF5 hIt
        have HIW := Lib.hid (is_ref g LL ep 0 2 sWhen S6 W9 HF6.out HSA.out.out.st)
        have hFw := is_fin (k := 2) (x := sWhen) HF6.out (by decide)
        have hwn : whenL ep S6 = if (isL ep 2 sWhen S6).1 = true then exprL ep (oneL ep 64) (isL ep 2 sWhen S6).2 else (⟨1, [], 0, 0, 0, 0⟩, (isL ep 2 sWhen S6).2) := rfl
        obtain ⟨bw, S7, hP⟩ : ∃ bw S7, isL ep 2 sWhen S6 = (bw, S7) := ⟨_, _, rfl⟩
        rw [hP] at HIW hFw hwn
        have HFW := Lib.hid hFw
        clear hP hFw
        cases bw with
        | true =>
          have HWN : Hid (whenL ep S6 = exprL ep (oneL ep 64) S7) := Lib.hid hwn
          clear hwn
          go_wp2_with fail
          refine HIW.out.mono ?_
          rintro e WA ⟨rfl, hO⟩
          have HSB := Lib.hid (HSA.out.step hgW hO)
          have HOB := Lib.hid (HOA.out.chg hO.chg (fun k e => by omega))
          clear hO HIW
          go_wp2_with fail
          refine (expr_ref g LL ep S7 WA HFW.out HSB.out.out.st).mono ?_
          rintro e WB ⟨vx, rfl, hX, hO⟩
          have hFx : Fin3 ep (exprL ep (oneL ep 64) S7).2 := expr_fin (one_fin 64) HFW.out
          obtain ⟨x6, S8, hP6⟩ : ∃ x6 S8, exprL ep (oneL ep 64) S7 = (x6, S8) := ⟨_, _, rfl⟩
          rw [hP6] at hX hO hFx ⊢
          have HWN2 : Hid (whenL ep S6 = (x6, S8)) := Lib.hid (by rw [HWN.out, hP6])
          obtain ⟨Ax, cx, rfl⟩ := Kd.R_slice hX
          have hsA := HSB.out.lt
          have hSC := HSB.out.step hgW hO
          obtain ⟨p0, p1, p2, p3, p4, p5, p6, p7, p8, pf⟩ := blk9 hSC.hX
          have hc16 := chg16 WB (W.heap.size + 1) (.int .i64 x6.f0) (.slice Ax x6.f1.length cx) (.int .i64 x6.f2) (.int .u64 x6.f3) (.int .i64 x6.f4) (.int .u64 x6.f5)
          have HSD := Lib.hid (hSC.set16 hgW (.int .i64 x6.f0) (.slice Ax x6.f1.length cx) (.int .i64 x6.f2) (.int .u64 x6.f3) (.int .i64 x6.f4) (.int .u64 x6.f5))
          have HOD := Lib.hid ((HOB.out.chg hO.chg (fun k e => by omega)).chg hc16 (fun k e => by omega))
          have HXD : Hid (ExRow _ (W.heap.size + 2) (.slice Ax x6.f1.length cx) x6.f1) := Lib.hid (((show ExRow WB WA.heap.size (.slice Ax x6.f1.length cx) x6.f1 from hX).lowB (by omega)).chg hc16 (fun k e => by omega))
          have HFX := Lib.hid hFx
          clear hP6 hX hO hFx hSC hc16 HSB HOB HWN
          unfold exAgg
          go_wp2_with fail
          refine (want_ref g LL ep 0 2 sDo S8 _ HFX.out HSD.out.out.st).mono ?_
          rintro e WE ⟨rfl, hO⟩
          have HSE := Lib.hid (HSD.out.step hgW hO)
          have HOE := Lib.hid (HOD.out.chg hO.chg (fun k e => by omega))
          have HXE := Lib.hid (HXD.out.chg hO.chg (fun k e => by omega))
          have hFd := want_fin (k := 2) (x := sDo) HFX.out (by decide)
          obtain ⟨S9, hS9⟩ : ∃ S9, S9 = wantL ep 2 sDo S8 := ⟨_, rfl⟩
          rw [← hS9] at HSE hFd
          have HQ1 := Lib.hid hS9
          have HFD := Lib.hid hFd
          clear hO HSD HOD HXD hFd hS9
          go_wp2_with fail
          refine (verdict_ref g LL ep 0 S9 WE HFD.out HSE.out.out.st).mono ?_
          rintro e WF ⟨rfl, hO⟩
          have hFv := verdict_fin HFD.out
          obtain ⟨vd, SA, hP⟩ : ∃ vd SA, verdictL ep S9 = (vd, SA) := ⟨_, _, rfl⟩
          rw [hP] at hO hFv ⊢
          have hSF := HSE.out.step hgW hO
          obtain ⟨p0, p1, p2, p3, p4, p5, p6, p7, p8, pf⟩ := blk9 hSF.hX
          have hc78 := chg78 WF (W.heap.size + 1) (.int .i64 vd.f0) (.int .u64 vd.f1)
          have HSG := Lib.hid (hSF.set78 hgW (.int .i64 vd.f0) (.int .u64 vd.f1))
          have HOG := Lib.hid ((HOE.out.chg hO.chg (fun k e => by omega)).chg hc78 (fun k e => by omega))
          have HXG := Lib.hid ((HXE.out.chg hO.chg (fun k e => by omega)).chg hc78 (fun k e => by omega))
          have HQ2 := Lib.hid hP; have HFV := Lib.hid hFv
          clear hP hO hFv hSF hc78 HSE HOE HXE
          unfold vdVal
          go_wp2_with fail
          refine (want_ref g LL ep 0 4 sSemi SA _ HFV.out HSG.out.out.st).mono ?_
          rintro e WH ⟨rfl, hO⟩
          have hSH := HSG.out.step hgW hO
          have HOH := Lib.hid (HOG.out.chg hO.chg (fun k e => by omega))
          have HXH := Lib.hid (HXG.out.chg hO.chg (fun k e => by omega))
          clear p0 p1 p2 p3 p4 p5 p6 p7 p8 pf
          obtain ⟨p0, p1, p2, p3, p4, p5, p6, p7, p8, pf⟩ := blk9 hSH.hX
          obtain ⟨q0, q1, q2, q3, q4, q5, q6, q7, q8, qf⟩ := blk9 hSH.hB
          have HSH := Lib.hid hSH
          clear hO hSH HSG HOG HXG
          go_wp2
          obtain ⟨hb9, hc9⟩ := sets9 HSH.out.hB (.slice A8 lz.length c8) (.int .i64 x6.f0) (.slice Ax x6.f1.length cx) (.int .i64 x6.f2) (.int .u64 x6.f3) (.int .i64 x6.f4) (.int .u64 x6.f5) (.int .i64 vd.f0) (.int .u64 vd.f1)
          obtain ⟨r0, r1, r2, r3, r4, r5, r6, r7, r8, rf⟩ := blk9 hb9
          refine bodyPost_ret (v := rlAgg ⟨lz, x6, vd⟩ (.slice A8 lz.length c8) (.slice Ax x6.f1.length cx)) (by simp [results, Tryz.results32, go_sem, r0, r1, r2, r3, r4, r5, r6, r7, r8, rlAgg]) rfl ?_
          rw [HRU.out, HV.out]
          show RlL W g LL ep (⟨lz, (whenL ep S6).1, (verdictL ep (wantL ep 2 sDo (whenL ep S6).2)).1⟩, wantL ep 4 sSemi (verdictL ep (wantL ep 2 sDo (whenL ep S6).2)).2) _ _
          rw [HWN2.out]
          show RlL W g LL ep (⟨lz, x6, (verdictL ep (wantL ep 2 sDo S8)).1⟩, wantL ep 4 sSemi (verdictL ep (wantL ep 2 sDo S8)).2) _ _
          rw [← HQ1.out, HQ2.out]
          exact ⟨_, _, rfl, rule_end HSH.out hgW ⟨lz, x6, vd⟩ _ _ _ _ HOH.out HXH.out _ hc9⟩
        | false =>
          have HWN2 : Hid (whenL ep S6 = ((⟨1, [], 0, 0, 0, 0⟩ : Ex), S7)) := Lib.hid hwn
          clear hwn
          go_wp2_with fail
          refine HIW.out.mono ?_
          rintro e WA ⟨rfl, hO⟩
          have HSD := Lib.hid (HSA.out.step hgW hO)
          have HOD := Lib.hid (HOA.out.chg hO.chg (fun k e => by omega))
          have HXD : Hid (ExRow WA (W.heap.size + 2) (.slice none 0 0) []) := Lib.hid (Kd.R_nil _ _ _ _ _)
          clear hO HIW
          go_wp2_with fail
          refine (want_ref g LL ep 0 2 sDo S7 _ HFW.out HSD.out.out.st).mono ?_
          rintro e WE ⟨rfl, hO⟩
          have HSE := Lib.hid (HSD.out.step hgW hO)
          have HOE := Lib.hid (HOD.out.chg hO.chg (fun k e => by omega))
          have HXE := Lib.hid (HXD.out.chg hO.chg (fun k e => by omega))
          have hFd := want_fin (k := 2) (x := sDo) HFW.out (by decide)
          obtain ⟨S9, hS9⟩ : ∃ S9, S9 = wantL ep 2 sDo S7 := ⟨_, rfl⟩
          rw [← hS9] at HSE hFd
          have HQ1 := Lib.hid hS9
          have HFD := Lib.hid hFd
          clear hO HSD HOD HXD hFd hS9
          go_wp2_with fail
          refine (verdict_ref g LL ep 0 S9 WE HFD.out HSE.out.out.st).mono ?_
          rintro e WF ⟨rfl, hO⟩
          have hFv := verdict_fin HFD.out
          obtain ⟨vd, SA, hP⟩ : ∃ vd SA, verdictL ep S9 = (vd, SA) := ⟨_, _, rfl⟩
          rw [hP] at hO hFv ⊢
          have hSF := HSE.out.step hgW hO
          obtain ⟨p0, p1, p2, p3, p4, p5, p6, p7, p8, pf⟩ := blk9 hSF.hX
          have hc78 := chg78 WF (W.heap.size + 1) (.int .i64 vd.f0) (.int .u64 vd.f1)
          have HSG := Lib.hid (hSF.set78 hgW (.int .i64 vd.f0) (.int .u64 vd.f1))
          have HOG := Lib.hid ((HOE.out.chg hO.chg (fun k e => by omega)).chg hc78 (fun k e => by omega))
          have HXG := Lib.hid ((HXE.out.chg hO.chg (fun k e => by omega)).chg hc78 (fun k e => by omega))
          have HQ2 := Lib.hid hP; have HFV := Lib.hid hFv
          clear hP hO hFv hSF hc78 HSE HOE HXE
          unfold vdVal
          go_wp2_with fail
          refine (want_ref g LL ep 0 4 sSemi SA _ HFV.out HSG.out.out.st).mono ?_
          rintro e WH ⟨rfl, hO⟩
          have hSH := HSG.out.step hgW hO
          have HOH := Lib.hid (HOG.out.chg hO.chg (fun k e => by omega))
          have HXH := Lib.hid (HXG.out.chg hO.chg (fun k e => by omega))
          clear p0 p1 p2 p3 p4 p5 p6 p7 p8 pf
          obtain ⟨p0, p1, p2, p3, p4, p5, p6, p7, p8, pf⟩ := blk9 hSH.hX
          obtain ⟨q0, q1, q2, q3, q4, q5, q6, q7, q8, qf⟩ := blk9 hSH.hB
          have HSH := Lib.hid hSH
          clear hO hSH HSG HOG HXG
          go_wp2
          obtain ⟨hb9, hc9⟩ := sets9 HSH.out.hB (.slice A8 lz.length c8) (.int .i64 1) (.slice none 0 0) (.int .i64 0) (.int .u64 0) (.int .i64 0) (.int .u64 0) (.int .i64 vd.f0) (.int .u64 vd.f1)
          obtain ⟨r0, r1, r2, r3, r4, r5, r6, r7, r8, rf⟩ := blk9 hb9
          refine bodyPost_ret (v := rlAgg ⟨lz, (⟨1, [], 0, 0, 0, 0⟩ : Ex), vd⟩ (.slice A8 lz.length c8) (.slice none 0 0)) (by simp [results, Tryz.results32, go_sem, r0, r1, r2, r3, r4, r5, r6, r7, r8, rlAgg]) rfl ?_
          rw [HRU.out, HV.out]
          show RlL W g LL ep (⟨lz, (whenL ep S6).1, (verdictL ep (wantL ep 2 sDo (whenL ep S6).2)).1⟩, wantL ep 4 sSemi (verdictL ep (wantL ep 2 sDo (whenL ep S6).2)).2) _ _
          rw [HWN2.out]
          show RlL W g LL ep (⟨lz, (⟨1, [], 0, 0, 0, 0⟩ : Ex), (verdictL ep (wantL ep 2 sDo S7)).1⟩, wantL ep 4 sSemi (verdictL ep (wantL ep 2 sDo S7)).2) _ _
          rw [← HQ1.out, HQ2.out]
          exact ⟨_, _, rfl, rule_end HSH.out hgW ⟨lz, (⟨1, [], 0, 0, 0, 0⟩ : Ex), vd⟩ _ _ _ _ HOH.out HXH.out _ hc9⟩
end Go.Proofs.YtlmopoipjolbgaaGreatDoor.LexW
namespace Go.Proofs.YtlmopoipjolbgaaGreatDoor.LexW
open Go.RowKit Go.Shelf Go.Proofs.YtlmopoipjolbgaaGreatDoor.LexS Go.Proofs.YtlmopoipjolbgaaGreatDoorW.PrintWords
set_option linter.unusedVariables false
set_option linter.unusedSimpArgs false

theorem toks_fin3 (s : ByteArray) : Fin3 (toks s).2 ⟨(toks s).1, 0, 0⟩ := by
  have h := toksF_fine s (s.size + 1) 0 (by omega)
  have h1 : (toks s).1 = [] → (toks s).2.1 ≠ 0 := h.1
  have h2 : (toks s).1 ≠ [] → Fine (toks s).2 (toks s).1 := h.2
  intro _ he
  by_cases hn : (toks s).1 = []
  · exact absurd he (h1 hn)
  · obtain ⟨t, r, hL, hl⟩ := h2 hn
    obtain ⟨x, hx, hx1, hx2⟩ := hl he
    show ∃ x, (toks s).1.getLast? = some x ∧ x.kind = 1 ∧ ∀ y ∈ (toks s).1.dropLast, y.kind ≠ 1
    rw [hL]
    exact ⟨x, hx, hx1, hx2⟩
/-- on the way: the result's box, the reader -/
structure PsSt (g : Nat) (LL : List Tk) (ep : EP) (W : World) (zc : Array Value) (ty : TypeId) (Wi : World) (S : RS) : Prop where
  bel : Below W.heap.size W Wi
  hz : Wi.heap[W.heap.size]? = some (.cells zc ty (0, 0))
  st : RfS Wi g LL ep 0 S
  hg : W.heap.size < g
section
variable {g : Nat} {LL : List Tk} {ep : EP} {W Wi Wj : World} {zc : Array Value} {ty : TypeId} {S S' : RS}
theorem PsSt.step (h : PsSt g LL ep W zc ty Wi S) (hO : LOut Wi g LL ep 0 S' Wj) : PsSt g LL ep W zc ty Wj S' :=
  ⟨h.bel.trans (hO.chg.below h.bel.size (fun k e => by have := h.hg; omega)), chg_block hO.chg h.hz (by have := h.hg; omega), hO.st, h.hg⟩
theorem PsSt.below (h : PsSt g LL ep W zc ty Wi S) (hb : Below Wi.heap.size Wi Wj) : PsSt g LL ep W zc ty Wj S :=
  ⟨h.bel.trans (hb.mono h.bel.size), (hb.block _ (Array.getElem?_eq_some_iff.1 h.hz).1).trans h.hz, h.st.below hb, h.hg⟩
end
theorem rfs_bad {W : World} {g : Nat} {LL : List Tk} {ep : EP} {d : Int} {S : RS} (h : RfS W g LL ep d S) : W.cell? ⟨g, 5, none⟩ = some (.int .i64 S.err) ∧ W.cell? ⟨g, 6, none⟩ = some (.int .i64 S.bad) := by
  obtain ⟨A, c, k, hB, -⟩ := h
  obtain ⟨y0, y1, y2, y3, y4, y5, y6, -⟩ := blk7 hB
  exact ⟨y5, y6⟩
def exprLV (s : ByteArray) : Ex × EP := wholeL zEx (fun ep S => exprL ep (oneL ep 64) S) s

set_option maxRecDepth 100000 in
set_option maxHeartbeats 2000000 in
theorem rpexpr_ref (s : ByteArray) (W : World) (hlen : (toks s).1.length ≤ 65537) :
    Calls Tryz.prog 11 #[.string s] W fun e W' => PexOut W.heap.size (exprLV s) e W' ∧ Below W.heap.size W W' := by
  have hal := (Below.refl W.heap.size W).alloc (Nat.le_refl _) exZero
  have hz : (W.alloc exZero).heap[W.heap.size]? = some (.cells #[.int .i64 0, .slice none 0 0, .int .i64 0, .int .u64 0, .int .i64 0, .int .u64 0] 37 (0, 0)) := new_blk W _ _
  have hsz : (W.alloc exZero).heap.size = W.heap.size + 1 := by simp
  have HRD := Lib.hid (reader_ref s (W.alloc exZero) hlen)
  have hF0 := toks_fin3 s
  have HAL := Lib.hid hal; have HZ := Lib.hid hz
  have hev : exprLV s = if (kindL (toks s).2 1 (exprL (toks s).2 (oneL (toks s).2 64) ⟨(toks s).1, 0, 0⟩).2).2.err = 0 then ((exprL (toks s).2 (oneL (toks s).2 64) ⟨(toks s).1, 0, 0⟩).1, (0, 0)) else (zEx, ((kindL (toks s).2 1 (exprL (toks s).2 (oneL (toks s).2 64) ⟨(toks s).1, 0, 0⟩).2).2.err, (kindL (toks s).2 1 (exprL (toks s).2 (oneL (toks s).2 64) ⟨(toks s).1, 0, 0⟩).2).2.bad)) := rfl
  have HEV := Lib.hid hev
  clear hal hz hev
  generalize toks s = T at HRD hF0 HEV
  obtain ⟨L, ep⟩ := T
  have HF0 := Lib.hid hF0; clear hF0
  go_enter Tryz.func11, Tryz.ntmps11
  go_wp2_with fail
  refine HRD.out.mono ?_
  rintro e W2 ⟨g, rfl, hg, hR2, hb2⟩
  have hS2 : PsSt g L ep W #[.int .i64 0, .slice none 0 0, .int .i64 0, .int .u64 0, .int .i64 0, .int .u64 0] 37 W2 ⟨L, 0, 0⟩ := ⟨HAL.out.trans (hb2.mono HAL.out.size), (hb2.block _ (by omega)).trans HZ.out, hR2, by omega⟩
  have HS2 := Lib.hid hS2
  clear hR2 hb2 hS2 HRD
  go_wp2_with fail
  refine (expr_ref g L ep ⟨L, 0, 0⟩ W2 HF0.out HS2.out.st).mono ?_
  rintro e W3 ⟨v, rfl, hX, hO⟩
  have hF1 : Fin3 ep (exprL ep (oneL ep 64) ⟨L, 0, 0⟩).2 := expr_fin (one_fin 64) HF0.out
  obtain ⟨x, S3, hP⟩ : ∃ x S3, exprL ep (oneL ep 64) ⟨L, 0, 0⟩ = (x, S3) := ⟨_, _, rfl⟩
  rw [hP] at hX hO hF1 ⊢
  have HEV2 : Hid (exprLV s = if (kindL ep 1 S3).2.err = 0 then (x, (0, 0)) else (zEx, ((kindL ep 1 S3).2.err, (kindL ep 1 S3).2.bad))) := Lib.hid (by rw [HEV.out]; show (if (kindL ep 1 (exprL ep (oneL ep 64) ⟨L, 0, 0⟩).2).2.err = 0 then _ else _) = _; rw [hP])
  obtain ⟨A, c, rfl⟩ := Kd.R_slice hX
  have hs2 := HS2.out.bel.size
  have hW2 : W.heap.size < W2.heap.size := (Array.getElem?_eq_some_iff.1 HS2.out.hz).1
  have hal3 := (Below.refl W3.heap.size W3).alloc (Nat.le_refl _) (exBox x A c)
  have HS3 := Lib.hid ((HS2.out.step hO).below hal3)
  have hx3 : (W3.alloc (exBox x A c)).heap[W3.heap.size]? = some (.cells #[.int .i64 x.f0, .slice A x.f1.length c, .int .i64 x.f2, .int .u64 x.f3, .int .i64 x.f4, .int .u64 x.f5] 37 (0, 0)) := new_blk W3 _ _
  have hX3 : ExRow (W3.alloc (exBox x A c)) W2.heap.size (.slice A x.f1.length c) x.f1 := (show ExRow W3 W2.heap.size (.slice A x.f1.length c) x.f1 from hX).below hal3
  have hgl : g < W2.heap.size := HS2.out.st.lt
  have HX3 := Lib.hid hX3; have HBX := Lib.hid hx3
  have HF1 := Lib.hid hF1
  have hgs : g < W3.heap.size := hO.st.lt
  clear hX hO hF1 hP hal3 hx3 hX3
  unfold exAgg
  go_wp2_with fail
  refine (kind_ref g L ep 0 1 S3 _ HF1.out HS3.out.st).mono ?_
  rintro e W5 ⟨rfl, hO⟩
  obtain ⟨tq, S5, hP⟩ : ∃ tq S5, kindL ep 1 S3 = (tq, S5) := ⟨_, _, rfl⟩
  rw [hP] at hO HEV2 ⊢
  have hS5 := HS3.out.step hO
  have hx5 := chg_block hO.chg HBX.out (by omega)
  have hX5 := HX3.out.chg hO.chg (fun k e => by omega)
  have hne1 : ¬ (g = W.heap.size) := by have := HS3.out.hg; omega
  have hne2 : ¬ (W.heap.size = g) := by have := HS3.out.hg; omega
  obtain ⟨y0, y1, y2, y3, y4, y5, yf⟩ := blk6 hx5
  obtain ⟨z0, z1, z2, z3, z4, z5, zf⟩ := blk6 hS5.hz
  obtain ⟨e5, e6⟩ := rfs_bad hS5.st
  have HS5 := Lib.hid hS5; have HX5 := Lib.hid hX5
  clear hO hP hS5 hx5 hX5 HS3 HX3 HBX
  unfold tkVal
  by_cases h0 : S5.err = 0
  · have hb0 : (S5.err != 0) = false := by rw [bne_eq_false_iff_eq]; exact h0
    have HV : Hid (exprLV s = (x, (0, 0))) := Lib.hid (by rw [HEV2.out]; exact if_pos h0)
    clear h0
    go_wp2
    have hb6 := blk_sets6 HS5.out.hz (.int .i64 x.f0) (.slice A x.f1.length c) (.int .i64 x.f2) (.int .u64 x.f3) (.int .i64 x.f4) (.int .u64 x.f5)
    obtain ⟨r0, r1, r2, r3, r4, r5, rf⟩ := blk6 hb6
    have hcB : Chg (fun k => k = W.heap.size) W5 _ := (Chg.refl (fun k => k = W.heap.size) W5).sets6' W.heap.size (fun k e => e) (.int .i64 x.f0) (.slice A x.f1.length c) (.int .i64 x.f2) (.int .u64 x.f3) (.int .i64 x.f4) (.int .u64 x.f5)
    refine bodyPost_ret (v := .tuple #[exAgg x (.slice A x.f1.length c), .int .i64 0, .int .i64 0]) (by simp [results, Tryz.results11, go_sem, r0, r1, r2, r3, r4, r5]) rfl ?_
    rw [HV.out]
    exact ⟨⟨_, rfl, (HX5.out.chg hcB (fun k e => by omega)).lowB (by omega)⟩, HS5.out.bel.trans (hcB.below HS5.out.bel.size (fun k e => by omega))⟩
  · have hb0 : (S5.err != 0) = true := by rw [bne_iff_ne]; exact h0
    have HV : Hid (exprLV s = (zEx, (S5.err, S5.bad))) := Lib.hid (by rw [HEV2.out]; exact if_neg h0)
    clear h0
    go_wp2
    go_region
    all_goals go_wp2
    all_goals
      have hb6 := blk_sets6 HS5.out.hz (.int .i64 0) (.slice none 0 0) (.int .i64 0) (.int .u64 0) (.int .i64 0) (.int .u64 0)
      obtain ⟨r0, r1, r2, r3, r4, r5, rf⟩ := blk6 hb6
      have hcB : Chg (fun k => k = W.heap.size) W5 _ := (Chg.refl (fun k => k = W.heap.size) W5).sets6' W.heap.size (fun k e => e) (.int .i64 0) (.slice none 0 0) (.int .i64 0) (.int .u64 0) (.int .i64 0) (.int .u64 0)
      refine bodyPost_ret (v := .tuple #[exAgg zEx (.slice none 0 0), .int .i64 S5.err, .int .i64 S5.bad]) (by simp [results, Tryz.results11, go_sem, r0, r1, r2, r3, r4, r5, zEx, exAgg]) rfl ?_
      rw [HV.out]
      exact ⟨⟨_, rfl, Kd.R_nil _ _ _ _ _⟩, (HS5.out.bel.trans (hcB.below HS5.out.bel.size (fun k e => by omega))).drew⟩
end Go.Proofs.YtlmopoipjolbgaaGreatDoor.LexW
namespace Go.Proofs.YtlmopoipjolbgaaGreatDoor.LexW
open Go.RowKit Go.Shelf Go.Proofs.YtlmopoipjolbgaaGreatDoor.LexS Go.Proofs.YtlmopoipjolbgaaGreatDoorW.PrintWords
set_option linter.unusedVariables false
set_option linter.unusedSimpArgs false
attribute [local go_sem] fld_num fld_text

abbrev poZero : Obj := .cells #[.string ⟨#[]⟩, .int .i64 0, .int .u64 0, .int .i64 0, .int .u64 0, .slice none 0 0] 29
/-- the world in which a policy is read -/
abbrev poW (W : World) : World := (W.alloc poZero).alloc poZero
/-- on the way -/
structure PoSt (s : ByteArray) (ep : EP) (g : Nat) (W Wi : World) (L : List Tk) (cs : Array Value) : Prop where
  rd : Rdr s ep g L 0 Wi
  chg : Chg (fun k => k = g) W Wi
  hB : Wi.heap[W.heap.size]? = some (.cells #[.string ⟨#[]⟩, .int .i64 0, .int .u64 0, .int .i64 0, .int .u64 0, .slice none 0 0] 29 (0, 0))
  hX : Wi.heap[W.heap.size + 1]? = some (.cells cs 29 (0, 0))
theorem PoSt.lt {s : ByteArray} {ep : EP} {g : Nat} {W Wi : World} {L : List Tk} {cs : Array Value} (h : PoSt s ep g W Wi L cs) : W.heap.size + 1 < Wi.heap.size := (Array.getElem?_eq_some_iff.1 h.hX).1
theorem PoSt.next {s : ByteArray} {ep : EP} {g : Nat} {W Wi Wj : World} {L L' : List Tk} {cs : Array Value} (h : PoSt s ep g W Wi L cs) (hg : g < W.heap.size) (hc : Chg (fun k => k = g) Wi Wj) (hR : Rdr s ep g L' 0 Wj) : PoSt s ep g W Wj L' cs :=
  ⟨hR, h.chg.trans hc (fun k e => .inl e), chg_block hc h.hB (by omega), chg_block hc h.hX (by omega)⟩
theorem PoSt.set {s : ByteArray} {ep : EP} {g : Nat} {W Wi : World} {L : List Tk} {cs : Array Value} (h : PoSt s ep g W Wi L cs) (hg : g < W.heap.size) (j : Nat) (v : Value) : PoSt s ep g W (Wi.setCell ⟨W.heap.size + 1, j, none⟩ v) L (cs.setIfInBounds j v) :=
  ⟨h.rd.far _ j (by omega) v, h.chg.set1 (W.heap.size + 1) j (by omega) v, (Below.heap_setCell Wi ⟨W.heap.size + 1, j, none⟩ v W.heap.size (by show W.heap.size ≠ W.heap.size + 1; omega)).trans h.hB, blk_set h.hX j v⟩
theorem PoSt.set0 {s : ByteArray} {ep : EP} {g : Nat} {W Wi : World} {L : List Tk} {v0 v1 v2 v3 v4 v5 : Value} (h : PoSt s ep g W Wi L #[v0, v1, v2, v3, v4, v5]) (hg : g < W.heap.size) (u : Value) :
    PoSt s ep g W (Wi.setCell ⟨W.heap.size + 1, 0, none⟩ u) L #[u, v1, v2, v3, v4, v5] := h.set hg 0 u
theorem PoSt.set12 {s : ByteArray} {ep : EP} {g : Nat} {W Wi : World} {L : List Tk} {v0 v1 v2 v3 v4 v5 : Value} (h : PoSt s ep g W Wi L #[v0, v1, v2, v3, v4, v5]) (hg : g < W.heap.size) (u v : Value) :
    PoSt s ep g W ((Wi.setCell ⟨W.heap.size + 1, 1, none⟩ u).setCell ⟨W.heap.size + 1, 2, none⟩ v) L #[v0, u, v, v3, v4, v5] := (h.set hg 1 u).set hg 2 v
theorem PoSt.set34 {s : ByteArray} {ep : EP} {g : Nat} {W Wi : World} {L : List Tk} {v0 v1 v2 v3 v4 v5 : Value} (h : PoSt s ep g W Wi L #[v0, v1, v2, v3, v4, v5]) (hg : g < W.heap.size) (u v : Value) :
    PoSt s ep g W ((Wi.setCell ⟨W.heap.size + 1, 3, none⟩ u).setCell ⟨W.heap.size + 1, 4, none⟩ v) L #[v0, v1, v2, u, v, v5] := (h.set hg 3 u).set hg 4 v
theorem poW_st {s : ByteArray} {ep : EP} {g : Nat} {W : World} {L : List Tk} (hR : Rdr s ep g L 0 W) : PoSt s ep g W (poW W) L #[.string ⟨#[]⟩, .int .i64 0, .int .u64 0, .int .i64 0, .int .u64 0, .slice none 0 0] := by
  have hb : Below W.heap.size W (poW W) := ((Below.refl W.heap.size W).alloc (Nat.le_refl _) _).alloc (by simp) _
  exact ⟨hR.below hb, Chg.of_below hb _, blk_past _ (new_blk W _ _), new_blk' (by simp) _ _⟩

theorem PoSt.set5 {s : ByteArray} {ep : EP} {g : Nat} {W Wi : World} {L : List Tk} {v0 v1 v2 v3 v4 v5 : Value} (h : PoSt s ep g W Wi L #[v0, v1, v2, v3, v4, v5]) (hg : g < W.heap.size) (u : Value) :
    PoSt s ep g W (Wi.setCell ⟨W.heap.size + 1, 5, none⟩ u) L #[v0, v1, v2, v3, v4, u] := h.set hg 5 u
theorem PoSt.belowB {s : ByteArray} {ep : EP} {g : Nat} {W Wi Wj : World} {L : List Tk} {cs : Array Value} (h : PoSt s ep g W Wi L cs) (hg : g < W.heap.size) (hb : Below (W.heap.size + 2) Wi Wj) : PoSt s ep g W Wj L cs :=
  ⟨h.rd.belowB hb (by omega), h.chg.trans (Chg.of_belowB hb) (fun k e => .inr (by omega)), (hb.block _ (by omega)).trans h.hB, (hb.block _ (by omega)).trans h.hX⟩
theorem infoRl : (Tryz.prog.info? 70).map (fun i => (i.zero, i.size, i.bytes)) = some (some (.agg #[.slice none 0 0, .int .i64 0, .slice none 0 0, .int .i64 0, .int .u64 0, .int .i64 0, .int .u64 0, .int .i64 0, .int .u64 0]), kRl.sz, 104) := by kernel_rfl
abbrev rlCells (x : Rl) (v0 v2 : Value) : List Value := [v0, .int .i64 x.f1.f0, v2, .int .i64 x.f1.f2, .int .u64 x.f1.f3, .int .i64 x.f1.f4, .int .u64 x.f1.f5, .int .i64 x.f2.f0, .int .u64 x.f2.f1]
theorem rl_made {W : World} {bx base : Nat} {v0 v2 : Value} {x : Rl} (h0 : ClRow W bx v0 x.f0) (h2 : ExRow W bx v2 x.f1.f1) (hb : base ≤ bx) : kRl.M W base (fun k => bx ≤ k ∧ k < W.heap.size) x (rlCells x v0 v2) :=
  kRl.M_lower hb (kRl_mkM W bx _ x (Kd.R_mono (Kd.R_bound h0) (fun k hk => ⟨hk.2.1, hk.2.2.1⟩)) (Kd.R_mono (Kd.R_bound h2) (fun k hk => ⟨hk.2.1, hk.2.2.1⟩)))

def RlRow (W : World) (base : Nat) (v : Value) (l : List Rl) : Prop := kRl.R 70 W base (fun _ => True) v l
theorem RlRow.chg {S : Nat → Prop} {W W' : World} {base : Nat} {v : Value} {l : List Rl} (h : RlRow W base v l) (hc : Chg S W W') (hS : ∀ k, S k → k < base) : RlRow W' base v l :=
  Kd.R_mono (Kd.R_move (Kd.R_bound h) (fun k hk => hc.block k hk.2.2.1 (fun e => by have := hS k e; have := hk.2.1; omega))) (fun _ _ => trivial)
theorem RlRow.lower {W : World} {base base' : Nat} {v : Value} {l : List Rl} (h : RlRow W base v l) (hb : base' ≤ base) : RlRow W base' v l := Kd.R_lower h hb
def PoOut (s : ByteArray) (ep : EP) (g : Nat) (base : Nat) (p : Po × List Tk) (e : Ending) (W' : World) : Prop :=
  ∃ v, e = .returned (.agg #[.string p.1.arch, .int .i64 p.1.foreign.f0, .int .u64 p.1.foreign.f1, .int .i64 p.1.dflt.f0, .int .u64 p.1.dflt.f1, v]) ∧ RlRow W' base v p.1.rules ∧ Rdr s ep g p.2 0 W'

set_option maxRecDepth 100000 in
set_option maxHeartbeats 2000000 in
theorem policy_any (s : ByteArray) (ep : EP) (g : Nat) (L : List Tk) (w0 W : World) (hL : L.length ≤ 65537) (hO : Okw w0 g W) (hR : Rdr s ep g L 0 W) :
    Calls Tryz.prog 24 #[.pointer (some ⟨g, 0, none⟩)] W (Outs g W (policyP ep L) (PoOut s ep g W.heap.size)) := by
  have hgW := hR.lt
  have hS0 := poW_st hR
  have HS := Lib.hid hS0; have HO := Lib.hid hO
  clear hS0 hO hR
  have HRP : Hid (policyP ep L = bnd (wantP ep sArch L) (fun q0 => bnd (kindP ep 2 q0.2) (fun q1 => bnd (wantP ep sSemi q1.2) (fun q2 => bnd (wantP ep sForeign q2.2) (fun q3 => bnd (verdictP ep q3.2) (fun q4 => bnd (wantP ep sSemi q4.2) (fun q5 => bnd (wantP ep sDefault q5.2) (fun q6 => bnd (verdictP ep q6.2) (fun q7 => bnd (wantP ep sSemi q7.2) (fun q8 => bnd (rulesP ep (q8.2.length + 1) [] q8.2) (fun r => .ok (⟨q1.1.text, q4.1, q7.1, r.1⟩, r.2)))))))))))) := Lib.hid rfl
  go_enter Tryz.func24, Tryz.ntmps24
  have HC := Lib.hid (want_any s ep g L 0 sArch w0 _ (HO.out.chg HS.out.chg) HS.out.rd)
  rcases hr : wantP ep sArch L with p | ⟨u1, L1⟩
  · have HE := Lib.hid hr; clear hr
    go_wp2_with fail
    refine HC.out.mono ?_
    rintro e V h
    obtain ⟨rfl, hc⟩ := h.err HE.out
    go_wp2
    exact ⟨rfl, Outs.mk_err (by rw [HRP.out, HE.out]; rfl) rfl (HS.out.chg.trans hc (fun k e => .inl e))⟩
  have HRP1 : Hid (policyP ep L = bnd (kindP ep 2 L1) (fun q1 => bnd (wantP ep sSemi q1.2) (fun q2 => bnd (wantP ep sForeign q2.2) (fun q3 => bnd (verdictP ep q3.2) (fun q4 => bnd (wantP ep sSemi q4.2) (fun q5 => bnd (wantP ep sDefault q5.2) (fun q6 => bnd (verdictP ep q6.2) (fun q7 => bnd (wantP ep sSemi q7.2) (fun q8 => bnd (rulesP ep (q8.2.length + 1) [] q8.2) (fun r => .ok (⟨q1.1.text, q4.1, q7.1, r.1⟩, r.2))))))))))) := Lib.hid (by rw [HRP.out, hr]; rfl)
  have hl1 := wantP_shr ep sArch _ _ _ hr
  have HE := Lib.hid hr; clear hr
  go_wp2_with fail
  refine HC.out.mono ?_
  rintro e V1 h
  obtain ⟨⟨rfl, hR⟩, hc⟩ := h.ok HE.out
  have hS := HS.out.next hgW hc hR
  clear HS HC HRP HE
  have HRP := HRP1; clear HRP1
  obtain ⟨y0, y1, y2, y3, y4, y5, yf⟩ := blk6 hS.hX
  have HS := Lib.hid hS
  clear hS hR hc
  have HC := Lib.hid (kind_any s ep g L1 0 2 w0 _ (HO.out.chg HS.out.chg) HS.out.rd)
  rcases hr : kindP ep 2 L1 with p | ⟨a, L2⟩
  · have HE := Lib.hid hr; clear hr
    go_wp2_with fail
    refine HC.out.mono ?_
    rintro e V h
    obtain ⟨rfl, hc⟩ := h.err HE.out
    go_wp2
    exact ⟨rfl, Outs.mk_err (by rw [HRP.out, HE.out]; rfl) rfl (HS.out.chg.trans hc (fun k e => .inl e))⟩
  have HRP1 : Hid (policyP ep L = bnd (wantP ep sSemi L2) (fun q2 => bnd (wantP ep sForeign q2.2) (fun q3 => bnd (verdictP ep q3.2) (fun q4 => bnd (wantP ep sSemi q4.2) (fun q5 => bnd (wantP ep sDefault q5.2) (fun q6 => bnd (verdictP ep q6.2) (fun q7 => bnd (wantP ep sSemi q7.2) (fun q8 => bnd (rulesP ep (q8.2.length + 1) [] q8.2) (fun r => .ok (⟨a.text, q4.1, q7.1, r.1⟩, r.2)))))))))) := Lib.hid (by rw [HRP.out, hr]; rfl)
  have hl2 := kindP_shr ep 2 _ _ _ hr
  have HE := Lib.hid hr; clear hr
  go_wp2_with fail
  refine HC.out.mono ?_
  rintro e V2 h
  obtain ⟨⟨rfl, hR⟩, hc⟩ := h.ok HE.out
  have hS := HS.out.next hgW hc hR
  clear HS HC HRP HE
  have HRP := HRP1; clear HRP1
  obtain ⟨y0, y1, y2, y3, y4, y5, yf⟩ := blk6 hS.hX
  unfold tkVal
  have HS := Lib.hid (hS.set0 hgW (.string a.text))
  clear hS hR hc
  have HC := Lib.hid (want_any s ep g L2 0 sSemi w0 _ (HO.out.chg HS.out.chg) HS.out.rd)
  rcases hr : wantP ep sSemi L2 with p | ⟨u3, L3⟩
  · have HE := Lib.hid hr; clear hr
    go_wp2_with fail
    refine HC.out.mono ?_
    rintro e V h
    obtain ⟨rfl, hc⟩ := h.err HE.out
    go_wp2
    exact ⟨rfl, Outs.mk_err (by rw [HRP.out, HE.out]; rfl) rfl (HS.out.chg.trans hc (fun k e => .inl e))⟩
  have HRP1 : Hid (policyP ep L = bnd (wantP ep sForeign L3) (fun q3 => bnd (verdictP ep q3.2) (fun q4 => bnd (wantP ep sSemi q4.2) (fun q5 => bnd (wantP ep sDefault q5.2) (fun q6 => bnd (verdictP ep q6.2) (fun q7 => bnd (wantP ep sSemi q7.2) (fun q8 => bnd (rulesP ep (q8.2.length + 1) [] q8.2) (fun r => .ok (⟨a.text, q4.1, q7.1, r.1⟩, r.2))))))))) := Lib.hid (by rw [HRP.out, hr]; rfl)
  have hl3 := wantP_shr ep sSemi _ _ _ hr
  have HE := Lib.hid hr; clear hr
  go_wp2_with fail
  refine HC.out.mono ?_
  rintro e V3 h
  obtain ⟨⟨rfl, hR⟩, hc⟩ := h.ok HE.out
  have hS := HS.out.next hgW hc hR
  clear HS HC HRP HE
  have HRP := HRP1; clear HRP1
  try clear y0 y1 y2 y3 y4 y5 yf
  obtain ⟨y0, y1, y2, y3, y4, y5, yf⟩ := blk6 hS.hX
  have HS := Lib.hid hS
  clear hS hR hc
  have HC := Lib.hid (want_any s ep g L3 0 sForeign w0 _ (HO.out.chg HS.out.chg) HS.out.rd)
  rcases hr : wantP ep sForeign L3 with p | ⟨u4, L4⟩
  · have HE := Lib.hid hr; clear hr
    go_wp2_with fail
    refine HC.out.mono ?_
    rintro e V h
    obtain ⟨rfl, hc⟩ := h.err HE.out
    go_wp2
    exact ⟨rfl, Outs.mk_err (by rw [HRP.out, HE.out]; rfl) rfl (HS.out.chg.trans hc (fun k e => .inl e))⟩
  have HRP1 : Hid (policyP ep L = bnd (verdictP ep L4) (fun q4 => bnd (wantP ep sSemi q4.2) (fun q5 => bnd (wantP ep sDefault q5.2) (fun q6 => bnd (verdictP ep q6.2) (fun q7 => bnd (wantP ep sSemi q7.2) (fun q8 => bnd (rulesP ep (q8.2.length + 1) [] q8.2) (fun r => .ok (⟨a.text, q4.1, q7.1, r.1⟩, r.2)))))))) := Lib.hid (by rw [HRP.out, hr]; rfl)
  have hl4 := wantP_shr ep sForeign _ _ _ hr
  have HE := Lib.hid hr; clear hr
  go_wp2_with fail
  refine HC.out.mono ?_
  rintro e V4 h
  obtain ⟨⟨rfl, hR⟩, hc⟩ := h.ok HE.out
  have hS := HS.out.next hgW hc hR
  clear HS HC HRP HE
  have HRP := HRP1; clear HRP1
  try clear y0 y1 y2 y3 y4 y5 yf
  obtain ⟨y0, y1, y2, y3, y4, y5, yf⟩ := blk6 hS.hX
  have HS := Lib.hid hS
  clear hS hR hc
  have HC := Lib.hid (verdict_any s ep g L4 0 w0 _ (HO.out.chg HS.out.chg) HS.out.rd)
  rcases hr : verdictP ep L4 with p | ⟨f, L5⟩
  · have HE := Lib.hid hr; clear hr
    go_wp2_with fail
    refine HC.out.mono ?_
    rintro e V h
    obtain ⟨rfl, hc⟩ := h.err HE.out
    go_wp2
    exact ⟨rfl, Outs.mk_err (by rw [HRP.out, HE.out]; rfl) rfl (HS.out.chg.trans hc (fun k e => .inl e))⟩
  have HRP1 : Hid (policyP ep L = bnd (wantP ep sSemi L5) (fun q5 => bnd (wantP ep sDefault q5.2) (fun q6 => bnd (verdictP ep q6.2) (fun q7 => bnd (wantP ep sSemi q7.2) (fun q8 => bnd (rulesP ep (q8.2.length + 1) [] q8.2) (fun r => .ok (⟨a.text, f, q7.1, r.1⟩, r.2))))))) := Lib.hid (by rw [HRP.out, hr]; rfl)
  have hl5 := verdictP_shr ep _ _ _ hr
  have HE := Lib.hid hr; clear hr
  go_wp2_with fail
  refine HC.out.mono ?_
  rintro e V5 h
  obtain ⟨⟨rfl, hR⟩, hc⟩ := h.ok HE.out
  have hS := HS.out.next hgW hc hR
  clear HS HC HRP HE
  have HRP := HRP1; clear HRP1
  try clear y0 y1 y2 y3 y4 y5 yf
  obtain ⟨y0, y1, y2, y3, y4, y5, yf⟩ := blk6 hS.hX
  unfold vdVal
  have HS := Lib.hid (hS.set12 hgW (.int .i64 f.f0) (.int .u64 f.f1))
  clear hS hR hc
  have HC := Lib.hid (want_any s ep g L5 0 sSemi w0 _ (HO.out.chg HS.out.chg) HS.out.rd)
  rcases hr : wantP ep sSemi L5 with p | ⟨u6, L6⟩
  · have HE := Lib.hid hr; clear hr
    go_wp2_with fail
    refine HC.out.mono ?_
    rintro e V h
    obtain ⟨rfl, hc⟩ := h.err HE.out
    go_wp2
    exact ⟨rfl, Outs.mk_err (by rw [HRP.out, HE.out]; rfl) rfl (HS.out.chg.trans hc (fun k e => .inl e))⟩
  have HRP1 : Hid (policyP ep L = bnd (wantP ep sDefault L6) (fun q6 => bnd (verdictP ep q6.2) (fun q7 => bnd (wantP ep sSemi q7.2) (fun q8 => bnd (rulesP ep (q8.2.length + 1) [] q8.2) (fun r => .ok (⟨a.text, f, q7.1, r.1⟩, r.2)))))) := Lib.hid (by rw [HRP.out, hr]; rfl)
  have hl6 := wantP_shr ep sSemi _ _ _ hr
  have HE := Lib.hid hr; clear hr
  go_wp2_with fail
  refine HC.out.mono ?_
  rintro e V6 h
  obtain ⟨⟨rfl, hR⟩, hc⟩ := h.ok HE.out
  have hS := HS.out.next hgW hc hR
  clear HS HC HRP HE
  have HRP := HRP1; clear HRP1
  try clear y0 y1 y2 y3 y4 y5 yf
  obtain ⟨y0, y1, y2, y3, y4, y5, yf⟩ := blk6 hS.hX
  have HS := Lib.hid hS
  clear hS hR hc
  have HC := Lib.hid (want_any s ep g L6 0 sDefault w0 _ (HO.out.chg HS.out.chg) HS.out.rd)
  rcases hr : wantP ep sDefault L6 with p | ⟨u7, L7⟩
  · have HE := Lib.hid hr; clear hr
    go_wp2_with fail
    refine HC.out.mono ?_
    rintro e V h
    obtain ⟨rfl, hc⟩ := h.err HE.out
    go_wp2
    exact ⟨rfl, Outs.mk_err (by rw [HRP.out, HE.out]; rfl) rfl (HS.out.chg.trans hc (fun k e => .inl e))⟩
  have HRP1 : Hid (policyP ep L = bnd (verdictP ep L7) (fun q7 => bnd (wantP ep sSemi q7.2) (fun q8 => bnd (rulesP ep (q8.2.length + 1) [] q8.2) (fun r => .ok (⟨a.text, f, q7.1, r.1⟩, r.2))))) := Lib.hid (by rw [HRP.out, hr]; rfl)
  have hl7 := wantP_shr ep sDefault _ _ _ hr
  have HE := Lib.hid hr; clear hr
  go_wp2_with fail
  refine HC.out.mono ?_
  rintro e V7 h
  obtain ⟨⟨rfl, hR⟩, hc⟩ := h.ok HE.out
  have hS := HS.out.next hgW hc hR
  clear HS HC HRP HE
  have HRP := HRP1; clear HRP1
  try clear y0 y1 y2 y3 y4 y5 yf
  obtain ⟨y0, y1, y2, y3, y4, y5, yf⟩ := blk6 hS.hX
  have HS := Lib.hid hS
  clear hS hR hc
  have HC := Lib.hid (verdict_any s ep g L7 0 w0 _ (HO.out.chg HS.out.chg) HS.out.rd)
  rcases hr : verdictP ep L7 with p | ⟨dv, L8⟩
  · have HE := Lib.hid hr; clear hr
    go_wp2_with fail
    refine HC.out.mono ?_
    rintro e V h
    obtain ⟨rfl, hc⟩ := h.err HE.out
    go_wp2
    exact ⟨rfl, Outs.mk_err (by rw [HRP.out, HE.out]; rfl) rfl (HS.out.chg.trans hc (fun k e => .inl e))⟩
  have HRP1 : Hid (policyP ep L = bnd (wantP ep sSemi L8) (fun q8 => bnd (rulesP ep (q8.2.length + 1) [] q8.2) (fun r => .ok (⟨a.text, f, dv, r.1⟩, r.2)))) := Lib.hid (by rw [HRP.out, hr]; rfl)
  have hl8 := verdictP_shr ep _ _ _ hr
  have HE := Lib.hid hr; clear hr
  go_wp2_with fail
  refine HC.out.mono ?_
  rintro e V8 h
  obtain ⟨⟨rfl, hR⟩, hc⟩ := h.ok HE.out
  have hS := HS.out.next hgW hc hR
  clear HS HC HRP HE
  have HRP := HRP1; clear HRP1
  try clear y0 y1 y2 y3 y4 y5 yf
  obtain ⟨y0, y1, y2, y3, y4, y5, yf⟩ := blk6 hS.hX
  unfold vdVal
  have HS := Lib.hid (hS.set34 hgW (.int .i64 dv.f0) (.int .u64 dv.f1))
  clear hS hR hc
  have HC := Lib.hid (want_any s ep g L8 0 sSemi w0 _ (HO.out.chg HS.out.chg) HS.out.rd)
  rcases hr : wantP ep sSemi L8 with p | ⟨u9, L9⟩
  · have HE := Lib.hid hr; clear hr
    go_wp2_with fail
    refine HC.out.mono ?_
    rintro e V h
    obtain ⟨rfl, hc⟩ := h.err HE.out
    go_wp2
    exact ⟨rfl, Outs.mk_err (by rw [HRP.out, HE.out]; rfl) rfl (HS.out.chg.trans hc (fun k e => .inl e))⟩
  have HRP1 : Hid (policyP ep L = bnd (rulesP ep (L9.length + 1) [] L9) (fun r => .ok (⟨a.text, f, dv, r.1⟩, r.2))) := Lib.hid (by rw [HRP.out, hr]; rfl)
  have hl9 := wantP_shr ep sSemi _ _ _ hr
  have HE := Lib.hid hr; clear hr
  go_wp2_with fail
  refine HC.out.mono ?_
  rintro e V9 h
  obtain ⟨⟨rfl, hR⟩, hc⟩ := h.ok HE.out
  have hS := HS.out.next hgW hc hR
  clear HS HC HRP HE
  have HRP := HRP1; clear HRP1
  try clear y0 y1 y2 y3 y4 y5 yf
  obtain ⟨y0, y1, y2, y3, y4, y5, yf⟩ := blk6 hS.hX
  have HS := Lib.hid hS
  clear hS hR hc

  go_wp2_with fail
  have hL9 : L9.length ≤ 65537 := by omega
  clear hl1 hl2 hl3 hl4 hl5 hl6 hl7 hl8 hl9
  try clear y0 y1 y2 y3 y4 y5 yf
  go_loopg [] (L9.length + 1) (fun n wr => ∃ (l : List Rl) (L4 : List Tk) (v : Value), Hid (policyP ep L = bnd (rulesP ep n l L4) (fun r => .ok (⟨a.text, f, dv, r.1⟩, r.2))) ∧ L4.length < n ∧ l.length ≤ 512 ∧ L4.length ≤ 65537 ∧ Hid (RlRow wr (W.heap.size + 2) v l) ∧ Hid (PoSt s ep g W wr L4 #[.string a.text, .int .i64 f.f0, .int .u64 f.f1, .int .i64 dv.f0, .int .u64 dv.f1, v]))
  case atStart => exact ⟨[], L9, .slice none 0 0, HRP, by omega, by simp, hL9, Lib.hid (Kd.R_nil _ _ _ _ _), HS⟩
  case round =>
    clear HS HRP
    obtain ⟨l, L4, v, HT, hn, hl, hl4, HROW, HS⟩ := hrel
    obtain ⟨n, rfl⟩ : ∃ n, gk = n + 1 := ⟨gk - 1, by omega⟩
    obtain ⟨A, c, rfl⟩ := Kd.R_slice HROW.out
    have hun : rulesP ep (n + 1) l L4 = if isT sOn (hdT L4) then (if l.length = 512 then .error (badP 63 L4) else bnd (stepP ep L4) (fun L1 => bnd (ruleP ep L1) (fun p => rulesP ep n (l ++ [p.1]) p.2))) else .ok (l, L4) := rfl
    have HUN := Lib.hid hun; clear hun
    have HI := Lib.hid (is_any s ep g L4 0 sOn wr HS.out.rd)
    obtain ⟨y0, y1, y2, y3, y4, y5, yf⟩ := blk6 HS.out.hX
    cases hon : isT sOn (hdT L4) with
    | false =>
      rw [hon] at HI HUN
      clear hon
      obtain ⟨z0, z1, z2, z3, z4, z5, zf⟩ := blk6 HS.out.hB
      go_wp2_with fail
      refine HI.out.mono ?_
      rintro e W5 ⟨rfl, rfl⟩
      go_wp2
      have hb6 := blk_sets6 HS.out.hB (.string a.text) (.int .i64 f.f0) (.int .u64 f.f1) (.int .i64 dv.f0) (.int .u64 dv.f1) (.slice A l.length c)
      obtain ⟨r0, r1, r2, r3, r4, r5, rf⟩ := blk6 hb6
      have hcB : Chg (fun k => k = W.heap.size) wr _ := (Chg.refl (fun k => k = W.heap.size) wr).sets6' W.heap.size (fun k e => e) (.string a.text) (.int .i64 f.f0) (.int .u64 f.f1) (.int .i64 dv.f0) (.int .u64 dv.f1) (.slice A l.length c)
      refine bodyPost_ret (v := .agg #[.string a.text, .int .i64 f.f0, .int .u64 f.f1, .int .i64 dv.f0, .int .u64 dv.f1, .slice A l.length c]) (by simp [results, Tryz.results24, go_sem, r0, r1, r2, r3, r4, r5]) rfl ?_
      refine Outs.mk_ok (b := (⟨a.text, f, dv, l⟩, L4)) (by rw [HT.out, HUN.out]; rfl) ⟨.slice A l.length c, rfl, (HROW.out.chg hcB (fun k e => by omega)).lower (by omega), HS.out.rd.chgd hcB (by omega)⟩ (HS.out.chg.trans hcB (fun k e => .inr (by omega)))
    | true =>
      have hk := isT_kind' hon
      rw [hon] at HI HUN
      clear hon
      by_cases h5 : l.length = 512
      · have hb : ((l.length : Int) == 512) = true := by rw [beq_iff_eq]; omega
        have HB := Lib.hid (bad_any s ep g L4 0 63 wr HS.out.rd)
        go_wp2_with fail
        refine HI.out.mono ?_
        rintro e W5 ⟨rfl, rfl⟩
        go_wp2_with fail
        refine HB.out.mono ?_
        rintro e W6 ⟨he, rfl⟩
        unfold panics at he
        subst he
        go_wp2
        exact ⟨rfl, Outs.mk_err (by rw [HT.out, HUN.out, if_pos trivial, if_pos h5]; rfl) rfl HS.out.chg⟩
      have hb : ((l.length : Int) == 512) = false := by rw [beq_eq_false_iff_ne]; omega
      have HST := Lib.hid (step_any s ep g L4 0 w0 wr (HO.out.chg HS.out.chg) HS.out.rd hk)
      rcases hst : stepP ep L4 with p | L5
      · have HSE := Lib.hid hst; clear hst
        go_wp2_with fail
        refine HI.out.mono ?_
        rintro e W5 ⟨rfl, rfl⟩
        go_wp2_with fail
        refine HST.out.mono ?_
        rintro e W6 h
        obtain ⟨rfl, hc⟩ := h.err HSE.out
        go_wp2
        exact ⟨rfl, Outs.mk_err (by rw [HT.out, HUN.out, if_pos trivial, if_neg h5, HSE.out]; rfl) rfl (HS.out.chg.trans hc (fun k e => .inl e))⟩
      have HSE := Lib.hid hst; clear hst
      go_wp2_with fail
      refine HI.out.mono ?_
      rintro e W5 ⟨rfl, rfl⟩
      go_wp2_with fail
      refine HST.out.mono ?_
      rintro e W6 h
      obtain ⟨⟨rfl, hR6⟩, hc⟩ := h.ok HSE.out
      have hl5 : L5.length + 1 = L4.length := by obtain ⟨t', h1, _⟩ := stepP_ok HSE.out; rw [h1]; simp
      have hlt4 := HS.out.lt
      have hS6 := HS.out.next hgW hc hR6
      have hdr : Below W6.heap.size W6 W6.drew := (Below.refl _ _).drew
      have hszd : W6.drew.heap.size = W6.heap.size := rfl
      have hS6d := hS6.belowB hgW (hdr.mono hS6.lt)
      have hrow6 := (HROW.out.chg hc (fun k e => by omega)).chg (Chg.of_below hdr (fun k => k = g)) (fun k e => by omega)
      have HRU := Lib.hid (rule_any s ep g L5 w0 W6.drew (by omega) (HO.out.chg hS6d.chg) hS6d.rd)
      obtain ⟨x0, x1, x2, x3, x4, x5, xf⟩ := blk6 hS6.hX
      have HS6 := Lib.hid hS6d; have HROW6 := Lib.hid hrow6
      have hs6 := hS6d.lt
      clear hS6 hS6d hrow6 hR6 hc hdr y0 y1 y2 y3 y4 y5 yf
      rcases hru : ruleP ep L5 with p | ⟨y, L6⟩
      · have HRE := Lib.hid hru; clear hru
        go_wp2_with fail
        refine wp_region_held_drew (S := fun w' => w'.cell? ⟨W.heap.size + 1, 5, none⟩ = some (.slice A l.length c)) (by kernel_rfl) (by simp [x5]) (fun hHeld => ?_)
        refine wpAnyH_take (i := 0) (oi := _) (v := .pointer (some ⟨W.heap.size + 1, 5, none⟩)) rfl (by kernel_rfl) (by kernel_rfl) (by kernel_rfl) (fun _ _ _ h => h) (Or.inl ⟨by rfl, ?_⟩) hHeld ?_
        · intro w hSw; (try dsimp only at hSw); go_simp
        simp only [Act.put, List.setIfInBounds_toArray, List.set_cons_zero, List.set_cons_succ]
        refine wpAnyH_take (i := 1) (oi := _) (v := .slice A l.length c) rfl (by kernel_rfl) (by kernel_rfl) (by kernel_rfl) (fun _ _ _ h => h) (Or.inl ⟨by rfl, ?_⟩) hHeld ?_
        · intro w hSw; (try dsimp only at hSw); go_simp
        simp only [Act.put, List.setIfInBounds_toArray, List.set_cons_zero, List.set_cons_succ]
        refine wpAnyH_take (i := 2) (oi := _) (v := .pointer (some ⟨g, 0, none⟩)) rfl (by kernel_rfl) (by kernel_rfl) (by kernel_rfl) (fun _ _ _ h => h) (Or.inl ⟨by rfl, ?_⟩) hHeld ?_
        · intro w hSw; (try dsimp only at hSw); go_simp
        simp only [Act.put, List.setIfInBounds_toArray, List.set_cons_zero, List.set_cons_succ]
        refine wpAnyH_ready (rs := [3]) (by kernel_rfl) (by simp) ?_
        refine AllReadyH.cons rfl (fun K hK => ?_) AllReadyH.nil
        go_simp
        go_at_call 61
        refine HRU.out.mono ?_
        rintro e W7 h
        obtain ⟨rfl, hc⟩ := h.err HRE.out
        go_wp2
        exact ⟨rfl, Outs.mk_err (by rw [HT.out, HUN.out, if_pos trivial, if_neg h5, HSE.out]; show bnd (bnd (ruleP ep L5) _) _ = _; rw [HRE.out]; rfl) rfl (HS6.out.chg.trans hc (fun k e => .inl e))⟩
      · have HRE := Lib.hid hru
        have hl6 := ruleP_shr ep _ _ _ hru
        clear hru
        go_wp2_with fail
        go_region_law (first
          | (refine Kd.R_append_step kRl (w0 := W7) (W := W7) (W.heap.size + 2) (by rfl) (.tmp 37) (.tmp 40) 27 70 (.agg #[.slice none 0 0, .int .i64 0, .slice none 0 0, .int .i64 0, .int .u64 0, .int .i64 0, .int .u64 0, .int .i64 0, .int .u64 0]) 104 rfl Tryz.underlying27 infoRl rfl (by decide) (by decide) (.slice A l.length c) l y (rlCells y (.slice A7 y.f0.length c7) (.slice B7 y.f1.f1.length d7)) (fun _ => True) (fun k => W6.heap.size ≤ k ∧ k < W7.heap.size) (by first | rfl | (go_simp; done)) (by first | rfl | (go_simp; done)) HMADE.out (fun k hk => ⟨trivial, fun e => Nat.lt_irrefl k (Nat.lt_of_lt_of_le (HVLT.out k e.symm) hk.1)⟩) (fun _ _ => trivial) HROW7.out (Below.refl _ _) (by omega) (by omega) ?_; intro v8 w8 hO8 hb8 hg8 hat8
             obtain ⟨A8, c8, rfl⟩ := Kd.R_slice hO8
             have HS8 := Lib.hid (HS7.out.belowB hgW hb8); have HO8 : Hid (RlRow w8 (W.heap.size + 2) (.slice A8 (l ++ [y]).length c8) (l ++ [y])) := Lib.hid hO8; clear hO8 hb8 hg8 hat8
             obtain ⟨w0', w1', w2', w3', w4', w5', wf'⟩ := blk6 HS8.out.hX)
          | (go_simp; go_at_call 61; refine HRU.out.mono ?_; rintro e W7 h
             obtain ⟨⟨vc, v1, rfl, hcl, hex, hR7⟩, hc7⟩ := h.ok HRE.out
             obtain ⟨A7, c7, rfl⟩ := Kd.R_slice hcl; obtain ⟨B7, d7, rfl⟩ := Kd.R_slice hex
             have hs7 := hc7.size
             have HS7 := Lib.hid (HS6.out.next hgW hc7 hR7); have HROW7 := Lib.hid (HROW6.out.chg hc7 (fun k e => by omega))
             have HMADE := Lib.hid (rl_made (base := W.heap.size + 2) hcl hex (by omega))
             have HVLT : Hid (∀ k, (Value.slice A l.length c).ownBlock = some k → k < W6.heap.size) := Lib.hid (fun k hk => (by obtain ⟨inner, ho⟩ := Kd.R_own HROW6.out; exact own_lt ho k hk))
             obtain ⟨z0, z1, z2, z3, z4, z5, zf⟩ := blk6 HS7.out.hX
             obtain ⟨t0, t1, t2, t3, t4, t5, tf⟩ := blk6 (blk_past (.cells (rlCells y (.slice A7 y.f0.length c7) (.slice B7 y.f1.f1.length d7)).toArray 70) HS7.out.hX)
             clear hcl hex hR7 hc7
             unfold rlAgg))
        all_goals
          have hlen1 : (l ++ [y]).length = l.length + 1 := by simp
          rw [hlen1] at HO8
          have hset := Chg.of_set w8 (W.heap.size + 1) 5 (.slice A8 (l.length + 1) c8)
          have HS9 := Lib.hid (HS8.out.set5 hgW (.slice A8 (l.length + 1) c8))
          have HO9 := Lib.hid (HO8.out.chg hset (fun k e => by omega))
          clear hset
          go_wp2
          go_roundg n
          case measure => omega
          case rel => exact ⟨l ++ [y], L6, _, Lib.hid (by rw [HT.out, HUN.out, if_pos trivial, if_neg h5, HSE.out]; show bnd (bnd (ruleP ep L5) _) _ = _; rw [HRE.out]; rfl), by omega, by simp; omega, by omega, HO9, HS9⟩
end Go.Proofs.YtlmopoipjolbgaaGreatDoor.LexW
