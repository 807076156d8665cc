/-
  Layer 6 (policy), the reference: Parse. · Layer 6 (policy), plain: the reference reads what the plain parser reads. · Layer 6 (policy), plain: the reference reads what the plain parser reads: the agreement.
-/
import Derived.Test.YtlmopoipjolbgaaGreatDoorM15
import Derived.Test.YtlmopoipjolbgaaGreatDoorM11
import Derived.Test.YtlmopoipjolbgaaGreatDoorM05
import Derived.Test.YtlmopoipjolbgaaGreatDoorM13
namespace Go.Proofs.YtlmopoipjolbgaaGreatDoor.LexW
open Go.RowKit Go.Shelf Go.Proofs.YtlmopoipjolbgaaGreatDoor.LexS Go.Proofs.YtlmopoipjolbgaaGreatDoorW.PrintWords
set_option linter.unusedVariables false
set_option linter.unusedSimpArgs false
attribute [local go_sem] fld_num fld_text

/-- on the way: the result's box, the reader, the policy's box -/
structure PpSt (g : Nat) (LL : List Tk) (ep : EP) (W : World) (P : Nat) (Wi : World) (S : RS) (cs : Array Value) : Prop where
  ps : PsSt g LL ep W #[.string ⟨#[]⟩, .int .i64 0, .int .u64 0, .int .i64 0, .int .u64 0, .slice none 0 0] 29 Wi S
  hX : Wi.heap[P]? = some (.cells cs 29 (0, 0))
  hP : g < P
section
variable {g : Nat} {LL : List Tk} {ep : EP} {W Wi Wj : World} {P : Nat} {S S' : RS} {cs : Array Value} {v0 v1 v2 v3 v4 v5 : Value}
theorem PpSt.lt (h : PpSt g LL ep W P Wi S cs) : P < Wi.heap.size := (Array.getElem?_eq_some_iff.1 h.hX).1
theorem PpSt.step (h : PpSt g LL ep W P Wi S cs) (hO : LOut Wi g LL ep 0 S' Wj) : PpSt g LL ep W P Wj S' cs := ⟨h.ps.step hO, chg_block hO.chg h.hX (by have := h.hP; omega), h.hP⟩
theorem PpSt.belowB (h : PpSt g LL ep W P Wi S cs) (hb : Below (P + 1) Wi Wj) : PpSt g LL ep W P Wj S cs :=
  ⟨⟨h.ps.bel.trans (hb.mono (by have := h.hP; have := h.ps.hg; omega)), (hb.block _ (by have := h.hP; have := h.ps.hg; omega)).trans h.ps.hz, h.ps.st.chg (Chg.of_belowB hb) (fun k e => by have := h.hP; omega), h.ps.hg⟩, (hb.block _ (by omega)).trans h.hX, h.hP⟩
theorem PpSt.below (h : PpSt g LL ep W P Wi S cs) (hb : Below Wi.heap.size Wi Wj) : PpSt g LL ep W P Wj S cs := h.belowB (hb.mono h.lt)
theorem PpSt.set (h : PpSt g LL ep W P Wi S cs) (j : Nat) (v : Value) : PpSt g LL ep W P (Wi.setCell ⟨P, j, none⟩ v) S (cs.setIfInBounds j v) :=
  ⟨⟨h.ps.bel.trans ((Chg.of_set Wi P j v).below h.ps.bel.size (fun k e => by have := h.hP; have := h.ps.hg; omega)), (Below.heap_setCell Wi ⟨P, j, none⟩ v W.heap.size (by show W.heap.size ≠ P; have := h.hP; have := h.ps.hg; omega)).trans h.ps.hz, h.ps.st.far P j h.hP v, h.ps.hg⟩, blk_set h.hX j v, h.hP⟩
theorem PpSt.set0 (h : PpSt g LL ep W P Wi S #[v0, v1, v2, v3, v4, v5]) (u : Value) : PpSt g LL ep W P (Wi.setCell ⟨P, 0, none⟩ u) S #[u, v1, v2, v3, v4, v5] := h.set 0 u
theorem PpSt.set12 (h : PpSt g LL ep W P Wi S #[v0, v1, v2, v3, v4, v5]) (u w : Value) : PpSt g LL ep W P ((Wi.setCell ⟨P, 1, none⟩ u).setCell ⟨P, 2, none⟩ w) S #[v0, u, w, v3, v4, v5] := (h.set 1 u).set 2 w
theorem PpSt.set34 (h : PpSt g LL ep W P Wi S #[v0, v1, v2, v3, v4, v5]) (u w : Value) : PpSt g LL ep W P ((Wi.setCell ⟨P, 3, none⟩ u).setCell ⟨P, 4, none⟩ w) S #[v0, v1, v2, u, w, v5] := (h.set 3 u).set 4 w
theorem PpSt.set5 (h : PpSt g LL ep W P Wi S #[v0, v1, v2, v3, v4, v5]) (u : Value) : PpSt g LL ep W P (Wi.setCell ⟨P, 5, none⟩ u) S #[v0, v1, v2, v3, v4, u] := h.set 5 u
end
theorem rules_unfold (ep : EP) (n : Nat) (l : List Rl) (S : RS) : rulesL ep (n + 1) l S = if S.err = 0 then (if (isL ep 2 sOn (peekL ep S).2).1 = true then (if l.length = 512 then (l, failsL 63 (peekL ep S).1.at_ (isL ep 2 sOn (peekL ep S).2).2) else rulesL ep n (l ++ [(ruleL ep (isL ep 2 sOn (peekL ep S).2).2).1]) (ruleL ep (isL ep 2 sOn (peekL ep S).2).2).2) else (l, (isL ep 2 sOn (peekL ep S).2).2)) else (l, S) := rfl
def parseLV (s : ByteArray) : Po × EP := wholeL zPo policyL s

set_option maxRecDepth 100000 in
set_option maxHeartbeats 16000000 in
theorem rparse_ref (s : ByteArray) (W : World) (hlen : (toks s).1.length ≤ 65537) :
    Calls Tryz.prog 9 #[.string s] W fun e W' => ParOut W.heap.size (parseLV s) e W' ∧ Below W.heap.size W W' := by
  have hal := (Below.refl W.heap.size W).alloc (Nat.le_refl _) poZero
  have hz : (W.alloc poZero).heap[W.heap.size]? = some (.cells #[.string ⟨#[]⟩, .int .i64 0, .int .u64 0, .int .i64 0, .int .u64 0, .slice none 0 0] 29 (0, 0)) := new_blk W _ _
  have hsz : (W.alloc poZero).heap.size = W.heap.size + 1 := by simp
  have HRD := Lib.hid (reader_ref s (W.alloc poZero) hlen)
  have hF0 := toks_fin3 s
  have HAL := Lib.hid hal; have HZ := Lib.hid hz
  have hev : parseLV s = if (kindL (toks s).2 1 (policyL (toks s).2 ⟨(toks s).1, 0, 0⟩).2).2.err = 0 then ((policyL (toks s).2 ⟨(toks s).1, 0, 0⟩).1, (0, 0)) else (zPo, ((kindL (toks s).2 1 (policyL (toks s).2 ⟨(toks s).1, 0, 0⟩).2).2.err, (kindL (toks s).2 1 (policyL (toks s).2 ⟨(toks s).1, 0, 0⟩).2).2.bad)) := rfl
  have HEV := Lib.hid hev
  clear hal hz hev
  generalize toks s = T at HRD hF0 HEV
  obtain ⟨L, ep⟩ := T
  have HF0 := Lib.hid hF0; clear hF0
  go_enter Tryz.func9, Tryz.ntmps9
  go_wp2_with fail
  refine HRD.out.mono ?_
  rintro e W2 ⟨g, rfl, hg, hR2, hb2⟩
  have hps : PsSt g L ep W #[.string ⟨#[]⟩, .int .i64 0, .int .u64 0, .int .i64 0, .int .u64 0, .slice none 0 0] 29 W2 ⟨L, 0, 0⟩ := ⟨HAL.out.trans (hb2.mono HAL.out.size), (hb2.block _ (by omega)).trans HZ.out, hR2, by omega⟩
  have hal2 := (Below.refl W2.heap.size W2).alloc (Nat.le_refl _) poZero
  obtain ⟨P, hPe⟩ : ∃ P, P = W2.heap.size := ⟨_, rfl⟩
  have HS0 : Hid (PpSt g L ep W P (W2.alloc poZero) ⟨L, 0, 0⟩ #[.string ⟨#[]⟩, .int .i64 0, .int .u64 0, .int .i64 0, .int .u64 0, .slice none 0 0]) := Lib.hid ⟨hps.below hal2, by rw [hPe]; exact new_blk W2 _ _, by rw [hPe]; exact hR2.lt⟩
  have HPL : Hid (parseLV s = if (kindL ep 1 (policyL ep ⟨L, 0, 0⟩).2).2.err = 0 then ((policyL ep ⟨L, 0, 0⟩).1, (0, 0)) else (zPo, ((kindL ep 1 (policyL ep ⟨L, 0, 0⟩).2).2.err, (kindL ep 1 (policyL ep ⟨L, 0, 0⟩).2).2.bad))) := Lib.hid HEV.out
  obtain ⟨S0, hS0⟩ : ∃ S0 : RS, S0 = ⟨L, 0, 0⟩ := ⟨_, rfl⟩
  rw [← hS0] at HS0 HPL HF0
  have HR0 : Hid (policyL ep S0 = ((⟨(kindL ep 2 (wantL ep 2 sArch S0)).1.text, (verdictL ep (wantL ep 2 sForeign (wantL ep 4 sSemi (kindL ep 2 (wantL ep 2 sArch S0)).2))).1, (verdictL ep (wantL ep 2 sDefault (wantL ep 4 sSemi (verdictL ep (wantL ep 2 sForeign (wantL ep 4 sSemi (kindL ep 2 (wantL ep 2 sArch S0)).2))).2))).1, (rulesL ep ((wantL ep 4 sSemi (verdictL ep (wantL ep 2 sDefault (wantL ep 4 sSemi (verdictL ep (wantL ep 2 sForeign (wantL ep 4 sSemi (kindL ep 2 (wantL ep 2 sArch S0)).2))).2))).2).M.length + 1) [] (wantL ep 4 sSemi (verdictL ep (wantL ep 2 sDefault (wantL ep 4 sSemi (verdictL ep (wantL ep 2 sForeign (wantL ep 4 sSemi (kindL ep 2 (wantL ep 2 sArch S0)).2))).2))).2)).1⟩ : Po), (rulesL ep ((wantL ep 4 sSemi (verdictL ep (wantL ep 2 sDefault (wantL ep 4 sSemi (verdictL ep (wantL ep 2 sForeign (wantL ep 4 sSemi (kindL ep 2 (wantL ep 2 sArch S0)).2))).2))).2).M.length + 1) [] (wantL ep 4 sSemi (verdictL ep (wantL ep 2 sDefault (wantL ep 4 sSemi (verdictL ep (wantL ep 2 sForeign (wantL ep 4 sSemi (kindL ep 2 (wantL ep 2 sArch S0)).2))).2))).2)).2)) := Lib.hid rfl
  clear hps hal2 hR2 hb2 HRD HEV hS0 HAL HZ hg
  go_wp2_with fail
  rw [← hPe]
  show Calls _ _ _ (W2.alloc poZero) _
  obtain ⟨W3, hW3⟩ : ∃ W3, W3 = W2.alloc poZero := ⟨_, rfl⟩
  rw [← hW3] at HS0 ⊢
  clear hW3 hPe
  refine (want_ref g L ep 0 2 sArch S0 _ HF0.out HS0.out.ps.st).mono ?_
  rintro e V1 ⟨rfl, hO⟩
  have hF := want_fin (k := 2) (x := sArch) HF0.out (by decide)
  obtain ⟨S1, hQ⟩ : ∃ Sx, Sx = wantL ep 2 sArch S0 := ⟨_, rfl⟩
  rw [← hQ] at hO hF
  have HS1 := Lib.hid (HS0.out.step hO)
  have HF1 := Lib.hid hF
  have HR1 : Hid (policyL ep S0 = ((⟨(kindL ep 2 S1).1.text, (verdictL ep (wantL ep 2 sForeign (wantL ep 4 sSemi (kindL ep 2 S1).2))).1, (verdictL ep (wantL ep 2 sDefault (wantL ep 4 sSemi (verdictL ep (wantL ep 2 sForeign (wantL ep 4 sSemi (kindL ep 2 S1).2))).2))).1, (rulesL ep ((wantL ep 4 sSemi (verdictL ep (wantL ep 2 sDefault (wantL ep 4 sSemi (verdictL ep (wantL ep 2 sForeign (wantL ep 4 sSemi (kindL ep 2 S1).2))).2))).2).M.length + 1) [] (wantL ep 4 sSemi (verdictL ep (wantL ep 2 sDefault (wantL ep 4 sSemi (verdictL ep (wantL ep 2 sForeign (wantL ep 4 sSemi (kindL ep 2 S1).2))).2))).2)).1⟩ : Po), (rulesL ep ((wantL ep 4 sSemi (verdictL ep (wantL ep 2 sDefault (wantL ep 4 sSemi (verdictL ep (wantL ep 2 sForeign (wantL ep 4 sSemi (kindL ep 2 S1).2))).2))).2).M.length + 1) [] (wantL ep 4 sSemi (verdictL ep (wantL ep 2 sDefault (wantL ep 4 sSemi (verdictL ep (wantL ep 2 sForeign (wantL ep 4 sSemi (kindL ep 2 S1).2))).2))).2)).2)) := Lib.hid (by rw [HR0.out, hQ])
  clear hO hF hQ HS0 HF0 HR0
  go_wp2_with fail
  refine (kind_ref g L ep 0 2 S1 _ HF1.out HS1.out.ps.st).mono ?_
  rintro e V2 ⟨rfl, hO⟩
  have hF := kind_fin HF1.out (show (2 : Int) ≠ 1 by decide)
  obtain ⟨ta, S2, hQ⟩ : ∃ ta Sx, kindL ep 2 S1 = (ta, Sx) := ⟨_, _, rfl⟩
  rw [hQ] at hO hF ⊢
  have hSn := HS1.out.step hO
  obtain ⟨y0, y1, y2, y3, y4, y5, yf⟩ := blk6 hSn.hX
  have HS2 := Lib.hid (hSn.set0 (.string ta.text))
  have HF2 := Lib.hid hF
  have HR2 : Hid (policyL ep S0 = ((⟨ta.text, (verdictL ep (wantL ep 2 sForeign (wantL ep 4 sSemi S2))).1, (verdictL ep (wantL ep 2 sDefault (wantL ep 4 sSemi (verdictL ep (wantL ep 2 sForeign (wantL ep 4 sSemi S2))).2))).1, (rulesL ep ((wantL ep 4 sSemi (verdictL ep (wantL ep 2 sDefault (wantL ep 4 sSemi (verdictL ep (wantL ep 2 sForeign (wantL ep 4 sSemi S2))).2))).2).M.length + 1) [] (wantL ep 4 sSemi (verdictL ep (wantL ep 2 sDefault (wantL ep 4 sSemi (verdictL ep (wantL ep 2 sForeign (wantL ep 4 sSemi S2))).2))).2)).1⟩ : Po), (rulesL ep ((wantL ep 4 sSemi (verdictL ep (wantL ep 2 sDefault (wantL ep 4 sSemi (verdictL ep (wantL ep 2 sForeign (wantL ep 4 sSemi S2))).2))).2).M.length + 1) [] (wantL ep 4 sSemi (verdictL ep (wantL ep 2 sDefault (wantL ep 4 sSemi (verdictL ep (wantL ep 2 sForeign (wantL ep 4 sSemi S2))).2))).2)).2)) := Lib.hid (by rw [HR1.out, hQ])
  clear hSn
  unfold tkVal
  clear hO hF hQ HS1 HF1 HR1
  go_wp2_with fail
  refine (want_ref g L ep 0 4 sSemi S2 _ HF2.out HS2.out.ps.st).mono ?_
  rintro e V3 ⟨rfl, hO⟩
  have hF := want_fin (k := 4) (x := sSemi) HF2.out (by decide)
  obtain ⟨S3, hQ⟩ : ∃ Sx, Sx = wantL ep 4 sSemi S2 := ⟨_, rfl⟩
  rw [← hQ] at hO hF
  have HS3 := Lib.hid (HS2.out.step hO)
  have HF3 := Lib.hid hF
  have HR3 : Hid (policyL ep S0 = ((⟨ta.text, (verdictL ep (wantL ep 2 sForeign S3)).1, (verdictL ep (wantL ep 2 sDefault (wantL ep 4 sSemi (verdictL ep (wantL ep 2 sForeign S3)).2))).1, (rulesL ep ((wantL ep 4 sSemi (verdictL ep (wantL ep 2 sDefault (wantL ep 4 sSemi (verdictL ep (wantL ep 2 sForeign S3)).2))).2).M.length + 1) [] (wantL ep 4 sSemi (verdictL ep (wantL ep 2 sDefault (wantL ep 4 sSemi (verdictL ep (wantL ep 2 sForeign S3)).2))).2)).1⟩ : Po), (rulesL ep ((wantL ep 4 sSemi (verdictL ep (wantL ep 2 sDefault (wantL ep 4 sSemi (verdictL ep (wantL ep 2 sForeign S3)).2))).2).M.length + 1) [] (wantL ep 4 sSemi (verdictL ep (wantL ep 2 sDefault (wantL ep 4 sSemi (verdictL ep (wantL ep 2 sForeign S3)).2))).2)).2)) := Lib.hid (by rw [HR2.out, hQ])
  clear hO hF hQ HS2 HF2 HR2
  go_wp2_with fail
  refine (want_ref g L ep 0 2 sForeign S3 _ HF3.out HS3.out.ps.st).mono ?_
  rintro e V4 ⟨rfl, hO⟩
  have hF := want_fin (k := 2) (x := sForeign) HF3.out (by decide)
  obtain ⟨S4, hQ⟩ : ∃ Sx, Sx = wantL ep 2 sForeign S3 := ⟨_, rfl⟩
  rw [← hQ] at hO hF
  have HS4 := Lib.hid (HS3.out.step hO)
  have HF4 := Lib.hid hF
  have HR4 : Hid (policyL ep S0 = ((⟨ta.text, (verdictL ep S4).1, (verdictL ep (wantL ep 2 sDefault (wantL ep 4 sSemi (verdictL ep S4).2))).1, (rulesL ep ((wantL ep 4 sSemi (verdictL ep (wantL ep 2 sDefault (wantL ep 4 sSemi (verdictL ep S4).2))).2).M.length + 1) [] (wantL ep 4 sSemi (verdictL ep (wantL ep 2 sDefault (wantL ep 4 sSemi (verdictL ep S4).2))).2)).1⟩ : Po), (rulesL ep ((wantL ep 4 sSemi (verdictL ep (wantL ep 2 sDefault (wantL ep 4 sSemi (verdictL ep S4).2))).2).M.length + 1) [] (wantL ep 4 sSemi (verdictL ep (wantL ep 2 sDefault (wantL ep 4 sSemi (verdictL ep S4).2))).2)).2)) := Lib.hid (by rw [HR3.out, hQ])
  clear hO hF hQ HS3 HF3 HR3
  go_wp2_with fail
  refine (verdict_ref g L ep 0 S4 _ HF4.out HS4.out.ps.st).mono ?_
  rintro e V5 ⟨rfl, hO⟩
  have hF := verdict_fin HF4.out
  obtain ⟨f, S5, hQ⟩ : ∃ vx Sx, verdictL ep S4 = (vx, Sx) := ⟨_, _, rfl⟩
  rw [hQ] at hO hF ⊢
  have hSn := HS4.out.step hO
  try clear y0 y1 y2 y3 y4 y5 yf
  obtain ⟨y0, y1, y2, y3, y4, y5, yf⟩ := blk6 hSn.hX
  have HS5 := Lib.hid (hSn.set12 (.int .i64 f.f0) (.int .u64 f.f1))
  have HF5 := Lib.hid hF
  have HR5 : Hid (policyL ep S0 = ((⟨ta.text, f, (verdictL ep (wantL ep 2 sDefault (wantL ep 4 sSemi S5))).1, (rulesL ep ((wantL ep 4 sSemi (verdictL ep (wantL ep 2 sDefault (wantL ep 4 sSemi S5))).2).M.length + 1) [] (wantL ep 4 sSemi (verdictL ep (wantL ep 2 sDefault (wantL ep 4 sSemi S5))).2)).1⟩ : Po), (rulesL ep ((wantL ep 4 sSemi (verdictL ep (wantL ep 2 sDefault (wantL ep 4 sSemi S5))).2).M.length + 1) [] (wantL ep 4 sSemi (verdictL ep (wantL ep 2 sDefault (wantL ep 4 sSemi S5))).2)).2)) := Lib.hid (by rw [HR4.out, hQ])
  clear hSn
  unfold vdVal
  clear hO hF hQ HS4 HF4 HR4
  go_wp2_with fail
  refine (want_ref g L ep 0 4 sSemi S5 _ HF5.out HS5.out.ps.st).mono ?_
  rintro e V6 ⟨rfl, hO⟩
  have hF := want_fin (k := 4) (x := sSemi) HF5.out (by decide)
  obtain ⟨S6, hQ⟩ : ∃ Sx, Sx = wantL ep 4 sSemi S5 := ⟨_, rfl⟩
  rw [← hQ] at hO hF
  have HS6 := Lib.hid (HS5.out.step hO)
  have HF6 := Lib.hid hF
  have HR6 : Hid (policyL ep S0 = ((⟨ta.text, f, (verdictL ep (wantL ep 2 sDefault S6)).1, (rulesL ep ((wantL ep 4 sSemi (verdictL ep (wantL ep 2 sDefault S6)).2).M.length + 1) [] (wantL ep 4 sSemi (verdictL ep (wantL ep 2 sDefault S6)).2)).1⟩ : Po), (rulesL ep ((wantL ep 4 sSemi (verdictL ep (wantL ep 2 sDefault S6)).2).M.length + 1) [] (wantL ep 4 sSemi (verdictL ep (wantL ep 2 sDefault S6)).2)).2)) := Lib.hid (by rw [HR5.out, hQ])
  clear hO hF hQ HS5 HF5 HR5
  go_wp2_with fail
  refine (want_ref g L ep 0 2 sDefault S6 _ HF6.out HS6.out.ps.st).mono ?_
  rintro e V7 ⟨rfl, hO⟩
  have hF := want_fin (k := 2) (x := sDefault) HF6.out (by decide)
  obtain ⟨S7, hQ⟩ : ∃ Sx, Sx = wantL ep 2 sDefault S6 := ⟨_, rfl⟩
  rw [← hQ] at hO hF
  have HS7 := Lib.hid (HS6.out.step hO)
  have HF7 := Lib.hid hF
  have HR7 : Hid (policyL ep S0 = ((⟨ta.text, f, (verdictL ep S7).1, (rulesL ep ((wantL ep 4 sSemi (verdictL ep S7).2).M.length + 1) [] (wantL ep 4 sSemi (verdictL ep S7).2)).1⟩ : Po), (rulesL ep ((wantL ep 4 sSemi (verdictL ep S7).2).M.length + 1) [] (wantL ep 4 sSemi (verdictL ep S7).2)).2)) := Lib.hid (by rw [HR6.out, hQ])
  clear hO hF hQ HS6 HF6 HR6
  go_wp2_with fail
  refine (verdict_ref g L ep 0 S7 _ HF7.out HS7.out.ps.st).mono ?_
  rintro e V8 ⟨rfl, hO⟩
  have hF := verdict_fin HF7.out
  obtain ⟨dv, S8, hQ⟩ : ∃ vx Sx, verdictL ep S7 = (vx, Sx) := ⟨_, _, rfl⟩
  rw [hQ] at hO hF ⊢
  have hSn := HS7.out.step hO
  try clear y0 y1 y2 y3 y4 y5 yf
  obtain ⟨y0, y1, y2, y3, y4, y5, yf⟩ := blk6 hSn.hX
  have HS8 := Lib.hid (hSn.set34 (.int .i64 dv.f0) (.int .u64 dv.f1))
  have HF8 := Lib.hid hF
  have HR8 : Hid (policyL ep S0 = ((⟨ta.text, f, dv, (rulesL ep ((wantL ep 4 sSemi S8).M.length + 1) [] (wantL ep 4 sSemi S8)).1⟩ : Po), (rulesL ep ((wantL ep 4 sSemi S8).M.length + 1) [] (wantL ep 4 sSemi S8)).2)) := Lib.hid (by rw [HR7.out, hQ])
  clear hSn
  unfold vdVal
  clear hO hF hQ HS7 HF7 HR7
  go_wp2_with fail
  refine (want_ref g L ep 0 4 sSemi S8 _ HF8.out HS8.out.ps.st).mono ?_
  rintro e V9 ⟨rfl, hO⟩
  have hF := want_fin (k := 4) (x := sSemi) HF8.out (by decide)
  obtain ⟨S9, hQ⟩ : ∃ Sx, Sx = wantL ep 4 sSemi S8 := ⟨_, rfl⟩
  rw [← hQ] at hO hF
  have HS9 := Lib.hid (HS8.out.step hO)
  have HF9 := Lib.hid hF
  have HR9 : Hid (policyL ep S0 = ((⟨ta.text, f, dv, (rulesL ep (S9.M.length + 1) [] S9).1⟩ : Po), (rulesL ep (S9.M.length + 1) [] S9).2)) := Lib.hid (by rw [HR8.out, hQ])
  clear hO hF hQ HS8 HF8 HR8
  go_wp2_with fail
  try clear y0 y1 y2 y3 y4 y5 yf
  have hlen9 := rfs_len HS9.out.ps.st
  go_loopg [] (S9.M.length + 1) (fun n wr => ∃ (l : List Rl) (S4 : RS) (v : Value), Hid (rulesL ep (S9.M.length + 1) [] S9 = rulesL ep n l S4) ∧ S4.M.length < n ∧ l.length ≤ 512 ∧ Hid (RlRow wr (P + 1) v l) ∧ Hid (PpSt g L ep W P wr S4 #[.string ta.text, .int .i64 f.f0, .int .u64 f.f1, .int .i64 dv.f0, .int .u64 dv.f1, v]) ∧ Hid (Fin3 ep S4))
  case atStart => exact ⟨[], S9, .slice none 0 0, Lib.hid rfl, by omega, by simp, Lib.hid (Kd.R_nil _ _ _ _ _), HS9, HF9⟩
  case round =>
    clear HS9 HF9
    obtain ⟨l, S4, v, HT, hn, hl, HROW, HS4, HF4⟩ := hrel
    obtain ⟨n, rfl⟩ : ∃ n, gk = n + 1 := ⟨gk - 1, by omega⟩
    obtain ⟨A, c, rfl⟩ := Kd.R_slice HROW.out
    have HUN := Lib.hid (rules_unfold ep n l S4)
    have hgP := HS4.out.hP
    have hWg := HS4.out.ps.hg
    have hPl := HS4.out.lt
    have hy5 := rfs_err HS4.out.ps.st
    by_cases h0 : S4.err = 0
    · have hb0 : (S4.err == 0) = true := by rw [beq_iff_eq]; exact h0
      have HPK := Lib.hid (peek_any g L ep 0 S4 wr HS4.out.ps.st)
      have hFp := peek_fin HF4.out
      have hpl : (peekL ep S4).2.M = S4.M := peek_M ep S4
      have HUN2 : Hid (rulesL ep (n + 1) l S4 = if (isL ep 2 sOn (peekL ep S4).2).1 = true then (if l.length = 512 then (l, failsL 63 (peekL ep S4).1.at_ (isL ep 2 sOn (peekL ep S4).2).2) else rulesL ep n (l ++ [(ruleL ep (isL ep 2 sOn (peekL ep S4).2).2).1]) (ruleL ep (isL ep 2 sOn (peekL ep S4).2).2).2) else (l, (isL ep 2 sOn (peekL ep S4).2).2)) := Lib.hid (by rw [HUN.out, if_pos h0])
      clear HUN h0
      generalize peekL ep S4 = PK at HPK hFp hpl HUN2
      obtain ⟨tp, S5⟩ := PK
      have HF5 := Lib.hid hFp; clear hFp
      have hFi := is_fin (k := 2) (x := sOn) HF5.out (by decide)
      have hIt := isL_true (k := 2) (x := sOn) HF5.out
      obtain ⟨b, S6, hP⟩ : ∃ b S6, isL ep 2 sOn S5 = (b, S6) := ⟨_, _, rfl⟩
      have HUN3 : Hid (rulesL ep (n + 1) l S4 = if b = true then (if l.length = 512 then (l, failsL 63 tp.at_ S6) else rulesL ep n (l ++ [(ruleL ep S6).1]) (ruleL ep S6).2) else (l, S6)) := Lib.hid (by rw [HUN2.out]; show (if (isL ep 2 sOn S5).1 = true then (if l.length = 512 then (l, failsL 63 tp.at_ (isL ep 2 sOn S5).2) else rulesL ep n (l ++ [(ruleL ep (isL ep 2 sOn S5).2).1]) (ruleL ep (isL ep 2 sOn S5).2).2) else (l, (isL ep 2 sOn S5).2)) = _; rw [hP])
      have HIS := Lib.hid (fun Wx (h : RfS Wx g L ep 0 S5) => is_ref g L ep 0 2 sOn S5 Wx HF5.out h)
      rw [hP] at HIS hFi hIt
      have HF6 := Lib.hid hFi
      clear HUN2 hP hFi
      cases b with
      | false =>
        have HV : Hid (rulesL ep (S9.M.length + 1) [] S9 = (l, S6)) := Lib.hid (by rw [HT.out, HUN3.out]; rfl)
        clear HT HUN3 hIt
        go_wp2_with fail
        refine HPK.out.mono ?_
        rintro e W5 ⟨rfl, hO⟩
        have HS5 := Lib.hid ((HS4.out.step hO).below ((Below.refl _ _).alloc (Nat.le_refl _) (tokBox tp)))
        have HROW5 := Lib.hid ((HROW.out.chg hO.chg (fun k e => by omega)).chg (Chg.of_alloc W5 (tokBox tp) (fun k => k = g)) (fun k e => by omega))
        clear hO HPK
        unfold tkVal
        go_wp2_with fail
        refine (HIS.out _ HS5.out.ps.st).mono ?_
        rintro e W6 ⟨rfl, hO⟩
        have HS6 := Lib.hid (HS5.out.step hO)
        have HROW6 := Lib.hid (HROW5.out.chg hO.chg (fun k e => by omega))
        clear hO HS5 HROW5 HIS
        go_wp2_with fail
        refine (kind_ref g L ep 0 1 S6 _ HF6.out HS6.out.ps.st).mono ?_
        rintro e WK ⟨rfl, hO⟩
        have hPV : policyL ep S0 = ((⟨ta.text, f, dv, l⟩ : Po), S6) := by rw [HR9.out, HV.out]
        obtain ⟨tq, SK, hQ⟩ : ∃ tq SK, kindL ep 1 (S6) = (tq, SK) := ⟨_, _, rfl⟩
        rw [hQ] at hO ⊢
        have HPL2 : Hid (parseLV s = if SK.err = 0 then ((⟨ta.text, f, dv, l⟩ : Po), (0, 0)) else (zPo, (SK.err, SK.bad))) := Lib.hid (by rw [HPL.out, hPV]; show (if (kindL ep 1 (S6)).2.err = 0 then _ else (zPo, ((kindL ep 1 (S6)).2.err, (kindL ep 1 (S6)).2.bad))) = _; rw [hQ])
        have hSK := HS6.out.step hO
        have hrk := HROW6.out.chg hO.chg (fun k e => by omega)
        have hne1 : ¬ (g = W.heap.size) := by omega
        have hne2 : ¬ (W.heap.size = g) := by omega
        have hne3 : W.heap.size < P := by omega
        obtain ⟨y0, y1, y2, y3, y4, y5, yf⟩ := blk6 hSK.hX
        obtain ⟨z0, z1, z2, z3, z4, z5, zf⟩ := blk6 hSK.ps.hz
        obtain ⟨e5, e6⟩ := rfs_bad hSK.ps.st
        have HSK := Lib.hid hSK; have HRK := Lib.hid hrk
        clear hO hQ hSK hrk hPV
        unfold tkVal
        by_cases hk0 : SK.err = 0
        · have hbk : (SK.err != 0) = false := by rw [bne_eq_false_iff_eq]; exact hk0
          have HVV : Hid (parseLV s = ((⟨ta.text, f, dv, l⟩ : Po), (0, 0))) := Lib.hid (by rw [HPL2.out]; exact if_pos hk0)
          clear hk0
          go_wp2
          have hb6 := blk_sets6 HSK.out.ps.hz (.string ta.text) (.int .i64 f.f0) (.int .u64 f.f1) (.int .i64 dv.f0) (.int .u64 dv.f1) (.slice A l.length c)
          obtain ⟨r0, r1, r2, r3, r4, r5, rf⟩ := blk6 hb6
          have hcB : Chg (fun k => k = W.heap.size) WK _ := (Chg.refl (fun k => k = W.heap.size) WK).sets6' W.heap.size (fun k e => e) (.string ta.text) (.int .i64 f.f0) (.int .u64 f.f1) (.int .i64 dv.f0) (.int .u64 dv.f1) (.slice A l.length c)
          refine bodyPost_ret (v := .tuple #[poAgg ⟨ta.text, f, dv, l⟩ (.slice A l.length c), .int .i64 0, .int .i64 0]) (by simp [results, Tryz.results9, go_sem, r0, r1, r2, r3, r4, r5]) rfl ?_
          rw [HVV.out]
          exact ⟨⟨_, rfl, (HRK.out.chg hcB (fun k e => by omega)).lower (by omega)⟩, HSK.out.ps.bel.trans (hcB.below HSK.out.ps.bel.size (fun k e => by omega))⟩
        · have hbk : (SK.err != 0) = true := by rw [bne_iff_ne]; exact hk0
          have HVV : Hid (parseLV s = (zPo, (SK.err, SK.bad))) := Lib.hid (by rw [HPL2.out]; exact if_neg hk0)
          clear hk0
          go_wp2
          go_region
          all_goals go_wp2
          all_goals
            have hb6 := blk_sets6 HSK.out.ps.hz (.string ⟨#[]⟩) (.int .i64 0) (.int .u64 0) (.int .i64 0) (.int .u64 0) (.slice none 0 0)
            obtain ⟨r0, r1, r2, r3, r4, r5, rf⟩ := blk6 hb6
            have hcB : Chg (fun k => k = W.heap.size) WK _ := (Chg.refl (fun k => k = W.heap.size) WK).sets6' W.heap.size (fun k e => e) (.string ⟨#[]⟩) (.int .i64 0) (.int .u64 0) (.int .i64 0) (.int .u64 0) (.slice none 0 0)
            refine bodyPost_ret (v := .tuple #[poAgg zPo (.slice none 0 0), .int .i64 SK.err, .int .i64 SK.bad]) (by simp [results, Tryz.results9, go_sem, r0, r1, r2, r3, r4, r5, zPo, zVd, nil0, poAgg]) rfl ?_
            rw [HVV.out]
            exact ⟨⟨_, rfl, Kd.R_nil _ _ _ _ _⟩, (HSK.out.ps.bel.trans (hcB.below HSK.out.ps.bel.size (fun k e => by omega))).drew⟩
      | true =>
        have hIt' : S6.M.length + 1 = S5.M.length := hIt rfl
        have hpl' : S5.M = S4.M := hpl
        have hpl2 : S5.M.length = S4.M.length := by rw [hpl']
        clear hIt hpl hpl'
        by_cases h5 : l.length = 512
        · have hb5 : ((l.length : Int) == 512) = true := by rw [beq_iff_eq]; omega
          have HV : Hid (rulesL ep (S9.M.length + 1) [] S9 = (l, failsL 63 tp.at_ S6)) := Lib.hid (by rw [HT.out, HUN3.out, if_pos rfl, if_pos h5])
          clear HT HUN3 h5
          go_wp2_with fail
          refine HPK.out.mono ?_
          rintro e W5 ⟨rfl, hO⟩
          have HS5 := Lib.hid ((HS4.out.step hO).below ((Below.refl _ _).alloc (Nat.le_refl _) (tokBox tp)))
          have HROW5 := Lib.hid ((HROW.out.chg hO.chg (fun k e => by omega)).chg (Chg.of_alloc W5 (tokBox tp) (fun k => k = g)) (fun k e => by omega))
          have HTB : Hid ((W5.alloc (tokBox tp)).heap[W5.heap.size]? = some (.cells #[.int .i64 tp.kind, .string tp.text, .int .u64 tp.num, .int .i64 tp.at_] 59 (0, 0))) := Lib.hid (new_blk W5 _ _)
          have hg5 : g < W5.heap.size := hO.st.lt
          clear hO HPK
          unfold tkVal
          go_wp2_with fail
          refine (HIS.out _ HS5.out.ps.st).mono ?_
          rintro e W6 ⟨rfl, hO⟩
          have HS6' := Lib.hid (HS5.out.step hO)
          have HROW6' := Lib.hid (HROW5.out.chg hO.chg (fun k e => by omega))
          obtain ⟨q0, q1, q2, q3, qf⟩ := blk4 (chg_block hO.chg HTB.out (by omega))
          obtain ⟨y0, y1, y2, y3, y4, y5, yf⟩ := blk6 HS6'.out.hX
          clear hO HS5 HROW5 HIS HTB
          go_wp2_with fail
          refine (fails_any g L ep 0 S6 63 tp.at_ W6 HS6'.out.ps.st).mono ?_
          rintro e W7 ⟨rfl, hO⟩
          have HS6 := Lib.hid (HS6'.out.step hO)
          have HROW6 := Lib.hid (HROW6'.out.chg hO.chg (fun k e => by omega))
          clear hO HS6' HROW6' q0 q1 q2 q3 qf y0 y1 y2 y3 y4 y5 yf hb5
          go_wp2_with fail
          refine (kind_ref g L ep 0 1 (failsL 63 tp.at_ S6) _ (fails_fin (by decide)) HS6.out.ps.st).mono ?_
          rintro e WK ⟨rfl, hO⟩
          have hPV : policyL ep S0 = ((⟨ta.text, f, dv, l⟩ : Po), (failsL 63 tp.at_ S6)) := by rw [HR9.out, HV.out]
          obtain ⟨tq, SK, hQ⟩ : ∃ tq SK, kindL ep 1 ((failsL 63 tp.at_ S6)) = (tq, SK) := ⟨_, _, rfl⟩
          rw [hQ] at hO ⊢
          have HPL2 : Hid (parseLV s = if SK.err = 0 then ((⟨ta.text, f, dv, l⟩ : Po), (0, 0)) else (zPo, (SK.err, SK.bad))) := Lib.hid (by rw [HPL.out, hPV]; show (if (kindL ep 1 ((failsL 63 tp.at_ S6))).2.err = 0 then _ else (zPo, ((kindL ep 1 ((failsL 63 tp.at_ S6))).2.err, (kindL ep 1 ((failsL 63 tp.at_ S6))).2.bad))) = _; rw [hQ])
          have hSK := HS6.out.step hO
          have hrk := HROW6.out.chg hO.chg (fun k e => by omega)
          have hne1 : ¬ (g = W.heap.size) := by omega
          have hne2 : ¬ (W.heap.size = g) := by omega
          have hne3 : W.heap.size < P := by omega
          obtain ⟨y0, y1, y2, y3, y4, y5, yf⟩ := blk6 hSK.hX
          obtain ⟨z0, z1, z2, z3, z4, z5, zf⟩ := blk6 hSK.ps.hz
          obtain ⟨e5, e6⟩ := rfs_bad hSK.ps.st
          have HSK := Lib.hid hSK; have HRK := Lib.hid hrk
          clear hO hQ hSK hrk hPV
          unfold tkVal
          by_cases hk0 : SK.err = 0
          · have hbk : (SK.err != 0) = false := by rw [bne_eq_false_iff_eq]; exact hk0
            have HVV : Hid (parseLV s = ((⟨ta.text, f, dv, l⟩ : Po), (0, 0))) := Lib.hid (by rw [HPL2.out]; exact if_pos hk0)
            clear hk0
            go_wp2
            have hb6 := blk_sets6 HSK.out.ps.hz (.string ta.text) (.int .i64 f.f0) (.int .u64 f.f1) (.int .i64 dv.f0) (.int .u64 dv.f1) (.slice A l.length c)
            obtain ⟨r0, r1, r2, r3, r4, r5, rf⟩ := blk6 hb6
            have hcB : Chg (fun k => k = W.heap.size) WK _ := (Chg.refl (fun k => k = W.heap.size) WK).sets6' W.heap.size (fun k e => e) (.string ta.text) (.int .i64 f.f0) (.int .u64 f.f1) (.int .i64 dv.f0) (.int .u64 dv.f1) (.slice A l.length c)
            refine bodyPost_ret (v := .tuple #[poAgg ⟨ta.text, f, dv, l⟩ (.slice A l.length c), .int .i64 0, .int .i64 0]) (by simp [results, Tryz.results9, go_sem, r0, r1, r2, r3, r4, r5]) rfl ?_
            rw [HVV.out]
            exact ⟨⟨_, rfl, (HRK.out.chg hcB (fun k e => by omega)).lower (by omega)⟩, HSK.out.ps.bel.trans (hcB.below HSK.out.ps.bel.size (fun k e => by omega))⟩
          · have hbk : (SK.err != 0) = true := by rw [bne_iff_ne]; exact hk0
            have HVV : Hid (parseLV s = (zPo, (SK.err, SK.bad))) := Lib.hid (by rw [HPL2.out]; exact if_neg hk0)
            clear hk0
            go_wp2
            go_region
            all_goals go_wp2
            all_goals
              have hb6 := blk_sets6 HSK.out.ps.hz (.string ⟨#[]⟩) (.int .i64 0) (.int .u64 0) (.int .i64 0) (.int .u64 0) (.slice none 0 0)
              obtain ⟨r0, r1, r2, r3, r4, r5, rf⟩ := blk6 hb6
              have hcB : Chg (fun k => k = W.heap.size) WK _ := (Chg.refl (fun k => k = W.heap.size) WK).sets6' W.heap.size (fun k e => e) (.string ⟨#[]⟩) (.int .i64 0) (.int .u64 0) (.int .i64 0) (.int .u64 0) (.slice none 0 0)
              refine bodyPost_ret (v := .tuple #[poAgg zPo (.slice none 0 0), .int .i64 SK.err, .int .i64 SK.bad]) (by simp [results, Tryz.results9, go_sem, r0, r1, r2, r3, r4, r5, zPo, zVd, nil0, poAgg]) rfl ?_
              rw [HVV.out]
              exact ⟨⟨_, rfl, Kd.R_nil _ _ _ _ _⟩, (HSK.out.ps.bel.trans (hcB.below HSK.out.ps.bel.size (fun k e => by omega))).drew⟩
        have hb5 : ((l.length : Int) == 512) = false := by rw [beq_eq_false_iff_ne]; omega
        have HUN4 : Hid (rulesL ep (n + 1) l S4 = rulesL ep n (l ++ [(ruleL ep S6).1]) (ruleL ep S6).2) := Lib.hid (by rw [HUN3.out, if_pos rfl, if_neg h5])
        clear HUN3
        go_wp2_with fail
        refine HPK.out.mono ?_
        rintro e W5 ⟨rfl, hO⟩
        have HS5 := Lib.hid ((HS4.out.step hO).below ((Below.refl _ _).alloc (Nat.le_refl _) (tokBox tp)))
        have HROW5 := Lib.hid ((HROW.out.chg hO.chg (fun k e => by omega)).chg (Chg.of_alloc W5 (tokBox tp) (fun k => k = g)) (fun k e => by omega))
        clear hO HPK
        unfold tkVal
        go_wp2_with fail
        refine (HIS.out _ HS5.out.ps.st).mono ?_
        rintro e W6 ⟨rfl, hO⟩
        have hS6 := HS5.out.step hO
        have hrow6 := HROW5.out.chg hO.chg (fun k e => by omega)
        have hdr : Below W6.heap.size W6 W6.drew := (Below.refl _ _).drew
        have hS6d := hS6.below hdr
        have HRU := Lib.hid (rule_ref g L ep S6 W6.drew HF6.out hS6d.ps.st)
        have HS6 := Lib.hid hS6d; have HROW6 := Lib.hid (hrow6.chg (Chg.of_below hdr (fun k => k = g)) (fun k e => by omega))
        have hFr := rule_fin HF6.out
        have hlr := rule_len ep S6
        obtain ⟨y, S8, hP⟩ : ∃ y S8, ruleL ep S6 = (y, S8) := ⟨_, _, rfl⟩
        rw [hP] at HRU hFr hlr
        have HUN5 : Hid (rulesL ep (n + 1) l S4 = rulesL ep n (l ++ [y]) S8) := Lib.hid (by rw [HUN4.out, hP])
        have HF8 := Lib.hid hFr
        have hlr' : S8.M.length ≤ S6.M.length := hlr
        obtain ⟨x0, x1, x2, x3, x4, x5, xf⟩ := blk6 hS6.hX
        have hPl6 := hS6.lt
        have hszd : W6.drew.heap.size = W6.heap.size := rfl
        clear hO HS5 HROW5 HIS hS6 hrow6 hdr hS6d hFr hlr hP HUN4
        go_wp2_with fail
        go_region_law (first
          | (refine Kd.R_append_step kRl (w0 := W7) (W := W7) (P + 1) (by rfl) (.tmp 53) (.tmp 56) 27 70 (.agg #[.slice none 0 0, .int .i64 0, .slice none 0 0, .int .i64 0, .int .u64 0, .int .i64 0, .int .u64 0, .int .i64 0, .int .u64 0]) 104 rfl Tryz.underlying27 infoRl rfl (by decide) (by decide) (.slice A l.length c) l y (rlCells y (.slice A7 y.f0.length c7) (.slice B7 y.f1.f1.length d7)) (fun _ => True) (fun k => W6.heap.size ≤ k ∧ k < W7.heap.size) (by first | rfl | (go_simp; done)) (by first | rfl | (go_simp; done)) HMADE.out (fun k hk => ⟨trivial, fun e => Nat.lt_irrefl k (Nat.lt_of_lt_of_le (HVLT.out k e.symm) hk.1)⟩) (fun _ _ => trivial) HROW7.out (Below.refl _ _) (by omega) (by omega) ?_; intro v8 w8 hO8 hb8 hg8 hat8
             obtain ⟨A8, c8, rfl⟩ := Kd.R_slice hO8
             have HS8 := Lib.hid (HS7.out.belowB hb8); have HO8 : Hid (RlRow w8 (P + 1) (.slice A8 (l ++ [y]).length c8) (l ++ [y])) := Lib.hid hO8; clear hO8 hb8 hg8 hat8
             obtain ⟨w0', w1', w2', w3', w4', w5', wf'⟩ := blk6 HS8.out.hX)
          | (go_simp; go_at_call 32; refine HRU.out.mono ?_; rintro e W7 ⟨vc, v1, rfl, hcl, hex, hO7⟩
             obtain ⟨A7, c7, rfl⟩ := Kd.R_slice hcl; obtain ⟨B7, d7, rfl⟩ := Kd.R_slice hex
             have hs7 := hO7.chg.size
             have HS7 := Lib.hid (HS6.out.step hO7); have HROW7 := Lib.hid (HROW6.out.chg hO7.chg (fun k e => by omega))
             have HMADE := Lib.hid (rl_made (base := P + 1) hcl hex (by omega))
             have HVLT : Hid (∀ k, (Value.slice A l.length c).ownBlock = some k → k < W6.heap.size) := Lib.hid (fun k hk => (by obtain ⟨inner, ho⟩ := Kd.R_own HROW6.out; exact own_lt ho k hk))
             obtain ⟨z0, z1, z2, z3, z4, z5, zf⟩ := blk6 HS7.out.hX
             obtain ⟨t0, t1, t2, t3, t4, t5, tf⟩ := blk6 (blk_past (.cells (rlCells y (.slice A7 y.f0.length c7) (.slice B7 y.f1.f1.length d7)).toArray 70) HS7.out.hX)
             clear hcl hex hO7
             unfold rlAgg))
        all_goals
          have hlen1 : (l ++ [y]).length = l.length + 1 := by simp
          rw [hlen1] at HO8
          have hset := Chg.of_set w8 P 5 (.slice A8 (l.length + 1) c8)
          have HS9' := Lib.hid (HS8.out.set5 (.slice A8 (l.length + 1) c8))
          have HO9 := Lib.hid (HO8.out.chg hset (fun k e => by omega))
          clear hset
          go_wp2
          go_roundg n
          case measure => omega
          case rel => exact ⟨l ++ [y], S8, _, Lib.hid (by rw [HT.out, HUN5.out]), by omega, by simp; omega, HO9, HS9', HF8⟩
    · have hb0 : (S4.err == 0) = false := by rw [beq_eq_false_iff_ne]; exact h0
      have HV : Hid (rulesL ep (S9.M.length + 1) [] S9 = (l, S4)) := Lib.hid (by rw [HT.out, HUN.out, if_neg h0])
      clear HT HUN h0
      go_wp2_with fail
      refine (kind_ref g L ep 0 1 S4 _ HF4.out HS4.out.ps.st).mono ?_
      rintro e WK ⟨rfl, hO⟩
      have hPV : policyL ep S0 = ((⟨ta.text, f, dv, l⟩ : Po), S4) := by rw [HR9.out, HV.out]
      obtain ⟨tq, SK, hQ⟩ : ∃ tq SK, kindL ep 1 (S4) = (tq, SK) := ⟨_, _, rfl⟩
      rw [hQ] at hO ⊢
      have HPL2 : Hid (parseLV s = if SK.err = 0 then ((⟨ta.text, f, dv, l⟩ : Po), (0, 0)) else (zPo, (SK.err, SK.bad))) := Lib.hid (by rw [HPL.out, hPV]; show (if (kindL ep 1 (S4)).2.err = 0 then _ else (zPo, ((kindL ep 1 (S4)).2.err, (kindL ep 1 (S4)).2.bad))) = _; rw [hQ])
      have hSK := HS4.out.step hO
      have hrk := HROW.out.chg hO.chg (fun k e => by omega)
      have hne1 : ¬ (g = W.heap.size) := by omega
      have hne2 : ¬ (W.heap.size = g) := by omega
      have hne3 : W.heap.size < P := by omega
      obtain ⟨y0, y1, y2, y3, y4, y5, yf⟩ := blk6 hSK.hX
      obtain ⟨z0, z1, z2, z3, z4, z5, zf⟩ := blk6 hSK.ps.hz
      obtain ⟨e5, e6⟩ := rfs_bad hSK.ps.st
      have HSK := Lib.hid hSK; have HRK := Lib.hid hrk
      clear hO hQ hSK hrk hPV
      unfold tkVal
      by_cases hk0 : SK.err = 0
      · have hbk : (SK.err != 0) = false := by rw [bne_eq_false_iff_eq]; exact hk0
        have HVV : Hid (parseLV s = ((⟨ta.text, f, dv, l⟩ : Po), (0, 0))) := Lib.hid (by rw [HPL2.out]; exact if_pos hk0)
        clear hk0
        go_wp2
        have hb6 := blk_sets6 HSK.out.ps.hz (.string ta.text) (.int .i64 f.f0) (.int .u64 f.f1) (.int .i64 dv.f0) (.int .u64 dv.f1) (.slice A l.length c)
        obtain ⟨r0, r1, r2, r3, r4, r5, rf⟩ := blk6 hb6
        have hcB : Chg (fun k => k = W.heap.size) WK _ := (Chg.refl (fun k => k = W.heap.size) WK).sets6' W.heap.size (fun k e => e) (.string ta.text) (.int .i64 f.f0) (.int .u64 f.f1) (.int .i64 dv.f0) (.int .u64 dv.f1) (.slice A l.length c)
        refine bodyPost_ret (v := .tuple #[poAgg ⟨ta.text, f, dv, l⟩ (.slice A l.length c), .int .i64 0, .int .i64 0]) (by simp [results, Tryz.results9, go_sem, r0, r1, r2, r3, r4, r5]) rfl ?_
        rw [HVV.out]
        exact ⟨⟨_, rfl, (HRK.out.chg hcB (fun k e => by omega)).lower (by omega)⟩, HSK.out.ps.bel.trans (hcB.below HSK.out.ps.bel.size (fun k e => by omega))⟩
      · have hbk : (SK.err != 0) = true := by rw [bne_iff_ne]; exact hk0
        have HVV : Hid (parseLV s = (zPo, (SK.err, SK.bad))) := Lib.hid (by rw [HPL2.out]; exact if_neg hk0)
        clear hk0
        go_wp2
        go_region
        all_goals go_wp2
        all_goals
          have hb6 := blk_sets6 HSK.out.ps.hz (.string ⟨#[]⟩) (.int .i64 0) (.int .u64 0) (.int .i64 0) (.int .u64 0) (.slice none 0 0)
          obtain ⟨r0, r1, r2, r3, r4, r5, rf⟩ := blk6 hb6
          have hcB : Chg (fun k => k = W.heap.size) WK _ := (Chg.refl (fun k => k = W.heap.size) WK).sets6' W.heap.size (fun k e => e) (.string ⟨#[]⟩) (.int .i64 0) (.int .u64 0) (.int .i64 0) (.int .u64 0) (.slice none 0 0)
          refine bodyPost_ret (v := .tuple #[poAgg zPo (.slice none 0 0), .int .i64 SK.err, .int .i64 SK.bad]) (by simp [results, Tryz.results9, go_sem, r0, r1, r2, r3, r4, r5, zPo, zVd, nil0, poAgg]) rfl ?_
          rw [HVV.out]
          exact ⟨⟨_, rfl, Kd.R_nil _ _ _ _ _⟩, (HSK.out.ps.bel.trans (hcB.below HSK.out.ps.bel.size (fun k e => by omega))).drew⟩
end Go.Proofs.YtlmopoipjolbgaaGreatDoor.LexW
namespace Go.Proofs.YtlmopoipjolbgaaGreatDoor.LexW
open Go.RowKit Go.Shelf Go.Proofs.YtlmopoipjolbgaaGreatDoor.LexS Go.Proofs.YtlmopoipjolbgaaGreatDoorW.PrintWords
set_option linter.unusedVariables false
set_option linter.unusedSimpArgs false

/-- a token as lex cuts it: its text says its kind -/
def TkOk (t : Tk) : Prop := t.kind = 1 ∧ t.text = nil0 ∨ ∃ c T, TkLike t c T
/-- where what is wrong is on its way: it is told, or it comes with the next look -/
def Doom (ep : EP) (S : RS) (p : EP) : Prop := p.1 ≠ 0 ∧ (S.err = p.1 ∧ S.bad = p.2 ∨ S.err = 0 ∧ S.M = [] ∧ p = ep)
/-- how the two answers stand to each other -/
inductive Agr {α : Type} (ep : EP) : Rd α → α × RS → Prop
  | ok {a : α} {M : List Tk} (hM : M ≠ []) (hT : ∀ t ∈ M, TkOk t) (hF : Fine ep M) : Agr ep (.ok (a, M)) (a, ⟨M, 0, 0⟩)
  | bad {p : EP} {a : α} {S : RS} (h : Doom ep S p) : Agr ep (.error p) (a, S)
/-- tokens at hand -/
structure Good (ep : EP) (M : List Tk) : Prop where
  ne : M ≠ []
  ok : ∀ t ∈ M, TkOk t
  fine : Fine ep M
theorem doom_peek {ep : EP} {S : RS} {p : EP} (h : Doom ep S p) : (peekL ep S).1 = tkz ∧ (peekL ep S).2.err = p.1 ∧ (peekL ep S).2.bad = p.2 ∧ (peekL ep S).2.err ≠ 0 := by
  obtain ⟨h0, ⟨h1, h2⟩ | ⟨h1, h2, h3⟩⟩ := h
  · rw [peek_bad (by rw [h1]; exact h0)]
    exact ⟨rfl, h1, h2, by rw [h1]; exact h0⟩
  · unfold peekL
    rw [if_pos h1, h2]
    unfold failsL
    rw [if_pos h1]
    subst h3
    exact ⟨rfl, rfl, rfl, h0⟩
theorem doom_of {ep : EP} {S : RS} {p : EP} (h0 : p.1 ≠ 0) (h1 : S.err = p.1) (h2 : S.bad = p.2) : Doom ep S p := ⟨h0, .inl ⟨h1, h2⟩⟩
theorem doom_fails {ep : EP} {S : RS} {p : EP} (h : Doom ep S p) (e a : Int) (hS : S.err ≠ 0) : Doom ep (failsL e a S) p := by
  unfold failsL
  rw [if_neg hS]
  exact h
theorem doom_peek2 {ep : EP} {S : RS} {p : EP} (h : Doom ep S p) : Doom ep (peekL ep S).2 p := by
  obtain ⟨_, h1, h2, _⟩ := doom_peek h
  exact doom_of h.1 h1 h2
theorem doom_next {ep : EP} {S : RS} {p : EP} (h : Doom ep S p) : (nextL ep S).1 = tkz ∧ (nextL ep S).2.err ≠ 0 ∧ Doom ep (nextL ep S).2 p := by
  obtain ⟨h0, h1, h2, h3⟩ := doom_peek h
  unfold nextL
  rw [if_neg h3]
  exact ⟨h0, h3, doom_of h.1 h1 h2⟩
theorem doom_is {ep : EP} {S : RS} {p : EP} (h : Doom ep S p) (k : Int) (x : ByteArray) : (isL ep k x S).1 = false ∧ (isL ep k x S).2.err ≠ 0 ∧ Doom ep (isL ep k x S).2 p := by
  obtain ⟨h0, h1, h2, h3⟩ := doom_peek h
  unfold isL
  rw [if_neg h3]
  exact ⟨rfl, h3, doom_of h.1 h1 h2⟩
theorem doom_want {ep : EP} {S : RS} {p : EP} (h : Doom ep S p) (k : Int) (x : ByteArray) : Doom ep (wantL ep k x S) p := by
  obtain ⟨h1, h2, h3⟩ := doom_is h k x
  unfold wantL
  rw [if_neg (by rw [h1]; decide)]
  have h4 := doom_peek h3
  exact doom_fails (doom_peek2 h3) _ _ h4.2.2.2
theorem doom_kind {ep : EP} {S : RS} {p : EP} (h : Doom ep S p) {k : Int} (hk : k ≠ 0) : (kindL ep k S).1 = tkz ∧ (kindL ep k S).2.err ≠ 0 ∧ Doom ep (kindL ep k S).2 p := by
  have h4 := doom_peek h
  unfold kindL
  rw [if_neg (by rw [h4.1]; exact fun e => hk e.symm)]
  refine ⟨rfl, ?_, doom_fails (doom_peek2 h) _ _ h4.2.2.2⟩
  unfold failsL
  rw [if_neg h4.2.2.2]
  exact h4.2.2.2
theorem doom_verdict {ep : EP} {S : RS} {p : EP} (h : Doom ep S p) : Doom ep (verdictL ep S).2 p := by
  obtain ⟨h1, h2, h3⟩ := doom_kind h (show (2 : Int) ≠ 0 by decide)
  unfold verdictL
  simp only
  rw [if_neg h2]
  exact h3
theorem doom_call {ep : EP} {S : RS} {p : EP} (h : Doom ep S p) : Doom ep (callL ep S).2 p := by
  have h4 := doom_peek h
  unfold callL
  simp only
  rw [h4.1, if_neg (by decide), if_neg (by decide)]
  exact doom_fails (doom_peek2 h) _ _ h4.2.2.2
theorem doom_mask {ep : EP} {S : RS} {p : EP} (h : Doom ep S p) : Doom ep (maskL ep S).2 p := by
  obtain ⟨h1, h2, h3⟩ := doom_is h 4 sAmp
  unfold maskL
  simp only
  rw [if_neg (by rw [h1]; decide)]
  exact h3
theorem doom_test {ep : EP} {S : RS} {p : EP} (h : Doom ep S p) (f : Int) : Doom ep (testL ep f S).2 p := by
  obtain ⟨h1, h2, h3⟩ := doom_kind (doom_mask h) (show (4 : Int) ≠ 0 by decide)
  unfold testL
  simp only
  refine (doom_kind ?_ (show (3 : Int) ≠ 0 by decide)).2.2
  split
  · exact doom_fails h3 _ _ h2
  · exact h3
theorem doom_more {α : Type} {ep : EP} {one : RS → α × RS} {k : Int} {x : ByteArray} : ∀ n l S p, Doom ep S p → Doom ep (moreL ep one k x n l S).2 p := by
  intro n
  cases n with
  | zero => intro l S p h; exact h
  | succ n =>
    intro l S p h
    unfold moreL
    split
    · obtain ⟨h1, h2, h3⟩ := doom_is h k x
      rw [if_neg (by rw [h1]; decide)]
      exact h3
    · exact h
theorem doom_all {ep : EP} {one : RS → Ex × RS} (h1 : ∀ S p, Doom ep S p → Doom ep (one S).2 p) {S : RS} {p : EP} (h : Doom ep S p) : Doom ep (allL ep one S).2 p := by
  unfold allL
  exact doom_more _ _ _ _ (h1 _ _ h)
theorem doom_expr {ep : EP} {one : RS → Ex × RS} (h1 : ∀ S p, Doom ep S p → Doom ep (one S).2 p) {S : RS} {p : EP} (h : Doom ep S p) : Doom ep (exprL ep one S).2 p := by
  unfold exprL
  exact doom_more _ _ _ _ (doom_all h1 h)
theorem doom_one {ep : EP} (k : Nat) {S : RS} {p : EP} (h : Doom ep S p) : Doom ep (oneL ep k S).2 p := by
  obtain ⟨h1, h2, h3⟩ := doom_next h
  cases k with
  | zero => unfold oneL; simp only; rw [if_neg h2]; exact h3
  | succ k => unfold oneL; simp only; rw [if_neg h2]; exact h3
theorem doom_calls {ep : EP} : ∀ n l S p, Doom ep S p → Doom ep (callsL ep n l S).2 p := by
  intro n
  cases n with
  | zero => intro l S p h; exact h
  | succ n =>
    intro l S p h
    obtain ⟨h1, h2, h3⟩ := doom_is (doom_call h) 4 sComma
    unfold callsL
    simp only
    rw [if_neg (by rw [h1]; decide)]
    exact h3
theorem doom_when {ep : EP} {S : RS} {p : EP} (h : Doom ep S p) : Doom ep (whenL ep S).2 p := by
  obtain ⟨h1, h2, h3⟩ := doom_is h 2 sWhen
  unfold whenL
  rw [if_neg (by rw [h1]; decide)]
  exact h3
theorem doom_rule {ep : EP} {S : RS} {p : EP} (h : Doom ep S p) : Doom ep (ruleL ep S).2 p := by
  unfold ruleL
  simp only
  exact doom_want (doom_verdict (doom_want (doom_when (doom_calls _ _ _ _ h)) _ _)) _ _
theorem doom_rules {ep : EP} : ∀ n l S p, Doom ep S p → Doom ep (rulesL ep n l S).2 p := by
  intro n
  cases n with
  | zero => intro l S p h; exact h
  | succ n =>
    intro l S p h
    unfold rulesL
    simp only
    split
    · obtain ⟨h1, h2, h3⟩ := doom_is (doom_peek2 h) 2 sOn
      rw [if_neg (by rw [h1]; decide)]
      exact h3
    · exact h
end Go.Proofs.YtlmopoipjolbgaaGreatDoor.LexW
namespace Go.Proofs.YtlmopoipjolbgaaGreatDoor.LexW
open Go.RowKit Go.Shelf Go.Proofs.YtlmopoipjolbgaaGreatDoor.LexS Go.Proofs.YtlmopoipjolbgaaGreatDoorW.PrintWords
set_option linter.unusedVariables false
set_option linter.unusedSimpArgs false

/-- a word of kind k -/
def KW (k : Int) (x : ByteArray) : Prop := ∀ t, TkOk t → isT x t = (decide (t.kind = k) && decide (t.text = x))
theorem tk_first {t : Tk} {c : UInt8} {T : List UInt8} (h : TkLike t c T) : t.text.data.toList = c :: T ∧ (t.kind = 2 ∧ letterB c = true ∨ t.kind = 3 ∨ t.kind = 4 ∧ letterB c = false ∧ digitB c = false) := by
  cases h with
  | word hT hk hn hc hw hl => exact ⟨hT, .inl ⟨hk, hc⟩⟩
  | number hT hk hc hw hr hn => exact ⟨hT, .inr (.inl hk)⟩
  | sign hT hk hn hc hd hb h35 hs => exact ⟨hT, .inr (.inr ⟨hk, hc, hd⟩)⟩
theorem KW.word {x : ByteArray} {c : UInt8} {T : List UInt8} (hx : x.data.toList = c :: T) (hc : letterB c = true) : KW 2 x := by
  intro t ht
  unfold isT
  rcases ht with ⟨h1, _⟩ | ⟨c', T', h⟩
  · rw [h1]; simp
  · obtain ⟨hT, ⟨h2, hc'⟩ | h3 | ⟨h4, hc', _⟩⟩ := tk_first h
    · rw [h2]; simp
    · rw [h3]; simp
    · rw [h4]
      have : ¬ t.text = x := fun e => by
        rw [e, hx] at hT
        simp only [List.cons.injEq] at hT
        rw [← hT.1, hc] at hc'
        cases hc'
      simp [this]
theorem KW.sign {x : ByteArray} {c : UInt8} {T : List UInt8} (hx : x.data.toList = c :: T) (hc : letterB c = false) : KW 4 x := by
  intro t ht
  unfold isT
  rcases ht with ⟨h1, _⟩ | ⟨c', T', h⟩
  · rw [h1]; simp
  · obtain ⟨hT, ⟨h2, hc'⟩ | h3 | ⟨h4, hc', _⟩⟩ := tk_first h
    · rw [h2]
      have : ¬ t.text = x := fun e => by
        rw [e, hx] at hT
        simp only [List.cons.injEq] at hT
        rw [← hT.1, hc] at hc'
        cases hc'
      simp [this]
    · rw [h3]; simp
    · rw [h4]; simp
theorem agr_bnd {α β : Type} {ep : EP} {r : Rd α} {q : α × RS} {f : α × List Tk → Rd β} {k : α → RS → β × RS} (h : Agr ep r q) (hf : ∀ M, Good ep M → Agr ep (f (q.1, M)) (k q.1 ⟨M, 0, 0⟩)) (hd : ∀ S p, Doom ep S p → Doom ep (k q.1 S).2 p) : Agr ep (bnd r f) (k q.1 q.2) := by
  cases h with
  | ok hM hT hF => exact hf _ ⟨hM, hT, hF⟩
  | bad h => exact .bad (hd _ _ h)
theorem agr_map {α β : Type} {ep : EP} {r : Rd α} {q : α × RS} (g : α → β) (h : Agr ep r q) : Agr ep (bnd r (fun p => .ok (g p.1, p.2))) (g q.1, q.2) := by
  cases h with
  | ok hM hT hF => exact .ok hM hT hF
  | bad h => exact .bad h
section
variable {ep : EP}
theorem good_hd {M : List Tk} (h : Good ep M) : ∃ t r, M = t :: r ∧ TkOk t := by
  cases M with
  | nil => exact absurd rfl h.ne
  | cons t r => exact ⟨t, r, rfl, h.ok t (by simp)⟩
theorem peek_good {t : Tk} {r : List Tk} : peekL ep ⟨t :: r, 0, 0⟩ = (t, ⟨t :: r, 0, 0⟩) := rfl
/-- a token is taken -/
theorem take_agr {α : Type} {t : Tk} {r : List Tk} (h : Good ep (t :: r)) (hk : t.kind ≠ 1) {f : List Tk → Rd α} {k : RS → α × RS} (hf : ∀ M, Good ep M → Agr ep (f M) (k ⟨M, 0, 0⟩)) (hd : ∀ S p, Doom ep S p → Doom ep (k S).2 p) : Agr ep (bnd (stepP ep (t :: r)) f) (k ⟨r, 0, 0⟩) := by
  have hs := step_fine h.fine (show (hdT (t :: r)).kind ≠ 1 from hk)
  cases r with
  | nil => exact .bad (hd ⟨[], 0, 0⟩ ep ⟨hs.1 ep rfl, .inr ⟨rfl, rfl, rfl⟩⟩)
  | cons u r => exact hf (u :: r) ⟨by simp, fun x hx => h.ok x (by simp only [List.mem_cons] at hx ⊢; exact .inr hx), hs.2 _ rfl⟩
theorem doom_bad {M : List Tk} {c a : Int} (hc : c ≠ 0) : Doom ep (failsL c a ⟨M, 0, 0⟩) (c, a) := ⟨hc, .inl ⟨rfl, rfl⟩⟩
theorem next_good {t : Tk} {r : List Tk} : nextL ep ⟨t :: r, 0, 0⟩ = (t, ⟨r, 0, 0⟩) := rfl
theorem is_agr {k : Int} {x : ByteArray} (hx : KW k x) (hk : k ≠ 1) {M : List Tk} (h : Good ep M) : Agr ep (maybeP ep x M) (isL ep k x ⟨M, 0, 0⟩) := by
  obtain ⟨t, r, rfl, ht⟩ := good_hd h
  unfold maybeP isL
  rw [peek_good, show isT x (hdT (t :: r)) = _ from hx t ht]
  show Agr ep _ (if t.kind = k then (if t.text = x then (true, (⟨r, 0, 0⟩ : RS)) else (false, ⟨t :: r, 0, 0⟩)) else (false, ⟨t :: r, 0, 0⟩))
  by_cases h1 : t.kind = k
  · by_cases h2 : t.text = x
    · rw [if_pos h1, if_pos h2, if_pos (by simp [h1, h2])]
      exact take_agr h (by rw [h1]; exact hk) (k := fun S => (true, S)) (fun M hM => .ok hM.ne hM.ok hM.fine) (fun S p hp => hp)
    · rw [if_pos h1, if_neg h2, if_neg (by simp [h2])]
      exact .ok h.ne h.ok h.fine
  · rw [if_neg h1, if_neg (by simp [h1])]
    exact .ok h.ne h.ok h.fine
theorem want_agr {k : Int} {x : ByteArray} (hx : KW k x) (hk : k ≠ 1) {M : List Tk} (h : Good ep M) : Agr ep (wantP ep x M) ((), wantL ep k x ⟨M, 0, 0⟩) := by
  have hi := is_agr hx hk h
  unfold wantL
  obtain ⟨t, r, rfl, ht⟩ := good_hd h
  unfold wantP
  unfold maybeP at hi
  by_cases h1 : isT x (hdT (t :: r)) = true
  · rw [if_pos h1] at hi ⊢
    have h2 : t.kind = k ∧ t.text = x := by
      have := (hx t ht).symm.trans h1
      simpa using this
    have h3 : isL ep k x ⟨t :: r, 0, 0⟩ = (true, ⟨r, 0, 0⟩) := by unfold isL; rw [peek_good]; show (if t.kind = k then (if t.text = x then (true, (⟨r, 0, 0⟩ : RS)) else _) else _) = _; rw [if_pos h2.1, if_pos h2.2]
    rw [h3]
    exact take_agr h (by rw [h2.1]; exact hk) (k := fun S => ((), S)) (fun M hM => .ok hM.ne hM.ok hM.fine) (fun S p hp => hp)
  · rw [if_neg h1]
    have h3 : isL ep k x ⟨t :: r, 0, 0⟩ = (false, ⟨t :: r, 0, 0⟩) := by
      have h2 : ¬ (t.kind = k ∧ t.text = x) := fun h2 => h1 (by rw [show isT x (hdT (t :: r)) = _ from hx t ht]; simp [h2.1, h2.2])
      unfold isL; rw [peek_good]
      show (if t.kind = k then (if t.text = x then (true, (⟨r, 0, 0⟩ : RS)) else (false, ⟨t :: r, 0, 0⟩)) else (false, ⟨t :: r, 0, 0⟩)) = _
      by_cases h4 : t.kind = k
      · rw [if_pos h4, if_neg (fun h5 => h2 ⟨h4, h5⟩)]
      · rw [if_neg h4]
    rw [h3]
    exact .bad (doom_bad (M := t :: r) (a := t.at_) (by decide))
theorem kind_agr {k : Int} (hk : k ≠ 1) {M : List Tk} (h : Good ep M) : Agr ep (kindP ep k M) (kindL ep k ⟨M, 0, 0⟩) := by
  obtain ⟨t, r, rfl, ht⟩ := good_hd h
  unfold kindP kindL
  rw [peek_good]
  show Agr ep (if t.kind = k then (if k = 1 then _ else bnd (stepP ep (t :: r)) (fun L' => .ok (t, L'))) else _) (if t.kind = k then (t, (⟨r, 0, 0⟩ : RS)) else _)
  by_cases h1 : t.kind = k
  · rw [if_pos h1, if_pos h1, if_neg hk]
    exact take_agr h (by rw [h1]; exact hk) (k := fun S => (t, S)) (fun M hM => .ok hM.ne hM.ok hM.fine) (fun S p hp => hp)
  · rw [if_neg h1, if_neg h1]
    exact .bad (doom_bad (M := t :: r) (a := t.at_) (by decide))
theorem verdict_agr {M : List Tk} (h : Good ep M) : Agr ep (verdictP ep M) (verdictL ep ⟨M, 0, 0⟩) := by
  obtain ⟨t, r, rfl, ht⟩ := good_hd h
  unfold verdictP verdictL kindL
  rw [peek_good]
  by_cases h1 : t.kind = 2
  · rw [if_pos (show (hdT (t :: r)).kind = 2 from h1)]
    simp only [if_pos h1]
    show Agr ep (match wordsT.find? (fun x => decide (t.text = x.1)) with | some (_, k, n) => bnd (stepP ep (t :: r)) (fun L1 => if n = true then bnd (kindP ep 3 L1) (fun p => .ok (⟨k, p.1.num⟩, p.2)) else .ok (⟨k, 0⟩, L1)) | none => .error (badP 61 (t :: r)))
      (match wordsT.find? (fun x => decide (t.text = x.1)) with | some (_, k, n) => if n = true then (⟨k, (kindL ep 3 ⟨r, 0, 0⟩).1.num⟩, (kindL ep 3 ⟨r, 0, 0⟩).2) else (⟨k, 0⟩, ⟨r, 0, 0⟩) | none => (zVd, failsL 61 t.at_ ⟨r, 0, 0⟩))
    cases wordsT.find? (fun x => decide (t.text = x.1)) with
    | none => exact .bad (doom_bad (M := r) (a := t.at_) (by decide))
    | some w =>
      obtain ⟨w, k, n⟩ := w
      cases n with
      | false =>
        exact take_agr h (by rw [h1]; decide) (k := fun S => ((⟨k, 0⟩ : Vd), S)) (fun M hM => .ok hM.ne hM.ok hM.fine) (fun S p hp => hp)
      | true =>
        exact take_agr h (by rw [h1]; decide) (k := fun S => ((⟨k, (kindL ep 3 S).1.num⟩ : Vd), (kindL ep 3 S).2)) (fun M hM => agr_map (fun a : Tk => (⟨k, a.num⟩ : Vd)) (kind_agr (k := 3) (by decide) hM)) (fun S p hp => (doom_kind hp (by decide)).2.2)
  · rw [if_neg (show ¬ (hdT (t :: r)).kind = 2 from h1)]
    simp only [if_neg h1]
    exact .bad (doom_bad (M := t :: r) (a := t.at_) (by decide))
theorem call_agr {M : List Tk} (h : Good ep M) : Agr ep (callP ep M) (callL ep ⟨M, 0, 0⟩) := by
  obtain ⟨t, r, rfl, ht⟩ := good_hd h
  have h2 := kind_agr (ep := ep) (k := 2) (by decide) h
  have h3 := kind_agr (ep := ep) (k := 3) (by decide) h
  unfold kindL at h2 h3
  rw [peek_good] at h2 h3
  unfold callP callL
  rw [peek_good]
  show Agr ep (if t.kind = 3 then _ else _) (if t.kind = 2 then (⟨t.text, 0⟩, (⟨r, 0, 0⟩ : RS)) else if t.kind = 3 then (⟨nil0, t.num⟩, ⟨r, 0, 0⟩) else (zCl, failsL 61 t.at_ ⟨t :: r, 0, 0⟩))
  by_cases hk3 : t.kind = 3
  · rw [if_pos hk3, if_neg (by rw [hk3]; decide), if_pos hk3]
    rw [if_pos hk3] at h3
    exact agr_map (fun a : Tk => (⟨nil0, a.num⟩ : Cl)) h3
  · rw [if_neg hk3]
    by_cases hk2 : t.kind = 2
    · rw [if_pos hk2]
      rw [if_pos hk2] at h2
      exact agr_map (fun a : Tk => (⟨a.text, 0⟩ : Cl)) h2
    · rw [if_neg hk2, if_neg hk3]
      have : kindP ep 2 (t :: r) = .error (badP 61 (t :: r)) := by unfold kindP; rw [if_neg (show ¬ (hdT (t :: r)).kind = 2 from hk2)]
      rw [this]
      exact .bad (doom_bad (M := t :: r) (a := t.at_) (by decide))
theorem kw_amp : KW 4 sAmp := KW.sign (c := 38) (T := []) (by decide +kernel) (by decide +kernel)
theorem kw_comma : KW 4 sComma := KW.sign (c := 44) (T := []) (by decide +kernel) (by decide +kernel)
theorem kw_semi : KW 4 sSemi := KW.sign (c := 59) (T := []) (by decide +kernel) (by decide +kernel)
theorem kw_shut : KW 4 sShut := KW.sign (c := 41) (T := []) (by decide +kernel) (by decide +kernel)
theorem kw_open : KW 4 sOpen := KW.sign (c := 40) (T := []) (by decide +kernel) (by decide +kernel)
theorem kw_not : KW 2 sNot := KW.word (c := 110) (T := [111, 116]) (by decide +kernel) (by decide +kernel)
theorem kw_true : KW 2 sTrue := KW.word (c := 116) (T := [114, 117, 101]) (by decide +kernel) (by decide +kernel)
theorem kw_false : KW 2 sFalse := KW.word (c := 102) (T := [97, 108, 115, 101]) (by decide +kernel) (by decide +kernel)
theorem kw_and : KW 2 sAnd := KW.word (c := 97) (T := [110, 100]) (by decide +kernel) (by decide +kernel)
theorem kw_or : KW 2 sOr := KW.word (c := 111) (T := [114]) (by decide +kernel) (by decide +kernel)
theorem kw_when : KW 2 sWhen := KW.word (c := 119) (T := [104, 101, 110]) (by decide +kernel) (by decide +kernel)
theorem kw_do : KW 2 sDo := KW.word (c := 100) (T := [111]) (by decide +kernel) (by decide +kernel)
theorem kw_arch : KW 2 sArch := KW.word (c := 97) (T := [114, 99, 104]) (by decide +kernel) (by decide +kernel)
theorem kw_foreign : KW 2 sForeign := KW.word (c := 102) (T := [111, 114, 101, 105, 103, 110]) (by decide +kernel) (by decide +kernel)
theorem kw_default : KW 2 sDefault := KW.word (c := 100) (T := [101, 102, 97, 117, 108, 116]) (by decide +kernel) (by decide +kernel)
theorem kw_on : KW 2 sOn := KW.word (c := 111) (T := [110]) (by decide +kernel) (by decide +kernel)
theorem kw_field : ∀ x ∈ fieldsT, KW 2 x := by
  intro x hx
  simp only [fieldsT, List.mem_cons, List.not_mem_nil, or_false] at hx
  rcases hx with rfl | rfl | rfl | rfl | rfl | rfl | rfl
  · exact KW.word (c := 97) (T := [114, 103, 48]) (by decide +kernel) (by decide +kernel)
  · exact KW.word (c := 97) (T := [114, 103, 49]) (by decide +kernel) (by decide +kernel)
  · exact KW.word (c := 97) (T := [114, 103, 50]) (by decide +kernel) (by decide +kernel)
  · exact KW.word (c := 97) (T := [114, 103, 51]) (by decide +kernel) (by decide +kernel)
  · exact KW.word (c := 97) (T := [114, 103, 52]) (by decide +kernel) (by decide +kernel)
  · exact KW.word (c := 97) (T := [114, 103, 53]) (by decide +kernel) (by decide +kernel)
  · exact KW.word (c := 105) (T := [112]) (by decide +kernel) (by decide +kernel)
theorem mask_agr {M : List Tk} (h : Good ep M) : Agr ep (maskP ep M) (maskL ep ⟨M, 0, 0⟩) := by
  have hi := is_agr kw_amp (by decide) h
  obtain ⟨t, r, rfl, ht⟩ := good_hd h
  unfold maskP maskL
  by_cases h4 : t.kind = 4
  · rw [if_pos (show (hdT (t :: r)).kind = 4 from h4)]
    refine agr_bnd (k := fun b S => if b = true then ((kindL ep 3 S).1.num, (kindL ep 3 S).2) else (18446744073709551615, S)) hi (fun M hM => ?_) (fun S p hp => ?_)
    · show Agr ep (if _ then _ else _) (if _ then _ else _)
      split
      · exact agr_map (fun a : Tk => a.num) (kind_agr (k := 3) (by decide) hM)
      · exact .ok hM.ne hM.ok hM.fine
    · show Doom ep (if _ then _ else _ : Int × RS).2 p
      split
      · exact (doom_kind hp (by decide)).2.2
      · exact hp
  · rw [if_neg (show ¬ (hdT (t :: r)).kind = 4 from h4)]
    have h3 : isL ep 4 sAmp ⟨t :: r, 0, 0⟩ = (false, ⟨t :: r, 0, 0⟩) := by
      unfold isL; rw [peek_good]
      show (if t.kind = 4 then (if t.text = sAmp then (true, (⟨r, 0, 0⟩ : RS)) else (false, ⟨t :: r, 0, 0⟩)) else (false, ⟨t :: r, 0, 0⟩)) = _
      rw [if_neg h4]
    simp only [h3]
    exact .ok h.ne h.ok h.fine
end
end Go.Proofs.YtlmopoipjolbgaaGreatDoor.LexW
