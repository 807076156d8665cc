/-
  Layer 6 (policy): Parse. · Layer 6 (policy), the reference: Parse.
-/
import Derived.Test.YtlmopoipjolbgaaGreatDoorM13
namespace Go.Proofs.YtlmopoipjolbgaaGreatDoor.LexW
open Go.RowKit Go.Shelf Go.Proofs.YtlmopoipjolbgaaGreatDoor.LexS Go.Proofs.YtlmopoipjolbgaaGreatDoorW.PrintWords
set_option linter.unusedVariables false
set_option linter.unusedSimpArgs false

abbrev poAgg (x : Po) (v : Value) : Value := .agg #[.string x.arch, .int .i64 x.foreign.f0, .int .u64 x.foreign.f1, .int .i64 x.dflt.f0, .int .u64 x.dflt.f1, v]
/-- a box that holds a policy -/
def PoBox (bx base : Nat) (x : Po) (W : World) : Prop := ∃ v, W.heap[bx]? = some (.cells #[.string x.arch, .int .i64 x.foreign.f0, .int .u64 x.foreign.f1, .int .i64 x.dflt.f0, .int .u64 x.dflt.f1, v] 29 (0, 0)) ∧ RlRow W base v x.rules
theorem PoBox.chg {S : Nat → Prop} {W W' : World} {bx base : Nat} {x : Po} (h : PoBox bx base x W) (hc : Chg S W W') (hn : ¬ S bx) (hS : ∀ k, S k → k < base) : PoBox bx base x W' :=
  let ⟨v, hb, hr⟩ := h; ⟨v, chg_block hc hb hn, hr.chg hc hS⟩
theorem enters_pp1 : Enters Tryz.prog 23 := enters_of Tryz.func23 (by kernel_rfl) rfl

set_option maxRecDepth 100000 in
set_option maxHeartbeats 1000000 in
theorem pp1_any (s : ByteArray) (ep : EP) (g bx base : Nat) (L : List Tk) (w0 W : World) (hL : L.length ≤ 65537) (hO : Okw w0 g W) (hR : Rdr s ep g L 0 W) (hbx : bx < base) (hbg : bx ≠ g) (hbase : base ≤ W.heap.size) (hz : W.heap[bx]? = some (.cells #[.string ⟨#[]⟩, .int .i64 0, .int .u64 0, .int .i64 0, .int .u64 0, .slice none 0 0] 29 (0, 0))) :
    Calls Tryz.prog 23 #[.pointer (some ⟨g, 0, none⟩), .pointer (some ⟨bx, 0, none⟩)] W (DoOut s ep g bx (PoBox bx base) W (policyP ep L)) := by
  have HE := Lib.hid (policy_any s ep g L w0 W hL hO hR)
  have HZ := Lib.hid hz
  clear hO hR hz
  rcases he : policyP ep L with p | ⟨x, L1⟩
  · have H := Lib.hid he; clear he
    go_enter Tryz.func23, Tryz.ntmps23
    go_wp2_with fail
    refine HE.out.mono ?_
    rintro e W2 h
    obtain ⟨rfl, hc⟩ := h.err H.out
    go_wp2
    exact ⟨rfl, rfl, hc.wider (fun k e => .inl e)⟩
  · have H := Lib.hid he; clear he
    go_enter Tryz.func23, Tryz.ntmps23
    go_wp2_with fail
    refine HE.out.mono ?_
    rintro e W2 h
    obtain ⟨⟨v, rfl, hX, hR2⟩, hc⟩ := h.ok H.out
    obtain ⟨A, c, rfl⟩ := Kd.R_slice hX
    have hz2 := chg_block hc HZ.out hbg
    obtain ⟨z0, z1, z2, z3, z4, z5, zf⟩ := blk6 hz2
    have HX := Lib.hid hX; have HR2 := Lib.hid hR2; have HC := Lib.hid hc; have HZ2 := Lib.hid hz2
    clear hX hR2 hc hz2
    go_wp2
    go_end0
    have hs := (Chg.refl (fun k => k = bx) W2).sets6' bx (fun k e => e) (.string x.arch) (.int .i64 x.foreign.f0) (.int .u64 x.foreign.f1) (.int .i64 x.dflt.f0) (.int .u64 x.dflt.f1) (.slice A x.rules.length c)
    exact ⟨⟨rfl, HR2.out.far6 bx (by omega) _ _ _ _ _ _, _, blk_sets6 HZ2.out _ _ _ _ _ _, (HX.out.chg hs (fun k e => by omega)).lower hbase⟩, (HC.out.wider (fun k e => .inl e)).trans hs (fun k e => .inl (.inr e))⟩

def ParOut (base : Nat) (p : Po × EP) (e : Ending) (W' : World) : Prop := ∃ v, e = .returned (.tuple #[poAgg p.1 v, .int .i64 p.2.1, .int .i64 p.2.2]) ∧ RlRow W' base v p.1.rules

set_option maxRecDepth 100000 in
set_option maxHeartbeats 1000000 in
theorem parse_any (s : ByteArray) (w0 W : World) (hE : Env w0) (hb : Below w0.heap.size w0 W) (hlen : (toks s).1.length ≤ 65537) :
    Calls Tryz.prog 8 #[.string s] W fun e W' => ParOut W.heap.size (parseV s) e W' ∧ Below W.heap.size W W' := by
  have hmf : ∀ (fn : Fn) (first cap : Array Value) (w : World), (Instr.makeFunc fn first cap).run Tryz.prog w = .ok (.func fn first cap) w := fun _ _ _ _ => rfl
  have hal : Below W.heap.size W ((W.alloc poZero).alloc poZero) := ((Below.refl W.heap.size W).alloc (Nat.le_refl _) _).alloc (by simp) _
  have hz1 : ((W.alloc poZero).alloc poZero).heap[W.heap.size]? = some (.cells #[.string ⟨#[]⟩, .int .i64 0, .int .u64 0, .int .i64 0, .int .u64 0, .slice none 0 0] 29 (0, 0)) := blk_past _ (new_blk W _ _)
  have hz2 : ((W.alloc poZero).alloc poZero).heap[W.heap.size + 1]? = some (.cells #[.string ⟨#[]⟩, .int .i64 0, .int .u64 0, .int .i64 0, .int .u64 0, .slice none 0 0] 29 (0, 0)) := new_blk' (by simp) _ _
  have hsz : ((W.alloc poZero).alloc poZero).heap.size = W.heap.size + 2 := by simp
  have hws := hb.size
  have HT := Lib.hid (tried_any enters_pp1 s (W.heap.size + 1) w0 ((W.alloc poZero).alloc poZero) hE (hb.trans (hal.mono hb.size)) (by omega) (by omega) policyP (PoBox (W.heap.size + 1) (W.heap.size + 4)) hlen
    (fun x A B h hc => h.chg hc (by omega) (fun k e => by omega))
    (fun L W1 h1 h2 h3 h4 h5 => pp1_any s _ _ (W.heap.size + 1) (W.heap.size + 4) L w0 W1 h1 h2 h3 (by omega) (by omega) (by omega) (h4.trans hz2)))
  have HAL := Lib.hid hal; have HZ1 := Lib.hid hz1
  clear hE hb hlen hal hz1 hz2
  have HNZ := Lib.hid (wholeP_nz (fun ep => policy_nz ep) s)
  unfold parseV
  rcases hw : wholeP policyP s with p | x
  · rw [hw] at HT HNZ
    clear hw
    go_enter Tryz.func8, Tryz.ntmps8
    go_wp2_with fail
    refine HT.out.mono ?_
    rintro e W2 ⟨rfl, hc⟩
    have hp : (p.1 != 0) = true := by rw [bne_iff_ne]; exact HNZ.out p rfl
    have hz1 := chg_block hc HZ1.out (by omega)
    obtain ⟨z0, z1, z2, z3, z4, z5, zf⟩ := blk6 hz1
    obtain ⟨u0, u1, u2, u3, u4, u5, uf⟩ := blk6 (blk_past (.cells #[.int .i64 p.1, .int .i64 p.2] 49) hz1)
    have hs2 := hc.size
    have hne1 : ¬ (W2.heap.size = W.heap.size) := by omega
    have hne2 : ¬ (W.heap.size = W2.heap.size) := by omega
    have HC := Lib.hid hc; have HZ := Lib.hid hz1
    clear hc hz1
    go_wp2
    go_region
    all_goals go_wp2
    all_goals
      have hal2 := (Below.refl W2.heap.size W2).alloc (Nat.le_refl _) (.cells #[.int .i64 p.1, .int .i64 p.2] 49)
      have hb6 := blk_sets6 (blk_past (.cells #[.int .i64 p.1, .int .i64 p.2] 49) HZ.out) (.string ⟨#[]⟩) (.int .i64 0) (.int .u64 0) (.int .i64 0) (.int .u64 0) (.slice none 0 0)
      obtain ⟨r0, r1, r2, r3, r4, r5, rf⟩ := blk6 hb6
      have hcB : Chg (fun k => k = W.heap.size) W2 _ := (Chg.of_below hal2 (fun k => k = W.heap.size)).sets6' W.heap.size (fun k e => e) (.string ⟨#[]⟩) (.int .i64 0) (.int .u64 0) (.int .i64 0) (.int .u64 0) (.slice none 0 0)
      refine bodyPost_ret (v := .tuple #[poAgg zPo (.slice none 0 0), .int .i64 p.1, .int .i64 p.2]) (by simp [results, Tryz.results8, go_sem, r0, r1, r2, r3, r4, r5, zPo, zVd, nil0, poAgg]) rfl ?_
      refine ⟨⟨.slice none 0 0, rfl, Kd.R_nil _ _ _ _ _⟩, ?_⟩
      exact ((HAL.out.trans (HC.out.below (B := W.heap.size) (by rw [hsz]; omega) (fun k e => by omega))).trans (hcB.below (by omega) (fun k e => by omega))).drew
  · rw [hw] at HT HNZ
    clear hw
    go_enter Tryz.func8, Tryz.ntmps8
    go_wp2_with fail
    refine HT.out.mono ?_
    rintro e W2 ⟨⟨rfl, v, hB, hX⟩, hc⟩
    have hz1 := chg_block hc HZ1.out (by omega)
    obtain ⟨z0, z1, z2, z3, z4, z5, zf⟩ := blk6 hz1
    obtain ⟨y0, y1, y2, y3, y4, y5, yf⟩ := blk6 hB
    obtain ⟨A, c, rfl⟩ := Kd.R_slice hX
    obtain ⟨u0, u1, u2, u3, u4, u5, uf⟩ := blk6 (blk_past (.cells #[.int .i64 0, .int .i64 0] 49) hz1)
    obtain ⟨v0, v1, v2, v3, v4, v5, vf⟩ := blk6 (blk_past (.cells #[.int .i64 0, .int .i64 0] 49) hB)
    have HC := Lib.hid hc; have HZ := Lib.hid hz1; have HX := Lib.hid hX; have HB := Lib.hid hB
    have hs2 := hc.size
    have hne1 : ¬ (W2.heap.size = W.heap.size) := by omega
    have hne2 : ¬ (W.heap.size = W2.heap.size) := by omega
    clear hc hz1 hX hB
    go_wp2
    have hal2 := (Below.refl W2.heap.size W2).alloc (Nat.le_refl _) (.cells #[.int .i64 0, .int .i64 0] 49)
    have hb6 := blk_sets6 (blk_past (.cells #[.int .i64 0, .int .i64 0] 49) HZ.out) (.string x.arch) (.int .i64 x.foreign.f0) (.int .u64 x.foreign.f1) (.int .i64 x.dflt.f0) (.int .u64 x.dflt.f1) (.slice A x.rules.length c)
    obtain ⟨r0, r1, r2, r3, r4, r5, rf⟩ := blk6 hb6
    have hcB : Chg (fun k => k = W.heap.size) W2 _ := (Chg.of_below hal2 (fun k => k = W.heap.size)).sets6' W.heap.size (fun k e => e) (.string x.arch) (.int .i64 x.foreign.f0) (.int .u64 x.foreign.f1) (.int .i64 x.dflt.f0) (.int .u64 x.dflt.f1) (.slice A x.rules.length c)
    refine bodyPost_ret (v := .tuple #[poAgg x (.slice A x.rules.length c), .int .i64 0, .int .i64 0]) (by simp [results, Tryz.results8, go_sem, r0, r1, r2, r3, r4, r5]) rfl ?_
    refine ⟨⟨.slice A x.rules.length c, rfl, (HX.out.chg hcB (fun k e => by omega)).lower (by omega)⟩, ?_⟩
    exact (HAL.out.trans (HC.out.below (B := W.heap.size) (by rw [hsz]; omega) (fun k e => by omega))).trans (hcB.below (by omega) (fun k e => by omega))

end Go.Proofs.YtlmopoipjolbgaaGreatDoor.LexW
namespace Go.Proofs.YtlmopoipjolbgaaGreatDoor.LexW
open Go.RowKit Go.Shelf Go.Proofs.YtlmopoipjolbgaaGreatDoor.LexS Go.Proofs.YtlmopoipjolbgaaGreatDoorW.PrintWords
set_option linter.unusedVariables false
set_option linter.unusedSimpArgs false
attribute [local go_sem] fld_num fld_text

/-- on the way: the result's box, the reader, the policy's box -/
structure PpSt (g : Nat) (LL : List Tk) (ep : EP) (W : World) (P : Nat) (Wi : World) (S : RS) (cs : Array Value) : Prop where
  ps : PsSt g LL ep W #[.string ⟨#[]⟩, .int .i64 0, .int .u64 0, .int .i64 0, .int .u64 0, .slice none 0 0] 29 Wi S
  hX : Wi.heap[P]? = some (.cells cs 29 (0, 0))
  hP : g < P
section
variable {g : Nat} {LL : List Tk} {ep : EP} {W Wi Wj : World} {P : Nat} {S S' : RS} {cs : Array Value} {v0 v1 v2 v3 v4 v5 : Value}
theorem PpSt.lt (h : PpSt g LL ep W P Wi S cs) : P < Wi.heap.size := (Array.getElem?_eq_some_iff.1 h.hX).1
theorem PpSt.step (h : PpSt g LL ep W P Wi S cs) (hO : LOut Wi g LL ep 0 S' Wj) : PpSt g LL ep W P Wj S' cs := ⟨h.ps.step hO, chg_block hO.chg h.hX (by have := h.hP; omega), h.hP⟩
theorem PpSt.belowB (h : PpSt g LL ep W P Wi S cs) (hb : Below (P + 1) Wi Wj) : PpSt g LL ep W P Wj S cs :=
  ⟨⟨h.ps.bel.trans (hb.mono (by have := h.hP; have := h.ps.hg; omega)), (hb.block _ (by have := h.hP; have := h.ps.hg; omega)).trans h.ps.hz, h.ps.st.chg (Chg.of_belowB hb) (fun k e => by have := h.hP; omega), h.ps.hg⟩, (hb.block _ (by omega)).trans h.hX, h.hP⟩
theorem PpSt.below (h : PpSt g LL ep W P Wi S cs) (hb : Below Wi.heap.size Wi Wj) : PpSt g LL ep W P Wj S cs := h.belowB (hb.mono h.lt)
theorem PpSt.set (h : PpSt g LL ep W P Wi S cs) (j : Nat) (v : Value) : PpSt g LL ep W P (Wi.setCell ⟨P, j, none⟩ v) S (cs.setIfInBounds j v) :=
  ⟨⟨h.ps.bel.trans ((Chg.of_set Wi P j v).below h.ps.bel.size (fun k e => by have := h.hP; have := h.ps.hg; omega)), (Below.heap_setCell Wi ⟨P, j, none⟩ v W.heap.size (by show W.heap.size ≠ P; have := h.hP; have := h.ps.hg; omega)).trans h.ps.hz, h.ps.st.far P j h.hP v, h.ps.hg⟩, blk_set h.hX j v, h.hP⟩
theorem PpSt.set0 (h : PpSt g LL ep W P Wi S #[v0, v1, v2, v3, v4, v5]) (u : Value) : PpSt g LL ep W P (Wi.setCell ⟨P, 0, none⟩ u) S #[u, v1, v2, v3, v4, v5] := h.set 0 u
theorem PpSt.set12 (h : PpSt g LL ep W P Wi S #[v0, v1, v2, v3, v4, v5]) (u w : Value) : PpSt g LL ep W P ((Wi.setCell ⟨P, 1, none⟩ u).setCell ⟨P, 2, none⟩ w) S #[v0, u, w, v3, v4, v5] := (h.set 1 u).set 2 w
theorem PpSt.set34 (h : PpSt g LL ep W P Wi S #[v0, v1, v2, v3, v4, v5]) (u w : Value) : PpSt g LL ep W P ((Wi.setCell ⟨P, 3, none⟩ u).setCell ⟨P, 4, none⟩ w) S #[v0, v1, v2, u, w, v5] := (h.set 3 u).set 4 w
theorem PpSt.set5 (h : PpSt g LL ep W P Wi S #[v0, v1, v2, v3, v4, v5]) (u : Value) : PpSt g LL ep W P (Wi.setCell ⟨P, 5, none⟩ u) S #[v0, v1, v2, v3, v4, u] := h.set 5 u
end
theorem rules_unfold (ep : EP) (n : Nat) (l : List Rl) (S : RS) : rulesL ep (n + 1) l S = if S.err = 0 then (if (isL ep 2 sOn (peekL ep S).2).1 = true then (if l.length = 512 then (l, failsL 63 (peekL ep S).1.at_ (isL ep 2 sOn (peekL ep S).2).2) else rulesL ep n (l ++ [(ruleL ep (isL ep 2 sOn (peekL ep S).2).2).1]) (ruleL ep (isL ep 2 sOn (peekL ep S).2).2).2) else (l, (isL ep 2 sOn (peekL ep S).2).2)) else (l, S) := rfl
def parseLV (s : ByteArray) : Po × EP := wholeL zPo policyL s

set_option maxRecDepth 100000 in
set_option maxHeartbeats 16000000 in
theorem rparse_ref (s : ByteArray) (W : World) (hlen : (toks s).1.length ≤ 65537) :
    Calls Tryz.prog 9 #[.string s] W fun e W' => ParOut W.heap.size (parseLV s) e W' ∧ Below W.heap.size W W' := by
  have hal := (Below.refl W.heap.size W).alloc (Nat.le_refl _) poZero
  have hz : (W.alloc poZero).heap[W.heap.size]? = some (.cells #[.string ⟨#[]⟩, .int .i64 0, .int .u64 0, .int .i64 0, .int .u64 0, .slice none 0 0] 29 (0, 0)) := new_blk W _ _
  have hsz : (W.alloc poZero).heap.size = W.heap.size + 1 := by simp
  have HRD := Lib.hid (reader_ref s (W.alloc poZero) hlen)
  have hF0 := toks_fin3 s
  have HAL := Lib.hid hal; have HZ := Lib.hid hz
  have hev : parseLV s = if (kindL (toks s).2 1 (policyL (toks s).2 ⟨(toks s).1, 0, 0⟩).2).2.err = 0 then ((policyL (toks s).2 ⟨(toks s).1, 0, 0⟩).1, (0, 0)) else (zPo, ((kindL (toks s).2 1 (policyL (toks s).2 ⟨(toks s).1, 0, 0⟩).2).2.err, (kindL (toks s).2 1 (policyL (toks s).2 ⟨(toks s).1, 0, 0⟩).2).2.bad)) := rfl
  have HEV := Lib.hid hev
  clear hal hz hev
  generalize toks s = T at HRD hF0 HEV
  obtain ⟨L, ep⟩ := T
  have HF0 := Lib.hid hF0; clear hF0
  go_enter Tryz.func9, Tryz.ntmps9
  go_wp2_with fail
  refine HRD.out.mono ?_
  rintro e W2 ⟨g, rfl, hg, hR2, hb2⟩
  have hps : PsSt g L ep W #[.string ⟨#[]⟩, .int .i64 0, .int .u64 0, .int .i64 0, .int .u64 0, .slice none 0 0] 29 W2 ⟨L, 0, 0⟩ := ⟨HAL.out.trans (hb2.mono HAL.out.size), (hb2.block _ (by omega)).trans HZ.out, hR2, by omega⟩
  have hal2 := (Below.refl W2.heap.size W2).alloc (Nat.le_refl _) poZero
  obtain ⟨P, hPe⟩ : ∃ P, P = W2.heap.size := ⟨_, rfl⟩
  have HS0 : Hid (PpSt g L ep W P (W2.alloc poZero) ⟨L, 0, 0⟩ #[.string ⟨#[]⟩, .int .i64 0, .int .u64 0, .int .i64 0, .int .u64 0, .slice none 0 0]) := Lib.hid ⟨hps.below hal2, by rw [hPe]; exact new_blk W2 _ _, by rw [hPe]; exact hR2.lt⟩
  have HPL : Hid (parseLV s = if (kindL ep 1 (policyL ep ⟨L, 0, 0⟩).2).2.err = 0 then ((policyL ep ⟨L, 0, 0⟩).1, (0, 0)) else (zPo, ((kindL ep 1 (policyL ep ⟨L, 0, 0⟩).2).2.err, (kindL ep 1 (policyL ep ⟨L, 0, 0⟩).2).2.bad))) := Lib.hid HEV.out
  obtain ⟨S0, hS0⟩ : ∃ S0 : RS, S0 = ⟨L, 0, 0⟩ := ⟨_, rfl⟩
  rw [← hS0] at HS0 HPL HF0
  have HR0 : Hid (policyL ep S0 = ((⟨(kindL ep 2 (wantL ep 2 sArch S0)).1.text, (verdictL ep (wantL ep 2 sForeign (wantL ep 4 sSemi (kindL ep 2 (wantL ep 2 sArch S0)).2))).1, (verdictL ep (wantL ep 2 sDefault (wantL ep 4 sSemi (verdictL ep (wantL ep 2 sForeign (wantL ep 4 sSemi (kindL ep 2 (wantL ep 2 sArch S0)).2))).2))).1, (rulesL ep ((wantL ep 4 sSemi (verdictL ep (wantL ep 2 sDefault (wantL ep 4 sSemi (verdictL ep (wantL ep 2 sForeign (wantL ep 4 sSemi (kindL ep 2 (wantL ep 2 sArch S0)).2))).2))).2).M.length + 1) [] (wantL ep 4 sSemi (verdictL ep (wantL ep 2 sDefault (wantL ep 4 sSemi (verdictL ep (wantL ep 2 sForeign (wantL ep 4 sSemi (kindL ep 2 (wantL ep 2 sArch S0)).2))).2))).2)).1⟩ : Po), (rulesL ep ((wantL ep 4 sSemi (verdictL ep (wantL ep 2 sDefault (wantL ep 4 sSemi (verdictL ep (wantL ep 2 sForeign (wantL ep 4 sSemi (kindL ep 2 (wantL ep 2 sArch S0)).2))).2))).2).M.length + 1) [] (wantL ep 4 sSemi (verdictL ep (wantL ep 2 sDefault (wantL ep 4 sSemi (verdictL ep (wantL ep 2 sForeign (wantL ep 4 sSemi (kindL ep 2 (wantL ep 2 sArch S0)).2))).2))).2)).2)) := Lib.hid rfl
  clear hps hal2 hR2 hb2 HRD HEV hS0 HAL HZ hg
  go_wp2_with fail
  rw [← hPe]
  show Calls _ _ _ (W2.alloc poZero) _
  obtain ⟨W3, hW3⟩ : ∃ W3, W3 = W2.alloc poZero := ⟨_, rfl⟩
  rw [← hW3] at HS0 ⊢
  clear hW3 hPe
  refine (want_ref g L ep 0 2 sArch S0 _ HF0.out HS0.out.ps.st).mono ?_
  rintro e V1 ⟨rfl, hO⟩
  have hF := want_fin (k := 2) (x := sArch) HF0.out (by decide)
  obtain ⟨S1, hQ⟩ : ∃ Sx, Sx = wantL ep 2 sArch S0 := ⟨_, rfl⟩
  rw [← hQ] at hO hF
  have HS1 := Lib.hid (HS0.out.step hO)
  have HF1 := Lib.hid hF
  have HR1 : Hid (policyL ep S0 = ((⟨(kindL ep 2 S1).1.text, (verdictL ep (wantL ep 2 sForeign (wantL ep 4 sSemi (kindL ep 2 S1).2))).1, (verdictL ep (wantL ep 2 sDefault (wantL ep 4 sSemi (verdictL ep (wantL ep 2 sForeign (wantL ep 4 sSemi (kindL ep 2 S1).2))).2))).1, (rulesL ep ((wantL ep 4 sSemi (verdictL ep (wantL ep 2 sDefault (wantL ep 4 sSemi (verdictL ep (wantL ep 2 sForeign (wantL ep 4 sSemi (kindL ep 2 S1).2))).2))).2).M.length + 1) [] (wantL ep 4 sSemi (verdictL ep (wantL ep 2 sDefault (wantL ep 4 sSemi (verdictL ep (wantL ep 2 sForeign (wantL ep 4 sSemi (kindL ep 2 S1).2))).2))).2)).1⟩ : Po), (rulesL ep ((wantL ep 4 sSemi (verdictL ep (wantL ep 2 sDefault (wantL ep 4 sSemi (verdictL ep (wantL ep 2 sForeign (wantL ep 4 sSemi (kindL ep 2 S1).2))).2))).2).M.length + 1) [] (wantL ep 4 sSemi (verdictL ep (wantL ep 2 sDefault (wantL ep 4 sSemi (verdictL ep (wantL ep 2 sForeign (wantL ep 4 sSemi (kindL ep 2 S1).2))).2))).2)).2)) := Lib.hid (by rw [HR0.out, hQ])
  clear hO hF hQ HS0 HF0 HR0
  go_wp2_with fail
  refine (kind_ref g L ep 0 2 S1 _ HF1.out HS1.out.ps.st).mono ?_
  rintro e V2 ⟨rfl, hO⟩
  have hF := kind_fin HF1.out (show (2 : Int) ≠ 1 by decide)
  obtain ⟨ta, S2, hQ⟩ : ∃ ta Sx, kindL ep 2 S1 = (ta, Sx) := ⟨_, _, rfl⟩
  rw [hQ] at hO hF ⊢
  have hSn := HS1.out.step hO
  obtain ⟨y0, y1, y2, y3, y4, y5, yf⟩ := blk6 hSn.hX
  have HS2 := Lib.hid (hSn.set0 (.string ta.text))
  have HF2 := Lib.hid hF
  have HR2 : Hid (policyL ep S0 = ((⟨ta.text, (verdictL ep (wantL ep 2 sForeign (wantL ep 4 sSemi S2))).1, (verdictL ep (wantL ep 2 sDefault (wantL ep 4 sSemi (verdictL ep (wantL ep 2 sForeign (wantL ep 4 sSemi S2))).2))).1, (rulesL ep ((wantL ep 4 sSemi (verdictL ep (wantL ep 2 sDefault (wantL ep 4 sSemi (verdictL ep (wantL ep 2 sForeign (wantL ep 4 sSemi S2))).2))).2).M.length + 1) [] (wantL ep 4 sSemi (verdictL ep (wantL ep 2 sDefault (wantL ep 4 sSemi (verdictL ep (wantL ep 2 sForeign (wantL ep 4 sSemi S2))).2))).2)).1⟩ : Po), (rulesL ep ((wantL ep 4 sSemi (verdictL ep (wantL ep 2 sDefault (wantL ep 4 sSemi (verdictL ep (wantL ep 2 sForeign (wantL ep 4 sSemi S2))).2))).2).M.length + 1) [] (wantL ep 4 sSemi (verdictL ep (wantL ep 2 sDefault (wantL ep 4 sSemi (verdictL ep (wantL ep 2 sForeign (wantL ep 4 sSemi S2))).2))).2)).2)) := Lib.hid (by rw [HR1.out, hQ])
  clear hSn
  unfold tkVal
  clear hO hF hQ HS1 HF1 HR1
  go_wp2_with fail
  refine (want_ref g L ep 0 4 sSemi S2 _ HF2.out HS2.out.ps.st).mono ?_
  rintro e V3 ⟨rfl, hO⟩
  have hF := want_fin (k := 4) (x := sSemi) HF2.out (by decide)
  obtain ⟨S3, hQ⟩ : ∃ Sx, Sx = wantL ep 4 sSemi S2 := ⟨_, rfl⟩
  rw [← hQ] at hO hF
  have HS3 := Lib.hid (HS2.out.step hO)
  have HF3 := Lib.hid hF
  have HR3 : Hid (policyL ep S0 = ((⟨ta.text, (verdictL ep (wantL ep 2 sForeign S3)).1, (verdictL ep (wantL ep 2 sDefault (wantL ep 4 sSemi (verdictL ep (wantL ep 2 sForeign S3)).2))).1, (rulesL ep ((wantL ep 4 sSemi (verdictL ep (wantL ep 2 sDefault (wantL ep 4 sSemi (verdictL ep (wantL ep 2 sForeign S3)).2))).2).M.length + 1) [] (wantL ep 4 sSemi (verdictL ep (wantL ep 2 sDefault (wantL ep 4 sSemi (verdictL ep (wantL ep 2 sForeign S3)).2))).2)).1⟩ : Po), (rulesL ep ((wantL ep 4 sSemi (verdictL ep (wantL ep 2 sDefault (wantL ep 4 sSemi (verdictL ep (wantL ep 2 sForeign S3)).2))).2).M.length + 1) [] (wantL ep 4 sSemi (verdictL ep (wantL ep 2 sDefault (wantL ep 4 sSemi (verdictL ep (wantL ep 2 sForeign S3)).2))).2)).2)) := Lib.hid (by rw [HR2.out, hQ])
  clear hO hF hQ HS2 HF2 HR2
  go_wp2_with fail
  refine (want_ref g L ep 0 2 sForeign S3 _ HF3.out HS3.out.ps.st).mono ?_
  rintro e V4 ⟨rfl, hO⟩
  have hF := want_fin (k := 2) (x := sForeign) HF3.out (by decide)
  obtain ⟨S4, hQ⟩ : ∃ Sx, Sx = wantL ep 2 sForeign S3 := ⟨_, rfl⟩
  rw [← hQ] at hO hF
  have HS4 := Lib.hid (HS3.out.step hO)
  have HF4 := Lib.hid hF
  have HR4 : Hid (policyL ep S0 = ((⟨ta.text, (verdictL ep S4).1, (verdictL ep (wantL ep 2 sDefault (wantL ep 4 sSemi (verdictL ep S4).2))).1, (rulesL ep ((wantL ep 4 sSemi (verdictL ep (wantL ep 2 sDefault (wantL ep 4 sSemi (verdictL ep S4).2))).2).M.length + 1) [] (wantL ep 4 sSemi (verdictL ep (wantL ep 2 sDefault (wantL ep 4 sSemi (verdictL ep S4).2))).2)).1⟩ : Po), (rulesL ep ((wantL ep 4 sSemi (verdictL ep (wantL ep 2 sDefault (wantL ep 4 sSemi (verdictL ep S4).2))).2).M.length + 1) [] (wantL ep 4 sSemi (verdictL ep (wantL ep 2 sDefault (wantL ep 4 sSemi (verdictL ep S4).2))).2)).2)) := Lib.hid (by rw [HR3.out, hQ])
  clear hO hF hQ HS3 HF3 HR3
  go_wp2_with fail
  refine (verdict_ref g L ep 0 S4 _ HF4.out HS4.out.ps.st).mono ?_
  rintro e V5 ⟨rfl, hO⟩
  have hF := verdict_fin HF4.out
  obtain ⟨f, S5, hQ⟩ : ∃ vx Sx, verdictL ep S4 = (vx, Sx) := ⟨_, _, rfl⟩
  rw [hQ] at hO hF ⊢
  have hSn := HS4.out.step hO
  try clear y0 y1 y2 y3 y4 y5 yf
  obtain ⟨y0, y1, y2, y3, y4, y5, yf⟩ := blk6 hSn.hX
  have HS5 := Lib.hid (hSn.set12 (.int .i64 f.f0) (.int .u64 f.f1))
  have HF5 := Lib.hid hF
  have HR5 : Hid (policyL ep S0 = ((⟨ta.text, f, (verdictL ep (wantL ep 2 sDefault (wantL ep 4 sSemi S5))).1, (rulesL ep ((wantL ep 4 sSemi (verdictL ep (wantL ep 2 sDefault (wantL ep 4 sSemi S5))).2).M.length + 1) [] (wantL ep 4 sSemi (verdictL ep (wantL ep 2 sDefault (wantL ep 4 sSemi S5))).2)).1⟩ : Po), (rulesL ep ((wantL ep 4 sSemi (verdictL ep (wantL ep 2 sDefault (wantL ep 4 sSemi S5))).2).M.length + 1) [] (wantL ep 4 sSemi (verdictL ep (wantL ep 2 sDefault (wantL ep 4 sSemi S5))).2)).2)) := Lib.hid (by rw [HR4.out, hQ])
  clear hSn
  unfold vdVal
  clear hO hF hQ HS4 HF4 HR4
  go_wp2_with fail
  refine (want_ref g L ep 0 4 sSemi S5 _ HF5.out HS5.out.ps.st).mono ?_
  rintro e V6 ⟨rfl, hO⟩
  have hF := want_fin (k := 4) (x := sSemi) HF5.out (by decide)
  obtain ⟨S6, hQ⟩ : ∃ Sx, Sx = wantL ep 4 sSemi S5 := ⟨_, rfl⟩
  rw [← hQ] at hO hF
  have HS6 := Lib.hid (HS5.out.step hO)
  have HF6 := Lib.hid hF
  have HR6 : Hid (policyL ep S0 = ((⟨ta.text, f, (verdictL ep (wantL ep 2 sDefault S6)).1, (rulesL ep ((wantL ep 4 sSemi (verdictL ep (wantL ep 2 sDefault S6)).2).M.length + 1) [] (wantL ep 4 sSemi (verdictL ep (wantL ep 2 sDefault S6)).2)).1⟩ : Po), (rulesL ep ((wantL ep 4 sSemi (verdictL ep (wantL ep 2 sDefault S6)).2).M.length + 1) [] (wantL ep 4 sSemi (verdictL ep (wantL ep 2 sDefault S6)).2)).2)) := Lib.hid (by rw [HR5.out, hQ])
  clear hO hF hQ HS5 HF5 HR5
  go_wp2_with fail
  refine (want_ref g L ep 0 2 sDefault S6 _ HF6.out HS6.out.ps.st).mono ?_
  rintro e V7 ⟨rfl, hO⟩
  have hF := want_fin (k := 2) (x := sDefault) HF6.out (by decide)
  obtain ⟨S7, hQ⟩ : ∃ Sx, Sx = wantL ep 2 sDefault S6 := ⟨_, rfl⟩
  rw [← hQ] at hO hF
  have HS7 := Lib.hid (HS6.out.step hO)
  have HF7 := Lib.hid hF
  have HR7 : Hid (policyL ep S0 = ((⟨ta.text, f, (verdictL ep S7).1, (rulesL ep ((wantL ep 4 sSemi (verdictL ep S7).2).M.length + 1) [] (wantL ep 4 sSemi (verdictL ep S7).2)).1⟩ : Po), (rulesL ep ((wantL ep 4 sSemi (verdictL ep S7).2).M.length + 1) [] (wantL ep 4 sSemi (verdictL ep S7).2)).2)) := Lib.hid (by rw [HR6.out, hQ])
  clear hO hF hQ HS6 HF6 HR6
  go_wp2_with fail
  refine (verdict_ref g L ep 0 S7 _ HF7.out HS7.out.ps.st).mono ?_
  rintro e V8 ⟨rfl, hO⟩
  have hF := verdict_fin HF7.out
  obtain ⟨dv, S8, hQ⟩ : ∃ vx Sx, verdictL ep S7 = (vx, Sx) := ⟨_, _, rfl⟩
  rw [hQ] at hO hF ⊢
  have hSn := HS7.out.step hO
  try clear y0 y1 y2 y3 y4 y5 yf
  obtain ⟨y0, y1, y2, y3, y4, y5, yf⟩ := blk6 hSn.hX
  have HS8 := Lib.hid (hSn.set34 (.int .i64 dv.f0) (.int .u64 dv.f1))
  have HF8 := Lib.hid hF
  have HR8 : Hid (policyL ep S0 = ((⟨ta.text, f, dv, (rulesL ep ((wantL ep 4 sSemi S8).M.length + 1) [] (wantL ep 4 sSemi S8)).1⟩ : Po), (rulesL ep ((wantL ep 4 sSemi S8).M.length + 1) [] (wantL ep 4 sSemi S8)).2)) := Lib.hid (by rw [HR7.out, hQ])
  clear hSn
  unfold vdVal
  clear hO hF hQ HS7 HF7 HR7
  go_wp2_with fail
  refine (want_ref g L ep 0 4 sSemi S8 _ HF8.out HS8.out.ps.st).mono ?_
  rintro e V9 ⟨rfl, hO⟩
  have hF := want_fin (k := 4) (x := sSemi) HF8.out (by decide)
  obtain ⟨S9, hQ⟩ : ∃ Sx, Sx = wantL ep 4 sSemi S8 := ⟨_, rfl⟩
  rw [← hQ] at hO hF
  have HS9 := Lib.hid (HS8.out.step hO)
  have HF9 := Lib.hid hF
  have HR9 : Hid (policyL ep S0 = ((⟨ta.text, f, dv, (rulesL ep (S9.M.length + 1) [] S9).1⟩ : Po), (rulesL ep (S9.M.length + 1) [] S9).2)) := Lib.hid (by rw [HR8.out, hQ])
  clear hO hF hQ HS8 HF8 HR8
  go_wp2_with fail
  try clear y0 y1 y2 y3 y4 y5 yf
  have hlen9 := rfs_len HS9.out.ps.st
  go_loopg [] (S9.M.length + 1) (fun n wr => ∃ (l : List Rl) (S4 : RS) (v : Value), Hid (rulesL ep (S9.M.length + 1) [] S9 = rulesL ep n l S4) ∧ S4.M.length < n ∧ l.length ≤ 512 ∧ Hid (RlRow wr (P + 1) v l) ∧ Hid (PpSt g L ep W P wr S4 #[.string ta.text, .int .i64 f.f0, .int .u64 f.f1, .int .i64 dv.f0, .int .u64 dv.f1, v]) ∧ Hid (Fin3 ep S4))
  case atStart => exact ⟨[], S9, .slice none 0 0, Lib.hid rfl, by omega, by simp, Lib.hid (Kd.R_nil _ _ _ _ _), HS9, HF9⟩
  case round =>
    clear HS9 HF9
    obtain ⟨l, S4, v, HT, hn, hl, HROW, HS4, HF4⟩ := hrel
    obtain ⟨n, rfl⟩ : ∃ n, gk = n + 1 := ⟨gk - 1, by omega⟩
    obtain ⟨A, c, rfl⟩ := Kd.R_slice HROW.out
    have HUN := Lib.hid (rules_unfold ep n l S4)
    have hgP := HS4.out.hP
    have hWg := HS4.out.ps.hg
    have hPl := HS4.out.lt
    have hy5 := rfs_err HS4.out.ps.st
    by_cases h0 : S4.err = 0
    · have hb0 : (S4.err == 0) = true := by rw [beq_iff_eq]; exact h0
      have HPK := Lib.hid (peek_any g L ep 0 S4 wr HS4.out.ps.st)
      have hFp := peek_fin HF4.out
      have hpl : (peekL ep S4).2.M = S4.M := peek_M ep S4
      have HUN2 : Hid (rulesL ep (n + 1) l S4 = if (isL ep 2 sOn (peekL ep S4).2).1 = true then (if l.length = 512 then (l, failsL 63 (peekL ep S4).1.at_ (isL ep 2 sOn (peekL ep S4).2).2) else rulesL ep n (l ++ [(ruleL ep (isL ep 2 sOn (peekL ep S4).2).2).1]) (ruleL ep (isL ep 2 sOn (peekL ep S4).2).2).2) else (l, (isL ep 2 sOn (peekL ep S4).2).2)) := Lib.hid (by rw [HUN.out, if_pos h0])
      clear HUN h0
      generalize peekL ep S4 = PK at HPK hFp hpl HUN2
      obtain ⟨tp, S5⟩ := PK
      have HF5 := Lib.hid hFp; clear hFp
      have hFi := is_fin (k := 2) (x := sOn) HF5.out (by decide)
      have hIt := isL_true (k := 2) (x := sOn) HF5.out
      obtain ⟨b, S6, hP⟩ : ∃ b S6, isL ep 2 sOn S5 = (b, S6) := ⟨_, _, rfl⟩
      have HUN3 : Hid (rulesL ep (n + 1) l S4 = if b = true then (if l.length = 512 then (l, failsL 63 tp.at_ S6) else rulesL ep n (l ++ [(ruleL ep S6).1]) (ruleL ep S6).2) else (l, S6)) := Lib.hid (by rw [HUN2.out]; show (if (isL ep 2 sOn S5).1 = true then (if l.length = 512 then (l, failsL 63 tp.at_ (isL ep 2 sOn S5).2) else rulesL ep n (l ++ [(ruleL ep (isL ep 2 sOn S5).2).1]) (ruleL ep (isL ep 2 sOn S5).2).2) else (l, (isL ep 2 sOn S5).2)) = _; rw [hP])
      have HIS := Lib.hid (fun Wx (h : RfS Wx g L ep 0 S5) => is_ref g L ep 0 2 sOn S5 Wx HF5.out h)
      rw [hP] at HIS hFi hIt
      have HF6 := Lib.hid hFi
      clear HUN2 hP hFi
      cases b with
      | false =>
        have HV : Hid (rulesL ep (S9.M.length + 1) [] S9 = (l, S6)) := Lib.hid (by rw [HT.out, HUN3.out]; rfl)
        clear HT HUN3 hIt
        go_wp2_with fail
        refine HPK.out.mono ?_
        rintro e W5 ⟨rfl, hO⟩
        have HS5 := Lib.hid ((HS4.out.step hO).below ((Below.refl _ _).alloc (Nat.le_refl _) (tokBox tp)))
        have HROW5 := Lib.hid ((HROW.out.chg hO.chg (fun k e => by omega)).chg (Chg.of_alloc W5 (tokBox tp) (fun k => k = g)) (fun k e => by omega))
        clear hO HPK
        unfold tkVal
        go_wp2_with fail
        refine (HIS.out _ HS5.out.ps.st).mono ?_
        rintro e W6 ⟨rfl, hO⟩
        have HS6 := Lib.hid (HS5.out.step hO)
        have HROW6 := Lib.hid (HROW5.out.chg hO.chg (fun k e => by omega))
        clear hO HS5 HROW5 HIS
        go_wp2_with fail
        refine (kind_ref g L ep 0 1 S6 _ HF6.out HS6.out.ps.st).mono ?_
        rintro e WK ⟨rfl, hO⟩
        have hPV : policyL ep S0 = ((⟨ta.text, f, dv, l⟩ : Po), S6) := by rw [HR9.out, HV.out]
        obtain ⟨tq, SK, hQ⟩ : ∃ tq SK, kindL ep 1 (S6) = (tq, SK) := ⟨_, _, rfl⟩
        rw [hQ] at hO ⊢
        have HPL2 : Hid (parseLV s = if SK.err = 0 then ((⟨ta.text, f, dv, l⟩ : Po), (0, 0)) else (zPo, (SK.err, SK.bad))) := Lib.hid (by rw [HPL.out, hPV]; show (if (kindL ep 1 (S6)).2.err = 0 then _ else (zPo, ((kindL ep 1 (S6)).2.err, (kindL ep 1 (S6)).2.bad))) = _; rw [hQ])
        have hSK := HS6.out.step hO
        have hrk := HROW6.out.chg hO.chg (fun k e => by omega)
        have hne1 : ¬ (g = W.heap.size) := by omega
        have hne2 : ¬ (W.heap.size = g) := by omega
        have hne3 : W.heap.size < P := by omega
        obtain ⟨y0, y1, y2, y3, y4, y5, yf⟩ := blk6 hSK.hX
        obtain ⟨z0, z1, z2, z3, z4, z5, zf⟩ := blk6 hSK.ps.hz
        obtain ⟨e5, e6⟩ := rfs_bad hSK.ps.st
        have HSK := Lib.hid hSK; have HRK := Lib.hid hrk
        clear hO hQ hSK hrk hPV
        unfold tkVal
        by_cases hk0 : SK.err = 0
        · have hbk : (SK.err != 0) = false := by rw [bne_eq_false_iff_eq]; exact hk0
          have HVV : Hid (parseLV s = ((⟨ta.text, f, dv, l⟩ : Po), (0, 0))) := Lib.hid (by rw [HPL2.out]; exact if_pos hk0)
          clear hk0
          go_wp2
          have hb6 := blk_sets6 HSK.out.ps.hz (.string ta.text) (.int .i64 f.f0) (.int .u64 f.f1) (.int .i64 dv.f0) (.int .u64 dv.f1) (.slice A l.length c)
          obtain ⟨r0, r1, r2, r3, r4, r5, rf⟩ := blk6 hb6
          have hcB : Chg (fun k => k = W.heap.size) WK _ := (Chg.refl (fun k => k = W.heap.size) WK).sets6' W.heap.size (fun k e => e) (.string ta.text) (.int .i64 f.f0) (.int .u64 f.f1) (.int .i64 dv.f0) (.int .u64 dv.f1) (.slice A l.length c)
          refine bodyPost_ret (v := .tuple #[poAgg ⟨ta.text, f, dv, l⟩ (.slice A l.length c), .int .i64 0, .int .i64 0]) (by simp [results, Tryz.results9, go_sem, r0, r1, r2, r3, r4, r5]) rfl ?_
          rw [HVV.out]
          exact ⟨⟨_, rfl, (HRK.out.chg hcB (fun k e => by omega)).lower (by omega)⟩, HSK.out.ps.bel.trans (hcB.below HSK.out.ps.bel.size (fun k e => by omega))⟩
        · have hbk : (SK.err != 0) = true := by rw [bne_iff_ne]; exact hk0
          have HVV : Hid (parseLV s = (zPo, (SK.err, SK.bad))) := Lib.hid (by rw [HPL2.out]; exact if_neg hk0)
          clear hk0
          go_wp2
          go_region
          all_goals go_wp2
          all_goals
            have hb6 := blk_sets6 HSK.out.ps.hz (.string ⟨#[]⟩) (.int .i64 0) (.int .u64 0) (.int .i64 0) (.int .u64 0) (.slice none 0 0)
            obtain ⟨r0, r1, r2, r3, r4, r5, rf⟩ := blk6 hb6
            have hcB : Chg (fun k => k = W.heap.size) WK _ := (Chg.refl (fun k => k = W.heap.size) WK).sets6' W.heap.size (fun k e => e) (.string ⟨#[]⟩) (.int .i64 0) (.int .u64 0) (.int .i64 0) (.int .u64 0) (.slice none 0 0)
            refine bodyPost_ret (v := .tuple #[poAgg zPo (.slice none 0 0), .int .i64 SK.err, .int .i64 SK.bad]) (by simp [results, Tryz.results9, go_sem, r0, r1, r2, r3, r4, r5, zPo, zVd, nil0, poAgg]) rfl ?_
            rw [HVV.out]
            exact ⟨⟨_, rfl, Kd.R_nil _ _ _ _ _⟩, (HSK.out.ps.bel.trans (hcB.below HSK.out.ps.bel.size (fun k e => by omega))).drew⟩
      | true =>
        have hIt' : S6.M.length + 1 = S5.M.length := hIt rfl
        have hpl' : S5.M = S4.M := hpl
        have hpl2 : S5.M.length = S4.M.length := by rw [hpl']
        clear hIt hpl hpl'
        by_cases h5 : l.length = 512
        · have hb5 : ((l.length : Int) == 512) = true := by rw [beq_iff_eq]; omega
          have HV : Hid (rulesL ep (S9.M.length + 1) [] S9 = (l, failsL 63 tp.at_ S6)) := Lib.hid (by rw [HT.out, HUN3.out, if_pos rfl, if_pos h5])
          clear HT HUN3 h5
          go_wp2_with fail
          refine HPK.out.mono ?_
          rintro e W5 ⟨rfl, hO⟩
          have HS5 := Lib.hid ((HS4.out.step hO).below ((Below.refl _ _).alloc (Nat.le_refl _) (tokBox tp)))
          have HROW5 := Lib.hid ((HROW.out.chg hO.chg (fun k e => by omega)).chg (Chg.of_alloc W5 (tokBox tp) (fun k => k = g)) (fun k e => by omega))
          have HTB : Hid ((W5.alloc (tokBox tp)).heap[W5.heap.size]? = some (.cells #[.int .i64 tp.kind, .string tp.text, .int .u64 tp.num, .int .i64 tp.at_] 59 (0, 0))) := Lib.hid (new_blk W5 _ _)
          have hg5 : g < W5.heap.size := hO.st.lt
          clear hO HPK
          unfold tkVal
          go_wp2_with fail
          refine (HIS.out _ HS5.out.ps.st).mono ?_
          rintro e W6 ⟨rfl, hO⟩
          have HS6' := Lib.hid (HS5.out.step hO)
          have HROW6' := Lib.hid (HROW5.out.chg hO.chg (fun k e => by omega))
          obtain ⟨q0, q1, q2, q3, qf⟩ := blk4 (chg_block hO.chg HTB.out (by omega))
          obtain ⟨y0, y1, y2, y3, y4, y5, yf⟩ := blk6 HS6'.out.hX
          clear hO HS5 HROW5 HIS HTB
          go_wp2_with fail
          refine (fails_any g L ep 0 S6 63 tp.at_ W6 HS6'.out.ps.st).mono ?_
          rintro e W7 ⟨rfl, hO⟩
          have HS6 := Lib.hid (HS6'.out.step hO)
          have HROW6 := Lib.hid (HROW6'.out.chg hO.chg (fun k e => by omega))
          clear hO HS6' HROW6' q0 q1 q2 q3 qf y0 y1 y2 y3 y4 y5 yf hb5
          go_wp2_with fail
          refine (kind_ref g L ep 0 1 (failsL 63 tp.at_ S6) _ (fails_fin (by decide)) HS6.out.ps.st).mono ?_
          rintro e WK ⟨rfl, hO⟩
          have hPV : policyL ep S0 = ((⟨ta.text, f, dv, l⟩ : Po), (failsL 63 tp.at_ S6)) := by rw [HR9.out, HV.out]
          obtain ⟨tq, SK, hQ⟩ : ∃ tq SK, kindL ep 1 ((failsL 63 tp.at_ S6)) = (tq, SK) := ⟨_, _, rfl⟩
          rw [hQ] at hO ⊢
          have HPL2 : Hid (parseLV s = if SK.err = 0 then ((⟨ta.text, f, dv, l⟩ : Po), (0, 0)) else (zPo, (SK.err, SK.bad))) := Lib.hid (by rw [HPL.out, hPV]; show (if (kindL ep 1 ((failsL 63 tp.at_ S6))).2.err = 0 then _ else (zPo, ((kindL ep 1 ((failsL 63 tp.at_ S6))).2.err, (kindL ep 1 ((failsL 63 tp.at_ S6))).2.bad))) = _; rw [hQ])
          have hSK := HS6.out.step hO
          have hrk := HROW6.out.chg hO.chg (fun k e => by omega)
          have hne1 : ¬ (g = W.heap.size) := by omega
          have hne2 : ¬ (W.heap.size = g) := by omega
          have hne3 : W.heap.size < P := by omega
          obtain ⟨y0, y1, y2, y3, y4, y5, yf⟩ := blk6 hSK.hX
          obtain ⟨z0, z1, z2, z3, z4, z5, zf⟩ := blk6 hSK.ps.hz
          obtain ⟨e5, e6⟩ := rfs_bad hSK.ps.st
          have HSK := Lib.hid hSK; have HRK := Lib.hid hrk
          clear hO hQ hSK hrk hPV
          unfold tkVal
          by_cases hk0 : SK.err = 0
          · have hbk : (SK.err != 0) = false := by rw [bne_eq_false_iff_eq]; exact hk0
            have HVV : Hid (parseLV s = ((⟨ta.text, f, dv, l⟩ : Po), (0, 0))) := Lib.hid (by rw [HPL2.out]; exact if_pos hk0)
            clear hk0
            go_wp2
            have hb6 := blk_sets6 HSK.out.ps.hz (.string ta.text) (.int .i64 f.f0) (.int .u64 f.f1) (.int .i64 dv.f0) (.int .u64 dv.f1) (.slice A l.length c)
            obtain ⟨r0, r1, r2, r3, r4, r5, rf⟩ := blk6 hb6
            have hcB : Chg (fun k => k = W.heap.size) WK _ := (Chg.refl (fun k => k = W.heap.size) WK).sets6' W.heap.size (fun k e => e) (.string ta.text) (.int .i64 f.f0) (.int .u64 f.f1) (.int .i64 dv.f0) (.int .u64 dv.f1) (.slice A l.length c)
            refine bodyPost_ret (v := .tuple #[poAgg ⟨ta.text, f, dv, l⟩ (.slice A l.length c), .int .i64 0, .int .i64 0]) (by simp [results, Tryz.results9, go_sem, r0, r1, r2, r3, r4, r5]) rfl ?_
            rw [HVV.out]
            exact ⟨⟨_, rfl, (HRK.out.chg hcB (fun k e => by omega)).lower (by omega)⟩, HSK.out.ps.bel.trans (hcB.below HSK.out.ps.bel.size (fun k e => by omega))⟩
          · have hbk : (SK.err != 0) = true := by rw [bne_iff_ne]; exact hk0
            have HVV : Hid (parseLV s = (zPo, (SK.err, SK.bad))) := Lib.hid (by rw [HPL2.out]; exact if_neg hk0)
            clear hk0
            go_wp2
            go_region
            all_goals go_wp2
            all_goals
              have hb6 := blk_sets6 HSK.out.ps.hz (.string ⟨#[]⟩) (.int .i64 0) (.int .u64 0) (.int .i64 0) (.int .u64 0) (.slice none 0 0)
              obtain ⟨r0, r1, r2, r3, r4, r5, rf⟩ := blk6 hb6
              have hcB : Chg (fun k => k = W.heap.size) WK _ := (Chg.refl (fun k => k = W.heap.size) WK).sets6' W.heap.size (fun k e => e) (.string ⟨#[]⟩) (.int .i64 0) (.int .u64 0) (.int .i64 0) (.int .u64 0) (.slice none 0 0)
              refine bodyPost_ret (v := .tuple #[poAgg zPo (.slice none 0 0), .int .i64 SK.err, .int .i64 SK.bad]) (by simp [results, Tryz.results9, go_sem, r0, r1, r2, r3, r4, r5, zPo, zVd, nil0, poAgg]) rfl ?_
              rw [HVV.out]
              exact ⟨⟨_, rfl, Kd.R_nil _ _ _ _ _⟩, (HSK.out.ps.bel.trans (hcB.below HSK.out.ps.bel.size (fun k e => by omega))).drew⟩
        have hb5 : ((l.length : Int) == 512) = false := by rw [beq_eq_false_iff_ne]; omega
        have HUN4 : Hid (rulesL ep (n + 1) l S4 = rulesL ep n (l ++ [(ruleL ep S6).1]) (ruleL ep S6).2) := Lib.hid (by rw [HUN3.out, if_pos rfl, if_neg h5])
        clear HUN3
        go_wp2_with fail
        refine HPK.out.mono ?_
        rintro e W5 ⟨rfl, hO⟩
        have HS5 := Lib.hid ((HS4.out.step hO).below ((Below.refl _ _).alloc (Nat.le_refl _) (tokBox tp)))
        have HROW5 := Lib.hid ((HROW.out.chg hO.chg (fun k e => by omega)).chg (Chg.of_alloc W5 (tokBox tp) (fun k => k = g)) (fun k e => by omega))
        clear hO HPK
        unfold tkVal
        go_wp2_with fail
        refine (HIS.out _ HS5.out.ps.st).mono ?_
        rintro e W6 ⟨rfl, hO⟩
        have hS6 := HS5.out.step hO
        have hrow6 := HROW5.out.chg hO.chg (fun k e => by omega)
        have hdr : Below W6.heap.size W6 W6.drew := (Below.refl _ _).drew
        have hS6d := hS6.below hdr
        have HRU := Lib.hid (rule_ref g L ep S6 W6.drew HF6.out hS6d.ps.st)
        have HS6 := Lib.hid hS6d; have HROW6 := Lib.hid (hrow6.chg (Chg.of_below hdr (fun k => k = g)) (fun k e => by omega))
        have hFr := rule_fin HF6.out
        have hlr := rule_len ep S6
        obtain ⟨y, S8, hP⟩ : ∃ y S8, ruleL ep S6 = (y, S8) := ⟨_, _, rfl⟩
        rw [hP] at HRU hFr hlr
        have HUN5 : Hid (rulesL ep (n + 1) l S4 = rulesL ep n (l ++ [y]) S8) := Lib.hid (by rw [HUN4.out, hP])
        have HF8 := Lib.hid hFr
        have hlr' : S8.M.length ≤ S6.M.length := hlr
        obtain ⟨x0, x1, x2, x3, x4, x5, xf⟩ := blk6 hS6.hX
        have hPl6 := hS6.lt
        have hszd : W6.drew.heap.size = W6.heap.size := rfl
        clear hO HS5 HROW5 HIS hS6 hrow6 hdr hS6d hFr hlr hP HUN4
        go_wp2_with fail
        go_region_law (first
          | (refine Kd.R_append_step kRl (w0 := W7) (W := W7) (P + 1) (by rfl) (.tmp 53) (.tmp 56) 27 70 (.agg #[.slice none 0 0, .int .i64 0, .slice none 0 0, .int .i64 0, .int .u64 0, .int .i64 0, .int .u64 0, .int .i64 0, .int .u64 0]) 104 rfl Tryz.underlying27 infoRl rfl (by decide) (by decide) (.slice A l.length c) l y (rlCells y (.slice A7 y.f0.length c7) (.slice B7 y.f1.f1.length d7)) (fun _ => True) (fun k => W6.heap.size ≤ k ∧ k < W7.heap.size) (by first | rfl | (go_simp; done)) (by first | rfl | (go_simp; done)) HMADE.out (fun k hk => ⟨trivial, fun e => Nat.lt_irrefl k (Nat.lt_of_lt_of_le (HVLT.out k e.symm) hk.1)⟩) (fun _ _ => trivial) HROW7.out (Below.refl _ _) (by omega) (by omega) ?_; intro v8 w8 hO8 hb8 hg8 hat8
             obtain ⟨A8, c8, rfl⟩ := Kd.R_slice hO8
             have HS8 := Lib.hid (HS7.out.belowB hb8); have HO8 : Hid (RlRow w8 (P + 1) (.slice A8 (l ++ [y]).length c8) (l ++ [y])) := Lib.hid hO8; clear hO8 hb8 hg8 hat8
             obtain ⟨w0', w1', w2', w3', w4', w5', wf'⟩ := blk6 HS8.out.hX)
          | (go_simp; go_at_call 32; refine HRU.out.mono ?_; rintro e W7 ⟨vc, v1, rfl, hcl, hex, hO7⟩
             obtain ⟨A7, c7, rfl⟩ := Kd.R_slice hcl; obtain ⟨B7, d7, rfl⟩ := Kd.R_slice hex
             have hs7 := hO7.chg.size
             have HS7 := Lib.hid (HS6.out.step hO7); have HROW7 := Lib.hid (HROW6.out.chg hO7.chg (fun k e => by omega))
             have HMADE := Lib.hid (rl_made (base := P + 1) hcl hex (by omega))
             have HVLT : Hid (∀ k, (Value.slice A l.length c).ownBlock = some k → k < W6.heap.size) := Lib.hid (fun k hk => (by obtain ⟨inner, ho⟩ := Kd.R_own HROW6.out; exact own_lt ho k hk))
             obtain ⟨z0, z1, z2, z3, z4, z5, zf⟩ := blk6 HS7.out.hX
             obtain ⟨t0, t1, t2, t3, t4, t5, tf⟩ := blk6 (blk_past (.cells (rlCells y (.slice A7 y.f0.length c7) (.slice B7 y.f1.f1.length d7)).toArray 70) HS7.out.hX)
             clear hcl hex hO7
             unfold rlAgg))
        all_goals
          have hlen1 : (l ++ [y]).length = l.length + 1 := by simp
          rw [hlen1] at HO8
          have hset := Chg.of_set w8 P 5 (.slice A8 (l.length + 1) c8)
          have HS9' := Lib.hid (HS8.out.set5 (.slice A8 (l.length + 1) c8))
          have HO9 := Lib.hid (HO8.out.chg hset (fun k e => by omega))
          clear hset
          go_wp2
          go_roundg n
          case measure => omega
          case rel => exact ⟨l ++ [y], S8, _, Lib.hid (by rw [HT.out, HUN5.out]), by omega, by simp; omega, HO9, HS9', HF8⟩
    · have hb0 : (S4.err == 0) = false := by rw [beq_eq_false_iff_ne]; exact h0
      have HV : Hid (rulesL ep (S9.M.length + 1) [] S9 = (l, S4)) := Lib.hid (by rw [HT.out, HUN.out, if_neg h0])
      clear HT HUN h0
      go_wp2_with fail
      refine (kind_ref g L ep 0 1 S4 _ HF4.out HS4.out.ps.st).mono ?_
      rintro e WK ⟨rfl, hO⟩
      have hPV : policyL ep S0 = ((⟨ta.text, f, dv, l⟩ : Po), S4) := by rw [HR9.out, HV.out]
      obtain ⟨tq, SK, hQ⟩ : ∃ tq SK, kindL ep 1 (S4) = (tq, SK) := ⟨_, _, rfl⟩
      rw [hQ] at hO ⊢
      have HPL2 : Hid (parseLV s = if SK.err = 0 then ((⟨ta.text, f, dv, l⟩ : Po), (0, 0)) else (zPo, (SK.err, SK.bad))) := Lib.hid (by rw [HPL.out, hPV]; show (if (kindL ep 1 (S4)).2.err = 0 then _ else (zPo, ((kindL ep 1 (S4)).2.err, (kindL ep 1 (S4)).2.bad))) = _; rw [hQ])
      have hSK := HS4.out.step hO
      have hrk := HROW.out.chg hO.chg (fun k e => by omega)
      have hne1 : ¬ (g = W.heap.size) := by omega
      have hne2 : ¬ (W.heap.size = g) := by omega
      have hne3 : W.heap.size < P := by omega
      obtain ⟨y0, y1, y2, y3, y4, y5, yf⟩ := blk6 hSK.hX
      obtain ⟨z0, z1, z2, z3, z4, z5, zf⟩ := blk6 hSK.ps.hz
      obtain ⟨e5, e6⟩ := rfs_bad hSK.ps.st
      have HSK := Lib.hid hSK; have HRK := Lib.hid hrk
      clear hO hQ hSK hrk hPV
      unfold tkVal
      by_cases hk0 : SK.err = 0
      · have hbk : (SK.err != 0) = false := by rw [bne_eq_false_iff_eq]; exact hk0
        have HVV : Hid (parseLV s = ((⟨ta.text, f, dv, l⟩ : Po), (0, 0))) := Lib.hid (by rw [HPL2.out]; exact if_pos hk0)
        clear hk0
        go_wp2
        have hb6 := blk_sets6 HSK.out.ps.hz (.string ta.text) (.int .i64 f.f0) (.int .u64 f.f1) (.int .i64 dv.f0) (.int .u64 dv.f1) (.slice A l.length c)
        obtain ⟨r0, r1, r2, r3, r4, r5, rf⟩ := blk6 hb6
        have hcB : Chg (fun k => k = W.heap.size) WK _ := (Chg.refl (fun k => k = W.heap.size) WK).sets6' W.heap.size (fun k e => e) (.string ta.text) (.int .i64 f.f0) (.int .u64 f.f1) (.int .i64 dv.f0) (.int .u64 dv.f1) (.slice A l.length c)
        refine bodyPost_ret (v := .tuple #[poAgg ⟨ta.text, f, dv, l⟩ (.slice A l.length c), .int .i64 0, .int .i64 0]) (by simp [results, Tryz.results9, go_sem, r0, r1, r2, r3, r4, r5]) rfl ?_
        rw [HVV.out]
        exact ⟨⟨_, rfl, (HRK.out.chg hcB (fun k e => by omega)).lower (by omega)⟩, HSK.out.ps.bel.trans (hcB.below HSK.out.ps.bel.size (fun k e => by omega))⟩
      · have hbk : (SK.err != 0) = true := by rw [bne_iff_ne]; exact hk0
        have HVV : Hid (parseLV s = (zPo, (SK.err, SK.bad))) := Lib.hid (by rw [HPL2.out]; exact if_neg hk0)
        clear hk0
        go_wp2
        go_region
        all_goals go_wp2
        all_goals
          have hb6 := blk_sets6 HSK.out.ps.hz (.string ⟨#[]⟩) (.int .i64 0) (.int .u64 0) (.int .i64 0) (.int .u64 0) (.slice none 0 0)
          obtain ⟨r0, r1, r2, r3, r4, r5, rf⟩ := blk6 hb6
          have hcB : Chg (fun k => k = W.heap.size) WK _ := (Chg.refl (fun k => k = W.heap.size) WK).sets6' W.heap.size (fun k e => e) (.string ⟨#[]⟩) (.int .i64 0) (.int .u64 0) (.int .i64 0) (.int .u64 0) (.slice none 0 0)
          refine bodyPost_ret (v := .tuple #[poAgg zPo (.slice none 0 0), .int .i64 SK.err, .int .i64 SK.bad]) (by simp [results, Tryz.results9, go_sem, r0, r1, r2, r3, r4, r5, zPo, zVd, nil0, poAgg]) rfl ?_
          rw [HVV.out]
          exact ⟨⟨_, rfl, Kd.R_nil _ _ _ _ _⟩, (HSK.out.ps.bel.trans (hcB.below HSK.out.ps.bel.size (fun k e => by omega))).drew⟩
end Go.Proofs.YtlmopoipjolbgaaGreatDoor.LexW
