/-
  Layer 6 (policy): a rule. · Layer 6 (policy): tried: a reader that gives up is caught. · Layer 6 (policy): ParseExpr. · The walk of ravelinlaw06.lives.
-/
import Derived.Test.YtlmopoipjolbgaaGreatDoorM08
import Derived.Defers
import Derived.Recover
import Derived.Test.YtlmopoipjolbgaaGreatDoorM05
namespace Go.Proofs.YtlmopoipjolbgaaGreatDoor.LexW
open Go.RowKit Go.Shelf Go.Proofs.YtlmopoipjolbgaaGreatDoor.LexS Go.Proofs.YtlmopoipjolbgaaGreatDoorW.PrintWords
set_option linter.unusedVariables false
set_option linter.unusedSimpArgs false

theorem comma_any (s : ByteArray) (ep : EP) (g b : Nat) (L : List Tk) (d : Int) (w0 W : World) (hO : Okw w0 g W) (hR : Rdr s ep g L d W) (hH : Held W b g) :
    Calls Tryz.prog 86 #[.pointer (some ⟨b, 0, none⟩)] W (Outs g W (maybeP ep sComma L) (BoolOut s ep g d)) := by
  have hc := hH.cell
  have HM := Lib.hid (maybe_any s ep g L d sComma w0 W hO hR)
  clear hO hR hH
  rcases hm : maybeP ep sComma L with p | p
  · rw [hm] at HM
    clear hm
    go_enter Tryz.func86, Tryz.ntmps86
    go_wp2_with fail
    refine HM.out.mono ?_
    rintro e W2 h
    obtain ⟨rfl, hc⟩ := h.err rfl
    go_wp2
    exact ⟨rfl, Outs.mk_err rfl rfl hc⟩
  · rw [hm] at HM
    clear hm
    go_enter Tryz.func86, Tryz.ntmps86
    go_wp2_with fail
    refine HM.out.mono ?_
    rintro e W2 h
    obtain ⟨⟨rfl, hR'⟩, hc⟩ := h.ok rfl
    have HR := Lib.hid hR'; have HC := Lib.hid hc; clear hR' hc
    go_wp2
    go_ret
    exact Outs.mk_ok rfl ⟨rfl, HR.out⟩ HC.out
theorem enters_call : Enters Tryz.prog 85 := enters_of Tryz.func85 (by kernel_rfl) rfl
theorem enters_comma : Enters Tryz.prog 86 := enters_of Tryz.func86 (by kernel_rfl) rfl

abbrev rlZero : Obj := .cells #[.slice none 0 0, .int .i64 0, .slice none 0 0, .int .i64 0, .int .u64 0, .int .i64 0, .int .u64 0, .int .i64 0, .int .u64 0] 70
abbrev rlInit : Obj := .cells #[.slice none 0 0, .int .i64 1, .slice none 0 0, .int .i64 0, .int .u64 0, .int .i64 0, .int .u64 0, .int .i64 0, .int .u64 0] 70
abbrev rlAgg (x : Rl) (vc v1 : Value) : Value := .agg #[vc, .int .i64 x.f1.f0, v1, .int .i64 x.f1.f2, .int .u64 x.f1.f3, .int .i64 x.f1.f4, .int .u64 x.f1.f5, .int .i64 x.f2.f0, .int .u64 x.f2.f1]
theorem blk9 {W : World} {b : Nat} {v0 v1 v2 v3 v4 v5 v6 v7 v8 : Value} {t : TypeId} (h : W.heap[b]? = some (.cells #[v0, v1, v2, v3, v4, v5, v6, v7, v8] t (0, 0))) : W.cell? ⟨b, 0, none⟩ = some v0 ∧ W.cell? ⟨b, 1, none⟩ = some v1 ∧ W.cell? ⟨b, 2, none⟩ = some v2 ∧ W.cell? ⟨b, 3, none⟩ = some v3 ∧ W.cell? ⟨b, 4, none⟩ = some v4 ∧ W.cell? ⟨b, 5, none⟩ = some v5 ∧ W.cell? ⟨b, 6, none⟩ = some v6 ∧ W.cell? ⟨b, 7, none⟩ = some v7 ∧ W.cell? ⟨b, 8, none⟩ = some v8 ∧ ∀ j, W.frozen? ⟨b, j, none⟩ = false := by
  refine ⟨?_, ?_, ?_, ?_, ?_, ?_, ?_, ?_, ?_, fun j => ?_⟩ <;> simp [World.cell?, World.frozen?, h]
/-- the world in which a rule is read -/
abbrev ruleW (W : World) (g : Nat) : World := ((W.alloc (.cells #[.pointer (some ⟨g, 0, none⟩)] 51)).alloc rlZero).alloc rlInit
/-- on the way -/
structure RlSt (s : ByteArray) (ep : EP) (g : Nat) (d : Int) (W Wi : World) (L : List Tk) (cs : Array Value) : Prop where
  rd : Rdr s ep g L d Wi
  chg : Chg (fun k => k = g) W Wi
  hB : Wi.heap[W.heap.size + 1]? = some (.cells #[.slice none 0 0, .int .i64 0, .slice none 0 0, .int .i64 0, .int .u64 0, .int .i64 0, .int .u64 0, .int .i64 0, .int .u64 0] 70 (0, 0))
  hX : Wi.heap[W.heap.size + 1 + 1]? = some (.cells cs 70 (0, 0))
  held : Held Wi W.heap.size g
theorem RlSt.lt {s : ByteArray} {ep : EP} {g : Nat} {d : Int} {W Wi : World} {L : List Tk} {cs : Array Value} (h : RlSt s ep g d W Wi L cs) : W.heap.size + 1 + 1 < Wi.heap.size := (Array.getElem?_eq_some_iff.1 h.hX).1
theorem RlSt.next {s : ByteArray} {ep : EP} {g : Nat} {d : Int} {W Wi Wj : World} {L L' : List Tk} {cs : Array Value} (h : RlSt s ep g d W Wi L cs) (hg : g < W.heap.size) (hc : Chg (fun k => k = g) Wi Wj) (hR : Rdr s ep g L' d Wj) : RlSt s ep g d W Wj L' cs :=
  ⟨hR, h.chg.trans hc (fun k e => .inl e), chg_block hc h.hB (by omega), chg_block hc h.hX (by omega), h.held.chg hc (by omega)⟩
theorem RlSt.set {s : ByteArray} {ep : EP} {g : Nat} {d : Int} {W Wi : World} {L : List Tk} {cs : Array Value} (h : RlSt s ep g d W Wi L cs) (hg : g < W.heap.size) (j : Nat) (v : Value) : RlSt s ep g d W (Wi.setCell ⟨W.heap.size + 1 + 1, j, none⟩ v) L (cs.setIfInBounds j v) :=
  ⟨h.rd.far _ j (by omega) v, h.chg.set1 (W.heap.size + 1 + 1) j (by omega) v, (Below.heap_setCell Wi ⟨W.heap.size + 1 + 1, j, none⟩ v (W.heap.size + 1) (by show W.heap.size + 1 ≠ W.heap.size + 1 + 1; omega)).trans h.hB, blk_set h.hX j v,
    (Below.heap_setCell Wi ⟨W.heap.size + 1 + 1, j, none⟩ v W.heap.size (by show W.heap.size ≠ W.heap.size + 1 + 1; omega)).trans h.held⟩
theorem RlSt.set0 {s : ByteArray} {ep : EP} {g : Nat} {d : Int} {W Wi : World} {L : List Tk} {v0 v1 v2 v3 v4 v5 v6 v7 v8 : Value} (h : RlSt s ep g d W Wi L #[v0, v1, v2, v3, v4, v5, v6, v7, v8]) (hg : g < W.heap.size) (u : Value) :
    RlSt s ep g d W (Wi.setCell ⟨W.heap.size + 1 + 1, 0, none⟩ u) L #[u, v1, v2, v3, v4, v5, v6, v7, v8] := h.set hg 0 u
theorem RlSt.set16 {s : ByteArray} {ep : EP} {g : Nat} {d : Int} {W Wi : World} {L : List Tk} {v0 v1 v2 v3 v4 v5 v6 v7 v8 : Value} (h : RlSt s ep g d W Wi L #[v0, v1, v2, v3, v4, v5, v6, v7, v8]) (hg : g < W.heap.size) (a1 a2 a3 a4 a5 a6 : Value) :
    RlSt s ep g d W ((((((Wi.setCell ⟨W.heap.size + 1 + 1, 1, none⟩ a1).setCell ⟨W.heap.size + 1 + 1, 2, none⟩ a2).setCell ⟨W.heap.size + 1 + 1, 3, none⟩ a3).setCell ⟨W.heap.size + 1 + 1, 4, none⟩ a4).setCell ⟨W.heap.size + 1 + 1, 5, none⟩ a5).setCell ⟨W.heap.size + 1 + 1, 6, none⟩ a6) L #[v0, a1, a2, a3, a4, a5, a6, v7, v8] :=
  (((((h.set hg 1 a1).set hg 2 a2).set hg 3 a3).set hg 4 a4).set hg 5 a5).set hg 6 a6
theorem RlSt.set78 {s : ByteArray} {ep : EP} {g : Nat} {d : Int} {W Wi : World} {L : List Tk} {v0 v1 v2 v3 v4 v5 v6 v7 v8 : Value} (h : RlSt s ep g d W Wi L #[v0, v1, v2, v3, v4, v5, v6, v7, v8]) (hg : g < W.heap.size) (a7 a8 : Value) :
    RlSt s ep g d W ((Wi.setCell ⟨W.heap.size + 1 + 1, 7, none⟩ a7).setCell ⟨W.heap.size + 1 + 1, 8, none⟩ a8) L #[v0, v1, v2, v3, v4, v5, v6, a7, a8] := (h.set hg 7 a7).set hg 8 a8
theorem ruleW_st {s : ByteArray} {ep : EP} {g : Nat} {d : Int} {W : World} {L : List Tk} (hR : Rdr s ep g L d W) : RlSt s ep g d W (ruleW W g) L #[.slice none 0 0, .int .i64 1, .slice none 0 0, .int .i64 0, .int .u64 0, .int .i64 0, .int .u64 0, .int .i64 0, .int .u64 0] := by
  have hb : Below W.heap.size W (ruleW W g) := (((Below.refl W.heap.size W).alloc (Nat.le_refl _) _).alloc (by simp) _).alloc (by simp; omega) _
  exact ⟨hR.below hb, Chg.of_below hb _, blk_past _ (new_blk' (by simp) _ _), new_blk' (by simp) _ _, blk_past _ (blk_past _ (new_blk W _ _))⟩

theorem sets9 {W : World} {b : Nat} {u0 u1 u2 u3 u4 u5 u6 u7 u8 : Value} {t : TypeId} (h : W.heap[b]? = some (.cells #[u0, u1, u2, u3, u4, u5, u6, u7, u8] t (0, 0))) (a0 a1 a2 a3 a4 a5 a6 a7 a8 : Value) :
    (((((((((W.setCell ⟨b, 0, none⟩ a0).setCell ⟨b, 1, none⟩ a1).setCell ⟨b, 2, none⟩ a2).setCell ⟨b, 3, none⟩ a3).setCell ⟨b, 4, none⟩ a4).setCell ⟨b, 5, none⟩ a5).setCell ⟨b, 6, none⟩ a6).setCell ⟨b, 7, none⟩ a7).setCell ⟨b, 8, none⟩ a8).heap[b]? = some (.cells #[a0, a1, a2, a3, a4, a5, a6, a7, a8] t (0, 0)) ∧ Chg (fun k => k = b) W (((((((((W.setCell ⟨b, 0, none⟩ a0).setCell ⟨b, 1, none⟩ a1).setCell ⟨b, 2, none⟩ a2).setCell ⟨b, 3, none⟩ a3).setCell ⟨b, 4, none⟩ a4).setCell ⟨b, 5, none⟩ a5).setCell ⟨b, 6, none⟩ a6).setCell ⟨b, 7, none⟩ a7).setCell ⟨b, 8, none⟩ a8) := by
  have h0 := h
  have h1 : (W.setCell ⟨b, 0, none⟩ a0).heap[b]? = some (.cells #[a0, u1, u2, u3, u4, u5, u6, u7, u8] t (0, 0)) := blk_set h0 0 a0
  have h2 : ((W.setCell ⟨b, 0, none⟩ a0).setCell ⟨b, 1, none⟩ a1).heap[b]? = some (.cells #[a0, a1, u2, u3, u4, u5, u6, u7, u8] t (0, 0)) := blk_set h1 1 a1
  have h3 : (((W.setCell ⟨b, 0, none⟩ a0).setCell ⟨b, 1, none⟩ a1).setCell ⟨b, 2, none⟩ a2).heap[b]? = some (.cells #[a0, a1, a2, u3, u4, u5, u6, u7, u8] t (0, 0)) := blk_set h2 2 a2
  have h4 : ((((W.setCell ⟨b, 0, none⟩ a0).setCell ⟨b, 1, none⟩ a1).setCell ⟨b, 2, none⟩ a2).setCell ⟨b, 3, none⟩ a3).heap[b]? = some (.cells #[a0, a1, a2, a3, u4, u5, u6, u7, u8] t (0, 0)) := blk_set h3 3 a3
  have h5 : (((((W.setCell ⟨b, 0, none⟩ a0).setCell ⟨b, 1, none⟩ a1).setCell ⟨b, 2, none⟩ a2).setCell ⟨b, 3, none⟩ a3).setCell ⟨b, 4, none⟩ a4).heap[b]? = some (.cells #[a0, a1, a2, a3, a4, u5, u6, u7, u8] t (0, 0)) := blk_set h4 4 a4
  have h6 : ((((((W.setCell ⟨b, 0, none⟩ a0).setCell ⟨b, 1, none⟩ a1).setCell ⟨b, 2, none⟩ a2).setCell ⟨b, 3, none⟩ a3).setCell ⟨b, 4, none⟩ a4).setCell ⟨b, 5, none⟩ a5).heap[b]? = some (.cells #[a0, a1, a2, a3, a4, a5, u6, u7, u8] t (0, 0)) := blk_set h5 5 a5
  have h7 : (((((((W.setCell ⟨b, 0, none⟩ a0).setCell ⟨b, 1, none⟩ a1).setCell ⟨b, 2, none⟩ a2).setCell ⟨b, 3, none⟩ a3).setCell ⟨b, 4, none⟩ a4).setCell ⟨b, 5, none⟩ a5).setCell ⟨b, 6, none⟩ a6).heap[b]? = some (.cells #[a0, a1, a2, a3, a4, a5, a6, u7, u8] t (0, 0)) := blk_set h6 6 a6
  have h8 : ((((((((W.setCell ⟨b, 0, none⟩ a0).setCell ⟨b, 1, none⟩ a1).setCell ⟨b, 2, none⟩ a2).setCell ⟨b, 3, none⟩ a3).setCell ⟨b, 4, none⟩ a4).setCell ⟨b, 5, none⟩ a5).setCell ⟨b, 6, none⟩ a6).setCell ⟨b, 7, none⟩ a7).heap[b]? = some (.cells #[a0, a1, a2, a3, a4, a5, a6, a7, u8] t (0, 0)) := blk_set h7 7 a7
  have h9 : (((((((((W.setCell ⟨b, 0, none⟩ a0).setCell ⟨b, 1, none⟩ a1).setCell ⟨b, 2, none⟩ a2).setCell ⟨b, 3, none⟩ a3).setCell ⟨b, 4, none⟩ a4).setCell ⟨b, 5, none⟩ a5).setCell ⟨b, 6, none⟩ a6).setCell ⟨b, 7, none⟩ a7).setCell ⟨b, 8, none⟩ a8).heap[b]? = some (.cells #[a0, a1, a2, a3, a4, a5, a6, a7, a8] t (0, 0)) := blk_set h8 8 a8
  exact ⟨h9, (((Chg.refl (fun k => k = b) W).sets6' b (fun k e => e) a0 a1 a2 a3 a4 a5).trans (Chg.of_set _ b 6 a6) (fun k e => .inl e)).trans ((Chg.of_set _ b 7 a7).trans (Chg.of_set _ b 8 a8) (fun k e => .inl e)) (fun k e => .inl e)⟩
theorem Rdr.chgd {S : Nat → Prop} {s : ByteArray} {ep : EP} {g : Nat} {L : List Tk} {d : Int} {W W' : World} (h : Rdr s ep g L d W) (hc : Chg S W W') (hn : ¬ S g) : Rdr s ep g L d W' := let ⟨t, e, hB, hA⟩ := h; ⟨t, e, chg_block hc hB hn, hA⟩
def RlOut (s : ByteArray) (ep : EP) (g : Nat) (d : Int) (base : Nat) (p : Rl × List Tk) (e : Ending) (W' : World) : Prop := ∃ vc v1, e = .returned (rlAgg p.1 vc v1) ∧ ClRow W' base vc p.1.f0 ∧ ExRow W' base v1 p.1.f1.f1 ∧ Rdr s ep g p.2 d W'

set_option maxRecDepth 100000 in
set_option maxHeartbeats 2000000 in
theorem rule_any (s : ByteArray) (ep : EP) (g : Nat) (L : List Tk) (w0 W : World) (hL : L.length ≤ 65537) (hO : Okw w0 g W) (hR : Rdr s ep g L 0 W) :
    Calls Tryz.prog 61 #[.pointer (some ⟨g, 0, none⟩)] W (Outs g W (ruleP ep L) (RlOut s ep g 0 W.heap.size)) := by
  have hgW := hR.lt
  have hmf : ∀ (fn : Fn) (first cap : Array Value) (w : World), (Instr.makeFunc fn first cap).run Tryz.prog w = .ok (.func fn first cap) w := fun _ _ _ _ => rfl
  have hS0 := ruleW_st hR
  have hc0 := hS0.held.cell
  have HT := Lib.hid (callTurns_any enters_call enters_comma s ep g W.heap.size L 0 w0 (ruleW W g) (callP ep) sComma (.func (.func 85) #[.pointer (some ⟨g, 0, none⟩)] #[]) (.pointer (some ⟨g, 0, none⟩)) (.inl rfl) hL (callP_shr ep) (hO.chg hS0.chg) hS0.rd hS0.held (by omega)
    (fun L1 W1 _ h2 h3 _ => call_any s ep g L1 0 w0 W1 h2 h3) (fun L1 W1 h1 h2 h3 => comma_any s ep g W.heap.size L1 0 w0 W1 h1 h2 h3))
  have HS0 := Lib.hid hS0; have HO := Lib.hid hO
  clear hS0 hO hR
  have hrp : ruleP ep L = bnd (turnsP ep (callP ep) sComma L) (fun p => bnd (maybeP ep sWhen p.2) (fun m =>
    bnd (if m.1 = true then exprP ep (oneP ep 64) m.2 else .ok (⟨1, [], 0, 0, 0, 0⟩, m.2)) (fun x =>
      bnd (wantP ep sDo x.2) (fun d => bnd (verdictP ep d.2) (fun v => bnd (wantP ep sSemi v.2) (fun z => .ok (⟨p.1, x.1, v.1⟩, z.2))))))) := rfl
  have HRP := Lib.hid hrp; clear hrp
  rcases ht : turnsP ep (callP ep) sComma L with p | ⟨l, L1⟩
  · have H := Lib.hid ht; clear ht
    go_enter Tryz.func61, Tryz.ntmps61
    go_wp2_with fail
    refine HT.out.mono ?_
    rintro e W2 h
    obtain ⟨rfl, hc2⟩ := h.err H.out
    go_wp2
    exact ⟨rfl, Outs.mk_err (by rw [HRP.out, H.out]; rfl) rfl (HS0.out.chg.trans hc2 (fun k e => .inl e))⟩
  · have hl1 := turnsP_shr ep (callP_shr ep) _ _ _ _ ht
    have H := Lib.hid ht; clear ht
    go_enter Tryz.func61, Tryz.ntmps61
    go_wp2_with fail
    refine HT.out.mono ?_
    rintro e W2 h
    obtain ⟨⟨vc, rfl, hV, hR2⟩, hc2⟩ := h.ok H.out
    obtain ⟨Ac, cc, rfl⟩ := Kd.R_slice hV
    have hS2 := HS0.out.next hgW hc2 hR2
    obtain ⟨y0, y1, y2, y3, y4, y5, y6, y7, y8, yf⟩ := blk9 hS2.hX
    have hS3 := hS2.set0 hgW (.slice Ac l.length cc)
    have hV3 := (hV.chg (Chg.of_set W2 (W.heap.size + 1 + 1) 0 (.slice Ac l.length cc)) (fun k e => by subst e; simp)).lower (base' := W.heap.size + 1 + 1 + 1) (by simp)
    have hc3 := hS3.held.cell
    have HS3 := Lib.hid hS3; have HV3 := Lib.hid hV3
    have HM := Lib.hid (maybe_any s ep g L1 0 sWhen w0 _ (HO.out.chg hS3.chg) hS3.rd)
    clear hS2 hS3 hV hV3 hc2 hR2
    rcases hm : maybeP ep sWhen L1 with p | ⟨bm, L3⟩
    · have HMM := Lib.hid hm; clear hm
      go_wp2_with fail
      refine HM.out.mono ?_
      rintro e W4 h
      obtain ⟨rfl, hc4⟩ := h.err HMM.out
      go_wp2
      exact ⟨rfl, Outs.mk_err (by rw [HRP.out, H.out]; show bnd (maybeP ep sWhen L1) _ = _; rw [HMM.out]; rfl) rfl (HS3.out.chg.trans hc4 (fun k e => .inl e))⟩
    have hl3 := (maybeP_shr hm).1
    have HMM := Lib.hid hm; clear hm
    go_wp2_with fail
    refine HM.out.mono ?_
    rintro e W4 h
    obtain ⟨⟨rfl, hR4⟩, hc4⟩ := h.ok HMM.out
    have hS4 := HS3.out.next hgW hc4 hR4
    have hV4 := HV3.out.chg hc4 (fun k e => by omega)
    have hc5 := hS4.held.cell
    have HS4 := Lib.hid hS4; have HV4 := Lib.hid hV4
    clear hS4 hV4 hc4 hR4 hc3 hc0 HT HM y0 y1 y2 y3 y4 y5 y6 y7 y8 yf
    have hlt4 := HS4.out.lt
    cases bm
    obtain ⟨x, hx⟩ : ∃ x : Ex, x = ⟨1, [], 0, 0, 0, 0⟩ := ⟨_, rfl⟩
    have HRX : Hid (ruleP ep L = bnd (wantP ep sDo L3) (fun d => bnd (verdictP ep d.2) (fun v => bnd (wantP ep sSemi v.2) (fun z => .ok (⟨l, x, v.1⟩, z.2))))) := Lib.hid (by rw [HRP.out, H.out]; show bnd (maybeP ep sWhen L1) _ = _; rw [HMM.out, hx]; rfl)
    obtain ⟨v1, hv1⟩ : ∃ v1 : Value, v1 = .slice none 0 0 := ⟨_, rfl⟩
    have HS6 : Hid (RlSt s ep g 0 W W4 L3 #[.slice Ac l.length cc, .int .i64 x.f0, v1, .int .i64 x.f2, .int .u64 x.f3, .int .i64 x.f4, .int .u64 x.f5, .int .i64 0, .int .u64 0]) := Lib.hid (by rw [hx, hv1]; exact HS4.out)
    have HX6 : Hid (ExRow W4 (W.heap.size + 1 + 1 + 1) v1 x.f1) := Lib.hid (by rw [hx, hv1]; exact Kd.R_nil _ _ _ _ _)
    have HV6 := HV4
    have HIS : Hid (∃ A c, v1 = .slice A x.f1.length c) := Lib.hid ⟨none, 0, by rw [hv1, hx]; rfl⟩
    obtain ⟨L6, hL6⟩ : ∃ L6, L6 = L3 := ⟨_, rfl⟩
    obtain ⟨W6, hW6⟩ : ∃ W6, W6 = W4 := ⟨_, rfl⟩
    go_wp2_with fail
    rw [← hL6] at HS6 HRX
    rw [← hW6] at HS6 HX6 HV6 ⊢
    clear hx hv1 hL6 hW6 HS4 HV4 HRP H HMM hc5
    rotate_left
    have HE := Lib.hid (expr_of s ep g L3 0 w0 W4 (oneP ep 64) (one_any s ep g w0 64 (by omega)) (oneP_shr ep 64) (by omega) (HO.out.chg HS4.out.chg) HS4.out.rd)
    rcases he : exprP ep (oneP ep 64) L3 with p | ⟨x, L6⟩
    · have HEE := Lib.hid he; clear he
      go_wp2_with fail
      refine HE.out.mono ?_
      rintro e W5 h
      obtain ⟨rfl, hc⟩ := h.err HEE.out
      go_wp2
      exact ⟨rfl, Outs.mk_err (by rw [HRP.out, H.out]; show bnd (maybeP ep sWhen L1) _ = _; rw [HMM.out]; show bnd (exprP ep (oneP ep 64) L3) _ = _; rw [HEE.out]; rfl) rfl (HS4.out.chg.trans hc (fun k e => .inl e))⟩
    have HRX : Hid (ruleP ep L = bnd (wantP ep sDo L6) (fun d => bnd (verdictP ep d.2) (fun v => bnd (wantP ep sSemi v.2) (fun z => .ok (⟨l, x, v.1⟩, z.2))))) := Lib.hid (by rw [HRP.out, H.out]; show bnd (maybeP ep sWhen L1) _ = _; rw [HMM.out]; show bnd (exprP ep (oneP ep 64) L3) _ = _; rw [he]; rfl)
    have HEE := Lib.hid he; clear he
    go_wp2_with fail
    refine HE.out.mono ?_
    rintro e W5 h
    obtain ⟨⟨v1, rfl, hX5, hR5⟩, hc⟩ := h.ok HEE.out
    obtain ⟨A1, c1, rfl⟩ := Kd.R_slice hX5
    have hS5 := HS4.out.next hgW hc hR5
    have hV5 := HV4.out.chg hc (fun k e => by omega)
    have hcw := hS5.held.cell
    obtain ⟨y0, y1, y2, y3, y4, y5, y6, y7, y8, yf⟩ := blk9 hS5.hX
    have hS6 := hS5.set16 hgW (.int .i64 x.f0) (.slice A1 x.f1.length c1) (.int .i64 x.f2) (.int .u64 x.f3) (.int .i64 x.f4) (.int .u64 x.f5)
    have hsets : Chg (fun k => k = W.heap.size + 1 + 1) W5 ((((((W5.setCell ⟨W.heap.size + 1 + 1, 1, none⟩ (.int .i64 x.f0)).setCell ⟨W.heap.size + 1 + 1, 2, none⟩ (.slice A1 x.f1.length c1)).setCell ⟨W.heap.size + 1 + 1, 3, none⟩ (.int .i64 x.f2)).setCell ⟨W.heap.size + 1 + 1, 4, none⟩ (.int .u64 x.f3)).setCell ⟨W.heap.size + 1 + 1, 5, none⟩ (.int .i64 x.f4)).setCell ⟨W.heap.size + 1 + 1, 6, none⟩ (.int .u64 x.f5)) :=
      (((((Chg.of_set W5 (W.heap.size + 1 + 1) 1 _).trans (Chg.of_set _ _ 2 _) (fun k e => .inl e)).trans (Chg.of_set _ _ 3 _) (fun k e => .inl e)).trans (Chg.of_set _ _ 4 _) (fun k e => .inl e)).trans (Chg.of_set _ _ 5 _) (fun k e => .inl e)).trans (Chg.of_set _ _ 6 _) (fun k e => .inl e)
    have HX6 := Lib.hid ((hX5.chg hsets (fun k e => by omega)).lower (base' := W.heap.size + 1 + 1 + 1) (by omega))
    have HV6 := Lib.hid (hV5.chg hsets (fun k e => by omega))
    have HIS : Hid (∃ A c, Value.slice A1 x.f1.length c1 = .slice A x.f1.length c) := Lib.hid ⟨_, _, rfl⟩
    have HS6 := Lib.hid hS6
    clear hX5 hR5 hc hS5 hV5 hS6 hsets
    unfold exAgg
    go_wp2_with fail
    obtain ⟨W6, hW6⟩ : ∃ W6, W6 = (((((W5.setCell ⟨W.heap.size + 1 + 1, 1, none⟩ (.int .i64 x.f0)).setCell ⟨W.heap.size + 1 + 1, 2, none⟩ (.slice A1 x.f1.length c1)).setCell ⟨W.heap.size + 1 + 1, 3, none⟩ (.int .i64 x.f2)).setCell ⟨W.heap.size + 1 + 1, 4, none⟩ (.int .u64 x.f3)).setCell ⟨W.heap.size + 1 + 1, 5, none⟩ (.int .i64 x.f4)).setCell ⟨W.heap.size + 1 + 1, 6, none⟩ (.int .u64 x.f5) := ⟨_, rfl⟩
    rw [← hW6] at HS6 HX6 HV6 ⊢
    clear hW6
    obtain ⟨v1, hv1⟩ : ∃ v1, v1 = Value.slice A1 x.f1.length c1 := ⟨_, rfl⟩
    rw [← hv1] at HS6 HX6 HIS ⊢
    clear hv1
    clear HS4 HV4 HRP H HMM hc5 hcw y0 y1 y2 y3 y4 y5 y6 y7 y8 yf HE HEE
    all_goals
      have HW := Lib.hid (want_any s ep g L6 0 sDo w0 W6 (HO.out.chg HS6.out.chg) HS6.out.rd)
      rcases hw : wantP ep sDo L6 with p | ⟨u, L7⟩
      · have HWE := Lib.hid hw; clear hw
        go_wp2_with fail
        refine HW.out.mono ?_
        rintro e W7 h
        obtain ⟨rfl, hc⟩ := h.err HWE.out
        go_wp2
        exact ⟨rfl, Outs.mk_err (by rw [HRX.out, HWE.out]; rfl) rfl (HS6.out.chg.trans hc (fun k e => .inl e))⟩
      have HWE := Lib.hid hw; clear hw
      go_wp2_with fail
      refine HW.out.mono ?_
      rintro e W7 h
      obtain ⟨⟨rfl, hR7⟩, hc⟩ := h.ok HWE.out
      have HS7 := Lib.hid (HS6.out.next hgW hc hR7)
      have HV7 := Lib.hid (HV6.out.chg hc (fun k e => by omega)); have HX7 := Lib.hid (HX6.out.chg hc (fun k e => by omega))
      have hcell7 := HS7.out.held.cell
      have HVD := Lib.hid (verdict_any s ep g L7 0 w0 W7 (HO.out.chg HS7.out.chg) HS7.out.rd)
      clear hR7 hc HS6 HV6 HX6 HW
      rcases hv : verdictP ep L7 with p | ⟨vd, L8⟩
      · have HVE := Lib.hid hv; clear hv
        go_wp2_with fail
        refine HVD.out.mono ?_
        rintro e W8 h
        obtain ⟨rfl, hc⟩ := h.err HVE.out
        go_wp2
        exact ⟨rfl, Outs.mk_err (by rw [HRX.out, HWE.out]; show bnd (verdictP ep L7) _ = _; rw [HVE.out]; rfl) rfl (HS7.out.chg.trans hc (fun k e => .inl e))⟩
      have HVE := Lib.hid hv; clear hv
      go_wp2_with fail
      refine HVD.out.mono ?_
      rintro e W8 h
      obtain ⟨⟨rfl, hR8⟩, hc⟩ := h.ok HVE.out
      have hS8 := HS7.out.next hgW hc hR8
      have hcell8 := hS8.held.cell
      obtain ⟨y0, y1, y2, y3, y4, y5, y6, y7, y8, yf⟩ := blk9 hS8.hX
      have hset9 : Chg (fun k => k = W.heap.size + 1 + 1) W8 ((W8.setCell ⟨W.heap.size + 1 + 1, 7, none⟩ (.int .i64 vd.f0)).setCell ⟨W.heap.size + 1 + 1, 8, none⟩ (.int .u64 vd.f1)) := (Chg.of_set W8 (W.heap.size + 1 + 1) 7 _).trans (Chg.of_set _ _ 8 _) (fun k e => .inl e)
      have HS9 := Lib.hid (hS8.set78 hgW (.int .i64 vd.f0) (.int .u64 vd.f1))
      have HV9 := Lib.hid ((HV7.out.chg hc (fun k e => by omega)).chg hset9 (fun k e => by omega)); have HX9 := Lib.hid ((HX7.out.chg hc (fun k e => by omega)).chg hset9 (fun k e => by omega))
      have HWS := Lib.hid (want_any s ep g L8 0 sSemi w0 _ (HO.out.chg HS9.out.chg) HS9.out.rd)
      clear hS8 hR8 hc hset9 HS7 HV7 HX7 HVD hcell7
      unfold vdVal
      rcases hw : wantP ep sSemi L8 with p | ⟨u, LA⟩
      · have HWF := Lib.hid hw; clear hw
        go_wp2_with fail
        refine HWS.out.mono ?_
        rintro e WA h
        obtain ⟨rfl, hc⟩ := h.err HWF.out
        go_wp2
        exact ⟨rfl, Outs.mk_err (by rw [HRX.out, HWE.out]; show bnd (verdictP ep L7) _ = _; rw [HVE.out]; show bnd (wantP ep sSemi L8) _ = _; rw [HWF.out]; rfl) rfl (HS9.out.chg.trans hc (fun k e => .inl e))⟩
      have HWF := Lib.hid hw; clear hw
      go_wp2_with fail
      refine HWS.out.mono ?_
      rintro e WA h
      obtain ⟨⟨rfl, hRA⟩, hc⟩ := h.ok HWF.out
      have hSA := HS9.out.next hgW hc hRA
      have HVA := Lib.hid (HV9.out.chg hc (fun k e => by omega)); have HXA := Lib.hid (HX9.out.chg hc (fun k e => by omega))
      clear y0 y1 y2 y3 y4 y5 y6 y7 y8 yf hcell8
      obtain ⟨y0, y1, y2, y3, y4, y5, y6, y7, y8, yf⟩ := blk9 hSA.hX
      obtain ⟨z0, z1, z2, z3, z4, z5, z6, z7, z8, zf⟩ := blk9 hSA.hB
      have HSA := Lib.hid hSA
      obtain ⟨A1, c1, hv1⟩ := HIS.out
      subst hv1
      clear hSA hRA hc HS9 HV9 HX9 HWS
      go_wp2
      have hlt := HSA.out.lt
      obtain ⟨e1, e2⟩ := sets9 HSA.out.hB (.slice Ac l.length cc) (.int .i64 x.f0) (.slice A1 x.f1.length c1) (.int .i64 x.f2) (.int .u64 x.f3) (.int .i64 x.f4) (.int .u64 x.f5) (.int .i64 vd.f0) (.int .u64 vd.f1)
      obtain ⟨r0, r1, r2, r3, r4, r5, r6, r7, r8, rf⟩ := blk9 e1
      refine bodyPost_ret (v := rlAgg ⟨l, x, vd⟩ (.slice Ac l.length cc) (.slice A1 x.f1.length c1)) (by simp [results, Tryz.results61, go_sem, r0, r1, r2, r3, r4, r5, r6, r7, r8]) rfl ?_
      refine Outs.mk_ok (b := (⟨l, x, vd⟩, LA)) (by rw [HRX.out, HWE.out]; show bnd (verdictP ep L7) _ = _; rw [HVE.out]; show bnd (wantP ep sSemi L8) _ = _; rw [HWF.out]; rfl) ⟨_, _, rfl, ?_, ?_, ?_⟩ (HSA.out.chg.trans e2 (fun k e => .inr (by omega)))
      · exact (HVA.out.chg e2 (fun k e => by omega)).lower (by omega)
      · exact (HXA.out.chg e2 (fun k e => by omega)).lower (by omega)
      · exact HSA.out.rd.chgd e2 (by omega)
end Go.Proofs.YtlmopoipjolbgaaGreatDoor.LexW
namespace Go.Proofs.YtlmopoipjolbgaaGreatDoor.LexW
open Go.RowKit Go.Shelf Go.Proofs.YtlmopoipjolbgaaGreatDoor.LexS Go.Proofs.YtlmopoipjolbgaaGreatDoorW.PrintWords
set_option linter.unusedVariables false
set_option linter.unusedSimpArgs false

theorem assert_wrong (a b : Int) (w : World) : (Instr.typeAssert (.iface 49 (.agg #[.int .i64 a, .int .i64 b])) 20 49 false).run Tryz.prog w = .ok (.agg #[.int .i64 a, .int .i64 b]) w := by kernel_rfl
theorem catch_panicking (B : Nat) (p : EP) (u0 u1 : Value) (older : List PanicEntry) (w : World) (hz : w.heap[B]? = some (.cells #[u0, u1] 49 (0, 0))) :
    CallsD Tryz.prog 54 #[.pointer (some ⟨B, 0, none⟩)] (.panicking ({ v := wrongV p, recovered := false } :: older)) w fun e u' w' =>
      e = .returned (.tuple #[]) ∧ u' = .panicking ({ v := wrongV p, recovered := true } :: older) ∧ w' = (w.setCell ⟨B, 0, none⟩ (.int .i64 p.1)).setCell ⟨B, 1, none⟩ (.int .i64 p.2) := by
  obtain ⟨z0, z1, zf⟩ := blk2 hz
  unfold wrongV
  refine callsD_of_wpS Tryz.func54 rfl fun c₀ cs hu => ?_
  apply wpS_seq
  apply wpS_region
  simp [wpOpsS, go_sem, recoverD, hu, Tryz.ntmps54, Exit.thenS]
  apply wpS_seq
  apply wpS_region
  simp [wpOpsS, go_sem, Exit.thenS]
  refine wpS_cond (t := true) (by simp [Act.eval, Array.replicate]) ?_
  simp only [if_true]
  apply wpS_region
  simp [wpOpsS, go_sem, assert_wrong, z0, z1, zf, bodyPostS, results, Tryz.results54]
theorem catch_idle (B : Nat) (w : World) :
    CallsD Tryz.prog 54 #[.pointer (some ⟨B, 0, none⟩)] .returning w fun e u' w' => e = .returned (.tuple #[]) ∧ u' = .returning ∧ w' = w := by
  refine callsD_of_wpS Tryz.func54 rfl fun c₀ cs hu => ?_
  apply wpS_seq
  apply wpS_region
  simp [wpOpsS, go_sem, recoverD, hu, Tryz.ntmps54, Exit.thenS]
  apply wpS_seq
  apply wpS_region
  simp [wpOpsS, go_sem, Exit.thenS]
  refine wpS_cond (t := false) (by simp [Act.eval, Array.replicate]) ?_
  simp only [Bool.false_eq_true, if_false]
  refine wpS_of_wp (wp_skip ?_)
  cases c₀
  simp_all [bodyPostS, results, Tryz.results54]

abbrev triedW (W : World) (s : ByteArray) : World := (W.alloc (.cells #[.int .i64 0, .int .i64 0] 49)).alloc (.cells #[.string s, .int .i64 0, .string ⟨#[]⟩, .int .u64 0, .int .i64 0, .int .i64 0, .int .i64 0] 101)
/-- what a reader that is tried does: it fills its box bx, or gives up -/
def DoOut {α : Type} (s : ByteArray) (ep : EP) (g bx : Nat) (PB : α → World → Prop) (W : World) (r : Rd α) (e : Ending) (W' : World) : Prop :=
  (match r with | .ok p => e = .returned (.tuple #[]) ∧ Rdr s ep g p.2 0 W' ∧ PB p.1 W' | .error p => e = panics p) ∧ Chg (fun k => k = g ∨ k = bx) W W'
def TriedOut {α : Type} (bx : Nat) (PB : α → World → Prop) (W : World) (r : Except EP α) (e : Ending) (W' : World) : Prop :=
  (match r with | .ok x => e = .returned (.agg #[.int .i64 0, .int .i64 0]) ∧ PB x W' | .error p => e = .returned (.agg #[.int .i64 p.1, .int .i64 p.2])) ∧ Chg (fun k => k = bx) W W'

set_option maxRecDepth 100000 in
set_option maxHeartbeats 2000000 in
theorem tried_any {α : Type} {f : Nat} (he : Enters Tryz.prog f) (s : ByteArray) (bx : Nat) (w0 W : World) (hE : Env w0) (hb : Below w0.heap.size w0 W) (hbx : bx < W.heap.size) (hbx0 : w0.heap.size ≤ bx) (fS : EP → List Tk → Rd α) (PB : α → World → Prop) (hlen : (toks s).1.length ≤ 65537)
    (hPB : ∀ x A B, PB x A → Chg (fun k => k = W.heap.size + 1 ∨ k = W.heap.size) A B → PB x B)
    (hdo : ∀ L W1, L.length ≤ 65537 → Okw w0 (W.heap.size + 1) W1 → Rdr s (toks s).2 (W.heap.size + 1) L 0 W1 → W1.heap[bx]? = W.heap[bx]? → W.heap.size + 1 < W1.heap.size → Calls Tryz.prog f #[.pointer (some ⟨W.heap.size + 1, 0, none⟩), .pointer (some ⟨bx, 0, none⟩)] W1 (DoOut s (toks s).2 (W.heap.size + 1) bx PB W1 (fS (toks s).2 L))) :
    Calls Tryz.prog 22 #[.string s, .func (.func f) #[] #[.pointer (some ⟨bx, 0, none⟩)]] W (TriedOut bx PB W (wholeP fS s)) := by
  have hmf : ∀ (fn : Fn) (first cap : Array Value) (w : World), (Instr.makeFunc fn first cap).run Tryz.prog w = .ok (.func fn first cap) w := fun _ _ _ _ => rfl
  have heg : ∀ (args : Array Value) (w : World), (callFunc f args).run Tryz.prog w = .ok (.enter f args) w := he
  have hal : Below W.heap.size W (triedW W s) := ((Below.refl W.heap.size W).alloc (Nat.le_refl _) _).alloc (by simp) _
  have hO : Okw w0 (W.heap.size + 1) (triedW W s) := ⟨hE, by have := hb.size; omega, hb.trans (hal.mono hb.size)⟩
  have hRB : RdB (triedW W s) (W.heap.size + 1) s tkz (0 : Nat) 0 := new_blk' (by simp) _ _
  have hwz : (triedW W s).heap[W.heap.size]? = some (.cells #[.int .i64 0, .int .i64 0] 49 (0, 0)) := blk_past _ (new_blk W _ _)
  have hsz : (triedW W s).heap.size = W.heap.size + 2 := by simp
  rcases ht : (toks s).1 with _ | ⟨t1, r1⟩
  · have hT : toksA s 0 = ([], (toks s).2) := by show toks s = _; rw [← ht]
    have hwh : wholeP fS s = .error (toks s).2 := by unfold wholeP; rw [ht]
    have HS := Lib.hid (step_err s (toks s).2 (W.heap.size + 1) 0 tkz 0 w0 (triedW W s) hE hO.hg hO.hb hRB hT)
    rw [hwh]
    generalize (toks s).2 = ep at *
    have HZ := Lib.hid hwz; have HAL := Lib.hid hal
    clear hT ht hwh hdo hPB hO hRB hal hwz hE hb he
    go_enter_defers Tryz.func22, Tryz.ntmps22
    go_wp2_with fail
    refine HS.out.mono ?_
    rintro e W2 ⟨hpe, hc⟩
    unfold panics at hpe
    subst hpe
    go_wp2
    have hz2 := chg_block hc HZ.out (by omega)
    have hcW : Chg (fun k => k = bx) W W2 := (Chg.of_below HAL.out _).trans hc (fun k e => .inr (by omega))
    refine leaves_cons (f := 54) (args := #[.pointer (some ⟨W.heap.size, 0, none⟩)]) (by simp) (by simp [go_sem]) ?_
    refine (catch_panicking W.heap.size ep _ _ [] W2 hz2).mono ?_
    rintro e u' w'' ⟨rfl, rfl, rfl⟩
    have hz9 := blk_set (blk_set hz2 0 (.int .i64 ep.1)) 1 (.int .i64 ep.2)
    obtain ⟨r0, r1, rf⟩ := blk2 hz9
    simp [Leaves, settle, results, Tryz.results22, go_sem, r0, r1]
    exact ⟨rfl, (hcW.set1 W.heap.size 0 (Nat.le_refl _) _).set1 W.heap.size 1 (Nat.le_refl _) _⟩
  · have hT : toksA s 0 = (t1 :: r1, (toks s).2) := by show toks s = _; rw [← ht]
    have hlen' : (t1 :: r1).length ≤ 65537 := by rw [← ht]; exact hlen
    have hwh : wholeP fS s = bnd (fS (toks s).2 (t1 :: r1)) (fun p => bnd (kindP (toks s).2 1 p.2) (fun _ => .ok p.1)) := by unfold wholeP; rw [ht]
    have HS := Lib.hid (step_ok s (toks s).2 (W.heap.size + 1) 0 tkz t1 r1 0 w0 (triedW W s) hE hO.hg hO.hb hRB hT)
    have hdo := hdo (t1 :: r1)
    generalize (toks s).2 = ep at *
    generalize t1 :: r1 = L at *
    have HZ := Lib.hid hwz; have HAL := Lib.hid hal; have HO := Lib.hid hO; have HDO := Lib.hid hdo; have HPB := Lib.hid hPB; have HWH := Lib.hid hwh
    clear hT ht hwh hdo hPB hO hRB hal hwz hE hb he hlen
    go_enter_defers Tryz.func22, Tryz.ntmps22
    go_wp2_with fail
    refine HS.out.mono ?_
    rintro e W2 ⟨rfl, hR2, hc⟩
    have hz2 := chg_block hc HZ.out (by omega)
    have hcW : Chg (fun k => k = bx) W W2 := (Chg.of_below HAL.out _).trans hc (fun k e => .inr (by omega))
    have hbx2 : W2.heap[bx]? = W.heap[bx]? := (hc.block bx (by omega) (by omega)).trans (HAL.out.block bx hbx)
    have hs2 : W.heap.size + 1 < W2.heap.size := hR2.lt
    have HD := Lib.hid (HDO.out W2 hlen' (HO.out.chg hc) hR2 hbx2 hs2)
    have HO2 := Lib.hid (HO.out.chg hc); have HZ2 := Lib.hid hz2; have HCW := Lib.hid hcW
    clear hc hR2 hz2 hcW hbx2
    rcases hf : fS ep L with p | ⟨x, L'⟩
    · have HF := Lib.hid hf; clear hf
      go_wp2_with fail
      refine HD.out.mono ?_
      rintro e W3 h
      rw [HF.out] at h
      obtain ⟨hpe, hc3⟩ := h
      unfold panics at hpe
      subst hpe
      go_wp2
      have hz3 := chg_block hc3 HZ2.out (by omega)
      have hcW3 : Chg (fun k => k = bx) W W3 := HCW.out.trans hc3 (fun k e => e.elim (fun e => .inr (by omega)) (fun e => .inl e))
      have hw3 : wholeP fS s = .error p := by rw [HWH.out, HF.out]; rfl
      rw [hw3]
      refine leaves_cons (f := 54) (args := #[.pointer (some ⟨W.heap.size, 0, none⟩)]) (by simp) (by simp [go_sem]) ?_
      refine (catch_panicking W.heap.size p _ _ [] W3 hz3).mono ?_
      rintro e u' w'' ⟨rfl, rfl, rfl⟩
      have hz9 := blk_set (blk_set hz3 0 (.int .i64 p.1)) 1 (.int .i64 p.2)
      obtain ⟨r0, r1, rf⟩ := blk2 hz9
      simp [Leaves, settle, results, Tryz.results22, go_sem, r0, r1]
      exact ⟨rfl, (hcW3.set1 W.heap.size 0 (Nat.le_refl _) _).set1 W.heap.size 1 (Nat.le_refl _) _⟩
    · have HF := Lib.hid hf; clear hf
      go_wp2_with fail
      refine HD.out.mono ?_
      rintro e W3 h
      rw [HF.out] at h
      obtain ⟨⟨rfl, hR3, hP3⟩, hc3⟩ := h
      have hz3 := chg_block hc3 HZ2.out (by omega)
      have hcW3 : Chg (fun k => k = bx) W W3 := HCW.out.trans hc3 (fun k e => e.elim (fun e => .inr (by omega)) (fun e => .inl e))
      have hO3 : Okw w0 (W.heap.size + 1) W3 := ⟨HO2.out.env, HO2.out.hg, HO2.out.hb.trans (hc3.below HO2.out.hb.size (fun k e => by have := HO2.out.hg; omega))⟩
      have HK := Lib.hid (kind_any s ep (W.heap.size + 1) L' 0 1 w0 W3 hO3 hR3)
      have HP3 := Lib.hid hP3; have HZ3 := Lib.hid hz3; have HC3 := Lib.hid hcW3
      clear hR3 hP3 hc3 hz3 hcW3 hO3
      rcases hk : kindP ep 1 L' with p | ⟨q, L3⟩
      · have HKE := Lib.hid hk; clear hk
        go_wp2_with fail
        refine HK.out.mono ?_
        rintro e W4 h
        obtain ⟨rfl, hc4⟩ := h.err HKE.out
        go_wp2
        have hz4 := chg_block hc4 HZ3.out (by omega)
        have hcW4 : Chg (fun k => k = bx) W W4 := HC3.out.trans hc4 (fun k e => .inr (by omega))
        have hw4 : wholeP fS s = .error p := by rw [HWH.out, HF.out]; show bnd (kindP ep 1 L') _ = _; rw [HKE.out]; rfl
        rw [hw4]
        refine leaves_cons (f := 54) (args := #[.pointer (some ⟨W.heap.size, 0, none⟩)]) (by simp) (by simp [go_sem]) ?_
        refine (catch_panicking W.heap.size p _ _ [] W4 hz4).mono ?_
        rintro e u' w'' ⟨rfl, rfl, rfl⟩
        have hz9 := blk_set (blk_set hz4 0 (.int .i64 p.1)) 1 (.int .i64 p.2)
        obtain ⟨r0, r1, rf⟩ := blk2 hz9
        simp [Leaves, settle, results, Tryz.results22, go_sem, r0, r1]
        exact ⟨rfl, (hcW4.set1 W.heap.size 0 (Nat.le_refl _) _).set1 W.heap.size 1 (Nat.le_refl _) _⟩
      · have HKE := Lib.hid hk; clear hk
        go_wp2_with fail
        refine HK.out.mono ?_
        rintro e W4 h
        obtain ⟨⟨rfl, hR4⟩, hc4⟩ := h.ok HKE.out
        have hz4 := chg_block hc4 HZ3.out (by omega)
        have hcW4 : Chg (fun k => k = bx) W W4 := HC3.out.trans hc4 (fun k e => .inr (by omega))
        have hw4 : wholeP fS s = .ok x := by rw [HWH.out, HF.out]; show bnd (kindP ep 1 L') _ = _; rw [HKE.out]; rfl
        have hP4 := HPB.out x W3 W4 HP3.out (hc4.wider (fun k e => .inl e))
        obtain ⟨r0, r1, rf⟩ := blk2 hz4
        clear hR4 hc4
        unfold tkVal
        go_wp2
        refine leaves_cons (f := 54) (args := #[.pointer (some ⟨W.heap.size, 0, none⟩)]) (by simp) (by simp [go_sem]) ?_
        refine (catch_idle W.heap.size W4).mono ?_
        rintro e u' w'' ⟨rfl, rfl, rfl⟩
        rw [hw4]
        simp [Leaves, settle, results, Tryz.results22, go_sem, r0, r1]
        exact ⟨⟨rfl, hP4⟩, hcW4⟩
end Go.Proofs.YtlmopoipjolbgaaGreatDoor.LexW
namespace Go.Proofs.YtlmopoipjolbgaaGreatDoor.LexW
open Go.RowKit Go.Shelf Go.Proofs.YtlmopoipjolbgaaGreatDoor.LexS Go.Proofs.YtlmopoipjolbgaaGreatDoorW.PrintWords
set_option linter.unusedVariables false
set_option linter.unusedSimpArgs false

/-- a box that holds an expression -/
def ExBox (bx base : Nat) (x : Ex) (W : World) : Prop := ∃ v, W.heap[bx]? = some (.cells #[.int .i64 x.f0, v, .int .i64 x.f2, .int .u64 x.f3, .int .i64 x.f4, .int .u64 x.f5] 37 (0, 0)) ∧ ExRow W base v x.f1
theorem ExBox.chg {S : Nat → Prop} {W W' : World} {bx base : Nat} {x : Ex} (h : ExBox bx base x W) (hc : Chg S W W') (hn : ¬ S bx) (hS : ∀ k, S k → k < base) : ExBox bx base x W' :=
  let ⟨v, hb, hr⟩ := h; ⟨v, chg_block hc hb hn, hr.chg hc hS⟩
theorem enters_pe1 : Enters Tryz.prog 33 := enters_of Tryz.func33 (by kernel_rfl) rfl

set_option maxRecDepth 100000 in
set_option maxHeartbeats 1000000 in
theorem pe1_any (s : ByteArray) (ep : EP) (g bx base : Nat) (L : List Tk) (w0 W : World) (hL : L.length ≤ 65537) (hO : Okw w0 g W) (hR : Rdr s ep g L 0 W) (hbx : bx < base) (hbg : bx ≠ g) (hbase : base ≤ W.heap.size) (hz : W.heap[bx]? = some (.cells #[.int .i64 0, .slice none 0 0, .int .i64 0, .int .u64 0, .int .i64 0, .int .u64 0] 37 (0, 0))) :
    Calls Tryz.prog 33 #[.pointer (some ⟨g, 0, none⟩), .pointer (some ⟨bx, 0, none⟩)] W (DoOut s ep g bx (ExBox bx base) W (exprP ep (oneP ep 64) L)) := by
  have HE := Lib.hid (expr_of s ep g L 0 w0 W (oneP ep 64) (one_any s ep g w0 64 (by omega)) (oneP_shr ep 64) hL hO hR)
  have HZ := Lib.hid hz
  clear hO hR hz
  rcases he : exprP ep (oneP ep 64) L with p | ⟨x, L1⟩
  · have H := Lib.hid he; clear he
    go_enter Tryz.func33, Tryz.ntmps33
    go_wp2_with fail
    refine HE.out.mono ?_
    rintro e W2 h
    obtain ⟨rfl, hc⟩ := h.err H.out
    go_wp2
    exact ⟨rfl, rfl, hc.wider (fun k e => .inl e)⟩
  · have H := Lib.hid he; clear he
    go_enter Tryz.func33, Tryz.ntmps33
    go_wp2_with fail
    refine HE.out.mono ?_
    rintro e W2 h
    obtain ⟨⟨v, rfl, hX, hR2⟩, hc⟩ := h.ok H.out
    obtain ⟨A, c, rfl⟩ := Kd.R_slice hX
    have hz2 := chg_block hc HZ.out hbg
    obtain ⟨z0, z1, z2, z3, z4, z5, zf⟩ := blk6 hz2
    have HX := Lib.hid hX; have HR2 := Lib.hid hR2; have HC := Lib.hid hc; have HZ2 := Lib.hid hz2
    clear hX hR2 hc hz2
    unfold exAgg
    go_wp2
    go_end0
    have hs := (Chg.refl (fun k => k = bx) W2).sets6' bx (fun k e => e) (.int .i64 x.f0) (.slice A x.f1.length c) (.int .i64 x.f2) (.int .u64 x.f3) (.int .i64 x.f4) (.int .u64 x.f5)
    exact ⟨⟨rfl, HR2.out.far6 bx (by omega) _ _ _ _ _ _, _, blk_sets6 HZ2.out _ _ _ _ _ _, (HX.out.chg hs (fun k e => by omega)).lower hbase⟩, (HC.out.wider (fun k e => .inl e)).trans hs (fun k e => .inl (.inr e))⟩

def PexOut (base : Nat) (p : Ex × EP) (e : Ending) (W' : World) : Prop := ∃ v, e = .returned (.tuple #[exAgg p.1 v, .int .i64 p.2.1, .int .i64 p.2.2]) ∧ ExRow W' base v p.1.f1

set_option maxRecDepth 100000 in
set_option maxHeartbeats 1000000 in
theorem pexpr_any (s : ByteArray) (w0 W : World) (hE : Env w0) (hb : Below w0.heap.size w0 W) (hlen : (toks s).1.length ≤ 65537) :
    Calls Tryz.prog 10 #[.string s] W fun e W' => PexOut W.heap.size (exprV s) e W' ∧ Below W.heap.size W W' := by
  have hmf : ∀ (fn : Fn) (first cap : Array Value) (w : World), (Instr.makeFunc fn first cap).run Tryz.prog w = .ok (.func fn first cap) w := fun _ _ _ _ => rfl
  have hal : Below W.heap.size W ((W.alloc exZero).alloc exZero) := ((Below.refl W.heap.size W).alloc (Nat.le_refl _) _).alloc (by simp) _
  have hz1 : ((W.alloc exZero).alloc exZero).heap[W.heap.size]? = some (.cells #[.int .i64 0, .slice none 0 0, .int .i64 0, .int .u64 0, .int .i64 0, .int .u64 0] 37 (0, 0)) := blk_past _ (new_blk W _ _)
  have hz2 : ((W.alloc exZero).alloc exZero).heap[W.heap.size + 1]? = some (.cells #[.int .i64 0, .slice none 0 0, .int .i64 0, .int .u64 0, .int .i64 0, .int .u64 0] 37 (0, 0)) := new_blk' (by simp) _ _
  have hsz : ((W.alloc exZero).alloc exZero).heap.size = W.heap.size + 2 := by simp
  have hws := hb.size
  have HT := Lib.hid (tried_any enters_pe1 s (W.heap.size + 1) w0 ((W.alloc exZero).alloc exZero) hE (hb.trans (hal.mono hb.size)) (by omega) (by omega) (fun ep => exprP ep (oneP ep 64)) (ExBox (W.heap.size + 1) (W.heap.size + 4)) hlen
    (fun x A B h hc => h.chg hc (by omega) (fun k e => by omega))
    (fun L W1 h1 h2 h3 h4 h5 => pe1_any s _ _ (W.heap.size + 1) (W.heap.size + 4) L w0 W1 h1 h2 h3 (by omega) (by omega) (by omega) (h4.trans hz2)))
  have HAL := Lib.hid hal; have HZ1 := Lib.hid hz1
  clear hE hb hlen hal hz1 hz2
  have HNZ := Lib.hid (wholeP_nz (fun ep => expr_nz ep (one_nz ep 64)) s)
  unfold exprV
  rcases hw : wholeP (fun ep => exprP ep (oneP ep 64)) s with p | x
  · rw [hw] at HT HNZ
    clear hw
    go_enter Tryz.func10, Tryz.ntmps10
    go_wp2_with fail
    refine HT.out.mono ?_
    rintro e W2 ⟨rfl, hc⟩
    have hp : (p.1 != 0) = true := by rw [bne_iff_ne]; exact HNZ.out p rfl
    have hz1 := chg_block hc HZ1.out (by omega)
    obtain ⟨z0, z1, z2, z3, z4, z5, zf⟩ := blk6 hz1
    obtain ⟨u0, u1, u2, u3, u4, u5, uf⟩ := blk6 (blk_past (.cells #[.int .i64 p.1, .int .i64 p.2] 49) hz1)
    have hs2 := hc.size
    have hne1 : ¬ (W2.heap.size = W.heap.size) := by omega
    have hne2 : ¬ (W.heap.size = W2.heap.size) := by omega
    have HC := Lib.hid hc; have HZ := Lib.hid hz1
    clear hc hz1
    go_wp2
    go_region
    all_goals go_wp2
    all_goals
      have hal2 := (Below.refl W2.heap.size W2).alloc (Nat.le_refl _) (.cells #[.int .i64 p.1, .int .i64 p.2] 49)
      have hb6 := blk_sets6 (blk_past (.cells #[.int .i64 p.1, .int .i64 p.2] 49) HZ.out) (.int .i64 0) (.slice none 0 0) (.int .i64 0) (.int .u64 0) (.int .i64 0) (.int .u64 0)
      obtain ⟨r0, r1, r2, r3, r4, r5, rf⟩ := blk6 hb6
      have hcB : Chg (fun k => k = W.heap.size) W2 _ := (Chg.of_below hal2 (fun k => k = W.heap.size)).sets6' W.heap.size (fun k e => e) (.int .i64 0) (.slice none 0 0) (.int .i64 0) (.int .u64 0) (.int .i64 0) (.int .u64 0)
      refine bodyPost_ret (v := .tuple #[exAgg zEx (.slice none 0 0), .int .i64 p.1, .int .i64 p.2]) (by simp [results, Tryz.results10, go_sem, r0, r1, r2, r3, r4, r5, zEx, exAgg]) rfl ?_
      refine ⟨⟨.slice none 0 0, rfl, Kd.R_nil _ _ _ _ _⟩, ?_⟩
      exact ((HAL.out.trans (HC.out.below (B := W.heap.size) (by rw [hsz]; omega) (fun k e => by omega))).trans (hcB.below (by omega) (fun k e => by omega))).drew
  · rw [hw] at HT HNZ
    clear hw
    go_enter Tryz.func10, Tryz.ntmps10
    go_wp2_with fail
    refine HT.out.mono ?_
    rintro e W2 ⟨⟨rfl, v, hB, hX⟩, hc⟩
    have hz1 := chg_block hc HZ1.out (by omega)
    obtain ⟨z0, z1, z2, z3, z4, z5, zf⟩ := blk6 hz1
    obtain ⟨y0, y1, y2, y3, y4, y5, yf⟩ := blk6 hB
    obtain ⟨A, c, rfl⟩ := Kd.R_slice hX
    obtain ⟨u0, u1, u2, u3, u4, u5, uf⟩ := blk6 (blk_past (.cells #[.int .i64 0, .int .i64 0] 49) hz1)
    obtain ⟨v0, v1, v2, v3, v4, v5, vf⟩ := blk6 (blk_past (.cells #[.int .i64 0, .int .i64 0] 49) hB)
    have HC := Lib.hid hc; have HZ := Lib.hid hz1; have HX := Lib.hid hX; have HB := Lib.hid hB
    have hs2 := hc.size
    have hne1 : ¬ (W2.heap.size = W.heap.size) := by omega
    have hne2 : ¬ (W.heap.size = W2.heap.size) := by omega
    clear hc hz1 hX hB
    go_wp2
    have hal2 := (Below.refl W2.heap.size W2).alloc (Nat.le_refl _) (.cells #[.int .i64 0, .int .i64 0] 49)
    have hb6 := blk_sets6 (blk_past (.cells #[.int .i64 0, .int .i64 0] 49) HZ.out) (.int .i64 x.f0) (.slice A x.f1.length c) (.int .i64 x.f2) (.int .u64 x.f3) (.int .i64 x.f4) (.int .u64 x.f5)
    obtain ⟨r0, r1, r2, r3, r4, r5, rf⟩ := blk6 hb6
    have hcB : Chg (fun k => k = W.heap.size) W2 _ := (Chg.of_below hal2 (fun k => k = W.heap.size)).sets6' W.heap.size (fun k e => e) (.int .i64 x.f0) (.slice A x.f1.length c) (.int .i64 x.f2) (.int .u64 x.f3) (.int .i64 x.f4) (.int .u64 x.f5)
    refine bodyPost_ret (v := .tuple #[exAgg x (.slice A x.f1.length c), .int .i64 0, .int .i64 0]) (by simp [results, Tryz.results10, go_sem, r0, r1, r2, r3, r4, r5]) rfl ?_
    refine ⟨⟨.slice A x.f1.length c, rfl, (HX.out.chg hcB (fun k e => by omega)).lower (by omega)⟩, ?_⟩
    exact (HAL.out.trans (HC.out.below (B := W.heap.size) (by rw [hsz]; omega) (fun k e => by omega))).trans (hcB.below (by omega) (fun k e => by omega))

end Go.Proofs.YtlmopoipjolbgaaGreatDoor.LexW
namespace Go.Proofs.YtlmopoipjolbgaaGreatDoor.LexW
open Go.RowKit Go.Shelf Go.Proofs.YtlmopoipjolbgaaGreatDoor.LexS Go.Proofs.YtlmopoipjolbgaaGreatDoorW.PrintWords
set_option linter.unusedVariables false
set_option linter.unusedSimpArgs false

def lives06T : ByteArray := ⟨#[110, 111, 116, 32, 97, 114, 103, 49, 32, 38, 32, 55, 32, 62, 61, 32, 50]⟩
theorem lives06_expr : exprV lives06T = (⟨3, [⟨6, [], 1, 7, 6, 2⟩], 0, 0, 0, 0⟩, (0, 0)) := by kernel_rfl

theorem addr_add0 (ad : Addr) : ad.add 0 = ad := by
  obtain ⟨b, o, p⟩ := ad
  unfold Addr.add
  cases p <;> simp

set_option maxRecDepth 100000 in
set_option maxHeartbeats 1000000 in
theorem lives06_any (w : World) (hE : Env w) :
    Calls Tryz.prog 7 #[] w fun e w' => e = .returned (.bool true) ∧ Below w.heap.size w w' := by
  have HP := Lib.hid (pexpr_any lives06T w w hE (Below.refl _ _) (toks_len _))
  rw [lives06_expr] at HP
  clear hE
  go_enter Tryz.func7, Tryz.ntmps7
  go_wp2_with fail
  refine HP.out.mono ?_
  rintro e w1 ⟨⟨v, rfl, hX⟩, hb⟩
  obtain ⟨A, c, rfl, hlc, hC⟩ := Kd.R_reads hX
  have hal := (Below.refl w1.heap.size w1).alloc (Nat.le_refl _) (.cells #[.int .i64 3, .slice A 1 c, .int .i64 0, .int .u64 0, .int .i64 0, .int .u64 0] 37)
  have hC2 := Kd.C_below hC hal
  obtain ⟨ad, A1, c1, rfl, p0, p1, p2, p3, p4, p5, -, -⟩ := at_Ex hC2 (0 : Int) (by omega) (by decide)
  have hb2 := hb.trans (hal.mono hb.size)
  have HB := Lib.hid hb2
  clear hX hb hC hC2 hal hb2
  simp only [Int.toNat_zero, Nat.zero_mul] at p0 p1 p2 p3 p4 p5
  change _ = some (Value.int .i64 6) at p0
  change _ = some (Value.slice A1 0 c1) at p1
  change _ = some (Value.int .i64 1) at p2
  change _ = some (Value.int .u64 7) at p3
  change _ = some (Value.int .i64 6) at p4
  change _ = some (Value.int .u64 2) at p5
  have h0 : ad.add 0 = ad := addr_add0 ad
  rw [h0] at p0 p1 p2 p3 p4 p5
  clear h0
  go_wp2
  go_ret
  exact ⟨rfl, HB.out⟩
end Go.Proofs.YtlmopoipjolbgaaGreatDoor.LexW
