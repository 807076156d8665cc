/-
  Layer 6 (policy): a rule.
-/
import Derived.Test.YtlmopoipjolbgaaDoorPolRD
namespace Go.Proofs.YtlmopoipjolbgaaDoor.LexW
open Go.RowKit Go.Shelf Go.Proofs.YtlmopoipjolbgaaDoor.LexS Go.Proofs.YtlmopoipjolbgaaDoorW.PrintWords
set_option linter.unusedVariables false
set_option linter.unusedSimpArgs false

theorem comma_any (s : ByteArray) (ep : EP) (g b : Nat) (L : List Tk) (d : Int) (w0 W : World) (hO : Okw w0 g W) (hR : Rdr s ep g L d W) (hH : Held W b g) :
    Calls Tryd.prog 84 #[.pointer (some ⟨b, 0, none⟩)] W (Outs g W (maybeP ep sComma L) (BoolOut s ep g d)) := by
  have hc := hH.cell
  have HM := Lib.hid (maybe_any s ep g L d sComma w0 W hO hR)
  clear hO hR hH
  rcases hm : maybeP ep sComma L with p | p
  · rw [hm] at HM
    clear hm
    go_enter Tryd.func84, Tryd.ntmps84
    go_wp2_with fail
    refine HM.out.mono ?_
    rintro e W2 h
    obtain ⟨rfl, hc⟩ := h.err rfl
    go_wp2
    exact ⟨rfl, Outs.mk_err rfl rfl hc⟩
  · rw [hm] at HM
    clear hm
    go_enter Tryd.func84, Tryd.ntmps84
    go_wp2_with fail
    refine HM.out.mono ?_
    rintro e W2 h
    obtain ⟨⟨rfl, hR'⟩, hc⟩ := h.ok rfl
    have HR := Lib.hid hR'; have HC := Lib.hid hc; clear hR' hc
    go_wp2
    go_ret
    exact Outs.mk_ok rfl ⟨rfl, HR.out⟩ HC.out
theorem enters_call : Enters Tryd.prog 83 := enters_of Tryd.func83 (by kernel_rfl) rfl
theorem enters_comma : Enters Tryd.prog 84 := enters_of Tryd.func84 (by kernel_rfl) rfl

abbrev rlZero : Obj := .cells #[.slice none 0 0, .int .i64 0, .slice none 0 0, .int .i64 0, .int .u64 0, .int .i64 0, .int .u64 0, .int .i64 0, .int .u64 0] 84
abbrev rlInit : Obj := .cells #[.slice none 0 0, .int .i64 1, .slice none 0 0, .int .i64 0, .int .u64 0, .int .i64 0, .int .u64 0, .int .i64 0, .int .u64 0] 84
abbrev rlAgg (x : Rl) (vc v1 : Value) : Value := .agg #[vc, .int .i64 x.f1.f0, v1, .int .i64 x.f1.f2, .int .u64 x.f1.f3, .int .i64 x.f1.f4, .int .u64 x.f1.f5, .int .i64 x.f2.f0, .int .u64 x.f2.f1]
theorem blk9 {W : World} {b : Nat} {v0 v1 v2 v3 v4 v5 v6 v7 v8 : Value} {t : TypeId} (h : W.heap[b]? = some (.cells #[v0, v1, v2, v3, v4, v5, v6, v7, v8] t (0, 0))) : W.cell? ⟨b, 0, none⟩ = some v0 ∧ W.cell? ⟨b, 1, none⟩ = some v1 ∧ W.cell? ⟨b, 2, none⟩ = some v2 ∧ W.cell? ⟨b, 3, none⟩ = some v3 ∧ W.cell? ⟨b, 4, none⟩ = some v4 ∧ W.cell? ⟨b, 5, none⟩ = some v5 ∧ W.cell? ⟨b, 6, none⟩ = some v6 ∧ W.cell? ⟨b, 7, none⟩ = some v7 ∧ W.cell? ⟨b, 8, none⟩ = some v8 ∧ ∀ j, W.frozen? ⟨b, j, none⟩ = false := by
  refine ⟨?_, ?_, ?_, ?_, ?_, ?_, ?_, ?_, ?_, fun j => ?_⟩ <;> simp [World.cell?, World.frozen?, h]
/-- the world in which a rule is read -/
abbrev ruleW (W : World) (g : Nat) : World := ((W.alloc (.cells #[.pointer (some ⟨g, 0, none⟩)] 78)).alloc rlZero).alloc rlInit
/-- on the way -/
structure RlSt (s : ByteArray) (ep : EP) (g : Nat) (d : Int) (W Wi : World) (L : List Tk) (cs : Array Value) : Prop where
  rd : Rdr s ep g L d Wi
  chg : Chg (fun k => k = g) W Wi
  hB : Wi.heap[W.heap.size + 1]? = some (.cells #[.slice none 0 0, .int .i64 0, .slice none 0 0, .int .i64 0, .int .u64 0, .int .i64 0, .int .u64 0, .int .i64 0, .int .u64 0] 84 (0, 0))
  hX : Wi.heap[W.heap.size + 1 + 1]? = some (.cells cs 84 (0, 0))
  held : Held Wi W.heap.size g
theorem RlSt.lt {s : ByteArray} {ep : EP} {g : Nat} {d : Int} {W Wi : World} {L : List Tk} {cs : Array Value} (h : RlSt s ep g d W Wi L cs) : W.heap.size + 1 + 1 < Wi.heap.size := (Array.getElem?_eq_some_iff.1 h.hX).1
theorem RlSt.next {s : ByteArray} {ep : EP} {g : Nat} {d : Int} {W Wi Wj : World} {L L' : List Tk} {cs : Array Value} (h : RlSt s ep g d W Wi L cs) (hg : g < W.heap.size) (hc : Chg (fun k => k = g) Wi Wj) (hR : Rdr s ep g L' d Wj) : RlSt s ep g d W Wj L' cs :=
  ⟨hR, h.chg.trans hc (fun k e => .inl e), chg_block hc h.hB (by omega), chg_block hc h.hX (by omega), h.held.chg hc (by omega)⟩
theorem RlSt.set {s : ByteArray} {ep : EP} {g : Nat} {d : Int} {W Wi : World} {L : List Tk} {cs : Array Value} (h : RlSt s ep g d W Wi L cs) (hg : g < W.heap.size) (j : Nat) (v : Value) : RlSt s ep g d W (Wi.setCell ⟨W.heap.size + 1 + 1, j, none⟩ v) L (cs.setIfInBounds j v) :=
  ⟨h.rd.far _ j (by omega) v, h.chg.set1 (W.heap.size + 1 + 1) j (by omega) v, (Below.heap_setCell Wi ⟨W.heap.size + 1 + 1, j, none⟩ v (W.heap.size + 1) (by show W.heap.size + 1 ≠ W.heap.size + 1 + 1; omega)).trans h.hB, blk_set h.hX j v,
    (Below.heap_setCell Wi ⟨W.heap.size + 1 + 1, j, none⟩ v W.heap.size (by show W.heap.size ≠ W.heap.size + 1 + 1; omega)).trans h.held⟩
theorem RlSt.set0 {s : ByteArray} {ep : EP} {g : Nat} {d : Int} {W Wi : World} {L : List Tk} {v0 v1 v2 v3 v4 v5 v6 v7 v8 : Value} (h : RlSt s ep g d W Wi L #[v0, v1, v2, v3, v4, v5, v6, v7, v8]) (hg : g < W.heap.size) (u : Value) :
    RlSt s ep g d W (Wi.setCell ⟨W.heap.size + 1 + 1, 0, none⟩ u) L #[u, v1, v2, v3, v4, v5, v6, v7, v8] := h.set hg 0 u
theorem RlSt.set16 {s : ByteArray} {ep : EP} {g : Nat} {d : Int} {W Wi : World} {L : List Tk} {v0 v1 v2 v3 v4 v5 v6 v7 v8 : Value} (h : RlSt s ep g d W Wi L #[v0, v1, v2, v3, v4, v5, v6, v7, v8]) (hg : g < W.heap.size) (a1 a2 a3 a4 a5 a6 : Value) :
    RlSt s ep g d W ((((((Wi.setCell ⟨W.heap.size + 1 + 1, 1, none⟩ a1).setCell ⟨W.heap.size + 1 + 1, 2, none⟩ a2).setCell ⟨W.heap.size + 1 + 1, 3, none⟩ a3).setCell ⟨W.heap.size + 1 + 1, 4, none⟩ a4).setCell ⟨W.heap.size + 1 + 1, 5, none⟩ a5).setCell ⟨W.heap.size + 1 + 1, 6, none⟩ a6) L #[v0, a1, a2, a3, a4, a5, a6, v7, v8] :=
  (((((h.set hg 1 a1).set hg 2 a2).set hg 3 a3).set hg 4 a4).set hg 5 a5).set hg 6 a6
theorem RlSt.set78 {s : ByteArray} {ep : EP} {g : Nat} {d : Int} {W Wi : World} {L : List Tk} {v0 v1 v2 v3 v4 v5 v6 v7 v8 : Value} (h : RlSt s ep g d W Wi L #[v0, v1, v2, v3, v4, v5, v6, v7, v8]) (hg : g < W.heap.size) (a7 a8 : Value) :
    RlSt s ep g d W ((Wi.setCell ⟨W.heap.size + 1 + 1, 7, none⟩ a7).setCell ⟨W.heap.size + 1 + 1, 8, none⟩ a8) L #[v0, v1, v2, v3, v4, v5, v6, a7, a8] := (h.set hg 7 a7).set hg 8 a8
theorem ruleW_st {s : ByteArray} {ep : EP} {g : Nat} {d : Int} {W : World} {L : List Tk} (hR : Rdr s ep g L d W) : RlSt s ep g d W (ruleW W g) L #[.slice none 0 0, .int .i64 1, .slice none 0 0, .int .i64 0, .int .u64 0, .int .i64 0, .int .u64 0, .int .i64 0, .int .u64 0] := by
  have hb : Below W.heap.size W (ruleW W g) := (((Below.refl W.heap.size W).alloc (Nat.le_refl _) _).alloc (by simp) _).alloc (by simp; omega) _
  exact ⟨hR.below hb, Chg.of_below hb _, blk_past _ (new_blk' (by simp) _ _), new_blk' (by simp) _ _, blk_past _ (blk_past _ (new_blk W _ _))⟩

theorem sets9 {W : World} {b : Nat} {u0 u1 u2 u3 u4 u5 u6 u7 u8 : Value} {t : TypeId} (h : W.heap[b]? = some (.cells #[u0, u1, u2, u3, u4, u5, u6, u7, u8] t (0, 0))) (a0 a1 a2 a3 a4 a5 a6 a7 a8 : Value) :
    (((((((((W.setCell ⟨b, 0, none⟩ a0).setCell ⟨b, 1, none⟩ a1).setCell ⟨b, 2, none⟩ a2).setCell ⟨b, 3, none⟩ a3).setCell ⟨b, 4, none⟩ a4).setCell ⟨b, 5, none⟩ a5).setCell ⟨b, 6, none⟩ a6).setCell ⟨b, 7, none⟩ a7).setCell ⟨b, 8, none⟩ a8).heap[b]? = some (.cells #[a0, a1, a2, a3, a4, a5, a6, a7, a8] t (0, 0)) ∧ Chg (fun k => k = b) W (((((((((W.setCell ⟨b, 0, none⟩ a0).setCell ⟨b, 1, none⟩ a1).setCell ⟨b, 2, none⟩ a2).setCell ⟨b, 3, none⟩ a3).setCell ⟨b, 4, none⟩ a4).setCell ⟨b, 5, none⟩ a5).setCell ⟨b, 6, none⟩ a6).setCell ⟨b, 7, none⟩ a7).setCell ⟨b, 8, none⟩ a8) := by
  have h0 := h
  have h1 : (W.setCell ⟨b, 0, none⟩ a0).heap[b]? = some (.cells #[a0, u1, u2, u3, u4, u5, u6, u7, u8] t (0, 0)) := blk_set h0 0 a0
  have h2 : ((W.setCell ⟨b, 0, none⟩ a0).setCell ⟨b, 1, none⟩ a1).heap[b]? = some (.cells #[a0, a1, u2, u3, u4, u5, u6, u7, u8] t (0, 0)) := blk_set h1 1 a1
  have h3 : (((W.setCell ⟨b, 0, none⟩ a0).setCell ⟨b, 1, none⟩ a1).setCell ⟨b, 2, none⟩ a2).heap[b]? = some (.cells #[a0, a1, a2, u3, u4, u5, u6, u7, u8] t (0, 0)) := blk_set h2 2 a2
  have h4 : ((((W.setCell ⟨b, 0, none⟩ a0).setCell ⟨b, 1, none⟩ a1).setCell ⟨b, 2, none⟩ a2).setCell ⟨b, 3, none⟩ a3).heap[b]? = some (.cells #[a0, a1, a2, a3, u4, u5, u6, u7, u8] t (0, 0)) := blk_set h3 3 a3
  have h5 : (((((W.setCell ⟨b, 0, none⟩ a0).setCell ⟨b, 1, none⟩ a1).setCell ⟨b, 2, none⟩ a2).setCell ⟨b, 3, none⟩ a3).setCell ⟨b, 4, none⟩ a4).heap[b]? = some (.cells #[a0, a1, a2, a3, a4, u5, u6, u7, u8] t (0, 0)) := blk_set h4 4 a4
  have h6 : ((((((W.setCell ⟨b, 0, none⟩ a0).setCell ⟨b, 1, none⟩ a1).setCell ⟨b, 2, none⟩ a2).setCell ⟨b, 3, none⟩ a3).setCell ⟨b, 4, none⟩ a4).setCell ⟨b, 5, none⟩ a5).heap[b]? = some (.cells #[a0, a1, a2, a3, a4, a5, u6, u7, u8] t (0, 0)) := blk_set h5 5 a5
  have h7 : (((((((W.setCell ⟨b, 0, none⟩ a0).setCell ⟨b, 1, none⟩ a1).setCell ⟨b, 2, none⟩ a2).setCell ⟨b, 3, none⟩ a3).setCell ⟨b, 4, none⟩ a4).setCell ⟨b, 5, none⟩ a5).setCell ⟨b, 6, none⟩ a6).heap[b]? = some (.cells #[a0, a1, a2, a3, a4, a5, a6, u7, u8] t (0, 0)) := blk_set h6 6 a6
  have h8 : ((((((((W.setCell ⟨b, 0, none⟩ a0).setCell ⟨b, 1, none⟩ a1).setCell ⟨b, 2, none⟩ a2).setCell ⟨b, 3, none⟩ a3).setCell ⟨b, 4, none⟩ a4).setCell ⟨b, 5, none⟩ a5).setCell ⟨b, 6, none⟩ a6).setCell ⟨b, 7, none⟩ a7).heap[b]? = some (.cells #[a0, a1, a2, a3, a4, a5, a6, a7, u8] t (0, 0)) := blk_set h7 7 a7
  have h9 : (((((((((W.setCell ⟨b, 0, none⟩ a0).setCell ⟨b, 1, none⟩ a1).setCell ⟨b, 2, none⟩ a2).setCell ⟨b, 3, none⟩ a3).setCell ⟨b, 4, none⟩ a4).setCell ⟨b, 5, none⟩ a5).setCell ⟨b, 6, none⟩ a6).setCell ⟨b, 7, none⟩ a7).setCell ⟨b, 8, none⟩ a8).heap[b]? = some (.cells #[a0, a1, a2, a3, a4, a5, a6, a7, a8] t (0, 0)) := blk_set h8 8 a8
  exact ⟨h9, (((Chg.refl (fun k => k = b) W).sets6' b (fun k e => e) a0 a1 a2 a3 a4 a5).trans (Chg.of_set _ b 6 a6) (fun k e => .inl e)).trans ((Chg.of_set _ b 7 a7).trans (Chg.of_set _ b 8 a8) (fun k e => .inl e)) (fun k e => .inl e)⟩
theorem Rdr.chgd {S : Nat → Prop} {s : ByteArray} {ep : EP} {g : Nat} {L : List Tk} {d : Int} {W W' : World} (h : Rdr s ep g L d W) (hc : Chg S W W') (hn : ¬ S g) : Rdr s ep g L d W' := let ⟨t, e, hB, hA⟩ := h; ⟨t, e, chg_block hc hB hn, hA⟩
def RlOut (s : ByteArray) (ep : EP) (g : Nat) (d : Int) (base : Nat) (p : Rl × List Tk) (e : Ending) (W' : World) : Prop := ∃ vc v1, e = .returned (rlAgg p.1 vc v1) ∧ ClRow W' base vc p.1.f0 ∧ ExRow W' base v1 p.1.f1.f1 ∧ Rdr s ep g p.2 d W'

set_option maxRecDepth 100000 in
set_option maxHeartbeats 2000000 in
theorem rule_any (s : ByteArray) (ep : EP) (g : Nat) (L : List Tk) (w0 W : World) (hL : L.length ≤ 65537) (hO : Okw w0 g W) (hR : Rdr s ep g L 0 W) :
    Calls Tryd.prog 63 #[.pointer (some ⟨g, 0, none⟩)] W (Outs g W (ruleP ep L) (RlOut s ep g 0 W.heap.size)) := by
  have hgW := hR.lt
  have hmf : ∀ (fn : Fn) (first cap : Array Value) (w : World), (Instr.makeFunc fn first cap).run Tryd.prog w = .ok (.func fn first cap) w := fun _ _ _ _ => rfl
  have hS0 := ruleW_st hR
  have hc0 := hS0.held.cell
  have HT := Lib.hid (callTurns_any enters_call enters_comma s ep g W.heap.size L 0 w0 (ruleW W g) (callP ep) sComma (.func (.func 83) #[.pointer (some ⟨g, 0, none⟩)] #[]) (.pointer (some ⟨g, 0, none⟩)) (.inl rfl) hL (callP_shr ep) (hO.chg hS0.chg) hS0.rd hS0.held (by omega)
    (fun L1 W1 _ h2 h3 _ => call_any s ep g L1 0 w0 W1 h2 h3) (fun L1 W1 h1 h2 h3 => comma_any s ep g W.heap.size L1 0 w0 W1 h1 h2 h3))
  have HS0 := Lib.hid hS0; have HO := Lib.hid hO
  clear hS0 hO hR
  have hrp : ruleP ep L = bnd (turnsP ep (callP ep) sComma L) (fun p => bnd (maybeP ep sWhen p.2) (fun m =>
    bnd (if m.1 = true then exprP ep (oneP ep 64) m.2 else .ok (⟨1, [], 0, 0, 0, 0⟩, m.2)) (fun x =>
      bnd (wantP ep sDo x.2) (fun d => bnd (verdictP ep d.2) (fun v => bnd (wantP ep sSemi v.2) (fun z => .ok (⟨p.1, x.1, v.1⟩, z.2))))))) := rfl
  have HRP := Lib.hid hrp; clear hrp
  rcases ht : turnsP ep (callP ep) sComma L with p | ⟨l, L1⟩
  · have H := Lib.hid ht; clear ht
    go_enter Tryd.func63, Tryd.ntmps63
    go_wp2_with fail
    refine HT.out.mono ?_
    rintro e W2 h
    obtain ⟨rfl, hc2⟩ := h.err H.out
    go_wp2
    exact ⟨rfl, Outs.mk_err (by rw [HRP.out, H.out]; rfl) rfl (HS0.out.chg.trans hc2 (fun k e => .inl e))⟩
  · have hl1 := turnsP_shr ep (callP_shr ep) _ _ _ _ ht
    have H := Lib.hid ht; clear ht
    go_enter Tryd.func63, Tryd.ntmps63
    go_wp2_with fail
    refine HT.out.mono ?_
    rintro e W2 h
    obtain ⟨⟨vc, rfl, hV, hR2⟩, hc2⟩ := h.ok H.out
    obtain ⟨Ac, cc, rfl⟩ := Kd.R_slice hV
    have hS2 := HS0.out.next hgW hc2 hR2
    obtain ⟨y0, y1, y2, y3, y4, y5, y6, y7, y8, yf⟩ := blk9 hS2.hX
    have hS3 := hS2.set0 hgW (.slice Ac l.length cc)
    have hV3 := (hV.chg (Chg.of_set W2 (W.heap.size + 1 + 1) 0 (.slice Ac l.length cc)) (fun k e => by subst e; simp)).lower (base' := W.heap.size + 1 + 1 + 1) (by simp)
    have hc3 := hS3.held.cell
    have HS3 := Lib.hid hS3; have HV3 := Lib.hid hV3
    have HM := Lib.hid (maybe_any s ep g L1 0 sWhen w0 _ (HO.out.chg hS3.chg) hS3.rd)
    clear hS2 hS3 hV hV3 hc2 hR2
    rcases hm : maybeP ep sWhen L1 with p | ⟨bm, L3⟩
    · have HMM := Lib.hid hm; clear hm
      go_wp2_with fail
      refine HM.out.mono ?_
      rintro e W4 h
      obtain ⟨rfl, hc4⟩ := h.err HMM.out
      go_wp2
      exact ⟨rfl, Outs.mk_err (by rw [HRP.out, H.out]; show bnd (maybeP ep sWhen L1) _ = _; rw [HMM.out]; rfl) rfl (HS3.out.chg.trans hc4 (fun k e => .inl e))⟩
    have hl3 := (maybeP_shr hm).1
    have HMM := Lib.hid hm; clear hm
    go_wp2_with fail
    refine HM.out.mono ?_
    rintro e W4 h
    obtain ⟨⟨rfl, hR4⟩, hc4⟩ := h.ok HMM.out
    have hS4 := HS3.out.next hgW hc4 hR4
    have hV4 := HV3.out.chg hc4 (fun k e => by omega)
    have hc5 := hS4.held.cell
    have HS4 := Lib.hid hS4; have HV4 := Lib.hid hV4
    clear hS4 hV4 hc4 hR4 hc3 hc0 HT HM y0 y1 y2 y3 y4 y5 y6 y7 y8 yf
    have hlt4 := HS4.out.lt
    cases bm
    obtain ⟨x, hx⟩ : ∃ x : Ex, x = ⟨1, [], 0, 0, 0, 0⟩ := ⟨_, rfl⟩
    have HRX : Hid (ruleP ep L = bnd (wantP ep sDo L3) (fun d => bnd (verdictP ep d.2) (fun v => bnd (wantP ep sSemi v.2) (fun z => .ok (⟨l, x, v.1⟩, z.2))))) := Lib.hid (by rw [HRP.out, H.out]; show bnd (maybeP ep sWhen L1) _ = _; rw [HMM.out, hx]; rfl)
    obtain ⟨v1, hv1⟩ : ∃ v1 : Value, v1 = .slice none 0 0 := ⟨_, rfl⟩
    have HS6 : Hid (RlSt s ep g 0 W W4 L3 #[.slice Ac l.length cc, .int .i64 x.f0, v1, .int .i64 x.f2, .int .u64 x.f3, .int .i64 x.f4, .int .u64 x.f5, .int .i64 0, .int .u64 0]) := Lib.hid (by rw [hx, hv1]; exact HS4.out)
    have HX6 : Hid (ExRow W4 (W.heap.size + 1 + 1 + 1) v1 x.f1) := Lib.hid (by rw [hx, hv1]; exact Kd.R_nil _ _ _ _ _)
    have HV6 := HV4
    have HIS : Hid (∃ A c, v1 = .slice A x.f1.length c) := Lib.hid ⟨none, 0, by rw [hv1, hx]; rfl⟩
    obtain ⟨L6, hL6⟩ : ∃ L6, L6 = L3 := ⟨_, rfl⟩
    obtain ⟨W6, hW6⟩ : ∃ W6, W6 = W4 := ⟨_, rfl⟩
    go_wp2_with fail
    rw [← hL6] at HS6 HRX
    rw [← hW6] at HS6 HX6 HV6 ⊢
    clear hx hv1 hL6 hW6 HS4 HV4 HRP H HMM hc5
    rotate_left
    have HE := Lib.hid (expr_of s ep g L3 0 w0 W4 (oneP ep 64) (one_any s ep g w0 64 (by omega)) (oneP_shr ep 64) (by omega) (HO.out.chg HS4.out.chg) HS4.out.rd)
    rcases he : exprP ep (oneP ep 64) L3 with p | ⟨x, L6⟩
    · have HEE := Lib.hid he; clear he
      go_wp2_with fail
      refine HE.out.mono ?_
      rintro e W5 h
      obtain ⟨rfl, hc⟩ := h.err HEE.out
      go_wp2
      exact ⟨rfl, Outs.mk_err (by rw [HRP.out, H.out]; show bnd (maybeP ep sWhen L1) _ = _; rw [HMM.out]; show bnd (exprP ep (oneP ep 64) L3) _ = _; rw [HEE.out]; rfl) rfl (HS4.out.chg.trans hc (fun k e => .inl e))⟩
    have HRX : Hid (ruleP ep L = bnd (wantP ep sDo L6) (fun d => bnd (verdictP ep d.2) (fun v => bnd (wantP ep sSemi v.2) (fun z => .ok (⟨l, x, v.1⟩, z.2))))) := Lib.hid (by rw [HRP.out, H.out]; show bnd (maybeP ep sWhen L1) _ = _; rw [HMM.out]; show bnd (exprP ep (oneP ep 64) L3) _ = _; rw [he]; rfl)
    have HEE := Lib.hid he; clear he
    go_wp2_with fail
    refine HE.out.mono ?_
    rintro e W5 h
    obtain ⟨⟨v1, rfl, hX5, hR5⟩, hc⟩ := h.ok HEE.out
    obtain ⟨A1, c1, rfl⟩ := Kd.R_slice hX5
    have hS5 := HS4.out.next hgW hc hR5
    have hV5 := HV4.out.chg hc (fun k e => by omega)
    have hcw := hS5.held.cell
    obtain ⟨y0, y1, y2, y3, y4, y5, y6, y7, y8, yf⟩ := blk9 hS5.hX
    have hS6 := hS5.set16 hgW (.int .i64 x.f0) (.slice A1 x.f1.length c1) (.int .i64 x.f2) (.int .u64 x.f3) (.int .i64 x.f4) (.int .u64 x.f5)
    have hsets : Chg (fun k => k = W.heap.size + 1 + 1) W5 ((((((W5.setCell ⟨W.heap.size + 1 + 1, 1, none⟩ (.int .i64 x.f0)).setCell ⟨W.heap.size + 1 + 1, 2, none⟩ (.slice A1 x.f1.length c1)).setCell ⟨W.heap.size + 1 + 1, 3, none⟩ (.int .i64 x.f2)).setCell ⟨W.heap.size + 1 + 1, 4, none⟩ (.int .u64 x.f3)).setCell ⟨W.heap.size + 1 + 1, 5, none⟩ (.int .i64 x.f4)).setCell ⟨W.heap.size + 1 + 1, 6, none⟩ (.int .u64 x.f5)) :=
      (((((Chg.of_set W5 (W.heap.size + 1 + 1) 1 _).trans (Chg.of_set _ _ 2 _) (fun k e => .inl e)).trans (Chg.of_set _ _ 3 _) (fun k e => .inl e)).trans (Chg.of_set _ _ 4 _) (fun k e => .inl e)).trans (Chg.of_set _ _ 5 _) (fun k e => .inl e)).trans (Chg.of_set _ _ 6 _) (fun k e => .inl e)
    have HX6 := Lib.hid ((hX5.chg hsets (fun k e => by omega)).lower (base' := W.heap.size + 1 + 1 + 1) (by omega))
    have HV6 := Lib.hid (hV5.chg hsets (fun k e => by omega))
    have HIS : Hid (∃ A c, Value.slice A1 x.f1.length c1 = .slice A x.f1.length c) := Lib.hid ⟨_, _, rfl⟩
    have HS6 := Lib.hid hS6
    clear hX5 hR5 hc hS5 hV5 hS6 hsets
    unfold exAgg
    go_wp2_with fail
    obtain ⟨W6, hW6⟩ : ∃ W6, W6 = (((((W5.setCell ⟨W.heap.size + 1 + 1, 1, none⟩ (.int .i64 x.f0)).setCell ⟨W.heap.size + 1 + 1, 2, none⟩ (.slice A1 x.f1.length c1)).setCell ⟨W.heap.size + 1 + 1, 3, none⟩ (.int .i64 x.f2)).setCell ⟨W.heap.size + 1 + 1, 4, none⟩ (.int .u64 x.f3)).setCell ⟨W.heap.size + 1 + 1, 5, none⟩ (.int .i64 x.f4)).setCell ⟨W.heap.size + 1 + 1, 6, none⟩ (.int .u64 x.f5) := ⟨_, rfl⟩
    rw [← hW6] at HS6 HX6 HV6 ⊢
    clear hW6
    obtain ⟨v1, hv1⟩ : ∃ v1, v1 = Value.slice A1 x.f1.length c1 := ⟨_, rfl⟩
    rw [← hv1] at HS6 HX6 HIS ⊢
    clear hv1
    clear HS4 HV4 HRP H HMM hc5 hcw y0 y1 y2 y3 y4 y5 y6 y7 y8 yf HE HEE
    all_goals
      have HW := Lib.hid (want_any s ep g L6 0 sDo w0 W6 (HO.out.chg HS6.out.chg) HS6.out.rd)
      rcases hw : wantP ep sDo L6 with p | ⟨u, L7⟩
      · have HWE := Lib.hid hw; clear hw
        go_wp2_with fail
        refine HW.out.mono ?_
        rintro e W7 h
        obtain ⟨rfl, hc⟩ := h.err HWE.out
        go_wp2
        exact ⟨rfl, Outs.mk_err (by rw [HRX.out, HWE.out]; rfl) rfl (HS6.out.chg.trans hc (fun k e => .inl e))⟩
      have HWE := Lib.hid hw; clear hw
      go_wp2_with fail
      refine HW.out.mono ?_
      rintro e W7 h
      obtain ⟨⟨rfl, hR7⟩, hc⟩ := h.ok HWE.out
      have HS7 := Lib.hid (HS6.out.next hgW hc hR7)
      have HV7 := Lib.hid (HV6.out.chg hc (fun k e => by omega)); have HX7 := Lib.hid (HX6.out.chg hc (fun k e => by omega))
      have hcell7 := HS7.out.held.cell
      have HVD := Lib.hid (verdict_any s ep g L7 0 w0 W7 (HO.out.chg HS7.out.chg) HS7.out.rd)
      clear hR7 hc HS6 HV6 HX6 HW
      rcases hv : verdictP ep L7 with p | ⟨vd, L8⟩
      · have HVE := Lib.hid hv; clear hv
        go_wp2_with fail
        refine HVD.out.mono ?_
        rintro e W8 h
        obtain ⟨rfl, hc⟩ := h.err HVE.out
        go_wp2
        exact ⟨rfl, Outs.mk_err (by rw [HRX.out, HWE.out]; show bnd (verdictP ep L7) _ = _; rw [HVE.out]; rfl) rfl (HS7.out.chg.trans hc (fun k e => .inl e))⟩
      have HVE := Lib.hid hv; clear hv
      go_wp2_with fail
      refine HVD.out.mono ?_
      rintro e W8 h
      obtain ⟨⟨rfl, hR8⟩, hc⟩ := h.ok HVE.out
      have hS8 := HS7.out.next hgW hc hR8
      have hcell8 := hS8.held.cell
      obtain ⟨y0, y1, y2, y3, y4, y5, y6, y7, y8, yf⟩ := blk9 hS8.hX
      have hset9 : Chg (fun k => k = W.heap.size + 1 + 1) W8 ((W8.setCell ⟨W.heap.size + 1 + 1, 7, none⟩ (.int .i64 vd.f0)).setCell ⟨W.heap.size + 1 + 1, 8, none⟩ (.int .u64 vd.f1)) := (Chg.of_set W8 (W.heap.size + 1 + 1) 7 _).trans (Chg.of_set _ _ 8 _) (fun k e => .inl e)
      have HS9 := Lib.hid (hS8.set78 hgW (.int .i64 vd.f0) (.int .u64 vd.f1))
      have HV9 := Lib.hid ((HV7.out.chg hc (fun k e => by omega)).chg hset9 (fun k e => by omega)); have HX9 := Lib.hid ((HX7.out.chg hc (fun k e => by omega)).chg hset9 (fun k e => by omega))
      have HWS := Lib.hid (want_any s ep g L8 0 sSemi w0 _ (HO.out.chg HS9.out.chg) HS9.out.rd)
      clear hS8 hR8 hc hset9 HS7 HV7 HX7 HVD hcell7
      unfold vdVal
      rcases hw : wantP ep sSemi L8 with p | ⟨u, LA⟩
      · have HWF := Lib.hid hw; clear hw
        go_wp2_with fail
        refine HWS.out.mono ?_
        rintro e WA h
        obtain ⟨rfl, hc⟩ := h.err HWF.out
        go_wp2
        exact ⟨rfl, Outs.mk_err (by rw [HRX.out, HWE.out]; show bnd (verdictP ep L7) _ = _; rw [HVE.out]; show bnd (wantP ep sSemi L8) _ = _; rw [HWF.out]; rfl) rfl (HS9.out.chg.trans hc (fun k e => .inl e))⟩
      have HWF := Lib.hid hw; clear hw
      go_wp2_with fail
      refine HWS.out.mono ?_
      rintro e WA h
      obtain ⟨⟨rfl, hRA⟩, hc⟩ := h.ok HWF.out
      have hSA := HS9.out.next hgW hc hRA
      have HVA := Lib.hid (HV9.out.chg hc (fun k e => by omega)); have HXA := Lib.hid (HX9.out.chg hc (fun k e => by omega))
      clear y0 y1 y2 y3 y4 y5 y6 y7 y8 yf hcell8
      obtain ⟨y0, y1, y2, y3, y4, y5, y6, y7, y8, yf⟩ := blk9 hSA.hX
      obtain ⟨z0, z1, z2, z3, z4, z5, z6, z7, z8, zf⟩ := blk9 hSA.hB
      have HSA := Lib.hid hSA
      obtain ⟨A1, c1, hv1⟩ := HIS.out
      subst hv1
      clear hSA hRA hc HS9 HV9 HX9 HWS
      go_wp2
      have hlt := HSA.out.lt
      obtain ⟨e1, e2⟩ := sets9 HSA.out.hB (.slice Ac l.length cc) (.int .i64 x.f0) (.slice A1 x.f1.length c1) (.int .i64 x.f2) (.int .u64 x.f3) (.int .i64 x.f4) (.int .u64 x.f5) (.int .i64 vd.f0) (.int .u64 vd.f1)
      obtain ⟨r0, r1, r2, r3, r4, r5, r6, r7, r8, rf⟩ := blk9 e1
      refine bodyPost_ret (v := rlAgg ⟨l, x, vd⟩ (.slice Ac l.length cc) (.slice A1 x.f1.length c1)) (by simp [results, Tryd.results63, go_sem, r0, r1, r2, r3, r4, r5, r6, r7, r8]) rfl ?_
      refine Outs.mk_ok (b := (⟨l, x, vd⟩, LA)) (by rw [HRX.out, HWE.out]; show bnd (verdictP ep L7) _ = _; rw [HVE.out]; show bnd (wantP ep sSemi L8) _ = _; rw [HWF.out]; rfl) ⟨_, _, rfl, ?_, ?_, ?_⟩ (HSA.out.chg.trans e2 (fun k e => .inr (by omega)))
      · exact (HVA.out.chg e2 (fun k e => by omega)).lower (by omega)
      · exact (HXA.out.chg e2 (fun k e => by omega)).lower (by omega)
      · exact HSA.out.rd.chgd e2 (by omega)
end Go.Proofs.YtlmopoipjolbgaaDoor.LexW
