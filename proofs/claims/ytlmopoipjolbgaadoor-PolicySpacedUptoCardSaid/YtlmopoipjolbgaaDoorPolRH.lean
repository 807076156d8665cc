/-
  Layer 6 (policy): ParseExpr.
-/
import Derived.Test.YtlmopoipjolbgaaDoorPolRG
import Derived.Test.YtlmopoipjolbgaaDoorPolNZ
namespace Go.Proofs.YtlmopoipjolbgaaDoor.LexW
open Go.RowKit Go.Shelf Go.Proofs.YtlmopoipjolbgaaDoor.LexS Go.Proofs.YtlmopoipjolbgaaDoorW.PrintWords
set_option linter.unusedVariables false
set_option linter.unusedSimpArgs false

/-- a box that holds an expression -/
def ExBox (bx base : Nat) (x : Ex) (W : World) : Prop := ∃ v, W.heap[bx]? = some (.cells #[.int .i64 x.f0, v, .int .i64 x.f2, .int .u64 x.f3, .int .i64 x.f4, .int .u64 x.f5] 58 (0, 0)) ∧ ExRow W base v x.f1
theorem ExBox.chg {S : Nat → Prop} {W W' : World} {bx base : Nat} {x : Ex} (h : ExBox bx base x W) (hc : Chg S W W') (hn : ¬ S bx) (hS : ∀ k, S k → k < base) : ExBox bx base x W' :=
  let ⟨v, hb, hr⟩ := h; ⟨v, chg_block hc hb hn, hr.chg hc hS⟩
theorem enters_pe1 : Enters Tryd.prog 44 := enters_of Tryd.func44 (by kernel_rfl) rfl

set_option maxRecDepth 100000 in
set_option maxHeartbeats 1000000 in
theorem pe1_any (s : ByteArray) (ep : EP) (g bx base : Nat) (L : List Tk) (w0 W : World) (hL : L.length ≤ 65537) (hO : Okw w0 g W) (hR : Rdr s ep g L 0 W) (hbx : bx < base) (hbg : bx ≠ g) (hbase : base ≤ W.heap.size) (hz : W.heap[bx]? = some (.cells #[.int .i64 0, .slice none 0 0, .int .i64 0, .int .u64 0, .int .i64 0, .int .u64 0] 58 (0, 0))) :
    Calls Tryd.prog 44 #[.pointer (some ⟨g, 0, none⟩), .pointer (some ⟨bx, 0, none⟩)] W (DoOut s ep g bx (ExBox bx base) W (exprP ep (oneP ep 64) L)) := by
  have HE := Lib.hid (expr_of s ep g L 0 w0 W (oneP ep 64) (one_any s ep g w0 64 (by omega)) (oneP_shr ep 64) hL hO hR)
  have HZ := Lib.hid hz
  clear hO hR hz
  rcases he : exprP ep (oneP ep 64) L with p | ⟨x, L1⟩
  · have H := Lib.hid he; clear he
    go_enter Tryd.func44, Tryd.ntmps44
    go_wp2_with fail
    refine HE.out.mono ?_
    rintro e W2 h
    obtain ⟨rfl, hc⟩ := h.err H.out
    go_wp2
    exact ⟨rfl, rfl, hc.wider (fun k e => .inl e)⟩
  · have H := Lib.hid he; clear he
    go_enter Tryd.func44, Tryd.ntmps44
    go_wp2_with fail
    refine HE.out.mono ?_
    rintro e W2 h
    obtain ⟨⟨v, rfl, hX, hR2⟩, hc⟩ := h.ok H.out
    obtain ⟨A, c, rfl⟩ := Kd.R_slice hX
    have hz2 := chg_block hc HZ.out hbg
    obtain ⟨z0, z1, z2, z3, z4, z5, zf⟩ := blk6 hz2
    have HX := Lib.hid hX; have HR2 := Lib.hid hR2; have HC := Lib.hid hc; have HZ2 := Lib.hid hz2
    clear hX hR2 hc hz2
    unfold exAgg
    go_wp2
    go_end0
    have hs := (Chg.refl (fun k => k = bx) W2).sets6' bx (fun k e => e) (.int .i64 x.f0) (.slice A x.f1.length c) (.int .i64 x.f2) (.int .u64 x.f3) (.int .i64 x.f4) (.int .u64 x.f5)
    exact ⟨⟨rfl, HR2.out.far6 bx (by omega) _ _ _ _ _ _, _, blk_sets6 HZ2.out _ _ _ _ _ _, (HX.out.chg hs (fun k e => by omega)).lower hbase⟩, (HC.out.wider (fun k e => .inl e)).trans hs (fun k e => .inl (.inr e))⟩

def PexOut (base : Nat) (p : Ex × EP) (e : Ending) (W' : World) : Prop := ∃ v, e = .returned (.tuple #[exAgg p.1 v, .int .i64 p.2.1, .int .i64 p.2.2]) ∧ ExRow W' base v p.1.f1

set_option maxRecDepth 100000 in
set_option maxHeartbeats 1000000 in
theorem pexpr_any (s : ByteArray) (w0 W : World) (hE : Env w0) (hb : Below w0.heap.size w0 W) (hlen : (toks s).1.length ≤ 65537) :
    Calls Tryd.prog 23 #[.string s] W fun e W' => PexOut W.heap.size (exprV s) e W' ∧ Below W.heap.size W W' := by
  have hmf : ∀ (fn : Fn) (first cap : Array Value) (w : World), (Instr.makeFunc fn first cap).run Tryd.prog w = .ok (.func fn first cap) w := fun _ _ _ _ => rfl
  have hal : Below W.heap.size W ((W.alloc exZero).alloc exZero) := ((Below.refl W.heap.size W).alloc (Nat.le_refl _) _).alloc (by simp) _
  have hz1 : ((W.alloc exZero).alloc exZero).heap[W.heap.size]? = some (.cells #[.int .i64 0, .slice none 0 0, .int .i64 0, .int .u64 0, .int .i64 0, .int .u64 0] 58 (0, 0)) := blk_past _ (new_blk W _ _)
  have hz2 : ((W.alloc exZero).alloc exZero).heap[W.heap.size + 1]? = some (.cells #[.int .i64 0, .slice none 0 0, .int .i64 0, .int .u64 0, .int .i64 0, .int .u64 0] 58 (0, 0)) := new_blk' (by simp) _ _
  have hsz : ((W.alloc exZero).alloc exZero).heap.size = W.heap.size + 2 := by simp
  have hws := hb.size
  have HT := Lib.hid (tried_any enters_pe1 s (W.heap.size + 1) w0 ((W.alloc exZero).alloc exZero) hE (hb.trans (hal.mono hb.size)) (by omega) (by omega) (fun ep => exprP ep (oneP ep 64)) (ExBox (W.heap.size + 1) (W.heap.size + 4)) hlen
    (fun x A B h hc => h.chg hc (by omega) (fun k e => by omega))
    (fun L W1 h1 h2 h3 h4 h5 => pe1_any s _ _ (W.heap.size + 1) (W.heap.size + 4) L w0 W1 h1 h2 h3 (by omega) (by omega) (by omega) (h4.trans hz2)))
  have HAL := Lib.hid hal; have HZ1 := Lib.hid hz1
  clear hE hb hlen hal hz1 hz2
  have HNZ := Lib.hid (wholeP_nz (fun ep => expr_nz ep (one_nz ep 64)) s)
  unfold exprV
  rcases hw : wholeP (fun ep => exprP ep (oneP ep 64)) s with p | x
  · rw [hw] at HT HNZ
    clear hw
    go_enter Tryd.func23, Tryd.ntmps23
    go_wp2_with fail
    refine HT.out.mono ?_
    rintro e W2 ⟨rfl, hc⟩
    have hp : (p.1 != 0) = true := by rw [bne_iff_ne]; exact HNZ.out p rfl
    have hz1 := chg_block hc HZ1.out (by omega)
    obtain ⟨z0, z1, z2, z3, z4, z5, zf⟩ := blk6 hz1
    obtain ⟨u0, u1, u2, u3, u4, u5, uf⟩ := blk6 (blk_past (.cells #[.int .i64 p.1, .int .i64 p.2] 76) hz1)
    have hs2 := hc.size
    have hne1 : ¬ (W2.heap.size = W.heap.size) := by omega
    have hne2 : ¬ (W.heap.size = W2.heap.size) := by omega
    have HC := Lib.hid hc; have HZ := Lib.hid hz1
    clear hc hz1
    go_wp2
    go_region
    all_goals go_wp2
    all_goals
      have hal2 := (Below.refl W2.heap.size W2).alloc (Nat.le_refl _) (.cells #[.int .i64 p.1, .int .i64 p.2] 76)
      have hb6 := blk_sets6 (blk_past (.cells #[.int .i64 p.1, .int .i64 p.2] 76) HZ.out) (.int .i64 0) (.slice none 0 0) (.int .i64 0) (.int .u64 0) (.int .i64 0) (.int .u64 0)
      obtain ⟨r0, r1, r2, r3, r4, r5, rf⟩ := blk6 hb6
      have hcB : Chg (fun k => k = W.heap.size) W2 _ := (Chg.of_below hal2 (fun k => k = W.heap.size)).sets6' W.heap.size (fun k e => e) (.int .i64 0) (.slice none 0 0) (.int .i64 0) (.int .u64 0) (.int .i64 0) (.int .u64 0)
      refine bodyPost_ret (v := .tuple #[exAgg zEx (.slice none 0 0), .int .i64 p.1, .int .i64 p.2]) (by simp [results, Tryd.results23, go_sem, r0, r1, r2, r3, r4, r5, zEx, exAgg]) rfl ?_
      refine ⟨⟨.slice none 0 0, rfl, Kd.R_nil _ _ _ _ _⟩, ?_⟩
      exact ((HAL.out.trans (HC.out.below (B := W.heap.size) (by rw [hsz]; omega) (fun k e => by omega))).trans (hcB.below (by omega) (fun k e => by omega))).drew
  · rw [hw] at HT HNZ
    clear hw
    go_enter Tryd.func23, Tryd.ntmps23
    go_wp2_with fail
    refine HT.out.mono ?_
    rintro e W2 ⟨⟨rfl, v, hB, hX⟩, hc⟩
    have hz1 := chg_block hc HZ1.out (by omega)
    obtain ⟨z0, z1, z2, z3, z4, z5, zf⟩ := blk6 hz1
    obtain ⟨y0, y1, y2, y3, y4, y5, yf⟩ := blk6 hB
    obtain ⟨A, c, rfl⟩ := Kd.R_slice hX
    obtain ⟨u0, u1, u2, u3, u4, u5, uf⟩ := blk6 (blk_past (.cells #[.int .i64 0, .int .i64 0] 76) hz1)
    obtain ⟨v0, v1, v2, v3, v4, v5, vf⟩ := blk6 (blk_past (.cells #[.int .i64 0, .int .i64 0] 76) hB)
    have HC := Lib.hid hc; have HZ := Lib.hid hz1; have HX := Lib.hid hX; have HB := Lib.hid hB
    have hs2 := hc.size
    have hne1 : ¬ (W2.heap.size = W.heap.size) := by omega
    have hne2 : ¬ (W.heap.size = W2.heap.size) := by omega
    clear hc hz1 hX hB
    go_wp2
    have hal2 := (Below.refl W2.heap.size W2).alloc (Nat.le_refl _) (.cells #[.int .i64 0, .int .i64 0] 76)
    have hb6 := blk_sets6 (blk_past (.cells #[.int .i64 0, .int .i64 0] 76) HZ.out) (.int .i64 x.f0) (.slice A x.f1.length c) (.int .i64 x.f2) (.int .u64 x.f3) (.int .i64 x.f4) (.int .u64 x.f5)
    obtain ⟨r0, r1, r2, r3, r4, r5, rf⟩ := blk6 hb6
    have hcB : Chg (fun k => k = W.heap.size) W2 _ := (Chg.of_below hal2 (fun k => k = W.heap.size)).sets6' W.heap.size (fun k e => e) (.int .i64 x.f0) (.slice A x.f1.length c) (.int .i64 x.f2) (.int .u64 x.f3) (.int .i64 x.f4) (.int .u64 x.f5)
    refine bodyPost_ret (v := .tuple #[exAgg x (.slice A x.f1.length c), .int .i64 0, .int .i64 0]) (by simp [results, Tryd.results23, go_sem, r0, r1, r2, r3, r4, r5]) rfl ?_
    refine ⟨⟨.slice A x.f1.length c, rfl, (HX.out.chg hcB (fun k e => by omega)).lower (by omega)⟩, ?_⟩
    exact (HAL.out.trans (HC.out.below (B := W.heap.size) (by rw [hsz]; omega) (fun k e => by omega))).trans (hcB.below (by omega) (fun k e => by omega))

end Go.Proofs.YtlmopoipjolbgaaDoor.LexW
