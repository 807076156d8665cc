/-
  Layer 6 (policy): tried: a reader that gives up is caught. · Layer 6 (policy): ParseExpr. · The walk of ravelinlaw06.lives. · Layer 6 (policy): a policy: its head. · Layer 6 (policy): Parse.
-/
import Derived.Defers
import Derived.Recover
import Derived.Test.YtlmopoipjolbgaaGreatDoorM10
import Derived.Test.YtlmopoipjolbgaaGreatDoorM05
import Derived.Deep.RegionLaw
import Derived.Deep.RegionHeld3
namespace Go.Proofs.YtlmopoipjolbgaaGreatDoor.LexW
open Go.RowKit Go.Shelf Go.Proofs.YtlmopoipjolbgaaGreatDoor.LexS Go.Proofs.YtlmopoipjolbgaaGreatDoorW.PrintWords
set_option linter.unusedVariables false
set_option linter.unusedSimpArgs false

theorem assert_wrong (a b : Int) (w : World) : (Instr.typeAssert (.iface 49 (.agg #[.int .i64 a, .int .i64 b])) 20 49 false).run Tryz.prog w = .ok (.agg #[.int .i64 a, .int .i64 b]) w := by kernel_rfl
theorem catch_panicking (B : Nat) (p : EP) (u0 u1 : Value) (older : List PanicEntry) (w : World) (hz : w.heap[B]? = some (.cells #[u0, u1] 49 (0, 0))) :
    CallsD Tryz.prog 54 #[.pointer (some ⟨B, 0, none⟩)] (.panicking ({ v := wrongV p, recovered := false } :: older)) w fun e u' w' =>
      e = .returned (.tuple #[]) ∧ u' = .panicking ({ v := wrongV p, recovered := true } :: older) ∧ w' = (w.setCell ⟨B, 0, none⟩ (.int .i64 p.1)).setCell ⟨B, 1, none⟩ (.int .i64 p.2) := by
  obtain ⟨z0, z1, zf⟩ := blk2 hz
  unfold wrongV
  refine callsD_of_wpS Tryz.func54 rfl fun c₀ cs hu => ?_
  apply wpS_seq
  apply wpS_region
  simp [wpOpsS, go_sem, recoverD, hu, Tryz.ntmps54, Exit.thenS]
  apply wpS_seq
  apply wpS_region
  simp [wpOpsS, go_sem, Exit.thenS]
  refine wpS_cond (t := true) (by simp [Act.eval, Array.replicate]) ?_
  simp only [if_true]
  apply wpS_region
  simp [wpOpsS, go_sem, assert_wrong, z0, z1, zf, bodyPostS, results, Tryz.results54]
theorem catch_idle (B : Nat) (w : World) :
    CallsD Tryz.prog 54 #[.pointer (some ⟨B, 0, none⟩)] .returning w fun e u' w' => e = .returned (.tuple #[]) ∧ u' = .returning ∧ w' = w := by
  refine callsD_of_wpS Tryz.func54 rfl fun c₀ cs hu => ?_
  apply wpS_seq
  apply wpS_region
  simp [wpOpsS, go_sem, recoverD, hu, Tryz.ntmps54, Exit.thenS]
  apply wpS_seq
  apply wpS_region
  simp [wpOpsS, go_sem, Exit.thenS]
  refine wpS_cond (t := false) (by simp [Act.eval, Array.replicate]) ?_
  simp only [Bool.false_eq_true, if_false]
  refine wpS_of_wp (wp_skip ?_)
  cases c₀
  simp_all [bodyPostS, results, Tryz.results54]

abbrev triedW (W : World) (s : ByteArray) : World := (W.alloc (.cells #[.int .i64 0, .int .i64 0] 49)).alloc (.cells #[.string s, .int .i64 0, .string ⟨#[]⟩, .int .u64 0, .int .i64 0, .int .i64 0, .int .i64 0] 101)
/-- what a reader that is tried does: it fills its box bx, or gives up -/
def DoOut {α : Type} (s : ByteArray) (ep : EP) (g bx : Nat) (PB : α → World → Prop) (W : World) (r : Rd α) (e : Ending) (W' : World) : Prop :=
  (match r with | .ok p => e = .returned (.tuple #[]) ∧ Rdr s ep g p.2 0 W' ∧ PB p.1 W' | .error p => e = panics p) ∧ Chg (fun k => k = g ∨ k = bx) W W'
def TriedOut {α : Type} (bx : Nat) (PB : α → World → Prop) (W : World) (r : Except EP α) (e : Ending) (W' : World) : Prop :=
  (match r with | .ok x => e = .returned (.agg #[.int .i64 0, .int .i64 0]) ∧ PB x W' | .error p => e = .returned (.agg #[.int .i64 p.1, .int .i64 p.2])) ∧ Chg (fun k => k = bx) W W'

set_option maxRecDepth 100000 in
set_option maxHeartbeats 2000000 in
theorem tried_any {α : Type} {f : Nat} (he : Enters Tryz.prog f) (s : ByteArray) (bx : Nat) (w0 W : World) (hE : Env w0) (hb : Below w0.heap.size w0 W) (hbx : bx < W.heap.size) (hbx0 : w0.heap.size ≤ bx) (fS : EP → List Tk → Rd α) (PB : α → World → Prop) (hlen : (toks s).1.length ≤ 65537)
    (hPB : ∀ x A B, PB x A → Chg (fun k => k = W.heap.size + 1 ∨ k = W.heap.size) A B → PB x B)
    (hdo : ∀ L W1, L.length ≤ 65537 → Okw w0 (W.heap.size + 1) W1 → Rdr s (toks s).2 (W.heap.size + 1) L 0 W1 → W1.heap[bx]? = W.heap[bx]? → W.heap.size + 1 < W1.heap.size → Calls Tryz.prog f #[.pointer (some ⟨W.heap.size + 1, 0, none⟩), .pointer (some ⟨bx, 0, none⟩)] W1 (DoOut s (toks s).2 (W.heap.size + 1) bx PB W1 (fS (toks s).2 L))) :
    Calls Tryz.prog 22 #[.string s, .func (.func f) #[] #[.pointer (some ⟨bx, 0, none⟩)]] W (TriedOut bx PB W (wholeP fS s)) := by
  have hmf : ∀ (fn : Fn) (first cap : Array Value) (w : World), (Instr.makeFunc fn first cap).run Tryz.prog w = .ok (.func fn first cap) w := fun _ _ _ _ => rfl
  have heg : ∀ (args : Array Value) (w : World), (callFunc f args).run Tryz.prog w = .ok (.enter f args) w := he
  have hal : Below W.heap.size W (triedW W s) := ((Below.refl W.heap.size W).alloc (Nat.le_refl _) _).alloc (by simp) _
  have hO : Okw w0 (W.heap.size + 1) (triedW W s) := ⟨hE, by have := hb.size; omega, hb.trans (hal.mono hb.size)⟩
  have hRB : RdB (triedW W s) (W.heap.size + 1) s tkz (0 : Nat) 0 := new_blk' (by simp) _ _
  have hwz : (triedW W s).heap[W.heap.size]? = some (.cells #[.int .i64 0, .int .i64 0] 49 (0, 0)) := blk_past _ (new_blk W _ _)
  have hsz : (triedW W s).heap.size = W.heap.size + 2 := by simp
  rcases ht : (toks s).1 with _ | ⟨t1, r1⟩
  · have hT : toksA s 0 = ([], (toks s).2) := by show toks s = _; rw [← ht]
    have hwh : wholeP fS s = .error (toks s).2 := by unfold wholeP; rw [ht]
    have HS := Lib.hid (step_err s (toks s).2 (W.heap.size + 1) 0 tkz 0 w0 (triedW W s) hE hO.hg hO.hb hRB hT)
    rw [hwh]
    generalize (toks s).2 = ep at *
    have HZ := Lib.hid hwz; have HAL := Lib.hid hal
    clear hT ht hwh hdo hPB hO hRB hal hwz hE hb he
    go_enter_defers Tryz.func22, Tryz.ntmps22
    go_wp2_with fail
    refine HS.out.mono ?_
    rintro e W2 ⟨hpe, hc⟩
    unfold panics at hpe
    subst hpe
    go_wp2
    have hz2 := chg_block hc HZ.out (by omega)
    have hcW : Chg (fun k => k = bx) W W2 := (Chg.of_below HAL.out _).trans hc (fun k e => .inr (by omega))
    refine leaves_cons (f := 54) (args := #[.pointer (some ⟨W.heap.size, 0, none⟩)]) (by simp) (by simp [go_sem]) ?_
    refine (catch_panicking W.heap.size ep _ _ [] W2 hz2).mono ?_
    rintro e u' w'' ⟨rfl, rfl, rfl⟩
    have hz9 := blk_set (blk_set hz2 0 (.int .i64 ep.1)) 1 (.int .i64 ep.2)
    obtain ⟨r0, r1, rf⟩ := blk2 hz9
    simp [Leaves, settle, results, Tryz.results22, go_sem, r0, r1]
    exact ⟨rfl, (hcW.set1 W.heap.size 0 (Nat.le_refl _) _).set1 W.heap.size 1 (Nat.le_refl _) _⟩
  · have hT : toksA s 0 = (t1 :: r1, (toks s).2) := by show toks s = _; rw [← ht]
    have hlen' : (t1 :: r1).length ≤ 65537 := by rw [← ht]; exact hlen
    have hwh : wholeP fS s = bnd (fS (toks s).2 (t1 :: r1)) (fun p => bnd (kindP (toks s).2 1 p.2) (fun _ => .ok p.1)) := by unfold wholeP; rw [ht]
    have HS := Lib.hid (step_ok s (toks s).2 (W.heap.size + 1) 0 tkz t1 r1 0 w0 (triedW W s) hE hO.hg hO.hb hRB hT)
    have hdo := hdo (t1 :: r1)
    generalize (toks s).2 = ep at *
    generalize t1 :: r1 = L at *
    have HZ := Lib.hid hwz; have HAL := Lib.hid hal; have HO := Lib.hid hO; have HDO := Lib.hid hdo; have HPB := Lib.hid hPB; have HWH := Lib.hid hwh
    clear hT ht hwh hdo hPB hO hRB hal hwz hE hb he hlen
    go_enter_defers Tryz.func22, Tryz.ntmps22
    go_wp2_with fail
    refine HS.out.mono ?_
    rintro e W2 ⟨rfl, hR2, hc⟩
    have hz2 := chg_block hc HZ.out (by omega)
    have hcW : Chg (fun k => k = bx) W W2 := (Chg.of_below HAL.out _).trans hc (fun k e => .inr (by omega))
    have hbx2 : W2.heap[bx]? = W.heap[bx]? := (hc.block bx (by omega) (by omega)).trans (HAL.out.block bx hbx)
    have hs2 : W.heap.size + 1 < W2.heap.size := hR2.lt
    have HD := Lib.hid (HDO.out W2 hlen' (HO.out.chg hc) hR2 hbx2 hs2)
    have HO2 := Lib.hid (HO.out.chg hc); have HZ2 := Lib.hid hz2; have HCW := Lib.hid hcW
    clear hc hR2 hz2 hcW hbx2
    rcases hf : fS ep L with p | ⟨x, L'⟩
    · have HF := Lib.hid hf; clear hf
      go_wp2_with fail
      refine HD.out.mono ?_
      rintro e W3 h
      rw [HF.out] at h
      obtain ⟨hpe, hc3⟩ := h
      unfold panics at hpe
      subst hpe
      go_wp2
      have hz3 := chg_block hc3 HZ2.out (by omega)
      have hcW3 : Chg (fun k => k = bx) W W3 := HCW.out.trans hc3 (fun k e => e.elim (fun e => .inr (by omega)) (fun e => .inl e))
      have hw3 : wholeP fS s = .error p := by rw [HWH.out, HF.out]; rfl
      rw [hw3]
      refine leaves_cons (f := 54) (args := #[.pointer (some ⟨W.heap.size, 0, none⟩)]) (by simp) (by simp [go_sem]) ?_
      refine (catch_panicking W.heap.size p _ _ [] W3 hz3).mono ?_
      rintro e u' w'' ⟨rfl, rfl, rfl⟩
      have hz9 := blk_set (blk_set hz3 0 (.int .i64 p.1)) 1 (.int .i64 p.2)
      obtain ⟨r0, r1, rf⟩ := blk2 hz9
      simp [Leaves, settle, results, Tryz.results22, go_sem, r0, r1]
      exact ⟨rfl, (hcW3.set1 W.heap.size 0 (Nat.le_refl _) _).set1 W.heap.size 1 (Nat.le_refl _) _⟩
    · have HF := Lib.hid hf; clear hf
      go_wp2_with fail
      refine HD.out.mono ?_
      rintro e W3 h
      rw [HF.out] at h
      obtain ⟨⟨rfl, hR3, hP3⟩, hc3⟩ := h
      have hz3 := chg_block hc3 HZ2.out (by omega)
      have hcW3 : Chg (fun k => k = bx) W W3 := HCW.out.trans hc3 (fun k e => e.elim (fun e => .inr (by omega)) (fun e => .inl e))
      have hO3 : Okw w0 (W.heap.size + 1) W3 := ⟨HO2.out.env, HO2.out.hg, HO2.out.hb.trans (hc3.below HO2.out.hb.size (fun k e => by have := HO2.out.hg; omega))⟩
      have HK := Lib.hid (kind_any s ep (W.heap.size + 1) L' 0 1 w0 W3 hO3 hR3)
      have HP3 := Lib.hid hP3; have HZ3 := Lib.hid hz3; have HC3 := Lib.hid hcW3
      clear hR3 hP3 hc3 hz3 hcW3 hO3
      rcases hk : kindP ep 1 L' with p | ⟨q, L3⟩
      · have HKE := Lib.hid hk; clear hk
        go_wp2_with fail
        refine HK.out.mono ?_
        rintro e W4 h
        obtain ⟨rfl, hc4⟩ := h.err HKE.out
        go_wp2
        have hz4 := chg_block hc4 HZ3.out (by omega)
        have hcW4 : Chg (fun k => k = bx) W W4 := HC3.out.trans hc4 (fun k e => .inr (by omega))
        have hw4 : wholeP fS s = .error p := by rw [HWH.out, HF.out]; show bnd (kindP ep 1 L') _ = _; rw [HKE.out]; rfl
        rw [hw4]
        refine leaves_cons (f := 54) (args := #[.pointer (some ⟨W.heap.size, 0, none⟩)]) (by simp) (by simp [go_sem]) ?_
        refine (catch_panicking W.heap.size p _ _ [] W4 hz4).mono ?_
        rintro e u' w'' ⟨rfl, rfl, rfl⟩
        have hz9 := blk_set (blk_set hz4 0 (.int .i64 p.1)) 1 (.int .i64 p.2)
        obtain ⟨r0, r1, rf⟩ := blk2 hz9
        simp [Leaves, settle, results, Tryz.results22, go_sem, r0, r1]
        exact ⟨rfl, (hcW4.set1 W.heap.size 0 (Nat.le_refl _) _).set1 W.heap.size 1 (Nat.le_refl _) _⟩
      · have HKE := Lib.hid hk; clear hk
        go_wp2_with fail
        refine HK.out.mono ?_
        rintro e W4 h
        obtain ⟨⟨rfl, hR4⟩, hc4⟩ := h.ok HKE.out
        have hz4 := chg_block hc4 HZ3.out (by omega)
        have hcW4 : Chg (fun k => k = bx) W W4 := HC3.out.trans hc4 (fun k e => .inr (by omega))
        have hw4 : wholeP fS s = .ok x := by rw [HWH.out, HF.out]; show bnd (kindP ep 1 L') _ = _; rw [HKE.out]; rfl
        have hP4 := HPB.out x W3 W4 HP3.out (hc4.wider (fun k e => .inl e))
        obtain ⟨r0, r1, rf⟩ := blk2 hz4
        clear hR4 hc4
        unfold tkVal
        go_wp2
        refine leaves_cons (f := 54) (args := #[.pointer (some ⟨W.heap.size, 0, none⟩)]) (by simp) (by simp [go_sem]) ?_
        refine (catch_idle W.heap.size W4).mono ?_
        rintro e u' w'' ⟨rfl, rfl, rfl⟩
        rw [hw4]
        simp [Leaves, settle, results, Tryz.results22, go_sem, r0, r1]
        exact ⟨⟨rfl, hP4⟩, hcW4⟩
end Go.Proofs.YtlmopoipjolbgaaGreatDoor.LexW
namespace Go.Proofs.YtlmopoipjolbgaaGreatDoor.LexW
open Go.RowKit Go.Shelf Go.Proofs.YtlmopoipjolbgaaGreatDoor.LexS Go.Proofs.YtlmopoipjolbgaaGreatDoorW.PrintWords
set_option linter.unusedVariables false
set_option linter.unusedSimpArgs false

/-- a box that holds an expression -/
def ExBox (bx base : Nat) (x : Ex) (W : World) : Prop := ∃ v, W.heap[bx]? = some (.cells #[.int .i64 x.f0, v, .int .i64 x.f2, .int .u64 x.f3, .int .i64 x.f4, .int .u64 x.f5] 37 (0, 0)) ∧ ExRow W base v x.f1
theorem ExBox.chg {S : Nat → Prop} {W W' : World} {bx base : Nat} {x : Ex} (h : ExBox bx base x W) (hc : Chg S W W') (hn : ¬ S bx) (hS : ∀ k, S k → k < base) : ExBox bx base x W' :=
  let ⟨v, hb, hr⟩ := h; ⟨v, chg_block hc hb hn, hr.chg hc hS⟩
theorem enters_pe1 : Enters Tryz.prog 33 := enters_of Tryz.func33 (by kernel_rfl) rfl

set_option maxRecDepth 100000 in
set_option maxHeartbeats 1000000 in
theorem pe1_any (s : ByteArray) (ep : EP) (g bx base : Nat) (L : List Tk) (w0 W : World) (hL : L.length ≤ 65537) (hO : Okw w0 g W) (hR : Rdr s ep g L 0 W) (hbx : bx < base) (hbg : bx ≠ g) (hbase : base ≤ W.heap.size) (hz : W.heap[bx]? = some (.cells #[.int .i64 0, .slice none 0 0, .int .i64 0, .int .u64 0, .int .i64 0, .int .u64 0] 37 (0, 0))) :
    Calls Tryz.prog 33 #[.pointer (some ⟨g, 0, none⟩), .pointer (some ⟨bx, 0, none⟩)] W (DoOut s ep g bx (ExBox bx base) W (exprP ep (oneP ep 64) L)) := by
  have HE := Lib.hid (expr_of s ep g L 0 w0 W (oneP ep 64) (one_any s ep g w0 64 (by omega)) (oneP_shr ep 64) hL hO hR)
  have HZ := Lib.hid hz
  clear hO hR hz
  rcases he : exprP ep (oneP ep 64) L with p | ⟨x, L1⟩
  · have H := Lib.hid he; clear he
    go_enter Tryz.func33, Tryz.ntmps33
    go_wp2_with fail
    refine HE.out.mono ?_
    rintro e W2 h
    obtain ⟨rfl, hc⟩ := h.err H.out
    go_wp2
    exact ⟨rfl, rfl, hc.wider (fun k e => .inl e)⟩
  · have H := Lib.hid he; clear he
    go_enter Tryz.func33, Tryz.ntmps33
    go_wp2_with fail
    refine HE.out.mono ?_
    rintro e W2 h
    obtain ⟨⟨v, rfl, hX, hR2⟩, hc⟩ := h.ok H.out
    obtain ⟨A, c, rfl⟩ := Kd.R_slice hX
    have hz2 := chg_block hc HZ.out hbg
    obtain ⟨z0, z1, z2, z3, z4, z5, zf⟩ := blk6 hz2
    have HX := Lib.hid hX; have HR2 := Lib.hid hR2; have HC := Lib.hid hc; have HZ2 := Lib.hid hz2
    clear hX hR2 hc hz2
    unfold exAgg
    go_wp2
    go_end0
    have hs := (Chg.refl (fun k => k = bx) W2).sets6' bx (fun k e => e) (.int .i64 x.f0) (.slice A x.f1.length c) (.int .i64 x.f2) (.int .u64 x.f3) (.int .i64 x.f4) (.int .u64 x.f5)
    exact ⟨⟨rfl, HR2.out.far6 bx (by omega) _ _ _ _ _ _, _, blk_sets6 HZ2.out _ _ _ _ _ _, (HX.out.chg hs (fun k e => by omega)).lower hbase⟩, (HC.out.wider (fun k e => .inl e)).trans hs (fun k e => .inl (.inr e))⟩

def PexOut (base : Nat) (p : Ex × EP) (e : Ending) (W' : World) : Prop := ∃ v, e = .returned (.tuple #[exAgg p.1 v, .int .i64 p.2.1, .int .i64 p.2.2]) ∧ ExRow W' base v p.1.f1

set_option maxRecDepth 100000 in
set_option maxHeartbeats 1000000 in
theorem pexpr_any (s : ByteArray) (w0 W : World) (hE : Env w0) (hb : Below w0.heap.size w0 W) (hlen : (toks s).1.length ≤ 65537) :
    Calls Tryz.prog 10 #[.string s] W fun e W' => PexOut W.heap.size (exprV s) e W' ∧ Below W.heap.size W W' := by
  have hmf : ∀ (fn : Fn) (first cap : Array Value) (w : World), (Instr.makeFunc fn first cap).run Tryz.prog w = .ok (.func fn first cap) w := fun _ _ _ _ => rfl
  have hal : Below W.heap.size W ((W.alloc exZero).alloc exZero) := ((Below.refl W.heap.size W).alloc (Nat.le_refl _) _).alloc (by simp) _
  have hz1 : ((W.alloc exZero).alloc exZero).heap[W.heap.size]? = some (.cells #[.int .i64 0, .slice none 0 0, .int .i64 0, .int .u64 0, .int .i64 0, .int .u64 0] 37 (0, 0)) := blk_past _ (new_blk W _ _)
  have hz2 : ((W.alloc exZero).alloc exZero).heap[W.heap.size + 1]? = some (.cells #[.int .i64 0, .slice none 0 0, .int .i64 0, .int .u64 0, .int .i64 0, .int .u64 0] 37 (0, 0)) := new_blk' (by simp) _ _
  have hsz : ((W.alloc exZero).alloc exZero).heap.size = W.heap.size + 2 := by simp
  have hws := hb.size
  have HT := Lib.hid (tried_any enters_pe1 s (W.heap.size + 1) w0 ((W.alloc exZero).alloc exZero) hE (hb.trans (hal.mono hb.size)) (by omega) (by omega) (fun ep => exprP ep (oneP ep 64)) (ExBox (W.heap.size + 1) (W.heap.size + 4)) hlen
    (fun x A B h hc => h.chg hc (by omega) (fun k e => by omega))
    (fun L W1 h1 h2 h3 h4 h5 => pe1_any s _ _ (W.heap.size + 1) (W.heap.size + 4) L w0 W1 h1 h2 h3 (by omega) (by omega) (by omega) (h4.trans hz2)))
  have HAL := Lib.hid hal; have HZ1 := Lib.hid hz1
  clear hE hb hlen hal hz1 hz2
  have HNZ := Lib.hid (wholeP_nz (fun ep => expr_nz ep (one_nz ep 64)) s)
  unfold exprV
  rcases hw : wholeP (fun ep => exprP ep (oneP ep 64)) s with p | x
  · rw [hw] at HT HNZ
    clear hw
    go_enter Tryz.func10, Tryz.ntmps10
    go_wp2_with fail
    refine HT.out.mono ?_
    rintro e W2 ⟨rfl, hc⟩
    have hp : (p.1 != 0) = true := by rw [bne_iff_ne]; exact HNZ.out p rfl
    have hz1 := chg_block hc HZ1.out (by omega)
    obtain ⟨z0, z1, z2, z3, z4, z5, zf⟩ := blk6 hz1
    obtain ⟨u0, u1, u2, u3, u4, u5, uf⟩ := blk6 (blk_past (.cells #[.int .i64 p.1, .int .i64 p.2] 49) hz1)
    have hs2 := hc.size
    have hne1 : ¬ (W2.heap.size = W.heap.size) := by omega
    have hne2 : ¬ (W.heap.size = W2.heap.size) := by omega
    have HC := Lib.hid hc; have HZ := Lib.hid hz1
    clear hc hz1
    go_wp2
    go_region
    all_goals go_wp2
    all_goals
      have hal2 := (Below.refl W2.heap.size W2).alloc (Nat.le_refl _) (.cells #[.int .i64 p.1, .int .i64 p.2] 49)
      have hb6 := blk_sets6 (blk_past (.cells #[.int .i64 p.1, .int .i64 p.2] 49) HZ.out) (.int .i64 0) (.slice none 0 0) (.int .i64 0) (.int .u64 0) (.int .i64 0) (.int .u64 0)
      obtain ⟨r0, r1, r2, r3, r4, r5, rf⟩ := blk6 hb6
      have hcB : Chg (fun k => k = W.heap.size) W2 _ := (Chg.of_below hal2 (fun k => k = W.heap.size)).sets6' W.heap.size (fun k e => e) (.int .i64 0) (.slice none 0 0) (.int .i64 0) (.int .u64 0) (.int .i64 0) (.int .u64 0)
      refine bodyPost_ret (v := .tuple #[exAgg zEx (.slice none 0 0), .int .i64 p.1, .int .i64 p.2]) (by simp [results, Tryz.results10, go_sem, r0, r1, r2, r3, r4, r5, zEx, exAgg]) rfl ?_
      refine ⟨⟨.slice none 0 0, rfl, Kd.R_nil _ _ _ _ _⟩, ?_⟩
      exact ((HAL.out.trans (HC.out.below (B := W.heap.size) (by rw [hsz]; omega) (fun k e => by omega))).trans (hcB.below (by omega) (fun k e => by omega))).drew
  · rw [hw] at HT HNZ
    clear hw
    go_enter Tryz.func10, Tryz.ntmps10
    go_wp2_with fail
    refine HT.out.mono ?_
    rintro e W2 ⟨⟨rfl, v, hB, hX⟩, hc⟩
    have hz1 := chg_block hc HZ1.out (by omega)
    obtain ⟨z0, z1, z2, z3, z4, z5, zf⟩ := blk6 hz1
    obtain ⟨y0, y1, y2, y3, y4, y5, yf⟩ := blk6 hB
    obtain ⟨A, c, rfl⟩ := Kd.R_slice hX
    obtain ⟨u0, u1, u2, u3, u4, u5, uf⟩ := blk6 (blk_past (.cells #[.int .i64 0, .int .i64 0] 49) hz1)
    obtain ⟨v0, v1, v2, v3, v4, v5, vf⟩ := blk6 (blk_past (.cells #[.int .i64 0, .int .i64 0] 49) hB)
    have HC := Lib.hid hc; have HZ := Lib.hid hz1; have HX := Lib.hid hX; have HB := Lib.hid hB
    have hs2 := hc.size
    have hne1 : ¬ (W2.heap.size = W.heap.size) := by omega
    have hne2 : ¬ (W.heap.size = W2.heap.size) := by omega
    clear hc hz1 hX hB
    go_wp2
    have hal2 := (Below.refl W2.heap.size W2).alloc (Nat.le_refl _) (.cells #[.int .i64 0, .int .i64 0] 49)
    have hb6 := blk_sets6 (blk_past (.cells #[.int .i64 0, .int .i64 0] 49) HZ.out) (.int .i64 x.f0) (.slice A x.f1.length c) (.int .i64 x.f2) (.int .u64 x.f3) (.int .i64 x.f4) (.int .u64 x.f5)
    obtain ⟨r0, r1, r2, r3, r4, r5, rf⟩ := blk6 hb6
    have hcB : Chg (fun k => k = W.heap.size) W2 _ := (Chg.of_below hal2 (fun k => k = W.heap.size)).sets6' W.heap.size (fun k e => e) (.int .i64 x.f0) (.slice A x.f1.length c) (.int .i64 x.f2) (.int .u64 x.f3) (.int .i64 x.f4) (.int .u64 x.f5)
    refine bodyPost_ret (v := .tuple #[exAgg x (.slice A x.f1.length c), .int .i64 0, .int .i64 0]) (by simp [results, Tryz.results10, go_sem, r0, r1, r2, r3, r4, r5]) rfl ?_
    refine ⟨⟨.slice A x.f1.length c, rfl, (HX.out.chg hcB (fun k e => by omega)).lower (by omega)⟩, ?_⟩
    exact (HAL.out.trans (HC.out.below (B := W.heap.size) (by rw [hsz]; omega) (fun k e => by omega))).trans (hcB.below (by omega) (fun k e => by omega))

end Go.Proofs.YtlmopoipjolbgaaGreatDoor.LexW
namespace Go.Proofs.YtlmopoipjolbgaaGreatDoor.LexW
open Go.RowKit Go.Shelf Go.Proofs.YtlmopoipjolbgaaGreatDoor.LexS Go.Proofs.YtlmopoipjolbgaaGreatDoorW.PrintWords
set_option linter.unusedVariables false
set_option linter.unusedSimpArgs false

def lives06T : ByteArray := ⟨#[110, 111, 116, 32, 97, 114, 103, 49, 32, 38, 32, 55, 32, 62, 61, 32, 50]⟩
theorem lives06_expr : exprV lives06T = (⟨3, [⟨6, [], 1, 7, 6, 2⟩], 0, 0, 0, 0⟩, (0, 0)) := by kernel_rfl

theorem addr_add0 (ad : Addr) : ad.add 0 = ad := by
  obtain ⟨b, o, p⟩ := ad
  unfold Addr.add
  cases p <;> simp

set_option maxRecDepth 100000 in
set_option maxHeartbeats 1000000 in
theorem lives06_any (w : World) (hE : Env w) :
    Calls Tryz.prog 7 #[] w fun e w' => e = .returned (.bool true) ∧ Below w.heap.size w w' := by
  have HP := Lib.hid (pexpr_any lives06T w w hE (Below.refl _ _) (toks_len _))
  rw [lives06_expr] at HP
  clear hE
  go_enter Tryz.func7, Tryz.ntmps7
  go_wp2_with fail
  refine HP.out.mono ?_
  rintro e w1 ⟨⟨v, rfl, hX⟩, hb⟩
  obtain ⟨A, c, rfl, hlc, hC⟩ := Kd.R_reads hX
  have hal := (Below.refl w1.heap.size w1).alloc (Nat.le_refl _) (.cells #[.int .i64 3, .slice A 1 c, .int .i64 0, .int .u64 0, .int .i64 0, .int .u64 0] 37)
  have hC2 := Kd.C_below hC hal
  obtain ⟨ad, A1, c1, rfl, p0, p1, p2, p3, p4, p5, -, -⟩ := at_Ex hC2 (0 : Int) (by omega) (by decide)
  have hb2 := hb.trans (hal.mono hb.size)
  have HB := Lib.hid hb2
  clear hX hb hC hC2 hal hb2
  simp only [Int.toNat_zero, Nat.zero_mul] at p0 p1 p2 p3 p4 p5
  change _ = some (Value.int .i64 6) at p0
  change _ = some (Value.slice A1 0 c1) at p1
  change _ = some (Value.int .i64 1) at p2
  change _ = some (Value.int .u64 7) at p3
  change _ = some (Value.int .i64 6) at p4
  change _ = some (Value.int .u64 2) at p5
  have h0 : ad.add 0 = ad := addr_add0 ad
  rw [h0] at p0 p1 p2 p3 p4 p5
  clear h0
  go_wp2
  go_ret
  exact ⟨rfl, HB.out⟩
end Go.Proofs.YtlmopoipjolbgaaGreatDoor.LexW
namespace Go.Proofs.YtlmopoipjolbgaaGreatDoor.LexW
open Go.RowKit Go.Shelf Go.Proofs.YtlmopoipjolbgaaGreatDoor.LexS Go.Proofs.YtlmopoipjolbgaaGreatDoorW.PrintWords
set_option linter.unusedVariables false
set_option linter.unusedSimpArgs false
attribute [local go_sem] fld_num fld_text

abbrev poZero : Obj := .cells #[.string ⟨#[]⟩, .int .i64 0, .int .u64 0, .int .i64 0, .int .u64 0, .slice none 0 0] 29
/-- the world in which a policy is read -/
abbrev poW (W : World) : World := (W.alloc poZero).alloc poZero
/-- on the way -/
structure PoSt (s : ByteArray) (ep : EP) (g : Nat) (W Wi : World) (L : List Tk) (cs : Array Value) : Prop where
  rd : Rdr s ep g L 0 Wi
  chg : Chg (fun k => k = g) W Wi
  hB : Wi.heap[W.heap.size]? = some (.cells #[.string ⟨#[]⟩, .int .i64 0, .int .u64 0, .int .i64 0, .int .u64 0, .slice none 0 0] 29 (0, 0))
  hX : Wi.heap[W.heap.size + 1]? = some (.cells cs 29 (0, 0))
theorem PoSt.lt {s : ByteArray} {ep : EP} {g : Nat} {W Wi : World} {L : List Tk} {cs : Array Value} (h : PoSt s ep g W Wi L cs) : W.heap.size + 1 < Wi.heap.size := (Array.getElem?_eq_some_iff.1 h.hX).1
theorem PoSt.next {s : ByteArray} {ep : EP} {g : Nat} {W Wi Wj : World} {L L' : List Tk} {cs : Array Value} (h : PoSt s ep g W Wi L cs) (hg : g < W.heap.size) (hc : Chg (fun k => k = g) Wi Wj) (hR : Rdr s ep g L' 0 Wj) : PoSt s ep g W Wj L' cs :=
  ⟨hR, h.chg.trans hc (fun k e => .inl e), chg_block hc h.hB (by omega), chg_block hc h.hX (by omega)⟩
theorem PoSt.set {s : ByteArray} {ep : EP} {g : Nat} {W Wi : World} {L : List Tk} {cs : Array Value} (h : PoSt s ep g W Wi L cs) (hg : g < W.heap.size) (j : Nat) (v : Value) : PoSt s ep g W (Wi.setCell ⟨W.heap.size + 1, j, none⟩ v) L (cs.setIfInBounds j v) :=
  ⟨h.rd.far _ j (by omega) v, h.chg.set1 (W.heap.size + 1) j (by omega) v, (Below.heap_setCell Wi ⟨W.heap.size + 1, j, none⟩ v W.heap.size (by show W.heap.size ≠ W.heap.size + 1; omega)).trans h.hB, blk_set h.hX j v⟩
theorem PoSt.set0 {s : ByteArray} {ep : EP} {g : Nat} {W Wi : World} {L : List Tk} {v0 v1 v2 v3 v4 v5 : Value} (h : PoSt s ep g W Wi L #[v0, v1, v2, v3, v4, v5]) (hg : g < W.heap.size) (u : Value) :
    PoSt s ep g W (Wi.setCell ⟨W.heap.size + 1, 0, none⟩ u) L #[u, v1, v2, v3, v4, v5] := h.set hg 0 u
theorem PoSt.set12 {s : ByteArray} {ep : EP} {g : Nat} {W Wi : World} {L : List Tk} {v0 v1 v2 v3 v4 v5 : Value} (h : PoSt s ep g W Wi L #[v0, v1, v2, v3, v4, v5]) (hg : g < W.heap.size) (u v : Value) :
    PoSt s ep g W ((Wi.setCell ⟨W.heap.size + 1, 1, none⟩ u).setCell ⟨W.heap.size + 1, 2, none⟩ v) L #[v0, u, v, v3, v4, v5] := (h.set hg 1 u).set hg 2 v
theorem PoSt.set34 {s : ByteArray} {ep : EP} {g : Nat} {W Wi : World} {L : List Tk} {v0 v1 v2 v3 v4 v5 : Value} (h : PoSt s ep g W Wi L #[v0, v1, v2, v3, v4, v5]) (hg : g < W.heap.size) (u v : Value) :
    PoSt s ep g W ((Wi.setCell ⟨W.heap.size + 1, 3, none⟩ u).setCell ⟨W.heap.size + 1, 4, none⟩ v) L #[v0, v1, v2, u, v, v5] := (h.set hg 3 u).set hg 4 v
theorem poW_st {s : ByteArray} {ep : EP} {g : Nat} {W : World} {L : List Tk} (hR : Rdr s ep g L 0 W) : PoSt s ep g W (poW W) L #[.string ⟨#[]⟩, .int .i64 0, .int .u64 0, .int .i64 0, .int .u64 0, .slice none 0 0] := by
  have hb : Below W.heap.size W (poW W) := ((Below.refl W.heap.size W).alloc (Nat.le_refl _) _).alloc (by simp) _
  exact ⟨hR.below hb, Chg.of_below hb _, blk_past _ (new_blk W _ _), new_blk' (by simp) _ _⟩

theorem PoSt.set5 {s : ByteArray} {ep : EP} {g : Nat} {W Wi : World} {L : List Tk} {v0 v1 v2 v3 v4 v5 : Value} (h : PoSt s ep g W Wi L #[v0, v1, v2, v3, v4, v5]) (hg : g < W.heap.size) (u : Value) :
    PoSt s ep g W (Wi.setCell ⟨W.heap.size + 1, 5, none⟩ u) L #[v0, v1, v2, v3, v4, u] := h.set hg 5 u
theorem PoSt.belowB {s : ByteArray} {ep : EP} {g : Nat} {W Wi Wj : World} {L : List Tk} {cs : Array Value} (h : PoSt s ep g W Wi L cs) (hg : g < W.heap.size) (hb : Below (W.heap.size + 2) Wi Wj) : PoSt s ep g W Wj L cs :=
  ⟨h.rd.belowB hb (by omega), h.chg.trans (Chg.of_belowB hb) (fun k e => .inr (by omega)), (hb.block _ (by omega)).trans h.hB, (hb.block _ (by omega)).trans h.hX⟩
theorem infoRl : (Tryz.prog.info? 70).map (fun i => (i.zero, i.size, i.bytes)) = some (some (.agg #[.slice none 0 0, .int .i64 0, .slice none 0 0, .int .i64 0, .int .u64 0, .int .i64 0, .int .u64 0, .int .i64 0, .int .u64 0]), kRl.sz, 104) := by kernel_rfl
abbrev rlCells (x : Rl) (v0 v2 : Value) : List Value := [v0, .int .i64 x.f1.f0, v2, .int .i64 x.f1.f2, .int .u64 x.f1.f3, .int .i64 x.f1.f4, .int .u64 x.f1.f5, .int .i64 x.f2.f0, .int .u64 x.f2.f1]
theorem rl_made {W : World} {bx base : Nat} {v0 v2 : Value} {x : Rl} (h0 : ClRow W bx v0 x.f0) (h2 : ExRow W bx v2 x.f1.f1) (hb : base ≤ bx) : kRl.M W base (fun k => bx ≤ k ∧ k < W.heap.size) x (rlCells x v0 v2) :=
  kRl.M_lower hb (kRl_mkM W bx _ x (Kd.R_mono (Kd.R_bound h0) (fun k hk => ⟨hk.2.1, hk.2.2.1⟩)) (Kd.R_mono (Kd.R_bound h2) (fun k hk => ⟨hk.2.1, hk.2.2.1⟩)))

def RlRow (W : World) (base : Nat) (v : Value) (l : List Rl) : Prop := kRl.R 70 W base (fun _ => True) v l
theorem RlRow.chg {S : Nat → Prop} {W W' : World} {base : Nat} {v : Value} {l : List Rl} (h : RlRow W base v l) (hc : Chg S W W') (hS : ∀ k, S k → k < base) : RlRow W' base v l :=
  Kd.R_mono (Kd.R_move (Kd.R_bound h) (fun k hk => hc.block k hk.2.2.1 (fun e => by have := hS k e; have := hk.2.1; omega))) (fun _ _ => trivial)
theorem RlRow.lower {W : World} {base base' : Nat} {v : Value} {l : List Rl} (h : RlRow W base v l) (hb : base' ≤ base) : RlRow W base' v l := Kd.R_lower h hb
def PoOut (s : ByteArray) (ep : EP) (g : Nat) (base : Nat) (p : Po × List Tk) (e : Ending) (W' : World) : Prop :=
  ∃ v, e = .returned (.agg #[.string p.1.arch, .int .i64 p.1.foreign.f0, .int .u64 p.1.foreign.f1, .int .i64 p.1.dflt.f0, .int .u64 p.1.dflt.f1, v]) ∧ RlRow W' base v p.1.rules ∧ Rdr s ep g p.2 0 W'

set_option maxRecDepth 100000 in
set_option maxHeartbeats 2000000 in
theorem policy_any (s : ByteArray) (ep : EP) (g : Nat) (L : List Tk) (w0 W : World) (hL : L.length ≤ 65537) (hO : Okw w0 g W) (hR : Rdr s ep g L 0 W) :
    Calls Tryz.prog 24 #[.pointer (some ⟨g, 0, none⟩)] W (Outs g W (policyP ep L) (PoOut s ep g W.heap.size)) := by
  have hgW := hR.lt
  have hS0 := poW_st hR
  have HS := Lib.hid hS0; have HO := Lib.hid hO
  clear hS0 hO hR
  have HRP : Hid (policyP ep L = bnd (wantP ep sArch L) (fun q0 => bnd (kindP ep 2 q0.2) (fun q1 => bnd (wantP ep sSemi q1.2) (fun q2 => bnd (wantP ep sForeign q2.2) (fun q3 => bnd (verdictP ep q3.2) (fun q4 => bnd (wantP ep sSemi q4.2) (fun q5 => bnd (wantP ep sDefault q5.2) (fun q6 => bnd (verdictP ep q6.2) (fun q7 => bnd (wantP ep sSemi q7.2) (fun q8 => bnd (rulesP ep (q8.2.length + 1) [] q8.2) (fun r => .ok (⟨q1.1.text, q4.1, q7.1, r.1⟩, r.2)))))))))))) := Lib.hid rfl
  go_enter Tryz.func24, Tryz.ntmps24
  have HC := Lib.hid (want_any s ep g L 0 sArch w0 _ (HO.out.chg HS.out.chg) HS.out.rd)
  rcases hr : wantP ep sArch L with p | ⟨u1, L1⟩
  · have HE := Lib.hid hr; clear hr
    go_wp2_with fail
    refine HC.out.mono ?_
    rintro e V h
    obtain ⟨rfl, hc⟩ := h.err HE.out
    go_wp2
    exact ⟨rfl, Outs.mk_err (by rw [HRP.out, HE.out]; rfl) rfl (HS.out.chg.trans hc (fun k e => .inl e))⟩
  have HRP1 : Hid (policyP ep L = bnd (kindP ep 2 L1) (fun q1 => bnd (wantP ep sSemi q1.2) (fun q2 => bnd (wantP ep sForeign q2.2) (fun q3 => bnd (verdictP ep q3.2) (fun q4 => bnd (wantP ep sSemi q4.2) (fun q5 => bnd (wantP ep sDefault q5.2) (fun q6 => bnd (verdictP ep q6.2) (fun q7 => bnd (wantP ep sSemi q7.2) (fun q8 => bnd (rulesP ep (q8.2.length + 1) [] q8.2) (fun r => .ok (⟨q1.1.text, q4.1, q7.1, r.1⟩, r.2))))))))))) := Lib.hid (by rw [HRP.out, hr]; rfl)
  have hl1 := wantP_shr ep sArch _ _ _ hr
  have HE := Lib.hid hr; clear hr
  go_wp2_with fail
  refine HC.out.mono ?_
  rintro e V1 h
  obtain ⟨⟨rfl, hR⟩, hc⟩ := h.ok HE.out
  have hS := HS.out.next hgW hc hR
  clear HS HC HRP HE
  have HRP := HRP1; clear HRP1
  obtain ⟨y0, y1, y2, y3, y4, y5, yf⟩ := blk6 hS.hX
  have HS := Lib.hid hS
  clear hS hR hc
  have HC := Lib.hid (kind_any s ep g L1 0 2 w0 _ (HO.out.chg HS.out.chg) HS.out.rd)
  rcases hr : kindP ep 2 L1 with p | ⟨a, L2⟩
  · have HE := Lib.hid hr; clear hr
    go_wp2_with fail
    refine HC.out.mono ?_
    rintro e V h
    obtain ⟨rfl, hc⟩ := h.err HE.out
    go_wp2
    exact ⟨rfl, Outs.mk_err (by rw [HRP.out, HE.out]; rfl) rfl (HS.out.chg.trans hc (fun k e => .inl e))⟩
  have HRP1 : Hid (policyP ep L = bnd (wantP ep sSemi L2) (fun q2 => bnd (wantP ep sForeign q2.2) (fun q3 => bnd (verdictP ep q3.2) (fun q4 => bnd (wantP ep sSemi q4.2) (fun q5 => bnd (wantP ep sDefault q5.2) (fun q6 => bnd (verdictP ep q6.2) (fun q7 => bnd (wantP ep sSemi q7.2) (fun q8 => bnd (rulesP ep (q8.2.length + 1) [] q8.2) (fun r => .ok (⟨a.text, q4.1, q7.1, r.1⟩, r.2)))))))))) := Lib.hid (by rw [HRP.out, hr]; rfl)
  have hl2 := kindP_shr ep 2 _ _ _ hr
  have HE := Lib.hid hr; clear hr
  go_wp2_with fail
  refine HC.out.mono ?_
  rintro e V2 h
  obtain ⟨⟨rfl, hR⟩, hc⟩ := h.ok HE.out
  have hS := HS.out.next hgW hc hR
  clear HS HC HRP HE
  have HRP := HRP1; clear HRP1
  obtain ⟨y0, y1, y2, y3, y4, y5, yf⟩ := blk6 hS.hX
  unfold tkVal
  have HS := Lib.hid (hS.set0 hgW (.string a.text))
  clear hS hR hc
  have HC := Lib.hid (want_any s ep g L2 0 sSemi w0 _ (HO.out.chg HS.out.chg) HS.out.rd)
  rcases hr : wantP ep sSemi L2 with p | ⟨u3, L3⟩
  · have HE := Lib.hid hr; clear hr
    go_wp2_with fail
    refine HC.out.mono ?_
    rintro e V h
    obtain ⟨rfl, hc⟩ := h.err HE.out
    go_wp2
    exact ⟨rfl, Outs.mk_err (by rw [HRP.out, HE.out]; rfl) rfl (HS.out.chg.trans hc (fun k e => .inl e))⟩
  have HRP1 : Hid (policyP ep L = bnd (wantP ep sForeign L3) (fun q3 => bnd (verdictP ep q3.2) (fun q4 => bnd (wantP ep sSemi q4.2) (fun q5 => bnd (wantP ep sDefault q5.2) (fun q6 => bnd (verdictP ep q6.2) (fun q7 => bnd (wantP ep sSemi q7.2) (fun q8 => bnd (rulesP ep (q8.2.length + 1) [] q8.2) (fun r => .ok (⟨a.text, q4.1, q7.1, r.1⟩, r.2))))))))) := Lib.hid (by rw [HRP.out, hr]; rfl)
  have hl3 := wantP_shr ep sSemi _ _ _ hr
  have HE := Lib.hid hr; clear hr
  go_wp2_with fail
  refine HC.out.mono ?_
  rintro e V3 h
  obtain ⟨⟨rfl, hR⟩, hc⟩ := h.ok HE.out
  have hS := HS.out.next hgW hc hR
  clear HS HC HRP HE
  have HRP := HRP1; clear HRP1
  try clear y0 y1 y2 y3 y4 y5 yf
  obtain ⟨y0, y1, y2, y3, y4, y5, yf⟩ := blk6 hS.hX
  have HS := Lib.hid hS
  clear hS hR hc
  have HC := Lib.hid (want_any s ep g L3 0 sForeign w0 _ (HO.out.chg HS.out.chg) HS.out.rd)
  rcases hr : wantP ep sForeign L3 with p | ⟨u4, L4⟩
  · have HE := Lib.hid hr; clear hr
    go_wp2_with fail
    refine HC.out.mono ?_
    rintro e V h
    obtain ⟨rfl, hc⟩ := h.err HE.out
    go_wp2
    exact ⟨rfl, Outs.mk_err (by rw [HRP.out, HE.out]; rfl) rfl (HS.out.chg.trans hc (fun k e => .inl e))⟩
  have HRP1 : Hid (policyP ep L = bnd (verdictP ep L4) (fun q4 => bnd (wantP ep sSemi q4.2) (fun q5 => bnd (wantP ep sDefault q5.2) (fun q6 => bnd (verdictP ep q6.2) (fun q7 => bnd (wantP ep sSemi q7.2) (fun q8 => bnd (rulesP ep (q8.2.length + 1) [] q8.2) (fun r => .ok (⟨a.text, q4.1, q7.1, r.1⟩, r.2)))))))) := Lib.hid (by rw [HRP.out, hr]; rfl)
  have hl4 := wantP_shr ep sForeign _ _ _ hr
  have HE := Lib.hid hr; clear hr
  go_wp2_with fail
  refine HC.out.mono ?_
  rintro e V4 h
  obtain ⟨⟨rfl, hR⟩, hc⟩ := h.ok HE.out
  have hS := HS.out.next hgW hc hR
  clear HS HC HRP HE
  have HRP := HRP1; clear HRP1
  try clear y0 y1 y2 y3 y4 y5 yf
  obtain ⟨y0, y1, y2, y3, y4, y5, yf⟩ := blk6 hS.hX
  have HS := Lib.hid hS
  clear hS hR hc
  have HC := Lib.hid (verdict_any s ep g L4 0 w0 _ (HO.out.chg HS.out.chg) HS.out.rd)
  rcases hr : verdictP ep L4 with p | ⟨f, L5⟩
  · have HE := Lib.hid hr; clear hr
    go_wp2_with fail
    refine HC.out.mono ?_
    rintro e V h
    obtain ⟨rfl, hc⟩ := h.err HE.out
    go_wp2
    exact ⟨rfl, Outs.mk_err (by rw [HRP.out, HE.out]; rfl) rfl (HS.out.chg.trans hc (fun k e => .inl e))⟩
  have HRP1 : Hid (policyP ep L = bnd (wantP ep sSemi L5) (fun q5 => bnd (wantP ep sDefault q5.2) (fun q6 => bnd (verdictP ep q6.2) (fun q7 => bnd (wantP ep sSemi q7.2) (fun q8 => bnd (rulesP ep (q8.2.length + 1) [] q8.2) (fun r => .ok (⟨a.text, f, q7.1, r.1⟩, r.2))))))) := Lib.hid (by rw [HRP.out, hr]; rfl)
  have hl5 := verdictP_shr ep _ _ _ hr
  have HE := Lib.hid hr; clear hr
  go_wp2_with fail
  refine HC.out.mono ?_
  rintro e V5 h
  obtain ⟨⟨rfl, hR⟩, hc⟩ := h.ok HE.out
  have hS := HS.out.next hgW hc hR
  clear HS HC HRP HE
  have HRP := HRP1; clear HRP1
  try clear y0 y1 y2 y3 y4 y5 yf
  obtain ⟨y0, y1, y2, y3, y4, y5, yf⟩ := blk6 hS.hX
  unfold vdVal
  have HS := Lib.hid (hS.set12 hgW (.int .i64 f.f0) (.int .u64 f.f1))
  clear hS hR hc
  have HC := Lib.hid (want_any s ep g L5 0 sSemi w0 _ (HO.out.chg HS.out.chg) HS.out.rd)
  rcases hr : wantP ep sSemi L5 with p | ⟨u6, L6⟩
  · have HE := Lib.hid hr; clear hr
    go_wp2_with fail
    refine HC.out.mono ?_
    rintro e V h
    obtain ⟨rfl, hc⟩ := h.err HE.out
    go_wp2
    exact ⟨rfl, Outs.mk_err (by rw [HRP.out, HE.out]; rfl) rfl (HS.out.chg.trans hc (fun k e => .inl e))⟩
  have HRP1 : Hid (policyP ep L = bnd (wantP ep sDefault L6) (fun q6 => bnd (verdictP ep q6.2) (fun q7 => bnd (wantP ep sSemi q7.2) (fun q8 => bnd (rulesP ep (q8.2.length + 1) [] q8.2) (fun r => .ok (⟨a.text, f, q7.1, r.1⟩, r.2)))))) := Lib.hid (by rw [HRP.out, hr]; rfl)
  have hl6 := wantP_shr ep sSemi _ _ _ hr
  have HE := Lib.hid hr; clear hr
  go_wp2_with fail
  refine HC.out.mono ?_
  rintro e V6 h
  obtain ⟨⟨rfl, hR⟩, hc⟩ := h.ok HE.out
  have hS := HS.out.next hgW hc hR
  clear HS HC HRP HE
  have HRP := HRP1; clear HRP1
  try clear y0 y1 y2 y3 y4 y5 yf
  obtain ⟨y0, y1, y2, y3, y4, y5, yf⟩ := blk6 hS.hX
  have HS := Lib.hid hS
  clear hS hR hc
  have HC := Lib.hid (want_any s ep g L6 0 sDefault w0 _ (HO.out.chg HS.out.chg) HS.out.rd)
  rcases hr : wantP ep sDefault L6 with p | ⟨u7, L7⟩
  · have HE := Lib.hid hr; clear hr
    go_wp2_with fail
    refine HC.out.mono ?_
    rintro e V h
    obtain ⟨rfl, hc⟩ := h.err HE.out
    go_wp2
    exact ⟨rfl, Outs.mk_err (by rw [HRP.out, HE.out]; rfl) rfl (HS.out.chg.trans hc (fun k e => .inl e))⟩
  have HRP1 : Hid (policyP ep L = bnd (verdictP ep L7) (fun q7 => bnd (wantP ep sSemi q7.2) (fun q8 => bnd (rulesP ep (q8.2.length + 1) [] q8.2) (fun r => .ok (⟨a.text, f, q7.1, r.1⟩, r.2))))) := Lib.hid (by rw [HRP.out, hr]; rfl)
  have hl7 := wantP_shr ep sDefault _ _ _ hr
  have HE := Lib.hid hr; clear hr
  go_wp2_with fail
  refine HC.out.mono ?_
  rintro e V7 h
  obtain ⟨⟨rfl, hR⟩, hc⟩ := h.ok HE.out
  have hS := HS.out.next hgW hc hR
  clear HS HC HRP HE
  have HRP := HRP1; clear HRP1
  try clear y0 y1 y2 y3 y4 y5 yf
  obtain ⟨y0, y1, y2, y3, y4, y5, yf⟩ := blk6 hS.hX
  have HS := Lib.hid hS
  clear hS hR hc
  have HC := Lib.hid (verdict_any s ep g L7 0 w0 _ (HO.out.chg HS.out.chg) HS.out.rd)
  rcases hr : verdictP ep L7 with p | ⟨dv, L8⟩
  · have HE := Lib.hid hr; clear hr
    go_wp2_with fail
    refine HC.out.mono ?_
    rintro e V h
    obtain ⟨rfl, hc⟩ := h.err HE.out
    go_wp2
    exact ⟨rfl, Outs.mk_err (by rw [HRP.out, HE.out]; rfl) rfl (HS.out.chg.trans hc (fun k e => .inl e))⟩
  have HRP1 : Hid (policyP ep L = bnd (wantP ep sSemi L8) (fun q8 => bnd (rulesP ep (q8.2.length + 1) [] q8.2) (fun r => .ok (⟨a.text, f, dv, r.1⟩, r.2)))) := Lib.hid (by rw [HRP.out, hr]; rfl)
  have hl8 := verdictP_shr ep _ _ _ hr
  have HE := Lib.hid hr; clear hr
  go_wp2_with fail
  refine HC.out.mono ?_
  rintro e V8 h
  obtain ⟨⟨rfl, hR⟩, hc⟩ := h.ok HE.out
  have hS := HS.out.next hgW hc hR
  clear HS HC HRP HE
  have HRP := HRP1; clear HRP1
  try clear y0 y1 y2 y3 y4 y5 yf
  obtain ⟨y0, y1, y2, y3, y4, y5, yf⟩ := blk6 hS.hX
  unfold vdVal
  have HS := Lib.hid (hS.set34 hgW (.int .i64 dv.f0) (.int .u64 dv.f1))
  clear hS hR hc
  have HC := Lib.hid (want_any s ep g L8 0 sSemi w0 _ (HO.out.chg HS.out.chg) HS.out.rd)
  rcases hr : wantP ep sSemi L8 with p | ⟨u9, L9⟩
  · have HE := Lib.hid hr; clear hr
    go_wp2_with fail
    refine HC.out.mono ?_
    rintro e V h
    obtain ⟨rfl, hc⟩ := h.err HE.out
    go_wp2
    exact ⟨rfl, Outs.mk_err (by rw [HRP.out, HE.out]; rfl) rfl (HS.out.chg.trans hc (fun k e => .inl e))⟩
  have HRP1 : Hid (policyP ep L = bnd (rulesP ep (L9.length + 1) [] L9) (fun r => .ok (⟨a.text, f, dv, r.1⟩, r.2))) := Lib.hid (by rw [HRP.out, hr]; rfl)
  have hl9 := wantP_shr ep sSemi _ _ _ hr
  have HE := Lib.hid hr; clear hr
  go_wp2_with fail
  refine HC.out.mono ?_
  rintro e V9 h
  obtain ⟨⟨rfl, hR⟩, hc⟩ := h.ok HE.out
  have hS := HS.out.next hgW hc hR
  clear HS HC HRP HE
  have HRP := HRP1; clear HRP1
  try clear y0 y1 y2 y3 y4 y5 yf
  obtain ⟨y0, y1, y2, y3, y4, y5, yf⟩ := blk6 hS.hX
  have HS := Lib.hid hS
  clear hS hR hc

  go_wp2_with fail
  have hL9 : L9.length ≤ 65537 := by omega
  clear hl1 hl2 hl3 hl4 hl5 hl6 hl7 hl8 hl9
  try clear y0 y1 y2 y3 y4 y5 yf
  go_loopg [] (L9.length + 1) (fun n wr => ∃ (l : List Rl) (L4 : List Tk) (v : Value), Hid (policyP ep L = bnd (rulesP ep n l L4) (fun r => .ok (⟨a.text, f, dv, r.1⟩, r.2))) ∧ L4.length < n ∧ l.length ≤ 512 ∧ L4.length ≤ 65537 ∧ Hid (RlRow wr (W.heap.size + 2) v l) ∧ Hid (PoSt s ep g W wr L4 #[.string a.text, .int .i64 f.f0, .int .u64 f.f1, .int .i64 dv.f0, .int .u64 dv.f1, v]))
  case atStart => exact ⟨[], L9, .slice none 0 0, HRP, by omega, by simp, hL9, Lib.hid (Kd.R_nil _ _ _ _ _), HS⟩
  case round =>
    clear HS HRP
    obtain ⟨l, L4, v, HT, hn, hl, hl4, HROW, HS⟩ := hrel
    obtain ⟨n, rfl⟩ : ∃ n, gk = n + 1 := ⟨gk - 1, by omega⟩
    obtain ⟨A, c, rfl⟩ := Kd.R_slice HROW.out
    have hun : rulesP ep (n + 1) l L4 = if isT sOn (hdT L4) then (if l.length = 512 then .error (badP 63 L4) else bnd (stepP ep L4) (fun L1 => bnd (ruleP ep L1) (fun p => rulesP ep n (l ++ [p.1]) p.2))) else .ok (l, L4) := rfl
    have HUN := Lib.hid hun; clear hun
    have HI := Lib.hid (is_any s ep g L4 0 sOn wr HS.out.rd)
    obtain ⟨y0, y1, y2, y3, y4, y5, yf⟩ := blk6 HS.out.hX
    cases hon : isT sOn (hdT L4) with
    | false =>
      rw [hon] at HI HUN
      clear hon
      obtain ⟨z0, z1, z2, z3, z4, z5, zf⟩ := blk6 HS.out.hB
      go_wp2_with fail
      refine HI.out.mono ?_
      rintro e W5 ⟨rfl, rfl⟩
      go_wp2
      have hb6 := blk_sets6 HS.out.hB (.string a.text) (.int .i64 f.f0) (.int .u64 f.f1) (.int .i64 dv.f0) (.int .u64 dv.f1) (.slice A l.length c)
      obtain ⟨r0, r1, r2, r3, r4, r5, rf⟩ := blk6 hb6
      have hcB : Chg (fun k => k = W.heap.size) wr _ := (Chg.refl (fun k => k = W.heap.size) wr).sets6' W.heap.size (fun k e => e) (.string a.text) (.int .i64 f.f0) (.int .u64 f.f1) (.int .i64 dv.f0) (.int .u64 dv.f1) (.slice A l.length c)
      refine bodyPost_ret (v := .agg #[.string a.text, .int .i64 f.f0, .int .u64 f.f1, .int .i64 dv.f0, .int .u64 dv.f1, .slice A l.length c]) (by simp [results, Tryz.results24, go_sem, r0, r1, r2, r3, r4, r5]) rfl ?_
      refine Outs.mk_ok (b := (⟨a.text, f, dv, l⟩, L4)) (by rw [HT.out, HUN.out]; rfl) ⟨.slice A l.length c, rfl, (HROW.out.chg hcB (fun k e => by omega)).lower (by omega), HS.out.rd.chgd hcB (by omega)⟩ (HS.out.chg.trans hcB (fun k e => .inr (by omega)))
    | true =>
      have hk := isT_kind' hon
      rw [hon] at HI HUN
      clear hon
      by_cases h5 : l.length = 512
      · have hb : ((l.length : Int) == 512) = true := by rw [beq_iff_eq]; omega
        have HB := Lib.hid (bad_any s ep g L4 0 63 wr HS.out.rd)
        go_wp2_with fail
        refine HI.out.mono ?_
        rintro e W5 ⟨rfl, rfl⟩
        go_wp2_with fail
        refine HB.out.mono ?_
        rintro e W6 ⟨he, rfl⟩
        unfold panics at he
        subst he
        go_wp2
        exact ⟨rfl, Outs.mk_err (by rw [HT.out, HUN.out, if_pos trivial, if_pos h5]; rfl) rfl HS.out.chg⟩
      have hb : ((l.length : Int) == 512) = false := by rw [beq_eq_false_iff_ne]; omega
      have HST := Lib.hid (step_any s ep g L4 0 w0 wr (HO.out.chg HS.out.chg) HS.out.rd hk)
      rcases hst : stepP ep L4 with p | L5
      · have HSE := Lib.hid hst; clear hst
        go_wp2_with fail
        refine HI.out.mono ?_
        rintro e W5 ⟨rfl, rfl⟩
        go_wp2_with fail
        refine HST.out.mono ?_
        rintro e W6 h
        obtain ⟨rfl, hc⟩ := h.err HSE.out
        go_wp2
        exact ⟨rfl, Outs.mk_err (by rw [HT.out, HUN.out, if_pos trivial, if_neg h5, HSE.out]; rfl) rfl (HS.out.chg.trans hc (fun k e => .inl e))⟩
      have HSE := Lib.hid hst; clear hst
      go_wp2_with fail
      refine HI.out.mono ?_
      rintro e W5 ⟨rfl, rfl⟩
      go_wp2_with fail
      refine HST.out.mono ?_
      rintro e W6 h
      obtain ⟨⟨rfl, hR6⟩, hc⟩ := h.ok HSE.out
      have hl5 : L5.length + 1 = L4.length := by obtain ⟨t', h1, _⟩ := stepP_ok HSE.out; rw [h1]; simp
      have hlt4 := HS.out.lt
      have hS6 := HS.out.next hgW hc hR6
      have hdr : Below W6.heap.size W6 W6.drew := (Below.refl _ _).drew
      have hszd : W6.drew.heap.size = W6.heap.size := rfl
      have hS6d := hS6.belowB hgW (hdr.mono hS6.lt)
      have hrow6 := (HROW.out.chg hc (fun k e => by omega)).chg (Chg.of_below hdr (fun k => k = g)) (fun k e => by omega)
      have HRU := Lib.hid (rule_any s ep g L5 w0 W6.drew (by omega) (HO.out.chg hS6d.chg) hS6d.rd)
      obtain ⟨x0, x1, x2, x3, x4, x5, xf⟩ := blk6 hS6.hX
      have HS6 := Lib.hid hS6d; have HROW6 := Lib.hid hrow6
      have hs6 := hS6d.lt
      clear hS6 hS6d hrow6 hR6 hc hdr y0 y1 y2 y3 y4 y5 yf
      rcases hru : ruleP ep L5 with p | ⟨y, L6⟩
      · have HRE := Lib.hid hru; clear hru
        go_wp2_with fail
        refine wp_region_held_drew (S := fun w' => w'.cell? ⟨W.heap.size + 1, 5, none⟩ = some (.slice A l.length c)) (by kernel_rfl) (by simp [x5]) (fun hHeld => ?_)
        refine wpAnyH_take (i := 0) (oi := _) (v := .pointer (some ⟨W.heap.size + 1, 5, none⟩)) rfl (by kernel_rfl) (by kernel_rfl) (by kernel_rfl) (fun _ _ _ h => h) (Or.inl ⟨by rfl, ?_⟩) hHeld ?_
        · intro w hSw; (try dsimp only at hSw); go_simp
        simp only [Act.put, List.setIfInBounds_toArray, List.set_cons_zero, List.set_cons_succ]
        refine wpAnyH_take (i := 1) (oi := _) (v := .slice A l.length c) rfl (by kernel_rfl) (by kernel_rfl) (by kernel_rfl) (fun _ _ _ h => h) (Or.inl ⟨by rfl, ?_⟩) hHeld ?_
        · intro w hSw; (try dsimp only at hSw); go_simp
        simp only [Act.put, List.setIfInBounds_toArray, List.set_cons_zero, List.set_cons_succ]
        refine wpAnyH_take (i := 2) (oi := _) (v := .pointer (some ⟨g, 0, none⟩)) rfl (by kernel_rfl) (by kernel_rfl) (by kernel_rfl) (fun _ _ _ h => h) (Or.inl ⟨by rfl, ?_⟩) hHeld ?_
        · intro w hSw; (try dsimp only at hSw); go_simp
        simp only [Act.put, List.setIfInBounds_toArray, List.set_cons_zero, List.set_cons_succ]
        refine wpAnyH_ready (rs := [3]) (by kernel_rfl) (by simp) ?_
        refine AllReadyH.cons rfl (fun K hK => ?_) AllReadyH.nil
        go_simp
        go_at_call 61
        refine HRU.out.mono ?_
        rintro e W7 h
        obtain ⟨rfl, hc⟩ := h.err HRE.out
        go_wp2
        exact ⟨rfl, Outs.mk_err (by rw [HT.out, HUN.out, if_pos trivial, if_neg h5, HSE.out]; show bnd (bnd (ruleP ep L5) _) _ = _; rw [HRE.out]; rfl) rfl (HS6.out.chg.trans hc (fun k e => .inl e))⟩
      · have HRE := Lib.hid hru
        have hl6 := ruleP_shr ep _ _ _ hru
        clear hru
        go_wp2_with fail
        go_region_law (first
          | (refine Kd.R_append_step kRl (w0 := W7) (W := W7) (W.heap.size + 2) (by rfl) (.tmp 37) (.tmp 40) 27 70 (.agg #[.slice none 0 0, .int .i64 0, .slice none 0 0, .int .i64 0, .int .u64 0, .int .i64 0, .int .u64 0, .int .i64 0, .int .u64 0]) 104 rfl Tryz.underlying27 infoRl rfl (by decide) (by decide) (.slice A l.length c) l y (rlCells y (.slice A7 y.f0.length c7) (.slice B7 y.f1.f1.length d7)) (fun _ => True) (fun k => W6.heap.size ≤ k ∧ k < W7.heap.size) (by first | rfl | (go_simp; done)) (by first | rfl | (go_simp; done)) HMADE.out (fun k hk => ⟨trivial, fun e => Nat.lt_irrefl k (Nat.lt_of_lt_of_le (HVLT.out k e.symm) hk.1)⟩) (fun _ _ => trivial) HROW7.out (Below.refl _ _) (by omega) (by omega) ?_; intro v8 w8 hO8 hb8 hg8 hat8
             obtain ⟨A8, c8, rfl⟩ := Kd.R_slice hO8
             have HS8 := Lib.hid (HS7.out.belowB hgW hb8); have HO8 : Hid (RlRow w8 (W.heap.size + 2) (.slice A8 (l ++ [y]).length c8) (l ++ [y])) := Lib.hid hO8; clear hO8 hb8 hg8 hat8
             obtain ⟨w0', w1', w2', w3', w4', w5', wf'⟩ := blk6 HS8.out.hX)
          | (go_simp; go_at_call 61; refine HRU.out.mono ?_; rintro e W7 h
             obtain ⟨⟨vc, v1, rfl, hcl, hex, hR7⟩, hc7⟩ := h.ok HRE.out
             obtain ⟨A7, c7, rfl⟩ := Kd.R_slice hcl; obtain ⟨B7, d7, rfl⟩ := Kd.R_slice hex
             have hs7 := hc7.size
             have HS7 := Lib.hid (HS6.out.next hgW hc7 hR7); have HROW7 := Lib.hid (HROW6.out.chg hc7 (fun k e => by omega))
             have HMADE := Lib.hid (rl_made (base := W.heap.size + 2) hcl hex (by omega))
             have HVLT : Hid (∀ k, (Value.slice A l.length c).ownBlock = some k → k < W6.heap.size) := Lib.hid (fun k hk => (by obtain ⟨inner, ho⟩ := Kd.R_own HROW6.out; exact own_lt ho k hk))
             obtain ⟨z0, z1, z2, z3, z4, z5, zf⟩ := blk6 HS7.out.hX
             obtain ⟨t0, t1, t2, t3, t4, t5, tf⟩ := blk6 (blk_past (.cells (rlCells y (.slice A7 y.f0.length c7) (.slice B7 y.f1.f1.length d7)).toArray 70) HS7.out.hX)
             clear hcl hex hR7 hc7
             unfold rlAgg))
        all_goals
          have hlen1 : (l ++ [y]).length = l.length + 1 := by simp
          rw [hlen1] at HO8
          have hset := Chg.of_set w8 (W.heap.size + 1) 5 (.slice A8 (l.length + 1) c8)
          have HS9 := Lib.hid (HS8.out.set5 hgW (.slice A8 (l.length + 1) c8))
          have HO9 := Lib.hid (HO8.out.chg hset (fun k e => by omega))
          clear hset
          go_wp2
          go_roundg n
          case measure => omega
          case rel => exact ⟨l ++ [y], L6, _, Lib.hid (by rw [HT.out, HUN.out, if_pos trivial, if_neg h5, HSE.out]; show bnd (bnd (ruleP ep L5) _) _ = _; rw [HRE.out]; rfl), by omega, by simp; omega, by omega, HO9, HS9⟩
end Go.Proofs.YtlmopoipjolbgaaGreatDoor.LexW
namespace Go.Proofs.YtlmopoipjolbgaaGreatDoor.LexW
open Go.RowKit Go.Shelf Go.Proofs.YtlmopoipjolbgaaGreatDoor.LexS Go.Proofs.YtlmopoipjolbgaaGreatDoorW.PrintWords
set_option linter.unusedVariables false
set_option linter.unusedSimpArgs false

abbrev poAgg (x : Po) (v : Value) : Value := .agg #[.string x.arch, .int .i64 x.foreign.f0, .int .u64 x.foreign.f1, .int .i64 x.dflt.f0, .int .u64 x.dflt.f1, v]
/-- a box that holds a policy -/
def PoBox (bx base : Nat) (x : Po) (W : World) : Prop := ∃ v, W.heap[bx]? = some (.cells #[.string x.arch, .int .i64 x.foreign.f0, .int .u64 x.foreign.f1, .int .i64 x.dflt.f0, .int .u64 x.dflt.f1, v] 29 (0, 0)) ∧ RlRow W base v x.rules
theorem PoBox.chg {S : Nat → Prop} {W W' : World} {bx base : Nat} {x : Po} (h : PoBox bx base x W) (hc : Chg S W W') (hn : ¬ S bx) (hS : ∀ k, S k → k < base) : PoBox bx base x W' :=
  let ⟨v, hb, hr⟩ := h; ⟨v, chg_block hc hb hn, hr.chg hc hS⟩
theorem enters_pp1 : Enters Tryz.prog 23 := enters_of Tryz.func23 (by kernel_rfl) rfl

set_option maxRecDepth 100000 in
set_option maxHeartbeats 1000000 in
theorem pp1_any (s : ByteArray) (ep : EP) (g bx base : Nat) (L : List Tk) (w0 W : World) (hL : L.length ≤ 65537) (hO : Okw w0 g W) (hR : Rdr s ep g L 0 W) (hbx : bx < base) (hbg : bx ≠ g) (hbase : base ≤ W.heap.size) (hz : W.heap[bx]? = some (.cells #[.string ⟨#[]⟩, .int .i64 0, .int .u64 0, .int .i64 0, .int .u64 0, .slice none 0 0] 29 (0, 0))) :
    Calls Tryz.prog 23 #[.pointer (some ⟨g, 0, none⟩), .pointer (some ⟨bx, 0, none⟩)] W (DoOut s ep g bx (PoBox bx base) W (policyP ep L)) := by
  have HE := Lib.hid (policy_any s ep g L w0 W hL hO hR)
  have HZ := Lib.hid hz
  clear hO hR hz
  rcases he : policyP ep L with p | ⟨x, L1⟩
  · have H := Lib.hid he; clear he
    go_enter Tryz.func23, Tryz.ntmps23
    go_wp2_with fail
    refine HE.out.mono ?_
    rintro e W2 h
    obtain ⟨rfl, hc⟩ := h.err H.out
    go_wp2
    exact ⟨rfl, rfl, hc.wider (fun k e => .inl e)⟩
  · have H := Lib.hid he; clear he
    go_enter Tryz.func23, Tryz.ntmps23
    go_wp2_with fail
    refine HE.out.mono ?_
    rintro e W2 h
    obtain ⟨⟨v, rfl, hX, hR2⟩, hc⟩ := h.ok H.out
    obtain ⟨A, c, rfl⟩ := Kd.R_slice hX
    have hz2 := chg_block hc HZ.out hbg
    obtain ⟨z0, z1, z2, z3, z4, z5, zf⟩ := blk6 hz2
    have HX := Lib.hid hX; have HR2 := Lib.hid hR2; have HC := Lib.hid hc; have HZ2 := Lib.hid hz2
    clear hX hR2 hc hz2
    go_wp2
    go_end0
    have hs := (Chg.refl (fun k => k = bx) W2).sets6' bx (fun k e => e) (.string x.arch) (.int .i64 x.foreign.f0) (.int .u64 x.foreign.f1) (.int .i64 x.dflt.f0) (.int .u64 x.dflt.f1) (.slice A x.rules.length c)
    exact ⟨⟨rfl, HR2.out.far6 bx (by omega) _ _ _ _ _ _, _, blk_sets6 HZ2.out _ _ _ _ _ _, (HX.out.chg hs (fun k e => by omega)).lower hbase⟩, (HC.out.wider (fun k e => .inl e)).trans hs (fun k e => .inl (.inr e))⟩

def ParOut (base : Nat) (p : Po × EP) (e : Ending) (W' : World) : Prop := ∃ v, e = .returned (.tuple #[poAgg p.1 v, .int .i64 p.2.1, .int .i64 p.2.2]) ∧ RlRow W' base v p.1.rules

set_option maxRecDepth 100000 in
set_option maxHeartbeats 1000000 in
theorem parse_any (s : ByteArray) (w0 W : World) (hE : Env w0) (hb : Below w0.heap.size w0 W) (hlen : (toks s).1.length ≤ 65537) :
    Calls Tryz.prog 8 #[.string s] W fun e W' => ParOut W.heap.size (parseV s) e W' ∧ Below W.heap.size W W' := by
  have hmf : ∀ (fn : Fn) (first cap : Array Value) (w : World), (Instr.makeFunc fn first cap).run Tryz.prog w = .ok (.func fn first cap) w := fun _ _ _ _ => rfl
  have hal : Below W.heap.size W ((W.alloc poZero).alloc poZero) := ((Below.refl W.heap.size W).alloc (Nat.le_refl _) _).alloc (by simp) _
  have hz1 : ((W.alloc poZero).alloc poZero).heap[W.heap.size]? = some (.cells #[.string ⟨#[]⟩, .int .i64 0, .int .u64 0, .int .i64 0, .int .u64 0, .slice none 0 0] 29 (0, 0)) := blk_past _ (new_blk W _ _)
  have hz2 : ((W.alloc poZero).alloc poZero).heap[W.heap.size + 1]? = some (.cells #[.string ⟨#[]⟩, .int .i64 0, .int .u64 0, .int .i64 0, .int .u64 0, .slice none 0 0] 29 (0, 0)) := new_blk' (by simp) _ _
  have hsz : ((W.alloc poZero).alloc poZero).heap.size = W.heap.size + 2 := by simp
  have hws := hb.size
  have HT := Lib.hid (tried_any enters_pp1 s (W.heap.size + 1) w0 ((W.alloc poZero).alloc poZero) hE (hb.trans (hal.mono hb.size)) (by omega) (by omega) policyP (PoBox (W.heap.size + 1) (W.heap.size + 4)) hlen
    (fun x A B h hc => h.chg hc (by omega) (fun k e => by omega))
    (fun L W1 h1 h2 h3 h4 h5 => pp1_any s _ _ (W.heap.size + 1) (W.heap.size + 4) L w0 W1 h1 h2 h3 (by omega) (by omega) (by omega) (h4.trans hz2)))
  have HAL := Lib.hid hal; have HZ1 := Lib.hid hz1
  clear hE hb hlen hal hz1 hz2
  have HNZ := Lib.hid (wholeP_nz (fun ep => policy_nz ep) s)
  unfold parseV
  rcases hw : wholeP policyP s with p | x
  · rw [hw] at HT HNZ
    clear hw
    go_enter Tryz.func8, Tryz.ntmps8
    go_wp2_with fail
    refine HT.out.mono ?_
    rintro e W2 ⟨rfl, hc⟩
    have hp : (p.1 != 0) = true := by rw [bne_iff_ne]; exact HNZ.out p rfl
    have hz1 := chg_block hc HZ1.out (by omega)
    obtain ⟨z0, z1, z2, z3, z4, z5, zf⟩ := blk6 hz1
    obtain ⟨u0, u1, u2, u3, u4, u5, uf⟩ := blk6 (blk_past (.cells #[.int .i64 p.1, .int .i64 p.2] 49) hz1)
    have hs2 := hc.size
    have hne1 : ¬ (W2.heap.size = W.heap.size) := by omega
    have hne2 : ¬ (W.heap.size = W2.heap.size) := by omega
    have HC := Lib.hid hc; have HZ := Lib.hid hz1
    clear hc hz1
    go_wp2
    go_region
    all_goals go_wp2
    all_goals
      have hal2 := (Below.refl W2.heap.size W2).alloc (Nat.le_refl _) (.cells #[.int .i64 p.1, .int .i64 p.2] 49)
      have hb6 := blk_sets6 (blk_past (.cells #[.int .i64 p.1, .int .i64 p.2] 49) HZ.out) (.string ⟨#[]⟩) (.int .i64 0) (.int .u64 0) (.int .i64 0) (.int .u64 0) (.slice none 0 0)
      obtain ⟨r0, r1, r2, r3, r4, r5, rf⟩ := blk6 hb6
      have hcB : Chg (fun k => k = W.heap.size) W2 _ := (Chg.of_below hal2 (fun k => k = W.heap.size)).sets6' W.heap.size (fun k e => e) (.string ⟨#[]⟩) (.int .i64 0) (.int .u64 0) (.int .i64 0) (.int .u64 0) (.slice none 0 0)
      refine bodyPost_ret (v := .tuple #[poAgg zPo (.slice none 0 0), .int .i64 p.1, .int .i64 p.2]) (by simp [results, Tryz.results8, go_sem, r0, r1, r2, r3, r4, r5, zPo, zVd, nil0, poAgg]) rfl ?_
      refine ⟨⟨.slice none 0 0, rfl, Kd.R_nil _ _ _ _ _⟩, ?_⟩
      exact ((HAL.out.trans (HC.out.below (B := W.heap.size) (by rw [hsz]; omega) (fun k e => by omega))).trans (hcB.below (by omega) (fun k e => by omega))).drew
  · rw [hw] at HT HNZ
    clear hw
    go_enter Tryz.func8, Tryz.ntmps8
    go_wp2_with fail
    refine HT.out.mono ?_
    rintro e W2 ⟨⟨rfl, v, hB, hX⟩, hc⟩
    have hz1 := chg_block hc HZ1.out (by omega)
    obtain ⟨z0, z1, z2, z3, z4, z5, zf⟩ := blk6 hz1
    obtain ⟨y0, y1, y2, y3, y4, y5, yf⟩ := blk6 hB
    obtain ⟨A, c, rfl⟩ := Kd.R_slice hX
    obtain ⟨u0, u1, u2, u3, u4, u5, uf⟩ := blk6 (blk_past (.cells #[.int .i64 0, .int .i64 0] 49) hz1)
    obtain ⟨v0, v1, v2, v3, v4, v5, vf⟩ := blk6 (blk_past (.cells #[.int .i64 0, .int .i64 0] 49) hB)
    have HC := Lib.hid hc; have HZ := Lib.hid hz1; have HX := Lib.hid hX; have HB := Lib.hid hB
    have hs2 := hc.size
    have hne1 : ¬ (W2.heap.size = W.heap.size) := by omega
    have hne2 : ¬ (W.heap.size = W2.heap.size) := by omega
    clear hc hz1 hX hB
    go_wp2
    have hal2 := (Below.refl W2.heap.size W2).alloc (Nat.le_refl _) (.cells #[.int .i64 0, .int .i64 0] 49)
    have hb6 := blk_sets6 (blk_past (.cells #[.int .i64 0, .int .i64 0] 49) HZ.out) (.string x.arch) (.int .i64 x.foreign.f0) (.int .u64 x.foreign.f1) (.int .i64 x.dflt.f0) (.int .u64 x.dflt.f1) (.slice A x.rules.length c)
    obtain ⟨r0, r1, r2, r3, r4, r5, rf⟩ := blk6 hb6
    have hcB : Chg (fun k => k = W.heap.size) W2 _ := (Chg.of_below hal2 (fun k => k = W.heap.size)).sets6' W.heap.size (fun k e => e) (.string x.arch) (.int .i64 x.foreign.f0) (.int .u64 x.foreign.f1) (.int .i64 x.dflt.f0) (.int .u64 x.dflt.f1) (.slice A x.rules.length c)
    refine bodyPost_ret (v := .tuple #[poAgg x (.slice A x.rules.length c), .int .i64 0, .int .i64 0]) (by simp [results, Tryz.results8, go_sem, r0, r1, r2, r3, r4, r5]) rfl ?_
    refine ⟨⟨.slice A x.rules.length c, rfl, (HX.out.chg hcB (fun k e => by omega)).lower (by omega)⟩, ?_⟩
    exact (HAL.out.trans (HC.out.below (B := W.heap.size) (by rw [hsz]; omega) (fun k e => by omega))).trans (hcB.below (by omega) (fun k e => by omega))

end Go.Proofs.YtlmopoipjolbgaaGreatDoor.LexW
