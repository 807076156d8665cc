/-
  Layer 6 (policy): tried: a reader that gives up is caught.
-/
import Derived.Defers
import Derived.Recover
import Derived.Test.YtlmopoipjolbgaaDoorPolRE
namespace Go.Proofs.YtlmopoipjolbgaaDoor.LexW
open Go.RowKit Go.Shelf Go.Proofs.YtlmopoipjolbgaaDoor.LexS Go.Proofs.YtlmopoipjolbgaaDoorW.PrintWords
set_option linter.unusedVariables false
set_option linter.unusedSimpArgs false

theorem assert_wrong (a b : Int) (w : World) : (Instr.typeAssert (.iface 76 (.agg #[.int .i64 a, .int .i64 b])) 20 76 false).run Tryd.prog w = .ok (.agg #[.int .i64 a, .int .i64 b]) w := by kernel_rfl
theorem catch_panicking (B : Nat) (p : EP) (u0 u1 : Value) (older : List PanicEntry) (w : World) (hz : w.heap[B]? = some (.cells #[u0, u1] 76 (0, 0))) :
    CallsD Tryd.prog 56 #[.pointer (some ⟨B, 0, none⟩)] (.panicking ({ v := wrongV p, recovered := false } :: older)) w fun e u' w' =>
      e = .returned (.tuple #[]) ∧ u' = .panicking ({ v := wrongV p, recovered := true } :: older) ∧ w' = (w.setCell ⟨B, 0, none⟩ (.int .i64 p.1)).setCell ⟨B, 1, none⟩ (.int .i64 p.2) := by
  obtain ⟨z0, z1, zf⟩ := blk2 hz
  unfold wrongV
  refine callsD_of_wpS Tryd.func56 rfl fun c₀ cs hu => ?_
  apply wpS_seq
  apply wpS_region
  simp [wpOpsS, go_sem, recoverD, hu, Tryd.ntmps56, Exit.thenS]
  apply wpS_seq
  apply wpS_region
  simp [wpOpsS, go_sem, Exit.thenS]
  refine wpS_cond (t := true) (by simp [Act.eval, Array.replicate]) ?_
  simp only [if_true]
  apply wpS_region
  simp [wpOpsS, go_sem, assert_wrong, z0, z1, zf, bodyPostS, results, Tryd.results56]
theorem catch_idle (B : Nat) (w : World) :
    CallsD Tryd.prog 56 #[.pointer (some ⟨B, 0, none⟩)] .returning w fun e u' w' => e = .returned (.tuple #[]) ∧ u' = .returning ∧ w' = w := by
  refine callsD_of_wpS Tryd.func56 rfl fun c₀ cs hu => ?_
  apply wpS_seq
  apply wpS_region
  simp [wpOpsS, go_sem, recoverD, hu, Tryd.ntmps56, Exit.thenS]
  apply wpS_seq
  apply wpS_region
  simp [wpOpsS, go_sem, Exit.thenS]
  refine wpS_cond (t := false) (by simp [Act.eval, Array.replicate]) ?_
  simp only [Bool.false_eq_true, if_false]
  refine wpS_of_wp (wp_skip ?_)
  cases c₀
  simp_all [bodyPostS, results, Tryd.results56]

abbrev triedW (W : World) (s : ByteArray) : World := (W.alloc (.cells #[.int .i64 0, .int .i64 0] 76)).alloc (.cells #[.string s, .int .i64 0, .string ⟨#[]⟩, .int .u64 0, .int .i64 0, .int .i64 0, .int .i64 0] 94)
/-- what a reader that is tried does: it fills its box bx, or gives up -/
def DoOut {α : Type} (s : ByteArray) (ep : EP) (g bx : Nat) (PB : α → World → Prop) (W : World) (r : Rd α) (e : Ending) (W' : World) : Prop :=
  (match r with | .ok p => e = .returned (.tuple #[]) ∧ Rdr s ep g p.2 0 W' ∧ PB p.1 W' | .error p => e = panics p) ∧ Chg (fun k => k = g ∨ k = bx) W W'
def TriedOut {α : Type} (bx : Nat) (PB : α → World → Prop) (W : World) (r : Except EP α) (e : Ending) (W' : World) : Prop :=
  (match r with | .ok x => e = .returned (.agg #[.int .i64 0, .int .i64 0]) ∧ PB x W' | .error p => e = .returned (.agg #[.int .i64 p.1, .int .i64 p.2])) ∧ Chg (fun k => k = bx) W W'

set_option maxRecDepth 100000 in
set_option maxHeartbeats 2000000 in
theorem tried_any {α : Type} {f : Nat} (he : Enters Tryd.prog f) (s : ByteArray) (bx : Nat) (w0 W : World) (hE : Env w0) (hb : Below w0.heap.size w0 W) (hbx : bx < W.heap.size) (hbx0 : w0.heap.size ≤ bx) (fS : EP → List Tk → Rd α) (PB : α → World → Prop) (hlen : (toks s).1.length ≤ 65537)
    (hPB : ∀ x A B, PB x A → Chg (fun k => k = W.heap.size + 1 ∨ k = W.heap.size) A B → PB x B)
    (hdo : ∀ L W1, L.length ≤ 65537 → Okw w0 (W.heap.size + 1) W1 → Rdr s (toks s).2 (W.heap.size + 1) L 0 W1 → W1.heap[bx]? = W.heap[bx]? → W.heap.size + 1 < W1.heap.size → Calls Tryd.prog f #[.pointer (some ⟨W.heap.size + 1, 0, none⟩), .pointer (some ⟨bx, 0, none⟩)] W1 (DoOut s (toks s).2 (W.heap.size + 1) bx PB W1 (fS (toks s).2 L))) :
    Calls Tryd.prog 41 #[.string s, .func (.func f) #[] #[.pointer (some ⟨bx, 0, none⟩)]] W (TriedOut bx PB W (wholeP fS s)) := by
  have hmf : ∀ (fn : Fn) (first cap : Array Value) (w : World), (Instr.makeFunc fn first cap).run Tryd.prog w = .ok (.func fn first cap) w := fun _ _ _ _ => rfl
  have heg : ∀ (args : Array Value) (w : World), (callFunc f args).run Tryd.prog w = .ok (.enter f args) w := he
  have hal : Below W.heap.size W (triedW W s) := ((Below.refl W.heap.size W).alloc (Nat.le_refl _) _).alloc (by simp) _
  have hO : Okw w0 (W.heap.size + 1) (triedW W s) := ⟨hE, by have := hb.size; omega, hb.trans (hal.mono hb.size)⟩
  have hRB : RdB (triedW W s) (W.heap.size + 1) s tkz (0 : Nat) 0 := new_blk' (by simp) _ _
  have hwz : (triedW W s).heap[W.heap.size]? = some (.cells #[.int .i64 0, .int .i64 0] 76 (0, 0)) := blk_past _ (new_blk W _ _)
  have hsz : (triedW W s).heap.size = W.heap.size + 2 := by simp
  rcases ht : (toks s).1 with _ | ⟨t1, r1⟩
  · have hT : toksA s 0 = ([], (toks s).2) := by show toks s = _; rw [← ht]
    have hwh : wholeP fS s = .error (toks s).2 := by unfold wholeP; rw [ht]
    have HS := Lib.hid (step_err s (toks s).2 (W.heap.size + 1) 0 tkz 0 w0 (triedW W s) hE hO.hg hO.hb hRB hT)
    rw [hwh]
    generalize (toks s).2 = ep at *
    have HZ := Lib.hid hwz; have HAL := Lib.hid hal
    clear hT ht hwh hdo hPB hO hRB hal hwz hE hb he
    go_enter_defers Tryd.func41, Tryd.ntmps41
    go_wp2_with fail
    refine HS.out.mono ?_
    rintro e W2 ⟨hpe, hc⟩
    unfold panics at hpe
    subst hpe
    go_wp2
    have hz2 := chg_block hc HZ.out (by omega)
    have hcW : Chg (fun k => k = bx) W W2 := (Chg.of_below HAL.out _).trans hc (fun k e => .inr (by omega))
    refine leaves_cons (f := 56) (args := #[.pointer (some ⟨W.heap.size, 0, none⟩)]) (by simp) (by simp [go_sem]) ?_
    refine (catch_panicking W.heap.size ep _ _ [] W2 hz2).mono ?_
    rintro e u' w'' ⟨rfl, rfl, rfl⟩
    have hz9 := blk_set (blk_set hz2 0 (.int .i64 ep.1)) 1 (.int .i64 ep.2)
    obtain ⟨r0, r1, rf⟩ := blk2 hz9
    simp [Leaves, settle, results, Tryd.results41, go_sem, r0, r1]
    exact ⟨rfl, (hcW.set1 W.heap.size 0 (Nat.le_refl _) _).set1 W.heap.size 1 (Nat.le_refl _) _⟩
  · have hT : toksA s 0 = (t1 :: r1, (toks s).2) := by show toks s = _; rw [← ht]
    have hlen' : (t1 :: r1).length ≤ 65537 := by rw [← ht]; exact hlen
    have hwh : wholeP fS s = bnd (fS (toks s).2 (t1 :: r1)) (fun p => bnd (kindP (toks s).2 1 p.2) (fun _ => .ok p.1)) := by unfold wholeP; rw [ht]
    have HS := Lib.hid (step_ok s (toks s).2 (W.heap.size + 1) 0 tkz t1 r1 0 w0 (triedW W s) hE hO.hg hO.hb hRB hT)
    have hdo := hdo (t1 :: r1)
    generalize (toks s).2 = ep at *
    generalize t1 :: r1 = L at *
    have HZ := Lib.hid hwz; have HAL := Lib.hid hal; have HO := Lib.hid hO; have HDO := Lib.hid hdo; have HPB := Lib.hid hPB; have HWH := Lib.hid hwh
    clear hT ht hwh hdo hPB hO hRB hal hwz hE hb he hlen
    go_enter_defers Tryd.func41, Tryd.ntmps41
    go_wp2_with fail
    refine HS.out.mono ?_
    rintro e W2 ⟨rfl, hR2, hc⟩
    have hz2 := chg_block hc HZ.out (by omega)
    have hcW : Chg (fun k => k = bx) W W2 := (Chg.of_below HAL.out _).trans hc (fun k e => .inr (by omega))
    have hbx2 : W2.heap[bx]? = W.heap[bx]? := (hc.block bx (by omega) (by omega)).trans (HAL.out.block bx hbx)
    have hs2 : W.heap.size + 1 < W2.heap.size := hR2.lt
    have HD := Lib.hid (HDO.out W2 hlen' (HO.out.chg hc) hR2 hbx2 hs2)
    have HO2 := Lib.hid (HO.out.chg hc); have HZ2 := Lib.hid hz2; have HCW := Lib.hid hcW
    clear hc hR2 hz2 hcW hbx2
    rcases hf : fS ep L with p | ⟨x, L'⟩
    · have HF := Lib.hid hf; clear hf
      go_wp2_with fail
      refine HD.out.mono ?_
      rintro e W3 h
      rw [HF.out] at h
      obtain ⟨hpe, hc3⟩ := h
      unfold panics at hpe
      subst hpe
      go_wp2
      have hz3 := chg_block hc3 HZ2.out (by omega)
      have hcW3 : Chg (fun k => k = bx) W W3 := HCW.out.trans hc3 (fun k e => e.elim (fun e => .inr (by omega)) (fun e => .inl e))
      have hw3 : wholeP fS s = .error p := by rw [HWH.out, HF.out]; rfl
      rw [hw3]
      refine leaves_cons (f := 56) (args := #[.pointer (some ⟨W.heap.size, 0, none⟩)]) (by simp) (by simp [go_sem]) ?_
      refine (catch_panicking W.heap.size p _ _ [] W3 hz3).mono ?_
      rintro e u' w'' ⟨rfl, rfl, rfl⟩
      have hz9 := blk_set (blk_set hz3 0 (.int .i64 p.1)) 1 (.int .i64 p.2)
      obtain ⟨r0, r1, rf⟩ := blk2 hz9
      simp [Leaves, settle, results, Tryd.results41, go_sem, r0, r1]
      exact ⟨rfl, (hcW3.set1 W.heap.size 0 (Nat.le_refl _) _).set1 W.heap.size 1 (Nat.le_refl _) _⟩
    · have HF := Lib.hid hf; clear hf
      go_wp2_with fail
      refine HD.out.mono ?_
      rintro e W3 h
      rw [HF.out] at h
      obtain ⟨⟨rfl, hR3, hP3⟩, hc3⟩ := h
      have hz3 := chg_block hc3 HZ2.out (by omega)
      have hcW3 : Chg (fun k => k = bx) W W3 := HCW.out.trans hc3 (fun k e => e.elim (fun e => .inr (by omega)) (fun e => .inl e))
      have hO3 : Okw w0 (W.heap.size + 1) W3 := ⟨HO2.out.env, HO2.out.hg, HO2.out.hb.trans (hc3.below HO2.out.hb.size (fun k e => by have := HO2.out.hg; omega))⟩
      have HK := Lib.hid (kind_any s ep (W.heap.size + 1) L' 0 1 w0 W3 hO3 hR3)
      have HP3 := Lib.hid hP3; have HZ3 := Lib.hid hz3; have HC3 := Lib.hid hcW3
      clear hR3 hP3 hc3 hz3 hcW3 hO3
      rcases hk : kindP ep 1 L' with p | ⟨q, L3⟩
      · have HKE := Lib.hid hk; clear hk
        go_wp2_with fail
        refine HK.out.mono ?_
        rintro e W4 h
        obtain ⟨rfl, hc4⟩ := h.err HKE.out
        go_wp2
        have hz4 := chg_block hc4 HZ3.out (by omega)
        have hcW4 : Chg (fun k => k = bx) W W4 := HC3.out.trans hc4 (fun k e => .inr (by omega))
        have hw4 : wholeP fS s = .error p := by rw [HWH.out, HF.out]; show bnd (kindP ep 1 L') _ = _; rw [HKE.out]; rfl
        rw [hw4]
        refine leaves_cons (f := 56) (args := #[.pointer (some ⟨W.heap.size, 0, none⟩)]) (by simp) (by simp [go_sem]) ?_
        refine (catch_panicking W.heap.size p _ _ [] W4 hz4).mono ?_
        rintro e u' w'' ⟨rfl, rfl, rfl⟩
        have hz9 := blk_set (blk_set hz4 0 (.int .i64 p.1)) 1 (.int .i64 p.2)
        obtain ⟨r0, r1, rf⟩ := blk2 hz9
        simp [Leaves, settle, results, Tryd.results41, go_sem, r0, r1]
        exact ⟨rfl, (hcW4.set1 W.heap.size 0 (Nat.le_refl _) _).set1 W.heap.size 1 (Nat.le_refl _) _⟩
      · have HKE := Lib.hid hk; clear hk
        go_wp2_with fail
        refine HK.out.mono ?_
        rintro e W4 h
        obtain ⟨⟨rfl, hR4⟩, hc4⟩ := h.ok HKE.out
        have hz4 := chg_block hc4 HZ3.out (by omega)
        have hcW4 : Chg (fun k => k = bx) W W4 := HC3.out.trans hc4 (fun k e => .inr (by omega))
        have hw4 : wholeP fS s = .ok x := by rw [HWH.out, HF.out]; show bnd (kindP ep 1 L') _ = _; rw [HKE.out]; rfl
        have hP4 := HPB.out x W3 W4 HP3.out (hc4.wider (fun k e => .inl e))
        obtain ⟨r0, r1, rf⟩ := blk2 hz4
        clear hR4 hc4
        unfold tkVal
        go_wp2
        refine leaves_cons (f := 56) (args := #[.pointer (some ⟨W.heap.size, 0, none⟩)]) (by simp) (by simp [go_sem]) ?_
        refine (catch_idle W.heap.size W4).mono ?_
        rintro e u' w'' ⟨rfl, rfl, rfl⟩
        rw [hw4]
        simp [Leaves, settle, results, Tryd.results41, go_sem, r0, r1]
        exact ⟨⟨rfl, hP4⟩, hcW4⟩
end Go.Proofs.YtlmopoipjolbgaaDoor.LexW
