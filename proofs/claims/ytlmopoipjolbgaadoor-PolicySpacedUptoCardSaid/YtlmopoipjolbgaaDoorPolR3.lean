/-
  Layer 6 (policy): the reader's kind.
-/
import Derived.Test.YtlmopoipjolbgaaDoorPolR2
namespace Go.Proofs.YtlmopoipjolbgaaDoor.LexW
open Go.RowKit Go.Shelf Go.Proofs.YtlmopoipjolbgaaDoor.LexS Go.Proofs.YtlmopoipjolbgaaDoorW.PrintWords
set_option linter.unusedVariables false
set_option linter.unusedSimpArgs false

abbrev tkObj (x : Tk) : Obj := .cells #[.int .i64 x.kind, .string x.text, .int .u64 x.num, .int .i64 x.at_] 38
abbrev tkZero : Obj := .cells #[.int .i64 0, .string ⟨#[]⟩, .int .u64 0, .int .i64 0] 38
/-- a block of cells that lies on: its cells -/
theorem chg_block {S : Nat → Prop} {W W' : World} (h : Chg S W W') {b : Nat} {o : Obj} (hb : W.heap[b]? = some o) (hn : ¬ S b) : W'.heap[b]? = some o := (h.block b (Array.getElem?_eq_some_iff.1 hb).1 hn).trans hb
theorem blk4 {W : World} {b : Nat} {v0 v1 v2 v3 : Value} {t : TypeId} (h : W.heap[b]? = some (.cells #[v0, v1, v2, v3] t (0, 0))) : W.cell? ⟨b, 0, none⟩ = some v0 ∧ W.cell? ⟨b, 1, none⟩ = some v1 ∧ W.cell? ⟨b, 2, none⟩ = some v2 ∧ W.cell? ⟨b, 3, none⟩ = some v3 ∧ ∀ j, W.frozen? ⟨b, j, none⟩ = false := by
  refine ⟨?_, ?_, ?_, ?_, fun j => ?_⟩ <;> simp [World.cell?, World.frozen?, h]
theorem blk_past {W : World} {b : Nat} {o : Obj} (o' : Obj) (h : W.heap[b]? = some o) : (W.alloc o').heap[b]? = some o := (((Below.refl _ W).alloc (Nat.le_refl _) o').block b (Array.getElem?_eq_some_iff.1 h).1).trans h
theorem new_blk' {W : World} {n : Nat} (h : W.heap.size = n) (cs : Array Value) (t : TypeId) : (W.alloc (.cells cs t)).heap[n]? = some (.cells cs t (0, 0)) := by subst h; exact new_blk W cs t
theorem Chg.sets4 {S : Nat → Prop} {W W' : World} (h : Chg S W W') (b : Nat) (hb : W.heap.size ≤ b) (v0 v1 v2 v3 : Value) : Chg S W ((((W'.setCell ⟨b, 0, none⟩ v0).setCell ⟨b, 1, none⟩ v1).setCell ⟨b, 2, none⟩ v2).setCell ⟨b, 3, none⟩ v3) :=
  (((h.trans (Chg.of_set _ b 0 _) (fun k e => .inr (by omega))).trans (Chg.of_set _ b 1 _) (fun k e => .inr (by omega))).trans (Chg.of_set _ b 2 _) (fun k e => .inr (by omega))).trans (Chg.of_set _ b 3 _) (fun k e => .inr (by omega))
theorem Rdr.far {s : ByteArray} {ep : EP} {g : Nat} {L : List Tk} {d : Int} {W : World} (h : Rdr s ep g L d W) (b j : Nat) (hb : g ≠ b) (v : Value) : Rdr s ep g L d (W.setCell ⟨b, j, none⟩ v) :=
  let ⟨t, e, hB, hA⟩ := h; ⟨t, e, (Below.heap_setCell W ⟨b, j, none⟩ v g hb).trans hB, hA⟩

set_option maxHeartbeats 1000000 in
theorem kind_any (s : ByteArray) (ep : EP) (g : Nat) (L : List Tk) (d k : Int) (w0 W : World) (hO : Okw w0 g W) (hR : Rdr s ep g L d W) :
    Calls Tryd.prog 58 #[.pointer (some ⟨g, 0, none⟩), .int .i64 k] W (Outs g W (kindP ep k L) (KindOut s ep g d)) := by
  have hR0 := hR
  obtain ⟨t, e, hB, rest, j, rfl, rfl, hT⟩ := hR
  obtain ⟨c0, c1, c2, c3, c4, c5, c6⟩ := rdb_cell hB
  have hgW := hB.lt
  have a1 := cell_past tkZero c1
  have a2 := cell_past tkZero c2
  have a3 := cell_past tkZero c3
  have a4 := cell_past tkZero c4
  have hW2 : Below W.heap.size W ((W.alloc tkZero).alloc (tkObj t)) := ((Below.refl _ W).alloc (Nat.le_refl _) _).alloc (by simp) _
  have hb1 : ((W.alloc tkZero).alloc (tkObj t)).heap[W.heap.size]? = some (.cells #[.int .i64 0, .string ⟨#[]⟩, .int .u64 0, .int .i64 0] 38 (0, 0)) := blk_past _ (new_blk W _ _)
  have hb2 : ((W.alloc tkZero).alloc (tkObj t)).heap[W.heap.size + 1]? = some (.cells #[.int .i64 t.kind, .string t.text, .int .u64 t.num, .int .i64 t.at_] 38 (0, 0)) := new_blk' (by simp) _ _
  have hR2 := hR0.below hW2
  have hO2 := hO.below hW2
  have HST := Lib.hid (step_any s ep g (t :: rest) d w0 _ hO2 hR2)
  have HBD := Lib.hid (bad_any s ep g (t :: rest) d 61 _ hR2)
  have HB1 := Lib.hid hb1; have HB2 := Lib.hid hb2; have HW2 := Lib.hid hW2; have HR2 := Lib.hid hR2; have HR0 := Lib.hid hR0
  clear hb1 hb2 hW2 hR2 hO2 hB hT hR0 hO
  by_cases h1 : t.kind = k
  · subst h1
    by_cases h2 : t.kind = 1
    · have b2 : (t.kind != 1) = false := by rw [bne_eq_false_iff_eq]; exact h2
      have HK : Hid (kindP ep t.kind (t :: rest) = .ok (t, t :: rest)) := Lib.hid (by show (if t.kind = t.kind then (if t.kind = 1 then _ else _) else _) = _; rw [if_pos rfl, if_pos h2]; rfl)
      clear h2
      go_enter Tryd.func58, Tryd.ntmps58
      go_wp2
      have hW3 : Below W.heap.size W ((W.alloc (tkObj t)).alloc (tkObj t)) := ((Below.refl _ W).alloc (Nat.le_refl _) _).alloc (by simp) _
      refine bodyPost_ret (v := tkVal t) (by simp [results, Tryd.results58, go_sem, tkVal]) rfl ?_
      exact Outs.mk_ok HK.out ⟨rfl, HR0.out.below hW3⟩ (Chg.of_below hW3 _)
    · have b2 : (t.kind != 1) = true := by rw [bne_iff_ne]; exact h2
      have HK : Hid (kindP ep t.kind (t :: rest) = bnd (stepP ep (t :: rest)) (fun L' => .ok (t, L'))) := Lib.hid (by show (if t.kind = t.kind then (if t.kind = 1 then _ else _) else _) = _; rw [if_pos rfl, if_neg h2]; rfl)
      have HS := Lib.hid (HST.out h2)
      clear h2
      cases hs : stepP ep (t :: rest) with
      | error p =>
        have HSE := Lib.hid hs; clear hs
        go_enter Tryd.func58, Tryd.ntmps58
        go_wp2_with fail
        refine HS.out.mono ?_
        rintro e W' h
        obtain ⟨rfl, hc⟩ := h.err HSE.out
        go_wp2
        exact ⟨rfl, Outs.mk_err (by rw [HK.out, HSE.out]; rfl) rfl ((Chg.of_below HW2.out _).trans hc (fun k e => .inl e))⟩
      | ok L' =>
        have HSE := Lib.hid hs; clear hs
        go_enter Tryd.func58, Tryd.ntmps58
        go_wp2_with fail
        refine HS.out.mono ?_
        rintro e W' h
        obtain ⟨⟨rfl, hR'⟩, hc⟩ := h.ok HSE.out
        obtain ⟨x0, x1, x2, x3, xf⟩ := blk4 (chg_block hc HB1.out (by omega))
        obtain ⟨y0, y1, y2, y3, yf⟩ := blk4 (chg_block hc HB2.out (by omega))
        have HR' := Lib.hid hR'; have HC := Lib.hid hc; clear hR' hc
        go_wp2
        have hB1 := blk_set (blk_set (blk_set (blk_set (chg_block HC.out HB1.out (by omega)) 0 (.int .i64 t.kind)) 1 (.string t.text)) 2 (.int .u64 t.num)) 3 (.int .i64 t.at_)
        obtain ⟨z0, z1, z2, z3, zf⟩ := blk4 hB1
        refine bodyPost_ret (v := tkVal t) (by simp [results, Tryd.results58, go_sem, z0, z1, z2, z3, tkVal]) rfl ?_
        refine Outs.mk_ok (by rw [HK.out, HSE.out]; rfl) ⟨rfl, ?_⟩ (((Chg.of_below HW2.out _).trans HC.out (fun k e => .inl e)).sets4 W.heap.size (Nat.le_refl _) _ _ _ _)
        exact (((HR'.out.far _ 0 (by omega) _).far _ 1 (by omega) _).far _ 2 (by omega) _).far _ 3 (by omega) _
  · have b1 : (t.kind != k) = true := by rw [bne_iff_ne]; exact h1
    have HK : Hid (kindP ep k (t :: rest) = .error (badP 61 (t :: rest))) := Lib.hid (by show (if t.kind = k then (if k = 1 then _ else _) else _) = _; rw [if_neg h1])
    clear h1
    go_enter Tryd.func58, Tryd.ntmps58
    go_wp2_with fail
    refine HBD.out.mono ?_
    rintro e W2 ⟨he, rfl⟩
    unfold panics at he
    subst he
    go_wp2
    exact ⟨rfl, Outs.mk_err HK.out rfl (Chg.of_below HW2.out _)⟩

theorem fld_num (v0 v1 v2 v3 : Value) (w : World) : (Instr.field 38 (.agg #[v0, v1, v2, v3]) 2).run Tryd.prog w = .ok v2 w := by kernel_rfl
theorem fld_text (v0 v1 v2 v3 : Value) (w : World) : (Instr.field 38 (.agg #[v0, v1, v2, v3]) 1).run Tryd.prog w = .ok v1 w := by kernel_rfl
def clVal (x : Cl) : Value := .agg #[.string x.f0, .int .u64 x.f1]
def ClOut (s : ByteArray) (ep : EP) (g : Nat) (d : Int) (p : Cl × List Tk) (e : Ending) (W' : World) : Prop := e = .returned (clVal p.1) ∧ Rdr s ep g p.2 d W'
abbrev clZero : Obj := .cells #[.string ⟨#[]⟩, .int .u64 0] 86
theorem blk2 {W : World} {b : Nat} {v0 v1 : Value} {t : TypeId} (h : W.heap[b]? = some (.cells #[v0, v1] t (0, 0))) : W.cell? ⟨b, 0, none⟩ = some v0 ∧ W.cell? ⟨b, 1, none⟩ = some v1 ∧ ∀ j, W.frozen? ⟨b, j, none⟩ = false := by
  refine ⟨?_, ?_, fun j => ?_⟩ <;> simp [World.cell?, World.frozen?, h]
theorem Chg.set1 {S : Nat → Prop} {W W' : World} (h : Chg S W W') (b j : Nat) (hb : W.heap.size ≤ b) (v : Value) : Chg S W (W'.setCell ⟨b, j, none⟩ v) := h.trans (Chg.of_set _ b j _) (fun k e => .inr (by omega))

attribute [local go_sem] fld_num fld_text
set_option maxRecDepth 100000 in
set_option maxHeartbeats 1000000 in
theorem call_any (s : ByteArray) (ep : EP) (g : Nat) (L : List Tk) (d : Int) (w0 W : World) (hO : Okw w0 g W) (hR : Rdr s ep g L d W) :
    Calls Tryd.prog 83 #[.pointer (some ⟨g, 0, none⟩)] W (Outs g W (callP ep L) (ClOut s ep g d)) := by
  have hR0 := hR
  obtain ⟨t, e, hB, rest, j, rfl, rfl, hT⟩ := hR
  obtain ⟨c0, c1, c2, c3, c4, c5, c6⟩ := rdb_cell hB
  have hgW := hB.lt
  have a1 := cell_past clZero c1
  have hW2 : Below W.heap.size W (W.alloc clZero) := (Below.refl _ W).alloc (Nat.le_refl _) _
  have hb1 : (W.alloc clZero).heap[W.heap.size]? = some (.cells #[.string ⟨#[]⟩, .int .u64 0] 86 (0, 0)) := new_blk W _ _
  have hR2 := hR0.below hW2
  have hO2 := hO.below hW2
  have HKI := Lib.hid (fun k => kind_any s ep g (t :: rest) d k w0 _ hO2 hR2)
  have HB1 := Lib.hid hb1; have HW2 := Lib.hid hW2
  clear hb1 hW2 hR2 hO2 hB hT hR0 hO
  by_cases h1 : t.kind = 3
  · have b1 : (t.kind == 3) = true := by rw [beq_iff_eq]; exact h1
    have HK : Hid (callP ep (t :: rest) = bnd (kindP ep 3 (t :: rest)) (fun p => .ok (⟨nil0, p.1.num⟩, p.2))) := Lib.hid (by show (if t.kind = 3 then _ else _) = _; rw [if_pos h1])
    clear h1
    cases hs : kindP ep 3 (t :: rest) with
    | error p =>
      have HSE := Lib.hid hs; clear hs
      go_enter Tryd.func83, Tryd.ntmps83
      go_wp2_with fail
      refine (HKI.out 3).mono ?_
      rintro e W' h
      obtain ⟨rfl, hc⟩ := h.err HSE.out
      go_wp2
      exact ⟨rfl, Outs.mk_err (by rw [HK.out, HSE.out]; rfl) rfl ((Chg.of_below HW2.out _).trans hc (fun k e => .inl e))⟩
    | ok p =>
      have HSE := Lib.hid hs; clear hs
      go_enter Tryd.func83, Tryd.ntmps83
      go_wp2_with fail
      refine (HKI.out 3).mono ?_
      rintro e W' h
      obtain ⟨⟨rfl, hR'⟩, hc⟩ := h.ok HSE.out
      obtain ⟨x0, x1, xf⟩ := blk2 (chg_block hc HB1.out (by omega))
      have HR' := Lib.hid hR'; have HC := Lib.hid hc; clear hR' hc
      unfold tkVal
      go_wp2
      have hB1 := blk_set (blk_set (chg_block HC.out HB1.out (by omega)) 0 (.string ⟨#[]⟩)) 1 (.int .u64 p.1.num)
      obtain ⟨z0, z1, zf⟩ := blk2 hB1
      refine bodyPost_ret (v := clVal ⟨nil0, p.1.num⟩) (by simp [results, Tryd.results83, go_sem, z0, z1, clVal, nil0]) rfl ?_
      refine Outs.mk_ok (by rw [HK.out, HSE.out]; rfl) ⟨rfl, ?_⟩ ((((Chg.of_below HW2.out _).trans HC.out (fun k e => .inl e)).set1 W.heap.size 0 (Nat.le_refl _) _).set1 W.heap.size 1 (Nat.le_refl _) _)
      exact (HR'.out.far _ 0 (by omega) _).far _ 1 (by omega) _
  · have b1 : (t.kind == 3) = false := by rw [beq_eq_false_iff_ne]; exact h1
    have HK : Hid (callP ep (t :: rest) = bnd (kindP ep 2 (t :: rest)) (fun p => .ok (⟨p.1.text, 0⟩, p.2))) := Lib.hid (by show (if t.kind = 3 then _ else _) = _; rw [if_neg h1])
    clear h1
    cases hs : kindP ep 2 (t :: rest) with
    | error p =>
      have HSE := Lib.hid hs; clear hs
      go_enter Tryd.func83, Tryd.ntmps83
      go_wp2_with fail
      refine (HKI.out 2).mono ?_
      rintro e W' h
      obtain ⟨rfl, hc⟩ := h.err HSE.out
      go_wp2
      exact ⟨rfl, Outs.mk_err (by rw [HK.out, HSE.out]; rfl) rfl ((Chg.of_below HW2.out _).trans hc (fun k e => .inl e))⟩
    | ok p =>
      have HSE := Lib.hid hs; clear hs
      go_enter Tryd.func83, Tryd.ntmps83
      go_wp2_with fail
      refine (HKI.out 2).mono ?_
      rintro e W' h
      obtain ⟨⟨rfl, hR'⟩, hc⟩ := h.ok HSE.out
      obtain ⟨x0, x1, xf⟩ := blk2 (chg_block hc HB1.out (by omega))
      have HR' := Lib.hid hR'; have HC := Lib.hid hc; clear hR' hc
      unfold tkVal
      go_wp2
      have hB1 := blk_set (blk_set (chg_block HC.out HB1.out (by omega)) 0 (.string p.1.text)) 1 (.int .u64 0)
      obtain ⟨z0, z1, zf⟩ := blk2 hB1
      refine bodyPost_ret (v := clVal ⟨p.1.text, 0⟩) (by simp [results, Tryd.results83, go_sem, z0, z1, clVal]) rfl ?_
      refine Outs.mk_ok (by rw [HK.out, HSE.out]; rfl) ⟨rfl, ?_⟩ ((((Chg.of_below HW2.out _).trans HC.out (fun k e => .inl e)).set1 W.heap.size 0 (Nat.le_refl _) _).set1 W.heap.size 1 (Nat.le_refl _) _)
      exact (HR'.out.far _ 0 (by omega) _).far _ 1 (by omega) _
end Go.Proofs.YtlmopoipjolbgaaDoor.LexW
