/-
  lex.List: the walk.
-/
import Derived.Test.YtlmopoipjolbgaaDoorLexF3
namespace Go.Proofs.YtlmopoipjolbgaaDoor.LexW
open Go.RowKit Go.Shelf Go.Proofs.YtlmopoipjolbgaaDoor.LexS Go.Proofs.YtlmopoipjolbgaaDoorW.PrintWords
set_option linter.unusedVariables false
set_option linter.unusedSimpArgs false
attribute [local go_sem] Oper.semAt_some

theorem boxed_new {W : World} {n : Nat} (h : W.heap.size = n) (t : TypeId) (v : Value) : Boxed (W.alloc (.cells #[v] t)) n t v := by subst h; exact Boxed.new W t v

/-- the world where the loop begins -/
abbrev listW (s : ByteArray) (w : World) : World :=
  ((((((w.alloc (.cells #[.string s] 9)).alloc (.cells #[.slice none 0 0] 29)).alloc (.cells #[.int .i64 0] 30)).alloc (.cells #[.int .i64 0] 3)).alloc (.cells #[.slice none 0 0] 29)).alloc (.cells #[.int .i64 0] 3)).alloc (.cells #[.string s] 9)
theorem listW_size (s : ByteArray) (w : World) : (listW s w).heap.size = w.heap.size + 7 := by simp
theorem listW_I (s : ByteArray) (w : World) : LI w s [] (listW s w) :=
  ⟨((((((boxed_new rfl _ _).alloc _).alloc _).alloc _).alloc _).alloc _).alloc _,
   (((((boxed_new (by simp) _ _).alloc _).alloc _).alloc _).alloc _).alloc _,
   ((((boxed_new (by simp) _ _).alloc _).alloc _).alloc _).alloc _,
   (((boxed_new (by simp) _ _).alloc _).alloc _).alloc _,
   ⟨_, ((boxed_new (by simp) _ _).alloc _).alloc _, Kd.R_nil _ _ _ _ _⟩,
   (boxed_new (by simp) _ _).alloc _,
   boxed_new (by simp) _ _,
   fun x hx => (by simp at hx),
   ((((((((Below.refl _ w).alloc (by simp) _).alloc (by simp) _).alloc (by simp; omega) _).alloc (by simp; omega) _).alloc (by simp; omega) _).alloc (by simp; omega) _).alloc (by simp; omega) _)⟩
theorem listW_terr (s : ByteArray) (w : World) (k : Nat) : ¬ terr (w.heap.size + 4) (listW s w) k := by
  rintro ⟨v, hv, ho⟩
  have : Boxed (listW s w) (w.heap.size + 4) 29 (.slice none 0 0) := ((boxed_new (by simp) _ _).alloc _).alloc _
  rw [this.cell] at hv
  cases hv
  simp [Value.ownBlock] at ho

/-- a round's activation -/
abbrev listAct (s : ByteArray) (n Bx : Nat) (x : Tk × Int) : Act := { tmps := #[.string s, .pointer (some ⟨n, 0, none⟩), .pointer (some ⟨n + 1, 0, none⟩), .pointer (some ⟨n + 2, 0, none⟩), .pointer (some ⟨n + 3, 0, none⟩), .pointer (some ⟨n + 4, 0, none⟩), .pointer (some ⟨n + 5, 0, none⟩), .pointer (some ⟨Bx, 0, none⟩), .int .i64 x.2, undef, undef, undef, .string s, .func (.func 35) #[] #[.pointer (some ⟨n + 6, 0, none⟩)], tokAgg x.1, .int .i64 x.2, undef, undef, undef, undef, undef, undef, undef, undef, undef, undef, undef, undef, undef, undef, undef, undef, undef, undef, undef, undef, undef, undef], defers := [] }
def listAx (s : ByteArray) (n : Nat) (x : Tk × Int) (a' : Act) (W : World) : Prop := ∃ Bx, n + 7 ≤ Bx ∧ TkBox W Bx x.1 ∧ ¬ terr (n + 4) W Bx ∧ a' = listAct s n Bx x
theorem listAx_own (s : ByteArray) (n B : Nat) (hB : n + 7 = B) (x : Tk × Int) (a' : Act) : OwnFrom B (fun (_ : Unit) W => listAx s n x a' W) := fun _ W W' row h hg hr => by
  obtain ⟨Bx, h1, h2, h3, h4⟩ := h
  refine ⟨Bx, h1, h2.kept hg (fun e => ?_), fun ht => ?_, h4⟩
  · obtain ⟨_, o, ho, hc⟩ := hr Bx e.symm
    rw [show W.heap[Bx]? = _ from h2] at ho; cases ho; cases hc
  · have hs := h2.lt
    refine h3 ((terr_of_block (hg.block (n + 4) (by omega) (fun e => ?_)) Bx).1 ht)
    have := (hr _ e.symm).1
    omega

set_option maxRecDepth 100000 in
set_option maxHeartbeats 8000000 in
theorem list_any (s : ByteArray) (w : World) (hE : Env w) :
    Calls Tryd.prog 17 #[.string s] w fun e w' => ListEnd (listV s) w.heap.size e w' ∧ Below w.heap.size w w' := by
  refine (callsIn_wide (n := 4)).1 ?_
  generalize hR : listV s = R
  have HR := Lib.hid hR; clear hR
  refine callsIn_of_wp_marks Tryd.func17 rfl trivial ?_ rfl
  simp only [Tryd.ntmps17, List.size_toArray, List.length_cons, List.length_nil, Nat.reduceAdd, Nat.reduceSub, Array.replicate_succ, Array.replicate_zero, List.push_toArray, List.append_toArray, List.nil_append, List.cons_append]
  gi_wp2_with (refine ⟨trivial, ?_⟩; gi_at_call 15; refine (callsIn_wide.2 (all_any _ _)).mono ?_; rintro e w1 ⟨rfl, rfl⟩)
  have hsz := listW_size s w
  refine wpIn_rangeFunc_ownH (w := listW s w) rfl (by omega) (gf := 35) (lb := #[.pointer (some ⟨w.heap.size + 6, 0, none⟩)]) rfl trivial (enters_of Tryd.func35 (by kernel_rfl) rfl)
    (all_stops 3 (by omega) (w.heap.size + 6) (w.heap.size + 4) s w (listW s w) hE (listW_I s w).bel (by omega) (listW_terr s w) (listW_I s w).tbox)
    (fun h k => h.trans k) (kpg_b (by omega) (by omega) (by omega)) (Below.refl _ _) (fun _ => rfl)
    (LI w s) (LX w s) (LI.own w s (by omega)) (LX.own w s (by omega)) (listW_I s w)
    (listAx s w.heap.size) (listAx_own s w.heap.size _ (by omega)) ?assign ?body ?done ?stop
  case assign =>
    rintro l pre ⟨⟨kd, tx, nm, pa⟩, er⟩ W K hI hK
    unfold gencs tokAgg
    have h7 := hI.bel.size
    have hsW : w.heap.size + 7 ≤ W.heap.size := hI.tbox.lt
    gi_wp2
    refine hK _ _ ((KeepsOthers.alloc _ _).from _) (Kpg.of_turn (by omega) (by omega) (by omega) (by omega) (World.grownBy_alloc W _ none) (fun _ e => by cases e)) ((LI.own w s (Nat.le_refl _)).alloc _ hI) ⟨W.heap.size, hsW, World.alloc_heap_new W _, ?_, rfl⟩
    rintro ⟨v, hv, ho⟩
    obtain ⟨v', hv', hrow⟩ := hI.row
    rw [(hv'.alloc _).cell] at hv
    cases hv
    exact hrow.lt _ (Nat.le_refl _) ho.symm
  case body =>
    rintro l pre ⟨⟨kd, tx, nm, pa⟩, er⟩ a' W hl hr hI ⟨Bx, hBx, hbx, hnt, rfl⟩ hlt
    unfold listAct tokAgg
    have hsW : w.heap.size + 7 ≤ W.heap.size := by have := hbx.lt; omega
    have hgl := gen_len s
    have ctx := hI.text.cell
    have cpl := hI.pl.cell
    have fpl := hI.pl.frozen
    by_cases he : er = 0
    · obtain rfl := he
      obtain ⟨v, hv, hrow⟩ := hI.row
      have cv := hv.cell
      have fv := hv.frozen
      have k0 : W.cell? ⟨Bx, 0, none⟩ = some (.int .i64 kd) := kept_cell hbx 0
      have k1 : W.cell? ⟨Bx, 1, none⟩ = some (.string tx) := kept_cell hbx 1
      have k2 : W.cell? ⟨Bx, 2, none⟩ = some (.int .u64 nm) := kept_cell hbx 2
      have k3 : W.cell? ⟨Bx, 3, none⟩ = some (.int .i64 pa) := kept_cell hbx 3
      have HROW := Lib.hid hrow; have HI := Lib.hid hI; have HV := Lib.hid hv; have HBX := Lib.hid hbx; have HNT := Lib.hid hnt; have HLT := Lib.hid hlt; have HSW := Lib.hid hsW
      clear hrow hI hv hbx hnt hlt hsW hr
      gi_wp2_with (gi_at_builtin; refine R_append_in kTk (W := W) w.heap.size rfl (.tmp 27) (.tmp 29) 29 38 (.agg #[.int .i64 0, .string ⟨#[]⟩, .int .u64 0, .int .i64 0]) 40 rfl Tryd.underlying29 infoTk rfl (by decide) v (pre.map fun x : Tk × Int => x.1) ⟨kd, tx, nm, pa⟩ (tkCells ⟨kd, tx, nm, pa⟩) (fun _ => True) (fun _ => False) rfl (by go_simp) (kTk_mkM _ _ _ _) (fun _ hk => hk.elim) (fun _ _ => trivial) HROW.out (by have := HSW.out; omega) (by have := HLT.out; simp; omega) (by have := HLT.out; unfold maxLen; simp; omega) ?_; intro v2 w2 hO2 hg2 hat2; obtain ⟨A2, c2, rfl⟩ := Kd.R_slice hO2; rw [show ((pre.map fun x : Tk × Int => x.1) ++ [(⟨kd, tx, nm, pa⟩ : Tk)]).length = pre.length + 1 by simp] at hO2 hat2; have hv2 := HV.out.kept hg2 (HROW.out.ne HV.out (by decide)); have cv2 := hv2.cell; have fv2 := hv2.frozen; have hb2 := HBX.out.kept hg2 (fun e => HNT.out ⟨v, HV.out.cell, e.symm⟩); have j1 : w2.cell? ⟨Bx, 1, none⟩ = some (.string tx) := kept_cell hb2 1; have j3 : w2.cell? ⟨Bx, 3, none⟩ = some (.int .i64 pa) := kept_cell hb2 3; have hpl2 := HI.out.pl.kept hg2 (HROW.out.ne HI.out.pl (by decide)); have cpl2 := hpl2.cell; have fpl2 := hpl2.frozen; have HO2 : Hid (TkRow w2 w.heap.size _ _) := Lib.hid hO2; have HAT := Lib.hid hat2; have HG := Lib.hid hg2; clear hO2 hat2 hg2 hv2 hb2 hpl2)
      obtain ⟨hk1, hk2⟩ := round_keeps (u5 := .nilIface) rfl HSW.out (by decide) (by decide) HROW.out HV.out HI.out.tbox HO2.out HG.out HAT.out (.int .i64 (wrap64 (pa + (tx.size : Int))))
      exact ⟨hk1, hk2, HI.out.next HV.out HROW.out HO2.out HG.out⟩
    · have he' : (er != 0) = true := by rw [bne_iff_ne]; exact he
      have c1 := hI.r1.cell
      have c2 := hI.r2.cell
      have c3 := hI.r3.cell
      have f1 := hI.r1.frozen
      have f2 := hI.r2.frozen
      have f3 := hI.r3.frozen
      have HN := Lib.hid (next_any s (placeT (pre.map fun x : Tk × Int => x.1)) W (hE.below hI.bel))
      have HI := Lib.hid hI; have HER := Lib.hid he
      clear hI he hr hbx hnt hlt
      generalize hxx : nextV s (placeT (pre.map fun x : Tk × Int => x.1)) = xx at *
      have HXX := Lib.hid hxx; clear hxx
      obtain ⟨kd1, tx1, nm1, pa1, pl1, er1⟩ := xx
      unfold nextVal at HN
      gi_wp2_with (refine ⟨trivial, ?_⟩; gi_at_call 18; refine (CallsIn.inRound l (callsIn_wide.2 HN.out)).mono ?_; rintro e w2 ⟨rfl, hb2⟩; obtain ⟨hbc, hbf⟩ := bcell hb2; rw [← hbc _ _ (by omega)] at c1 c2 c3; rw [← hbf _ _ (by omega)] at f1 f2 f3; have d1 := cell_over (.cells #[.int .i64 kd1, .string tx1, .int .u64 nm1, .int .i64 pa1] 38) c1; have d2 := cell_over (.cells #[.int .i64 kd1, .string tx1, .int .u64 nm1, .int .i64 pa1] 38) c2; have d3 := cell_over (.cells #[.int .i64 kd1, .string tx1, .int .u64 nm1, .int .i64 pa1] 38) c3; have g1 := frozen_over (.cells #[.int .i64 kd1, .string tx1, .int .u64 nm1, .int .i64 pa1] 38) c1 f1; have g2 := frozen_over (.cells #[.int .i64 kd1, .string tx1, .int .u64 nm1, .int .i64 pa1] 38) c2 f2; have g3 := frozen_over (.cells #[.int .i64 kd1, .string tx1, .int .u64 nm1, .int .i64 pa1] 38) c3 f3; have HB2 := Lib.hid hb2; clear hb2 hbc hbf c1 c2 c3 f1 f2 f3)
      exact LX.made (x := (⟨kd, tx, nm, pa⟩, er)) HI.out HER.out HB2.out _ (by rw [HXX.out]) _
  case done =>
    rintro D xs W hD rfl hI hK
    obtain ⟨h1, h2⟩ := gen_all hI.ok
    obtain ⟨v, hv, hrow⟩ := hI.row
    rw [h2] at hrow
    obtain ⟨A2, c2, rfl⟩ := Kd.R_slice hrow
    have HRow := Lib.hid hrow; have HI := Lib.hid hI
    have d1 := hI.r1.cell
    have d2 := hI.r2.cell
    have d3 := hI.r3.cell
    have g1 := hI.r1.frozen
    have g2 := hI.r2.frozen
    have g3 := hI.r3.frozen
    have cv := hv.cell
    have HVV := Lib.hid hv
    clear hI hrow hv
    gi_wp2
    have hK2 : (((W.setCell ⟨w.heap.size + 1, 0, none⟩ (.slice A2 (toks s).1.length c2)).setCell ⟨w.heap.size + 2, 0, none⟩ (.int .i64 0)).setCell ⟨w.heap.size + 3, 0, none⟩ (.int .i64 0)).heap[D]? = some (.deferred (some [])) :=
      (((KeepsOthers.setCell W _ _).trans (KeepsOthers.setCell _ _ _)).trans (KeepsOthers.setCell _ _ _)).same D _ hK rfl
    refine ⟨by simp, .inl ⟨_, _, rfl, run_takeDeferred hK2, ?_⟩⟩
    have hnD : ∀ k, k < w.heap.size + 7 → some k ≠ some D := fun k hk e => by cases e; omega
    have b1 := (((HI.out.r1.set (.slice A2 (toks s).1.length c2)).other (B' := w.heap.size + 2) (by omega) (.int .i64 0)).other (B' := w.heap.size + 3) (by omega) (.int .i64 0)).kept (grownBy_putObj' _ D (.deferred none)) (hnD _ (by omega))
    have b2 := (((HI.out.r2.other (B' := w.heap.size + 1) (by omega) (.slice A2 (toks s).1.length c2)).set (.int .i64 0)).other (B' := w.heap.size + 3) (by omega) (.int .i64 0)).kept (grownBy_putObj' _ D (.deferred none)) (hnD _ (by omega))
    have b3 := (((HI.out.r3.other (B' := w.heap.size + 1) (by omega) (.slice A2 (toks s).1.length c2)).other (B' := w.heap.size + 2) (by omega) (.int .i64 0)).set (.int .i64 0)).kept (grownBy_putObj' _ D (.deferred none)) (hnD _ (by omega))
    have hO3 := (((HRow.out.set HI.out.r1 (by decide) (.slice A2 (toks s).1.length c2)).set (HI.out.r2.other (B' := w.heap.size + 1) (by omega) (.slice A2 (toks s).1.length c2)) (by decide) (.int .i64 0)).set ((HI.out.r3.other (B' := w.heap.size + 1) (by omega) (.slice A2 (toks s).1.length c2)).other (B' := w.heap.size + 2) (by omega) (.int .i64 0)) (by decide) (.int .i64 0)).turn (grownBy_putObj' _ D (.deferred none)) (fun r e => by cases e; exact ⟨_, hK2, rfl⟩)
    have hbl := (((HI.out.bel.setCell (p := ⟨w.heap.size + 1, 0, none⟩) (by simp) (.slice A2 (toks s).1.length c2)).setCell (p := ⟨w.heap.size + 2, 0, none⟩) (by simp) (.int .i64 0)).setCell (p := ⟨w.heap.size + 3, 0, none⟩) (by simp) (.int .i64 0)).grown (grownBy_putObj' _ D (.deferred none)) (by have := HI.out.bel.size; simp; omega) (fun k e => by cases e; omega)
    have c1 := b1.cell
    have c2' := b2.cell
    have c3 := b3.cell
    have HO3 := Lib.hid hO3; have HBL := Lib.hid hbl
    clear hO3 hbl hnD hK2 hK
    have hRv : listV s = ((toks s).1, 0, 0) := by unfold listV; rw [if_neg (by simpa using h1)]
    rw [HR.out] at hRv
    subst hRv
    refine ⟨.tuple #[.slice A2 (toks s).1.length c2, .int .i64 0, .int .i64 0], ?_, ⟨_, rfl, HO3.out⟩, HBL.out⟩
    simp [results, Tryd.results17, go_sem, c1, c2', c3]
  case stop =>
    rintro D c pre W hD hp ⟨rfl, hX⟩ hK
    obtain ⟨p, x, rfl, hx, b1, b2, b3, hb⟩ := hX
    obtain ⟨h1, h2⟩ := gen_stop hp hx
    gi_wp2
    refine ⟨by simp, .inl ⟨_, _, rfl, run_takeDeferred hK, ?_⟩⟩
    have hnD : ∀ k, k < w.heap.size + 7 → some k ≠ some D := fun k hk e => by cases e; omega
    have c1 := (b1.kept (grownBy_putObj' _ D (.deferred none)) (hnD _ (by omega))).cell
    have c2 := (b2.kept (grownBy_putObj' _ D (.deferred none)) (hnD _ (by omega))).cell
    have c3 := (b3.kept (grownBy_putObj' _ D (.deferred none)) (hnD _ (by omega))).cell
    have hbl := hb.grown (grownBy_putObj' _ D (.deferred none)) hb.size (fun k e => by cases e; omega)
    have hRv : listV s = ([], x.2, placeOf (nextV s (placeT (p.map fun x : Tk × Int => x.1)))) := by
      unfold listV
      rw [if_pos (by rw [h1]; exact hx), h2, toks_place s (by rw [h1]; exact hx), ← h1]
    rw [HR.out] at hRv
    subst hRv
    have HBL := Lib.hid hbl
    clear hbl hnD hK b1 b2 b3
    refine ⟨.tuple #[.slice none 0 0, .int .i64 x.2, .int .i64 (placeOf (nextV s (placeT (p.map fun x : Tk × Int => x.1))))], ?_, ⟨_, rfl, Kd.R_nil _ _ _ _ _⟩, HBL.out⟩
    simp [results, Tryd.results17, go_sem, c1, c2, c3]
end Go.Proofs.YtlmopoipjolbgaaDoor.LexW
