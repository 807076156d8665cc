/-
  Layer 6 (policy): the tables of words; a verdict.
-/
import Derived.Test.YtlmopoipjolbgaaDoorPolR3
import Derived.Test.YtlmopoipjolbgaaDoorLexR6
namespace Go.Proofs.YtlmopoipjolbgaaDoor.LexW
open Go.RowKit Go.Shelf Go.Proofs.YtlmopoipjolbgaaDoor.LexS Go.Proofs.YtlmopoipjolbgaaDoorW.PrintWords
set_option linter.unusedVariables false
set_option linter.unusedSimpArgs false

def wordCells (x : ByteArray × Int × Bool) : List Value := [.string x.1, .int .i64 x.2.1, .bool x.2.2]
def wordsObj : Obj := .cells (wordsT.flatMap wordCells).toArray 111
def fieldsObj : Obj := .cells (fieldsT.map Value.string).toArray 9
def relsObj : Obj := .cells (relsT.map Value.string).toArray 9
set_option maxRecDepth 100000 in
theorem words_any (W : World) : Calls Tryd.prog 81 #[] W fun e W' => e = .returned (.slice (some ⟨W.heap.size, 0, none⟩) 8 8) ∧ W' = W.alloc wordsObj := by
  go_enter Tryd.func81, Tryd.ntmps81
  go_wp2
  go_ret
  exact ⟨rfl, rfl⟩
set_option maxRecDepth 100000 in
theorem fields_any (W : World) : Calls Tryd.prog 88 #[] W fun e W' => e = .returned (.slice (some ⟨W.heap.size, 0, none⟩) 7 7) ∧ W' = W.alloc fieldsObj := by
  go_enter Tryd.func88, Tryd.ntmps88
  go_wp2
  go_ret
  exact ⟨rfl, rfl⟩
set_option maxRecDepth 100000 in
theorem rels_any (W : World) : Calls Tryd.prog 95 #[] W fun e W' => e = .returned (.slice (some ⟨W.heap.size, 0, none⟩) 6 6) ∧ W' = W.alloc relsObj := by
  go_enter Tryd.func95, Tryd.ntmps95
  go_wp2
  go_ret
  exact ⟨rfl, rfl⟩

theorem words_blk {w : World} {B : Nat} (h : w.heap[B]? = some (.cells (wordsT.flatMap wordCells).toArray 111 (0, 0))) (i : Nat) (hi : i < 8) :
    w.cell? ⟨B, i * 3, none⟩ = some (.string (wordsT.getD i (nil0, 0, false)).1) ∧ w.cell? ⟨B, i * 3 + 1, none⟩ = some (.int .i64 (wordsT.getD i (nil0, 0, false)).2.1) ∧ w.cell? ⟨B, i * 3 + 2, none⟩ = some (.bool (wordsT.getD i (nil0, 0, false)).2.2) := by
  match i, hi with
  | 0, _ | 1, _ | 2, _ | 3, _ | 4, _ | 5, _ | 6, _ | 7, _ => exact ⟨by simp [World.cell?, h, wordsT, wordCells], by simp [World.cell?, h, wordsT, wordCells], by simp [World.cell?, h, wordsT, wordCells]⟩
theorem find_none {x : ByteArray} (h : ∀ j, j < 8 → x ≠ (wordsT.getD j (nil0, 0, false)).1) : wordsT.find? (fun y => decide (x = y.1)) = none := by
  rw [List.find?_eq_none]
  intro y hy
  obtain ⟨j, hj, rfl⟩ := List.getElem_of_mem hy
  have := h j hj
  simpa [List.getD_eq_getElem?_getD, List.getElem?_eq_getElem hj] using this
theorem find_some {x : ByteArray} {i : Nat} (hi : i < 8) (h : ∀ j, j < i → x ≠ (wordsT.getD j (nil0, 0, false)).1) (hx : x = (wordsT.getD i (nil0, 0, false)).1) : wordsT.find? (fun y => decide (x = y.1)) = some (wordsT.getD i (nil0, 0, false)) := by
  rw [List.find?_eq_some_iff_getElem]
  have hlen : wordsT.length = 8 := rfl
  refine ⟨by rw [decide_eq_true_eq]; exact hx, i, by omega, by simp [List.getD_eq_getElem?_getD, List.getElem?_eq_getElem (show i < wordsT.length by omega)], fun j hj => ?_⟩
  have := h j hj
  simpa [List.getD_eq_getElem?_getD, List.getElem?_eq_getElem (show j < wordsT.length by omega)] using this

theorem blk3 {W : World} {b : Nat} {v0 v1 v2 : Value} {t : TypeId} (h : W.heap[b]? = some (.cells #[v0, v1, v2] t (0, 0))) : W.cell? ⟨b, 0, none⟩ = some v0 ∧ W.cell? ⟨b, 1, none⟩ = some v1 ∧ W.cell? ⟨b, 2, none⟩ = some v2 ∧ ∀ j, W.frozen? ⟨b, j, none⟩ = false := by
  refine ⟨?_, ?_, ?_, fun j => ?_⟩ <;> simp [World.cell?, World.frozen?, h]
def vdVal (x : Vd) : Value := .agg #[.int .i64 x.f0, .int .u64 x.f1]
def VdOut (s : ByteArray) (ep : EP) (g : Nat) (d : Int) (p : Vd × List Tk) (e : Ending) (W' : World) : Prop := e = .returned (vdVal p.1) ∧ Rdr s ep g p.2 d W'
abbrev vdZero : Obj := .cells #[.int .i64 0, .int .u64 0] 48

attribute [local go_sem] fld_num fld_text
set_option maxRecDepth 100000 in
set_option maxHeartbeats 2000000 in
theorem verdict_any (s : ByteArray) (ep : EP) (g : Nat) (L : List Tk) (d : Int) (w0 W : World) (hO : Okw w0 g W) (hR : Rdr s ep g L d W) :
    Calls Tryd.prog 60 #[.pointer (some ⟨g, 0, none⟩)] W (Outs g W (verdictP ep L) (VdOut s ep g d)) := by
  have hR0 := hR
  obtain ⟨t, e, hB, rest, j, rfl, rfl, hT⟩ := hR
  have hgW := hB.lt
  have HR0 := Lib.hid hR0; have HO := Lib.hid hO; have HB := Lib.hid hB
  clear hR0 hO hB hT
  go_enter Tryd.func60, Tryd.ntmps60
  go_wp2_with fail
  refine (words_any _).mono ?_
  rintro e W1 ⟨rfl, rfl⟩
  have hbW : Below W.heap.size W ((W.alloc vdZero).alloc wordsObj) := ((Below.refl _ W).alloc (Nat.le_refl _) _).alloc (by simp) _
  have hw0 : ((W.alloc vdZero).alloc wordsObj).heap[W.heap.size + 1]? = some (.cells (wordsT.flatMap wordCells).toArray 111 (0, 0)) := new_blk' (by simp) _ _
  have hr0 : ((W.alloc vdZero).alloc wordsObj).heap[W.heap.size]? = some (.cells #[.int .i64 0, .int .u64 0] 48 (0, 0)) := blk_past _ (new_blk W _ _)
  have hs0 : ((W.alloc vdZero).alloc wordsObj).heap.size = W.heap.size + 2 := by simp
  go_wp2
  obtain ⟨B, hBW⟩ : ∃ B, B = W.heap.size := ⟨_, rfl⟩
  rw [← hBW] at hbW hw0 hr0 hs0 hgW
  show Code.wp _ _ _ _ ((W.alloc vdZero).alloc wordsObj)
  rw [← hBW]
  generalize (W.alloc vdZero).alloc wordsObj = W2 at *
  have HBW := Lib.hid hBW; have HbW := Lib.hid hbW; have HW0 := Lib.hid hw0; have HRZ := Lib.hid hr0
  clear hBW hbW hw0 hr0
  go_loopw [8] (fun vi wr => ∃ i : Nat, vi = .int .i64 i ∧ i ≤ 8 ∧ Hid (Below W2.heap.size W2 wr) ∧ Hid (t.kind = 2 → ∀ j, j < i → t.text ≠ (wordsT.getD j (nil0, 0, false)).1)) (fun vi _ => 8 - (intOf vi).toNat)
  case atStart => exact ⟨0, rfl, by omega, Lib.hid (Below.refl _ _), Lib.hid (fun _ j h => absurd h (by omega))⟩
  case round =>
    obtain ⟨i, rfl, hi, HBL, HNE⟩ := hrel
    have hsz := HBL.out.size
    have hbwr : Below W.heap.size W wr := by have := HbW.out; have h2 := HBL.out; exact Below.trans (by rw [← HBW.out]; exact this) (h2.mono (by have := HBW.out; omega))
    have hRr := HB.out.below hbwr
    obtain ⟨c0, c1, c2, c3, c4, c5, c6⟩ := rdb_cell hRr
    have HRd := Lib.hid (HR0.out.below hbwr); have HOr := Lib.hid (HO.out.below hbwr); have HBwr := Lib.hid hbwr
    have HRZr := Lib.hid ((HBL.out.block B (by omega)).trans HRZ.out)
    clear hRr hbwr
    by_cases hlt : i < 8
    · obtain ⟨x0, x1, x2⟩ := words_blk ((HBL.out.block (B + 1) (by omega)).trans HW0.out) i hlt
      obtain ⟨x, hx⟩ : ∃ x, x = wordsT.getD i (nil0, 0, false) := ⟨_, rfl⟩
      rw [← hx] at x0 x1 x2
      have HX := Lib.hid hx; clear hx
      obtain ⟨xt, xk, xn⟩ := x
      dsimp only at x0 x1 x2
      have a1 := cell_past (.cells #[.string xt, .int .i64 xk, .bool xn] 111) c1
      have a2 := cell_past (.cells #[.string xt, .int .i64 xk, .bool xn] 111) c2
      by_cases hk : t.kind = 2
      · have bk : (t.kind != 2) = false := by rw [bne_eq_false_iff_eq]; exact hk
        by_cases hxt : t.text = xt
        · have hv : verdictP ep (t :: rest) = bnd (stepP ep (t :: rest)) (fun L1 => if xn = true then bnd (kindP ep 3 L1) (fun p => .ok (⟨xk, p.1.num⟩, p.2)) else .ok (⟨xk, 0⟩, L1)) := by
            have := find_some (x := t.text) hlt (HNE.out hk) (by rw [← HX.out]; exact hxt)
            rw [← HX.out] at this
            unfold verdictP
            show (if t.kind = 2 then (match wordsT.find? (fun y => decide (t.text = y.1)) with | some (_, k, n) => _ | none => _) else _) = _
            rw [if_pos hk, this]
          have HV := Lib.hid hv; clear hv
          have bt : (t.text.toList == xt.toList) = true := by rw [hxt]; exact beq_self_eq_true _
          have bt' : (t.text.toList != xt.toList) = false := by rw [hxt]; simp
          have HS := Lib.hid (fun Y (h : Below wr.heap.size wr Y) => step_any s ep g (t :: rest) d w0 Y (HOr.out.below h) (HRd.out.below h) (by show t.kind ≠ 1; omega))
          clear hk hxt
          go_wp2
          go_quiet (fail)
          have hY : Below wr.heap.size wr ((wr.alloc (.cells #[.string xt, .int .i64 xk, .bool xn] 111)).drewN nq) := pw_below_drewN ((Below.refl _ wr).alloc (Nat.le_refl _) _) _
          have hwb : ((wr.alloc (.cells #[.string xt, .int .i64 xk, .bool xn] 111)).drewN nq).heap[wr.heap.size]? = some (.cells #[.string xt, .int .i64 xk, .bool xn] 111 (0, 0)) := by
            rw [World.heap_drewN]; exact new_blk wr _ _
          have HY := Lib.hid hY; have HWB := Lib.hid hwb; clear hY hwb
          cases hs : stepP ep (t :: rest) with
          | error p =>
            have HSE := Lib.hid hs; clear hs
            go_wp2_with fail
            refine (HS.out _ HY.out).mono ?_
            rintro e W3 h
            obtain ⟨rfl, hc⟩ := h.err HSE.out
            go_wp2
            exact ⟨rfl, Outs.mk_err (by rw [HV.out, HSE.out]; rfl) rfl (((Chg.of_below HBwr.out _).trans (Chg.of_below HY.out (fun k => k = g)) (fun k e => .inl e)).trans hc (fun k e => .inl e))⟩
          | ok L1 =>
            have HSE := Lib.hid hs; clear hs
            go_wp2_with fail
            refine (HS.out _ HY.out).mono ?_
            rintro e W3 h
            obtain ⟨⟨rfl, hR3⟩, hc⟩ := h.ok HSE.out
            obtain ⟨y0, y1, y2, yf⟩ := blk3 (chg_block hc HWB.out (by omega))
            have hz3 := chg_block hc ((HY.out.block B (by omega)).trans HRZr.out) (by omega)
            have hcW : Chg (fun k => k = g) W W3 := ((Chg.of_below HBwr.out _).trans (Chg.of_below HY.out (fun k => k = g)) (fun k e => .inl e)).trans hc (fun k e => .inl e)
            have hs3 := hc.size
            have hsY := HY.out.size
            have hB3 : B < W3.heap.size := by omega
            have hvb := new_blk W3 #[.int .i64 xk, .int .u64 0] 48
            have hz4 := blk_past (.cells #[.int .i64 xk, .int .u64 0] 48) hz3
            have hY4 : Below W3.heap.size W3 (W3.alloc (.cells #[.int .i64 xk, .int .u64 0] 48)) := (Below.refl _ W3).alloc (Nat.le_refl _) _
            obtain ⟨z0, z1, zf⟩ := blk2 hz4
            obtain ⟨p0, p1, pf⟩ := blk2 hz3
            have y2' := cell_past (.cells #[.int .i64 xk, .int .u64 0] 48) y2
            have HZ3 := Lib.hid hz3; have HCW := Lib.hid hcW; have HR3 := Lib.hid hR3; have HY4 := Lib.hid hY4; have HZ4 := Lib.hid hz4; have HVB := Lib.hid hvb
            clear hcW hR3 hY4 hc hz3 hz4 hvb x0 x1 x2 a1 a2 c0 c1 c2 c3 c4 c5 c6
            cases xn with
            | false =>
              go_wp2
              have hB5 := blk_past (.cells #[.int .i64 xk, .int .u64 0] 48) (blk_set (blk_set HZ3.out 0 (.int .i64 xk)) 1 (.int .u64 0))
              obtain ⟨r0, r1, rf⟩ := blk2 hB5
              refine bodyPost_ret (v := vdVal ⟨xk, 0⟩) (by simp [results, Tryd.results60, go_sem, r0, r1, vdVal]) rfl ?_
              have hcs := (HCW.out.set1 B 0 (by have := HBW.out; omega) (.int .i64 xk)).set1 B 1 (by have := HBW.out; omega) (.int .u64 0)
              have hal := (Below.refl ((W3.setCell ⟨B, 0, none⟩ (.int .i64 xk)).setCell ⟨B, 1, none⟩ (.int .u64 0)).heap.size ((W3.setCell ⟨B, 0, none⟩ (.int .i64 xk)).setCell ⟨B, 1, none⟩ (.int .u64 0))).alloc (Nat.le_refl _) (.cells #[.int .i64 xk, .int .u64 0] 48)
              exact Outs.mk_ok (by rw [HV.out, HSE.out]; rfl) ⟨rfl, ((HR3.out.far B 0 (by omega) _).far B 1 (by omega) _).below hal⟩ (hcs.trans (Chg.of_below hal (fun k => k = g)) (fun k e => .inl e))
            | true =>
              have HK := Lib.hid (kind_any s ep g L1 d 3 w0 _ ((HO.out.chg HCW.out).below HY4.out) (HR3.out.below HY4.out))
              cases hs2 : kindP ep 3 L1 with
              | error p =>
                have HSE2 := Lib.hid hs2; clear hs2
                go_wp2_with fail
                refine HK.out.mono ?_
                rintro e W5 h
                obtain ⟨rfl, hc⟩ := h.err HSE2.out
                go_wp2
                exact ⟨rfl, Outs.mk_err (by rw [HV.out, HSE.out]; show bnd (kindP ep 3 L1) _ = _; rw [HSE2.out]; rfl) rfl ((HCW.out.trans (Chg.of_below HY4.out (fun k => k = g)) (fun k e => .inl e)).trans hc (fun k e => .inl e))⟩
              | ok p =>
                have HSE2 := Lib.hid hs2; clear hs2
                go_wp2_with fail
                refine HK.out.mono ?_
                rintro e W5 h
                obtain ⟨⟨rfl, hR5⟩, hc⟩ := h.ok HSE2.out
                have hz5 := chg_block hc HZ4.out (by omega)
                have hv5 := chg_block hc HVB.out (by omega)
                obtain ⟨u0, u1, uf⟩ := blk2 hz5
                obtain ⟨v0, v1, vf⟩ := blk2 hv5
                have hv6 := blk_set hv5 1 (.int .u64 p.1.num)
                have hne : (W3.heap.size = B) = False := by simp; omega
                have HZ5 := Lib.hid hz5; have HC5 := Lib.hid hc; have HR5 := Lib.hid hR5
                clear hz5 hv5 hc hR5 hv6 z0 z1 zf p0 p1 pf y0 y1 y2 yf y2'
                unfold tkVal
                go_wp2
                have hb6 := blk_set (blk_set ((Below.heap_setCell W5 ⟨W3.heap.size, 1, none⟩ (.int .u64 p.1.num) B (by show B ≠ W3.heap.size; omega)).trans HZ5.out) 0 (.int .i64 xk)) 1 (.int .u64 p.1.num)
                obtain ⟨r0, r1, rf⟩ := blk2 hb6
                refine bodyPost_ret (v := vdVal ⟨xk, p.1.num⟩) (by simp [results, Tryd.results60, go_sem, r0, r1, vdVal]) rfl ?_
                refine Outs.mk_ok (by rw [HV.out, HSE.out]; show bnd (kindP ep 3 L1) _ = _; rw [HSE2.out]; rfl) ⟨rfl, ?_⟩ (((((HCW.out.trans (Chg.of_below HY4.out (fun k => k = g)) (fun k e => .inl e)).trans HC5.out (fun k e => .inl e)).set1 W3.heap.size 1 (by have := HCW.out.size; omega) _).set1 B 0 (by have := HBW.out; omega) _).set1 B 1 (by have := HBW.out; omega) _)
                exact ((HR5.out.far W3.heap.size 1 (by omega) _).far B 0 (by omega) _).far B 1 (by omega) _
        · have HNE2 : Hid (t.kind = 2 → ∀ j, j < i + 1 → t.text ≠ (wordsT.getD j (nil0, 0, false)).1) := Lib.hid (fun h2 j hj => by
            by_cases hji : j = i
            · subst hji; rw [← HX.out]; exact hxt
            · exact HNE.out h2 j (by omega))
          have bt := text_ne hxt
          have bt' : (t.text.toList != xt.toList) = true := by unfold bne; rw [bt]; rfl
          clear hk hxt
          go_wp2
          go_quiet (fail)
          go_wp2
          exact ⟨⟨i + 1, by go_num, by omega, Lib.hid (pw_below_drewN ((HBL.out).alloc hsz _) _), HNE2⟩, by simp [intOf]; omega⟩
      · have bk : (t.kind != 2) = true := by rw [bne_iff_ne]; exact hk
        have HNE2 : Hid (t.kind = 2 → ∀ j, j < i + 1 → t.text ≠ (wordsT.getD j (nil0, 0, false)).1) := Lib.hid (fun h2 => absurd h2 hk)
        clear hk
        go_wp2
        go_quiet (fail)
        go_wp2
        exact ⟨⟨i + 1, by go_num, by omega, Lib.hid (pw_below_drewN ((HBL.out).alloc hsz _) _), HNE2⟩, by simp [intOf]; omega⟩
    · have hv : verdictP ep (t :: rest) = .error (badP 61 (t :: rest)) := by
        unfold verdictP
        show (if t.kind = 2 then _ else _) = _
        by_cases hk : t.kind = 2
        · rw [if_pos hk]
          have := find_none (x := t.text) (fun j hj => HNE.out hk j (by omega))
          show (match wordsT.find? (fun y => decide (t.text = y.1)) with | some (_, k, n) => _ | none => _) = _
          rw [this]
        · rw [if_neg hk]
      have HV := Lib.hid hv; clear hv
      go_wp2_with fail
      refine (bad_any s ep g (t :: rest) d 61 wr HRd.out).mono ?_
      rintro e W3 ⟨he, rfl⟩
      unfold panics at he
      subst he
      go_wp2
      exact ⟨rfl, Outs.mk_err HV.out rfl (Chg.of_below HBwr.out _)⟩
end Go.Proofs.YtlmopoipjolbgaaDoor.LexW
