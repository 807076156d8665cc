/-
  Layer 6 (policy): what is neither nested: the walk; and all of one.
-/
import Derived.Test.YtlmopoipjolbgaaDoorPolRB
namespace Go.Proofs.YtlmopoipjolbgaaDoor.LexW
open Go.RowKit Go.Shelf Go.Proofs.YtlmopoipjolbgaaDoor.LexS Go.Proofs.YtlmopoipjolbgaaDoorW.PrintWords
set_option linter.unusedVariables false
set_option linter.unusedSimpArgs false

theorem fields_blk {w : World} {B : Nat} (h : w.heap[B]? = some (.cells (fieldsT.map Value.string).toArray 9 (0, 0))) (i : Nat) (hi : i < 7) : w.cell? ⟨B, i, none⟩ = some (.string (fieldsT.getD i nil0)) := by
  match i, hi with
  | 0, _ | 1, _ | 2, _ | 3, _ | 4, _ | 5, _ | 6, _ => simp [World.cell?, h, fieldsT]
theorem fidx_none {t : Tk} (h : ∀ j, j < 7 → isT (fieldsT.getD j nil0) t = false) : fieldsT.findIdx? (fun x => isT x t) = none := by
  rw [List.findIdx?_eq_none_iff]
  intro y hy
  obtain ⟨j, hj, rfl⟩ := List.getElem_of_mem hy
  have := h j hj
  simpa [List.getD_eq_getElem?_getD, List.getElem?_eq_getElem hj] using this
theorem fidx_some {t : Tk} {i : Nat} (hi : i < 7) (h : ∀ j, j < i → isT (fieldsT.getD j nil0) t = false) (hx : isT (fieldsT.getD i nil0) t = true) : fieldsT.findIdx? (fun x => isT x t) = some i := by
  have hlen : fieldsT.length = 7 := rfl
  rw [List.findIdx?_eq_some_iff_getElem]
  refine ⟨by omega, by simpa [List.getD_eq_getElem?_getD, List.getElem?_eq_getElem (show i < fieldsT.length by omega)] using hx, fun j hj => ?_⟩
  have := h j hj
  simpa [List.getD_eq_getElem?_getD, List.getElem?_eq_getElem (show j < fieldsT.length by omega)] using this

set_option maxRecDepth 100000 in
set_option maxHeartbeats 2000000 in
theorem one_atom (s : ByteArray) (ep : EP) (g : Nat) (L : List Tk) (d : Int) (w0 W : World) (hO : Okw w0 g W) (hR : Rdr s ep g L d W) (h1 : isT sNot (hdT L) = false) (h2 : isT sOpen (hdT L) = false) :
    Calls Tryd.prog 67 #[.pointer (some ⟨g, 0, none⟩)] W (Outs g W (atomP ep L) (ExOut s ep g d W.heap.size)) := by
  have hgW := hR.lt
  have hc := (oneW_held W g).cell
  have HI1 := Lib.hid (is_any s ep g L d sNot (oneW W g) (hR.below (oneW_below W g)))
  have HI2 := Lib.hid (is_any s ep g L d sOpen (oneW W g) (hR.below (oneW_below W g)))
  have HMT := Lib.hid (maybe_any s ep g L d sTrue w0 (oneW W g) (hO.below (oneW_below W g)) (hR.below (oneW_below W g)))
  rw [h1] at HI1
  rw [h2] at HI2
  have HO := Lib.hid hO
  clear h1 h2 hO hR
  cases ht : isT sTrue (hdT L) with
  | true =>
    have hat : atomP ep L = bnd (stepP ep L) (fun L' => .ok (⟨1, [], 0, 0, 0, 0⟩, L')) := by unfold atomP; rw [if_pos ht]
    have hmt : maybeP ep sTrue L = bnd (stepP ep L) (fun L' => .ok (true, L')) := by unfold maybeP; rw [if_pos ht]
    rw [hmt] at HMT
    have HAT := Lib.hid hat
    clear hat hmt ht
    rcases hs : stepP ep L with p | L1
    · rw [hs] at HMT
      have HSE := Lib.hid hs; clear hs
      go_enter Tryd.func67, Tryd.ntmps67
      go_wp2_with fail
      refine HI1.out.mono ?_
      rintro e W1 ⟨rfl, rfl⟩
      go_wp2_with fail
      refine HI2.out.mono ?_
      rintro e W1 ⟨rfl, rfl⟩
      go_wp2_with fail
      refine HMT.out.mono ?_
      rintro e W2 h
      obtain ⟨rfl, hc2⟩ := h.err rfl
      go_wp2
      exact ⟨rfl, Outs.mk_err (by rw [HAT.out, HSE.out]; rfl) rfl ((Chg.of_below (oneW_below W g) (fun k => k = g)).trans hc2 (fun k e => .inl e))⟩
    · rw [hs] at HMT
      have HSE := Lib.hid hs; clear hs
      go_enter Tryd.func67, Tryd.ntmps67
      go_wp2_with fail
      refine HI1.out.mono ?_
      rintro e W1 ⟨rfl, rfl⟩
      go_wp2_with fail
      refine HI2.out.mono ?_
      rintro e W1 ⟨rfl, rfl⟩
      go_wp2_with fail
      refine HMT.out.mono ?_
      rintro e W2 h
      obtain ⟨⟨rfl, hR2⟩, hc2⟩ := h.ok (b := (true, L1)) rfl
      have hz2 := chg_block hc2 (oneW_zero W g) (by omega)
      have hs2 := hc2.size
      obtain ⟨z0, z1, z2, z3, z4, z5, zf⟩ := blk6 hz2
      have HR2 := Lib.hid hR2; have HZ2 := Lib.hid hz2; have HC2 := Lib.hid ((Chg.of_below (oneW_below W g) (fun k => k = g)).trans hc2 (fun k e => .inl e))
      clear hR2 hz2 hc2
      go_wp2
      obtain ⟨e1, e2, e3, e4⟩ := ex_end (x := ⟨1, [], 0, 0, 0, 0⟩) (v := .slice none 0 0) (base := W.heap.size + 2) HZ2.out (by omega) hgW (Kd.R_nil _ _ _ _ _) (by omega) HR2.out HC2.out
      obtain ⟨r0, r1, r2, r3, r4, r5, rf⟩ := blk6 e4
      refine bodyPost_ret (v := exAgg ⟨1, [], 0, 0, 0, 0⟩ (.slice none 0 0)) (by simp [results, Tryd.results67, go_sem, r0, r1, r2, r3, r4, r5]) rfl ?_
      exact Outs.mk_ok (b := (⟨1, [], 0, 0, 0, 0⟩, L1)) (by rw [HAT.out, HSE.out]; rfl) ⟨_, rfl, e1, e2⟩ e3
  | false =>
    have hat : atomP ep L = if isT sFalse (hdT L) then bnd (stepP ep L) (fun L' => .ok (⟨2, [], 0, 0, 0, 0⟩, L')) else match fieldsT.findIdx? (fun x => isT x (hdT L)) with | some i => testP ep i L | none => .error (badP 61 L) := by unfold atomP; rw [if_neg (by rw [ht]; simp)]; rfl
    have hmt : maybeP ep sTrue L = .ok (false, L) := by unfold maybeP; rw [if_neg (by rw [ht]; simp)]
    rw [hmt] at HMT
    have HAT := Lib.hid hat
    clear hat hmt ht
    go_enter Tryd.func67, Tryd.ntmps67
    go_wp2_with fail
    refine HI1.out.mono ?_
    rintro e W1 ⟨rfl, rfl⟩
    go_wp2_with fail
    refine HI2.out.mono ?_
    rintro e W1 ⟨rfl, rfl⟩
    go_wp2_with fail
    refine HMT.out.mono ?_
    rintro e W2 h
    obtain ⟨⟨rfl, hR2⟩, hc2⟩ := h.ok (b := (false, L)) rfl
    have hz2 := chg_block hc2 (oneW_zero W g) (by omega)
    have hH2 := (oneW_held W g).chg hc2 (by omega)
    have hs2 : W.heap.size + 2 ≤ W2.heap.size := by have := hc2.size; rw [oneW_size] at this; exact this
    have hC2 := (Chg.of_below (oneW_below W g) (fun k => k = g)).trans hc2 (fun k e => .inl e)
    have hO2 := HO.out.chg hC2
    have hcell := hH2.cell
    have HMF := Lib.hid (maybe_any s ep g L d sFalse w0 W2 hO2 hR2)
    have HO2 := Lib.hid hO2; have HZ2 := Lib.hid hz2; have HC2 := Lib.hid hC2; have HH2 := Lib.hid hH2
    clear hc2 hR2 hz2 hC2 hO2 hH2 hc
    cases hf : isT sFalse (hdT L) with
    | true =>
      have hmf : maybeP ep sFalse L = bnd (stepP ep L) (fun L' => .ok (true, L')) := by unfold maybeP; rw [if_pos hf]
      rw [hmf] at HMF
      have HATT : Hid (atomP ep L = bnd (stepP ep L) (fun L' => .ok (⟨2, [], 0, 0, 0, 0⟩, L'))) := Lib.hid (by rw [HAT.out, if_pos hf])
      clear hmf hf
      rcases hs : stepP ep L with p | L1
      · rw [hs] at HMF
        have HSE := Lib.hid hs; clear hs
        go_wp2_with fail
        refine HMF.out.mono ?_
        rintro e W3 h
        obtain ⟨rfl, hc3⟩ := h.err rfl
        go_wp2
        exact ⟨rfl, Outs.mk_err (by rw [HATT.out, HSE.out]; rfl) rfl (HC2.out.trans hc3 (fun k e => .inl e))⟩
      · rw [hs] at HMF
        have HSE := Lib.hid hs; clear hs
        go_wp2_with fail
        refine HMF.out.mono ?_
        rintro e W3 h
        obtain ⟨⟨rfl, hR3⟩, hc3⟩ := h.ok (b := (true, L1)) rfl
        have hz3 := chg_block hc3 HZ2.out (by omega)
        obtain ⟨z0, z1, z2, z3, z4, z5, zf⟩ := blk6 hz3
        have HR3 := Lib.hid hR3; have HZ3 := Lib.hid hz3; have HC3 := Lib.hid (HC2.out.trans hc3 (fun k e => .inl e))
        clear hR3 hz3 hc3
        go_wp2
        obtain ⟨e1, e2, e3, e4⟩ := ex_end (x := ⟨2, [], 0, 0, 0, 0⟩) (v := .slice none 0 0) (base := W.heap.size + 2) HZ3.out (by omega) hgW (Kd.R_nil _ _ _ _ _) (by omega) HR3.out HC3.out
        obtain ⟨r0, r1, r2, r3, r4, r5, rf⟩ := blk6 e4
        refine bodyPost_ret (v := exAgg ⟨2, [], 0, 0, 0, 0⟩ (.slice none 0 0)) (by simp [results, Tryd.results67, go_sem, r0, r1, r2, r3, r4, r5]) rfl ?_
        exact Outs.mk_ok (b := (⟨2, [], 0, 0, 0, 0⟩, L1)) (by rw [HATT.out, HSE.out]; rfl) ⟨_, rfl, e1, e2⟩ e3
    | false =>
      have hmf : maybeP ep sFalse L = .ok (false, L) := by unfold maybeP; rw [if_neg (by rw [hf]; simp)]
      rw [hmf] at HMF
      have HATT : Hid (atomP ep L = match fieldsT.findIdx? (fun x => isT x (hdT L)) with | some i => testP ep i L | none => .error (badP 61 L)) := Lib.hid (by rw [HAT.out, if_neg (by rw [hf]; simp)])
      clear hmf hf
      go_wp2_with fail
      refine HMF.out.mono ?_
      rintro e W3 h
      obtain ⟨⟨rfl, hR3⟩, hc3⟩ := h.ok (b := (false, L)) rfl
      have hz3 := chg_block hc3 HZ2.out (by omega)
      have hH3 := HH2.out.chg hc3 (by omega)
      have hs3 : W.heap.size + 2 ≤ W3.heap.size := by have := hc3.size; omega
      have hC3 := HC2.out.trans hc3 (fun k e => .inl e)
      have hO3 := HO2.out.chg hc3
      have hb4 := (Below.refl W3.heap.size W3).alloc (Nat.le_refl _) fieldsObj
      have hq4 : (W3.alloc fieldsObj).heap[W3.heap.size]? = some (.cells (fieldsT.map Value.string).toArray 9 (0, 0)) := new_blk W3 _ _
      have hcell4 := (hH3.below hb4).cell
      have HZ4 := Lib.hid (blk_past fieldsObj hz3); have HC4 := Lib.hid (hC3.trans (Chg.of_below hb4 (fun k => k = g)) (fun k e => .inl e)); have HR4 := Lib.hid (hR3.below hb4); have HO4 := Lib.hid (hO3.below hb4); have HQ4 := Lib.hid hq4
      have hs4 : (W3.alloc fieldsObj).heap.size = W3.heap.size + 1 := by simp
      clear hc3 hR3 hz3 hH3 hC3 hO3 hb4 hq4 hcell
      go_wp2_with fail
      refine (fields_any W3).mono ?_
      rintro e W4 ⟨rfl, rfl⟩
      go_wp2
      show Code.wp _ _ _ _ (W3.alloc fieldsObj)
      generalize W3.alloc fieldsObj = W4 at *
      go_loopw [27] (fun vi wr => ∃ i : Nat, vi = .int .i64 i ∧ i ≤ 7 ∧ Hid (∀ j, j < i → isT (fieldsT.getD j nil0) (hdT L) = false) ∧ W4 = wr) (fun vi _ => 7 - (intOf vi).toNat)
      case atStart => exact ⟨0, rfl, by omega, Lib.hid (fun j h => absurd h (by omega)), rfl⟩
      case round =>
        obtain ⟨i, rfl, hi, HNE, rfl⟩ := hrel
        by_cases hlt : i < 7
        · have x0 := fields_blk HQ4.out i hlt
          have HI := Lib.hid (is_any s ep g L d (fieldsT.getD i nil0) W4 HR4.out)
          cases hb : isT (fieldsT.getD i nil0) (hdT L) with
          | false =>
            have HNE2 : Hid (∀ j, j < i + 1 → isT (fieldsT.getD j nil0) (hdT L) = false) := Lib.hid (fun j hj => by
              by_cases hji : j = i
              · subst hji; exact hb
              · exact HNE.out j (by omega))
            rw [hb] at HI
            clear hb
            go_wp2_with fail
            refine HI.out.mono ?_
            rintro e wr' ⟨rfl, rfl⟩
            go_wp2
            exact ⟨⟨i + 1, by go_num, by omega, HNE2, trivial⟩, by simp [intOf]; omega⟩
          | true =>
            have hat2 : atomP ep L = testP ep i L := by rw [HATT.out, fidx_some hlt HNE.out hb]
            have HT := Lib.hid (test_any s ep g L d i w0 W4 HO4.out HR4.out (isT_kind hb))
            have HAT2 := Lib.hid hat2
            rw [hb] at HI
            clear hb hat2
            rcases ht : testP ep i L with p | ⟨x, L2⟩
            · have HTE := Lib.hid ht; clear ht
              go_wp2_with fail
              refine HI.out.mono ?_
              rintro e wr' ⟨rfl, rfl⟩
              go_wp2_with fail
              refine HT.out.mono ?_
              rintro e W5 h
              obtain ⟨rfl, hc5⟩ := h.err HTE.out
              go_wp2
              exact ⟨rfl, Outs.mk_err (by rw [HAT2.out, HTE.out]) rfl (HC4.out.trans hc5 (fun k e => .inl e))⟩
            · have HTE := Lib.hid ht; clear ht
              go_wp2_with fail
              refine HI.out.mono ?_
              rintro e wr' ⟨rfl, rfl⟩
              go_wp2_with fail
              refine HT.out.mono ?_
              rintro e W5 h
              obtain ⟨⟨v, rfl, hX, hR5⟩, hc5⟩ := h.ok HTE.out
              obtain ⟨A5, c5, rfl⟩ := Kd.R_slice hX
              have hz5 := chg_block hc5 HZ4.out (by omega)
              obtain ⟨z0, z1, z2, z3, z4, z5, zf⟩ := blk6 hz5
              have HX := Lib.hid hX; have HR5 := Lib.hid hR5; have HZ5 := Lib.hid hz5; have HC5 := Lib.hid (HC4.out.trans hc5 (fun k e => .inl e))
              clear hX hR5 hz5 hc5
              unfold exAgg
              go_wp2
              obtain ⟨e1, e2, e3, e4⟩ := ex_end HZ5.out (by omega) hgW HX.out (by omega) HR5.out HC5.out
              obtain ⟨r0, r1, r2, r3, r4, r5, rf⟩ := blk6 e4
              refine bodyPost_ret (v := exAgg x (.slice A5 x.f1.length c5)) (by simp [results, Tryd.results67, go_sem, r0, r1, r2, r3, r4, r5]) rfl ?_
              exact Outs.mk_ok (b := (x, L2)) (by rw [HAT2.out, HTE.out]) ⟨_, rfl, e1, e2⟩ e3
        · obtain rfl : i = 7 := by omega
          have hat2 : atomP ep L = .error (badP 61 L) := by rw [HATT.out, fidx_none HNE.out]
          have HAT2 := Lib.hid hat2; clear hat2
          go_wp2_with fail
          refine (bad_any s ep g L d 61 W4 HR4.out).mono ?_
          rintro e W5 ⟨he, rfl⟩
          unfold panics at he
          subst he
          go_wp2
          exact ⟨rfl, Outs.mk_err HAT2.out rfl HC4.out⟩

/-- **one of the grammar, at whatever depth** -/
theorem one_any (s : ByteArray) (ep : EP) (g : Nat) (w0 : World) : ∀ k : Nat, k ≤ 64 → OneC s ep g w0 (64 - (k : Int)) (oneP ep k) := by
  intro k
  induction k with
  | zero =>
    intro hk L W hL hO hR
    have hd : (64 : Int) - ((0 : Nat) : Int) = 64 := by omega
    rw [hd] at hR ⊢
    cases hn : isT sNot (hdT L) with
    | true =>
      have hres : oneP ep 0 L = .error (badP 62 L) := by unfold oneP; rw [if_pos hn]
      rw [hres]
      refine one_nested s ep g L 64 w0 W _ hO hR (.inl hn) (fun f _ => ?_)
      refine (nested_deep s ep g L w0 (oneW W g) _ (hO.below (oneW_below W g)) (hR.below (oneW_below W g))).mono ?_
      rintro e W' ⟨rfl, hc⟩
      exact Outs.mk_err rfl rfl hc
    | false =>
      cases ho : isT sOpen (hdT L) with
      | true =>
        have hres : oneP ep 0 L = .error (badP 62 L) := by unfold oneP; rw [if_neg (by rw [hn]; simp), if_pos ho]
        rw [hres]
        refine one_nested s ep g L 64 w0 W _ hO hR (.inr ⟨hn, ho⟩) (fun f _ => ?_)
        refine (nested_deep s ep g L w0 (oneW W g) _ (hO.below (oneW_below W g)) (hR.below (oneW_below W g))).mono ?_
        rintro e W' ⟨rfl, hc⟩
        exact Outs.mk_err rfl rfl hc
      | false =>
        have hres : oneP ep 0 L = atomP ep L := by unfold oneP; rw [if_neg (by rw [hn]; simp), if_neg (by rw [ho]; simp)]
        rw [hres]
        exact one_atom s ep g L 64 w0 W hO hR hn ho
  | succ k ih =>
    intro hk L W hL hO hR
    have ih := ih (by omega)
    have hd : (64 : Int) - ((k + 1 : Nat) : Int) + 1 = 64 - (k : Int) := by omega
    have hgW := hR.lt
    cases hn : isT sNot (hdT L) with
    | true =>
      have hres : oneP ep (k + 1) L = bnd (stepP ep L) (notP (oneP ep k)) := by
        conv => lhs; unfold oneP
        rw [if_pos hn]; rfl
      rw [hres]
      refine one_nested s ep g L _ w0 W _ hO hR (.inl hn) (fun f hf => ?_)
      rw [if_pos hn] at hf
      subst hf
      exact nested_any enters_not s ep g W.heap.size L (64 - ((k + 1 : Nat) : Int)) w0 (oneW W g) (notP (oneP ep k)) (hO.below (oneW_below W g)) (hR.below (oneW_below W g)) (isT_kind hn) (oneW_held W g) (by omega) (by omega) (by omega)
        (fun L1 W1 h0 h1 h2 h3 => by rw [hd] at h2 ⊢; exact not_of s ep g W.heap.size L1 _ w0 W1 (oneP ep k) ih (Nat.le_trans h0 hL) h1 h2 h3)
    | false =>
      cases ho : isT sOpen (hdT L) with
      | true =>
        have hres : oneP ep (k + 1) L = bnd (stepP ep L) (openP ep (oneP ep k)) := by
          conv => lhs; unfold oneP
          rw [if_neg (by rw [hn]; simp), if_pos ho]; rfl
        rw [hres]
        refine one_nested s ep g L _ w0 W _ hO hR (.inr ⟨hn, ho⟩) (fun f hf => ?_)
        rw [if_neg (by rw [hn]; simp)] at hf
        subst hf
        exact nested_any enters_open s ep g W.heap.size L (64 - ((k + 1 : Nat) : Int)) w0 (oneW W g) (openP ep (oneP ep k)) (hO.below (oneW_below W g)) (hR.below (oneW_below W g)) (isT_kind ho) (oneW_held W g) (by omega) (by omega) (by omega)
          (fun L1 W1 h0 h1 h2 h3 => by rw [hd] at h2 ⊢; exact open_of s ep g W.heap.size L1 _ w0 W1 (oneP ep k) ih (oneP_shr ep k) (Nat.le_trans h0 hL) h1 h2 h3 (by omega))
      | false =>
        have hres : oneP ep (k + 1) L = atomP ep L := by
          conv => lhs; unfold oneP
          rw [if_neg (by rw [hn]; simp), if_neg (by rw [ho]; simp)]
        rw [hres]
        exact one_atom s ep g L _ w0 W hO hR hn ho
end Go.Proofs.YtlmopoipjolbgaaDoor.LexW
