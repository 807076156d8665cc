/-
  Layer 6 (policy): a test of a field.
-/
import Derived.Test.YtlmopoipjolbgaaDoorPolR4
namespace Go.Proofs.YtlmopoipjolbgaaDoor.LexW
open Go.RowKit Go.Shelf Go.Proofs.YtlmopoipjolbgaaDoor.LexS Go.Proofs.YtlmopoipjolbgaaDoorW.PrintWords
set_option linter.unusedVariables false
set_option linter.unusedSimpArgs false
attribute [local go_sem] fld_num fld_text

abbrev exAgg (x : Ex) (v : Value) : Value := .agg #[.int .i64 x.f0, v, .int .i64 x.f2, .int .u64 x.f3, .int .i64 x.f4, .int .u64 x.f5]
abbrev exZero : Obj := .cells #[.int .i64 0, .slice none 0 0, .int .i64 0, .int .u64 0, .int .i64 0, .int .u64 0] 58
/-- the expression's row of arguments, made from a block on -/
def ExRow (W : World) (base : Nat) (v : Value) (l : List Ex) : Prop := kEx.R 58 W base (fun _ => True) v l
def ExOut (s : ByteArray) (ep : EP) (g : Nat) (d : Int) (base : Nat) (p : Ex × List Tk) (e : Ending) (W' : World) : Prop := ∃ v, e = .returned (exAgg p.1 v) ∧ ExRow W' base v p.1.f1 ∧ Rdr s ep g p.2 d W'
theorem blk6 {W : World} {b : Nat} {v0 v1 v2 v3 v4 v5 : Value} {t : TypeId} (h : W.heap[b]? = some (.cells #[v0, v1, v2, v3, v4, v5] t (0, 0))) : W.cell? ⟨b, 0, none⟩ = some v0 ∧ W.cell? ⟨b, 1, none⟩ = some v1 ∧ W.cell? ⟨b, 2, none⟩ = some v2 ∧ W.cell? ⟨b, 3, none⟩ = some v3 ∧ W.cell? ⟨b, 4, none⟩ = some v4 ∧ W.cell? ⟨b, 5, none⟩ = some v5 ∧ ∀ j, W.frozen? ⟨b, j, none⟩ = false := by
  refine ⟨?_, ?_, ?_, ?_, ?_, ?_, fun j => ?_⟩ <;> simp [World.cell?, World.frozen?, h]
theorem Chg.sets6 {S : Nat → Prop} {W W' : World} (h : Chg S W W') (b : Nat) (hb : W.heap.size ≤ b) (v0 v1 v2 v3 v4 v5 : Value) :
    Chg S W ((((((W'.setCell ⟨b, 0, none⟩ v0).setCell ⟨b, 1, none⟩ v1).setCell ⟨b, 2, none⟩ v2).setCell ⟨b, 3, none⟩ v3).setCell ⟨b, 4, none⟩ v4).setCell ⟨b, 5, none⟩ v5) :=
  ((h.sets4 b hb v0 v1 v2 v3).set1 b 4 hb v4).set1 b 5 hb v5
theorem Rdr.far6 {s : ByteArray} {ep : EP} {g : Nat} {L : List Tk} {d : Int} {W : World} (h : Rdr s ep g L d W) (b : Nat) (hb : g ≠ b) (v0 v1 v2 v3 v4 v5 : Value) :
    Rdr s ep g L d ((((((W.setCell ⟨b, 0, none⟩ v0).setCell ⟨b, 1, none⟩ v1).setCell ⟨b, 2, none⟩ v2).setCell ⟨b, 3, none⟩ v3).setCell ⟨b, 4, none⟩ v4).setCell ⟨b, 5, none⟩ v5) :=
  (((((h.far b 0 hb v0).far b 1 hb v1).far b 2 hb v2).far b 3 hb v3).far b 4 hb v4).far b 5 hb v5
theorem blk_sets6 {W : World} {b : Nat} {u0 u1 u2 u3 u4 u5 : Value} {t : TypeId} (h : W.heap[b]? = some (.cells #[u0, u1, u2, u3, u4, u5] t (0, 0))) (v0 v1 v2 v3 v4 v5 : Value) :
    ((((((W.setCell ⟨b, 0, none⟩ v0).setCell ⟨b, 1, none⟩ v1).setCell ⟨b, 2, none⟩ v2).setCell ⟨b, 3, none⟩ v3).setCell ⟨b, 4, none⟩ v4).setCell ⟨b, 5, none⟩ v5).heap[b]? = some (.cells #[v0, v1, v2, v3, v4, v5] t (0, 0)) :=
  blk_set (blk_set (blk_set (blk_set (blk_set (blk_set h 0 v0) 1 v1) 2 v2) 3 v3) 4 v4) 5 v5
theorem rels_blk {w : World} {B : Nat} (h : w.heap[B]? = some (.cells (relsT.map Value.string).toArray 9 (0, 0))) (i : Nat) (hi : i < 6) : w.cell? ⟨B, i, none⟩ = some (.string (relsT.getD i nil0)) := by
  match i, hi with
  | 0, _ | 1, _ | 2, _ | 3, _ | 4, _ | 5, _ => simp [World.cell?, h, relsT]

theorem relF_kind (t : Tk) : ∀ n, relF t n ≠ 0 → t.kind ≠ 1
  | 0, h => absurd rfl h
  | n + 1, h => by
    unfold relF at h
    split at h
    · rename_i hi; exact isT_kind hi
    · exact relF_kind t n h

set_option maxRecDepth 100000 in
set_option maxHeartbeats 4000000 in
theorem test_any (s : ByteArray) (ep : EP) (g : Nat) (L : List Tk) (d f : Int) (w0 W : World) (hO : Okw w0 g W) (hR : Rdr s ep g L d W) (hk : (hdT L).kind ≠ 1) :
    Calls Tryd.prog 89 #[.pointer (some ⟨g, 0, none⟩), .int .i64 f] W (Outs g W (testP ep f L) (ExOut s ep g d W.heap.size)) := by
  have hgW := hR.lt
  have hW1 : Below W.heap.size W (W.alloc exZero) := (Below.refl _ W).alloc (Nat.le_refl _) _
  have hz1 := new_blk W #[.int .i64 0, .slice none 0 0, .int .i64 0, .int .u64 0, .int .i64 0, .int .u64 0] 58
  have HS := Lib.hid (step_any s ep g L d w0 _ (hO.below hW1) (hR.below hW1) hk)
  have HO := Lib.hid hO; have HZ1 := Lib.hid hz1; have HW1 := Lib.hid hW1
  clear hO hR hW1 hz1 hk
  cases hs : stepP ep L with
  | error p =>
    have HSE := Lib.hid hs; clear hs
    go_enter Tryd.func89, Tryd.ntmps89
    go_wp2_with fail
    refine HS.out.mono ?_
    rintro e W2 h
    obtain ⟨rfl, hc⟩ := h.err HSE.out
    go_wp2
    exact ⟨rfl, Outs.mk_err (by unfold testP; rw [HSE.out]; rfl) rfl ((Chg.of_below HW1.out (fun k => k = g)).trans hc (fun k e => .inl e))⟩
  | ok L1 =>
    have hv : testP ep f L = bnd (maskP ep L1) (fun p => if relF (hdT p.2) 6 = 0 then .error (badP 61 p.2) else bnd (stepP ep p.2) (fun L3 => bnd (kindP ep 3 L3) (fun q => .ok (⟨6, [], f, p.1, relF (hdT p.2) 6, q.1.num⟩, q.2)))) := by
      unfold testP; rw [hs]; rfl
    have HV := Lib.hid hv; have HSE := Lib.hid hs; clear hs hv
    go_enter Tryd.func89, Tryd.ntmps89
    go_wp2_with fail
    refine HS.out.mono ?_
    rintro e W2 h
    obtain ⟨⟨rfl, hR2⟩, hc⟩ := h.ok HSE.out
    have hcW : Chg (fun k => k = g) W W2 := (Chg.of_below HW1.out (fun k => k = g)).trans hc (fun k e => .inl e)
    have hz2 := chg_block hc HZ1.out (by omega)
    have hWs : W.heap.size < W2.heap.size := by have := hc.size; simp at this; omega
    -- the world behind the test's own box
    have hY : Below W2.heap.size W2 (W2.alloc (.cells #[.int .i64 6, .slice none 0 0, .int .i64 f, .int .u64 18446744073709551615, .int .i64 0, .int .u64 0] 58)) := (Below.refl _ W2).alloc (Nat.le_refl _) _
    have hv3 := new_blk W2 #[.int .i64 6, .slice none 0 0, .int .i64 f, .int .u64 18446744073709551615, .int .i64 0, .int .u64 0] 58
    have hz3 := blk_past (.cells #[.int .i64 6, .slice none 0 0, .int .i64 f, .int .u64 18446744073709551615, .int .i64 0, .int .u64 0] 58) hz2
    have hR3 := hR2.below hY
    have hO3 := (HO.out.chg hcW).below hY
    have hc3 := hcW.trans (Chg.of_below hY (fun k => k = g)) (fun k e => .inl e)
    obtain ⟨V, hV⟩ : ∃ V, V = W2.heap.size := ⟨_, rfl⟩
    have HV2 := Lib.hid hV
    have hVW : W.heap.size < V := by omega
    have HM := Lib.hid (maybe_any s ep g L1 d sAmp w0 _ hO3 hR3)
    have HR3 := Lib.hid hR3; have HO3 := Lib.hid hO3; have HC3 := Lib.hid hc3; have HZ3 := Lib.hid hz3; have HV3 := Lib.hid hv3; have HR2 := Lib.hid hR2; have HY := Lib.hid hY
    clear hR2 hc hcW hz2 hY hv3 hz3 hR3 hO3 hc3 hV HS
    obtain ⟨t, ee, hB2, rest, j, rfl, rfl, hT⟩ := HR2.out
    obtain ⟨c0, c1, c2, c3, c4, c5, c6⟩ := rdb_cell hB2
    have a1 := cell_past (.cells #[.int .i64 6, .slice none 0 0, .int .i64 f, .int .u64 18446744073709551615, .int .i64 0, .int .u64 0] 58) c1
    clear hB2 hT c0 c1 c2 c3 c4 c5 c6
    by_cases hk4 : t.kind = 4
    rotate_left
    have b4 : (t.kind == 4) = false := by rw [beq_eq_false_iff_ne]; exact hk4
    obtain ⟨m, hm⟩ : ∃ m : Int, m = 18446744073709551615 := ⟨_, rfl⟩
    obtain ⟨L5, hL5⟩ : ∃ L5, L5 = t :: rest := ⟨_, rfl⟩
    have HMV : Hid (maskP ep (t :: rest) = .ok (m, L5)) := Lib.hid (by rw [hm, hL5]; show (if t.kind = 4 then _ else _) = _; rw [if_neg hk4])
    rw [← hL5] at HR3
    clear hL5
    clear hk4
    go_wp2_with fail
    rw [← hm] at HR3 HC3 HZ3 HV3 ⊢
    have HR5 := HR3; have HC5 := HC3; have HZ5 := HZ3; have HV5 := HV3
    rw [← HV2.out] at HV5 ⊢
    generalize W2.alloc (.cells #[.int .i64 6, .slice none 0 0, .int .i64 f, .int .u64 m, .int .i64 0, .int .u64 0] 58) = W5 at *
    clear b4 a1 hm HR3 HC3 HZ3 HV3 HY HM HO3
    rotate_left
    have b4 : (t.kind == 4) = true := by rw [beq_iff_eq]; exact hk4
    have HMK : Hid (maskP ep (t :: rest) = bnd (maybeP ep sAmp (t :: rest)) (fun p => if p.1 = true then bnd (kindP ep 3 p.2) (fun q => .ok (q.1.num, q.2)) else .ok (18446744073709551615, p.2))) := Lib.hid (by show (if t.kind = 4 then _ else _) = _; rw [if_pos hk4])
    clear hk4
    rcases hmb : maybeP ep sAmp (t :: rest) with p | ⟨b, L4⟩
    · have HMB := Lib.hid hmb; clear hmb
      go_wp2_with fail
      refine HM.out.mono ?_
      rintro e W4 h
      obtain ⟨rfl, hc⟩ := h.err HMB.out
      go_wp2
      exact ⟨rfl, Outs.mk_err (by rw [HV.out, HMK.out, HMB.out]; rfl) rfl (HC3.out.trans hc (fun k e => .inl e))⟩
    have HMB := Lib.hid hmb; clear hmb
    go_wp2_with fail
    rw [← HV2.out]
    refine HM.out.mono ?_
    rintro e W4 h
    obtain ⟨⟨rfl, hR4⟩, hc⟩ := h.ok HMB.out
    have hz4 := chg_block hc HZ3.out (by omega)
    have hv4 := chg_block hc HV3.out (by omega)
    rw [← HV2.out] at hv4
    have hc4 := HC3.out.trans hc (fun k e => .inl e)
    have hV4 : V < W4.heap.size := (Array.getElem?_eq_some_iff.1 hv4).1
    have hO4 := HO3.out.chg hc
    have HR4 := Lib.hid hR4; have HC4 := Lib.hid hc4; have HZ4 := Lib.hid hz4; have HV4 := Lib.hid hv4; have HO4 := Lib.hid hO4
    clear hR4 hc4 hz4 hv4 hO4 hc a1 b4 HR3 HC3 HZ3 HV3 HY HM HO3
    cases b
    obtain ⟨m, hm⟩ : ∃ m : Int, m = 18446744073709551615 := ⟨_, rfl⟩
    have HMV : Hid (maskP ep (t :: rest) = .ok (m, L4)) := Lib.hid (by rw [HMK.out, HMB.out, hm]; rfl)
    go_wp2_with fail
    rw [← hm] at HV4 ⊢
    obtain ⟨L5, hL5⟩ : ∃ L5, L5 = L4 := ⟨_, rfl⟩
    rw [← hL5] at HMV HR4
    clear hL5
    have HR5 := HR4; have HC5 := HC4; have HZ5 := HZ4; have HV5 := HV4
    obtain ⟨W5, hW5⟩ : ∃ W5, W5 = W4 := ⟨_, rfl⟩
    rw [← hW5] at HR5 HC5 HZ5 HV5 ⊢
    clear hm HR4 HC4 HZ4 HV4 HO4 HMK HMB hW5
    rotate_left
    have HK := Lib.hid (kind_any s ep g L4 d 3 w0 W4 HO4.out HR4.out)
    rcases hkq : kindP ep 3 L4 with p | ⟨q, L5⟩
    · have HKQ := Lib.hid hkq; clear hkq
      go_wp2_with fail
      refine HK.out.mono ?_
      rintro e W6 h
      obtain ⟨rfl, hc⟩ := h.err HKQ.out
      go_wp2
      exact ⟨rfl, Outs.mk_err (by rw [HV.out, HMK.out, HMB.out]; show bnd (bnd (kindP ep 3 L4) _) _ = _; rw [HKQ.out]; rfl) rfl (HC4.out.trans hc (fun k e => .inl e))⟩
    have HKQ := Lib.hid hkq; clear hkq
    have HMV : Hid (maskP ep (t :: rest) = .ok (q.num, L5)) := Lib.hid (by rw [HMK.out, HMB.out]; show bnd (kindP ep 3 L4) _ = _; rw [HKQ.out]; rfl)
    go_wp2_with fail
    refine HK.out.mono ?_
    rintro e W6 h
    obtain ⟨⟨rfl, hR6⟩, hc⟩ := h.ok HKQ.out
    have hz6 := chg_block hc HZ4.out (by omega)
    have hv6 := chg_block hc HV4.out (by omega)
    obtain ⟨y0, y1, y2, y3, y4, y5, yf⟩ := blk6 hv6
    obtain ⟨m, hm⟩ : ∃ m, m = q.num := ⟨_, rfl⟩
    unfold tkVal
    dsimp only
    rw [← hm] at HMV ⊢
    have HR5 := Lib.hid (hR6.far V 3 (by omega) (.int .u64 m))
    have HC5 := Lib.hid ((HC4.out.trans hc (fun k e => .inl e)).set1 V 3 (by omega) (.int .u64 m))
    have HZ5 := Lib.hid ((Below.heap_setCell W6 ⟨V, 3, none⟩ (.int .u64 m) W.heap.size (by show W.heap.size ≠ V; omega)).trans hz6)
    have HV5 := Lib.hid (blk_set hv6 3 (.int .u64 m))
    clear hR6 hc hz6 hv6 hm
    go_wp2_with fail
    generalize W6.setCell ⟨V, 3, none⟩ (.int .u64 m) = W5 at *
    clear y0 y1 y2 y3 y4 y5 yf HR4 HC4 HZ4 HV4 HO4 HMK HMB HK HKQ hV4
    all_goals
      refine (rels_any W5).mono ?_
      rintro e W6 ⟨rfl, rfl⟩
      have hq6 : (W5.alloc relsObj).heap[W5.heap.size]? = some (.cells (relsT.map Value.string).toArray 9 (0, 0)) := new_blk W5 _ _
      have hb6 : Below W5.heap.size W5 (W5.alloc relsObj) := (Below.refl _ W5).alloc (Nat.le_refl _) _
      have HR6 := Lib.hid (HR5.out.below hb6)
      have HC6 := Lib.hid (HC5.out.trans (Chg.of_below hb6 (fun k => k = g)) (fun k e => .inl e))
      have HZ6 := Lib.hid (blk_past relsObj HZ5.out)
      have HV6 := Lib.hid (blk_past relsObj HV5.out)
      have hV5 : V < W5.heap.size := (Array.getElem?_eq_some_iff.1 HV5.out).1
      obtain ⟨B, hB⟩ : ∃ B, B = W5.heap.size := ⟨_, rfl⟩
      have hVB : V < B := by omega
      go_wp2
      rw [← hB] at hq6 ⊢
      show Code.wp _ _ _ _ (W5.alloc relsObj)
      generalize W5.alloc relsObj = W6 at *
      have HQ6 := Lib.hid hq6
      clear hq6 hb6 HR5 HC5 HZ5 HV5 hV5 hB
      go_loopw [28] (fun vi wr => ∃ i : Nat, vi = .int .i64 i ∧ i ≤ 6 ∧ Hid (wr.heap[V]? = some (.cells #[.int .i64 6, .slice none 0 0, .int .i64 f, .int .u64 m, .int .i64 (relF (hdT L5) i), .int .u64 0] 58 (0, 0))) ∧ Hid (Chg (fun k => k = V) W6 wr)) (fun vi _ => 6 - (intOf vi).toNat)
      case atStart => exact ⟨0, rfl, by omega, HV6, Lib.hid (Chg.refl _ _)⟩
      case round =>
        obtain ⟨i, rfl, hi, HVr, HCr⟩ := hrel
        have hRr : Rdr s ep g L5 d wr := by
          obtain ⟨t', e', hB', hA'⟩ := HR6.out
          exact ⟨t', e', chg_block HCr.out hB' (by omega), hA'⟩
        have HRr := Lib.hid hRr; clear hRr
        obtain ⟨y0, y1, y2, y3, y4, y5, yf⟩ := blk6 HVr.out
        by_cases hlt : i < 6
        · have x0 := rels_blk (chg_block HCr.out HQ6.out (by omega)) i hlt
          have HI := Lib.hid (is_any s ep g L5 d (relsT.getD i nil0) wr HRr.out)
          have hstep : relF (hdT L5) (i + 1) = if isT (relsT.getD i nil0) (hdT L5) then (i : Int) + 1 else relF (hdT L5) i := rfl
          have HST := Lib.hid hstep; clear hstep
          cases hb : isT (relsT.getD i nil0) (hdT L5) with
          | false =>
            rw [hb] at HI HST
            clear hb
            go_wp2_with fail
            refine HI.out.mono ?_
            rintro e wr' ⟨rfl, rfl⟩
            go_wp2
            exact ⟨⟨i + 1, by go_num, by omega, Lib.hid (by rw [HST.out]; exact HVr.out), HCr⟩, by simp [intOf]; omega⟩
          | true =>
            rw [hb] at HI HST
            clear hb
            go_wp2_with fail
            refine HI.out.mono ?_
            rintro e wr' ⟨rfl, rfl⟩
            go_wp2
            exact ⟨⟨i + 1, by go_num, by omega, Lib.hid (by rw [HST.out]; exact blk_set HVr.out 4 (.int .i64 ((i : Int) + 1))), Lib.hid (HCr.out.trans (Chg.of_set wr V 4 _) (fun k e => .inl e))⟩, by simp [intOf]; omega⟩
        · obtain rfl : i = 6 := by omega
          have hcw := HC6.out.trans HCr.out (fun k e => .inr (by omega))
          have hzr := chg_block HCr.out HZ6.out (by omega)
          have hwr : W.heap.size < wr.heap.size := by have := (Array.getElem?_eq_some_iff.1 hzr).1; omega
          have hVr : V < wr.heap.size := (Array.getElem?_eq_some_iff.1 HVr.out).1
          have hkn := relF_kind (hdT L5) 6
          obtain ⟨r, hr⟩ : ∃ r, r = relF (hdT L5) 6 := ⟨_, rfl⟩
          have hv2 : testP ep f L = if r = 0 then .error (badP 61 L5) else bnd (stepP ep L5) (fun L3 => bnd (kindP ep 3 L3) (fun q => .ok (⟨6, [], f, m, r, q.1.num⟩, q.2))) := by rw [HV.out, HMV.out, hr]; rfl
          rw [← hr] at y4 HVr hkn
          have HOr := Lib.hid (HO.out.chg hcw)
          have HCW := Lib.hid hcw; have HZr := Lib.hid hzr; have HV3' := Lib.hid hv2
          clear hcw hzr hv2 hr HV HMV
          by_cases hr0 : r = 0
          · have hrb : (r == 0) = true := by rw [beq_iff_eq]; exact hr0
            have HT : Hid (testP ep f L = .error (badP 61 L5)) := Lib.hid (by rw [HV3'.out, if_pos hr0])
            clear hr0
            go_wp2_with fail
            refine (bad_any s ep g L5 d 61 wr HRr.out).mono ?_
            rintro e W7 ⟨he, rfl⟩
            unfold panics at he
            subst he
            go_wp2
            exact ⟨rfl, Outs.mk_err HT.out rfl HCW.out⟩
          · have hrb : (r == 0) = false := by rw [beq_eq_false_iff_ne]; exact hr0
            have HT : Hid (testP ep f L = bnd (stepP ep L5) (fun L3 => bnd (kindP ep 3 L3) (fun q => .ok (⟨6, [], f, m, r, q.1.num⟩, q.2)))) := Lib.hid (by rw [HV3'.out, if_neg hr0])
            have HS := Lib.hid (step_any s ep g L5 d w0 wr HOr.out HRr.out (hkn hr0))
            clear hr0 hkn
            rcases hs : stepP ep L5 with p | L7
            · have HSE := Lib.hid hs; clear hs
              go_wp2_with fail
              refine HS.out.mono ?_
              rintro e W7 h
              obtain ⟨rfl, hc⟩ := h.err HSE.out
              go_wp2
              exact ⟨rfl, Outs.mk_err (by rw [HT.out, HSE.out]; rfl) rfl (HCW.out.trans hc (fun k e => .inl e))⟩
            · have HSE := Lib.hid hs; clear hs
              go_wp2_with fail
              refine HS.out.mono ?_
              rintro e W7 h
              obtain ⟨⟨rfl, hR7⟩, hc⟩ := h.ok HSE.out
              have hv7 := chg_block hc HVr.out (by omega)
              have hz7 := chg_block hc HZr.out (by omega)
              have HK := Lib.hid (kind_any s ep g L7 d 3 w0 W7 (HOr.out.chg hc) hR7)
              have HC7 := Lib.hid (HCW.out.trans hc (fun k e => .inl e)); have HV7 := Lib.hid hv7; have HZ7 := Lib.hid hz7
              clear hv7 hz7 hc hR7 y0 y1 y2 y3 y4 y5 yf
              rcases hkq : kindP ep 3 L7 with p | ⟨q, L8⟩
              · have HKQ := Lib.hid hkq; clear hkq
                go_wp2_with fail
                refine HK.out.mono ?_
                rintro e W8 h
                obtain ⟨rfl, hc⟩ := h.err HKQ.out
                go_wp2
                exact ⟨rfl, Outs.mk_err (by rw [HT.out, HSE.out]; show bnd (kindP ep 3 L7) _ = _; rw [HKQ.out]; rfl) rfl (HC7.out.trans hc (fun k e => .inl e))⟩
              · have HKQ := Lib.hid hkq; clear hkq
                go_wp2_with fail
                refine HK.out.mono ?_
                rintro e W8 h
                obtain ⟨⟨rfl, hR8⟩, hc⟩ := h.ok HKQ.out
                have hv8 := chg_block hc HV7.out (by omega)
                have hz8 := chg_block hc HZ7.out (by omega)
                obtain ⟨y0, y1, y2, y3, y4, y5, yf⟩ := blk6 hv8
                obtain ⟨z0, z1, z2, z3, z4, z5, zf⟩ := blk6 hz8
                have HR8 := Lib.hid hR8; have HC8 := Lib.hid (HC7.out.trans hc (fun k e => .inl e)); have HZ8 := Lib.hid hz8
                have hne : W.heap.size ≠ V := by omega
                clear hR8 hc hz8 hv8
                unfold tkVal
                go_wp2
                have hb6 := blk_sets6 ((Below.heap_setCell W8 ⟨V, 5, none⟩ (.int .u64 q.num) W.heap.size (by show W.heap.size ≠ V; omega)).trans HZ8.out) (.int .i64 6) (.slice none 0 0) (.int .i64 f) (.int .u64 m) (.int .i64 r) (.int .u64 q.num)
                obtain ⟨r0, r1, r2, r3, r4, r5, rf⟩ := blk6 hb6
                refine bodyPost_ret (v := exAgg ⟨6, [], f, m, r, q.num⟩ (.slice none 0 0)) (by simp [results, Tryd.results89, go_sem, r0, r1, r2, r3, r4, r5]) rfl ?_
                refine Outs.mk_ok (b := (⟨6, [], f, m, r, q.num⟩, L8)) (by rw [HT.out, HSE.out]; show bnd (kindP ep 3 L7) _ = _; rw [HKQ.out]; rfl) ⟨.slice none 0 0, rfl, Kd.R_nil _ _ _ _ _, ?_⟩ ((HC8.out.set1 V 5 (by omega) _).sets6 W.heap.size (Nat.le_refl _) _ _ _ _ _ _)
                exact (HR8.out.far V 5 (by omega) _).far6 W.heap.size (by omega) _ _ _ _ _ _
end Go.Proofs.YtlmopoipjolbgaaDoor.LexW
