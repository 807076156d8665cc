/-
  Layer 6 (policy): some of a kind, as long as one more follows; one, or several as one. · Layer 6 (policy): one, or several as one. · Layer 6 (policy): an expression, given what stands between and and or. · Layer 6 (policy): what stands between and and or. · Layer 6 (policy): what stands between and and or: the walk. · Layer 6 (policy): what is neither nested: the walk; and all of one. · Layer 6 (policy): some calls, as long as one more follows.
-/
import Derived.Deep.LoopGhost
import Derived.Test.YtlmopoipjolbgaaGreatDoorM07
namespace Go.Proofs.YtlmopoipjolbgaaGreatDoor.LexW
open Go.RowKit Go.Shelf Go.Proofs.YtlmopoipjolbgaaGreatDoor.LexS Go.Proofs.YtlmopoipjolbgaaGreatDoorW.PrintWords
set_option linter.unusedVariables false
set_option linter.unusedSimpArgs false

theorem infoEx : (Tryz.prog.info? 37).map (fun i => (i.zero, i.size, i.bytes)) = some (some (.agg #[.int .i64 0, .slice none 0 0, .int .i64 0, .int .u64 0, .int .i64 0, .int .u64 0]), kEx.sz, 64) := by kernel_rfl
abbrev exCells (x : Ex) (v : Value) : List Value := [.int .i64 x.f0, v, .int .i64 x.f2, .int .u64 x.f3, .int .i64 x.f4, .int .u64 x.f5]
/-- an expression's cells, made -/
theorem ex_made {W : World} {bx base : Nat} {v : Value} {x : Ex} (h : ExRow W bx v x.f1) (hb : base ≤ bx) : kEx.M W base (fun k => bx ≤ k ∧ k < W.heap.size) x (exCells x v) :=
  kEx.M_lower hb (kEx_mkM W bx _ x (Kd.R_mono (Kd.R_bound h) (fun k hk => ⟨hk.2.1, hk.2.2.1⟩)))
/-- a row of one -/
theorem ex_one {W : World} {base bx : Nat} {v : Value} {x : Ex} (h : ExRow W bx v x.f1) (hb : base ≤ bx) (hbW : base ≤ W.heap.size) : ExRow (W.alloc (.cells (exCells x v).toArray 37)) base (.slice (some ⟨W.heap.size, 0, none⟩) 1 1) [x] := by
  refine ⟨fun _ _ => trivial, exCells x v, ⟨rfl, .inr ⟨W.heap.size, 1, (exCells x v).toArray, rfl, hbW, new_blk W _ _, Nat.le_refl _, by unfold maxLen; omega, rfl, rfl⟩⟩, rfl, fun j p hj => ?_⟩
  have hj0 : j = 0 := by
    have := (List.getElem?_eq_some_iff.1 hj).1
    simpa using this
  subst hj0
  obtain rfl : x = p := by simpa using hj
  have hM := Kd.M_below (ex_made h hb) ((Below.refl _ W).alloc (Nat.le_refl _) (.cells (exCells x v).toArray 37))
  exact kEx.M_mono (fun k hk => ⟨trivial, fun e => by simp [Value.ownBlock] at e; omega⟩) hM

theorem Chg.of_belowB {B : Nat} {W W' : World} (h : Below B W W') : Chg (fun k => B ≤ k) W W' := ⟨h.os, h.tape, h.output, h.size, fun k _ hn => h.block k (by omega)⟩
theorem Rdr.belowB {s : ByteArray} {ep : EP} {g B : Nat} {L : List Tk} {d : Int} {W W' : World} (h : Rdr s ep g L d W) (hb : Below B W W') (hg : g < B) : Rdr s ep g L d W' := let ⟨t, e, hB, hA⟩ := h; ⟨t, e, (hb.block g hg).trans hB, hA⟩
def RowOut (s : ByteArray) (ep : EP) (g : Nat) (d : Int) (base : Nat) (p : List Ex × List Tk) (e : Ending) (W' : World) : Prop := ∃ v, e = .returned v ∧ ExRow W' base v p.1 ∧ Rdr s ep g p.2 d W'

set_option maxRecDepth 100000 in
set_option maxHeartbeats 2000000 in
theorem turns_any {f m : Nat} (he : Enters Tryz.prog f) (hem : Enters Tryz.prog m) (s : ByteArray) (ep : EP) (g b : Nat) (L : List Tk) (d : Int) (w0 W : World) (one : List Tk → Rd Ex) (sep : ByteArray) (fv q : Value) (hfv : fv = .func (.func f) #[q] #[] ∨ fv = .func (.func f) #[] #[q]) (hL : L.length ≤ 65537) (hsh : Shr one) (hO : Okw w0 g W) (hR : Rdr s ep g L d W) (hH : Held W b g) (hbg : b ≠ g)
    (hone : ∀ L1 W1, L1.length ≤ 65537 → Okw w0 g W1 → Rdr s ep g L1 d W1 → Held W1 b g → Calls Tryz.prog f #[q] W1 (Outs g W1 (one L1) (ExOut s ep g d W1.heap.size)))
    (hmore : ∀ L1 W1, Okw w0 g W1 → Rdr s ep g L1 d W1 → Held W1 b g → Calls Tryz.prog m #[.pointer (some ⟨b, 0, none⟩)] W1 (Outs g W1 (maybeP ep sep L1) (BoolOut s ep g d))) :
    Calls Tryz.prog 67 #[fv, .func (.func m) #[] #[.pointer (some ⟨b, 0, none⟩)]] W (Outs g W (turnsP ep one sep L) (RowOut s ep g d W.heap.size)) := by
  have hgW := hR.lt
  have HO := Lib.hid hO; have HH := Lib.hid hH; have HONE := Lib.hid hone; have HMORE := Lib.hid hmore; have HSH := Lib.hid hsh
  have HD := Lib.hid (hone L W hL hO hR hH)
  have heg : ∀ (args : Array Value) (w : World), (callFunc f args).run Tryz.prog w = .ok (.enter f args) w := he
  have hem' : ∀ (args : Array Value) (w : World), (callFunc m args).run Tryz.prog w = .ok (.enter m args) w := hem
  clear hO hR hH hone hmore he hem hsh
  rcases h1 : one L with p | ⟨x, L1⟩
  · have H1 := Lib.hid h1; clear h1
    rcases hfv with rfl | rfl
    all_goals
      go_enter Tryz.func67, Tryz.ntmps67
      go_wp2_with fail
      refine HD.out.mono ?_
      rintro e W2 h
      obtain ⟨rfl, hc⟩ := h.err H1.out
      go_wp2
      exact ⟨rfl, Outs.mk_err (by unfold turnsP; rw [H1.out]; rfl) rfl hc⟩
  · have H1 := Lib.hid h1; clear h1
    have hl1 := HSH.out _ _ _ H1.out
    rcases hfv with rfl | rfl
    all_goals
      go_enter Tryz.func67, Tryz.ntmps67
      go_wp2_with fail
      refine HD.out.mono ?_
      rintro e W2 h
      obtain ⟨⟨v, rfl, hX, hR2⟩, hc⟩ := h.ok H1.out
      obtain ⟨A, c, rfl⟩ := Kd.R_slice hX
      have hs2 := hc.size
      have hrow := ex_one hX (Nat.le_refl _) hs2
      have hal := (Below.refl W2.heap.size W2).alloc (Nat.le_refl _) (.cells (exCells x (.slice A x.f1.length c)).toArray 37)
      have HROW := Lib.hid hrow; have HR3 := Lib.hid (hR2.below hal); have HC3 := Lib.hid (hc.trans (Chg.of_below hal (fun k => k = g)) (fun k e => .inl e))
      clear hX hR2 hc hrow hal
      unfold exAgg
      go_wp2_with fail
      obtain ⟨v0, hv0⟩ : ∃ v0, v0 = Value.slice (some ⟨W2.heap.size, 0, none⟩) 1 1 := ⟨_, rfl⟩
      rw [← hv0] at HROW ⊢
      show Code.wp _ _ _ _ (W2.alloc (.cells (exCells x (.slice A x.f1.length c)).toArray 37))
      generalize W2.alloc (.cells (exCells x (.slice A x.f1.length c)).toArray 37) = W3 at *
      clear hv0
      have hturn : turnsP ep one sep L = moreP ep one sep (L1.length + 1) [x] L1 := by unfold turnsP; rw [H1.out]; rfl
      have HT := Lib.hid hturn; clear hturn
      go_loopg [5] (L1.length + 1) (fun n vl wr => ∃ (l : List Ex) (L4 : List Tk), Hid (turnsP ep one sep L = moreP ep one sep n l L4) ∧ L4.length < n ∧ l.length + L4.length ≤ 65538 ∧ L4.length ≤ 65537 ∧ Hid (ExRow wr W.heap.size vl l) ∧ Hid (Rdr s ep g L4 d wr) ∧ Hid (Chg (fun k => k = g) W wr))
      case atStart => exact ⟨[x], L1, HT, by omega, by simp; omega, by omega, HROW, HR3, HC3⟩
      case round =>
        clear HROW HR3 HC3 HT
        obtain ⟨l, L4, HT, hn, hl, hl4, HROW, HR4, HC4⟩ := hrel
        obtain ⟨n, rfl⟩ : ∃ n, gk = n + 1 := ⟨gk - 1, by omega⟩
        have hun : moreP ep one sep (n + 1) l L4 = bnd (maybeP ep sep L4) (fun p => if p.1 = true then bnd (one p.2) (fun q => moreP ep one sep n (l ++ [q.1]) q.2) else .ok (l, p.2)) := rfl
        have HUN := Lib.hid hun; clear hun
        have HOr := Lib.hid (HO.out.chg HC4.out); have HHr := Lib.hid (HH.out.chg HC4.out hbg)
        have HM := Lib.hid (HMORE.out L4 wr HOr.out HR4.out HHr.out)
        have hwr := HC4.out.size
        rcases hm : maybeP ep sep L4 with p | ⟨t, L5⟩
        · have HMM := Lib.hid hm; clear hm
          go_wp2_with fail
          refine HM.out.mono ?_
          rintro e W5 h
          obtain ⟨rfl, hc⟩ := h.err HMM.out
          go_wp2
          exact ⟨rfl, Outs.mk_err (by rw [HT.out, HUN.out, HMM.out]; rfl) rfl (HC4.out.trans hc (fun k e => .inl e))⟩
        · have hl5 := maybeP_shr hm
          have HMM := Lib.hid hm; clear hm
          cases t with
          | false =>
            go_wp2_with fail
            refine HM.out.mono ?_
            rintro e W5 h
            obtain ⟨⟨rfl, hR5⟩, hc⟩ := h.ok HMM.out
            obtain ⟨A5, c5, rfl⟩ := Kd.R_slice HROW.out
            have HR5 := Lib.hid hR5; have HC5 := Lib.hid hc; clear hR5 hc
            go_wp2
            go_ret
            exact Outs.mk_ok (b := (l, L5)) (by rw [HT.out, HUN.out, HMM.out]; rfl) ⟨_, rfl, HROW.out.chg HC5.out (fun k e => by omega), HR5.out⟩ (HC4.out.trans HC5.out (fun k e => .inl e))
          | true =>
            have hl5' := hl5.2 rfl
            clear hl5
            go_wp2_with fail
            refine HM.out.mono ?_
            rintro e W5 h
            obtain ⟨⟨rfl, hR5⟩, hc⟩ := h.ok HMM.out
            have hs5 := hc.size
            have hc5 := HC4.out.trans hc (fun k e => .inl e)
            have HD5 := Lib.hid (HONE.out L5 W5 (by omega) (HOr.out.chg hc) hR5 (HHr.out.chg hc hbg))
            have HROW5 := Lib.hid (HROW.out.chg hc (fun k e => by omega)); have HC5 := Lib.hid hc5
            clear hR5 hc hc5
            rcases h5 : one L5 with p | ⟨y, L6⟩
            · have H5 := Lib.hid h5; clear h5
              go_wp2_with fail
              refine HD5.out.mono ?_
              rintro e W6 h
              obtain ⟨rfl, hc⟩ := h.err H5.out
              go_wp2
              exact ⟨rfl, Outs.mk_err (by rw [HT.out, HUN.out, HMM.out]; show bnd (one L5) _ = _; rw [H5.out]; rfl) rfl (HC5.out.trans hc (fun k e => .inl e))⟩
            · have H5 := Lib.hid h5; clear h5
              have hl6 := HSH.out _ _ _ H5.out
              go_wp2_with fail
              refine HD5.out.mono ?_
              rintro e W6 h
              obtain ⟨⟨v6, rfl, hX6, hR6⟩, hc⟩ := h.ok H5.out
              obtain ⟨A6, c6, rfl⟩ := Kd.R_slice hX6
              have hs6 := hc.size
              have HROW6 := Lib.hid (HROW5.out.chg hc (fun k e => by omega)); have HX6 := Lib.hid (ex_made (base := W.heap.size) hX6 (by omega)); have HR6 := Lib.hid hR6; have HC6 := Lib.hid (HC5.out.trans hc (fun k e => .inl e))
              have hvlt : ∀ k, u5.ownBlock = some k → k < W5.heap.size := fun k hk => by
                obtain ⟨inner, ho⟩ := Kd.R_own HROW5.out
                exact own_lt ho k hk
              have HVLT := Lib.hid hvlt
              clear hX6 hR6 hc hvlt
              unfold exAgg
              go_wp2_with (at_builtin; refine Kd.R_append kEx (w0 := W6) (W := W6) W.heap.size rfl (.tmp 11) (.tmp 14) 34 37 (.agg #[.int .i64 0, .slice none 0 0, .int .i64 0, .int .u64 0, .int .i64 0, .int .u64 0]) 64 rfl Tryz.underlying34 infoEx rfl (by decide) (by decide) u5 l y (exCells y (.slice A6 y.f1.length c6)) (fun _ => True) (fun k => W5.heap.size ≤ k ∧ k < W6.heap.size) rfl (by go_simp) HX6.out (fun k hk => ⟨trivial, fun e => Nat.lt_irrefl k (Nat.lt_of_lt_of_le (HVLT.out k e.symm) hk.1)⟩) (fun _ _ => trivial) HROW6.out (Below.refl _ _) (by omega) (by omega) ?_; intro v7 w7 hO7 hb7 hg7 hat7)
              have HO7 := Lib.hid hO7
              clear hO7
              go_roundg n
              case measure => omega
              case rel =>
                refine ⟨l ++ [y], L6, Lib.hid (by rw [HT.out, HUN.out, HMM.out]; show bnd (one L5) _ = _; rw [H5.out]; rfl), by omega, by simp; omega, by omega, HO7, Lib.hid (HR6.out.belowB hb7 hgW), Lib.hid (HC6.out.trans (Chg.of_belowB hb7) (fun k e => .inr e))⟩
end Go.Proofs.YtlmopoipjolbgaaGreatDoor.LexW
namespace Go.Proofs.YtlmopoipjolbgaaGreatDoor.LexW
open Go.RowKit Go.Shelf Go.Proofs.YtlmopoipjolbgaaGreatDoor.LexS Go.Proofs.YtlmopoipjolbgaaGreatDoorW.PrintWords
set_option linter.unusedVariables false
set_option linter.unusedSimpArgs false

def JoinOut (base : Nat) (x : Ex) (e : Ending) (W' : World) : Prop := ∃ v, e = .returned (exAgg x v) ∧ ExRow W' base v x.f1
theorem joinE_one (op : Int) (x : Ex) : joinE op [x] = x := rfl
theorem joinE_many {op : Int} {l : List Ex} (h : l.length ≠ 1) : joinE op l = ⟨op, l, 0, 0, 0, 0⟩ := by
  match l with
  | [] => rfl
  | [x] => exact absurd rfl h
  | x :: y :: l => rfl
set_option maxRecDepth 100000 in
set_option maxHeartbeats 1000000 in
theorem joined_any (op : Int) (v : Value) (l : List Ex) (base : Nat) (W : World) (h : ExRow W base v l) :
    Calls Tryz.prog 66 #[.int .i64 op, v] W fun e W' => JoinOut base (joinE op l) e W' ∧ Below W.heap.size W W' := by
  obtain ⟨A, c, rfl⟩ := Kd.R_slice h
  have hal := (Below.refl W.heap.size W).alloc (Nat.le_refl _) exZero
  have hz1 := new_blk W #[.int .i64 0, .slice none 0 0, .int .i64 0, .int .u64 0, .int .i64 0, .int .u64 0] 37
  by_cases hl : l.length = 1
  · obtain ⟨x, rfl⟩ : ∃ x, l = [x] := by
      match l, hl with
      | [x], _ => exact ⟨x, rfl⟩
    obtain ⟨gb, hA⟩ : ∃ gb, A = some ⟨gb, 0, none⟩ := by
      obtain ⟨_, inner, ho, _⟩ := h
      rcases ho.2 with ⟨h1, h2⟩ | ⟨gb, cap, cur, h1, _⟩
      · cases h2
      · injection h1 with h1; exact ⟨gb, h1⟩
    subst hA
    obtain ⟨cs, hcl, hM, hcell, hfz⟩ := Kd.R_elem h x 0 (by omega) (by simp)
    have hM' : kEx.M W base (fun k => True ∧ k ≠ gb) x cs := hM
    obtain ⟨v1, rfl, hR⟩ := kEx_openM hM'
    have q0 : W.cell? ⟨gb, 0, none⟩ = some (.int .i64 x.f0) := by have := hcell 0 _ rfl; simpa [kEx] using this
    have q1 : W.cell? ⟨gb, 1, none⟩ = some v1 := by have := hcell 1 _ rfl; simpa [kEx] using this
    have q2 : W.cell? ⟨gb, 2, none⟩ = some (.int .i64 x.f2) := by have := hcell 2 _ rfl; simpa [kEx] using this
    have q3 : W.cell? ⟨gb, 3, none⟩ = some (.int .u64 x.f3) := by have := hcell 3 _ rfl; simpa [kEx] using this
    have q4 : W.cell? ⟨gb, 4, none⟩ = some (.int .i64 x.f4) := by have := hcell 4 _ rfl; simpa [kEx] using this
    have q5 : W.cell? ⟨gb, 5, none⟩ = some (.int .u64 x.f5) := by have := hcell 5 _ rfl; simpa [kEx] using this
    have hR2 : ExRow W base v1 x.f1 := Kd.R_mono hR (fun _ _ => trivial)
    obtain ⟨A1, c1, rfl⟩ := Kd.R_slice hR2
    have HR2 := Lib.hid hR2
    have a0 := cell_past exZero q0
    have a1 := cell_past exZero q1
    have a2 := cell_past exZero q2
    have a3 := cell_past exZero q3
    have a4 := cell_past exZero q4
    have a5 := cell_past exZero q5
    clear h hcell hfz hcl hM hM' hR hR2 hz1 hal hl
    go_enter Tryz.func66, Tryz.ntmps66
    go_wp2
    refine bodyPost_ret (v := exAgg x (.slice A1 x.f1.length c1)) (by simp [results, Tryz.results66, go_sem]) rfl ?_
    have hal := (Below.refl W.heap.size W).alloc (Nat.le_refl _) (.cells #[.int .i64 x.f0, .slice A1 x.f1.length c1, .int .i64 x.f2, .int .u64 x.f3, .int .i64 x.f4, .int .u64 x.f5] 37)
    exact ⟨⟨_, rfl, HR2.out.below hal⟩, hal⟩
  · have hlb : ((l.length : Int) == 1) = false := by rw [beq_eq_false_iff_ne]; omega
    have HJ := Lib.hid (joinE_many (op := op) hl)
    have H := Lib.hid h
    clear hl h hz1 hal
    go_enter Tryz.func66, Tryz.ntmps66
    go_wp2
    refine bodyPost_ret (v := exAgg ⟨op, l, 0, 0, 0, 0⟩ (.slice A l.length c)) (by simp [results, Tryz.results66, go_sem]) rfl ?_
    have hal := (Below.refl W.heap.size W).alloc (Nat.le_refl _) (.cells #[.int .i64 op, .slice A l.length c, .int .i64 0, .int .u64 0, .int .i64 0, .int .u64 0] 37)
    rw [HJ.out]
    exact ⟨⟨_, rfl, H.out.below hal⟩, hal⟩
end Go.Proofs.YtlmopoipjolbgaaGreatDoor.LexW
namespace Go.Proofs.YtlmopoipjolbgaaGreatDoor.LexW
open Go.RowKit Go.Shelf Go.Proofs.YtlmopoipjolbgaaGreatDoor.LexS Go.Proofs.YtlmopoipjolbgaaGreatDoorW.PrintWords
set_option linter.unusedVariables false
set_option linter.unusedSimpArgs false

/-- a result's box is written, and the call returns -/
theorem ex_end {s : ByteArray} {ep : EP} {g B base : Nat} {L : List Tk} {d : Int} {W W3 : World} {x : Ex} {v u1 : Value} (hz : W3.heap[B]? = some (.cells #[.int .i64 0, u1, .int .i64 0, .int .u64 0, .int .i64 0, .int .u64 0] 37 (0, 0))) (hB : W.heap.size ≤ B) (hgB : g < W.heap.size) (hX : ExRow W3 base v x.f1) (hbB : B < base) (hR : Rdr s ep g L d W3) (hc : Chg (fun k => k = g) W W3) :
    ExRow ((((((W3.setCell ⟨B, 0, none⟩ (.int .i64 x.f0)).setCell ⟨B, 1, none⟩ v).setCell ⟨B, 2, none⟩ (.int .i64 x.f2)).setCell ⟨B, 3, none⟩ (.int .u64 x.f3)).setCell ⟨B, 4, none⟩ (.int .i64 x.f4)).setCell ⟨B, 5, none⟩ (.int .u64 x.f5)) W.heap.size v x.f1 ∧
    Rdr s ep g L d ((((((W3.setCell ⟨B, 0, none⟩ (.int .i64 x.f0)).setCell ⟨B, 1, none⟩ v).setCell ⟨B, 2, none⟩ (.int .i64 x.f2)).setCell ⟨B, 3, none⟩ (.int .u64 x.f3)).setCell ⟨B, 4, none⟩ (.int .i64 x.f4)).setCell ⟨B, 5, none⟩ (.int .u64 x.f5)) ∧
    Chg (fun k => k = g) W ((((((W3.setCell ⟨B, 0, none⟩ (.int .i64 x.f0)).setCell ⟨B, 1, none⟩ v).setCell ⟨B, 2, none⟩ (.int .i64 x.f2)).setCell ⟨B, 3, none⟩ (.int .u64 x.f3)).setCell ⟨B, 4, none⟩ (.int .i64 x.f4)).setCell ⟨B, 5, none⟩ (.int .u64 x.f5)) ∧
    ((((((W3.setCell ⟨B, 0, none⟩ (.int .i64 x.f0)).setCell ⟨B, 1, none⟩ v).setCell ⟨B, 2, none⟩ (.int .i64 x.f2)).setCell ⟨B, 3, none⟩ (.int .u64 x.f3)).setCell ⟨B, 4, none⟩ (.int .i64 x.f4)).setCell ⟨B, 5, none⟩ (.int .u64 x.f5)).heap[B]? = some (.cells #[.int .i64 x.f0, v, .int .i64 x.f2, .int .u64 x.f3, .int .i64 x.f4, .int .u64 x.f5] 37 (0, 0)) :=
  ⟨(hX.chg ((Chg.refl (fun k => k = B) W3).sets6' B (fun k e => e) _ _ _ _ _ _) (fun k e => by omega)).lower (by omega), hR.far6 B (by omega) _ _ _ _ _ _, hc.sets6 B hB _ _ _ _ _ _, blk_sets6 hz _ _ _ _ _ _⟩
theorem and_any (s : ByteArray) (ep : EP) (g b : Nat) (L : List Tk) (d : Int) (w0 W : World) (hO : Okw w0 g W) (hR : Rdr s ep g L d W) (hH : Held W b g) :
    Calls Tryz.prog 69 #[.pointer (some ⟨b, 0, none⟩)] W (Outs g W (maybeP ep sAnd L) (BoolOut s ep g d)) := by
  have hc := hH.cell
  have HM := Lib.hid (maybe_any s ep g L d sAnd w0 W hO hR)
  clear hO hR hH
  rcases hm : maybeP ep sAnd L with p | p
  · rw [hm] at HM
    clear hm
    go_enter Tryz.func69, Tryz.ntmps69
    go_wp2_with fail
    refine HM.out.mono ?_
    rintro e W2 h
    obtain ⟨rfl, hc⟩ := h.err rfl
    go_wp2
    exact ⟨rfl, Outs.mk_err rfl rfl hc⟩
  · rw [hm] at HM
    clear hm
    go_enter Tryz.func69, Tryz.ntmps69
    go_wp2_with fail
    refine HM.out.mono ?_
    rintro e W2 h
    obtain ⟨⟨rfl, hR'⟩, hc⟩ := h.ok rfl
    have HR := Lib.hid hR'; have HC := Lib.hid hc; clear hR' hc
    go_wp2
    go_ret
    exact Outs.mk_ok rfl ⟨rfl, HR.out⟩ HC.out
theorem or_any (s : ByteArray) (ep : EP) (g b : Nat) (L : List Tk) (d : Int) (w0 W : World) (hO : Okw w0 g W) (hR : Rdr s ep g L d W) (hH : Held W b g) :
    Calls Tryz.prog 71 #[.pointer (some ⟨b, 0, none⟩)] W (Outs g W (maybeP ep sOr L) (BoolOut s ep g d)) := by
  have hc := hH.cell
  have HM := Lib.hid (maybe_any s ep g L d sOr w0 W hO hR)
  clear hO hR hH
  rcases hm : maybeP ep sOr L with p | p
  · rw [hm] at HM
    clear hm
    go_enter Tryz.func71, Tryz.ntmps71
    go_wp2_with fail
    refine HM.out.mono ?_
    rintro e W2 h
    obtain ⟨rfl, hc⟩ := h.err rfl
    go_wp2
    exact ⟨rfl, Outs.mk_err rfl rfl hc⟩
  · rw [hm] at HM
    clear hm
    go_enter Tryz.func71, Tryz.ntmps71
    go_wp2_with fail
    refine HM.out.mono ?_
    rintro e W2 h
    obtain ⟨⟨rfl, hR'⟩, hc⟩ := h.ok rfl
    have HR := Lib.hid hR'; have HC := Lib.hid hc; clear hR' hc
    go_wp2
    go_ret
    exact Outs.mk_ok rfl ⟨rfl, HR.out⟩ HC.out

/-- what one of the grammar does, of a depth -/
def OneC (s : ByteArray) (ep : EP) (g : Nat) (w0 : World) (d : Int) (one : List Tk → Rd Ex) : Prop := ∀ L W, L.length ≤ 65537 → Okw w0 g W → Rdr s ep g L d W → Calls Tryz.prog 68 #[.pointer (some ⟨g, 0, none⟩)] W (Outs g W (one L) (ExOut s ep g d W.heap.size))
theorem enters_one : Enters Tryz.prog 68 := enters_of Tryz.func68 (by kernel_rfl) rfl
theorem enters_and : Enters Tryz.prog 69 := enters_of Tryz.func69 (by kernel_rfl) rfl
theorem enters_all : Enters Tryz.prog 65 := enters_of Tryz.func65 (by kernel_rfl) rfl
theorem enters_or : Enters Tryz.prog 71 := enters_of Tryz.func71 (by kernel_rfl) rfl

set_option maxRecDepth 100000 in
set_option maxHeartbeats 1000000 in
theorem all_of (s : ByteArray) (ep : EP) (g b : Nat) (L : List Tk) (d : Int) (w0 W : World) (one : List Tk → Rd Ex) (hone : OneC s ep g w0 d one) (hsh : Shr one) (hL : L.length ≤ 65537) (hO : Okw w0 g W) (hR : Rdr s ep g L d W) (hH : Held W b g) (hbg : b ≠ g) :
    Calls Tryz.prog 65 #[.pointer (some ⟨b, 0, none⟩)] W (Outs g W (allP ep one L) (ExOut s ep g d W.heap.size)) := by
  have hgW := hR.lt
  have hal := (Below.refl W.heap.size W).alloc (Nat.le_refl _) exZero
  have hz1 := new_blk W #[.int .i64 0, .slice none 0 0, .int .i64 0, .int .u64 0, .int .i64 0, .int .u64 0] 37
  have hc := cell_past exZero hH.cell
  have hmf : ∀ (fn : Fn) (first cap : Array Value) (w : World), (Instr.makeFunc fn first cap).run Tryz.prog w = .ok (.func fn first cap) w := fun _ _ _ _ => rfl
  have HT := Lib.hid (turns_any enters_one enters_and s ep g b L d w0 (W.alloc exZero) one sAnd (.func (.func 68) #[.pointer (some ⟨g, 0, none⟩)] #[]) (.pointer (some ⟨g, 0, none⟩)) (.inl rfl) hL hsh (hO.below hal) (hR.below hal) (hH.below hal) hbg
    (fun L1 W1 h1 h2 h3 _ => hone L1 W1 h1 h2 h3) (fun L1 W1 h1 h2 h3 => and_any s ep g b L1 d w0 W1 h1 h2 h3))
  have HAL := Lib.hid hal; have HZ1 := Lib.hid hz1
  clear hone hsh hO hR hH hal hz1
  rcases ht : turnsP ep one sAnd L with p | ⟨l, L1⟩
  · have H := Lib.hid ht; clear ht
    go_enter Tryz.func65, Tryz.ntmps65
    go_wp2_with fail
    refine HT.out.mono ?_
    rintro e W2 h
    obtain ⟨rfl, hc2⟩ := h.err H.out
    go_wp2
    exact ⟨rfl, Outs.mk_err (by unfold allP; rw [H.out]; rfl) rfl ((Chg.of_below HAL.out (fun k => k = g)).trans hc2 (fun k e => .inl e))⟩
  · have H := Lib.hid ht; clear ht
    go_enter Tryz.func65, Tryz.ntmps65
    go_wp2_with fail
    refine HT.out.mono ?_
    rintro e W2 h
    obtain ⟨⟨v, rfl, hX, hR2⟩, hc2⟩ := h.ok H.out
    have hz2 := chg_block hc2 HZ1.out (by omega)
    have hs2 : W.heap.size < W2.heap.size := (Array.getElem?_eq_some_iff.1 hz2).1
    have HJ := Lib.hid (joined_any 4 v l _ W2 hX)
    have HC2 := Lib.hid ((Chg.of_below HAL.out (fun k => k = g)).trans hc2 (fun k e => .inl e)); have HR2 := Lib.hid hR2; have HZ2 := Lib.hid hz2
    clear hX hR2 hc2 hz2
    go_wp2_with fail
    refine HJ.out.mono ?_
    rintro e W3 ⟨⟨v3, rfl, hX3⟩, hb3⟩
    obtain ⟨A3, c3, rfl⟩ := Kd.R_slice hX3
    have hz3 := (hb3.block W.heap.size hs2).trans HZ2.out
    obtain ⟨z0, z1, z2, z3, z4, z5, zf⟩ := blk6 hz3
    have hs3 := hb3.size
    generalize hxe : joinE 4 l = x at *
    have HXE := Lib.hid hxe; clear hxe
    have HX3 := Lib.hid hX3; have HB3 := Lib.hid hb3; have HZ3 := Lib.hid hz3
    clear hX3 hb3 hz3
    unfold exAgg
    go_wp2
    obtain ⟨e1, e2, e3, e4⟩ := ex_end HZ3.out (Nat.le_refl _) hgW HX3.out (by simp) (HR2.out.below HB3.out) (HC2.out.trans (Chg.of_below HB3.out (fun k => k = g)) (fun k e => .inl e))
    obtain ⟨r0, r1, r2, r3, r4, r5, rf⟩ := blk6 e4
    refine bodyPost_ret (v := exAgg x (.slice A3 x.f1.length c3)) (by simp [results, Tryz.results65, go_sem, r0, r1, r2, r3, r4, r5]) rfl ?_
    exact Outs.mk_ok (b := (x, L1)) (by unfold allP; rw [H.out]; show Except.ok (joinE 4 l, L1) = _; rw [HXE.out]) ⟨_, rfl, e1, e2⟩ e3

set_option maxRecDepth 100000 in
set_option maxHeartbeats 1000000 in
theorem expr_of (s : ByteArray) (ep : EP) (g : Nat) (L : List Tk) (d : Int) (w0 W : World) (one : List Tk → Rd Ex) (hone : OneC s ep g w0 d one) (hsh : Shr one) (hL : L.length ≤ 65537) (hO : Okw w0 g W) (hR : Rdr s ep g L d W) :
    Calls Tryz.prog 34 #[.pointer (some ⟨g, 0, none⟩)] W (Outs g W (exprP ep one L) (ExOut s ep g d W.heap.size)) := by
  have hgW := hR.lt
  have hal := ((Below.refl W.heap.size W).alloc (Nat.le_refl _) (.cells #[.pointer (some ⟨g, 0, none⟩)] 51)).alloc (by simp) exZero
  have hz1 : ((W.alloc (.cells #[.pointer (some ⟨g, 0, none⟩)] 51)).alloc exZero).heap[W.heap.size + 1]? = some (.cells #[.int .i64 0, .slice none 0 0, .int .i64 0, .int .u64 0, .int .i64 0, .int .u64 0] 37 (0, 0)) := new_blk' (by simp) _ _
  have hH : Held ((W.alloc (.cells #[.pointer (some ⟨g, 0, none⟩)] 51)).alloc exZero) W.heap.size g := blk_past exZero (new_blk W _ _)
  have hmf : ∀ (fn : Fn) (first cap : Array Value) (w : World), (Instr.makeFunc fn first cap).run Tryz.prog w = .ok (.func fn first cap) w := fun _ _ _ _ => rfl
  have HT := Lib.hid (turns_any enters_all enters_or s ep g W.heap.size L d w0 ((W.alloc (.cells #[.pointer (some ⟨g, 0, none⟩)] 51)).alloc exZero) (allP ep one) sOr (.func (.func 65) #[] #[.pointer (some ⟨W.heap.size, 0, none⟩)]) (.pointer (some ⟨W.heap.size, 0, none⟩)) (.inr rfl) hL (allP_shr ep hsh) (hO.below hal) (hR.below hal) hH (by omega)
    (fun L1 W1 h1 h2 h3 h4 => all_of s ep g W.heap.size L1 d w0 W1 one hone hsh h1 h2 h3 h4 (by omega)) (fun L1 W1 h1 h2 h3 => or_any s ep g W.heap.size L1 d w0 W1 h1 h2 h3))
  have HAL := Lib.hid hal; have HZ1 := Lib.hid hz1
  clear hone hsh hO hR hH hal hz1
  rcases ht : turnsP ep (allP ep one) sOr L with p | ⟨l, L1⟩
  · have H := Lib.hid ht; clear ht
    go_enter Tryz.func34, Tryz.ntmps34
    go_wp2_with fail
    refine HT.out.mono ?_
    rintro e W2 h
    obtain ⟨rfl, hc2⟩ := h.err H.out
    go_wp2
    exact ⟨rfl, Outs.mk_err (by unfold exprP; rw [H.out]; rfl) rfl ((Chg.of_below HAL.out (fun k => k = g)).trans hc2 (fun k e => .inl e))⟩
  · have H := Lib.hid ht; clear ht
    go_enter Tryz.func34, Tryz.ntmps34
    go_wp2_with fail
    refine HT.out.mono ?_
    rintro e W2 h
    obtain ⟨⟨v, rfl, hX, hR2⟩, hc2⟩ := h.ok H.out
    have hz2 := chg_block hc2 HZ1.out (by omega)
    have hs2 : W.heap.size + 1 < W2.heap.size := (Array.getElem?_eq_some_iff.1 hz2).1
    have HJ := Lib.hid (joined_any 5 v l _ W2 hX)
    have HC2 := Lib.hid ((Chg.of_below HAL.out (fun k => k = g)).trans hc2 (fun k e => .inl e)); have HR2 := Lib.hid hR2; have HZ2 := Lib.hid hz2
    clear hX hR2 hc2 hz2
    go_wp2_with fail
    refine HJ.out.mono ?_
    rintro e W3 ⟨⟨v3, rfl, hX3⟩, hb3⟩
    obtain ⟨A3, c3, rfl⟩ := Kd.R_slice hX3
    have hz3 := (hb3.block (W.heap.size + 1) hs2).trans HZ2.out
    obtain ⟨z0, z1, z2, z3, z4, z5, zf⟩ := blk6 hz3
    have hs3 := hb3.size
    generalize hxe : joinE 5 l = x at *
    have HXE := Lib.hid hxe; clear hxe
    have HX3 := Lib.hid hX3; have HB3 := Lib.hid hb3; have HZ3 := Lib.hid hz3
    clear hX3 hb3 hz3
    unfold exAgg
    go_wp2
    obtain ⟨e1, e2, e3, e4⟩ := ex_end HZ3.out (by omega) hgW HX3.out (by simp) (HR2.out.below HB3.out) (HC2.out.trans (Chg.of_below HB3.out (fun k => k = g)) (fun k e => .inl e))
    obtain ⟨r0, r1, r2, r3, r4, r5, rf⟩ := blk6 e4
    refine bodyPost_ret (v := exAgg x (.slice A3 x.f1.length c3)) (by simp [results, Tryz.results34, go_sem, r0, r1, r2, r3, r4, r5]) rfl ?_
    exact Outs.mk_ok (b := (x, L1)) (by unfold exprP; rw [H.out]; show Except.ok (joinE 5 l, L1) = _; rw [HXE.out]) ⟨_, rfl, e1, e2⟩ e3
end Go.Proofs.YtlmopoipjolbgaaGreatDoor.LexW
namespace Go.Proofs.YtlmopoipjolbgaaGreatDoor.LexW
open Go.RowKit Go.Shelf Go.Proofs.YtlmopoipjolbgaaGreatDoor.LexS Go.Proofs.YtlmopoipjolbgaaGreatDoorW.PrintWords
set_option linter.unusedVariables false
set_option linter.unusedSimpArgs false

theorem nested_deep (s : ByteArray) (ep : EP) (g : Nat) (L : List Tk) (w0 W : World) (fv : Value) (hO : Okw w0 g W) (hR : Rdr s ep g L 64 W) :
    Calls Tryz.prog 88 #[.pointer (some ⟨g, 0, none⟩), fv] W fun e W' => e = panics (badP 62 L) ∧ Chg (fun k => k = g) W W' := by
  have hal := (Below.refl W.heap.size W).alloc (Nat.le_refl _) exZero
  have HB := Lib.hid (bad_any s ep g L 64 62 (W.alloc exZero) (hR.below hal))
  obtain ⟨t, e, hB, rest, j, rfl, rfl, hT⟩ := hR
  obtain ⟨c0, c1, c2, c3, c4, c5, c6⟩ := rdb_cell hB
  have a6 := cell_past exZero c6
  have HAL := Lib.hid hal
  clear hal hB hT c0 c1 c2 c3 c4 c5 hO
  go_enter Tryz.func88, Tryz.ntmps88
  go_wp2_with fail
  refine HB.out.mono ?_
  rintro e W2 ⟨he, rfl⟩
  unfold panics at he
  subst he
  go_wp2
  exact ⟨rfl, rfl, Chg.of_below HAL.out _⟩

def notP (one : List Tk → Rd Ex) (L : List Tk) : Rd Ex := bnd (one L) (fun p => .ok (⟨3, [p.1], 0, 0, 0, 0⟩, p.2))
def openP (ep : EP) (one : List Tk → Rd Ex) (L : List Tk) : Rd Ex := bnd (exprP ep one L) (fun p => bnd (wantP ep sShut p.2) (fun q => .ok (p.1, q.2)))

set_option maxRecDepth 100000 in
set_option maxHeartbeats 1000000 in
theorem not_of (s : ByteArray) (ep : EP) (g b : Nat) (L : List Tk) (d : Int) (w0 W : World) (one : List Tk → Rd Ex) (hone : OneC s ep g w0 d one) (hL : L.length ≤ 65537) (hO : Okw w0 g W) (hR : Rdr s ep g L d W) (hH : Held W b g) :
    Calls Tryz.prog 89 #[.pointer (some ⟨b, 0, none⟩)] W (Outs g W (notP one L) (ExOut s ep g d W.heap.size)) := by
  have hgW := hR.lt
  have hal := (Below.refl W.heap.size W).alloc (Nat.le_refl _) exZero
  have hz1 := new_blk W #[.int .i64 0, .slice none 0 0, .int .i64 0, .int .u64 0, .int .i64 0, .int .u64 0] 37
  have hc := cell_past exZero hH.cell
  have HT := Lib.hid (hone L (W.alloc exZero) hL (hO.below hal) (hR.below hal))
  have HAL := Lib.hid hal; have HZ1 := Lib.hid hz1
  clear hone hO hR hH hal hz1
  rcases ht : one L with p | ⟨y, L1⟩
  · have H := Lib.hid ht; clear ht
    go_enter Tryz.func89, Tryz.ntmps89
    go_wp2_with fail
    refine HT.out.mono ?_
    rintro e W2 h
    obtain ⟨rfl, hc2⟩ := h.err H.out
    go_wp2
    exact ⟨rfl, Outs.mk_err (by unfold notP; rw [H.out]; rfl) rfl ((Chg.of_below HAL.out (fun k => k = g)).trans hc2 (fun k e => .inl e))⟩
  · have H := Lib.hid ht; clear ht
    go_enter Tryz.func89, Tryz.ntmps89
    go_wp2_with fail
    refine HT.out.mono ?_
    rintro e W2 h
    obtain ⟨⟨v, rfl, hX, hR2⟩, hc2⟩ := h.ok H.out
    obtain ⟨A2, c2, rfl⟩ := Kd.R_slice hX
    have hz2 := chg_block hc2 HZ1.out (by omega)
    have hs2 : W.heap.size < W2.heap.size := (Array.getElem?_eq_some_iff.1 hz2).1
    obtain ⟨z0, z1, z2, z3, z4, z5, zf⟩ := blk6 hz2
    have HC2 := Lib.hid ((Chg.of_below HAL.out (fun k => k = g)).trans hc2 (fun k e => .inl e)); have HR2 := Lib.hid hR2; have HZ2 := Lib.hid hz2; have HX := Lib.hid hX
    clear hX hR2 hc2 hz2
    unfold exAgg
    go_wp2
    have hch := (Chg.refl (fun k => k = W.heap.size) W2).sets6' W.heap.size (fun k e => e) (.int .i64 3) (.slice (some ⟨W2.heap.size, 0, none⟩) 1 1) (.int .i64 0) (.int .u64 0) (.int .i64 0) (.int .u64 0)
    have hrow := ex_one (base := W.heap.size) (HX.out.chg hch (fun k e => by subst e; simp)) (by simp) (by simp; omega)
    have hz3 := blk_past (.cells (exCells y (.slice A2 y.f1.length c2)).toArray 37) (blk_sets6 HZ2.out (.int .i64 3) (.slice (some ⟨W2.heap.size, 0, none⟩) 1 1) (.int .i64 0) (.int .u64 0) (.int .i64 0) (.int .u64 0))
    have hR3 := HR2.out.far6 W.heap.size (by omega) (.int .i64 3) (.slice (some ⟨W2.heap.size, 0, none⟩) 1 1) (.int .i64 0) (.int .u64 0) (.int .i64 0) (.int .u64 0)
    have hC3 := HC2.out.sets6 W.heap.size (Nat.le_refl _) (.int .i64 3) (.slice (some ⟨W2.heap.size, 0, none⟩) 1 1) (.int .i64 0) (.int .u64 0) (.int .i64 0) (.int .u64 0)
    have hsz : ((((((W2.setCell ⟨W.heap.size, 0, none⟩ (.int .i64 3)).setCell ⟨W.heap.size, 1, none⟩ (.slice (some ⟨W2.heap.size, 0, none⟩) 1 1)).setCell ⟨W.heap.size, 2, none⟩ (.int .i64 0)).setCell ⟨W.heap.size, 3, none⟩ (.int .u64 0)).setCell ⟨W.heap.size, 4, none⟩ (.int .i64 0)).setCell ⟨W.heap.size, 5, none⟩ (.int .u64 0)).heap.size = W2.heap.size := by simp
    rw [hsz] at hrow
    generalize ((((((W2.setCell ⟨W.heap.size, 0, none⟩ (.int .i64 3)).setCell ⟨W.heap.size, 1, none⟩ (.slice (some ⟨W2.heap.size, 0, none⟩) 1 1)).setCell ⟨W.heap.size, 2, none⟩ (.int .i64 0)).setCell ⟨W.heap.size, 3, none⟩ (.int .u64 0)).setCell ⟨W.heap.size, 4, none⟩ (.int .i64 0)).setCell ⟨W.heap.size, 5, none⟩ (.int .u64 0)) = W3 at *
    have hal3 := (Below.refl W3.heap.size W3).alloc (Nat.le_refl _) (.cells (exCells y (.slice A2 y.f1.length c2)).toArray 37)
    obtain ⟨r0, r1, r2, r3, r4, r5, rf⟩ := blk6 hz3
    refine bodyPost_ret (v := exAgg ⟨3, [y], 0, 0, 0, 0⟩ (.slice (some ⟨W2.heap.size, 0, none⟩) 1 1)) (by simp [results, Tryz.results89, go_sem, r0, r1, r2, r3, r4, r5]) rfl ?_
    exact Outs.mk_ok (b := (⟨3, [y], 0, 0, 0, 0⟩, L1)) (by unfold notP; rw [H.out]; rfl) ⟨_, rfl, hrow, hR3.below hal3⟩ (hC3.trans (Chg.of_below hal3 (fun k => k = g)) (fun k e => .inl e))

set_option maxRecDepth 100000 in
set_option maxHeartbeats 1000000 in
theorem open_of (s : ByteArray) (ep : EP) (g b : Nat) (L : List Tk) (d : Int) (w0 W : World) (one : List Tk → Rd Ex) (hone : OneC s ep g w0 d one) (hsh : Shr one) (hL : L.length ≤ 65537) (hO : Okw w0 g W) (hR : Rdr s ep g L d W) (hH : Held W b g) (hbg : b ≠ g) :
    Calls Tryz.prog 90 #[.pointer (some ⟨b, 0, none⟩)] W (Outs g W (openP ep one L) (ExOut s ep g d W.heap.size)) := by
  have hgW := hR.lt
  have hbW := hH.lt
  have hal := (Below.refl W.heap.size W).alloc (Nat.le_refl _) exZero
  have hz1 := new_blk W #[.int .i64 0, .slice none 0 0, .int .i64 0, .int .u64 0, .int .i64 0, .int .u64 0] 37
  have hc := cell_past exZero hH.cell
  have HT := Lib.hid (expr_of s ep g L d w0 (W.alloc exZero) one hone hsh hL (hO.below hal) (hR.below hal))
  have HAL := Lib.hid hal; have HZ1 := Lib.hid hz1; have HO := Lib.hid hO; have HH := Lib.hid (hH.below hal)
  clear hone hsh hO hR hH hal hz1
  rcases ht : exprP ep one L with p | ⟨x, L1⟩
  · have H := Lib.hid ht; clear ht
    go_enter Tryz.func90, Tryz.ntmps90
    go_wp2_with fail
    refine HT.out.mono ?_
    rintro e W2 h
    obtain ⟨rfl, hc2⟩ := h.err H.out
    go_wp2
    exact ⟨rfl, Outs.mk_err (by unfold openP; rw [H.out]; rfl) rfl ((Chg.of_below HAL.out (fun k => k = g)).trans hc2 (fun k e => .inl e))⟩
  · have H := Lib.hid ht; clear ht
    go_enter Tryz.func90, Tryz.ntmps90
    go_wp2_with fail
    refine HT.out.mono ?_
    rintro e W2 h
    obtain ⟨⟨v, rfl, hX, hR2⟩, hc2⟩ := h.ok H.out
    obtain ⟨A2, c2, rfl⟩ := Kd.R_slice hX
    have hz2 := chg_block hc2 HZ1.out (by omega)
    have hs2 : W.heap.size < W2.heap.size := (Array.getElem?_eq_some_iff.1 hz2).1
    have hcW2 := (Chg.of_below HAL.out (fun k => k = g)).trans hc2 (fun k e => .inl e)
    have hH2 := HH.out.chg hc2 hbg
    have hal2 := (Below.refl W2.heap.size W2).alloc (Nat.le_refl _) (.cells #[.int .i64 x.f0, .slice A2 x.f1.length c2, .int .i64 x.f2, .int .u64 x.f3, .int .i64 x.f4, .int .u64 x.f5] 37)
    have hx3 := new_blk W2 #[.int .i64 x.f0, .slice A2 x.f1.length c2, .int .i64 x.f2, .int .u64 x.f3, .int .i64 x.f4, .int .u64 x.f5] 37
    have hz3 := blk_past (.cells #[.int .i64 x.f0, .slice A2 x.f1.length c2, .int .i64 x.f2, .int .u64 x.f3, .int .i64 x.f4, .int .u64 x.f5] 37) hz2
    have hc3 := (hH2.below hal2).cell
    have HW := Lib.hid (want_any s ep g L1 d sShut w0 _ ((HO.out.chg hcW2).below hal2) (hR2.below hal2))
    have HC3 := Lib.hid (hcW2.trans (Chg.of_below hal2 (fun k => k = g)) (fun k e => .inl e)); have HZ3 := Lib.hid hz3; have HX3 := Lib.hid hx3; have HX := Lib.hid (hX.below hal2)
    clear hX hR2 hc2 hz2 hcW2 hH2 hal2 hz3 hx3
    unfold exAgg
    rcases hw : wantP ep sShut L1 with p | ⟨u, L2⟩
    · have HWE := Lib.hid hw; clear hw
      go_wp2_with fail
      refine HW.out.mono ?_
      rintro e W4 h
      obtain ⟨rfl, hc4⟩ := h.err HWE.out
      go_wp2
      exact ⟨rfl, Outs.mk_err (by unfold openP; rw [H.out]; show bnd (wantP ep sShut L1) _ = _; rw [HWE.out]; rfl) rfl (HC3.out.trans hc4 (fun k e => .inl e))⟩
    · have HWE := Lib.hid hw; clear hw
      go_wp2_with fail
      refine HW.out.mono ?_
      rintro e W4 h
      obtain ⟨⟨rfl, hR4⟩, hc4⟩ := h.ok HWE.out
      have hz4 := chg_block hc4 HZ3.out (by omega)
      have hx4 := chg_block hc4 HX3.out (by omega)
      obtain ⟨z0, z1, z2, z3, z4, z5, zf⟩ := blk6 hz4
      obtain ⟨y0, y1, y2, y3, y4, y5, yf⟩ := blk6 hx4
      have HX4 := Lib.hid (HX.out.chg hc4 (fun k e => by subst e; simp; omega))
      have HC4 := Lib.hid (HC3.out.trans hc4 (fun k e => .inl e)); have HR4 := Lib.hid hR4; have HZ4 := Lib.hid hz4
      have hne : W2.heap.size ≠ W.heap.size := by omega
      clear hz4 hx4 hc4 hR4
      go_wp2
      obtain ⟨e1, e2, e3, e4⟩ := ex_end HZ4.out (Nat.le_refl _) hgW HX4.out (by simp) HR4.out HC4.out
      obtain ⟨r0, r1, r2, r3, r4, r5, rf⟩ := blk6 e4
      refine bodyPost_ret (v := exAgg x (.slice A2 x.f1.length c2)) (by simp [results, Tryz.results90, go_sem, r0, r1, r2, r3, r4, r5]) rfl ?_
      exact Outs.mk_ok (b := (x, L2)) (by unfold openP; rw [H.out]; show bnd (wantP ep sShut L1) _ = _; rw [HWE.out]; rfl) ⟨_, rfl, e1, e2⟩ e3
end Go.Proofs.YtlmopoipjolbgaaGreatDoor.LexW
namespace Go.Proofs.YtlmopoipjolbgaaGreatDoor.LexW
open Go.RowKit Go.Shelf Go.Proofs.YtlmopoipjolbgaaGreatDoor.LexS Go.Proofs.YtlmopoipjolbgaaGreatDoorW.PrintWords
set_option linter.unusedVariables false
set_option linter.unusedSimpArgs false

theorem enters_not : Enters Tryz.prog 89 := enters_of Tryz.func89 (by kernel_rfl) rfl
theorem enters_open : Enters Tryz.prog 90 := enters_of Tryz.func90 (by kernel_rfl) rfl
/-- the world in which one reads -/
abbrev oneW (W : World) (g : Nat) : World := (W.alloc (.cells #[.pointer (some ⟨g, 0, none⟩)] 51)).alloc exZero
theorem oneW_below (W : World) (g : Nat) : Below W.heap.size W (oneW W g) := ((Below.refl W.heap.size W).alloc (Nat.le_refl _) _).alloc (by simp) _
theorem oneW_zero (W : World) (g : Nat) : (oneW W g).heap[W.heap.size + 1]? = some (.cells #[.int .i64 0, .slice none 0 0, .int .i64 0, .int .u64 0, .int .i64 0, .int .u64 0] 37 (0, 0)) := new_blk' (by simp) _ _
theorem oneW_held (W : World) (g : Nat) : Held (oneW W g) W.heap.size g := blk_past exZero (new_blk W _ _)
theorem oneW_size (W : World) (g : Nat) : (oneW W g).heap.size = W.heap.size + 2 := by simp

set_option maxRecDepth 100000 in
set_option maxHeartbeats 1000000 in
/-- a not, or a (: what nested comes to is handed on -/
theorem one_nested (s : ByteArray) (ep : EP) (g : Nat) (L : List Tk) (d : Int) (w0 W : World) (res : Rd Ex) (hO : Okw w0 g W) (hR : Rdr s ep g L d W)
    (hn : isT sNot (hdT L) = true ∨ (isT sNot (hdT L) = false ∧ isT sOpen (hdT L) = true))
    (hnest : ∀ f, f = (if isT sNot (hdT L) then 89 else 90) → Calls Tryz.prog 88 #[.pointer (some ⟨g, 0, none⟩), .func (.func f) #[] #[.pointer (some ⟨W.heap.size, 0, none⟩)]] (oneW W g) (Outs g (oneW W g) res (ExOut s ep g d (oneW W g).heap.size))) :
    Calls Tryz.prog 68 #[.pointer (some ⟨g, 0, none⟩)] W (Outs g W res (ExOut s ep g d W.heap.size)) := by
  have hgW := hR.lt
  have hmf : ∀ (fn : Fn) (first cap : Array Value) (w : World), (Instr.makeFunc fn first cap).run Tryz.prog w = .ok (.func fn first cap) w := fun _ _ _ _ => rfl
  have hc := (oneW_held W g).cell
  have HI := Lib.hid (fun x => is_any s ep g L d x (oneW W g) (hR.below (oneW_below W g)))
  have HN := Lib.hid hnest
  clear hnest hO hR
  rcases hn with h1 | ⟨h1, h2⟩
  · have HN1 := Lib.hid (HN.out 89 (by rw [if_pos h1]))
    have HI1 := Lib.hid (HI.out sNot)
    rw [h1] at HI1
    clear h1 HN HI
    cases res with
    | error p =>
      go_enter Tryz.func68, Tryz.ntmps68
      go_wp2_with fail
      refine HI1.out.mono ?_
      rintro e W1 ⟨rfl, rfl⟩
      go_wp2_with fail
      refine HN1.out.mono ?_
      rintro e W2 h
      obtain ⟨rfl, hc2⟩ := h.err rfl
      go_wp2
      exact ⟨rfl, Outs.mk_err rfl rfl ((Chg.of_below (oneW_below W g) (fun k => k = g)).trans hc2 (fun k e => .inl e))⟩
    | ok p =>
      go_enter Tryz.func68, Tryz.ntmps68
      go_wp2_with fail
      refine HI1.out.mono ?_
      rintro e W1 ⟨rfl, rfl⟩
      go_wp2_with fail
      refine HN1.out.mono ?_
      rintro e W2 h
      obtain ⟨⟨v, rfl, hX, hR2⟩, hc2⟩ := h.ok rfl
      obtain ⟨A2, c2, rfl⟩ := Kd.R_slice hX
      have hz2 := chg_block hc2 (oneW_zero W g) (by omega)
      obtain ⟨z0, z1, z2, z3, z4, z5, zf⟩ := blk6 hz2
      have HX := Lib.hid hX; have HR2 := Lib.hid hR2; have HZ2 := Lib.hid hz2; have HC2 := Lib.hid ((Chg.of_below (oneW_below W g) (fun k => k = g)).trans hc2 (fun k e => .inl e))
      clear hX hR2 hz2 hc2
      unfold exAgg
      go_wp2
      obtain ⟨e1, e2, e3, e4⟩ := ex_end HZ2.out (by omega) hgW HX.out (by simp) HR2.out HC2.out
      obtain ⟨r0, r1, r2, r3, r4, r5, rf⟩ := blk6 e4
      refine bodyPost_ret (v := exAgg p.1 (.slice A2 p.1.f1.length c2)) (by simp [results, Tryz.results68, go_sem, r0, r1, r2, r3, r4, r5]) rfl ?_
      exact Outs.mk_ok (b := p) rfl ⟨_, rfl, e1, e2⟩ e3
  · have HN1 := Lib.hid (HN.out 90 (by rw [if_neg (by rw [h1]; simp)]))
    have HI1 := Lib.hid (HI.out sNot)
    have HI2 := Lib.hid (HI.out sOpen)
    rw [h1] at HI1
    rw [h2] at HI2
    clear h1 h2 HN HI
    cases res with
    | error p =>
      go_enter Tryz.func68, Tryz.ntmps68
      go_wp2_with fail
      refine HI1.out.mono ?_
      rintro e W1 ⟨rfl, rfl⟩
      go_wp2_with fail
      refine HI2.out.mono ?_
      rintro e W1 ⟨rfl, rfl⟩
      go_wp2_with fail
      refine HN1.out.mono ?_
      rintro e W2 h
      obtain ⟨rfl, hc2⟩ := h.err rfl
      go_wp2
      exact ⟨rfl, Outs.mk_err rfl rfl ((Chg.of_below (oneW_below W g) (fun k => k = g)).trans hc2 (fun k e => .inl e))⟩
    | ok p =>
      go_enter Tryz.func68, Tryz.ntmps68
      go_wp2_with fail
      refine HI1.out.mono ?_
      rintro e W1 ⟨rfl, rfl⟩
      go_wp2_with fail
      refine HI2.out.mono ?_
      rintro e W1 ⟨rfl, rfl⟩
      go_wp2_with fail
      refine HN1.out.mono ?_
      rintro e W2 h
      obtain ⟨⟨v, rfl, hX, hR2⟩, hc2⟩ := h.ok rfl
      obtain ⟨A2, c2, rfl⟩ := Kd.R_slice hX
      have hz2 := chg_block hc2 (oneW_zero W g) (by omega)
      obtain ⟨z0, z1, z2, z3, z4, z5, zf⟩ := blk6 hz2
      have HX := Lib.hid hX; have HR2 := Lib.hid hR2; have HZ2 := Lib.hid hz2; have HC2 := Lib.hid ((Chg.of_below (oneW_below W g) (fun k => k = g)).trans hc2 (fun k e => .inl e))
      clear hX hR2 hz2 hc2
      unfold exAgg
      go_wp2
      obtain ⟨e1, e2, e3, e4⟩ := ex_end HZ2.out (by omega) hgW HX.out (by simp) HR2.out HC2.out
      obtain ⟨r0, r1, r2, r3, r4, r5, rf⟩ := blk6 e4
      refine bodyPost_ret (v := exAgg p.1 (.slice A2 p.1.f1.length c2)) (by simp [results, Tryz.results68, go_sem, r0, r1, r2, r3, r4, r5]) rfl ?_
      exact Outs.mk_ok (b := p) rfl ⟨_, rfl, e1, e2⟩ e3
end Go.Proofs.YtlmopoipjolbgaaGreatDoor.LexW
namespace Go.Proofs.YtlmopoipjolbgaaGreatDoor.LexW
open Go.RowKit Go.Shelf Go.Proofs.YtlmopoipjolbgaaGreatDoor.LexS Go.Proofs.YtlmopoipjolbgaaGreatDoorW.PrintWords
set_option linter.unusedVariables false
set_option linter.unusedSimpArgs false

theorem fields_blk {w : World} {B : Nat} (h : w.heap[B]? = some (.cells (fieldsT.map Value.string).toArray 9 (0, 0))) (i : Nat) (hi : i < 7) : w.cell? ⟨B, i, none⟩ = some (.string (fieldsT.getD i nil0)) := by
  match i, hi with
  | 0, _ | 1, _ | 2, _ | 3, _ | 4, _ | 5, _ | 6, _ => simp [World.cell?, h, fieldsT]
theorem fidx_none {t : Tk} (h : ∀ j, j < 7 → isT (fieldsT.getD j nil0) t = false) : fieldsT.findIdx? (fun x => isT x t) = none := by
  rw [List.findIdx?_eq_none_iff]
  intro y hy
  obtain ⟨j, hj, rfl⟩ := List.getElem_of_mem hy
  have := h j hj
  simpa [List.getD_eq_getElem?_getD, List.getElem?_eq_getElem hj] using this
theorem fidx_some {t : Tk} {i : Nat} (hi : i < 7) (h : ∀ j, j < i → isT (fieldsT.getD j nil0) t = false) (hx : isT (fieldsT.getD i nil0) t = true) : fieldsT.findIdx? (fun x => isT x t) = some i := by
  have hlen : fieldsT.length = 7 := rfl
  rw [List.findIdx?_eq_some_iff_getElem]
  refine ⟨by omega, by simpa [List.getD_eq_getElem?_getD, List.getElem?_eq_getElem (show i < fieldsT.length by omega)] using hx, fun j hj => ?_⟩
  have := h j hj
  simpa [List.getD_eq_getElem?_getD, List.getElem?_eq_getElem (show j < fieldsT.length by omega)] using this

set_option maxRecDepth 100000 in
set_option maxHeartbeats 2000000 in
theorem one_atom (s : ByteArray) (ep : EP) (g : Nat) (L : List Tk) (d : Int) (w0 W : World) (hO : Okw w0 g W) (hR : Rdr s ep g L d W) (h1 : isT sNot (hdT L) = false) (h2 : isT sOpen (hdT L) = false) :
    Calls Tryz.prog 68 #[.pointer (some ⟨g, 0, none⟩)] W (Outs g W (atomP ep L) (ExOut s ep g d W.heap.size)) := by
  have hgW := hR.lt
  have hc := (oneW_held W g).cell
  have HI1 := Lib.hid (is_any s ep g L d sNot (oneW W g) (hR.below (oneW_below W g)))
  have HI2 := Lib.hid (is_any s ep g L d sOpen (oneW W g) (hR.below (oneW_below W g)))
  have HMT := Lib.hid (maybe_any s ep g L d sTrue w0 (oneW W g) (hO.below (oneW_below W g)) (hR.below (oneW_below W g)))
  rw [h1] at HI1
  rw [h2] at HI2
  have HO := Lib.hid hO
  clear h1 h2 hO hR
  cases ht : isT sTrue (hdT L) with
  | true =>
    have hat : atomP ep L = bnd (stepP ep L) (fun L' => .ok (⟨1, [], 0, 0, 0, 0⟩, L')) := by unfold atomP; rw [if_pos ht]
    have hmt : maybeP ep sTrue L = bnd (stepP ep L) (fun L' => .ok (true, L')) := by unfold maybeP; rw [if_pos ht]
    rw [hmt] at HMT
    have HAT := Lib.hid hat
    clear hat hmt ht
    rcases hs : stepP ep L with p | L1
    · rw [hs] at HMT
      have HSE := Lib.hid hs; clear hs
      go_enter Tryz.func68, Tryz.ntmps68
      go_wp2_with fail
      refine HI1.out.mono ?_
      rintro e W1 ⟨rfl, rfl⟩
      go_wp2_with fail
      refine HI2.out.mono ?_
      rintro e W1 ⟨rfl, rfl⟩
      go_wp2_with fail
      refine HMT.out.mono ?_
      rintro e W2 h
      obtain ⟨rfl, hc2⟩ := h.err rfl
      go_wp2
      exact ⟨rfl, Outs.mk_err (by rw [HAT.out, HSE.out]; rfl) rfl ((Chg.of_below (oneW_below W g) (fun k => k = g)).trans hc2 (fun k e => .inl e))⟩
    · rw [hs] at HMT
      have HSE := Lib.hid hs; clear hs
      go_enter Tryz.func68, Tryz.ntmps68
      go_wp2_with fail
      refine HI1.out.mono ?_
      rintro e W1 ⟨rfl, rfl⟩
      go_wp2_with fail
      refine HI2.out.mono ?_
      rintro e W1 ⟨rfl, rfl⟩
      go_wp2_with fail
      refine HMT.out.mono ?_
      rintro e W2 h
      obtain ⟨⟨rfl, hR2⟩, hc2⟩ := h.ok (b := (true, L1)) rfl
      have hz2 := chg_block hc2 (oneW_zero W g) (by omega)
      have hs2 := hc2.size
      obtain ⟨z0, z1, z2, z3, z4, z5, zf⟩ := blk6 hz2
      have HR2 := Lib.hid hR2; have HZ2 := Lib.hid hz2; have HC2 := Lib.hid ((Chg.of_below (oneW_below W g) (fun k => k = g)).trans hc2 (fun k e => .inl e))
      clear hR2 hz2 hc2
      go_wp2
      obtain ⟨e1, e2, e3, e4⟩ := ex_end (x := ⟨1, [], 0, 0, 0, 0⟩) (v := .slice none 0 0) (base := W.heap.size + 2) HZ2.out (by omega) hgW (Kd.R_nil _ _ _ _ _) (by omega) HR2.out HC2.out
      obtain ⟨r0, r1, r2, r3, r4, r5, rf⟩ := blk6 e4
      refine bodyPost_ret (v := exAgg ⟨1, [], 0, 0, 0, 0⟩ (.slice none 0 0)) (by simp [results, Tryz.results68, go_sem, r0, r1, r2, r3, r4, r5]) rfl ?_
      exact Outs.mk_ok (b := (⟨1, [], 0, 0, 0, 0⟩, L1)) (by rw [HAT.out, HSE.out]; rfl) ⟨_, rfl, e1, e2⟩ e3
  | false =>
    have hat : atomP ep L = if isT sFalse (hdT L) then bnd (stepP ep L) (fun L' => .ok (⟨2, [], 0, 0, 0, 0⟩, L')) else match fieldsT.findIdx? (fun x => isT x (hdT L)) with | some i => testP ep i L | none => .error (badP 61 L) := by unfold atomP; rw [if_neg (by rw [ht]; simp)]; rfl
    have hmt : maybeP ep sTrue L = .ok (false, L) := by unfold maybeP; rw [if_neg (by rw [ht]; simp)]
    rw [hmt] at HMT
    have HAT := Lib.hid hat
    clear hat hmt ht
    go_enter Tryz.func68, Tryz.ntmps68
    go_wp2_with fail
    refine HI1.out.mono ?_
    rintro e W1 ⟨rfl, rfl⟩
    go_wp2_with fail
    refine HI2.out.mono ?_
    rintro e W1 ⟨rfl, rfl⟩
    go_wp2_with fail
    refine HMT.out.mono ?_
    rintro e W2 h
    obtain ⟨⟨rfl, hR2⟩, hc2⟩ := h.ok (b := (false, L)) rfl
    have hz2 := chg_block hc2 (oneW_zero W g) (by omega)
    have hH2 := (oneW_held W g).chg hc2 (by omega)
    have hs2 : W.heap.size + 2 ≤ W2.heap.size := by have := hc2.size; rw [oneW_size] at this; exact this
    have hC2 := (Chg.of_below (oneW_below W g) (fun k => k = g)).trans hc2 (fun k e => .inl e)
    have hO2 := HO.out.chg hC2
    have hcell := hH2.cell
    have HMF := Lib.hid (maybe_any s ep g L d sFalse w0 W2 hO2 hR2)
    have HO2 := Lib.hid hO2; have HZ2 := Lib.hid hz2; have HC2 := Lib.hid hC2; have HH2 := Lib.hid hH2
    clear hc2 hR2 hz2 hC2 hO2 hH2 hc
    cases hf : isT sFalse (hdT L) with
    | true =>
      have hmf : maybeP ep sFalse L = bnd (stepP ep L) (fun L' => .ok (true, L')) := by unfold maybeP; rw [if_pos hf]
      rw [hmf] at HMF
      have HATT : Hid (atomP ep L = bnd (stepP ep L) (fun L' => .ok (⟨2, [], 0, 0, 0, 0⟩, L'))) := Lib.hid (by rw [HAT.out, if_pos hf])
      clear hmf hf
      rcases hs : stepP ep L with p | L1
      · rw [hs] at HMF
        have HSE := Lib.hid hs; clear hs
        go_wp2_with fail
        refine HMF.out.mono ?_
        rintro e W3 h
        obtain ⟨rfl, hc3⟩ := h.err rfl
        go_wp2
        exact ⟨rfl, Outs.mk_err (by rw [HATT.out, HSE.out]; rfl) rfl (HC2.out.trans hc3 (fun k e => .inl e))⟩
      · rw [hs] at HMF
        have HSE := Lib.hid hs; clear hs
        go_wp2_with fail
        refine HMF.out.mono ?_
        rintro e W3 h
        obtain ⟨⟨rfl, hR3⟩, hc3⟩ := h.ok (b := (true, L1)) rfl
        have hz3 := chg_block hc3 HZ2.out (by omega)
        obtain ⟨z0, z1, z2, z3, z4, z5, zf⟩ := blk6 hz3
        have HR3 := Lib.hid hR3; have HZ3 := Lib.hid hz3; have HC3 := Lib.hid (HC2.out.trans hc3 (fun k e => .inl e))
        clear hR3 hz3 hc3
        go_wp2
        obtain ⟨e1, e2, e3, e4⟩ := ex_end (x := ⟨2, [], 0, 0, 0, 0⟩) (v := .slice none 0 0) (base := W.heap.size + 2) HZ3.out (by omega) hgW (Kd.R_nil _ _ _ _ _) (by omega) HR3.out HC3.out
        obtain ⟨r0, r1, r2, r3, r4, r5, rf⟩ := blk6 e4
        refine bodyPost_ret (v := exAgg ⟨2, [], 0, 0, 0, 0⟩ (.slice none 0 0)) (by simp [results, Tryz.results68, go_sem, r0, r1, r2, r3, r4, r5]) rfl ?_
        exact Outs.mk_ok (b := (⟨2, [], 0, 0, 0, 0⟩, L1)) (by rw [HATT.out, HSE.out]; rfl) ⟨_, rfl, e1, e2⟩ e3
    | false =>
      have hmf : maybeP ep sFalse L = .ok (false, L) := by unfold maybeP; rw [if_neg (by rw [hf]; simp)]
      rw [hmf] at HMF
      have HATT : Hid (atomP ep L = match fieldsT.findIdx? (fun x => isT x (hdT L)) with | some i => testP ep i L | none => .error (badP 61 L)) := Lib.hid (by rw [HAT.out, if_neg (by rw [hf]; simp)])
      clear hmf hf
      go_wp2_with fail
      refine HMF.out.mono ?_
      rintro e W3 h
      obtain ⟨⟨rfl, hR3⟩, hc3⟩ := h.ok (b := (false, L)) rfl
      have hz3 := chg_block hc3 HZ2.out (by omega)
      have hH3 := HH2.out.chg hc3 (by omega)
      have hs3 : W.heap.size + 2 ≤ W3.heap.size := by have := hc3.size; omega
      have hC3 := HC2.out.trans hc3 (fun k e => .inl e)
      have hO3 := HO2.out.chg hc3
      have hb4 := (Below.refl W3.heap.size W3).alloc (Nat.le_refl _) fieldsObj
      have hq4 : (W3.alloc fieldsObj).heap[W3.heap.size]? = some (.cells (fieldsT.map Value.string).toArray 9 (0, 0)) := new_blk W3 _ _
      have hcell4 := (hH3.below hb4).cell
      have HZ4 := Lib.hid (blk_past fieldsObj hz3); have HC4 := Lib.hid (hC3.trans (Chg.of_below hb4 (fun k => k = g)) (fun k e => .inl e)); have HR4 := Lib.hid (hR3.below hb4); have HO4 := Lib.hid (hO3.below hb4); have HQ4 := Lib.hid hq4
      have hs4 : (W3.alloc fieldsObj).heap.size = W3.heap.size + 1 := by simp
      clear hc3 hR3 hz3 hH3 hC3 hO3 hb4 hq4 hcell
      go_wp2_with fail
      refine (fields_any W3).mono ?_
      rintro e W4 ⟨rfl, rfl⟩
      go_wp2
      show Code.wp _ _ _ _ (W3.alloc fieldsObj)
      generalize W3.alloc fieldsObj = W4 at *
      go_loopw [27] (fun vi wr => ∃ i : Nat, vi = .int .i64 i ∧ i ≤ 7 ∧ Hid (∀ j, j < i → isT (fieldsT.getD j nil0) (hdT L) = false) ∧ W4 = wr) (fun vi _ => 7 - (intOf vi).toNat)
      case atStart => exact ⟨0, rfl, by omega, Lib.hid (fun j h => absurd h (by omega)), rfl⟩
      case round =>
        obtain ⟨i, rfl, hi, HNE, rfl⟩ := hrel
        by_cases hlt : i < 7
        · have x0 := fields_blk HQ4.out i hlt
          have HI := Lib.hid (is_any s ep g L d (fieldsT.getD i nil0) W4 HR4.out)
          cases hb : isT (fieldsT.getD i nil0) (hdT L) with
          | false =>
            have HNE2 : Hid (∀ j, j < i + 1 → isT (fieldsT.getD j nil0) (hdT L) = false) := Lib.hid (fun j hj => by
              by_cases hji : j = i
              · subst hji; exact hb
              · exact HNE.out j (by omega))
            rw [hb] at HI
            clear hb
            go_wp2_with fail
            refine HI.out.mono ?_
            rintro e wr' ⟨rfl, rfl⟩
            go_wp2
            exact ⟨⟨i + 1, by go_num, by omega, HNE2, trivial⟩, by simp [intOf]; omega⟩
          | true =>
            have hat2 : atomP ep L = testP ep i L := by rw [HATT.out, fidx_some hlt HNE.out hb]
            have HT := Lib.hid (test_any s ep g L d i w0 W4 HO4.out HR4.out (isT_kind hb))
            have HAT2 := Lib.hid hat2
            rw [hb] at HI
            clear hb hat2
            rcases ht : testP ep i L with p | ⟨x, L2⟩
            · have HTE := Lib.hid ht; clear ht
              go_wp2_with fail
              refine HI.out.mono ?_
              rintro e wr' ⟨rfl, rfl⟩
              go_wp2_with fail
              refine HT.out.mono ?_
              rintro e W5 h
              obtain ⟨rfl, hc5⟩ := h.err HTE.out
              go_wp2
              exact ⟨rfl, Outs.mk_err (by rw [HAT2.out, HTE.out]) rfl (HC4.out.trans hc5 (fun k e => .inl e))⟩
            · have HTE := Lib.hid ht; clear ht
              go_wp2_with fail
              refine HI.out.mono ?_
              rintro e wr' ⟨rfl, rfl⟩
              go_wp2_with fail
              refine HT.out.mono ?_
              rintro e W5 h
              obtain ⟨⟨v, rfl, hX, hR5⟩, hc5⟩ := h.ok HTE.out
              obtain ⟨A5, c5, rfl⟩ := Kd.R_slice hX
              have hz5 := chg_block hc5 HZ4.out (by omega)
              obtain ⟨z0, z1, z2, z3, z4, z5, zf⟩ := blk6 hz5
              have HX := Lib.hid hX; have HR5 := Lib.hid hR5; have HZ5 := Lib.hid hz5; have HC5 := Lib.hid (HC4.out.trans hc5 (fun k e => .inl e))
              clear hX hR5 hz5 hc5
              unfold exAgg
              go_wp2
              obtain ⟨e1, e2, e3, e4⟩ := ex_end HZ5.out (by omega) hgW HX.out (by omega) HR5.out HC5.out
              obtain ⟨r0, r1, r2, r3, r4, r5, rf⟩ := blk6 e4
              refine bodyPost_ret (v := exAgg x (.slice A5 x.f1.length c5)) (by simp [results, Tryz.results68, go_sem, r0, r1, r2, r3, r4, r5]) rfl ?_
              exact Outs.mk_ok (b := (x, L2)) (by rw [HAT2.out, HTE.out]) ⟨_, rfl, e1, e2⟩ e3
        · obtain rfl : i = 7 := by omega
          have hat2 : atomP ep L = .error (badP 61 L) := by rw [HATT.out, fidx_none HNE.out]
          have HAT2 := Lib.hid hat2; clear hat2
          go_wp2_with fail
          refine (bad_any s ep g L d 61 W4 HR4.out).mono ?_
          rintro e W5 ⟨he, rfl⟩
          unfold panics at he
          subst he
          go_wp2
          exact ⟨rfl, Outs.mk_err HAT2.out rfl HC4.out⟩

/-- **one of the grammar, at whatever depth** -/
theorem one_any (s : ByteArray) (ep : EP) (g : Nat) (w0 : World) : ∀ k : Nat, k ≤ 64 → OneC s ep g w0 (64 - (k : Int)) (oneP ep k) := by
  intro k
  induction k with
  | zero =>
    intro hk L W hL hO hR
    have hd : (64 : Int) - ((0 : Nat) : Int) = 64 := by omega
    rw [hd] at hR ⊢
    cases hn : isT sNot (hdT L) with
    | true =>
      have hres : oneP ep 0 L = .error (badP 62 L) := by unfold oneP; rw [if_pos hn]
      rw [hres]
      refine one_nested s ep g L 64 w0 W _ hO hR (.inl hn) (fun f _ => ?_)
      refine (nested_deep s ep g L w0 (oneW W g) _ (hO.below (oneW_below W g)) (hR.below (oneW_below W g))).mono ?_
      rintro e W' ⟨rfl, hc⟩
      exact Outs.mk_err rfl rfl hc
    | false =>
      cases ho : isT sOpen (hdT L) with
      | true =>
        have hres : oneP ep 0 L = .error (badP 62 L) := by unfold oneP; rw [if_neg (by rw [hn]; simp), if_pos ho]
        rw [hres]
        refine one_nested s ep g L 64 w0 W _ hO hR (.inr ⟨hn, ho⟩) (fun f _ => ?_)
        refine (nested_deep s ep g L w0 (oneW W g) _ (hO.below (oneW_below W g)) (hR.below (oneW_below W g))).mono ?_
        rintro e W' ⟨rfl, hc⟩
        exact Outs.mk_err rfl rfl hc
      | false =>
        have hres : oneP ep 0 L = atomP ep L := by unfold oneP; rw [if_neg (by rw [hn]; simp), if_neg (by rw [ho]; simp)]
        rw [hres]
        exact one_atom s ep g L 64 w0 W hO hR hn ho
  | succ k ih =>
    intro hk L W hL hO hR
    have ih := ih (by omega)
    have hd : (64 : Int) - ((k + 1 : Nat) : Int) + 1 = 64 - (k : Int) := by omega
    have hgW := hR.lt
    cases hn : isT sNot (hdT L) with
    | true =>
      have hres : oneP ep (k + 1) L = bnd (stepP ep L) (notP (oneP ep k)) := by
        conv => lhs; unfold oneP
        rw [if_pos hn]; rfl
      rw [hres]
      refine one_nested s ep g L _ w0 W _ hO hR (.inl hn) (fun f hf => ?_)
      rw [if_pos hn] at hf
      subst hf
      exact nested_any enters_not s ep g W.heap.size L (64 - ((k + 1 : Nat) : Int)) w0 (oneW W g) (notP (oneP ep k)) (hO.below (oneW_below W g)) (hR.below (oneW_below W g)) (isT_kind hn) (oneW_held W g) (by omega) (by omega) (by omega)
        (fun L1 W1 h0 h1 h2 h3 => by rw [hd] at h2 ⊢; exact not_of s ep g W.heap.size L1 _ w0 W1 (oneP ep k) ih (Nat.le_trans h0 hL) h1 h2 h3)
    | false =>
      cases ho : isT sOpen (hdT L) with
      | true =>
        have hres : oneP ep (k + 1) L = bnd (stepP ep L) (openP ep (oneP ep k)) := by
          conv => lhs; unfold oneP
          rw [if_neg (by rw [hn]; simp), if_pos ho]; rfl
        rw [hres]
        refine one_nested s ep g L _ w0 W _ hO hR (.inr ⟨hn, ho⟩) (fun f hf => ?_)
        rw [if_neg (by rw [hn]; simp)] at hf
        subst hf
        exact nested_any enters_open s ep g W.heap.size L (64 - ((k + 1 : Nat) : Int)) w0 (oneW W g) (openP ep (oneP ep k)) (hO.below (oneW_below W g)) (hR.below (oneW_below W g)) (isT_kind ho) (oneW_held W g) (by omega) (by omega) (by omega)
          (fun L1 W1 h0 h1 h2 h3 => by rw [hd] at h2 ⊢; exact open_of s ep g W.heap.size L1 _ w0 W1 (oneP ep k) ih (oneP_shr ep k) (Nat.le_trans h0 hL) h1 h2 h3 (by omega))
      | false =>
        have hres : oneP ep (k + 1) L = atomP ep L := by
          conv => lhs; unfold oneP
          rw [if_neg (by rw [hn]; simp), if_neg (by rw [ho]; simp)]
        rw [hres]
        exact one_atom s ep g L _ w0 W hO hR hn ho
end Go.Proofs.YtlmopoipjolbgaaGreatDoor.LexW
namespace Go.Proofs.YtlmopoipjolbgaaGreatDoor.LexW
open Go.RowKit Go.Shelf Go.Proofs.YtlmopoipjolbgaaGreatDoor.LexS Go.Proofs.YtlmopoipjolbgaaGreatDoorW.PrintWords
set_option linter.unusedVariables false
set_option linter.unusedSimpArgs false

def ClRow (W : World) (base : Nat) (v : Value) (l : List Cl) : Prop := kCl.R 74 W base (fun _ => True) v l
theorem ClRow.chg {S : Nat → Prop} {W W' : World} {base : Nat} {v : Value} {l : List Cl} (h : ClRow W base v l) (hc : Chg S W W') (hS : ∀ k, S k → k < base) : ClRow W' base v l :=
  Kd.R_mono (Kd.R_move (Kd.R_bound h) (fun k hk => hc.block k hk.2.2.1 (fun e => by have := hS k e; have := hk.2.1; omega))) (fun _ _ => trivial)
theorem ClRow.lower {W : World} {base base' : Nat} {v : Value} {l : List Cl} (h : ClRow W base v l) (hb : base' ≤ base) : ClRow W base' v l := Kd.R_lower h hb
theorem ClRow.below {W W' : World} {base : Nat} {v : Value} {l : List Cl} (h : ClRow W base v l) (hb : Below W.heap.size W W') : ClRow W' base v l := Kd.R_below h hb
theorem infoCl : (Tryz.prog.info? 74).map (fun i => (i.zero, i.size, i.bytes)) = some (some (.agg #[.string ⟨#[]⟩, .int .u64 0]), kCl.sz, 24) := by kernel_rfl
abbrev clCells (x : Cl) : List Value := [.string x.f0, .int .u64 x.f1]
theorem cl_one {W : World} {base : Nat} {x : Cl} (hbW : base ≤ W.heap.size) : ClRow (W.alloc (.cells (clCells x).toArray 74)) base (.slice (some ⟨W.heap.size, 0, none⟩) 1 1) [x] := by
  refine ⟨fun _ _ => trivial, clCells x, ⟨rfl, .inr ⟨W.heap.size, 1, (clCells x).toArray, rfl, hbW, new_blk W _ _, Nat.le_refl _, by unfold maxLen; omega, rfl, rfl⟩⟩, rfl, fun j p hj => ?_⟩
  have hj0 : j = 0 := by
    have := (List.getElem?_eq_some_iff.1 hj).1
    simpa using this
  subst hj0
  obtain rfl : x = p := by simpa using hj
  exact kCl_mkM _ _ _ x
def ClRowOut (s : ByteArray) (ep : EP) (g : Nat) (d : Int) (base : Nat) (p : List Cl × List Tk) (e : Ending) (W' : World) : Prop := ∃ v, e = .returned v ∧ ClRow W' base v p.1 ∧ Rdr s ep g p.2 d W'

set_option maxRecDepth 100000 in
set_option maxHeartbeats 2000000 in
theorem callTurns_any {f m : Nat} (he : Enters Tryz.prog f) (hem : Enters Tryz.prog m) (s : ByteArray) (ep : EP) (g b : Nat) (L : List Tk) (d : Int) (w0 W : World) (one : List Tk → Rd Cl) (sep : ByteArray) (fv q : Value) (hfv : fv = .func (.func f) #[q] #[] ∨ fv = .func (.func f) #[] #[q]) (hL : L.length ≤ 65537) (hsh : Shr one) (hO : Okw w0 g W) (hR : Rdr s ep g L d W) (hH : Held W b g) (hbg : b ≠ g)
    (hone : ∀ L1 W1, L1.length ≤ 65537 → Okw w0 g W1 → Rdr s ep g L1 d W1 → Held W1 b g → Calls Tryz.prog f #[q] W1 (Outs g W1 (one L1) (ClOut s ep g d)))
    (hmore : ∀ L1 W1, Okw w0 g W1 → Rdr s ep g L1 d W1 → Held W1 b g → Calls Tryz.prog m #[.pointer (some ⟨b, 0, none⟩)] W1 (Outs g W1 (maybeP ep sep L1) (BoolOut s ep g d))) :
    Calls Tryz.prog 84 #[fv, .func (.func m) #[] #[.pointer (some ⟨b, 0, none⟩)]] W (Outs g W (turnsP ep one sep L) (ClRowOut s ep g d W.heap.size)) := by
  have hgW := hR.lt
  have HO := Lib.hid hO; have HH := Lib.hid hH; have HONE := Lib.hid hone; have HMORE := Lib.hid hmore; have HSH := Lib.hid hsh
  have HD := Lib.hid (hone L W hL hO hR hH)
  have heg : ∀ (args : Array Value) (w : World), (callFunc f args).run Tryz.prog w = .ok (.enter f args) w := he
  have hem' : ∀ (args : Array Value) (w : World), (callFunc m args).run Tryz.prog w = .ok (.enter m args) w := hem
  clear hO hR hH hone hmore he hem hsh
  rcases h1 : one L with p | ⟨x, L1⟩
  · have H1 := Lib.hid h1; clear h1
    rcases hfv with rfl | rfl
    all_goals
      go_enter Tryz.func84, Tryz.ntmps84
      go_wp2_with fail
      refine HD.out.mono ?_
      rintro e W2 h
      obtain ⟨rfl, hc⟩ := h.err H1.out
      go_wp2
      exact ⟨rfl, Outs.mk_err (by unfold turnsP; rw [H1.out]; rfl) rfl hc⟩
  · have H1 := Lib.hid h1; clear h1
    have hl1 := HSH.out _ _ _ H1.out
    rcases hfv with rfl | rfl
    all_goals
      go_enter Tryz.func84, Tryz.ntmps84
      go_wp2_with fail
      refine HD.out.mono ?_
      rintro e W2 h
      obtain ⟨⟨rfl, hR2⟩, hc⟩ := h.ok H1.out
      have hs2 := hc.size
      have hrow := cl_one (x := x) hs2
      have hal := (Below.refl W2.heap.size W2).alloc (Nat.le_refl _) (.cells (clCells x).toArray 74)
      have HROW := Lib.hid hrow; have HR3 := Lib.hid (hR2.below hal); have HC3 := Lib.hid (hc.trans (Chg.of_below hal (fun k => k = g)) (fun k e => .inl e))
      clear hR2 hc hrow hal
      unfold clVal
      go_wp2_with fail
      obtain ⟨v0, hv0⟩ : ∃ v0, v0 = Value.slice (some ⟨W2.heap.size, 0, none⟩) 1 1 := ⟨_, rfl⟩
      rw [← hv0] at HROW ⊢
      show Code.wp _ _ _ _ (W2.alloc (.cells (clCells x).toArray 74))
      generalize W2.alloc (.cells (clCells x).toArray 74) = W3 at *
      clear hv0
      have hturn : turnsP ep one sep L = moreP ep one sep (L1.length + 1) [x] L1 := by unfold turnsP; rw [H1.out]; rfl
      have HT := Lib.hid hturn; clear hturn
      go_loopg [5] (L1.length + 1) (fun n vl wr => ∃ (l : List Cl) (L4 : List Tk), Hid (turnsP ep one sep L = moreP ep one sep n l L4) ∧ L4.length < n ∧ l.length + L4.length ≤ 65538 ∧ L4.length ≤ 65537 ∧ Hid (ClRow wr W.heap.size vl l) ∧ Hid (Rdr s ep g L4 d wr) ∧ Hid (Chg (fun k => k = g) W wr))
      case atStart => exact ⟨[x], L1, HT, by omega, by simp; omega, by omega, HROW, HR3, HC3⟩
      case round =>
        clear HROW HR3 HC3 HT
        obtain ⟨l, L4, HT, hn, hl, hl4, HROW, HR4, HC4⟩ := hrel
        obtain ⟨n, rfl⟩ : ∃ n, gk = n + 1 := ⟨gk - 1, by omega⟩
        have hun : moreP ep one sep (n + 1) l L4 = bnd (maybeP ep sep L4) (fun p => if p.1 = true then bnd (one p.2) (fun q => moreP ep one sep n (l ++ [q.1]) q.2) else .ok (l, p.2)) := rfl
        have HUN := Lib.hid hun; clear hun
        have HOr := Lib.hid (HO.out.chg HC4.out); have HHr := Lib.hid (HH.out.chg HC4.out hbg)
        have HM := Lib.hid (HMORE.out L4 wr HOr.out HR4.out HHr.out)
        have hwr := HC4.out.size
        rcases hm : maybeP ep sep L4 with p | ⟨t, L5⟩
        · have HMM := Lib.hid hm; clear hm
          go_wp2_with fail
          refine HM.out.mono ?_
          rintro e W5 h
          obtain ⟨rfl, hc⟩ := h.err HMM.out
          go_wp2
          exact ⟨rfl, Outs.mk_err (by rw [HT.out, HUN.out, HMM.out]; rfl) rfl (HC4.out.trans hc (fun k e => .inl e))⟩
        · have hl5 := maybeP_shr hm
          have HMM := Lib.hid hm; clear hm
          cases t with
          | false =>
            go_wp2_with fail
            refine HM.out.mono ?_
            rintro e W5 h
            obtain ⟨⟨rfl, hR5⟩, hc⟩ := h.ok HMM.out
            obtain ⟨A5, c5, rfl⟩ := Kd.R_slice HROW.out
            have HR5 := Lib.hid hR5; have HC5 := Lib.hid hc; clear hR5 hc
            go_wp2
            go_ret
            exact Outs.mk_ok (b := (l, L5)) (by rw [HT.out, HUN.out, HMM.out]; rfl) ⟨_, rfl, HROW.out.chg HC5.out (fun k e => by omega), HR5.out⟩ (HC4.out.trans HC5.out (fun k e => .inl e))
          | true =>
            have hl5' := hl5.2 rfl
            clear hl5
            go_wp2_with fail
            refine HM.out.mono ?_
            rintro e W5 h
            obtain ⟨⟨rfl, hR5⟩, hc⟩ := h.ok HMM.out
            have hs5 := hc.size
            have hc5 := HC4.out.trans hc (fun k e => .inl e)
            have HD5 := Lib.hid (HONE.out L5 W5 (by omega) (HOr.out.chg hc) hR5 (HHr.out.chg hc hbg))
            have HROW5 := Lib.hid (HROW.out.chg hc (fun k e => by omega)); have HC5 := Lib.hid hc5
            clear hR5 hc hc5
            rcases h5 : one L5 with p | ⟨y, L6⟩
            · have H5 := Lib.hid h5; clear h5
              go_wp2_with fail
              refine HD5.out.mono ?_
              rintro e W6 h
              obtain ⟨rfl, hc⟩ := h.err H5.out
              go_wp2
              exact ⟨rfl, Outs.mk_err (by rw [HT.out, HUN.out, HMM.out]; show bnd (one L5) _ = _; rw [H5.out]; rfl) rfl (HC5.out.trans hc (fun k e => .inl e))⟩
            · have H5 := Lib.hid h5; clear h5
              have hl6 := HSH.out _ _ _ H5.out
              go_wp2_with fail
              refine HD5.out.mono ?_
              rintro e W6 h
              obtain ⟨⟨rfl, hR6⟩, hc⟩ := h.ok H5.out
              have hs6 := hc.size
              have HROW6 := Lib.hid (HROW5.out.chg hc (fun k e => by omega)); have HX6 := Lib.hid (kCl_mkM W6 W.heap.size (fun _ => False) y); have HR6 := Lib.hid hR6; have HC6 := Lib.hid (HC5.out.trans hc (fun k e => .inl e))
              have hvlt : ∀ k, u5.ownBlock = some k → k < W5.heap.size := fun k hk => by
                obtain ⟨inner, ho⟩ := Kd.R_own HROW5.out
                exact own_lt ho k hk
              have HVLT := Lib.hid hvlt
              clear hR6 hc hvlt
              unfold clVal
              go_wp2_with (at_builtin; refine Kd.R_append kCl (w0 := W6) (W := W6) W.heap.size rfl (.tmp 11) (.tmp 14) 68 74 (.agg #[.string ⟨#[]⟩, .int .u64 0]) 24 rfl Tryz.underlying68 infoCl rfl (by decide) (by decide) u5 l y (clCells y) (fun _ => True) (fun _ => False) rfl (by go_simp) HX6.out (fun k hk => hk.elim) (fun _ _ => trivial) HROW6.out (Below.refl _ _) (by omega) (by omega) ?_; intro v7 w7 hO7 hb7 hg7 hat7)
              have HO7 := Lib.hid hO7
              clear hO7
              go_roundg n
              case measure => omega
              case rel =>
                refine ⟨l ++ [y], L6, Lib.hid (by rw [HT.out, HUN.out, HMM.out]; show bnd (one L5) _ = _; rw [H5.out]; rfl), by omega, by simp; omega, by omega, HO7, Lib.hid (HR6.out.belowB hb7 hgW), Lib.hid (HC6.out.trans (Chg.of_belowB hb7) (fun k e => .inr e))⟩
end Go.Proofs.YtlmopoipjolbgaaGreatDoor.LexW
