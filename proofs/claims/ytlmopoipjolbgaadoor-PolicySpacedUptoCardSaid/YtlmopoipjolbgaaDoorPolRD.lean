/-
  Layer 6 (policy): some calls, as long as one more follows.
-/
import Derived.Test.YtlmopoipjolbgaaDoorPolRC
namespace Go.Proofs.YtlmopoipjolbgaaDoor.LexW
open Go.RowKit Go.Shelf Go.Proofs.YtlmopoipjolbgaaDoor.LexS Go.Proofs.YtlmopoipjolbgaaDoorW.PrintWords
set_option linter.unusedVariables false
set_option linter.unusedSimpArgs false

def ClRow (W : World) (base : Nat) (v : Value) (l : List Cl) : Prop := kCl.R 86 W base (fun _ => True) v l
theorem ClRow.chg {S : Nat → Prop} {W W' : World} {base : Nat} {v : Value} {l : List Cl} (h : ClRow W base v l) (hc : Chg S W W') (hS : ∀ k, S k → k < base) : ClRow W' base v l :=
  Kd.R_mono (Kd.R_move (Kd.R_bound h) (fun k hk => hc.block k hk.2.2.1 (fun e => by have := hS k e; have := hk.2.1; omega))) (fun _ _ => trivial)
theorem ClRow.lower {W : World} {base base' : Nat} {v : Value} {l : List Cl} (h : ClRow W base v l) (hb : base' ≤ base) : ClRow W base' v l := Kd.R_lower h hb
theorem ClRow.below {W W' : World} {base : Nat} {v : Value} {l : List Cl} (h : ClRow W base v l) (hb : Below W.heap.size W W') : ClRow W' base v l := Kd.R_below h hb
theorem infoCl : (Tryd.prog.info? 86).map (fun i => (i.zero, i.size, i.bytes)) = some (some (.agg #[.string ⟨#[]⟩, .int .u64 0]), kCl.sz, 24) := by kernel_rfl
abbrev clCells (x : Cl) : List Value := [.string x.f0, .int .u64 x.f1]
theorem cl_one {W : World} {base : Nat} {x : Cl} (hbW : base ≤ W.heap.size) : ClRow (W.alloc (.cells (clCells x).toArray 86)) base (.slice (some ⟨W.heap.size, 0, none⟩) 1 1) [x] := by
  refine ⟨fun _ _ => trivial, clCells x, ⟨rfl, .inr ⟨W.heap.size, 1, (clCells x).toArray, rfl, hbW, new_blk W _ _, Nat.le_refl _, by unfold maxLen; omega, rfl, rfl⟩⟩, rfl, fun j p hj => ?_⟩
  have hj0 : j = 0 := by
    have := (List.getElem?_eq_some_iff.1 hj).1
    simpa using this
  subst hj0
  obtain rfl : x = p := by simpa using hj
  exact kCl_mkM _ _ _ x
def ClRowOut (s : ByteArray) (ep : EP) (g : Nat) (d : Int) (base : Nat) (p : List Cl × List Tk) (e : Ending) (W' : World) : Prop := ∃ v, e = .returned v ∧ ClRow W' base v p.1 ∧ Rdr s ep g p.2 d W'

set_option maxRecDepth 100000 in
set_option maxHeartbeats 2000000 in
theorem callTurns_any {f m : Nat} (he : Enters Tryd.prog f) (hem : Enters Tryd.prog m) (s : ByteArray) (ep : EP) (g b : Nat) (L : List Tk) (d : Int) (w0 W : World) (one : List Tk → Rd Cl) (sep : ByteArray) (fv q : Value) (hfv : fv = .func (.func f) #[q] #[] ∨ fv = .func (.func f) #[] #[q]) (hL : L.length ≤ 65537) (hsh : Shr one) (hO : Okw w0 g W) (hR : Rdr s ep g L d W) (hH : Held W b g) (hbg : b ≠ g)
    (hone : ∀ L1 W1, L1.length ≤ 65537 → Okw w0 g W1 → Rdr s ep g L1 d W1 → Held W1 b g → Calls Tryd.prog f #[q] W1 (Outs g W1 (one L1) (ClOut s ep g d)))
    (hmore : ∀ L1 W1, Okw w0 g W1 → Rdr s ep g L1 d W1 → Held W1 b g → Calls Tryd.prog m #[.pointer (some ⟨b, 0, none⟩)] W1 (Outs g W1 (maybeP ep sep L1) (BoolOut s ep g d))) :
    Calls Tryd.prog 82 #[fv, .func (.func m) #[] #[.pointer (some ⟨b, 0, none⟩)]] W (Outs g W (turnsP ep one sep L) (ClRowOut s ep g d W.heap.size)) := by
  have hgW := hR.lt
  have HO := Lib.hid hO; have HH := Lib.hid hH; have HONE := Lib.hid hone; have HMORE := Lib.hid hmore; have HSH := Lib.hid hsh
  have HD := Lib.hid (hone L W hL hO hR hH)
  have heg : ∀ (args : Array Value) (w : World), (callFunc f args).run Tryd.prog w = .ok (.enter f args) w := he
  have hem' : ∀ (args : Array Value) (w : World), (callFunc m args).run Tryd.prog w = .ok (.enter m args) w := hem
  clear hO hR hH hone hmore he hem hsh
  rcases h1 : one L with p | ⟨x, L1⟩
  · have H1 := Lib.hid h1; clear h1
    rcases hfv with rfl | rfl
    all_goals
      go_enter Tryd.func82, Tryd.ntmps82
      go_wp2_with fail
      refine HD.out.mono ?_
      rintro e W2 h
      obtain ⟨rfl, hc⟩ := h.err H1.out
      go_wp2
      exact ⟨rfl, Outs.mk_err (by unfold turnsP; rw [H1.out]; rfl) rfl hc⟩
  · have H1 := Lib.hid h1; clear h1
    have hl1 := HSH.out _ _ _ H1.out
    rcases hfv with rfl | rfl
    all_goals
      go_enter Tryd.func82, Tryd.ntmps82
      go_wp2_with fail
      refine HD.out.mono ?_
      rintro e W2 h
      obtain ⟨⟨rfl, hR2⟩, hc⟩ := h.ok H1.out
      have hs2 := hc.size
      have hrow := cl_one (x := x) hs2
      have hal := (Below.refl W2.heap.size W2).alloc (Nat.le_refl _) (.cells (clCells x).toArray 86)
      have HROW := Lib.hid hrow; have HR3 := Lib.hid (hR2.below hal); have HC3 := Lib.hid (hc.trans (Chg.of_below hal (fun k => k = g)) (fun k e => .inl e))
      clear hR2 hc hrow hal
      unfold clVal
      go_wp2_with fail
      obtain ⟨v0, hv0⟩ : ∃ v0, v0 = Value.slice (some ⟨W2.heap.size, 0, none⟩) 1 1 := ⟨_, rfl⟩
      rw [← hv0] at HROW ⊢
      show Code.wp _ _ _ _ (W2.alloc (.cells (clCells x).toArray 86))
      generalize W2.alloc (.cells (clCells x).toArray 86) = W3 at *
      clear hv0
      have hturn : turnsP ep one sep L = moreP ep one sep (L1.length + 1) [x] L1 := by unfold turnsP; rw [H1.out]; rfl
      have HT := Lib.hid hturn; clear hturn
      go_loopg [5] (L1.length + 1) (fun n vl wr => ∃ (l : List Cl) (L4 : List Tk), Hid (turnsP ep one sep L = moreP ep one sep n l L4) ∧ L4.length < n ∧ l.length + L4.length ≤ 65538 ∧ L4.length ≤ 65537 ∧ Hid (ClRow wr W.heap.size vl l) ∧ Hid (Rdr s ep g L4 d wr) ∧ Hid (Chg (fun k => k = g) W wr))
      case atStart => exact ⟨[x], L1, HT, by omega, by simp; omega, by omega, HROW, HR3, HC3⟩
      case round =>
        clear HROW HR3 HC3 HT
        obtain ⟨l, L4, HT, hn, hl, hl4, HROW, HR4, HC4⟩ := hrel
        obtain ⟨n, rfl⟩ : ∃ n, gk = n + 1 := ⟨gk - 1, by omega⟩
        have hun : moreP ep one sep (n + 1) l L4 = bnd (maybeP ep sep L4) (fun p => if p.1 = true then bnd (one p.2) (fun q => moreP ep one sep n (l ++ [q.1]) q.2) else .ok (l, p.2)) := rfl
        have HUN := Lib.hid hun; clear hun
        have HOr := Lib.hid (HO.out.chg HC4.out); have HHr := Lib.hid (HH.out.chg HC4.out hbg)
        have HM := Lib.hid (HMORE.out L4 wr HOr.out HR4.out HHr.out)
        have hwr := HC4.out.size
        rcases hm : maybeP ep sep L4 with p | ⟨t, L5⟩
        · have HMM := Lib.hid hm; clear hm
          go_wp2_with fail
          refine HM.out.mono ?_
          rintro e W5 h
          obtain ⟨rfl, hc⟩ := h.err HMM.out
          go_wp2
          exact ⟨rfl, Outs.mk_err (by rw [HT.out, HUN.out, HMM.out]; rfl) rfl (HC4.out.trans hc (fun k e => .inl e))⟩
        · have hl5 := maybeP_shr hm
          have HMM := Lib.hid hm; clear hm
          cases t with
          | false =>
            go_wp2_with fail
            refine HM.out.mono ?_
            rintro e W5 h
            obtain ⟨⟨rfl, hR5⟩, hc⟩ := h.ok HMM.out
            obtain ⟨A5, c5, rfl⟩ := Kd.R_slice HROW.out
            have HR5 := Lib.hid hR5; have HC5 := Lib.hid hc; clear hR5 hc
            go_wp2
            go_ret
            exact Outs.mk_ok (b := (l, L5)) (by rw [HT.out, HUN.out, HMM.out]; rfl) ⟨_, rfl, HROW.out.chg HC5.out (fun k e => by omega), HR5.out⟩ (HC4.out.trans HC5.out (fun k e => .inl e))
          | true =>
            have hl5' := hl5.2 rfl
            clear hl5
            go_wp2_with fail
            refine HM.out.mono ?_
            rintro e W5 h
            obtain ⟨⟨rfl, hR5⟩, hc⟩ := h.ok HMM.out
            have hs5 := hc.size
            have hc5 := HC4.out.trans hc (fun k e => .inl e)
            have HD5 := Lib.hid (HONE.out L5 W5 (by omega) (HOr.out.chg hc) hR5 (HHr.out.chg hc hbg))
            have HROW5 := Lib.hid (HROW.out.chg hc (fun k e => by omega)); have HC5 := Lib.hid hc5
            clear hR5 hc hc5
            rcases h5 : one L5 with p | ⟨y, L6⟩
            · have H5 := Lib.hid h5; clear h5
              go_wp2_with fail
              refine HD5.out.mono ?_
              rintro e W6 h
              obtain ⟨rfl, hc⟩ := h.err H5.out
              go_wp2
              exact ⟨rfl, Outs.mk_err (by rw [HT.out, HUN.out, HMM.out]; show bnd (one L5) _ = _; rw [H5.out]; rfl) rfl (HC5.out.trans hc (fun k e => .inl e))⟩
            · have H5 := Lib.hid h5; clear h5
              have hl6 := HSH.out _ _ _ H5.out
              go_wp2_with fail
              refine HD5.out.mono ?_
              rintro e W6 h
              obtain ⟨⟨rfl, hR6⟩, hc⟩ := h.ok H5.out
              have hs6 := hc.size
              have HROW6 := Lib.hid (HROW5.out.chg hc (fun k e => by omega)); have HX6 := Lib.hid (kCl_mkM W6 W.heap.size (fun _ => False) y); have HR6 := Lib.hid hR6; have HC6 := Lib.hid (HC5.out.trans hc (fun k e => .inl e))
              have hvlt : ∀ k, u5.ownBlock = some k → k < W5.heap.size := fun k hk => by
                obtain ⟨inner, ho⟩ := Kd.R_own HROW5.out
                exact own_lt ho k hk
              have HVLT := Lib.hid hvlt
              clear hR6 hc hvlt
              unfold clVal
              go_wp2_with (at_builtin; refine Kd.R_append kCl (w0 := W6) (W := W6) W.heap.size rfl (.tmp 11) (.tmp 14) 82 86 (.agg #[.string ⟨#[]⟩, .int .u64 0]) 24 rfl Tryd.underlying82 infoCl rfl (by decide) (by decide) u5 l y (clCells y) (fun _ => True) (fun _ => False) rfl (by go_simp) HX6.out (fun k hk => hk.elim) (fun _ _ => trivial) HROW6.out (Below.refl _ _) (by omega) (by omega) ?_; intro v7 w7 hO7 hb7 hg7 hat7)
              have HO7 := Lib.hid hO7
              clear hO7
              go_roundg n
              case measure => omega
              case rel =>
                refine ⟨l ++ [y], L6, Lib.hid (by rw [HT.out, HUN.out, HMM.out]; show bnd (one L5) _ = _; rw [H5.out]; rfl), by omega, by simp; omega, by omega, HO7, Lib.hid (HR6.out.belowB hb7 hgW), Lib.hid (HC6.out.trans (Chg.of_belowB hb7) (fun k e => .inr e))⟩
end Go.Proofs.YtlmopoipjolbgaaDoor.LexW
