/-
  Layer 6 (policy): the reader's small readers: bad, is, maybe, want, kind.
-/
import Derived.Test.YtlmopoipjolbgaaDoorPolR1
import Derived.BigQuiet
import Derived.Deep.QuietTactic
import Derived.WideShapes
namespace Go.Proofs.YtlmopoipjolbgaaDoor.LexW
open Go.RowKit Go.Shelf Go.Proofs.YtlmopoipjolbgaaDoor.LexS Go.Proofs.YtlmopoipjolbgaaDoorW.PrintWords
set_option linter.unusedVariables false
set_option linter.unusedSimpArgs false

/-- the place of what is wrong, where the reader stands -/
theorem bad_any (s : ByteArray) (ep : EP) (g : Nat) (L : List Tk) (d c : Int) (W : World) (hR : Rdr s ep g L d W) :
    Calls Tryd.prog 62 #[.pointer (some ⟨g, 0, none⟩), .int .i64 c] W fun e W' => e = panics (badP c L) ∧ W = W' := by
  obtain ⟨t, e, hB, rest, k, rfl, rfl, hT⟩ := hR
  obtain ⟨c0, c1, c2, c3, c4, c5, c6⟩ := rdb_cell hB
  clear hT hB
  go_enter Tryd.func62, Tryd.ntmps62
  go_wp2
  exact ⟨rfl, rfl, rfl⟩

set_option maxHeartbeats 1000000 in
/-- is the next one this word, or sign? -/
theorem is_any (s : ByteArray) (ep : EP) (g : Nat) (L : List Tk) (d : Int) (x : ByteArray) (W : World) (hR : Rdr s ep g L d W) :
    Calls Tryd.prog 61 #[.pointer (some ⟨g, 0, none⟩), .string x] W fun e W' => e = .returned (.bool (isT x (hdT L))) ∧ W = W' := by
  obtain ⟨t, e, hB, rest, k, rfl, rfl, hT⟩ := hR
  obtain ⟨c0, c1, c2, c3, c4, c5, c6⟩ := rdb_cell hB
  clear hT hB
  show Calls _ _ _ _ fun e W' => e = .returned (.bool (isT x t)) ∧ W = W'
  generalize hv : isT x t = v
  have HV := Lib.hid hv; clear hv
  unfold isT at HV
  by_cases h1 : t.text = x
  · subst h1
    by_cases h2 : t.kind = 3
    · have b2 : (t.kind != 3) = false := by rw [bne_eq_false_iff_eq]; exact h2
      have HV2 : Hid (v = false) := Lib.hid (by rw [← HV.out, b2]; simp)
      clear h2
      go_enter Tryd.func61, Tryd.ntmps61
      go_wp2
      go_ret
      exact ⟨by rw [HV2.out]; rfl, rfl⟩
    · have b2 : (t.kind != 3) = true := by rw [bne_iff_ne]; exact h2
      have HV2 : Hid (v = (t.kind != 1)) := Lib.hid (by rw [← HV.out, b2]; simp)
      clear h2
      go_enter Tryd.func61, Tryd.ntmps61
      go_wp2
      go_ret
      exact ⟨by rw [HV2.out]; rfl, rfl⟩
  · have b1 := fun (h : t.text.toList = x.toList) => h1 (WideShapes.bytes_inj (by rw [← Lib.toList_data, ← Lib.toList_data]; exact h))
    have HV2 : Hid (v = false) := Lib.hid (by rw [← HV.out, decide_eq_false h1]; simp)
    have b1' : (t.text.toList == x.toList) = false := by rw [beq_eq_false_iff_ne]; exact b1
    clear h1
    go_enter Tryd.func61, Tryd.ntmps61
    go_wp2
    go_ret
    exact ⟨by rw [HV2.out]; rfl, rfl⟩

/-- what a reader comes to: it returns, or gives up; nothing but the reader has turned -/
def Outs {β : Type} (g : Nat) (W : World) (r : Except EP β) (P : β → Ending → World → Prop) (e : Ending) (W' : World) : Prop := (match r with | .ok b => P b e W' | .error p => e = panics p) ∧ Chg (fun k => k = g) W W'
theorem Outs.ok {β : Type} {g : Nat} {W : World} {r : Except EP β} {P : β → Ending → World → Prop} {e : Ending} {W' : World} {b : β} (h : Outs g W r P e W') (hr : r = .ok b) : P b e W' ∧ Chg (fun k => k = g) W W' := by subst hr; exact h
theorem Outs.err {β : Type} {g : Nat} {W : World} {r : Except EP β} {P : β → Ending → World → Prop} {e : Ending} {W' : World} {p : EP} (h : Outs g W r P e W') (hr : r = .error p) : e = .panicked [{ v := wrongV p, recovered := false }] ∧ Chg (fun k => k = g) W W' := by subst hr; exact h
theorem Outs.mk_ok {β : Type} {g : Nat} {W : World} {r : Except EP β} {P : β → Ending → World → Prop} {e : Ending} {W' : World} {b : β} (hr : r = .ok b) (h : P b e W') (hc : Chg (fun k => k = g) W W') : Outs g W r P e W' := by subst hr; exact ⟨h, hc⟩
theorem Outs.mk_err {β : Type} {g : Nat} {W : World} {r : Except EP β} {P : β → Ending → World → Prop} {e : Ending} {W' : World} {p : EP} (hr : r = .error p) (h : e = panics p) (hc : Chg (fun k => k = g) W W') : Outs g W r P e W' := by subst hr; exact ⟨h, hc⟩

/-- the world in which a reader reads: the errors and tables lie at w0 -/
structure Okw (w0 : World) (g : Nat) (W : World) : Prop where
  env : Env w0
  hg : w0.heap.size ≤ g
  hb : Below w0.heap.size w0 W
theorem Okw.chg {w0 W W' : World} {g : Nat} (h : Okw w0 g W) (hc : Chg (fun k => k = g) W W') : Okw w0 g W' := ⟨h.env, h.hg, h.hb.trans (hc.below h.hb.size (fun k e => by have := h.hg; omega))⟩
theorem Okw.below {w0 W W' : World} {g : Nat} (h : Okw w0 g W) (hb : Below W.heap.size W W') : Okw w0 g W' := ⟨h.env, h.hg, h.hb.trans (hb.mono h.hb.size)⟩
theorem Rdr.below {s : ByteArray} {ep : EP} {g : Nat} {L : List Tk} {d : Int} {W W' : World} (h : Rdr s ep g L d W) (hb : Below W.heap.size W W') : Rdr s ep g L d W' := let ⟨t, e, hB, hA⟩ := h; ⟨t, e, hB.below hb, hA⟩
theorem Rdr.lt {s : ByteArray} {ep : EP} {g : Nat} {L : List Tk} {d : Int} {W : World} (h : Rdr s ep g L d W) : g < W.heap.size := let ⟨t, e, hB, hA⟩ := h; hB.lt

def UnitOut (s : ByteArray) (ep : EP) (g : Nat) (d : Int) (L' : List Tk) (e : Ending) (W' : World) : Prop := e = .returned (.tuple #[]) ∧ Rdr s ep g L' d W'
theorem step_any (s : ByteArray) (ep : EP) (g : Nat) (L : List Tk) (d : Int) (w0 W : World) (hO : Okw w0 g W) (hR : Rdr s ep g L d W) (hk : (hdT L).kind ≠ 1) :
    Calls Tryd.prog 57 #[.pointer (some ⟨g, 0, none⟩)] W (Outs g W (stepP ep L) (UnitOut s ep g d)) := by
  obtain ⟨t, e, hB, rest, k, rfl, rfl, hT⟩ := hR
  have hT := hT hk
  cases rest with
  | nil =>
    refine (step_err s ep g k t d w0 W hO.env hO.hg hO.hb hB hT).mono ?_
    rintro e W' ⟨rfl, hc⟩
    exact Outs.mk_err rfl rfl hc
  | cons t' r =>
    refine (step_ok s ep g k t t' r d w0 W hO.env hO.hg hO.hb hB hT).mono ?_
    rintro e W' ⟨rfl, hR', hc⟩
    exact Outs.mk_ok rfl ⟨rfl, hR'⟩ hc
theorem isT_kind {x : ByteArray} {t : Tk} (h : isT x t = true) : t.kind ≠ 1 := by
  unfold isT at h
  simp only [Bool.and_eq_true, bne_iff_ne] at h
  exact h.2

def BoolOut (s : ByteArray) (ep : EP) (g : Nat) (d : Int) (p : Bool × List Tk) (e : Ending) (W' : World) : Prop := e = .returned (.bool p.1) ∧ Rdr s ep g p.2 d W'
theorem maybe_any (s : ByteArray) (ep : EP) (g : Nat) (L : List Tk) (d : Int) (x : ByteArray) (w0 W : World) (hO : Okw w0 g W) (hR : Rdr s ep g L d W) :
    Calls Tryd.prog 69 #[.pointer (some ⟨g, 0, none⟩), .string x] W (Outs g W (maybeP ep x L) (BoolOut s ep g d)) := by
  have HI := Lib.hid (is_any s ep g L d x W hR)
  have HR := Lib.hid hR; have HO := Lib.hid hO
  clear hR hO
  cases hi : isT x (hdT L) with
  | false =>
    have hm : maybeP ep x L = .ok (false, L) := by unfold maybeP; rw [hi]; rfl
    rw [hi] at HI
    have HM := Lib.hid hm; clear hm hi
    go_enter Tryd.func69, Tryd.ntmps69
    go_wp2_with fail
    refine HI.out.mono ?_
    rintro e W' ⟨rfl, rfl⟩
    go_wp2
    go_ret
    exact Outs.mk_ok HM.out ⟨rfl, HR.out⟩ (Chg.refl _ _)
  | true =>
    rw [hi] at HI
    have HS := Lib.hid (step_any s ep g L d w0 W HO.out HR.out (isT_kind hi))
    have hm : maybeP ep x L = bnd (stepP ep L) (fun L' => .ok (true, L')) := by unfold maybeP; rw [hi]; rfl
    have HM := Lib.hid hm; clear hm hi
    cases hs : stepP ep L with
    | error p =>
      have HSE := Lib.hid hs; clear hs
      go_enter Tryd.func69, Tryd.ntmps69
      go_wp2_with fail
      refine HI.out.mono ?_
      rintro e W' ⟨rfl, rfl⟩
      go_wp2_with fail
      refine HS.out.mono ?_
      rintro e W' h
      obtain ⟨rfl, hc⟩ := h.err HSE.out
      go_wp2
      exact ⟨rfl, Outs.mk_err (by rw [HM.out, HSE.out]; rfl) rfl hc⟩
    | ok L' =>
      have HSE := Lib.hid hs; clear hs
      go_enter Tryd.func69, Tryd.ntmps69
      go_wp2_with fail
      refine HI.out.mono ?_
      rintro e W' ⟨rfl, rfl⟩
      go_wp2_with fail
      refine HS.out.mono ?_
      rintro e W' h
      obtain ⟨⟨rfl, hR'⟩, hc⟩ := h.ok HSE.out
      have HR' := Lib.hid hR'; have HC := Lib.hid hc; clear hR' hc
      go_wp2
      go_ret
      exact Outs.mk_ok (by rw [HM.out, HSE.out]; rfl) ⟨rfl, HR'.out⟩ HC.out

theorem want_any (s : ByteArray) (ep : EP) (g : Nat) (L : List Tk) (d : Int) (x : ByteArray) (w0 W : World) (hO : Okw w0 g W) (hR : Rdr s ep g L d W) :
    Calls Tryd.prog 59 #[.pointer (some ⟨g, 0, none⟩), .string x] W (Outs g W (wantP ep x L) fun p e W' => e = .returned (.tuple #[]) ∧ Rdr s ep g p.2 d W') := by
  have HI := Lib.hid (maybe_any s ep g L d x w0 W hO hR)
  have HR := Lib.hid hR; have HO := Lib.hid hO
  clear hR hO
  have hw : wantP ep x L = bnd (maybeP ep x L) (fun p => if p.1 = true then .ok ((), p.2) else .error (badP 61 L)) := by
    unfold wantP maybeP
    cases isT x (hdT L) with
    | false => rfl
    | true => cases stepP ep L <;> rfl
  have HW := Lib.hid hw; clear hw
  have hL : ∀ L1, maybeP ep x L = .ok (false, L1) → L1 = L := fun L1 h => by
    unfold maybeP at h
    split at h
    · obtain ⟨_, _, h2⟩ := bnd_inv h; cases h2
    · cases h; rfl
  have HL := Lib.hid hL; clear hL
  cases hm : maybeP ep x L with
  | error p =>
    have HM := Lib.hid hm; clear hm
    go_enter Tryd.func59, Tryd.ntmps59
    go_wp2_with fail
    refine HI.out.mono ?_
    rintro e W' h
    obtain ⟨rfl, hc⟩ := h.err HM.out
    go_wp2
    exact ⟨rfl, Outs.mk_err (by rw [HW.out, HM.out]; rfl) rfl hc⟩
  | ok p =>
    obtain ⟨b, L1⟩ := p
    have HM := Lib.hid hm; clear hm
    cases b with
    | true =>
      go_enter Tryd.func59, Tryd.ntmps59
      go_wp2_with fail
      refine HI.out.mono ?_
      rintro e W' h
      obtain ⟨⟨rfl, hR'⟩, hc⟩ := h.ok HM.out
      have HR' := Lib.hid hR'; have HC := Lib.hid hc; clear hR' hc
      go_wp2
      go_end0
      exact Outs.mk_ok (by rw [HW.out, HM.out]; rfl) ⟨rfl, HR'.out⟩ HC.out
    | false =>
      obtain rfl := HL.out _ HM.out
      go_enter Tryd.func59, Tryd.ntmps59
      go_wp2_with fail
      refine HI.out.mono ?_
      rintro e W' h
      obtain ⟨⟨rfl, hR'⟩, hc⟩ := h.ok HM.out
      have HB := Lib.hid (bad_any s ep g L1 d 61 W' hR')
      have HC := Lib.hid hc; clear hR' hc
      go_wp2_with fail
      refine HB.out.mono ?_
      rintro e W2 ⟨he, rfl⟩
      unfold panics at he
      subst he
      go_wp2
      exact ⟨rfl, Outs.mk_err (by rw [HW.out, HM.out]; rfl) rfl HC.out⟩

def tkVal (x : Tk) : Value := .agg #[.int .i64 x.kind, .string x.text, .int .u64 x.num, .int .i64 x.at_]
def KindOut (s : ByteArray) (ep : EP) (g : Nat) (d : Int) (p : Tk × List Tk) (e : Ending) (W' : World) : Prop := e = .returned (tkVal p.1) ∧ Rdr s ep g p.2 d W'
end Go.Proofs.YtlmopoipjolbgaaDoor.LexW
