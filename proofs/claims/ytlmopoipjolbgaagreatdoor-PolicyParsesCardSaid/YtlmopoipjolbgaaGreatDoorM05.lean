/-
  The package-level variables that the rows list: what the walks need of them; a world that holds them (for the witnesses). · Layer 6 (policy): the reader's kind. · Layer 6 (policy): the reference's SameExpr, on equal values: true. · Layer 6 (policy): the reference's Same, on equal policies: true. · The walk of the reference's Same: two lists of tokens are alike. · Layer 6 (policy): the tables of words; a verdict.
-/
import Derived.Test.YtlmopoipjolbgaaGreatDoorM04
import Derived.Test.YtlmopoipjolbgaaGreatDoorCards
import Derived.Test.YtlmopoipjolbgaaGreatDoorTie
import Derived.ProofKit
import Derived.OpenShut
import Derived.SizedLaws
import Derived.Deep.DeepHandedRow
import Derived.Deep.DeepWitnessRowRef
import Derived.Lib.LaidTab
import Derived.Lib.LaidU8
import Derived.Deep.RegionHeld3
import Derived.BigQuiet
import Derived.Test.YtlmopoipjolbgaaGreatDoorM03
import Derived.WideShapes
namespace Go.Proofs.YtlmopoipjolbgaaGreatDoor.LexW
open Go.ChangeShapes Go.WideShapes Go.ChangeAt Go.RowKit Go.Lib Go.Shelf
set_option linter.unusedVariables false
set_option linter.unusedSimpArgs false

abbrev laidL : List (String × DataW Unit) := Rows.policyParsesRow.laid

theorem own : ownKnob Tryz.prog.godebug = none := by kernel_rfl

theorem trod_iface_form {P : Program} {w : World} {fuel t : Nat} {ms : Array (String × TypeId)} {cs : List Value} {name : String} {d : DataW Unit} {p : List MemPlace} (ht : P.underlying t = some (.interface ms))
    (h : DataW.trod (fun _ => ()) P w 0 (fun _ => true) false fuel t cs = some (.iface name d, p)) : ∃ u v, cs = [.iface u v] := by
  cases fuel with
  | zero => simp [DataW.trod] at h
  | succ n =>
    unfold DataW.trod at h
    rw [ht] at h
    match cs, h with
    | [], h => simp at h
    | [.iface u v], h => exact ⟨u, v, rfl⟩
    | [.nilIface], h => simp at h
    | [.bool _], h => simp at h
    | [.int _ _], h => simp at h
    | [.string _], h => simp at h
    | _ :: _ :: _, h => simp at h
    | [x], h => cases x <;> first | (exact ⟨_, _, rfl⟩) | (simp at h)
theorem iface_cell {W : World} {n : String} {g t : Nat} {name : String} {d : DataW Unit} {ms : Array (String × TypeId)} (hn : Tryz.prog.globalNamed n = some g) (hy : (Tryz.prog.globals[g]?).map (·.type) = some t) (ht : Tryz.prog.underlying t = some (.interface ms)) (h : VarReads Tryz.prog W n (.iface name d)) :
    ∃ te pe, W.cell? ⟨g, 0, none⟩ = some (.iface te pe) := by
  obtain ⟨g', t', cs, fuel, p, hg, hty, hvar, hd⟩ := h
  obtain rfl := Option.some.inj (hn.symm.trans hg)
  obtain rfl := Option.some.inj (hy.symm.trans hty)
  obtain ⟨u, v, he⟩ := trod_iface_form ht hd
  have hc := World.var?_cell hg hvar 0
  rw [← Array.getElem?_toList, he] at hc
  exact ⟨u, v, hc⟩
theorem first_same : Rows.laid_unicode_utf8_first = Lib.firstData := by kernel_rfl
theorem accept_same : (Rows.laid_unicode_utf8_acceptRanges : DataW Unit) = Lib.acceptData := by kernel_rfl

theorem env_of_laid {W : World} (h : laidMetH Tryz.prog laidL W) : Env W := by
  have hL : laidMet Tryz.prog laidL W := h
  refine ⟨?_, ?_, ?_⟩
  · have h1 := Lib.laidMet.reads hL (n := "unicode/utf8.first") (d := Rows.laid_unicode_utf8_first) (.tail _ (.tail _ (.tail _ (.tail _ (.tail _ (.tail _ (.head _)))))))
    have h2 := Lib.laidMet.reads hL (n := "unicode/utf8.acceptRanges") (d := Rows.laid_unicode_utf8_acceptRanges) (.tail _ (.tail _ (.tail _ (.head _))))
    rw [first_same] at h1
    rw [accept_same] at h2
    exact utf8Tabs_of_reads { Tryz.lays260 with } ⟨by kernel_rfl, by kernel_rfl, by kernel_rfl, by kernel_rfl, by kernel_rfl, by kernel_rfl, by kernel_rfl⟩ h1 h2
  · exact iface_cell (n := "strconv.ErrSyntax") (t := 80) (by kernel_rfl) (by kernel_rfl) Tryz.underlying80 (Lib.laidMet.reads hL (.tail _ (.tail _ (.tail _ (.tail _ (.tail _ (.head _)))))))
  · exact iface_cell (n := "strconv.ErrRange") (t := 80) (by kernel_rfl) (by kernel_rfl) Tryz.underlying80 (Lib.laidMet.reads hL (.tail _ (.tail _ (.tail _ (.tail _ (.head _))))))

/-- A WORLD FOR THE WITNESSES: the settled one, each listed variable holding what its initialiser lays; two new blocks for the two errors' texts. -/
noncomputable def laidWorld (os : Os) : World :=
  let N := (World.settled Tryz.prog os).heap.size
  let w0 := World.holding Tryz.prog os ⟨#[
    .cells #[.string ⟨#[105, 110, 118, 97, 108, 105, 100, 32, 115, 121, 110, 116, 97, 120]⟩] 175,
    .cells #[.string ⟨#[118, 97, 108, 117, 101, 32, 111, 117, 116, 32, 111, 102, 32, 114, 97, 110, 103, 101]⟩] 175], #[], []⟩
  let put (h : Array Obj) (g : Nat) (cs : Array Value) : Array Obj := h.modify g fun
    | .cells _ t frozen => .cells cs t frozen
    | o => o
  let nums (k : IntKind) (d : DataW Unit) : Array Value := match d with
    | .agg l => (l.map fun | .lit (.int _ n) => Value.int k n | _ => undef).toArray
    | _ => #[]
  let h1 := put w0.heap 4 #[.iface 173 (.pointer (some ⟨N, 0, none⟩))]
  let h2 := put h1 5 #[.iface 173 (.pointer (some ⟨N + 1, 0, none⟩))]
  let h3 := put h2 6 (Lib.firstTab.map fun z => Value.int .u8 z).toArray
  let h4 := put h3 7 ((List.range 16).flatMap fun i => [Value.int .u8 (Lib.accLo i), Value.int .u8 (Lib.accHi i)]).toArray
  let h5 := put h4 0 (nums .u64 Rows.laid_internal_strconv_uint64pow10)
  let h6 := put h5 2 (nums .u8 Rows.laid_math_bits_deBruijn32tab)
  let h7 := put h6 3 (nums .u8 Rows.laid_math_bits_deBruijn64tab)
  { w0 with heap := h7 }

theorem laid_met (os : Os) (args : Array Value) : laidMet Tryz.prog laidL ((laidWorld os).forCall (fun _ _ => 0) ⟨#[], args, []⟩).memory :=
  laidMet_of_run' 8 (by kernel_rfl) (by kernel_rfl)
end Go.Proofs.YtlmopoipjolbgaaGreatDoor.LexW
namespace Go.Proofs.YtlmopoipjolbgaaGreatDoor.LexW
open Go.RowKit Go.Shelf Go.Proofs.YtlmopoipjolbgaaGreatDoor.LexS Go.Proofs.YtlmopoipjolbgaaGreatDoorW.PrintWords
set_option linter.unusedVariables false
set_option linter.unusedSimpArgs false

abbrev tkObj (x : Tk) : Obj := .cells #[.int .i64 x.kind, .string x.text, .int .u64 x.num, .int .i64 x.at_] 59
abbrev tkZero : Obj := .cells #[.int .i64 0, .string ⟨#[]⟩, .int .u64 0, .int .i64 0] 59
/-- a block of cells that lies on: its cells -/
theorem chg_block {S : Nat → Prop} {W W' : World} (h : Chg S W W') {b : Nat} {o : Obj} (hb : W.heap[b]? = some o) (hn : ¬ S b) : W'.heap[b]? = some o := (h.block b (Array.getElem?_eq_some_iff.1 hb).1 hn).trans hb
theorem blk4 {W : World} {b : Nat} {v0 v1 v2 v3 : Value} {t : TypeId} (h : W.heap[b]? = some (.cells #[v0, v1, v2, v3] t (0, 0))) : W.cell? ⟨b, 0, none⟩ = some v0 ∧ W.cell? ⟨b, 1, none⟩ = some v1 ∧ W.cell? ⟨b, 2, none⟩ = some v2 ∧ W.cell? ⟨b, 3, none⟩ = some v3 ∧ ∀ j, W.frozen? ⟨b, j, none⟩ = false := by
  refine ⟨?_, ?_, ?_, ?_, fun j => ?_⟩ <;> simp [World.cell?, World.frozen?, h]
theorem blk_past {W : World} {b : Nat} {o : Obj} (o' : Obj) (h : W.heap[b]? = some o) : (W.alloc o').heap[b]? = some o := (((Below.refl _ W).alloc (Nat.le_refl _) o').block b (Array.getElem?_eq_some_iff.1 h).1).trans h
theorem new_blk' {W : World} {n : Nat} (h : W.heap.size = n) (cs : Array Value) (t : TypeId) : (W.alloc (.cells cs t)).heap[n]? = some (.cells cs t (0, 0)) := by subst h; exact new_blk W cs t
theorem Chg.sets4 {S : Nat → Prop} {W W' : World} (h : Chg S W W') (b : Nat) (hb : W.heap.size ≤ b) (v0 v1 v2 v3 : Value) : Chg S W ((((W'.setCell ⟨b, 0, none⟩ v0).setCell ⟨b, 1, none⟩ v1).setCell ⟨b, 2, none⟩ v2).setCell ⟨b, 3, none⟩ v3) :=
  (((h.trans (Chg.of_set _ b 0 _) (fun k e => .inr (by omega))).trans (Chg.of_set _ b 1 _) (fun k e => .inr (by omega))).trans (Chg.of_set _ b 2 _) (fun k e => .inr (by omega))).trans (Chg.of_set _ b 3 _) (fun k e => .inr (by omega))
theorem Rdr.far {s : ByteArray} {ep : EP} {g : Nat} {L : List Tk} {d : Int} {W : World} (h : Rdr s ep g L d W) (b j : Nat) (hb : g ≠ b) (v : Value) : Rdr s ep g L d (W.setCell ⟨b, j, none⟩ v) :=
  let ⟨t, e, hB, hA⟩ := h; ⟨t, e, (Below.heap_setCell W ⟨b, j, none⟩ v g hb).trans hB, hA⟩

set_option maxHeartbeats 1000000 in
theorem kind_any (s : ByteArray) (ep : EP) (g : Nat) (L : List Tk) (d k : Int) (w0 W : World) (hO : Okw w0 g W) (hR : Rdr s ep g L d W) :
    Calls Tryz.prog 56 #[.pointer (some ⟨g, 0, none⟩), .int .i64 k] W (Outs g W (kindP ep k L) (KindOut s ep g d)) := by
  have hR0 := hR
  obtain ⟨t, e, hB, rest, j, rfl, rfl, hT⟩ := hR
  obtain ⟨c0, c1, c2, c3, c4, c5, c6⟩ := rdb_cell hB
  have hgW := hB.lt
  have a1 := cell_past tkZero c1
  have a2 := cell_past tkZero c2
  have a3 := cell_past tkZero c3
  have a4 := cell_past tkZero c4
  have hW2 : Below W.heap.size W ((W.alloc tkZero).alloc (tkObj t)) := ((Below.refl _ W).alloc (Nat.le_refl _) _).alloc (by simp) _
  have hb1 : ((W.alloc tkZero).alloc (tkObj t)).heap[W.heap.size]? = some (.cells #[.int .i64 0, .string ⟨#[]⟩, .int .u64 0, .int .i64 0] 59 (0, 0)) := blk_past _ (new_blk W _ _)
  have hb2 : ((W.alloc tkZero).alloc (tkObj t)).heap[W.heap.size + 1]? = some (.cells #[.int .i64 t.kind, .string t.text, .int .u64 t.num, .int .i64 t.at_] 59 (0, 0)) := new_blk' (by simp) _ _
  have hR2 := hR0.below hW2
  have hO2 := hO.below hW2
  have HST := Lib.hid (step_any s ep g (t :: rest) d w0 _ hO2 hR2)
  have HBD := Lib.hid (bad_any s ep g (t :: rest) d 61 _ hR2)
  have HB1 := Lib.hid hb1; have HB2 := Lib.hid hb2; have HW2 := Lib.hid hW2; have HR2 := Lib.hid hR2; have HR0 := Lib.hid hR0
  clear hb1 hb2 hW2 hR2 hO2 hB hT hR0 hO
  by_cases h1 : t.kind = k
  · subst h1
    by_cases h2 : t.kind = 1
    · have b2 : (t.kind != 1) = false := by rw [bne_eq_false_iff_eq]; exact h2
      have HK : Hid (kindP ep t.kind (t :: rest) = .ok (t, t :: rest)) := Lib.hid (by show (if t.kind = t.kind then (if t.kind = 1 then _ else _) else _) = _; rw [if_pos rfl, if_pos h2]; rfl)
      clear h2
      go_enter Tryz.func56, Tryz.ntmps56
      go_wp2
      have hW3 : Below W.heap.size W ((W.alloc (tkObj t)).alloc (tkObj t)) := ((Below.refl _ W).alloc (Nat.le_refl _) _).alloc (by simp) _
      refine bodyPost_ret (v := tkVal t) (by simp [results, Tryz.results56, go_sem, tkVal]) rfl ?_
      exact Outs.mk_ok HK.out ⟨rfl, HR0.out.below hW3⟩ (Chg.of_below hW3 _)
    · have b2 : (t.kind != 1) = true := by rw [bne_iff_ne]; exact h2
      have HK : Hid (kindP ep t.kind (t :: rest) = bnd (stepP ep (t :: rest)) (fun L' => .ok (t, L'))) := Lib.hid (by show (if t.kind = t.kind then (if t.kind = 1 then _ else _) else _) = _; rw [if_pos rfl, if_neg h2]; rfl)
      have HS := Lib.hid (HST.out h2)
      clear h2
      cases hs : stepP ep (t :: rest) with
      | error p =>
        have HSE := Lib.hid hs; clear hs
        go_enter Tryz.func56, Tryz.ntmps56
        go_wp2_with fail
        refine HS.out.mono ?_
        rintro e W' h
        obtain ⟨rfl, hc⟩ := h.err HSE.out
        go_wp2
        exact ⟨rfl, Outs.mk_err (by rw [HK.out, HSE.out]; rfl) rfl ((Chg.of_below HW2.out _).trans hc (fun k e => .inl e))⟩
      | ok L' =>
        have HSE := Lib.hid hs; clear hs
        go_enter Tryz.func56, Tryz.ntmps56
        go_wp2_with fail
        refine HS.out.mono ?_
        rintro e W' h
        obtain ⟨⟨rfl, hR'⟩, hc⟩ := h.ok HSE.out
        obtain ⟨x0, x1, x2, x3, xf⟩ := blk4 (chg_block hc HB1.out (by omega))
        obtain ⟨y0, y1, y2, y3, yf⟩ := blk4 (chg_block hc HB2.out (by omega))
        have HR' := Lib.hid hR'; have HC := Lib.hid hc; clear hR' hc
        go_wp2
        have hB1 := blk_set (blk_set (blk_set (blk_set (chg_block HC.out HB1.out (by omega)) 0 (.int .i64 t.kind)) 1 (.string t.text)) 2 (.int .u64 t.num)) 3 (.int .i64 t.at_)
        obtain ⟨z0, z1, z2, z3, zf⟩ := blk4 hB1
        refine bodyPost_ret (v := tkVal t) (by simp [results, Tryz.results56, go_sem, z0, z1, z2, z3, tkVal]) rfl ?_
        refine Outs.mk_ok (by rw [HK.out, HSE.out]; rfl) ⟨rfl, ?_⟩ (((Chg.of_below HW2.out _).trans HC.out (fun k e => .inl e)).sets4 W.heap.size (Nat.le_refl _) _ _ _ _)
        exact (((HR'.out.far _ 0 (by omega) _).far _ 1 (by omega) _).far _ 2 (by omega) _).far _ 3 (by omega) _
  · have b1 : (t.kind != k) = true := by rw [bne_iff_ne]; exact h1
    have HK : Hid (kindP ep k (t :: rest) = .error (badP 61 (t :: rest))) := Lib.hid (by show (if t.kind = k then (if k = 1 then _ else _) else _) = _; rw [if_neg h1])
    clear h1
    go_enter Tryz.func56, Tryz.ntmps56
    go_wp2_with fail
    refine HBD.out.mono ?_
    rintro e W2 ⟨he, rfl⟩
    unfold panics at he
    subst he
    go_wp2
    exact ⟨rfl, Outs.mk_err HK.out rfl (Chg.of_below HW2.out _)⟩

theorem fld_num (v0 v1 v2 v3 : Value) (w : World) : (Instr.field 59 (.agg #[v0, v1, v2, v3]) 2).run Tryz.prog w = .ok v2 w := by kernel_rfl
theorem fld_text (v0 v1 v2 v3 : Value) (w : World) : (Instr.field 59 (.agg #[v0, v1, v2, v3]) 1).run Tryz.prog w = .ok v1 w := by kernel_rfl
def clVal (x : Cl) : Value := .agg #[.string x.f0, .int .u64 x.f1]
def ClOut (s : ByteArray) (ep : EP) (g : Nat) (d : Int) (p : Cl × List Tk) (e : Ending) (W' : World) : Prop := e = .returned (clVal p.1) ∧ Rdr s ep g p.2 d W'
abbrev clZero : Obj := .cells #[.string ⟨#[]⟩, .int .u64 0] 74
theorem blk2 {W : World} {b : Nat} {v0 v1 : Value} {t : TypeId} (h : W.heap[b]? = some (.cells #[v0, v1] t (0, 0))) : W.cell? ⟨b, 0, none⟩ = some v0 ∧ W.cell? ⟨b, 1, none⟩ = some v1 ∧ ∀ j, W.frozen? ⟨b, j, none⟩ = false := by
  refine ⟨?_, ?_, fun j => ?_⟩ <;> simp [World.cell?, World.frozen?, h]
theorem Chg.set1 {S : Nat → Prop} {W W' : World} (h : Chg S W W') (b j : Nat) (hb : W.heap.size ≤ b) (v : Value) : Chg S W (W'.setCell ⟨b, j, none⟩ v) := h.trans (Chg.of_set _ b j _) (fun k e => .inr (by omega))

attribute [local go_sem] fld_num fld_text
set_option maxRecDepth 100000 in
set_option maxHeartbeats 1000000 in
theorem call_any (s : ByteArray) (ep : EP) (g : Nat) (L : List Tk) (d : Int) (w0 W : World) (hO : Okw w0 g W) (hR : Rdr s ep g L d W) :
    Calls Tryz.prog 85 #[.pointer (some ⟨g, 0, none⟩)] W (Outs g W (callP ep L) (ClOut s ep g d)) := by
  have hR0 := hR
  obtain ⟨t, e, hB, rest, j, rfl, rfl, hT⟩ := hR
  obtain ⟨c0, c1, c2, c3, c4, c5, c6⟩ := rdb_cell hB
  have hgW := hB.lt
  have a1 := cell_past clZero c1
  have hW2 : Below W.heap.size W (W.alloc clZero) := (Below.refl _ W).alloc (Nat.le_refl _) _
  have hb1 : (W.alloc clZero).heap[W.heap.size]? = some (.cells #[.string ⟨#[]⟩, .int .u64 0] 74 (0, 0)) := new_blk W _ _
  have hR2 := hR0.below hW2
  have hO2 := hO.below hW2
  have HKI := Lib.hid (fun k => kind_any s ep g (t :: rest) d k w0 _ hO2 hR2)
  have HB1 := Lib.hid hb1; have HW2 := Lib.hid hW2
  clear hb1 hW2 hR2 hO2 hB hT hR0 hO
  by_cases h1 : t.kind = 3
  · have b1 : (t.kind == 3) = true := by rw [beq_iff_eq]; exact h1
    have HK : Hid (callP ep (t :: rest) = bnd (kindP ep 3 (t :: rest)) (fun p => .ok (⟨nil0, p.1.num⟩, p.2))) := Lib.hid (by show (if t.kind = 3 then _ else _) = _; rw [if_pos h1])
    clear h1
    cases hs : kindP ep 3 (t :: rest) with
    | error p =>
      have HSE := Lib.hid hs; clear hs
      go_enter Tryz.func85, Tryz.ntmps85
      go_wp2_with fail
      refine (HKI.out 3).mono ?_
      rintro e W' h
      obtain ⟨rfl, hc⟩ := h.err HSE.out
      go_wp2
      exact ⟨rfl, Outs.mk_err (by rw [HK.out, HSE.out]; rfl) rfl ((Chg.of_below HW2.out _).trans hc (fun k e => .inl e))⟩
    | ok p =>
      have HSE := Lib.hid hs; clear hs
      go_enter Tryz.func85, Tryz.ntmps85
      go_wp2_with fail
      refine (HKI.out 3).mono ?_
      rintro e W' h
      obtain ⟨⟨rfl, hR'⟩, hc⟩ := h.ok HSE.out
      obtain ⟨x0, x1, xf⟩ := blk2 (chg_block hc HB1.out (by omega))
      have HR' := Lib.hid hR'; have HC := Lib.hid hc; clear hR' hc
      unfold tkVal
      go_wp2
      have hB1 := blk_set (blk_set (chg_block HC.out HB1.out (by omega)) 0 (.string ⟨#[]⟩)) 1 (.int .u64 p.1.num)
      obtain ⟨z0, z1, zf⟩ := blk2 hB1
      refine bodyPost_ret (v := clVal ⟨nil0, p.1.num⟩) (by simp [results, Tryz.results85, go_sem, z0, z1, clVal, nil0]) rfl ?_
      refine Outs.mk_ok (by rw [HK.out, HSE.out]; rfl) ⟨rfl, ?_⟩ ((((Chg.of_below HW2.out _).trans HC.out (fun k e => .inl e)).set1 W.heap.size 0 (Nat.le_refl _) _).set1 W.heap.size 1 (Nat.le_refl _) _)
      exact (HR'.out.far _ 0 (by omega) _).far _ 1 (by omega) _
  · have b1 : (t.kind == 3) = false := by rw [beq_eq_false_iff_ne]; exact h1
    have HK : Hid (callP ep (t :: rest) = bnd (kindP ep 2 (t :: rest)) (fun p => .ok (⟨p.1.text, 0⟩, p.2))) := Lib.hid (by show (if t.kind = 3 then _ else _) = _; rw [if_neg h1])
    clear h1
    cases hs : kindP ep 2 (t :: rest) with
    | error p =>
      have HSE := Lib.hid hs; clear hs
      go_enter Tryz.func85, Tryz.ntmps85
      go_wp2_with fail
      refine (HKI.out 2).mono ?_
      rintro e W' h
      obtain ⟨rfl, hc⟩ := h.err HSE.out
      go_wp2
      exact ⟨rfl, Outs.mk_err (by rw [HK.out, HSE.out]; rfl) rfl ((Chg.of_below HW2.out _).trans hc (fun k e => .inl e))⟩
    | ok p =>
      have HSE := Lib.hid hs; clear hs
      go_enter Tryz.func85, Tryz.ntmps85
      go_wp2_with fail
      refine (HKI.out 2).mono ?_
      rintro e W' h
      obtain ⟨⟨rfl, hR'⟩, hc⟩ := h.ok HSE.out
      obtain ⟨x0, x1, xf⟩ := blk2 (chg_block hc HB1.out (by omega))
      have HR' := Lib.hid hR'; have HC := Lib.hid hc; clear hR' hc
      unfold tkVal
      go_wp2
      have hB1 := blk_set (blk_set (chg_block HC.out HB1.out (by omega)) 0 (.string p.1.text)) 1 (.int .u64 0)
      obtain ⟨z0, z1, zf⟩ := blk2 hB1
      refine bodyPost_ret (v := clVal ⟨p.1.text, 0⟩) (by simp [results, Tryz.results85, go_sem, z0, z1, clVal]) rfl ?_
      refine Outs.mk_ok (by rw [HK.out, HSE.out]; rfl) ⟨rfl, ?_⟩ ((((Chg.of_below HW2.out _).trans HC.out (fun k e => .inl e)).set1 W.heap.size 0 (Nat.le_refl _) _).set1 W.heap.size 1 (Nat.le_refl _) _)
      exact (HR'.out.far _ 0 (by omega) _).far _ 1 (by omega) _
end Go.Proofs.YtlmopoipjolbgaaGreatDoor.LexW
namespace Go.Proofs.YtlmopoipjolbgaaGreatDoor.LexW
open Go.RowKit Go.Shelf Go.Proofs.YtlmopoipjolbgaaGreatDoor.LexS Go.Proofs.YtlmopoipjolbgaaGreatDoorW.PrintWords
set_option linter.unusedVariables false
set_option linter.unusedSimpArgs false

abbrev exBox (x : Ex) (A : Option Addr) (c : Nat) : Obj := .cells #[.int .i64 x.f0, .slice A x.f1.length c, .int .i64 x.f2, .int .u64 x.f3, .int .i64 x.f4, .int .u64 x.f5] 37
theorem box6 {W : World} {b : Nat} {v0 v1 v2 v3 v4 v5 : Value} {t : TypeId} (h : W.heap[b]? = some (.cells #[v0, v1, v2, v3, v4, v5] t (0, 0))) : W.cell? ⟨b, 0, none⟩ = some v0 ∧ W.cell? ⟨b, 1, none⟩ = some v1 ∧ W.cell? ⟨b, 2, none⟩ = some v2 ∧ W.cell? ⟨b, 3, none⟩ = some v3 ∧ W.cell? ⟨b, 4, none⟩ = some v4 ∧ W.cell? ⟨b, 5, none⟩ = some v5 := by
  refine ⟨?_, ?_, ?_, ?_, ?_, ?_⟩ <;> simp [World.cell?, h]
theorem mem_size {x y : Ex} {xs : List Ex} (h : x ∈ xs) (hy : y.f1 = xs) : SizeOf.sizeOf x < SizeOf.sizeOf y := by
  cases y
  simp only at hy
  subst hy
  have := List.sizeOf_lt_of_mem h
  simp
  omega
theorem box_lt {W : World} {b : Nat} {o : Obj} (h : W.heap[b]? = some o) : b < W.heap.size := (Array.getElem?_eq_some_iff.1 h).1

theorem bel_cell {W W5 : World} {a : Addr} {v : Value} (h : Below W.drew.heap.size W.drew W5) (hc : W.cell? a = some v) : W5.cell? a = some v := by
  have := World.block_lt_of_cell? W a hc
  rw [World.cell?_of_block (h.block a.block this)]
  exact hc

set_option maxHeartbeats 8000000 in
set_option maxRecDepth 100000 in
theorem sameEx_any (n : Nat) : ∀ (x : Ex), SizeOf.sizeOf x < n → ∀ (A0 : Option Addr) (c0 : Nat) (A1 : Option Addr) (c1 : Nat) (w : World), kEx.C w A0 x.f1.length x.f1 → kEx.C w A1 x.f1.length x.f1 →
    Calls Tryz.prog 13 #[.agg #[.int .i64 x.f0, .slice A0 x.f1.length c0, .int .i64 x.f2, .int .u64 x.f3, .int .i64 x.f4, .int .u64 x.f5], .agg #[.int .i64 x.f0, .slice A1 x.f1.length c1, .int .i64 x.f2, .int .u64 x.f3, .int .i64 x.f4, .int .u64 x.f5]] w fun e w' => e = .returned (.bool true) ∧ Below w.heap.size w w' := by
  induction n with
  | zero => intro x h; omega
  | succ n ih =>
  intro x hx A0 c0 A1 c1 w h0 h1
  have hmax : x.f1.length ≤ 9223372036854775807 := h0.2.1
  have IH := Lib.hid ih; clear ih
  have hal : Below w.heap.size w ((w.alloc (exBox x A0 c0)).alloc (exBox x A1 c1)) := ((Below.refl w.heap.size w).alloc (Nat.le_refl _) _).alloc (by simp) _
  have hb0 : ((w.alloc (exBox x A0 c0)).alloc (exBox x A1 c1)).heap[w.heap.size]? = some (.cells #[.int .i64 x.f0, .slice A0 x.f1.length c0, .int .i64 x.f2, .int .u64 x.f3, .int .i64 x.f4, .int .u64 x.f5] 37 (0, 0)) := blk_past _ (new_blk w _ _)
  have hb1 : ((w.alloc (exBox x A0 c0)).alloc (exBox x A1 c1)).heap[w.heap.size + 1]? = some (.cells #[.int .i64 x.f0, .slice A1 x.f1.length c1, .int .i64 x.f2, .int .u64 x.f3, .int .i64 x.f4, .int .u64 x.f5] 37 (0, 0)) := new_blk' (by simp) _ _
  have hsz : ((w.alloc (exBox x A0 c0)).alloc (exBox x A1 c1)).heap.size = w.heap.size + 2 := by simp
  obtain ⟨y0, y1, y2, y3, y4, y5⟩ := box6 hb0
  obtain ⟨z0, z1, z2, z3, z4, z5⟩ := box6 hb1
  have hh0 := h0
  have H0 := Lib.hid (Kd.C_below h0 hal); have H1 := Lib.hid (Kd.C_below h1 hal); have HB0 := Lib.hid hb0; have HB1 := Lib.hid hb1; have HAL := Lib.hid hal
  clear h0 h1 hh0 hal hb0 hb1
  have hn0 : (x.f0 != x.f0) = false := by simp
  have hn1 : ((x.f1.length : Int) != (x.f1.length : Int)) = false := by simp
  have hn2 : (x.f2 != x.f2) = false := by simp
  have hn3 : (x.f3 != x.f3) = false := by simp
  have hn4 : (x.f4 != x.f4) = false := by simp
  have hn5 : (x.f5 != x.f5) = false := by simp
  go_enter Tryz.func13, Tryz.ntmps13
  go_wp2
  go_loopw [5] (fun vi wr => ∃ k : Nat, vi = .int .i64 k ∧ k ≤ x.f1.length ∧ Hid (Below ((w.alloc (exBox x A0 c0)).alloc (exBox x A1 c1)).heap.size ((w.alloc (exBox x A0 c0)).alloc (exBox x A1 c1)) wr)) (fun vi _ => x.f1.length - (intOf vi).toNat)
  case atStart => exact ⟨0, rfl, by omega, Lib.hid (Below.refl _ _)⟩
  case round =>
    obtain ⟨k, rfl, hk, HB⟩ := hrel
    clear y0 y1 y2 y3 y4 y5 z0 z1 z2 z3 z4 z5
    obtain ⟨y0, y1, y2, y3, y4, y5⟩ := box6 ((HB.out.block _ (by rw [hsz]; omega)).trans HB0.out)
    obtain ⟨z0, z1, z2, z3, z4, z5⟩ := box6 ((HB.out.block _ (by rw [hsz]; omega)).trans HB1.out)
    by_cases hlt : k < x.f1.length
    · have hltb : decide ((k : Int) < (x.f1.length : Int)) = true := by simpa using hlt
      have hC0 := Kd.C_below H0.out HB.out
      have hC1 := Kd.C_below H1.out HB.out
      obtain ⟨a0, A2, c2, e0, p0, p1, p2, p3, p4, p5, pl, pc⟩ := at_Ex hC0 (k : Int) (by omega) (by omega)
      obtain ⟨a1, A3, c3, e1, q0, q1, q2, q3, q4, q5, ql, qc⟩ := at_Ex hC1 (k : Int) (by omega) (by omega)
      cases e0; cases e1
      rw [Int.toNat_natCast] at p0 p1 p2 p3 p4 p5 q0 q1 q2 q3 q4 q5
      have hmem : rd_Ex x.f1 (k : Int) ∈ x.f1 := by
        unfold rd_Ex
        rw [Int.toNat_natCast, List.getD_eq_getElem?_getD, List.getElem?_eq_getElem hlt]
        exact List.getElem_mem hlt
      have hsm := mem_size hmem rfl
      generalize rd_Ex x.f1 (k : Int) = y at *
      have HS := Lib.hid (IH.out y (by omega) A2 c2 A3 c3 wr.drew (Kd.C_below pc (Below.refl _ _).drew) (Kd.C_below qc (Below.refl _ _).drew))
      have hwr : wrap64 ((k : Int) + 1) = (k : Int) + 1 := by unfold wrap64; omega
      have HB9 := Lib.hid HB
      clear pc qc pl ql hC0 hC1 hsm hmem
      go_wp2
      go_region_held3 (fun w' => w'.cell? ⟨w.heap.size, 1, none⟩ = some (.slice (some a0) x.f1.length c0) ∧ w'.cell? ⟨w.heap.size + 1, 1, none⟩ = some (.slice (some a1) x.f1.length c1) ∧
          w'.cell? (a0.add (k * 6)) = some (.int .i64 y.f0) ∧ w'.cell? ⟨(a0.add (k * 6)).block, (a0.add (k * 6)).off + 1, none⟩ = some (.slice A2 y.f1.length c2) ∧ w'.cell? ⟨(a0.add (k * 6)).block, (a0.add (k * 6)).off + 2, none⟩ = some (.int .i64 y.f2) ∧ w'.cell? ⟨(a0.add (k * 6)).block, (a0.add (k * 6)).off + 3, none⟩ = some (.int .u64 y.f3) ∧ w'.cell? ⟨(a0.add (k * 6)).block, (a0.add (k * 6)).off + 4, none⟩ = some (.int .i64 y.f4) ∧ w'.cell? ⟨(a0.add (k * 6)).block, (a0.add (k * 6)).off + 5, none⟩ = some (.int .u64 y.f5) ∧
          w'.cell? (a1.add (k * 6)) = some (.int .i64 y.f0) ∧ w'.cell? ⟨(a1.add (k * 6)).block, (a1.add (k * 6)).off + 1, none⟩ = some (.slice A3 y.f1.length c3) ∧ w'.cell? ⟨(a1.add (k * 6)).block, (a1.add (k * 6)).off + 2, none⟩ = some (.int .i64 y.f2) ∧ w'.cell? ⟨(a1.add (k * 6)).block, (a1.add (k * 6)).off + 3, none⟩ = some (.int .u64 y.f3) ∧ w'.cell? ⟨(a1.add (k * 6)).block, (a1.add (k * 6)).off + 4, none⟩ = some (.int .i64 y.f4) ∧ w'.cell? ⟨(a1.add (k * 6)).block, (a1.add (k * 6)).off + 5, none⟩ = some (.int .u64 y.f5))
        (first | go_keep | exact ⟨bel_cell hb5 y1, bel_cell hb5 z1, bel_cell hb5 p0, bel_cell hb5 p1, bel_cell hb5 p2, bel_cell hb5 p3, bel_cell hb5 p4, bel_cell hb5 p5, bel_cell hb5 q0, bel_cell hb5 q1, bel_cell hb5 q2, bel_cell hb5 q3, bel_cell hb5 q4, bel_cell hb5 q5⟩)
        (first | (go_at_call 13; refine HS.out.mono ?_; rintro e W5 ⟨rfl, hb5⟩))
      go_wp2
      go_roundw
      case rel => exact ⟨k + 1, by simp, by omega, Lib.hid (((HB.out.trans ((Below.refl _ _).drew)).trans (hb5.mono HB.out.size)))⟩
      case measure => simp [intOf]; omega
    · have hltb : decide ((k : Int) < (x.f1.length : Int)) = false := by simpa using hlt
      have hle : x.f1.length ≤ k := by omega
      clear hlt hltb
      go_wp2
      go_ret
      exact ⟨rfl, HAL.out.trans (HB.out.mono (by rw [hsz]; omega))⟩
end Go.Proofs.YtlmopoipjolbgaaGreatDoor.LexW
namespace Go.Proofs.YtlmopoipjolbgaaGreatDoor.LexW
open Go.RowKit Go.Shelf Go.Proofs.YtlmopoipjolbgaaGreatDoor.LexS Go.Proofs.YtlmopoipjolbgaaGreatDoorW.PrintWords
set_option linter.unusedVariables false
set_option linter.unusedSimpArgs false

abbrev poBox (x : Po) (A : Option Addr) (c : Nat) : Obj := .cells #[.string x.arch, .int .i64 x.foreign.f0, .int .u64 x.foreign.f1, .int .i64 x.dflt.f0, .int .u64 x.dflt.f1, .slice A x.rules.length c] 29
abbrev rlBox (y : Rl) (A : Option Addr) (c : Nat) (B : Option Addr) (d : Nat) : Obj := .cells #[.slice A y.f0.length c, .int .i64 y.f1.f0, .slice B y.f1.f1.length d, .int .i64 y.f1.f2, .int .u64 y.f1.f3, .int .i64 y.f1.f4, .int .u64 y.f1.f5, .int .i64 y.f2.f0, .int .u64 y.f2.f1] 70
theorem box9 {W : World} {b : Nat} {v0 v1 v2 v3 v4 v5 v6 v7 v8 : Value} {t : TypeId} (h : W.heap[b]? = some (.cells #[v0, v1, v2, v3, v4, v5, v6, v7, v8] t (0, 0))) : W.cell? ⟨b, 0, none⟩ = some v0 ∧ W.cell? ⟨b, 1, none⟩ = some v1 ∧ W.cell? ⟨b, 2, none⟩ = some v2 ∧ W.cell? ⟨b, 3, none⟩ = some v3 ∧ W.cell? ⟨b, 4, none⟩ = some v4 ∧ W.cell? ⟨b, 5, none⟩ = some v5 ∧ W.cell? ⟨b, 6, none⟩ = some v6 ∧ W.cell? ⟨b, 7, none⟩ = some v7 ∧ W.cell? ⟨b, 8, none⟩ = some v8 := by
  refine ⟨?_, ?_, ?_, ?_, ?_, ?_, ?_, ?_, ?_⟩ <;> simp [World.cell?, h]

set_option maxHeartbeats 8000000 in
set_option maxRecDepth 100000 in
theorem samePo_any (x : Po) (A0 : Option Addr) (c0 : Nat) (A1 : Option Addr) (c1 : Nat) (w : World) (h0 : kRl.C w A0 x.rules.length x.rules) (h1 : kRl.C w A1 x.rules.length x.rules) :
    Calls Tryz.prog 12 #[.agg #[.string x.arch, .int .i64 x.foreign.f0, .int .u64 x.foreign.f1, .int .i64 x.dflt.f0, .int .u64 x.dflt.f1, .slice A0 x.rules.length c0], .agg #[.string x.arch, .int .i64 x.foreign.f0, .int .u64 x.foreign.f1, .int .i64 x.dflt.f0, .int .u64 x.dflt.f1, .slice A1 x.rules.length c1]] w fun e w' => e = .returned (.bool true) ∧ Below w.heap.size w w' := by
  have hmax : x.rules.length ≤ 9223372036854775807 := h0.2.1
  have hal : Below w.heap.size w ((w.alloc (poBox x A0 c0)).alloc (poBox x A1 c1)) := ((Below.refl w.heap.size w).alloc (Nat.le_refl _) _).alloc (by simp) _
  have hb0 : ((w.alloc (poBox x A0 c0)).alloc (poBox x A1 c1)).heap[w.heap.size]? = some (.cells #[.string x.arch, .int .i64 x.foreign.f0, .int .u64 x.foreign.f1, .int .i64 x.dflt.f0, .int .u64 x.dflt.f1, .slice A0 x.rules.length c0] 29 (0, 0)) := blk_past _ (new_blk w _ _)
  have hb1 : ((w.alloc (poBox x A0 c0)).alloc (poBox x A1 c1)).heap[w.heap.size + 1]? = some (.cells #[.string x.arch, .int .i64 x.foreign.f0, .int .u64 x.foreign.f1, .int .i64 x.dflt.f0, .int .u64 x.dflt.f1, .slice A1 x.rules.length c1] 29 (0, 0)) := new_blk' (by simp) _ _
  have hsz : ((w.alloc (poBox x A0 c0)).alloc (poBox x A1 c1)).heap.size = w.heap.size + 2 := by simp
  obtain ⟨y0, y1, y2, y3, y4, y5⟩ := box6 hb0
  obtain ⟨z0, z1, z2, z3, z4, z5⟩ := box6 hb1
  have H0 := Lib.hid (Kd.C_below h0 hal); have H1 := Lib.hid (Kd.C_below h1 hal); have HB0 := Lib.hid hb0; have HB1 := Lib.hid hb1; have HAL := Lib.hid hal
  clear h0 h1 hal hb0 hb1
  have hs0 : (x.arch.toList == x.arch.toList) = true := beq_self_eq_true _
  have hn0 : (x.arch.toList != x.arch.toList) = false := by simp
  have hn1 : (x.foreign.f0 != x.foreign.f0) = false := by simp
  have hn2 : (x.foreign.f1 != x.foreign.f1) = false := by simp
  have hn3 : (x.dflt.f0 != x.dflt.f0) = false := by simp
  have hn4 : (x.dflt.f1 != x.dflt.f1) = false := by simp
  have hn5 : ((x.rules.length : Int) != (x.rules.length : Int)) = false := by simp
  go_enter Tryz.func12, Tryz.ntmps12
  go_wp2
  go_loopw [5] (fun vi wr => ∃ k : Nat, vi = .int .i64 k ∧ k ≤ x.rules.length ∧ Hid (Below ((w.alloc (poBox x A0 c0)).alloc (poBox x A1 c1)).heap.size ((w.alloc (poBox x A0 c0)).alloc (poBox x A1 c1)) wr)) (fun vi _ => x.rules.length - (intOf vi).toNat)
  case atStart => exact ⟨0, rfl, by omega, Lib.hid (Below.refl _ _)⟩
  case round =>
    obtain ⟨k, rfl, hk, HB⟩ := hrel
    clear y0 y1 y2 y3 y4 y5 z0 z1 z2 z3 z4 z5 hs0 hn0 hn1 hn2 hn3 hn4 hn5
    obtain ⟨-, -, -, -, -, y5⟩ := box6 ((HB.out.block _ (by rw [hsz]; omega)).trans HB0.out)
    obtain ⟨-, -, -, -, -, z5⟩ := box6 ((HB.out.block _ (by rw [hsz]; omega)).trans HB1.out)
    by_cases hlt : k < x.rules.length
    · have hltb : decide ((k : Int) < (x.rules.length : Int)) = true := by simpa using hlt
      have hC0 := Kd.C_below H0.out HB.out
      have hC1 := Kd.C_below H1.out HB.out
      obtain ⟨a0, A2, c2, B2, d2, e0, p0, p1, p2, p3, p4, p5, p6, p7, p8, pl, pc, pm, pd⟩ := at_Rl hC0 (k : Int) (by omega) (by omega)
      obtain ⟨a1, A3, c3, B3, d3, e1, q0, q1, q2, q3, q4, q5, q6, q7, q8, ql, qc, qm, qd⟩ := at_Rl hC1 (k : Int) (by omega) (by omega)
      cases e0; cases e1
      rw [Int.toNat_natCast] at p0 p1 p2 p3 p4 p5 p6 p7 p8 q0 q1 q2 q3 q4 q5 q6 q7 q8
      obtain ⟨y, hy⟩ : ∃ y, y = rd_Rl x.rules (k : Int) := ⟨_, rfl⟩
      rw [← hy] at p0 p1 p2 p3 p4 p5 p6 p7 p8 q0 q1 q2 q3 q4 q5 q6 q7 q8 pc qc pd qd
      clear hy pl pm ql qm
      have hwr : wrap64 ((k : Int) + 1) = (k : Int) + 1 := by unfold wrap64; omega
      have hal2 : Below wr.heap.size wr ((wr.alloc (rlBox y A2 c2 B2 d2)).alloc (rlBox y A3 c3 B3 d3)) := ((Below.refl wr.heap.size wr).alloc (Nat.le_refl _) _).alloc (by simp) _
      have hr0 : ((wr.alloc (rlBox y A2 c2 B2 d2)).alloc (rlBox y A3 c3 B3 d3)).heap[wr.heap.size]? = some (.cells #[.slice A2 y.f0.length c2, .int .i64 y.f1.f0, .slice B2 y.f1.f1.length d2, .int .i64 y.f1.f2, .int .u64 y.f1.f3, .int .i64 y.f1.f4, .int .u64 y.f1.f5, .int .i64 y.f2.f0, .int .u64 y.f2.f1] 70 (0, 0)) := blk_past _ (new_blk wr _ _)
      have hr1 : ((wr.alloc (rlBox y A2 c2 B2 d2)).alloc (rlBox y A3 c3 B3 d3)).heap[wr.heap.size + 1]? = some (.cells #[.slice A3 y.f0.length c3, .int .i64 y.f1.f0, .slice B3 y.f1.f1.length d3, .int .i64 y.f1.f2, .int .u64 y.f1.f3, .int .i64 y.f1.f4, .int .u64 y.f1.f5, .int .i64 y.f2.f0, .int .u64 y.f2.f1] 70 (0, 0)) := new_blk' (by simp) _ _
      have hsz2 : ((wr.alloc (rlBox y A2 c2 B2 d2)).alloc (rlBox y A3 c3 B3 d3)).heap.size = wr.heap.size + 2 := by simp
      obtain ⟨r0, r1, r2, r3, r4, r5, r6, r7, r8⟩ := box9 hr0
      obtain ⟨s0, s1, s2, s3, s4, s5, s6, s7, s8⟩ := box9 hr1
      have ov : ∀ {a : Addr} {v : Value}, wr.cell? a = some v → (wr.alloc (rlBox y A2 c2 B2 d2)).cell? a = some v := fun {a v} h => (World.cell?_alloc_some wr a _ (by rw [h]; rfl)).trans h
      have u5 := ov z5
      have v0 := ov q0; have v1 := ov q1; have v2 := ov q2; have v3 := ov q3; have v4 := ov q4; have v5 := ov q5; have v6 := ov q6; have v7 := ov q7; have v8 := ov q8
      clear ov
      have HS := Lib.hid (sameEx_any _ y.f1 (Nat.lt_succ_self _) B2 d2 B3 d3 _ (Kd.C_below pd hal2) (Kd.C_below qd hal2))
      have HP := Lib.hid (Kd.C_below pc hal2); have HQ := Lib.hid (Kd.C_below qc hal2); have HAL2 := Lib.hid hal2; have HR0 := Lib.hid hr0; have HR1 := Lib.hid hr1
      clear pc qc pd qd hC0 hC1 hal2 hr0 hr1
      go_wp2_with fail
      refine HS.out.mono ?_
      rintro e W5 ⟨rfl, hb5⟩
      clear r0 r1 r2 r3 r4 r5 r6 r7 r8 s0 s1 s2 s3 s4 s5 s6 s7 s8 u5 v0 v1 v2 v3 v4 v5 v6 v7 v8 y5 z5 p0 p1 p2 p3 p4 p5 p6 p7 p8 q0 q1 q2 q3 q4 q5 q6 q7 q8
      obtain ⟨r0, r1, r2, r3, r4, r5, r6, r7, r8⟩ := box9 ((hb5.block _ (by rw [hsz2]; omega)).trans HR0.out)
      obtain ⟨s0, s1, s2, s3, s4, s5, s6, s7, s8⟩ := box9 ((hb5.block _ (by rw [hsz2]; omega)).trans HR1.out)
      have HP5 := Lib.hid (Kd.C_below HP.out hb5); have HQ5 := Lib.hid (Kd.C_below HQ.out hb5)
      have HB5 := Lib.hid (HB.out.trans ((HAL2.out.trans (hb5.mono (by rw [hsz2]; omega))).mono HB.out.size))
      clear hb5
      have hd1 : (y.f2.f0 != y.f2.f0) = false := by simp
      have hd2 : (y.f2.f1 != y.f2.f1) = false := by simp
      have hd3 : ((y.f0.length : Int) != (y.f0.length : Int)) = false := by simp
      have hmax2 : y.f0.length ≤ 9223372036854775807 := HP5.out.2.1
      go_wp2
      go_loopw [9] (fun vj wi => ∃ j : Nat, vj = .int .i64 j ∧ j ≤ y.f0.length ∧ Drawn0 W5 wi) (fun vj _ => y.f0.length - (intOf vj).toNat)
      case atStart => exact ⟨0, rfl, by omega, Drawn0.refl _⟩
      case round =>
        obtain ⟨j, rfl, hj, ⟨m, rfl⟩⟩ := hrel
        by_cases hlt2 : j < y.f0.length
        · have hltb2 : decide ((j : Int) < (y.f0.length : Int)) = true := by simpa using hlt2
          have hwj : wrap64 ((j : Int) + 1) = (j : Int) + 1 := by unfold wrap64; omega
          obtain ⟨b0, e0, i0, i1⟩ := at_Cl HP5.out (j : Int) (by omega) (by omega)
          obtain ⟨b1, e1, j0, j1⟩ := at_Cl HQ5.out (j : Int) (by omega) (by omega)
          cases e0; cases e1
          rw [Int.toNat_natCast] at i0 i1 j0 j1
          obtain ⟨z, hz⟩ : ∃ z, z = rd_Cl y.f0 (j : Int) := ⟨_, rfl⟩
          rw [← hz] at i0 i1 j0 j1
          clear hz
          obtain ⟨zt, hzt⟩ : ∃ zt, zt = z.f0 := ⟨_, rfl⟩
          obtain ⟨zn, hzn⟩ : ∃ zn, zn = z.f1 := ⟨_, rfl⟩
          rw [← hzt] at i0 j0
          rw [← hzn] at i1 j1
          clear hzt hzn
          have hz0 : (zt.toList == zt.toList) = true := beq_self_eq_true _
          have hz0' : (zt.toList != zt.toList) = false := by simp
          have hz1 : (zn != zn) = false := by simp
          have hz1' : (zn == zn) = true := by simp
          go_wp2
          repeat (go_quiet (fail); try go_wp2)
          go_roundw
          case rel => exact ⟨j + 1, by simp, by omega, ⟨⟨_, rfl⟩⟩⟩
          case measure => simp [intOf]; omega
        · have hltb2 : decide ((j : Int) < (y.f0.length : Int)) = false := by simpa using hlt2
          have hle2 : y.f0.length ≤ j := by omega
          clear hlt2 hltb2
          go_wp2
          go_roundw
          case rel => exact ⟨k + 1, by simp, by omega, Lib.hid (HB5.out.trans ((Drawn0.below (show Drawn0 W5 (W5.drewN m) from ⟨⟨m, rfl⟩⟩)).mono HB5.out.size))⟩
          case measure => simp [intOf]; omega
    · have hltb : decide ((k : Int) < (x.rules.length : Int)) = false := by simpa using hlt
      have hle : x.rules.length ≤ k := by omega
      clear hlt hltb
      go_wp2
      go_ret
      exact ⟨rfl, HAL.out.trans (HB.out.mono (by rw [hsz]; omega))⟩
end Go.Proofs.YtlmopoipjolbgaaGreatDoor.LexW
namespace Go.Proofs.YtlmopoipjolbgaaGreatDoor.LexW
open Go.RowKit Go.Shelf Go.Proofs.YtlmopoipjolbgaaGreatDoor.LexS Go.Proofs.YtlmopoipjolbgaaGreatDoorW.PrintWords
set_option linter.unusedVariables false
set_option linter.unusedSimpArgs false

theorem tk_ext {x y : Tk} (h0 : x.kind = y.kind) (h1 : x.text = y.text) (h2 : x.num = y.num) (h3 : x.at_ = y.at_) : x = y := by
  cases x; cases y; simp at *; exact ⟨h0, h1, h2, h3⟩
theorem same_end {l1 l2 : List Tk} (hl : l1.length = l2.length) (h : ∀ j, j < l1.length → l1.getD j tkz = l2.getD j tkz) : l1 = l2 := by
  apply List.ext_getElem hl
  intro j h1 h2
  have := h j h1
  simpa [h1, h2] using this
theorem text_ne {a b : ByteArray} (h : a ≠ b) : (a.toList == b.toList) = false := by
  rw [beq_eq_false_iff_ne]; intro e; rw [Lib.toList_data, Lib.toList_data] at e; exact h (WideShapes.bytes_inj e)

end Go.Proofs.YtlmopoipjolbgaaGreatDoor.LexW
namespace Go.Proofs.YtlmopoipjolbgaaGreatDoor.LexW
open Go.RowKit Go.Shelf Go.Proofs.YtlmopoipjolbgaaGreatDoor.LexS Go.Proofs.YtlmopoipjolbgaaGreatDoorW.PrintWords
set_option linter.unusedVariables false
set_option linter.unusedSimpArgs false

def wordCells (x : ByteArray × Int × Bool) : List Value := [.string x.1, .int .i64 x.2.1, .bool x.2.2]
def wordsObj : Obj := .cells (wordsT.flatMap wordCells).toArray 112
def fieldsObj : Obj := .cells (fieldsT.map Value.string).toArray 9
def relsObj : Obj := .cells (relsT.map Value.string).toArray 9
set_option maxRecDepth 100000 in
theorem words_any (W : World) : Calls Tryz.prog 74 #[] W fun e W' => e = .returned (.slice (some ⟨W.heap.size, 0, none⟩) 8 8) ∧ W' = W.alloc wordsObj := by
  go_enter Tryz.func74, Tryz.ntmps74
  go_wp2
  go_ret
  exact ⟨rfl, rfl⟩
set_option maxRecDepth 100000 in
theorem fields_any (W : World) : Calls Tryz.prog 44 #[] W fun e W' => e = .returned (.slice (some ⟨W.heap.size, 0, none⟩) 7 7) ∧ W' = W.alloc fieldsObj := by
  go_enter Tryz.func44, Tryz.ntmps44
  go_wp2
  go_ret
  exact ⟨rfl, rfl⟩
set_option maxRecDepth 100000 in
theorem rels_any (W : World) : Calls Tryz.prog 45 #[] W fun e W' => e = .returned (.slice (some ⟨W.heap.size, 0, none⟩) 6 6) ∧ W' = W.alloc relsObj := by
  go_enter Tryz.func45, Tryz.ntmps45
  go_wp2
  go_ret
  exact ⟨rfl, rfl⟩

theorem words_blk {w : World} {B : Nat} (h : w.heap[B]? = some (.cells (wordsT.flatMap wordCells).toArray 112 (0, 0))) (i : Nat) (hi : i < 8) :
    w.cell? ⟨B, i * 3, none⟩ = some (.string (wordsT.getD i (nil0, 0, false)).1) ∧ w.cell? ⟨B, i * 3 + 1, none⟩ = some (.int .i64 (wordsT.getD i (nil0, 0, false)).2.1) ∧ w.cell? ⟨B, i * 3 + 2, none⟩ = some (.bool (wordsT.getD i (nil0, 0, false)).2.2) := by
  match i, hi with
  | 0, _ | 1, _ | 2, _ | 3, _ | 4, _ | 5, _ | 6, _ | 7, _ => exact ⟨by simp [World.cell?, h, wordsT, wordCells], by simp [World.cell?, h, wordsT, wordCells], by simp [World.cell?, h, wordsT, wordCells]⟩
theorem find_none {x : ByteArray} (h : ∀ j, j < 8 → x ≠ (wordsT.getD j (nil0, 0, false)).1) : wordsT.find? (fun y => decide (x = y.1)) = none := by
  rw [List.find?_eq_none]
  intro y hy
  obtain ⟨j, hj, rfl⟩ := List.getElem_of_mem hy
  have := h j hj
  simpa [List.getD_eq_getElem?_getD, List.getElem?_eq_getElem hj] using this
theorem find_some {x : ByteArray} {i : Nat} (hi : i < 8) (h : ∀ j, j < i → x ≠ (wordsT.getD j (nil0, 0, false)).1) (hx : x = (wordsT.getD i (nil0, 0, false)).1) : wordsT.find? (fun y => decide (x = y.1)) = some (wordsT.getD i (nil0, 0, false)) := by
  rw [List.find?_eq_some_iff_getElem]
  have hlen : wordsT.length = 8 := rfl
  refine ⟨by rw [decide_eq_true_eq]; exact hx, i, by omega, by simp [List.getD_eq_getElem?_getD, List.getElem?_eq_getElem (show i < wordsT.length by omega)], fun j hj => ?_⟩
  have := h j hj
  simpa [List.getD_eq_getElem?_getD, List.getElem?_eq_getElem (show j < wordsT.length by omega)] using this

theorem blk3 {W : World} {b : Nat} {v0 v1 v2 : Value} {t : TypeId} (h : W.heap[b]? = some (.cells #[v0, v1, v2] t (0, 0))) : W.cell? ⟨b, 0, none⟩ = some v0 ∧ W.cell? ⟨b, 1, none⟩ = some v1 ∧ W.cell? ⟨b, 2, none⟩ = some v2 ∧ ∀ j, W.frozen? ⟨b, j, none⟩ = false := by
  refine ⟨?_, ?_, ?_, fun j => ?_⟩ <;> simp [World.cell?, World.frozen?, h]
def vdVal (x : Vd) : Value := .agg #[.int .i64 x.f0, .int .u64 x.f1]
def VdOut (s : ByteArray) (ep : EP) (g : Nat) (d : Int) (p : Vd × List Tk) (e : Ending) (W' : World) : Prop := e = .returned (vdVal p.1) ∧ Rdr s ep g p.2 d W'
abbrev vdZero : Obj := .cells #[.int .i64 0, .int .u64 0] 26

attribute [local go_sem] fld_num fld_text
set_option maxRecDepth 100000 in
set_option maxHeartbeats 2000000 in
theorem verdict_any (s : ByteArray) (ep : EP) (g : Nat) (L : List Tk) (d : Int) (w0 W : World) (hO : Okw w0 g W) (hR : Rdr s ep g L d W) :
    Calls Tryz.prog 58 #[.pointer (some ⟨g, 0, none⟩)] W (Outs g W (verdictP ep L) (VdOut s ep g d)) := by
  have hR0 := hR
  obtain ⟨t, e, hB, rest, j, rfl, rfl, hT⟩ := hR
  have hgW := hB.lt
  have HR0 := Lib.hid hR0; have HO := Lib.hid hO; have HB := Lib.hid hB
  clear hR0 hO hB hT
  go_enter Tryz.func58, Tryz.ntmps58
  go_wp2_with fail
  refine (words_any _).mono ?_
  rintro e W1 ⟨rfl, rfl⟩
  have hbW : Below W.heap.size W ((W.alloc vdZero).alloc wordsObj) := ((Below.refl _ W).alloc (Nat.le_refl _) _).alloc (by simp) _
  have hw0 : ((W.alloc vdZero).alloc wordsObj).heap[W.heap.size + 1]? = some (.cells (wordsT.flatMap wordCells).toArray 112 (0, 0)) := new_blk' (by simp) _ _
  have hr0 : ((W.alloc vdZero).alloc wordsObj).heap[W.heap.size]? = some (.cells #[.int .i64 0, .int .u64 0] 26 (0, 0)) := blk_past _ (new_blk W _ _)
  have hs0 : ((W.alloc vdZero).alloc wordsObj).heap.size = W.heap.size + 2 := by simp
  go_wp2
  obtain ⟨B, hBW⟩ : ∃ B, B = W.heap.size := ⟨_, rfl⟩
  rw [← hBW] at hbW hw0 hr0 hs0 hgW
  show Code.wp _ _ _ _ ((W.alloc vdZero).alloc wordsObj)
  rw [← hBW]
  generalize (W.alloc vdZero).alloc wordsObj = W2 at *
  have HBW := Lib.hid hBW; have HbW := Lib.hid hbW; have HW0 := Lib.hid hw0; have HRZ := Lib.hid hr0
  clear hBW hbW hw0 hr0
  go_loopw [8] (fun vi wr => ∃ i : Nat, vi = .int .i64 i ∧ i ≤ 8 ∧ Hid (Below W2.heap.size W2 wr) ∧ Hid (t.kind = 2 → ∀ j, j < i → t.text ≠ (wordsT.getD j (nil0, 0, false)).1)) (fun vi _ => 8 - (intOf vi).toNat)
  case atStart => exact ⟨0, rfl, by omega, Lib.hid (Below.refl _ _), Lib.hid (fun _ j h => absurd h (by omega))⟩
  case round =>
    obtain ⟨i, rfl, hi, HBL, HNE⟩ := hrel
    have hsz := HBL.out.size
    have hbwr : Below W.heap.size W wr := by have := HbW.out; have h2 := HBL.out; exact Below.trans (by rw [← HBW.out]; exact this) (h2.mono (by have := HBW.out; omega))
    have hRr := HB.out.below hbwr
    obtain ⟨c0, c1, c2, c3, c4, c5, c6⟩ := rdb_cell hRr
    have HRd := Lib.hid (HR0.out.below hbwr); have HOr := Lib.hid (HO.out.below hbwr); have HBwr := Lib.hid hbwr
    have HRZr := Lib.hid ((HBL.out.block B (by omega)).trans HRZ.out)
    clear hRr hbwr
    by_cases hlt : i < 8
    · obtain ⟨x0, x1, x2⟩ := words_blk ((HBL.out.block (B + 1) (by omega)).trans HW0.out) i hlt
      obtain ⟨x, hx⟩ : ∃ x, x = wordsT.getD i (nil0, 0, false) := ⟨_, rfl⟩
      rw [← hx] at x0 x1 x2
      have HX := Lib.hid hx; clear hx
      obtain ⟨xt, xk, xn⟩ := x
      dsimp only at x0 x1 x2
      have a1 := cell_past (.cells #[.string xt, .int .i64 xk, .bool xn] 112) c1
      have a2 := cell_past (.cells #[.string xt, .int .i64 xk, .bool xn] 112) c2
      by_cases hk : t.kind = 2
      · have bk : (t.kind != 2) = false := by rw [bne_eq_false_iff_eq]; exact hk
        by_cases hxt : t.text = xt
        · have hv : verdictP ep (t :: rest) = bnd (stepP ep (t :: rest)) (fun L1 => if xn = true then bnd (kindP ep 3 L1) (fun p => .ok (⟨xk, p.1.num⟩, p.2)) else .ok (⟨xk, 0⟩, L1)) := by
            have := find_some (x := t.text) hlt (HNE.out hk) (by rw [← HX.out]; exact hxt)
            rw [← HX.out] at this
            unfold verdictP
            show (if t.kind = 2 then (match wordsT.find? (fun y => decide (t.text = y.1)) with | some (_, k, n) => _ | none => _) else _) = _
            rw [if_pos hk, this]
          have HV := Lib.hid hv; clear hv
          have bt : (t.text.toList == xt.toList) = true := by rw [hxt]; exact beq_self_eq_true _
          have bt' : (t.text.toList != xt.toList) = false := by rw [hxt]; simp
          have HS := Lib.hid (fun Y (h : Below wr.heap.size wr Y) => step_any s ep g (t :: rest) d w0 Y (HOr.out.below h) (HRd.out.below h) (by show t.kind ≠ 1; omega))
          clear hk hxt
          go_wp2
          go_quiet (fail)
          have hY : Below wr.heap.size wr ((wr.alloc (.cells #[.string xt, .int .i64 xk, .bool xn] 112)).drewN nq) := pw_below_drewN ((Below.refl _ wr).alloc (Nat.le_refl _) _) _
          have hwb : ((wr.alloc (.cells #[.string xt, .int .i64 xk, .bool xn] 112)).drewN nq).heap[wr.heap.size]? = some (.cells #[.string xt, .int .i64 xk, .bool xn] 112 (0, 0)) := by
            rw [World.heap_drewN]; exact new_blk wr _ _
          have HY := Lib.hid hY; have HWB := Lib.hid hwb; clear hY hwb
          cases hs : stepP ep (t :: rest) with
          | error p =>
            have HSE := Lib.hid hs; clear hs
            go_wp2_with fail
            refine (HS.out _ HY.out).mono ?_
            rintro e W3 h
            obtain ⟨rfl, hc⟩ := h.err HSE.out
            go_wp2
            exact ⟨rfl, Outs.mk_err (by rw [HV.out, HSE.out]; rfl) rfl (((Chg.of_below HBwr.out _).trans (Chg.of_below HY.out (fun k => k = g)) (fun k e => .inl e)).trans hc (fun k e => .inl e))⟩
          | ok L1 =>
            have HSE := Lib.hid hs; clear hs
            go_wp2_with fail
            refine (HS.out _ HY.out).mono ?_
            rintro e W3 h
            obtain ⟨⟨rfl, hR3⟩, hc⟩ := h.ok HSE.out
            obtain ⟨y0, y1, y2, yf⟩ := blk3 (chg_block hc HWB.out (by omega))
            have hz3 := chg_block hc ((HY.out.block B (by omega)).trans HRZr.out) (by omega)
            have hcW : Chg (fun k => k = g) W W3 := ((Chg.of_below HBwr.out _).trans (Chg.of_below HY.out (fun k => k = g)) (fun k e => .inl e)).trans hc (fun k e => .inl e)
            have hs3 := hc.size
            have hsY := HY.out.size
            have hB3 : B < W3.heap.size := by omega
            have hvb := new_blk W3 #[.int .i64 xk, .int .u64 0] 26
            have hz4 := blk_past (.cells #[.int .i64 xk, .int .u64 0] 26) hz3
            have hY4 : Below W3.heap.size W3 (W3.alloc (.cells #[.int .i64 xk, .int .u64 0] 26)) := (Below.refl _ W3).alloc (Nat.le_refl _) _
            obtain ⟨z0, z1, zf⟩ := blk2 hz4
            obtain ⟨p0, p1, pf⟩ := blk2 hz3
            have y2' := cell_past (.cells #[.int .i64 xk, .int .u64 0] 26) y2
            have HZ3 := Lib.hid hz3; have HCW := Lib.hid hcW; have HR3 := Lib.hid hR3; have HY4 := Lib.hid hY4; have HZ4 := Lib.hid hz4; have HVB := Lib.hid hvb
            clear hcW hR3 hY4 hc hz3 hz4 hvb x0 x1 x2 a1 a2 c0 c1 c2 c3 c4 c5 c6
            cases xn with
            | false =>
              go_wp2
              have hB5 := blk_past (.cells #[.int .i64 xk, .int .u64 0] 26) (blk_set (blk_set HZ3.out 0 (.int .i64 xk)) 1 (.int .u64 0))
              obtain ⟨r0, r1, rf⟩ := blk2 hB5
              refine bodyPost_ret (v := vdVal ⟨xk, 0⟩) (by simp [results, Tryz.results58, go_sem, r0, r1, vdVal]) rfl ?_
              have hcs := (HCW.out.set1 B 0 (by have := HBW.out; omega) (.int .i64 xk)).set1 B 1 (by have := HBW.out; omega) (.int .u64 0)
              have hal := (Below.refl ((W3.setCell ⟨B, 0, none⟩ (.int .i64 xk)).setCell ⟨B, 1, none⟩ (.int .u64 0)).heap.size ((W3.setCell ⟨B, 0, none⟩ (.int .i64 xk)).setCell ⟨B, 1, none⟩ (.int .u64 0))).alloc (Nat.le_refl _) (.cells #[.int .i64 xk, .int .u64 0] 26)
              exact Outs.mk_ok (by rw [HV.out, HSE.out]; rfl) ⟨rfl, ((HR3.out.far B 0 (by omega) _).far B 1 (by omega) _).below hal⟩ (hcs.trans (Chg.of_below hal (fun k => k = g)) (fun k e => .inl e))
            | true =>
              have HK := Lib.hid (kind_any s ep g L1 d 3 w0 _ ((HO.out.chg HCW.out).below HY4.out) (HR3.out.below HY4.out))
              cases hs2 : kindP ep 3 L1 with
              | error p =>
                have HSE2 := Lib.hid hs2; clear hs2
                go_wp2_with fail
                refine HK.out.mono ?_
                rintro e W5 h
                obtain ⟨rfl, hc⟩ := h.err HSE2.out
                go_wp2
                exact ⟨rfl, Outs.mk_err (by rw [HV.out, HSE.out]; show bnd (kindP ep 3 L1) _ = _; rw [HSE2.out]; rfl) rfl ((HCW.out.trans (Chg.of_below HY4.out (fun k => k = g)) (fun k e => .inl e)).trans hc (fun k e => .inl e))⟩
              | ok p =>
                have HSE2 := Lib.hid hs2; clear hs2
                go_wp2_with fail
                refine HK.out.mono ?_
                rintro e W5 h
                obtain ⟨⟨rfl, hR5⟩, hc⟩ := h.ok HSE2.out
                have hz5 := chg_block hc HZ4.out (by omega)
                have hv5 := chg_block hc HVB.out (by omega)
                obtain ⟨u0, u1, uf⟩ := blk2 hz5
                obtain ⟨v0, v1, vf⟩ := blk2 hv5
                have hv6 := blk_set hv5 1 (.int .u64 p.1.num)
                have hne : (W3.heap.size = B) = False := by simp; omega
                have HZ5 := Lib.hid hz5; have HC5 := Lib.hid hc; have HR5 := Lib.hid hR5
                clear hz5 hv5 hc hR5 hv6 z0 z1 zf p0 p1 pf y0 y1 y2 yf y2'
                unfold tkVal
                go_wp2
                have hb6 := blk_set (blk_set ((Below.heap_setCell W5 ⟨W3.heap.size, 1, none⟩ (.int .u64 p.1.num) B (by show B ≠ W3.heap.size; omega)).trans HZ5.out) 0 (.int .i64 xk)) 1 (.int .u64 p.1.num)
                obtain ⟨r0, r1, rf⟩ := blk2 hb6
                refine bodyPost_ret (v := vdVal ⟨xk, p.1.num⟩) (by simp [results, Tryz.results58, go_sem, r0, r1, vdVal]) rfl ?_
                refine Outs.mk_ok (by rw [HV.out, HSE.out]; show bnd (kindP ep 3 L1) _ = _; rw [HSE2.out]; rfl) ⟨rfl, ?_⟩ (((((HCW.out.trans (Chg.of_below HY4.out (fun k => k = g)) (fun k e => .inl e)).trans HC5.out (fun k e => .inl e)).set1 W3.heap.size 1 (by have := HCW.out.size; omega) _).set1 B 0 (by have := HBW.out; omega) _).set1 B 1 (by have := HBW.out; omega) _)
                exact ((HR5.out.far W3.heap.size 1 (by omega) _).far B 0 (by omega) _).far B 1 (by omega) _
        · have HNE2 : Hid (t.kind = 2 → ∀ j, j < i + 1 → t.text ≠ (wordsT.getD j (nil0, 0, false)).1) := Lib.hid (fun h2 j hj => by
            by_cases hji : j = i
            · subst hji; rw [← HX.out]; exact hxt
            · exact HNE.out h2 j (by omega))
          have bt := text_ne hxt
          have bt' : (t.text.toList != xt.toList) = true := by unfold bne; rw [bt]; rfl
          clear hk hxt
          go_wp2
          go_quiet (fail)
          go_wp2
          exact ⟨⟨i + 1, by go_num, by omega, Lib.hid (pw_below_drewN ((HBL.out).alloc hsz _) _), HNE2⟩, by simp [intOf]; omega⟩
      · have bk : (t.kind != 2) = true := by rw [bne_iff_ne]; exact hk
        have HNE2 : Hid (t.kind = 2 → ∀ j, j < i + 1 → t.text ≠ (wordsT.getD j (nil0, 0, false)).1) := Lib.hid (fun h2 => absurd h2 hk)
        clear hk
        go_wp2
        go_quiet (fail)
        go_wp2
        exact ⟨⟨i + 1, by go_num, by omega, Lib.hid (pw_below_drewN ((HBL.out).alloc hsz _) _), HNE2⟩, by simp [intOf]; omega⟩
    · have hv : verdictP ep (t :: rest) = .error (badP 61 (t :: rest)) := by
        unfold verdictP
        show (if t.kind = 2 then _ else _) = _
        by_cases hk : t.kind = 2
        · rw [if_pos hk]
          have := find_none (x := t.text) (fun j hj => HNE.out hk j (by omega))
          show (match wordsT.find? (fun y => decide (t.text = y.1)) with | some (_, k, n) => _ | none => _) = _
          rw [this]
        · rw [if_neg hk]
      have HV := Lib.hid hv; clear hv
      go_wp2_with fail
      refine (bad_any s ep g (t :: rest) d 61 wr HRd.out).mono ?_
      rintro e W3 ⟨he, rfl⟩
      unfold panics at he
      subst he
      go_wp2
      exact ⟨rfl, Outs.mk_err HV.out rfl (Chg.of_below HBwr.out _)⟩
end Go.Proofs.YtlmopoipjolbgaaGreatDoor.LexW
