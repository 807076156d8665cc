/-
  Layer 6 (policy): the reader in memory; its step.
-/
import Derived.Deep.RegionWith
import Derived.Deep.CutRange
import Derived.Shelf.Abstract
import Derived.Test.YtlmopoipjolbgaaDoorLexR5
import Derived.Test.YtlmopoipjolbgaaDoorPolSpec
namespace Go.Proofs.YtlmopoipjolbgaaDoor.LexW
open Go.RowKit Go.Shelf Go.Proofs.YtlmopoipjolbgaaDoor.LexS Go.Proofs.YtlmopoipjolbgaaDoorW.PrintWords
set_option linter.unusedVariables false
set_option linter.unusedSimpArgs false

/-- what lay at W lies on, but for the blocks of S -/
structure Chg (S : Nat → Prop) (W W' : World) : Prop where
  os : W'.os = W.os
  tape : W'.tape = W.tape
  output : W'.output = W.output
  size : W.heap.size ≤ W'.heap.size
  block : ∀ k, k < W.heap.size → ¬ S k → W'.heap[k]? = W.heap[k]?
theorem Chg.refl (S : Nat → Prop) (W : World) : Chg S W W := ⟨rfl, rfl, rfl, Nat.le_refl _, fun _ _ _ => rfl⟩
theorem Chg.trans {S S' : Nat → Prop} {W W1 W2 : World} (h : Chg S W W1) (h2 : Chg S' W1 W2) (hS : ∀ k, S' k → S k ∨ W.heap.size ≤ k) : Chg S W W2 :=
  ⟨h2.os.trans h.os, h2.tape.trans h.tape, h2.output.trans h.output, Nat.le_trans h.size h2.size, fun k hk hn =>
    (h2.block k (Nat.lt_of_lt_of_le hk h.size) (fun e => (hS k e).elim hn (fun e2 => absurd hk (Nat.not_lt.2 e2)))).trans (h.block k hk hn)⟩
theorem Chg.of_below {W W' : World} (h : Below W.heap.size W W') (S : Nat → Prop) : Chg S W W' := ⟨h.os, h.tape, h.output, h.size, fun k hk _ => h.block k hk⟩
theorem Chg.of_alloc (W : World) (o : Obj) (S : Nat → Prop) : Chg S W (W.alloc o) := Chg.of_below ((Below.refl _ W).alloc (Nat.le_refl _) o) S
theorem Chg.of_set (W : World) (b j : Nat) (v : Value) : Chg (fun k => k = b) W (W.setCell ⟨b, j, none⟩ v) :=
  ⟨rfl, rfl, rfl, by simp, fun k _ hk => Below.heap_setCell _ _ _ k hk⟩
theorem Chg.below {S : Nat → Prop} {W W' : World} (h : Chg S W W') {B : Nat} (hB : B ≤ W.heap.size) (hS : ∀ k, S k → B ≤ k) : Below B W W' :=
  ⟨h.os, h.tape, h.output, h.size, fun k hk => h.block k (by omega) (fun e => by have := hS k e; omega)⟩

/-- the reader's block -/
def RdB (W : World) (g : Nat) (s : ByteArray) (t : Tk) (e d : Int) : Prop :=
  W.heap[g]? = some (.cells #[.string s, .int .i64 t.kind, .string t.text, .int .u64 t.num, .int .i64 t.at_, .int .i64 e, .int .i64 d] 94 (0, 0))
theorem RdB.lt {W : World} {g : Nat} {s : ByteArray} {t : Tk} {e d : Int} (h : RdB W g s t e d) : g < W.heap.size := (Array.getElem?_eq_some_iff.1 h).1
theorem rdb_cell {W : World} {g : Nat} {s : ByteArray} {t : Tk} {e d : Int} (h : RdB W g s t e d) : W.cell? ⟨g, 0, none⟩ = some (.string s) ∧ W.cell? ⟨g, 1, none⟩ = some (.int .i64 t.kind) ∧ W.cell? ⟨g, 2, none⟩ = some (.string t.text) ∧
    W.cell? ⟨g, 3, none⟩ = some (.int .u64 t.num) ∧ W.cell? ⟨g, 4, none⟩ = some (.int .i64 t.at_) ∧ W.cell? ⟨g, 5, none⟩ = some (.int .i64 e) ∧ W.cell? ⟨g, 6, none⟩ = some (.int .i64 d) := by
  refine ⟨?_, ?_, ?_, ?_, ?_, ?_, ?_⟩ <;> simp [World.cell?, show W.heap[g]? = _ from h]
theorem rdb_free {W : World} {g : Nat} {s : ByteArray} {t : Tk} {e d : Int} (h : RdB W g s t e d) (j : Nat) : W.frozen? ⟨g, j, none⟩ = false := by
  simp [World.frozen?, show W.heap[g]? = _ from h]
theorem RdB.below {W W' : World} {g : Nat} {s : ByteArray} {t : Tk} {e d : Int} (h : RdB W g s t e d) (hb : Below W.heap.size W W') : RdB W' g s t e d := (hb.block g h.lt).trans h

/-- the token that comes, and what lies behind it -/
def At (s : ByteArray) (ep : EP) (L : List Tk) (t : Tk) (e : Int) : Prop := ∃ (rest : List Tk) (k : Nat), L = t :: rest ∧ e = (k : Int) ∧ (t.kind ≠ 1 → toksA s k = (rest, ep))
/-- the reader stands at the tokens L -/
def Rdr (s : ByteArray) (ep : EP) (g : Nat) (L : List Tk) (d : Int) (W : World) : Prop := ∃ t e, RdB W g s t e d ∧ At s ep L t e

def wrongV (p : EP) : Value := .iface 76 (.agg #[.int .i64 p.1, .int .i64 p.2])
def panics (p : EP) : Ending := .panicked [{ v := wrongV p, recovered := false }]

theorem toksA_nil {s : ByteArray} {k : Nat} {ep : EP} (h : toksA s k = ([], ep)) : errOf (nextV s k) ≠ 0 ∧ ep = (errOf (nextV s k), placeOf (nextV s k)) := by
  by_cases he : errOf (nextV s k) = 0
  · exfalso
    obtain ⟨_, hk, ⟨h1, _⟩ | ⟨p, q, _, hkp, hpq, hq, h1, _, _, hpl⟩⟩ := next_ok s k he
    · rw [toksA_end he (by rw [h1])] at h; cases h
    · rw [toksA_more he h1 hpl (by omega)] at h; cases h
  · rw [toksA_err he] at h
    exact ⟨he, (congrArg Prod.snd h).symm⟩
theorem toksA_cons {s : ByteArray} {k : Nat} {ep : EP} {t : Tk} {r : List Tk} (h : toksA s k = (t :: r, ep)) : errOf (nextV s k) = 0 ∧ t = tokOf (nextV s k) ∧ At s ep (t :: r) t (placeOf (nextV s k)) := by
  by_cases he : errOf (nextV s k) = 0
  · obtain ⟨_, hk, ⟨h1, _⟩ | ⟨p, q, _, hkp, hpq, hq, h1, _, _, hpl⟩⟩ := next_ok s k he
    · rw [toksA_end he (by rw [h1])] at h
      obtain ⟨h2, h3⟩ := Prod.mk.inj h
      obtain ⟨h4, h5⟩ := List.cons.inj h2
      refine ⟨he, h4.symm, r, s.size, rfl, by rw [h1], fun hn => absurd ?_ hn⟩
      rw [← h4]; show (nextV s k).1 = 1; rw [h1]
    · rw [toksA_more he h1 hpl (by omega)] at h
      obtain ⟨h2, h3⟩ := Prod.mk.inj h
      obtain ⟨h4, h5⟩ := List.cons.inj h2
      refine ⟨he, h4.symm, r, q, rfl, hpl, fun _ => ?_⟩
      rw [← h5, ← h3]
  · rw [toksA_err he] at h; cases h

theorem cell_past {W : World} {a : Addr} {v : Value} (o : Obj) (h : W.cell? a = some v) : (W.alloc o).cell? a = some v := by
  exact cell_stays ((Below.refl _ W).alloc (Nat.le_refl _) o) h
theorem zero_stays {W w1 : World} (hb : Below (W.alloc (.cells #[.int .i64 0, .string ⟨#[]⟩, .int .u64 0, .int .i64 0] 38)).drew.heap.size (W.alloc (.cells #[.int .i64 0, .string ⟨#[]⟩, .int .u64 0, .int .i64 0] 38)).drew w1) :
    w1.cell? ⟨W.heap.size, 0, none⟩ = some (.int .i64 0) ∧ w1.cell? ⟨W.heap.size, 1, none⟩ = some (.string ⟨#[]⟩) ∧ w1.cell? ⟨W.heap.size, 2, none⟩ = some (.int .u64 0) ∧ w1.cell? ⟨W.heap.size, 3, none⟩ = some (.int .i64 0) ∧ ∀ j, w1.frozen? ⟨W.heap.size, j, none⟩ = false := by
  have h : w1.heap[W.heap.size]? = some (.cells #[.int .i64 0, .string ⟨#[]⟩, .int .u64 0, .int .i64 0] 38 (0, 0)) := (hb.block _ (by simp)).trans (new_blk W _ _)
  refine ⟨?_, ?_, ?_, ?_, fun j => ?_⟩ <;> simp [World.cell?, World.frozen?, h]

theorem zero_intro {W w1 : World} {Q : Prop} (hb : Below (W.alloc (.cells #[.int .i64 0, .string ⟨#[]⟩, .int .u64 0, .int .i64 0] 38)).drew.heap.size (W.alloc (.cells #[.int .i64 0, .string ⟨#[]⟩, .int .u64 0, .int .i64 0] 38)).drew w1)
    (h : w1.cell? ⟨W.heap.size, 0, none⟩ = some (.int .i64 0) → w1.cell? ⟨W.heap.size, 1, none⟩ = some (.string ⟨#[]⟩) → w1.cell? ⟨W.heap.size, 2, none⟩ = some (.int .u64 0) → w1.cell? ⟨W.heap.size, 3, none⟩ = some (.int .i64 0) → (∀ j, w1.frozen? ⟨W.heap.size, j, none⟩ = false) → Q) : Q :=
  let ⟨a, b, c, d, e⟩ := zero_stays hb; h a b c d e

theorem blk_set {w : World} {g : Nat} {cs : Array Value} {t : TypeId} (h : w.heap[g]? = some (.cells cs t (0, 0))) (i : Nat) (v : Value) : (w.setCell ⟨g, i, none⟩ v).heap[g]? = some (.cells (cs.setIfInBounds i v) t (0, 0)) := heap_setCell_same w g i cs t v h
/-- behind the region in which Next is called -/
def StepMid (W : World) (x : Tk) (pl er : Int) (v2 v3 v4 : Value) (wc : World) : Prop := ∃ B, v2 = .pointer (some ⟨B, 0, none⟩) ∧ v3 = .int .i64 pl ∧ v4 = .int .i64 er ∧ W.heap.size ≤ B ∧ wc.heap[B]? = some (.cells (tkCells x).toArray 38 (0, 0)) ∧ Below W.heap.size W wc
theorem mid_new {W w1 : World} {kd : Int} {tx : ByteArray} {nm pa pl er : Int} (hb : Below W.drew.heap.size W.drew w1) : StepMid W ⟨kd, tx, nm, pa⟩ pl er (.pointer (some ⟨w1.heap.size, 0, none⟩)) (.int .i64 pl) (.int .i64 er) (w1.alloc (.cells #[.int .i64 kd, .string tx, .int .u64 nm, .int .i64 pa] 38)) :=
  ⟨_, rfl, rfl, rfl, hb.size, new_blk w1 _ _, ((Below.refl _ W).drew.trans hb).alloc hb.size _⟩
theorem mid_old {W w1 : World} {kd : Int} {tx : ByteArray} {nm pa pl er : Int} (hb : Below (W.alloc (.cells #[.int .i64 0, .string ⟨#[]⟩, .int .u64 0, .int .i64 0] 38)).drew.heap.size (W.alloc (.cells #[.int .i64 0, .string ⟨#[]⟩, .int .u64 0, .int .i64 0] 38)).drew w1) :
    StepMid W ⟨kd, tx, nm, pa⟩ pl er (.pointer (some ⟨W.heap.size, 0, none⟩)) (.int .i64 pl) (.int .i64 er) ((((w1.setCell ⟨W.heap.size, 0, none⟩ (.int .i64 kd)).setCell ⟨W.heap.size, 1, none⟩ (.string tx)).setCell ⟨W.heap.size, 2, none⟩ (.int .u64 nm)).setCell ⟨W.heap.size, 3, none⟩ (.int .i64 pa)) := by
  have h : w1.heap[W.heap.size]? = some (.cells #[.int .i64 0, .string ⟨#[]⟩, .int .u64 0, .int .i64 0] 38 (0, 0)) := (hb.block _ (by simp)).trans (new_blk W _ _)
  refine ⟨_, rfl, rfl, rfl, Nat.le_refl _, blk_set (blk_set (blk_set (blk_set h 0 _) 1 _) 2 _) 3 _, ?_⟩
  have h0 : Below W.heap.size W w1 := (((Below.refl _ W).alloc (Nat.le_refl _) _).drew).trans (hb.mono (by simp))
  exact (((h0.setCell (p := ⟨W.heap.size, 0, none⟩) (by simp) _).setCell (p := ⟨W.heap.size, 1, none⟩) (by simp) _).setCell (p := ⟨W.heap.size, 2, none⟩) (by simp) _).setCell (p := ⟨W.heap.size, 3, none⟩) (by simp) _

set_option maxRecDepth 100000 in
set_option maxHeartbeats 1000000 in
/-- **step, where a token comes** -/
theorem step_ok (s : ByteArray) (ep : EP) (g k : Nat) (t t' : Tk) (r : List Tk) (d : Int) (w0 W : World) (hE : Env w0) (hg : w0.heap.size ≤ g) (hb : Below w0.heap.size w0 W) (hR : RdB W g s t k d) (hT : toksA s k = (t' :: r, ep)) :
    Calls Tryd.prog 57 #[.pointer (some ⟨g, 0, none⟩)] W fun e W' => e = .returned (.tuple #[]) ∧ Rdr s ep g (t' :: r) d W' ∧ Chg (fun k => k = g) W W' := by
  obtain ⟨he, ht, hA⟩ := toksA_cons hT
  have HN := Lib.hid (next_any s k)
  generalize nextV s k = x at *
  obtain ⟨kd, tx, nm, pa, pl, er⟩ := x
  obtain rfl : er = 0 := he
  obtain ⟨c0, c1, c2, c3, c4, c5, c6⟩ := rdb_cell hR
  have f0 := rdb_free hR
  have a0 := cell_past (.cells #[.int .i64 0, .string ⟨#[]⟩, .int .u64 0, .int .i64 0] 38) c0
  have a5 := cell_past (.cells #[.int .i64 0, .string ⟨#[]⟩, .int .u64 0, .int .i64 0] 38) c5
  have HTK := Lib.hid ht; have HT := Lib.hid hT; have HA := Lib.hid hA; have HR := Lib.hid hR; have HB := Lib.hid hb
  unfold nextVal at HN
  have HEB : Hid (∀ W', Below W.heap.size W W' → Env W') := Lib.hid (fun W' h => hE.below (hb.trans (h.mono hb.size)))
  clear hT hA hR ht hE hb
  go_enter Tryd.func57, Tryd.ntmps57
  go_wp2
  go_cut [2, 3, 4] from 5 (fun v2 v3 v4 wc => StepMid W ⟨kd, tx, nm, pa⟩ pl 0 v2 v3 v4 wc)
  case first =>
    go_region_with (go_at_call 18; refine (HN.out _ (HEB.out _ (by first | exact (Below.refl _ _).drew | exact ((Below.refl _ _).alloc (Nat.le_refl _) _).drew | exact ((Below.refl _ _).drew).alloc (by simp) _))).mono ?_; rintro e w1 ⟨rfl, hb1⟩; first | (refine zero_intro hb1 ?_; intro z0 z1 z2 z3 zf) | skip)
    all_goals go_wp2_with fail
    all_goals go_meet
    all_goals first | with_reducible exact mid_new hb1 | with_reducible exact mid_old hb1
  case rest =>
    obtain ⟨B, rfl, rfl, rfl, hB, hBk, hbl⟩ := hcut
    have hR1 := HR.out.below hbl
    obtain ⟨d0, d1, d2, d3, d4, d5, d6⟩ := rdb_cell hR1
    have e0 := rdb_free hR1
    have b0 : wc.cell? ⟨B, 0, none⟩ = some (.int .i64 kd) := by simp [World.cell?, hBk, tkCells]
    have b1 : wc.cell? ⟨B, 1, none⟩ = some (.string tx) := by simp [World.cell?, hBk, tkCells]
    have b2 : wc.cell? ⟨B, 2, none⟩ = some (.int .u64 nm) := by simp [World.cell?, hBk, tkCells]
    have b3 : wc.cell? ⟨B, 3, none⟩ = some (.int .i64 pa) := by simp [World.cell?, hBk, tkCells]
    have HBL := Lib.hid hbl; have HR1 := Lib.hid hR1
    clear hBk hbl hR1 c0 c1 c2 c3 c4 c5 c6 f0 a0 a5 HN HEB HB
    go_wp2
    go_end0
    have hs : ∀ X : World, Chg (fun k => k = g) X (((((X.setCell ⟨g, 1, none⟩ (.int .i64 kd)).setCell ⟨g, 2, none⟩ (.string tx)).setCell ⟨g, 3, none⟩ (.int .u64 nm)).setCell ⟨g, 4, none⟩ (.int .i64 pa)).setCell ⟨g, 5, none⟩ (.int .i64 pl)) := fun X =>
      ((((Chg.of_set X g 1 _).trans (Chg.of_set _ g 2 _) (fun k e => .inl e)).trans (Chg.of_set _ g 3 _) (fun k e => .inl e)).trans (Chg.of_set _ g 4 _) (fun k e => .inl e)).trans (Chg.of_set _ g 5 _) (fun k e => .inl e)
    have hblk := blk_set (blk_set (blk_set (blk_set (blk_set HR1.out 1 (.int .i64 kd)) 2 (.string tx)) 3 (.int .u64 nm)) 4 (.int .i64 pa)) 5 (.int .i64 pl)
    refine ⟨rfl, ⟨t', pl, ?_, HA.out⟩, (Chg.of_below HBL.out _).trans (hs wc) (fun k e => .inl e)⟩
    rw [HTK.out]
    exact hblk
set_option maxRecDepth 100000 in
set_option maxHeartbeats 1000000 in
/-- **step, where something is wrong** -/
theorem step_err (s : ByteArray) (ep : EP) (g k : Nat) (t : Tk) (d : Int) (w0 W : World) (hE : Env w0) (hg : w0.heap.size ≤ g) (hb : Below w0.heap.size w0 W) (hR : RdB W g s t k d) (hT : toksA s k = ([], ep)) :
    Calls Tryd.prog 57 #[.pointer (some ⟨g, 0, none⟩)] W fun e W' => e = panics ep ∧ Chg (fun k => k = g) W W' := by
  obtain ⟨he, ht⟩ := toksA_nil hT
  have HN := Lib.hid (next_any s k)
  generalize nextV s k = x at *
  obtain ⟨kd, tx, nm, pa, pl, er⟩ := x
  have heb : (er != 0) = true := by rw [bne_iff_ne]; exact he
  clear he
  obtain ⟨c0, c1, c2, c3, c4, c5, c6⟩ := rdb_cell hR
  have f0 := rdb_free hR
  have a0 := cell_past (.cells #[.int .i64 0, .string ⟨#[]⟩, .int .u64 0, .int .i64 0] 38) c0
  have a5 := cell_past (.cells #[.int .i64 0, .string ⟨#[]⟩, .int .u64 0, .int .i64 0] 38) c5
  have HTK := Lib.hid ht; have HT := Lib.hid hT; have HR := Lib.hid hR; have HB := Lib.hid hb
  unfold nextVal at HN
  have HEB : Hid (∀ W', Below W.heap.size W W' → Env W') := Lib.hid (fun W' h => hE.below (hb.trans (h.mono hb.size)))
  clear hT hR ht hE hb
  go_enter Tryd.func57, Tryd.ntmps57
  go_wp2
  go_cut [2, 3, 4] from 5 (fun v2 v3 v4 wc => StepMid W ⟨kd, tx, nm, pa⟩ pl er v2 v3 v4 wc)
  case first =>
    go_region_with (go_at_call 18; refine (HN.out _ (HEB.out _ (by first | exact (Below.refl _ _).drew | exact ((Below.refl _ _).alloc (Nat.le_refl _) _).drew | exact ((Below.refl _ _).drew).alloc (by simp) _))).mono ?_; rintro e w1 ⟨rfl, hb1⟩; first | (refine zero_intro hb1 ?_; intro z0 z1 z2 z3 zf) | skip)
    all_goals go_wp2_with fail
    all_goals go_meet
    all_goals first | with_reducible exact mid_new hb1 | with_reducible exact mid_old hb1
  case rest =>
    obtain ⟨B, rfl, rfl, rfl, hB, hBk, hbl⟩ := hcut
    have hR1 := HR.out.below hbl
    obtain ⟨d0, d1, d2, d3, d4, d5, d6⟩ := rdb_cell hR1
    have e0 := rdb_free hR1
    have HBL := Lib.hid hbl; have HR1 := Lib.hid hR1
    clear hBk hbl hR1 c0 c1 c2 c3 c4 c5 c6 f0 a0 a5 HN HEB HB
    go_wp2
    exact ⟨rfl, by rw [HTK.out]; rfl, Chg.of_below HBL.out _⟩
end Go.Proofs.YtlmopoipjolbgaaDoor.LexW
