/-
  lex.All's iterator: what it hands over, whatever the round does.
-/
import Derived.RangeFuncNested
import Derived.RangeFuncBound
import Derived.RangeFuncCalls
import Derived.RangeFuncLeaves
import Derived.Shelf.Abstract
import Derived.Shelf.RegionOpen
import Derived.WalkKit
import Derived.OwnWalkIn
import Derived.TacticsInMore
import Derived.LoopNIn
import Derived.LoopIn
import Derived.Test.YtlmopoipjolbgaaDoorLexR6
import Derived.Test.YtlmopoipjolbgaaDoorLexGen
namespace Go.Proofs.YtlmopoipjolbgaaDoor.LexW
open Go.RowKit Go.Shelf Go.Proofs.YtlmopoipjolbgaaDoor.LexS Go.Proofs.YtlmopoipjolbgaaDoorW.PrintWords
set_option linter.unusedVariables false
set_option linter.unusedSimpArgs false

def tokAgg (x : Tk) : Value := .agg #[.int .i64 x.kind, .string x.text, .int .u64 x.num, .int .i64 x.at_]
def gencs (x : Tk × Int) : Array Value := #[tokAgg x.1, .int .i64 x.2]

/-- THE CALLER's GROUND: the block of the slice that its box Lb holds. -/
def terr (Lb : Nat) (W : World) (k : Nat) : Prop := ∃ v, W.cell? ⟨Lb, 0, none⟩ = some v ∧ v.ownBlock = some k
def WFb (Lb : Nat) (W : World) : Prop := ∀ k, terr Lb W k → k < W.heap.size
/-- WHAT A ROUND KEEPS: what lay below n₀; the iterator's text; every block of cells from B₁ on that is not the caller's ground. -/
structure Kpg (n₀ Bn B₁ Lb : Nat) (W W' : World) : Prop where
  below : Below n₀ W W'
  text : W'.heap[Bn]? = W.heap[Bn]?
  rest : WFb Lb W → WFb Lb W' ∧ ∀ k o, B₁ ≤ k → W.heap[k]? = some o → o.isCells = true → ¬ terr Lb W k → W'.heap[k]? = some o ∧ ¬ terr Lb W' k
theorem Kpg.trans {n₀ Bn B₁ Lb : Nat} {A B C : World} (h : Kpg n₀ Bn B₁ Lb A B) (k : Kpg n₀ Bn B₁ Lb B C) : Kpg n₀ Bn B₁ Lb A C :=
  ⟨h.below.trans k.below, k.text.trans h.text, fun hA => ⟨(k.rest (h.rest hA).1).1, fun i o hi ho hc ht => by
    obtain ⟨h1, h2⟩ := (h.rest hA).2 i o hi ho hc ht
    exact (k.rest (h.rest hA).1).2 i o hi h1 hc h2⟩⟩
theorem terr_of_block {Lb : Nat} {W W' : World} (h : W'.heap[Lb]? = W.heap[Lb]?) (k : Nat) : terr Lb W' k ↔ terr Lb W k := by
  have : W'.cell? ⟨Lb, 0, none⟩ = W.cell? ⟨Lb, 0, none⟩ := by unfold World.cell?; rw [h]
  unfold terr; rw [this]
theorem Kpg.refl (n₀ Bn B₁ Lb : Nat) (W : World) : Kpg n₀ Bn B₁ Lb W W := ⟨Below.refl _ _, rfl, fun h => ⟨h, fun _ _ _ h1 _ h2 => ⟨h1, h2⟩⟩⟩
/-- what turns at most one block at or beyond B₁ that is no cells' -/
theorem Kpg.of_turn {n₀ Bn B₁ Lb : Nat} (hLb : Lb < B₁) (hBn : Bn < B₁) (hn : n₀ ≤ B₁) {W W' : World} {row : Option Nat} (hB : B₁ ≤ W.heap.size) (hg : W.grownBy W' row) (hr : ∀ r, row = some r → B₁ ≤ r ∧ ∀ o, W.heap[r]? = some o → o.isCells = false) : Kpg n₀ Bn B₁ Lb W W' := by
  have hb : ∀ k, k < B₁ → W'.heap[k]? = W.heap[k]? := fun k hk => hg.block k (by omega) (fun e => by have := (hr k e.symm).1; omega)
  refine ⟨(Below.refl n₀ W).grown hg (by omega) (fun k e => by have := (hr k e).1; omega), hb Bn hBn, fun hw => ⟨fun k ht => ?_, fun k o hk ho hc ht => ⟨?_, ?_⟩⟩⟩
  · have := hw k ((terr_of_block (hb Lb hLb) k).1 ht)
    have := hg.size
    omega
  · refine (hg.block k (Array.getElem?_eq_some_iff.1 ho).1 (fun e => ?_)).trans ho
    rw [(hr k e.symm).2 o ho] at hc; cases hc
  · rw [terr_of_block (hb Lb hLb) k]; exact ht

/-- Next's turn, and the token's box -/
theorem Kpg.boxed {n₀ Bn B₁ Lb : Nat} (hLb : Lb < B₁) (hBn : Bn < B₁) (hn : n₀ ≤ B₁) {wr w1 : World} (hB : B₁ ≤ wr.heap.size) (hb1 : Below wr.heap.size wr w1) (hW : WFb Lb wr) (o : Obj) :
    Kpg n₀ Bn B₁ Lb wr (w1.alloc o) ∧ ¬ terr Lb (w1.alloc o) w1.heap.size := by
  have hs := hb1.size
  have k1 : Kpg n₀ Bn B₁ Lb wr w1 := Kpg.of_turn hLb hBn hn hB (grown_of_below hb1 none) (fun _ e => by cases e)
  have k2 : Kpg n₀ Bn B₁ Lb w1 (w1.alloc o) := Kpg.of_turn hLb hBn hn (by omega) (World.grownBy_alloc w1 o none) (fun _ e => by cases e)
  refine ⟨k1.trans k2, fun ht => ?_⟩
  have h1 : (w1.alloc o).heap[Lb]? = w1.heap[Lb]? := Below.heap_alloc w1 o Lb (by omega)
  have := (k1.rest hW).1 _ ((terr_of_block h1 _).1 ht)
  omega
theorem kept_cell {W : World} {b : Nat} {cs : Array Value} {t : TypeId} (h : W.heap[b]? = some (.cells cs t (0, 0))) (j : Nat) : W.cell? ⟨b, j, none⟩ = cs[j]? := by simp [World.cell?, h]

set_option maxRecDepth 100000 in
set_option maxHeartbeats 4000000 in
/-- **All's closure: whatever the round does that keeps its word.** -/
theorem all1_in (n : Nat) (hn : 1 ≤ n) (l Bn B₁ Lb : Nat) (s : ByteArray) (w0 : World) (hE : Env w0) (J Jx : List (Tk × Int) → World → Prop) (Bj : Nat) (hJ : AbidesFrom Bj J)
    (hLb : Lb < B₁) (hBn : Bn < B₁) (hn0 : w0.heap.size ≤ B₁)
    (hY : ∀ pre x W, J pre W → pre.length < (gen s 0).length → YieldAt Fence.wide (n - 1) Tryd.prog l (gencs x) W fun e W' =>
      (e = .returned (.bool true) ∧ J (pre ++ [x]) W' ∧ Kpg w0.heap.size Bn B₁ Lb W W') ∨ (e = .returned (.bool false) ∧ Jx (pre ++ [x]) W'))
    (W : World) (hB : B₁ ≤ W.heap.size) (hbW : Below w0.heap.size w0 W) (hWF : WFb Lb W) (hBx : Boxed W Bn 9 (.string s)) (h0 : J [] W) :
    CallsIn Fence.wide n Tryd.prog 35 #[.func (.yield l) #[] #[], .pointer (some ⟨Bn, 0, none⟩)] W fun e W' => (∃ v, e = .returned v) ∧
      ((∃ ys, ys = gen s 0 ∧ J ys W') ∨ (∃ pre, pre <+: gen s 0 ∧ Jx pre W')) := by
  have HE := Lib.hid hE; clear hE
  refine callsIn_of_wp Tryd.func35 rfl trivial ?_ rfl
  simp only [Tryd.ntmps35, List.size_toArray, List.length_cons, List.length_nil, Nat.reduceAdd, Nat.reduceSub, Array.replicate_succ, Array.replicate_zero, List.push_toArray, List.append_toArray, List.nil_append, List.cons_append]
  gi_wp2
  gi_loopw [3] (fun vi wr => ∃ (k : Nat) (pre : List (Tk × Int)), vi = .int .i64 k ∧ k ≤ s.size ∧ Hid (pre ++ gen s k = gen s 0) ∧ Hid (J pre wr) ∧ Hid (Below w0.heap.size w0 wr) ∧ Hid (B₁ ≤ wr.heap.size) ∧ Hid (WFb Lb wr) ∧ Hid (Boxed wr Bn 9 (.string s))) (fun vi _ => s.size - (intOf vi).toNat)
  case atStart => exact ⟨0, [], rfl, by omega, rfl, h0, hbW, hB, hWF, hBx⟩
  case round =>
    clear h0 hbW hB hWF hBx
    obtain ⟨k, pre, rfl, hk, HG, HJ, HB, HS, HW, HX⟩ := hrel
    have HN := Lib.hid (next_any s k wr (HE.out.below HB.out))
    have hbox := HX.out.cell
    obtain ⟨r, hr⟩ := gen_cons s k
    have hlen : pre.length < (gen s 0).length := by rw [← HG.out, hr]; simp
    have hitem : pre ++ (tokOf (nextV s k), errOf (nextV s k)) :: r = gen s 0 := by rw [← HG.out, hr]
    have hpre : pre ++ [(tokOf (nextV s k), errOf (nextV s k))] <+: gen s 0 := ⟨r, by rw [← hitem]; simp⟩
    by_cases he : errOf (nextV s k) = 0
    · obtain ⟨hs, _, hcase⟩ := next_ok s k he
      obtain ⟨x, hx⟩ : ∃ x, x = nextV s k := ⟨_, rfl⟩
      have he0 : x.2.2.2.2.2 = 0 := by rw [hx]; exact he
      rw [← hx] at HN hcase hpre
      have hfin : Hid ((x.1 = 1 ∧ pre ++ [(tokOf x, (0 : Int))] = gen s 0) ∨ (x.1 ≠ 1 ∧ ∃ q : Nat, k < q ∧ q ≤ s.size ∧ placeOf x = q ∧ (pre ++ [(tokOf x, (0 : Int))]) ++ gen s q = gen s 0)) := by
        rcases hcase with ⟨h1, _⟩ | ⟨p, q, _, hkp, hpq, hq, h1, _, _, hpl⟩
        · left
          have h2 : x.1 = 1 := by rw [h1]
          refine ⟨h2, ?_⟩
          rw [← HG.out, gen_end he (by rw [← hx]; exact h2), he, ← hx]
        · right
          refine ⟨h1, q, by omega, hq, hpl, ?_⟩
          rw [← HG.out, gen_more he (by rw [← hx]; exact h1) (by rw [← hx]; exact hpl) (by omega), he, ← hx]
          simp
      have HL := Lib.hid hlen; have HP := Lib.hid hpre
      clear hlen hitem hr hpre HG hcase he hx
      obtain ⟨kd, tx, nm, pa, pl, er⟩ := x
      obtain rfl : er = 0 := he0
      unfold nextVal at HN
      rcases hfin.out with ⟨h1, hF⟩ | ⟨h1, q, hkq, hq, hpl, hF⟩
      · obtain rfl : kd = 1 := h1
        have HF := Lib.hid hF; clear hF hfin
        gi_wp2_with (refine ⟨trivial, ?_⟩; gi_at_call 18; refine (callsIn_wide.2 HN.out).mono ?_; rintro e w1 ⟨rfl, hb1⟩; obtain ⟨K2, hnt⟩ := Kpg.boxed hLb hBn hn0 HS.out hb1 HW.out (.cells #[.int .i64 1, .string tx, .int .u64 nm, .int .i64 pa] 38); have hJ2 := hJ pre w1 (w1.alloc (.cells #[.int .i64 1, .string tx, .int .u64 nm, .int .i64 pa] 38)) none (hJ pre wr w1 none HJ.out (grown_of_below hb1 none) (fun _ e => by cases e)) (World.grownBy_alloc w1 _ none) (fun _ e => by cases e); obtain ⟨fn, tmps, assign, body, hy, hR⟩ := hY pre (tokOf (1, tx, nm, pa, pl, 0), 0) _ hJ2 HL.out; have HR := Lib.hid hR; clear hR; have HK2 := Lib.hid K2; have Hnt := Lib.hid hnt; clear K2 hnt hJ2; unfold gencs tokAgg tokOf at hy; dsimp only at hy)
        refine HR.out.mono ?_
        rintro e W3 (⟨rfl, hJ3, hk3⟩ | ⟨rfl, hJx3⟩)
        · have hc3 := kept_cell ((hk3.rest (HK2.out.rest HW.out).1).2 w1.heap.size _ (by have := hb1.size; have := HS.out; omega) (new_blk w1 _ _) rfl Hnt.out).1 0
          have HJ3 := Lib.hid hJ3; clear hJ3 hk3
          gi_wp2
          refine bodyPost_ret (results_none rfl _ _ _) rfl ?_
          exact ⟨⟨_, rfl⟩, .inl ⟨_, HF.out, HJ3.out⟩⟩
        · have HJ3 := Lib.hid hJx3; clear hJx3
          gi_wp2
          refine bodyPost_ret (results_none rfl _ _ _) rfl ?_
          exact ⟨⟨_, rfl⟩, .inr ⟨_, HP.out, HJ3.out⟩⟩
      · have h1b : (kd == 1) = false := by rw [beq_eq_false_iff_ne]; exact h1
        obtain rfl : pl = (q : Int) := hpl
        have HF := Lib.hid hF; clear hF hfin h1
        gi_wp2_with (refine ⟨trivial, ?_⟩; gi_at_call 18; refine (callsIn_wide.2 HN.out).mono ?_; rintro e w1 ⟨rfl, hb1⟩; obtain ⟨K2, hnt⟩ := Kpg.boxed hLb hBn hn0 HS.out hb1 HW.out (.cells #[.int .i64 kd, .string tx, .int .u64 nm, .int .i64 pa] 38); have hJ2 := hJ pre w1 (w1.alloc (.cells #[.int .i64 kd, .string tx, .int .u64 nm, .int .i64 pa] 38)) none (hJ pre wr w1 none HJ.out (grown_of_below hb1 none) (fun _ e => by cases e)) (World.grownBy_alloc w1 _ none) (fun _ e => by cases e); obtain ⟨fn, tmps, assign, body, hy, hR⟩ := hY pre (tokOf (kd, tx, nm, pa, (q : Int), 0), 0) _ hJ2 HL.out; have HR := Lib.hid hR; clear hR; have HK2 := Lib.hid K2; have Hnt := Lib.hid hnt; clear K2 hnt hJ2; unfold gencs tokAgg tokOf at hy; dsimp only at hy)
        refine HR.out.mono ?_
        rintro e W3 (⟨rfl, hJ3, hk3⟩ | ⟨rfl, hJx3⟩)
        · have hc3 := kept_cell ((hk3.rest (HK2.out.rest HW.out).1).2 w1.heap.size _ (by have := hb1.size; have := HS.out; omega) (new_blk w1 _ _) rfl Hnt.out).1 0
          have HK3 := Lib.hid (HK2.out.trans hk3)
          have HJ3 := Lib.hid hJ3; clear hJ3 hk3
          gi_wp2
          go_roundw
          case rel =>
            exact ⟨q, _, rfl, hq, HF.out, HJ3.out, HB.out.trans HK3.out.below, Nat.le_trans HS.out HK3.out.below.size, (HK3.out.rest HW.out).1, HK3.out.text.trans HX.out⟩
          case measure => simp [intOf]; omega
        · have HJ3 := Lib.hid hJx3; clear hJx3
          gi_wp2
          refine bodyPost_ret (results_none rfl _ _ _) rfl ?_
          exact ⟨⟨_, rfl⟩, .inr ⟨_, HP.out, HJ3.out⟩⟩
    · have hfin : pre ++ [(tokOf (nextV s k), errOf (nextV s k))] = gen s 0 := by rw [← HG.out, gen_err he]
      have HF := Lib.hid hfin; have HL := Lib.hid hlen; have HP := Lib.hid hpre
      clear hlen hitem hr hfin hpre HG
      generalize nextV s k = x at *
      obtain ⟨kd, tx, nm, pa, pl, er⟩ := x
      have he' : (er != 0) = true := by rw [bne_iff_ne]; exact he
      clear he
      unfold nextVal at HN
      gi_wp2_with (refine ⟨trivial, ?_⟩; gi_at_call 18; refine (callsIn_wide.2 HN.out).mono ?_; rintro e w1 ⟨rfl, hb1⟩; obtain ⟨K2, hnt⟩ := Kpg.boxed hLb hBn hn0 HS.out hb1 HW.out (.cells #[.int .i64 kd, .string tx, .int .u64 nm, .int .i64 pa] 38); have hJ2 := hJ pre w1 (w1.alloc (.cells #[.int .i64 kd, .string tx, .int .u64 nm, .int .i64 pa] 38)) none (hJ pre wr w1 none HJ.out (grown_of_below hb1 none) (fun _ e => by cases e)) (World.grownBy_alloc w1 _ none) (fun _ e => by cases e); obtain ⟨fn, tmps, assign, body, hy, hR⟩ := hY pre (tokOf (kd, tx, nm, pa, pl, er), er) _ hJ2 HL.out; have HR := Lib.hid hR; clear hR; have HK2 := Lib.hid K2; have Hnt := Lib.hid hnt; clear K2 hnt hJ2; unfold gencs tokAgg tokOf at hy; dsimp only at hy)
      refine HR.out.mono ?_
      rintro e W3 (⟨rfl, hJ3, hk3⟩ | ⟨rfl, hJx3⟩)
      · have HJ3 := Lib.hid hJ3; clear hJ3
        clear hk3
        gi_wp2
        refine bodyPost_ret (results_none rfl _ _ _) rfl ?_
        exact ⟨⟨_, rfl⟩, .inl ⟨_, HF.out, HJ3.out⟩⟩
      · have HJ3 := Lib.hid hJx3; clear hJx3
        gi_wp2
        refine bodyPost_ret (results_none rfl _ _ _) rfl ?_
        exact ⟨⟨_, rfl⟩, .inr ⟨_, HP.out, HJ3.out⟩⟩
end Go.Proofs.YtlmopoipjolbgaaDoor.LexW
