/-
  lex.All and lex.List: the list that a loop over the iterator gathers.
-/
import Derived.Maps.OwnIn
import Derived.Test.YtlmopoipjolbgaaDoorLexF1
namespace Go.Proofs.YtlmopoipjolbgaaDoor.LexW
open Go.RowKit Go.Shelf Go.Proofs.YtlmopoipjolbgaaDoor.LexS Go.Proofs.YtlmopoipjolbgaaDoorW.PrintWords
set_option linter.unusedVariables false
set_option linter.unusedSimpArgs false
attribute [local go_sem] Oper.semAt_some

set_option maxHeartbeats 1000000 in
/-- **lex.All**: the text is boxed; the function value captures the box. -/
theorem all_any (s : ByteArray) (w : World) :
    Calls Tryd.prog 15 #[.string s] w fun e w' => e = .returned (.func (.func 35) #[] #[.pointer (some ⟨w.heap.size, 0, none⟩)]) ∧ w' = w.alloc (.cells #[.string s] 9) := by
  go_enter Tryd.func15, Tryd.ntmps15
  go_wp2
  go_ret
  exact ⟨rfl, rfl⟩

theorem all_stops (n : Nat) (hn : 1 ≤ n) (Bn Lb : Nat) (s : ByteArray) (w0 w : World) (hE : Env w0) (hbW : Below w0.heap.size w0 w) (hLb : Lb < w.heap.size) (hter : ∀ k, ¬ terr Lb w k) (hBx : Boxed w Bn 9 (.string s)) :
    SeqStopsK Fence.wide n Tryd.prog 35 #[.pointer (some ⟨Bn, 0, none⟩)] gencs (Kpg w0.heap.size Bn w.heap.size Lb) (fun ys => ys = gen s 0) (fun pre => pre <+: gen s 0) (gen s 0).length w := fun l J Jx W hW hJ hJx hY h0 => by
  have hBn := hBx.lt
  refine all1_in n hn l Bn w.heap.size Lb s w0 hE J Jx W.heap.size hJ hLb hBn hbW.size hY W hW.size (hbW.trans (hW.mono hbW.size)) ?_ ((hW.block Bn hBn).trans hBx) h0
  intro k ht
  exact absurd ((terr_of_block (hW.block Lb hLb) k).1 ht) (hter k)

/-- the law's book-keeping keeps the word -/
theorem kpg_b {n₀ Bn Lb : Nat} {w : World} (hn : n₀ ≤ w.heap.size) (hLb : Lb < w.heap.size) (hBn : Bn < w.heap.size) (W : World) (l : Nat) (o o' : Obj) (hl : w.heap.size ≤ l) (h : W.heap[l]? = some o) (hc : o.isCells = false) (_ : o.isWalk = false) : Kpg n₀ Bn w.heap.size Lb W (W.putObj l o') :=
  Kpg.of_turn hLb hBn hn (by have := (Array.getElem?_eq_some_iff.1 h).1; omega) (grownBy_putObj' W l o') (fun r e => by cases e; exact ⟨hl, fun o2 h2 => by rw [h] at h2; cases h2; exact hc⟩)

/-- a token's box -/
def TkBox (W : World) (B : Nat) (x : Tk) : Prop := W.heap[B]? = some (.cells (tkCells x).toArray 38 (0, 0))
theorem TkBox.lt {W : World} {B : Nat} {x : Tk} (h : TkBox W B x) : B < W.heap.size := (Array.getElem?_eq_some_iff.1 h).1
theorem TkBox.kept {W W' : World} {row : Option Nat} {B : Nat} {x : Tk} (h : TkBox W B x) (hg : W.grownBy W' row) (hne : some B ≠ row) : TkBox W' B x := (hg.block B h.lt hne).trans h

/-- a list of tokens abides whatever turns no cells -/
theorem TkRow.turn {W W' : World} {row : Option Nat} {base : Nat} {v : Value} {l : List Tk} (h : TkRow W base v l) (hg : W.grownBy W' row) (hr : ∀ r, row = some r → ∃ o : Obj, W.heap[r]? = some o ∧ o.isCells = false) : TkRow W' base v l := by
  have h2 := Kd.R_bound h
  have h3 : kTk.R 38 W base (fun k => some k ≠ row) v l := Kd.R_mono h2 (fun k hk e => by
    obtain ⟨o, ho, hc⟩ := hr k e.symm
    obtain ⟨_, _, _, q, _, cells, hcs⟩ := hk
    rw [hcs] at ho; cases ho; cases hc)
  exact Kd.R_mono (Kd.R_grown h3 hg (fun _ hk => hk)) (fun _ _ => trivial)
theorem TkRow.set {W : World} {base : Nat} {v : Value} {l : List Tk} (h : TkRow W base v l) {g t : Nat} {u : Value} (hb : Boxed W g t u) (ht : t ≠ 38) (u' : Value) : TkRow (W.setCell ⟨g, 0, none⟩ u') base v l :=
  Kd.R_set h hb (fun q hq e => by
    have : q = 38 := by simpa [kTk, Kd.iso, Kd.pair, Kd.scalar, Kd.int, Kd.string] using hq
    exact ht (e.symm.trans this)) 0 u'
theorem TkRow.ne {W : World} {base : Nat} {v : Value} {l : List Tk} (h : TkRow W base v l) {g t : Nat} {u : Value} (hb : Boxed W g t u) (ht : t ≠ 38) : some g ≠ v.ownBlock := Kd.R_ne h hb (fun e => ht e.symm)

section
variable {P : Program} {ops : Array Oper} {rest : List Oper} {o : Oper} {a : Act} {Q : Exit → Act → World → Prop} {α : Type} {F : Fence} {nF : Nat}
/-- append(v, x) in a round -/
theorem R_append_in (d : Kd α) {W : World} (base : Nat) (hgd : o.guard = none) (s x : Operand) (t e : TypeId) (z : Value) (bytes : Nat)
    (ho : o.op = .call { callee := .builtin .append, args := #[s, x], argTypes := #[t, t] })
    (ht : P.underlying t = some (.slice e)) (hinfo : (P.info? e).map (fun i => (i.zero, i.size, i.bytes)) = some (some z, d.sz, bytes)) (hz : z.cells.size = d.sz) (hs0 : 0 < d.sz)
    (v : Value) (xs : List α) (p : α) (cs : List Value) (ok okp : Nat → Prop) (hs : a.eval s = v) (hx : a.eval x = .slice (some ⟨W.heap.size, 0, none⟩) 1 1) (hp : d.M W base okp p cs) (hokp : ∀ k, okp k → ok k ∧ some k ≠ v.ownBlock) (hfresh : ∀ k, W.heap.size ≤ k → ok k)
    (HO : d.R e W base ok v xs) (hbase : base ≤ W.heap.size) (hl : (xs.length + 1) * bytes ≤ 140737488355328) (h63 : xs.length + 1 ≤ maxLen)
    (h : ∀ v1 w1, d.R e w1 base ok v1 (xs ++ [p]) → W.grownBy w1 v.ownBlock → (v1.ownBlock = v.ownBlock ∨ ∃ b, v1.ownBlock = some b ∧ W.heap.size ≤ b) → wpListIn F nF P ops Q rest (a.put o.dst v1) w1) :
    wpListIn F nF P ops Q (o :: rest) a (W.alloc (.cells cs.toArray e)) := by
  obtain ⟨h0, inner, hown, hr⟩ := HO
  obtain ⟨i0, hi, hz0, hz1, hz2⟩ := info_parts hinfo
  have hlen : cs.length = d.sz := d.K_len (d.K_of_M hp)
  refine wpListIn_append_own_at _ hgd s x t ho base e i0 z d.sz bytes ht hi hz0 hz1 hz2 hz hs0 v xs.length inner hs (hown.kept (World.grownBy_alloc W _ none) (by cases v.ownBlock <;> simp)) ⟨W.heap.size, 0, none⟩ 1 1 cs hx (by omega)
    (fun j u hj => by
      rw [add_plain]
      have hb : (W.alloc (.cells cs.toArray e)).heap[W.heap.size]? = some (.cells cs.toArray e (0, 0)) := World.alloc_heap_new W _
      rw [kept_cell hb j, ← hj]; simp)
    (d.K_one (d.K_of_M hp)) (by omega) (by omega) (by simp; omega) ?_
  intro v1 w1 hown1 hg1 _ hat1
  have hg : W.grownBy w1 v.ownBlock := by
    refine ⟨hg1.os, hg1.tape, hg1.output, ?_, fun k hk hne => ?_⟩
    · have := hg1.size; simp at this; omega
    · exact (hg1.block k (by simp; omega) hne).trans (Below.heap_alloc W _ k hk)
  have hat : v1.ownBlock = v.ownBlock ∨ ∃ b, v1.ownBlock = some b ∧ W.heap.size ≤ b := hat1.imp id (fun e => ⟨_, e, by simp⟩)
  exact h v1 w1 (Kd.R_appended h0 hr hp hokp hfresh hown1 hg hat) hg hat
end
end Go.Proofs.YtlmopoipjolbgaaDoor.LexW
