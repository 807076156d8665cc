/-
  Layer 6 (policy): one, or several as one.
-/
import Derived.Test.YtlmopoipjolbgaaDoorPolR7
namespace Go.Proofs.YtlmopoipjolbgaaDoor.LexW
open Go.RowKit Go.Shelf Go.Proofs.YtlmopoipjolbgaaDoor.LexS Go.Proofs.YtlmopoipjolbgaaDoorW.PrintWords
set_option linter.unusedVariables false
set_option linter.unusedSimpArgs false

def JoinOut (base : Nat) (x : Ex) (e : Ending) (W' : World) : Prop := ∃ v, e = .returned (exAgg x v) ∧ ExRow W' base v x.f1
theorem joinE_one (op : Int) (x : Ex) : joinE op [x] = x := rfl
theorem joinE_many {op : Int} {l : List Ex} (h : l.length ≠ 1) : joinE op l = ⟨op, l, 0, 0, 0, 0⟩ := by
  match l with
  | [] => rfl
  | [x] => exact absurd rfl h
  | x :: y :: l => rfl
set_option maxRecDepth 100000 in
set_option maxHeartbeats 1000000 in
theorem joined_any (op : Int) (v : Value) (l : List Ex) (base : Nat) (W : World) (h : ExRow W base v l) :
    Calls Tryd.prog 65 #[.int .i64 op, v] W fun e W' => JoinOut base (joinE op l) e W' ∧ Below W.heap.size W W' := by
  obtain ⟨A, c, rfl⟩ := Kd.R_slice h
  have hal := (Below.refl W.heap.size W).alloc (Nat.le_refl _) exZero
  have hz1 := new_blk W #[.int .i64 0, .slice none 0 0, .int .i64 0, .int .u64 0, .int .i64 0, .int .u64 0] 58
  by_cases hl : l.length = 1
  · obtain ⟨x, rfl⟩ : ∃ x, l = [x] := by
      match l, hl with
      | [x], _ => exact ⟨x, rfl⟩
    obtain ⟨gb, hA⟩ : ∃ gb, A = some ⟨gb, 0, none⟩ := by
      obtain ⟨_, inner, ho, _⟩ := h
      rcases ho.2 with ⟨h1, h2⟩ | ⟨gb, cap, cur, h1, _⟩
      · cases h2
      · injection h1 with h1; exact ⟨gb, h1⟩
    subst hA
    obtain ⟨cs, hcl, hM, hcell, hfz⟩ := Kd.R_elem h x 0 (by omega) (by simp)
    have hM' : kEx.M W base (fun k => True ∧ k ≠ gb) x cs := hM
    obtain ⟨v1, rfl, hR⟩ := kEx_openM hM'
    have q0 : W.cell? ⟨gb, 0, none⟩ = some (.int .i64 x.f0) := by have := hcell 0 _ rfl; simpa [kEx] using this
    have q1 : W.cell? ⟨gb, 1, none⟩ = some v1 := by have := hcell 1 _ rfl; simpa [kEx] using this
    have q2 : W.cell? ⟨gb, 2, none⟩ = some (.int .i64 x.f2) := by have := hcell 2 _ rfl; simpa [kEx] using this
    have q3 : W.cell? ⟨gb, 3, none⟩ = some (.int .u64 x.f3) := by have := hcell 3 _ rfl; simpa [kEx] using this
    have q4 : W.cell? ⟨gb, 4, none⟩ = some (.int .i64 x.f4) := by have := hcell 4 _ rfl; simpa [kEx] using this
    have q5 : W.cell? ⟨gb, 5, none⟩ = some (.int .u64 x.f5) := by have := hcell 5 _ rfl; simpa [kEx] using this
    have hR2 : ExRow W base v1 x.f1 := Kd.R_mono hR (fun _ _ => trivial)
    obtain ⟨A1, c1, rfl⟩ := Kd.R_slice hR2
    have HR2 := Lib.hid hR2
    have a0 := cell_past exZero q0
    have a1 := cell_past exZero q1
    have a2 := cell_past exZero q2
    have a3 := cell_past exZero q3
    have a4 := cell_past exZero q4
    have a5 := cell_past exZero q5
    clear h hcell hfz hcl hM hM' hR hR2 hz1 hal hl
    go_enter Tryd.func65, Tryd.ntmps65
    go_wp2
    refine bodyPost_ret (v := exAgg x (.slice A1 x.f1.length c1)) (by simp [results, Tryd.results65, go_sem]) rfl ?_
    have hal := (Below.refl W.heap.size W).alloc (Nat.le_refl _) (.cells #[.int .i64 x.f0, .slice A1 x.f1.length c1, .int .i64 x.f2, .int .u64 x.f3, .int .i64 x.f4, .int .u64 x.f5] 58)
    exact ⟨⟨_, rfl, HR2.out.below hal⟩, hal⟩
  · have hlb : ((l.length : Int) == 1) = false := by rw [beq_eq_false_iff_ne]; omega
    have HJ := Lib.hid (joinE_many (op := op) hl)
    have H := Lib.hid h
    clear hl h hz1 hal
    go_enter Tryd.func65, Tryd.ntmps65
    go_wp2
    refine bodyPost_ret (v := exAgg ⟨op, l, 0, 0, 0, 0⟩ (.slice A l.length c)) (by simp [results, Tryd.results65, go_sem]) rfl ?_
    have hal := (Below.refl W.heap.size W).alloc (Nat.le_refl _) (.cells #[.int .i64 op, .slice A l.length c, .int .i64 0, .int .u64 0, .int .i64 0, .int .u64 0] 58)
    rw [HJ.out]
    exact ⟨⟨_, rfl, H.out.below hal⟩, hal⟩
end Go.Proofs.YtlmopoipjolbgaaDoor.LexW
