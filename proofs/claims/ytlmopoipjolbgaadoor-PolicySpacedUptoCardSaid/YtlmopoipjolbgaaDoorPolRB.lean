/-
  Layer 6 (policy): what stands between and and or: the walk.
-/
import Derived.Test.YtlmopoipjolbgaaDoorPolRA
namespace Go.Proofs.YtlmopoipjolbgaaDoor.LexW
open Go.RowKit Go.Shelf Go.Proofs.YtlmopoipjolbgaaDoor.LexS Go.Proofs.YtlmopoipjolbgaaDoorW.PrintWords
set_option linter.unusedVariables false
set_option linter.unusedSimpArgs false

theorem enters_not : Enters Tryd.prog 86 := enters_of Tryd.func86 (by kernel_rfl) rfl
theorem enters_open : Enters Tryd.prog 87 := enters_of Tryd.func87 (by kernel_rfl) rfl
/-- the world in which one reads -/
abbrev oneW (W : World) (g : Nat) : World := (W.alloc (.cells #[.pointer (some ⟨g, 0, none⟩)] 78)).alloc exZero
theorem oneW_below (W : World) (g : Nat) : Below W.heap.size W (oneW W g) := ((Below.refl W.heap.size W).alloc (Nat.le_refl _) _).alloc (by simp) _
theorem oneW_zero (W : World) (g : Nat) : (oneW W g).heap[W.heap.size + 1]? = some (.cells #[.int .i64 0, .slice none 0 0, .int .i64 0, .int .u64 0, .int .i64 0, .int .u64 0] 58 (0, 0)) := new_blk' (by simp) _ _
theorem oneW_held (W : World) (g : Nat) : Held (oneW W g) W.heap.size g := blk_past exZero (new_blk W _ _)
theorem oneW_size (W : World) (g : Nat) : (oneW W g).heap.size = W.heap.size + 2 := by simp

set_option maxRecDepth 100000 in
set_option maxHeartbeats 1000000 in
/-- a not, or a (: what nested comes to is handed on -/
theorem one_nested (s : ByteArray) (ep : EP) (g : Nat) (L : List Tk) (d : Int) (w0 W : World) (res : Rd Ex) (hO : Okw w0 g W) (hR : Rdr s ep g L d W)
    (hn : isT sNot (hdT L) = true ∨ (isT sNot (hdT L) = false ∧ isT sOpen (hdT L) = true))
    (hnest : ∀ f, f = (if isT sNot (hdT L) then 86 else 87) → Calls Tryd.prog 85 #[.pointer (some ⟨g, 0, none⟩), .func (.func f) #[] #[.pointer (some ⟨W.heap.size, 0, none⟩)]] (oneW W g) (Outs g (oneW W g) res (ExOut s ep g d (oneW W g).heap.size))) :
    Calls Tryd.prog 67 #[.pointer (some ⟨g, 0, none⟩)] W (Outs g W res (ExOut s ep g d W.heap.size)) := by
  have hgW := hR.lt
  have hmf : ∀ (fn : Fn) (first cap : Array Value) (w : World), (Instr.makeFunc fn first cap).run Tryd.prog w = .ok (.func fn first cap) w := fun _ _ _ _ => rfl
  have hc := (oneW_held W g).cell
  have HI := Lib.hid (fun x => is_any s ep g L d x (oneW W g) (hR.below (oneW_below W g)))
  have HN := Lib.hid hnest
  clear hnest hO hR
  rcases hn with h1 | ⟨h1, h2⟩
  · have HN1 := Lib.hid (HN.out 86 (by rw [if_pos h1]))
    have HI1 := Lib.hid (HI.out sNot)
    rw [h1] at HI1
    clear h1 HN HI
    cases res with
    | error p =>
      go_enter Tryd.func67, Tryd.ntmps67
      go_wp2_with fail
      refine HI1.out.mono ?_
      rintro e W1 ⟨rfl, rfl⟩
      go_wp2_with fail
      refine HN1.out.mono ?_
      rintro e W2 h
      obtain ⟨rfl, hc2⟩ := h.err rfl
      go_wp2
      exact ⟨rfl, Outs.mk_err rfl rfl ((Chg.of_below (oneW_below W g) (fun k => k = g)).trans hc2 (fun k e => .inl e))⟩
    | ok p =>
      go_enter Tryd.func67, Tryd.ntmps67
      go_wp2_with fail
      refine HI1.out.mono ?_
      rintro e W1 ⟨rfl, rfl⟩
      go_wp2_with fail
      refine HN1.out.mono ?_
      rintro e W2 h
      obtain ⟨⟨v, rfl, hX, hR2⟩, hc2⟩ := h.ok rfl
      obtain ⟨A2, c2, rfl⟩ := Kd.R_slice hX
      have hz2 := chg_block hc2 (oneW_zero W g) (by omega)
      obtain ⟨z0, z1, z2, z3, z4, z5, zf⟩ := blk6 hz2
      have HX := Lib.hid hX; have HR2 := Lib.hid hR2; have HZ2 := Lib.hid hz2; have HC2 := Lib.hid ((Chg.of_below (oneW_below W g) (fun k => k = g)).trans hc2 (fun k e => .inl e))
      clear hX hR2 hz2 hc2
      unfold exAgg
      go_wp2
      obtain ⟨e1, e2, e3, e4⟩ := ex_end HZ2.out (by omega) hgW HX.out (by simp) HR2.out HC2.out
      obtain ⟨r0, r1, r2, r3, r4, r5, rf⟩ := blk6 e4
      refine bodyPost_ret (v := exAgg p.1 (.slice A2 p.1.f1.length c2)) (by simp [results, Tryd.results67, go_sem, r0, r1, r2, r3, r4, r5]) rfl ?_
      exact Outs.mk_ok (b := p) rfl ⟨_, rfl, e1, e2⟩ e3
  · have HN1 := Lib.hid (HN.out 87 (by rw [if_neg (by rw [h1]; simp)]))
    have HI1 := Lib.hid (HI.out sNot)
    have HI2 := Lib.hid (HI.out sOpen)
    rw [h1] at HI1
    rw [h2] at HI2
    clear h1 h2 HN HI
    cases res with
    | error p =>
      go_enter Tryd.func67, Tryd.ntmps67
      go_wp2_with fail
      refine HI1.out.mono ?_
      rintro e W1 ⟨rfl, rfl⟩
      go_wp2_with fail
      refine HI2.out.mono ?_
      rintro e W1 ⟨rfl, rfl⟩
      go_wp2_with fail
      refine HN1.out.mono ?_
      rintro e W2 h
      obtain ⟨rfl, hc2⟩ := h.err rfl
      go_wp2
      exact ⟨rfl, Outs.mk_err rfl rfl ((Chg.of_below (oneW_below W g) (fun k => k = g)).trans hc2 (fun k e => .inl e))⟩
    | ok p =>
      go_enter Tryd.func67, Tryd.ntmps67
      go_wp2_with fail
      refine HI1.out.mono ?_
      rintro e W1 ⟨rfl, rfl⟩
      go_wp2_with fail
      refine HI2.out.mono ?_
      rintro e W1 ⟨rfl, rfl⟩
      go_wp2_with fail
      refine HN1.out.mono ?_
      rintro e W2 h
      obtain ⟨⟨v, rfl, hX, hR2⟩, hc2⟩ := h.ok rfl
      obtain ⟨A2, c2, rfl⟩ := Kd.R_slice hX
      have hz2 := chg_block hc2 (oneW_zero W g) (by omega)
      obtain ⟨z0, z1, z2, z3, z4, z5, zf⟩ := blk6 hz2
      have HX := Lib.hid hX; have HR2 := Lib.hid hR2; have HZ2 := Lib.hid hz2; have HC2 := Lib.hid ((Chg.of_below (oneW_below W g) (fun k => k = g)).trans hc2 (fun k e => .inl e))
      clear hX hR2 hz2 hc2
      unfold exAgg
      go_wp2
      obtain ⟨e1, e2, e3, e4⟩ := ex_end HZ2.out (by omega) hgW HX.out (by simp) HR2.out HC2.out
      obtain ⟨r0, r1, r2, r3, r4, r5, rf⟩ := blk6 e4
      refine bodyPost_ret (v := exAgg p.1 (.slice A2 p.1.f1.length c2)) (by simp [results, Tryd.results67, go_sem, r0, r1, r2, r3, r4, r5]) rfl ?_
      exact Outs.mk_ok (b := p) rfl ⟨_, rfl, e1, e2⟩ e3
end Go.Proofs.YtlmopoipjolbgaaDoor.LexW
