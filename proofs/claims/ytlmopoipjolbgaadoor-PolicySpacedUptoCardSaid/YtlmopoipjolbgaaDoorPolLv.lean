/-
  The walk of ravelinlaw06.lives.
-/
import Derived.Test.YtlmopoipjolbgaaDoorPolRH
import Derived.Test.YtlmopoipjolbgaaDoorLexGen
namespace Go.Proofs.YtlmopoipjolbgaaDoor.LexW
open Go.RowKit Go.Shelf Go.Proofs.YtlmopoipjolbgaaDoor.LexS Go.Proofs.YtlmopoipjolbgaaDoorW.PrintWords
set_option linter.unusedVariables false
set_option linter.unusedSimpArgs false

def lives06T : ByteArray := ⟨#[110, 111, 116, 32, 97, 114, 103, 49, 32, 38, 32, 55, 32, 62, 61, 32, 50]⟩
theorem lives06_expr : exprV lives06T = (⟨3, [⟨6, [], 1, 7, 6, 2⟩], 0, 0, 0, 0⟩, (0, 0)) := by kernel_rfl

theorem addr_add0 (ad : Addr) : ad.add 0 = ad := by
  obtain ⟨b, o, p⟩ := ad
  unfold Addr.add
  cases p <;> simp

set_option maxRecDepth 100000 in
set_option maxHeartbeats 1000000 in
theorem lives06_any (w : World) (hE : Env w) :
    Calls Tryd.prog 21 #[] w fun e w' => e = .returned (.bool true) ∧ Below w.heap.size w w' := by
  have HP := Lib.hid (pexpr_any lives06T w w hE (Below.refl _ _) (toks_len _))
  rw [lives06_expr] at HP
  clear hE
  go_enter Tryd.func21, Tryd.ntmps21
  go_wp2_with fail
  refine HP.out.mono ?_
  rintro e w1 ⟨⟨v, rfl, hX⟩, hb⟩
  obtain ⟨A, c, rfl, hlc, hC⟩ := Kd.R_reads hX
  have hal := (Below.refl w1.heap.size w1).alloc (Nat.le_refl _) (.cells #[.int .i64 3, .slice A 1 c, .int .i64 0, .int .u64 0, .int .i64 0, .int .u64 0] 58)
  have hC2 := Kd.C_below hC hal
  obtain ⟨ad, A1, c1, rfl, p0, p1, p2, p3, p4, p5, -, -⟩ := at_Ex hC2 (0 : Int) (by omega) (by decide)
  have hb2 := hb.trans (hal.mono hb.size)
  have HB := Lib.hid hb2
  clear hX hb hC hC2 hal hb2
  simp only [Int.toNat_zero, Nat.zero_mul] at p0 p1 p2 p3 p4 p5
  change _ = some (Value.int .i64 6) at p0
  change _ = some (Value.slice A1 0 c1) at p1
  change _ = some (Value.int .i64 1) at p2
  change _ = some (Value.int .u64 7) at p3
  change _ = some (Value.int .i64 6) at p4
  change _ = some (Value.int .u64 2) at p5
  have h0 : ad.add 0 = ad := addr_add0 ad
  rw [h0] at p0 p1 p2 p3 p4 p5
  clear h0
  go_wp2
  go_ret
  exact ⟨rfl, HB.out⟩
end Go.Proofs.YtlmopoipjolbgaaDoor.LexW
