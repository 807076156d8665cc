/-
  The walks of ravelinlaw05: lives, LexNumbers.
-/
import Derived.Test.YtlmopoipjolbgaaDoorLexR3
namespace Go.Proofs.YtlmopoipjolbgaaDoor.LexW
open Go.RowKit Go.Shelf Go.Proofs.YtlmopoipjolbgaaDoor.LexS
set_option linter.unusedVariables false
set_option linter.unusedSimpArgs false

def livesText : ByteArray := ⟨#[32, 48, 120, 49, 102, 59]⟩
theorem lives_next : nextV livesText 0 = (3, livesText.extract 1 5, 31, 1, 5, 0) := by decide +kernel

set_option maxHeartbeats 1000000 in
theorem lives_any (w : World) (hE : Env w) :
    Calls Tryd.prog 9 #[] w fun e w' => e = .returned (.bool true) ∧ Below w.heap.size w w' := by
  have hN := next_any livesText 0 w hE
  rw [lives_next] at hN
  have HN := Lib.hid hN; clear hN
  go_enter Tryd.func9, Tryd.ntmps9
  go_wp2_with fail
  refine HN.out.mono ?_
  rintro e w1 ⟨rfl, hb⟩
  unfold nextVal
  go_wp2
  go_ret
  exact ⟨rfl, hb.alloc hb.size _⟩

/-- a slice of strings, as the walk reads it -/
def StrsAt (w : World) (A : Option Addr) (n : Nat) (f : Nat → ByteArray) : Prop := 0 < n → ∃ b off, A = some ⟨b, off, none⟩ ∧ ∀ i, i < n → w.cell? ⟨b, off + i, none⟩ = some (.string (f i))
theorem StrsAt.below {w w1 : World} {A : Option Addr} {n : Nat} {f : Nat → ByteArray} (h : StrsAt w A n f) (hb : Below w.heap.size w w1) : StrsAt w1 A n f := fun hn => by
  obtain ⟨b, off, e, hc⟩ := h hn
  exact ⟨b, off, e, fun i hi => cell_stays hb (hc i hi)⟩

set_option maxHeartbeats 4000000 in
set_option maxRecDepth 100000 in
theorem numbers_any (A : Option Addr) (n c : Nat) (f : Nat → ByteArray) (w : World) (hE : Env w) (hn : n ≤ 9223372036854775807) (hA : StrsAt w A n f) (hf : ∀ i, i < n → (f i).size ≤ 140737488351232) :
    Calls Tryd.prog 3 #[.slice A n c] w fun e w' => e = .returned (.bool true) ∧ Below w.heap.size w w' := by
  have HA := Lib.hid hA; have HE := Lib.hid hE; clear hA hE
  have HF := Lib.hid hf; clear hf
  go_enter Tryd.func3, Tryd.ntmps3
  go_wp2_with fail
  refine (lives_any w HE.out).mono ?_
  rintro e w1 ⟨rfl, hb1⟩
  go_wp2
  go_loopw [4] (fun vi wr => ∃ k : Nat, vi = .int .i64 k ∧ k ≤ n ∧ Below w.heap.size w wr) (fun vi _ => n - (intOf vi).toNat)
  case atStart => exact ⟨0, rfl, Nat.zero_le _, hb1⟩
  case round =>
    clear hb1
    obtain ⟨k, rfl, hk, hbw⟩ := hrel
    by_cases hlt : k < n
    · obtain ⟨b, off, hA, hc⟩ := HA.out (by omega)
      have hck := hc k hlt
      have hsz := HF.out k hlt
      have hm : (f k).size ≤ maxLen := by unfold maxLen; omega
      clear hc
      subst hA
      obtain ⟨s, hs⟩ : ∃ s, s = f k := ⟨_, rfl⟩
      rw [← hs] at hck hsz hm
      clear hs
      have hEr : Env wr := HE.out.below hbw
      have hckr := cell_stays hbw hck
      have HE2 := Lib.hid hEr; clear hEr
      have HN := Lib.hid (number_any s wr hsz HE2.out)
      obtain ⟨x, hx⟩ : ∃ x, x = (numR s.data.toList).1 := ⟨_, rfl⟩
      obtain ⟨y, hy⟩ : ∃ y, y = (numR s.data.toList).2 := ⟨_, rfl⟩
      have HR := Lib.hid (fun W => rnumber_any s W hm)
      have HW := Lib.hid (fun W => word_any s W hm)
      have HV := Lib.hid (fun W => rword_any s W hm)
      rw [← hx, ← hy] at HN
      simp only [← hx, ← hy] at HR
      obtain ⟨z, hz⟩ : ∃ z, z = wordL s.data.toList := ⟨_, rfl⟩
      simp only [← hz] at HW HV
      clear hx hy hz
      go_wp2_with fail
      refine HN.out.mono ?_
      rintro e w2 ⟨rfl, hb2⟩
      have hck2 := cell_stays hb2 hckr
      have hbw2 := hbw.trans (hb2.mono hbw.size)
      clear hckr hbw hb2 HN
      go_wp2_with fail
      refine (HR.out _).mono ?_
      rintro e w3 ⟨rfl, rfl⟩
      go_wp2_with fail
      refine (HW.out _).mono ?_
      rintro e w3 ⟨rfl, rfl⟩
      go_wp2_with fail
      refine (HV.out _).mono ?_
      rintro e w3 ⟨rfl, rfl⟩
      go_wp2
      go_roundw
      case rel => exact ⟨k + 1, by go_num, by omega, hbw2⟩
      case measure => simp [intOf]; omega
    · obtain rfl : k = n := by omega
      go_wp2
      go_ret
      exact ⟨rfl, hbw⟩
end Go.Proofs.YtlmopoipjolbgaaDoor.LexW
