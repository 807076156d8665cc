/-
  The walk of the reference's Same: two lists of tokens are alike.
-/
import Derived.Test.YtlmopoipjolbgaaDoorLexR5
import Derived.BigQuiet
import Derived.WideShapes
namespace Go.Proofs.YtlmopoipjolbgaaDoor.LexW
open Go.RowKit Go.Shelf Go.Proofs.YtlmopoipjolbgaaDoor.LexS Go.Proofs.YtlmopoipjolbgaaDoorW.PrintWords
set_option linter.unusedVariables false
set_option linter.unusedSimpArgs false

theorem tk_ext {x y : Tk} (h0 : x.kind = y.kind) (h1 : x.text = y.text) (h2 : x.num = y.num) (h3 : x.at_ = y.at_) : x = y := by
  cases x; cases y; simp at *; exact ⟨h0, h1, h2, h3⟩
theorem same_end {l1 l2 : List Tk} (hl : l1.length = l2.length) (h : ∀ j, j < l1.length → l1.getD j tkz = l2.getD j tkz) : l1 = l2 := by
  apply List.ext_getElem hl
  intro j h1 h2
  have := h j h1
  simpa [h1, h2] using this
theorem text_ne {a b : ByteArray} (h : a ≠ b) : (a.toList == b.toList) = false := by
  rw [beq_eq_false_iff_ne]; intro e; rw [Lib.toList_data, Lib.toList_data] at e; exact h (WideShapes.bytes_inj e)

set_option maxHeartbeats 8000000 in
set_option maxRecDepth 100000 in
theorem same_any (A1 : Option Addr) (c1 : Nat) (l1 : List Tk) (A2 : Option Addr) (c2 : Nat) (l2 : List Tk) (w : World)
    (h1 : kTk.C w A1 l1.length l1) (h2 : kTk.C w A2 l2.length l2) :
    Calls Tryd.prog 16 #[.slice A1 l1.length c1, .slice A2 l2.length c2] w fun e w' => e = .returned (.bool (decide (l1 = l2))) ∧ Drawn0 w w' := by
  have hmax : l1.length ≤ 9223372036854775807 := h1.2.1
  have H1 := Lib.hid h1; have H2 := Lib.hid h2; clear h1 h2
  generalize hR : decide (l1 = l2) = R
  have HR := Lib.hid hR; clear hR
  by_cases hl : l1.length = l2.length
  · have hlb : ((l1.length : Int) != (l2.length : Int)) = false := by rw [bne_eq_false_iff_eq]; omega
    have HL := Lib.hid hl; clear hl
    go_enter Tryd.func16, Tryd.ntmps16
    go_wp2
    go_loopw [5] (fun vi wr => ∃ k : Nat, vi = .int .i64 k ∧ k ≤ l1.length ∧ Drawn0 w wr ∧ Hid (∀ j, j < k → l1.getD j tkz = l2.getD j tkz)) (fun vi _ => l1.length - (intOf vi).toNat)
    case atStart => exact ⟨0, rfl, by omega, Drawn0.refl _, Lib.hid (fun j h => absurd h (by omega))⟩
    case round =>
      obtain ⟨k, rfl, hk, ⟨m, rfl⟩, HE⟩ := hrel
      by_cases hlt : k < l1.length
      · have hltb : decide ((k : Int) < (l1.length : Int)) = true := by simpa using hlt
        have hwr : wrap64 ((k : Int) + 1) = (k : Int) + 1 := by unfold wrap64; omega
        have hlt2 : k < l2.length := by rw [← HL.out]; exact hlt
        obtain ⟨a1, e1, x0, x1, x2, x3⟩ := tk_at H1.out k hlt
        obtain ⟨a2, e2, y0, y1, y2, y3⟩ := tk_at H2.out k hlt2
        obtain ⟨x, hx⟩ : ∃ x, x = l1.getD k tkz := ⟨_, rfl⟩
        obtain ⟨y, hy⟩ : ∃ y, y = l2.getD k tkz := ⟨_, rfl⟩
        rw [← hx] at x0 x1 x2 x3
        rw [← hy] at y0 y1 y2 y3
        have HX := Lib.hid hx; have HY := Lib.hid hy; clear hx hy
        cases e1; cases e2
        have hne : x ≠ y → decide (l1 = l2) = false := by
          intro h; rw [decide_eq_false_iff_not]; intro e; apply h; rw [HX.out, HY.out, e]
        have HNE := Lib.hid hne; clear hne
        by_cases hk0 : x.kind = y.kind
        · have hb0 : (x.kind != y.kind) = false := by rw [bne_eq_false_iff_eq]; exact hk0
          by_cases hk1 : x.text = y.text
          · have hb1 : (x.text.toList == y.text.toList) = true := by rw [hk1]; exact beq_self_eq_true _
            have hb1' : (x.text.toList != y.text.toList) = false := by rw [hk1]; simp
            by_cases hk2 : x.num = y.num
            · have hb2 : (x.num != y.num) = false := by rw [bne_eq_false_iff_eq]; exact hk2
              by_cases hk3 : x.at_ = y.at_
              · have hb3 : (x.at_ != y.at_) = false := by rw [bne_eq_false_iff_eq]; exact hk3
                have HE2 : Hid (∀ j, j < k + 1 → l1.getD j tkz = l2.getD j tkz) := Lib.hid (fun j hj => by
                  by_cases h : j = k
                  · subst h; rw [← HX.out, ← HY.out]; exact tk_ext hk0 hk1 hk2 hk3
                  · exact HE.out j (by omega))
                clear hk0 hk1 hk2 hk3 HE
                go_wp2
                repeat (go_quiet (fail); try go_wp2)
                go_roundw
                case rel => exact ⟨k + 1, by simp, by omega, ⟨⟨_, rfl⟩⟩, HE2⟩
                case measure => simp [intOf]; omega
              · have hb3 : (x.at_ != y.at_) = true := by rw [bne_iff_ne]; exact hk3
                have HV := Lib.hid (HNE.out (fun e => hk3 (by rw [e])))
                clear hk0 hk1 hk2 hk3
                go_wp2
                repeat (go_quiet (fail); try go_wp2)
                go_ret
                exact ⟨by rw [← HR.out, HV.out]; rfl, (show Drawn0 w (w.drewN m) from ⟨⟨m, rfl⟩⟩).step _⟩
            · have hb2 : (x.num != y.num) = true := by rw [bne_iff_ne]; exact hk2
              have HV := Lib.hid (HNE.out (fun e => hk2 (by rw [e])))
              clear hk0 hk1 hk2
              go_wp2
              repeat (go_quiet (fail); try go_wp2)
              go_ret
              exact ⟨by rw [← HR.out, HV.out]; rfl, (show Drawn0 w (w.drewN m) from ⟨⟨m, rfl⟩⟩).step _⟩
          · have hb1 := text_ne hk1
            have hb1' : (x.text.toList != y.text.toList) = true := by unfold bne; rw [hb1]; rfl
            have HV := Lib.hid (HNE.out (fun e => hk1 (by rw [e])))
            clear hk0 hk1
            go_wp2
            repeat (go_quiet (fail); try go_wp2)
            go_ret
            exact ⟨by rw [← HR.out, HV.out]; rfl, (show Drawn0 w (w.drewN m) from ⟨⟨m, rfl⟩⟩).step _⟩
        · have hb0 : (x.kind != y.kind) = true := by rw [bne_iff_ne]; exact hk0
          have HV := Lib.hid (HNE.out (fun e => hk0 (by rw [e])))
          clear hk0
          go_wp2
          repeat (go_quiet (fail); try go_wp2)
          go_ret
          exact ⟨by rw [← HR.out, HV.out]; rfl, (show Drawn0 w (w.drewN m) from ⟨⟨m, rfl⟩⟩).step _⟩
      · have hltb : decide ((k : Int) < (l1.length : Int)) = false := by simpa using hlt
        have HV : Hid (decide (l1 = l2) = true) := Lib.hid (by rw [decide_eq_true_eq]; exact same_end HL.out (fun j hj => HE.out j (by omega)))
        have hle : l1.length ≤ k := by omega
        clear hlt hltb
        go_wp2
        go_ret
        exact ⟨by rw [← HR.out, HV.out]; rfl, (show Drawn0 w (w.drewN m) from ⟨⟨m, rfl⟩⟩)⟩
  · have hlb : ((l1.length : Int) != (l2.length : Int)) = true := by rw [bne_iff_ne]; omega
    have HV : Hid (decide (l1 = l2) = false) := Lib.hid (by rw [decide_eq_false_iff_not]; intro e; exact hl (by rw [e]))
    clear hl
    go_enter Tryd.func16, Tryd.ntmps16
    go_wp2
    go_ret
    exact ⟨by rw [← HR.out, HV.out]; rfl, Drawn0.refl _⟩
end Go.Proofs.YtlmopoipjolbgaaDoor.LexW
