/-
  The walks of layer 5 (lex), fifth part: a text without the bytes of a set at its end.
-/
import Derived.Test.YtlmopoipjolbgaaDoorLexW4
import Derived.Lib.TrimAscii
namespace Go.Proofs.YtlmopoipjolbgaaDoor.LexW
open Go.RowKit Go.Shelf Go.Proofs.YtlmopoipjolbgaaDoor.LexS
set_option linter.unusedVariables false
set_option linter.unusedSimpArgs false

abbrev Tabs (w : World) : Prop := Lib.Utf8Tabs 2 3 w

theorem decodeL_high (l : List UInt8) (c : UInt8) (r : List UInt8) (h : l = c :: r) (hc : 128 ≤ c.toNat) : 128 ≤ (Lib.decodeL l).1 := by
  unfold Lib.decodeL
  have h0 : 0 < (⟨l.toArray⟩ : ByteArray).size := by subst h; show 0 < (c :: r).toArray.size; simp
  refine (decode_high _ 0 h0 ?_).1
  subst h
  exact hc
theorem last_high (l : List UInt8) (hne : l ≠ []) (h : 128 ≤ (l.getLast hne).toNat) : 128 ≤ (Lib.decodeLastL l).1 := by
  have hlen : 0 < l.length := List.length_pos_iff.2 hne
  have hg : l.getD (l.length - 1) 0 = l.getLast hne := by
    rw [List.getLast_eq_getElem, List.getD_eq_getElem?_getD, List.getElem?_eq_getElem (by omega)]; rfl
  unfold Lib.decodeLastL
  rw [if_neg hne, hg, if_neg (by omega)]
  simp only []
  split
  · rename_i hst
    have hlt := Lib.lastStart_lt l hne
    cases hd : l.drop (Lib.lastStart l) with
    | nil => have := congrArg List.length hd; simp at this; omega
    | cons c r =>
      by_cases hc : c.toNat < 128
      · exfalso
        rw [hd, Lib.decodeL_ascii _ _ hc] at hst
        simp only [] at hst
        have h1 : l.drop (Lib.lastStart l) = [l.getLast hne] := by
          rw [show Lib.lastStart l = l.length - 1 by omega]
          rw [List.drop_eq_getElem_cons (show l.length - 1 < l.length by omega), List.drop_of_length_le (by omega), List.getLast_eq_getElem]
        rw [hd] at h1
        obtain ⟨rfl, rfl⟩ := List.cons.inj h1
        omega
      · exact decodeL_high _ c r rfl (by omega)
  · simp [Utf8.runeError]

theorem last_at (set t : ByteArray) (hset : ∀ d ∈ set.data.toList, d.toNat < 128) (h : 0 < t.size) :
    among set ((Lib.decodeLastL t.data.toList).1 : Int) set.size = isIn set (t[t.size - 1]) ∧ (isIn set (t[t.size - 1]) = true → (Lib.decodeLastL t.data.toList).2 = 1) := by
  have hl : t.data.toList.length = t.size := by simp
  have hne : t.data.toList ≠ [] := by intro h'; rw [h'] at hl; simp at hl; omega
  have hg : t.data.toList.getLast hne = t[t.size - 1] := by
    rw [List.getLast_eq_getElem]; simp; rfl
  by_cases ha : (t[t.size - 1]).toNat < 128
  · have hd : t.data.toList = t.data.toList.dropLast ++ [t[t.size - 1]] := by rw [← hg, List.dropLast_concat_getLast]
    have hx : Lib.decodeLastL t.data.toList = ((t[t.size - 1]).toNat, 1) := by
      rw [hd]; exact Lib.decodeLastL_ascii _ _ ha
    rw [hx]
    exact ⟨among_byte set _ _ (Nat.le_refl _), fun _ => rfl⟩
  · rw [isIn_high set hset _ (by omega)]
    exact ⟨among_high set hset _ (by have := last_high _ hne (by rw [hg]; omega); omega) _ (Nat.le_refl _), by simp⟩

def lenOf : Value → Nat
  | .string t => t.size
  | _ => 0
/-- t is s without some bytes of the set at its end -/
def Left (set s t : ByteArray) : Prop := t.size ≤ s.size ∧ ∃ r : List UInt8, s.data.toList = t.data.toList ++ r ∧ r.all (isIn set) = true
theorem left_refl (set s : ByteArray) : Left set s s := ⟨Nat.le_refl _, [], by simp, rfl⟩
theorem left_step {set s t : ByteArray} (h : Left set s t) (ht : 0 < t.size) (hb : isIn set (t[t.size - 1]) = true) : Left set s (t.extract 0 (t.size - 1)) := by
  obtain ⟨h1, r, h2, h3⟩ := h
  have hl : t.data.toList.length = t.size := by simp
  have hne : t.data.toList ≠ [] := by intro h'; rw [h'] at hl; simp at hl; omega
  have hg : t.data.toList.getLast hne = t[t.size - 1] := by
    rw [List.getLast_eq_getElem]; simp; rfl
  refine ⟨by simp; omega, t[t.size - 1] :: r, ?_, by simp [hb]; simpa using h3⟩
  rw [h2, Lib.extract_data, List.drop_zero, Nat.sub_zero]
  have : t.data.toList.take (t.size - 1) ++ [t[t.size - 1]] = t.data.toList := by
    rw [← hg, ← hl, ← List.dropLast_eq_take, List.dropLast_concat_getLast]
  rw [← List.singleton_append, ← List.append_assoc, this]
/-- what cutRight answers -/
def CutR (set s t : ByteArray) : Prop := t.size ≤ s.size ∧ (t.size = 0 ↔ s.data.toList.all (isIn set) = true)
theorem cutR_zero {set s t : ByteArray} (h : Left set s t) (ht : t.size = 0) : CutR set s t := by
  obtain ⟨h1, r, h2, h3⟩ := h
  refine ⟨h1, fun _ => ?_, fun _ => ht⟩
  have : t.data.toList = [] := by apply List.eq_nil_of_length_eq_zero; simpa using ht
  rw [h2, this]; exact h3
theorem cutR_stop {set s t : ByteArray} (h : Left set s t) (ht : 0 < t.size) (hb : isIn set (t[t.size - 1]) = false) : CutR set s t := by
  obtain ⟨h1, r, h2, h3⟩ := h
  refine ⟨h1, fun h => by omega, fun h => ?_⟩
  exfalso
  rw [h2, List.all_append, Bool.and_eq_true, List.all_eq_true] at h
  have := h.1 (t[t.size - 1]) (Array.getElem_mem_toList _)
  rw [hb] at this; exact Bool.noConfusion this

set_option maxHeartbeats 1000000 in
set_option maxRecDepth 100000 in
theorem cutRight_any (s set : ByteArray) (w : World) (hs : s.size ≤ maxLen) (hset : ∀ d ∈ set.data.toList, d.toNat < 128) (hsz : set.size ≤ maxLen) (hT : Tabs w) :
    Calls Tryd.prog 27 #[.string s, .string set] w fun e w' => (∃ r : ByteArray, e = .returned (.string r) ∧ Hid (CutR set s r)) ∧ Below w.heap.size w w' := by
  have hs' := hs
  have hsz' := hsz
  unfold maxLen at hs' hsz'
  have HT := Lib.hid hT; clear hT
  go_enter Tryd.func27, Tryd.ntmps27
  go_wp2
  go_loopw [0] (fun v wr => ∃ t : ByteArray, v = .string t ∧ t.size ≤ s.size ∧ Hid (Left set s t) ∧ Below w.heap.size w wr) (fun v _ => lenOf v)
  case atStart => exact ⟨s, rfl, Nat.le_refl _, left_refl _ _, Below.refl _ _⟩
  case round =>
    obtain ⟨t, rfl, ht, HL, hbw⟩ := hrel
    by_cases hp : 0 < t.size
    · obtain ⟨hr1, hr2⟩ := last_at set t hset hp
      have hT1 : Tabs wr := Utf8Tabs_below HT.out hbw
      have HC := Lib.hid (Tryd.utf8_DecodeLastRuneInString t wr (by omega) hT1)
      generalize hr : ((Lib.decodeLastL t.data.toList).1 : Nat) = c at *
      generalize hv : ((Lib.decodeLastL t.data.toList).2 : Nat) = v at *
      have Hr1 := Lib.hid hr1; have Hr2 := Lib.hid hr2
      clear hr hr1 hr2 hv hT1
      go_wp2_with fail
      refine HC.out.mono ?_
      rintro e W1 ⟨rfl, hb1⟩
      have hbw1 : Below w.heap.size w W1 := hbw.trans (hb1.mono hbw.size)
      have hlt0 : w.heap.size ≤ W1.heap.size := hbw1.size
      clear hb1 hbw
      have ha0 := among_zero set c
      go_wp2
      go_loopw [7] (fun b w2 => ∃ j : Nat, w2.heap[W1.heap.size]? = some (.stringIter set j) ∧ j ≤ set.size ∧ b = .bool (among set c j) ∧ Below w.heap.size w w2) (fun _ w2 => set.size - w2.iterPos W1.heap.size)
      case atStart => exact ⟨0, World.iter_heap W1 set 0, Nat.zero_le _, by rw [ha0], hbw1.alloc (by omega) _⟩
      case round =>
        clear hbw1 ha0
        obtain ⟨j, hj1, hj2, rfl, hbw3⟩ := hrel
        have hj0 := iterPos_of hj1
        by_cases hj : j < set.size
        · have hnx : ∀ ty, (Instr.next (.pointer (some ⟨W1.heap.size, 0, none⟩)) true ty).run Tryd.prog wr = _ := fun ty => Lib.run_next_ascii_at wr W1.heap.size set j ty hj1 hj (hset _ (Array.getElem_mem_toList _))
          have hj3 := Lib.iterAt_heap wr W1.heap.size set j (j + 1) hj1
          have hbw4 := Lib.below_iterAt hbw3 (k := W1.heap.size) (by omega) set (j + 1)
          obtain ⟨W2, hW2⟩ : ∃ W2, W2 = wr.iterAt W1.heap.size set (j + 1) := ⟨_, rfl⟩
          rw [← hW2] at hnx hj3 hbw4
          clear hW2 hj1 hbw3
          have Hs := Lib.hid (among_succ set c j hj)
          generalize hb : among set c j = b at *
          have Hb := Lib.hid hb; clear hb
          cases b
          all_goals
            go_wp2
            go_roundw
            case rel => exact ⟨j + 1, hj3, by omega, by rw [Hs.out]; simp, hbw4⟩
            case measure => rw [iterPos_of hj3, hj0]; omega
        · obtain rfl : j = set.size := by omega
          have hnx : ∀ ty, (Instr.next (.pointer (some ⟨W1.heap.size, 0, none⟩)) true ty).run Tryd.prog wr = _ := fun ty => Lib.run_next_end_at wr W1.heap.size set set.size ty hj1 (by omega)
          rw [Hr1.out]
          cases hb : isIn set t[t.size - 1]
          · have Hb := Lib.hid hb; clear hb
            go_wp2
            go_ret
            exact ⟨⟨_, rfl, cutR_stop HL.out hp Hb.out⟩, hbw3⟩
          · have Hb := Lib.hid hb; clear hb
            obtain rfl := Hr2.out Hb.out
            go_wp2
            go_roundw
            case rel => exact ⟨t.extract 0 (t.size - 1), rfl, by simp; omega, left_step HL.out hp Hb.out, hbw3⟩
            case measure => simp [lenOf]; omega
    · go_wp2
      go_ret
      exact ⟨⟨_, rfl, cutR_zero HL.out (by omega)⟩, hbw⟩
end Go.Proofs.YtlmopoipjolbgaaDoor.LexW
