/-
  The walks of layer 5 (lex), fourth part: a text without the bytes of a set at its begin, and at its end.
-/
import Derived.Test.YtlmopoipjolbgaaDoorLexW3
import Derived.Lib.OthersKept
import Derived.WalkSmall
import Derived.Laws.RangeAny
namespace Go.Proofs.YtlmopoipjolbgaaDoor.LexW
open Go.RowKit Go.Shelf Go.Proofs.YtlmopoipjolbgaaDoor.LexS
set_option linter.unusedVariables false
set_option linter.unusedSimpArgs false

/-- is a rune among the first j bytes of a set? -/
def among (set : ByteArray) (c : Int) (j : Nat) : Bool := (set.data.toList.take j).any fun d => c == (d.toNat : Int)
theorem among_zero (set : ByteArray) (c : Int) : among set c 0 = false := by simp [among]
theorem among_succ (set : ByteArray) (c : Int) (j : Nat) (h : j < set.size) : among set c (j + 1) = (among set c j || (c == ((set[j]).toNat : Int))) := by
  unfold among
  rw [List.take_succ_eq_append_getElem (by simpa using h), List.any_append]; simp; rfl
theorem among_all (set : ByteArray) (c : Int) (j : Nat) (h : set.size ≤ j) : among set c j = set.data.toList.any fun d => c == (d.toNat : Int) := by
  unfold among; rw [List.take_of_length_le (by simpa using h)]
/-- is a byte in a set? -/
def isIn (set : ByteArray) (c : UInt8) : Bool := set.data.toList.any fun d => c == d
theorem among_byte (set : ByteArray) (c : UInt8) (j : Nat) (h : set.size ≤ j) : among set (c.toNat : Int) j = isIn set c := by
  rw [among_all _ _ _ h]; unfold isIn
  congr 1; funext d
  rw [Bool.eq_iff_iff]; simp [← UInt8.toNat_inj]; omega
theorem among_high (set : ByteArray) (hset : ∀ d ∈ set.data.toList, d.toNat < 128) (c : Int) (hc : 128 ≤ c) (j : Nat) (h : set.size ≤ j) : among set c j = false := by
  rw [among_all _ _ _ h, List.any_eq_false]
  intro d hd
  have := hset d hd
  simp; omega

theorem isIn_high (set : ByteArray) (hset : ∀ d ∈ set.data.toList, d.toNat < 128) (c : UInt8) (hc : 128 ≤ c.toNat) : isIn set c = false := by
  rw [← among_byte set c set.size (Nat.le_refl _)]; exact among_high set hset _ (by omega) _ (Nat.le_refl _)

/-- what a range over a string reads: of a byte below 128 that byte; else a rune above -/
theorem rune_at (set s : ByteArray) (hset : ∀ d ∈ set.data.toList, d.toNat < 128) (pos : Nat) (h : pos < s.size) :
    among set ((Utf8.decode s pos).1 : Int) set.size = isIn set s[pos] ∧ (isIn set s[pos] = true → (Utf8.decode s pos).2 = 1) ∧ 1 ≤ (Utf8.decode s pos).2 := by
  by_cases ha : (s[pos]).toNat < 128
  · rw [decode_ascii s pos h ha]
    exact ⟨among_byte set _ _ (Nat.le_refl _), fun _ => rfl, Nat.le_refl _⟩
  · have hd := decode_high s pos h (by omega)
    rw [isIn_high set hset _ (by omega)]
    exact ⟨among_high set hset _ (by omega) _ (Nat.le_refl _), by simp, hd.2⟩

theorem drop_while (p : UInt8 → Bool) (s : ByteArray) : s.data.toList.dropWhile p = s.data.toList.drop (whileN p s 0) := by
  unfold whileN; rw [List.drop_zero, Nat.zero_add, drop_takeWhile]
theorem cut_left {p : UInt8 → Bool} {s : ByteArray} {pos : Nat} (h : whileN p s 0 = whileN p s pos) (h2 : whileN p s pos = pos) (hp : pos ≤ s.size) :
    Hid ((s.extract pos s.size).size ≤ s.size ∧ (s.extract pos s.size).data.toList = s.data.toList.dropWhile p) := by
  refine ⟨by simp, ?_⟩
  rw [drop_while, h, h2, Lib.extract_data, List.take_of_length_le (by simp)]
theorem cut_none {p : UInt8 → Bool} {s : ByteArray} {pos : Nat} (h : whileN p s 0 = whileN p s pos) (h2 : whileN p s pos = pos) (hp : s.size ≤ pos) :
    Hid ((⟨#[]⟩ : ByteArray).size ≤ s.size ∧ (⟨#[]⟩ : ByteArray).data.toList = s.data.toList.dropWhile p) := by
  refine ⟨Nat.zero_le _, ?_⟩
  rw [drop_while, h, h2, List.drop_of_length_le (by simpa using hp)]

set_option maxHeartbeats 1000000 in
set_option maxRecDepth 100000 in
theorem cutLeft_any (s set : ByteArray) (w : World) (hs : s.size ≤ maxLen) (hset : ∀ d ∈ set.data.toList, d.toNat < 128) (hsz : set.size ≤ maxLen) :
    Calls Tryd.prog 28 #[.string s, .string set] w fun e w' => (∃ r : ByteArray, e = .returned (.string r) ∧ Hid (r.size ≤ s.size ∧ r.data.toList = s.data.toList.dropWhile (isIn set))) ∧ Below w.heap.size w w' := by
  have hs' := hs
  have hsz' := hsz
  unfold maxLen at hs' hsz'
  go_enter Tryd.func28, Tryd.ntmps28
  go_wp2
  go_loopw [7] (fun _ wr => ∃ pos : Nat, wr.heap[w.heap.size]? = some (.stringIter s pos) ∧ pos ≤ s.size ∧ Hid (whileN (isIn set) s 0 = whileN (isIn set) s pos) ∧ Below w.heap.size w wr) (fun _ wr => s.size - wr.iterPos w.heap.size)
  case atStart => exact ⟨0, World.iter_heap w s 0, Nat.zero_le _, rfl, (Below.refl _ _).alloc (Nat.le_refl _) _⟩
  case round =>
    obtain ⟨pos, hit, hp1, HW, hbw⟩ := hrel
    have hpos0 := iterPos_of hit
    by_cases hp : pos < s.size
    · obtain ⟨hr1, hr2, hr3⟩ := rune_at set s hset pos hp
      have hnx : ∀ ty, (Instr.next (.pointer (some ⟨w.heap.size, 0, none⟩)) true ty).run Tryd.prog wr = _ := fun ty => Lib.run_next_any_at wr w.heap.size s pos ty hit hp
      have hit2 := Lib.iterAt_heap wr w.heap.size s pos (pos + (Utf8.decode s pos).2) hit
      have hbw2 := Lib.below_iterAt hbw (k := w.heap.size) (Nat.le_refl _) s (pos + (Utf8.decode s pos).2)
      obtain ⟨W1, hW1⟩ : ∃ W1, W1 = wr.iterAt w.heap.size s (pos + (Utf8.decode s pos).2) := ⟨_, rfl⟩
      rw [← hW1] at hnx hit2 hbw2
      clear hW1 hit hbw
      generalize hr : ((Utf8.decode s pos).1 : Nat) = c at *
      generalize hv : ((Utf8.decode s pos).2 : Nat) = v at *
      have Hr1 := Lib.hid hr1; have Hr2 := Lib.hid hr2
      clear hr hr1 hr2 hv
      have hlt1 : w.heap.size < W1.heap.size := (Array.getElem?_eq_some_iff.1 hit2).1
      have ha0 := among_zero set c
      go_wp2
      go_loopw [7] (fun b w2 => ∃ j : Nat, w2.heap[W1.heap.size]? = some (.stringIter set j) ∧ j ≤ set.size ∧ b = .bool (among set c j) ∧ w2.heap[w.heap.size]? = some (.stringIter s (pos + v)) ∧ Below w.heap.size w w2) (fun _ w2 => set.size - w2.iterPos W1.heap.size)
      case atStart => exact ⟨0, World.iter_heap W1 set 0, Nat.zero_le _, by rw [ha0], by rw [World.iter, Below.heap_alloc _ _ _ hlt1]; exact hit2, hbw2.alloc (by omega) _⟩
      case round =>
        clear hit2 hbw2 hnx ha0
        obtain ⟨j, hj1, hj2, rfl, hit3, hbw3⟩ := hrel
        have hj0 := iterPos_of hj1
        by_cases hj : j < set.size
        · have hnx : ∀ ty, (Instr.next (.pointer (some ⟨W1.heap.size, 0, none⟩)) true ty).run Tryd.prog wr = _ := fun ty => Lib.run_next_ascii_at wr W1.heap.size set j ty hj1 hj (hset _ (Array.getElem_mem_toList _))
          have hj3 := Lib.iterAt_heap wr W1.heap.size set j (j + 1) hj1
          have hit4 : (wr.iterAt W1.heap.size set (j + 1)).heap[w.heap.size]? = some (.stringIter s (pos + v)) := by rw [Lib.iterAt_other _ _ _ _ _ (by omega)]; exact hit3
          have hbw4 := Lib.below_iterAt hbw3 (k := W1.heap.size) (by omega) set (j + 1)
          obtain ⟨W2, hW2⟩ : ∃ W2, W2 = wr.iterAt W1.heap.size set (j + 1) := ⟨_, rfl⟩
          rw [← hW2] at hnx hj3 hit4 hbw4
          clear hW2 hj1 hit3 hbw3
          have Hs := Lib.hid (among_succ set c j hj)
          generalize hb : among set c j = b at *
          have Hb := Lib.hid hb; clear hb
          cases b
          all_goals
            go_wp2
            go_roundw
            case rel => exact ⟨j + 1, hj3, by omega, by rw [Hs.out]; simp, hit4, hbw4⟩
            case measure => rw [iterPos_of hj3, hj0]; omega
        · obtain rfl : j = set.size := by omega
          have hnx : ∀ ty, (Instr.next (.pointer (some ⟨W1.heap.size, 0, none⟩)) true ty).run Tryd.prog wr = _ := fun ty => Lib.run_next_end_at wr W1.heap.size set set.size ty hj1 (by omega)
          rw [Hr1.out]
          cases hb : isIn set s[pos]
          all_goals
            have Hb := Lib.hid hb; clear hb
            go_wp2
          · go_ret
            exact ⟨⟨_, rfl, cut_left HW.out (whileN_no hp Hb.out) hp1⟩, hbw3⟩
          · go_roundw
            case rel => exact ⟨pos + v, hit3, by rw [Hr2.out Hb.out]; omega, by rw [Hr2.out Hb.out]; show _ = _; rw [HW.out, whileN_yes hp Hb.out], hbw3⟩
            case measure => rw [iterPos_of hit3, hpos0]; omega
    · have hnx : ∀ ty, (Instr.next (.pointer (some ⟨w.heap.size, 0, none⟩)) true ty).run Tryd.prog wr = _ := fun ty => Lib.run_next_end_at wr w.heap.size s pos ty hit hp
      go_wp2
      go_ret
      exact ⟨⟨_, rfl, cut_none HW.out (whileN_end (by omega)) (by omega)⟩, hbw⟩
end Go.Proofs.YtlmopoipjolbgaaDoor.LexW
