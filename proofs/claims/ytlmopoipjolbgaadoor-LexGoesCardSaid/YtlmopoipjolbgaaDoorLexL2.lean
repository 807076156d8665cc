/-
  The walk of ravelinlaw05.LexLists.
-/
import Derived.Test.YtlmopoipjolbgaaDoorLexF4
import Derived.Test.YtlmopoipjolbgaaDoorLexL1
namespace Go.Proofs.YtlmopoipjolbgaaDoor.LexW
open Go.RowKit Go.Shelf Go.Proofs.YtlmopoipjolbgaaDoor.LexS Go.Proofs.YtlmopoipjolbgaaDoorW.PrintWords
set_option linter.unusedVariables false
set_option linter.unusedSimpArgs false

/-- a slice of whole numbers, as the walk reads it -/
def IntsAt (w : World) (A : Option Addr) (n : Nat) (f : Nat → Int) : Prop := 0 < n → ∃ b off, A = some ⟨b, off, none⟩ ∧ ∀ i, i < n → w.cell? ⟨b, off + i, none⟩ = some (.int .i64 (f i))

theorem new_blk_at {W : World} {n : Nat} (h : W.heap.size = n) (cs : Array Value) (t : TypeId) : (W.alloc (.cells cs t)).heap[n]? = some (.cells cs t (0, 0)) := by subst h; exact new_blk W cs t
/-- a slice of one token -/
theorem tk_one {W : World} {b : Nat} {x : Tk} (h : W.heap[b]? = some (.cells (tkCells x).toArray 38 (0, 0))) : kTk.C W (some ⟨b, 0, none⟩) [x].length [x] := by
  refine ⟨rfl, by simp, fun _ => ⟨_, rfl, fun j p hj => ?_⟩⟩
  have hj0 : j = 0 := by
    have := (List.getElem?_eq_some_iff.1 hj).1
    simpa using this
  subst hj0
  obtain rfl : x = p := by simpa using hj
  refine ⟨tkCells x, rfl, kTk_mk _ _, fun i u hu => ?_⟩
  rw [add_plain, kept_cell h]
  simpa using hu

set_option maxHeartbeats 4000000 in
set_option maxRecDepth 100000 in
theorem lists_any (s : ByteArray) (A : Option Addr) (n c : Nat) (f : Nat → Int) (w : World) (hE : Env w) (hn : n ≤ 9223372036854775807) (hA : IntsAt w A n f) :
    Calls Tryd.prog 6 #[.string s, .slice A n c] w fun e w' => e = .returned (.bool true) ∧ Below w.heap.size w w' := by
  have HA := Lib.hid hA; have HE := Lib.hid hE; clear hA hE
  have HL := Lib.hid (fun W h => list_any s W h)
  have HRL := Lib.hid (fun W => rlist_any s W)
  generalize listV s = P at *
  go_enter Tryd.func6, Tryd.ntmps6
  go_wp2_with fail
  refine (lives_any w HE.out).mono ?_
  rintro e w1 ⟨rfl, hb1⟩
  go_wp2_with fail
  refine (HL.out w1 (HE.out.below hb1)).mono ?_
  rintro e w2 ⟨⟨v, rfl, hO⟩, hb2⟩
  obtain ⟨A2, c2, rfl, _, hC⟩ := Kd.R_reads hO
  clear hO
  have hbw2 := hb1.trans (hb2.mono hb1.size)
  clear hb1 hb2
  go_wp2_with fail
  refine (HRL.out w2).mono ?_
  rintro e w3 ⟨⟨v, rfl, hO⟩, hb3⟩
  obtain ⟨A3, c3, rfl, _, hC3⟩ := Kd.R_reads hO
  have hC2 := Kd.C_below hC hb3
  clear hO hC
  have hbw3 := hbw2.trans (hb3.mono hbw2.size)
  clear hbw2 hb3
  have HC2 := Lib.hid hC2; have HC3 := Lib.hid hC3; clear hC2 hC3
  go_wp2_with fail
  refine (same_any A2 c2 P.1 A3 c3 P.1 w3 HC2.out HC3.out).mono ?_
  rintro e w4 ⟨rfl, hd4⟩
  rw [show decide (P.1 = P.1) = true by simp]
  have hbw4 := hbw3.trans (hd4.below.mono hbw3.size)
  clear hbw3 hd4 HC2 HC3
  go_wp2
  go_loopw [13] (fun vi wr => ∃ k : Nat, vi = .int .i64 k ∧ k ≤ n ∧ Below w.heap.size w wr) (fun vi _ => n - (intOf vi).toNat)
  case atStart => exact ⟨0, rfl, Nat.zero_le _, hbw4⟩
  case round =>
    clear hbw4
    obtain ⟨k, rfl, hk, hbw⟩ := hrel
    by_cases hlt : k < n
    · obtain ⟨b, off, hA, hc⟩ := HA.out (by omega)
      have hck := cell_stays hbw (hc k hlt)
      clear hc
      subst hA
      have HN := Lib.hid (next_any s (f k) wr (HE.out.below hbw))
      have HR := Lib.hid (fun W => rnext_any s (f k) W)
      generalize nextV s (f k) = x at *
      generalize f k = p at *
      obtain ⟨kd, tx, nm, pa, pl, er⟩ := x
      simp only [nextVal] at HN HR
      go_wp2_with fail
      refine HN.out.mono ?_
      rintro e w5 ⟨rfl, hb5⟩
      have hck5 := cell_stays ((hb5.alloc hb5.size (.cells #[.int .i64 kd, .string tx, .int .u64 nm, .int .i64 pa] 38))) hck
      have hbw5 := hbw.trans ((hb5.alloc hb5.size (.cells #[.int .i64 kd, .string tx, .int .u64 nm, .int .i64 pa] 38)).mono hbw.size)
      have hblk := new_blk w5 #[.int .i64 kd, .string tx, .int .u64 nm, .int .i64 pa] 38
      clear hck hb5 hbw
      go_wp2_with fail
      refine (HR.out _).mono ?_
      rintro e w6 ⟨rfl, hb6⟩
      have hblk6 := (hb6.block w5.heap.size (by simp)).trans hblk
      have hbw6 := hbw5.trans ((hb6.alloc hb6.size (.cells #[.int .i64 kd, .string tx, .int .u64 nm, .int .i64 pa] 38)).mono hbw5.size)
      have hs6 := hb6.size
      clear hck5 hb6 hbw5 hblk
      have q0 := cell_over (.cells #[.int .i64 kd, .string tx, .int .u64 nm, .int .i64 pa] 38) (show w6.cell? ⟨w5.heap.size, 0, none⟩ = some (.int .i64 kd) from kept_cell hblk6 0)
      have q1 := cell_over (.cells #[.int .i64 kd, .string tx, .int .u64 nm, .int .i64 pa] 38) (show w6.cell? ⟨w5.heap.size, 1, none⟩ = some (.string tx) from kept_cell hblk6 1)
      have q2 := cell_over (.cells #[.int .i64 kd, .string tx, .int .u64 nm, .int .i64 pa] 38) (show w6.cell? ⟨w5.heap.size, 2, none⟩ = some (.int .u64 nm) from kept_cell hblk6 2)
      have q3 := cell_over (.cells #[.int .i64 kd, .string tx, .int .u64 nm, .int .i64 pa] 38) (show w6.cell? ⟨w5.heap.size, 3, none⟩ = some (.int .i64 pa) from kept_cell hblk6 3)
      go_wp2_with fail
      refine (same_any (some ⟨w6.heap.size + 1, 0, none⟩) 1 [⟨kd, tx, nm, pa⟩] (some ⟨w6.heap.size + 1 + 1, 0, none⟩) 1 [⟨kd, tx, nm, pa⟩] _ (tk_one ?_) (tk_one ?_)).mono ?_
      · exact (Below.heap_alloc _ _ _ (by simp)).trans (new_blk_at (by simp) _ _)
      · exact new_blk_at (by simp) _ _
      rintro e w7 ⟨rfl, hd7⟩
      rw [show decide ([(⟨kd, tx, nm, pa⟩ : Tk)] = [⟨kd, tx, nm, pa⟩]) = true by simp]
      have hb7 := hd7.below
      have hbw7 := ((hbw6.alloc hbw6.size (.cells #[.int .i64 kd, .string tx, .int .u64 nm, .int .i64 pa] 38)).alloc (by have := hbw6.size; simp at this ⊢; omega) (.cells #[.int .i64 kd, .string tx, .int .u64 nm, .int .i64 pa] 38)).trans (hb7.mono (by have := hbw6.size; simp at this ⊢; omega))
      clear hbw6 hd7 hb7 q0 q1 q2 q3 hblk6 hs6
      go_wp2
      go_roundw
      case rel => exact ⟨k + 1, by go_num, by omega, hbw7⟩
      case measure => simp [intOf]; omega
    · obtain rfl : k = n := by omega
      go_wp2
      go_ret
      exact ⟨rfl, hbw⟩
end Go.Proofs.YtlmopoipjolbgaaDoor.LexW
