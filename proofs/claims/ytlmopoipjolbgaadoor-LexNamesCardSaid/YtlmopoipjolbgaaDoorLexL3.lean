/-
  The walk of ravelinlaw05.LexNames.
-/
import Derived.Test.YtlmopoipjolbgaaDoorLexL2
namespace Go.Proofs.YtlmopoipjolbgaaDoor.LexW
open Go.RowKit Go.Shelf Go.Proofs.YtlmopoipjolbgaaDoor.LexS Go.Proofs.YtlmopoipjolbgaaDoorW.PrintWords
set_option linter.unusedVariables false
set_option linter.unusedSimpArgs false

theorem reps_tk (w : World) (base : Nat) (ok : Nat → Prop) (xs : List Tk) : Reps (kTk.M w base ok) 4 xs (xs.flatMap tkCells) := by
  have h : ∀ ys : List Tk, Reps (kTk.M w base ok) 4 ys.reverse (ys.reverse.flatMap tkCells) := by
    intro ys
    induction ys with
    | nil => exact Reps.none _ _
    | cons y ys ih =>
      rw [List.reverse_cons, List.flatMap_append]
      have := Reps.snoc (p := y) (c := tkCells y) ih (kTk_mkM w base ok y) rfl
      simpa using this
  have := h xs.reverse
  rwa [List.reverse_reverse] at this
/-- a slice of tokens that lies in a block of its own -/
theorem tk_lit {W : World} {b : Nat} {xs : List Tk} (h : W.heap[b]? = some (.cells (xs.flatMap tkCells).toArray 38 (0, 0))) (hm : xs.length ≤ 9223372036854775807) : kTk.C W (some ⟨b, 0, none⟩) xs.length xs := by
  obtain ⟨hl, hr⟩ := reps_tk W 0 (fun _ => True) xs
  refine ⟨rfl, hm, fun _ => ⟨_, rfl, fun j p hj => ?_⟩⟩
  have hK := kTk.K_of_M (hr j p hj)
  have hc4 := kTk.K_len hK
  refine ⟨((xs.flatMap tkCells).drop (j * 4)).take 4, hc4, hK, fun i u hu => ?_⟩
  have hi : i < 4 := by
    have := (List.getElem?_eq_some_iff.1 hu).1
    have e : (((xs.flatMap tkCells).drop (j * 4)).take 4).length = 4 := hc4
    omega
  rw [add_plain, kept_cell h, List.getElem?_toArray]
  rw [List.getElem?_take, if_pos hi, List.getElem?_drop] at hu
  exact hu

theorem below_of_none {W W' : World} (h : W.grownBy W' none) : Below W.heap.size W W' := ⟨h.os, h.tape, h.output, h.size, fun k hk => h.block k hk (by simp)⟩

def namesA : ByteArray := ⟨#[97, 114, 103, 48, 32, 38, 32, 48, 120, 49, 102, 62, 61, 50, 59, 35, 32, 120]⟩
def namesL : List Tk := [⟨2, ⟨#[97, 114, 103, 48]⟩, 0, 0⟩, ⟨4, ⟨#[38]⟩, 0, 5⟩, ⟨3, ⟨#[48, 120, 49, 102]⟩, 31, 7⟩, ⟨4, ⟨#[62, 61]⟩, 0, 11⟩, ⟨3, ⟨#[50]⟩, 2, 13⟩, ⟨4, ⟨#[59]⟩, 0, 14⟩, ⟨1, ⟨#[]⟩, 0, 18⟩]
def namesB : ByteArray := ⟨#[97, 32, 61, 32, 98]⟩
def namesC : ByteArray := ⟨#[48, 48]⟩
def namesD : ByteArray := ⟨#[97, 98, 99, 100, 101, 102, 103, 104, 105, 106, 97, 98, 99, 100, 101, 102, 103, 104, 105, 106, 97, 98, 99, 100, 101, 102, 103, 104, 105, 106, 97, 98, 99]⟩
def namesE : ByteArray := ⟨#[97]⟩
theorem names_a : listV namesA = (namesL, 0, 0) := by decide +kernel
theorem names_b : listV namesB = ([], 51, 2) := by decide +kernel
theorem names_c : listV namesC = ([], 53, 0) := by decide +kernel
theorem names_d : listV namesD = ([], 52, 0) := by decide +kernel
theorem names_e : nextV namesE 2 = (0, nil0, 0, 0, 0, 1) := by decide +kernel
theorem list_long {s : ByteArray} (h : 65536 < s.size) : listV s = ([], 54, 0) := by
  unfold listV toks
  rw [toksA_err (by rw [long_err s _ h]; decide), long_err s _ h]
  rfl
theorem infoU8 : (Tryd.prog.info? 5).map (fun i => (i.zero, i.size, i.bytes)) = some (some (.int .u8 0), 1, 1) := by kernel_rfl

set_option maxHeartbeats 8000000 in
set_option maxRecDepth 100000 in
theorem names_any (w : World) (hE : Env w) :
    Calls Tryd.prog 5 #[] w fun e w' => e = .returned (.bool true) ∧ Below w.heap.size w w' := by
  have HE := Lib.hid hE; clear hE
  have HA := Lib.hid (fun W h => list_any namesA W h)
  have HB := Lib.hid (fun W h => list_any namesB W h)
  have HC := Lib.hid (fun W h => list_any namesC W h)
  have HD := Lib.hid (fun W h => list_any namesD W h)
  have HNx := Lib.hid (fun W h => next_any namesE 2 W h)
  rw [names_a] at HA
  rw [names_b] at HB
  rw [names_c] at HC
  rw [names_d] at HD
  rw [names_e] at HNx
  go_enter Tryd.func5, Tryd.ntmps5
  go_wp2_with fail
  refine (lives_any w HE.out).mono ?_
  rintro e w1 ⟨rfl, hb1⟩
  go_wp2_with fail
  refine (HA.out w1 (HE.out.below hb1)).mono ?_
  rintro e w2 ⟨⟨v, rfl, hO⟩, hb2⟩
  have hbw2 := hb1.trans (hb2.mono hb1.size)
  clear hb1 hb2
  obtain ⟨A2, c2, rfl, _, hC2⟩ := Kd.R_reads hO
  clear hO
  have HC2 := Lib.hid hC2; clear hC2
  go_wp2_with fail
  have hW0 : kTk.C (w2.alloc (.cells (namesL.flatMap tkCells).toArray 38)) (some ⟨w2.heap.size, 0, none⟩) namesL.length namesL := tk_lit (new_blk w2 _ _) (by decide)
  have hb3 : Below w2.heap.size w2 (w2.alloc (.cells (namesL.flatMap tkCells).toArray 38)) := (Below.refl _ _).alloc (Nat.le_refl _) _
  have hbw3 := hbw2.trans (hb3.mono hbw2.size)
  have hC3 := Kd.C_below HC2.out hb3
  clear HC2 hb3 hbw2
  refine (HB.out _ (HE.out.below hbw3)).mono ?_
  rintro e w4 ⟨⟨v, rfl, hO⟩, hb4⟩
  obtain ⟨A4, c4, rfl, _, _⟩ := Kd.R_reads hO
  have hW4 := Kd.C_below hW0 hb4
  have hC4 := Kd.C_below hC3 hb4
  have hbw4 := hbw3.trans (hb4.mono hbw3.size)
  clear hO hb4 hW0 hC3 hbw3
  go_wp2_with fail
  refine (HC.out _ (HE.out.below hbw4)).mono ?_
  rintro e w5 ⟨⟨v, rfl, hO⟩, hb5⟩
  obtain ⟨A5, c5, rfl, _, _⟩ := Kd.R_reads hO
  have hW5 := Kd.C_below hW4 hb5
  have hC5 := Kd.C_below hC4 hb5
  have hbw5 := hbw4.trans (hb5.mono hbw4.size)
  clear hO hb5 hW4 hC4 hbw4
  go_wp2_with fail
  refine (HD.out _ (HE.out.below hbw5)).mono ?_
  rintro e w6 ⟨⟨v, rfl, hO⟩, hb6⟩
  obtain ⟨A6, c6, rfl, _, _⟩ := Kd.R_reads hO
  have hW6 := Kd.C_below hW5 hb6
  have hC6 := Kd.C_below hC5 hb6
  have hbw6 := hbw5.trans (hb6.mono hbw5.size)
  clear hO hb6 hW5 hC5 hbw5
  have HW6 := Lib.hid hW6; have HC6 := Lib.hid hC6; clear hW6 hC6
  go_wp2_with (at_make; refine Kd.R_make (Kd.int .u8) (w0 := w) (W := w6) w.heap.size 5 rfl rfl 41 _ _ rfl 65537 rfl rfl Tryd.underlying41 (.int .u8 0) 1 infoU8 rfl (by decide) (by decide) (0 : Int) (ok := fun _ => True) (okp := fun _ => False) rfl (fun _ hk => hk.elim) trivial (by decide) (by decide) hbw6 hbw6.size ?_; intro v7 w7 hO7 hbw7 hg7 hat7; obtain ⟨xs, hxs⟩ : ∃ xs, List.replicate (Int.toNat 65537) (0 : Int) = xs := ⟨_, rfl⟩; rw [hxs] at hO7; have hlen : xs.length = 65537 := (by rw [← hxs, List.length_replicate]; rfl); clear hxs; obtain ⟨A7, c7, rfl, _, hC7⟩ := Kd.R_reads hO7; have hcv := Kd.C_string (P := Tryd.prog) (c := c7) (src := 41) (dst := 9) Tryd.underlying41 Tryd.underlying5 Tryd.underlying9 hC7; have HLEN := Lib.hid hlen; clear hlen; have HG7 := Lib.hid hg7; clear hO7 hC7 hg7 hat7)
  have hsz : 65536 < (strOfNums xs).size := by rw [strOfNums_size, HLEN.out]; decide
  have HE7 := Lib.hid (list_any (strOfNums xs) w7 (HE.out.below hbw7))
  rw [list_long hsz] at HE7
  have hW7 := Kd.C_below HW6.out (below_of_none HG7.out)
  have hC7 := Kd.C_below HC6.out (below_of_none HG7.out)
  clear HW6 HC6 hcv HLEN hsz HG7
  generalize strOfNums xs = big at *
  refine HE7.out.mono ?_
  rintro e w8 ⟨⟨v, rfl, hO⟩, hb8⟩
  obtain ⟨A8, c8, rfl, _, _⟩ := Kd.R_reads hO
  have hW8 := Kd.C_below hW7 hb8
  have hC8 := Kd.C_below hC7 hb8
  have hbw8 := hbw7.trans (hb8.mono hbw7.size)
  clear hO hb8 hW7 hC7 hbw7 HE7 hbw6
  go_wp2_with fail
  refine (HNx.out _ (HE.out.below hbw8)).mono ?_
  rintro e w9 ⟨rfl, hb9⟩
  have hb9' := hb9.alloc hb9.size (.cells #[.int .i64 0, .string ⟨#[]⟩, .int .u64 0, .int .i64 0] 38)
  have hW9 := Kd.C_below hW8 hb9'
  have hC9 := Kd.C_below hC8 hb9'
  have hbw9 := hbw8.trans (hb9'.mono hbw8.size)
  have HW9 := Lib.hid hW9; have HC9 := Lib.hid hC9; have HB9 := Lib.hid hbw9
  clear hb9 hb9' hW8 hC8 hbw8 hW9 hC9 hbw9
  unfold nextVal nil0
  go_wp2_with fail
  refine (same_any A2 c2 namesL (some ⟨w2.heap.size, 0, none⟩) 7 namesL _ HC9.out HW9.out).mono ?_
  rintro e w10 ⟨rfl, hd10⟩
  rw [show decide (namesL = namesL) = true by simp]
  have HB10 := Lib.hid (HB9.out.trans (hd10.below.mono HB9.out.size))
  clear hd10 HB9 HC9 HW9
  go_wp2
  go_ret
  exact ⟨rfl, HB10.out⟩
end Go.Proofs.YtlmopoipjolbgaaDoor.LexW
