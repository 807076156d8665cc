/-
  The walks of the reference's layer 5: all tokens, lists of them, are two alike.
-/
import Derived.Test.YtlmopoipjolbgaaDoorLexR4
import Derived.Test.YtlmopoipjolbgaaDoorLexTok
namespace Go.Proofs.YtlmopoipjolbgaaDoor.LexW
open Go.RowKit Go.Shelf Go.Proofs.YtlmopoipjolbgaaDoor.LexS Go.Proofs.YtlmopoipjolbgaaDoorW.PrintWords
set_option linter.unusedVariables false
set_option linter.unusedSimpArgs false

theorem infoTk : (Tryd.prog.info? 38).map (fun i => (i.zero, i.size, i.bytes)) = some (some (.agg #[.int .i64 0, .string ⟨#[]⟩, .int .u64 0, .int .i64 0]), kTk.sz, 40) := by kernel_rfl

/-- a made list of tokens -/
def TkRow (w : World) (base : Nat) (v : Value) (l : List Tk) : Prop := kTk.R 38 w base (fun _ => True) v l
theorem TkRow.below {w w1 : World} {base : Nat} {v : Value} {l : List Tk} (h : TkRow w base v l) (hb : Below w.heap.size w w1) : TkRow w1 base v l := Kd.R_below h hb
theorem TkRow.alloc {w : World} {base : Nat} {v : Value} {l : List Tk} (h : TkRow w base v l) (o : Obj) : TkRow (w.alloc o) base v l := Kd.R_alloc h o
theorem TkRow.lt {w : World} {base : Nat} {v : Value} {l : List Tk} (h : TkRow w base v l) (g : Nat) (hg : w.heap.size ≤ g) : some g ≠ v.ownBlock := fun e => by
  have := Kd.R_lt h g e.symm; omega

theorem new_blk (w : World) (cs : Array Value) (t : TypeId) : (w.alloc (.cells cs t)).heap[w.heap.size]? = some (.cells cs t (0, 0)) := by
  show (w.heap.push (Obj.cells cs t))[w.heap.size]? = _
  simp

/-- what Tokens and List answer -/
def ListEnd (P : List Tk × Int × Int) (base : Nat) (e : Ending) (w' : World) : Prop := ∃ v, e = .returned (.tuple #[v, .int .i64 P.2.1, .int .i64 P.2.2]) ∧ TkRow w' base v P.1

set_option maxHeartbeats 8000000 in
set_option maxRecDepth 100000 in
theorem rtokens_any (s : ByteArray) (w : World) :
    Calls Tryd.prog 14 #[.string s] w fun e w' => ListEnd (toks s) w.heap.size e w' ∧ Below w.heap.size w w' := by
  generalize hR : toks s = R
  have HR := Lib.hid hR; clear hR
  go_enter Tryd.func14, Tryd.ntmps14
  go_wp2
  go_loopw [5, 6] (fun v vi wr => ∃ (k : Nat) (acc : List Tk), vi = .int .i64 k ∧ Hid (TkRow wr w.heap.size v acc) ∧ Below w.heap.size w wr ∧ acc.length ≤ k ∧ k ≤ s.size ∧ Hid ((acc ++ (toksA s k).1, (toksA s k).2) = R)) (fun _ vi _ => s.size - (intOf vi).toNat)
  case atStart => exact ⟨0, [], rfl, Kd.R_nil _ _ _ _ _, Below.refl _ _, by simp, by omega, HR.out⟩
  case round =>
    clear HR
    obtain ⟨k, acc, rfl, HO, hbw, hlen, hk, HT⟩ := hrel
    have HN := Lib.hid (rnext_any s k wr)
    by_cases he : errOf (nextV s k) = 0
    · obtain ⟨hs, _, hcase⟩ := next_ok s k he
      obtain ⟨x, hx⟩ : ∃ x, x = nextV s k := ⟨_, rfl⟩
      have he0 : x.2.2.2.2.2 = 0 := by rw [hx]; exact he
      rw [← hx] at HN hcase
      have hfin : Hid ((x.1 = 1 ∧ (acc ++ [tokOf x], (0 : Int), (0 : Int)) = R) ∨ (x.1 ≠ 1 ∧ ∃ q : Nat, k < q ∧ q ≤ s.size ∧ placeOf x = q ∧ ((acc ++ [tokOf x]) ++ (toksA s q).1, (toksA s q).2) = R)) := by
        rcases hcase with ⟨h1, _⟩ | ⟨p, q, _, hkp, hpq, hq, h1, _, _, hpl⟩
        · left
          have h2 : x.1 = 1 := by rw [h1]
          refine ⟨h2, ?_⟩
          rw [← HT.out, toksA_end he (by rw [← hx]; exact h2), ← hx]
        · right
          refine ⟨h1, q, by omega, hq, hpl, ?_⟩
          rw [← HT.out, toksA_more he (by rw [← hx]; exact h1) (by rw [← hx]; exact hpl) (by omega), ← hx]
          simp
      clear HT hcase he hx
      obtain ⟨kd, tx, nm, pa, pl, er⟩ := x
      obtain rfl : er = 0 := he0
      unfold nextVal at HN
      rcases hfin.out with ⟨h1, hF⟩ | ⟨h1, q, hkq, hq, hpl, hF⟩
      · obtain rfl : kd = 1 := h1
        have HF := Lib.hid hF
        clear hF hfin
        go_wp2_with fail
        refine HN.out.mono ?_
        rintro e w1 ⟨rfl, hb1⟩
        have hO1 : Hid (TkRow w1 w.heap.size u5 acc) := HO.out.below hb1
        have hbw1 := hbw.trans (hb1.mono hbw.size)
        have hlt1 : w.heap.size ≤ w1.heap.size := hbw1.size
        clear HO hb1 hbw
        go_wp2_with (at_builtin; refine Kd.R_append kTk (w0 := w) (W := w1.alloc (.cells #[.int .i64 1, .string tx, .int .u64 nm, .int .i64 pa] 38)) w.heap.size rfl (.tmp 22) (.tmp 24) 29 38 (.agg #[.int .i64 0, .string ⟨#[]⟩, .int .u64 0, .int .i64 0]) 40 rfl Tryd.underlying29 infoTk rfl (by decide) (by omega) u5 acc (tokOf (1, tx, nm, pa, pl, 0)) (tkCells (tokOf (1, tx, nm, pa, pl, 0))) (fun _ => True) (fun _ => False) rfl (by go_simp) (kTk_mkM _ _ _ _) (fun _ hk => hk.elim) (fun _ _ => trivial) (hO1.out.alloc _) (hbw1.alloc hlt1 _) (by simp; omega) (by omega) ?_; intro v2 w2 hO2 hbw2 hg2 _; have hblk := blk_grown (new_blk w1 _ _) hg2 (hO1.out.lt _ (Nat.le_refl _)); have hc2 : w2.cell? ⟨w1.heap.size, 0, none⟩ = some (.int .i64 1) := blk_cell hblk 0; have HO2 : Hid (TkRow w2 w.heap.size v2 _) := Lib.hid hO2; clear hO2 hg2 hblk hO1)
        go_ret3
        exact ⟨⟨_, by rw [← HF.out]; rfl, by rw [← HF.out]; exact HO2.out⟩, hbw2⟩
      · have h1b : (kd == 1) = false := by rw [beq_eq_false_iff_ne]; exact h1
        obtain rfl : pl = (q : Int) := hpl
        have HF := Lib.hid hF
        clear hF hfin h1
        go_wp2_with fail
        refine HN.out.mono ?_
        rintro e w1 ⟨rfl, hb1⟩
        have hO1 : Hid (TkRow w1 w.heap.size u5 acc) := HO.out.below hb1
        have hbw1 := hbw.trans (hb1.mono hbw.size)
        have hlt1 : w.heap.size ≤ w1.heap.size := hbw1.size
        clear HO hb1 hbw
        go_wp2_with (at_builtin; refine Kd.R_append kTk (w0 := w) (W := w1.alloc (.cells #[.int .i64 kd, .string tx, .int .u64 nm, .int .i64 pa] 38)) w.heap.size rfl (.tmp 22) (.tmp 24) 29 38 (.agg #[.int .i64 0, .string ⟨#[]⟩, .int .u64 0, .int .i64 0]) 40 rfl Tryd.underlying29 infoTk rfl (by decide) (by omega) u5 acc (tokOf (kd, tx, nm, pa, (q : Int), 0)) (tkCells (tokOf (kd, tx, nm, pa, (q : Int), 0))) (fun _ => True) (fun _ => False) rfl (by go_simp) (kTk_mkM _ _ _ _) (fun _ hk => hk.elim) (fun _ _ => trivial) (hO1.out.alloc _) (hbw1.alloc hlt1 _) (by simp; omega) (by omega) ?_; intro v2 w2 hO2 hbw2 hg2 _; have hblk := blk_grown (new_blk w1 _ _) hg2 (hO1.out.lt _ (Nat.le_refl _)); have hc2 : w2.cell? ⟨w1.heap.size, 0, none⟩ = some (.int .i64 kd) := blk_cell hblk 0; have HO2 : Hid (TkRow w2 w.heap.size v2 _) := Lib.hid hO2; clear hO2 hg2 hblk hO1)
        go_roundw
        case rel => exact ⟨q, _, rfl, HO2, hbw2, by simp; omega, hq, HF⟩
        case measure => simp [intOf]; omega
    · have HF : Hid ((acc, errOf (nextV s k), placeOf (nextV s k)) = R) := by
        show _ = _; rw [← HT.out, toksA_err he]; simp
      clear HT
      generalize nextV s k = x at *
      obtain ⟨kd, tx, nm, pa, pl, er⟩ := x
      have he' : (er != 0) = true := by rw [bne_iff_ne]; exact he
      clear he
      unfold nextVal at HN
      go_wp2_with fail
      refine HN.out.mono ?_
      rintro e w1 ⟨rfl, hb1⟩
      have hO1 : Hid (TkRow w1 w.heap.size u5 acc) := HO.out.below hb1
      have hbw1 := hbw.trans (hb1.mono hbw.size)
      have hlt1 : w.heap.size ≤ w1.heap.size := hbw1.size
      clear HO hb1 hbw
      go_wp2
      go_ret3
      exact ⟨⟨_, by rw [← HF.out]; rfl, by rw [← HF.out]; exact hO1.out.alloc _⟩, hbw1.alloc hlt1 _⟩

/-- what List answers -/
def listV (s : ByteArray) : List Tk × Int × Int := if (toks s).2.1 ≠ 0 then ([], (toks s).2) else ((toks s).1, 0, 0)
set_option maxHeartbeats 8000000 in
theorem rlist_any (s : ByteArray) (w : World) :
    Calls Tryd.prog 19 #[.string s] w fun e w' => ListEnd (listV s) w.heap.size e w' ∧ Below w.heap.size w w' := by
  have HC := Lib.hid (rtokens_any s w)
  generalize hR : listV s = R
  have HR := Lib.hid hR; clear hR
  unfold listV at HR
  generalize toks s = P at *
  by_cases h : P.2.1 ≠ 0
  · have HV : Hid (([], P.2) = R) := (if_pos h).symm.trans HR.out
    have hb : (P.2.1 != 0) = true := by rw [bne_iff_ne]; exact h
    clear HR h
    go_enter Tryd.func19, Tryd.ntmps19
    go_wp2_with fail
    refine HC.out.mono ?_
    rintro e w1 ⟨⟨v, rfl, hO⟩, hb1⟩
    have HO := Lib.hid hO; clear hO
    go_wp2
    go_ret3
    exact ⟨⟨_, by rw [← HV.out]; rfl, by rw [← HV.out]; exact Kd.R_nil _ _ _ _ _⟩, hb1⟩
  · have HV : Hid ((P.1, (0 : Int), (0 : Int)) = R) := (if_neg h).symm.trans HR.out
    have hb : (P.2.1 != 0) = false := by rw [bne_eq_false_iff_eq]; simpa using h
    clear HR h
    go_enter Tryd.func19, Tryd.ntmps19
    go_wp2_with fail
    refine HC.out.mono ?_
    rintro e w1 ⟨⟨v, rfl, hO⟩, hb1⟩
    have HO := Lib.hid hO; clear hO
    go_wp2
    go_ret3
    exact ⟨⟨_, by rw [← HV.out]; rfl, by rw [← HV.out]; exact HO.out⟩, hb1⟩
end Go.Proofs.YtlmopoipjolbgaaDoor.LexW
