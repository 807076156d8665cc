/-
  The walks of the reference's layer 5: all tokens, lists of them, are two alike. · Layer 6 (policy): expressions, calls, verdicts, rules: their kinds (what a value's cells say). The text is the kit's print (print.sh), turned to names. · Layer 6 (policy): what is read, as a function of a text's tokens (plain: no program). · Layer 6 (policy): the reader in memory; its step. · Layer 6 (policy): the reader's small readers: bad, is, maybe, want, kind. · The package-level variables that the rows list: what the walks need of them; a world that holds them (for the witnesses).
-/
import Derived.Test.YtlmopoipjolbgaaGreatDoorM02
import Derived.Deep.RegionWith
import Derived.Deep.CutRange
import Derived.Shelf.Abstract
import Derived.BigQuiet
import Derived.Deep.QuietTactic
import Derived.WideShapes
import Derived.Test.YtlmopoipjolbgaaGreatDoorCards
import Derived.Test.YtlmopoipjolbgaaGreatDoorTie
import Derived.ProofKit
import Derived.OpenShut
import Derived.SizedLaws
import Derived.Deep.DeepHandedRow
import Derived.Deep.DeepWitnessRowRef
import Derived.Lib.LaidTab
import Derived.Lib.LaidU8
namespace Go.Proofs.YtlmopoipjolbgaaGreatDoor.LexW
open Go.RowKit Go.Shelf Go.Proofs.YtlmopoipjolbgaaGreatDoor.LexS Go.Proofs.YtlmopoipjolbgaaGreatDoorW.PrintWords
set_option linter.unusedVariables false
set_option linter.unusedSimpArgs false

theorem infoTk : (Tryz.prog.info? 59).map (fun i => (i.zero, i.size, i.bytes)) = some (some (.agg #[.int .i64 0, .string ⟨#[]⟩, .int .u64 0, .int .i64 0]), kTk.sz, 40) := by kernel_rfl

/-- a made list of tokens -/
def TkRow (w : World) (base : Nat) (v : Value) (l : List Tk) : Prop := kTk.R 59 w base (fun _ => True) v l
theorem TkRow.below {w w1 : World} {base : Nat} {v : Value} {l : List Tk} (h : TkRow w base v l) (hb : Below w.heap.size w w1) : TkRow w1 base v l := Kd.R_below h hb
theorem TkRow.alloc {w : World} {base : Nat} {v : Value} {l : List Tk} (h : TkRow w base v l) (o : Obj) : TkRow (w.alloc o) base v l := Kd.R_alloc h o
theorem TkRow.lt {w : World} {base : Nat} {v : Value} {l : List Tk} (h : TkRow w base v l) (g : Nat) (hg : w.heap.size ≤ g) : some g ≠ v.ownBlock := fun e => by
  have := Kd.R_lt h g e.symm; omega

theorem new_blk (w : World) (cs : Array Value) (t : TypeId) : (w.alloc (.cells cs t)).heap[w.heap.size]? = some (.cells cs t (0, 0)) := by
  show (w.heap.push (Obj.cells cs t))[w.heap.size]? = _
  simp

/-- what Tokens and List answer -/
def ListEnd (P : List Tk × Int × Int) (base : Nat) (e : Ending) (w' : World) : Prop := ∃ v, e = .returned (.tuple #[v, .int .i64 P.2.1, .int .i64 P.2.2]) ∧ TkRow w' base v P.1

set_option maxHeartbeats 8000000 in
set_option maxRecDepth 100000 in
theorem rtokens_any (s : ByteArray) (w : World) :
    Calls Tryz.prog 62 #[.string s] w fun e w' => ListEnd (toks s) w.heap.size e w' ∧ Below w.heap.size w w' := by
  generalize hR : toks s = R
  have HR := Lib.hid hR; clear hR
  go_enter Tryz.func62, Tryz.ntmps62
  go_wp2
  go_loopw [5, 6] (fun v vi wr => ∃ (k : Nat) (acc : List Tk), vi = .int .i64 k ∧ Hid (TkRow wr w.heap.size v acc) ∧ Below w.heap.size w wr ∧ acc.length ≤ k ∧ k ≤ s.size ∧ Hid ((acc ++ (toksA s k).1, (toksA s k).2) = R)) (fun _ vi _ => s.size - (intOf vi).toNat)
  case atStart => exact ⟨0, [], rfl, Kd.R_nil _ _ _ _ _, Below.refl _ _, by simp, by omega, HR.out⟩
  case round =>
    clear HR
    obtain ⟨k, acc, rfl, HO, hbw, hlen, hk, HT⟩ := hrel
    have HN := Lib.hid (rnext_any s k wr)
    by_cases he : errOf (nextV s k) = 0
    · obtain ⟨hs, _, hcase⟩ := next_ok s k he
      obtain ⟨x, hx⟩ : ∃ x, x = nextV s k := ⟨_, rfl⟩
      have he0 : x.2.2.2.2.2 = 0 := by rw [hx]; exact he
      rw [← hx] at HN hcase
      have hfin : Hid ((x.1 = 1 ∧ (acc ++ [tokOf x], (0 : Int), (0 : Int)) = R) ∨ (x.1 ≠ 1 ∧ ∃ q : Nat, k < q ∧ q ≤ s.size ∧ placeOf x = q ∧ ((acc ++ [tokOf x]) ++ (toksA s q).1, (toksA s q).2) = R)) := by
        rcases hcase with ⟨h1, _⟩ | ⟨p, q, _, hkp, hpq, hq, h1, _, _, hpl⟩
        · left
          have h2 : x.1 = 1 := by rw [h1]
          refine ⟨h2, ?_⟩
          rw [← HT.out, toksA_end he (by rw [← hx]; exact h2), ← hx]
        · right
          refine ⟨h1, q, by omega, hq, hpl, ?_⟩
          rw [← HT.out, toksA_more he (by rw [← hx]; exact h1) (by rw [← hx]; exact hpl) (by omega), ← hx]
          simp
      clear HT hcase he hx
      obtain ⟨kd, tx, nm, pa, pl, er⟩ := x
      obtain rfl : er = 0 := he0
      unfold nextVal at HN
      rcases hfin.out with ⟨h1, hF⟩ | ⟨h1, q, hkq, hq, hpl, hF⟩
      · obtain rfl : kd = 1 := h1
        have HF := Lib.hid hF
        clear hF hfin
        go_wp2_with fail
        refine HN.out.mono ?_
        rintro e w1 ⟨rfl, hb1⟩
        have hO1 : Hid (TkRow w1 w.heap.size u5 acc) := HO.out.below hb1
        have hbw1 := hbw.trans (hb1.mono hbw.size)
        have hlt1 : w.heap.size ≤ w1.heap.size := hbw1.size
        clear HO hb1 hbw
        go_wp2_with (at_builtin; refine Kd.R_append kTk (w0 := w) (W := w1.alloc (.cells #[.int .i64 1, .string tx, .int .u64 nm, .int .i64 pa] 59)) w.heap.size rfl (.tmp 22) (.tmp 24) 62 59 (.agg #[.int .i64 0, .string ⟨#[]⟩, .int .u64 0, .int .i64 0]) 40 rfl Tryz.underlying62 infoTk rfl (by decide) (by omega) u5 acc (tokOf (1, tx, nm, pa, pl, 0)) (tkCells (tokOf (1, tx, nm, pa, pl, 0))) (fun _ => True) (fun _ => False) rfl (by go_simp) (kTk_mkM _ _ _ _) (fun _ hk => hk.elim) (fun _ _ => trivial) (hO1.out.alloc _) (hbw1.alloc hlt1 _) (by simp; omega) (by omega) ?_; intro v2 w2 hO2 hbw2 hg2 _; have hblk := blk_grown (new_blk w1 _ _) hg2 (hO1.out.lt _ (Nat.le_refl _)); have hc2 : w2.cell? ⟨w1.heap.size, 0, none⟩ = some (.int .i64 1) := blk_cell hblk 0; have HO2 : Hid (TkRow w2 w.heap.size v2 _) := Lib.hid hO2; clear hO2 hg2 hblk hO1)
        go_ret3
        exact ⟨⟨_, by rw [← HF.out]; rfl, by rw [← HF.out]; exact HO2.out⟩, hbw2⟩
      · have h1b : (kd == 1) = false := by rw [beq_eq_false_iff_ne]; exact h1
        obtain rfl : pl = (q : Int) := hpl
        have HF := Lib.hid hF
        clear hF hfin h1
        go_wp2_with fail
        refine HN.out.mono ?_
        rintro e w1 ⟨rfl, hb1⟩
        have hO1 : Hid (TkRow w1 w.heap.size u5 acc) := HO.out.below hb1
        have hbw1 := hbw.trans (hb1.mono hbw.size)
        have hlt1 : w.heap.size ≤ w1.heap.size := hbw1.size
        clear HO hb1 hbw
        go_wp2_with (at_builtin; refine Kd.R_append kTk (w0 := w) (W := w1.alloc (.cells #[.int .i64 kd, .string tx, .int .u64 nm, .int .i64 pa] 59)) w.heap.size rfl (.tmp 22) (.tmp 24) 62 59 (.agg #[.int .i64 0, .string ⟨#[]⟩, .int .u64 0, .int .i64 0]) 40 rfl Tryz.underlying62 infoTk rfl (by decide) (by omega) u5 acc (tokOf (kd, tx, nm, pa, (q : Int), 0)) (tkCells (tokOf (kd, tx, nm, pa, (q : Int), 0))) (fun _ => True) (fun _ => False) rfl (by go_simp) (kTk_mkM _ _ _ _) (fun _ hk => hk.elim) (fun _ _ => trivial) (hO1.out.alloc _) (hbw1.alloc hlt1 _) (by simp; omega) (by omega) ?_; intro v2 w2 hO2 hbw2 hg2 _; have hblk := blk_grown (new_blk w1 _ _) hg2 (hO1.out.lt _ (Nat.le_refl _)); have hc2 : w2.cell? ⟨w1.heap.size, 0, none⟩ = some (.int .i64 kd) := blk_cell hblk 0; have HO2 : Hid (TkRow w2 w.heap.size v2 _) := Lib.hid hO2; clear hO2 hg2 hblk hO1)
        go_roundw
        case rel => exact ⟨q, _, rfl, HO2, hbw2, by simp; omega, hq, HF⟩
        case measure => simp [intOf]; omega
    · have HF : Hid ((acc, errOf (nextV s k), placeOf (nextV s k)) = R) := by
        show _ = _; rw [← HT.out, toksA_err he]; simp
      clear HT
      generalize nextV s k = x at *
      obtain ⟨kd, tx, nm, pa, pl, er⟩ := x
      have he' : (er != 0) = true := by rw [bne_iff_ne]; exact he
      clear he
      unfold nextVal at HN
      go_wp2_with fail
      refine HN.out.mono ?_
      rintro e w1 ⟨rfl, hb1⟩
      have hO1 : Hid (TkRow w1 w.heap.size u5 acc) := HO.out.below hb1
      have hbw1 := hbw.trans (hb1.mono hbw.size)
      have hlt1 : w.heap.size ≤ w1.heap.size := hbw1.size
      clear HO hb1 hbw
      go_wp2
      go_ret3
      exact ⟨⟨_, by rw [← HF.out]; rfl, by rw [← HF.out]; exact hO1.out.alloc _⟩, hbw1.alloc hlt1 _⟩

/-- what List answers -/
def listV (s : ByteArray) : List Tk × Int × Int := if (toks s).2.1 ≠ 0 then ([], (toks s).2) else ((toks s).1, 0, 0)
end Go.Proofs.YtlmopoipjolbgaaGreatDoor.LexW
namespace Go.Proofs.YtlmopoipjolbgaaGreatDoor.LexW
open Go.RowKit Go.Shelf Go.Proofs.YtlmopoipjolbgaaGreatDoor.LexS Go.Proofs.YtlmopoipjolbgaaGreatDoorW.PrintWords
set_option linter.unusedVariables false
set_option linter.unusedSimpArgs false

/-! #### Expr, nested in itself -/
structure Ex where
  f0 : Int
  f1 : (List Ex)
  f2 : Int
  f3 : Int
  f4 : Int
  f5 : Int
def zEx : Ex := ⟨(0 : Int), ([] : List Ex), (0 : Int), (0 : Int), (0 : Int), (0 : Int)⟩
def FEx (d : Kd Ex) : Kd Ex := Kd.iso (Kd.pair (Kd.int .i64) (Kd.pair (Kd.slice 37 d) (Kd.pair (Kd.int .i64) (Kd.pair (Kd.int .u64) (Kd.pair (Kd.int .i64) (Kd.int .u64)))))) (fun x : Ex => (x.f0, x.f1, x.f2, x.f3, x.f4, x.f5))
theorem monoEx : Kd.Mono FEx := Kd.mono_iso _ (Kd.mono_pair (Kd.mono_const _) (Kd.mono_pair (Kd.mono_slice 37 Kd.mono_id) (Kd.mono_pair (Kd.mono_const _) (Kd.mono_pair (Kd.mono_const _) (Kd.mono_pair (Kd.mono_const _) (Kd.mono_const _))))))
theorem subEx : Kd.Sub FEx [37] := Kd.sub_iso _ (Kd.sub_pair (Kd.sub_const _ (by decide)) (Kd.sub_pair (Kd.sub_slice 37 (by decide) Kd.sub_id) (Kd.sub_pair (Kd.sub_const _ (by decide)) (Kd.sub_pair (Kd.sub_const _ (by decide)) (Kd.sub_pair (Kd.sub_const _ (by decide)) (Kd.sub_const _ (by decide)))))))
theorem szEx : ∀ n, (Kd.upto FEx 6 [37] n).sz = 6 := Kd.upto_sz (fun _ => rfl)
def kEx : Kd Ex := Kd.fix FEx 6 [37] szEx (Kd.upto_E subEx)
theorem kEx_open {w : World} {x : Ex} {cs : List Value} (h : kEx.K w x cs) : ∃ A1 c1, cs = [.int .i64 x.f0, .slice A1 x.f1.length c1, .int .i64 x.f2, .int .u64 x.f3, .int .i64 x.f4, .int .u64 x.f5] ∧ x.f1.length ≤ c1 ∧ kEx.C w A1 x.f1.length x.f1 := by
  obtain ⟨n, h⟩ := h
  cases n with
  | zero => exact h.elim
  | succ n =>
    obtain ⟨_, _, rfl, rfl, ⟨_, _, rfl, ⟨A1, c1, rfl, l1, g1⟩, ⟨_, _, rfl, rfl, ⟨_, _, rfl, rfl, ⟨_, _, rfl, rfl, rfl⟩⟩⟩⟩⟩ := h
    exact ⟨A1, c1, rfl, l1, Kd.fix_C g1⟩
theorem kEx_openM {w : World} {base : Nat} {ok : Nat → Prop} {x : Ex} {cs : List Value} (h : kEx.M w base ok x cs) : ∃ v1, cs = [.int .i64 x.f0, v1, .int .i64 x.f2, .int .u64 x.f3, .int .i64 x.f4, .int .u64 x.f5] ∧ kEx.R 37 w base ok v1 x.f1 := by
  obtain ⟨n, h⟩ := h
  cases n with
  | zero => exact h.elim
  | succ n =>
    obtain ⟨_, _, rfl, rfl, ⟨_, _, rfl, ⟨v1, rfl, g1⟩, ⟨_, _, rfl, rfl, ⟨_, _, rfl, rfl, ⟨_, _, rfl, rfl, rfl⟩⟩⟩⟩⟩ := h
    exact ⟨v1, rfl, Kd.fix_R g1⟩
theorem kEx_mk (w : World) (x : Ex) {A1 : Option Addr} {c1 : Nat} (l1 : x.f1.length ≤ c1) (g1 : kEx.C w A1 x.f1.length x.f1) : kEx.K w x [.int .i64 x.f0, .slice A1 x.f1.length c1, .int .i64 x.f2, .int .u64 x.f3, .int .i64 x.f4, .int .u64 x.f5] := by
  obtain ⟨n1, q1⟩ := Kd.fix_C_back monoEx g1
  have r1 := Kd.upto_C_le monoEx szEx (show n1 ≤ n1 by omega) q1
  exact ⟨n1 + 1, ⟨[.int .i64 x.f0], [.slice A1 x.f1.length c1, .int .i64 x.f2, .int .u64 x.f3, .int .i64 x.f4, .int .u64 x.f5], rfl, rfl, ⟨[.slice A1 x.f1.length c1], [.int .i64 x.f2, .int .u64 x.f3, .int .i64 x.f4, .int .u64 x.f5], rfl, ⟨A1, c1, rfl, l1, r1⟩, ⟨[.int .i64 x.f2], [.int .u64 x.f3, .int .i64 x.f4, .int .u64 x.f5], rfl, rfl, ⟨[.int .u64 x.f3], [.int .i64 x.f4, .int .u64 x.f5], rfl, rfl, ⟨[.int .i64 x.f4], [.int .u64 x.f5], rfl, rfl, rfl⟩⟩⟩⟩⟩⟩
theorem kEx_mkM (w : World) (base : Nat) (ok : Nat → Prop) (x : Ex) {v1 : Value} (g1 : kEx.R 37 w base ok v1 x.f1) : kEx.M w base ok x [.int .i64 x.f0, v1, .int .i64 x.f2, .int .u64 x.f3, .int .i64 x.f4, .int .u64 x.f5] := by
  obtain ⟨n1, q1⟩ := Kd.fix_R_back monoEx g1
  have r1 := Kd.upto_R_le monoEx szEx (show n1 ≤ n1 by omega) q1
  exact ⟨n1 + 1, ⟨[.int .i64 x.f0], [v1, .int .i64 x.f2, .int .u64 x.f3, .int .i64 x.f4, .int .u64 x.f5], rfl, rfl, ⟨[v1], [.int .i64 x.f2, .int .u64 x.f3, .int .i64 x.f4, .int .u64 x.f5], rfl, ⟨v1, rfl, r1⟩, ⟨[.int .i64 x.f2], [.int .u64 x.f3, .int .i64 x.f4, .int .u64 x.f5], rfl, rfl, ⟨[.int .u64 x.f3], [.int .i64 x.f4, .int .u64 x.f5], rfl, rfl, ⟨[.int .i64 x.f4], [.int .u64 x.f5], rfl, rfl, rfl⟩⟩⟩⟩⟩⟩
def rd_Ex (xs : List Ex) (i : Int) : Ex := xs.getD i.toNat zEx
theorem at_Ex {w : World} {A : Option Addr} {n : Nat} {xs : List Ex} (h : Kd.C kEx w A n xs) (i : Int) (h0 : 0 ≤ i) (h1 : i < n) : ∃ ad A1 c1, A = some ad ∧ w.cell? (ad.add (i.toNat * 6)) = some (.int .i64 (rd_Ex xs i).f0) ∧ w.cell? ⟨(ad.add (i.toNat * 6)).block, (ad.add (i.toNat * 6)).off + 1, none⟩ = some (.slice A1 (rd_Ex xs i).f1.length c1) ∧ w.cell? ⟨(ad.add (i.toNat * 6)).block, (ad.add (i.toNat * 6)).off + 2, none⟩ = some (.int .i64 (rd_Ex xs i).f2) ∧ w.cell? ⟨(ad.add (i.toNat * 6)).block, (ad.add (i.toNat * 6)).off + 3, none⟩ = some (.int .u64 (rd_Ex xs i).f3) ∧ w.cell? ⟨(ad.add (i.toNat * 6)).block, (ad.add (i.toNat * 6)).off + 4, none⟩ = some (.int .i64 (rd_Ex xs i).f4) ∧ w.cell? ⟨(ad.add (i.toNat * 6)).block, (ad.add (i.toNat * 6)).off + 5, none⟩ = some (.int .u64 (rd_Ex xs i).f5) ∧ (rd_Ex xs i).f1.length ≤ c1 ∧ kEx.C w A1 (rd_Ex xs i).f1.length (rd_Ex xs i).f1 := by
  obtain ⟨ad, c, e, _, hK, hc0⟩ := Kd.C_get h zEx i h0 h1
  have hc : ∀ j u, c[j]? = some u → w.cell? (ad.add (i.toNat * 6 + j)) = some u := hc0
  obtain ⟨A1, c1, rfl, l1, g1⟩ := kEx_open hK
  exact ⟨ad, A1, c1, e, hc 0 _ rfl, by rw [← add_field _ _ 1 (by omega)]; exact hc 1 _ rfl, by rw [← add_field _ _ 2 (by omega)]; exact hc 2 _ rfl, by rw [← add_field _ _ 3 (by omega)]; exact hc 3 _ rfl, by rw [← add_field _ _ 4 (by omega)]; exact hc 4 _ rfl, by rw [← add_field _ _ 5 (by omega)]; exact hc 5 _ rfl, l1, g1⟩

/-! #### Call -/
structure Cl where
  f0 : ByteArray
  f1 : Int
def zCl : Cl := ⟨(⟨#[]⟩ : ByteArray), (0 : Int)⟩
def kCl : Kd Cl := Kd.iso (Kd.pair Kd.string (Kd.int .u64)) (fun x : Cl => (x.f0, x.f1))
theorem kCl_open {w : World} {x : Cl} {cs : List Value} (h : kCl.K w x cs) : cs = [.string x.f0, .int .u64 x.f1] := by
  obtain ⟨_, _, rfl, rfl, rfl⟩ := h
  exact rfl
theorem kCl_openM {w : World} {base : Nat} {ok : Nat → Prop} {x : Cl} {cs : List Value} (h : kCl.M w base ok x cs) : cs = [.string x.f0, .int .u64 x.f1] := by
  obtain ⟨_, _, rfl, rfl, rfl⟩ := h
  exact rfl
theorem kCl_mk (w : World) (x : Cl)  : kCl.K w x [.string x.f0, .int .u64 x.f1] := ⟨[.string x.f0], [.int .u64 x.f1], rfl, rfl, rfl⟩
theorem kCl_mkM (w : World) (base : Nat) (ok : Nat → Prop) (x : Cl)  : kCl.M w base ok x [.string x.f0, .int .u64 x.f1] := ⟨[.string x.f0], [.int .u64 x.f1], rfl, rfl, rfl⟩
def rd_Cl (xs : List Cl) (i : Int) : Cl := xs.getD i.toNat zCl
theorem at_Cl {w : World} {A : Option Addr} {n : Nat} {xs : List Cl} (h : Kd.C kCl w A n xs) (i : Int) (h0 : 0 ≤ i) (h1 : i < n) : ∃ ad , A = some ad ∧ w.cell? (ad.add (i.toNat * 2)) = some (.string (rd_Cl xs i).f0) ∧ w.cell? ⟨(ad.add (i.toNat * 2)).block, (ad.add (i.toNat * 2)).off + 1, none⟩ = some (.int .u64 (rd_Cl xs i).f1) := by
  obtain ⟨ad, c, e, _, hK, hc0⟩ := Kd.C_get h zCl i h0 h1
  have hc : ∀ j u, c[j]? = some u → w.cell? (ad.add (i.toNat * 2 + j)) = some u := hc0
  obtain rfl := kCl_open hK
  exact ⟨ad, e, hc 0 _ rfl, by rw [← add_field _ _ 1 (by omega)]; exact hc 1 _ rfl⟩

/-! #### Verdict -/
structure Vd where
  f0 : Int
  f1 : Int
def zVd : Vd := ⟨(0 : Int), (0 : Int)⟩
def kVd : Kd Vd := Kd.iso (Kd.pair (Kd.int .i64) (Kd.int .u64)) (fun x : Vd => (x.f0, x.f1))
theorem kVd_open {w : World} {x : Vd} {cs : List Value} (h : kVd.K w x cs) : cs = [.int .i64 x.f0, .int .u64 x.f1] := by
  obtain ⟨_, _, rfl, rfl, rfl⟩ := h
  exact rfl
theorem kVd_openM {w : World} {base : Nat} {ok : Nat → Prop} {x : Vd} {cs : List Value} (h : kVd.M w base ok x cs) : cs = [.int .i64 x.f0, .int .u64 x.f1] := by
  obtain ⟨_, _, rfl, rfl, rfl⟩ := h
  exact rfl
theorem kVd_mk (w : World) (x : Vd)  : kVd.K w x [.int .i64 x.f0, .int .u64 x.f1] := ⟨[.int .i64 x.f0], [.int .u64 x.f1], rfl, rfl, rfl⟩
theorem kVd_mkM (w : World) (base : Nat) (ok : Nat → Prop) (x : Vd)  : kVd.M w base ok x [.int .i64 x.f0, .int .u64 x.f1] := ⟨[.int .i64 x.f0], [.int .u64 x.f1], rfl, rfl, rfl⟩
def rd_Vd (xs : List Vd) (i : Int) : Vd := xs.getD i.toNat zVd
theorem at_Vd {w : World} {A : Option Addr} {n : Nat} {xs : List Vd} (h : Kd.C kVd w A n xs) (i : Int) (h0 : 0 ≤ i) (h1 : i < n) : ∃ ad , A = some ad ∧ w.cell? (ad.add (i.toNat * 2)) = some (.int .i64 (rd_Vd xs i).f0) ∧ w.cell? ⟨(ad.add (i.toNat * 2)).block, (ad.add (i.toNat * 2)).off + 1, none⟩ = some (.int .u64 (rd_Vd xs i).f1) := by
  obtain ⟨ad, c, e, _, hK, hc0⟩ := Kd.C_get h zVd i h0 h1
  have hc : ∀ j u, c[j]? = some u → w.cell? (ad.add (i.toNat * 2 + j)) = some u := hc0
  obtain rfl := kVd_open hK
  exact ⟨ad, e, hc 0 _ rfl, by rw [← add_field _ _ 1 (by omega)]; exact hc 1 _ rfl⟩

/-! #### Rule -/
structure Rl where
  f0 : (List Cl)
  f1 : Ex
  f2 : Vd
def zRl : Rl := ⟨([] : List Cl), zEx, zVd⟩
def kRl : Kd Rl := Kd.iso (Kd.pair (Kd.slice 74 kCl) (Kd.pair kEx kVd)) (fun x : Rl => (x.f0, x.f1, x.f2))
theorem kRl_open {w : World} {x : Rl} {cs : List Value} (h : kRl.K w x cs) : ∃ A0 c0 A2 c2, cs = [.slice A0 x.f0.length c0, .int .i64 x.f1.f0, .slice A2 x.f1.f1.length c2, .int .i64 x.f1.f2, .int .u64 x.f1.f3, .int .i64 x.f1.f4, .int .u64 x.f1.f5, .int .i64 x.f2.f0, .int .u64 x.f2.f1] ∧ x.f0.length ≤ c0 ∧ kCl.C w A0 x.f0.length x.f0 ∧ x.f1.f1.length ≤ c2 ∧ kEx.C w A2 x.f1.f1.length x.f1.f1 := by
  obtain ⟨_, _, rfl, ⟨A0, c0, rfl, l0, g0⟩, ⟨_, _, rfl, s1, s7⟩⟩ := h
  obtain ⟨A2, c2, rfl, l2, g2⟩ := kEx_open s1
  obtain rfl := kVd_open s7
  exact ⟨A0, c0, A2, c2, rfl, l0, g0, l2, g2⟩
theorem kRl_openM {w : World} {base : Nat} {ok : Nat → Prop} {x : Rl} {cs : List Value} (h : kRl.M w base ok x cs) : ∃ v0 v2, cs = [v0, .int .i64 x.f1.f0, v2, .int .i64 x.f1.f2, .int .u64 x.f1.f3, .int .i64 x.f1.f4, .int .u64 x.f1.f5, .int .i64 x.f2.f0, .int .u64 x.f2.f1] ∧ kCl.R 74 w base ok v0 x.f0 ∧ kEx.R 37 w base ok v2 x.f1.f1 := by
  obtain ⟨_, _, rfl, ⟨v0, rfl, g0⟩, ⟨_, _, rfl, s1, s7⟩⟩ := h
  obtain ⟨v2, rfl, g2⟩ := kEx_openM s1
  obtain rfl := kVd_openM s7
  exact ⟨v0, v2, rfl, g0, g2⟩
theorem kRl_mk (w : World) (x : Rl) {A0 : Option Addr} {c0 : Nat} (l0 : x.f0.length ≤ c0) (g0 : kCl.C w A0 x.f0.length x.f0) {A2 : Option Addr} {c2 : Nat} (l2 : x.f1.f1.length ≤ c2) (g2 : kEx.C w A2 x.f1.f1.length x.f1.f1) : kRl.K w x [.slice A0 x.f0.length c0, .int .i64 x.f1.f0, .slice A2 x.f1.f1.length c2, .int .i64 x.f1.f2, .int .u64 x.f1.f3, .int .i64 x.f1.f4, .int .u64 x.f1.f5, .int .i64 x.f2.f0, .int .u64 x.f2.f1] := ⟨[.slice A0 x.f0.length c0], [.int .i64 x.f1.f0, .slice A2 x.f1.f1.length c2, .int .i64 x.f1.f2, .int .u64 x.f1.f3, .int .i64 x.f1.f4, .int .u64 x.f1.f5, .int .i64 x.f2.f0, .int .u64 x.f2.f1], rfl, ⟨A0, c0, rfl, l0, g0⟩, ⟨[.int .i64 x.f1.f0, .slice A2 x.f1.f1.length c2, .int .i64 x.f1.f2, .int .u64 x.f1.f3, .int .i64 x.f1.f4, .int .u64 x.f1.f5], [.int .i64 x.f2.f0, .int .u64 x.f2.f1], rfl, (kEx_mk w x.f1 l2 g2), (kVd_mk w x.f2 )⟩⟩
theorem kRl_mkM (w : World) (base : Nat) (ok : Nat → Prop) (x : Rl) {v0 : Value} (g0 : kCl.R 74 w base ok v0 x.f0) {v2 : Value} (g2 : kEx.R 37 w base ok v2 x.f1.f1) : kRl.M w base ok x [v0, .int .i64 x.f1.f0, v2, .int .i64 x.f1.f2, .int .u64 x.f1.f3, .int .i64 x.f1.f4, .int .u64 x.f1.f5, .int .i64 x.f2.f0, .int .u64 x.f2.f1] := ⟨[v0], [.int .i64 x.f1.f0, v2, .int .i64 x.f1.f2, .int .u64 x.f1.f3, .int .i64 x.f1.f4, .int .u64 x.f1.f5, .int .i64 x.f2.f0, .int .u64 x.f2.f1], rfl, ⟨v0, rfl, g0⟩, ⟨[.int .i64 x.f1.f0, v2, .int .i64 x.f1.f2, .int .u64 x.f1.f3, .int .i64 x.f1.f4, .int .u64 x.f1.f5], [.int .i64 x.f2.f0, .int .u64 x.f2.f1], rfl, (kEx_mkM w base ok x.f1 g2), (kVd_mkM w base ok x.f2 )⟩⟩
def rd_Rl (xs : List Rl) (i : Int) : Rl := xs.getD i.toNat zRl
theorem at_Rl {w : World} {A : Option Addr} {n : Nat} {xs : List Rl} (h : Kd.C kRl w A n xs) (i : Int) (h0 : 0 ≤ i) (h1 : i < n) : ∃ ad A0 c0 A2 c2, A = some ad ∧ w.cell? (ad.add (i.toNat * 9)) = some (.slice A0 (rd_Rl xs i).f0.length c0) ∧ w.cell? ⟨(ad.add (i.toNat * 9)).block, (ad.add (i.toNat * 9)).off + 1, none⟩ = some (.int .i64 (rd_Rl xs i).f1.f0) ∧ w.cell? ⟨(ad.add (i.toNat * 9)).block, (ad.add (i.toNat * 9)).off + 2, none⟩ = some (.slice A2 (rd_Rl xs i).f1.f1.length c2) ∧ w.cell? ⟨(ad.add (i.toNat * 9)).block, (ad.add (i.toNat * 9)).off + 3, none⟩ = some (.int .i64 (rd_Rl xs i).f1.f2) ∧ w.cell? ⟨(ad.add (i.toNat * 9)).block, (ad.add (i.toNat * 9)).off + 4, none⟩ = some (.int .u64 (rd_Rl xs i).f1.f3) ∧ w.cell? ⟨(ad.add (i.toNat * 9)).block, (ad.add (i.toNat * 9)).off + 5, none⟩ = some (.int .i64 (rd_Rl xs i).f1.f4) ∧ w.cell? ⟨(ad.add (i.toNat * 9)).block, (ad.add (i.toNat * 9)).off + 6, none⟩ = some (.int .u64 (rd_Rl xs i).f1.f5) ∧ w.cell? ⟨(ad.add (i.toNat * 9)).block, (ad.add (i.toNat * 9)).off + 7, none⟩ = some (.int .i64 (rd_Rl xs i).f2.f0) ∧ w.cell? ⟨(ad.add (i.toNat * 9)).block, (ad.add (i.toNat * 9)).off + 8, none⟩ = some (.int .u64 (rd_Rl xs i).f2.f1) ∧ (rd_Rl xs i).f0.length ≤ c0 ∧ kCl.C w A0 (rd_Rl xs i).f0.length (rd_Rl xs i).f0 ∧ (rd_Rl xs i).f1.f1.length ≤ c2 ∧ kEx.C w A2 (rd_Rl xs i).f1.f1.length (rd_Rl xs i).f1.f1 := by
  obtain ⟨ad, c, e, _, hK, hc0⟩ := Kd.C_get h zRl i h0 h1
  have hc : ∀ j u, c[j]? = some u → w.cell? (ad.add (i.toNat * 9 + j)) = some u := hc0
  obtain ⟨A0, c0, A2, c2, rfl, l0, g0, l2, g2⟩ := kRl_open hK
  exact ⟨ad, A0, c0, A2, c2, e, hc 0 _ rfl, by rw [← add_field _ _ 1 (by omega)]; exact hc 1 _ rfl, by rw [← add_field _ _ 2 (by omega)]; exact hc 2 _ rfl, by rw [← add_field _ _ 3 (by omega)]; exact hc 3 _ rfl, by rw [← add_field _ _ 4 (by omega)]; exact hc 4 _ rfl, by rw [← add_field _ _ 5 (by omega)]; exact hc 5 _ rfl, by rw [← add_field _ _ 6 (by omega)]; exact hc 6 _ rfl, by rw [← add_field _ _ 7 (by omega)]; exact hc 7 _ rfl, by rw [← add_field _ _ 8 (by omega)]; exact hc 8 _ rfl, l0, g0, l2, g2⟩
end Go.Proofs.YtlmopoipjolbgaaGreatDoor.LexW
namespace Go.Proofs.YtlmopoipjolbgaaGreatDoor.LexW
open Go.RowKit Go.Shelf Go.Proofs.YtlmopoipjolbgaaGreatDoor.LexS Go.Proofs.YtlmopoipjolbgaaGreatDoorW.PrintWords
set_option linter.unusedVariables false
set_option linter.unusedSimpArgs false

abbrev EP := Int × Int
/-- what a reader comes to: a value and the tokens that are left; or an error and its place -/
abbrev Rd (α : Type) := Except EP (α × List Tk)
def bnd {α β : Type} (x : Except EP α) (f : α → Except EP β) : Except EP β := match x with | .ok a => f a | .error e => .error e
theorem bnd_ok {α β : Type} (a : α) (f : α → Except EP β) : bnd (.ok a) f = f a := rfl
theorem bnd_err {α β : Type} (e : EP) (f : α → Except EP β) : bnd (.error e) f = .error e := rfl
theorem bnd_inv {α β : Type} {x : Except EP α} {f : α → Except EP β} {b : β} (h : bnd x f = .ok b) : ∃ a, x = .ok a ∧ f a = .ok b := by
  cases x with
  | ok a => exact ⟨a, rfl, h⟩
  | error e => cases h

abbrev hdT (L : List Tk) : Tk := L.headD tkz
/-- one token on; behind the last there is what is wrong -/
def stepP (ep : EP) : List Tk → Except EP (List Tk)
  | _ :: t :: r => .ok (t :: r)
  | _ => .error ep
def badP (c : Int) (L : List Tk) : EP := (c, (hdT L).at_)
/-- a word, or a sign -/
def isT (x : ByteArray) (t : Tk) : Bool := decide (t.text = x) && (t.kind != 3) && (t.kind != 1)
def maybeP (ep : EP) (x : ByteArray) (L : List Tk) : Rd Bool := if isT x (hdT L) then bnd (stepP ep L) (fun L' => .ok (true, L')) else .ok (false, L)
def wantP (ep : EP) (x : ByteArray) (L : List Tk) : Rd Unit := if isT x (hdT L) then bnd (stepP ep L) (fun L' => .ok ((), L')) else .error (badP 61 L)
def kindP (ep : EP) (k : Int) (L : List Tk) : Rd Tk := if (hdT L).kind = k then (if k = 1 then .ok (hdT L, L) else bnd (stepP ep L) (fun L' => .ok (hdT L, L'))) else .error (badP 61 L)

def sNot : ByteArray := ⟨#[110, 111, 116]⟩
def sOpen : ByteArray := ⟨#[40]⟩
def sShut : ByteArray := ⟨#[41]⟩
def sTrue : ByteArray := ⟨#[116, 114, 117, 101]⟩
def sFalse : ByteArray := ⟨#[102, 97, 108, 115, 101]⟩
def sAnd : ByteArray := ⟨#[97, 110, 100]⟩
def sOr : ByteArray := ⟨#[111, 114]⟩
def sAmp : ByteArray := ⟨#[38]⟩
def sComma : ByteArray := ⟨#[44]⟩
def sSemi : ByteArray := ⟨#[59]⟩
def sWhen : ByteArray := ⟨#[119, 104, 101, 110]⟩
def sDo : ByteArray := ⟨#[100, 111]⟩
def sArch : ByteArray := ⟨#[97, 114, 99, 104]⟩
def sForeign : ByteArray := ⟨#[102, 111, 114, 101, 105, 103, 110]⟩
def sDefault : ByteArray := ⟨#[100, 101, 102, 97, 117, 108, 116]⟩
def sOn : ByteArray := ⟨#[111, 110]⟩

/-- the words of actions: the kind, and whether a number follows -/
def wordsT : List (ByteArray × Int × Bool) := [
  (⟨#[107, 105, 108, 108, 95, 112, 114, 111, 99, 101, 115, 115]⟩, 1, false), (⟨#[107, 105, 108, 108, 95, 116, 104, 114, 101, 97, 100]⟩, 2, false), (⟨#[116, 114, 97, 112]⟩, 3, true), (⟨#[101, 114, 114, 110, 111]⟩, 4, true),
  (⟨#[110, 111, 116, 105, 102, 121]⟩, 5, false), (⟨#[116, 114, 97, 99, 101]⟩, 6, true), (⟨#[108, 111, 103]⟩, 7, false), (⟨#[97, 108, 108, 111, 119]⟩, 8, false)]
def fieldsT : List ByteArray := [⟨#[97, 114, 103, 48]⟩, ⟨#[97, 114, 103, 49]⟩, ⟨#[97, 114, 103, 50]⟩, ⟨#[97, 114, 103, 51]⟩, ⟨#[97, 114, 103, 52]⟩, ⟨#[97, 114, 103, 53]⟩, ⟨#[105, 112]⟩]
def relsT : List ByteArray := [⟨#[61, 61]⟩, ⟨#[33, 61]⟩, ⟨#[60]⟩, ⟨#[60, 61]⟩, ⟨#[62]⟩, ⟨#[62, 61]⟩]

def verdictP (ep : EP) (L : List Tk) : Rd Vd :=
  if (hdT L).kind = 2 then
    match wordsT.find? (fun x => decide ((hdT L).text = x.1)) with
    | some (_, k, n) => bnd (stepP ep L) (fun L1 => if n = true then bnd (kindP ep 3 L1) (fun p => .ok (⟨k, p.1.num⟩, p.2)) else .ok (⟨k, 0⟩, L1))
    | none => .error (badP 61 L)
  else .error (badP 61 L)
def callP (ep : EP) (L : List Tk) : Rd Cl :=
  if (hdT L).kind = 3 then bnd (kindP ep 3 L) (fun p => .ok (⟨nil0, p.1.num⟩, p.2)) else bnd (kindP ep 2 L) (fun p => .ok (⟨p.1.text, 0⟩, p.2))

/-- the relation, behind so many of the signs -/
def relF (t : Tk) : Nat → Int
  | 0 => 0
  | i + 1 => if isT (relsT.getD i nil0) t then (i : Int) + 1 else relF t i
def maskP (ep : EP) (L : List Tk) : Rd Int :=
  if (hdT L).kind = 4 then bnd (maybeP ep sAmp L) (fun p => if p.1 = true then bnd (kindP ep 3 p.2) (fun q => .ok (q.1.num, q.2)) else .ok (18446744073709551615, p.2)) else .ok (18446744073709551615, L)
def testP (ep : EP) (f : Int) (L : List Tk) : Rd Ex :=
  bnd (stepP ep L) (fun L1 => bnd (maskP ep L1) (fun p =>
    if relF (hdT p.2) 6 = 0 then .error (badP 61 p.2) else bnd (stepP ep p.2) (fun L3 => bnd (kindP ep 3 L3) (fun q => .ok (⟨6, [], f, p.1, relF (hdT p.2) 6, q.1.num⟩, q.2)))))
/-- what is neither nested -/
def atomP (ep : EP) (L : List Tk) : Rd Ex :=
  if isT sTrue (hdT L) then bnd (stepP ep L) (fun L' => .ok (⟨1, [], 0, 0, 0, 0⟩, L'))
  else if isT sFalse (hdT L) then bnd (stepP ep L) (fun L' => .ok (⟨2, [], 0, 0, 0, 0⟩, L'))
  else match fieldsT.findIdx? (fun x => isT x (hdT L)) with
    | some i => testP ep i L
    | none => .error (badP 61 L)

/-- some of a kind, as long as one more follows -/
def moreP {α : Type} (ep : EP) (one : List Tk → Rd α) (sep : ByteArray) : Nat → List α → List Tk → Rd (List α)
  | 0, l, L => .ok (l, L)
  | n + 1, l, L => bnd (maybeP ep sep L) (fun p => if p.1 = true then bnd (one p.2) (fun q => moreP ep one sep n (l ++ [q.1]) q.2) else .ok (l, p.2))
def turnsP {α : Type} (ep : EP) (one : List Tk → Rd α) (sep : ByteArray) (L : List Tk) : Rd (List α) := bnd (one L) (fun p => moreP ep one sep (p.2.length + 1) [p.1] p.2)
def joinE (op : Int) (l : List Ex) : Ex := match l with | [x] => x | l => ⟨op, l, 0, 0, 0, 0⟩
def allP (ep : EP) (one : List Tk → Rd Ex) (L : List Tk) : Rd Ex := bnd (turnsP ep one sAnd L) (fun p => .ok (joinE 4 p.1, p.2))
def exprP (ep : EP) (one : List Tk → Rd Ex) (L : List Tk) : Rd Ex := bnd (turnsP ep (allP ep one) sOr L) (fun p => .ok (joinE 5 p.1, p.2))
/-- between and and or; so many levels may be opened still -/
def oneP (ep : EP) : Nat → List Tk → Rd Ex
  | 0, L => if isT sNot (hdT L) then .error (badP 62 L) else if isT sOpen (hdT L) then .error (badP 62 L) else atomP ep L
  | k + 1, L =>
    if isT sNot (hdT L) then bnd (stepP ep L) (fun L1 => bnd (oneP ep k L1) (fun p => .ok (⟨3, [p.1], 0, 0, 0, 0⟩, p.2)))
    else if isT sOpen (hdT L) then bnd (stepP ep L) (fun L1 => bnd (exprP ep (oneP ep k) L1) (fun p => bnd (wantP ep sShut p.2) (fun q => .ok (p.1, q.2))))
    else atomP ep L

def ruleP (ep : EP) (L : List Tk) : Rd Rl :=
  bnd (turnsP ep (callP ep) sComma L) (fun p => bnd (maybeP ep sWhen p.2) (fun m =>
    bnd (if m.1 = true then exprP ep (oneP ep 64) m.2 else .ok (⟨1, [], 0, 0, 0, 0⟩, m.2)) (fun x =>
      bnd (wantP ep sDo x.2) (fun d => bnd (verdictP ep d.2) (fun v => bnd (wantP ep sSemi v.2) (fun z => .ok (⟨p.1, x.1, v.1⟩, z.2)))))))
def rulesP (ep : EP) : Nat → List Rl → List Tk → Rd (List Rl)
  | 0, l, L => .ok (l, L)
  | n + 1, l, L => if isT sOn (hdT L) then (if l.length = 512 then .error (badP 63 L) else bnd (stepP ep L) (fun L1 => bnd (ruleP ep L1) (fun p => rulesP ep n (l ++ [p.1]) p.2))) else .ok (l, L)

/-- a policy -/
structure Po where
  arch : ByteArray
  foreign : Vd
  dflt : Vd
  rules : List Rl
def zPo : Po := ⟨nil0, zVd, zVd, []⟩
def policyP (ep : EP) (L : List Tk) : Rd Po :=
  bnd (wantP ep sArch L) (fun p => bnd (kindP ep 2 p.2) (fun a => bnd (wantP ep sSemi a.2) (fun p => bnd (wantP ep sForeign p.2) (fun p => bnd (verdictP ep p.2) (fun f => bnd (wantP ep sSemi f.2) (fun p =>
    bnd (wantP ep sDefault p.2) (fun p => bnd (verdictP ep p.2) (fun d => bnd (wantP ep sSemi d.2) (fun p => bnd (rulesP ep (p.2.length + 1) [] p.2) (fun r => .ok (⟨a.1.text, f.1, d.1, r.1⟩, r.2)))))))))))
/-- a whole text's -/
def wholeP {α : Type} (f : EP → List Tk → Rd α) (s : ByteArray) : Except EP α :=
  match (toks s).1 with
  | [] => .error (toks s).2
  | L => bnd (f (toks s).2 L) (fun p => bnd (kindP (toks s).2 1 p.2) (fun _ => .ok p.1))
def parseV (s : ByteArray) : Po × EP := match wholeP policyP s with | .ok p => (p, (0, 0)) | .error e => (zPo, e)
def exprV (s : ByteArray) : Ex × EP := match wholeP (fun ep => exprP ep (oneP ep 64)) s with | .ok x => (x, (0, 0)) | .error e => (zEx, e)

/-! ### what a reader leaves is no longer -/
theorem stepP_ok {ep : EP} {L L' : List Tk} (h : stepP ep L = .ok L') : ∃ t, L = t :: L' ∧ L' ≠ [] := by
  unfold stepP at h
  split at h
  · injection h with h; subst h; exact ⟨_, rfl, by simp⟩
  · cases h
/-- it leaves no more than there was; and something -/
def Shr {α : Type} (f : List Tk → Rd α) : Prop := ∀ L x L', f L = .ok (x, L') → L'.length ≤ L.length
theorem maybeP_shr {ep : EP} {x : ByteArray} {L L' : List Tk} {b : Bool} (h : maybeP ep x L = .ok (b, L')) : L'.length ≤ L.length ∧ (b = true → L'.length + 1 = L.length) := by
  unfold maybeP at h
  split at h
  · obtain ⟨L1, h1, h2⟩ := bnd_inv h
    obtain ⟨t, rfl, _⟩ := stepP_ok h1
    cases h2
    simp
  · cases h
    simp
theorem wantP_shr (ep : EP) (x : ByteArray) : Shr (wantP ep x) := fun L u L' h => by
  unfold wantP at h
  split at h
  · obtain ⟨L1, h1, h2⟩ := bnd_inv h
    obtain ⟨t, rfl, _⟩ := stepP_ok h1
    cases h2
    simp
  · cases h
theorem kindP_shr (ep : EP) (k : Int) : Shr (kindP ep k) := fun L u L' h => by
  unfold kindP at h
  split at h
  · split at h
    · cases h; exact Nat.le_refl _
    · obtain ⟨L1, h1, h2⟩ := bnd_inv h
      obtain ⟨t, rfl, _⟩ := stepP_ok h1
      cases h2
      simp
  · cases h
theorem verdictP_shr (ep : EP) : Shr (verdictP ep) := fun L u L' h => by
  unfold verdictP at h
  split at h
  · split at h
    · obtain ⟨L1, h1, h2⟩ := bnd_inv h
      obtain ⟨t, rfl, _⟩ := stepP_ok h1
      split at h2
      · obtain ⟨p, h3, h4⟩ := bnd_inv h2
        have := kindP_shr ep 3 _ _ _ h3
        cases h4
        simp; omega
      · cases h2; simp
    · cases h
  · cases h
theorem callP_shr (ep : EP) : Shr (callP ep) := fun L u L' h => by
  unfold callP at h
  split at h
  all_goals
    obtain ⟨p, h3, h4⟩ := bnd_inv h
    have := kindP_shr ep _ _ _ _ h3
    cases h4
    exact this
theorem testP_shr (ep : EP) (f : Int) : Shr (testP ep f) := fun L u L' h => by
  unfold testP at h
  obtain ⟨L1, h1, h2⟩ := bnd_inv h
  obtain ⟨t, rfl, _⟩ := stepP_ok h1
  obtain ⟨p, h3, h4⟩ := bnd_inv h2
  have hp : p.2.length ≤ L1.length := by
    unfold maskP at h3
    split at h3
    · obtain ⟨m, h5, h6⟩ := bnd_inv h3
      have := (maybeP_shr h5).1
      split at h6
      · obtain ⟨q, h7, h8⟩ := bnd_inv h6
        have := kindP_shr ep 3 _ _ _ h7
        cases h8
        simp; omega
      · cases h6; simp; omega
    · cases h3; exact Nat.le_refl _
  split at h4
  · cases h4
  · obtain ⟨L3, h5, h6⟩ := bnd_inv h4
    obtain ⟨t', h7, _⟩ := stepP_ok h5
    obtain ⟨q, h8, h9⟩ := bnd_inv h6
    have := kindP_shr ep 3 _ _ _ h8
    cases h9
    have := congrArg List.length h7
    simp at this ⊢; omega
theorem atomP_shr (ep : EP) : Shr (atomP ep) := fun L u L' h => by
  unfold atomP at h
  split at h
  · obtain ⟨L1, h1, h2⟩ := bnd_inv h
    obtain ⟨t, rfl, _⟩ := stepP_ok h1
    cases h2; simp
  · split at h
    · obtain ⟨L1, h1, h2⟩ := bnd_inv h
      obtain ⟨t, rfl, _⟩ := stepP_ok h1
      cases h2; simp
    · split at h
      · exact testP_shr ep _ _ _ _ h
      · cases h
theorem moreP_shr {α : Type} (ep : EP) {one : List Tk → Rd α} (h1 : Shr one) (sep : ByteArray) : ∀ n l, Shr (moreP ep one sep n l) := by
  intro n
  induction n with
  | zero => intro l L u L' h; cases h; exact Nat.le_refl _
  | succ n ih =>
    intro l L u L' h
    unfold moreP at h
    obtain ⟨p, h2, h3⟩ := bnd_inv h
    have := (maybeP_shr h2).1
    split at h3
    · obtain ⟨q, h4, h5⟩ := bnd_inv h3
      have := h1 _ _ _ h4
      have := ih _ _ _ _ h5
      omega
    · cases h3; omega
theorem turnsP_shr {α : Type} (ep : EP) {one : List Tk → Rd α} (h1 : Shr one) (sep : ByteArray) : Shr (turnsP ep one sep) := fun L u L' h => by
  unfold turnsP at h
  obtain ⟨p, h2, h3⟩ := bnd_inv h
  have := h1 _ _ _ h2
  have := moreP_shr ep h1 sep _ _ _ _ _ h3
  omega
theorem allP_shr (ep : EP) {one : List Tk → Rd Ex} (h1 : Shr one) : Shr (allP ep one) := fun L u L' h => by
  unfold allP at h
  obtain ⟨p, h2, h3⟩ := bnd_inv h
  have := turnsP_shr ep h1 sAnd _ _ _ h2
  cases h3; exact this
theorem exprP_shr (ep : EP) {one : List Tk → Rd Ex} (h1 : Shr one) : Shr (exprP ep one) := fun L u L' h => by
  unfold exprP at h
  obtain ⟨p, h2, h3⟩ := bnd_inv h
  have := turnsP_shr ep (allP_shr ep h1) sOr _ _ _ h2
  cases h3; exact this
theorem oneP_shr (ep : EP) : ∀ k, Shr (oneP ep k) := by
  intro k
  induction k with
  | zero =>
    intro L u L' h
    unfold oneP at h
    split at h
    · cases h
    · split at h
      · cases h
      · exact atomP_shr ep _ _ _ h
  | succ k ih =>
    intro L u L' h
    unfold oneP at h
    split at h
    · obtain ⟨L1, h1, h2⟩ := bnd_inv h
      obtain ⟨t, rfl, _⟩ := stepP_ok h1
      obtain ⟨p, h3, h4⟩ := bnd_inv h2
      have := ih _ _ _ h3
      cases h4
      simp; omega
    · split at h
      · obtain ⟨L1, h1, h2⟩ := bnd_inv h
        obtain ⟨t, rfl, _⟩ := stepP_ok h1
        obtain ⟨p, h3, h4⟩ := bnd_inv h2
        have := exprP_shr ep ih _ _ _ h3
        obtain ⟨q, h5, h6⟩ := bnd_inv h4
        have := wantP_shr ep _ _ _ _ h5
        cases h6
        simp; omega
      · exact atomP_shr ep _ _ _ h
theorem ruleP_shr (ep : EP) : Shr (ruleP ep) := fun L u L' h => by
  unfold ruleP at h
  obtain ⟨p, h1, h⟩ := bnd_inv h
  have := turnsP_shr ep (callP_shr ep) _ _ _ _ h1
  obtain ⟨m, h2, h⟩ := bnd_inv h
  have := (maybeP_shr h2).1
  obtain ⟨x, h3, h⟩ := bnd_inv h
  have : x.2.length ≤ m.2.length := by
    split at h3
    · exact exprP_shr ep (oneP_shr ep 64) _ _ _ h3
    · cases h3; exact Nat.le_refl _
  obtain ⟨d, h4, h⟩ := bnd_inv h
  have := wantP_shr ep _ _ _ _ h4
  obtain ⟨v, h5, h⟩ := bnd_inv h
  have := verdictP_shr ep _ _ _ h5
  obtain ⟨z, h6, h⟩ := bnd_inv h
  have := wantP_shr ep _ _ _ _ h6
  cases h
  simp; omega

/-- more rounds than there are tokens change nothing -/
theorem moreP_enough {α : Type} (ep : EP) {one : List Tk → Rd α} (h1 : Shr one) (sep : ByteArray) : ∀ n m l L, L.length < n → L.length < m → moreP ep one sep n l L = moreP ep one sep m l L := by
  intro n
  induction n with
  | zero => intro m l L h; omega
  | succ n ih =>
    intro m l L hn hm
    obtain ⟨m, rfl⟩ : ∃ j, m = j + 1 := ⟨m - 1, by omega⟩
    unfold moreP
    cases h2 : maybeP ep sep L with
    | error e => rfl
    | ok p =>
      simp only [bnd_ok]
      obtain ⟨b, L1⟩ := p
      have hs := maybeP_shr h2
      cases b with
      | false => rfl
      | true =>
        have := hs.2 rfl
        simp only [if_true]
        cases h3 : one L1 with
        | error e => rfl
        | ok q =>
          simp only [bnd_ok]
          have := h1 _ _ _ h3
          exact ih m _ _ (by omega) (by omega)
theorem rulesP_enough (ep : EP) : ∀ n m l L, L.length < n → L.length < m → rulesP ep n l L = rulesP ep m l L := by
  intro n
  induction n with
  | zero => intro m l L h; omega
  | succ n ih =>
    intro m l L hn hm
    obtain ⟨m, rfl⟩ : ∃ j, m = j + 1 := ⟨m - 1, by omega⟩
    unfold rulesP
    split
    · split
      · rfl
      · cases h2 : stepP ep L with
        | error e => rfl
        | ok L1 =>
          simp only [bnd_ok]
          obtain ⟨t, rfl, _⟩ := stepP_ok h2
          cases h3 : ruleP ep L1 with
          | error e => rfl
          | ok q =>
            simp only [bnd_ok]
            have := ruleP_shr ep _ _ _ h3
            simp at hn hm
            exact ih m _ _ (by omega) (by omega)
    · rfl
end Go.Proofs.YtlmopoipjolbgaaGreatDoor.LexW
namespace Go.Proofs.YtlmopoipjolbgaaGreatDoor.LexW
open Go.RowKit Go.Shelf Go.Proofs.YtlmopoipjolbgaaGreatDoor.LexS Go.Proofs.YtlmopoipjolbgaaGreatDoorW.PrintWords
set_option linter.unusedVariables false
set_option linter.unusedSimpArgs false

/-- what lay at W lies on, but for the blocks of S -/
structure Chg (S : Nat → Prop) (W W' : World) : Prop where
  os : W'.os = W.os
  tape : W'.tape = W.tape
  output : W'.output = W.output
  size : W.heap.size ≤ W'.heap.size
  block : ∀ k, k < W.heap.size → ¬ S k → W'.heap[k]? = W.heap[k]?
theorem Chg.refl (S : Nat → Prop) (W : World) : Chg S W W := ⟨rfl, rfl, rfl, Nat.le_refl _, fun _ _ _ => rfl⟩
theorem Chg.trans {S S' : Nat → Prop} {W W1 W2 : World} (h : Chg S W W1) (h2 : Chg S' W1 W2) (hS : ∀ k, S' k → S k ∨ W.heap.size ≤ k) : Chg S W W2 :=
  ⟨h2.os.trans h.os, h2.tape.trans h.tape, h2.output.trans h.output, Nat.le_trans h.size h2.size, fun k hk hn =>
    (h2.block k (Nat.lt_of_lt_of_le hk h.size) (fun e => (hS k e).elim hn (fun e2 => absurd hk (Nat.not_lt.2 e2)))).trans (h.block k hk hn)⟩
theorem Chg.of_below {W W' : World} (h : Below W.heap.size W W') (S : Nat → Prop) : Chg S W W' := ⟨h.os, h.tape, h.output, h.size, fun k hk _ => h.block k hk⟩
theorem Chg.of_alloc (W : World) (o : Obj) (S : Nat → Prop) : Chg S W (W.alloc o) := Chg.of_below ((Below.refl _ W).alloc (Nat.le_refl _) o) S
theorem Chg.of_set (W : World) (b j : Nat) (v : Value) : Chg (fun k => k = b) W (W.setCell ⟨b, j, none⟩ v) :=
  ⟨rfl, rfl, rfl, by simp, fun k _ hk => Below.heap_setCell _ _ _ k hk⟩
theorem Chg.below {S : Nat → Prop} {W W' : World} (h : Chg S W W') {B : Nat} (hB : B ≤ W.heap.size) (hS : ∀ k, S k → B ≤ k) : Below B W W' :=
  ⟨h.os, h.tape, h.output, h.size, fun k hk => h.block k (by omega) (fun e => by have := hS k e; omega)⟩

/-- the reader's block -/
def RdB (W : World) (g : Nat) (s : ByteArray) (t : Tk) (e d : Int) : Prop :=
  W.heap[g]? = some (.cells #[.string s, .int .i64 t.kind, .string t.text, .int .u64 t.num, .int .i64 t.at_, .int .i64 e, .int .i64 d] 101 (0, 0))
theorem RdB.lt {W : World} {g : Nat} {s : ByteArray} {t : Tk} {e d : Int} (h : RdB W g s t e d) : g < W.heap.size := (Array.getElem?_eq_some_iff.1 h).1
theorem rdb_cell {W : World} {g : Nat} {s : ByteArray} {t : Tk} {e d : Int} (h : RdB W g s t e d) : W.cell? ⟨g, 0, none⟩ = some (.string s) ∧ W.cell? ⟨g, 1, none⟩ = some (.int .i64 t.kind) ∧ W.cell? ⟨g, 2, none⟩ = some (.string t.text) ∧
    W.cell? ⟨g, 3, none⟩ = some (.int .u64 t.num) ∧ W.cell? ⟨g, 4, none⟩ = some (.int .i64 t.at_) ∧ W.cell? ⟨g, 5, none⟩ = some (.int .i64 e) ∧ W.cell? ⟨g, 6, none⟩ = some (.int .i64 d) := by
  refine ⟨?_, ?_, ?_, ?_, ?_, ?_, ?_⟩ <;> simp [World.cell?, show W.heap[g]? = _ from h]
theorem rdb_free {W : World} {g : Nat} {s : ByteArray} {t : Tk} {e d : Int} (h : RdB W g s t e d) (j : Nat) : W.frozen? ⟨g, j, none⟩ = false := by
  simp [World.frozen?, show W.heap[g]? = _ from h]
theorem RdB.below {W W' : World} {g : Nat} {s : ByteArray} {t : Tk} {e d : Int} (h : RdB W g s t e d) (hb : Below W.heap.size W W') : RdB W' g s t e d := (hb.block g h.lt).trans h

/-- the token that comes, and what lies behind it -/
def At (s : ByteArray) (ep : EP) (L : List Tk) (t : Tk) (e : Int) : Prop := ∃ (rest : List Tk) (k : Nat), L = t :: rest ∧ e = (k : Int) ∧ (t.kind ≠ 1 → toksA s k = (rest, ep))
/-- the reader stands at the tokens L -/
def Rdr (s : ByteArray) (ep : EP) (g : Nat) (L : List Tk) (d : Int) (W : World) : Prop := ∃ t e, RdB W g s t e d ∧ At s ep L t e

def wrongV (p : EP) : Value := .iface 49 (.agg #[.int .i64 p.1, .int .i64 p.2])
def panics (p : EP) : Ending := .panicked [{ v := wrongV p, recovered := false }]

theorem toksA_nil {s : ByteArray} {k : Nat} {ep : EP} (h : toksA s k = ([], ep)) : errOf (nextV s k) ≠ 0 ∧ ep = (errOf (nextV s k), placeOf (nextV s k)) := by
  by_cases he : errOf (nextV s k) = 0
  · exfalso
    obtain ⟨_, hk, ⟨h1, _⟩ | ⟨p, q, _, hkp, hpq, hq, h1, _, _, hpl⟩⟩ := next_ok s k he
    · rw [toksA_end he (by rw [h1])] at h; cases h
    · rw [toksA_more he h1 hpl (by omega)] at h; cases h
  · rw [toksA_err he] at h
    exact ⟨he, (congrArg Prod.snd h).symm⟩
theorem toksA_cons {s : ByteArray} {k : Nat} {ep : EP} {t : Tk} {r : List Tk} (h : toksA s k = (t :: r, ep)) : errOf (nextV s k) = 0 ∧ t = tokOf (nextV s k) ∧ At s ep (t :: r) t (placeOf (nextV s k)) := by
  by_cases he : errOf (nextV s k) = 0
  · obtain ⟨_, hk, ⟨h1, _⟩ | ⟨p, q, _, hkp, hpq, hq, h1, _, _, hpl⟩⟩ := next_ok s k he
    · rw [toksA_end he (by rw [h1])] at h
      obtain ⟨h2, h3⟩ := Prod.mk.inj h
      obtain ⟨h4, h5⟩ := List.cons.inj h2
      refine ⟨he, h4.symm, r, s.size, rfl, by rw [h1], fun hn => absurd ?_ hn⟩
      rw [← h4]; show (nextV s k).1 = 1; rw [h1]
    · rw [toksA_more he h1 hpl (by omega)] at h
      obtain ⟨h2, h3⟩ := Prod.mk.inj h
      obtain ⟨h4, h5⟩ := List.cons.inj h2
      refine ⟨he, h4.symm, r, q, rfl, hpl, fun _ => ?_⟩
      rw [← h5, ← h3]
  · rw [toksA_err he] at h; cases h

theorem cell_past {W : World} {a : Addr} {v : Value} (o : Obj) (h : W.cell? a = some v) : (W.alloc o).cell? a = some v := by
  exact cell_stays ((Below.refl _ W).alloc (Nat.le_refl _) o) h
theorem zero_stays {W w1 : World} (hb : Below (W.alloc (.cells #[.int .i64 0, .string ⟨#[]⟩, .int .u64 0, .int .i64 0] 59)).drew.heap.size (W.alloc (.cells #[.int .i64 0, .string ⟨#[]⟩, .int .u64 0, .int .i64 0] 59)).drew w1) :
    w1.cell? ⟨W.heap.size, 0, none⟩ = some (.int .i64 0) ∧ w1.cell? ⟨W.heap.size, 1, none⟩ = some (.string ⟨#[]⟩) ∧ w1.cell? ⟨W.heap.size, 2, none⟩ = some (.int .u64 0) ∧ w1.cell? ⟨W.heap.size, 3, none⟩ = some (.int .i64 0) ∧ ∀ j, w1.frozen? ⟨W.heap.size, j, none⟩ = false := by
  have h : w1.heap[W.heap.size]? = some (.cells #[.int .i64 0, .string ⟨#[]⟩, .int .u64 0, .int .i64 0] 59 (0, 0)) := (hb.block _ (by simp)).trans (new_blk W _ _)
  refine ⟨?_, ?_, ?_, ?_, fun j => ?_⟩ <;> simp [World.cell?, World.frozen?, h]

theorem zero_intro {W w1 : World} {Q : Prop} (hb : Below (W.alloc (.cells #[.int .i64 0, .string ⟨#[]⟩, .int .u64 0, .int .i64 0] 59)).drew.heap.size (W.alloc (.cells #[.int .i64 0, .string ⟨#[]⟩, .int .u64 0, .int .i64 0] 59)).drew w1)
    (h : w1.cell? ⟨W.heap.size, 0, none⟩ = some (.int .i64 0) → w1.cell? ⟨W.heap.size, 1, none⟩ = some (.string ⟨#[]⟩) → w1.cell? ⟨W.heap.size, 2, none⟩ = some (.int .u64 0) → w1.cell? ⟨W.heap.size, 3, none⟩ = some (.int .i64 0) → (∀ j, w1.frozen? ⟨W.heap.size, j, none⟩ = false) → Q) : Q :=
  let ⟨a, b, c, d, e⟩ := zero_stays hb; h a b c d e

theorem blk_set {w : World} {g : Nat} {cs : Array Value} {t : TypeId} (h : w.heap[g]? = some (.cells cs t (0, 0))) (i : Nat) (v : Value) : (w.setCell ⟨g, i, none⟩ v).heap[g]? = some (.cells (cs.setIfInBounds i v) t (0, 0)) := heap_setCell_same w g i cs t v h
/-- behind the region in which Next is called -/
def StepMid (W : World) (x : Tk) (pl er : Int) (v2 v3 v4 : Value) (wc : World) : Prop := ∃ B, v2 = .pointer (some ⟨B, 0, none⟩) ∧ v3 = .int .i64 pl ∧ v4 = .int .i64 er ∧ W.heap.size ≤ B ∧ wc.heap[B]? = some (.cells (tkCells x).toArray 59 (0, 0)) ∧ Below W.heap.size W wc
theorem mid_new {W w1 : World} {kd : Int} {tx : ByteArray} {nm pa pl er : Int} (hb : Below W.drew.heap.size W.drew w1) : StepMid W ⟨kd, tx, nm, pa⟩ pl er (.pointer (some ⟨w1.heap.size, 0, none⟩)) (.int .i64 pl) (.int .i64 er) (w1.alloc (.cells #[.int .i64 kd, .string tx, .int .u64 nm, .int .i64 pa] 59)) :=
  ⟨_, rfl, rfl, rfl, hb.size, new_blk w1 _ _, ((Below.refl _ W).drew.trans hb).alloc hb.size _⟩
theorem mid_old {W w1 : World} {kd : Int} {tx : ByteArray} {nm pa pl er : Int} (hb : Below (W.alloc (.cells #[.int .i64 0, .string ⟨#[]⟩, .int .u64 0, .int .i64 0] 59)).drew.heap.size (W.alloc (.cells #[.int .i64 0, .string ⟨#[]⟩, .int .u64 0, .int .i64 0] 59)).drew w1) :
    StepMid W ⟨kd, tx, nm, pa⟩ pl er (.pointer (some ⟨W.heap.size, 0, none⟩)) (.int .i64 pl) (.int .i64 er) ((((w1.setCell ⟨W.heap.size, 0, none⟩ (.int .i64 kd)).setCell ⟨W.heap.size, 1, none⟩ (.string tx)).setCell ⟨W.heap.size, 2, none⟩ (.int .u64 nm)).setCell ⟨W.heap.size, 3, none⟩ (.int .i64 pa)) := by
  have h : w1.heap[W.heap.size]? = some (.cells #[.int .i64 0, .string ⟨#[]⟩, .int .u64 0, .int .i64 0] 59 (0, 0)) := (hb.block _ (by simp)).trans (new_blk W _ _)
  refine ⟨_, rfl, rfl, rfl, Nat.le_refl _, blk_set (blk_set (blk_set (blk_set h 0 _) 1 _) 2 _) 3 _, ?_⟩
  have h0 : Below W.heap.size W w1 := (((Below.refl _ W).alloc (Nat.le_refl _) _).drew).trans (hb.mono (by simp))
  exact (((h0.setCell (p := ⟨W.heap.size, 0, none⟩) (by simp) _).setCell (p := ⟨W.heap.size, 1, none⟩) (by simp) _).setCell (p := ⟨W.heap.size, 2, none⟩) (by simp) _).setCell (p := ⟨W.heap.size, 3, none⟩) (by simp) _

set_option maxRecDepth 100000 in
set_option maxHeartbeats 1000000 in
/-- **step, where a token comes** -/
theorem step_ok (s : ByteArray) (ep : EP) (g k : Nat) (t t' : Tk) (r : List Tk) (d : Int) (w0 W : World) (hE : Env w0) (hg : w0.heap.size ≤ g) (hb : Below w0.heap.size w0 W) (hR : RdB W g s t k d) (hT : toksA s k = (t' :: r, ep)) :
    Calls Tryz.prog 55 #[.pointer (some ⟨g, 0, none⟩)] W fun e W' => e = .returned (.tuple #[]) ∧ Rdr s ep g (t' :: r) d W' ∧ Chg (fun k => k = g) W W' := by
  obtain ⟨he, ht, hA⟩ := toksA_cons hT
  have HN := Lib.hid (next_any s k)
  generalize nextV s k = x at *
  obtain ⟨kd, tx, nm, pa, pl, er⟩ := x
  obtain rfl : er = 0 := he
  obtain ⟨c0, c1, c2, c3, c4, c5, c6⟩ := rdb_cell hR
  have f0 := rdb_free hR
  have a0 := cell_past (.cells #[.int .i64 0, .string ⟨#[]⟩, .int .u64 0, .int .i64 0] 59) c0
  have a5 := cell_past (.cells #[.int .i64 0, .string ⟨#[]⟩, .int .u64 0, .int .i64 0] 59) c5
  have HTK := Lib.hid ht; have HT := Lib.hid hT; have HA := Lib.hid hA; have HR := Lib.hid hR; have HB := Lib.hid hb
  unfold nextVal at HN
  have HEB : Hid (∀ W', Below W.heap.size W W' → Env W') := Lib.hid (fun W' h => hE.below (hb.trans (h.mono hb.size)))
  clear hT hA hR ht hE hb
  go_enter Tryz.func55, Tryz.ntmps55
  go_wp2
  go_cut [2, 3, 4] from 5 (fun v2 v3 v4 wc => StepMid W ⟨kd, tx, nm, pa⟩ pl 0 v2 v3 v4 wc)
  case first =>
    go_region_with (go_at_call 83; refine (HN.out _ (HEB.out _ (by first | exact (Below.refl _ _).drew | exact ((Below.refl _ _).alloc (Nat.le_refl _) _).drew | exact ((Below.refl _ _).drew).alloc (by simp) _))).mono ?_; rintro e w1 ⟨rfl, hb1⟩; first | (refine zero_intro hb1 ?_; intro z0 z1 z2 z3 zf) | skip)
    all_goals go_wp2_with fail
    all_goals go_meet
    all_goals first | with_reducible exact mid_new hb1 | with_reducible exact mid_old hb1
  case rest =>
    obtain ⟨B, rfl, rfl, rfl, hB, hBk, hbl⟩ := hcut
    have hR1 := HR.out.below hbl
    obtain ⟨d0, d1, d2, d3, d4, d5, d6⟩ := rdb_cell hR1
    have e0 := rdb_free hR1
    have b0 : wc.cell? ⟨B, 0, none⟩ = some (.int .i64 kd) := by simp [World.cell?, hBk, tkCells]
    have b1 : wc.cell? ⟨B, 1, none⟩ = some (.string tx) := by simp [World.cell?, hBk, tkCells]
    have b2 : wc.cell? ⟨B, 2, none⟩ = some (.int .u64 nm) := by simp [World.cell?, hBk, tkCells]
    have b3 : wc.cell? ⟨B, 3, none⟩ = some (.int .i64 pa) := by simp [World.cell?, hBk, tkCells]
    have HBL := Lib.hid hbl; have HR1 := Lib.hid hR1
    clear hBk hbl hR1 c0 c1 c2 c3 c4 c5 c6 f0 a0 a5 HN HEB HB
    go_wp2
    go_end0
    have hs : ∀ X : World, Chg (fun k => k = g) X (((((X.setCell ⟨g, 1, none⟩ (.int .i64 kd)).setCell ⟨g, 2, none⟩ (.string tx)).setCell ⟨g, 3, none⟩ (.int .u64 nm)).setCell ⟨g, 4, none⟩ (.int .i64 pa)).setCell ⟨g, 5, none⟩ (.int .i64 pl)) := fun X =>
      ((((Chg.of_set X g 1 _).trans (Chg.of_set _ g 2 _) (fun k e => .inl e)).trans (Chg.of_set _ g 3 _) (fun k e => .inl e)).trans (Chg.of_set _ g 4 _) (fun k e => .inl e)).trans (Chg.of_set _ g 5 _) (fun k e => .inl e)
    have hblk := blk_set (blk_set (blk_set (blk_set (blk_set HR1.out 1 (.int .i64 kd)) 2 (.string tx)) 3 (.int .u64 nm)) 4 (.int .i64 pa)) 5 (.int .i64 pl)
    refine ⟨rfl, ⟨t', pl, ?_, HA.out⟩, (Chg.of_below HBL.out _).trans (hs wc) (fun k e => .inl e)⟩
    rw [HTK.out]
    exact hblk
set_option maxRecDepth 100000 in
set_option maxHeartbeats 1000000 in
/-- **step, where something is wrong** -/
theorem step_err (s : ByteArray) (ep : EP) (g k : Nat) (t : Tk) (d : Int) (w0 W : World) (hE : Env w0) (hg : w0.heap.size ≤ g) (hb : Below w0.heap.size w0 W) (hR : RdB W g s t k d) (hT : toksA s k = ([], ep)) :
    Calls Tryz.prog 55 #[.pointer (some ⟨g, 0, none⟩)] W fun e W' => e = panics ep ∧ Chg (fun k => k = g) W W' := by
  obtain ⟨he, ht⟩ := toksA_nil hT
  have HN := Lib.hid (next_any s k)
  generalize nextV s k = x at *
  obtain ⟨kd, tx, nm, pa, pl, er⟩ := x
  have heb : (er != 0) = true := by rw [bne_iff_ne]; exact he
  clear he
  obtain ⟨c0, c1, c2, c3, c4, c5, c6⟩ := rdb_cell hR
  have f0 := rdb_free hR
  have a0 := cell_past (.cells #[.int .i64 0, .string ⟨#[]⟩, .int .u64 0, .int .i64 0] 59) c0
  have a5 := cell_past (.cells #[.int .i64 0, .string ⟨#[]⟩, .int .u64 0, .int .i64 0] 59) c5
  have HTK := Lib.hid ht; have HT := Lib.hid hT; have HR := Lib.hid hR; have HB := Lib.hid hb
  unfold nextVal at HN
  have HEB : Hid (∀ W', Below W.heap.size W W' → Env W') := Lib.hid (fun W' h => hE.below (hb.trans (h.mono hb.size)))
  clear hT hR ht hE hb
  go_enter Tryz.func55, Tryz.ntmps55
  go_wp2
  go_cut [2, 3, 4] from 5 (fun v2 v3 v4 wc => StepMid W ⟨kd, tx, nm, pa⟩ pl er v2 v3 v4 wc)
  case first =>
    go_region_with (go_at_call 83; refine (HN.out _ (HEB.out _ (by first | exact (Below.refl _ _).drew | exact ((Below.refl _ _).alloc (Nat.le_refl _) _).drew | exact ((Below.refl _ _).drew).alloc (by simp) _))).mono ?_; rintro e w1 ⟨rfl, hb1⟩; first | (refine zero_intro hb1 ?_; intro z0 z1 z2 z3 zf) | skip)
    all_goals go_wp2_with fail
    all_goals go_meet
    all_goals first | with_reducible exact mid_new hb1 | with_reducible exact mid_old hb1
  case rest =>
    obtain ⟨B, rfl, rfl, rfl, hB, hBk, hbl⟩ := hcut
    have hR1 := HR.out.below hbl
    obtain ⟨d0, d1, d2, d3, d4, d5, d6⟩ := rdb_cell hR1
    have e0 := rdb_free hR1
    have HBL := Lib.hid hbl; have HR1 := Lib.hid hR1
    clear hBk hbl hR1 c0 c1 c2 c3 c4 c5 c6 f0 a0 a5 HN HEB HB
    go_wp2
    exact ⟨rfl, by rw [HTK.out]; rfl, Chg.of_below HBL.out _⟩
end Go.Proofs.YtlmopoipjolbgaaGreatDoor.LexW
namespace Go.Proofs.YtlmopoipjolbgaaGreatDoor.LexW
open Go.RowKit Go.Shelf Go.Proofs.YtlmopoipjolbgaaGreatDoor.LexS Go.Proofs.YtlmopoipjolbgaaGreatDoorW.PrintWords
set_option linter.unusedVariables false
set_option linter.unusedSimpArgs false

/-- the place of what is wrong, where the reader stands -/
theorem bad_any (s : ByteArray) (ep : EP) (g : Nat) (L : List Tk) (d c : Int) (W : World) (hR : Rdr s ep g L d W) :
    Calls Tryz.prog 60 #[.pointer (some ⟨g, 0, none⟩), .int .i64 c] W fun e W' => e = panics (badP c L) ∧ W = W' := by
  obtain ⟨t, e, hB, rest, k, rfl, rfl, hT⟩ := hR
  obtain ⟨c0, c1, c2, c3, c4, c5, c6⟩ := rdb_cell hB
  clear hT hB
  go_enter Tryz.func60, Tryz.ntmps60
  go_wp2
  exact ⟨rfl, rfl, rfl⟩

set_option maxHeartbeats 1000000 in
/-- is the next one this word, or sign? -/
theorem is_any (s : ByteArray) (ep : EP) (g : Nat) (L : List Tk) (d : Int) (x : ByteArray) (W : World) (hR : Rdr s ep g L d W) :
    Calls Tryz.prog 59 #[.pointer (some ⟨g, 0, none⟩), .string x] W fun e W' => e = .returned (.bool (isT x (hdT L))) ∧ W = W' := by
  obtain ⟨t, e, hB, rest, k, rfl, rfl, hT⟩ := hR
  obtain ⟨c0, c1, c2, c3, c4, c5, c6⟩ := rdb_cell hB
  clear hT hB
  show Calls _ _ _ _ fun e W' => e = .returned (.bool (isT x t)) ∧ W = W'
  generalize hv : isT x t = v
  have HV := Lib.hid hv; clear hv
  unfold isT at HV
  by_cases h1 : t.text = x
  · subst h1
    by_cases h2 : t.kind = 3
    · have b2 : (t.kind != 3) = false := by rw [bne_eq_false_iff_eq]; exact h2
      have HV2 : Hid (v = false) := Lib.hid (by rw [← HV.out, b2]; simp)
      clear h2
      go_enter Tryz.func59, Tryz.ntmps59
      go_wp2
      go_ret
      exact ⟨by rw [HV2.out]; rfl, rfl⟩
    · have b2 : (t.kind != 3) = true := by rw [bne_iff_ne]; exact h2
      have HV2 : Hid (v = (t.kind != 1)) := Lib.hid (by rw [← HV.out, b2]; simp)
      clear h2
      go_enter Tryz.func59, Tryz.ntmps59
      go_wp2
      go_ret
      exact ⟨by rw [HV2.out]; rfl, rfl⟩
  · have b1 := fun (h : t.text.toList = x.toList) => h1 (WideShapes.bytes_inj (by rw [← Lib.toList_data, ← Lib.toList_data]; exact h))
    have HV2 : Hid (v = false) := Lib.hid (by rw [← HV.out, decide_eq_false h1]; simp)
    have b1' : (t.text.toList == x.toList) = false := by rw [beq_eq_false_iff_ne]; exact b1
    clear h1
    go_enter Tryz.func59, Tryz.ntmps59
    go_wp2
    go_ret
    exact ⟨by rw [HV2.out]; rfl, rfl⟩

/-- what a reader comes to: it returns, or gives up; nothing but the reader has turned -/
def Outs {β : Type} (g : Nat) (W : World) (r : Except EP β) (P : β → Ending → World → Prop) (e : Ending) (W' : World) : Prop := (match r with | .ok b => P b e W' | .error p => e = panics p) ∧ Chg (fun k => k = g) W W'
theorem Outs.ok {β : Type} {g : Nat} {W : World} {r : Except EP β} {P : β → Ending → World → Prop} {e : Ending} {W' : World} {b : β} (h : Outs g W r P e W') (hr : r = .ok b) : P b e W' ∧ Chg (fun k => k = g) W W' := by subst hr; exact h
theorem Outs.err {β : Type} {g : Nat} {W : World} {r : Except EP β} {P : β → Ending → World → Prop} {e : Ending} {W' : World} {p : EP} (h : Outs g W r P e W') (hr : r = .error p) : e = .panicked [{ v := wrongV p, recovered := false }] ∧ Chg (fun k => k = g) W W' := by subst hr; exact h
theorem Outs.mk_ok {β : Type} {g : Nat} {W : World} {r : Except EP β} {P : β → Ending → World → Prop} {e : Ending} {W' : World} {b : β} (hr : r = .ok b) (h : P b e W') (hc : Chg (fun k => k = g) W W') : Outs g W r P e W' := by subst hr; exact ⟨h, hc⟩
theorem Outs.mk_err {β : Type} {g : Nat} {W : World} {r : Except EP β} {P : β → Ending → World → Prop} {e : Ending} {W' : World} {p : EP} (hr : r = .error p) (h : e = panics p) (hc : Chg (fun k => k = g) W W') : Outs g W r P e W' := by subst hr; exact ⟨h, hc⟩

/-- the world in which a reader reads: the errors and tables lie at w0 -/
structure Okw (w0 : World) (g : Nat) (W : World) : Prop where
  env : Env w0
  hg : w0.heap.size ≤ g
  hb : Below w0.heap.size w0 W
theorem Okw.chg {w0 W W' : World} {g : Nat} (h : Okw w0 g W) (hc : Chg (fun k => k = g) W W') : Okw w0 g W' := ⟨h.env, h.hg, h.hb.trans (hc.below h.hb.size (fun k e => by have := h.hg; omega))⟩
theorem Okw.below {w0 W W' : World} {g : Nat} (h : Okw w0 g W) (hb : Below W.heap.size W W') : Okw w0 g W' := ⟨h.env, h.hg, h.hb.trans (hb.mono h.hb.size)⟩
theorem Rdr.below {s : ByteArray} {ep : EP} {g : Nat} {L : List Tk} {d : Int} {W W' : World} (h : Rdr s ep g L d W) (hb : Below W.heap.size W W') : Rdr s ep g L d W' := let ⟨t, e, hB, hA⟩ := h; ⟨t, e, hB.below hb, hA⟩
theorem Rdr.lt {s : ByteArray} {ep : EP} {g : Nat} {L : List Tk} {d : Int} {W : World} (h : Rdr s ep g L d W) : g < W.heap.size := let ⟨t, e, hB, hA⟩ := h; hB.lt

def UnitOut (s : ByteArray) (ep : EP) (g : Nat) (d : Int) (L' : List Tk) (e : Ending) (W' : World) : Prop := e = .returned (.tuple #[]) ∧ Rdr s ep g L' d W'
theorem step_any (s : ByteArray) (ep : EP) (g : Nat) (L : List Tk) (d : Int) (w0 W : World) (hO : Okw w0 g W) (hR : Rdr s ep g L d W) (hk : (hdT L).kind ≠ 1) :
    Calls Tryz.prog 55 #[.pointer (some ⟨g, 0, none⟩)] W (Outs g W (stepP ep L) (UnitOut s ep g d)) := by
  obtain ⟨t, e, hB, rest, k, rfl, rfl, hT⟩ := hR
  have hT := hT hk
  cases rest with
  | nil =>
    refine (step_err s ep g k t d w0 W hO.env hO.hg hO.hb hB hT).mono ?_
    rintro e W' ⟨rfl, hc⟩
    exact Outs.mk_err rfl rfl hc
  | cons t' r =>
    refine (step_ok s ep g k t t' r d w0 W hO.env hO.hg hO.hb hB hT).mono ?_
    rintro e W' ⟨rfl, hR', hc⟩
    exact Outs.mk_ok rfl ⟨rfl, hR'⟩ hc
theorem isT_kind {x : ByteArray} {t : Tk} (h : isT x t = true) : t.kind ≠ 1 := by
  unfold isT at h
  simp only [Bool.and_eq_true, bne_iff_ne] at h
  exact h.2

def BoolOut (s : ByteArray) (ep : EP) (g : Nat) (d : Int) (p : Bool × List Tk) (e : Ending) (W' : World) : Prop := e = .returned (.bool p.1) ∧ Rdr s ep g p.2 d W'
theorem maybe_any (s : ByteArray) (ep : EP) (g : Nat) (L : List Tk) (d : Int) (x : ByteArray) (w0 W : World) (hO : Okw w0 g W) (hR : Rdr s ep g L d W) :
    Calls Tryz.prog 70 #[.pointer (some ⟨g, 0, none⟩), .string x] W (Outs g W (maybeP ep x L) (BoolOut s ep g d)) := by
  have HI := Lib.hid (is_any s ep g L d x W hR)
  have HR := Lib.hid hR; have HO := Lib.hid hO
  clear hR hO
  cases hi : isT x (hdT L) with
  | false =>
    have hm : maybeP ep x L = .ok (false, L) := by unfold maybeP; rw [hi]; rfl
    rw [hi] at HI
    have HM := Lib.hid hm; clear hm hi
    go_enter Tryz.func70, Tryz.ntmps70
    go_wp2_with fail
    refine HI.out.mono ?_
    rintro e W' ⟨rfl, rfl⟩
    go_wp2
    go_ret
    exact Outs.mk_ok HM.out ⟨rfl, HR.out⟩ (Chg.refl _ _)
  | true =>
    rw [hi] at HI
    have HS := Lib.hid (step_any s ep g L d w0 W HO.out HR.out (isT_kind hi))
    have hm : maybeP ep x L = bnd (stepP ep L) (fun L' => .ok (true, L')) := by unfold maybeP; rw [hi]; rfl
    have HM := Lib.hid hm; clear hm hi
    cases hs : stepP ep L with
    | error p =>
      have HSE := Lib.hid hs; clear hs
      go_enter Tryz.func70, Tryz.ntmps70
      go_wp2_with fail
      refine HI.out.mono ?_
      rintro e W' ⟨rfl, rfl⟩
      go_wp2_with fail
      refine HS.out.mono ?_
      rintro e W' h
      obtain ⟨rfl, hc⟩ := h.err HSE.out
      go_wp2
      exact ⟨rfl, Outs.mk_err (by rw [HM.out, HSE.out]; rfl) rfl hc⟩
    | ok L' =>
      have HSE := Lib.hid hs; clear hs
      go_enter Tryz.func70, Tryz.ntmps70
      go_wp2_with fail
      refine HI.out.mono ?_
      rintro e W' ⟨rfl, rfl⟩
      go_wp2_with fail
      refine HS.out.mono ?_
      rintro e W' h
      obtain ⟨⟨rfl, hR'⟩, hc⟩ := h.ok HSE.out
      have HR' := Lib.hid hR'; have HC := Lib.hid hc; clear hR' hc
      go_wp2
      go_ret
      exact Outs.mk_ok (by rw [HM.out, HSE.out]; rfl) ⟨rfl, HR'.out⟩ HC.out

theorem want_any (s : ByteArray) (ep : EP) (g : Nat) (L : List Tk) (d : Int) (x : ByteArray) (w0 W : World) (hO : Okw w0 g W) (hR : Rdr s ep g L d W) :
    Calls Tryz.prog 57 #[.pointer (some ⟨g, 0, none⟩), .string x] W (Outs g W (wantP ep x L) fun p e W' => e = .returned (.tuple #[]) ∧ Rdr s ep g p.2 d W') := by
  have HI := Lib.hid (maybe_any s ep g L d x w0 W hO hR)
  have HR := Lib.hid hR; have HO := Lib.hid hO
  clear hR hO
  have hw : wantP ep x L = bnd (maybeP ep x L) (fun p => if p.1 = true then .ok ((), p.2) else .error (badP 61 L)) := by
    unfold wantP maybeP
    cases isT x (hdT L) with
    | false => rfl
    | true => cases stepP ep L <;> rfl
  have HW := Lib.hid hw; clear hw
  have hL : ∀ L1, maybeP ep x L = .ok (false, L1) → L1 = L := fun L1 h => by
    unfold maybeP at h
    split at h
    · obtain ⟨_, _, h2⟩ := bnd_inv h; cases h2
    · cases h; rfl
  have HL := Lib.hid hL; clear hL
  cases hm : maybeP ep x L with
  | error p =>
    have HM := Lib.hid hm; clear hm
    go_enter Tryz.func57, Tryz.ntmps57
    go_wp2_with fail
    refine HI.out.mono ?_
    rintro e W' h
    obtain ⟨rfl, hc⟩ := h.err HM.out
    go_wp2
    exact ⟨rfl, Outs.mk_err (by rw [HW.out, HM.out]; rfl) rfl hc⟩
  | ok p =>
    obtain ⟨b, L1⟩ := p
    have HM := Lib.hid hm; clear hm
    cases b with
    | true =>
      go_enter Tryz.func57, Tryz.ntmps57
      go_wp2_with fail
      refine HI.out.mono ?_
      rintro e W' h
      obtain ⟨⟨rfl, hR'⟩, hc⟩ := h.ok HM.out
      have HR' := Lib.hid hR'; have HC := Lib.hid hc; clear hR' hc
      go_wp2
      go_end0
      exact Outs.mk_ok (by rw [HW.out, HM.out]; rfl) ⟨rfl, HR'.out⟩ HC.out
    | false =>
      obtain rfl := HL.out _ HM.out
      go_enter Tryz.func57, Tryz.ntmps57
      go_wp2_with fail
      refine HI.out.mono ?_
      rintro e W' h
      obtain ⟨⟨rfl, hR'⟩, hc⟩ := h.ok HM.out
      have HB := Lib.hid (bad_any s ep g L1 d 61 W' hR')
      have HC := Lib.hid hc; clear hR' hc
      go_wp2_with fail
      refine HB.out.mono ?_
      rintro e W2 ⟨he, rfl⟩
      unfold panics at he
      subst he
      go_wp2
      exact ⟨rfl, Outs.mk_err (by rw [HW.out, HM.out]; rfl) rfl HC.out⟩

def tkVal (x : Tk) : Value := .agg #[.int .i64 x.kind, .string x.text, .int .u64 x.num, .int .i64 x.at_]
def KindOut (s : ByteArray) (ep : EP) (g : Nat) (d : Int) (p : Tk × List Tk) (e : Ending) (W' : World) : Prop := e = .returned (tkVal p.1) ∧ Rdr s ep g p.2 d W'
end Go.Proofs.YtlmopoipjolbgaaGreatDoor.LexW
namespace Go.Proofs.YtlmopoipjolbgaaGreatDoor.LexW
open Go.ChangeShapes Go.WideShapes Go.ChangeAt Go.RowKit Go.Lib Go.Shelf
set_option linter.unusedVariables false
set_option linter.unusedSimpArgs false

abbrev laidL : List (String × DataW Unit) := Rows.policyParsesRow.laid

theorem own : ownKnob Tryz.prog.godebug = none := by kernel_rfl

theorem trod_iface_form {P : Program} {w : World} {fuel t : Nat} {ms : Array (String × TypeId)} {cs : List Value} {name : String} {d : DataW Unit} {p : List MemPlace} (ht : P.underlying t = some (.interface ms))
    (h : DataW.trod (fun _ => ()) P w 0 (fun _ => true) false fuel t cs = some (.iface name d, p)) : ∃ u v, cs = [.iface u v] := by
  cases fuel with
  | zero => simp [DataW.trod] at h
  | succ n =>
    unfold DataW.trod at h
    rw [ht] at h
    match cs, h with
    | [], h => simp at h
    | [.iface u v], h => exact ⟨u, v, rfl⟩
    | [.nilIface], h => simp at h
    | [.bool _], h => simp at h
    | [.int _ _], h => simp at h
    | [.string _], h => simp at h
    | _ :: _ :: _, h => simp at h
    | [x], h => cases x <;> first | (exact ⟨_, _, rfl⟩) | (simp at h)
theorem iface_cell {W : World} {n : String} {g t : Nat} {name : String} {d : DataW Unit} {ms : Array (String × TypeId)} (hn : Tryz.prog.globalNamed n = some g) (hy : (Tryz.prog.globals[g]?).map (·.type) = some t) (ht : Tryz.prog.underlying t = some (.interface ms)) (h : VarReads Tryz.prog W n (.iface name d)) :
    ∃ te pe, W.cell? ⟨g, 0, none⟩ = some (.iface te pe) := by
  obtain ⟨g', t', cs, fuel, p, hg, hty, hvar, hd⟩ := h
  obtain rfl := Option.some.inj (hn.symm.trans hg)
  obtain rfl := Option.some.inj (hy.symm.trans hty)
  obtain ⟨u, v, he⟩ := trod_iface_form ht hd
  have hc := World.var?_cell hg hvar 0
  rw [← Array.getElem?_toList, he] at hc
  exact ⟨u, v, hc⟩
theorem first_same : Rows.laid_unicode_utf8_first = Lib.firstData := by kernel_rfl
theorem accept_same : (Rows.laid_unicode_utf8_acceptRanges : DataW Unit) = Lib.acceptData := by kernel_rfl

theorem env_of_laid {W : World} (h : laidMetH Tryz.prog laidL W) : Env W := by
  have hL : laidMet Tryz.prog laidL W := h
  refine ⟨?_, ?_, ?_⟩
  · have h1 := Lib.laidMet.reads hL (n := "unicode/utf8.first") (d := Rows.laid_unicode_utf8_first) (.tail _ (.tail _ (.tail _ (.tail _ (.tail _ (.tail _ (.head _)))))))
    have h2 := Lib.laidMet.reads hL (n := "unicode/utf8.acceptRanges") (d := Rows.laid_unicode_utf8_acceptRanges) (.tail _ (.tail _ (.tail _ (.head _))))
    rw [first_same] at h1
    rw [accept_same] at h2
    exact utf8Tabs_of_reads { Tryz.lays260 with } ⟨by kernel_rfl, by kernel_rfl, by kernel_rfl, by kernel_rfl, by kernel_rfl, by kernel_rfl, by kernel_rfl⟩ h1 h2
  · exact iface_cell (n := "strconv.ErrSyntax") (t := 80) (by kernel_rfl) (by kernel_rfl) Tryz.underlying80 (Lib.laidMet.reads hL (.tail _ (.tail _ (.tail _ (.tail _ (.tail _ (.head _)))))))
  · exact iface_cell (n := "strconv.ErrRange") (t := 80) (by kernel_rfl) (by kernel_rfl) Tryz.underlying80 (Lib.laidMet.reads hL (.tail _ (.tail _ (.tail _ (.tail _ (.head _))))))

/-- A WORLD FOR THE WITNESSES: the settled one, each listed variable holding what its initialiser lays; two new blocks for the two errors' texts. -/
noncomputable def laidWorld (os : Os) : World :=
  let N := (World.settled Tryz.prog os).heap.size
  let w0 := World.holding Tryz.prog os ⟨#[
    .cells #[.string ⟨#[105, 110, 118, 97, 108, 105, 100, 32, 115, 121, 110, 116, 97, 120]⟩] 175,
    .cells #[.string ⟨#[118, 97, 108, 117, 101, 32, 111, 117, 116, 32, 111, 102, 32, 114, 97, 110, 103, 101]⟩] 175], #[], []⟩
  let put (h : Array Obj) (g : Nat) (cs : Array Value) : Array Obj := h.modify g fun
    | .cells _ t frozen => .cells cs t frozen
    | o => o
  let nums (k : IntKind) (d : DataW Unit) : Array Value := match d with
    | .agg l => (l.map fun | .lit (.int _ n) => Value.int k n | _ => undef).toArray
    | _ => #[]
  let h1 := put w0.heap 4 #[.iface 173 (.pointer (some ⟨N, 0, none⟩))]
  let h2 := put h1 5 #[.iface 173 (.pointer (some ⟨N + 1, 0, none⟩))]
  let h3 := put h2 6 (Lib.firstTab.map fun z => Value.int .u8 z).toArray
  let h4 := put h3 7 ((List.range 16).flatMap fun i => [Value.int .u8 (Lib.accLo i), Value.int .u8 (Lib.accHi i)]).toArray
  let h5 := put h4 0 (nums .u64 Rows.laid_internal_strconv_uint64pow10)
  let h6 := put h5 2 (nums .u8 Rows.laid_math_bits_deBruijn32tab)
  let h7 := put h6 3 (nums .u8 Rows.laid_math_bits_deBruijn64tab)
  { w0 with heap := h7 }

theorem laid_met (os : Os) (args : Array Value) : laidMet Tryz.prog laidL ((laidWorld os).forCall (fun _ _ => 0) ⟨#[], args, []⟩).memory :=
  laidMet_of_run' 8 (by kernel_rfl) (by kernel_rfl)
end Go.Proofs.YtlmopoipjolbgaaGreatDoor.LexW
