/-
  Layer 6 (policy): expressions, calls, verdicts, rules: their kinds (what a value's cells say). The text is the kit's print (print.sh), turned to names.
-/
import Derived.Test.YtlmopoipjolbgaaDoorLexTok
namespace Go.Proofs.YtlmopoipjolbgaaDoor.LexW
open Go.RowKit Go.Shelf Go.Proofs.YtlmopoipjolbgaaDoor.LexS Go.Proofs.YtlmopoipjolbgaaDoorW.PrintWords
set_option linter.unusedVariables false
set_option linter.unusedSimpArgs false

/-! #### Expr, nested in itself -/
structure Ex where
  f0 : Int
  f1 : (List Ex)
  f2 : Int
  f3 : Int
  f4 : Int
  f5 : Int
def zEx : Ex := ⟨(0 : Int), ([] : List Ex), (0 : Int), (0 : Int), (0 : Int), (0 : Int)⟩
def FEx (d : Kd Ex) : Kd Ex := Kd.iso (Kd.pair (Kd.int .i64) (Kd.pair (Kd.slice 58 d) (Kd.pair (Kd.int .i64) (Kd.pair (Kd.int .u64) (Kd.pair (Kd.int .i64) (Kd.int .u64)))))) (fun x : Ex => (x.f0, x.f1, x.f2, x.f3, x.f4, x.f5))
theorem monoEx : Kd.Mono FEx := Kd.mono_iso _ (Kd.mono_pair (Kd.mono_const _) (Kd.mono_pair (Kd.mono_slice 58 Kd.mono_id) (Kd.mono_pair (Kd.mono_const _) (Kd.mono_pair (Kd.mono_const _) (Kd.mono_pair (Kd.mono_const _) (Kd.mono_const _))))))
theorem subEx : Kd.Sub FEx [58] := Kd.sub_iso _ (Kd.sub_pair (Kd.sub_const _ (by decide)) (Kd.sub_pair (Kd.sub_slice 58 (by decide) Kd.sub_id) (Kd.sub_pair (Kd.sub_const _ (by decide)) (Kd.sub_pair (Kd.sub_const _ (by decide)) (Kd.sub_pair (Kd.sub_const _ (by decide)) (Kd.sub_const _ (by decide)))))))
theorem szEx : ∀ n, (Kd.upto FEx 6 [58] n).sz = 6 := Kd.upto_sz (fun _ => rfl)
def kEx : Kd Ex := Kd.fix FEx 6 [58] szEx (Kd.upto_E subEx)
theorem kEx_open {w : World} {x : Ex} {cs : List Value} (h : kEx.K w x cs) : ∃ A1 c1, cs = [.int .i64 x.f0, .slice A1 x.f1.length c1, .int .i64 x.f2, .int .u64 x.f3, .int .i64 x.f4, .int .u64 x.f5] ∧ x.f1.length ≤ c1 ∧ kEx.C w A1 x.f1.length x.f1 := by
  obtain ⟨n, h⟩ := h
  cases n with
  | zero => exact h.elim
  | succ n =>
    obtain ⟨_, _, rfl, rfl, ⟨_, _, rfl, ⟨A1, c1, rfl, l1, g1⟩, ⟨_, _, rfl, rfl, ⟨_, _, rfl, rfl, ⟨_, _, rfl, rfl, rfl⟩⟩⟩⟩⟩ := h
    exact ⟨A1, c1, rfl, l1, Kd.fix_C g1⟩
theorem kEx_openM {w : World} {base : Nat} {ok : Nat → Prop} {x : Ex} {cs : List Value} (h : kEx.M w base ok x cs) : ∃ v1, cs = [.int .i64 x.f0, v1, .int .i64 x.f2, .int .u64 x.f3, .int .i64 x.f4, .int .u64 x.f5] ∧ kEx.R 58 w base ok v1 x.f1 := by
  obtain ⟨n, h⟩ := h
  cases n with
  | zero => exact h.elim
  | succ n =>
    obtain ⟨_, _, rfl, rfl, ⟨_, _, rfl, ⟨v1, rfl, g1⟩, ⟨_, _, rfl, rfl, ⟨_, _, rfl, rfl, ⟨_, _, rfl, rfl, rfl⟩⟩⟩⟩⟩ := h
    exact ⟨v1, rfl, Kd.fix_R g1⟩
theorem kEx_mk (w : World) (x : Ex) {A1 : Option Addr} {c1 : Nat} (l1 : x.f1.length ≤ c1) (g1 : kEx.C w A1 x.f1.length x.f1) : kEx.K w x [.int .i64 x.f0, .slice A1 x.f1.length c1, .int .i64 x.f2, .int .u64 x.f3, .int .i64 x.f4, .int .u64 x.f5] := by
  obtain ⟨n1, q1⟩ := Kd.fix_C_back monoEx g1
  have r1 := Kd.upto_C_le monoEx szEx (show n1 ≤ n1 by omega) q1
  exact ⟨n1 + 1, ⟨[.int .i64 x.f0], [.slice A1 x.f1.length c1, .int .i64 x.f2, .int .u64 x.f3, .int .i64 x.f4, .int .u64 x.f5], rfl, rfl, ⟨[.slice A1 x.f1.length c1], [.int .i64 x.f2, .int .u64 x.f3, .int .i64 x.f4, .int .u64 x.f5], rfl, ⟨A1, c1, rfl, l1, r1⟩, ⟨[.int .i64 x.f2], [.int .u64 x.f3, .int .i64 x.f4, .int .u64 x.f5], rfl, rfl, ⟨[.int .u64 x.f3], [.int .i64 x.f4, .int .u64 x.f5], rfl, rfl, ⟨[.int .i64 x.f4], [.int .u64 x.f5], rfl, rfl, rfl⟩⟩⟩⟩⟩⟩
theorem kEx_mkM (w : World) (base : Nat) (ok : Nat → Prop) (x : Ex) {v1 : Value} (g1 : kEx.R 58 w base ok v1 x.f1) : kEx.M w base ok x [.int .i64 x.f0, v1, .int .i64 x.f2, .int .u64 x.f3, .int .i64 x.f4, .int .u64 x.f5] := by
  obtain ⟨n1, q1⟩ := Kd.fix_R_back monoEx g1
  have r1 := Kd.upto_R_le monoEx szEx (show n1 ≤ n1 by omega) q1
  exact ⟨n1 + 1, ⟨[.int .i64 x.f0], [v1, .int .i64 x.f2, .int .u64 x.f3, .int .i64 x.f4, .int .u64 x.f5], rfl, rfl, ⟨[v1], [.int .i64 x.f2, .int .u64 x.f3, .int .i64 x.f4, .int .u64 x.f5], rfl, ⟨v1, rfl, r1⟩, ⟨[.int .i64 x.f2], [.int .u64 x.f3, .int .i64 x.f4, .int .u64 x.f5], rfl, rfl, ⟨[.int .u64 x.f3], [.int .i64 x.f4, .int .u64 x.f5], rfl, rfl, ⟨[.int .i64 x.f4], [.int .u64 x.f5], rfl, rfl, rfl⟩⟩⟩⟩⟩⟩
def rd_Ex (xs : List Ex) (i : Int) : Ex := xs.getD i.toNat zEx
theorem at_Ex {w : World} {A : Option Addr} {n : Nat} {xs : List Ex} (h : Kd.C kEx w A n xs) (i : Int) (h0 : 0 ≤ i) (h1 : i < n) : ∃ ad A1 c1, A = some ad ∧ w.cell? (ad.add (i.toNat * 6)) = some (.int .i64 (rd_Ex xs i).f0) ∧ w.cell? ⟨(ad.add (i.toNat * 6)).block, (ad.add (i.toNat * 6)).off + 1, none⟩ = some (.slice A1 (rd_Ex xs i).f1.length c1) ∧ w.cell? ⟨(ad.add (i.toNat * 6)).block, (ad.add (i.toNat * 6)).off + 2, none⟩ = some (.int .i64 (rd_Ex xs i).f2) ∧ w.cell? ⟨(ad.add (i.toNat * 6)).block, (ad.add (i.toNat * 6)).off + 3, none⟩ = some (.int .u64 (rd_Ex xs i).f3) ∧ w.cell? ⟨(ad.add (i.toNat * 6)).block, (ad.add (i.toNat * 6)).off + 4, none⟩ = some (.int .i64 (rd_Ex xs i).f4) ∧ w.cell? ⟨(ad.add (i.toNat * 6)).block, (ad.add (i.toNat * 6)).off + 5, none⟩ = some (.int .u64 (rd_Ex xs i).f5) ∧ (rd_Ex xs i).f1.length ≤ c1 ∧ kEx.C w A1 (rd_Ex xs i).f1.length (rd_Ex xs i).f1 := by
  obtain ⟨ad, c, e, _, hK, hc0⟩ := Kd.C_get h zEx i h0 h1
  have hc : ∀ j u, c[j]? = some u → w.cell? (ad.add (i.toNat * 6 + j)) = some u := hc0
  obtain ⟨A1, c1, rfl, l1, g1⟩ := kEx_open hK
  exact ⟨ad, A1, c1, e, hc 0 _ rfl, by rw [← add_field _ _ 1 (by omega)]; exact hc 1 _ rfl, by rw [← add_field _ _ 2 (by omega)]; exact hc 2 _ rfl, by rw [← add_field _ _ 3 (by omega)]; exact hc 3 _ rfl, by rw [← add_field _ _ 4 (by omega)]; exact hc 4 _ rfl, by rw [← add_field _ _ 5 (by omega)]; exact hc 5 _ rfl, l1, g1⟩

/-! #### Call -/
structure Cl where
  f0 : ByteArray
  f1 : Int
def zCl : Cl := ⟨(⟨#[]⟩ : ByteArray), (0 : Int)⟩
def kCl : Kd Cl := Kd.iso (Kd.pair Kd.string (Kd.int .u64)) (fun x : Cl => (x.f0, x.f1))
theorem kCl_open {w : World} {x : Cl} {cs : List Value} (h : kCl.K w x cs) : cs = [.string x.f0, .int .u64 x.f1] := by
  obtain ⟨_, _, rfl, rfl, rfl⟩ := h
  exact rfl
theorem kCl_openM {w : World} {base : Nat} {ok : Nat → Prop} {x : Cl} {cs : List Value} (h : kCl.M w base ok x cs) : cs = [.string x.f0, .int .u64 x.f1] := by
  obtain ⟨_, _, rfl, rfl, rfl⟩ := h
  exact rfl
theorem kCl_mk (w : World) (x : Cl)  : kCl.K w x [.string x.f0, .int .u64 x.f1] := ⟨[.string x.f0], [.int .u64 x.f1], rfl, rfl, rfl⟩
theorem kCl_mkM (w : World) (base : Nat) (ok : Nat → Prop) (x : Cl)  : kCl.M w base ok x [.string x.f0, .int .u64 x.f1] := ⟨[.string x.f0], [.int .u64 x.f1], rfl, rfl, rfl⟩
def rd_Cl (xs : List Cl) (i : Int) : Cl := xs.getD i.toNat zCl
theorem at_Cl {w : World} {A : Option Addr} {n : Nat} {xs : List Cl} (h : Kd.C kCl w A n xs) (i : Int) (h0 : 0 ≤ i) (h1 : i < n) : ∃ ad , A = some ad ∧ w.cell? (ad.add (i.toNat * 2)) = some (.string (rd_Cl xs i).f0) ∧ w.cell? ⟨(ad.add (i.toNat * 2)).block, (ad.add (i.toNat * 2)).off + 1, none⟩ = some (.int .u64 (rd_Cl xs i).f1) := by
  obtain ⟨ad, c, e, _, hK, hc0⟩ := Kd.C_get h zCl i h0 h1
  have hc : ∀ j u, c[j]? = some u → w.cell? (ad.add (i.toNat * 2 + j)) = some u := hc0
  obtain rfl := kCl_open hK
  exact ⟨ad, e, hc 0 _ rfl, by rw [← add_field _ _ 1 (by omega)]; exact hc 1 _ rfl⟩

/-! #### Verdict -/
structure Vd where
  f0 : Int
  f1 : Int
def zVd : Vd := ⟨(0 : Int), (0 : Int)⟩
def kVd : Kd Vd := Kd.iso (Kd.pair (Kd.int .i64) (Kd.int .u64)) (fun x : Vd => (x.f0, x.f1))
theorem kVd_open {w : World} {x : Vd} {cs : List Value} (h : kVd.K w x cs) : cs = [.int .i64 x.f0, .int .u64 x.f1] := by
  obtain ⟨_, _, rfl, rfl, rfl⟩ := h
  exact rfl
theorem kVd_openM {w : World} {base : Nat} {ok : Nat → Prop} {x : Vd} {cs : List Value} (h : kVd.M w base ok x cs) : cs = [.int .i64 x.f0, .int .u64 x.f1] := by
  obtain ⟨_, _, rfl, rfl, rfl⟩ := h
  exact rfl
theorem kVd_mk (w : World) (x : Vd)  : kVd.K w x [.int .i64 x.f0, .int .u64 x.f1] := ⟨[.int .i64 x.f0], [.int .u64 x.f1], rfl, rfl, rfl⟩
theorem kVd_mkM (w : World) (base : Nat) (ok : Nat → Prop) (x : Vd)  : kVd.M w base ok x [.int .i64 x.f0, .int .u64 x.f1] := ⟨[.int .i64 x.f0], [.int .u64 x.f1], rfl, rfl, rfl⟩
def rd_Vd (xs : List Vd) (i : Int) : Vd := xs.getD i.toNat zVd
theorem at_Vd {w : World} {A : Option Addr} {n : Nat} {xs : List Vd} (h : Kd.C kVd w A n xs) (i : Int) (h0 : 0 ≤ i) (h1 : i < n) : ∃ ad , A = some ad ∧ w.cell? (ad.add (i.toNat * 2)) = some (.int .i64 (rd_Vd xs i).f0) ∧ w.cell? ⟨(ad.add (i.toNat * 2)).block, (ad.add (i.toNat * 2)).off + 1, none⟩ = some (.int .u64 (rd_Vd xs i).f1) := by
  obtain ⟨ad, c, e, _, hK, hc0⟩ := Kd.C_get h zVd i h0 h1
  have hc : ∀ j u, c[j]? = some u → w.cell? (ad.add (i.toNat * 2 + j)) = some u := hc0
  obtain rfl := kVd_open hK
  exact ⟨ad, e, hc 0 _ rfl, by rw [← add_field _ _ 1 (by omega)]; exact hc 1 _ rfl⟩

/-! #### Rule -/
structure Rl where
  f0 : (List Cl)
  f1 : Ex
  f2 : Vd
def zRl : Rl := ⟨([] : List Cl), zEx, zVd⟩
def kRl : Kd Rl := Kd.iso (Kd.pair (Kd.slice 86 kCl) (Kd.pair kEx kVd)) (fun x : Rl => (x.f0, x.f1, x.f2))
theorem kRl_open {w : World} {x : Rl} {cs : List Value} (h : kRl.K w x cs) : ∃ A0 c0 A2 c2, cs = [.slice A0 x.f0.length c0, .int .i64 x.f1.f0, .slice A2 x.f1.f1.length c2, .int .i64 x.f1.f2, .int .u64 x.f1.f3, .int .i64 x.f1.f4, .int .u64 x.f1.f5, .int .i64 x.f2.f0, .int .u64 x.f2.f1] ∧ x.f0.length ≤ c0 ∧ kCl.C w A0 x.f0.length x.f0 ∧ x.f1.f1.length ≤ c2 ∧ kEx.C w A2 x.f1.f1.length x.f1.f1 := by
  obtain ⟨_, _, rfl, ⟨A0, c0, rfl, l0, g0⟩, ⟨_, _, rfl, s1, s7⟩⟩ := h
  obtain ⟨A2, c2, rfl, l2, g2⟩ := kEx_open s1
  obtain rfl := kVd_open s7
  exact ⟨A0, c0, A2, c2, rfl, l0, g0, l2, g2⟩
theorem kRl_openM {w : World} {base : Nat} {ok : Nat → Prop} {x : Rl} {cs : List Value} (h : kRl.M w base ok x cs) : ∃ v0 v2, cs = [v0, .int .i64 x.f1.f0, v2, .int .i64 x.f1.f2, .int .u64 x.f1.f3, .int .i64 x.f1.f4, .int .u64 x.f1.f5, .int .i64 x.f2.f0, .int .u64 x.f2.f1] ∧ kCl.R 86 w base ok v0 x.f0 ∧ kEx.R 58 w base ok v2 x.f1.f1 := by
  obtain ⟨_, _, rfl, ⟨v0, rfl, g0⟩, ⟨_, _, rfl, s1, s7⟩⟩ := h
  obtain ⟨v2, rfl, g2⟩ := kEx_openM s1
  obtain rfl := kVd_openM s7
  exact ⟨v0, v2, rfl, g0, g2⟩
theorem kRl_mk (w : World) (x : Rl) {A0 : Option Addr} {c0 : Nat} (l0 : x.f0.length ≤ c0) (g0 : kCl.C w A0 x.f0.length x.f0) {A2 : Option Addr} {c2 : Nat} (l2 : x.f1.f1.length ≤ c2) (g2 : kEx.C w A2 x.f1.f1.length x.f1.f1) : kRl.K w x [.slice A0 x.f0.length c0, .int .i64 x.f1.f0, .slice A2 x.f1.f1.length c2, .int .i64 x.f1.f2, .int .u64 x.f1.f3, .int .i64 x.f1.f4, .int .u64 x.f1.f5, .int .i64 x.f2.f0, .int .u64 x.f2.f1] := ⟨[.slice A0 x.f0.length c0], [.int .i64 x.f1.f0, .slice A2 x.f1.f1.length c2, .int .i64 x.f1.f2, .int .u64 x.f1.f3, .int .i64 x.f1.f4, .int .u64 x.f1.f5, .int .i64 x.f2.f0, .int .u64 x.f2.f1], rfl, ⟨A0, c0, rfl, l0, g0⟩, ⟨[.int .i64 x.f1.f0, .slice A2 x.f1.f1.length c2, .int .i64 x.f1.f2, .int .u64 x.f1.f3, .int .i64 x.f1.f4, .int .u64 x.f1.f5], [.int .i64 x.f2.f0, .int .u64 x.f2.f1], rfl, (kEx_mk w x.f1 l2 g2), (kVd_mk w x.f2 )⟩⟩
theorem kRl_mkM (w : World) (base : Nat) (ok : Nat → Prop) (x : Rl) {v0 : Value} (g0 : kCl.R 86 w base ok v0 x.f0) {v2 : Value} (g2 : kEx.R 58 w base ok v2 x.f1.f1) : kRl.M w base ok x [v0, .int .i64 x.f1.f0, v2, .int .i64 x.f1.f2, .int .u64 x.f1.f3, .int .i64 x.f1.f4, .int .u64 x.f1.f5, .int .i64 x.f2.f0, .int .u64 x.f2.f1] := ⟨[v0], [.int .i64 x.f1.f0, v2, .int .i64 x.f1.f2, .int .u64 x.f1.f3, .int .i64 x.f1.f4, .int .u64 x.f1.f5, .int .i64 x.f2.f0, .int .u64 x.f2.f1], rfl, ⟨v0, rfl, g0⟩, ⟨[.int .i64 x.f1.f0, v2, .int .i64 x.f1.f2, .int .u64 x.f1.f3, .int .i64 x.f1.f4, .int .u64 x.f1.f5], [.int .i64 x.f2.f0, .int .u64 x.f2.f1], rfl, (kEx_mkM w base ok x.f1 g2), (kVd_mkM w base ok x.f2 )⟩⟩
def rd_Rl (xs : List Rl) (i : Int) : Rl := xs.getD i.toNat zRl
theorem at_Rl {w : World} {A : Option Addr} {n : Nat} {xs : List Rl} (h : Kd.C kRl w A n xs) (i : Int) (h0 : 0 ≤ i) (h1 : i < n) : ∃ ad A0 c0 A2 c2, A = some ad ∧ w.cell? (ad.add (i.toNat * 9)) = some (.slice A0 (rd_Rl xs i).f0.length c0) ∧ w.cell? ⟨(ad.add (i.toNat * 9)).block, (ad.add (i.toNat * 9)).off + 1, none⟩ = some (.int .i64 (rd_Rl xs i).f1.f0) ∧ w.cell? ⟨(ad.add (i.toNat * 9)).block, (ad.add (i.toNat * 9)).off + 2, none⟩ = some (.slice A2 (rd_Rl xs i).f1.f1.length c2) ∧ w.cell? ⟨(ad.add (i.toNat * 9)).block, (ad.add (i.toNat * 9)).off + 3, none⟩ = some (.int .i64 (rd_Rl xs i).f1.f2) ∧ w.cell? ⟨(ad.add (i.toNat * 9)).block, (ad.add (i.toNat * 9)).off + 4, none⟩ = some (.int .u64 (rd_Rl xs i).f1.f3) ∧ w.cell? ⟨(ad.add (i.toNat * 9)).block, (ad.add (i.toNat * 9)).off + 5, none⟩ = some (.int .i64 (rd_Rl xs i).f1.f4) ∧ w.cell? ⟨(ad.add (i.toNat * 9)).block, (ad.add (i.toNat * 9)).off + 6, none⟩ = some (.int .u64 (rd_Rl xs i).f1.f5) ∧ w.cell? ⟨(ad.add (i.toNat * 9)).block, (ad.add (i.toNat * 9)).off + 7, none⟩ = some (.int .i64 (rd_Rl xs i).f2.f0) ∧ w.cell? ⟨(ad.add (i.toNat * 9)).block, (ad.add (i.toNat * 9)).off + 8, none⟩ = some (.int .u64 (rd_Rl xs i).f2.f1) ∧ (rd_Rl xs i).f0.length ≤ c0 ∧ kCl.C w A0 (rd_Rl xs i).f0.length (rd_Rl xs i).f0 ∧ (rd_Rl xs i).f1.f1.length ≤ c2 ∧ kEx.C w A2 (rd_Rl xs i).f1.f1.length (rd_Rl xs i).f1.f1 := by
  obtain ⟨ad, c, e, _, hK, hc0⟩ := Kd.C_get h zRl i h0 h1
  have hc : ∀ j u, c[j]? = some u → w.cell? (ad.add (i.toNat * 9 + j)) = some u := hc0
  obtain ⟨A0, c0, A2, c2, rfl, l0, g0, l2, g2⟩ := kRl_open hK
  exact ⟨ad, A0, c0, A2, c2, e, hc 0 _ rfl, by rw [← add_field _ _ 1 (by omega)]; exact hc 1 _ rfl, by rw [← add_field _ _ 2 (by omega)]; exact hc 2 _ rfl, by rw [← add_field _ _ 3 (by omega)]; exact hc 3 _ rfl, by rw [← add_field _ _ 4 (by omega)]; exact hc 4 _ rfl, by rw [← add_field _ _ 5 (by omega)]; exact hc 5 _ rfl, by rw [← add_field _ _ 6 (by omega)]; exact hc 6 _ rfl, by rw [← add_field _ _ 7 (by omega)]; exact hc 7 _ rfl, by rw [← add_field _ _ 8 (by omega)]; exact hc 8 _ rfl, l0, g0, l2, g2⟩
end Go.Proofs.YtlmopoipjolbgaaDoor.LexW
