/-
  Layer 6 (policy): how what is read is written (plain: no program). · strconv.FormatUint at base 10: the number's digits. · strconv.FormatUint at base 16. · Layer 6 (policy): the reader's kind. · The walk of the reference's Same: two lists of tokens are alike. · Layer 6 (policy): the tables of words; a verdict. · Layer 6 (policy): the reference's SameExpr, on equal values: true.
-/
import Derived.Test.YtlmopoipjolbgaaGreatDoorM03
import Derived.Lib.ItoaNum
import Derived.Lib.Join
import Derived.Test.YtlmopoipjolbgaaGreatDoorShelf2
import Derived.Test.YtlmopoipjolbgaaGreatDoorM01
import Derived.Lib.ItoaMem
import Derived.BigQuiet
import Derived.WideShapes
import Derived.Deep.RegionHeld3
namespace Go.Proofs.YtlmopoipjolbgaaGreatDoor.LexW
open Go.RowKit Go.Shelf Go.Proofs.YtlmopoipjolbgaaGreatDoor.LexS Go.Proofs.YtlmopoipjolbgaaGreatDoorW.PrintWords
set_option linter.unusedVariables false
set_option linter.unusedSimpArgs false

/-- a number in digits of ten -/
def numB (n : Int) : ByteArray := ⟨(Lib.decDigits n.toNat).toArray⟩
/-- a digit of sixteen -/
def hexD (n : Nat) : UInt8 := UInt8.ofNat (if n < 10 then 48 + n else 87 + n)
/-- digits of sixteen, the first ahead; so many at most -/
def hexN : Nat → Nat → List UInt8
  | 0, _ => []
  | k + 1, n => if n < 16 then [hexD n] else hexN k (n / 16) ++ [hexD (n % 16)]
def hexT (n : Int) : ByteArray := ⟨(hexN 16 n.toNat).toArray⟩
def joinT (sep : ByteArray) (l : List ByteArray) : ByteArray := ⟨(Lib.join (l.map (·.data.toList)) sep.data.toList).toArray⟩
/-- does an argument stand in parentheses? -/
def aroundB (op a : Int) : Bool := decide (a = 5) || (decide (a = 4) && decide (op ≠ 5))
def amongT (l : List ByteArray) (i : Int) : ByteArray := if i < 0 ∨ (l.length : Int) ≤ i then ⟨#[63]⟩ else l.getD i.toNat nil0

def sSp : ByteArray := ⟨#[32]⟩
def sAndS : ByteArray := ⟨#[32, 97, 110, 100, 32]⟩
def sOrS : ByteArray := ⟨#[32, 111, 114, 32]⟩
def sNotS : ByteArray := ⟨#[110, 111, 116, 32]⟩
def sMask : ByteArray := ⟨#[32, 38, 32, 48, 120]⟩
def sCommaS : ByteArray := ⟨#[44, 32]⟩
def sOnS : ByteArray := ⟨#[111, 110, 32]⟩
def sWhenS : ByteArray := ⟨#[32, 119, 104, 101, 110, 32]⟩
def sDoS : ByteArray := ⟨#[32, 100, 111, 32]⟩
def sSemiN : ByteArray := ⟨#[59, 10]⟩
def sArchS : ByteArray := ⟨#[97, 114, 99, 104, 32]⟩
def sForS : ByteArray := ⟨#[59, 10, 102, 111, 114, 101, 105, 103, 110, 32]⟩
def sDefS : ByteArray := ⟨#[59, 10, 100, 101, 102, 97, 117, 108, 116, 32]⟩
def sAsk : ByteArray := ⟨#[63]⟩

/-- a test -/
def testT (f m r v : Int) : ByteArray :=
  ((((if m = 18446744073709551615 then amongT fieldsT f else amongT fieldsT f ++ (sMask ++ hexT m)) ++ sSp) ++ amongT relsT (r - 1)) ++ sSp) ++ numB v
/-- an expression whose arguments are written -/
def nodeT (op : Int) (l : List ByteArray) (f m r v : Int) : ByteArray :=
  if op = 1 then sTrue else if op = 2 then sFalse else if op = 3 then sNotS ++ joinT sSp l else if op = 4 then joinT sAndS l else if op = 5 then joinT sOrS l else testT f m r v
def parT (b : Bool) (s : ByteArray) : ByteArray := if b = true then (sOpen ++ s) ++ sShut else s

mutual
/-- an expression, as it is written -/
def prE : Ex → ByteArray
  | ⟨op, l, f, m, r, v⟩ => nodeT op (prL op l) f m r v
/-- the arguments of an operation -/
def prL (op : Int) : List Ex → List ByteArray
  | [] => []
  | x :: l => parT (aroundB op x.f0) (prE x) :: prL op l
end
mutual
/-- how deep it is nested, as it is written -/
def dE : Ex → Nat
  | ⟨op, l, _, _, _, _⟩ => dL op l + (if op = 3 then 1 else 0)
def dL (op : Int) : List Ex → Nat
  | [] => 0
  | x :: l => max (dE x + (if aroundB op x.f0 = true then 1 else 0)) (dL op l)
end
mutual
/-- how many operations and tests -/
def wE : Ex → Nat
  | ⟨_, l, _, _, _, _⟩ => wL l + 1
def wL : List Ex → Nat
  | [] => 0
  | x :: l => wE x + wL l
end

theorem prE_eq (x : Ex) : prE x = nodeT x.f0 (prL x.f0 x.f1) x.f2 x.f3 x.f4 x.f5 := by cases x; rfl
theorem dE_eq (x : Ex) : dE x = dL x.f0 x.f1 + (if x.f0 = 3 then 1 else 0) := by cases x; rfl
theorem wE_eq (x : Ex) : wE x = wL x.f1 + 1 := by cases x; rfl
theorem prL_map (op : Int) : ∀ l : List Ex, prL op l = l.map fun x => parT (aroundB op x.f0) (prE x)
  | [] => rfl
  | x :: l => by rw [prL, prL_map op l, List.map_cons]
theorem wL_sum : ∀ l : List Ex, wL l = (l.map wE).sum
  | [] => rfl
  | x :: l => by rw [wL, wL_sum l, List.map_cons, List.sum_cons]
theorem dL_snoc (op : Int) (x : Ex) : ∀ l : List Ex, dL op (l ++ [x]) = max (dL op l) (dE x + (if aroundB op x.f0 = true then 1 else 0))
  | [] => by simp [dL]
  | y :: l => by rw [List.cons_append, dL, dL_snoc op x l, dL]; omega
theorem wE_pos (x : Ex) : 1 ≤ wE x := by rw [wE_eq]; omega

mutual
theorem dE_le : ∀ x : Ex, dE x + 1 ≤ 2 * wE x
  | ⟨op, l, f, m, r, v⟩ => by
    have := dL_le op l
    rw [dE, wE]
    split <;> omega
theorem dL_le (op : Int) : ∀ l : List Ex, dL op l ≤ 2 * wL l
  | [] => by simp [dL]
  | x :: l => by
    have := dE_le x
    have := dL_le op l
    have := wE_pos x
    rw [dL, wL]
    split <;> omega
end

/-! ### joined texts -/
theorem joinT_nil (sep : ByteArray) : joinT sep [] = nil0 := rfl
theorem ba_ext {a b : ByteArray} (h : a.data.toList = b.data.toList) : a = b := by
  cases a; cases b
  simp only at h
  congr 1
  exact Array.toList_inj.1 h
theorem ba_app (a b : ByteArray) : (a ++ b).data.toList = a.data.toList ++ b.data.toList := by rw [ByteArray.data_append, Array.toList_append]
theorem joinT_list (sep : ByteArray) (l : List ByteArray) : (joinT sep l).data.toList = Lib.join (l.map (·.data.toList)) sep.data.toList := by simp [joinT]
theorem joinT_one (sep x : ByteArray) : joinT sep [x] = x := ba_ext (by rw [joinT_list, List.map_cons, List.map_nil, Lib.join_one])
theorem joinT_snoc (sep : ByteArray) (l : List ByteArray) (x : ByteArray) (h : l ≠ []) : joinT sep (l ++ [x]) = (joinT sep l ++ sep) ++ x := by
  refine ba_ext ?_
  rw [ba_app, ba_app, joinT_list, joinT_list]
  cases l with
  | nil => exact absurd rfl h
  | cons y l =>
    rw [List.cons_append, List.map_cons, List.map_cons, Lib.join_cons, Lib.join_cons, List.map_append, List.map_cons, List.map_nil]
    simp [Lib.joinTail]
/-- the bytes of some texts -/
def sumT (l : List ByteArray) : Nat := (l.map (·.size)).sum
theorem ba_size (a : ByteArray) : a.size = a.data.toList.length := by simp
theorem joinT_size (sep : ByteArray) (l : List ByteArray) : (joinT sep l).size ≤ sumT l + sep.size * l.length := by
  rw [ba_size, joinT_list]
  cases l with
  | nil => simp [Lib.join_nil]
  | cons x l =>
    rw [List.map_cons, Lib.join_length]
    have h : Lib.lens (x.data.toList :: l.map (·.data.toList)) = sumT (x :: l) := by
      unfold Lib.lens sumT
      rw [← List.map_cons (f := fun y : ByteArray => y.data.toList), List.map_map]
      rfl
    rw [h, List.length_map, List.length_cons, ← ba_size]
    have h2 := Nat.mul_le_mul_left sep.size (Nat.le_succ l.length)
    rw [Nat.succ_eq_add_one] at h2
    omega
end Go.Proofs.YtlmopoipjolbgaaGreatDoor.LexW
namespace Go.Proofs.YtlmopoipjolbgaaGreatDoor.LexW
open Go.RowKit Go.Shelf Go.Sort Go.Proofs.YtlmopoipjolbgaaGreatDoor.LexS Go.Proofs.YtlmopoipjolbgaaGreatDoorW.PrintWords
set_option linter.unusedVariables false
set_option linter.unusedSimpArgs false

/-- the table of powers of ten -/
def PowT (w : World) : Prop := Lib.TabIs Tryz.prog w "internal/strconv.uint64pow10" .u64 Lib.pow10Tab
theorem PowT.below {w w1 : World} (h : PowT w) (hb : Below w.heap.size w w1) : PowT w1 := by
  unfold PowT Lib.TabIs World.var? at *
  cases hg : Tryz.prog.globalNamed "internal/strconv.uint64pow10" with
  | none => simp [hg] at h
  | some g =>
    simp only [hg, Option.bind_some] at h ⊢
    have hlt : g < w.heap.size := by
      rcases Nat.lt_or_ge g w.heap.size with h' | h'
      · exact h'
      · rw [Array.getElem?_eq_none h'] at h; simp at h
    rw [hb.block g hlt]
    exact h
/-- what the writing finds when it begins -/
structure EnvP (w : World) : Prop extends Env w where
  pow : PowT w
theorem EnvP.below {w w1 : World} (h : EnvP w) (hb : Below w.heap.size w w1) : EnvP w1 := ⟨h.toEnv.below hb, h.pow.below hb⟩

theorem below_grow (w : World) (k : Nat) (os : Array Obj) : Below w.heap.size w (grow (w.drewN k) os) :=
  ⟨rfl, rfl, rfl, by rw [size_grow]; exact Nat.le_add_right _ _, fun i hi => heap_grow_old (w.drewN k) os hi⟩

/-- the new block's first bytes are a row of zeros -/
theorem holds_zero0 (w : World) (T : TypeId) (nd : Nat) (hs : nd ≤ 24) : Holds (fun (b : UInt8) => Value.int .u8 (b.toNat : Int)) (w.alloc (.cells Lib.zeros24 T)) w.heap.size 0 (Array.replicate nd (0 : UInt8)) := fun j hj => by
  have hj' : j < nd := by simpa using hj
  refine ⟨?_, World.frozen?_alloc_new _ _ _ _⟩
  rw [World.cell?_alloc_new, Lib.zeros24_at _ (by omega), getElem!_pos _ j hj]
  simp
theorem fin_pos0 (w : World) (o : Obj) (dk : Array UInt8) (k : Nat) : ∃ os, (putRow (fun (b : UInt8) => Value.int .u8 (b.toNat : Int)) (w.alloc o) w.heap.size 0 dk).drewN k = grow (w.drewN k) os := by
  rw [alloc_eq_grow]
  obtain ⟨os', _, e⟩ := putRow_grow_new (fun (b : UInt8) => Value.int .u8 (b.toNat : Int)) w #[o] w.heap.size 0 dk (Nat.le_refl _)
  exact ⟨os', by rw [e]; rfl⟩

set_option maxHeartbeats 2000000 in
set_option maxRecDepth 100000 in
theorem ifmt10_any (u : Nat) (hu64 : u < 18446744073709551616) (w : World) (htab : PowT w) :
    Calls Tryz.prog 75 #[.int .u64 u, .int .i64 10] w fun e w' => e = .returned (.string ⟨(Lib.decDigits u).toArray⟩) ∧ Below w.heap.size w w' := by
  by_cases hs : u < 100
  · go_enter Tryz.func75, Tryz.ntmps75
    go_wp2_with (go_at_call 94; refine (Tryz.internal_strconv_small u hs _).mono ?_; rintro e w' ⟨rfl, rfl⟩)
    go_ret
    exact ⟨rfl, Below.refl _ _⟩
  · have hu1 : 1 ≤ u := by omega
    have hnd20 : Lib.nDigits u ≤ 20 := by have := Lib.numDigits_eq u hu1 hu64; split at this <;> omega
    have hb3 : Lib.nDigits u ≤ 24 := by omega
    have hal : Tryz.prog.arrayLen 128 = 24 := by kernel_rfl
    have hel : Tryz.prog.underlying 128 = some (.array 24 5) := Tryz.underlying128
    have hsl : ∀ W, (Instr.sliceAt 128 (.pointer (some ⟨w.heap.size, 0, none⟩)) none (some (.int .i64 (Lib.nDigits u : Int))) none).run Tryz.prog W = .ok (.slice (some ⟨w.heap.size, 0, none⟩) (Lib.nDigits u) 24) W := fun W => by
      rw [run_sliceAt_array_h W 128 ⟨w.heap.size, 0, none⟩ (by simp [Program.arrayLen, Program.elem, hel]) .i64 (Lib.nDigits u : Int) (by omega) (by rw [hal]; omega)]
      go_simp
    have hH0 := holds_zero0 w 128 (Lib.nDigits u) (by omega)
    have hfmt := Tryz.internal_strconv_formatBase10 w.heap.size 0 24 u (Array.replicate (Lib.nDigits u) 0) (w.alloc (.cells Lib.zeros24 128)) hH0 (by rw [Array.size_replicate]; exact Lib.lt_pow_nDigits u) hu64 (by rw [Array.size_replicate]; omega)
    rw [Array.size_replicate] at hfmt
    have HH0 := Lib.hid hH0
    clear hH0 hal hel
    go_enter Tryz.func75, Tryz.ntmps75
    go_wp2_with (go_at_call 95; refine (Tryz.internal_strconv_numDigits u hu1 hu64 _ (Lib.tabIs_alloc htab _)).mono ?_; rintro e w' ⟨rfl, rfl⟩)
    refine hfmt.mono ?_
    rintro e w' ⟨rfl, k, v', dk, rfl, hF⟩
    have hcv : (convert 76 9 (.slice (some ⟨w.heap.size, 0, none⟩) (Lib.nDigits u) 24)).run Tryz.prog ((putRow (fun (b : UInt8) => Value.int .u8 (b.toNat : Int)) (w.alloc (.cells Lib.zeros24 128)) w.heap.size 0 dk).drewN k) = .ok (.string ⟨(Lib.decDigits u).toArray⟩) ((putRow (fun (b : UInt8) => Value.int .u8 (b.toNat : Int)) (w.alloc (.cells Lib.zeros24 128)) w.heap.size 0 dk).drewN k) := by
      have h := run_convert_bytes_back (P := Tryz.prog) ((putRow (fun (b : UInt8) => Value.int .u8 (b.toNat : Int)) (w.alloc (.cells Lib.zeros24 128)) w.heap.size 0 dk).drewN k) 76 9 5 ⟨w.heap.size, 0, none⟩ 24 (Lib.decDigits u) Tryz.underlying76 Tryz.underlying5 Tryz.underlying9 (fun j hj => by
        rw [Lib.row_is_numeral hF j hj, Lib.add_plain, World.cell?_drewN]
        exact cell?_putRow (fun (b : UInt8) => Value.int .u8 (b.toNat : Int)) _ w.heap.size 0 _ dk HH0.out (by rw [hF.size, Array.size_replicate]) j (by rw [hF.size]; rw [Lib.decDigits_length] at hj; exact hj))
      rw [Lib.decDigits_length] at h
      exact h
    go_wp2
    go_ret
    obtain ⟨os, eo⟩ := fin_pos0 w (.cells Lib.zeros24 128) dk k
    exact ⟨rfl, by rw [eo]; exact below_grow w k os⟩
set_option maxRecDepth 100000 in
theorem fmt10_any (v : Int) (h0 : 0 ≤ v) (h1 : v < 18446744073709551616) (w : World) (htab : PowT w) :
    Calls Tryz.prog 38 #[.int .u64 v, .int .i64 10] w fun e w' => e = .returned (.string (numB v)) ∧ Below w.heap.size w w' := by
  obtain ⟨u, rfl⟩ : ∃ u : Nat, v = u := ⟨v.toNat, by omega⟩
  have hu : u < 18446744073709551616 := by omega
  have HC := ifmt10_any u hu w htab
  clear h0 h1 hu
  go_enter Tryz.func38, Tryz.ntmps38
  go_wp2_with (go_at_call 75; refine HC.mono ?_; rintro e w' ⟨rfl, hb⟩)
  go_ret
  exact ⟨rfl, hb⟩
end Go.Proofs.YtlmopoipjolbgaaGreatDoor.LexW
namespace Go.Proofs.YtlmopoipjolbgaaGreatDoor.LexW
open Go.RowKit Go.Shelf Go.Sort Go.Proofs.YtlmopoipjolbgaaGreatDoor.LexS Go.Proofs.YtlmopoipjolbgaaGreatDoorW.PrintWords
set_option linter.unusedVariables false
set_option linter.unusedSimpArgs false

/-- the place of the table that tells how many zeros 16 ends in -/
def Tz16 (w : World) : Prop := w.cell? ⟨3, 15, none⟩ = some (.int .u8 4)

theorem Tz16.below {w w1 : World} (h : Tz16 w) (hb : Below w.heap.size w w1) : Tz16 w1 := cell_stays hb h
theorem tz_index : IntKind.u64.wrap (bits BinOp.and IntKind.u64 16 (IntKind.u64.wrap (-16)) * 285870213051353865) / 288230376151711744 = 15 := by kernel_rfl
set_option maxRecDepth 100000 in
theorem tz16_any (w : World) (hT : Tz16 w) :
    Calls Tryz.prog 120 #[.int .u64 16] w fun e w' => e = .returned (.int .i64 4) ∧ w = w' := by
  unfold Tz16 at hT
  have hi := tz_index
  go_enter Tryz.func120, Tryz.ntmps120
  go_wp2
  go_ret
  exact ⟨rfl, rfl⟩

/-- the digits, so far: from place k on the row holds D; what is left is v -/
def HexSt (w : World) (u v k : Nat) (wr : World) : Prop := ∃ (f : Nat) (D : List UInt8) (cs : Array Value), Below w.heap.size w wr ∧ wr.heap[w.heap.size]? = some (.cells cs 144 (0, 0)) ∧ cs.size = 65 ∧ k + D.length = 65 ∧ 1 ≤ f ∧ f + D.length = 16 ∧
  v < 16 ^ f ∧ hexN f v ++ D = hexN 16 u ∧ ∀ j (hj : j < D.length), cs[k + j]? = some (.int .u8 (D[j].toNat : Int))
theorem hexSt_start (w : World) (u : Nat) (hu : u < 18446744073709551616) : HexSt w u u 65 (w.alloc (.cells Tryz.zeroCells144 144)) :=
  ⟨16, [], Tryz.zeroCells144, (Below.refl _ _).alloc (Nat.le_refl _) _, heap_alloc_new w _, by kernel_rfl, rfl, by omega, rfl, by omega, by simp, fun j hj => by simp at hj⟩
theorem hexSt_facts {w wr : World} {u v k : Nat} (h : HexSt w u v k wr) : 49 ≤ k ∧ k ≤ 65 ∧ wr.frozen? ⟨w.heap.size, k - 1, none⟩ = false ∧ ∃ y, wr.cell? ⟨w.heap.size, k - 1, none⟩ = some y := by
  obtain ⟨f, D, cs, hb, hh, hs, hk, hf1, hf, hv, hD, hc⟩ := h
  refine ⟨by omega, by omega, by simp [World.frozen?, hh], cs[k - 1]'(by omega), ?_⟩
  simp [World.cell?, hh]
theorem hexSt_put {w wr : World} {u v k : Nat} (h : HexSt w u v k wr) (d : UInt8) : ∃ (f : Nat) (D : List UInt8) (cs : Array Value), Below w.heap.size w (wr.setCell ⟨w.heap.size, k - 1, none⟩ (.int .u8 (d.toNat : Int))) ∧ (wr.setCell ⟨w.heap.size, k - 1, none⟩ (.int .u8 (d.toNat : Int))).heap[w.heap.size]? = some (.cells cs 144 (0, 0)) ∧ cs.size = 65 ∧ k + D.length = 65 ∧ 1 ≤ f ∧ f + D.length = 16 ∧
    v < 16 ^ f ∧ hexN f v ++ D = hexN 16 u ∧ ∀ j (hj : j < (d :: D).length), cs[k - 1 + j]? = some (.int .u8 ((d :: D)[j].toNat : Int)) := by
  obtain ⟨h49, h65, -, -⟩ := hexSt_facts h
  obtain ⟨f, D, cs, hb, hh, hs, hk, hf1, hf, hv, hD, hc⟩ := h
  refine ⟨f, D, cs.setIfInBounds (k - 1) (.int .u8 (d.toNat : Int)), hb.setCell (Nat.le_refl _) _, ?_, by simpa using hs, hk, hf1, hf, hv, hD, ?_⟩
  · simp [World.setCell, Array.getElem?_modify, hh]
  · intro j hj
    cases j with
    | zero => rw [Nat.add_zero, Array.getElem?_setIfInBounds_self_of_lt (by omega)]; rfl
    | succ j =>
      have := hc j (by simpa using hj)
      rw [Array.getElem?_setIfInBounds_ne (by omega), show k - 1 + (j + 1) = k + j by omega]
      exact this
theorem hexSt_step {w wr : World} {u v k : Nat} (h : HexSt w u v k wr) (h16 : 16 ≤ v) : HexSt w u (v / 16) (k - 1) (wr.setCell ⟨w.heap.size, k - 1, none⟩ (.int .u8 ((hexD (v % 16)).toNat : Int))) := by
  obtain ⟨h49, h65, -, -⟩ := hexSt_facts h
  obtain ⟨f, D, cs, hb, hh, hs, hk, hf1, hf, hv, hD, hc⟩ := hexSt_put h (hexD (v % 16))
  obtain ⟨f, rfl⟩ : ∃ g, f = g + 1 := ⟨f - 1, by omega⟩
  have hf2 : 1 ≤ f := by
    rcases Nat.eq_zero_or_pos f with h0 | h0
    · subst h0; omega
    · exact h0
  refine ⟨f, hexD (v % 16) :: D, cs, hb, hh, hs, by simp; omega, hf2, by simp; omega, by rw [Nat.pow_succ] at hv; omega, ?_, hc⟩
  rw [← hD, hexN, if_neg (by omega), List.append_assoc]
  rfl
theorem hexSt_fin {w wr : World} {u v k : Nat} (h : HexSt w u v k wr) (h16 : v < 16) : Below w.heap.size w (wr.setCell ⟨w.heap.size, k - 1, none⟩ (.int .u8 ((hexD v).toNat : Int))) ∧ k - 1 + (hexN 16 u).length = 65 ∧
    ∀ j (hj : j < (hexN 16 u).length), (wr.setCell ⟨w.heap.size, k - 1, none⟩ (.int .u8 ((hexD v).toNat : Int))).cell? ((⟨w.heap.size, k - 1, none⟩ : Addr).add j) = some (.int .u8 ((hexN 16 u)[j].toNat : Int)) := by
  obtain ⟨h49, h65, -, -⟩ := hexSt_facts h
  obtain ⟨f, D, cs, hb, hh, hs, hk, hf1, hf, hv, hD, hc⟩ := hexSt_put h (hexD v)
  obtain ⟨f, rfl⟩ : ∃ g, f = g + 1 := ⟨f - 1, by omega⟩
  rw [hexN, if_pos h16] at hD
  rw [← hD]
  refine ⟨hb, by simp; omega, fun j hj => ?_⟩
  rw [Lib.add_plain]
  have := hc j (by simpa using hj)
  rw [World.cell?, hh]
  simpa using this
theorem dig_text : ∀ n (h : n < 16), ((⟨#[48, 49, 50, 51, 52, 53, 54, 55, 56, 57, 97, 98, 99, 100, 101, 102, 103, 104, 105, 106, 107, 108, 109, 110, 111, 112, 113, 114, 115, 116, 117, 118, 119, 120, 121, 122]⟩ : ByteArray)[n]'(by show n < 36; omega)) = hexD n := by decide

set_option maxHeartbeats 1000000 in
set_option maxRecDepth 100000 in
theorem bits16_any (u : Nat) (hu : u < 18446744073709551616) (w : World) (hT : Tz16 w) :
    Calls Tryz.prog 97 #[.slice none 0 0, .int .u64 u, .int .i64 16, .bool false, .bool false] w fun e w' => e = .returned (.tuple #[.slice none 0 0, .string (hexT u)]) ∧ Below w.heap.size w w' := by
  have HTZ := Lib.hid (fun o => tz16_any _ (hT.below ((Below.refl w.heap.size w).alloc (Nat.le_refl _) o)))
  have HST := Lib.hid (hexSt_start w u hu)
  clear hT
  go_enter Tryz.func97, Tryz.ntmps97
  go_wp2_with (first | (go_at_call 120; refine (HTZ.out _).mono ?_; rintro e w' ⟨rfl, rfl⟩) | go_in)
  go_loopw [1, 13] (fun vu vi wr => ∃ (v k : Nat), vu = .int .u64 v ∧ vi = .int .i64 k ∧ v < 18446744073709551616 ∧ HexSt w u v k wr) (fun _ vi _ => (intOf vi).toNat)
  case atStart => exact ⟨u, 65, rfl, rfl, hu, HST.out⟩
  case round =>
    obtain ⟨v, k, rfl, rfl, hv, HS⟩ := hrel
    have HS0 := Lib.hid HS
    obtain ⟨h49, h65, hfr, y, hcl⟩ := hexSt_facts HS
    clear HS
    have hk1 : wrap64 ((k : Int) - 1) = (k : Int) - 1 := by unfold wrap64; omega
    by_cases h16 : 16 ≤ v
    · have hm : bits .and .u64 (v : Int) 15 = ((v % 16 : Nat) : Int) := by
        have := bits_mask .u64 64 (by decide) (fun n h0 h1 => by rw [IntKind.wrap_u64]; omega) 4 (by decide) (v : Int) (by omega) (by omega)
        rw [show ((2 : Int) ^ 4 - 1) = 15 by decide] at this
        rw [this]; omega
      have hdg := dig_text (v % 16) (by omega)
      have hlt : v % 16 < 16 := by omega
      clear hk1
      go_wp2
      go_roundw
      case rel => exact ⟨v / 16, k - 1, by simp, congrArg (Value.int .i64) (by omega), by omega, (by have := hexSt_step HS0.out h16; exact this)⟩
      case measure => simp [intOf]; omega
    · have hdg := dig_text v (by omega)
      obtain ⟨hB, hN, hC⟩ := hexSt_fin HS0.out (by omega : v < 16)
      have hal : Tryz.prog.arrayLen 144 = 65 := by kernel_rfl
      have hel : Tryz.prog.underlying 144 = some (.array 65 5) := Tryz.underlying144
      have hsl : ∀ W, (Instr.sliceAt 144 (.pointer (some ⟨w.heap.size, 0, none⟩)) (some (.int .i64 ((k : Int) - 1))) none none).run Tryz.prog W = .ok (.slice (some ⟨w.heap.size, k - 1, none⟩) (hexN 16 u).length (hexN 16 u).length) W := fun W => by
        rw [run_sliceAt_array_l W 144 ⟨w.heap.size, 0, none⟩ (by simp [Program.arrayLen, Program.elem, hel]) .i64 ((k : Int) - 1) (by omega) (by rw [hal]; omega)]
        go_simp
        omega
      have hcv : ∀ W, W = (wr.setCell ⟨w.heap.size, k - 1, none⟩ (.int .u8 ((hexD v).toNat : Int))) → (convert 76 9 (.slice (some ⟨w.heap.size, k - 1, none⟩) (hexN 16 u).length (hexN 16 u).length)).run Tryz.prog W = .ok (.string (hexT u)) W := fun W hW => by
        subst hW
        exact run_convert_bytes_back (P := Tryz.prog) _ 76 9 5 ⟨w.heap.size, k - 1, none⟩ (hexN 16 u).length (hexN 16 u) Tryz.underlying76 Tryz.underlying5 Tryz.underlying9 hC
      have hcv2 := hcv _ rfl
      have HB := Lib.hid hB
      clear hal hel hC hcv hB hN
      go_wp2
      go_ret2
      exact ⟨rfl, HB.out⟩

set_option maxRecDepth 100000 in
theorem ifmt16_any (u : Nat) (hu : u < 18446744073709551616) (w : World) (hT : Tz16 w) :
    Calls Tryz.prog 75 #[.int .u64 u, .int .i64 16] w fun e w' => e = .returned (.string (hexT u)) ∧ Below w.heap.size w w' := by
  have HC := bits16_any u hu w hT
  clear hu hT
  go_enter Tryz.func75, Tryz.ntmps75
  go_wp2_with (go_at_call 97; refine HC.mono ?_; rintro e w' ⟨rfl, hb⟩)
  go_ret
  exact ⟨rfl, hb⟩
set_option maxRecDepth 100000 in
theorem fmt16_any (v : Int) (h0 : 0 ≤ v) (h1 : v < 18446744073709551616) (w : World) (hT : Tz16 w) :
    Calls Tryz.prog 38 #[.int .u64 v, .int .i64 16] w fun e w' => e = .returned (.string (hexT v)) ∧ Below w.heap.size w w' := by
  obtain ⟨u, rfl⟩ : ∃ u : Nat, v = u := ⟨v.toNat, by omega⟩
  have hu : u < 18446744073709551616 := by omega
  have HC := ifmt16_any u hu w hT
  clear h0 h1 hu
  go_enter Tryz.func38, Tryz.ntmps38
  go_wp2_with (go_at_call 75; refine HC.mono ?_; rintro e w' ⟨rfl, hb⟩)
  go_ret
  exact ⟨rfl, hb⟩
end Go.Proofs.YtlmopoipjolbgaaGreatDoor.LexW
namespace Go.Proofs.YtlmopoipjolbgaaGreatDoor.LexW
open Go.RowKit Go.Shelf Go.Proofs.YtlmopoipjolbgaaGreatDoor.LexS Go.Proofs.YtlmopoipjolbgaaGreatDoorW.PrintWords
set_option linter.unusedVariables false
set_option linter.unusedSimpArgs false

abbrev tkObj (x : Tk) : Obj := .cells #[.int .i64 x.kind, .string x.text, .int .u64 x.num, .int .i64 x.at_] 59
abbrev tkZero : Obj := .cells #[.int .i64 0, .string ⟨#[]⟩, .int .u64 0, .int .i64 0] 59
/-- a block of cells that lies on: its cells -/
theorem chg_block {S : Nat → Prop} {W W' : World} (h : Chg S W W') {b : Nat} {o : Obj} (hb : W.heap[b]? = some o) (hn : ¬ S b) : W'.heap[b]? = some o := (h.block b (Array.getElem?_eq_some_iff.1 hb).1 hn).trans hb
theorem blk4 {W : World} {b : Nat} {v0 v1 v2 v3 : Value} {t : TypeId} (h : W.heap[b]? = some (.cells #[v0, v1, v2, v3] t (0, 0))) : W.cell? ⟨b, 0, none⟩ = some v0 ∧ W.cell? ⟨b, 1, none⟩ = some v1 ∧ W.cell? ⟨b, 2, none⟩ = some v2 ∧ W.cell? ⟨b, 3, none⟩ = some v3 ∧ ∀ j, W.frozen? ⟨b, j, none⟩ = false := by
  refine ⟨?_, ?_, ?_, ?_, fun j => ?_⟩ <;> simp [World.cell?, World.frozen?, h]
theorem blk_past {W : World} {b : Nat} {o : Obj} (o' : Obj) (h : W.heap[b]? = some o) : (W.alloc o').heap[b]? = some o := (((Below.refl _ W).alloc (Nat.le_refl _) o').block b (Array.getElem?_eq_some_iff.1 h).1).trans h
theorem new_blk' {W : World} {n : Nat} (h : W.heap.size = n) (cs : Array Value) (t : TypeId) : (W.alloc (.cells cs t)).heap[n]? = some (.cells cs t (0, 0)) := by subst h; exact new_blk W cs t
theorem Chg.sets4 {S : Nat → Prop} {W W' : World} (h : Chg S W W') (b : Nat) (hb : W.heap.size ≤ b) (v0 v1 v2 v3 : Value) : Chg S W ((((W'.setCell ⟨b, 0, none⟩ v0).setCell ⟨b, 1, none⟩ v1).setCell ⟨b, 2, none⟩ v2).setCell ⟨b, 3, none⟩ v3) :=
  (((h.trans (Chg.of_set _ b 0 _) (fun k e => .inr (by omega))).trans (Chg.of_set _ b 1 _) (fun k e => .inr (by omega))).trans (Chg.of_set _ b 2 _) (fun k e => .inr (by omega))).trans (Chg.of_set _ b 3 _) (fun k e => .inr (by omega))
theorem Rdr.far {s : ByteArray} {ep : EP} {g : Nat} {L : List Tk} {d : Int} {W : World} (h : Rdr s ep g L d W) (b j : Nat) (hb : g ≠ b) (v : Value) : Rdr s ep g L d (W.setCell ⟨b, j, none⟩ v) :=
  let ⟨t, e, hB, hA⟩ := h; ⟨t, e, (Below.heap_setCell W ⟨b, j, none⟩ v g hb).trans hB, hA⟩

set_option maxHeartbeats 1000000 in
theorem kind_any (s : ByteArray) (ep : EP) (g : Nat) (L : List Tk) (d k : Int) (w0 W : World) (hO : Okw w0 g W) (hR : Rdr s ep g L d W) :
    Calls Tryz.prog 56 #[.pointer (some ⟨g, 0, none⟩), .int .i64 k] W (Outs g W (kindP ep k L) (KindOut s ep g d)) := by
  have hR0 := hR
  obtain ⟨t, e, hB, rest, j, rfl, rfl, hT⟩ := hR
  obtain ⟨c0, c1, c2, c3, c4, c5, c6⟩ := rdb_cell hB
  have hgW := hB.lt
  have a1 := cell_past tkZero c1
  have a2 := cell_past tkZero c2
  have a3 := cell_past tkZero c3
  have a4 := cell_past tkZero c4
  have hW2 : Below W.heap.size W ((W.alloc tkZero).alloc (tkObj t)) := ((Below.refl _ W).alloc (Nat.le_refl _) _).alloc (by simp) _
  have hb1 : ((W.alloc tkZero).alloc (tkObj t)).heap[W.heap.size]? = some (.cells #[.int .i64 0, .string ⟨#[]⟩, .int .u64 0, .int .i64 0] 59 (0, 0)) := blk_past _ (new_blk W _ _)
  have hb2 : ((W.alloc tkZero).alloc (tkObj t)).heap[W.heap.size + 1]? = some (.cells #[.int .i64 t.kind, .string t.text, .int .u64 t.num, .int .i64 t.at_] 59 (0, 0)) := new_blk' (by simp) _ _
  have hR2 := hR0.below hW2
  have hO2 := hO.below hW2
  have HST := Lib.hid (step_any s ep g (t :: rest) d w0 _ hO2 hR2)
  have HBD := Lib.hid (bad_any s ep g (t :: rest) d 61 _ hR2)
  have HB1 := Lib.hid hb1; have HB2 := Lib.hid hb2; have HW2 := Lib.hid hW2; have HR2 := Lib.hid hR2; have HR0 := Lib.hid hR0
  clear hb1 hb2 hW2 hR2 hO2 hB hT hR0 hO
  by_cases h1 : t.kind = k
  · subst h1
    by_cases h2 : t.kind = 1
    · have b2 : (t.kind != 1) = false := by rw [bne_eq_false_iff_eq]; exact h2
      have HK : Hid (kindP ep t.kind (t :: rest) = .ok (t, t :: rest)) := Lib.hid (by show (if t.kind = t.kind then (if t.kind = 1 then _ else _) else _) = _; rw [if_pos rfl, if_pos h2]; rfl)
      clear h2
      go_enter Tryz.func56, Tryz.ntmps56
      go_wp2
      have hW3 : Below W.heap.size W ((W.alloc (tkObj t)).alloc (tkObj t)) := ((Below.refl _ W).alloc (Nat.le_refl _) _).alloc (by simp) _
      refine bodyPost_ret (v := tkVal t) (by simp [results, Tryz.results56, go_sem, tkVal]) rfl ?_
      exact Outs.mk_ok HK.out ⟨rfl, HR0.out.below hW3⟩ (Chg.of_below hW3 _)
    · have b2 : (t.kind != 1) = true := by rw [bne_iff_ne]; exact h2
      have HK : Hid (kindP ep t.kind (t :: rest) = bnd (stepP ep (t :: rest)) (fun L' => .ok (t, L'))) := Lib.hid (by show (if t.kind = t.kind then (if t.kind = 1 then _ else _) else _) = _; rw [if_pos rfl, if_neg h2]; rfl)
      have HS := Lib.hid (HST.out h2)
      clear h2
      cases hs : stepP ep (t :: rest) with
      | error p =>
        have HSE := Lib.hid hs; clear hs
        go_enter Tryz.func56, Tryz.ntmps56
        go_wp2_with fail
        refine HS.out.mono ?_
        rintro e W' h
        obtain ⟨rfl, hc⟩ := h.err HSE.out
        go_wp2
        exact ⟨rfl, Outs.mk_err (by rw [HK.out, HSE.out]; rfl) rfl ((Chg.of_below HW2.out _).trans hc (fun k e => .inl e))⟩
      | ok L' =>
        have HSE := Lib.hid hs; clear hs
        go_enter Tryz.func56, Tryz.ntmps56
        go_wp2_with fail
        refine HS.out.mono ?_
        rintro e W' h
        obtain ⟨⟨rfl, hR'⟩, hc⟩ := h.ok HSE.out
        obtain ⟨x0, x1, x2, x3, xf⟩ := blk4 (chg_block hc HB1.out (by omega))
        obtain ⟨y0, y1, y2, y3, yf⟩ := blk4 (chg_block hc HB2.out (by omega))
        have HR' := Lib.hid hR'; have HC := Lib.hid hc; clear hR' hc
        go_wp2
        have hB1 := blk_set (blk_set (blk_set (blk_set (chg_block HC.out HB1.out (by omega)) 0 (.int .i64 t.kind)) 1 (.string t.text)) 2 (.int .u64 t.num)) 3 (.int .i64 t.at_)
        obtain ⟨z0, z1, z2, z3, zf⟩ := blk4 hB1
        refine bodyPost_ret (v := tkVal t) (by simp [results, Tryz.results56, go_sem, z0, z1, z2, z3, tkVal]) rfl ?_
        refine Outs.mk_ok (by rw [HK.out, HSE.out]; rfl) ⟨rfl, ?_⟩ (((Chg.of_below HW2.out _).trans HC.out (fun k e => .inl e)).sets4 W.heap.size (Nat.le_refl _) _ _ _ _)
        exact (((HR'.out.far _ 0 (by omega) _).far _ 1 (by omega) _).far _ 2 (by omega) _).far _ 3 (by omega) _
  · have b1 : (t.kind != k) = true := by rw [bne_iff_ne]; exact h1
    have HK : Hid (kindP ep k (t :: rest) = .error (badP 61 (t :: rest))) := Lib.hid (by show (if t.kind = k then (if k = 1 then _ else _) else _) = _; rw [if_neg h1])
    clear h1
    go_enter Tryz.func56, Tryz.ntmps56
    go_wp2_with fail
    refine HBD.out.mono ?_
    rintro e W2 ⟨he, rfl⟩
    unfold panics at he
    subst he
    go_wp2
    exact ⟨rfl, Outs.mk_err HK.out rfl (Chg.of_below HW2.out _)⟩

theorem fld_num (v0 v1 v2 v3 : Value) (w : World) : (Instr.field 59 (.agg #[v0, v1, v2, v3]) 2).run Tryz.prog w = .ok v2 w := by kernel_rfl
theorem fld_text (v0 v1 v2 v3 : Value) (w : World) : (Instr.field 59 (.agg #[v0, v1, v2, v3]) 1).run Tryz.prog w = .ok v1 w := by kernel_rfl
def clVal (x : Cl) : Value := .agg #[.string x.f0, .int .u64 x.f1]
def ClOut (s : ByteArray) (ep : EP) (g : Nat) (d : Int) (p : Cl × List Tk) (e : Ending) (W' : World) : Prop := e = .returned (clVal p.1) ∧ Rdr s ep g p.2 d W'
abbrev clZero : Obj := .cells #[.string ⟨#[]⟩, .int .u64 0] 74
theorem blk2 {W : World} {b : Nat} {v0 v1 : Value} {t : TypeId} (h : W.heap[b]? = some (.cells #[v0, v1] t (0, 0))) : W.cell? ⟨b, 0, none⟩ = some v0 ∧ W.cell? ⟨b, 1, none⟩ = some v1 ∧ ∀ j, W.frozen? ⟨b, j, none⟩ = false := by
  refine ⟨?_, ?_, fun j => ?_⟩ <;> simp [World.cell?, World.frozen?, h]
theorem Chg.set1 {S : Nat → Prop} {W W' : World} (h : Chg S W W') (b j : Nat) (hb : W.heap.size ≤ b) (v : Value) : Chg S W (W'.setCell ⟨b, j, none⟩ v) := h.trans (Chg.of_set _ b j _) (fun k e => .inr (by omega))

attribute [local go_sem] fld_num fld_text
set_option maxRecDepth 100000 in
set_option maxHeartbeats 1000000 in
theorem call_any (s : ByteArray) (ep : EP) (g : Nat) (L : List Tk) (d : Int) (w0 W : World) (hO : Okw w0 g W) (hR : Rdr s ep g L d W) :
    Calls Tryz.prog 85 #[.pointer (some ⟨g, 0, none⟩)] W (Outs g W (callP ep L) (ClOut s ep g d)) := by
  have hR0 := hR
  obtain ⟨t, e, hB, rest, j, rfl, rfl, hT⟩ := hR
  obtain ⟨c0, c1, c2, c3, c4, c5, c6⟩ := rdb_cell hB
  have hgW := hB.lt
  have a1 := cell_past clZero c1
  have hW2 : Below W.heap.size W (W.alloc clZero) := (Below.refl _ W).alloc (Nat.le_refl _) _
  have hb1 : (W.alloc clZero).heap[W.heap.size]? = some (.cells #[.string ⟨#[]⟩, .int .u64 0] 74 (0, 0)) := new_blk W _ _
  have hR2 := hR0.below hW2
  have hO2 := hO.below hW2
  have HKI := Lib.hid (fun k => kind_any s ep g (t :: rest) d k w0 _ hO2 hR2)
  have HB1 := Lib.hid hb1; have HW2 := Lib.hid hW2
  clear hb1 hW2 hR2 hO2 hB hT hR0 hO
  by_cases h1 : t.kind = 3
  · have b1 : (t.kind == 3) = true := by rw [beq_iff_eq]; exact h1
    have HK : Hid (callP ep (t :: rest) = bnd (kindP ep 3 (t :: rest)) (fun p => .ok (⟨nil0, p.1.num⟩, p.2))) := Lib.hid (by show (if t.kind = 3 then _ else _) = _; rw [if_pos h1])
    clear h1
    cases hs : kindP ep 3 (t :: rest) with
    | error p =>
      have HSE := Lib.hid hs; clear hs
      go_enter Tryz.func85, Tryz.ntmps85
      go_wp2_with fail
      refine (HKI.out 3).mono ?_
      rintro e W' h
      obtain ⟨rfl, hc⟩ := h.err HSE.out
      go_wp2
      exact ⟨rfl, Outs.mk_err (by rw [HK.out, HSE.out]; rfl) rfl ((Chg.of_below HW2.out _).trans hc (fun k e => .inl e))⟩
    | ok p =>
      have HSE := Lib.hid hs; clear hs
      go_enter Tryz.func85, Tryz.ntmps85
      go_wp2_with fail
      refine (HKI.out 3).mono ?_
      rintro e W' h
      obtain ⟨⟨rfl, hR'⟩, hc⟩ := h.ok HSE.out
      obtain ⟨x0, x1, xf⟩ := blk2 (chg_block hc HB1.out (by omega))
      have HR' := Lib.hid hR'; have HC := Lib.hid hc; clear hR' hc
      unfold tkVal
      go_wp2
      have hB1 := blk_set (blk_set (chg_block HC.out HB1.out (by omega)) 0 (.string ⟨#[]⟩)) 1 (.int .u64 p.1.num)
      obtain ⟨z0, z1, zf⟩ := blk2 hB1
      refine bodyPost_ret (v := clVal ⟨nil0, p.1.num⟩) (by simp [results, Tryz.results85, go_sem, z0, z1, clVal, nil0]) rfl ?_
      refine Outs.mk_ok (by rw [HK.out, HSE.out]; rfl) ⟨rfl, ?_⟩ ((((Chg.of_below HW2.out _).trans HC.out (fun k e => .inl e)).set1 W.heap.size 0 (Nat.le_refl _) _).set1 W.heap.size 1 (Nat.le_refl _) _)
      exact (HR'.out.far _ 0 (by omega) _).far _ 1 (by omega) _
  · have b1 : (t.kind == 3) = false := by rw [beq_eq_false_iff_ne]; exact h1
    have HK : Hid (callP ep (t :: rest) = bnd (kindP ep 2 (t :: rest)) (fun p => .ok (⟨p.1.text, 0⟩, p.2))) := Lib.hid (by show (if t.kind = 3 then _ else _) = _; rw [if_neg h1])
    clear h1
    cases hs : kindP ep 2 (t :: rest) with
    | error p =>
      have HSE := Lib.hid hs; clear hs
      go_enter Tryz.func85, Tryz.ntmps85
      go_wp2_with fail
      refine (HKI.out 2).mono ?_
      rintro e W' h
      obtain ⟨rfl, hc⟩ := h.err HSE.out
      go_wp2
      exact ⟨rfl, Outs.mk_err (by rw [HK.out, HSE.out]; rfl) rfl ((Chg.of_below HW2.out _).trans hc (fun k e => .inl e))⟩
    | ok p =>
      have HSE := Lib.hid hs; clear hs
      go_enter Tryz.func85, Tryz.ntmps85
      go_wp2_with fail
      refine (HKI.out 2).mono ?_
      rintro e W' h
      obtain ⟨⟨rfl, hR'⟩, hc⟩ := h.ok HSE.out
      obtain ⟨x0, x1, xf⟩ := blk2 (chg_block hc HB1.out (by omega))
      have HR' := Lib.hid hR'; have HC := Lib.hid hc; clear hR' hc
      unfold tkVal
      go_wp2
      have hB1 := blk_set (blk_set (chg_block HC.out HB1.out (by omega)) 0 (.string p.1.text)) 1 (.int .u64 0)
      obtain ⟨z0, z1, zf⟩ := blk2 hB1
      refine bodyPost_ret (v := clVal ⟨p.1.text, 0⟩) (by simp [results, Tryz.results85, go_sem, z0, z1, clVal]) rfl ?_
      refine Outs.mk_ok (by rw [HK.out, HSE.out]; rfl) ⟨rfl, ?_⟩ ((((Chg.of_below HW2.out _).trans HC.out (fun k e => .inl e)).set1 W.heap.size 0 (Nat.le_refl _) _).set1 W.heap.size 1 (Nat.le_refl _) _)
      exact (HR'.out.far _ 0 (by omega) _).far _ 1 (by omega) _
end Go.Proofs.YtlmopoipjolbgaaGreatDoor.LexW
namespace Go.Proofs.YtlmopoipjolbgaaGreatDoor.LexW
open Go.RowKit Go.Shelf Go.Proofs.YtlmopoipjolbgaaGreatDoor.LexS Go.Proofs.YtlmopoipjolbgaaGreatDoorW.PrintWords
set_option linter.unusedVariables false
set_option linter.unusedSimpArgs false

theorem tk_ext {x y : Tk} (h0 : x.kind = y.kind) (h1 : x.text = y.text) (h2 : x.num = y.num) (h3 : x.at_ = y.at_) : x = y := by
  cases x; cases y; simp at *; exact ⟨h0, h1, h2, h3⟩
theorem same_end {l1 l2 : List Tk} (hl : l1.length = l2.length) (h : ∀ j, j < l1.length → l1.getD j tkz = l2.getD j tkz) : l1 = l2 := by
  apply List.ext_getElem hl
  intro j h1 h2
  have := h j h1
  simpa [h1, h2] using this
theorem text_ne {a b : ByteArray} (h : a ≠ b) : (a.toList == b.toList) = false := by
  rw [beq_eq_false_iff_ne]; intro e; rw [Lib.toList_data, Lib.toList_data] at e; exact h (WideShapes.bytes_inj e)

end Go.Proofs.YtlmopoipjolbgaaGreatDoor.LexW
namespace Go.Proofs.YtlmopoipjolbgaaGreatDoor.LexW
open Go.RowKit Go.Shelf Go.Proofs.YtlmopoipjolbgaaGreatDoor.LexS Go.Proofs.YtlmopoipjolbgaaGreatDoorW.PrintWords
set_option linter.unusedVariables false
set_option linter.unusedSimpArgs false

def wordCells (x : ByteArray × Int × Bool) : List Value := [.string x.1, .int .i64 x.2.1, .bool x.2.2]
def wordsObj : Obj := .cells (wordsT.flatMap wordCells).toArray 112
def fieldsObj : Obj := .cells (fieldsT.map Value.string).toArray 9
def relsObj : Obj := .cells (relsT.map Value.string).toArray 9
set_option maxRecDepth 100000 in
theorem words_any (W : World) : Calls Tryz.prog 74 #[] W fun e W' => e = .returned (.slice (some ⟨W.heap.size, 0, none⟩) 8 8) ∧ W' = W.alloc wordsObj := by
  go_enter Tryz.func74, Tryz.ntmps74
  go_wp2
  go_ret
  exact ⟨rfl, rfl⟩
set_option maxRecDepth 100000 in
theorem fields_any (W : World) : Calls Tryz.prog 44 #[] W fun e W' => e = .returned (.slice (some ⟨W.heap.size, 0, none⟩) 7 7) ∧ W' = W.alloc fieldsObj := by
  go_enter Tryz.func44, Tryz.ntmps44
  go_wp2
  go_ret
  exact ⟨rfl, rfl⟩
set_option maxRecDepth 100000 in
theorem rels_any (W : World) : Calls Tryz.prog 45 #[] W fun e W' => e = .returned (.slice (some ⟨W.heap.size, 0, none⟩) 6 6) ∧ W' = W.alloc relsObj := by
  go_enter Tryz.func45, Tryz.ntmps45
  go_wp2
  go_ret
  exact ⟨rfl, rfl⟩

theorem words_blk {w : World} {B : Nat} (h : w.heap[B]? = some (.cells (wordsT.flatMap wordCells).toArray 112 (0, 0))) (i : Nat) (hi : i < 8) :
    w.cell? ⟨B, i * 3, none⟩ = some (.string (wordsT.getD i (nil0, 0, false)).1) ∧ w.cell? ⟨B, i * 3 + 1, none⟩ = some (.int .i64 (wordsT.getD i (nil0, 0, false)).2.1) ∧ w.cell? ⟨B, i * 3 + 2, none⟩ = some (.bool (wordsT.getD i (nil0, 0, false)).2.2) := by
  match i, hi with
  | 0, _ | 1, _ | 2, _ | 3, _ | 4, _ | 5, _ | 6, _ | 7, _ => exact ⟨by simp [World.cell?, h, wordsT, wordCells], by simp [World.cell?, h, wordsT, wordCells], by simp [World.cell?, h, wordsT, wordCells]⟩
theorem find_none {x : ByteArray} (h : ∀ j, j < 8 → x ≠ (wordsT.getD j (nil0, 0, false)).1) : wordsT.find? (fun y => decide (x = y.1)) = none := by
  rw [List.find?_eq_none]
  intro y hy
  obtain ⟨j, hj, rfl⟩ := List.getElem_of_mem hy
  have := h j hj
  simpa [List.getD_eq_getElem?_getD, List.getElem?_eq_getElem hj] using this
theorem find_some {x : ByteArray} {i : Nat} (hi : i < 8) (h : ∀ j, j < i → x ≠ (wordsT.getD j (nil0, 0, false)).1) (hx : x = (wordsT.getD i (nil0, 0, false)).1) : wordsT.find? (fun y => decide (x = y.1)) = some (wordsT.getD i (nil0, 0, false)) := by
  rw [List.find?_eq_some_iff_getElem]
  have hlen : wordsT.length = 8 := rfl
  refine ⟨by rw [decide_eq_true_eq]; exact hx, i, by omega, by simp [List.getD_eq_getElem?_getD, List.getElem?_eq_getElem (show i < wordsT.length by omega)], fun j hj => ?_⟩
  have := h j hj
  simpa [List.getD_eq_getElem?_getD, List.getElem?_eq_getElem (show j < wordsT.length by omega)] using this

theorem blk3 {W : World} {b : Nat} {v0 v1 v2 : Value} {t : TypeId} (h : W.heap[b]? = some (.cells #[v0, v1, v2] t (0, 0))) : W.cell? ⟨b, 0, none⟩ = some v0 ∧ W.cell? ⟨b, 1, none⟩ = some v1 ∧ W.cell? ⟨b, 2, none⟩ = some v2 ∧ ∀ j, W.frozen? ⟨b, j, none⟩ = false := by
  refine ⟨?_, ?_, ?_, fun j => ?_⟩ <;> simp [World.cell?, World.frozen?, h]
def vdVal (x : Vd) : Value := .agg #[.int .i64 x.f0, .int .u64 x.f1]
def VdOut (s : ByteArray) (ep : EP) (g : Nat) (d : Int) (p : Vd × List Tk) (e : Ending) (W' : World) : Prop := e = .returned (vdVal p.1) ∧ Rdr s ep g p.2 d W'
abbrev vdZero : Obj := .cells #[.int .i64 0, .int .u64 0] 26

attribute [local go_sem] fld_num fld_text
set_option maxRecDepth 100000 in
set_option maxHeartbeats 2000000 in
theorem verdict_any (s : ByteArray) (ep : EP) (g : Nat) (L : List Tk) (d : Int) (w0 W : World) (hO : Okw w0 g W) (hR : Rdr s ep g L d W) :
    Calls Tryz.prog 58 #[.pointer (some ⟨g, 0, none⟩)] W (Outs g W (verdictP ep L) (VdOut s ep g d)) := by
  have hR0 := hR
  obtain ⟨t, e, hB, rest, j, rfl, rfl, hT⟩ := hR
  have hgW := hB.lt
  have HR0 := Lib.hid hR0; have HO := Lib.hid hO; have HB := Lib.hid hB
  clear hR0 hO hB hT
  go_enter Tryz.func58, Tryz.ntmps58
  go_wp2_with fail
  refine (words_any _).mono ?_
  rintro e W1 ⟨rfl, rfl⟩
  have hbW : Below W.heap.size W ((W.alloc vdZero).alloc wordsObj) := ((Below.refl _ W).alloc (Nat.le_refl _) _).alloc (by simp) _
  have hw0 : ((W.alloc vdZero).alloc wordsObj).heap[W.heap.size + 1]? = some (.cells (wordsT.flatMap wordCells).toArray 112 (0, 0)) := new_blk' (by simp) _ _
  have hr0 : ((W.alloc vdZero).alloc wordsObj).heap[W.heap.size]? = some (.cells #[.int .i64 0, .int .u64 0] 26 (0, 0)) := blk_past _ (new_blk W _ _)
  have hs0 : ((W.alloc vdZero).alloc wordsObj).heap.size = W.heap.size + 2 := by simp
  go_wp2
  obtain ⟨B, hBW⟩ : ∃ B, B = W.heap.size := ⟨_, rfl⟩
  rw [← hBW] at hbW hw0 hr0 hs0 hgW
  show Code.wp _ _ _ _ ((W.alloc vdZero).alloc wordsObj)
  rw [← hBW]
  generalize (W.alloc vdZero).alloc wordsObj = W2 at *
  have HBW := Lib.hid hBW; have HbW := Lib.hid hbW; have HW0 := Lib.hid hw0; have HRZ := Lib.hid hr0
  clear hBW hbW hw0 hr0
  go_loopw [8] (fun vi wr => ∃ i : Nat, vi = .int .i64 i ∧ i ≤ 8 ∧ Hid (Below W2.heap.size W2 wr) ∧ Hid (t.kind = 2 → ∀ j, j < i → t.text ≠ (wordsT.getD j (nil0, 0, false)).1)) (fun vi _ => 8 - (intOf vi).toNat)
  case atStart => exact ⟨0, rfl, by omega, Lib.hid (Below.refl _ _), Lib.hid (fun _ j h => absurd h (by omega))⟩
  case round =>
    obtain ⟨i, rfl, hi, HBL, HNE⟩ := hrel
    have hsz := HBL.out.size
    have hbwr : Below W.heap.size W wr := by have := HbW.out; have h2 := HBL.out; exact Below.trans (by rw [← HBW.out]; exact this) (h2.mono (by have := HBW.out; omega))
    have hRr := HB.out.below hbwr
    obtain ⟨c0, c1, c2, c3, c4, c5, c6⟩ := rdb_cell hRr
    have HRd := Lib.hid (HR0.out.below hbwr); have HOr := Lib.hid (HO.out.below hbwr); have HBwr := Lib.hid hbwr
    have HRZr := Lib.hid ((HBL.out.block B (by omega)).trans HRZ.out)
    clear hRr hbwr
    by_cases hlt : i < 8
    · obtain ⟨x0, x1, x2⟩ := words_blk ((HBL.out.block (B + 1) (by omega)).trans HW0.out) i hlt
      obtain ⟨x, hx⟩ : ∃ x, x = wordsT.getD i (nil0, 0, false) := ⟨_, rfl⟩
      rw [← hx] at x0 x1 x2
      have HX := Lib.hid hx; clear hx
      obtain ⟨xt, xk, xn⟩ := x
      dsimp only at x0 x1 x2
      have a1 := cell_past (.cells #[.string xt, .int .i64 xk, .bool xn] 112) c1
      have a2 := cell_past (.cells #[.string xt, .int .i64 xk, .bool xn] 112) c2
      by_cases hk : t.kind = 2
      · have bk : (t.kind != 2) = false := by rw [bne_eq_false_iff_eq]; exact hk
        by_cases hxt : t.text = xt
        · have hv : verdictP ep (t :: rest) = bnd (stepP ep (t :: rest)) (fun L1 => if xn = true then bnd (kindP ep 3 L1) (fun p => .ok (⟨xk, p.1.num⟩, p.2)) else .ok (⟨xk, 0⟩, L1)) := by
            have := find_some (x := t.text) hlt (HNE.out hk) (by rw [← HX.out]; exact hxt)
            rw [← HX.out] at this
            unfold verdictP
            show (if t.kind = 2 then (match wordsT.find? (fun y => decide (t.text = y.1)) with | some (_, k, n) => _ | none => _) else _) = _
            rw [if_pos hk, this]
          have HV := Lib.hid hv; clear hv
          have bt : (t.text.toList == xt.toList) = true := by rw [hxt]; exact beq_self_eq_true _
          have bt' : (t.text.toList != xt.toList) = false := by rw [hxt]; simp
          have HS := Lib.hid (fun Y (h : Below wr.heap.size wr Y) => step_any s ep g (t :: rest) d w0 Y (HOr.out.below h) (HRd.out.below h) (by show t.kind ≠ 1; omega))
          clear hk hxt
          go_wp2
          go_quiet (fail)
          have hY : Below wr.heap.size wr ((wr.alloc (.cells #[.string xt, .int .i64 xk, .bool xn] 112)).drewN nq) := pw_below_drewN ((Below.refl _ wr).alloc (Nat.le_refl _) _) _
          have hwb : ((wr.alloc (.cells #[.string xt, .int .i64 xk, .bool xn] 112)).drewN nq).heap[wr.heap.size]? = some (.cells #[.string xt, .int .i64 xk, .bool xn] 112 (0, 0)) := by
            rw [World.heap_drewN]; exact new_blk wr _ _
          have HY := Lib.hid hY; have HWB := Lib.hid hwb; clear hY hwb
          cases hs : stepP ep (t :: rest) with
          | error p =>
            have HSE := Lib.hid hs; clear hs
            go_wp2_with fail
            refine (HS.out _ HY.out).mono ?_
            rintro e W3 h
            obtain ⟨rfl, hc⟩ := h.err HSE.out
            go_wp2
            exact ⟨rfl, Outs.mk_err (by rw [HV.out, HSE.out]; rfl) rfl (((Chg.of_below HBwr.out _).trans (Chg.of_below HY.out (fun k => k = g)) (fun k e => .inl e)).trans hc (fun k e => .inl e))⟩
          | ok L1 =>
            have HSE := Lib.hid hs; clear hs
            go_wp2_with fail
            refine (HS.out _ HY.out).mono ?_
            rintro e W3 h
            obtain ⟨⟨rfl, hR3⟩, hc⟩ := h.ok HSE.out
            obtain ⟨y0, y1, y2, yf⟩ := blk3 (chg_block hc HWB.out (by omega))
            have hz3 := chg_block hc ((HY.out.block B (by omega)).trans HRZr.out) (by omega)
            have hcW : Chg (fun k => k = g) W W3 := ((Chg.of_below HBwr.out _).trans (Chg.of_below HY.out (fun k => k = g)) (fun k e => .inl e)).trans hc (fun k e => .inl e)
            have hs3 := hc.size
            have hsY := HY.out.size
            have hB3 : B < W3.heap.size := by omega
            have hvb := new_blk W3 #[.int .i64 xk, .int .u64 0] 26
            have hz4 := blk_past (.cells #[.int .i64 xk, .int .u64 0] 26) hz3
            have hY4 : Below W3.heap.size W3 (W3.alloc (.cells #[.int .i64 xk, .int .u64 0] 26)) := (Below.refl _ W3).alloc (Nat.le_refl _) _
            obtain ⟨z0, z1, zf⟩ := blk2 hz4
            obtain ⟨p0, p1, pf⟩ := blk2 hz3
            have y2' := cell_past (.cells #[.int .i64 xk, .int .u64 0] 26) y2
            have HZ3 := Lib.hid hz3; have HCW := Lib.hid hcW; have HR3 := Lib.hid hR3; have HY4 := Lib.hid hY4; have HZ4 := Lib.hid hz4; have HVB := Lib.hid hvb
            clear hcW hR3 hY4 hc hz3 hz4 hvb x0 x1 x2 a1 a2 c0 c1 c2 c3 c4 c5 c6
            cases xn with
            | false =>
              go_wp2
              have hB5 := blk_past (.cells #[.int .i64 xk, .int .u64 0] 26) (blk_set (blk_set HZ3.out 0 (.int .i64 xk)) 1 (.int .u64 0))
              obtain ⟨r0, r1, rf⟩ := blk2 hB5
              refine bodyPost_ret (v := vdVal ⟨xk, 0⟩) (by simp [results, Tryz.results58, go_sem, r0, r1, vdVal]) rfl ?_
              have hcs := (HCW.out.set1 B 0 (by have := HBW.out; omega) (.int .i64 xk)).set1 B 1 (by have := HBW.out; omega) (.int .u64 0)
              have hal := (Below.refl ((W3.setCell ⟨B, 0, none⟩ (.int .i64 xk)).setCell ⟨B, 1, none⟩ (.int .u64 0)).heap.size ((W3.setCell ⟨B, 0, none⟩ (.int .i64 xk)).setCell ⟨B, 1, none⟩ (.int .u64 0))).alloc (Nat.le_refl _) (.cells #[.int .i64 xk, .int .u64 0] 26)
              exact Outs.mk_ok (by rw [HV.out, HSE.out]; rfl) ⟨rfl, ((HR3.out.far B 0 (by omega) _).far B 1 (by omega) _).below hal⟩ (hcs.trans (Chg.of_below hal (fun k => k = g)) (fun k e => .inl e))
            | true =>
              have HK := Lib.hid (kind_any s ep g L1 d 3 w0 _ ((HO.out.chg HCW.out).below HY4.out) (HR3.out.below HY4.out))
              cases hs2 : kindP ep 3 L1 with
              | error p =>
                have HSE2 := Lib.hid hs2; clear hs2
                go_wp2_with fail
                refine HK.out.mono ?_
                rintro e W5 h
                obtain ⟨rfl, hc⟩ := h.err HSE2.out
                go_wp2
                exact ⟨rfl, Outs.mk_err (by rw [HV.out, HSE.out]; show bnd (kindP ep 3 L1) _ = _; rw [HSE2.out]; rfl) rfl ((HCW.out.trans (Chg.of_below HY4.out (fun k => k = g)) (fun k e => .inl e)).trans hc (fun k e => .inl e))⟩
              | ok p =>
                have HSE2 := Lib.hid hs2; clear hs2
                go_wp2_with fail
                refine HK.out.mono ?_
                rintro e W5 h
                obtain ⟨⟨rfl, hR5⟩, hc⟩ := h.ok HSE2.out
                have hz5 := chg_block hc HZ4.out (by omega)
                have hv5 := chg_block hc HVB.out (by omega)
                obtain ⟨u0, u1, uf⟩ := blk2 hz5
                obtain ⟨v0, v1, vf⟩ := blk2 hv5
                have hv6 := blk_set hv5 1 (.int .u64 p.1.num)
                have hne : (W3.heap.size = B) = False := by simp; omega
                have HZ5 := Lib.hid hz5; have HC5 := Lib.hid hc; have HR5 := Lib.hid hR5
                clear hz5 hv5 hc hR5 hv6 z0 z1 zf p0 p1 pf y0 y1 y2 yf y2'
                unfold tkVal
                go_wp2
                have hb6 := blk_set (blk_set ((Below.heap_setCell W5 ⟨W3.heap.size, 1, none⟩ (.int .u64 p.1.num) B (by show B ≠ W3.heap.size; omega)).trans HZ5.out) 0 (.int .i64 xk)) 1 (.int .u64 p.1.num)
                obtain ⟨r0, r1, rf⟩ := blk2 hb6
                refine bodyPost_ret (v := vdVal ⟨xk, p.1.num⟩) (by simp [results, Tryz.results58, go_sem, r0, r1, vdVal]) rfl ?_
                refine Outs.mk_ok (by rw [HV.out, HSE.out]; show bnd (kindP ep 3 L1) _ = _; rw [HSE2.out]; rfl) ⟨rfl, ?_⟩ (((((HCW.out.trans (Chg.of_below HY4.out (fun k => k = g)) (fun k e => .inl e)).trans HC5.out (fun k e => .inl e)).set1 W3.heap.size 1 (by have := HCW.out.size; omega) _).set1 B 0 (by have := HBW.out; omega) _).set1 B 1 (by have := HBW.out; omega) _)
                exact ((HR5.out.far W3.heap.size 1 (by omega) _).far B 0 (by omega) _).far B 1 (by omega) _
        · have HNE2 : Hid (t.kind = 2 → ∀ j, j < i + 1 → t.text ≠ (wordsT.getD j (nil0, 0, false)).1) := Lib.hid (fun h2 j hj => by
            by_cases hji : j = i
            · subst hji; rw [← HX.out]; exact hxt
            · exact HNE.out h2 j (by omega))
          have bt := text_ne hxt
          have bt' : (t.text.toList != xt.toList) = true := by unfold bne; rw [bt]; rfl
          clear hk hxt
          go_wp2
          go_quiet (fail)
          go_wp2
          exact ⟨⟨i + 1, by go_num, by omega, Lib.hid (pw_below_drewN ((HBL.out).alloc hsz _) _), HNE2⟩, by simp [intOf]; omega⟩
      · have bk : (t.kind != 2) = true := by rw [bne_iff_ne]; exact hk
        have HNE2 : Hid (t.kind = 2 → ∀ j, j < i + 1 → t.text ≠ (wordsT.getD j (nil0, 0, false)).1) := Lib.hid (fun h2 => absurd h2 hk)
        clear hk
        go_wp2
        go_quiet (fail)
        go_wp2
        exact ⟨⟨i + 1, by go_num, by omega, Lib.hid (pw_below_drewN ((HBL.out).alloc hsz _) _), HNE2⟩, by simp [intOf]; omega⟩
    · have hv : verdictP ep (t :: rest) = .error (badP 61 (t :: rest)) := by
        unfold verdictP
        show (if t.kind = 2 then _ else _) = _
        by_cases hk : t.kind = 2
        · rw [if_pos hk]
          have := find_none (x := t.text) (fun j hj => HNE.out hk j (by omega))
          show (match wordsT.find? (fun y => decide (t.text = y.1)) with | some (_, k, n) => _ | none => _) = _
          rw [this]
        · rw [if_neg hk]
      have HV := Lib.hid hv; clear hv
      go_wp2_with fail
      refine (bad_any s ep g (t :: rest) d 61 wr HRd.out).mono ?_
      rintro e W3 ⟨he, rfl⟩
      unfold panics at he
      subst he
      go_wp2
      exact ⟨rfl, Outs.mk_err HV.out rfl (Chg.of_below HBwr.out _)⟩
end Go.Proofs.YtlmopoipjolbgaaGreatDoor.LexW
namespace Go.Proofs.YtlmopoipjolbgaaGreatDoor.LexW
open Go.RowKit Go.Shelf Go.Proofs.YtlmopoipjolbgaaGreatDoor.LexS Go.Proofs.YtlmopoipjolbgaaGreatDoorW.PrintWords
set_option linter.unusedVariables false
set_option linter.unusedSimpArgs false

abbrev exBox (x : Ex) (A : Option Addr) (c : Nat) : Obj := .cells #[.int .i64 x.f0, .slice A x.f1.length c, .int .i64 x.f2, .int .u64 x.f3, .int .i64 x.f4, .int .u64 x.f5] 37
theorem box6 {W : World} {b : Nat} {v0 v1 v2 v3 v4 v5 : Value} {t : TypeId} (h : W.heap[b]? = some (.cells #[v0, v1, v2, v3, v4, v5] t (0, 0))) : W.cell? ⟨b, 0, none⟩ = some v0 ∧ W.cell? ⟨b, 1, none⟩ = some v1 ∧ W.cell? ⟨b, 2, none⟩ = some v2 ∧ W.cell? ⟨b, 3, none⟩ = some v3 ∧ W.cell? ⟨b, 4, none⟩ = some v4 ∧ W.cell? ⟨b, 5, none⟩ = some v5 := by
  refine ⟨?_, ?_, ?_, ?_, ?_, ?_⟩ <;> simp [World.cell?, h]
theorem mem_size {x y : Ex} {xs : List Ex} (h : x ∈ xs) (hy : y.f1 = xs) : SizeOf.sizeOf x < SizeOf.sizeOf y := by
  cases y
  simp only at hy
  subst hy
  have := List.sizeOf_lt_of_mem h
  simp
  omega
theorem box_lt {W : World} {b : Nat} {o : Obj} (h : W.heap[b]? = some o) : b < W.heap.size := (Array.getElem?_eq_some_iff.1 h).1

theorem bel_cell {W W5 : World} {a : Addr} {v : Value} (h : Below W.drew.heap.size W.drew W5) (hc : W.cell? a = some v) : W5.cell? a = some v := by
  have := World.block_lt_of_cell? W a hc
  rw [World.cell?_of_block (h.block a.block this)]
  exact hc

set_option maxHeartbeats 8000000 in
set_option maxRecDepth 100000 in
theorem sameEx_any (n : Nat) : ∀ (x : Ex), SizeOf.sizeOf x < n → ∀ (A0 : Option Addr) (c0 : Nat) (A1 : Option Addr) (c1 : Nat) (w : World), kEx.C w A0 x.f1.length x.f1 → kEx.C w A1 x.f1.length x.f1 →
    Calls Tryz.prog 13 #[.agg #[.int .i64 x.f0, .slice A0 x.f1.length c0, .int .i64 x.f2, .int .u64 x.f3, .int .i64 x.f4, .int .u64 x.f5], .agg #[.int .i64 x.f0, .slice A1 x.f1.length c1, .int .i64 x.f2, .int .u64 x.f3, .int .i64 x.f4, .int .u64 x.f5]] w fun e w' => e = .returned (.bool true) ∧ Below w.heap.size w w' := by
  induction n with
  | zero => intro x h; omega
  | succ n ih =>
  intro x hx A0 c0 A1 c1 w h0 h1
  have hmax : x.f1.length ≤ 9223372036854775807 := h0.2.1
  have IH := Lib.hid ih; clear ih
  have hal : Below w.heap.size w ((w.alloc (exBox x A0 c0)).alloc (exBox x A1 c1)) := ((Below.refl w.heap.size w).alloc (Nat.le_refl _) _).alloc (by simp) _
  have hb0 : ((w.alloc (exBox x A0 c0)).alloc (exBox x A1 c1)).heap[w.heap.size]? = some (.cells #[.int .i64 x.f0, .slice A0 x.f1.length c0, .int .i64 x.f2, .int .u64 x.f3, .int .i64 x.f4, .int .u64 x.f5] 37 (0, 0)) := blk_past _ (new_blk w _ _)
  have hb1 : ((w.alloc (exBox x A0 c0)).alloc (exBox x A1 c1)).heap[w.heap.size + 1]? = some (.cells #[.int .i64 x.f0, .slice A1 x.f1.length c1, .int .i64 x.f2, .int .u64 x.f3, .int .i64 x.f4, .int .u64 x.f5] 37 (0, 0)) := new_blk' (by simp) _ _
  have hsz : ((w.alloc (exBox x A0 c0)).alloc (exBox x A1 c1)).heap.size = w.heap.size + 2 := by simp
  obtain ⟨y0, y1, y2, y3, y4, y5⟩ := box6 hb0
  obtain ⟨z0, z1, z2, z3, z4, z5⟩ := box6 hb1
  have hh0 := h0
  have H0 := Lib.hid (Kd.C_below h0 hal); have H1 := Lib.hid (Kd.C_below h1 hal); have HB0 := Lib.hid hb0; have HB1 := Lib.hid hb1; have HAL := Lib.hid hal
  clear h0 h1 hh0 hal hb0 hb1
  have hn0 : (x.f0 != x.f0) = false := by simp
  have hn1 : ((x.f1.length : Int) != (x.f1.length : Int)) = false := by simp
  have hn2 : (x.f2 != x.f2) = false := by simp
  have hn3 : (x.f3 != x.f3) = false := by simp
  have hn4 : (x.f4 != x.f4) = false := by simp
  have hn5 : (x.f5 != x.f5) = false := by simp
  go_enter Tryz.func13, Tryz.ntmps13
  go_wp2
  go_loopw [5] (fun vi wr => ∃ k : Nat, vi = .int .i64 k ∧ k ≤ x.f1.length ∧ Hid (Below ((w.alloc (exBox x A0 c0)).alloc (exBox x A1 c1)).heap.size ((w.alloc (exBox x A0 c0)).alloc (exBox x A1 c1)) wr)) (fun vi _ => x.f1.length - (intOf vi).toNat)
  case atStart => exact ⟨0, rfl, by omega, Lib.hid (Below.refl _ _)⟩
  case round =>
    obtain ⟨k, rfl, hk, HB⟩ := hrel
    clear y0 y1 y2 y3 y4 y5 z0 z1 z2 z3 z4 z5
    obtain ⟨y0, y1, y2, y3, y4, y5⟩ := box6 ((HB.out.block _ (by rw [hsz]; omega)).trans HB0.out)
    obtain ⟨z0, z1, z2, z3, z4, z5⟩ := box6 ((HB.out.block _ (by rw [hsz]; omega)).trans HB1.out)
    by_cases hlt : k < x.f1.length
    · have hltb : decide ((k : Int) < (x.f1.length : Int)) = true := by simpa using hlt
      have hC0 := Kd.C_below H0.out HB.out
      have hC1 := Kd.C_below H1.out HB.out
      obtain ⟨a0, A2, c2, e0, p0, p1, p2, p3, p4, p5, pl, pc⟩ := at_Ex hC0 (k : Int) (by omega) (by omega)
      obtain ⟨a1, A3, c3, e1, q0, q1, q2, q3, q4, q5, ql, qc⟩ := at_Ex hC1 (k : Int) (by omega) (by omega)
      cases e0; cases e1
      rw [Int.toNat_natCast] at p0 p1 p2 p3 p4 p5 q0 q1 q2 q3 q4 q5
      have hmem : rd_Ex x.f1 (k : Int) ∈ x.f1 := by
        unfold rd_Ex
        rw [Int.toNat_natCast, List.getD_eq_getElem?_getD, List.getElem?_eq_getElem hlt]
        exact List.getElem_mem hlt
      have hsm := mem_size hmem rfl
      generalize rd_Ex x.f1 (k : Int) = y at *
      have HS := Lib.hid (IH.out y (by omega) A2 c2 A3 c3 wr.drew (Kd.C_below pc (Below.refl _ _).drew) (Kd.C_below qc (Below.refl _ _).drew))
      have hwr : wrap64 ((k : Int) + 1) = (k : Int) + 1 := by unfold wrap64; omega
      have HB9 := Lib.hid HB
      clear pc qc pl ql hC0 hC1 hsm hmem
      go_wp2
      go_region_held3 (fun w' => w'.cell? ⟨w.heap.size, 1, none⟩ = some (.slice (some a0) x.f1.length c0) ∧ w'.cell? ⟨w.heap.size + 1, 1, none⟩ = some (.slice (some a1) x.f1.length c1) ∧
          w'.cell? (a0.add (k * 6)) = some (.int .i64 y.f0) ∧ w'.cell? ⟨(a0.add (k * 6)).block, (a0.add (k * 6)).off + 1, none⟩ = some (.slice A2 y.f1.length c2) ∧ w'.cell? ⟨(a0.add (k * 6)).block, (a0.add (k * 6)).off + 2, none⟩ = some (.int .i64 y.f2) ∧ w'.cell? ⟨(a0.add (k * 6)).block, (a0.add (k * 6)).off + 3, none⟩ = some (.int .u64 y.f3) ∧ w'.cell? ⟨(a0.add (k * 6)).block, (a0.add (k * 6)).off + 4, none⟩ = some (.int .i64 y.f4) ∧ w'.cell? ⟨(a0.add (k * 6)).block, (a0.add (k * 6)).off + 5, none⟩ = some (.int .u64 y.f5) ∧
          w'.cell? (a1.add (k * 6)) = some (.int .i64 y.f0) ∧ w'.cell? ⟨(a1.add (k * 6)).block, (a1.add (k * 6)).off + 1, none⟩ = some (.slice A3 y.f1.length c3) ∧ w'.cell? ⟨(a1.add (k * 6)).block, (a1.add (k * 6)).off + 2, none⟩ = some (.int .i64 y.f2) ∧ w'.cell? ⟨(a1.add (k * 6)).block, (a1.add (k * 6)).off + 3, none⟩ = some (.int .u64 y.f3) ∧ w'.cell? ⟨(a1.add (k * 6)).block, (a1.add (k * 6)).off + 4, none⟩ = some (.int .i64 y.f4) ∧ w'.cell? ⟨(a1.add (k * 6)).block, (a1.add (k * 6)).off + 5, none⟩ = some (.int .u64 y.f5))
        (first | go_keep | exact ⟨bel_cell hb5 y1, bel_cell hb5 z1, bel_cell hb5 p0, bel_cell hb5 p1, bel_cell hb5 p2, bel_cell hb5 p3, bel_cell hb5 p4, bel_cell hb5 p5, bel_cell hb5 q0, bel_cell hb5 q1, bel_cell hb5 q2, bel_cell hb5 q3, bel_cell hb5 q4, bel_cell hb5 q5⟩)
        (first | (go_at_call 13; refine HS.out.mono ?_; rintro e W5 ⟨rfl, hb5⟩))
      go_wp2
      go_roundw
      case rel => exact ⟨k + 1, by simp, by omega, Lib.hid (((HB.out.trans ((Below.refl _ _).drew)).trans (hb5.mono HB.out.size)))⟩
      case measure => simp [intOf]; omega
    · have hltb : decide ((k : Int) < (x.f1.length : Int)) = false := by simpa using hlt
      have hle : x.f1.length ≤ k := by omega
      clear hlt hltb
      go_wp2
      go_ret
      exact ⟨rfl, HAL.out.trans (HB.out.mono (by rw [hsz]; omega))⟩
end Go.Proofs.YtlmopoipjolbgaaGreatDoor.LexW
