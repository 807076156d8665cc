/-
  LexGoes: the region in which Same is called.
-/
import Derived.Test.YtlmopoipjolbgaaDoorLexG0
import Derived.LoopNIn
import Derived.Sort.CutIn
namespace Go.Proofs.YtlmopoipjolbgaaDoor.LexW
open Go.RowKit Go.Shelf Go.Proofs.YtlmopoipjolbgaaDoor.LexS Go.Proofs.YtlmopoipjolbgaaDoorW.PrintWords
set_option linter.unusedVariables false
set_option linter.unusedSimpArgs false
attribute [local go_sem] Oper.semAt_some
/-- the frame in a round -/
abbrev gTmps2 (s : ByteArray) (most : Int) (n0 c : Nat) (pl : Int) (v11 v12 v13 v14 : Value) (u : Nat → Value) : Array Value :=
  #[.string s, .int .i64 most, undef, .pointer (some ⟨n0, 0, none⟩), .pointer (some ⟨n0 + 1, 0, none⟩), .bool true, .pointer (some ⟨c, 0, none⟩), .pointer (some ⟨c + 1, 0, none⟩), .int .i64 pl, .pointer (some ⟨c + 2, 0, none⟩), .pointer (some ⟨c + 4, 0, none⟩), v11, v12, v13, v14, u 15, u 16, u 17, u 18, u 19, u 20, u 21, u 22, u 23, u 24, u 25, u 26, u 27, u 28, u 29, u 30, u 31, u 32, u 33, u 34, u 35, u 36, u 37, u 38, u 39, u 40, u 41, u 42, u 43, u 44, u 45, u 46, u 47, u 48, u 49, u 50, u 51, u 52, u 53, u 54, u 55, u 56, u 57, u 58, u 59, u 60, u 61, u 62, u 63, u 64, u 65, u 66, u 67, u 68, u 69, u 70, u 71, u 72, u 73, u 74, u 75, u 76, u 77, u 78, u 79, u 80, u 81, u 82, u 83, u 84, u 85, u 86, u 87, u 88, u 89, u 90, u 91, u 92, u 93, u 94, u 95, u 96, u 97, u 98, u 99, u 100, u 101, u 102, u 103, u 104, u 105, u 106, u 107, u 108, u 109, u 110, u 111, u 112, u 113, u 114, u 115, u 116, u 117, u 118, u 119, u 120, u 121, u 122, u 123, u 124]
theorem wrap_small' {m : Nat} (h : m < 9223372036854775807) : wrap64 ((m : Int) + 1) = (m : Int) + 1 := by unfold wrap64; omega
theorem alloc_drewN' (X : World) (d : Nat) (o : Obj) : (X.drewN d).alloc o = (X.alloc o).drewN d := by
  induction d with
  | zero => rfl
  | succ d ih => rw [← World.drew_drewN, ← World.drew_drewN, ← ih]; rfl
/-- the operations of region 19 -/
def goesOps : Array Oper := #[{ dst := some 52, op := Op.load 38 (Operand.tmp 13), type := 38, pos := "law.go:82", after := #[], guard := none },
  { dst := some 53, op := Op.buildSlice 29 1 #[(0, Operand.tmp 52)], type := 29, pos := "law.go:82", after := #[{ on := 0, ground := Ground.data }], guard := none },
  { dst := some 54, op := Op.load 29 (Operand.tmp 6), type := 29, pos := "law.go:82", after := #[], guard := none },
  { dst := some 55, op := Op.load 3 (Operand.tmp 12), type := 3, pos := "law.go:82", after := #[], guard := none },
  { dst := some 56, op := Op.load 3 (Operand.tmp 12), type := 3, pos := "law.go:82", after := #[], guard := none },
  { dst := some 57, op := Op.binOp BinOp.add 3 (Operand.tmp 56) (Operand.const (Value.int IntKind.i64 1)) 3, type := 3, pos := "law.go:82", after := #[{ on := 4, ground := Ground.data }], guard := none },
  { dst := some 58, op := Op.slice 29 (Operand.tmp 54) (some (Operand.tmp 55)) (some (Operand.tmp 57)) none, type := 29, pos := "law.go:82", after := #[{ on := 2, ground := Ground.data }, { on := 3, ground := Ground.data }, { on := 5, ground := Ground.data }], guard := none },
  { dst := some 59, op := Op.call { callee := Callee.value (Operand.func 16), args := #[Operand.tmp 53, Operand.tmp 58], argTypes := #[29, 29] }, type := 4, pos := "law.go:82", after := #[{ on := 1, ground := Ground.data }, { on := 6, ground := Ground.data }], guard := none },
  { dst := some 15, op := Op.assign (Operand.tmp 59), type := 4, pos := "law.go:82", after := #[{ on := 7, ground := Ground.data }, { on := 7, ground := Ground.chain }, { on := 0, ground := Ground.phase }, { on := 1, ground := Ground.phase }, { on := 2, ground := Ground.phase }, { on := 3, ground := Ground.phase }, { on := 4, ground := Ground.phase }, { on := 5, ground := Ground.phase }, { on := 6, ground := Ground.phase }, { on := 7, ground := Ground.phase }], guard := none }]
def goesDeps (b0 b1 b2 b3 b4 b5 b6 b7 b8 : Bool) : Nat → Bool
  | 0 => !b0
  | 1 => !b1 && b0
  | 2 => !b2
  | 3 => !b3
  | 4 => !b4
  | 5 => !b5 && b4
  | 6 => !b6 && b2 && b3 && b5
  | 7 => !b7 && b1 && b6
  | 8 => !b8 && b7
  | _ => false
theorem goes_ready : ∀ b0 b1 b2 b3 b4 b5 b6 b7 b8 : Bool, ∀ i ∈ Region.ready .any goesOps #[b0, b1, b2, b3, b4, b5, b6, b7, b8], goesDeps b0 b1 b2 b3 b4 b5 b6 b7 b8 i = true := by decide +kernel
theorem goes_over : ∀ b0 b1 b2 b3 b4 b5 b6 b7 b8 : Bool, Region.ready .any goesOps #[b0, b1, b2, b3, b4, b5, b6, b7, b8] = [] → b1 = true ∧ b8 = true := by decide +kernel
/-- one operation, as a list of operations -/
theorem opIn_list {F : Fence} {n : Nat} {P : Program} {ops : Array Oper} {Q : Exit → Act → World → Prop} {i : Nat} {o : Oper} {K : Act → World → Prop} {a : Act} {w : World} (ho : ops[i]? = some o)
    (h : wpListIn F n P ops (Exit.then K Q) [o] a w) : wpOpIn F n P ops Q i K a w := by
  unfold wpOpIn
  rw [ho]
  exact h

/-- within region 19 -/
def GV (s : ByteArray) (most : Int) (n0 c : Nat) (pl : Int) (v11 v12 v13 v14 : Value) (X : World) (t : Tk) (V V2 : Value) (k : Int) (r : Bool) (listed : Array Bool) (a : Act) (w : World) : Prop :=
  ∃ (b0 b1 b2 b3 b4 b5 b6 b7 b8 : Bool) (u : Nat → Value) (d : Nat), listed = #[b0, b1, b2, b3, b4, b5, b6, b7, b8] ∧ a = { tmps := gTmps2 s most n0 c pl v11 v12 v13 v14 u, defers := [] } ∧
    (b0 = true → u 52 = tokAgg t) ∧ (b1 = true → u 53 = .slice (some ⟨X.heap.size, 0, none⟩) 1 1) ∧ (b2 = true → u 54 = V) ∧ (b3 = true → u 55 = .int .i64 k) ∧ (b4 = true → u 56 = .int .i64 k) ∧ (b5 = true → u 57 = .int .i64 (k + 1)) ∧
    (b6 = true → u 58 = V2) ∧ (b7 = true → u 59 = .bool r) ∧ (b8 = true → u 15 = .bool r) ∧ w = (if b1 = true then X.alloc (.cells (tkCells t).toArray 38) else X).drewN d
theorem GV_of {s : ByteArray} {most : Int} {n0 c : Nat} {pl : Int} {v11 v12 v13 v14 : Value} {X : World} {t : Tk} {V V2 : Value} {k : Int} {r : Bool} {b0 b1 b2 b3 b4 b5 b6 b7 b8 : Bool} {tm : Array Value} {d : Nat} {w : World}
    (ht : tm = gTmps2 s most n0 c pl v11 v12 v13 v14 (fun i => tm.getD i undef))
    (h0 : b0 = true → tm.getD 52 undef = tokAgg t) (h1 : b1 = true → tm.getD 53 undef = .slice (some ⟨X.heap.size, 0, none⟩) 1 1) (h2 : b2 = true → tm.getD 54 undef = V) (h3 : b3 = true → tm.getD 55 undef = .int .i64 k) (h4 : b4 = true → tm.getD 56 undef = .int .i64 k)
    (h5 : b5 = true → tm.getD 57 undef = .int .i64 (k + 1)) (h6 : b6 = true → tm.getD 58 undef = V2) (h7 : b7 = true → tm.getD 59 undef = .bool r) (h8 : b8 = true → tm.getD 15 undef = .bool r)
    (hw : w = (if b1 = true then X.alloc (.cells (tkCells t).toArray 38) else X).drewN d) :
    GV s most n0 c pl v11 v12 v13 v14 X t V V2 k r #[b0, b1, b2, b3, b4, b5, b6, b7, b8] { tmps := tm, defers := [] } w :=
  ⟨b0, b1, b2, b3, b4, b5, b6, b7, b8, _, d, rfl, by rw [← ht], h0, h1, h2, h3, h4, h5, h6, h7, h8, hw⟩
/-- the world within: what was there is there -/
theorem GV_cell {X : World} {o : Obj} {b : Bool} {d : Nat} {p : Addr} {v : Value} (h : X.cell? p = some v) : ((if b = true then X.alloc o else X).drewN d).cell? p = some v := by
  rw [World.cell?_drewN]
  cases b
  · exact h
  · exact cell_over o h
theorem GV_size {X : World} {o : Obj} {d : Nat} : ((if (false : Bool) = true then X.alloc o else X).drewN d).heap.size = X.heap.size := by simp

set_option maxRecDepth 100000 in
set_option maxHeartbeats 4000000 in
theorem goes_region {s : ByteArray} {most : Int} {n0 c : Nat} {pl : Int} {v11 v14 : Value} {u2 : Nat → Value} {X : World} {kd : Int} {tx : ByteArray} {nm pa : Int} {k L c2 : Nat} {ad : Addr} {l : List Tk} {r : Bool} {bk Bx l2 n : Nat} {Q : Exit → Act → World → Prop} {id : Nat}
    (hn : 1 ≤ n) (hT : TkBox X Bx ⟨kd, tx, nm, pa⟩) (cW : X.cell? ⟨c, 0, none⟩ = some (.slice (some ad) L c2)) (cK : X.cell? ⟨bk, 0, none⟩ = some (.int .i64 k)) (hC : kTk.C X (some ad) L l) (hL : l.length = L) (hk : k < L) (hlc : L ≤ c2) (hmax : L ≤ 65537) (hget : decide ((⟨kd, tx, nm, pa⟩ : Tk) = l.getD k tkz) = r)
    (hQ : ∀ u d, u 15 = .bool r → Q .normal { tmps := gTmps2 s most n0 c pl v11 (.pointer (some ⟨bk, 0, none⟩)) (.pointer (some ⟨Bx, 0, none⟩)) v14 u, defers := [] } ((X.alloc (.cells (tkCells ⟨kd, tx, nm, pa⟩).toArray 38)).drewN d)) :
    (Code.region id goesOps true).wpIn (Fence.wide.inRound l2) n Tryd.prog Q { tmps := gTmps2 s most n0 c pl v11 (.pointer (some ⟨bk, 0, none⟩)) (.pointer (some ⟨Bx, 0, none⟩)) v14 u2, defers := [] } X := by
  have hmx : Tryd.prog.follows .mixedOrders = true := by kernel_rfl
  refine wpIn_region_inv (GV s most n0 c pl v11 (.pointer (some ⟨bk, 0, none⟩)) (.pointer (some ⟨Bx, 0, none⟩)) v14 X ⟨kd, tx, nm, pa⟩ (.slice (some ad) L c2) (.slice (some (ad.add (k * 4))) 1 (c2 - k)) k r) hmx ?g0 ?gs ?ge
  case g0 => exact ⟨false, false, false, false, false, false, false, false, false, u2, 1, rfl, rfl, nofun, nofun, nofun, nofun, nofun, nofun, nofun, nofun, nofun, rfl⟩
  case ge =>
    rintro listed a w hr ⟨b0, b1, b2, b3, b4, b5, b6, b7, b8, u, d, rfl, rfl, -, -, -, -, -, -, -, -, h8, rfl⟩
    obtain ⟨h1, h8'⟩ := goes_over _ _ _ _ _ _ _ _ _ hr
    subst h1
    exact hQ u d (h8 h8')
  case gs =>
    rintro listed a w i hi ⟨b0, b1, b2, b3, b4, b5, b6, b7, b8, u, d, rfl, rfl, h0, h1, h2, h3, h4, h5, h6, h7, h8, rfl⟩
    have hd := goes_ready _ _ _ _ _ _ _ _ _ i hi
    clear hQ hi
    have k0 : X.cell? ⟨Bx, 0, none⟩ = some (.int .i64 kd) := kept_cell hT 0
    have k1 : X.cell? ⟨Bx, 1, none⟩ = some (.string tx) := kept_cell hT 1
    have k2 : X.cell? ⟨Bx, 2, none⟩ = some (.int .u64 nm) := kept_cell hT 2
    have k3 : X.cell? ⟨Bx, 3, none⟩ = some (.int .i64 pa) := kept_cell hT 3
    have cc : ∀ (p : Addr) (v : Value), X.cell? p = some v → ((if b1 = true then X.alloc (.cells (tkCells ⟨kd, tx, nm, pa⟩).toArray 38) else X).drewN d).cell? p = some v := fun p v h => GV_cell h
    match i, hd with
    | 0, hd =>
      simp [goesDeps] at hd
      have hb0 := hd
      have q0 := cc _ _ k0
      have q1 := cc _ _ k1
      have q2 := cc _ _ k2
      have q3 := cc _ _ k3
      clear cc
      obtain ⟨W, hW⟩ : ∃ W, W = (if b1 = true then X.alloc (.cells (tkCells ⟨kd, tx, nm, pa⟩).toArray 38) else X).drewN d := ⟨_, rfl⟩
      rw [← hW] at q0 q1 q2 q3 ⊢
      have HW := Lib.hid hW; clear hW
      refine opIn_list (o := ⟨some 52, Op.load 38 (Operand.tmp 13), 38, "law.go:82", #[], none⟩) rfl ?_
      dsimp only [gTmps2]
      gi_wp2
      exact GV_of rfl (fun _ => rfl) h1 h2 h3 h4 h5 h6 h7 h8 HW.out
    | 1, hd =>
      simp [goesDeps] at hd
      obtain ⟨hb1, hb0⟩ := hd
      have e0 := h0 hb0
      refine opIn_list (o := ⟨some 53, Op.buildSlice 29 1 #[(0, Operand.tmp 52)], 29, "law.go:82", #[{ on := 0, ground := Ground.data }], none⟩) rfl ?_
      subst hb1
      simp only [Bool.false_eq_true, if_false]
      have E0 := Lib.hid e0; clear e0
      dsimp only [gTmps2]
      rw [E0.out]
      unfold tokAgg
      gi_wp2
      rw [alloc_drewN']
      exact GV_of rfl (fun _ => rfl) (fun _ => rfl) h2 h3 h4 h5 h6 h7 h8 rfl
    | 2, hd =>
      simp [goesDeps] at hd
      have hb2 := hd
      have q0 := cc _ _ cW
      clear cc
      obtain ⟨W, hW⟩ : ∃ W, W = (if b1 = true then X.alloc (.cells (tkCells ⟨kd, tx, nm, pa⟩).toArray 38) else X).drewN d := ⟨_, rfl⟩
      rw [← hW] at q0 ⊢
      have HW := Lib.hid hW; clear hW
      refine opIn_list (o := ⟨some 54, Op.load 29 (Operand.tmp 6), 29, "law.go:82", #[], none⟩) rfl ?_
      dsimp only [gTmps2]
      gi_wp2
      exact GV_of rfl h0 h1 (fun _ => rfl) h3 h4 h5 h6 h7 h8 HW.out
    | 3, hd =>
      simp [goesDeps] at hd
      have hb3 := hd
      have q0 := cc _ _ cK
      clear cc
      obtain ⟨W, hW⟩ : ∃ W, W = (if b1 = true then X.alloc (.cells (tkCells ⟨kd, tx, nm, pa⟩).toArray 38) else X).drewN d := ⟨_, rfl⟩
      rw [← hW] at q0 ⊢
      have HW := Lib.hid hW; clear hW
      refine opIn_list (o := ⟨some 55, Op.load 3 (Operand.tmp 12), 3, "law.go:82", #[], none⟩) rfl ?_
      dsimp only [gTmps2]
      gi_wp2
      exact GV_of rfl h0 h1 h2 (fun _ => rfl) h4 h5 h6 h7 h8 HW.out
    | 4, hd =>
      simp [goesDeps] at hd
      have hb4 := hd
      have q0 := cc _ _ cK
      clear cc
      obtain ⟨W, hW⟩ : ∃ W, W = (if b1 = true then X.alloc (.cells (tkCells ⟨kd, tx, nm, pa⟩).toArray 38) else X).drewN d := ⟨_, rfl⟩
      rw [← hW] at q0 ⊢
      have HW := Lib.hid hW; clear hW
      refine opIn_list (o := ⟨some 56, Op.load 3 (Operand.tmp 12), 3, "law.go:82", #[], none⟩) rfl ?_
      dsimp only [gTmps2]
      gi_wp2
      exact GV_of rfl h0 h1 h2 h3 (fun _ => rfl) h5 h6 h7 h8 HW.out
    | 5, hd =>
      simp [goesDeps] at hd
      obtain ⟨hb5, hb4⟩ := hd
      have e4 := h4 hb4
      obtain ⟨W, hW⟩ : ∃ W, W = (if b1 = true then X.alloc (.cells (tkCells ⟨kd, tx, nm, pa⟩).toArray 38) else X).drewN d := ⟨_, rfl⟩
      clear cc
      rw [← hW] at ⊢
      have HW := Lib.hid hW; clear hW
      refine opIn_list (o := ⟨some 57, Op.binOp BinOp.add 3 (Operand.tmp 56) (Operand.const (Value.int IntKind.i64 1)) 3, 3, "law.go:82", #[{ on := 4, ground := Ground.data }], none⟩) rfl ?_
      have hwk : wrap64 ((k : Int) + 1) = (k : Int) + 1 := wrap_small' (by omega)
      have E4 := Lib.hid e4; clear e4
      dsimp only [gTmps2]
      rw [E4.out]
      gi_wp2
      exact GV_of rfl h0 h1 h2 h3 (fun _ => rfl) (fun _ => rfl) h6 h7 h8 HW.out
    | 6, hd =>
      simp [goesDeps] at hd
      obtain ⟨⟨⟨hb6, hb2⟩, hb3⟩, hb5⟩ := hd
      have e2 := h2 hb2
      have e3 := h3 hb3
      have e5 := h5 hb5
      obtain ⟨W, hW⟩ : ∃ W, W = (if b1 = true then X.alloc (.cells (tkCells ⟨kd, tx, nm, pa⟩).toArray 38) else X).drewN d := ⟨_, rfl⟩
      clear cc
      rw [← hW] at ⊢
      have HW := Lib.hid hW; clear hW
      refine opIn_list (o := ⟨some 58, Op.slice 29 (Operand.tmp 54) (some (Operand.tmp 55)) (some (Operand.tmp 57)) none, 29, "law.go:82", #[{ on := 2, ground := Ground.data }, { on := 3, ground := Ground.data }, { on := 5, ground := Ground.data }], none⟩) rfl ?_
      have E2 := Lib.hid e2; clear e2
      have E3 := Lib.hid e3; clear e3
      have E5 := Lib.hid e5; clear e5
      dsimp only [gTmps2]
      rw [E2.out, E3.out, E5.out]
      gi_wp2
      exact GV_of rfl h0 h1 (fun _ => rfl) (fun _ => rfl) h4 (fun _ => rfl) (fun _ => rfl) h7 h8 HW.out
    | 7, hd =>
      simp [goesDeps] at hd
      obtain ⟨⟨hb7, hb1⟩, hb6⟩ := hd
      have e1 := h1 hb1
      have e6 := h6 hb6
      refine opIn_list (o := ⟨some 59, Op.call { callee := Callee.value (Operand.func 16), args := #[Operand.tmp 53, Operand.tmp 58], argTypes := #[29, 29] }, 4, "law.go:82", #[{ on := 1, ground := Ground.data }, { on := 6, ground := Ground.data }], none⟩) rfl ?_
      subst hb1
      have E1 := Lib.hid e1; clear e1
      have E6 := Lib.hid e6; clear e6
      simp only [if_true]
      have hC1 := tk_slice hC (k := k) hk
      have hC2 := Kd.C_drewN (Kd.C_below hC1 ((Below.refl _ X).alloc (Nat.le_refl _) (.cells (tkCells ⟨kd, tx, nm, pa⟩).toArray 38))) d
      have hS := same_any (some ⟨X.heap.size, 0, none⟩) 1 [⟨kd, tx, nm, pa⟩] (some (ad.add (k * 4))) (c2 - k) [l.getD k tkz] ((X.alloc (.cells (tkCells ⟨kd, tx, nm, pa⟩).toArray 38)).drewN d) (Kd.C_drewN (tk_one (new_blk X _ _)) d) hC2
      rw [show decide ([(⟨kd, tx, nm, pa⟩ : Tk)] = [l.getD k tkz]) = r by rw [← hget]; simp] at hS
      have HS := Lib.hid hS; clear hS hC1 hC2 cc
      obtain ⟨W, hW⟩ : ∃ W, W = (X.alloc (.cells (tkCells ⟨kd, tx, nm, pa⟩).toArray 38)).drewN d := ⟨_, rfl⟩
      rw [← hW] at HS ⊢
      have HW := Lib.hid hW; clear hW
      dsimp only [gTmps2]
      rw [E1.out, E6.out]
      gi_wp2_with (refine ⟨trivial, ?_⟩; gi_at_call 16; refine (CallsIn.inRound l2 (callsIn_wide.2 HS.out)).mono ?_; rintro e w' ⟨rfl, ⟨dd, rfl⟩⟩)
      exact GV_of (d := d + dd) rfl h0 (fun _ => rfl) h2 h3 h4 h5 (fun _ => rfl) (fun _ => rfl) h8 (by rw [HW.out, World.drewN_drewN]; rfl)
    | 8, hd =>
      simp [goesDeps] at hd
      obtain ⟨hb8, hb7⟩ := hd
      have e7 := h7 hb7
      obtain ⟨W, hW⟩ : ∃ W, W = (if b1 = true then X.alloc (.cells (tkCells ⟨kd, tx, nm, pa⟩).toArray 38) else X).drewN d := ⟨_, rfl⟩
      clear cc
      rw [← hW] at ⊢
      have HW := Lib.hid hW; clear hW
      refine opIn_list (o := ⟨some 15, Op.assign (Operand.tmp 59), 4, "law.go:82", #[{ on := 7, ground := Ground.data }, { on := 7, ground := Ground.chain }, { on := 0, ground := Ground.phase }, { on := 1, ground := Ground.phase }, { on := 2, ground := Ground.phase }, { on := 3, ground := Ground.phase }, { on := 4, ground := Ground.phase }, { on := 5, ground := Ground.phase }, { on := 6, ground := Ground.phase }, { on := 7, ground := Ground.phase }], none⟩) rfl ?_
      have E7 := Lib.hid e7; clear e7
      dsimp only [gTmps2]
      rw [E7.out]
      gi_wp2
      exact GV_of rfl h0 h1 h2 h3 h4 h5 h6 (fun _ => rfl) (fun _ => rfl) HW.out

theorem goes_region' {s : ByteArray} {most : Int} {n0 c : Nat} {pl : Int} {v11 v14 : Value} {tm : Array Value} {X : World} {kd : Int} {tx : ByteArray} {nm pa : Int} {k L c2 : Nat} {ad : Addr} {l : List Tk} {r : Bool} {bk Bx l2 n : Nat} {Q : Exit → Act → World → Prop} {id : Nat}
    (ht : tm = gTmps2 s most n0 c pl v11 (.pointer (some ⟨bk, 0, none⟩)) (.pointer (some ⟨Bx, 0, none⟩)) v14 (fun i => tm.getD i undef))
    (hn : 1 ≤ n) (hT : TkBox X Bx ⟨kd, tx, nm, pa⟩) (cW : X.cell? ⟨c, 0, none⟩ = some (.slice (some ad) L c2)) (cK : X.cell? ⟨bk, 0, none⟩ = some (.int .i64 k)) (hC : kTk.C X (some ad) L l) (hL : l.length = L) (hk : k < L) (hlc : L ≤ c2) (hmax : L ≤ 65537) (hget : decide ((⟨kd, tx, nm, pa⟩ : Tk) = l.getD k tkz) = r)
    (hQ : ∀ u d, u 15 = .bool r → Q .normal { tmps := gTmps2 s most n0 c pl v11 (.pointer (some ⟨bk, 0, none⟩)) (.pointer (some ⟨Bx, 0, none⟩)) v14 u, defers := [] } ((X.alloc (.cells (tkCells ⟨kd, tx, nm, pa⟩).toArray 38)).drewN d)) :
    (Code.region id goesOps true).wpIn (Fence.wide.inRound l2) n Tryd.prog Q { tmps := tm, defers := [] } X := by
  rw [ht]
  exact goes_region hn hT cW cK hC hL hk hlc hmax hget hQ
end Go.Proofs.YtlmopoipjolbgaaDoor.LexW
