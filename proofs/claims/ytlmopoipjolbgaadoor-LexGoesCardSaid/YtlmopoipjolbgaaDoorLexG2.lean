/-
  LexGoes: the walk.
-/
import Derived.Test.YtlmopoipjolbgaaDoorLexG1
import Derived.LoopNIn
import Derived.Test.YtlmopoipjolbgaaDoorLexG3
import Derived.Sort.CutIn
namespace Go.Proofs.YtlmopoipjolbgaaDoor.LexW
open Go.RowKit Go.Shelf Go.Proofs.YtlmopoipjolbgaaDoor.LexS Go.Proofs.YtlmopoipjolbgaaDoorW.PrintWords
set_option linter.unusedVariables false
set_option linter.unusedSimpArgs false
attribute [local go_sem] Oper.semAt_some
theorem run_store_func (P : Program) (w : World) (a : Addr) (f : Fn) (x y : Array Value) (m : Mode) : (store a (.func f x y) m).run P w = stored P w a (.func f x y) m := run_store P w a _ m rfl
attribute [local go_sem] run_store_func
theorem run_equalIn_func {P : Program} {w : World} {t : TypeId} {ps rs : Array TypeId} {v : Bool} (d : Nat) (f : Fn) (x y : Array Value) (h : P.underlying t = some (.func ps rs v)) : (Op.equalIn (d + 1) t (.func f x y) .nilFunc).run P w = .ok false w := by
  simp [Op.equalIn, run_underlying h]
theorem run_equal_func {P : Program} {w : World} {t : TypeId} {ps rs : Array TypeId} {v : Bool} (f : Fn) (x y : Array Value) (h : P.underlying t = some (.func ps rs v)) : (Op.equal t (.func f x y) .nilFunc).run P w = .ok false w := run_equalIn_func 9999 f x y h
theorem run_eql_func {P : Program} {w : World} {t : TypeId} {ps rs : Array TypeId} {v : Bool} (f : Fn) (x y : Array Value) (h : P.underlying t = some (.func ps rs v)) : (binOp .eql t (.func f x y) .nilFunc).run P w = .ok (.bool false) w := by
  simp only [binOp]
  simp [run_equal_func f x y h]
theorem seq_nonnil (w : World) (f : Fn) (x y : Array Value) : (binOp .eql 34 (.func f x y) .nilFunc).run Tryd.prog w = .ok (.bool false) w := run_eql_func f x y Tryd.underlying34

/-- a loop of two rounds, and its end -/
theorem wpIn_loop_two {F : Fence} {n : Nat} {P : Program} {Q : Exit → Act → World → Prop} {a : Act} {w : World} {c : Code} (R : Int → Act → World → Prop)
    (h0 : R 0 a w) (h : ∀ m a w, m = 0 ∨ m = 1 → R m a w → c.wpIn F n P (Exit.then (R (m + 1)) Q) a w) (h3 : ∀ a w, R 2 a w → c.wpIn F n P (Exit.then (fun _ _ => False) Q) a w) : (Code.loop c).wpIn F n P Q a w := by
  have mono : ∀ {K K' : Act → World → Prop} {a w}, (∀ a w, K a w → K' a w) → c.wpIn F n P (Exit.then K Q) a w → c.wpIn F n P (Exit.then K' Q) a w := by
    intro K K' a w hk h
    refine wpIn_mono h (fun e a w hq => ?_)
    cases e with
    | normal => exact hk _ _ hq
    | exit id => exact hq
    | goto l => exact hq
    | ret => exact hq
    | panic ch => exact hq
    | outgrown => exact hq
  refine wpIn_loop_rounds 3 ?_
  show c.wpIn F n P (Exit.then (Code.roundsIn F n P c Q 2) Q) a w
  refine mono (fun a w hr => ?_) (h 0 a w (.inl rfl) h0)
  show c.wpIn F n P (Exit.then (Code.roundsIn F n P c Q 1) Q) a w
  refine mono (fun a w hr => ?_) (h 1 a w (.inr rfl) hr)
  show c.wpIn F n P (Exit.then (Code.roundsIn F n P c Q 0) Q) a w
  exact h3 a w hr

/-- what lies behind the prelude: c is the place where want was boxed -/
structure GS (w2 : World) (s : ByteArray) (V : Value) (er N : Int) (W : World) : Prop where
  bW : Boxed W w2.heap.size 29 V
  bE : Boxed W (w2.heap.size + 1) 30 (.int .i64 er)
  bN : Boxed W (w2.heap.size + 2) 3 (.int .i64 N)
  bel : Below w2.heap.size w2 W
structure GT (w2 : World) (s : ByteArray) (V : Value) (er N : Int) (W : World) : Prop extends GS w2 s V er N W where
  bT : Boxed W (w2.heap.size + 3) 9 (.string s)
  bS : Boxed W (w2.heap.size + 4) 34 (.func (.func 35) #[] #[.pointer (some ⟨w2.heap.size + 3, 0, none⟩)])
/-- the turn's box, too -/
structure GB (w2 : World) (s : ByteArray) (V : Value) (er N : Int) (bt : Nat) (m : Int) (W : World) : Prop extends GT w2 s V er N W where
  hbt : w2.heap.size + 5 ≤ bt
  bt : Boxed W bt 3 (.int .i64 m)
theorem GT.chg {w2 W W' : World} {s : ByteArray} {V : Value} {er N : Int} {S : Nat → Prop} (h : GT w2 s V er N W) (k : Chg S W W') (hS : ∀ b, S b → w2.heap.size + 5 ≤ b) : GT w2 s V er N W' where
  bW := k.boxed h.bW (fun e => by have := hS _ e; omega)
  bE := k.boxed h.bE (fun e => by have := hS _ e; omega)
  bN := k.boxed h.bN (fun e => by have := hS _ e; omega)
  bT := k.boxed h.bT (fun e => by have := hS _ e; omega)
  bS := k.boxed h.bS (fun e => by have := hS _ e; omega)
  bel := h.bel.trans (k.below h.bel.size (fun b e => by have := hS _ e; omega))

/-- the frame in the turn loop: what the loop writes is u's -/
abbrev gTmps (s : ByteArray) (most : Int) (n0 c : Nat) (pl : Int) (v11 : Value) (u : Nat → Value) : Array Value :=
  #[.string s, .int .i64 most, undef, .pointer (some ⟨n0, 0, none⟩), .pointer (some ⟨n0 + 1, 0, none⟩), .bool true, .pointer (some ⟨c, 0, none⟩), .pointer (some ⟨c + 1, 0, none⟩), .int .i64 pl, .pointer (some ⟨c + 2, 0, none⟩), .pointer (some ⟨c + 4, 0, none⟩), v11, u 12, u 13, u 14, u 15, u 16, u 17, u 18, u 19, u 20, u 21, u 22, u 23, u 24, u 25, u 26, u 27, u 28, u 29, u 30, u 31, u 32, u 33, u 34, u 35, u 36, u 37, u 38, u 39, u 40, u 41, u 42, u 43, u 44, u 45, u 46, u 47, u 48, u 49, u 50, u 51, u 52, u 53, u 54, u 55, u 56, u 57, u 58, u 59, u 60, u 61, u 62, u 63, u 64, u 65, u 66, u 67, u 68, u 69, u 70, u 71, u 72, u 73, u 74, u 75, u 76, u 77, u 78, u 79, u 80, u 81, u 82, u 83, u 84, u 85, u 86, u 87, u 88, u 89, u 90, u 91, u 92, u 93, u 94, u 95, u 96, u 97, u 98, u 99, u 100, u 101, u 102, u 103, u 104, u 105, u 106, u 107, u 108, u 109, u 110, u 111, u 112, u 113, u 114, u 115, u 116, u 117, u 118, u 119, u 120, u 121, u 122, u 123, u 124]
/-- between two rounds -/
def GI (s : ByteArray) (bk : Nat) (Ws : World) (pre : List (Tk × Int)) (W : World) : Prop := (pre <+: gen s 0 ∧ Boxed W bk 3 (.int .i64 pre.length)) ∧ Chg (fun k => k = bk) Ws W
theorem GI.own (s : ByteArray) (bk : Nat) (Ws : World) {B : Nat} (hB : Ws.heap.size ≤ B) : OwnFrom B (GI s bk Ws) :=
  OwnFrom.and (OwnFrom.and (ownFrom_pure _ _) (Own.from (boxed_own _ _ (fun pre : List (Tk × Int) => Value.int .i64 pre.length)) _)) (Chg.own _ _ hB)
/-- where a round has left: a break, or a token that is none -/
def GX (s : ByteArray) (bk : Nat) (m most : Int) (Ws : World) (c : Code) (xs : List (Tk × Int)) (W : World) : Prop := (c = .exit 2 ∧ m = 0 ∧ (xs.length : Int) = most ∧ GI s bk Ws xs W) ∨ (c = .ret ∧ ¬ xs <+: gen s 0)
theorem GX.own (s : ByteArray) (bk : Nat) (m most : Int) (Ws : World) {B : Nat} (hB : Ws.heap.size ≤ B) (c : Code) : OwnFrom B (GX s bk m most Ws c) := fun xs X Y row h hg hr =>
  h.imp (fun ⟨h1, h2, h3, h4⟩ => ⟨h1, h2, h3, GI.own s bk Ws hB xs X Y row h4 hg hr⟩) id
def GA (s : ByteArray) (most : Int) (n0 c : Nat) (pl : Int) (bt bk B : Nat) (x : Tk × Int) (a' : Act) (W : World) : Prop :=
  ∃ Bx u, B ≤ Bx ∧ TkBox W Bx x.1 ∧ a' = { tmps := gTmps2 s most n0 c pl (.pointer (some ⟨bt, 0, none⟩)) (.pointer (some ⟨bk, 0, none⟩)) (.pointer (some ⟨Bx, 0, none⟩)) (.int .i64 x.2) u, defers := [] }
theorem GA.own (s : ByteArray) (most : Int) (n0 c : Nat) (pl : Int) (bt bk B : Nat) (x : Tk × Int) (a' : Act) : OwnFrom B (fun (_ : Unit) W => GA s most n0 c pl bt bk B x a' W) := fun _ X Y row h hg hr => by
  obtain ⟨Bx, u, h1, h2, h3⟩ := h
  refine ⟨Bx, u, h1, h2.kept hg (fun e => ?_), h3⟩
  obtain ⟨_, o, ho, hc⟩ := hr Bx e.symm
  rw [show X.heap[Bx]? = _ from h2] at ho; cases ho; cases hc
theorem GA_of {s : ByteArray} {most : Int} {n0 c : Nat} {pl : Int} {bt bk B Bx : Nat} {x : Tk × Int} {tm : Array Value} {W : World} (h1 : B ≤ Bx) (h2 : TkBox W Bx x.1) (ht : tm = gTmps2 s most n0 c pl (.pointer (some ⟨bt, 0, none⟩)) (.pointer (some ⟨bk, 0, none⟩)) (.pointer (some ⟨Bx, 0, none⟩)) (.int .i64 x.2) (fun i => tm.getD i undef)) :
    GA s most n0 c pl bt bk B x { tmps := tm, defers := [] } W := ⟨Bx, _, h1, h2, by rw [← ht]⟩

/-- the marks of the loops that are over -/
def Marks (c : Nat) (W : World) : List Deferred → Prop
  | [] => True
  | d :: ds => (∃ D, d = { target := .collected D, args := #[] } ∧ c + 5 ≤ D ∧ W.heap[D]? = some (.deferred (some [])) ∧ ∀ e ∈ ds, e ≠ d) ∧ Marks c W ds
theorem Marks.ge {c : Nat} {W : World} : ∀ {ds : List Deferred}, Marks c W ds → ∀ e ∈ ds, ∃ D, e = { target := .collected D, args := #[] } ∧ c + 5 ≤ D ∧ W.heap[D]? = some (.deferred (some []))
  | [], _, e, he => by cases he
  | d :: ds, ⟨⟨D, hd, hD, hb, hn⟩, hr⟩, e, he => by
    rcases List.mem_cons.1 he with rfl | he
    · exact ⟨D, hd, hD, hb⟩
    · exact Marks.ge hr e he
theorem Marks.chg {c : Nat} {W W' : World} {S : Nat → Prop} (k : Chg S W W') : ∀ {ds : List Deferred}, Marks c W ds → (∀ D, S D → ∀ e ∈ ds, e ≠ { target := .collected D, args := #[] }) → Marks c W' ds
  | [], _, _ => trivial
  | d :: ds, ⟨⟨D, hd, hD, hb, hn⟩, hr⟩, hS => ⟨⟨D, hd, hD, (k.block D (Array.getElem?_eq_some_iff.1 hb).1 (fun e => hS D e d List.mem_cons_self hd)).trans hb, hn⟩, Marks.chg k hr (fun D' h' e he => hS D' h' e (List.mem_cons_of_mem _ he))⟩
/-- the marks are taken up, one after another -/
theorem leaves_marks {F : Fence} {n : Nat} {P : Program} {fn : Func} {tmps : Array Value} {R : Ending → World → Prop} {c : Nat} : ∀ {ds : List Deferred} {W : World}, Marks c W ds →
    (∀ W', Chg (fun k => c + 5 ≤ k) W W' → LeavesIn F n P fn tmps R [] .returning W') → LeavesInM F n P fn tmps R ds .returning W
  | [], W, _, h => h W (Chg.refl _ _)
  | d :: ds, W, ⟨⟨D, hd, hD, hb, hn⟩, hr⟩, h => by
    have k : Chg (fun k => k = D) W (W.putObj D (.deferred none)) := ⟨rfl, rfl, rfl, by simp, fun i _ hi => World.putObj_heap_other hi⟩
    refine ⟨by simp, .inl ⟨D, _, by rw [hd], run_takeDeferred hb, ?_⟩⟩
    refine leaves_marks (hr.chg k (fun D' e x hx => by subst e; rw [← hd]; exact hn x hx)) (fun W' k' => h W' ?_)
    exact ⟨k'.os.trans k.os, k'.tape.trans k.tape, k'.output.trans k.output, Nat.le_trans k.size k'.size, fun i hi hn' => (k'.block i (Nat.lt_of_lt_of_le hi k.size) hn').trans (k.block i hi (fun e => hn' (by rw [e]; exact hD)))⟩
/-- between two turns -/
def GR (w w2 : World) (s : ByteArray) (V : Value) (er N pl most : Int) (m : Int) (a : Act) (W : World) : Prop :=
  ∃ bt u, a.tmps = gTmps s most w.heap.size w2.heap.size pl (.pointer (some ⟨bt, 0, none⟩)) u ∧ GB w2 s V er N bt m W ∧ Marks w2.heap.size W a.defers

theorem GR_of {w w2 : World} {s : ByteArray} {V : Value} {er N pl most m : Int} {tm : Array Value} {ds : List Deferred} {W : World} {bt : Nat} (ht : tm = gTmps s most w.heap.size w2.heap.size pl (.pointer (some ⟨bt, 0, none⟩)) (fun i => tm.getD i undef)) (hB : GB w2 s V er N bt m W) (hM : Marks w2.heap.size W ds) : GR w w2 s V er N pl most m { tmps := tm, defers := ds } W := ⟨bt, _, ht, hB, hM⟩

theorem Chg.wider {S S' : Nat → Prop} {W W' : World} (h : Chg S W W') (hS : ∀ k, S k → S' k) : Chg S' W W' := ⟨h.os, h.tape, h.output, h.size, fun k hk hn => h.block k hk (fun e => hn (hS k e))⟩
theorem Chg.drewN {S : Nat → Prop} {W W' : World} (h : Chg S W W') (d : Nat) : Chg S W (W'.drewN d) := by
  induction d with
  | zero => exact h
  | succ d ih =>
    rw [← World.drew_drewN]
    exact ⟨ih.os, ih.tape, ih.output, ih.size, ih.block⟩
theorem ret_false {s : ByteArray} {bk : Nat} {m most : Int} {Ws X X2 : World} {n1 B : Nat} {xs : List (Tk × Int)} (hch : Chg (fun _ => False) X X2) (hn : ¬ xs <+: gen s 0) (hlt : n1 < B) :
    KeepsFrom B X (X2.setCell ⟨n1, 0, none⟩ (.bool false)) ∧ GX s bk m most Ws .ret xs (X2.setCell ⟨n1, 0, none⟩ (.bool false)) :=
  ⟨((hch.wider (fun _ h => h.elim)).trans (S := fun k => k = n1) (Chg.of_set X2 n1 (.bool false)) (fun k hk => .inl hk)).keeps (fun k hk => by omega), .inr ⟨rfl, hn⟩⟩

theorem inner_of {s : ByteArray} {most : Int} {n0 c : Nat} {pl : Int} {v11 v12 v13 v14 vi : Value} {tm : Array Value} (ht : tm = gTmps2 s most n0 c pl v11 v12 v13 v14 (fun i => tm.getD i undef)) (h : tm.getD 16 undef = vi) :
    ∃ u : Nat → Value, ({ tmps := tm, defers := [] } : Act) = { tmps := gTmps2 s most n0 c pl v11 v12 v13 v14 u, defers := [] } ∧ u 16 = vi := ⟨_, by rw [← ht], h⟩

theorem round_end {s : ByteArray} {bk c B : Nat} {Ws X Z : World} {pre : List (Tk × Int)} {x : Tk × Int} {N v : Int} (hch : Chg (fun k => k = bk) Ws X) (hZ : Chg (fun _ => False) X Z) (hb : Boxed X bk 3 (.int .i64 pre.length)) (hg : pre ++ [x] <+: gen s 0) (hv : v = (pre.length : Int) + 1)
    (hbk : c + 5 < bk) (hlt : bk < Ws.heap.size) (hN : Boxed X (c + 2) 3 (.int .i64 N)) (hWB : Ws.heap.size = B) :
    KeepsFrom B X (Z.setCell ⟨bk, 0, none⟩ (.int .i64 v)) ∧ Kpg c (c + 3) B (c + 2) X (Z.setCell ⟨bk, 0, none⟩ (.int .i64 v)) ∧ GI s bk Ws (pre ++ [x]) (Z.setCell ⟨bk, 0, none⟩ (.int .i64 v)) := by
  subst hWB
  have hs := hch.size
  have k1 : Chg (fun k => k = bk) X (Z.setCell ⟨bk, 0, none⟩ (.int .i64 v)) := (hZ.wider (fun _ h => h.elim)).trans (Chg.of_set Z bk _) (fun k e => .inl e)
  refine ⟨k1.keeps (fun k e => by omega), k1.kpg (t := 3) (i := N) (kd := .i64) (by omega) (fun k e => by omega) (by omega) (by omega) hN (by omega), ⟨hg, ?_⟩, hch.trans k1 (fun k e => .inl e)⟩
  rw [List.length_append, hv]
  exact Boxed.set _ (hZ.boxed hb (fun h => h))

set_option maxRecDepth 100000 in
set_option maxHeartbeats 8000000 in
theorem goes_any (s : ByteArray) (most : Int) (w : World) (hE : Env w) :
    Calls Tryd.prog 4 #[.string s, .int .i64 most] w fun e w' => e = .returned (.bool true) ∧ Below w.heap.size w w' := by
  refine (callsIn_wide (n := 8)).1 ?_
  have HE := Lib.hid hE; clear hE
  have HT := Lib.hid (fun W => show Calls Tryd.prog 14 #[.string s] W _ from rtokens_any s W)
  have hcount := gen_count s
  obtain ⟨l, hl⟩ : ∃ l, (toks s).1 = l := ⟨_, rfl⟩
  obtain ⟨er, her⟩ : ∃ er, (toks s).2.1 = er := ⟨_, rfl⟩
  obtain ⟨pl, hpl⟩ : ∃ pl, (toks s).2.2 = pl := ⟨_, rfl⟩
  obtain ⟨N, hN⟩ : ∃ N, (gen s 0).length = N := ⟨_, rfl⟩
  rw [hN, hl, her] at hcount
  have hlen : l.length ≤ 65537 := by rw [← hl]; exact toks_len s
  have HL := Lib.hid hl; have HER := Lib.hid her; have HPL := Lib.hid hpl; have HN := Lib.hid hN
  clear hl her hpl hN
  have HCNT := Lib.hid hcount
  clear hcount
  refine callsIn_of_wp_marks Tryd.func4 rfl trivial ?_ rfl
  simp only [Tryd.ntmps4, List.size_toArray, List.length_cons, List.length_nil, Nat.reduceAdd, Nat.reduceSub, Array.replicate_succ, Array.replicate_zero, List.push_toArray, List.append_toArray, List.nil_append, List.cons_append]
  gi_upto_if 27 with (first | (refine ⟨trivial, ?_⟩; gi_at_call 9; refine (callsIn_wide.2 (lives_any _ (HE.out.below (((Below.refl _ w).alloc (Nat.le_refl _) _).alloc (by simp) _)))).mono ?_; rintro e w1 ⟨rfl, hb1⟩; have HBA := Lib.hid ((((Below.refl _ w).alloc (Nat.le_refl _) (.cells #[.int .i64 most] 3)).alloc (by simp) (.cells #[.bool false] 4)).trans (hb1.mono (by simp; omega))); have HB1 := Lib.hid hb1; clear hb1) | (refine ⟨trivial, ?_⟩; gi_at_call 14; refine (callsIn_wide.2 (HT.out _)).mono ?_; rintro e w2 ⟨⟨v, rfl, hO⟩, hb2⟩; rw [HL.out] at hO; obtain ⟨A2, c2, rfl, hlc, hC⟩ := Kd.R_reads hO; have HB2 := Lib.hid hb2; have HC := Lib.hid hC; rw [HER.out, HPL.out]; clear hO hC hb2))
  have hW0 : GS w2 s (.slice A2 l.length c2) er l.length (((w2.alloc (.cells #[.slice A2 l.length c2] 29)).alloc (.cells #[.int .i64 er] 30)).alloc (.cells #[.int .i64 l.length] 3)) :=
    ⟨((boxed_new rfl _ _).alloc _).alloc _, (boxed_new (by simp) _ _).alloc _, boxed_new (by simp) _ _, (((Below.refl _ w2).alloc (Nat.le_refl _) _).alloc (by simp) _).alloc (by simp; omega) _⟩
  have hsz0 : (((w2.alloc (.cells #[.slice A2 l.length c2] 29)).alloc (.cells #[.int .i64 er] 30)).alloc (.cells #[.int .i64 l.length] 3)).heap.size = w2.heap.size + 3 := by simp
  generalize (((w2.alloc (.cells #[.slice A2 l.length c2] 29)).alloc (.cells #[.int .i64 er] 30)).alloc (.cells #[.int .i64 l.length] 3)) = W0 at *
  gi_cut [28, 29] from 28 (fun _ _ wc => GS w2 s (.slice A2 l.length c2) er N wc ∧ wc.heap.size = w2.heap.size + 3)
  case first =>
    have cN := hW0.bN.cell
    have fN := hW0.bN.frozen
    by_cases he : er = 0
    · obtain rfl := he
      have hN0 : (N : Int) = l.length := by have := HCNT.out; simp at this; omega
      have H0 : GS w2 s (.slice A2 l.length c2) 0 N W0 := by rw [hN0]; exact hW0
      gi_wp2
      gi_meet
      exact ⟨H0, hsz0⟩
    · have hb : (er != 0) = true := by rw [bne_iff_ne]; exact he
      have hN0 : (N : Int) = l.length + 1 := by have := HCNT.out; rw [if_pos he] at this; omega
      have hwr : wrap64 ((l.length : Int) + 1) = (N : Int) := by rw [hN0]; exact wrap_small' (by omega)
      have HST : Hid (GS w2 s (.slice A2 l.length c2) er N (W0.setCell ⟨w2.heap.size + 2, 0, none⟩ (.int .i64 N))) := Lib.hid
        ⟨hW0.bW.other (by omega) _, hW0.bE.other (by omega) _, hW0.bN.set _, hW0.bel.setCell (p := ⟨w2.heap.size + 2, 0, none⟩) (by simp) _⟩
      clear he hW0
      gi_wp2
      gi_meet
      exact ⟨by rw [← hN0]; exact HST.out, by simp [hsz0]⟩
  case rest =>
    obtain ⟨hG, hsz⟩ := hcut
    have hsz1 : wc.heap.size = w2.heap.size + 1 + 1 + 1 := hsz
    have hnn := seq_nonnil
    gi_wp2_with (refine ⟨trivial, ?_⟩; gi_at_call 15; refine (callsIn_wide.2 (all_any _ _)).mono ?_; rintro e w3 ⟨rfl, rfl⟩)
    have hB : GB w2 s (.slice A2 l.length c2) er N (w2.heap.size + 5) 0 (((wc.alloc (.cells #[.string s] 9)).alloc (.cells #[.func (.func 35) #[] #[.pointer (some ⟨w2.heap.size + 3, 0, none⟩)]] 34)).alloc (.cells #[.int .i64 0] 3)) := {
      bW := ((hG.bW.alloc _).alloc _).alloc _
      bE := ((hG.bE.alloc _).alloc _).alloc _
      bN := ((hG.bN.alloc _).alloc _).alloc _
      bel := ((hG.bel.alloc (by omega) _).alloc (by simp; omega) _).alloc (by simp; omega) _
      bT := ((boxed_new hsz _ _).alloc _).alloc _
      bS := (boxed_new (by simp; omega) _ _).alloc _
      hbt := by omega
      bt := boxed_new (by simp; omega) _ _ }
    generalize (((wc.alloc (.cells #[.string s] 9)).alloc (.cells #[.func (.func 35) #[] #[.pointer (some ⟨w2.heap.size + 3, 0, none⟩)]] 34)).alloc (.cells #[.int .i64 0] 3)) = W1 at *
    clear hG hsz hsz1 hsz0 hW0
    have hsw : w.heap.size + 2 ≤ w1.heap.size := by have := HB1.out.size; simp at this; omega
    have hM2 : Boxed w2 w.heap.size 3 (.int .i64 most) := (HB2.out.block _ (by omega)).trans ((HB1.out.block _ (by simp; omega)).trans ((boxed_new rfl _ _).alloc _))
    have hR2 : Boxed w2 (w.heap.size + 1) 4 (.bool false) := (HB2.out.block _ (by omega)).trans ((HB1.out.block _ (by simp)).trans (boxed_new (by simp) _ _))
    have hsw2 : w.heap.size + 2 ≤ w2.heap.size := by have := HB2.out.size; omega
    have HBW : Hid (Below w.heap.size w w2) := Lib.hid (HBA.out.trans (HB2.out.mono (by omega)))
    refine wpIn_loop_two (GR w w2 s (.slice A2 l.length c2) er N pl most) (GR_of rfl hB trivial) (fun m a W hm h => ?turn) (fun a W h => ?three)
    case turn =>
      obtain ⟨tm, ds⟩ := a
      obtain ⟨bt, u, ht, hGB, hM⟩ := h
      dsimp only at ht hM
      subst ht
      have ct := hGB.bt.cell
      have cS := cell_over (.cells #[.int .i64 0] 3) hGB.bS.cell
      have hm2 : m < 2 := by omega
      have hbtW := hGB.bt.lt
      have hcbt := hGB.hbt
      have hwW := hGB.bel.size
      have hEw2 : Env w2 := HE.out.below HBW.out
      clear hB
      gi_wp2
      have hGT := hGB.toGT.chg (Chg.of_alloc W (.cells #[.int .i64 0] 3) (fun _ => False)) (fun _ h => h.elim)
      have hbk := boxed_new (W := W) (n := W.heap.size) rfl 3 (.int .i64 0)
      have hsW : (W.alloc (.cells #[.int .i64 0] 3)).heap.size = W.heap.size + 1 := by simp
      have hM1 := hM.chg (Chg.of_alloc W (.cells #[.int .i64 0] 3) (fun _ => False)) (fun _ h => h.elim)
      have hbt1 := hGB.bt.alloc (.cells #[.int .i64 0] 3)
      obtain ⟨bk, hbkW⟩ : ∃ bk, bk = W.heap.size := ⟨_, rfl⟩
      rw [← hbkW] at hbk hsW ⊢
      have hbk5 : w2.heap.size + 5 < bk := by omega
      have hbtk : bt < bk := by omega
      have hMlt : ∀ e ∈ ds, ∀ D, e = { target := .collected D, args := #[] } → D < bk := fun e he D hc => by
        obtain ⟨D', hD', _, hb⟩ := hM.ge e he
        rw [hc] at hD'; cases hD'
        rw [hbkW]; exact (Array.getElem?_eq_some_iff.1 hb).1
      have HBK := Lib.hid hbkW; clear hbkW hbtW
      generalize W.alloc (.cells #[.int .i64 0] 3) = Ws at *
      refine wpIn_rangeFunc_ownH (w := Ws) rfl (by omega) (gf := 35) (lb := #[.pointer (some ⟨w2.heap.size + 3, 0, none⟩)]) rfl trivial (enters_of Tryd.func35 (by kernel_rfl) rfl)
        (all_stops 7 (by omega) (w2.heap.size + 3) (w2.heap.size + 2) s w2 Ws hEw2 hGT.bel (by omega) (not_terr hGT.bN) hGT.bT)
        (fun h k => h.trans k) (kpg_b (by omega) (by omega) (by omega)) (Below.refl _ _) (fun _ => rfl)
        (GI s bk Ws) (GX s bk m most Ws) (GI.own s bk Ws (Nat.le_refl _)) (GX.own s bk m most Ws (Nat.le_refl _)) ⟨⟨List.nil_prefix, hbk⟩, Chg.refl _ _⟩
        (GA s most w.heap.size w2.heap.size pl bt bk Ws.heap.size) (GA.own s most w.heap.size w2.heap.size pl bt bk Ws.heap.size) ?assign ?body ?done ?stop
      case assign =>
        rintro l pre ⟨⟨kd, tx, nm, pa⟩, e⟩ X K hI hK
        unfold gencs tokAgg
        gi_wp2
        have hX := hI.2.size
        refine hK _ _ ((KeepsOthers.alloc _ _).from _) (Kpg.of_turn (by omega) (by omega) (by omega) (by omega) (World.grownBy_alloc X _ none) (fun _ e => by cases e)) ((GI.own s bk Ws (Nat.le_refl _)).alloc _ hI) (GA_of hX (World.alloc_heap_new X _) rfl)
      case body =>
        rintro l2 pre x a' X hl2 hr ⟨⟨hpre, hbX⟩, hch⟩ ⟨Bx, u2, hBx, hTX, rfl⟩ hlt
        have hGX := hGT.chg hch (fun b e => by omega)
        have hbtX := hch.boxed hbt1 (by omega)
        have hXs := hch.size
        have hbe := pre_snoc (x := x) hpre
        have hpl : pre.length < N := by rw [← HN.out]; exact hlt
        have cK := hbX.cell
        have fK := hbX.frozen
        have cN := hGX.bN.cell
        have cW := hGX.bW.cell
        have cE := hGX.bE.cell
        have cT := hbtX.cell
        obtain ⟨⟨kd, tx, nm, pa⟩, e⟩ := x
        have k0 : X.cell? ⟨Bx, 0, none⟩ = some (.int .i64 kd) := kept_cell hTX 0
        have k1 : X.cell? ⟨Bx, 1, none⟩ = some (.string tx) := kept_cell hTX 1
        have k2 : X.cell? ⟨Bx, 2, none⟩ = some (.int .u64 nm) := kept_cell hTX 2
        have k3 : X.cell? ⟨Bx, 3, none⟩ = some (.int .i64 pa) := kept_cell hTX 3
        have hRX := (hGX.bel.block _ (by omega)).trans hR2
        have cR := Boxed.cell (show Boxed X (w.heap.size + 1) 4 (.bool false) from hRX)
        have fR := Boxed.frozen (show Boxed X (w.heap.size + 1) 4 (.bool false) from hRX)
        have hMX : Boxed X w.heap.size 3 (.int .i64 most) := (hGX.bel.block _ (by omega)).trans hM2
        obtain ⟨k, hk⟩ : ∃ k, k = pre.length := ⟨_, rfl⟩
        rw [← hk] at hpl cK
        have hCX := Kd.C_below HC.out hGX.bel
        have HPRE := Lib.hid hpre; have HK0 := Lib.hid hk; have HBE := Lib.hid hbe; have HGX := Lib.hid hGX; have HBT := Lib.hid hbtX; have HBX := Lib.hid hbX; have HTX := Lib.hid hTX; have HCH := Lib.hid hch; have HCX := Lib.hid hCX; have HMX := Lib.hid hMX
        clear hpre hk hbe hGX hbtX hbX hTX hch hlt hCX hRX hMX
        gi_upto_if 51 with fail
        gi_cut [] from 15 (fun wc => Chg (fun _ => False) X wc ∧ pre ++ [((⟨kd, tx, nm, pa⟩ : Tk), e)] <+: gen s 0)
        case first =>
          by_cases hkl : k < l.length
          · have hit := gen_item (s := s) (k := k) (by rw [HL.out]; exact hkl)
            rw [HL.out] at hit
            obtain ⟨ad, hA, _⟩ := tk_at HCX.out k hkl
            subst hA
            have hkc : k + 1 ≤ c2 := by omega
            have HIT := Lib.hid hit; clear hit
            gi_wp2
            generalize hr' : decide ((⟨kd, tx, nm, pa⟩ : Tk) = l.getD k tkz) = r'
            have HR' := Lib.hid hr'; clear hr'
            refine goes_region' rfl (by omega) HTX.out cW cK HCX.out rfl hkl hlc hlen HR'.out (fun u3 d hu => ?_)
            have hchY : Chg (fun _ => False) X ((X.alloc (.cells (tkCells ⟨kd, tx, nm, pa⟩).toArray 38)).drewN d) := (Chg.of_alloc X _ _).drewN d
            have cRY := ((hchY.boxed (show Boxed X (w.heap.size + 1) 4 (.bool false) from (HGX.out.bel.block _ (by omega)).trans hR2) (fun h => h)))
            have c2Y := Boxed.cell cRY
            have f2Y := Boxed.frozen cRY
            generalize (X.alloc (.cells (tkCells ⟨kd, tx, nm, pa⟩).toArray 38)).drewN d = Y at *
            have HCHY := Lib.hid hchY; clear hchY cRY
            have HU := Lib.hid hu; clear hu
            dsimp only [gTmps2]
            rw [HU.out]
            cases r' with
            | false =>
              have hbad : ¬ pre ++ [((⟨kd, tx, nm, pa⟩ : Tk), e)] <+: gen s 0 := fun h => by
                have h1 := HBE.out.1 h
                rw [← HK0.out, HIT.out] at h1
                have h2 := HR'.out
                rw [decide_eq_false_iff_not] at h2
                exact h2 (congrArg Prod.fst (Option.some.inj h1)).symm
              have HBAD := Lib.hid hbad; clear hbad
              gi_wp2
              exact ret_false HCHY.out HBAD.out (by omega)
            | true =>
              have hx : l.getD k tkz = ⟨kd, tx, nm, pa⟩ := (of_decide_eq_true HR'.out).symm
              by_cases he : e = 0
              · subst he
                have hgood : pre ++ [((⟨kd, tx, nm, pa⟩ : Tk), 0)] <+: gen s 0 := by rw [HBE.out, ← HK0.out, HIT.out, hx]
                have HGOOD := Lib.hid hgood; clear hgood hx
                gi_wp2
                gi_meet
                exact ⟨HCHY.out, HGOOD.out⟩
              · have heb : (e != 0) = true := by rw [bne_iff_ne]; exact he
                have hbad : ¬ pre ++ [((⟨kd, tx, nm, pa⟩ : Tk), e)] <+: gen s 0 := fun h => by
                  have h1 := HBE.out.1 h
                  rw [← HK0.out, HIT.out] at h1
                  exact he (congrArg Prod.snd (Option.some.inj h1)).symm
                have HBAD := Lib.hid hbad; clear hbad he hx
                gi_wp2
                exact ret_false HCHY.out HBAD.out (by omega)
          · have hkl2 : l.length ≤ k := by omega
            have her : er ≠ 0 := fun h0 => by have := HCNT.out; rw [if_neg (by simpa using h0)] at this; omega
            have hkeq : k = l.length := by have := HCNT.out; rw [if_pos her] at this; omega
            have hit : (gen s 0)[k]? = some (tkz, er) := by
              have := gen_last (s := s) (by rw [HER.out]; exact her)
              rw [HL.out, HER.out] at this
              rw [hkeq]; exact this
            have hbad : ((⟨kd, tx, nm, pa⟩ : Tk), e) ≠ (tkz, er) → ¬ pre ++ [((⟨kd, tx, nm, pa⟩ : Tk), e)] <+: gen s 0 := fun hne h => by
              have h1 := HBE.out.1 h
              rw [← HK0.out, hit] at h1
              exact hne (Option.some.inj h1).symm
            have hgd : ((⟨kd, tx, nm, pa⟩ : Tk), e) = (tkz, er) → pre ++ [((⟨kd, tx, nm, pa⟩ : Tk), e)] <+: gen s 0 := fun he => by
              rw [HBE.out, ← HK0.out, hit, he]
            have HBAD := Lib.hid hbad; have HGD := Lib.hid hgd; have HE2 := Lib.hid her
            clear hbad hgd hit hkeq her
            by_cases h1 : e = er
            · have b1 : (e != er) = false := by rw [bne_eq_false_iff_eq]; exact h1
              by_cases h2 : kd = 0
              · have b2 : (kd != 0) = false := by rw [bne_eq_false_iff_eq]; exact h2
                by_cases h3 : tx = ⟨#[]⟩
                · by_cases h4 : nm = 0
                  · have b4 : (nm != 0) = false := by rw [bne_eq_false_iff_eq]; exact h4
                    by_cases h5 : pa = 0
                    · have b5 : (pa != 0) = false := by rw [bne_eq_false_iff_eq]; exact h5
                      have HG := Lib.hid (HGD.out (by rw [h1, h2, h3, h4, h5]; rfl))
                      subst h3
                      clear h1 h2 h4 h5
                      gi_wp2
                      gi_meet
                      exact ⟨Chg.refl _ _, HG.out⟩
                    · have b5 : (pa != 0) = true := by rw [bne_iff_ne]; exact h5
                      have HB := Lib.hid (HBAD.out (fun h => h5 (congrArg (fun z : Tk × Int => z.1.at_) h)))
                      subst h3
                      clear h1 h2 h4 h5
                      gi_wp2
                      exact ret_false (n1 := w.heap.size + 1) (B := bk + 1) (Chg.refl _ X) HB.out (by omega)
                  · have b4 : (nm != 0) = true := by rw [bne_iff_ne]; exact h4
                    have HB := Lib.hid (HBAD.out (fun h => h4 (congrArg (fun z : Tk × Int => z.1.num) h)))
                    subst h3
                    clear h1 h2 h4
                    gi_wp2
                    exact ret_false (n1 := w.heap.size + 1) (B := bk + 1) (Chg.refl _ X) HB.out (by omega)
                · have b3 : ¬ tx.toList = [] := fun h => h3 (WideShapes.bytes_inj (by rw [← Lib.toList_data, h]))
                  have b3' : tx.toList.isEmpty = false := by cases hx : tx.toList with | nil => exact absurd hx b3 | cons => rfl
                  have HB := Lib.hid (HBAD.out (fun h => h3 (congrArg (fun z : Tk × Int => z.1.text) h)))
                  clear h1 h2 h3
                  gi_wp2
                  exact ret_false (n1 := w.heap.size + 1) (B := bk + 1) (Chg.refl _ X) HB.out (by omega)
              · have b2 : (kd != 0) = true := by rw [bne_iff_ne]; exact h2
                have HB := Lib.hid (HBAD.out (fun h => h2 (congrArg (fun z : Tk × Int => z.1.kind) h)))
                clear h1 h2
                gi_wp2
                exact ret_false (n1 := w.heap.size + 1) (B := bk + 1) (Chg.refl _ X) HB.out (by omega)
            · have b1 : (e != er) = true := by rw [bne_iff_ne]; exact h1
              have HB := Lib.hid (HBAD.out (fun h => h1 (congrArg Prod.snd h)))
              clear h1
              gi_wp2
              exact ret_false (n1 := w.heap.size + 1) (B := bk + 1) (Chg.refl _ X) HB.out (by omega)
        case rest =>
          obtain ⟨hchY, hgood⟩ := hcut
          have hNb : N ≤ 65538 := by rw [← HN.out]; exact gen_len s
          have bKY := hchY.boxed HBX.out (fun h => h)
          rw [← HK0.out] at bKY
          have cK2 := bKY.cell
          have fK2 := bKY.frozen
          have cT2 := (hchY.boxed HBT.out (fun h => h)).cell
          have cN2 := (hchY.boxed HGX.out.bN (fun h => h)).cell
          have cM2 := (hchY.boxed HMX.out (fun h => h)).cell
          have hGY := HGX.out.chg hchY (fun _ h => h.elim)
          have cS2 := hGY.bS.cell
          have cS3 := cell_over (.cells #[.int .i64 0] 3) cS2
          have hYs := hchY.size
          have HGY := Lib.hid hGY; have HCHY := Lib.hid hchY; have HGOOD := Lib.hid hgood; have HBKY := Lib.hid bKY
          clear hGY hchY hgood bKY
          clear k0 k1 k2 k3 cK fK cT cN cE cW cR fR
          by_cases h01 : k = 0 ∧ m = 0
          · obtain ⟨rfl, rfl⟩ := h01
            have hm' := hm
            clear hm
            gi_wp2
            obtain ⟨bi, hbi⟩ : ∃ bi, bi = wc.heap.size := ⟨_, rfl⟩
            have hbox := boxed_new (W := wc) (n := wc.heap.size) rfl 3 (.int .i64 0)
            have hsi : (wc.alloc (.cells #[.int .i64 0] 3)).heap.size = wc.heap.size + 1 := by simp
            have hchI : Chg (fun _ => False) wc (wc.alloc (.cells #[.int .i64 0] 3)) := Chg.of_alloc wc _ _
            rw [← hbi] at hbox hsi ⊢
            have HBI := Lib.hid hbi; clear hbi
            generalize wc.alloc (.cells #[.int .i64 0] 3) = Wi at *
            have hXi : Chg (fun _ => False) X Wi := HCHY.out.trans hchI (fun _ h => h.elim)
            have hXis := hXi.size
            have hGi := HGX.out.chg hXi (fun _ h => h.elim)
            obtain ⟨r0, hr0⟩ := hr
            have hrl := (Array.getElem?_eq_some_iff.1 hr0).1
            have hri : Wi.heap[l2]? = some (.loop r0) := (hXi.block l2 hrl (fun h => h)).trans hr0
            refine wpIn_rangeFunc_ownN (w := Wi) (l₀ := l2) rfl hri (by omega) (gf := 35) (lb := #[.pointer (some ⟨w2.heap.size + 3, 0, none⟩)]) rfl trivial (enters_of Tryd.func35 (by kernel_rfl) rfl)
              (SeqStopsK.inRound l2 (all_stops 5 (by omega) (w2.heap.size + 3) (w2.heap.size + 2) s w2 Wi hEw2 hGi.bel (by omega) (not_terr hGi.bN) hGi.bT))
              (fun h k => h.trans k) (kpg_b (by omega) (by omega) (by omega)) (Below.refl _ _) (fun _ => rfl)
              (fun pre' W' => Boxed W' bi 3 (.int .i64 pre'.length) ∧ Chg (fun k => k = bi) Wi W') (fun _ _ _ => False) (OwnFrom.and (Own.from (boxed_own _ _ (fun pre' : List (Tk × Int) => Value.int .i64 pre'.length)) _) (Chg.own _ _ (Nat.le_refl _))) (fun _ _ _ _ _ h _ _ => h) ⟨hbox, Chg.refl _ _⟩
              (fun x a' _ => ∃ u, a' = { tmps := gTmps2 s most w.heap.size w2.heap.size pl (.pointer (some ⟨bt, 0, none⟩)) (.pointer (some ⟨bk, 0, none⟩)) (.pointer (some ⟨Bx, 0, none⟩)) (.int .i64 e) u, defers := [] } ∧ u 16 = .pointer (some ⟨bi, 0, none⟩)) (fun _ _ _ _ _ _ h _ _ => h) ?assign2 ?body2 ?done2 ?stop2
            case stop2 => rintro c pre' W' _ h; exact h.elim
            case assign2 =>
              rintro l' pre' ⟨⟨kd', tx', nm', pa'⟩, e'⟩ W' K' hI' hK'
              unfold gencs tokAgg
              gi_wp2
              simp
              exact hK' _ _ (KeepsFrom.refl _ _) (Kpg.refl _ _ _ _ _) hI' (inner_of rfl rfl)
            case body2 =>
              rintro l' pre' x' a' W' hl' hr' ⟨hbI, hchI'⟩ ⟨u', rfl, hu'⟩ hlt'
              have cI := hbI.cell
              have fI := hbI.frozen
              have HU := Lib.hid hu'; have HBI' := Lib.hid hbI; have HCI := Lib.hid hchI'
              rw [HN.out] at hlt'
              clear hu' hbI hchI'
              dsimp only [gTmps2]
              rw [HU.out]
              gi_wp2
              have hch1 : Chg (fun k => k = bi) W' (W'.setCell ⟨bi, 0, none⟩ (.int .i64 ((pre'.length : Int) + 1))) := Chg.of_set W' bi _
              have hbi2 := Boxed.set (.int .i64 ((pre'.length : Int) + 1)) HBI'.out
              have hWs := HCI.out.size
              have hGW := hGi.chg HCI.out (fun b e => by omega)
              refine ⟨hch1.keeps (fun k e => by omega), hch1.kpg (t := 3) (i := N) (kd := .i64) (by omega) (fun k e => by omega) (by omega) (by omega) hGW.bN (by omega), ?_, HCI.out.trans hch1 (fun k e => .inl e)⟩
              rw [List.length_append]
              exact hbi2
            case done2 =>
              rintro xs W' rfl ⟨hbI, hchI'⟩
              rw [HN.out] at hbI
              have hXW := hXi.trans hchI' (S := fun _ => False) (fun k e => .inr (by have := HBI.out; omega))
              have cI := hbI.cell
              have hch2 := HCHY.out
              have bK3 := hXW.boxed HBX.out (fun h => h)
              rw [← HK0.out] at bK3
              have cK3 := bK3.cell
              have fK3 := bK3.frozen
              have cT3 := (hXW.boxed HBT.out (fun h => h)).cell
              have cN3 := (hXW.boxed HGX.out.bN (fun h => h)).cell
              have cM3 := (hXW.boxed HMX.out (fun h => h)).cell
              have HBI' := Lib.hid hbI; have HXW := Lib.hid hXW; have HBK3 := Lib.hid bK3
              clear hbI hchI' hXW bK3 cK2 fK2 cT2 cN2 cM2 cS2 cS3 hXi hGi hchI hch2 hbox
              by_cases hmo : (1 : Int) = most
              · subst hmo
                gi_wp2
                obtain ⟨r1, r2, r3⟩ := round_end HCH.out HXW.out HBX.out HGOOD.out (v := 1) (by rw [← HK0.out]; rfl) hbk5 (by omega) HGX.out.bN rfl
                exact ⟨r1, .inl ⟨rfl, rfl, by rw [List.length_append, ← HK0.out]; rfl, r3⟩⟩
              · have hmb : ((1 : Int) == most) = false := by rw [beq_eq_false_iff_ne]; exact hmo
                gi_wp2
                exact round_end HCH.out HXW.out HBX.out HGOOD.out (v := 1) (by rw [← HK0.out]; rfl) hbk5 (by omega) HGX.out.bN rfl
          · clear cS3
            have hk1 : ((k : Int) + 1 = most) ∨ ¬ ((k : Int) + 1 = most) := Classical.em _
            rcases hm with rfl | rfl
            · have hk0 : ((k : Int) == 0) = false := by rw [beq_eq_false_iff_ne]; omega
              rcases hk1 with hk1 | hk1
              · have hmb : ((k : Int) + 1 == most) = true := by rw [beq_iff_eq]; exact hk1
                have HM1 := Lib.hid hk1; clear hk1 h01
                gi_wp2
                obtain ⟨r1, r2, r3⟩ := round_end HCH.out HCHY.out HBX.out HGOOD.out (v := (k : Int) + 1) (by rw [← HK0.out]) hbk5 (by omega) HGX.out.bN hsW
                exact ⟨r1, .inl ⟨rfl, rfl, by rw [List.length_append, ← HK0.out, ← HM1.out]; simp, r3⟩⟩
              · have hmb : ((k : Int) + 1 == most) = false := by rw [beq_eq_false_iff_ne]; exact hk1
                clear hk1 h01
                gi_wp2
                exact round_end HCH.out HCHY.out HBX.out HGOOD.out (v := (k : Int) + 1) (by rw [← HK0.out]) hbk5 (by omega) HGX.out.bN hsW
            · clear hk1 h01
              cases hk0 : ((k : Int) == 0)
              all_goals
                gi_wp2
                exact round_end HCH.out HCHY.out HBX.out HGOOD.out (v := (k : Int) + 1) (by rw [← HK0.out]) hbk5 (by omega) HGX.out.bN hsW
      case done =>
        rintro D xs X hD rfl hI hK
        have hGX := hGT.chg hI.2 (fun b e => by omega)
        have hbtX := hI.2.boxed hbt1 (by omega)
        have hbX := hI.1.2
        rw [HN.out] at hbX
        have cK := hbX.cell
        have cT := hbtX.cell
        have cN := hGX.bN.cell
        have hX := hI.2.size
        have HGX := Lib.hid hGX; have HI := Lib.hid hI; have HBT := Lib.hid hbtX; have HK := Lib.hid hK
        clear hGX hI hbX hbtX hK
        gi_wp2
        refine GR_of (bt := X.heap.size) rfl { toGT := HGX.out.chg (Chg.of_alloc X (.cells #[.int .i64 (m + 1)] 3) (fun _ => False)) (fun _ h => h.elim), hbt := by omega, bt := boxed_new rfl _ _ } ⟨⟨D, rfl, by omega, (Below.heap_alloc X _ D (Array.getElem?_eq_some_iff.1 HK.out).1).trans HK.out, fun e he hc => ?_⟩, (hM1.chg HI.out.2 (fun b hb e he hc => ?_)).chg (Chg.of_alloc X (.cells #[.int .i64 (m + 1)] 3) (fun _ => False)) (fun _ h => h.elim)⟩
        · have := hMlt e he D hc; omega
        · have := hMlt e he b hc; omega
      case stop =>
        rintro D c pre X hD hp hX hK
        rcases hX with ⟨rfl, rfl, hlen, hI⟩ | ⟨rfl, hn⟩
        · have hGX := hGT.chg hI.2 (fun b e => by omega)
          have hbtX := hI.2.boxed hbt1 (by omega)
          have hbX := hI.1.2
          rw [hlen] at hbX
          have cK := hbX.cell
          have cT := hbtX.cell
          have cN := hGX.bN.cell
          have cM := Boxed.cell (show Boxed X w.heap.size 3 (.int .i64 most) from (hGX.bel.block _ (by omega)).trans hM2)
          have hX := hI.2.size
          have HGX := Lib.hid hGX; have HI := Lib.hid hI; have HBT := Lib.hid hbtX; have HK := Lib.hid hK
          clear hGX hI hbX hbtX hK hp hlen
          cases hmN : (most != (N : Int))
          all_goals
            gi_wp2
            refine GR_of (bt := X.heap.size) rfl { toGT := HGX.out.chg (Chg.of_alloc X (.cells #[.int .i64 (1)] 3) (fun _ => False)) (fun _ h => h.elim), hbt := by omega, bt := boxed_new rfl _ _ } ⟨⟨D, rfl, by omega, (Below.heap_alloc X _ D (Array.getElem?_eq_some_iff.1 HK.out).1).trans HK.out, fun e he hc => ?_⟩, (hM1.chg HI.out.2 (fun b hb e he hc => ?_)).chg (Chg.of_alloc X (.cells #[.int .i64 (1)] 3) (fun _ => False)) (fun _ h => h.elim)⟩
            · have := hMlt e he D hc; omega
            · have := hMlt e he b hc; omega
        · exact absurd hp hn
    case three =>
      obtain ⟨tm, ds⟩ := a
      obtain ⟨bt, u, ht, hGB, hM⟩ := h
      dsimp only at ht hM
      subst ht
      have ct := hGB.bt.cell
      have hR := (hGB.bel.block _ (by omega)).trans hR2
      have cR := Boxed.cell hR
      have fR := Boxed.frozen hR
      have HGB := Lib.hid hGB; have HM := Lib.hid hM; have HR' := Lib.hid hR
      clear hGB hM hR hB
      gi_wp2
      refine leaves_marks (c := w2.heap.size) (HM.out.chg (Chg.of_set _ _ _) (fun D hx2 e hx hc => ?_)) (fun W' k => ?_)
      · obtain ⟨D', hD', hge, _⟩ := HM.out.ge e hx
        rw [hc] at hD'
        cases hD'
        omega
      · have b1 := k.boxed (Boxed.set (.bool true) HR'.out) (by omega)
        have c1 := b1.cell
        refine ⟨.bool true, ?_, rfl, ?_⟩
        · simp [results, Tryd.results4, go_sem, c1]
        · have hs := HGB.out.bel.size
          have hs2 := HBW.out.size
          refine ((HBW.out.trans (HGB.out.bel.mono (by omega))).setCell (p := ⟨w.heap.size + 1, 0, none⟩) (by simp) _).trans (k.below (by simp; omega) (fun b hb => by omega))
end Go.Proofs.YtlmopoipjolbgaaDoor.LexW
