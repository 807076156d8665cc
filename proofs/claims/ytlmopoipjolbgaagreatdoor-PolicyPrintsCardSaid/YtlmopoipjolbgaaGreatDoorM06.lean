/-
  Layer 6 (policy), plain: how a policy is written; how long that is. · policy.around, among, verdict: how they are written. · policy.PrintExpr, inner: how an expression is written. · The package-level variables that the rows list: what the writing of numbers needs of them. · The reference's sign, word, Verdict. · Layer 6 (policy): a test of a field.
-/
import Derived.Test.YtlmopoipjolbgaaGreatDoorM05
import Derived.Lib.Builder
import Derived.Test.YtlmopoipjolbgaaGreatDoorM04
import Derived.Test.YtlmopoipjolbgaaGreatDoorM03
namespace Go.Proofs.YtlmopoipjolbgaaGreatDoor.LexW
open Go.RowKit Go.Shelf Go.Proofs.YtlmopoipjolbgaaGreatDoor.LexS Go.Proofs.YtlmopoipjolbgaaGreatDoorW.PrintWords
set_option linter.unusedVariables false
set_option linter.unusedSimpArgs false

/-- a verdict, as it is written -/
def vdW (v : Vd) : ByteArray × Int × Bool := wordsT.getD (v.f0.toNat - 1) (nil0, 0, false)
def vdT (v : Vd) : ByteArray := if (vdW v).2.2 = true then ((vdW v).1 ++ sSp) ++ numB v.f1 else (vdW v).1
theorem words_kind : ∀ i, i < 8 → (wordsT.getD i (nil0, 0, false)).2.1 = (i : Int) + 1 := by decide
theorem words_size : ∀ i, i < 8 → (wordsT.getD i (nil0, 0, false)).1.size ≤ 12 := by decide
theorem vdT_size {v : Vd} (h : okV v) : (vdT v).size ≤ 33 := by
  have h1 := words_size (v.f0.toNat - 1) (by have := h.1; have := h.2.1; omega)
  have h2 := numB_size v.f1 h.2.2.1
  unfold vdT
  unfold vdW
  split
  · simp only [ByteArray.size_append]
    have : sSp.size = 1 := rfl
    omega
  · omega
def callT (c : Cl) : ByteArray := if c.f0 = nil0 then numB c.f1 else c.f0
def whenT (x : Ex) : ByteArray := if x.f0 = 1 then nil0 else sWhenS ++ prE x
def ruleT (r : Rl) : ByteArray := ((sOnS ++ joinT sCommaS (r.f0.map callT)) ++ whenT r.f1) ++ ((sDoS ++ vdT r.f2) ++ sSemiN)
def headT (p : Po) : ByteArray := (((((sArchS ++ p.arch) ++ sForS) ++ vdT p.foreign) ++ sDefS) ++ vdT p.dflt) ++ sSemiN
def outL (p : Po) (k : Nat) : List UInt8 := (headT p).data.toList ++ (p.rules.take k).flatMap fun r => (ruleT r).data.toList
/-- a policy, as it is written -/
def prP (p : Po) : ByteArray := ⟨(outL p p.rules.length).toArray⟩

theorem word_size {l : List UInt8} (h : wordL l = true) : l.length ≤ 32 := by
  unfold wordL at h
  exact (of_decide_eq_true h).2.1
theorem callT_size {c : Cl} (h : okC c) : (callT c).size ≤ 32 := by
  unfold callT
  rcases h with ⟨h1, h2⟩ | ⟨h1, h2⟩
  · rw [if_pos h1]; exact Nat.le_trans (numB_size _ h2) (by omega)
  · split
    · rw [h1]; exact Nat.le_trans (numB_size _ u64_0) (by omega)
    · rw [ba_size]; exact word_size h2
theorem calls_size : ∀ l : List Cl, (∀ c ∈ l, okC c) → sumT (l.map callT) ≤ 32 * l.length
  | [], _ => by simp [sumT]
  | c :: l, h => by
    have h1 := callT_size (h c (by simp))
    have h2 := calls_size l (fun x hx => h x (List.mem_cons_of_mem _ hx))
    rw [List.map_cons, sumT_cons, List.length_cons]
    omega
theorem join_calls {r : Rl} (h : okR r) : (joinT sCommaS (r.f0.map callT)).size ≤ 34 * r.f0.length := by
  have h1 := joinT_size sCommaS (r.f0.map callT)
  have h2 := calls_size r.f0 h.calls
  rw [List.length_map] at h1
  have : sCommaS.size = 2 := rfl
  rw [this] at h1
  omega
theorem whenT_size {x : Ex} (h : okE x) : (whenT x).size ≤ 64 * wE x := by
  unfold whenT
  split
  · show (0 : Nat) ≤ _; omega
  · have := prE_size x h
    rw [ByteArray.size_append]
    have : sWhenS.size = 6 := rfl
    omega
theorem ruleT_size {r : Rl} (h : okR r) : (ruleT r).size ≤ 64 * wR r := by
  have h1 := join_calls h
  have h2 := whenT_size h.cond
  have h3 := vdT_size h.verd
  unfold ruleT wR
  simp only [ByteArray.size_append]
  have : sOnS.size = 3 := rfl
  have : sDoS.size = 4 := rfl
  have : sSemiN.size = 2 := rfl
  omega
theorem headT_size {p : Po} (h : okP p) : (headT p).size ≤ 200 := by
  have h1 := vdT_size h.forn
  have h2 := vdT_size h.dflt
  have h3 := word_size h.arch
  rw [← ba_size] at h3
  unfold headT
  simp only [ByteArray.size_append]
  have : sArchS.size = 5 := rfl
  have : sForS.size = 10 := rfl
  have : sDefS.size = 10 := rfl
  have : sSemiN.size = 2 := rfl
  omega
theorem rules_len : ∀ l : List Rl, (∀ r ∈ l, okR r) → (l.flatMap fun r => (ruleT r).data.toList).length ≤ 64 * sumW wR l
  | [], _ => by simp
  | r :: l, h => by
    have h1 := ruleT_size (h r (by simp))
    have h2 := rules_len l (fun x hx => h x (List.mem_cons_of_mem _ hx))
    rw [ba_size] at h1
    rw [List.flatMap_cons, List.length_append]
    simp only [sumW, List.map_cons, List.sum_cons] at h2 ⊢
    omega
theorem sumW_take {α : Type} (w : α → Nat) : ∀ (l : List α) (k : Nat), sumW w (l.take k) ≤ sumW w l
  | [], k => by simp
  | x :: l, 0 => by simp [sumW]
  | x :: l, k + 1 => by
    have := sumW_take w l k
    simp only [List.take_succ_cons, sumW, List.map_cons, List.sum_cons] at this ⊢
    omega
theorem outL_len {p : Po} (h : okP p) (hw : wP p ≤ 100000) (k : Nat) : (outL p k).length ≤ 6400200 := by
  have h1 := headT_size h
  rw [ba_size] at h1
  have h2 := rules_len (p.rules.take k) (fun r hr => h.rules r (List.mem_of_mem_take hr))
  have h3 := sumW_take wR p.rules k
  unfold wP at hw
  unfold outL
  rw [List.length_append]
  omega
theorem wR_mem {r : Rl} : ∀ {l : List Rl}, r ∈ l → wR r ≤ sumW wR l
  | x :: l, h => by
    simp only [sumW, List.map_cons, List.sum_cons]
    rcases List.mem_cons.1 h with rfl | h
    · omega
    · have := wR_mem h; simp only [sumW] at this; omega
theorem outL_succ (p : Po) (k : Nat) (h : k < p.rules.length) : outL p (k + 1) = outL p k ++ (ruleT (rd_Rl p.rules (k : Int))).data.toList := by
  have hr : rd_Rl p.rules (k : Int) = p.rules[k] := by
    unfold rd_Rl
    rw [Int.toNat_natCast, List.getD_eq_getElem?_getD, List.getElem?_eq_getElem h]
    rfl
  unfold outL
  rw [List.take_succ_eq_append_getElem h, List.flatMap_append, ← List.append_assoc, hr]
  simp
theorem rdRl_mem {l : List Rl} {k : Nat} (h : k < l.length) : rd_Rl l (k : Int) ∈ l := by
  unfold rd_Rl
  rw [Int.toNat_natCast, List.getD_eq_getElem?_getD, List.getElem?_eq_getElem h]
  exact List.getElem_mem h
theorem byteCells_app (l : List UInt8) (s : ByteArray) : Lib.byteCells (l ++ s.data.toList) = Lib.byteCells l ++ Lib.strCells s := by
  simp [Lib.byteCells, Lib.strCells]
theorem byteCells_len (l : List UInt8) : (Lib.byteCells l).length = l.length := by simp [Lib.byteCells]
end Go.Proofs.YtlmopoipjolbgaaGreatDoor.LexW
namespace Go.Proofs.YtlmopoipjolbgaaGreatDoor.LexW
open Go.RowKit Go.Shelf Go.Proofs.YtlmopoipjolbgaaGreatDoor.LexS Go.Proofs.YtlmopoipjolbgaaGreatDoorW.PrintWords
set_option linter.unusedVariables false
set_option linter.unusedSimpArgs false

abbrev exBoxV (x : Ex) (v : Value) : Obj := .cells #[.int .i64 x.f0, v, .int .i64 x.f2, .int .u64 x.f3, .int .i64 x.f4, .int .u64 x.f5] 37
set_option maxRecDepth 100000 in
theorem around_any (op : Int) (x : Ex) (v : Value) (w : World) :
    Calls Tryz.prog 49 #[.int .i64 op, .agg #[.int .i64 x.f0, v, .int .i64 x.f2, .int .u64 x.f3, .int .i64 x.f4, .int .u64 x.f5]] w fun e w' => e = .returned (.bool (aroundB op x.f0)) ∧ w' = w.alloc (exBoxV x v) := by
  have hblk : (w.alloc (exBoxV x v)).heap[w.heap.size]? = some (.cells #[.int .i64 x.f0, v, .int .i64 x.f2, .int .u64 x.f3, .int .i64 x.f4, .int .u64 x.f5] 37 (0, 0)) := new_blk w _ _
  obtain ⟨y0, -, -, -, -, -⟩ := box6 hblk
  clear hblk
  by_cases h5 : x.f0 = 5
  · have hb : (x.f0 == 5) = true := by simpa using h5
    have hr : aroundB op x.f0 = true := by simp [aroundB, h5]
    rw [hr]
    clear h5 hr
    go_enter Tryz.func49, Tryz.ntmps49
    go_wp2
    go_ret
    exact ⟨rfl, rfl⟩
  · have hb : (x.f0 == 5) = false := by simpa using h5
    by_cases h4 : x.f0 = 4
    · have hb4 : (x.f0 == 4) = true := by simpa using h4
      by_cases ho : op = 5
      · have hbo : (op != 5) = false := by simpa using ho
        have hr : aroundB op x.f0 = false := by simp [aroundB, h5, ho]
        rw [hr]
        clear h5 h4 ho hr
        go_enter Tryz.func49, Tryz.ntmps49
        go_wp2
        go_ret
        exact ⟨rfl, rfl⟩
      · have hbo : (op != 5) = true := by simpa using ho
        have hr : aroundB op x.f0 = true := by simp [aroundB, h4, ho]
        rw [hr]
        clear h5 h4 ho hr
        go_enter Tryz.func49, Tryz.ntmps49
        go_wp2
        go_ret
        exact ⟨rfl, rfl⟩
    · have hb4 : (x.f0 == 4) = false := by simpa using h4
      have hr : aroundB op x.f0 = false := by simp [aroundB, h5, h4]
      rw [hr]
      clear h5 h4 hr
      go_enter Tryz.func49, Tryz.ntmps49
      go_wp2
      go_ret
      exact ⟨rfl, rfl⟩

set_option maxRecDepth 100000 in
theorem clone_any (s : ByteArray) (w : World) (hlim : s.size ≤ 281474976710656) :
    Calls Tryz.prog 77 #[.string s] w fun e w' => e = .returned (.string s) ∧ Below w.heap.size w w' := by
  have HC := Lib.hid (fun W => Tryz.stringslite_Clone s W hlim)
  clear hlim
  go_enter Tryz.func77, Tryz.ntmps77
  go_wp2_with (go_at_call 98; refine (HC.out _).mono ?_; rintro e w' ⟨rfl, hb⟩)
  go_ret
  exact ⟨rfl, hb⟩

theorem pfields_blk {w : World} {B : Nat} (h : w.heap[B]? = some fieldsObj) (i : Nat) (hi : i < 7) : w.cell? ⟨B, i, none⟩ = some (.string (fieldsT.getD i nil0)) ∧ (fieldsT.getD i nil0).size ≤ 4 := by
  unfold fieldsObj at h
  match i, hi with
  | 0, _ | 1, _ | 2, _ | 3, _ | 4, _ | 5, _ | 6, _ => exact ⟨by simp [World.cell?, h, fieldsT], by decide⟩
theorem prels_blk {w : World} {B : Nat} (h : w.heap[B]? = some relsObj) (i : Nat) (hi : i < 6) : w.cell? ⟨B, i, none⟩ = some (.string (relsT.getD i nil0)) ∧ (relsT.getD i nil0).size ≤ 4 := by
  unfold relsObj at h
  match i, hi with
  | 0, _ | 1, _ | 2, _ | 3, _ | 4, _ | 5, _ => exact ⟨by simp [World.cell?, h, relsT], by decide⟩

set_option maxRecDepth 100000 in
/-- among, at a place that is there -/
theorem among_any (l : List ByteArray) (i : Int) (B n : Nat) (w : World) (h0 : 0 ≤ i) (h1 : i < n) (hn : n ≤ 100) (hl : l.length = n) (hc : w.cell? ⟨B, i.toNat, none⟩ = some (.string (l.getD i.toNat nil0))) (hz : (l.getD i.toNat nil0).size ≤ 4) :
    Calls Tryz.prog 43 #[.slice (some ⟨B, 0, none⟩) n n, .int .i64 i] w fun e w' => e = .returned (.string (amongT l i)) ∧ Below w.heap.size w w' := by
  have hr : amongT l i = l.getD i.toNat nil0 := by unfold amongT; rw [if_neg (by omega)]
  rw [hr]
  obtain ⟨j, rfl⟩ : ∃ j : Nat, i = j := ⟨i.toNat, by omega⟩
  rw [Int.toNat_natCast] at hc hz ⊢
  obtain ⟨y, hy⟩ : ∃ y, y = l.getD j nil0 := ⟨_, rfl⟩
  rw [← hy] at hc hz ⊢
  have HC := Lib.hid (fun W => clone_any y W (by omega))
  have h0b : decide ((j : Int) < 0) = false := by simp
  have h1b : decide ((n : Int) ≤ (j : Int)) = false := by simp; omega
  have hj : j < n := by omega
  have hc2 : w.cell? ((⟨B, 0, none⟩ : Addr).add j) = some (.string y) := by rw [Lib.add_plain, Nat.zero_add]; exact hc
  clear hr hy hz hl h1 h0
  go_enter Tryz.func43, Tryz.ntmps43
  go_wp2_with (go_at_call 77; refine (HC.out _).mono ?_; rintro e w' ⟨rfl, hb⟩)
  go_ret
  exact ⟨rfl, hb⟩

/-! ### verdict -/
theorem numB_sz (v : Int) (h0 : 0 ≤ v) (h1 : v < 18446744073709551616) : (numB v).size ≤ 20 := by
  have hs : (numB v).size = (Lib.decDigits v.toNat).length := by simp [numB, ByteArray.size]
  rw [hs, Lib.decDigits_length]
  rcases Nat.eq_zero_or_pos v.toNat with h | h
  · rw [h, Lib.nDigits_small (by omega)]; omega
  · have := Lib.numDigits_eq v.toNat h (by omega)
    split at this <;> omega
theorem wrap_s {m : Nat} (h : m < 9223372036854775807) : wrap64 ((m : Int) + 1) = (m : Int) + 1 := by unfold wrap64; omega
theorem PowT.drew {w : World} (h : PowT w) : PowT w.drew := h.below (Below.refl _ _).drew
abbrev vdBox (v : Vd) : Obj := .cells #[.int .i64 v.f0, .int .u64 v.f1] 26
abbrev wdBox (x : ByteArray × Int × Bool) : Obj := .cells #[.string x.1, .int .i64 x.2.1, .bool x.2.2] 112

set_option maxHeartbeats 2000000 in
set_option maxRecDepth 100000 in
theorem pverdict_any (v : Vd) (hv : okV v) (w : World) (hP : PowT w) :
    Calls Tryz.prog 37 #[.agg #[.int .i64 v.f0, .int .u64 v.f1]] w fun e w' => e = .returned (.string (vdT v)) ∧ Below w.heap.size w w' := by
  obtain ⟨hv1, hv8, hu, hz⟩ := hv
  obtain ⟨n, hn⟩ : ∃ n : Nat, v.f0 = (n : Int) + 1 := ⟨v.f0.toNat - 1, by omega⟩
  have hn8 : n < 8 := by omega
  have hvd : vdW v = wordsT.getD n (nil0, 0, false) := by unfold vdW; rw [hn]; congr 1
  have HVD := Lib.hid hvd
  have HU := Lib.hid hu
  clear hz hvd hv1 hv8 hu
  have hb0 : Below w.heap.size w ((w.alloc (vdBox v)).alloc wordsObj) := ((Below.refl _ w).alloc (Nat.le_refl _) _).alloc (by simp) _
  have hw0 : ((w.alloc (vdBox v)).alloc wordsObj).heap[w.heap.size + 1]? = some (.cells (wordsT.flatMap wordCells).toArray 112 (0, 0)) := new_blk' (by simp) _ _
  have hv0 : ((w.alloc (vdBox v)).alloc wordsObj).heap[w.heap.size]? = some (.cells #[.int .i64 v.f0, .int .u64 v.f1] 26 (0, 0)) := blk_past _ (new_blk w _ _)
  have hs0 : ((w.alloc (vdBox v)).alloc wordsObj).heap.size = w.heap.size + 2 := by simp
  have HB0 := Lib.hid hb0; have HW0 := Lib.hid hw0; have HV0 := Lib.hid hv0; have HS0 := Lib.hid hs0; have HP := Lib.hid hP; have HN := Lib.hid hn
  clear hb0 hw0 hv0 hs0 hP hn
  go_enter Tryz.func37, Tryz.ntmps37
  go_wp2_with fail
  refine (words_any _).mono ?_
  rintro e W1 ⟨rfl, rfl⟩
  go_wp2
  go_loopw [7] (fun vi wr => ∃ k : Nat, vi = .int .i64 k ∧ k ≤ n ∧ Hid (Below ((w.alloc (vdBox v)).alloc wordsObj).heap.size ((w.alloc (vdBox v)).alloc wordsObj) wr)) (fun vi _ => 8 - (intOf vi).toNat)
  case atStart => exact ⟨0, rfl, by omega, Lib.hid (Below.refl _ _)⟩
  case round =>
    obtain ⟨k, rfl, hk, HB⟩ := hrel
    have hk8 : k < 8 := by omega
    have hlt : decide ((k : Int) < 8) = true := by simp; omega
    have hws := HB.out.size
    rw [HS0.out] at hws
    have hbw : Below w.heap.size w wr := HB0.out.trans (HB.out.mono (by rw [HS0.out]; omega))
    obtain ⟨x0, x1, x2⟩ := words_blk ((HB.out.block _ (by rw [HS0.out]; omega)).trans HW0.out) k hk8
    have hv2 := (HB.out.block w.heap.size (by rw [HS0.out]; omega)).trans HV0.out
    have hx1 := words_kind k hk8
    have hx2 := words_size k hk8
    have hPr := HP.out.below hbw
    have hxk : k = n → vdW v = wordsT.getD k (nil0, 0, false) := fun e => by rw [e]; exact HVD.out
    obtain ⟨x, hx⟩ : ∃ x, x = wordsT.getD k (nil0, 0, false) := ⟨_, rfl⟩
    rw [← hx] at x0 x1 x2 hx1 hx2 hxk
    clear hx
    obtain ⟨xt, xk, xn⟩ := x
    dsimp only at x0 x1 x2 hx1 hx2
    have hal : Below wr.heap.size wr (wr.alloc (wdBox (xt, xk, xn))) := (Below.refl _ _).alloc (Nat.le_refl _) _
    have hxb : (wr.alloc (wdBox (xt, xk, xn))).heap[wr.heap.size]? = some (.cells #[.string xt, .int .i64 xk, .bool xn] 112 (0, 0)) := new_blk wr _ _
    obtain ⟨y0, y1, y2, -⟩ := blk3 hxb
    have hvb := (hal.block w.heap.size (by omega)).trans hv2
    obtain ⟨z0, z1⟩ : (wr.alloc (wdBox (xt, xk, xn))).cell? ⟨w.heap.size, 0, none⟩ = some (.int .i64 v.f0) ∧ (wr.alloc (wdBox (xt, xk, xn))).cell? ⟨w.heap.size, 1, none⟩ = some (.int .u64 v.f1) := by
      constructor <;> simp [World.cell?, hvb]
    have HX1 := Lib.hid hx1; have HX2 := Lib.hid hx2; have HXK := Lib.hid hxk; have HPA := Lib.hid (hPr.below hal); have HBA := Lib.hid (hbw.trans (hal.mono (by omega)))
    have HBN := Lib.hid (HB.out.trans (hal.mono (by rw [HS0.out]; omega)))
    clear hv2 hx1 hx2 hPr hxk hal hxb hvb hws hbw
    have hwr : wrap64 ((k : Int) + 1) = (k : Int) + 1 := wrap_s (by omega)
    by_cases hkn : k = n
    · have hbk : (xk == v.f0) = true := by rw [HX1.out, HN.out, hkn]; simp
      have hT : vdT v = if xn = true then (xt ++ sSp) ++ numB v.f1 else xt := by unfold vdT; rw [HXK.out hkn]
      have HT := Lib.hid hT
      clear hT hwr hkn
      cases xn with
      | true =>
        have hsz : (numB v.f1).size ≤ 20 := numB_sz _ HU.out.1 HU.out.2
        have c1 : ¬ 9223372036854775807 < xt.size + 1 := by have := HX2.out; omega
        have c2 : ¬ 9223372036854775807 < xt.size + 1 + (numB v.f1).size := by have := HX2.out; omega
        have HF := Lib.hid (fmt10_any v.f1 HU.out.1 HU.out.2 (wr.alloc (wdBox (xt, xk, true))).drew HPA.out.drew)
        go_wp2
        go_region_held3 (fun w' => w'.cell? ⟨wr.heap.size, 0, none⟩ = some (.string xt) ∧ w'.cell? ⟨w.heap.size, 1, none⟩ = some (.int .u64 v.f1))
          (first | go_keep | exact ⟨bel_cell hb5 y0, bel_cell hb5 z1⟩)
          (first | (go_at_call 38; refine HF.out.mono ?_; rintro e W5 ⟨rfl, hb5⟩))
        go_wp2
        go_ret
        exact ⟨by rw [HT.out]; rfl, HBA.out.trans ((((Below.refl _ (wr.alloc (wdBox (xt, xk, true)))).drew).trans hb5).mono HBA.out.size)⟩
      | false =>
        go_wp2
        go_ret
        exact ⟨by rw [HT.out]; rfl, HBA.out⟩
    · have hbk : (xk == v.f0) = false := by rw [HX1.out, HN.out]; simp; omega
      go_wp2
      go_roundw
      case rel => exact ⟨k + 1, by simp, by omega, HBN⟩
      case measure => simp [intOf]; omega
end Go.Proofs.YtlmopoipjolbgaaGreatDoor.LexW
namespace Go.Proofs.YtlmopoipjolbgaaGreatDoor.LexW
open Go.RowKit Go.Shelf Go.Proofs.YtlmopoipjolbgaaGreatDoor.LexS Go.Proofs.YtlmopoipjolbgaaGreatDoorW.PrintWords
set_option linter.unusedVariables false
set_option linter.unusedSimpArgs false

/-- the library's tables for the writing of numbers -/
structure EnvN (w : World) : Prop where
  pow : PowT w
  tz : Tz16 w
theorem EnvN.below {w w1 : World} (h : EnvN w) (hb : Below w.heap.size w w1) : EnvN w1 := ⟨h.pow.below hb, h.tz.below hb⟩

/-- what PrintExpr is asked for one expression -/
def PeC (x : Ex) : Prop := ∀ (A : Option Addr) (c : Nat) (w : World), EnvN w → kEx.C w A x.f1.length x.f1 →
    Calls Tryz.prog 16 #[.agg #[.int .i64 x.f0, .slice A x.f1.length c, .int .i64 x.f2, .int .u64 x.f3, .int .i64 x.f4, .int .u64 x.f5]] w fun e w' => e = .returned (.string (prE x)) ∧ Below w.heap.size w w'

set_option maxHeartbeats 2000000 in
set_option maxRecDepth 100000 in
theorem inner_any (op : Int) (x : Ex) (hx : PeC x) (hz : (prE x).size ≤ 100000000) (A : Option Addr) (c : Nat) (w : World) (hE : EnvN w) (hC : kEx.C w A x.f1.length x.f1) :
    Calls Tryz.prog 42 #[.int .i64 op, .agg #[.int .i64 x.f0, .slice A x.f1.length c, .int .i64 x.f2, .int .u64 x.f3, .int .i64 x.f4, .int .u64 x.f5]] w fun e w' => e = .returned (.string (parT (aroundB op x.f0) (prE x))) ∧ Below w.heap.size w w' := by
  have hb1 : Below w.heap.size w (w.alloc (exBox x A c)) := (Below.refl _ w).alloc (Nat.le_refl _) _
  have hk1 : (w.alloc (exBox x A c)).heap[w.heap.size]? = some (.cells #[.int .i64 x.f0, .slice A x.f1.length c, .int .i64 x.f2, .int .u64 x.f3, .int .i64 x.f4, .int .u64 x.f5] 37 (0, 0)) := new_blk w _ _
  have hb2 : Below (w.alloc (exBox x A c)).heap.size (w.alloc (exBox x A c)) ((w.alloc (exBox x A c)).alloc (exBox x A c)) := (Below.refl _ _).alloc (Nat.le_refl _) _
  have hk2 := (hb2.block w.heap.size (by simp)).trans hk1
  have hbb := hb1.trans (hb2.mono hb1.size)
  have HK2 := Lib.hid hk2
  have HR := Lib.hid (hx A c _ (hE.below hbb) (Kd.C_below hC hbb))
  have HBB := Lib.hid hbb
  have c1 : ¬ 9223372036854775807 < 1 + (prE x).size := by omega
  have c2 : ¬ 9223372036854775807 < 1 + (prE x).size + 1 := by omega
  obtain ⟨y0, y1, y2, y3, y4, y5⟩ := box6 hk1
  clear hb1 hk1 hb2 hk2 hbb hx hC hE hz
  obtain ⟨S, hS⟩ : ∃ S, S = parT (aroundB op x.f0) (prE x) := ⟨_, rfl⟩
  rw [← hS]
  by_cases hr : aroundB op x.f0 = true
  · have HS : Hid (S = (sOpen ++ prE x) ++ sShut) := by rw [hS, hr]; rfl
    clear hS
    go_enter Tryz.func42, Tryz.ntmps42
    go_wp2_with fail
    refine (around_any op x (.slice A x.f1.length c) _).mono ?_
    rintro e W1 ⟨rfl, rfl⟩
    obtain ⟨z0, z1, z2, z3, z4, z5⟩ := box6 HK2.out
    go_wp2_with fail
    refine HR.out.mono ?_
    rintro e W2 ⟨rfl, hb⟩
    go_wp2
    go_ret
    exact ⟨by rw [HS.out]; rfl, HBB.out.trans (hb.mono HBB.out.size)⟩
  · have hr2 : aroundB op x.f0 = false := by simpa using hr
    have HS : Hid (S = prE x) := by rw [hS, hr2]; rfl
    clear hr hS
    go_enter Tryz.func42, Tryz.ntmps42
    go_wp2_with fail
    refine (around_any op x (.slice A x.f1.length c) _).mono ?_
    rintro e W1 ⟨rfl, rfl⟩
    obtain ⟨z0, z1, z2, z3, z4, z5⟩ := box6 HK2.out
    go_wp2_with fail
    refine HR.out.mono ?_
    rintro e W2 ⟨rfl, hb⟩
    go_wp2
    go_ret
    exact ⟨by rw [HS.out]; rfl, HBB.out.trans (hb.mono HBB.out.size)⟩

/-- a row of strings of the call's own, that holds something -/
theorem own_strs {W : World} {base n : Nat} {e : TypeId} {v : Value} {l : List ByteArray} (h : W.ownsRow base e 1 v n (pw_strs l)) (h0 : 0 < l.length) :
    ∃ g cap, v = .slice (some ⟨g, 0, none⟩) l.length cap ∧ l.length ≤ cap ∧ g < W.heap.size ∧ ∀ (j : Nat) x, l[j]? = some x → W.cell? ⟨g, 0 + j, none⟩ = some (.string x) := by
  have hn : l.length = n := by have := h.1; simpa [pw_strs] using this
  subst hn
  rcases h.2 with ⟨_, h1⟩ | ⟨g, cap, cur, rfl, hb, hh, h1, h2, h3⟩
  · omega
  · refine ⟨g, cap, rfl, h1, (Array.getElem?_eq_some_iff.1 hh).1, fun j x hx => ?_⟩
    have hc := h.cells (g := g) rfl j (.string x) (by simp [pw_strs, hx])
    rwa [Lib.add_plain] at hc
theorem join_any (g cap : Nat) (l : List ByteArray) (sep : ByteArray) (w : World) (hc : ∀ (j : Nat) x, l[j]? = some x → w.cell? ⟨g, 0 + j, none⟩ = some (.string x)) (hg : g < w.heap.size) (hcap : l.length ≤ cap) (hl : l.length ≤ 100000000) (hz : (joinT sep l).size ≤ 100000000000) :
    Calls Tryz.prog 39 #[.slice (some ⟨g, 0, none⟩) l.length cap, .string sep] w fun e w' => e = .returned (.string (joinT sep l)) ∧ Below w.heap.size w w' :=
  Tryz.strings_Join g 0 cap l sep w hc hg (by omega) hcap (by rw [ba_size, joinT_list] at hz; omega)
theorem new_fields (w : World) : (w.alloc fieldsObj).heap[w.heap.size]? = some fieldsObj := new_blk w _ _
theorem new_rels (w : World) : (w.alloc relsObj).heap[w.heap.size]? = some relsObj := new_blk w _ _
theorem new_fields_d (w : World) : (w.alloc fieldsObj).drew.heap[w.heap.size]? = some fieldsObj := new_blk w _ _
theorem new_rels_d (w : World) : (w.alloc relsObj).drew.heap[w.heap.size]? = some relsObj := new_blk w _ _
theorem among_f (f : Int) (h : 0 ≤ f ∧ f ≤ 6) (B : Nat) (W : World) (hW : W.heap[B]? = some fieldsObj) :
    Calls Tryz.prog 43 #[.slice (some ⟨B, 0, none⟩) 7 7, .int .i64 f] W fun e w' => e = .returned (.string (amongT fieldsT f)) ∧ Below W.heap.size W w' :=
  have hb := pfields_blk hW f.toNat (by omega)
  among_any fieldsT f B 7 W h.1 (by omega) (by omega) rfl hb.1 hb.2
theorem among_r (r : Int) (h : 1 ≤ r ∧ r ≤ 6) (B : Nat) (W : World) (hW : W.heap[B]? = some relsObj) :
    Calls Tryz.prog 43 #[.slice (some ⟨B, 0, none⟩) 6 6, .int .i64 (r - 1)] W fun e w' => e = .returned (.string (amongT relsT (r - 1))) ∧ Below W.heap.size W w' :=
  have hb := prels_blk hW (r - 1).toNat (by omega)
  among_any relsT (r - 1) B 6 W (by omega) (by omega) (by omega) rfl hb.1 hb.2
theorem among_rw (r : Int) (h : 1 ≤ r ∧ r ≤ 6) (B : Nat) (W : World) (hW : W.heap[B]? = some relsObj) :
    Calls Tryz.prog 43 #[.slice (some ⟨B, 0, none⟩) 6 6, .int .i64 (IntKind.i64.wrap (r - 1))] W fun e w' => e = .returned (.string (amongT relsT (r - 1))) ∧ Below W.heap.size W w' := by
  rw [show IntKind.i64.wrap (r - 1) = r - 1 by rw [IntKind.wrap_i64]; omega]
  exact among_r r h B W hW
theorem infoStr : (Tryz.prog.info? 9).map (fun i => (i.zero, i.size, i.bytes)) = some (some (.string ⟨#[]⟩), 1, 16) := by kernel_rfl
theorem pw_strs_len (l : List ByteArray) : (pw_strs l).length = l.length := by simp [pw_strs]
theorem pw_strs_snoc (l : List ByteArray) (s : ByteArray) : pw_strs (l ++ [s]) = pw_strs l ++ [.string s] := by simp [pw_strs]
theorem wE_mem {y : Ex} : ∀ {l : List Ex}, y ∈ l → wE y ≤ wL l
  | x :: l, h => by
    rw [wL]
    rcases List.mem_cons.1 h with rfl | h
    · omega
    · have := wE_mem h; omega
theorem wL_len : ∀ l : List Ex, l.length ≤ wL l
  | [] => by simp [wL]
  | x :: l => by have := wL_len l; have := wE_pos x; rw [wL, List.length_cons]; omega
theorem prL_take (op : Int) (l : List Ex) (k : Nat) (h : k < l.length) : (prL op l).take (k + 1) = (prL op l).take k ++ [parT (aroundB op (rd_Ex l (k : Int)).f0) (prE (rd_Ex l (k : Int)))] := by
  have hr : rd_Ex l (k : Int) = l[k] := by
    unfold rd_Ex
    rw [Int.toNat_natCast, List.getD_eq_getElem?_getD, List.getElem?_eq_getElem h]
    rfl
  rw [hr, prL_map, List.take_succ_eq_append_getElem (by simpa using h), List.getElem_map]
theorem rdEx_mem {l : List Ex} {k : Nat} (h : k < l.length) : rd_Ex l (k : Int) ∈ l := by
  unfold rd_Ex
  rw [Int.toNat_natCast, List.getD_eq_getElem?_getD, List.getElem?_eq_getElem h]
  exact List.getElem_mem h

set_option maxHeartbeats 4000000 in
set_option maxRecDepth 100000 in
theorem pe_any (n : Nat) : ∀ (x : Ex), SizeOf.sizeOf x < n → okE x → wE x ≤ 100000 → PeC x := by
  induction n with
  | zero => intro x h; omega
  | succ n ih =>
  intro x hx hok hw A c w hE hC
  have hok2 := hok
  rw [okE_eq] at hok2
  have hw2 := hw
  rw [wE_eq] at hw2
  have hlen := wL_len x.f1
  have hl100 : x.f1.length ≤ 100000 := by omega
  have IH := Lib.hid (fun (y : Ex) (hy : y ∈ x.f1) => ih y (by have := mem_size hy rfl; omega) ((okL_all _).1 hok2.2 y hy) (by have := wE_mem hy; omega))
  have ISZ := Lib.hid (fun (y : Ex) (hy : y ∈ x.f1) => (show (prE y).size ≤ 100000000 by have := prE_size y ((okL_all _).1 hok2.2 y hy); have := wE_mem hy; omega))
  have HN := Lib.hid hok2.1
  have HSUM := Lib.hid (show sumT (prL x.f0 x.f1) + 6 * (prL x.f0 x.f1).length ≤ 6400000 by have := prL_size x.f0 x.f1 hok2.2; omega)
  have hb1 : Below w.heap.size w (w.alloc (exBox x A c)) := (Below.refl _ w).alloc (Nat.le_refl _) _
  have hk1 : (w.alloc (exBox x A c)).heap[w.heap.size]? = some (.cells #[.int .i64 x.f0, .slice A x.f1.length c, .int .i64 x.f2, .int .u64 x.f3, .int .i64 x.f4, .int .u64 x.f5] 37 (0, 0)) := new_blk w _ _
  have hs1 : (w.alloc (exBox x A c)).heap.size = w.heap.size + 1 := by simp
  obtain ⟨y0, y1, y2, y3, y4, y5⟩ := box6 hk1
  have HB1 := Lib.hid hb1; have HK1 := Lib.hid hk1; have HS1 := Lib.hid hs1; have HC1 := Lib.hid (Kd.C_below hC hb1); have HE1 := Lib.hid (hE.below hb1)
  have HPE := Lib.hid (prE_eq x)
  clear ih hok hok2 hw hw2 hlen hb1 hk1 hs1 hC hE hx
  obtain ⟨S, hS⟩ : ∃ S, S = prE x := ⟨_, rfl⟩
  rw [← hS]
  have HS := Lib.hid hS
  clear hS
  go_enter Tryz.func16, Tryz.ntmps16
  go_wp2
  show Code.wp _ _ _ _ (w.alloc (exBox x A c))
  generalize w.alloc (exBox x A c) = W1 at *
  clear y0 y1 y2 y3 y4 y5
  go_loopw [3, 10] (fun v3 v10 wr => ∃ (k : Nat) (l : List ByteArray), v10 = .int .i64 k ∧ k ≤ x.f1.length ∧ Hid (l = (prL x.f0 x.f1).take k) ∧ Hid (wr.ownsRow (w.heap.size + 1) 9 1 v3 (pw_strs l).length (pw_strs l)) ∧ Hid (Below W1.heap.size W1 wr)) (fun _ v10 _ => x.f1.length - (intOf v10).toNat)
  case atStart => exact ⟨0, [], rfl, by omega, Lib.hid (by simp), Lib.hid (own_nil _ _ _ _), Lib.hid (Below.refl _ _)⟩
  case round =>
    obtain ⟨k, l, rfl, hk, HL, HO, HB⟩ := hrel
    have hws := HB.out.size
    rw [HS1.out] at hws
    have HKr := Lib.hid ((HB.out.block w.heap.size (by rw [HS1.out]; omega)).trans HK1.out)
    have HEr := Lib.hid (HE1.out.below HB.out)
    have HCr := Lib.hid (Kd.C_below HC1.out HB.out)
    by_cases hlt : k < x.f1.length
    · have hltb : decide ((k : Int) < (x.f1.length : Int)) = true := by simpa using hlt
      obtain ⟨a0, A2, c2, e0, p0, p1, p2, p3, p4, p5, pl, pc⟩ := at_Ex HCr.out (k : Int) (by omega) (by omega)
      rw [Int.toNat_natCast] at p0 p1 p2 p3 p4 p5
      have hmem := rdEx_mem hlt
      have htk := prL_take x.f0 x.f1 k hlt
      have hIn := IH.out _ hmem
      have hSz := ISZ.out _ hmem
      generalize rd_Ex x.f1 (k : Int) = y at *
      have hal : Below wr.heap.size wr (wr.alloc (exBox y A2 c2)) := (Below.refl _ _).alloc (Nat.le_refl _) _
      have hk2 : (wr.alloc (exBox y A2 c2)).heap[wr.heap.size]? = some (.cells #[.int .i64 y.f0, .slice A2 y.f1.length c2, .int .i64 y.f2, .int .u64 y.f3, .int .i64 y.f4, .int .u64 y.f5] 37 (0, 0)) := new_blk wr _ _
      obtain ⟨z0, z1, z2, z3, z4, z5⟩ := box6 hk2
      obtain ⟨y0, y1, -, -, -, -⟩ := box6 HKr.out
      have q0 := pw_cell_below hal y0
      have HR := Lib.hid (inner_any x.f0 y hIn hSz A2 c2 _ (HEr.out.below hal) (Kd.C_below pc hal))
      have HTK := Lib.hid htk; have HAL := Lib.hid hal
      have hwr := wrap_s (m := k) (by omega)
      subst e0
      clear htk hIn hSz hal hk2 pc pl hmem
      go_wp2_with fail
      refine HR.out.mono ?_
      rintro e W5 ⟨rfl, hb5⟩
      have HO5 := Lib.hid (pw_own_below HO.out (HAL.out.trans (hb5.mono HAL.out.size)))
      have HB5 := Lib.hid (HB.out.trans ((HAL.out.trans (hb5.mono HAL.out.size)).mono HB.out.size))
      have hs5 : w.heap.size + 1 ≤ W5.heap.size := by have := HAL.out.size; have := hb5.size; omega
      have hpl : (pw_strs l).length ≤ 100000 := by rw [pw_strs_len, HL.out, List.length_take]; omega
      clear hb5 p0 p1 p2 p3 p4 p5 z0 z1 z2 z3 z4 z5 q0 y0 y1
      go_wp2_with (at_builtin; refine print_append (w0 := W5) (W := W5) (w.heap.size + 1) rfl (.tmp 14) (.tmp 19) 84 9 (.string ⟨#[]⟩) 16 rfl Tryz.underlying84 infoStr rfl (by decide) u3 (pw_strs l) (.string (parT (aroundB x.f0 y.f0) (prE y))) rfl (by go_simp) rfl HO5.out (Below.refl _ _) hs5 (by omega) ?_; intro v7 w7 hO7 hb7 hg7 hat7)
      have HO7 := Lib.hid hO7
      clear hO7 hat7
      go_roundw
      case rel => exact ⟨k + 1, l ++ [parT (aroundB x.f0 y.f0) (prE y)], by simp, by omega, Lib.hid (by rw [HTK.out, HL.out]), Lib.hid (by rw [pw_strs_snoc]; exact HO7.out), Lib.hid (HB5.out.trans (hb7.mono (by rw [HS1.out]; omega)))⟩
      case measure => simp [intOf]; omega
    · have hltb : decide ((k : Int) < (x.f1.length : Int)) = false := by simpa using hlt
      have hle : x.f1.length ≤ k := by omega
      have hll : l = prL x.f0 x.f1 := by rw [HL.out, List.take_of_length_le (by rw [prL_len]; omega)]
      have hBw : Below w.heap.size w wr := HB1.out.trans (HB.out.mono (by rw [HS1.out]; omega))
      have hln : l.length = x.f1.length := by rw [hll, prL_len]
      have hjz : ∀ sep : ByteArray, sep.size ≤ 5 → (joinT sep l).size ≤ 100000000 := fun sep hs => by
        have h1 := joinT_size sep l
        have h2 := HSUM.out
        rw [← hll] at h2
        have h3 := Nat.mul_le_mul_right l.length hs
        omega
      have HWS := Lib.hid hws; have HLL := Lib.hid hll; have HBW := Lib.hid hBw; have HLN := Lib.hid hln; have HJZ := Lib.hid hjz
      have hnode := HN.out
      obtain ⟨h1, h6, h3, h45, h126, ht, hz, hm, hv⟩ := hnode
      obtain ⟨y0, y1, y2, y3, y4, y5⟩ := box6 HKr.out
      clear hll hBw hln hjz hlt hltb HL hws
      by_cases o1 : x.f0 = 1
      · have b1 : (x.f0 == 1) = true := by simpa using o1
        have HT := Lib.hid (show S = sTrue by rw [HS.out, HPE.out]; unfold nodeT; rw [if_pos o1])
        clear o1 h1 h6 h3 h45 h126 ht hz hm hv
        go_wp2
        go_ret
        exact ⟨by rw [HT.out]; rfl, HBW.out⟩
      have b1 : (x.f0 == 1) = false := by simpa using o1
      by_cases o2 : x.f0 = 2
      · have b2 : (x.f0 == 2) = true := by simpa using o2
        have HT := Lib.hid (show S = sFalse by rw [HS.out, HPE.out]; unfold nodeT; rw [if_neg o1, if_pos o2])
        clear o1 o2 h1 h6 h3 h45 h126 ht hz hm hv
        go_wp2
        go_ret
        exact ⟨by rw [HT.out]; rfl, HBW.out⟩
      have b2 : (x.f0 == 2) = false := by simpa using o2
      by_cases o345 : x.f0 = 3 ∨ x.f0 = 4 ∨ x.f0 = 5
      · have hpos : 0 < l.length := by rw [HLN.out]; rcases o345 with h | h | h <;> omega
        obtain ⟨g, cap, hv3, hcap, hg, hcl⟩ := own_strs HO.out hpos
        have hll2 : l.length ≤ 100000000 := by rw [HLN.out]; omega
        have HJ := Lib.hid (fun (sep : ByteArray) (hs : sep.size ≤ 5) => join_any g cap l sep wr hcl hg hcap hll2 (by have := HJZ.out sep hs; omega))
        subst hv3
        clear hcap hg hcl hpos hll2 HO
        by_cases o3 : x.f0 = 3
        · have b3 : (x.f0 == 3) = true := by simpa using o3
          have HT := Lib.hid (show S = sNotS ++ joinT sSp l by rw [HS.out, HPE.out, HLL.out]; unfold nodeT; rw [if_neg o1, if_neg o2, if_pos o3])
          have c1 : ¬ 9223372036854775807 < 4 + (joinT sSp l).size := by have := HJZ.out sSp (by decide); omega
          have HJ3 := Lib.hid (HJ.out sSp (by decide))
          clear o1 o2 o3 o345 h1 h6 h3 h45 h126 ht hz hm hv
          go_wp2_with fail
          refine HJ3.out.mono ?_
          rintro e W5 ⟨rfl, hb5⟩
          go_wp2
          go_ret
          exact ⟨by rw [HT.out]; rfl, HBW.out.trans (hb5.mono HBW.out.size)⟩
        have b3 : (x.f0 == 3) = false := by simpa using o3
        by_cases o4 : x.f0 = 4
        · have b4 : (x.f0 == 4) = true := by simpa using o4
          have HT := Lib.hid (show S = joinT sAndS l by rw [HS.out, HPE.out, HLL.out]; unfold nodeT; rw [if_neg o1, if_neg o2, if_neg o3, if_pos o4])
          have HJ3 := Lib.hid (HJ.out sAndS (by decide))
          clear o1 o2 o3 o4 o345 h1 h6 h3 h45 h126 ht hz hm hv
          go_wp2_with fail
          refine HJ3.out.mono ?_
          rintro e W5 ⟨rfl, hb5⟩
          go_wp2
          go_ret
          exact ⟨by rw [HT.out]; rfl, HBW.out.trans (hb5.mono HBW.out.size)⟩
        · have b4 : (x.f0 == 4) = false := by simpa using o4
          have o5 : x.f0 = 5 := by omega
          have b5 : (x.f0 == 5) = true := by simpa using o5
          have HT := Lib.hid (show S = joinT sOrS l by rw [HS.out, HPE.out, HLL.out]; unfold nodeT; rw [if_neg o1, if_neg o2, if_neg o3, if_neg o4, if_pos o5])
          have HJ3 := Lib.hid (HJ.out sOrS (by decide))
          clear o1 o2 o3 o4 o5 o345 h1 h6 h3 h45 h126 ht hz hm hv
          go_wp2_with fail
          refine HJ3.out.mono ?_
          rintro e W5 ⟨rfl, hb5⟩
          go_wp2
          go_ret
          exact ⟨by rw [HT.out]; rfl, HBW.out.trans (hb5.mono HBW.out.size)⟩
      · have b3 : (x.f0 == 3) = false := by simp; omega
        have b4 : (x.f0 == 4) = false := by simp; omega
        have b5 : (x.f0 == 5) = false := by simp; omega
        have o6 : x.f0 = 6 := by omega
        obtain ⟨hf0, hf6, hr1, hr6⟩ := ht o6
        have HT := Lib.hid (show S = testT x.f2 x.f3 x.f4 x.f5 by rw [HS.out, HPE.out]; unfold nodeT; rw [if_neg (by omega), if_neg (by omega), if_neg (by omega), if_neg (by omega), if_neg (by omega)])
        have HM := Lib.hid hm; have HV := Lib.hid hv
        have HFZ := Lib.hid (show (amongT fieldsT x.f2).size ≤ 4 by rw [among_eq _ _ hf0 (by show x.f2 < 7; omega)]; exact fieldsT_size _ (by omega))
        have HRZ := Lib.hid (show (amongT relsT (x.f4 - 1)).size ≤ 2 by rw [among_eq _ _ (by omega) (by show x.f4 - 1 < 6; omega)]; exact relsT_size _ (by omega))
        clear o1 o2 o345 o6 h1 h6 h3 h45 h126 ht hz hm hv HO
        go_wp2
        go_region_held3 (fun w' => w'.cell? ⟨w.heap.size, 2, none⟩ = some (.int .i64 x.f2))
          (first | go_keep | exact bel_cell hb6 (pw_cell_below ((Below.refl _ wr).alloc (Nat.le_refl _) _) y2))
          (first | (go_at_call 44; refine (fields_any _).mono ?_; rintro e W5 ⟨rfl, rfl⟩) | (go_at_call 43; refine (among_f _ ⟨hf0, hf6⟩ wr.heap.size _ (new_fields_d wr)).mono ?_; rintro e W6 ⟨rfl, hb6⟩))
        have hb6w : Below wr.heap.size wr W6 := ((Below.refl wr.heap.size wr).alloc (Nat.le_refl _) fieldsObj).drew.trans (hb6.mono (by simp))
        have hk6 := (hb6w.block w.heap.size (by have := HWS.out; omega)).trans HKr.out
        obtain ⟨-, -, -, v3, -, -⟩ := box6 hk6
        have HB6 := Lib.hid hb6w; have HE6 := Lib.hid (HEr.out.below hb6w)
        clear hb6w hk6 hb6 y0 y1 y2 y3 y4 y5
        by_cases hmx : x.f3 = 18446744073709551615
        · have bm : (x.f3 != 18446744073709551615) = false := by simpa using hmx
          have HT2 := Lib.hid (show S = ((((amongT fieldsT x.f2) ++ sSp) ++ amongT relsT (x.f4 - 1)) ++ sSp) ++ numB x.f5 by rw [HT.out]; unfold testT; rw [if_pos hmx])
          have HBV := HB6; have HEV := HE6
          clear hmx
          have HF9 := Lib.hid (fun W hp => fmt10_any x.f5 HV.out.1 HV.out.2 W hp)
          have HP8 := Lib.hid (fun W (h : Below (W6.alloc relsObj).drew.heap.size (W6.alloc relsObj).drew W) => (HEV.out.pow.below (((Below.refl W6.heap.size W6).alloc (Nat.le_refl _) relsObj).drew)).below h)
          have hbV : Below wr.heap.size wr W6 := HBV.out
          have hkV := (hbV.block w.heap.size (by have := HWS.out; omega)).trans HKr.out
          obtain ⟨-, -, -, -, v4, v5⟩ := box6 hkV
          clear hkV hbV
          have hnz := numB_size x.f5 HV.out
          have d1 : ¬ 9223372036854775807 < (amongT fieldsT x.f2).size + 1 := by have := HFZ.out; have := HRZ.out; have := hexT_size x.f3; omega
          have d2 : ¬ 9223372036854775807 < (amongT fieldsT x.f2).size + 1 + (amongT relsT (x.f4 - 1)).size := by have := HFZ.out; have := HRZ.out; have := hexT_size x.f3; omega
          have d3 : ¬ 9223372036854775807 < (amongT fieldsT x.f2).size + 1 + (amongT relsT (x.f4 - 1)).size + 1 := by have := HFZ.out; have := HRZ.out; have := hexT_size x.f3; omega
          have d4 : ¬ 9223372036854775807 < (amongT fieldsT x.f2).size + 1 + (amongT relsT (x.f4 - 1)).size + 1 + (numB x.f5).size := by have := HFZ.out; have := HRZ.out; have := hexT_size x.f3; omega
          clear hnz
          go_wp2
          go_region_held3 (fun w' => w'.cell? ⟨w.heap.size, 4, none⟩ = some (.int .i64 x.f4) ∧ w'.cell? ⟨w.heap.size, 5, none⟩ = some (.int .u64 x.f5))
            (first | go_keep | exact ⟨pw_cell_below hb9 (bel_cell hb8 (pw_cell_below ((Below.refl _ W6).alloc (Nat.le_refl _) _) v4)), pw_cell_below hb9 (bel_cell hb8 (pw_cell_below ((Below.refl _ W6).alloc (Nat.le_refl _) _) v5))⟩ | exact ⟨bel_cell hb8 (pw_cell_below ((Below.refl _ W6).alloc (Nat.le_refl _) _) v4), bel_cell hb8 (pw_cell_below ((Below.refl _ W6).alloc (Nat.le_refl _) _) v5)⟩)
            (first | (go_at_call 45; refine (rels_any _).mono ?_; rintro e W7 ⟨rfl, rfl⟩) | (go_at_call 43; ((with_reducible refine (among_rw _ ⟨hr1, hr6⟩ W6.heap.size _ (new_rels_d W6)).mono ?_); rintro e W8 ⟨rfl, hb8⟩)) | (go_at_call 38; ((with_reducible refine (HF9.out W8 (HP8.out W8 hb8)).mono ?_); rintro e W9 ⟨rfl, hb9⟩)))
          go_wp2
          go_ret
          exact ⟨by rw [HT2.out]; rfl, HBW.out.trans ((HBV.out.trans (((((Below.refl W6.heap.size W6).alloc (Nat.le_refl _) relsObj).drew).trans ((hb8.trans (hb9.mono hb8.size)).mono (by simp))).mono HBV.out.size)).mono HBW.out.size)⟩
        · have bm : (x.f3 != 18446744073709551615) = true := by simpa using hmx
          have HT2 := Lib.hid (show S = ((((amongT fieldsT x.f2 ++ (sMask ++ hexT x.f3)) ++ sSp) ++ amongT relsT (x.f4 - 1)) ++ sSp) ++ numB x.f5 by rw [HT.out]; unfold testT; rw [if_neg hmx])
          clear hmx
          have HF := Lib.hid (fmt16_any x.f3 HM.out.1 HM.out.2 W6 HE6.out.tz)
          have c1 : ¬ 9223372036854775807 < 5 + (hexT x.f3).size := by have := hexT_size x.f3; omega
          have c2 : ¬ 9223372036854775807 < (amongT fieldsT x.f2).size + (5 + (hexT x.f3).size) := by have := hexT_size x.f3; have := HFZ.out; omega
          go_wp2_with fail
          refine HF.out.mono ?_
          rintro e V6 ⟨rfl, hb7⟩
          have HBV := Lib.hid (HB6.out.trans (hb7.mono HB6.out.size)); have HEV := Lib.hid (HE6.out.below hb7)
          clear hb7 v3
          have HF9 := Lib.hid (fun W hp => fmt10_any x.f5 HV.out.1 HV.out.2 W hp)
          have HP8 := Lib.hid (fun W (h : Below (V6.alloc relsObj).drew.heap.size (V6.alloc relsObj).drew W) => (HEV.out.pow.below (((Below.refl V6.heap.size V6).alloc (Nat.le_refl _) relsObj).drew)).below h)
          have hbV : Below wr.heap.size wr V6 := HBV.out
          have hkV := (hbV.block w.heap.size (by have := HWS.out; omega)).trans HKr.out
          obtain ⟨-, -, -, -, v4, v5⟩ := box6 hkV
          clear hkV hbV
          have hnz := numB_size x.f5 HV.out
          have d1 : ¬ 9223372036854775807 < (amongT fieldsT x.f2).size + (5 + (hexT x.f3).size) + 1 := by have := HFZ.out; have := HRZ.out; have := hexT_size x.f3; omega
          have d2 : ¬ 9223372036854775807 < (amongT fieldsT x.f2).size + (5 + (hexT x.f3).size) + 1 + (amongT relsT (x.f4 - 1)).size := by have := HFZ.out; have := HRZ.out; have := hexT_size x.f3; omega
          have d3 : ¬ 9223372036854775807 < (amongT fieldsT x.f2).size + (5 + (hexT x.f3).size) + 1 + (amongT relsT (x.f4 - 1)).size + 1 := by have := HFZ.out; have := HRZ.out; have := hexT_size x.f3; omega
          have d4 : ¬ 9223372036854775807 < (amongT fieldsT x.f2).size + (5 + (hexT x.f3).size) + 1 + (amongT relsT (x.f4 - 1)).size + 1 + (numB x.f5).size := by have := HFZ.out; have := HRZ.out; have := hexT_size x.f3; omega
          clear hnz
          go_wp2
          go_region_held3 (fun w' => w'.cell? ⟨w.heap.size, 4, none⟩ = some (.int .i64 x.f4) ∧ w'.cell? ⟨w.heap.size, 5, none⟩ = some (.int .u64 x.f5))
            (first | go_keep | exact ⟨pw_cell_below hb9 (bel_cell hb8 (pw_cell_below ((Below.refl _ V6).alloc (Nat.le_refl _) _) v4)), pw_cell_below hb9 (bel_cell hb8 (pw_cell_below ((Below.refl _ V6).alloc (Nat.le_refl _) _) v5))⟩ | exact ⟨bel_cell hb8 (pw_cell_below ((Below.refl _ V6).alloc (Nat.le_refl _) _) v4), bel_cell hb8 (pw_cell_below ((Below.refl _ V6).alloc (Nat.le_refl _) _) v5)⟩)
            (first | (go_at_call 45; refine (rels_any _).mono ?_; rintro e W7 ⟨rfl, rfl⟩) | (go_at_call 43; ((with_reducible refine (among_rw _ ⟨hr1, hr6⟩ V6.heap.size _ (new_rels_d V6)).mono ?_); rintro e W8 ⟨rfl, hb8⟩)) | (go_at_call 38; ((with_reducible refine (HF9.out W8 (HP8.out W8 hb8)).mono ?_); rintro e W9 ⟨rfl, hb9⟩)))
          go_wp2
          go_ret
          exact ⟨by rw [HT2.out]; rfl, HBW.out.trans ((HBV.out.trans (((((Below.refl V6.heap.size V6).alloc (Nat.le_refl _) relsObj).drew).trans ((hb8.trans (hb9.mono hb8.size)).mono (by simp))).mono HBV.out.size)).mono HBW.out.size)⟩
end Go.Proofs.YtlmopoipjolbgaaGreatDoor.LexW
namespace Go.Proofs.YtlmopoipjolbgaaGreatDoor.LexW
open Go.ChangeShapes Go.WideShapes Go.ChangeAt Go.RowKit Go.Lib Go.Shelf
set_option linter.unusedVariables false
set_option linter.unusedSimpArgs false

def tz64 : List Int := [0, 1, 56, 2, 57, 49, 28, 3, 61, 58, 42, 50, 38, 29, 17, 4, 62, 47, 59, 36, 45, 43, 51, 22, 53, 39, 33, 30, 24, 18, 12, 5, 63, 55, 48, 27, 60, 41, 37, 16, 46, 35, 44, 21, 52, 32, 23, 11, 54, 26, 40, 15, 34, 20, 31, 10, 25, 14, 19, 9, 13, 8, 7, 6]
theorem tz_same : (Rows.laid_math_bits_deBruijn64tab : DataW Unit) = Lib.tabData .u8 tz64 := by kernel_rfl
theorem pow_same : (Rows.laid_internal_strconv_uint64pow10 : DataW Unit) = Lib.tabData .u64 Lib.pow10Tab := by kernel_rfl
theorem tab_of_reads {P : Program} {W : World} {name : String} {k : IntKind} {zs : List Int} {g : Nat} {t e : TypeId} {n : Nat}
    (hg : P.globalNamed name = some g) (hty : (P.globals[g]?).map (·.type) = some t) (ht : P.underlying t = some (.array n e)) (he : P.underlying e = some (.int k)) (hce : P.cellsOf e = 1) (hct : P.cellsOf t = n)
    (h : VarReads P W name (Lib.tabData k zs)) : Lib.TabIs P W name k zs := by
  obtain ⟨g', t', cs, fuel, p, hg', ht', hvar, hd⟩ := h
  obtain rfl := Option.some.inj (hg.symm.trans hg')
  obtain rfl := Option.some.inj (hty.symm.trans ht')
  unfold Lib.TabIs
  rw [hvar, ← Lib.cells_of_tab ht he hce hct hd]
theorem envN_of_laid {W : World} (h : laidMetH Tryz.prog laidL W) : EnvN W := by
  have hL : laidMet Tryz.prog laidL W := h
  have h1 := Lib.laidMet.reads hL (n := "math/bits.deBruijn64tab") (d := Rows.laid_math_bits_deBruijn64tab) (.tail _ (.head _))
  have h2 := Lib.laidMet.reads hL (n := "internal/strconv.uint64pow10") (d := Rows.laid_internal_strconv_uint64pow10) (.tail _ (.tail _ (.head _)))
  rw [tz_same] at h1
  rw [pow_same] at h2
  refine ⟨tab_of_reads (g := 0) (by kernel_rfl) (by kernel_rfl) Tryz.underlying143 Tryz.underlying24 (by kernel_rfl) (by kernel_rfl) h2, ?_⟩
  have h3 := tab_of_reads (g := 3) (by kernel_rfl) (by kernel_rfl) Tryz.underlying160 Tryz.underlying5 (by kernel_rfl) (by kernel_rfl) h1
  exact Lib.TabIs.cell h3 (g := 3) (by kernel_rfl) 15 (by decide)
end Go.Proofs.YtlmopoipjolbgaaGreatDoor.LexW
namespace Go.Proofs.YtlmopoipjolbgaaGreatDoor.LexW
open Go.RowKit Go.Shelf Go.Proofs.YtlmopoipjolbgaaGreatDoor.LexS Go.Proofs.YtlmopoipjolbgaaGreatDoorW.PrintWords
set_option linter.unusedVariables false
set_option linter.unusedSimpArgs false

set_option maxRecDepth 100000 in
theorem sign_at (n : Nat) (hn : n < 6) (w : World) :
    Calls Tryz.prog 48 #[.int .i64 ((n : Int) + 1)] w fun e w' => e = .returned (.string (relsT.getD n nil0)) ∧ w = w' := by
  match n, hn with
  | 0, _ | 1, _ | 2, _ | 3, _ | 4, _ | 5, _ =>
    simp only [Int.ofNat_zero, Int.cast_ofNat_Int]
    go_enter Tryz.func48, Tryz.ntmps48
    go_wp2
    go_ret
    exact ⟨rfl, rfl⟩
theorem sign_rany (r : Int) (h : 1 ≤ r ∧ r ≤ 6) (w : World) :
    Calls Tryz.prog 48 #[.int .i64 r] w fun e w' => e = .returned (.string (amongT relsT (r - 1))) ∧ w = w' := by
  obtain ⟨n, hn⟩ : ∃ n : Nat, r = (n : Int) + 1 := ⟨(r - 1).toNat, by omega⟩
  have hn6 : n < 6 := by omega
  rw [among_eq _ _ (by omega) (by show r - 1 < 6; omega), show (r - 1).toNat = n by omega, hn]
  exact sign_at n hn6 w
set_option maxRecDepth 100000 in
theorem word_at (n : Nat) (hn : n < 8) (w : World) :
    Calls Tryz.prog 76 #[.int .i64 ((n : Int) + 1)] w fun e w' => e = .returned (.string (wordsT.getD n (nil0, 0, false)).1) ∧ w = w' := by
  match n, hn with
  | 0, _ | 1, _ | 2, _ | 3, _ | 4, _ | 5, _ | 6, _ | 7, _ =>
    simp only [Int.ofNat_zero, Int.cast_ofNat_Int]
    go_enter Tryz.func76, Tryz.ntmps76
    go_wp2
    go_ret
    exact ⟨rfl, rfl⟩
theorem words_num : ∀ n, n < 8 → ((wordsT.getD n (nil0, 0, false)).2.2 = true ↔ ((n : Int) + 1 = 3 ∨ (n : Int) + 1 = 4 ∨ (n : Int) + 1 = 6)) := by decide

theorem box2 {W : World} {b : Nat} {v0 v1 : Value} {t : TypeId} (h : W.heap[b]? = some (.cells #[v0, v1] t (0, 0))) : W.cell? ⟨b, 0, none⟩ = some v0 ∧ W.cell? ⟨b, 1, none⟩ = some v1 := by
  refine ⟨?_, ?_⟩ <;> simp [World.cell?, h]
set_option maxHeartbeats 2000000 in
set_option maxRecDepth 100000 in
theorem rverdict_any (v : Vd) (hv : okV v) (w : World) (hP : PowT w) :
    Calls Tryz.prog 41 #[.agg #[.int .i64 v.f0, .int .u64 v.f1]] w fun e w' => e = .returned (.string (vdT v)) ∧ Below w.heap.size w w' := by
  obtain ⟨hv1, hv8, hu, hz⟩ := hv
  obtain ⟨n, hn⟩ : ∃ n : Nat, v.f0 = (n : Int) + 1 := ⟨v.f0.toNat - 1, by omega⟩
  have hn8 : n < 8 := by omega
  have hvd : vdW v = wordsT.getD n (nil0, 0, false) := by unfold vdW; rw [hn]; congr 1
  have hal : Below w.heap.size w (w.alloc (vdBox v)) := (Below.refl _ w).alloc (Nat.le_refl _) _
  have hvb : (w.alloc (vdBox v)).heap[w.heap.size]? = some (.cells #[.int .i64 v.f0, .int .u64 v.f1] 26 (0, 0)) := new_blk w _ _
  obtain ⟨z0, z1⟩ : (w.alloc (vdBox v)).cell? ⟨w.heap.size, 0, none⟩ = some (.int .i64 v.f0) ∧ (w.alloc (vdBox v)).cell? ⟨w.heap.size, 1, none⟩ = some (.int .u64 v.f1) := box2 hvb
  have hnum := words_num n hn8
  have hws := words_size n hn8
  have hnz := numB_size v.f1 hu
  have HW := Lib.hid (fun W => (show Calls Tryz.prog 76 #[.int .i64 v.f0] W fun e w' => e = .returned (.string (vdW v).1) ∧ W = w' by rw [hn, hvd]; exact word_at n hn8 W))
  have HF := Lib.hid (fun W (h : PowT W) => fmt10_any v.f1 hu.1 hu.2 W h)
  have HAL := Lib.hid hal; have HP := Lib.hid (hP.below hal)
  obtain ⟨S, hS⟩ : ∃ S, S = vdT v := ⟨_, rfl⟩
  rw [← hS]
  rw [← hvd] at hws hnum
  rw [← hn] at hnum
  obtain ⟨T, hT⟩ : ∃ T, T = (vdW v).1 := ⟨_, rfl⟩
  rw [← hT] at HW hws
  have hres : S = if (vdW v).2.2 = true then (T ++ sSp) ++ numB v.f1 else T := by rw [hS, hT]; rfl
  clear hS hT hvd hz hvb hal hP
  have d1 : ¬ 9223372036854775807 < T.size + 1 := by omega
  have d2 : ¬ 9223372036854775807 < T.size + 1 + (numB v.f1).size := by omega
  by_cases o : v.f0 = 3 ∨ v.f0 = 4 ∨ v.f0 = 6
  · have HT := Lib.hid (show S = (T ++ sSp) ++ numB v.f1 by rw [hres, if_pos (hnum.2 o)])
    clear hres hnum hn
    have hb : (v.f0 == 3) = true ∨ ((v.f0 == 3) = false ∧ (v.f0 == 4) = true) ∨ ((v.f0 == 3) = false ∧ (v.f0 == 4) = false ∧ (v.f0 == 6) = true) := by
      rcases o with h | h | h <;> simp [h]
    clear o hv1 hv8 hu
    rcases hb with b3 | ⟨b3, b4⟩ | ⟨b3, b4, b6⟩
    all_goals
      go_enter Tryz.func41, Tryz.ntmps41
      go_wp2
      go_region_held3 (fun w' => w'.cell? ⟨w.heap.size, 0, none⟩ = some (.int .i64 v.f0) ∧ w'.cell? ⟨w.heap.size, 1, none⟩ = some (.int .u64 v.f1))
        (first | go_keep | exact ⟨bel_cell hb5 z0, bel_cell hb5 z1⟩)
        (first | (go_at_call 76; ((with_reducible refine (HW.out _).mono ?_); rintro e W4 ⟨rfl, rfl⟩)) | (go_at_call 38; ((with_reducible refine (HF.out (w.alloc (vdBox v)).drew HP.out.drew).mono ?_); rintro e W5 ⟨rfl, hb5⟩)))
      go_wp2
      go_ret
      exact ⟨by rw [HT.out]; rfl, HAL.out.trans ((((Below.refl _ (w.alloc (vdBox v))).drew).trans hb5).mono HAL.out.size)⟩
  · have HT := Lib.hid (show S = T by rw [hres, if_neg (fun h => o (hnum.1 h))])
    have b3 : (v.f0 == 3) = false := by simp; omega
    have b4 : (v.f0 == 4) = false := by simp; omega
    have b6 : (v.f0 == 6) = false := by simp; omega
    clear hres hnum hn o hv1 hv8 hu
    go_enter Tryz.func41, Tryz.ntmps41
    go_wp2_with fail
    refine (HW.out _).mono ?_
    rintro e W4 ⟨rfl, rfl⟩
    go_wp2
    go_ret
    exact ⟨by rw [HT.out]; rfl, HAL.out⟩
end Go.Proofs.YtlmopoipjolbgaaGreatDoor.LexW
namespace Go.Proofs.YtlmopoipjolbgaaGreatDoor.LexW
open Go.RowKit Go.Shelf Go.Proofs.YtlmopoipjolbgaaGreatDoor.LexS Go.Proofs.YtlmopoipjolbgaaGreatDoorW.PrintWords
set_option linter.unusedVariables false
set_option linter.unusedSimpArgs false
attribute [local go_sem] fld_num fld_text

abbrev exAgg (x : Ex) (v : Value) : Value := .agg #[.int .i64 x.f0, v, .int .i64 x.f2, .int .u64 x.f3, .int .i64 x.f4, .int .u64 x.f5]
abbrev exZero : Obj := .cells #[.int .i64 0, .slice none 0 0, .int .i64 0, .int .u64 0, .int .i64 0, .int .u64 0] 37
/-- the expression's row of arguments, made from a block on -/
def ExRow (W : World) (base : Nat) (v : Value) (l : List Ex) : Prop := kEx.R 37 W base (fun _ => True) v l
def ExOut (s : ByteArray) (ep : EP) (g : Nat) (d : Int) (base : Nat) (p : Ex × List Tk) (e : Ending) (W' : World) : Prop := ∃ v, e = .returned (exAgg p.1 v) ∧ ExRow W' base v p.1.f1 ∧ Rdr s ep g p.2 d W'
theorem blk6 {W : World} {b : Nat} {v0 v1 v2 v3 v4 v5 : Value} {t : TypeId} (h : W.heap[b]? = some (.cells #[v0, v1, v2, v3, v4, v5] t (0, 0))) : W.cell? ⟨b, 0, none⟩ = some v0 ∧ W.cell? ⟨b, 1, none⟩ = some v1 ∧ W.cell? ⟨b, 2, none⟩ = some v2 ∧ W.cell? ⟨b, 3, none⟩ = some v3 ∧ W.cell? ⟨b, 4, none⟩ = some v4 ∧ W.cell? ⟨b, 5, none⟩ = some v5 ∧ ∀ j, W.frozen? ⟨b, j, none⟩ = false := by
  refine ⟨?_, ?_, ?_, ?_, ?_, ?_, fun j => ?_⟩ <;> simp [World.cell?, World.frozen?, h]
theorem Chg.sets6 {S : Nat → Prop} {W W' : World} (h : Chg S W W') (b : Nat) (hb : W.heap.size ≤ b) (v0 v1 v2 v3 v4 v5 : Value) :
    Chg S W ((((((W'.setCell ⟨b, 0, none⟩ v0).setCell ⟨b, 1, none⟩ v1).setCell ⟨b, 2, none⟩ v2).setCell ⟨b, 3, none⟩ v3).setCell ⟨b, 4, none⟩ v4).setCell ⟨b, 5, none⟩ v5) :=
  ((h.sets4 b hb v0 v1 v2 v3).set1 b 4 hb v4).set1 b 5 hb v5
theorem Rdr.far6 {s : ByteArray} {ep : EP} {g : Nat} {L : List Tk} {d : Int} {W : World} (h : Rdr s ep g L d W) (b : Nat) (hb : g ≠ b) (v0 v1 v2 v3 v4 v5 : Value) :
    Rdr s ep g L d ((((((W.setCell ⟨b, 0, none⟩ v0).setCell ⟨b, 1, none⟩ v1).setCell ⟨b, 2, none⟩ v2).setCell ⟨b, 3, none⟩ v3).setCell ⟨b, 4, none⟩ v4).setCell ⟨b, 5, none⟩ v5) :=
  (((((h.far b 0 hb v0).far b 1 hb v1).far b 2 hb v2).far b 3 hb v3).far b 4 hb v4).far b 5 hb v5
theorem blk_sets6 {W : World} {b : Nat} {u0 u1 u2 u3 u4 u5 : Value} {t : TypeId} (h : W.heap[b]? = some (.cells #[u0, u1, u2, u3, u4, u5] t (0, 0))) (v0 v1 v2 v3 v4 v5 : Value) :
    ((((((W.setCell ⟨b, 0, none⟩ v0).setCell ⟨b, 1, none⟩ v1).setCell ⟨b, 2, none⟩ v2).setCell ⟨b, 3, none⟩ v3).setCell ⟨b, 4, none⟩ v4).setCell ⟨b, 5, none⟩ v5).heap[b]? = some (.cells #[v0, v1, v2, v3, v4, v5] t (0, 0)) :=
  blk_set (blk_set (blk_set (blk_set (blk_set (blk_set h 0 v0) 1 v1) 2 v2) 3 v3) 4 v4) 5 v5
theorem rels_blk {w : World} {B : Nat} (h : w.heap[B]? = some (.cells (relsT.map Value.string).toArray 9 (0, 0))) (i : Nat) (hi : i < 6) : w.cell? ⟨B, i, none⟩ = some (.string (relsT.getD i nil0)) := by
  match i, hi with
  | 0, _ | 1, _ | 2, _ | 3, _ | 4, _ | 5, _ => simp [World.cell?, h, relsT]

theorem relF_kind (t : Tk) : ∀ n, relF t n ≠ 0 → t.kind ≠ 1
  | 0, h => absurd rfl h
  | n + 1, h => by
    unfold relF at h
    split at h
    · rename_i hi; exact isT_kind hi
    · exact relF_kind t n h

set_option maxRecDepth 100000 in
set_option maxHeartbeats 4000000 in
theorem test_any (s : ByteArray) (ep : EP) (g : Nat) (L : List Tk) (d f : Int) (w0 W : World) (hO : Okw w0 g W) (hR : Rdr s ep g L d W) (hk : (hdT L).kind ≠ 1) :
    Calls Tryz.prog 91 #[.pointer (some ⟨g, 0, none⟩), .int .i64 f] W (Outs g W (testP ep f L) (ExOut s ep g d W.heap.size)) := by
  have hgW := hR.lt
  have hW1 : Below W.heap.size W (W.alloc exZero) := (Below.refl _ W).alloc (Nat.le_refl _) _
  have hz1 := new_blk W #[.int .i64 0, .slice none 0 0, .int .i64 0, .int .u64 0, .int .i64 0, .int .u64 0] 37
  have HS := Lib.hid (step_any s ep g L d w0 _ (hO.below hW1) (hR.below hW1) hk)
  have HO := Lib.hid hO; have HZ1 := Lib.hid hz1; have HW1 := Lib.hid hW1
  clear hO hR hW1 hz1 hk
  cases hs : stepP ep L with
  | error p =>
    have HSE := Lib.hid hs; clear hs
    go_enter Tryz.func91, Tryz.ntmps91
    go_wp2_with fail
    refine HS.out.mono ?_
    rintro e W2 h
    obtain ⟨rfl, hc⟩ := h.err HSE.out
    go_wp2
    exact ⟨rfl, Outs.mk_err (by unfold testP; rw [HSE.out]; rfl) rfl ((Chg.of_below HW1.out (fun k => k = g)).trans hc (fun k e => .inl e))⟩
  | ok L1 =>
    have hv : testP ep f L = bnd (maskP ep L1) (fun p => if relF (hdT p.2) 6 = 0 then .error (badP 61 p.2) else bnd (stepP ep p.2) (fun L3 => bnd (kindP ep 3 L3) (fun q => .ok (⟨6, [], f, p.1, relF (hdT p.2) 6, q.1.num⟩, q.2)))) := by
      unfold testP; rw [hs]; rfl
    have HV := Lib.hid hv; have HSE := Lib.hid hs; clear hs hv
    go_enter Tryz.func91, Tryz.ntmps91
    go_wp2_with fail
    refine HS.out.mono ?_
    rintro e W2 h
    obtain ⟨⟨rfl, hR2⟩, hc⟩ := h.ok HSE.out
    have hcW : Chg (fun k => k = g) W W2 := (Chg.of_below HW1.out (fun k => k = g)).trans hc (fun k e => .inl e)
    have hz2 := chg_block hc HZ1.out (by omega)
    have hWs : W.heap.size < W2.heap.size := by have := hc.size; simp at this; omega
    -- the world behind the test's own box
    have hY : Below W2.heap.size W2 (W2.alloc (.cells #[.int .i64 6, .slice none 0 0, .int .i64 f, .int .u64 18446744073709551615, .int .i64 0, .int .u64 0] 37)) := (Below.refl _ W2).alloc (Nat.le_refl _) _
    have hv3 := new_blk W2 #[.int .i64 6, .slice none 0 0, .int .i64 f, .int .u64 18446744073709551615, .int .i64 0, .int .u64 0] 37
    have hz3 := blk_past (.cells #[.int .i64 6, .slice none 0 0, .int .i64 f, .int .u64 18446744073709551615, .int .i64 0, .int .u64 0] 37) hz2
    have hR3 := hR2.below hY
    have hO3 := (HO.out.chg hcW).below hY
    have hc3 := hcW.trans (Chg.of_below hY (fun k => k = g)) (fun k e => .inl e)
    obtain ⟨V, hV⟩ : ∃ V, V = W2.heap.size := ⟨_, rfl⟩
    have HV2 := Lib.hid hV
    have hVW : W.heap.size < V := by omega
    have HM := Lib.hid (maybe_any s ep g L1 d sAmp w0 _ hO3 hR3)
    have HR3 := Lib.hid hR3; have HO3 := Lib.hid hO3; have HC3 := Lib.hid hc3; have HZ3 := Lib.hid hz3; have HV3 := Lib.hid hv3; have HR2 := Lib.hid hR2; have HY := Lib.hid hY
    clear hR2 hc hcW hz2 hY hv3 hz3 hR3 hO3 hc3 hV HS
    obtain ⟨t, ee, hB2, rest, j, rfl, rfl, hT⟩ := HR2.out
    obtain ⟨c0, c1, c2, c3, c4, c5, c6⟩ := rdb_cell hB2
    have a1 := cell_past (.cells #[.int .i64 6, .slice none 0 0, .int .i64 f, .int .u64 18446744073709551615, .int .i64 0, .int .u64 0] 37) c1
    clear hB2 hT c0 c1 c2 c3 c4 c5 c6
    by_cases hk4 : t.kind = 4
    rotate_left
    have b4 : (t.kind == 4) = false := by rw [beq_eq_false_iff_ne]; exact hk4
    obtain ⟨m, hm⟩ : ∃ m : Int, m = 18446744073709551615 := ⟨_, rfl⟩
    obtain ⟨L5, hL5⟩ : ∃ L5, L5 = t :: rest := ⟨_, rfl⟩
    have HMV : Hid (maskP ep (t :: rest) = .ok (m, L5)) := Lib.hid (by rw [hm, hL5]; show (if t.kind = 4 then _ else _) = _; rw [if_neg hk4])
    rw [← hL5] at HR3
    clear hL5
    clear hk4
    go_wp2_with fail
    rw [← hm] at HR3 HC3 HZ3 HV3 ⊢
    have HR5 := HR3; have HC5 := HC3; have HZ5 := HZ3; have HV5 := HV3
    rw [← HV2.out] at HV5 ⊢
    generalize W2.alloc (.cells #[.int .i64 6, .slice none 0 0, .int .i64 f, .int .u64 m, .int .i64 0, .int .u64 0] 37) = W5 at *
    clear b4 a1 hm HR3 HC3 HZ3 HV3 HY HM HO3
    rotate_left
    have b4 : (t.kind == 4) = true := by rw [beq_iff_eq]; exact hk4
    have HMK : Hid (maskP ep (t :: rest) = bnd (maybeP ep sAmp (t :: rest)) (fun p => if p.1 = true then bnd (kindP ep 3 p.2) (fun q => .ok (q.1.num, q.2)) else .ok (18446744073709551615, p.2))) := Lib.hid (by show (if t.kind = 4 then _ else _) = _; rw [if_pos hk4])
    clear hk4
    rcases hmb : maybeP ep sAmp (t :: rest) with p | ⟨b, L4⟩
    · have HMB := Lib.hid hmb; clear hmb
      go_wp2_with fail
      refine HM.out.mono ?_
      rintro e W4 h
      obtain ⟨rfl, hc⟩ := h.err HMB.out
      go_wp2
      exact ⟨rfl, Outs.mk_err (by rw [HV.out, HMK.out, HMB.out]; rfl) rfl (HC3.out.trans hc (fun k e => .inl e))⟩
    have HMB := Lib.hid hmb; clear hmb
    go_wp2_with fail
    rw [← HV2.out]
    refine HM.out.mono ?_
    rintro e W4 h
    obtain ⟨⟨rfl, hR4⟩, hc⟩ := h.ok HMB.out
    have hz4 := chg_block hc HZ3.out (by omega)
    have hv4 := chg_block hc HV3.out (by omega)
    rw [← HV2.out] at hv4
    have hc4 := HC3.out.trans hc (fun k e => .inl e)
    have hV4 : V < W4.heap.size := (Array.getElem?_eq_some_iff.1 hv4).1
    have hO4 := HO3.out.chg hc
    have HR4 := Lib.hid hR4; have HC4 := Lib.hid hc4; have HZ4 := Lib.hid hz4; have HV4 := Lib.hid hv4; have HO4 := Lib.hid hO4
    clear hR4 hc4 hz4 hv4 hO4 hc a1 b4 HR3 HC3 HZ3 HV3 HY HM HO3
    cases b
    obtain ⟨m, hm⟩ : ∃ m : Int, m = 18446744073709551615 := ⟨_, rfl⟩
    have HMV : Hid (maskP ep (t :: rest) = .ok (m, L4)) := Lib.hid (by rw [HMK.out, HMB.out, hm]; rfl)
    go_wp2_with fail
    rw [← hm] at HV4 ⊢
    obtain ⟨L5, hL5⟩ : ∃ L5, L5 = L4 := ⟨_, rfl⟩
    rw [← hL5] at HMV HR4
    clear hL5
    have HR5 := HR4; have HC5 := HC4; have HZ5 := HZ4; have HV5 := HV4
    obtain ⟨W5, hW5⟩ : ∃ W5, W5 = W4 := ⟨_, rfl⟩
    rw [← hW5] at HR5 HC5 HZ5 HV5 ⊢
    clear hm HR4 HC4 HZ4 HV4 HO4 HMK HMB hW5
    rotate_left
    have HK := Lib.hid (kind_any s ep g L4 d 3 w0 W4 HO4.out HR4.out)
    rcases hkq : kindP ep 3 L4 with p | ⟨q, L5⟩
    · have HKQ := Lib.hid hkq; clear hkq
      go_wp2_with fail
      refine HK.out.mono ?_
      rintro e W6 h
      obtain ⟨rfl, hc⟩ := h.err HKQ.out
      go_wp2
      exact ⟨rfl, Outs.mk_err (by rw [HV.out, HMK.out, HMB.out]; show bnd (bnd (kindP ep 3 L4) _) _ = _; rw [HKQ.out]; rfl) rfl (HC4.out.trans hc (fun k e => .inl e))⟩
    have HKQ := Lib.hid hkq; clear hkq
    have HMV : Hid (maskP ep (t :: rest) = .ok (q.num, L5)) := Lib.hid (by rw [HMK.out, HMB.out]; show bnd (kindP ep 3 L4) _ = _; rw [HKQ.out]; rfl)
    go_wp2_with fail
    refine HK.out.mono ?_
    rintro e W6 h
    obtain ⟨⟨rfl, hR6⟩, hc⟩ := h.ok HKQ.out
    have hz6 := chg_block hc HZ4.out (by omega)
    have hv6 := chg_block hc HV4.out (by omega)
    obtain ⟨y0, y1, y2, y3, y4, y5, yf⟩ := blk6 hv6
    obtain ⟨m, hm⟩ : ∃ m, m = q.num := ⟨_, rfl⟩
    unfold tkVal
    dsimp only
    rw [← hm] at HMV ⊢
    have HR5 := Lib.hid (hR6.far V 3 (by omega) (.int .u64 m))
    have HC5 := Lib.hid ((HC4.out.trans hc (fun k e => .inl e)).set1 V 3 (by omega) (.int .u64 m))
    have HZ5 := Lib.hid ((Below.heap_setCell W6 ⟨V, 3, none⟩ (.int .u64 m) W.heap.size (by show W.heap.size ≠ V; omega)).trans hz6)
    have HV5 := Lib.hid (blk_set hv6 3 (.int .u64 m))
    clear hR6 hc hz6 hv6 hm
    go_wp2_with fail
    generalize W6.setCell ⟨V, 3, none⟩ (.int .u64 m) = W5 at *
    clear y0 y1 y2 y3 y4 y5 yf HR4 HC4 HZ4 HV4 HO4 HMK HMB HK HKQ hV4
    all_goals
      refine (rels_any W5).mono ?_
      rintro e W6 ⟨rfl, rfl⟩
      have hq6 : (W5.alloc relsObj).heap[W5.heap.size]? = some (.cells (relsT.map Value.string).toArray 9 (0, 0)) := new_blk W5 _ _
      have hb6 : Below W5.heap.size W5 (W5.alloc relsObj) := (Below.refl _ W5).alloc (Nat.le_refl _) _
      have HR6 := Lib.hid (HR5.out.below hb6)
      have HC6 := Lib.hid (HC5.out.trans (Chg.of_below hb6 (fun k => k = g)) (fun k e => .inl e))
      have HZ6 := Lib.hid (blk_past relsObj HZ5.out)
      have HV6 := Lib.hid (blk_past relsObj HV5.out)
      have hV5 : V < W5.heap.size := (Array.getElem?_eq_some_iff.1 HV5.out).1
      obtain ⟨B, hB⟩ : ∃ B, B = W5.heap.size := ⟨_, rfl⟩
      have hVB : V < B := by omega
      go_wp2
      rw [← hB] at hq6 ⊢
      show Code.wp _ _ _ _ (W5.alloc relsObj)
      generalize W5.alloc relsObj = W6 at *
      have HQ6 := Lib.hid hq6
      clear hq6 hb6 HR5 HC5 HZ5 HV5 hV5 hB
      go_loopw [28] (fun vi wr => ∃ i : Nat, vi = .int .i64 i ∧ i ≤ 6 ∧ Hid (wr.heap[V]? = some (.cells #[.int .i64 6, .slice none 0 0, .int .i64 f, .int .u64 m, .int .i64 (relF (hdT L5) i), .int .u64 0] 37 (0, 0))) ∧ Hid (Chg (fun k => k = V) W6 wr)) (fun vi _ => 6 - (intOf vi).toNat)
      case atStart => exact ⟨0, rfl, by omega, HV6, Lib.hid (Chg.refl _ _)⟩
      case round =>
        obtain ⟨i, rfl, hi, HVr, HCr⟩ := hrel
        have hRr : Rdr s ep g L5 d wr := by
          obtain ⟨t', e', hB', hA'⟩ := HR6.out
          exact ⟨t', e', chg_block HCr.out hB' (by omega), hA'⟩
        have HRr := Lib.hid hRr; clear hRr
        obtain ⟨y0, y1, y2, y3, y4, y5, yf⟩ := blk6 HVr.out
        by_cases hlt : i < 6
        · have x0 := rels_blk (chg_block HCr.out HQ6.out (by omega)) i hlt
          have HI := Lib.hid (is_any s ep g L5 d (relsT.getD i nil0) wr HRr.out)
          have hstep : relF (hdT L5) (i + 1) = if isT (relsT.getD i nil0) (hdT L5) then (i : Int) + 1 else relF (hdT L5) i := rfl
          have HST := Lib.hid hstep; clear hstep
          cases hb : isT (relsT.getD i nil0) (hdT L5) with
          | false =>
            rw [hb] at HI HST
            clear hb
            go_wp2_with fail
            refine HI.out.mono ?_
            rintro e wr' ⟨rfl, rfl⟩
            go_wp2
            exact ⟨⟨i + 1, by go_num, by omega, Lib.hid (by rw [HST.out]; exact HVr.out), HCr⟩, by simp [intOf]; omega⟩
          | true =>
            rw [hb] at HI HST
            clear hb
            go_wp2_with fail
            refine HI.out.mono ?_
            rintro e wr' ⟨rfl, rfl⟩
            go_wp2
            exact ⟨⟨i + 1, by go_num, by omega, Lib.hid (by rw [HST.out]; exact blk_set HVr.out 4 (.int .i64 ((i : Int) + 1))), Lib.hid (HCr.out.trans (Chg.of_set wr V 4 _) (fun k e => .inl e))⟩, by simp [intOf]; omega⟩
        · obtain rfl : i = 6 := by omega
          have hcw := HC6.out.trans HCr.out (fun k e => .inr (by omega))
          have hzr := chg_block HCr.out HZ6.out (by omega)
          have hwr : W.heap.size < wr.heap.size := by have := (Array.getElem?_eq_some_iff.1 hzr).1; omega
          have hVr : V < wr.heap.size := (Array.getElem?_eq_some_iff.1 HVr.out).1
          have hkn := relF_kind (hdT L5) 6
          obtain ⟨r, hr⟩ : ∃ r, r = relF (hdT L5) 6 := ⟨_, rfl⟩
          have hv2 : testP ep f L = if r = 0 then .error (badP 61 L5) else bnd (stepP ep L5) (fun L3 => bnd (kindP ep 3 L3) (fun q => .ok (⟨6, [], f, m, r, q.1.num⟩, q.2))) := by rw [HV.out, HMV.out, hr]; rfl
          rw [← hr] at y4 HVr hkn
          have HOr := Lib.hid (HO.out.chg hcw)
          have HCW := Lib.hid hcw; have HZr := Lib.hid hzr; have HV3' := Lib.hid hv2
          clear hcw hzr hv2 hr HV HMV
          by_cases hr0 : r = 0
          · have hrb : (r == 0) = true := by rw [beq_iff_eq]; exact hr0
            have HT : Hid (testP ep f L = .error (badP 61 L5)) := Lib.hid (by rw [HV3'.out, if_pos hr0])
            clear hr0
            go_wp2_with fail
            refine (bad_any s ep g L5 d 61 wr HRr.out).mono ?_
            rintro e W7 ⟨he, rfl⟩
            unfold panics at he
            subst he
            go_wp2
            exact ⟨rfl, Outs.mk_err HT.out rfl HCW.out⟩
          · have hrb : (r == 0) = false := by rw [beq_eq_false_iff_ne]; exact hr0
            have HT : Hid (testP ep f L = bnd (stepP ep L5) (fun L3 => bnd (kindP ep 3 L3) (fun q => .ok (⟨6, [], f, m, r, q.1.num⟩, q.2)))) := Lib.hid (by rw [HV3'.out, if_neg hr0])
            have HS := Lib.hid (step_any s ep g L5 d w0 wr HOr.out HRr.out (hkn hr0))
            clear hr0 hkn
            rcases hs : stepP ep L5 with p | L7
            · have HSE := Lib.hid hs; clear hs
              go_wp2_with fail
              refine HS.out.mono ?_
              rintro e W7 h
              obtain ⟨rfl, hc⟩ := h.err HSE.out
              go_wp2
              exact ⟨rfl, Outs.mk_err (by rw [HT.out, HSE.out]; rfl) rfl (HCW.out.trans hc (fun k e => .inl e))⟩
            · have HSE := Lib.hid hs; clear hs
              go_wp2_with fail
              refine HS.out.mono ?_
              rintro e W7 h
              obtain ⟨⟨rfl, hR7⟩, hc⟩ := h.ok HSE.out
              have hv7 := chg_block hc HVr.out (by omega)
              have hz7 := chg_block hc HZr.out (by omega)
              have HK := Lib.hid (kind_any s ep g L7 d 3 w0 W7 (HOr.out.chg hc) hR7)
              have HC7 := Lib.hid (HCW.out.trans hc (fun k e => .inl e)); have HV7 := Lib.hid hv7; have HZ7 := Lib.hid hz7
              clear hv7 hz7 hc hR7 y0 y1 y2 y3 y4 y5 yf
              rcases hkq : kindP ep 3 L7 with p | ⟨q, L8⟩
              · have HKQ := Lib.hid hkq; clear hkq
                go_wp2_with fail
                refine HK.out.mono ?_
                rintro e W8 h
                obtain ⟨rfl, hc⟩ := h.err HKQ.out
                go_wp2
                exact ⟨rfl, Outs.mk_err (by rw [HT.out, HSE.out]; show bnd (kindP ep 3 L7) _ = _; rw [HKQ.out]; rfl) rfl (HC7.out.trans hc (fun k e => .inl e))⟩
              · have HKQ := Lib.hid hkq; clear hkq
                go_wp2_with fail
                refine HK.out.mono ?_
                rintro e W8 h
                obtain ⟨⟨rfl, hR8⟩, hc⟩ := h.ok HKQ.out
                have hv8 := chg_block hc HV7.out (by omega)
                have hz8 := chg_block hc HZ7.out (by omega)
                obtain ⟨y0, y1, y2, y3, y4, y5, yf⟩ := blk6 hv8
                obtain ⟨z0, z1, z2, z3, z4, z5, zf⟩ := blk6 hz8
                have HR8 := Lib.hid hR8; have HC8 := Lib.hid (HC7.out.trans hc (fun k e => .inl e)); have HZ8 := Lib.hid hz8
                have hne : W.heap.size ≠ V := by omega
                clear hR8 hc hz8 hv8
                unfold tkVal
                go_wp2
                have hb6 := blk_sets6 ((Below.heap_setCell W8 ⟨V, 5, none⟩ (.int .u64 q.num) W.heap.size (by show W.heap.size ≠ V; omega)).trans HZ8.out) (.int .i64 6) (.slice none 0 0) (.int .i64 f) (.int .u64 m) (.int .i64 r) (.int .u64 q.num)
                obtain ⟨r0, r1, r2, r3, r4, r5, rf⟩ := blk6 hb6
                refine bodyPost_ret (v := exAgg ⟨6, [], f, m, r, q.num⟩ (.slice none 0 0)) (by simp [results, Tryz.results91, go_sem, r0, r1, r2, r3, r4, r5]) rfl ?_
                refine Outs.mk_ok (b := (⟨6, [], f, m, r, q.num⟩, L8)) (by rw [HT.out, HSE.out]; show bnd (kindP ep 3 L7) _ = _; rw [HKQ.out]; rfl) ⟨.slice none 0 0, rfl, Kd.R_nil _ _ _ _ _, ?_⟩ ((HC8.out.set1 V 5 (by omega) _).sets6 W.heap.size (Nat.le_refl _) _ _ _ _ _ _)
                exact (HR8.out.far V 5 (by omega) _).far6 W.heap.size (by omega) _ _ _ _ _ _
end Go.Proofs.YtlmopoipjolbgaaGreatDoor.LexW
