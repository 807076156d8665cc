/-
  Layer 6 (policy), plain: how a policy is written; how long that is. · policy.around, among, verdict: how they are written. · policy.PrintExpr, inner: how an expression is written. · The package-level variables that the rows list: what the writing of numbers needs of them. · Layer 6 (policy): the reference's Same, on equal policies: true.
-/
import Derived.Test.YtlmopoipjolbgaaGreatDoorM05
import Derived.Lib.Builder
import Derived.Test.YtlmopoipjolbgaaGreatDoorM04
import Derived.Test.YtlmopoipjolbgaaGreatDoorM03
namespace Go.Proofs.YtlmopoipjolbgaaGreatDoor.LexW
open Go.RowKit Go.Shelf Go.Proofs.YtlmopoipjolbgaaGreatDoor.LexS Go.Proofs.YtlmopoipjolbgaaGreatDoorW.PrintWords
set_option linter.unusedVariables false
set_option linter.unusedSimpArgs false

/-- a verdict, as it is written -/
def vdW (v : Vd) : ByteArray × Int × Bool := wordsT.getD (v.f0.toNat - 1) (nil0, 0, false)
def vdT (v : Vd) : ByteArray := if (vdW v).2.2 = true then ((vdW v).1 ++ sSp) ++ numB v.f1 else (vdW v).1
theorem words_kind : ∀ i, i < 8 → (wordsT.getD i (nil0, 0, false)).2.1 = (i : Int) + 1 := by decide
theorem words_size : ∀ i, i < 8 → (wordsT.getD i (nil0, 0, false)).1.size ≤ 12 := by decide
theorem vdT_size {v : Vd} (h : okV v) : (vdT v).size ≤ 33 := by
  have h1 := words_size (v.f0.toNat - 1) (by have := h.1; have := h.2.1; omega)
  have h2 := numB_size v.f1 h.2.2.1
  unfold vdT
  unfold vdW
  split
  · simp only [ByteArray.size_append]
    have : sSp.size = 1 := rfl
    omega
  · omega
def callT (c : Cl) : ByteArray := if c.f0 = nil0 then numB c.f1 else c.f0
def whenT (x : Ex) : ByteArray := if x.f0 = 1 then nil0 else sWhenS ++ prE x
def ruleT (r : Rl) : ByteArray := ((sOnS ++ joinT sCommaS (r.f0.map callT)) ++ whenT r.f1) ++ ((sDoS ++ vdT r.f2) ++ sSemiN)
def headT (p : Po) : ByteArray := (((((sArchS ++ p.arch) ++ sForS) ++ vdT p.foreign) ++ sDefS) ++ vdT p.dflt) ++ sSemiN
def outL (p : Po) (k : Nat) : List UInt8 := (headT p).data.toList ++ (p.rules.take k).flatMap fun r => (ruleT r).data.toList
/-- a policy, as it is written -/
def prP (p : Po) : ByteArray := ⟨(outL p p.rules.length).toArray⟩

theorem word_size {l : List UInt8} (h : wordL l = true) : l.length ≤ 32 := by
  unfold wordL at h
  exact (of_decide_eq_true h).2.1
theorem callT_size {c : Cl} (h : okC c) : (callT c).size ≤ 32 := by
  unfold callT
  rcases h with ⟨h1, h2⟩ | ⟨h1, h2⟩
  · rw [if_pos h1]; exact Nat.le_trans (numB_size _ h2) (by omega)
  · split
    · rw [h1]; exact Nat.le_trans (numB_size _ u64_0) (by omega)
    · rw [ba_size]; exact word_size h2
theorem calls_size : ∀ l : List Cl, (∀ c ∈ l, okC c) → sumT (l.map callT) ≤ 32 * l.length
  | [], _ => by simp [sumT]
  | c :: l, h => by
    have h1 := callT_size (h c (by simp))
    have h2 := calls_size l (fun x hx => h x (List.mem_cons_of_mem _ hx))
    rw [List.map_cons, sumT_cons, List.length_cons]
    omega
theorem join_calls {r : Rl} (h : okR r) : (joinT sCommaS (r.f0.map callT)).size ≤ 34 * r.f0.length := by
  have h1 := joinT_size sCommaS (r.f0.map callT)
  have h2 := calls_size r.f0 h.calls
  rw [List.length_map] at h1
  have : sCommaS.size = 2 := rfl
  rw [this] at h1
  omega
theorem whenT_size {x : Ex} (h : okE x) : (whenT x).size ≤ 64 * wE x := by
  unfold whenT
  split
  · show (0 : Nat) ≤ _; omega
  · have := prE_size x h
    rw [ByteArray.size_append]
    have : sWhenS.size = 6 := rfl
    omega
theorem ruleT_size {r : Rl} (h : okR r) : (ruleT r).size ≤ 64 * wR r := by
  have h1 := join_calls h
  have h2 := whenT_size h.cond
  have h3 := vdT_size h.verd
  unfold ruleT wR
  simp only [ByteArray.size_append]
  have : sOnS.size = 3 := rfl
  have : sDoS.size = 4 := rfl
  have : sSemiN.size = 2 := rfl
  omega
theorem headT_size {p : Po} (h : okP p) : (headT p).size ≤ 200 := by
  have h1 := vdT_size h.forn
  have h2 := vdT_size h.dflt
  have h3 := word_size h.arch
  rw [← ba_size] at h3
  unfold headT
  simp only [ByteArray.size_append]
  have : sArchS.size = 5 := rfl
  have : sForS.size = 10 := rfl
  have : sDefS.size = 10 := rfl
  have : sSemiN.size = 2 := rfl
  omega
theorem rules_len : ∀ l : List Rl, (∀ r ∈ l, okR r) → (l.flatMap fun r => (ruleT r).data.toList).length ≤ 64 * sumW wR l
  | [], _ => by simp
  | r :: l, h => by
    have h1 := ruleT_size (h r (by simp))
    have h2 := rules_len l (fun x hx => h x (List.mem_cons_of_mem _ hx))
    rw [ba_size] at h1
    rw [List.flatMap_cons, List.length_append]
    simp only [sumW, List.map_cons, List.sum_cons] at h2 ⊢
    omega
theorem sumW_take {α : Type} (w : α → Nat) : ∀ (l : List α) (k : Nat), sumW w (l.take k) ≤ sumW w l
  | [], k => by simp
  | x :: l, 0 => by simp [sumW]
  | x :: l, k + 1 => by
    have := sumW_take w l k
    simp only [List.take_succ_cons, sumW, List.map_cons, List.sum_cons] at this ⊢
    omega
theorem outL_len {p : Po} (h : okP p) (hw : wP p ≤ 100000) (k : Nat) : (outL p k).length ≤ 6400200 := by
  have h1 := headT_size h
  rw [ba_size] at h1
  have h2 := rules_len (p.rules.take k) (fun r hr => h.rules r (List.mem_of_mem_take hr))
  have h3 := sumW_take wR p.rules k
  unfold wP at hw
  unfold outL
  rw [List.length_append]
  omega
theorem wR_mem {r : Rl} : ∀ {l : List Rl}, r ∈ l → wR r ≤ sumW wR l
  | x :: l, h => by
    simp only [sumW, List.map_cons, List.sum_cons]
    rcases List.mem_cons.1 h with rfl | h
    · omega
    · have := wR_mem h; simp only [sumW] at this; omega
theorem outL_succ (p : Po) (k : Nat) (h : k < p.rules.length) : outL p (k + 1) = outL p k ++ (ruleT (rd_Rl p.rules (k : Int))).data.toList := by
  have hr : rd_Rl p.rules (k : Int) = p.rules[k] := by
    unfold rd_Rl
    rw [Int.toNat_natCast, List.getD_eq_getElem?_getD, List.getElem?_eq_getElem h]
    rfl
  unfold outL
  rw [List.take_succ_eq_append_getElem h, List.flatMap_append, ← List.append_assoc, hr]
  simp
theorem rdRl_mem {l : List Rl} {k : Nat} (h : k < l.length) : rd_Rl l (k : Int) ∈ l := by
  unfold rd_Rl
  rw [Int.toNat_natCast, List.getD_eq_getElem?_getD, List.getElem?_eq_getElem h]
  exact List.getElem_mem h
theorem byteCells_app (l : List UInt8) (s : ByteArray) : Lib.byteCells (l ++ s.data.toList) = Lib.byteCells l ++ Lib.strCells s := by
  simp [Lib.byteCells, Lib.strCells]
theorem byteCells_len (l : List UInt8) : (Lib.byteCells l).length = l.length := by simp [Lib.byteCells]
end Go.Proofs.YtlmopoipjolbgaaGreatDoor.LexW
namespace Go.Proofs.YtlmopoipjolbgaaGreatDoor.LexW
open Go.RowKit Go.Shelf Go.Proofs.YtlmopoipjolbgaaGreatDoor.LexS Go.Proofs.YtlmopoipjolbgaaGreatDoorW.PrintWords
set_option linter.unusedVariables false
set_option linter.unusedSimpArgs false

abbrev exBoxV (x : Ex) (v : Value) : Obj := .cells #[.int .i64 x.f0, v, .int .i64 x.f2, .int .u64 x.f3, .int .i64 x.f4, .int .u64 x.f5] 37
set_option maxRecDepth 100000 in
theorem around_any (op : Int) (x : Ex) (v : Value) (w : World) :
    Calls Tryz.prog 49 #[.int .i64 op, .agg #[.int .i64 x.f0, v, .int .i64 x.f2, .int .u64 x.f3, .int .i64 x.f4, .int .u64 x.f5]] w fun e w' => e = .returned (.bool (aroundB op x.f0)) ∧ w' = w.alloc (exBoxV x v) := by
  have hblk : (w.alloc (exBoxV x v)).heap[w.heap.size]? = some (.cells #[.int .i64 x.f0, v, .int .i64 x.f2, .int .u64 x.f3, .int .i64 x.f4, .int .u64 x.f5] 37 (0, 0)) := new_blk w _ _
  obtain ⟨y0, -, -, -, -, -⟩ := box6 hblk
  clear hblk
  by_cases h5 : x.f0 = 5
  · have hb : (x.f0 == 5) = true := by simpa using h5
    have hr : aroundB op x.f0 = true := by simp [aroundB, h5]
    rw [hr]
    clear h5 hr
    go_enter Tryz.func49, Tryz.ntmps49
    go_wp2
    go_ret
    exact ⟨rfl, rfl⟩
  · have hb : (x.f0 == 5) = false := by simpa using h5
    by_cases h4 : x.f0 = 4
    · have hb4 : (x.f0 == 4) = true := by simpa using h4
      by_cases ho : op = 5
      · have hbo : (op != 5) = false := by simpa using ho
        have hr : aroundB op x.f0 = false := by simp [aroundB, h5, ho]
        rw [hr]
        clear h5 h4 ho hr
        go_enter Tryz.func49, Tryz.ntmps49
        go_wp2
        go_ret
        exact ⟨rfl, rfl⟩
      · have hbo : (op != 5) = true := by simpa using ho
        have hr : aroundB op x.f0 = true := by simp [aroundB, h4, ho]
        rw [hr]
        clear h5 h4 ho hr
        go_enter Tryz.func49, Tryz.ntmps49
        go_wp2
        go_ret
        exact ⟨rfl, rfl⟩
    · have hb4 : (x.f0 == 4) = false := by simpa using h4
      have hr : aroundB op x.f0 = false := by simp [aroundB, h5, h4]
      rw [hr]
      clear h5 h4 hr
      go_enter Tryz.func49, Tryz.ntmps49
      go_wp2
      go_ret
      exact ⟨rfl, rfl⟩

set_option maxRecDepth 100000 in
theorem clone_any (s : ByteArray) (w : World) (hlim : s.size ≤ 281474976710656) :
    Calls Tryz.prog 77 #[.string s] w fun e w' => e = .returned (.string s) ∧ Below w.heap.size w w' := by
  have HC := Lib.hid (fun W => Tryz.stringslite_Clone s W hlim)
  clear hlim
  go_enter Tryz.func77, Tryz.ntmps77
  go_wp2_with (go_at_call 98; refine (HC.out _).mono ?_; rintro e w' ⟨rfl, hb⟩)
  go_ret
  exact ⟨rfl, hb⟩

theorem pfields_blk {w : World} {B : Nat} (h : w.heap[B]? = some fieldsObj) (i : Nat) (hi : i < 7) : w.cell? ⟨B, i, none⟩ = some (.string (fieldsT.getD i nil0)) ∧ (fieldsT.getD i nil0).size ≤ 4 := by
  unfold fieldsObj at h
  match i, hi with
  | 0, _ | 1, _ | 2, _ | 3, _ | 4, _ | 5, _ | 6, _ => exact ⟨by simp [World.cell?, h, fieldsT], by decide⟩
theorem prels_blk {w : World} {B : Nat} (h : w.heap[B]? = some relsObj) (i : Nat) (hi : i < 6) : w.cell? ⟨B, i, none⟩ = some (.string (relsT.getD i nil0)) ∧ (relsT.getD i nil0).size ≤ 4 := by
  unfold relsObj at h
  match i, hi with
  | 0, _ | 1, _ | 2, _ | 3, _ | 4, _ | 5, _ => exact ⟨by simp [World.cell?, h, relsT], by decide⟩

set_option maxRecDepth 100000 in
/-- among, at a place that is there -/
theorem among_any (l : List ByteArray) (i : Int) (B n : Nat) (w : World) (h0 : 0 ≤ i) (h1 : i < n) (hn : n ≤ 100) (hl : l.length = n) (hc : w.cell? ⟨B, i.toNat, none⟩ = some (.string (l.getD i.toNat nil0))) (hz : (l.getD i.toNat nil0).size ≤ 4) :
    Calls Tryz.prog 43 #[.slice (some ⟨B, 0, none⟩) n n, .int .i64 i] w fun e w' => e = .returned (.string (amongT l i)) ∧ Below w.heap.size w w' := by
  have hr : amongT l i = l.getD i.toNat nil0 := by unfold amongT; rw [if_neg (by omega)]
  rw [hr]
  obtain ⟨j, rfl⟩ : ∃ j : Nat, i = j := ⟨i.toNat, by omega⟩
  rw [Int.toNat_natCast] at hc hz ⊢
  obtain ⟨y, hy⟩ : ∃ y, y = l.getD j nil0 := ⟨_, rfl⟩
  rw [← hy] at hc hz ⊢
  have HC := Lib.hid (fun W => clone_any y W (by omega))
  have h0b : decide ((j : Int) < 0) = false := by simp
  have h1b : decide ((n : Int) ≤ (j : Int)) = false := by simp; omega
  have hj : j < n := by omega
  have hc2 : w.cell? ((⟨B, 0, none⟩ : Addr).add j) = some (.string y) := by rw [Lib.add_plain, Nat.zero_add]; exact hc
  clear hr hy hz hl h1 h0
  go_enter Tryz.func43, Tryz.ntmps43
  go_wp2_with (go_at_call 77; refine (HC.out _).mono ?_; rintro e w' ⟨rfl, hb⟩)
  go_ret
  exact ⟨rfl, hb⟩

/-! ### verdict -/
theorem numB_sz (v : Int) (h0 : 0 ≤ v) (h1 : v < 18446744073709551616) : (numB v).size ≤ 20 := by
  have hs : (numB v).size = (Lib.decDigits v.toNat).length := by simp [numB, ByteArray.size]
  rw [hs, Lib.decDigits_length]
  rcases Nat.eq_zero_or_pos v.toNat with h | h
  · rw [h, Lib.nDigits_small (by omega)]; omega
  · have := Lib.numDigits_eq v.toNat h (by omega)
    split at this <;> omega
theorem wrap_s {m : Nat} (h : m < 9223372036854775807) : wrap64 ((m : Int) + 1) = (m : Int) + 1 := by unfold wrap64; omega
theorem PowT.drew {w : World} (h : PowT w) : PowT w.drew := h.below (Below.refl _ _).drew
abbrev vdBox (v : Vd) : Obj := .cells #[.int .i64 v.f0, .int .u64 v.f1] 26
abbrev wdBox (x : ByteArray × Int × Bool) : Obj := .cells #[.string x.1, .int .i64 x.2.1, .bool x.2.2] 112

set_option maxHeartbeats 2000000 in
set_option maxRecDepth 100000 in
theorem pverdict_any (v : Vd) (hv : okV v) (w : World) (hP : PowT w) :
    Calls Tryz.prog 37 #[.agg #[.int .i64 v.f0, .int .u64 v.f1]] w fun e w' => e = .returned (.string (vdT v)) ∧ Below w.heap.size w w' := by
  obtain ⟨hv1, hv8, hu, hz⟩ := hv
  obtain ⟨n, hn⟩ : ∃ n : Nat, v.f0 = (n : Int) + 1 := ⟨v.f0.toNat - 1, by omega⟩
  have hn8 : n < 8 := by omega
  have hvd : vdW v = wordsT.getD n (nil0, 0, false) := by unfold vdW; rw [hn]; congr 1
  have HVD := Lib.hid hvd
  have HU := Lib.hid hu
  clear hz hvd hv1 hv8 hu
  have hb0 : Below w.heap.size w ((w.alloc (vdBox v)).alloc wordsObj) := ((Below.refl _ w).alloc (Nat.le_refl _) _).alloc (by simp) _
  have hw0 : ((w.alloc (vdBox v)).alloc wordsObj).heap[w.heap.size + 1]? = some (.cells (wordsT.flatMap wordCells).toArray 112 (0, 0)) := new_blk' (by simp) _ _
  have hv0 : ((w.alloc (vdBox v)).alloc wordsObj).heap[w.heap.size]? = some (.cells #[.int .i64 v.f0, .int .u64 v.f1] 26 (0, 0)) := blk_past _ (new_blk w _ _)
  have hs0 : ((w.alloc (vdBox v)).alloc wordsObj).heap.size = w.heap.size + 2 := by simp
  have HB0 := Lib.hid hb0; have HW0 := Lib.hid hw0; have HV0 := Lib.hid hv0; have HS0 := Lib.hid hs0; have HP := Lib.hid hP; have HN := Lib.hid hn
  clear hb0 hw0 hv0 hs0 hP hn
  go_enter Tryz.func37, Tryz.ntmps37
  go_wp2_with fail
  refine (words_any _).mono ?_
  rintro e W1 ⟨rfl, rfl⟩
  go_wp2
  go_loopw [7] (fun vi wr => ∃ k : Nat, vi = .int .i64 k ∧ k ≤ n ∧ Hid (Below ((w.alloc (vdBox v)).alloc wordsObj).heap.size ((w.alloc (vdBox v)).alloc wordsObj) wr)) (fun vi _ => 8 - (intOf vi).toNat)
  case atStart => exact ⟨0, rfl, by omega, Lib.hid (Below.refl _ _)⟩
  case round =>
    obtain ⟨k, rfl, hk, HB⟩ := hrel
    have hk8 : k < 8 := by omega
    have hlt : decide ((k : Int) < 8) = true := by simp; omega
    have hws := HB.out.size
    rw [HS0.out] at hws
    have hbw : Below w.heap.size w wr := HB0.out.trans (HB.out.mono (by rw [HS0.out]; omega))
    obtain ⟨x0, x1, x2⟩ := words_blk ((HB.out.block _ (by rw [HS0.out]; omega)).trans HW0.out) k hk8
    have hv2 := (HB.out.block w.heap.size (by rw [HS0.out]; omega)).trans HV0.out
    have hx1 := words_kind k hk8
    have hx2 := words_size k hk8
    have hPr := HP.out.below hbw
    have hxk : k = n → vdW v = wordsT.getD k (nil0, 0, false) := fun e => by rw [e]; exact HVD.out
    obtain ⟨x, hx⟩ : ∃ x, x = wordsT.getD k (nil0, 0, false) := ⟨_, rfl⟩
    rw [← hx] at x0 x1 x2 hx1 hx2 hxk
    clear hx
    obtain ⟨xt, xk, xn⟩ := x
    dsimp only at x0 x1 x2 hx1 hx2
    have hal : Below wr.heap.size wr (wr.alloc (wdBox (xt, xk, xn))) := (Below.refl _ _).alloc (Nat.le_refl _) _
    have hxb : (wr.alloc (wdBox (xt, xk, xn))).heap[wr.heap.size]? = some (.cells #[.string xt, .int .i64 xk, .bool xn] 112 (0, 0)) := new_blk wr _ _
    obtain ⟨y0, y1, y2, -⟩ := blk3 hxb
    have hvb := (hal.block w.heap.size (by omega)).trans hv2
    obtain ⟨z0, z1⟩ : (wr.alloc (wdBox (xt, xk, xn))).cell? ⟨w.heap.size, 0, none⟩ = some (.int .i64 v.f0) ∧ (wr.alloc (wdBox (xt, xk, xn))).cell? ⟨w.heap.size, 1, none⟩ = some (.int .u64 v.f1) := by
      constructor <;> simp [World.cell?, hvb]
    have HX1 := Lib.hid hx1; have HX2 := Lib.hid hx2; have HXK := Lib.hid hxk; have HPA := Lib.hid (hPr.below hal); have HBA := Lib.hid (hbw.trans (hal.mono (by omega)))
    have HBN := Lib.hid (HB.out.trans (hal.mono (by rw [HS0.out]; omega)))
    clear hv2 hx1 hx2 hPr hxk hal hxb hvb hws hbw
    have hwr : wrap64 ((k : Int) + 1) = (k : Int) + 1 := wrap_s (by omega)
    by_cases hkn : k = n
    · have hbk : (xk == v.f0) = true := by rw [HX1.out, HN.out, hkn]; simp
      have hT : vdT v = if xn = true then (xt ++ sSp) ++ numB v.f1 else xt := by unfold vdT; rw [HXK.out hkn]
      have HT := Lib.hid hT
      clear hT hwr hkn
      cases xn with
      | true =>
        have hsz : (numB v.f1).size ≤ 20 := numB_sz _ HU.out.1 HU.out.2
        have c1 : ¬ 9223372036854775807 < xt.size + 1 := by have := HX2.out; omega
        have c2 : ¬ 9223372036854775807 < xt.size + 1 + (numB v.f1).size := by have := HX2.out; omega
        have HF := Lib.hid (fmt10_any v.f1 HU.out.1 HU.out.2 (wr.alloc (wdBox (xt, xk, true))).drew HPA.out.drew)
        go_wp2
        go_region_held3 (fun w' => w'.cell? ⟨wr.heap.size, 0, none⟩ = some (.string xt) ∧ w'.cell? ⟨w.heap.size, 1, none⟩ = some (.int .u64 v.f1))
          (first | go_keep | exact ⟨bel_cell hb5 y0, bel_cell hb5 z1⟩)
          (first | (go_at_call 38; refine HF.out.mono ?_; rintro e W5 ⟨rfl, hb5⟩))
        go_wp2
        go_ret
        exact ⟨by rw [HT.out]; rfl, HBA.out.trans ((((Below.refl _ (wr.alloc (wdBox (xt, xk, true)))).drew).trans hb5).mono HBA.out.size)⟩
      | false =>
        go_wp2
        go_ret
        exact ⟨by rw [HT.out]; rfl, HBA.out⟩
    · have hbk : (xk == v.f0) = false := by rw [HX1.out, HN.out]; simp; omega
      go_wp2
      go_roundw
      case rel => exact ⟨k + 1, by simp, by omega, HBN⟩
      case measure => simp [intOf]; omega
end Go.Proofs.YtlmopoipjolbgaaGreatDoor.LexW
namespace Go.Proofs.YtlmopoipjolbgaaGreatDoor.LexW
open Go.RowKit Go.Shelf Go.Proofs.YtlmopoipjolbgaaGreatDoor.LexS Go.Proofs.YtlmopoipjolbgaaGreatDoorW.PrintWords
set_option linter.unusedVariables false
set_option linter.unusedSimpArgs false

/-- the library's tables for the writing of numbers -/
structure EnvN (w : World) : Prop where
  pow : PowT w
  tz : Tz16 w
theorem EnvN.below {w w1 : World} (h : EnvN w) (hb : Below w.heap.size w w1) : EnvN w1 := ⟨h.pow.below hb, h.tz.below hb⟩

/-- what PrintExpr is asked for one expression -/
def PeC (x : Ex) : Prop := ∀ (A : Option Addr) (c : Nat) (w : World), EnvN w → kEx.C w A x.f1.length x.f1 →
    Calls Tryz.prog 16 #[.agg #[.int .i64 x.f0, .slice A x.f1.length c, .int .i64 x.f2, .int .u64 x.f3, .int .i64 x.f4, .int .u64 x.f5]] w fun e w' => e = .returned (.string (prE x)) ∧ Below w.heap.size w w'

set_option maxHeartbeats 2000000 in
set_option maxRecDepth 100000 in
theorem inner_any (op : Int) (x : Ex) (hx : PeC x) (hz : (prE x).size ≤ 100000000) (A : Option Addr) (c : Nat) (w : World) (hE : EnvN w) (hC : kEx.C w A x.f1.length x.f1) :
    Calls Tryz.prog 42 #[.int .i64 op, .agg #[.int .i64 x.f0, .slice A x.f1.length c, .int .i64 x.f2, .int .u64 x.f3, .int .i64 x.f4, .int .u64 x.f5]] w fun e w' => e = .returned (.string (parT (aroundB op x.f0) (prE x))) ∧ Below w.heap.size w w' := by
  have hb1 : Below w.heap.size w (w.alloc (exBox x A c)) := (Below.refl _ w).alloc (Nat.le_refl _) _
  have hk1 : (w.alloc (exBox x A c)).heap[w.heap.size]? = some (.cells #[.int .i64 x.f0, .slice A x.f1.length c, .int .i64 x.f2, .int .u64 x.f3, .int .i64 x.f4, .int .u64 x.f5] 37 (0, 0)) := new_blk w _ _
  have hb2 : Below (w.alloc (exBox x A c)).heap.size (w.alloc (exBox x A c)) ((w.alloc (exBox x A c)).alloc (exBox x A c)) := (Below.refl _ _).alloc (Nat.le_refl _) _
  have hk2 := (hb2.block w.heap.size (by simp)).trans hk1
  have hbb := hb1.trans (hb2.mono hb1.size)
  have HK2 := Lib.hid hk2
  have HR := Lib.hid (hx A c _ (hE.below hbb) (Kd.C_below hC hbb))
  have HBB := Lib.hid hbb
  have c1 : ¬ 9223372036854775807 < 1 + (prE x).size := by omega
  have c2 : ¬ 9223372036854775807 < 1 + (prE x).size + 1 := by omega
  obtain ⟨y0, y1, y2, y3, y4, y5⟩ := box6 hk1
  clear hb1 hk1 hb2 hk2 hbb hx hC hE hz
  obtain ⟨S, hS⟩ : ∃ S, S = parT (aroundB op x.f0) (prE x) := ⟨_, rfl⟩
  rw [← hS]
  by_cases hr : aroundB op x.f0 = true
  · have HS : Hid (S = (sOpen ++ prE x) ++ sShut) := by rw [hS, hr]; rfl
    clear hS
    go_enter Tryz.func42, Tryz.ntmps42
    go_wp2_with fail
    refine (around_any op x (.slice A x.f1.length c) _).mono ?_
    rintro e W1 ⟨rfl, rfl⟩
    obtain ⟨z0, z1, z2, z3, z4, z5⟩ := box6 HK2.out
    go_wp2_with fail
    refine HR.out.mono ?_
    rintro e W2 ⟨rfl, hb⟩
    go_wp2
    go_ret
    exact ⟨by rw [HS.out]; rfl, HBB.out.trans (hb.mono HBB.out.size)⟩
  · have hr2 : aroundB op x.f0 = false := by simpa using hr
    have HS : Hid (S = prE x) := by rw [hS, hr2]; rfl
    clear hr hS
    go_enter Tryz.func42, Tryz.ntmps42
    go_wp2_with fail
    refine (around_any op x (.slice A x.f1.length c) _).mono ?_
    rintro e W1 ⟨rfl, rfl⟩
    obtain ⟨z0, z1, z2, z3, z4, z5⟩ := box6 HK2.out
    go_wp2_with fail
    refine HR.out.mono ?_
    rintro e W2 ⟨rfl, hb⟩
    go_wp2
    go_ret
    exact ⟨by rw [HS.out]; rfl, HBB.out.trans (hb.mono HBB.out.size)⟩

/-- a row of strings of the call's own, that holds something -/
theorem own_strs {W : World} {base n : Nat} {e : TypeId} {v : Value} {l : List ByteArray} (h : W.ownsRow base e 1 v n (pw_strs l)) (h0 : 0 < l.length) :
    ∃ g cap, v = .slice (some ⟨g, 0, none⟩) l.length cap ∧ l.length ≤ cap ∧ g < W.heap.size ∧ ∀ (j : Nat) x, l[j]? = some x → W.cell? ⟨g, 0 + j, none⟩ = some (.string x) := by
  have hn : l.length = n := by have := h.1; simpa [pw_strs] using this
  subst hn
  rcases h.2 with ⟨_, h1⟩ | ⟨g, cap, cur, rfl, hb, hh, h1, h2, h3⟩
  · omega
  · refine ⟨g, cap, rfl, h1, (Array.getElem?_eq_some_iff.1 hh).1, fun j x hx => ?_⟩
    have hc := h.cells (g := g) rfl j (.string x) (by simp [pw_strs, hx])
    rwa [Lib.add_plain] at hc
theorem join_any (g cap : Nat) (l : List ByteArray) (sep : ByteArray) (w : World) (hc : ∀ (j : Nat) x, l[j]? = some x → w.cell? ⟨g, 0 + j, none⟩ = some (.string x)) (hg : g < w.heap.size) (hcap : l.length ≤ cap) (hl : l.length ≤ 100000000) (hz : (joinT sep l).size ≤ 100000000000) :
    Calls Tryz.prog 39 #[.slice (some ⟨g, 0, none⟩) l.length cap, .string sep] w fun e w' => e = .returned (.string (joinT sep l)) ∧ Below w.heap.size w w' :=
  Tryz.strings_Join g 0 cap l sep w hc hg (by omega) hcap (by rw [ba_size, joinT_list] at hz; omega)
theorem new_fields (w : World) : (w.alloc fieldsObj).heap[w.heap.size]? = some fieldsObj := new_blk w _ _
theorem new_rels (w : World) : (w.alloc relsObj).heap[w.heap.size]? = some relsObj := new_blk w _ _
theorem new_fields_d (w : World) : (w.alloc fieldsObj).drew.heap[w.heap.size]? = some fieldsObj := new_blk w _ _
theorem new_rels_d (w : World) : (w.alloc relsObj).drew.heap[w.heap.size]? = some relsObj := new_blk w _ _
theorem among_f (f : Int) (h : 0 ≤ f ∧ f ≤ 6) (B : Nat) (W : World) (hW : W.heap[B]? = some fieldsObj) :
    Calls Tryz.prog 43 #[.slice (some ⟨B, 0, none⟩) 7 7, .int .i64 f] W fun e w' => e = .returned (.string (amongT fieldsT f)) ∧ Below W.heap.size W w' :=
  have hb := pfields_blk hW f.toNat (by omega)
  among_any fieldsT f B 7 W h.1 (by omega) (by omega) rfl hb.1 hb.2
theorem among_r (r : Int) (h : 1 ≤ r ∧ r ≤ 6) (B : Nat) (W : World) (hW : W.heap[B]? = some relsObj) :
    Calls Tryz.prog 43 #[.slice (some ⟨B, 0, none⟩) 6 6, .int .i64 (r - 1)] W fun e w' => e = .returned (.string (amongT relsT (r - 1))) ∧ Below W.heap.size W w' :=
  have hb := prels_blk hW (r - 1).toNat (by omega)
  among_any relsT (r - 1) B 6 W (by omega) (by omega) (by omega) rfl hb.1 hb.2
theorem among_rw (r : Int) (h : 1 ≤ r ∧ r ≤ 6) (B : Nat) (W : World) (hW : W.heap[B]? = some relsObj) :
    Calls Tryz.prog 43 #[.slice (some ⟨B, 0, none⟩) 6 6, .int .i64 (IntKind.i64.wrap (r - 1))] W fun e w' => e = .returned (.string (amongT relsT (r - 1))) ∧ Below W.heap.size W w' := by
  rw [show IntKind.i64.wrap (r - 1) = r - 1 by rw [IntKind.wrap_i64]; omega]
  exact among_r r h B W hW
theorem infoStr : (Tryz.prog.info? 9).map (fun i => (i.zero, i.size, i.bytes)) = some (some (.string ⟨#[]⟩), 1, 16) := by kernel_rfl
theorem pw_strs_len (l : List ByteArray) : (pw_strs l).length = l.length := by simp [pw_strs]
theorem pw_strs_snoc (l : List ByteArray) (s : ByteArray) : pw_strs (l ++ [s]) = pw_strs l ++ [.string s] := by simp [pw_strs]
theorem wE_mem {y : Ex} : ∀ {l : List Ex}, y ∈ l → wE y ≤ wL l
  | x :: l, h => by
    rw [wL]
    rcases List.mem_cons.1 h with rfl | h
    · omega
    · have := wE_mem h; omega
theorem wL_len : ∀ l : List Ex, l.length ≤ wL l
  | [] => by simp [wL]
  | x :: l => by have := wL_len l; have := wE_pos x; rw [wL, List.length_cons]; omega
theorem prL_take (op : Int) (l : List Ex) (k : Nat) (h : k < l.length) : (prL op l).take (k + 1) = (prL op l).take k ++ [parT (aroundB op (rd_Ex l (k : Int)).f0) (prE (rd_Ex l (k : Int)))] := by
  have hr : rd_Ex l (k : Int) = l[k] := by
    unfold rd_Ex
    rw [Int.toNat_natCast, List.getD_eq_getElem?_getD, List.getElem?_eq_getElem h]
    rfl
  rw [hr, prL_map, List.take_succ_eq_append_getElem (by simpa using h), List.getElem_map]
theorem rdEx_mem {l : List Ex} {k : Nat} (h : k < l.length) : rd_Ex l (k : Int) ∈ l := by
  unfold rd_Ex
  rw [Int.toNat_natCast, List.getD_eq_getElem?_getD, List.getElem?_eq_getElem h]
  exact List.getElem_mem h

set_option maxHeartbeats 4000000 in
set_option maxRecDepth 100000 in
theorem pe_any (n : Nat) : ∀ (x : Ex), SizeOf.sizeOf x < n → okE x → wE x ≤ 100000 → PeC x := by
  induction n with
  | zero => intro x h; omega
  | succ n ih =>
  intro x hx hok hw A c w hE hC
  have hok2 := hok
  rw [okE_eq] at hok2
  have hw2 := hw
  rw [wE_eq] at hw2
  have hlen := wL_len x.f1
  have hl100 : x.f1.length ≤ 100000 := by omega
  have IH := Lib.hid (fun (y : Ex) (hy : y ∈ x.f1) => ih y (by have := mem_size hy rfl; omega) ((okL_all _).1 hok2.2 y hy) (by have := wE_mem hy; omega))
  have ISZ := Lib.hid (fun (y : Ex) (hy : y ∈ x.f1) => (show (prE y).size ≤ 100000000 by have := prE_size y ((okL_all _).1 hok2.2 y hy); have := wE_mem hy; omega))
  have HN := Lib.hid hok2.1
  have HSUM := Lib.hid (show sumT (prL x.f0 x.f1) + 6 * (prL x.f0 x.f1).length ≤ 6400000 by have := prL_size x.f0 x.f1 hok2.2; omega)
  have hb1 : Below w.heap.size w (w.alloc (exBox x A c)) := (Below.refl _ w).alloc (Nat.le_refl _) _
  have hk1 : (w.alloc (exBox x A c)).heap[w.heap.size]? = some (.cells #[.int .i64 x.f0, .slice A x.f1.length c, .int .i64 x.f2, .int .u64 x.f3, .int .i64 x.f4, .int .u64 x.f5] 37 (0, 0)) := new_blk w _ _
  have hs1 : (w.alloc (exBox x A c)).heap.size = w.heap.size + 1 := by simp
  obtain ⟨y0, y1, y2, y3, y4, y5⟩ := box6 hk1
  have HB1 := Lib.hid hb1; have HK1 := Lib.hid hk1; have HS1 := Lib.hid hs1; have HC1 := Lib.hid (Kd.C_below hC hb1); have HE1 := Lib.hid (hE.below hb1)
  have HPE := Lib.hid (prE_eq x)
  clear ih hok hok2 hw hw2 hlen hb1 hk1 hs1 hC hE hx
  obtain ⟨S, hS⟩ : ∃ S, S = prE x := ⟨_, rfl⟩
  rw [← hS]
  have HS := Lib.hid hS
  clear hS
  go_enter Tryz.func16, Tryz.ntmps16
  go_wp2
  show Code.wp _ _ _ _ (w.alloc (exBox x A c))
  generalize w.alloc (exBox x A c) = W1 at *
  clear y0 y1 y2 y3 y4 y5
  go_loopw [3, 10] (fun v3 v10 wr => ∃ (k : Nat) (l : List ByteArray), v10 = .int .i64 k ∧ k ≤ x.f1.length ∧ Hid (l = (prL x.f0 x.f1).take k) ∧ Hid (wr.ownsRow (w.heap.size + 1) 9 1 v3 (pw_strs l).length (pw_strs l)) ∧ Hid (Below W1.heap.size W1 wr)) (fun _ v10 _ => x.f1.length - (intOf v10).toNat)
  case atStart => exact ⟨0, [], rfl, by omega, Lib.hid (by simp), Lib.hid (own_nil _ _ _ _), Lib.hid (Below.refl _ _)⟩
  case round =>
    obtain ⟨k, l, rfl, hk, HL, HO, HB⟩ := hrel
    have hws := HB.out.size
    rw [HS1.out] at hws
    have HKr := Lib.hid ((HB.out.block w.heap.size (by rw [HS1.out]; omega)).trans HK1.out)
    have HEr := Lib.hid (HE1.out.below HB.out)
    have HCr := Lib.hid (Kd.C_below HC1.out HB.out)
    by_cases hlt : k < x.f1.length
    · have hltb : decide ((k : Int) < (x.f1.length : Int)) = true := by simpa using hlt
      obtain ⟨a0, A2, c2, e0, p0, p1, p2, p3, p4, p5, pl, pc⟩ := at_Ex HCr.out (k : Int) (by omega) (by omega)
      rw [Int.toNat_natCast] at p0 p1 p2 p3 p4 p5
      have hmem := rdEx_mem hlt
      have htk := prL_take x.f0 x.f1 k hlt
      have hIn := IH.out _ hmem
      have hSz := ISZ.out _ hmem
      generalize rd_Ex x.f1 (k : Int) = y at *
      have hal : Below wr.heap.size wr (wr.alloc (exBox y A2 c2)) := (Below.refl _ _).alloc (Nat.le_refl _) _
      have hk2 : (wr.alloc (exBox y A2 c2)).heap[wr.heap.size]? = some (.cells #[.int .i64 y.f0, .slice A2 y.f1.length c2, .int .i64 y.f2, .int .u64 y.f3, .int .i64 y.f4, .int .u64 y.f5] 37 (0, 0)) := new_blk wr _ _
      obtain ⟨z0, z1, z2, z3, z4, z5⟩ := box6 hk2
      obtain ⟨y0, y1, -, -, -, -⟩ := box6 HKr.out
      have q0 := pw_cell_below hal y0
      have HR := Lib.hid (inner_any x.f0 y hIn hSz A2 c2 _ (HEr.out.below hal) (Kd.C_below pc hal))
      have HTK := Lib.hid htk; have HAL := Lib.hid hal
      have hwr := wrap_s (m := k) (by omega)
      subst e0
      clear htk hIn hSz hal hk2 pc pl hmem
      go_wp2_with fail
      refine HR.out.mono ?_
      rintro e W5 ⟨rfl, hb5⟩
      have HO5 := Lib.hid (pw_own_below HO.out (HAL.out.trans (hb5.mono HAL.out.size)))
      have HB5 := Lib.hid (HB.out.trans ((HAL.out.trans (hb5.mono HAL.out.size)).mono HB.out.size))
      have hs5 : w.heap.size + 1 ≤ W5.heap.size := by have := HAL.out.size; have := hb5.size; omega
      have hpl : (pw_strs l).length ≤ 100000 := by rw [pw_strs_len, HL.out, List.length_take]; omega
      clear hb5 p0 p1 p2 p3 p4 p5 z0 z1 z2 z3 z4 z5 q0 y0 y1
      go_wp2_with (at_builtin; refine print_append (w0 := W5) (W := W5) (w.heap.size + 1) rfl (.tmp 14) (.tmp 19) 84 9 (.string ⟨#[]⟩) 16 rfl Tryz.underlying84 infoStr rfl (by decide) u3 (pw_strs l) (.string (parT (aroundB x.f0 y.f0) (prE y))) rfl (by go_simp) rfl HO5.out (Below.refl _ _) hs5 (by omega) ?_; intro v7 w7 hO7 hb7 hg7 hat7)
      have HO7 := Lib.hid hO7
      clear hO7 hat7
      go_roundw
      case rel => exact ⟨k + 1, l ++ [parT (aroundB x.f0 y.f0) (prE y)], by simp, by omega, Lib.hid (by rw [HTK.out, HL.out]), Lib.hid (by rw [pw_strs_snoc]; exact HO7.out), Lib.hid (HB5.out.trans (hb7.mono (by rw [HS1.out]; omega)))⟩
      case measure => simp [intOf]; omega
    · have hltb : decide ((k : Int) < (x.f1.length : Int)) = false := by simpa using hlt
      have hle : x.f1.length ≤ k := by omega
      have hll : l = prL x.f0 x.f1 := by rw [HL.out, List.take_of_length_le (by rw [prL_len]; omega)]
      have hBw : Below w.heap.size w wr := HB1.out.trans (HB.out.mono (by rw [HS1.out]; omega))
      have hln : l.length = x.f1.length := by rw [hll, prL_len]
      have hjz : ∀ sep : ByteArray, sep.size ≤ 5 → (joinT sep l).size ≤ 100000000 := fun sep hs => by
        have h1 := joinT_size sep l
        have h2 := HSUM.out
        rw [← hll] at h2
        have h3 := Nat.mul_le_mul_right l.length hs
        omega
      have HWS := Lib.hid hws; have HLL := Lib.hid hll; have HBW := Lib.hid hBw; have HLN := Lib.hid hln; have HJZ := Lib.hid hjz
      have hnode := HN.out
      obtain ⟨h1, h6, h3, h45, h126, ht, hz, hm, hv⟩ := hnode
      obtain ⟨y0, y1, y2, y3, y4, y5⟩ := box6 HKr.out
      clear hll hBw hln hjz hlt hltb HL hws
      by_cases o1 : x.f0 = 1
      · have b1 : (x.f0 == 1) = true := by simpa using o1
        have HT := Lib.hid (show S = sTrue by rw [HS.out, HPE.out]; unfold nodeT; rw [if_pos o1])
        clear o1 h1 h6 h3 h45 h126 ht hz hm hv
        go_wp2
        go_ret
        exact ⟨by rw [HT.out]; rfl, HBW.out⟩
      have b1 : (x.f0 == 1) = false := by simpa using o1
      by_cases o2 : x.f0 = 2
      · have b2 : (x.f0 == 2) = true := by simpa using o2
        have HT := Lib.hid (show S = sFalse by rw [HS.out, HPE.out]; unfold nodeT; rw [if_neg o1, if_pos o2])
        clear o1 o2 h1 h6 h3 h45 h126 ht hz hm hv
        go_wp2
        go_ret
        exact ⟨by rw [HT.out]; rfl, HBW.out⟩
      have b2 : (x.f0 == 2) = false := by simpa using o2
      by_cases o345 : x.f0 = 3 ∨ x.f0 = 4 ∨ x.f0 = 5
      · have hpos : 0 < l.length := by rw [HLN.out]; rcases o345 with h | h | h <;> omega
        obtain ⟨g, cap, hv3, hcap, hg, hcl⟩ := own_strs HO.out hpos
        have hll2 : l.length ≤ 100000000 := by rw [HLN.out]; omega
        have HJ := Lib.hid (fun (sep : ByteArray) (hs : sep.size ≤ 5) => join_any g cap l sep wr hcl hg hcap hll2 (by have := HJZ.out sep hs; omega))
        subst hv3
        clear hcap hg hcl hpos hll2 HO
        by_cases o3 : x.f0 = 3
        · have b3 : (x.f0 == 3) = true := by simpa using o3
          have HT := Lib.hid (show S = sNotS ++ joinT sSp l by rw [HS.out, HPE.out, HLL.out]; unfold nodeT; rw [if_neg o1, if_neg o2, if_pos o3])
          have c1 : ¬ 9223372036854775807 < 4 + (joinT sSp l).size := by have := HJZ.out sSp (by decide); omega
          have HJ3 := Lib.hid (HJ.out sSp (by decide))
          clear o1 o2 o3 o345 h1 h6 h3 h45 h126 ht hz hm hv
          go_wp2_with fail
          refine HJ3.out.mono ?_
          rintro e W5 ⟨rfl, hb5⟩
          go_wp2
          go_ret
          exact ⟨by rw [HT.out]; rfl, HBW.out.trans (hb5.mono HBW.out.size)⟩
        have b3 : (x.f0 == 3) = false := by simpa using o3
        by_cases o4 : x.f0 = 4
        · have b4 : (x.f0 == 4) = true := by simpa using o4
          have HT := Lib.hid (show S = joinT sAndS l by rw [HS.out, HPE.out, HLL.out]; unfold nodeT; rw [if_neg o1, if_neg o2, if_neg o3, if_pos o4])
          have HJ3 := Lib.hid (HJ.out sAndS (by decide))
          clear o1 o2 o3 o4 o345 h1 h6 h3 h45 h126 ht hz hm hv
          go_wp2_with fail
          refine HJ3.out.mono ?_
          rintro e W5 ⟨rfl, hb5⟩
          go_wp2
          go_ret
          exact ⟨by rw [HT.out]; rfl, HBW.out.trans (hb5.mono HBW.out.size)⟩
        · have b4 : (x.f0 == 4) = false := by simpa using o4
          have o5 : x.f0 = 5 := by omega
          have b5 : (x.f0 == 5) = true := by simpa using o5
          have HT := Lib.hid (show S = joinT sOrS l by rw [HS.out, HPE.out, HLL.out]; unfold nodeT; rw [if_neg o1, if_neg o2, if_neg o3, if_neg o4, if_pos o5])
          have HJ3 := Lib.hid (HJ.out sOrS (by decide))
          clear o1 o2 o3 o4 o5 o345 h1 h6 h3 h45 h126 ht hz hm hv
          go_wp2_with fail
          refine HJ3.out.mono ?_
          rintro e W5 ⟨rfl, hb5⟩
          go_wp2
          go_ret
          exact ⟨by rw [HT.out]; rfl, HBW.out.trans (hb5.mono HBW.out.size)⟩
      · have b3 : (x.f0 == 3) = false := by simp; omega
        have b4 : (x.f0 == 4) = false := by simp; omega
        have b5 : (x.f0 == 5) = false := by simp; omega
        have o6 : x.f0 = 6 := by omega
        obtain ⟨hf0, hf6, hr1, hr6⟩ := ht o6
        have HT := Lib.hid (show S = testT x.f2 x.f3 x.f4 x.f5 by rw [HS.out, HPE.out]; unfold nodeT; rw [if_neg (by omega), if_neg (by omega), if_neg (by omega), if_neg (by omega), if_neg (by omega)])
        have HM := Lib.hid hm; have HV := Lib.hid hv
        have HFZ := Lib.hid (show (amongT fieldsT x.f2).size ≤ 4 by rw [among_eq _ _ hf0 (by show x.f2 < 7; omega)]; exact fieldsT_size _ (by omega))
        have HRZ := Lib.hid (show (amongT relsT (x.f4 - 1)).size ≤ 2 by rw [among_eq _ _ (by omega) (by show x.f4 - 1 < 6; omega)]; exact relsT_size _ (by omega))
        clear o1 o2 o345 o6 h1 h6 h3 h45 h126 ht hz hm hv HO
        go_wp2
        go_region_held3 (fun w' => w'.cell? ⟨w.heap.size, 2, none⟩ = some (.int .i64 x.f2))
          (first | go_keep | exact bel_cell hb6 (pw_cell_below ((Below.refl _ wr).alloc (Nat.le_refl _) _) y2))
          (first | (go_at_call 44; refine (fields_any _).mono ?_; rintro e W5 ⟨rfl, rfl⟩) | (go_at_call 43; refine (among_f _ ⟨hf0, hf6⟩ wr.heap.size _ (new_fields_d wr)).mono ?_; rintro e W6 ⟨rfl, hb6⟩))
        have hb6w : Below wr.heap.size wr W6 := ((Below.refl wr.heap.size wr).alloc (Nat.le_refl _) fieldsObj).drew.trans (hb6.mono (by simp))
        have hk6 := (hb6w.block w.heap.size (by have := HWS.out; omega)).trans HKr.out
        obtain ⟨-, -, -, v3, -, -⟩ := box6 hk6
        have HB6 := Lib.hid hb6w; have HE6 := Lib.hid (HEr.out.below hb6w)
        clear hb6w hk6 hb6 y0 y1 y2 y3 y4 y5
        by_cases hmx : x.f3 = 18446744073709551615
        · have bm : (x.f3 != 18446744073709551615) = false := by simpa using hmx
          have HT2 := Lib.hid (show S = ((((amongT fieldsT x.f2) ++ sSp) ++ amongT relsT (x.f4 - 1)) ++ sSp) ++ numB x.f5 by rw [HT.out]; unfold testT; rw [if_pos hmx])
          have HBV := HB6; have HEV := HE6
          clear hmx
          have HF9 := Lib.hid (fun W hp => fmt10_any x.f5 HV.out.1 HV.out.2 W hp)
          have HP8 := Lib.hid (fun W (h : Below (W6.alloc relsObj).drew.heap.size (W6.alloc relsObj).drew W) => (HEV.out.pow.below (((Below.refl W6.heap.size W6).alloc (Nat.le_refl _) relsObj).drew)).below h)
          have hbV : Below wr.heap.size wr W6 := HBV.out
          have hkV := (hbV.block w.heap.size (by have := HWS.out; omega)).trans HKr.out
          obtain ⟨-, -, -, -, v4, v5⟩ := box6 hkV
          clear hkV hbV
          have hnz := numB_size x.f5 HV.out
          have d1 : ¬ 9223372036854775807 < (amongT fieldsT x.f2).size + 1 := by have := HFZ.out; have := HRZ.out; have := hexT_size x.f3; omega
          have d2 : ¬ 9223372036854775807 < (amongT fieldsT x.f2).size + 1 + (amongT relsT (x.f4 - 1)).size := by have := HFZ.out; have := HRZ.out; have := hexT_size x.f3; omega
          have d3 : ¬ 9223372036854775807 < (amongT fieldsT x.f2).size + 1 + (amongT relsT (x.f4 - 1)).size + 1 := by have := HFZ.out; have := HRZ.out; have := hexT_size x.f3; omega
          have d4 : ¬ 9223372036854775807 < (amongT fieldsT x.f2).size + 1 + (amongT relsT (x.f4 - 1)).size + 1 + (numB x.f5).size := by have := HFZ.out; have := HRZ.out; have := hexT_size x.f3; omega
          clear hnz
          go_wp2
          go_region_held3 (fun w' => w'.cell? ⟨w.heap.size, 4, none⟩ = some (.int .i64 x.f4) ∧ w'.cell? ⟨w.heap.size, 5, none⟩ = some (.int .u64 x.f5))
            (first | go_keep | exact ⟨pw_cell_below hb9 (bel_cell hb8 (pw_cell_below ((Below.refl _ W6).alloc (Nat.le_refl _) _) v4)), pw_cell_below hb9 (bel_cell hb8 (pw_cell_below ((Below.refl _ W6).alloc (Nat.le_refl _) _) v5))⟩ | exact ⟨bel_cell hb8 (pw_cell_below ((Below.refl _ W6).alloc (Nat.le_refl _) _) v4), bel_cell hb8 (pw_cell_below ((Below.refl _ W6).alloc (Nat.le_refl _) _) v5)⟩)
            (first | (go_at_call 45; refine (rels_any _).mono ?_; rintro e W7 ⟨rfl, rfl⟩) | (go_at_call 43; ((with_reducible refine (among_rw _ ⟨hr1, hr6⟩ W6.heap.size _ (new_rels_d W6)).mono ?_); rintro e W8 ⟨rfl, hb8⟩)) | (go_at_call 38; ((with_reducible refine (HF9.out W8 (HP8.out W8 hb8)).mono ?_); rintro e W9 ⟨rfl, hb9⟩)))
          go_wp2
          go_ret
          exact ⟨by rw [HT2.out]; rfl, HBW.out.trans ((HBV.out.trans (((((Below.refl W6.heap.size W6).alloc (Nat.le_refl _) relsObj).drew).trans ((hb8.trans (hb9.mono hb8.size)).mono (by simp))).mono HBV.out.size)).mono HBW.out.size)⟩
        · have bm : (x.f3 != 18446744073709551615) = true := by simpa using hmx
          have HT2 := Lib.hid (show S = ((((amongT fieldsT x.f2 ++ (sMask ++ hexT x.f3)) ++ sSp) ++ amongT relsT (x.f4 - 1)) ++ sSp) ++ numB x.f5 by rw [HT.out]; unfold testT; rw [if_neg hmx])
          clear hmx
          have HF := Lib.hid (fmt16_any x.f3 HM.out.1 HM.out.2 W6 HE6.out.tz)
          have c1 : ¬ 9223372036854775807 < 5 + (hexT x.f3).size := by have := hexT_size x.f3; omega
          have c2 : ¬ 9223372036854775807 < (amongT fieldsT x.f2).size + (5 + (hexT x.f3).size) := by have := hexT_size x.f3; have := HFZ.out; omega
          go_wp2_with fail
          refine HF.out.mono ?_
          rintro e V6 ⟨rfl, hb7⟩
          have HBV := Lib.hid (HB6.out.trans (hb7.mono HB6.out.size)); have HEV := Lib.hid (HE6.out.below hb7)
          clear hb7 v3
          have HF9 := Lib.hid (fun W hp => fmt10_any x.f5 HV.out.1 HV.out.2 W hp)
          have HP8 := Lib.hid (fun W (h : Below (V6.alloc relsObj).drew.heap.size (V6.alloc relsObj).drew W) => (HEV.out.pow.below (((Below.refl V6.heap.size V6).alloc (Nat.le_refl _) relsObj).drew)).below h)
          have hbV : Below wr.heap.size wr V6 := HBV.out
          have hkV := (hbV.block w.heap.size (by have := HWS.out; omega)).trans HKr.out
          obtain ⟨-, -, -, -, v4, v5⟩ := box6 hkV
          clear hkV hbV
          have hnz := numB_size x.f5 HV.out
          have d1 : ¬ 9223372036854775807 < (amongT fieldsT x.f2).size + (5 + (hexT x.f3).size) + 1 := by have := HFZ.out; have := HRZ.out; have := hexT_size x.f3; omega
          have d2 : ¬ 9223372036854775807 < (amongT fieldsT x.f2).size + (5 + (hexT x.f3).size) + 1 + (amongT relsT (x.f4 - 1)).size := by have := HFZ.out; have := HRZ.out; have := hexT_size x.f3; omega
          have d3 : ¬ 9223372036854775807 < (amongT fieldsT x.f2).size + (5 + (hexT x.f3).size) + 1 + (amongT relsT (x.f4 - 1)).size + 1 := by have := HFZ.out; have := HRZ.out; have := hexT_size x.f3; omega
          have d4 : ¬ 9223372036854775807 < (amongT fieldsT x.f2).size + (5 + (hexT x.f3).size) + 1 + (amongT relsT (x.f4 - 1)).size + 1 + (numB x.f5).size := by have := HFZ.out; have := HRZ.out; have := hexT_size x.f3; omega
          clear hnz
          go_wp2
          go_region_held3 (fun w' => w'.cell? ⟨w.heap.size, 4, none⟩ = some (.int .i64 x.f4) ∧ w'.cell? ⟨w.heap.size, 5, none⟩ = some (.int .u64 x.f5))
            (first | go_keep | exact ⟨pw_cell_below hb9 (bel_cell hb8 (pw_cell_below ((Below.refl _ V6).alloc (Nat.le_refl _) _) v4)), pw_cell_below hb9 (bel_cell hb8 (pw_cell_below ((Below.refl _ V6).alloc (Nat.le_refl _) _) v5))⟩ | exact ⟨bel_cell hb8 (pw_cell_below ((Below.refl _ V6).alloc (Nat.le_refl _) _) v4), bel_cell hb8 (pw_cell_below ((Below.refl _ V6).alloc (Nat.le_refl _) _) v5)⟩)
            (first | (go_at_call 45; refine (rels_any _).mono ?_; rintro e W7 ⟨rfl, rfl⟩) | (go_at_call 43; ((with_reducible refine (among_rw _ ⟨hr1, hr6⟩ V6.heap.size _ (new_rels_d V6)).mono ?_); rintro e W8 ⟨rfl, hb8⟩)) | (go_at_call 38; ((with_reducible refine (HF9.out W8 (HP8.out W8 hb8)).mono ?_); rintro e W9 ⟨rfl, hb9⟩)))
          go_wp2
          go_ret
          exact ⟨by rw [HT2.out]; rfl, HBW.out.trans ((HBV.out.trans (((((Below.refl V6.heap.size V6).alloc (Nat.le_refl _) relsObj).drew).trans ((hb8.trans (hb9.mono hb8.size)).mono (by simp))).mono HBV.out.size)).mono HBW.out.size)⟩
end Go.Proofs.YtlmopoipjolbgaaGreatDoor.LexW
namespace Go.Proofs.YtlmopoipjolbgaaGreatDoor.LexW
open Go.ChangeShapes Go.WideShapes Go.ChangeAt Go.RowKit Go.Lib Go.Shelf
set_option linter.unusedVariables false
set_option linter.unusedSimpArgs false

def tz64 : List Int := [0, 1, 56, 2, 57, 49, 28, 3, 61, 58, 42, 50, 38, 29, 17, 4, 62, 47, 59, 36, 45, 43, 51, 22, 53, 39, 33, 30, 24, 18, 12, 5, 63, 55, 48, 27, 60, 41, 37, 16, 46, 35, 44, 21, 52, 32, 23, 11, 54, 26, 40, 15, 34, 20, 31, 10, 25, 14, 19, 9, 13, 8, 7, 6]
theorem tz_same : (Rows.laid_math_bits_deBruijn64tab : DataW Unit) = Lib.tabData .u8 tz64 := by kernel_rfl
theorem pow_same : (Rows.laid_internal_strconv_uint64pow10 : DataW Unit) = Lib.tabData .u64 Lib.pow10Tab := by kernel_rfl
theorem tab_of_reads {P : Program} {W : World} {name : String} {k : IntKind} {zs : List Int} {g : Nat} {t e : TypeId} {n : Nat}
    (hg : P.globalNamed name = some g) (hty : (P.globals[g]?).map (·.type) = some t) (ht : P.underlying t = some (.array n e)) (he : P.underlying e = some (.int k)) (hce : P.cellsOf e = 1) (hct : P.cellsOf t = n)
    (h : VarReads P W name (Lib.tabData k zs)) : Lib.TabIs P W name k zs := by
  obtain ⟨g', t', cs, fuel, p, hg', ht', hvar, hd⟩ := h
  obtain rfl := Option.some.inj (hg.symm.trans hg')
  obtain rfl := Option.some.inj (hty.symm.trans ht')
  unfold Lib.TabIs
  rw [hvar, ← Lib.cells_of_tab ht he hce hct hd]
theorem envN_of_laid {W : World} (h : laidMetH Tryz.prog laidL W) : EnvN W := by
  have hL : laidMet Tryz.prog laidL W := h
  have h1 := Lib.laidMet.reads hL (n := "math/bits.deBruijn64tab") (d := Rows.laid_math_bits_deBruijn64tab) (.tail _ (.head _))
  have h2 := Lib.laidMet.reads hL (n := "internal/strconv.uint64pow10") (d := Rows.laid_internal_strconv_uint64pow10) (.tail _ (.tail _ (.head _)))
  rw [tz_same] at h1
  rw [pow_same] at h2
  refine ⟨tab_of_reads (g := 0) (by kernel_rfl) (by kernel_rfl) Tryz.underlying143 Tryz.underlying24 (by kernel_rfl) (by kernel_rfl) h2, ?_⟩
  have h3 := tab_of_reads (g := 3) (by kernel_rfl) (by kernel_rfl) Tryz.underlying160 Tryz.underlying5 (by kernel_rfl) (by kernel_rfl) h1
  exact Lib.TabIs.cell h3 (g := 3) (by kernel_rfl) 15 (by decide)
end Go.Proofs.YtlmopoipjolbgaaGreatDoor.LexW
namespace Go.Proofs.YtlmopoipjolbgaaGreatDoor.LexW
open Go.RowKit Go.Shelf Go.Proofs.YtlmopoipjolbgaaGreatDoor.LexS Go.Proofs.YtlmopoipjolbgaaGreatDoorW.PrintWords
set_option linter.unusedVariables false
set_option linter.unusedSimpArgs false

abbrev poBox (x : Po) (A : Option Addr) (c : Nat) : Obj := .cells #[.string x.arch, .int .i64 x.foreign.f0, .int .u64 x.foreign.f1, .int .i64 x.dflt.f0, .int .u64 x.dflt.f1, .slice A x.rules.length c] 29
abbrev rlBox (y : Rl) (A : Option Addr) (c : Nat) (B : Option Addr) (d : Nat) : Obj := .cells #[.slice A y.f0.length c, .int .i64 y.f1.f0, .slice B y.f1.f1.length d, .int .i64 y.f1.f2, .int .u64 y.f1.f3, .int .i64 y.f1.f4, .int .u64 y.f1.f5, .int .i64 y.f2.f0, .int .u64 y.f2.f1] 70
theorem box9 {W : World} {b : Nat} {v0 v1 v2 v3 v4 v5 v6 v7 v8 : Value} {t : TypeId} (h : W.heap[b]? = some (.cells #[v0, v1, v2, v3, v4, v5, v6, v7, v8] t (0, 0))) : W.cell? ⟨b, 0, none⟩ = some v0 ∧ W.cell? ⟨b, 1, none⟩ = some v1 ∧ W.cell? ⟨b, 2, none⟩ = some v2 ∧ W.cell? ⟨b, 3, none⟩ = some v3 ∧ W.cell? ⟨b, 4, none⟩ = some v4 ∧ W.cell? ⟨b, 5, none⟩ = some v5 ∧ W.cell? ⟨b, 6, none⟩ = some v6 ∧ W.cell? ⟨b, 7, none⟩ = some v7 ∧ W.cell? ⟨b, 8, none⟩ = some v8 := by
  refine ⟨?_, ?_, ?_, ?_, ?_, ?_, ?_, ?_, ?_⟩ <;> simp [World.cell?, h]

set_option maxHeartbeats 8000000 in
set_option maxRecDepth 100000 in
theorem samePo_any (x : Po) (A0 : Option Addr) (c0 : Nat) (A1 : Option Addr) (c1 : Nat) (w : World) (h0 : kRl.C w A0 x.rules.length x.rules) (h1 : kRl.C w A1 x.rules.length x.rules) :
    Calls Tryz.prog 12 #[.agg #[.string x.arch, .int .i64 x.foreign.f0, .int .u64 x.foreign.f1, .int .i64 x.dflt.f0, .int .u64 x.dflt.f1, .slice A0 x.rules.length c0], .agg #[.string x.arch, .int .i64 x.foreign.f0, .int .u64 x.foreign.f1, .int .i64 x.dflt.f0, .int .u64 x.dflt.f1, .slice A1 x.rules.length c1]] w fun e w' => e = .returned (.bool true) ∧ Below w.heap.size w w' := by
  have hmax : x.rules.length ≤ 9223372036854775807 := h0.2.1
  have hal : Below w.heap.size w ((w.alloc (poBox x A0 c0)).alloc (poBox x A1 c1)) := ((Below.refl w.heap.size w).alloc (Nat.le_refl _) _).alloc (by simp) _
  have hb0 : ((w.alloc (poBox x A0 c0)).alloc (poBox x A1 c1)).heap[w.heap.size]? = some (.cells #[.string x.arch, .int .i64 x.foreign.f0, .int .u64 x.foreign.f1, .int .i64 x.dflt.f0, .int .u64 x.dflt.f1, .slice A0 x.rules.length c0] 29 (0, 0)) := blk_past _ (new_blk w _ _)
  have hb1 : ((w.alloc (poBox x A0 c0)).alloc (poBox x A1 c1)).heap[w.heap.size + 1]? = some (.cells #[.string x.arch, .int .i64 x.foreign.f0, .int .u64 x.foreign.f1, .int .i64 x.dflt.f0, .int .u64 x.dflt.f1, .slice A1 x.rules.length c1] 29 (0, 0)) := new_blk' (by simp) _ _
  have hsz : ((w.alloc (poBox x A0 c0)).alloc (poBox x A1 c1)).heap.size = w.heap.size + 2 := by simp
  obtain ⟨y0, y1, y2, y3, y4, y5⟩ := box6 hb0
  obtain ⟨z0, z1, z2, z3, z4, z5⟩ := box6 hb1
  have H0 := Lib.hid (Kd.C_below h0 hal); have H1 := Lib.hid (Kd.C_below h1 hal); have HB0 := Lib.hid hb0; have HB1 := Lib.hid hb1; have HAL := Lib.hid hal
  clear h0 h1 hal hb0 hb1
  have hs0 : (x.arch.toList == x.arch.toList) = true := beq_self_eq_true _
  have hn0 : (x.arch.toList != x.arch.toList) = false := by simp
  have hn1 : (x.foreign.f0 != x.foreign.f0) = false := by simp
  have hn2 : (x.foreign.f1 != x.foreign.f1) = false := by simp
  have hn3 : (x.dflt.f0 != x.dflt.f0) = false := by simp
  have hn4 : (x.dflt.f1 != x.dflt.f1) = false := by simp
  have hn5 : ((x.rules.length : Int) != (x.rules.length : Int)) = false := by simp
  go_enter Tryz.func12, Tryz.ntmps12
  go_wp2
  go_loopw [5] (fun vi wr => ∃ k : Nat, vi = .int .i64 k ∧ k ≤ x.rules.length ∧ Hid (Below ((w.alloc (poBox x A0 c0)).alloc (poBox x A1 c1)).heap.size ((w.alloc (poBox x A0 c0)).alloc (poBox x A1 c1)) wr)) (fun vi _ => x.rules.length - (intOf vi).toNat)
  case atStart => exact ⟨0, rfl, by omega, Lib.hid (Below.refl _ _)⟩
  case round =>
    obtain ⟨k, rfl, hk, HB⟩ := hrel
    clear y0 y1 y2 y3 y4 y5 z0 z1 z2 z3 z4 z5 hs0 hn0 hn1 hn2 hn3 hn4 hn5
    obtain ⟨-, -, -, -, -, y5⟩ := box6 ((HB.out.block _ (by rw [hsz]; omega)).trans HB0.out)
    obtain ⟨-, -, -, -, -, z5⟩ := box6 ((HB.out.block _ (by rw [hsz]; omega)).trans HB1.out)
    by_cases hlt : k < x.rules.length
    · have hltb : decide ((k : Int) < (x.rules.length : Int)) = true := by simpa using hlt
      have hC0 := Kd.C_below H0.out HB.out
      have hC1 := Kd.C_below H1.out HB.out
      obtain ⟨a0, A2, c2, B2, d2, e0, p0, p1, p2, p3, p4, p5, p6, p7, p8, pl, pc, pm, pd⟩ := at_Rl hC0 (k : Int) (by omega) (by omega)
      obtain ⟨a1, A3, c3, B3, d3, e1, q0, q1, q2, q3, q4, q5, q6, q7, q8, ql, qc, qm, qd⟩ := at_Rl hC1 (k : Int) (by omega) (by omega)
      cases e0; cases e1
      rw [Int.toNat_natCast] at p0 p1 p2 p3 p4 p5 p6 p7 p8 q0 q1 q2 q3 q4 q5 q6 q7 q8
      obtain ⟨y, hy⟩ : ∃ y, y = rd_Rl x.rules (k : Int) := ⟨_, rfl⟩
      rw [← hy] at p0 p1 p2 p3 p4 p5 p6 p7 p8 q0 q1 q2 q3 q4 q5 q6 q7 q8 pc qc pd qd
      clear hy pl pm ql qm
      have hwr : wrap64 ((k : Int) + 1) = (k : Int) + 1 := by unfold wrap64; omega
      have hal2 : Below wr.heap.size wr ((wr.alloc (rlBox y A2 c2 B2 d2)).alloc (rlBox y A3 c3 B3 d3)) := ((Below.refl wr.heap.size wr).alloc (Nat.le_refl _) _).alloc (by simp) _
      have hr0 : ((wr.alloc (rlBox y A2 c2 B2 d2)).alloc (rlBox y A3 c3 B3 d3)).heap[wr.heap.size]? = some (.cells #[.slice A2 y.f0.length c2, .int .i64 y.f1.f0, .slice B2 y.f1.f1.length d2, .int .i64 y.f1.f2, .int .u64 y.f1.f3, .int .i64 y.f1.f4, .int .u64 y.f1.f5, .int .i64 y.f2.f0, .int .u64 y.f2.f1] 70 (0, 0)) := blk_past _ (new_blk wr _ _)
      have hr1 : ((wr.alloc (rlBox y A2 c2 B2 d2)).alloc (rlBox y A3 c3 B3 d3)).heap[wr.heap.size + 1]? = some (.cells #[.slice A3 y.f0.length c3, .int .i64 y.f1.f0, .slice B3 y.f1.f1.length d3, .int .i64 y.f1.f2, .int .u64 y.f1.f3, .int .i64 y.f1.f4, .int .u64 y.f1.f5, .int .i64 y.f2.f0, .int .u64 y.f2.f1] 70 (0, 0)) := new_blk' (by simp) _ _
      have hsz2 : ((wr.alloc (rlBox y A2 c2 B2 d2)).alloc (rlBox y A3 c3 B3 d3)).heap.size = wr.heap.size + 2 := by simp
      obtain ⟨r0, r1, r2, r3, r4, r5, r6, r7, r8⟩ := box9 hr0
      obtain ⟨s0, s1, s2, s3, s4, s5, s6, s7, s8⟩ := box9 hr1
      have ov : ∀ {a : Addr} {v : Value}, wr.cell? a = some v → (wr.alloc (rlBox y A2 c2 B2 d2)).cell? a = some v := fun {a v} h => (World.cell?_alloc_some wr a _ (by rw [h]; rfl)).trans h
      have u5 := ov z5
      have v0 := ov q0; have v1 := ov q1; have v2 := ov q2; have v3 := ov q3; have v4 := ov q4; have v5 := ov q5; have v6 := ov q6; have v7 := ov q7; have v8 := ov q8
      clear ov
      have HS := Lib.hid (sameEx_any _ y.f1 (Nat.lt_succ_self _) B2 d2 B3 d3 _ (Kd.C_below pd hal2) (Kd.C_below qd hal2))
      have HP := Lib.hid (Kd.C_below pc hal2); have HQ := Lib.hid (Kd.C_below qc hal2); have HAL2 := Lib.hid hal2; have HR0 := Lib.hid hr0; have HR1 := Lib.hid hr1
      clear pc qc pd qd hC0 hC1 hal2 hr0 hr1
      go_wp2_with fail
      refine HS.out.mono ?_
      rintro e W5 ⟨rfl, hb5⟩
      clear r0 r1 r2 r3 r4 r5 r6 r7 r8 s0 s1 s2 s3 s4 s5 s6 s7 s8 u5 v0 v1 v2 v3 v4 v5 v6 v7 v8 y5 z5 p0 p1 p2 p3 p4 p5 p6 p7 p8 q0 q1 q2 q3 q4 q5 q6 q7 q8
      obtain ⟨r0, r1, r2, r3, r4, r5, r6, r7, r8⟩ := box9 ((hb5.block _ (by rw [hsz2]; omega)).trans HR0.out)
      obtain ⟨s0, s1, s2, s3, s4, s5, s6, s7, s8⟩ := box9 ((hb5.block _ (by rw [hsz2]; omega)).trans HR1.out)
      have HP5 := Lib.hid (Kd.C_below HP.out hb5); have HQ5 := Lib.hid (Kd.C_below HQ.out hb5)
      have HB5 := Lib.hid (HB.out.trans ((HAL2.out.trans (hb5.mono (by rw [hsz2]; omega))).mono HB.out.size))
      clear hb5
      have hd1 : (y.f2.f0 != y.f2.f0) = false := by simp
      have hd2 : (y.f2.f1 != y.f2.f1) = false := by simp
      have hd3 : ((y.f0.length : Int) != (y.f0.length : Int)) = false := by simp
      have hmax2 : y.f0.length ≤ 9223372036854775807 := HP5.out.2.1
      go_wp2
      go_loopw [9] (fun vj wi => ∃ j : Nat, vj = .int .i64 j ∧ j ≤ y.f0.length ∧ Drawn0 W5 wi) (fun vj _ => y.f0.length - (intOf vj).toNat)
      case atStart => exact ⟨0, rfl, by omega, Drawn0.refl _⟩
      case round =>
        obtain ⟨j, rfl, hj, ⟨m, rfl⟩⟩ := hrel
        by_cases hlt2 : j < y.f0.length
        · have hltb2 : decide ((j : Int) < (y.f0.length : Int)) = true := by simpa using hlt2
          have hwj : wrap64 ((j : Int) + 1) = (j : Int) + 1 := by unfold wrap64; omega
          obtain ⟨b0, e0, i0, i1⟩ := at_Cl HP5.out (j : Int) (by omega) (by omega)
          obtain ⟨b1, e1, j0, j1⟩ := at_Cl HQ5.out (j : Int) (by omega) (by omega)
          cases e0; cases e1
          rw [Int.toNat_natCast] at i0 i1 j0 j1
          obtain ⟨z, hz⟩ : ∃ z, z = rd_Cl y.f0 (j : Int) := ⟨_, rfl⟩
          rw [← hz] at i0 i1 j0 j1
          clear hz
          obtain ⟨zt, hzt⟩ : ∃ zt, zt = z.f0 := ⟨_, rfl⟩
          obtain ⟨zn, hzn⟩ : ∃ zn, zn = z.f1 := ⟨_, rfl⟩
          rw [← hzt] at i0 j0
          rw [← hzn] at i1 j1
          clear hzt hzn
          have hz0 : (zt.toList == zt.toList) = true := beq_self_eq_true _
          have hz0' : (zt.toList != zt.toList) = false := by simp
          have hz1 : (zn != zn) = false := by simp
          have hz1' : (zn == zn) = true := by simp
          go_wp2
          repeat (go_quiet (fail); try go_wp2)
          go_roundw
          case rel => exact ⟨j + 1, by simp, by omega, ⟨⟨_, rfl⟩⟩⟩
          case measure => simp [intOf]; omega
        · have hltb2 : decide ((j : Int) < (y.f0.length : Int)) = false := by simpa using hlt2
          have hle2 : y.f0.length ≤ j := by omega
          clear hlt2 hltb2
          go_wp2
          go_roundw
          case rel => exact ⟨k + 1, by simp, by omega, Lib.hid (HB5.out.trans ((Drawn0.below (show Drawn0 W5 (W5.drewN m) from ⟨⟨m, rfl⟩⟩)).mono HB5.out.size))⟩
          case measure => simp [intOf]; omega
    · have hltb : decide ((k : Int) < (x.rules.length : Int)) = false := by simpa using hlt
      have hle : x.rules.length ≤ k := by omega
      clear hlt hltb
      go_wp2
      go_ret
      exact ⟨rfl, HAL.out.trans (HB.out.mono (by rw [hsz]; omega))⟩
end Go.Proofs.YtlmopoipjolbgaaGreatDoor.LexW
