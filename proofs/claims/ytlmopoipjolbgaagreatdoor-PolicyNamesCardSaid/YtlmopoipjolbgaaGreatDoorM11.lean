/-
  policy.Depth. · Layer 6 (policy), plain: what is read from a text is well formed. · Layer 6 (policy): a policy: its head. · Layer 6 (policy): Parse. · Layer 6 (policy), plain: what is read does not hang on where the tokens stand. · Layer 6 (policy), plain: tokens' texts with a blank and further blanks and remarks behind each are cut into the same.
-/
import Derived.Test.YtlmopoipjolbgaaGreatDoorM06
import Derived.Test.YtlmopoipjolbgaaGreatDoorM05
import Derived.Deep.RegionLaw
import Derived.Deep.RegionHeld3
import Derived.Test.YtlmopoipjolbgaaGreatDoorM09
import Derived.Test.YtlmopoipjolbgaaGreatDoorM03
namespace Go.Proofs.YtlmopoipjolbgaaGreatDoor.LexW
open Go.RowKit Go.Shelf Go.Proofs.YtlmopoipjolbgaaGreatDoor.LexS Go.Proofs.YtlmopoipjolbgaaGreatDoorW.PrintWords
set_option linter.unusedVariables false
set_option linter.unusedSimpArgs false

/-- an argument's depth, within an operation -/
def dA (op : Int) (y : Ex) : Nat := dE y + (if aroundB op y.f0 = true then 1 else 0)
theorem dL_take (op : Int) (l : List Ex) (k : Nat) (h : k < l.length) : dL op (l.take (k + 1)) = max (dL op (l.take k)) (dA op (rd_Ex l (k : Int))) := by
  have hr : rd_Ex l (k : Int) = l[k] := by
    unfold rd_Ex
    rw [Int.toNat_natCast, List.getD_eq_getElem?_getD, List.getElem?_eq_getElem h]
    rfl
  rw [hr, List.take_succ_eq_append_getElem h, dL_snoc]
  rfl
theorem dL_mono (op : Int) : ∀ (l : List Ex) (k : Nat), dL op (l.take k) ≤ dL op l
  | [], k => by simp
  | x :: l, 0 => by simp [dL]
  | x :: l, k + 1 => by
    have := dL_mono op l k
    rw [List.take_succ_cons, dL, dL]
    omega
def DeC (x : Ex) : Prop := ∀ (A : Option Addr) (c : Nat) (w : World), kEx.C w A x.f1.length x.f1 →
    Calls Tryz.prog 18 #[.agg #[.int .i64 x.f0, .slice A x.f1.length c, .int .i64 x.f2, .int .u64 x.f3, .int .i64 x.f4, .int .u64 x.f5]] w fun e w' => e = .returned (.int .i64 (dE x : Nat)) ∧ Below w.heap.size w w'

set_option maxHeartbeats 4000000 in
set_option maxRecDepth 100000 in
theorem dep_any (n : Nat) : ∀ (x : Ex), SizeOf.sizeOf x < n → wE x ≤ 100000 → DeC x := by
  induction n with
  | zero => intro x h; omega
  | succ n ih =>
  intro x hx hw A c w hC
  have hw2 := hw
  rw [wE_eq] at hw2
  have hlen := wL_len x.f1
  have hl100 : x.f1.length ≤ 100000 := by omega
  have hdl : dL x.f0 x.f1 ≤ 200000 := by have := dL_le x.f0 x.f1; omega
  have IH := Lib.hid (fun (y : Ex) (hy : y ∈ x.f1) => ih y (by have := mem_size hy rfl; omega) (by have := wE_mem hy; omega))
  have IDE := Lib.hid (fun (y : Ex) (hy : y ∈ x.f1) => (show dE y ≤ 200000 by have := dE_le y; have := wE_mem hy; omega))
  have hb1 : Below w.heap.size w (w.alloc (exBox x A c)) := (Below.refl _ w).alloc (Nat.le_refl _) _
  have hk1 : (w.alloc (exBox x A c)).heap[w.heap.size]? = some (.cells #[.int .i64 x.f0, .slice A x.f1.length c, .int .i64 x.f2, .int .u64 x.f3, .int .i64 x.f4, .int .u64 x.f5] 37 (0, 0)) := new_blk w _ _
  have hs1 : (w.alloc (exBox x A c)).heap.size = w.heap.size + 1 := by simp
  obtain ⟨y0, y1, y2, y3, y4, y5⟩ := box6 hk1
  have HB1 := Lib.hid hb1; have HK1 := Lib.hid hk1; have HS1 := Lib.hid hs1; have HC1 := Lib.hid (Kd.C_below hC hb1)
  have HDE := Lib.hid (dE_eq x)
  clear ih hw hw2 hlen hb1 hk1 hs1 hC hx
  obtain ⟨S, hS⟩ : ∃ S, S = dE x := ⟨_, rfl⟩
  rw [← hS]
  have HS := Lib.hid hS
  clear hS
  go_enter Tryz.func18, Tryz.ntmps18
  go_wp2
  show Code.wp _ _ _ _ (w.alloc (exBox x A c))
  generalize w.alloc (exBox x A c) = W1 at *
  clear y0 y1 y2 y3 y4 y5
  go_loopw [3, 10] (fun v3 v10 wr => ∃ (k m : Nat), v10 = .int .i64 k ∧ v3 = .int .i64 m ∧ k ≤ x.f1.length ∧ Hid (m = dL x.f0 (x.f1.take k)) ∧ Hid (Below W1.heap.size W1 wr)) (fun _ v10 _ => x.f1.length - (intOf v10).toNat)
  case atStart => exact ⟨0, 0, rfl, rfl, by omega, Lib.hid (by simp [dL]), Lib.hid (Below.refl _ _)⟩
  case round =>
    obtain ⟨k, m, rfl, rfl, hk, HM, HB⟩ := hrel
    have hws := HB.out.size
    rw [HS1.out] at hws
    have hm : m ≤ 200000 := by have := dL_mono x.f0 x.f1 k; have := HM.out; omega
    have HKr := Lib.hid ((HB.out.block w.heap.size (by rw [HS1.out]; omega)).trans HK1.out)
    have HCr := Lib.hid (Kd.C_below HC1.out HB.out)
    by_cases hlt : k < x.f1.length
    · have hltb : decide ((k : Int) < (x.f1.length : Int)) = true := by simpa using hlt
      obtain ⟨a0, A2, c2, e0, p0, p1, p2, p3, p4, p5, pl, pc⟩ := at_Ex HCr.out (k : Int) (by omega) (by omega)
      rw [Int.toNat_natCast] at p0 p1 p2 p3 p4 p5
      have hmem := rdEx_mem hlt
      have htk := dL_take x.f0 x.f1 k hlt
      have hIn := IH.out _ hmem
      have hde := IDE.out _ hmem
      generalize rd_Ex x.f1 (k : Int) = y at *
      have hal : Below wr.heap.size wr (wr.alloc (exBox y A2 c2)) := (Below.refl _ _).alloc (Nat.le_refl _) _
      have hk2 : (wr.alloc (exBox y A2 c2)).heap[wr.heap.size]? = some (.cells #[.int .i64 y.f0, .slice A2 y.f1.length c2, .int .i64 y.f2, .int .u64 y.f3, .int .i64 y.f4, .int .u64 y.f5] 37 (0, 0)) := new_blk wr _ _
      obtain ⟨z0, z1, z2, z3, z4, z5⟩ := box6 hk2
      have HR := Lib.hid (hIn A2 c2 _ (Kd.C_below pc hal))
      have HTK := Lib.hid htk; have HAL := Lib.hid hal; have HK2 := Lib.hid hk2
      have hwr := wrap_s (m := k) (by omega)
      subst e0
      obtain ⟨d, hd⟩ : ∃ d, d = dE y := ⟨_, rfl⟩
      rw [← hd] at HR hde
      have HD := Lib.hid hd
      clear htk hIn hal hk2 pc pl hmem hd
      go_wp2_with fail
      refine HR.out.mono ?_
      rintro e W5 ⟨rfl, hb5⟩
      obtain ⟨z0', z1', z2', z3', z4', z5'⟩ := box6 ((hb5.block wr.heap.size (by simp)).trans HK2.out)
      have hbr5 := HAL.out.trans (hb5.mono HAL.out.size)
      obtain ⟨y0, y1, -, -, -, -⟩ := box6 ((hbr5.block w.heap.size (by omega)).trans HKr.out)
      have HB5 := Lib.hid (HB.out.trans ((hbr5.trans ((Below.refl _ W5).alloc (Nat.le_refl _) (exBoxV y (.slice A2 y.f1.length c2)) |>.mono hbr5.size)).mono HB.out.size))
      clear hb5 p0 p1 p2 p3 p4 p5 z0 z1 z2 z3 z4 z5 hbr5
      go_wp2_with fail
      refine (around_any x.f0 y (.slice A2 y.f1.length c2) _).mono ?_
      rintro e W6 ⟨rfl, rfl⟩
      clear y0 y1 z0' z1' z2' z3' z4' z5'
      by_cases hr : aroundB x.f0 y.f0 = true
      · have HDA := Lib.hid (show dA x.f0 y = d + 1 by unfold dA; rw [if_pos hr, HD.out])
        have hwd := wrap_s (m := d) (by omega)
        go_wp2
        go_roundw
        case rel => exact ⟨k + 1, max m (d + 1), by simp, congrArg (Value.int .i64) (by omega), by omega, Lib.hid (by rw [HTK.out, HDA.out, HM.out]), HB5⟩
        case measure => simp [intOf]; omega
      · have hr2 : aroundB x.f0 y.f0 = false := by simpa using hr
        have HDA := Lib.hid (show dA x.f0 y = d by unfold dA; rw [if_neg hr, HD.out]; omega)
        clear hr
        go_wp2
        go_roundw
        case rel => exact ⟨k + 1, max m d, by simp, congrArg (Value.int .i64) (by omega), by omega, Lib.hid (by rw [HTK.out, HDA.out, HM.out]), HB5⟩
        case measure => simp [intOf]; omega
    · have hltb : decide ((k : Int) < (x.f1.length : Int)) = false := by simpa using hlt
      have hle : x.f1.length ≤ k := by omega
      have hBw : Below w.heap.size w wr := HB1.out.trans (HB.out.mono (by rw [HS1.out]; omega))
      have hmm : m = dL x.f0 x.f1 := by rw [HM.out, List.take_of_length_le hle]
      obtain ⟨y0, y1, -, -, -, -⟩ := box6 HKr.out
      have HBW := Lib.hid hBw; have HMM := Lib.hid hmm
      have hwm := wrap_s (m := m) (by omega)
      clear hlt hltb hBw hmm
      by_cases o3 : x.f0 = 3
      · have b3 : (x.f0 == 3) = true := by simpa using o3
        have HT := Lib.hid (show S = m + 1 by rw [HS.out, HDE.out, HMM.out, if_pos o3])
        clear o3
        go_wp2
        go_ret
        exact ⟨by rw [HT.out]; rfl, HBW.out⟩
      · have b3 : (x.f0 == 3) = false := by simpa using o3
        have HT := Lib.hid (show S = m by rw [HS.out, HDE.out, HMM.out, if_neg o3]; rfl)
        clear o3
        go_wp2
        go_ret
        exact ⟨by rw [HT.out]; rfl, HBW.out⟩
end Go.Proofs.YtlmopoipjolbgaaGreatDoor.LexW
namespace Go.Proofs.YtlmopoipjolbgaaGreatDoor.LexW
open Go.RowKit Go.Shelf Go.Proofs.YtlmopoipjolbgaaGreatDoor.LexS Go.Proofs.YtlmopoipjolbgaaGreatDoorW.PrintWords
set_option linter.unusedVariables false
set_option linter.unusedSimpArgs false

theorem valL_hex_lt : ∀ (l : List UInt8) (n k : Nat), l.all hexB = true → n < 16 ^ k → valL 16 hexV n l < 16 ^ (k + l.length)
  | [], n, k, _, h => h
  | c :: l, n, k, ha, h => by
    rw [List.all_cons, Bool.and_eq_true] at ha
    have hc : hexV c < 16 := by
      have := ha.1
      unfold hexB digitB at this
      unfold hexV
      simp only [Bool.or_eq_true, Bool.and_eq_true, decide_eq_true_eq] at this
      simp only [UInt8.le_iff_toNat_le] at this ⊢
      have e48 : (48 : UInt8).toNat = 48 := rfl
      have e57 : (57 : UInt8).toNat = 57 := rfl
      have e97 : (97 : UInt8).toNat = 97 := rfl
      have e102 : (102 : UInt8).toNat = 102 := rfl
      rw [e48, e57, e97, e102] at this
      rw [e57]
      split <;> omega
    have := valL_hex_lt l (16 * n + hexV c) (k + 1) ha.2 (by rw [Nat.pow_succ]; omega)
    rw [valL, List.length_cons, show k + (l.length + 1) = k + 1 + l.length by omega]
    exact this
theorem numL_lt {l : List UInt8} {n : Nat} (h : numL l = some n) : n < 18446744073709551616 := by
  unfold numL at h
  split at h
  · split at h
    · rename_i hh
      cases h
      have := valL_hex_lt (l.drop 2) 0 0 hh.2.2 (by decide)
      refine Nat.lt_of_lt_of_le this ?_
      have h2 : 16 ^ (0 + (l.drop 2).length) ≤ 16 ^ 16 := Nat.pow_le_pow_right (by decide) (by have := hh.2.1; omega)
      exact Nat.le_trans h2 (by decide)
    · cases h
  · split at h
    · rename_i hh
      cases h
      exact hh.2.2.2
    · cases h
theorem numR_u64 (l : List UInt8) : U64 (numR l).1 := by
  unfold numR
  cases h : numL l with
  | none => exact u64_0
  | some n => exact ⟨by simp, by have := numL_lt h; simp only; omega⟩
theorem like_ok {t : Tk} {c : UInt8} {T : List UInt8} (h : TkLike t c T) : TkFit t := by
  have h1 := tk_kinds h
  have h2 := (tk_text h).1
  refine ⟨?_, fun hk => ?_⟩
  · cases h with
    | number hT hk hc hw hr hn => rw [hn]; exact numR_u64 _
    | word => simp_all [u64_0]
    | sign => simp_all [u64_0]
  · rw [h2, ← h1.2.2.2, hk]; rfl
theorem toksF_ok (s : ByteArray) : ∀ f k, TksFit (toksF f s k).1
  | 0, k => by intro t h; simp [toksF] at h
  | f + 1, k => by
    intro t ht
    unfold toksF at ht
    split at ht
    · simp at ht
    · rename_i h0
      have h0 : errOf (nextV s k) = 0 := by simpa using h0
      split at ht
      · rename_i h1
        rw [List.mem_singleton.1 ht]
        obtain ⟨_, _, ⟨hend, _⟩ | ⟨p, q, _, _, _, _, h2, _, _, _⟩⟩ := next_ok s k h0
        · rw [hend]; exact ⟨u64_0, fun h => absurd (show (1 : Int) = 2 from h) (by decide)⟩
        · exact absurd h1 h2
      · rename_i h1
        rcases List.mem_cons.1 ht with rfl | ht
        · obtain ⟨c, T, hl⟩ := tok_like s k h0 h1
          exact like_ok hl
        · exact toksF_ok s f _ t ht
theorem toks_tok (s : ByteArray) : TksFit (toks s).1 := toksF_ok s _ _

theorem wholeP_val {α : Type} {P : α → Prop} {w : α → Nat} {f : EP → List Tk → Rd α} (hf : ∀ ep, Yields P w (f ep)) {s : ByteArray} {x : α} (h : wholeP f s = .ok x) : P x ∧ w x ≤ (toks s).1.length := by
  have hg := toks_tok s
  unfold wholeP at h
  split at h
  · cases h
  · obtain ⟨p, h1, h2⟩ := bnd_inv h
    have hy := hf _ _ _ _ hg h1
    obtain ⟨q, h3, h4⟩ := bnd_inv h2
    cases h4
    exact ⟨hy.1, by omega⟩
/-- an expression that was read -/
theorem exprV_val {s : ByteArray} {X : Ex} {e1 q1 : Int} (h : exprV s = (X, (e1, q1))) (h0 : e1 = 0) : okE X ∧ wE X ≤ 65538 ∧ dE X ≤ 64 := by
  unfold exprV at h
  split at h
  · rename_i x hx
    injection h with ha hb
    subst ha
    have hv := wholeP_val (fun ep => exprP_y ep (oneP_y ep 64)) hx
    have hl := toks_len s
    exact ⟨hv.1.1, by omega, hv.1.2⟩
  · rename_i e he
    injection h with ha hb
    exfalso
    have := wholeP_nz (fun ep => expr_nz ep (one_nz ep 64)) s e he
    rw [hb] at this
    exact this h0
theorem parseV_val {s : ByteArray} {P : Po} {e1 q1 : Int} (h : parseV s = (P, (e1, q1))) (h0 : e1 = 0) : okP P ∧ wP P ≤ 65538 := by
  unfold parseV at h
  split at h
  · rename_i x hx
    injection h with ha hb
    subst ha
    have hv := wholeP_val policyP_y hx
    have hl := toks_len s
    exact ⟨hv.1, by omega⟩
  · rename_i e he
    injection h with ha hb
    exfalso
    have := wholeP_nz policy_nz s e he
    rw [hb] at this
    exact this h0
end Go.Proofs.YtlmopoipjolbgaaGreatDoor.LexW
namespace Go.Proofs.YtlmopoipjolbgaaGreatDoor.LexW
open Go.RowKit Go.Shelf Go.Proofs.YtlmopoipjolbgaaGreatDoor.LexS Go.Proofs.YtlmopoipjolbgaaGreatDoorW.PrintWords
set_option linter.unusedVariables false
set_option linter.unusedSimpArgs false
attribute [local go_sem] fld_num fld_text

abbrev poZero : Obj := .cells #[.string ⟨#[]⟩, .int .i64 0, .int .u64 0, .int .i64 0, .int .u64 0, .slice none 0 0] 29
/-- the world in which a policy is read -/
abbrev poW (W : World) : World := (W.alloc poZero).alloc poZero
/-- on the way -/
structure PoSt (s : ByteArray) (ep : EP) (g : Nat) (W Wi : World) (L : List Tk) (cs : Array Value) : Prop where
  rd : Rdr s ep g L 0 Wi
  chg : Chg (fun k => k = g) W Wi
  hB : Wi.heap[W.heap.size]? = some (.cells #[.string ⟨#[]⟩, .int .i64 0, .int .u64 0, .int .i64 0, .int .u64 0, .slice none 0 0] 29 (0, 0))
  hX : Wi.heap[W.heap.size + 1]? = some (.cells cs 29 (0, 0))
theorem PoSt.lt {s : ByteArray} {ep : EP} {g : Nat} {W Wi : World} {L : List Tk} {cs : Array Value} (h : PoSt s ep g W Wi L cs) : W.heap.size + 1 < Wi.heap.size := (Array.getElem?_eq_some_iff.1 h.hX).1
theorem PoSt.next {s : ByteArray} {ep : EP} {g : Nat} {W Wi Wj : World} {L L' : List Tk} {cs : Array Value} (h : PoSt s ep g W Wi L cs) (hg : g < W.heap.size) (hc : Chg (fun k => k = g) Wi Wj) (hR : Rdr s ep g L' 0 Wj) : PoSt s ep g W Wj L' cs :=
  ⟨hR, h.chg.trans hc (fun k e => .inl e), chg_block hc h.hB (by omega), chg_block hc h.hX (by omega)⟩
theorem PoSt.set {s : ByteArray} {ep : EP} {g : Nat} {W Wi : World} {L : List Tk} {cs : Array Value} (h : PoSt s ep g W Wi L cs) (hg : g < W.heap.size) (j : Nat) (v : Value) : PoSt s ep g W (Wi.setCell ⟨W.heap.size + 1, j, none⟩ v) L (cs.setIfInBounds j v) :=
  ⟨h.rd.far _ j (by omega) v, h.chg.set1 (W.heap.size + 1) j (by omega) v, (Below.heap_setCell Wi ⟨W.heap.size + 1, j, none⟩ v W.heap.size (by show W.heap.size ≠ W.heap.size + 1; omega)).trans h.hB, blk_set h.hX j v⟩
theorem PoSt.set0 {s : ByteArray} {ep : EP} {g : Nat} {W Wi : World} {L : List Tk} {v0 v1 v2 v3 v4 v5 : Value} (h : PoSt s ep g W Wi L #[v0, v1, v2, v3, v4, v5]) (hg : g < W.heap.size) (u : Value) :
    PoSt s ep g W (Wi.setCell ⟨W.heap.size + 1, 0, none⟩ u) L #[u, v1, v2, v3, v4, v5] := h.set hg 0 u
theorem PoSt.set12 {s : ByteArray} {ep : EP} {g : Nat} {W Wi : World} {L : List Tk} {v0 v1 v2 v3 v4 v5 : Value} (h : PoSt s ep g W Wi L #[v0, v1, v2, v3, v4, v5]) (hg : g < W.heap.size) (u v : Value) :
    PoSt s ep g W ((Wi.setCell ⟨W.heap.size + 1, 1, none⟩ u).setCell ⟨W.heap.size + 1, 2, none⟩ v) L #[v0, u, v, v3, v4, v5] := (h.set hg 1 u).set hg 2 v
theorem PoSt.set34 {s : ByteArray} {ep : EP} {g : Nat} {W Wi : World} {L : List Tk} {v0 v1 v2 v3 v4 v5 : Value} (h : PoSt s ep g W Wi L #[v0, v1, v2, v3, v4, v5]) (hg : g < W.heap.size) (u v : Value) :
    PoSt s ep g W ((Wi.setCell ⟨W.heap.size + 1, 3, none⟩ u).setCell ⟨W.heap.size + 1, 4, none⟩ v) L #[v0, v1, v2, u, v, v5] := (h.set hg 3 u).set hg 4 v
theorem poW_st {s : ByteArray} {ep : EP} {g : Nat} {W : World} {L : List Tk} (hR : Rdr s ep g L 0 W) : PoSt s ep g W (poW W) L #[.string ⟨#[]⟩, .int .i64 0, .int .u64 0, .int .i64 0, .int .u64 0, .slice none 0 0] := by
  have hb : Below W.heap.size W (poW W) := ((Below.refl W.heap.size W).alloc (Nat.le_refl _) _).alloc (by simp) _
  exact ⟨hR.below hb, Chg.of_below hb _, blk_past _ (new_blk W _ _), new_blk' (by simp) _ _⟩

theorem PoSt.set5 {s : ByteArray} {ep : EP} {g : Nat} {W Wi : World} {L : List Tk} {v0 v1 v2 v3 v4 v5 : Value} (h : PoSt s ep g W Wi L #[v0, v1, v2, v3, v4, v5]) (hg : g < W.heap.size) (u : Value) :
    PoSt s ep g W (Wi.setCell ⟨W.heap.size + 1, 5, none⟩ u) L #[v0, v1, v2, v3, v4, u] := h.set hg 5 u
theorem PoSt.belowB {s : ByteArray} {ep : EP} {g : Nat} {W Wi Wj : World} {L : List Tk} {cs : Array Value} (h : PoSt s ep g W Wi L cs) (hg : g < W.heap.size) (hb : Below (W.heap.size + 2) Wi Wj) : PoSt s ep g W Wj L cs :=
  ⟨h.rd.belowB hb (by omega), h.chg.trans (Chg.of_belowB hb) (fun k e => .inr (by omega)), (hb.block _ (by omega)).trans h.hB, (hb.block _ (by omega)).trans h.hX⟩
theorem infoRl : (Tryz.prog.info? 70).map (fun i => (i.zero, i.size, i.bytes)) = some (some (.agg #[.slice none 0 0, .int .i64 0, .slice none 0 0, .int .i64 0, .int .u64 0, .int .i64 0, .int .u64 0, .int .i64 0, .int .u64 0]), kRl.sz, 104) := by kernel_rfl
abbrev rlCells (x : Rl) (v0 v2 : Value) : List Value := [v0, .int .i64 x.f1.f0, v2, .int .i64 x.f1.f2, .int .u64 x.f1.f3, .int .i64 x.f1.f4, .int .u64 x.f1.f5, .int .i64 x.f2.f0, .int .u64 x.f2.f1]
theorem rl_made {W : World} {bx base : Nat} {v0 v2 : Value} {x : Rl} (h0 : ClRow W bx v0 x.f0) (h2 : ExRow W bx v2 x.f1.f1) (hb : base ≤ bx) : kRl.M W base (fun k => bx ≤ k ∧ k < W.heap.size) x (rlCells x v0 v2) :=
  kRl.M_lower hb (kRl_mkM W bx _ x (Kd.R_mono (Kd.R_bound h0) (fun k hk => ⟨hk.2.1, hk.2.2.1⟩)) (Kd.R_mono (Kd.R_bound h2) (fun k hk => ⟨hk.2.1, hk.2.2.1⟩)))

def RlRow (W : World) (base : Nat) (v : Value) (l : List Rl) : Prop := kRl.R 70 W base (fun _ => True) v l
theorem RlRow.chg {S : Nat → Prop} {W W' : World} {base : Nat} {v : Value} {l : List Rl} (h : RlRow W base v l) (hc : Chg S W W') (hS : ∀ k, S k → k < base) : RlRow W' base v l :=
  Kd.R_mono (Kd.R_move (Kd.R_bound h) (fun k hk => hc.block k hk.2.2.1 (fun e => by have := hS k e; have := hk.2.1; omega))) (fun _ _ => trivial)
theorem RlRow.lower {W : World} {base base' : Nat} {v : Value} {l : List Rl} (h : RlRow W base v l) (hb : base' ≤ base) : RlRow W base' v l := Kd.R_lower h hb
def PoOut (s : ByteArray) (ep : EP) (g : Nat) (base : Nat) (p : Po × List Tk) (e : Ending) (W' : World) : Prop :=
  ∃ v, e = .returned (.agg #[.string p.1.arch, .int .i64 p.1.foreign.f0, .int .u64 p.1.foreign.f1, .int .i64 p.1.dflt.f0, .int .u64 p.1.dflt.f1, v]) ∧ RlRow W' base v p.1.rules ∧ Rdr s ep g p.2 0 W'

set_option maxRecDepth 100000 in
set_option maxHeartbeats 2000000 in
theorem policy_any (s : ByteArray) (ep : EP) (g : Nat) (L : List Tk) (w0 W : World) (hL : L.length ≤ 65537) (hO : Okw w0 g W) (hR : Rdr s ep g L 0 W) :
    Calls Tryz.prog 24 #[.pointer (some ⟨g, 0, none⟩)] W (Outs g W (policyP ep L) (PoOut s ep g W.heap.size)) := by
  have hgW := hR.lt
  have hS0 := poW_st hR
  have HS := Lib.hid hS0; have HO := Lib.hid hO
  clear hS0 hO hR
  have HRP : Hid (policyP ep L = bnd (wantP ep sArch L) (fun q0 => bnd (kindP ep 2 q0.2) (fun q1 => bnd (wantP ep sSemi q1.2) (fun q2 => bnd (wantP ep sForeign q2.2) (fun q3 => bnd (verdictP ep q3.2) (fun q4 => bnd (wantP ep sSemi q4.2) (fun q5 => bnd (wantP ep sDefault q5.2) (fun q6 => bnd (verdictP ep q6.2) (fun q7 => bnd (wantP ep sSemi q7.2) (fun q8 => bnd (rulesP ep (q8.2.length + 1) [] q8.2) (fun r => .ok (⟨q1.1.text, q4.1, q7.1, r.1⟩, r.2)))))))))))) := Lib.hid rfl
  go_enter Tryz.func24, Tryz.ntmps24
  have HC := Lib.hid (want_any s ep g L 0 sArch w0 _ (HO.out.chg HS.out.chg) HS.out.rd)
  rcases hr : wantP ep sArch L with p | ⟨u1, L1⟩
  · have HE := Lib.hid hr; clear hr
    go_wp2_with fail
    refine HC.out.mono ?_
    rintro e V h
    obtain ⟨rfl, hc⟩ := h.err HE.out
    go_wp2
    exact ⟨rfl, Outs.mk_err (by rw [HRP.out, HE.out]; rfl) rfl (HS.out.chg.trans hc (fun k e => .inl e))⟩
  have HRP1 : Hid (policyP ep L = bnd (kindP ep 2 L1) (fun q1 => bnd (wantP ep sSemi q1.2) (fun q2 => bnd (wantP ep sForeign q2.2) (fun q3 => bnd (verdictP ep q3.2) (fun q4 => bnd (wantP ep sSemi q4.2) (fun q5 => bnd (wantP ep sDefault q5.2) (fun q6 => bnd (verdictP ep q6.2) (fun q7 => bnd (wantP ep sSemi q7.2) (fun q8 => bnd (rulesP ep (q8.2.length + 1) [] q8.2) (fun r => .ok (⟨q1.1.text, q4.1, q7.1, r.1⟩, r.2))))))))))) := Lib.hid (by rw [HRP.out, hr]; rfl)
  have hl1 := wantP_shr ep sArch _ _ _ hr
  have HE := Lib.hid hr; clear hr
  go_wp2_with fail
  refine HC.out.mono ?_
  rintro e V1 h
  obtain ⟨⟨rfl, hR⟩, hc⟩ := h.ok HE.out
  have hS := HS.out.next hgW hc hR
  clear HS HC HRP HE
  have HRP := HRP1; clear HRP1
  obtain ⟨y0, y1, y2, y3, y4, y5, yf⟩ := blk6 hS.hX
  have HS := Lib.hid hS
  clear hS hR hc
  have HC := Lib.hid (kind_any s ep g L1 0 2 w0 _ (HO.out.chg HS.out.chg) HS.out.rd)
  rcases hr : kindP ep 2 L1 with p | ⟨a, L2⟩
  · have HE := Lib.hid hr; clear hr
    go_wp2_with fail
    refine HC.out.mono ?_
    rintro e V h
    obtain ⟨rfl, hc⟩ := h.err HE.out
    go_wp2
    exact ⟨rfl, Outs.mk_err (by rw [HRP.out, HE.out]; rfl) rfl (HS.out.chg.trans hc (fun k e => .inl e))⟩
  have HRP1 : Hid (policyP ep L = bnd (wantP ep sSemi L2) (fun q2 => bnd (wantP ep sForeign q2.2) (fun q3 => bnd (verdictP ep q3.2) (fun q4 => bnd (wantP ep sSemi q4.2) (fun q5 => bnd (wantP ep sDefault q5.2) (fun q6 => bnd (verdictP ep q6.2) (fun q7 => bnd (wantP ep sSemi q7.2) (fun q8 => bnd (rulesP ep (q8.2.length + 1) [] q8.2) (fun r => .ok (⟨a.text, q4.1, q7.1, r.1⟩, r.2)))))))))) := Lib.hid (by rw [HRP.out, hr]; rfl)
  have hl2 := kindP_shr ep 2 _ _ _ hr
  have HE := Lib.hid hr; clear hr
  go_wp2_with fail
  refine HC.out.mono ?_
  rintro e V2 h
  obtain ⟨⟨rfl, hR⟩, hc⟩ := h.ok HE.out
  have hS := HS.out.next hgW hc hR
  clear HS HC HRP HE
  have HRP := HRP1; clear HRP1
  obtain ⟨y0, y1, y2, y3, y4, y5, yf⟩ := blk6 hS.hX
  unfold tkVal
  have HS := Lib.hid (hS.set0 hgW (.string a.text))
  clear hS hR hc
  have HC := Lib.hid (want_any s ep g L2 0 sSemi w0 _ (HO.out.chg HS.out.chg) HS.out.rd)
  rcases hr : wantP ep sSemi L2 with p | ⟨u3, L3⟩
  · have HE := Lib.hid hr; clear hr
    go_wp2_with fail
    refine HC.out.mono ?_
    rintro e V h
    obtain ⟨rfl, hc⟩ := h.err HE.out
    go_wp2
    exact ⟨rfl, Outs.mk_err (by rw [HRP.out, HE.out]; rfl) rfl (HS.out.chg.trans hc (fun k e => .inl e))⟩
  have HRP1 : Hid (policyP ep L = bnd (wantP ep sForeign L3) (fun q3 => bnd (verdictP ep q3.2) (fun q4 => bnd (wantP ep sSemi q4.2) (fun q5 => bnd (wantP ep sDefault q5.2) (fun q6 => bnd (verdictP ep q6.2) (fun q7 => bnd (wantP ep sSemi q7.2) (fun q8 => bnd (rulesP ep (q8.2.length + 1) [] q8.2) (fun r => .ok (⟨a.text, q4.1, q7.1, r.1⟩, r.2))))))))) := Lib.hid (by rw [HRP.out, hr]; rfl)
  have hl3 := wantP_shr ep sSemi _ _ _ hr
  have HE := Lib.hid hr; clear hr
  go_wp2_with fail
  refine HC.out.mono ?_
  rintro e V3 h
  obtain ⟨⟨rfl, hR⟩, hc⟩ := h.ok HE.out
  have hS := HS.out.next hgW hc hR
  clear HS HC HRP HE
  have HRP := HRP1; clear HRP1
  try clear y0 y1 y2 y3 y4 y5 yf
  obtain ⟨y0, y1, y2, y3, y4, y5, yf⟩ := blk6 hS.hX
  have HS := Lib.hid hS
  clear hS hR hc
  have HC := Lib.hid (want_any s ep g L3 0 sForeign w0 _ (HO.out.chg HS.out.chg) HS.out.rd)
  rcases hr : wantP ep sForeign L3 with p | ⟨u4, L4⟩
  · have HE := Lib.hid hr; clear hr
    go_wp2_with fail
    refine HC.out.mono ?_
    rintro e V h
    obtain ⟨rfl, hc⟩ := h.err HE.out
    go_wp2
    exact ⟨rfl, Outs.mk_err (by rw [HRP.out, HE.out]; rfl) rfl (HS.out.chg.trans hc (fun k e => .inl e))⟩
  have HRP1 : Hid (policyP ep L = bnd (verdictP ep L4) (fun q4 => bnd (wantP ep sSemi q4.2) (fun q5 => bnd (wantP ep sDefault q5.2) (fun q6 => bnd (verdictP ep q6.2) (fun q7 => bnd (wantP ep sSemi q7.2) (fun q8 => bnd (rulesP ep (q8.2.length + 1) [] q8.2) (fun r => .ok (⟨a.text, q4.1, q7.1, r.1⟩, r.2)))))))) := Lib.hid (by rw [HRP.out, hr]; rfl)
  have hl4 := wantP_shr ep sForeign _ _ _ hr
  have HE := Lib.hid hr; clear hr
  go_wp2_with fail
  refine HC.out.mono ?_
  rintro e V4 h
  obtain ⟨⟨rfl, hR⟩, hc⟩ := h.ok HE.out
  have hS := HS.out.next hgW hc hR
  clear HS HC HRP HE
  have HRP := HRP1; clear HRP1
  try clear y0 y1 y2 y3 y4 y5 yf
  obtain ⟨y0, y1, y2, y3, y4, y5, yf⟩ := blk6 hS.hX
  have HS := Lib.hid hS
  clear hS hR hc
  have HC := Lib.hid (verdict_any s ep g L4 0 w0 _ (HO.out.chg HS.out.chg) HS.out.rd)
  rcases hr : verdictP ep L4 with p | ⟨f, L5⟩
  · have HE := Lib.hid hr; clear hr
    go_wp2_with fail
    refine HC.out.mono ?_
    rintro e V h
    obtain ⟨rfl, hc⟩ := h.err HE.out
    go_wp2
    exact ⟨rfl, Outs.mk_err (by rw [HRP.out, HE.out]; rfl) rfl (HS.out.chg.trans hc (fun k e => .inl e))⟩
  have HRP1 : Hid (policyP ep L = bnd (wantP ep sSemi L5) (fun q5 => bnd (wantP ep sDefault q5.2) (fun q6 => bnd (verdictP ep q6.2) (fun q7 => bnd (wantP ep sSemi q7.2) (fun q8 => bnd (rulesP ep (q8.2.length + 1) [] q8.2) (fun r => .ok (⟨a.text, f, q7.1, r.1⟩, r.2))))))) := Lib.hid (by rw [HRP.out, hr]; rfl)
  have hl5 := verdictP_shr ep _ _ _ hr
  have HE := Lib.hid hr; clear hr
  go_wp2_with fail
  refine HC.out.mono ?_
  rintro e V5 h
  obtain ⟨⟨rfl, hR⟩, hc⟩ := h.ok HE.out
  have hS := HS.out.next hgW hc hR
  clear HS HC HRP HE
  have HRP := HRP1; clear HRP1
  try clear y0 y1 y2 y3 y4 y5 yf
  obtain ⟨y0, y1, y2, y3, y4, y5, yf⟩ := blk6 hS.hX
  unfold vdVal
  have HS := Lib.hid (hS.set12 hgW (.int .i64 f.f0) (.int .u64 f.f1))
  clear hS hR hc
  have HC := Lib.hid (want_any s ep g L5 0 sSemi w0 _ (HO.out.chg HS.out.chg) HS.out.rd)
  rcases hr : wantP ep sSemi L5 with p | ⟨u6, L6⟩
  · have HE := Lib.hid hr; clear hr
    go_wp2_with fail
    refine HC.out.mono ?_
    rintro e V h
    obtain ⟨rfl, hc⟩ := h.err HE.out
    go_wp2
    exact ⟨rfl, Outs.mk_err (by rw [HRP.out, HE.out]; rfl) rfl (HS.out.chg.trans hc (fun k e => .inl e))⟩
  have HRP1 : Hid (policyP ep L = bnd (wantP ep sDefault L6) (fun q6 => bnd (verdictP ep q6.2) (fun q7 => bnd (wantP ep sSemi q7.2) (fun q8 => bnd (rulesP ep (q8.2.length + 1) [] q8.2) (fun r => .ok (⟨a.text, f, q7.1, r.1⟩, r.2)))))) := Lib.hid (by rw [HRP.out, hr]; rfl)
  have hl6 := wantP_shr ep sSemi _ _ _ hr
  have HE := Lib.hid hr; clear hr
  go_wp2_with fail
  refine HC.out.mono ?_
  rintro e V6 h
  obtain ⟨⟨rfl, hR⟩, hc⟩ := h.ok HE.out
  have hS := HS.out.next hgW hc hR
  clear HS HC HRP HE
  have HRP := HRP1; clear HRP1
  try clear y0 y1 y2 y3 y4 y5 yf
  obtain ⟨y0, y1, y2, y3, y4, y5, yf⟩ := blk6 hS.hX
  have HS := Lib.hid hS
  clear hS hR hc
  have HC := Lib.hid (want_any s ep g L6 0 sDefault w0 _ (HO.out.chg HS.out.chg) HS.out.rd)
  rcases hr : wantP ep sDefault L6 with p | ⟨u7, L7⟩
  · have HE := Lib.hid hr; clear hr
    go_wp2_with fail
    refine HC.out.mono ?_
    rintro e V h
    obtain ⟨rfl, hc⟩ := h.err HE.out
    go_wp2
    exact ⟨rfl, Outs.mk_err (by rw [HRP.out, HE.out]; rfl) rfl (HS.out.chg.trans hc (fun k e => .inl e))⟩
  have HRP1 : Hid (policyP ep L = bnd (verdictP ep L7) (fun q7 => bnd (wantP ep sSemi q7.2) (fun q8 => bnd (rulesP ep (q8.2.length + 1) [] q8.2) (fun r => .ok (⟨a.text, f, q7.1, r.1⟩, r.2))))) := Lib.hid (by rw [HRP.out, hr]; rfl)
  have hl7 := wantP_shr ep sDefault _ _ _ hr
  have HE := Lib.hid hr; clear hr
  go_wp2_with fail
  refine HC.out.mono ?_
  rintro e V7 h
  obtain ⟨⟨rfl, hR⟩, hc⟩ := h.ok HE.out
  have hS := HS.out.next hgW hc hR
  clear HS HC HRP HE
  have HRP := HRP1; clear HRP1
  try clear y0 y1 y2 y3 y4 y5 yf
  obtain ⟨y0, y1, y2, y3, y4, y5, yf⟩ := blk6 hS.hX
  have HS := Lib.hid hS
  clear hS hR hc
  have HC := Lib.hid (verdict_any s ep g L7 0 w0 _ (HO.out.chg HS.out.chg) HS.out.rd)
  rcases hr : verdictP ep L7 with p | ⟨dv, L8⟩
  · have HE := Lib.hid hr; clear hr
    go_wp2_with fail
    refine HC.out.mono ?_
    rintro e V h
    obtain ⟨rfl, hc⟩ := h.err HE.out
    go_wp2
    exact ⟨rfl, Outs.mk_err (by rw [HRP.out, HE.out]; rfl) rfl (HS.out.chg.trans hc (fun k e => .inl e))⟩
  have HRP1 : Hid (policyP ep L = bnd (wantP ep sSemi L8) (fun q8 => bnd (rulesP ep (q8.2.length + 1) [] q8.2) (fun r => .ok (⟨a.text, f, dv, r.1⟩, r.2)))) := Lib.hid (by rw [HRP.out, hr]; rfl)
  have hl8 := verdictP_shr ep _ _ _ hr
  have HE := Lib.hid hr; clear hr
  go_wp2_with fail
  refine HC.out.mono ?_
  rintro e V8 h
  obtain ⟨⟨rfl, hR⟩, hc⟩ := h.ok HE.out
  have hS := HS.out.next hgW hc hR
  clear HS HC HRP HE
  have HRP := HRP1; clear HRP1
  try clear y0 y1 y2 y3 y4 y5 yf
  obtain ⟨y0, y1, y2, y3, y4, y5, yf⟩ := blk6 hS.hX
  unfold vdVal
  have HS := Lib.hid (hS.set34 hgW (.int .i64 dv.f0) (.int .u64 dv.f1))
  clear hS hR hc
  have HC := Lib.hid (want_any s ep g L8 0 sSemi w0 _ (HO.out.chg HS.out.chg) HS.out.rd)
  rcases hr : wantP ep sSemi L8 with p | ⟨u9, L9⟩
  · have HE := Lib.hid hr; clear hr
    go_wp2_with fail
    refine HC.out.mono ?_
    rintro e V h
    obtain ⟨rfl, hc⟩ := h.err HE.out
    go_wp2
    exact ⟨rfl, Outs.mk_err (by rw [HRP.out, HE.out]; rfl) rfl (HS.out.chg.trans hc (fun k e => .inl e))⟩
  have HRP1 : Hid (policyP ep L = bnd (rulesP ep (L9.length + 1) [] L9) (fun r => .ok (⟨a.text, f, dv, r.1⟩, r.2))) := Lib.hid (by rw [HRP.out, hr]; rfl)
  have hl9 := wantP_shr ep sSemi _ _ _ hr
  have HE := Lib.hid hr; clear hr
  go_wp2_with fail
  refine HC.out.mono ?_
  rintro e V9 h
  obtain ⟨⟨rfl, hR⟩, hc⟩ := h.ok HE.out
  have hS := HS.out.next hgW hc hR
  clear HS HC HRP HE
  have HRP := HRP1; clear HRP1
  try clear y0 y1 y2 y3 y4 y5 yf
  obtain ⟨y0, y1, y2, y3, y4, y5, yf⟩ := blk6 hS.hX
  have HS := Lib.hid hS
  clear hS hR hc

  go_wp2_with fail
  have hL9 : L9.length ≤ 65537 := by omega
  clear hl1 hl2 hl3 hl4 hl5 hl6 hl7 hl8 hl9
  try clear y0 y1 y2 y3 y4 y5 yf
  go_loopg [] (L9.length + 1) (fun n wr => ∃ (l : List Rl) (L4 : List Tk) (v : Value), Hid (policyP ep L = bnd (rulesP ep n l L4) (fun r => .ok (⟨a.text, f, dv, r.1⟩, r.2))) ∧ L4.length < n ∧ l.length ≤ 512 ∧ L4.length ≤ 65537 ∧ Hid (RlRow wr (W.heap.size + 2) v l) ∧ Hid (PoSt s ep g W wr L4 #[.string a.text, .int .i64 f.f0, .int .u64 f.f1, .int .i64 dv.f0, .int .u64 dv.f1, v]))
  case atStart => exact ⟨[], L9, .slice none 0 0, HRP, by omega, by simp, hL9, Lib.hid (Kd.R_nil _ _ _ _ _), HS⟩
  case round =>
    clear HS HRP
    obtain ⟨l, L4, v, HT, hn, hl, hl4, HROW, HS⟩ := hrel
    obtain ⟨n, rfl⟩ : ∃ n, gk = n + 1 := ⟨gk - 1, by omega⟩
    obtain ⟨A, c, rfl⟩ := Kd.R_slice HROW.out
    have hun : rulesP ep (n + 1) l L4 = if isT sOn (hdT L4) then (if l.length = 512 then .error (badP 63 L4) else bnd (stepP ep L4) (fun L1 => bnd (ruleP ep L1) (fun p => rulesP ep n (l ++ [p.1]) p.2))) else .ok (l, L4) := rfl
    have HUN := Lib.hid hun; clear hun
    have HI := Lib.hid (is_any s ep g L4 0 sOn wr HS.out.rd)
    obtain ⟨y0, y1, y2, y3, y4, y5, yf⟩ := blk6 HS.out.hX
    cases hon : isT sOn (hdT L4) with
    | false =>
      rw [hon] at HI HUN
      clear hon
      obtain ⟨z0, z1, z2, z3, z4, z5, zf⟩ := blk6 HS.out.hB
      go_wp2_with fail
      refine HI.out.mono ?_
      rintro e W5 ⟨rfl, rfl⟩
      go_wp2
      have hb6 := blk_sets6 HS.out.hB (.string a.text) (.int .i64 f.f0) (.int .u64 f.f1) (.int .i64 dv.f0) (.int .u64 dv.f1) (.slice A l.length c)
      obtain ⟨r0, r1, r2, r3, r4, r5, rf⟩ := blk6 hb6
      have hcB : Chg (fun k => k = W.heap.size) wr _ := (Chg.refl (fun k => k = W.heap.size) wr).sets6' W.heap.size (fun k e => e) (.string a.text) (.int .i64 f.f0) (.int .u64 f.f1) (.int .i64 dv.f0) (.int .u64 dv.f1) (.slice A l.length c)
      refine bodyPost_ret (v := .agg #[.string a.text, .int .i64 f.f0, .int .u64 f.f1, .int .i64 dv.f0, .int .u64 dv.f1, .slice A l.length c]) (by simp [results, Tryz.results24, go_sem, r0, r1, r2, r3, r4, r5]) rfl ?_
      refine Outs.mk_ok (b := (⟨a.text, f, dv, l⟩, L4)) (by rw [HT.out, HUN.out]; rfl) ⟨.slice A l.length c, rfl, (HROW.out.chg hcB (fun k e => by omega)).lower (by omega), HS.out.rd.chgd hcB (by omega)⟩ (HS.out.chg.trans hcB (fun k e => .inr (by omega)))
    | true =>
      have hk := isT_kind' hon
      rw [hon] at HI HUN
      clear hon
      by_cases h5 : l.length = 512
      · have hb : ((l.length : Int) == 512) = true := by rw [beq_iff_eq]; omega
        have HB := Lib.hid (bad_any s ep g L4 0 63 wr HS.out.rd)
        go_wp2_with fail
        refine HI.out.mono ?_
        rintro e W5 ⟨rfl, rfl⟩
        go_wp2_with fail
        refine HB.out.mono ?_
        rintro e W6 ⟨he, rfl⟩
        unfold panics at he
        subst he
        go_wp2
        exact ⟨rfl, Outs.mk_err (by rw [HT.out, HUN.out, if_pos trivial, if_pos h5]; rfl) rfl HS.out.chg⟩
      have hb : ((l.length : Int) == 512) = false := by rw [beq_eq_false_iff_ne]; omega
      have HST := Lib.hid (step_any s ep g L4 0 w0 wr (HO.out.chg HS.out.chg) HS.out.rd hk)
      rcases hst : stepP ep L4 with p | L5
      · have HSE := Lib.hid hst; clear hst
        go_wp2_with fail
        refine HI.out.mono ?_
        rintro e W5 ⟨rfl, rfl⟩
        go_wp2_with fail
        refine HST.out.mono ?_
        rintro e W6 h
        obtain ⟨rfl, hc⟩ := h.err HSE.out
        go_wp2
        exact ⟨rfl, Outs.mk_err (by rw [HT.out, HUN.out, if_pos trivial, if_neg h5, HSE.out]; rfl) rfl (HS.out.chg.trans hc (fun k e => .inl e))⟩
      have HSE := Lib.hid hst; clear hst
      go_wp2_with fail
      refine HI.out.mono ?_
      rintro e W5 ⟨rfl, rfl⟩
      go_wp2_with fail
      refine HST.out.mono ?_
      rintro e W6 h
      obtain ⟨⟨rfl, hR6⟩, hc⟩ := h.ok HSE.out
      have hl5 : L5.length + 1 = L4.length := by obtain ⟨t', h1, _⟩ := stepP_ok HSE.out; rw [h1]; simp
      have hlt4 := HS.out.lt
      have hS6 := HS.out.next hgW hc hR6
      have hdr : Below W6.heap.size W6 W6.drew := (Below.refl _ _).drew
      have hszd : W6.drew.heap.size = W6.heap.size := rfl
      have hS6d := hS6.belowB hgW (hdr.mono hS6.lt)
      have hrow6 := (HROW.out.chg hc (fun k e => by omega)).chg (Chg.of_below hdr (fun k => k = g)) (fun k e => by omega)
      have HRU := Lib.hid (rule_any s ep g L5 w0 W6.drew (by omega) (HO.out.chg hS6d.chg) hS6d.rd)
      obtain ⟨x0, x1, x2, x3, x4, x5, xf⟩ := blk6 hS6.hX
      have HS6 := Lib.hid hS6d; have HROW6 := Lib.hid hrow6
      have hs6 := hS6d.lt
      clear hS6 hS6d hrow6 hR6 hc hdr y0 y1 y2 y3 y4 y5 yf
      rcases hru : ruleP ep L5 with p | ⟨y, L6⟩
      · have HRE := Lib.hid hru; clear hru
        go_wp2_with fail
        refine wp_region_held_drew (S := fun w' => w'.cell? ⟨W.heap.size + 1, 5, none⟩ = some (.slice A l.length c)) (by kernel_rfl) (by simp [x5]) (fun hHeld => ?_)
        refine wpAnyH_take (i := 0) (oi := _) (v := .pointer (some ⟨W.heap.size + 1, 5, none⟩)) rfl (by kernel_rfl) (by kernel_rfl) (by kernel_rfl) (fun _ _ _ h => h) (Or.inl ⟨by rfl, ?_⟩) hHeld ?_
        · intro w hSw; (try dsimp only at hSw); go_simp
        simp only [Act.put, List.setIfInBounds_toArray, List.set_cons_zero, List.set_cons_succ]
        refine wpAnyH_take (i := 1) (oi := _) (v := .slice A l.length c) rfl (by kernel_rfl) (by kernel_rfl) (by kernel_rfl) (fun _ _ _ h => h) (Or.inl ⟨by rfl, ?_⟩) hHeld ?_
        · intro w hSw; (try dsimp only at hSw); go_simp
        simp only [Act.put, List.setIfInBounds_toArray, List.set_cons_zero, List.set_cons_succ]
        refine wpAnyH_take (i := 2) (oi := _) (v := .pointer (some ⟨g, 0, none⟩)) rfl (by kernel_rfl) (by kernel_rfl) (by kernel_rfl) (fun _ _ _ h => h) (Or.inl ⟨by rfl, ?_⟩) hHeld ?_
        · intro w hSw; (try dsimp only at hSw); go_simp
        simp only [Act.put, List.setIfInBounds_toArray, List.set_cons_zero, List.set_cons_succ]
        refine wpAnyH_ready (rs := [3]) (by kernel_rfl) (by simp) ?_
        refine AllReadyH.cons rfl (fun K hK => ?_) AllReadyH.nil
        go_simp
        go_at_call 61
        refine HRU.out.mono ?_
        rintro e W7 h
        obtain ⟨rfl, hc⟩ := h.err HRE.out
        go_wp2
        exact ⟨rfl, Outs.mk_err (by rw [HT.out, HUN.out, if_pos trivial, if_neg h5, HSE.out]; show bnd (bnd (ruleP ep L5) _) _ = _; rw [HRE.out]; rfl) rfl (HS6.out.chg.trans hc (fun k e => .inl e))⟩
      · have HRE := Lib.hid hru
        have hl6 := ruleP_shr ep _ _ _ hru
        clear hru
        go_wp2_with fail
        go_region_law (first
          | (refine Kd.R_append_step kRl (w0 := W7) (W := W7) (W.heap.size + 2) (by rfl) (.tmp 37) (.tmp 40) 27 70 (.agg #[.slice none 0 0, .int .i64 0, .slice none 0 0, .int .i64 0, .int .u64 0, .int .i64 0, .int .u64 0, .int .i64 0, .int .u64 0]) 104 rfl Tryz.underlying27 infoRl rfl (by decide) (by decide) (.slice A l.length c) l y (rlCells y (.slice A7 y.f0.length c7) (.slice B7 y.f1.f1.length d7)) (fun _ => True) (fun k => W6.heap.size ≤ k ∧ k < W7.heap.size) (by first | rfl | (go_simp; done)) (by first | rfl | (go_simp; done)) HMADE.out (fun k hk => ⟨trivial, fun e => Nat.lt_irrefl k (Nat.lt_of_lt_of_le (HVLT.out k e.symm) hk.1)⟩) (fun _ _ => trivial) HROW7.out (Below.refl _ _) (by omega) (by omega) ?_; intro v8 w8 hO8 hb8 hg8 hat8
             obtain ⟨A8, c8, rfl⟩ := Kd.R_slice hO8
             have HS8 := Lib.hid (HS7.out.belowB hgW hb8); have HO8 : Hid (RlRow w8 (W.heap.size + 2) (.slice A8 (l ++ [y]).length c8) (l ++ [y])) := Lib.hid hO8; clear hO8 hb8 hg8 hat8
             obtain ⟨w0', w1', w2', w3', w4', w5', wf'⟩ := blk6 HS8.out.hX)
          | (go_simp; go_at_call 61; refine HRU.out.mono ?_; rintro e W7 h
             obtain ⟨⟨vc, v1, rfl, hcl, hex, hR7⟩, hc7⟩ := h.ok HRE.out
             obtain ⟨A7, c7, rfl⟩ := Kd.R_slice hcl; obtain ⟨B7, d7, rfl⟩ := Kd.R_slice hex
             have hs7 := hc7.size
             have HS7 := Lib.hid (HS6.out.next hgW hc7 hR7); have HROW7 := Lib.hid (HROW6.out.chg hc7 (fun k e => by omega))
             have HMADE := Lib.hid (rl_made (base := W.heap.size + 2) hcl hex (by omega))
             have HVLT : Hid (∀ k, (Value.slice A l.length c).ownBlock = some k → k < W6.heap.size) := Lib.hid (fun k hk => (by obtain ⟨inner, ho⟩ := Kd.R_own HROW6.out; exact own_lt ho k hk))
             obtain ⟨z0, z1, z2, z3, z4, z5, zf⟩ := blk6 HS7.out.hX
             obtain ⟨t0, t1, t2, t3, t4, t5, tf⟩ := blk6 (blk_past (.cells (rlCells y (.slice A7 y.f0.length c7) (.slice B7 y.f1.f1.length d7)).toArray 70) HS7.out.hX)
             clear hcl hex hR7 hc7
             unfold rlAgg))
        all_goals
          have hlen1 : (l ++ [y]).length = l.length + 1 := by simp
          rw [hlen1] at HO8
          have hset := Chg.of_set w8 (W.heap.size + 1) 5 (.slice A8 (l.length + 1) c8)
          have HS9 := Lib.hid (HS8.out.set5 hgW (.slice A8 (l.length + 1) c8))
          have HO9 := Lib.hid (HO8.out.chg hset (fun k e => by omega))
          clear hset
          go_wp2
          go_roundg n
          case measure => omega
          case rel => exact ⟨l ++ [y], L6, _, Lib.hid (by rw [HT.out, HUN.out, if_pos trivial, if_neg h5, HSE.out]; show bnd (bnd (ruleP ep L5) _) _ = _; rw [HRE.out]; rfl), by omega, by simp; omega, by omega, HO9, HS9⟩
end Go.Proofs.YtlmopoipjolbgaaGreatDoor.LexW
namespace Go.Proofs.YtlmopoipjolbgaaGreatDoor.LexW
open Go.RowKit Go.Shelf Go.Proofs.YtlmopoipjolbgaaGreatDoor.LexS Go.Proofs.YtlmopoipjolbgaaGreatDoorW.PrintWords
set_option linter.unusedVariables false
set_option linter.unusedSimpArgs false

abbrev poAgg (x : Po) (v : Value) : Value := .agg #[.string x.arch, .int .i64 x.foreign.f0, .int .u64 x.foreign.f1, .int .i64 x.dflt.f0, .int .u64 x.dflt.f1, v]
/-- a box that holds a policy -/
def PoBox (bx base : Nat) (x : Po) (W : World) : Prop := ∃ v, W.heap[bx]? = some (.cells #[.string x.arch, .int .i64 x.foreign.f0, .int .u64 x.foreign.f1, .int .i64 x.dflt.f0, .int .u64 x.dflt.f1, v] 29 (0, 0)) ∧ RlRow W base v x.rules
theorem PoBox.chg {S : Nat → Prop} {W W' : World} {bx base : Nat} {x : Po} (h : PoBox bx base x W) (hc : Chg S W W') (hn : ¬ S bx) (hS : ∀ k, S k → k < base) : PoBox bx base x W' :=
  let ⟨v, hb, hr⟩ := h; ⟨v, chg_block hc hb hn, hr.chg hc hS⟩
theorem enters_pp1 : Enters Tryz.prog 23 := enters_of Tryz.func23 (by kernel_rfl) rfl

set_option maxRecDepth 100000 in
set_option maxHeartbeats 1000000 in
theorem pp1_any (s : ByteArray) (ep : EP) (g bx base : Nat) (L : List Tk) (w0 W : World) (hL : L.length ≤ 65537) (hO : Okw w0 g W) (hR : Rdr s ep g L 0 W) (hbx : bx < base) (hbg : bx ≠ g) (hbase : base ≤ W.heap.size) (hz : W.heap[bx]? = some (.cells #[.string ⟨#[]⟩, .int .i64 0, .int .u64 0, .int .i64 0, .int .u64 0, .slice none 0 0] 29 (0, 0))) :
    Calls Tryz.prog 23 #[.pointer (some ⟨g, 0, none⟩), .pointer (some ⟨bx, 0, none⟩)] W (DoOut s ep g bx (PoBox bx base) W (policyP ep L)) := by
  have HE := Lib.hid (policy_any s ep g L w0 W hL hO hR)
  have HZ := Lib.hid hz
  clear hO hR hz
  rcases he : policyP ep L with p | ⟨x, L1⟩
  · have H := Lib.hid he; clear he
    go_enter Tryz.func23, Tryz.ntmps23
    go_wp2_with fail
    refine HE.out.mono ?_
    rintro e W2 h
    obtain ⟨rfl, hc⟩ := h.err H.out
    go_wp2
    exact ⟨rfl, rfl, hc.wider (fun k e => .inl e)⟩
  · have H := Lib.hid he; clear he
    go_enter Tryz.func23, Tryz.ntmps23
    go_wp2_with fail
    refine HE.out.mono ?_
    rintro e W2 h
    obtain ⟨⟨v, rfl, hX, hR2⟩, hc⟩ := h.ok H.out
    obtain ⟨A, c, rfl⟩ := Kd.R_slice hX
    have hz2 := chg_block hc HZ.out hbg
    obtain ⟨z0, z1, z2, z3, z4, z5, zf⟩ := blk6 hz2
    have HX := Lib.hid hX; have HR2 := Lib.hid hR2; have HC := Lib.hid hc; have HZ2 := Lib.hid hz2
    clear hX hR2 hc hz2
    go_wp2
    go_end0
    have hs := (Chg.refl (fun k => k = bx) W2).sets6' bx (fun k e => e) (.string x.arch) (.int .i64 x.foreign.f0) (.int .u64 x.foreign.f1) (.int .i64 x.dflt.f0) (.int .u64 x.dflt.f1) (.slice A x.rules.length c)
    exact ⟨⟨rfl, HR2.out.far6 bx (by omega) _ _ _ _ _ _, _, blk_sets6 HZ2.out _ _ _ _ _ _, (HX.out.chg hs (fun k e => by omega)).lower hbase⟩, (HC.out.wider (fun k e => .inl e)).trans hs (fun k e => .inl (.inr e))⟩

def ParOut (base : Nat) (p : Po × EP) (e : Ending) (W' : World) : Prop := ∃ v, e = .returned (.tuple #[poAgg p.1 v, .int .i64 p.2.1, .int .i64 p.2.2]) ∧ RlRow W' base v p.1.rules

set_option maxRecDepth 100000 in
set_option maxHeartbeats 1000000 in
theorem parse_any (s : ByteArray) (w0 W : World) (hE : Env w0) (hb : Below w0.heap.size w0 W) (hlen : (toks s).1.length ≤ 65537) :
    Calls Tryz.prog 8 #[.string s] W fun e W' => ParOut W.heap.size (parseV s) e W' ∧ Below W.heap.size W W' := by
  have hmf : ∀ (fn : Fn) (first cap : Array Value) (w : World), (Instr.makeFunc fn first cap).run Tryz.prog w = .ok (.func fn first cap) w := fun _ _ _ _ => rfl
  have hal : Below W.heap.size W ((W.alloc poZero).alloc poZero) := ((Below.refl W.heap.size W).alloc (Nat.le_refl _) _).alloc (by simp) _
  have hz1 : ((W.alloc poZero).alloc poZero).heap[W.heap.size]? = some (.cells #[.string ⟨#[]⟩, .int .i64 0, .int .u64 0, .int .i64 0, .int .u64 0, .slice none 0 0] 29 (0, 0)) := blk_past _ (new_blk W _ _)
  have hz2 : ((W.alloc poZero).alloc poZero).heap[W.heap.size + 1]? = some (.cells #[.string ⟨#[]⟩, .int .i64 0, .int .u64 0, .int .i64 0, .int .u64 0, .slice none 0 0] 29 (0, 0)) := new_blk' (by simp) _ _
  have hsz : ((W.alloc poZero).alloc poZero).heap.size = W.heap.size + 2 := by simp
  have hws := hb.size
  have HT := Lib.hid (tried_any enters_pp1 s (W.heap.size + 1) w0 ((W.alloc poZero).alloc poZero) hE (hb.trans (hal.mono hb.size)) (by omega) (by omega) policyP (PoBox (W.heap.size + 1) (W.heap.size + 4)) hlen
    (fun x A B h hc => h.chg hc (by omega) (fun k e => by omega))
    (fun L W1 h1 h2 h3 h4 h5 => pp1_any s _ _ (W.heap.size + 1) (W.heap.size + 4) L w0 W1 h1 h2 h3 (by omega) (by omega) (by omega) (h4.trans hz2)))
  have HAL := Lib.hid hal; have HZ1 := Lib.hid hz1
  clear hE hb hlen hal hz1 hz2
  have HNZ := Lib.hid (wholeP_nz (fun ep => policy_nz ep) s)
  unfold parseV
  rcases hw : wholeP policyP s with p | x
  · rw [hw] at HT HNZ
    clear hw
    go_enter Tryz.func8, Tryz.ntmps8
    go_wp2_with fail
    refine HT.out.mono ?_
    rintro e W2 ⟨rfl, hc⟩
    have hp : (p.1 != 0) = true := by rw [bne_iff_ne]; exact HNZ.out p rfl
    have hz1 := chg_block hc HZ1.out (by omega)
    obtain ⟨z0, z1, z2, z3, z4, z5, zf⟩ := blk6 hz1
    obtain ⟨u0, u1, u2, u3, u4, u5, uf⟩ := blk6 (blk_past (.cells #[.int .i64 p.1, .int .i64 p.2] 49) hz1)
    have hs2 := hc.size
    have hne1 : ¬ (W2.heap.size = W.heap.size) := by omega
    have hne2 : ¬ (W.heap.size = W2.heap.size) := by omega
    have HC := Lib.hid hc; have HZ := Lib.hid hz1
    clear hc hz1
    go_wp2
    go_region
    all_goals go_wp2
    all_goals
      have hal2 := (Below.refl W2.heap.size W2).alloc (Nat.le_refl _) (.cells #[.int .i64 p.1, .int .i64 p.2] 49)
      have hb6 := blk_sets6 (blk_past (.cells #[.int .i64 p.1, .int .i64 p.2] 49) HZ.out) (.string ⟨#[]⟩) (.int .i64 0) (.int .u64 0) (.int .i64 0) (.int .u64 0) (.slice none 0 0)
      obtain ⟨r0, r1, r2, r3, r4, r5, rf⟩ := blk6 hb6
      have hcB : Chg (fun k => k = W.heap.size) W2 _ := (Chg.of_below hal2 (fun k => k = W.heap.size)).sets6' W.heap.size (fun k e => e) (.string ⟨#[]⟩) (.int .i64 0) (.int .u64 0) (.int .i64 0) (.int .u64 0) (.slice none 0 0)
      refine bodyPost_ret (v := .tuple #[poAgg zPo (.slice none 0 0), .int .i64 p.1, .int .i64 p.2]) (by simp [results, Tryz.results8, go_sem, r0, r1, r2, r3, r4, r5, zPo, zVd, nil0, poAgg]) rfl ?_
      refine ⟨⟨.slice none 0 0, rfl, Kd.R_nil _ _ _ _ _⟩, ?_⟩
      exact ((HAL.out.trans (HC.out.below (B := W.heap.size) (by rw [hsz]; omega) (fun k e => by omega))).trans (hcB.below (by omega) (fun k e => by omega))).drew
  · rw [hw] at HT HNZ
    clear hw
    go_enter Tryz.func8, Tryz.ntmps8
    go_wp2_with fail
    refine HT.out.mono ?_
    rintro e W2 ⟨⟨rfl, v, hB, hX⟩, hc⟩
    have hz1 := chg_block hc HZ1.out (by omega)
    obtain ⟨z0, z1, z2, z3, z4, z5, zf⟩ := blk6 hz1
    obtain ⟨y0, y1, y2, y3, y4, y5, yf⟩ := blk6 hB
    obtain ⟨A, c, rfl⟩ := Kd.R_slice hX
    obtain ⟨u0, u1, u2, u3, u4, u5, uf⟩ := blk6 (blk_past (.cells #[.int .i64 0, .int .i64 0] 49) hz1)
    obtain ⟨v0, v1, v2, v3, v4, v5, vf⟩ := blk6 (blk_past (.cells #[.int .i64 0, .int .i64 0] 49) hB)
    have HC := Lib.hid hc; have HZ := Lib.hid hz1; have HX := Lib.hid hX; have HB := Lib.hid hB
    have hs2 := hc.size
    have hne1 : ¬ (W2.heap.size = W.heap.size) := by omega
    have hne2 : ¬ (W.heap.size = W2.heap.size) := by omega
    clear hc hz1 hX hB
    go_wp2
    have hal2 := (Below.refl W2.heap.size W2).alloc (Nat.le_refl _) (.cells #[.int .i64 0, .int .i64 0] 49)
    have hb6 := blk_sets6 (blk_past (.cells #[.int .i64 0, .int .i64 0] 49) HZ.out) (.string x.arch) (.int .i64 x.foreign.f0) (.int .u64 x.foreign.f1) (.int .i64 x.dflt.f0) (.int .u64 x.dflt.f1) (.slice A x.rules.length c)
    obtain ⟨r0, r1, r2, r3, r4, r5, rf⟩ := blk6 hb6
    have hcB : Chg (fun k => k = W.heap.size) W2 _ := (Chg.of_below hal2 (fun k => k = W.heap.size)).sets6' W.heap.size (fun k e => e) (.string x.arch) (.int .i64 x.foreign.f0) (.int .u64 x.foreign.f1) (.int .i64 x.dflt.f0) (.int .u64 x.dflt.f1) (.slice A x.rules.length c)
    refine bodyPost_ret (v := .tuple #[poAgg x (.slice A x.rules.length c), .int .i64 0, .int .i64 0]) (by simp [results, Tryz.results8, go_sem, r0, r1, r2, r3, r4, r5]) rfl ?_
    refine ⟨⟨.slice A x.rules.length c, rfl, (HX.out.chg hcB (fun k e => by omega)).lower (by omega)⟩, ?_⟩
    exact (HAL.out.trans (HC.out.below (B := W.heap.size) (by rw [hsz]; omega) (fun k e => by omega))).trans (hcB.below (by omega) (fun k e => by omega))

end Go.Proofs.YtlmopoipjolbgaaGreatDoor.LexW
namespace Go.Proofs.YtlmopoipjolbgaaGreatDoor.LexW
open Go.RowKit Go.Shelf Go.Proofs.YtlmopoipjolbgaaGreatDoor.LexS Go.Proofs.YtlmopoipjolbgaaGreatDoorW.PrintWords
set_option linter.unusedVariables false
set_option linter.unusedSimpArgs false

/-- the same tokens, wherever they stand -/
def Alike (L L' : List Tk) : Prop := L.map strip = L'.map strip
theorem Alike.len {L L' : List Tk} (h : Alike L L') : L.length = L'.length := by have := congrArg List.length h; simpa using this
theorem Alike.hd {L L' : List Tk} (h : Alike L L') : strip (hdT L) = strip (hdT L') := by
  unfold Alike at h
  cases L with
  | nil => cases L' with
    | nil => rfl
    | cons _ _ => simp at h
  | cons a L => cases L' with
    | nil => simp at h
    | cons b L' => simp only [List.map_cons, List.cons.injEq] at h; exact h.1
theorem Alike.kind {L L' : List Tk} (h : Alike L L') : (hdT L).kind = (hdT L').kind := congrArg (fun x => x.1) h.hd
theorem Alike.text {L L' : List Tk} (h : Alike L L') : (hdT L).text = (hdT L').text := congrArg (fun x => x.2.1) h.hd
theorem Alike.num {L L' : List Tk} (h : Alike L L') : (hdT L).num = (hdT L').num := congrArg (fun x => x.2.2) h.hd
theorem strip_isT {x : ByteArray} {t t' : Tk} (h : strip t = strip t') : isT x t = isT x t' := by
  have h1 : t.kind = t'.kind := congrArg (fun x => x.1) h
  have h2 : t.text = t'.text := congrArg (fun x => x.2.1) h
  unfold isT; rw [h1, h2]
theorem Alike.is {L L' : List Tk} (h : Alike L L') (x : ByteArray) : isT x (hdT L) = isT x (hdT L') := strip_isT h.hd

/-- the same answer, but for places -/
inductive RelV {α : Type} (V : α → α → Prop) : Rd α → Rd α → Prop
  | ok {a b : α} {L L' : List Tk} (hV : V a b) (hA : Alike L L') : RelV V (.ok (a, L)) (.ok (b, L'))
  | err {p q : EP} (h : p.1 = q.1) : RelV V (.error p) (.error q)
theorem rel_bnd {α β : Type} {V : α → α → Prop} {U : β → β → Prop} {r r' : Rd α} {f f' : α × List Tk → Rd β} (h : RelV V r r') (hf : ∀ a b L L', V a b → Alike L L' → RelV U (f (a, L)) (f' (b, L'))) : RelV U (bnd r f) (bnd r' f') := by
  cases h with
  | ok hV hA => exact hf _ _ _ _ hV hA
  | err h => exact .err h
section
variable {ep ep' : EP} (he : ep.1 = ep'.1)
include he
theorem step_bnd {β : Type} {U : β → β → Prop} {L L' : List Tk} {f f' : List Tk → Rd β} (h : Alike L L') (hf : ∀ L1 L1', Alike L1 L1' → RelV U (f L1) (f' L1')) : RelV U (bnd (stepP ep L) f) (bnd (stepP ep' L') f') := by
  unfold Alike at h
  match L, L', h with
  | [], [], _ => exact .err he
  | [_], [_], _ => exact .err he
  | _ :: a :: r, _ :: b :: r', h =>
    refine hf (a :: r) (b :: r') ?_
    simp only [List.map_cons, List.cons.injEq] at h
    unfold Alike
    simp only [List.map_cons, List.cons.injEq]
    exact h.2
  | [], _ :: _, h => simp at h
  | _ :: _, [], h => simp at h
  | [_], _ :: _ :: _, h => simp at h
  | _ :: _ :: _, [_], h => simp at h
theorem maybe_al (x : ByteArray) {L L' : List Tk} (h : Alike L L') : RelV Eq (maybeP ep x L) (maybeP ep' x L') := by
  unfold maybeP
  rw [h.is x]
  split
  · exact step_bnd he h (fun L1 L1' h1 => .ok rfl h1)
  · exact .ok rfl h
theorem want_al (x : ByteArray) {L L' : List Tk} (h : Alike L L') : RelV Eq (wantP ep x L) (wantP ep' x L') := by
  unfold wantP
  rw [h.is x]
  split
  · exact step_bnd he h (fun L1 L1' h1 => .ok rfl h1)
  · exact .err rfl
theorem kind_al (k : Int) {L L' : List Tk} (h : Alike L L') : RelV (fun a b => strip a = strip b) (kindP ep k L) (kindP ep' k L') := by
  unfold kindP
  rw [h.kind]
  split
  · split
    · exact .ok h.hd h
    · exact step_bnd he h (fun L1 L1' h1 => .ok h.hd h1)
  · exact .err rfl
theorem verdict_al {L L' : List Tk} (h : Alike L L') : RelV Eq (verdictP ep L) (verdictP ep' L') := by
  unfold verdictP
  rw [h.kind, h.text]
  split
  · split
    · refine step_bnd he h (fun L1 L1' h1 => ?_)
      split
      · refine rel_bnd (kind_al he 3 h1) (fun a b M M' hab hM => .ok ?_ hM)
        show (⟨_, a.num⟩ : Vd) = ⟨_, b.num⟩
        rw [show a.num = b.num from congrArg (fun x => x.2.2) hab]
      · exact .ok rfl h1
    · exact .err rfl
  · exact .err rfl
theorem call_al {L L' : List Tk} (h : Alike L L') : RelV Eq (callP ep L) (callP ep' L') := by
  unfold callP
  rw [h.kind]
  split
  · refine rel_bnd (kind_al he 3 h) (fun a b M M' hab hM => .ok ?_ hM)
    show (⟨nil0, a.num⟩ : Cl) = ⟨nil0, b.num⟩
    rw [show a.num = b.num from congrArg (fun x => x.2.2) hab]
  · refine rel_bnd (kind_al he 2 h) (fun a b M M' hab hM => .ok ?_ hM)
    show (⟨a.text, 0⟩ : Cl) = ⟨b.text, 0⟩
    rw [show a.text = b.text from congrArg (fun x => x.2.1) hab]
omit he in
theorem relF_al {t t' : Tk} (h : strip t = strip t') : ∀ n, relF t n = relF t' n := by
  intro n
  induction n with
  | zero => rfl
  | succ n ih => unfold relF; rw [strip_isT h, ih]
theorem mask_al {L L' : List Tk} (h : Alike L L') : RelV Eq (maskP ep L) (maskP ep' L') := by
  unfold maskP
  rw [h.kind]
  split
  · refine rel_bnd (maybe_al he sAmp h) (fun a b M M' hab hM => ?_)
    subst hab
    show RelV Eq (if a = true then _ else _) (if a = true then _ else _)
    split
    · refine rel_bnd (kind_al he 3 hM) (fun a b M M' hab hM => .ok ?_ hM)
      exact congrArg (fun x => x.2.2) hab
    · exact .ok rfl hM
  · exact .ok rfl h
theorem test_al (f : Int) {L L' : List Tk} (h : Alike L L') : RelV Eq (testP ep f L) (testP ep' f L') := by
  unfold testP
  refine step_bnd he h (fun L1 L1' h1 => ?_)
  refine rel_bnd (mask_al he h1) (fun a b M M' hab hM => ?_)
  subst hab
  show RelV Eq (if relF (hdT M) 6 = 0 then _ else _) (if relF (hdT M') 6 = 0 then _ else _)
  rw [relF_al hM.hd 6]
  split
  · exact .err rfl
  · refine step_bnd he hM (fun L3 L3' h3 => ?_)
    refine rel_bnd (kind_al he 3 h3) (fun c d M3 M3' hcd hM3 => .ok ?_ hM3)
    show (⟨6, [], f, a, relF (hdT M') 6, c.num⟩ : Ex) = ⟨6, [], f, a, relF (hdT M') 6, d.num⟩
    rw [show c.num = d.num from congrArg (fun x => x.2.2) hcd]
theorem atom_al {L L' : List Tk} (h : Alike L L') : RelV Eq (atomP ep L) (atomP ep' L') := by
  unfold atomP
  rw [h.is sTrue, h.is sFalse, show (fun x => isT x (hdT L)) = (fun x => isT x (hdT L')) from funext (fun x => h.is x)]
  split
  · exact step_bnd he h (fun L1 L1' h1 => .ok rfl h1)
  · split
    · exact step_bnd he h (fun L1 L1' h1 => .ok rfl h1)
    · split
      · exact test_al he _ h
      · exact .err rfl
theorem more_al {α : Type} {one one' : List Tk → Rd α} (h1 : ∀ L L', Alike L L' → RelV Eq (one L) (one' L')) (sep : ByteArray) : ∀ n l L L', Alike L L' → RelV Eq (moreP ep one sep n l L) (moreP ep' one' sep n l L') := by
  intro n
  induction n with
  | zero => intro l L L' h; exact .ok rfl h
  | succ n ih =>
    intro l L L' h
    unfold moreP
    refine rel_bnd (maybe_al he sep h) (fun a b M M' hab hM => ?_)
    subst hab
    show RelV Eq (if a = true then _ else _) (if a = true then _ else _)
    split
    · refine rel_bnd (h1 _ _ hM) (fun c d M1 M1' hcd hM1 => ?_)
      subst hcd
      exact ih _ _ _ hM1
    · exact .ok rfl hM
theorem turns_al {α : Type} {one one' : List Tk → Rd α} (h1 : ∀ L L', Alike L L' → RelV Eq (one L) (one' L')) (sep : ByteArray) {L L' : List Tk} (h : Alike L L') : RelV Eq (turnsP ep one sep L) (turnsP ep' one' sep L') := by
  unfold turnsP
  refine rel_bnd (h1 _ _ h) (fun a b M M' hab hM => ?_)
  subst hab
  show RelV Eq (moreP ep one sep (M.length + 1) [a] M) (moreP ep' one' sep (M'.length + 1) [a] M')
  rw [hM.len]
  exact more_al he h1 sep _ _ _ _ hM
theorem all_al {one one' : List Tk → Rd Ex} (h1 : ∀ L L', Alike L L' → RelV Eq (one L) (one' L')) {L L' : List Tk} (h : Alike L L') : RelV Eq (allP ep one L) (allP ep' one' L') := by
  unfold allP
  refine rel_bnd (turns_al he h1 sAnd h) (fun a b M M' hab hM => ?_)
  subst hab
  exact .ok rfl hM
theorem expr_al {one one' : List Tk → Rd Ex} (h1 : ∀ L L', Alike L L' → RelV Eq (one L) (one' L')) {L L' : List Tk} (h : Alike L L') : RelV Eq (exprP ep one L) (exprP ep' one' L') := by
  unfold exprP
  refine rel_bnd (turns_al he (fun _ _ h => all_al he h1 h) sOr h) (fun a b M M' hab hM => ?_)
  subst hab
  exact .ok rfl hM
theorem one_al : ∀ k (L L' : List Tk), Alike L L' → RelV Eq (oneP ep k L) (oneP ep' k L') := by
  intro k
  induction k with
  | zero =>
    intro L L' h
    unfold oneP
    rw [h.is sNot, h.is sOpen]
    split
    · exact .err rfl
    · split
      · exact .err rfl
      · exact atom_al he h
  | succ k ih =>
    intro L L' h
    unfold oneP
    rw [h.is sNot, h.is sOpen]
    split
    · refine step_bnd he h (fun L1 L1' h1 => ?_)
      refine rel_bnd (ih _ _ h1) (fun a b M M' hab hM => ?_)
      subst hab
      exact .ok rfl hM
    · split
      · refine step_bnd he h (fun L1 L1' h1 => ?_)
        refine rel_bnd (expr_al he ih h1) (fun a b M M' hab hM => ?_)
        subst hab
        refine rel_bnd (want_al he sShut hM) (fun c d M1 M1' hcd hM1 => ?_)
        exact .ok rfl hM1
      · exact atom_al he h
theorem rule_al {L L' : List Tk} (h : Alike L L') : RelV Eq (ruleP ep L) (ruleP ep' L') := by
  unfold ruleP
  refine rel_bnd (turns_al he (fun _ _ h => call_al he h) sComma h) (fun a b M M' hab hM => ?_)
  subst hab
  refine rel_bnd (maybe_al he sWhen hM) (fun c d M1 M1' hcd hM1 => ?_)
  subst hcd
  refine rel_bnd (V := Eq) ?_ (fun x y M2 M2' hxy hM2 => ?_)
  · show RelV Eq (if c = true then _ else _) (if c = true then _ else _)
    split
    · exact expr_al he (one_al he 64) hM1
    · exact .ok rfl hM1
  · subst hxy
    refine rel_bnd (want_al he sDo hM2) (fun _ _ M3 M3' _ hM3 => ?_)
    refine rel_bnd (verdict_al he hM3) (fun v w M4 M4' hvw hM4 => ?_)
    subst hvw
    refine rel_bnd (want_al he sSemi hM4) (fun _ _ M5 M5' _ hM5 => ?_)
    exact .ok rfl hM5
theorem rules_al : ∀ n l (L L' : List Tk), Alike L L' → RelV Eq (rulesP ep n l L) (rulesP ep' n l L') := by
  intro n
  induction n with
  | zero => intro l L L' h; exact .ok rfl h
  | succ n ih =>
    intro l L L' h
    unfold rulesP
    rw [h.is sOn]
    split
    · split
      · exact .err rfl
      · refine step_bnd he h (fun L1 L1' h1 => ?_)
        refine rel_bnd (rule_al he h1) (fun a b M M' hab hM => ?_)
        subst hab
        exact ih _ _ _ hM
    · exact .ok rfl h
theorem policy_al {L L' : List Tk} (h : Alike L L') : RelV Eq (policyP ep L) (policyP ep' L') := by
  unfold policyP
  refine rel_bnd (want_al he sArch h) (fun _ _ M1 M1' _ h1 => ?_)
  refine rel_bnd (kind_al he 2 h1) (fun a b M2 M2' hab h2 => ?_)
  refine rel_bnd (want_al he sSemi h2) (fun _ _ M3 M3' _ h3 => ?_)
  refine rel_bnd (want_al he sForeign h3) (fun _ _ M4 M4' _ h4 => ?_)
  refine rel_bnd (verdict_al he h4) (fun f f' M5 M5' hf h5 => ?_)
  subst hf
  refine rel_bnd (want_al he sSemi h5) (fun _ _ M6 M6' _ h6 => ?_)
  refine rel_bnd (want_al he sDefault h6) (fun _ _ M7 M7' _ h7 => ?_)
  refine rel_bnd (verdict_al he h7) (fun d d' M8 M8' hd h8 => ?_)
  subst hd
  refine rel_bnd (want_al he sSemi h8) (fun _ _ M9 M9' _ h9 => ?_)
  refine rel_bnd (V := Eq) ?_ (fun r r' MA MA' hr hA => ?_)
  · show RelV Eq (rulesP ep (M9.length + 1) [] M9) (rulesP ep' (M9'.length + 1) [] M9')
    rw [h9.len]
    exact rules_al he _ _ _ _ h9
  · subst hr
    refine .ok ?_ hA
    show (⟨a.text, _, _, _⟩ : Po) = ⟨b.text, _, _, _⟩
    rw [show a.text = b.text from congrArg (fun x => x.2.1) hab]
end
theorem whole_al {α : Type} {f : EP → List Tk → Rd α} (hf : ∀ ep ep' L L', ep.1 = ep'.1 → Alike L L' → RelV Eq (f ep L) (f ep' L')) {s s' : ByteArray} (hT : Alike (toks s).1 (toks s').1) (he : (toks s).2.1 = (toks s').2.1) :
    (∃ x, wholeP f s = .ok x ∧ wholeP f s' = .ok x) ∨ ∃ p q, wholeP f s = .error p ∧ wholeP f s' = .error q ∧ p.1 = q.1 := by
  have hr := hf _ _ _ _ he hT
  have hw : ∀ (s : ByteArray) (L : List Tk), L = (toks s).1 → L ≠ [] → wholeP f s = bnd (f (toks s).2 L) (fun p => bnd (kindP (toks s).2 1 p.2) (fun _ => .ok p.1)) := fun s L hL hn => by
    subst hL
    unfold wholeP
    split
    · rename_i h; exact absurd h hn
    · rfl
  by_cases h0 : (toks s).1 = []
  · have h0' : (toks s').1 = [] := by have := hT.len; rw [h0] at this; exact List.length_eq_zero_iff.1 this.symm
    right
    refine ⟨(toks s).2, (toks s').2, ?_, ?_, he⟩
    · unfold wholeP; rw [h0]
    · unfold wholeP; rw [h0']
  · have h0' : (toks s').1 ≠ [] := fun e => by have := hT.len; rw [e] at this; exact h0 (List.length_eq_zero_iff.1 this)
    rw [hw s _ rfl h0, hw s' _ rfl h0']
    revert hr
    generalize f (toks s).2 (toks s).1 = r
    generalize f (toks s').2 (toks s').1 = r'
    intro hr
    cases hr with
    | err h => exact .inr ⟨_, _, rfl, rfl, h⟩
    | @ok a b L L' hab hA =>
      subst hab
      have hk := kind_al he 1 hA
      show (∃ x, bnd (kindP (toks s).2 1 L) (fun _ => .ok a) = .ok x ∧ bnd (kindP (toks s').2 1 L') (fun _ => .ok a) = .ok x) ∨ ∃ p q, bnd (kindP (toks s).2 1 L) (fun _ => .ok a) = .error p ∧ bnd (kindP (toks s').2 1 L') (fun _ => .ok a) = .error q ∧ p.1 = q.1
      revert hk
      generalize kindP (toks s).2 1 L = k
      generalize kindP (toks s').2 1 L' = k'
      intro hk
      cases hk with
      | err h => exact .inr ⟨_, _, rfl, rfl, h⟩
      | ok _ _ => exact .inl ⟨a, rfl, rfl⟩
theorem parse_alike {s s' : ByteArray} (hT : Alike (toks s).1 (toks s').1) (he : (toks s).2.1 = (toks s').2.1) : (parseV s).1 = (parseV s').1 ∧ (parseV s).2.1 = (parseV s').2.1 := by
  unfold parseV
  rcases whole_al (f := policyP) (fun ep ep' L L' h1 h2 => policy_al h1 h2) hT he with ⟨x, h1, h2⟩ | ⟨p, q, h1, h2, h3⟩
  · rw [h1, h2]; exact ⟨rfl, rfl⟩
  · rw [h1, h2]; exact ⟨rfl, h3⟩
theorem expr_alike {s s' : ByteArray} (hT : Alike (toks s).1 (toks s').1) (he : (toks s).2.1 = (toks s').2.1) : (exprV s).1 = (exprV s').1 ∧ (exprV s).2.1 = (exprV s').2.1 := by
  unfold exprV
  rcases whole_al (f := fun ep => exprP ep (oneP ep 64)) (fun ep ep' L L' h1 h2 => expr_al h1 (one_al h1 64) h2) hT he with ⟨x, h1, h2⟩ | ⟨p, q, h1, h2, h3⟩
  · rw [h1, h2]; exact ⟨rfl, rfl⟩
  · rw [h1, h2]; exact ⟨rfl, h3⟩
end Go.Proofs.YtlmopoipjolbgaaGreatDoor.LexW
namespace Go.Proofs.YtlmopoipjolbgaaGreatDoor.LexW
open Go.RowKit Go.Shelf Go.Proofs.YtlmopoipjolbgaaGreatDoor.LexS Go.Proofs.YtlmopoipjolbgaaGreatDoorW.PrintWords
set_option linter.unusedVariables false
set_option linter.unusedSimpArgs false

/-- blanks and remarks -/
def gapS (g : List UInt8) : Prop := ∀ l, skipS false (g ++ l) = skipS false l
theorem gapS.nil : gapS [] := fun l => rfl
theorem gapS.app {g h : List UInt8} (hg : gapS g) (hh : gapS h) : gapS (g ++ h) := fun l => by rw [List.append_assoc, hg, hh]
theorem gapS.blank {g : List UInt8} (hg : gapS g) : gapS (32 :: g) := fun l => by
  show skipS false (32 :: (g ++ l)) = _
  rw [skipS, if_pos (by decide)]
  exact hg l
def sepB (b : Nat) : List UInt8 := if b = 0 then [10] else if b = 1 then [9, 13] else if b = 2 then [35, 32, 97, 114, 99, 104, 32, 59, 32, 111, 110, 10] else []
theorem sepB_gap (b : Nat) : gapS (sepB b) := fun l => by
  unfold sepB
  split
  · simp [skipS, blankB]
  · split
    · simp [skipS, blankB]
    · split
      · simp [skipS, blankB]
      · rfl
theorem sepB_len (b : Nat) : (sepB b).length ≤ 12 := by
  unfold sepB
  split
  · decide
  · split
    · decide
    · split <;> decide
/-- the texts, each with a blank and a gap behind it -/
def joinG : List Tk → List (List UInt8) → List UInt8
  | t :: l, g :: gs => t.text.data.toList ++ 32 :: g ++ joinG l gs
  | _, _ => []
theorem joinG_snoc (t : Tk) (g : List UInt8) : ∀ (l : List Tk) (gs : List (List UInt8)), gs.length = l.length → joinG (l ++ [t]) (gs ++ [g]) = joinG l gs ++ (t.text.data.toList ++ 32 :: g) := by
  intro l
  induction l with
  | nil => intro gs h; obtain rfl := List.length_eq_zero_iff.1 h; simp [joinG]
  | cons a l ih =>
    intro gs h
    cases gs with
    | nil => simp at h
    | cons b gs =>
      simp only [List.cons_append, joinG]
      rw [ih gs (by simpa using h)]
      simp
/-- the text written anew, so far -/
def Spaced (a : ByteArray) (l : List Tk) : Prop := ∃ gs : List (List UInt8), gs.length = l.length ∧ (∀ g ∈ gs, gapS g) ∧ a.data.toList = joinG l gs
theorem spaced_nil : Spaced ⟨#[]⟩ [] := ⟨[], rfl, fun g h => by simp at h, rfl⟩
theorem spaced_snoc {a : ByteArray} {l : List Tk} (h : Spaced a l) (t : Tk) : Spaced ((a ++ t.text) ++ ⟨#[32]⟩) (l ++ [t]) := by
  obtain ⟨gs, h1, h2, h3⟩ := h
  refine ⟨gs ++ [[]], by simp [h1], fun g hg => ?_, ?_⟩
  · rcases List.mem_append.1 hg with hg | hg
    · exact h2 g hg
    · rw [List.mem_singleton.1 hg]; exact gapS.nil
  · rw [joinG_snoc _ _ _ _ h1, ByteArray.data_append, ByteArray.data_append, Array.toList_append, Array.toList_append, h3]
    simp
theorem spaced_gap {a x : ByteArray} {l : List Tk} (h : Spaced a l) (hl : l ≠ []) (hx : gapS x.data.toList) : Spaced (a ++ x) l := by
  obtain ⟨gs, h1, h2, h3⟩ := h
  have hlen := List.length_pos_iff.2 hl
  have hgs : gs ≠ [] := fun e => by rw [e] at h1; simp at h1; omega
  obtain ⟨l0, t, rfl⟩ : ∃ l0 t, l = l0 ++ [t] := ⟨l.dropLast, l.getLast hl, (List.dropLast_concat_getLast hl).symm⟩
  obtain ⟨g0, g, rfl⟩ : ∃ g0 g, gs = g0 ++ [g] := ⟨gs.dropLast, gs.getLast hgs, (List.dropLast_concat_getLast hgs).symm⟩
  have h0 : g0.length = l0.length := by simpa using h1
  refine ⟨g0 ++ [g ++ x.data.toList], by simp [h0], fun y hy => ?_, ?_⟩
  · rcases List.mem_append.1 hy with hy | hy
    · exact h2 y (List.mem_append_left _ hy)
    · rw [List.mem_singleton.1 hy]
      exact (h2 g (by simp)).app hx
  · rw [joinG_snoc _ _ _ _ h0, ByteArray.data_append, Array.toList_append, h3, joinG_snoc _ _ _ _ h0]
    simp
theorem next_gap {t : Tk} {c : UInt8} {T : List UInt8} (h : TkLike t c T) {S : ByteArray} {k : Nat} {g B : List UInt8} (hS : S.size ≤ 65536) (hg : gapS g) (hd : S.data.toList.drop k = g ++ (c :: T ++ 32 :: B)) :
    nextV S (k : Int) = (t.kind, t.text, t.num, ((k + g.length : Nat) : Int), ((k + g.length + t.text.size : Nat) : Int), (0 : Int)) := by
  obtain ⟨hT, hb, h35⟩ := tk_text h
  have hlen := congrArg List.length hd
  simp only [List.length_drop, List.length_append, List.length_cons] at hlen
  have hsz : S.data.toList.length = S.size := by simp
  have hbeg : beginN S k = k + g.length := by
    unfold beginN
    rw [hd, hg, List.cons_append, skipS, hb, if_neg (by simp), if_neg (by simpa using h35)]
    simp only [List.length_append, List.length_cons]
    omega
  have hp : k + g.length < S.size := by omega
  have hd2 : S.data.toList.drop (k + g.length) = c :: T ++ 32 :: B := by rw [← List.drop_drop, hd, List.drop_left]
  unfold nextV
  rw [if_neg (by omega), if_neg (by omega), Int.toNat_natCast]
  rw [dif_pos (by rw [hbeg]; exact hp)]
  have := tok_again h hp hd2
  simp only [hbeg]
  exact this
theorem spaced_from {s : ByteArray} : ∀ {k : Nat} {l : List Tk}, Stand s k l → ∀ {S : ByteArray} {j : Nat} {g : List UInt8} {gs : List (List UInt8)}, S.size ≤ 65536 → j ≤ S.size → gapS g → gs.length = l.length → (∀ g ∈ gs, gapS g) → S.data.toList.drop j = g ++ joinG l gs →
    (toksA S j).2.1 = 0 ∧ (toksA S j).1.map strip = l.map strip := by
  intro k l hst
  induction hst with
  | last hk =>
    intro S j g gs hS hj hg hgl hgs hd
    obtain ⟨g1, rfl⟩ : ∃ g1, gs = [g1] := by
      match gs, hgl with
      | [g1], _ => exact ⟨g1, rfl⟩
    have h1 : gapS g1 := hgs g1 (by simp)
    have hbeg : beginN S j = S.size := by
      unfold beginN
      rw [hd, hg]
      show S.size - (skipS false (32 :: g1 ++ [])).length = _
      rw [h1.blank []]
      rfl
    have hn : nextV S (j : Int) = (1, nil0, 0, (S.size : Int), (S.size : Int), 0) := by
      unfold nextV
      rw [if_neg (by omega), if_neg (by omega), Int.toNat_natCast, dif_neg (by rw [hbeg]; omega)]
    rw [toksA_end (by rw [hn]) (by rw [hn]), hn]
    exact ⟨rfl, rfl⟩
  | @more k p q t c T l hl h1 h2 h3 ht ha r ih =>
    intro S j g gs hS hj hg hgl hgs hd
    cases gs with
    | nil => simp at hgl
    | cons g1 gs =>
    obtain ⟨hT, _, _⟩ := tk_text hl
    have hd2 : S.data.toList.drop j = g ++ (c :: T ++ 32 :: (g1 ++ joinG l gs)) := by
      rw [hd]; show g ++ (t.text.data.toList ++ 32 :: g1 ++ joinG l gs) = _; rw [hT]; simp
    have hn := next_gap hl hS hg hd2
    have hlen := congrArg List.length hd2
    simp only [List.length_drop, List.length_append, List.length_cons] at hlen
    have hsz : S.data.toList.length = S.size := by simp
    have htl : t.text.size = T.length + 1 := by rw [size_list, hT]; rfl
    have hd3 : S.data.toList.drop (j + g.length + t.text.size) = (32 :: g1) ++ joinG l gs := by
      rw [← List.drop_drop, ← List.drop_drop, hd2, List.drop_left, size_list, hT, List.drop_left]; rfl
    obtain ⟨e1, e2⟩ := ih hS (by omega) (hgs g1 (by simp)).blank (by simpa using hgl) (fun g hg => hgs g (by simp [hg])) hd3
    rw [toksA_more (q := j + g.length + t.text.size) (by rw [hn]) (by rw [hn]; exact (tk_kinds hl).1) (by rw [hn]) (by omega)]
    refine ⟨e1, ?_⟩
    rw [List.map_cons, List.map_cons, e2, hn]
    rfl
theorem spaced_toks {s S : ByteArray} (he : (toks s).2.1 = 0) (hS : S.size ≤ 65536) (h : Spaced S (toks s).1) : Alike (toks s).1 (toks S).1 ∧ (toks s).2.1 = (toks S).2.1 := by
  obtain ⟨gs, h1, h2, h3⟩ := h
  obtain ⟨e1, e2⟩ := spaced_from (stand_toks he) (S := S) (j := 0) (g := []) hS (by omega) gapS.nil h1 h2 (by rw [List.drop_zero, h3]; rfl)
  exact ⟨e2.symm, by rw [he]; exact e1.symm⟩
theorem spaced_same {s S : ByteArray} (he : (toks s).2.1 = 0) (hS : S.size ≤ 65536) (h : Spaced S (toks s).1) : ((parseV s).1 = (parseV S).1 ∧ (parseV s).2.1 = (parseV S).2.1) ∧ (exprV s).1 = (exprV S).1 ∧ (exprV s).2.1 = (exprV S).2.1 :=
  let ⟨h1, h2⟩ := spaced_toks he hS h
  ⟨parse_alike h1 h2, expr_alike h1 h2⟩
end Go.Proofs.YtlmopoipjolbgaaGreatDoor.LexW
