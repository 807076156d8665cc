/-
  The walk of ravelinlaw05.LexStands.
-/
import Derived.Test.YtlmopoipjolbgaaDoorLexL2
import Derived.Test.YtlmopoipjolbgaaDoorLexAgain
namespace Go.Proofs.YtlmopoipjolbgaaDoor.LexW
open Go.RowKit Go.Shelf Go.Proofs.YtlmopoipjolbgaaDoor.LexS Go.Proofs.YtlmopoipjolbgaaDoorW.PrintWords
set_option linter.unusedVariables false
set_option linter.unusedSimpArgs false

set_option maxHeartbeats 8000000 in
set_option maxRecDepth 100000 in
theorem stands_err (s : ByteArray) (w : World) (hE : Env w) (he : (toks s).2.1 ≠ 0) :
    Calls Tryd.prog 7 #[.string s] w fun e w' => e = .returned (.bool true) ∧ Below w.heap.size w w' := by
  have HL := Lib.hid (fun W h => list_any s W h)
  obtain ⟨h0, h1⟩ := toksF_bound s _ _ he
  have hv : listV s = ([], (toks s).2) := by unfold listV; rw [if_pos he]
  rw [hv] at HL
  have h0' : 0 ≤ (toks s).2.2 := h0
  have h1' : (toks s).2.2 ≤ (s.size : Int) := h1
  have hb : ((toks s).2.1 != 0) = true := by rw [bne_iff_ne]; exact he
  clear hv h0 h1 he
  generalize (toks s).2 = P at *
  have HE := Lib.hid hE; clear hE
  go_enter Tryd.func7, Tryd.ntmps7
  go_wp2_with fail
  refine (lives_any w HE.out).mono ?_
  rintro e w1 ⟨rfl, hb1⟩
  go_wp2_with fail
  refine (HL.out w1 (HE.out.below hb1)).mono ?_
  rintro e w2 ⟨⟨v, rfl, hO⟩, hb2⟩
  obtain ⟨A2, c2, rfl, _, _⟩ := Kd.R_reads hO
  have hbw2 := hb1.trans (hb2.mono hb1.size)
  clear hO hb1 hb2
  go_wp2
  go_ret
  exact ⟨rfl, hbw2⟩

/-- the text written anew, so far -/
def Again (a : ByteArray) (l : List Tk) : Prop := a.data.toList = joinL l
theorem again_snoc {a : ByteArray} {l : List Tk} (h : Again a l) (t : Tk) : Again ((a ++ t.text) ++ ⟨#[32]⟩) (l ++ [t]) := by
  unfold Again joinL at *
  rw [ByteArray.data_append, ByteArray.data_append, Array.toList_append, Array.toList_append, h, List.flatMap_append]
  simp

theorem toks_short {s : ByteArray} (he : (toks s).2.1 = 0) : s.size ≤ 65536 := by
  by_cases h : 65536 < s.size
  · exfalso
    unfold toks at he
    rw [toksA_err (by rw [long_err s _ h]; decide), long_err s _ h] at he
    exact absurd he (by decide)
  · omega
theorem last_tok {s : ByteArray} {l : List Tk} {n : Nat} (h : l.getLast? = some ⟨1, nil0, 0, s.size⟩) (hn : l.length = n + 1) : l.getD n tkz = ⟨1, nil0, 0, s.size⟩ := by
  rw [List.getLast?_eq_getElem?] at h
  rw [List.getD_eq_getElem?_getD, show n = l.length - 1 by omega, h]
  rfl

theorem strip_at {l l2 : List Tk} (h : l2.map strip = l.map strip) (m : Nat) (hm : m < l2.length) : (l2.getD m tkz).kind = (l.getD m tkz).kind ∧ (l2.getD m tkz).text = (l.getD m tkz).text ∧ (l2.getD m tkz).num = (l.getD m tkz).num := by
  have hl : l2.length = l.length := by have := congrArg List.length h; simpa using this
  have e := congrArg (fun x : List (Int × ByteArray × Int) => x[m]?) h
  simp only [List.getElem?_map] at e
  rw [List.getElem?_eq_getElem hm, List.getElem?_eq_getElem (by omega)] at e
  simp only [Option.map_some, Option.some.injEq, strip, Prod.mk.injEq] at e
  rw [List.getD_eq_getElem?_getD, List.getD_eq_getElem?_getD, List.getElem?_eq_getElem hm, List.getElem?_eq_getElem (by omega)]
  exact e
theorem wrap_small {m : Nat} (h : m < 9223372036854775807) : wrap64 ((m : Int) + 1) = (m : Int) + 1 := by unfold wrap64; omega
theorem meas_dec {m n1 : Nat} (hlt : m < n1 + 1) (hwm : wrap64 ((m : Int) + 1) = (m : Int) + 1) : n1 + 1 - (intOf (.int .i64 (wrap64 ((m : Int) + 1)))).toNat < n1 + 1 - (intOf (.int .i64 (m : Int))).toNat := by
  rw [hwm]
  show n1 + 1 - ((m : Int) + 1).toNat < n1 + 1 - ((m : Int)).toNat
  omega
/-- all that a round of the first loop wants to know of its token -/
structure RoundF (s : ByteArray) (l : List Tk) (n1 m : Nat) (pre rest : List Tk) (k : Nat) (a : ByteArray) (kd : Int) (tx : ByteArray) (nm : Int) (p q : Nat) (nv : Int) (nb wb : Bool) : Prop where
  hm : m = pre.length
  get : l.getD m tkz = ⟨kd, tx, nm, p⟩
  lt : m < n1 + 1
  num : numR tx.data.toList = (nv, nb)
  word : wordL tx.data.toList = wb
  sz : tx.size ≤ 65536
  wp : wrap64 ((p : Int) + (tx.size : Int)) = (q : Int)
  kp : (k : Int) ≤ (p : Int)
  qs : (q : Int) ≤ (s.size : Int)
  pq : p ≤ q
  w1 : wrap64 (n1 : Int) = (n1 : Int)
  h3 : (kd == 3) = nb
  hn : nb = true → nv = nm
  h2 : (kd == 2) = wb
  ex : s.extract p q = tx
  emp : ∃ e : Bool, tx.toList.isEmpty = e ∧ ((m : Int) == (n1 : Int)) = e ∧ (m == n1) = e
  split : (pre ++ [(⟨kd, tx, nm, (p : Int)⟩ : Tk)]) ++ rest = l
  next : rest = [] ∨ Stand s q rest
  again : Again ((a ++ tx) ++ (⟨#[32]⟩ : ByteArray)) (pre ++ [(⟨kd, tx, nm, (p : Int)⟩ : Tk)])
  asz : ((a ++ tx) ++ (⟨#[32]⟩ : ByteArray)).size ≤ q + (m + 1) ∧ q ≤ s.size
  len : (pre ++ [(⟨kd, tx, nm, (p : Int)⟩ : Tk)]).length = m + 1
  cat : a.size + tx.size + 1 ≤ 9223372036854775807
  wm : wrap64 ((m : Int) + 1) = (m : Int) + 1
theorem round_facts {s : ByteArray} {l : List Tk} {n1 : Nat} {pre rest : List Tk} {t : Tk} {k : Nat} {a : ByteArray} (hs : s.size ≤ 65536) (hn1 : l.length = n1 + 1) (hl : l.length ≤ 65537) (hP : pre ++ t :: rest = l) (hS : Stand s k (t :: rest)) (hA : Again a pre) (hZ : a.size ≤ k + pre.length) :
    ∃ kd tx nm p q nv nb wb, RoundF s l n1 pre.length pre rest k a kd tx nm p q nv nb wb := by
  obtain ⟨p, hat, hkp, hqs, hex, hemp, h3, hnn, h2, hnext⟩ := stand_step hS
  have hlen2 := congrArg List.length hP
  rw [hn1] at hlen2
  simp only [List.length_append, List.length_cons] at hlen2
  have hget : l.getD pre.length tkz = t := by rw [← hP]; simp
  obtain ⟨kd, tx, nm, pa⟩ := t
  simp only at hat hqs hex hemp h3 hnn h2 hnext
  subst hat
  refine ⟨kd, tx, nm, p, p + tx.size, _, _, _, ⟨rfl, hget, by omega, rfl, rfl, by omega, by unfold wrap64; omega, by omega, by omega, by omega, by unfold wrap64; omega, h3, hnn, h2, hex, ?_, by rw [← hP]; simp, hnext, again_snoc hA ⟨kd, tx, nm, (p : Int)⟩, ⟨?_, by omega⟩, by simp, by omega, by unfold wrap64; omega⟩⟩
  · by_cases hr : rest = []
    · refine ⟨true, ?_, ?_, ?_⟩
      · rw [empty_yes (hemp.2 hr)]; rfl
      · rw [hr] at hlen2; simp at hlen2; rw [beq_iff_eq]; omega
      · rw [hr] at hlen2; simp at hlen2; rw [beq_iff_eq]; omega
    · have hpos := List.length_pos_iff.2 hr
      refine ⟨false, empty_no (Nat.pos_of_ne_zero (fun e => hr (hemp.1 e))), ?_, ?_⟩
      · rw [beq_eq_false_iff_ne]; omega
      · rw [beq_eq_false_iff_ne]; omega
  · rw [ByteArray.size_append, ByteArray.size_append]
    show a.size + tx.size + 1 ≤ _
    omega

set_option maxHeartbeats 8000000 in
set_option maxRecDepth 100000 in
theorem stands_ok (s : ByteArray) (w : World) (hE : Env w) (he : (toks s).2.1 = 0) :
    Calls Tryd.prog 7 #[.string s] w fun e w' => e = .returned (.bool true) ∧ Below w.heap.size w w' := by
  have HL := Lib.hid (fun W h => list_any s W h)
  have hv : listV s = ((toks s).1, 0, 0) := by unfold listV; rw [if_neg (by simpa using he)]
  rw [hv] at HL
  have hst := stand_toks he
  have hs := toks_short he
  have hlen := toks_len s
  clear hv he
  generalize (toks s).1 = l at *
  obtain ⟨n1, hn1⟩ : ∃ n, l.length = n + 1 := ⟨l.length - 1, by have := List.length_pos_iff.2 (stand_ne hst); omega⟩
  have hlast := last_tok (stand_last hst) hn1
  have HST := Lib.hid hst; clear hst
  have HN := Lib.hid hn1; clear hn1
  have HE := Lib.hid hE; clear hE
  go_enter Tryd.func7, Tryd.ntmps7
  go_wp2_with fail
  refine (lives_any w HE.out).mono ?_
  rintro e w1 ⟨rfl, hb1⟩
  go_wp2_with fail
  refine (HL.out w1 (HE.out.below hb1)).mono ?_
  rintro e w2 ⟨⟨v, rfl, hO⟩, hb2⟩
  obtain ⟨A2, c2, hv, _, hC⟩ := Kd.R_reads hO
  rw [show (l, (0 : Int), (0 : Int)).1.length = n1 + 1 from HN.out] at hv hC
  subst hv
  have hbw2 := hb1.trans (hb2.mono hb1.size)
  clear hO hb1 hb2
  obtain ⟨ad, e1, x0, x1, x2, x3⟩ := tk_at hC n1 (by omega)
  rw [show (l, (0 : Int), (0 : Int)).1.getD n1 tkz = ⟨1, nil0, 0, s.size⟩ from hlast] at x0 x1 x2 x3
  cases e1
  have HC := Lib.hid hC; clear hC hlast
  have hw1 : wrap64 (n1 : Int) = (n1 : Int) := by unfold wrap64; have := HN.out; omega
  have hz1 : ((n1 : Int) + 1 == 0) = false := by rw [beq_eq_false_iff_ne]; omega
  go_wp2
  rw [hw1]
  clear x0 x1 x2 x3 hw1 hz1
  have HB2 := Lib.hid hbw2; clear hbw2
  go_loopw [7, 8, 9] (fun v7 v8 v9 wr => ∃ (pre rest : List Tk) (k : Nat) (a : ByteArray), v7 = .int .i64 k ∧ v8 = .string a ∧ v9 = .int .i64 pre.length ∧ Hid (pre ++ rest = l) ∧ Hid (rest = [] ∨ Stand s k rest) ∧ Hid (Again a pre) ∧ Hid (a.size ≤ k + pre.length ∧ k ≤ s.size) ∧ Hid (Below w2.heap.size w2 wr)) (fun _ _ v9 _ => n1 + 1 - (intOf v9).toNat)
  case atStart => exact ⟨[], l, 0, ⟨#[]⟩, rfl, rfl, rfl, rfl, .inr HST.out, rfl, ⟨by show (0 : Nat) ≤ _; omega, by omega⟩, Below.refl _ _⟩
  case round =>
    obtain ⟨pre, rest, k, a, rfl, rfl, rfl, HP, HR, HA, HZ, HB⟩ := hrel
    cases rest with
    | nil =>
      have hpl : pre.length = n1 + 1 := by have := HP.out; rw [List.append_nil] at this; rw [this]; exact HN.out
      have hA : Again a l := by have := HP.out; rw [List.append_nil] at this; rw [← this]; exact HA.out
      have HBW := Lib.hid (HB2.out.trans (HB.out.mono HB2.out.size))
      have HC' := Lib.hid (Kd.C_below HC.out HB.out)
      rw [hpl]
      clear HP HR HA HZ hpl HB HB2 HC
      by_cases hbig : 65536 < a.size
      · go_wp2
        go_ret
        exact ⟨rfl, HBW.out⟩
      · have hsm : a.size ≤ 65536 := by omega
        clear hbig
        obtain ⟨e1, e2⟩ := again_from (j := 0) (g := []) HST.out hsm (Nat.zero_le _) (.inl rfl) (by rw [List.drop_zero, List.nil_append]; exact hA)
        have HK := Lib.hid (list_any a wr (HE.out.below HBW.out))
        have hv2 : listV a = ((toks a).1, 0, 0) := by unfold listV; rw [if_neg (by have h : (toks a).2.1 = 0 := e1; simpa using h)]
        rw [hv2] at HK
        have hl2 : (toks a).1.length = n1 + 1 := by
          have := congrArg List.length e2
          rw [List.length_map, List.length_map, HN.out] at this
          exact this
        have HE2 : Hid ((toks a).1.map strip = l.map strip) := Lib.hid e2
        clear hv2 e1 e2 hA
        generalize (toks a).1 = l2 at *
        have HL2 := Lib.hid hl2; clear hl2
        go_wp2_with fail
        refine HK.out.mono ?_
        rintro e w5 ⟨⟨v, rfl, hO⟩, hb5⟩
        obtain ⟨A5, c5, hv, _, hC5⟩ := Kd.R_reads hO
        rw [show (l2, (0 : Int), (0 : Int)).1.length = n1 + 1 from HL2.out] at hv hC5
        subst hv
        have HC5 := Lib.hid hC5
        have HC6 := Lib.hid (Kd.C_below HC'.out hb5)
        have HBW5 := Lib.hid (HBW.out.trans (hb5.mono HBW.out.size))
        clear hO hC5 hb5 HC' HBW HK
        go_wp2
        go_loopw [17] (fun v wx => ∃ m : Nat, v = .int .i64 m ∧ m ≤ n1 + 1 ∧ Drawn0 w5 wx) (fun v _ => n1 + 1 - (intOf v).toNat)
        case atStart => exact ⟨0, rfl, Nat.zero_le _, Drawn0.refl _⟩
        case round =>
          obtain ⟨m, rfl, hm, ⟨d, rfl⟩⟩ := hrel
          by_cases hlt : m < n1 + 1
          · obtain ⟨a5, e5, x0, x1, x2, x3⟩ := tk_at HC5.out m hlt
            obtain ⟨a6, e6, y0, y1, y2, y3⟩ := tk_at HC6.out m hlt
            have hsame := strip_at HE2.out m (by rw [HL2.out]; exact hlt)
            obtain ⟨h1, h2, h3⟩ := hsame
            rw [h1] at x0
            rw [h2] at x1
            rw [h3] at x2
            cases e5; cases e6
            generalize l.getD m tkz = y at *
            clear x3 y3 h1 h2 h3
            have hwm : wrap64 ((m : Int) + 1) = (m : Int) + 1 := wrap_small (by have := HN.out; omega)
            go_wp2
            go_quiet (fail)
            go_wp2
            exact ⟨⟨m + 1, by rw [hwm]; simp, by omega, ⟨⟨_, rfl⟩⟩⟩, meas_dec hlt hwm⟩
          · have hle : n1 + 1 ≤ m := by omega
            clear hlt
            go_wp2
            go_ret
            exact ⟨rfl, HBW5.out.trans (Drawn0.below ⟨⟨d, rfl⟩⟩ |>.mono HBW5.out.size)⟩
    | cons t rest =>
      obtain ⟨kd, tx, nm, p, q, nv, nb, wb, RF⟩ := round_facts hs HN.out hlen HP.out (HR.out.resolve_left (by simp)) HA.out HZ.out.1
      obtain ⟨m, hm⟩ : ∃ m, m = pre.length := ⟨_, rfl⟩
      rw [← hm] at RF ⊢
      clear hm
      obtain ⟨ad', e', z0, z1, z2, z3⟩ := tk_at HC.out m RF.lt
      rw [RF.get] at z0 z1 z2 z3
      cases e'
      have y0 := cell_stays HB.out z0
      have y1 := cell_stays HB.out z1
      have y2 := cell_stays HB.out z2
      have y3 := cell_stays HB.out z3
      clear z0 z1 z2 z3
      dsimp only at y0 y1 y2 y3
      have HNUM := Lib.hid (fun W h => number_any tx W (Nat.le_trans RF.sz (by decide)) h)
      rw [RF.num] at HNUM
      have HWORD := Lib.hid (fun W => word_any tx W (Nat.le_trans RF.sz (by decide)))
      rw [RF.word] at HWORD
      have hwp := RF.wp
      have hkp := RF.kp
      have hqs := RF.qs
      have hpq := RF.pq
      have hct1 : a.size + tx.size ≤ 9223372036854775807 := Nat.le_trans (Nat.le_succ _) RF.cat
      have hct2 : a.size + tx.size + 1 ≤ 9223372036854775807 := RF.cat
      have hkd : decide ((p : Int) < (k : Int)) = false := decide_eq_false (Int.not_lt.2 RF.kp)
      have hkd2 : decide (p < k) = false := decide_eq_false (by have := RF.kp; omega)
      have hqd2 : decide (s.size < q) = false := decide_eq_false (by have := RF.qs; omega)
      have hqd : decide ((s.size : Int) < (q : Int)) = false := decide_eq_false (Int.not_lt.2 RF.qs)
      have hw1 := RF.w1
      have h3 := RF.h3
      have h2 := RF.h2
      have hn := RF.hn
      have hex := RF.ex
      have hlt : m < n1 + 1 := RF.lt
      have hemp := RF.emp
      have HF := Lib.hid RF
      clear RF HP HR HA HZ
      obtain ⟨em, hte, hmn, hmn2⟩ := hemp
      go_wp2
      go_quiet (fail)
      go_wp2_with fail
      have hbA : Below w2.heap.size w2 ((wr.alloc (.cells #[.int .i64 kd, .string tx, .int .u64 nm, .int .i64 (p : Int)] 38)).drewN nq) := pw_below_drewN (HB.out.alloc HB.out.size _) nq
      refine (HNUM.out _ (HE.out.below (HB2.out.trans (hbA.mono HB2.out.size)))).mono ?_
      rintro e w5 ⟨rfl, hb5⟩
      have hblk5 := (hb5.block wr.heap.size (show wr.heap.size < ((wr.alloc (.cells #[.int .i64 kd, .string tx, .int .u64 nm, .int .i64 (p : Int)] 38)).drewN nq).heap.size by simp)).trans (new_blk wr #[.int .i64 kd, .string tx, .int .u64 nm, .int .i64 (p : Int)] 38)
      have HB5 := Lib.hid (hbA.trans (hb5.mono hbA.size))
      have b0 : w5.cell? ⟨wr.heap.size, 0, none⟩ = some (.int .i64 kd) := kept_cell hblk5 0
      have b1 : w5.cell? ⟨wr.heap.size, 1, none⟩ = some (.string tx) := kept_cell hblk5 1
      have b2 : w5.cell? ⟨wr.heap.size, 2, none⟩ = some (.int .u64 nm) := kept_cell hblk5 2
      have b3 : w5.cell? ⟨wr.heap.size, 3, none⟩ = some (.int .i64 (p : Int)) := kept_cell hblk5 3
      clear hbA hb5 hblk5 y0 y1 y2 y3 HNUM
      go_wp2_with fail
      refine (HWORD.out _).mono ?_
      rintro e w6 ⟨rfl, rfl⟩
      cases nb
      all_goals
        try (have hx := hn rfl; subst nv)
        clear hn
        go_wp2
        go_roundw
        case rel => exact ⟨_, _, q, _, by rw [← HF.out.wp], rfl, by rw [HF.out.len, HF.out.wm]; simp, HF.out.split, HF.out.next, HF.out.again, by rw [HF.out.len]; exact HF.out.asz, HB5.out⟩
        case measure => exact meas_dec hlt HF.out.wm

theorem stands_any (s : ByteArray) (w : World) (hE : Env w) :
    Calls Tryd.prog 7 #[.string s] w fun e w' => e = .returned (.bool true) ∧ Below w.heap.size w w' := by
  by_cases he : (toks s).2.1 = 0
  · exact stands_ok s w hE he
  · exact stands_err s w hE he
end Go.Proofs.YtlmopoipjolbgaaDoor.LexW
