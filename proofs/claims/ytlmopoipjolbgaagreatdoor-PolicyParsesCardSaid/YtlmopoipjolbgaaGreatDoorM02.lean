/-
  The walks of layer 5 (lex), seventh part: numbers. · The walks of layer 5 (lex), eighth part: the token that begins at a place. · The walks of the reference's layer 5: bytes, blanks, words, signs. · The walks of the reference's layer 5: words, signs, numbers.
-/
import Derived.Test.YtlmopoipjolbgaaGreatDoorM01
import Derived.Lib.ParseIntBCases
namespace Go.Proofs.YtlmopoipjolbgaaGreatDoor.LexW
open Go.RowKit Go.Shelf Go.Proofs.YtlmopoipjolbgaaGreatDoor.LexS
set_option linter.unusedVariables false
set_option linter.unusedSimpArgs false

theorem valL_ge (d : UInt8 → Nat) (l : List UInt8) : ∀ acc, acc ≤ valL 10 d acc l := by
  induction l with
  | nil => intro acc; exact Nat.le_refl _
  | cons c r ih => intro acc; simp only [valL]; exact Nat.le_trans (by omega) (ih _)
theorem digit_bounds {c : UInt8} (h : digitB c = true) : 48 ≤ c.toNat ∧ c.toNat ≤ 57 := by
  unfold digitB at h
  simp [UInt8.le_iff_toNat_le] at h
  exact h
theorem valL_cons (b : Nat) (d : UInt8 → Nat) (n : Nat) (c : UInt8) (r : List UInt8) : valL b d n (c :: r) = valL b d (b * n + d c) r := rfl
theorem parse_cons (acc : Nat) (c : UInt8) (r : List UInt8) (h : 48 ≤ c.toNat ∧ c.toNat ≤ 57) : Lib.parseUint10 acc (c :: r) =
    if 1844674407370955162 ≤ acc then .range else if 18446744073709551616 ≤ acc * 10 + (c.toNat - 48) then .range else Lib.parseUint10 (acc * 10 + (c.toNat - 48)) r := by
  rw [Lib.parseUint10, if_pos h]
theorem parse_val (l : List UInt8) (hl : l.all digitB = true) : ∀ acc, acc < 18446744073709551616 →
    Lib.parseUint10 acc l = if valL 10 digV acc l < 18446744073709551616 then .ok (valL 10 digV acc l) else .range := by
  induction l with
  | nil => intro acc h; exact (if_pos h).symm
  | cons c r ih =>
    intro acc h
    rw [List.all_cons, Bool.and_eq_true] at hl
    have hd := digit_bounds hl.1
    have hv : digV c = c.toNat - 48 := rfl
    have hge := valL_ge digV r (10 * acc + digV c)
    rw [parse_cons _ _ _ hd, valL_cons]
    by_cases h1 : 1844674407370955162 ≤ acc
    · rw [if_pos h1, if_neg (by omega)]
    · rw [if_neg h1]
      by_cases h2 : 18446744073709551616 ≤ acc * 10 + (c.toNat - 48)
      · rw [if_pos h2, if_neg (by omega)]
      · rw [if_neg h2, show acc * 10 + (c.toNat - 48) = 10 * acc + digV c by omega]
        exact ih hl.2 _ (by omega)
theorem parseB_val (l : List UInt8) (hne : l ≠ []) (hl : l.all digitB = true) :
    Lib.parseUintB 64 l = if valL 10 digV 0 l < 18446744073709551616 then .ok (valL 10 digV 0 l) else .range := by
  rw [Lib.parseUintB_64, Lib.parseMag, if_neg hne]
  exact parse_val l hl 0 (by omega)

/-- what the program finds when it begins: the library's tables, and its two errors -/
structure Env (w : World) : Prop where
  tabs : Tabs w
  syn : ∃ te pe, w.cell? ⟨4, 0, none⟩ = some (.iface te pe)
  rng : ∃ te pe, w.cell? ⟨5, 0, none⟩ = some (.iface te pe)
theorem cell_stays {w w1 : World} (h : Below w.heap.size w w1) {a : Addr} {v : Value} (hc : w.cell? a = some v) : w1.cell? a = some v := (h.cell (World.block_lt_of_cell? w a hc)).trans hc
theorem Env.below {w w1 : World} (h : Env w) (hb : Below w.heap.size w w1) : Env w1 :=
  ⟨Utf8Tabs_below h.tabs hb, h.syn.imp fun _ ⟨p, hp⟩ => ⟨p, cell_stays hb hp⟩, h.rng.imp fun _ ⟨p, hp⟩ => ⟨p, cell_stays hb hp⟩⟩

theorem below_bytes (w : World) (e : TypeId) (s : ByteArray) : Below w.heap.size w (Lib.bytesWorld w e s) :=
  ⟨rfl, rfl, rfl, by rw [Lib.bytesWorld_size]; omega, fun i hi => Lib.bytesWorld_at_old w e s i (by omega)⟩

set_option maxHeartbeats 1000000 in
theorem parse16 (t : ByteArray) (hne : t.size ≠ 0) (h16 : t.size ≤ 16) (hall : t.data.toList.all hexB = true) (w : World) :
    Calls Tryz.prog 129 #[.string t, .int .i64 16, .int .i64 64] w fun e w' => e = .returned (.tuple #[.int .u64 (valL 16 hexV 0 t.data.toList), .nilIface]) ∧ Below w.heap.size w w' := by
  have hb := below_bytes w 5 t
  generalize hv : valL 16 hexV 0 t.data.toList = v
  have HV := Lib.hid hv; clear hv
  go_enter Tryz.func129, Tryz.ntmps129
  go_wp2_with fail
  refine (inner_parse16 t hne h16 hall w).mono ?_
  rintro e w' ⟨rfl, hw⟩
  rw [HV.out]
  rw [← hw] at hb
  clear hw
  go_wp2
  go_ret2
  exact ⟨rfl, hb⟩

theorem parse10_ok (t : ByteArray) (hne : t.size ≠ 0) (hs : t.size ≤ 140737488351232) (hall : t.data.toList.all digitB = true) (hlt : valL 10 digV 0 t.data.toList < 18446744073709551616) (w : World) :
    Calls Tryz.prog 129 #[.string t, .int .i64 10, .int .i64 64] w fun e w' => e = .returned (.tuple #[.int .u64 (valL 10 digV 0 t.data.toList), .nilIface]) ∧ Below w.heap.size w w' := by
  have hne' : t.data.toList ≠ [] := by intro h; apply hne; have : t.data.toList.length = t.size := by simp
                                       rw [h] at this; simpa using this.symm
  refine (Tryz.strconv_ParseUint_10_at64_ok t (by omega) _ (by rw [parseB_val _ hne' hall, if_pos hlt]) w).mono ?_
  rintro e w' ⟨rfl, rfl | rfl⟩
  · exact ⟨rfl, Below.refl _ _⟩
  · exact ⟨rfl, below_bytes _ _ _⟩
theorem parse10_range (t : ByteArray) (hne : t.size ≠ 0) (hs : t.size ≤ 140737488351232) (hall : t.data.toList.all digitB = true) (hlt : ¬ valL 10 digV 0 t.data.toList < 18446744073709551616) (w : World) (hE : Env w) :
    Calls Tryz.prog 129 #[.string t, .int .i64 10, .int .i64 64] w fun e w' => (∃ N, e = .returned (.tuple #[.int .u64 18446744073709551615, .iface 163 (.pointer (some ⟨N, 0, none⟩))])) ∧ Below w.heap.size w w' := by
  have hne' : t.data.toList ≠ [] := by intro h; apply hne; have : t.data.toList.length = t.size := by simp
                                       rw [h] at this; simpa using this.symm
  obtain ⟨te, pe, hc⟩ := hE.rng
  refine (Tryz.strconv_ParseUint_10_at64_range t (by omega) (by rw [parseB_val _ hne' hall, if_neg hlt]) _ w hc (.inr ⟨te, pe, rfl⟩)).mono ?_
  rintro e w' ⟨N, rfl, _, _, hb⟩
  exact ⟨⟨N, rfl⟩, hb⟩

def digs : ByteArray := ⟨#[48, 49, 50, 51, 52, 53, 54, 55, 56, 57, 97, 98, 99, 100, 101, 102]⟩
def dig16 : ByteArray := digs.extract 0 16
def dig10 : ByteArray := digs.extract 0 10
theorem dig16_low : ∀ d ∈ dig16.data.toList, d.toNat < 128 := by decide
theorem dig10_low : ∀ d ∈ dig10.data.toList, d.toNat < 128 := by decide
theorem dig16_in (c : UInt8) : isIn dig16 c = hexB c := by
  have h : ∀ n : Fin 256, isIn dig16 (UInt8.ofNat n) = hexB (UInt8.ofNat n) := by decide +kernel
  have := h ⟨c.toNat, c.toNat_lt⟩
  simpa using this
theorem dig10_in (c : UInt8) : isIn dig10 c = digitB c := by
  have h : ∀ n : Fin 256, isIn dig10 (UInt8.ofNat n) = digitB (UInt8.ofNat n) := by decide +kernel
  have := h ⟨c.toNat, c.toNat_lt⟩
  simpa using this
theorem all_dropWhile (p : UInt8 → Bool) (l : List UInt8) : (l.dropWhile p).all p = l.all p := by
  conv => rhs; rw [← List.takeWhile_append_dropWhile (p := p) (l := l)]
  rw [List.all_append]
  have : (l.takeWhile p).all p = true := List.all_takeWhile
  rw [this]; rfl
/-- both cuts leave nothing just of a text all of whose bytes are in the set -/
theorem cut_both {set s r t : ByteArray} (h1 : r.size ≤ s.size ∧ r.data.toList = s.data.toList.dropWhile (isIn set)) (h2 : CutR set r t) : (t.size = 0 ↔ s.data.toList.all (isIn set) = true) := by
  rw [h2.2, h1.2, all_dropWhile]

/-- the answer of Number -/
def numR (l : List UInt8) : Int × Bool := match numL l with | some n => (n, true) | none => (0, false)

theorem pre_take (l : List UInt8) : Lib.hasPrefix l [48, 120] = decide (l.take 2 = [48, 120]) := by
  unfold Lib.hasPrefix
  match l with
  | [] => rfl
  | [a] => simp [List.isPrefixOf]
  | a :: b :: r =>
    show (48 == a && (120 == b && true)) = decide ([a, b] = [48, 120])
    by_cases h1 : a = 48
    · subst h1
      by_cases h2 : b = 120
      · subst h2; rfl
      · rw [decide_eq_false (by simpa using h2), show ((120 : UInt8) == b) = false by simpa using Ne.symm h2]; rfl
    · rw [decide_eq_false (by simp [h1]), show ((48 : UInt8) == a) = false by simpa using Ne.symm h1]; rfl
theorem numR_dec {l : List UInt8} (hp : Lib.hasPrefix l [48, 120] = false) :
    numR l = if 1 ≤ l.length ∧ ¬ (1 < l.length ∧ l.head? = some 48) ∧ l.all digitB = true ∧ valL 10 digV 0 l < 18446744073709551616 then ((valL 10 digV 0 l : Int), true) else (0, false) := by
  rw [pre_take, decide_eq_false_iff_not] at hp
  unfold numR numL
  rw [if_neg hp]
  by_cases h : 1 ≤ l.length ∧ ¬ (1 < l.length ∧ l.head? = some 48) ∧ l.all digitB = true ∧ valL 10 digV 0 l < 18446744073709551616
  · rw [if_pos h, if_pos h]
  · rw [if_neg h, if_neg h]
theorem numR_hex {l : List UInt8} (hp : Lib.hasPrefix l [48, 120] = true) :
    numR l = if 1 ≤ (l.drop 2).length ∧ (l.drop 2).length ≤ 16 ∧ (l.drop 2).all hexB = true then ((valL 16 hexV 0 (l.drop 2) : Int), true) else (0, false) := by
  rw [pre_take, decide_eq_true_eq] at hp
  unfold numR numL
  rw [if_pos hp]
  by_cases h : 1 ≤ (l.drop 2).length ∧ (l.drop 2).length ≤ 16 ∧ (l.drop 2).all hexB = true
  · rw [if_pos h, if_pos h]
  · rw [if_neg h, if_neg h]
theorem isIn16 : isIn dig16 = hexB := funext dig16_in
theorem isIn10 : isIn dig10 = digitB := funext dig10_in

set_option maxHeartbeats 4000000 in
set_option maxRecDepth 100000 in
theorem number_dec (s : ByteArray) (w : World) (hs : s.size ≤ 140737488351232) (hE : Env w) (hp : Lib.hasPrefix s.data.toList [48, 120] = false) :
    Calls Tryz.prog 105 #[.string s] w fun e w' => e = .returned (.tuple #[.int .u64 (numR s.data.toList).1, .bool (numR s.data.toList).2]) ∧ Below w.heap.size w w' := by
  rw [numR_dec hp]
  have hm : s.size ≤ maxLen := by unfold maxLen; omega
  have HP := Lib.hid hp
  have htr : Lib.trimPrefix s.data.toList [48, 120] = s.data.toList := by simp [Lib.trimPrefix, hp]
  have HTR := Lib.hid htr
  have hl : s.data.toList.length = s.size := by simp
  clear hp htr
  by_cases h0 : s.size = 0
  · rw [if_neg (by rw [hl]; omega)]
    have he := empty_yes h0
    clear h0 hl hm
    go_enter Tryz.func105, Tryz.ntmps105
    go_wp2_with fail
    refine (Tryz.strings_CutPrefix _ _ _).mono ?_
    rintro e w' ⟨rfl, rfl⟩
    rw [show Lib.hasPrefix s.data.toList _ = false from HP.out, show Lib.trimPrefix s.data.toList _ = s.data.toList from HTR.out]
    go_wp2
    go_ret2
    exact ⟨rfl, Below.refl _ _⟩
  · have hpos : 0 < s.size := by omega
    have he := empty_no hpos
    clear h0
    have hc : s.data.toList.head? = some s[0] := by
      have := drop_cons s 0 hpos
      rw [List.drop_zero] at this
      rw [this]; rfl
    rw [hc]
    have HL := Lib.hid hl; clear hl hc
    by_cases h12 : 1 < s.size ∧ s[0] = 48
    · obtain ⟨h1, h2⟩ := h12
      rw [if_neg (by rw [HL.out, h2]; simp; omega)]
      have hx : (((s[0]).toNat : Int) == 48) = true := by rw [h2]; rfl
      clear h2
      go_enter Tryz.func105, Tryz.ntmps105
      go_wp2_with fail
      refine (Tryz.strings_CutPrefix _ _ _).mono ?_
      rintro e w' ⟨rfl, rfl⟩
      rw [show Lib.hasPrefix s.data.toList _ = false from HP.out, show Lib.trimPrefix s.data.toList _ = s.data.toList from HTR.out]
      go_wp2
      go_ret2
      exact ⟨rfl, Below.refl _ _⟩
    · have hn : (1 ≤ s.data.toList.length ∧ ¬ (1 < s.data.toList.length ∧ some s[0] = some 48) ∧ s.data.toList.all digitB = true ∧ valL 10 digV 0 s.data.toList < 18446744073709551616) ↔ (s.data.toList.all digitB = true ∧ valL 10 digV 0 s.data.toList < 18446744073709551616) := by
        rw [HL.out]
        constructor
        · exact fun h => h.2.2
        · exact fun h => ⟨hpos, fun h' => h12 ⟨h'.1, Option.some.inj h'.2⟩, h⟩
      simp only [hn]
      generalize hR : (if s.data.toList.all digitB = true ∧ valL 10 digV 0 s.data.toList < 18446744073709551616 then ((valL 10 digV 0 s.data.toList : Int), true) else ((0 : Int), false)) = R
      have HRR := Lib.hid hR; clear hR
      have hx : s.size ≤ 1 ∨ (1 < s.size ∧ (((s[0]).toNat : Int) == 48) = false) := by
        by_cases h1 : 1 < s.size
        · right
          refine ⟨h1, ?_⟩
          rw [beq_eq_false_iff_ne]
          intro h
          exact h12 ⟨h1, by rw [← UInt8.toNat_inj]; show _ = 48; omega⟩
        · left; omega
      clear hn h12
      rcases hx with hx | ⟨hx, hx2⟩
      all_goals
        go_enter Tryz.func105, Tryz.ntmps105
        go_wp2_with fail
        refine (Tryz.strings_CutPrefix _ _ _).mono ?_
        rintro e w' ⟨rfl, rfl⟩
        rw [show Lib.hasPrefix s.data.toList _ = false from HP.out, show Lib.trimPrefix s.data.toList _ = s.data.toList from HTR.out]
        go_wp2_with fail
        refine (cutLeft_any s dig10 _ hm dig10_low (by unfold maxLen; decide)).mono ?_
        rintro e w1 ⟨⟨r1, rfl, HR1⟩, hb1⟩
        have hE1 := hE.below hb1
        have hrm : r1.size ≤ maxLen := by have := HR1.out.1; omega
        go_wp2_with fail
        refine (cutRight_any r1 dig10 _ hrm dig10_low (by unfold maxLen; decide) hE1.tabs).mono ?_
        rintro e w2 ⟨⟨r2, rfl, HR2⟩, hb2⟩
        have hE2 := hE1.below hb2
        have hb12 := hb1.trans (hb2.mono hb1.size)
        have hcb := cut_both HR1.out HR2.out
        rw [isIn10] at hcb
        clear hb1 hb2 hE1 hrm HR1 HR2
        by_cases hall : s.data.toList.all digitB = true
        · have he2 := empty_yes (hcb.2 hall)
          by_cases hlt : valL 10 digV 0 s.data.toList < 18446744073709551616
          · have HV : Hid (((valL 10 digV 0 s.data.toList : Int), true) = R) := (if_pos ⟨hall, hlt⟩).symm.trans HRR.out
            clear HRR
            have HC := Lib.hid (parse10_ok s (by omega) hs hall hlt w2)
            generalize (valL 10 digV 0 s.data.toList : Int) = v at HC HV
            clear hcb hall hlt
            go_wp2_with fail
            refine HC.out.mono ?_
            rintro e w3 ⟨rfl, hb3⟩
            have hb13 := hb12.trans (hb3.mono hb12.size)
            go_wp2
            go_ret2
            exact ⟨by rw [← HV.out]; rfl, hb13⟩
          · have HV : Hid (((0 : Int), false) = R) := (if_neg (fun h => hlt h.2)).symm.trans HRR.out
            clear HRR
            have HC := Lib.hid (parse10_range s (by omega) hs hall hlt w2 hE2)
            clear hcb hall hlt
            go_wp2_with fail
            refine HC.out.mono ?_
            rintro e w3 ⟨⟨N, rfl⟩, hb3⟩
            have hb13 := hb12.trans (hb3.mono hb12.size)
            go_wp2
            go_ret2
            exact ⟨by rw [← HV.out]; rfl, hb13⟩
        · have HV : Hid (((0 : Int), false) = R) := (if_neg (fun h => hall h.1)).symm.trans HRR.out
          clear HRR
          have he2 := empty_no (s := r2) (by have : ¬ r2.size = 0 := fun h => hall (hcb.1 h); omega)
          clear hcb hall
          go_wp2
          go_ret2
          exact ⟨by rw [← HV.out]; rfl, hb12⟩

set_option maxHeartbeats 4000000 in
set_option maxRecDepth 100000 in
theorem number_hex (s : ByteArray) (w : World) (hs : s.size ≤ 140737488351232) (hE : Env w) (hp : Lib.hasPrefix s.data.toList [48, 120] = true) :
    Calls Tryz.prog 105 #[.string s] w fun e w' => e = .returned (.tuple #[.int .u64 (numR s.data.toList).1, .bool (numR s.data.toList).2]) ∧ Below w.heap.size w w' := by
  rw [numR_hex hp]
  have HP := Lib.hid hp
  have htr : Lib.trimPrefix s.data.toList [48, 120] = s.data.toList.drop 2 := by simp [Lib.trimPrefix, hp]
  have hsl : s.data.toList.length = s.size := by simp
  obtain ⟨t, ht⟩ : ∃ t : ByteArray, t = ⟨(Lib.trimPrefix s.data.toList [48, 120]).toArray⟩ := ⟨_, rfl⟩
  have htl : t.data.toList = s.data.toList.drop 2 := by rw [ht, htr]
  have hl : t.data.toList.length = t.size := by simp
  have hts : t.size ≤ s.size := by rw [← hl, htl]; simp
  have hm : t.size ≤ maxLen := by unfold maxLen; omega
  rw [← htl]
  have HTR := Lib.hid ht.symm
  clear hp htr ht htl hsl
  generalize hR : (if 1 ≤ t.data.toList.length ∧ t.data.toList.length ≤ 16 ∧ t.data.toList.all hexB = true then ((valL 16 hexV 0 t.data.toList : Int), true) else ((0 : Int), false)) = R
  have HRR := Lib.hid hR; clear hR
  by_cases h0 : t.size = 0
  · have HV : Hid (((0 : Int), false) = R) := (if_neg (by rw [hl]; omega)).symm.trans HRR.out
    have he := empty_yes h0
    clear h0 hl hm HRR
    go_enter Tryz.func105, Tryz.ntmps105
    go_wp2_with fail
    refine (Tryz.strings_CutPrefix _ _ _).mono ?_
    rintro e w' ⟨rfl, rfl⟩
    rw [show Lib.hasPrefix s.data.toList _ = true from HP.out, show (⟨(Lib.trimPrefix s.data.toList _).toArray⟩ : ByteArray) = t from HTR.out]
    go_wp2
    go_ret2
    exact ⟨by rw [← HV.out]; rfl, Below.refl _ _⟩
  · have hpos : 0 < t.size := by omega
    have he := empty_no hpos
    clear h0
    by_cases h1 : 16 < t.size
    · have HV : Hid (((0 : Int), false) = R) := (if_neg (by rw [hl]; omega)).symm.trans HRR.out
      clear hl hm HRR
      go_enter Tryz.func105, Tryz.ntmps105
      go_wp2_with fail
      refine (Tryz.strings_CutPrefix _ _ _).mono ?_
      rintro e w' ⟨rfl, rfl⟩
      rw [show Lib.hasPrefix s.data.toList _ = true from HP.out, show (⟨(Lib.trimPrefix s.data.toList _).toArray⟩ : ByteArray) = t from HTR.out]
      go_wp2
      go_ret2
      exact ⟨by rw [← HV.out]; rfl, Below.refl _ _⟩
    · have h16 : t.size ≤ 16 := by omega
      clear h1
      have HL := Lib.hid hl; clear hl
      go_enter Tryz.func105, Tryz.ntmps105
      go_wp2_with fail
      refine (Tryz.strings_CutPrefix _ _ _).mono ?_
      rintro e w' ⟨rfl, rfl⟩
      rw [show Lib.hasPrefix s.data.toList _ = true from HP.out, show (⟨(Lib.trimPrefix s.data.toList _).toArray⟩ : ByteArray) = t from HTR.out]
      go_wp2_with fail
      refine (cutLeft_any t dig16 _ hm dig16_low (by unfold maxLen; decide)).mono ?_
      rintro e w1 ⟨⟨r1, rfl, HR1⟩, hb1⟩
      have hE1 := hE.below hb1
      have hrm : r1.size ≤ maxLen := by have := HR1.out.1; omega
      go_wp2_with fail
      refine (cutRight_any r1 dig16 _ hrm dig16_low (by unfold maxLen; decide) hE1.tabs).mono ?_
      rintro e w2 ⟨⟨r2, rfl, HR2⟩, hb2⟩
      have hE2 := hE1.below hb2
      have hb12 := hb1.trans (hb2.mono hb1.size)
      have hcb := cut_both HR1.out HR2.out
      rw [isIn16] at hcb
      clear hb1 hb2 hE1 hrm HR1 HR2
      by_cases hall : t.data.toList.all hexB = true
      · have he2 := empty_yes (hcb.2 hall)
        have HV : Hid (((valL 16 hexV 0 t.data.toList : Int), true) = R) := (if_pos (by rw [HL.out]; exact ⟨by omega, h16, hall⟩)).symm.trans HRR.out
        clear HRR
        have HC := Lib.hid (parse16 t (by omega) h16 hall w2)
        generalize (valL 16 hexV 0 t.data.toList : Int) = v at HC HV
        clear hcb hall
        go_wp2_with fail
        refine HC.out.mono ?_
        rintro e w3 ⟨rfl, hb3⟩
        have hb13 := hb12.trans (hb3.mono hb12.size)
        go_wp2
        go_ret2
        exact ⟨by rw [← HV.out]; rfl, hb13⟩
      · have HV : Hid (((0 : Int), false) = R) := (if_neg (fun h => hall h.2.2)).symm.trans HRR.out
        clear HRR
        have he2 := empty_no (s := r2) (by have : ¬ r2.size = 0 := fun h => hall (hcb.1 h); omega)
        clear hcb hall
        go_wp2
        go_ret2
        exact ⟨by rw [← HV.out]; rfl, hb12⟩

theorem number_any (s : ByteArray) (w : World) (hs : s.size ≤ 140737488351232) (hE : Env w) :
    Calls Tryz.prog 105 #[.string s] w fun e w' => e = .returned (.tuple #[.int .u64 (numR s.data.toList).1, .bool (numR s.data.toList).2]) ∧ Below w.heap.size w w' := by
  cases hp : Lib.hasPrefix s.data.toList [48, 120]
  · exact number_dec s w hs hE hp
  · exact number_hex s w hs hE hp
end Go.Proofs.YtlmopoipjolbgaaGreatDoor.LexW
namespace Go.Proofs.YtlmopoipjolbgaaGreatDoor.LexW
open Go.RowKit Go.Shelf Go.Proofs.YtlmopoipjolbgaaGreatDoor.LexS
set_option linter.unusedVariables false
set_option linter.unusedSimpArgs false

/-- what Next answers: kind, text, number, place; the place behind; the error -/
abbrev NextT : Type := Int × ByteArray × Int × Int × Int × Int
def nil0 : ByteArray := ⟨#[]⟩
def tokV (s : ByteArray) (p e : Nat) (c : UInt8) : NextT :=
  if letterB c then (if 32 < e - p then (0, nil0, 0, 0, p, 52) else (2, s.extract p e, 0, p, e, 0))
  else if digitB c then (if (numR (s.extract p e).data.toList).2 then (3, s.extract p e, (numR (s.extract p e).data.toList).1, p, e, 0) else (0, nil0, 0, 0, p, 53))
  else if signL (s.data.toList.drop p) = 0 then (0, nil0, 0, 0, p, 51) else (4, s.extract p (p + signL (s.data.toList.drop p)), 0, p, p + signL (s.data.toList.drop p), 0)
def nextV (s : ByteArray) (at_ : Int) : NextT :=
  if 65536 < s.size then (0, nil0, 0, 0, 0, 54)
  else if at_ < 0 ∨ (s.size : Int) < at_ then (0, nil0, 0, 0, 0, 1)
  else if h : beginN s at_.toNat < s.size then tokV s (beginN s at_.toNat) (whileN wordB s (beginN s at_.toNat)) (s[beginN s at_.toNat])
  else (1, nil0, 0, s.size, s.size, 0)
def nextVal (x : NextT) : Value := .tuple #[.agg #[.int .i64 x.1, .string x.2.1, .int .u64 x.2.2.1, .int .i64 x.2.2.2.1], .int .i64 x.2.2.2.2.1, .int .i64 x.2.2.2.2.2]

theorem sign_drop (s : ByteArray) (p : Nat) : (s.extract p s.size).data.toList = s.data.toList.drop p := Lib.extract_to_end s p
theorem sign_le (l : List UInt8) : signL l ≤ l.length := by
  cases l with
  | nil => simp [signL]
  | cons c r =>
    simp only [signL]
    split
    · rename_i h
      rw [Bool.and_eq_true] at h
      cases r with
      | nil => simp at h
      | cons d r => simp
    · split <;> simp

theorem bcell {W w1 : World} (hb : Below W.heap.size W w1) : (∀ b o, b < W.heap.size → w1.cell? ⟨b, o, none⟩ = W.cell? ⟨b, o, none⟩) ∧ (∀ b o, b < W.heap.size → w1.frozen? ⟨b, o, none⟩ = W.frozen? ⟨b, o, none⟩) :=
  ⟨fun b o h => hb.cell (p := ⟨b, o, none⟩) h, fun b o h => hb.frozen (p := ⟨b, o, none⟩) h⟩
theorem wrap_nat (n : Nat) (h : n ≤ 9223372036854775807) : wrap64 (n : Int) = (n : Int) := by unfold wrap64; omega

set_option maxHeartbeats 4000000 in
set_option maxRecDepth 100000 in
theorem next_out (s : ByteArray) (k : Int) (w : World) (h : 65536 < s.size ∨ k < 0 ∨ (s.size : Int) < k) :
    Calls Tryz.prog 83 #[.string s, .int .i64 k] w fun e w' => e = .returned (nextVal (nextV s k)) ∧ Below w.heap.size w w' := by
  by_cases h1 : 65536 < s.size
  · rw [show nextV s k = (0, nil0, 0, 0, 0, 54) by unfold nextV; rw [if_pos h1]]
    clear h
    go_enter Tryz.func83, Tryz.ntmps83
    go_wp2
    refine bodyPost_ret (v := nextVal (0, nil0, 0, 0, 0, 54)) (by simp [results, Tryz.results83, go_sem, nextVal, nil0]) rfl ⟨rfl, ?_⟩
    exact (Below.refl _ _).alloc (Nat.le_refl _) _
  · have h2 : k < 0 ∨ (s.size : Int) < k := by omega
    rw [show nextV s k = (0, nil0, 0, 0, 0, 1) by unfold nextV; rw [if_neg h1, if_pos h2]]
    have h3 : s.size ≤ 65536 := by omega
    clear h h1
    by_cases h4 : k < 0
    · clear h2
      go_enter Tryz.func83, Tryz.ntmps83
      go_wp2
      refine bodyPost_ret (v := nextVal (0, nil0, 0, 0, 0, 1)) (by simp [results, Tryz.results83, go_sem, nextVal, nil0]) rfl ⟨rfl, ?_⟩
      exact (Below.refl _ _).alloc (Nat.le_refl _) _
    · have h5 : 0 ≤ k := by omega
      have h6 : (s.size : Int) < k := by omega
      clear h2 h4
      go_enter Tryz.func83, Tryz.ntmps83
      go_wp2
      refine bodyPost_ret (v := nextVal (0, nil0, 0, 0, 0, 1)) (by simp [results, Tryz.results83, go_sem, nextVal, nil0]) rfl ⟨rfl, ?_⟩
      exact (Below.refl _ _).alloc (Nat.le_refl _) _

set_option maxHeartbeats 4000000 in
set_option maxRecDepth 100000 in
theorem next_end (s : ByteArray) (k : Nat) (w : World) (hs : s.size ≤ 65536) (hk : k ≤ s.size) (hp : beginN s k = s.size) :
    Calls Tryz.prog 83 #[.string s, .int .i64 k] w fun e w' => e = .returned (nextVal (1, nil0, 0, s.size, s.size, 0)) ∧ Below w.heap.size w w' := by
  have hm : s.size ≤ maxLen := by unfold maxLen; omega
  have hk2 : (k : Int) ≤ (s.size : Int) := by omega
  have hk0 : (0 : Int) ≤ (k : Int) := by omega
  have HP := Lib.hid hp; clear hp
  go_enter Tryz.func83, Tryz.ntmps83
  go_wp2_with fail
  refine (begin_any s k _ hm hk).mono ?_
  rintro e w' ⟨rfl, rfl⟩
  rw [HP.out]
  go_wp2
  refine bodyPost_ret (v := nextVal (1, nil0, 0, s.size, s.size, 0)) (by simp [results, Tryz.results83, go_sem, nextVal, nil0]) rfl ⟨rfl, ?_⟩
  exact (Below.refl _ _).alloc (Nat.le_refl _) _

set_option maxHeartbeats 4000000 in
set_option maxRecDepth 100000 in
theorem next_word (s : ByteArray) (k p q : Nat) (w : World) (hs : s.size ≤ 65536) (hk : k ≤ s.size) (hp : beginN s k = p) (hlt : p < s.size) (hq : whileN wordB s p = q) (hle : p ≤ q) (hqs : q ≤ s.size) (hl : letterB s[p] = true) :
    Calls Tryz.prog 83 #[.string s, .int .i64 k] w fun e w' => e = .returned (nextVal (if 32 < q - p then (0, nil0, 0, 0, p, 52) else (2, s.extract p q, 0, p, q, 0))) ∧ Below w.heap.size w w' := by
  have hm : s.size ≤ maxLen := by unfold maxLen; omega
  have hk2 : (k : Int) ≤ (s.size : Int) := by omega
  have hk0 : (0 : Int) ≤ (k : Int) := by omega
  have HP := Lib.hid hp; clear hp
  have HQ := Lib.hid hq; clear hq
  have HL := Lib.hid hl; clear hl
  have hne : ((p : Int) == (s.size : Int)) = false := by rw [beq_eq_false_iff_ne]; omega
  by_cases h32 : 32 < q - p
  · rw [if_pos h32]
    have h33 : (32 : Int) < ((q - p : Nat) : Int) := by omega
    go_enter Tryz.func83, Tryz.ntmps83
    go_wp2_with fail
    refine (begin_any s k _ hm hk).mono ?_
    rintro e w' ⟨rfl, rfl⟩
    rw [HP.out]
    go_wp2_with fail
    refine (run_any s p _ hm (by omega)).mono ?_
    rintro e w' ⟨rfl, rfl⟩
    rw [HQ.out]
    go_wp2_with fail
    refine (letter_any _ _).mono ?_
    rintro e w' ⟨rfl, rfl⟩
    rw [HL.out]
    go_wp2
    refine bodyPost_ret (v := nextVal (0, nil0, 0, 0, p, 52)) (by simp [results, Tryz.results83, go_sem, nextVal, nil0]) rfl ⟨rfl, ?_⟩
    exact ((Below.refl _ _).alloc (Nat.le_refl _) _).alloc (by simp) _
  · rw [if_neg h32]
    have h33 : ((q - p : Nat) : Int) ≤ 32 := by omega
    go_enter Tryz.func83, Tryz.ntmps83
    go_wp2_with fail
    refine (begin_any s k _ hm hk).mono ?_
    rintro e w' ⟨rfl, rfl⟩
    rw [HP.out]
    go_wp2_with fail
    refine (run_any s p _ hm (by omega)).mono ?_
    rintro e w' ⟨rfl, rfl⟩
    rw [HQ.out]
    go_wp2_with fail
    refine (letter_any _ _).mono ?_
    rintro e w' ⟨rfl, rfl⟩
    rw [HL.out]
    go_wp2
    refine bodyPost_ret (v := nextVal (2, s.extract p q, 0, p, q, 0)) (by simp [results, Tryz.results83, go_sem, nextVal]) rfl ⟨rfl, ?_⟩
    exact ((Below.refl _ _).alloc (Nat.le_refl _) _).alloc (by simp) _

set_option maxHeartbeats 4000000 in
set_option maxRecDepth 100000 in
theorem next_number (s : ByteArray) (k p q : Nat) (w : World) (hs : s.size ≤ 65536) (hk : k ≤ s.size) (hp : beginN s k = p) (hlt : p < s.size) (hq : whileN wordB s p = q) (hle : p ≤ q) (hqs : q ≤ s.size) (hl : letterB s[p] = false) (hd : digitB s[p] = true) (hE : Env w) :
    Calls Tryz.prog 83 #[.string s, .int .i64 k] w fun e w' => e = .returned (nextVal (if (numR (s.extract p q).data.toList).2 then (3, s.extract p q, (numR (s.extract p q).data.toList).1, p, q, 0) else (0, nil0, 0, 0, p, 53))) ∧ Below w.heap.size w w' := by
  have hm : s.size ≤ maxLen := by unfold maxLen; omega
  have hk2 : (k : Int) ≤ (s.size : Int) := by omega
  have hk0 : (0 : Int) ≤ (k : Int) := by omega
  have HP := Lib.hid hp; clear hp
  have HQ := Lib.hid hq; clear hq
  have HL := Lib.hid hl; clear hl
  have HD := Lib.hid hd; clear hd
  have hne : ((p : Int) == (s.size : Int)) = false := by rw [beq_eq_false_iff_ne]; omega
  have hN := fun (W : World) (h : Env W) => number_any (s.extract p q) W (by simp; omega) h
  obtain ⟨n, hn⟩ : ∃ n, n = (numR (s.extract p q).data.toList).1 := ⟨_, rfl⟩
  obtain ⟨b, hb⟩ : ∃ b, b = (numR (s.extract p q).data.toList).2 := ⟨_, rfl⟩
  rw [← hn, ← hb]
  rw [← hn, ← hb] at hN
  have HN := Lib.hid hN
  clear hn hb hN
  cases b
  all_goals
    go_enter Tryz.func83, Tryz.ntmps83
    go_wp2_with fail
    refine (begin_any s k _ hm hk).mono ?_
    rintro e w' ⟨rfl, rfl⟩
    rw [HP.out]
    go_wp2_with fail
    refine (run_any s p _ hm (by omega)).mono ?_
    rintro e w' ⟨rfl, rfl⟩
    rw [HQ.out]
    go_wp2_with fail
    refine (letter_any _ _).mono ?_
    rintro e w' ⟨rfl, rfl⟩
    rw [HL.out]
    go_wp2_with fail
    refine (digit_any _ _).mono ?_
    rintro e w' ⟨rfl, rfl⟩
    rw [HD.out]
    go_wp2_with fail
    have hB0 := ((Below.refl w.heap.size w).alloc (Nat.le_refl _) (.cells #[.int .i64 0, .string ⟨#[]⟩, .int .u64 0, .int .i64 0] 59)).alloc (by simp) (.cells #[.int .i64 3, .string (s.extract p q), .int .u64 0, .int .i64 p] 59)
    refine (HN.out _ (hE.below hB0)).mono ?_
    rintro e w1 ⟨rfl, hb1⟩
    obtain ⟨hc, hf⟩ := bcell hb1
    have hz : w.heap.size + 1 < w1.heap.size := by have := hb1.size; simp at this; omega
    have hbb := hB0.trans (hb1.mono hB0.size)
    clear hb1
    have a0 : w1.cell? ⟨w.heap.size, 0, none⟩ = some (.int .i64 0) := by rw [hc _ _ (by simp; omega)]; go_simp
    have a1 : w1.cell? ⟨w.heap.size, 1, none⟩ = some (.string ⟨#[]⟩) := by rw [hc _ _ (by simp; omega)]; go_simp
    have a2 : w1.cell? ⟨w.heap.size, 2, none⟩ = some (.int .u64 0) := by rw [hc _ _ (by simp; omega)]; go_simp
    have a3 : w1.cell? ⟨w.heap.size, 3, none⟩ = some (.int .i64 0) := by rw [hc _ _ (by simp; omega)]; go_simp
    have b0 : w1.cell? ⟨w.heap.size + 1, 0, none⟩ = some (.int .i64 3) := by rw [hc _ _ (by simp)]; go_simp
    have b1 : w1.cell? ⟨w.heap.size + 1, 1, none⟩ = some (.string (s.extract p q)) := by rw [hc _ _ (by simp)]; go_simp
    have b2 : w1.cell? ⟨w.heap.size + 1, 2, none⟩ = some (.int .u64 0) := by rw [hc _ _ (by simp)]; go_simp
    have b3 : w1.cell? ⟨w.heap.size + 1, 3, none⟩ = some (.int .i64 p) := by rw [hc _ _ (by simp)]; go_simp
    clear hc
    go_wp2
  · refine bodyPost_ret (v := nextVal (0, nil0, 0, 0, p, 53)) (by simp [results, Tryz.results83, go_sem, nextVal, nil0, a0, a1, a2, a3]) rfl ⟨rfl, ?_⟩
    exact ((((hbb.setCell (by simp) _).setCell (by simp) _).setCell (by simp) _).setCell (by simp) _).setCell (by simp) _
  · refine bodyPost_ret (v := nextVal (3, s.extract p q, n, p, q, 0)) (by simp [results, Tryz.results83, go_sem, nextVal, a0, a1, a2, a3]) rfl ⟨rfl, ?_⟩
    exact ((((hbb.setCell (by simp) _).setCell (by simp) _).setCell (by simp) _).setCell (by simp) _).setCell (by simp) _

set_option maxHeartbeats 4000000 in
set_option maxRecDepth 100000 in
theorem next_sign (s : ByteArray) (k p q : Nat) (w : World) (hs : s.size ≤ 65536) (hk : k ≤ s.size) (hp : beginN s k = p) (hlt : p < s.size) (hq : whileN wordB s p = q) (hle : p ≤ q) (hqs : q ≤ s.size) (hl : letterB s[p] = false) (hd : digitB s[p] = false) :
    Calls Tryz.prog 83 #[.string s, .int .i64 k] w fun e w' => e = .returned (nextVal (if signL (s.data.toList.drop p) = 0 then (0, nil0, 0, 0, p, 51) else (4, s.extract p (p + signL (s.data.toList.drop p)), 0, p, p + signL (s.data.toList.drop p), 0))) ∧ Below w.heap.size w w' := by
  have hm : s.size ≤ maxLen := by unfold maxLen; omega
  have hk2 : (k : Int) ≤ (s.size : Int) := by omega
  have hk0 : (0 : Int) ≤ (k : Int) := by omega
  have HP := Lib.hid hp; clear hp
  have HQ := Lib.hid hq; clear hq
  have HL := Lib.hid hl; clear hl
  have HD := Lib.hid hd; clear hd
  have hne : ((p : Int) == (s.size : Int)) = false := by rw [beq_eq_false_iff_ne]; omega
  have hg := sign_any (s.extract p s.size)
  have hle2 := sign_le (s.data.toList.drop p)
  have hlen : (s.data.toList.drop p).length = s.size - p := by simp
  rw [hlen] at hle2
  rw [sign_drop] at hg
  generalize signL (s.data.toList.drop p) = n at *
  have HG := Lib.hid hg; clear hg hlen
  by_cases h0 : n = 0
  · subst h0
    rw [if_pos rfl]
    go_enter Tryz.func83, Tryz.ntmps83
    go_wp2_with fail
    refine (begin_any s k _ hm hk).mono ?_
    rintro e w' ⟨rfl, rfl⟩
    rw [HP.out]
    go_wp2_with fail
    refine (run_any s p _ hm (by omega)).mono ?_
    rintro e w' ⟨rfl, rfl⟩
    rw [HQ.out]
    go_wp2_with fail
    refine (letter_any _ _).mono ?_
    rintro e w' ⟨rfl, rfl⟩
    rw [HL.out]
    go_wp2_with fail
    refine (digit_any _ _).mono ?_
    rintro e w' ⟨rfl, rfl⟩
    rw [HD.out]
    go_wp2_with fail
    refine (HG.out _ (by simp; omega)).mono ?_
    rintro e w' ⟨rfl, rfl⟩
    go_wp2
    refine bodyPost_ret (v := nextVal (0, nil0, 0, 0, p, 51)) (by simp [results, Tryz.results83, go_sem, nextVal, nil0]) rfl ⟨rfl, ?_⟩
    exact ((Below.refl _ _).alloc (Nat.le_refl _) _).alloc (by simp) _
  · rw [if_neg h0]
    have hne2 : (s.extract p (p + n)).toList.isEmpty = false := empty_no (by simp; omega)
    go_enter Tryz.func83, Tryz.ntmps83
    go_wp2_with fail
    refine (begin_any s k _ hm hk).mono ?_
    rintro e w' ⟨rfl, rfl⟩
    rw [HP.out]
    go_wp2_with fail
    refine (run_any s p _ hm (by omega)).mono ?_
    rintro e w' ⟨rfl, rfl⟩
    rw [HQ.out]
    go_wp2_with fail
    refine (letter_any _ _).mono ?_
    rintro e w' ⟨rfl, rfl⟩
    rw [HL.out]
    go_wp2_with fail
    refine (digit_any _ _).mono ?_
    rintro e w' ⟨rfl, rfl⟩
    rw [HD.out]
    go_wp2_with fail
    refine (HG.out _ (by simp; omega)).mono ?_
    rintro e w' ⟨rfl, rfl⟩
    go_wp2
    refine bodyPost_ret (v := nextVal (4, s.extract p (p + n), 0, p, p + n, 0)) (by simp [results, Tryz.results83, go_sem, nextVal]) rfl ⟨rfl, ?_⟩
    exact ((Below.refl _ _).alloc (Nat.le_refl _) _).alloc (by simp) _

theorem next_any (s : ByteArray) (k : Int) (w : World) (hE : Env w) :
    Calls Tryz.prog 83 #[.string s, .int .i64 k] w fun e w' => e = .returned (nextVal (nextV s k)) ∧ Below w.heap.size w w' := by
  by_cases h : 65536 < s.size ∨ k < 0 ∨ (s.size : Int) < k
  · exact next_out s k w h
  · obtain ⟨j, rfl⟩ := Int.eq_ofNat_of_zero_le (show 0 ≤ k by omega)
    have h1 : ¬ 65536 < s.size := by omega
    have h2 : ¬ ((j : Int) < 0 ∨ (s.size : Int) < (j : Int)) := by omega
    have hj : j ≤ s.size := by omega
    unfold nextV
    rw [if_neg h1, if_neg h2, Int.toNat_natCast]
    by_cases hp : beginN s j < s.size
    · rw [dif_pos hp]
      have hle := whileN_ge wordB s (beginN s j)
      have hqs := whileN_le wordB s (beginN s j) (by omega)
      unfold tokV
      cases hl : letterB s[beginN s j]
      · rw [if_neg (by simp)]
        cases hd : digitB s[beginN s j]
        · rw [if_neg (by simp)]
          exact next_sign s j _ _ w (by omega) hj rfl hp rfl hle hqs hl hd
        · rw [if_pos rfl]
          exact next_number s j _ _ w (by omega) hj rfl hp rfl hle hqs hl hd hE
      · rw [if_pos rfl]
        exact next_word s j _ _ w (by omega) hj rfl hp rfl hle hqs hl
    · rw [dif_neg hp]
      exact next_end s j w (by omega) hj (by have := begin_le s j; omega)
end Go.Proofs.YtlmopoipjolbgaaGreatDoor.LexW
namespace Go.Proofs.YtlmopoipjolbgaaGreatDoor.LexW
open Go.RowKit Go.Shelf Go.Proofs.YtlmopoipjolbgaaGreatDoor.LexS
set_option linter.unusedVariables false
set_option linter.unusedSimpArgs false

set_option maxHeartbeats 400000 in
theorem rletter_any (c : UInt8) (w : World) :
    Calls Tryz.prog 108 #[.int .u8 (c.toNat : Int)] w fun e w' => e = .returned (.bool (letterB c)) ∧ w = w' := by
  rw [letter_nat]
  generalize (c.toNat : Int) = n
  by_cases h1 : 97 ≤ n
  all_goals by_cases h2 : n ≤ 122
  all_goals by_cases h3 : 65 ≤ n
  all_goals by_cases h4 : n ≤ 90
  all_goals try (exfalso; omega)
  all_goals
    go_enter Tryz.func108, Tryz.ntmps108
    go_wp2
    go_ret
    exact ⟨ret_bool (by first | rfl | (rw [Bool.eq_iff_iff]; simp; omega)), rfl⟩

set_option maxHeartbeats 400000 in
theorem rdigit_any (c : UInt8) (w : World) :
    Calls Tryz.prog 109 #[.int .u8 (c.toNat : Int)] w fun e w' => e = .returned (.bool (digitB c)) ∧ w = w' := by
  rw [digit_nat]
  generalize (c.toNat : Int) = n
  by_cases h1 : 48 ≤ n
  all_goals by_cases h2 : n ≤ 57
  all_goals try (exfalso; omega)
  all_goals
    go_enter Tryz.func109, Tryz.ntmps109
    go_wp2
    go_ret
    exact ⟨ret_bool (by first | rfl | (rw [Bool.eq_iff_iff]; simp; omega)), rfl⟩

set_option maxHeartbeats 1000000 in
set_option maxRecDepth 100000 in
theorem rrun_any (s : ByteArray) (k : Nat) (w : World) (hs : s.size ≤ maxLen) (hk : k ≤ s.size) :
    Calls Tryz.prog 110 #[.string s, .int .i64 k] w fun e w' => e = .returned (.int .i64 (whileN wordB s k)) ∧ w = w' := by
  unfold maxLen at hs
  go_enter Tryz.func110, Tryz.ntmps110
  go_wp2
  go_loop [1] (fun i => ∃ j : Nat, k ≤ j ∧ j ≤ s.size ∧ i = .int .i64 j ∧ Hid (whileN wordB s k = whileN wordB s j)) (fun i => s.size - (intOf i).toNat)
  case atStart => exact ⟨k, Nat.le_refl _, hk, rfl, rfl⟩
  case round =>
    obtain ⟨j, hj1, hj2, rfl, HJ⟩ := hrel
    by_cases hlt : j < s.size
    · cases hl : letterB s[j]
      · cases hd : digitB s[j]
        · have HB : Hid (wordB s[j] = false) := by show _ = _; unfold wordB; rw [hl, hd]; rfl
          have Hl := Lib.hid hl; have Hd := Lib.hid hd; clear hl hd
          go_wp2_with (first | (go_at_call 108; refine (rletter_any _ _).mono ?_; rintro e w' ⟨rfl, rfl⟩; rw [Hl.out]) | (go_at_call 109; refine (rdigit_any _ _).mono ?_; rintro e w' ⟨rfl, rfl⟩; rw [Hd.out]))
          go_ret
          exact ⟨ret_int (by rw [HJ.out, whileN_no hlt HB.out]), rfl⟩
        · have HB : Hid (wordB s[j] = true) := by show _ = _; unfold wordB; rw [hl, hd]; rfl
          have Hl := Lib.hid hl; have Hd := Lib.hid hd; clear hl hd
          go_wp2_with (first | (go_at_call 108; refine (rletter_any _ _).mono ?_; rintro e w' ⟨rfl, rfl⟩; rw [Hl.out]) | (go_at_call 109; refine (rdigit_any _ _).mono ?_; rintro e w' ⟨rfl, rfl⟩; rw [Hd.out]))
          go_round
          case rel => exact ⟨j + 1, by omega, by omega, by go_num, by show _ = _; rw [HJ.out, whileN_yes hlt HB.out]⟩
          case measure => simp [intOf]; omega
      · have HB : Hid (wordB s[j] = true) := by show _ = _; unfold wordB; rw [hl]; rfl
        have Hl := Lib.hid hl; clear hl
        generalize hd : digitB s[j] = d
        have Hd := Lib.hid hd; clear hd
        go_wp2_with (first | (go_at_call 108; refine (rletter_any _ _).mono ?_; rintro e w' ⟨rfl, rfl⟩; rw [Hl.out]) | (go_at_call 109; refine (rdigit_any _ _).mono ?_; rintro e w' ⟨rfl, rfl⟩; rw [Hd.out]))
        go_round
        case rel => exact ⟨j + 1, by omega, by omega, by go_num, by show _ = _; rw [HJ.out, whileN_yes hlt HB.out]⟩
        case measure => simp [intOf]; omega
    · have hle : s.size ≤ j := by omega
      go_wp2
      go_ret
      exact ⟨ret_int (by rw [HJ.out, whileN_end hle]), rfl⟩

theorem blank_nat (c : UInt8) : blankB c = (((c.toNat : Int) == 9) || ((c.toNat : Int) == 10) || ((c.toNat : Int) == 13) || ((c.toNat : Int) == 32)) := by
  have e (n : UInt8) : (c == n) = ((c.toNat : Int) == (n.toNat : Int)) := by
    rw [Bool.eq_iff_iff]; simp [← UInt8.toNat_inj]; omega
  unfold blankB
  rw [e 9, e 10, e 13, e 32]; rfl

theorem begin_blank {s : ByteArray} {k : Nat} (h : k < s.size) (hb : blankB s[k] = true) : beginN s k = beginN s (k + 1) := by
  unfold beginN; rw [drop_cons s k h, skipS, if_pos hb]
theorem begin_stop {s : ByteArray} {k : Nat} (h : k < s.size) (hb : blankB s[k] = false) (h35 : s[k] ≠ 35) : beginN s k = k := by
  apply begin_stay (by omega)
  rw [drop_cons s k h, skipS, hb]; simp [h35]
theorem begin_hash {s : ByteArray} {k : Nat} (h : k < s.size) (h35 : s[k] = 35) : beginN s k = beginN s (whileN (fun c => c != 10) s k) := by
  have e : skipS false (s.data.toList.drop k) = skipS true (s.data.toList.drop k) := by
    rw [drop_cons s k h, h35]; rfl
  unfold beginN; rw [e, skip_remark, List.drop_drop]; rfl
theorem begin_size (s : ByteArray) : beginN s s.size = s.size := by
  apply begin_stay (Nat.le_refl _)
  rw [List.drop_of_length_le (by simp)]; rfl

set_option maxHeartbeats 2000000 in
set_option maxRecDepth 100000 in
theorem rskip_any (s : ByteArray) (k : Nat) (w : World) (hs : s.size ≤ maxLen) (hk : k ≤ s.size) :
    Calls Tryz.prog 107 #[.string s, .int .i64 k] w fun e w' => e = .returned (.int .i64 (beginN s k)) ∧ w = w' := by
  unfold maxLen at hs
  go_enter Tryz.func107, Tryz.ntmps107
  go_wp2
  go_loop [1] (fun i => ∃ j : Nat, j ≤ s.size ∧ i = .int .i64 j ∧ Hid (beginN s k = beginN s j)) (fun i => s.size - (intOf i).toNat)
  case atStart => exact ⟨k, hk, rfl, rfl⟩
  case round =>
    obtain ⟨j, hj2, rfl, HJ⟩ := hrel
    by_cases hlt : j < s.size
    · by_cases h35 : s[j] = 35
      · have hx : (((s[j]).toNat : Int) == 35) = true := by rw [h35]; rfl
        have H35 := Lib.hid h35; clear h35
        go_wp2
        go_loop [1] (fun i => ∃ m : Nat, j ≤ m ∧ m ≤ s.size ∧ i = .int .i64 m ∧ Hid (whileN (fun c => c != 10) s j = whileN (fun c => c != 10) s m)) (fun i => s.size - (intOf i).toNat)
        case atStart => exact ⟨j, Nat.le_refl _, hj2, rfl, rfl⟩
        case round =>
          obtain ⟨m, hm1, hm2, rfl, HM⟩ := hrel
          by_cases hml : m < s.size
          · by_cases h10 : s[m] = 10
            · have hy : (((s[m]).toNat : Int) != 10) = false := by rw [h10]; rfl
              have hjm : j < m := by
                rcases Nat.lt_or_ge j m with h | h
                · exact h
                · exfalso; obtain rfl : m = j := by omega
                  have := H35.out; rw [h10] at this; exact absurd this (by decide)
              have H10 := Lib.hid h10; clear h10
              clear hx
              go_wp2
              go_round
              case rel => exact ⟨m, hm2, rfl, by show _ = _; rw [HJ.out, begin_hash hlt H35.out, HM.out, whileN_no hml (by rw [H10.out]; rfl)]⟩
              case measure => simp [intOf]; omega
            · have hy : (((s[m]).toNat : Int) != 10) = true := by
                rw [bne_iff_ne]; intro h; apply h10; rw [← UInt8.toNat_inj]; show _ = 10; omega
              have H10 := Lib.hid h10; clear h10
              clear hx
              go_wp2
              go_round
              case rel => exact ⟨m + 1, by omega, by omega, by go_num, by show _ = _; rw [HM.out, whileN_yes hml (by simpa using H10.out)]⟩
              case measure => simp [intOf]; omega
          · have hle : s.size ≤ m := by omega
            have hjm : j < m := by omega
            clear hx
            go_wp2
            go_round
            case rel => exact ⟨m, hm2, rfl, by show _ = _; rw [HJ.out, begin_hash hlt H35.out, HM.out, whileN_end hle]⟩
            case measure => simp [intOf]; omega
      · have hx : (((s[j]).toNat : Int) == 35) = false := by
          rw [beq_eq_false_iff_ne]; intro h; apply h35; rw [← UInt8.toNat_inj]; show _ = 35; omega
        have hbn := blank_nat s[j]
        cases hb : blankB s[j]
        · rw [hb] at hbn
          simp only [Bool.or_eq_false_iff, Bool.false_eq, beq_eq_false_iff_ne] at hbn
          obtain ⟨⟨⟨n1, n2⟩, n3⟩, n4⟩ := hbn
          have e1 : (((s[j]).toNat : Int) != 9) = true := by rw [bne_iff_ne]; exact n1
          have e2 : (((s[j]).toNat : Int) != 10) = true := by rw [bne_iff_ne]; exact n2
          have e3 : (((s[j]).toNat : Int) != 13) = true := by rw [bne_iff_ne]; exact n3
          have e4 : (((s[j]).toNat : Int) != 32) = true := by rw [bne_iff_ne]; exact n4
          have H35 := Lib.hid h35; have Hb := Lib.hid hb; clear h35 hb n1 n2 n3 n4
          go_wp2
          go_ret
          exact ⟨ret_int (by rw [HJ.out, begin_stop hlt Hb.out H35.out]), rfl⟩
        · rw [hb] at hbn
          have H35 := Lib.hid h35; have Hb := Lib.hid hb; clear h35 hb
          have hc : ((s[j]).toNat : Int) = 9 ∨ ((s[j]).toNat : Int) = 10 ∨ ((s[j]).toNat : Int) = 13 ∨ ((s[j]).toNat : Int) = 32 := by
            simpa [or_assoc] using hbn.symm
          clear hbn
          rcases hc with hc | hc | hc | hc
          all_goals
            first
              | have e1 : (((s[j]).toNat : Int) != 9) = false := by rw [hc]; rfl
              | have e1 : (((s[j]).toNat : Int) != 9) = true := by rw [hc]; rfl
            first
              | have e2 : (((s[j]).toNat : Int) != 10) = false := by rw [hc]; rfl
              | have e2 : (((s[j]).toNat : Int) != 10) = true := by rw [hc]; rfl
            first
              | have e3 : (((s[j]).toNat : Int) != 13) = false := by rw [hc]; rfl
              | have e3 : (((s[j]).toNat : Int) != 13) = true := by rw [hc]; rfl
            first
              | have e4 : (((s[j]).toNat : Int) != 32) = false := by rw [hc]; rfl
              | have e4 : (((s[j]).toNat : Int) != 32) = true := by rw [hc]; rfl
            clear hc
            go_wp2
            go_round
            case rel => exact ⟨j + 1, by omega, by go_num, by show _ = _; rw [HJ.out, begin_blank hlt Hb.out]⟩
            case measure => simp [intOf]; omega
    · obtain rfl : j = s.size := by omega
      go_wp2
      go_ret
      exact ⟨ret_int (by rw [HJ.out, begin_size]), rfl⟩
end Go.Proofs.YtlmopoipjolbgaaGreatDoor.LexW
namespace Go.Proofs.YtlmopoipjolbgaaGreatDoor.LexW
open Go.RowKit Go.Shelf Go.Proofs.YtlmopoipjolbgaaGreatDoor.LexS
/-- the sign by its first byte and whether '=' follows -/
def signI (n : Int) (b : Bool) : Int :=
  if n = 59 ∨ n = 44 ∨ n = 40 ∨ n = 41 ∨ n = 38 then 1 else if n = 60 ∨ n = 62 then (if b then 2 else 1) else if n = 61 ∨ n = 33 then (if b then 2 else 0) else 0
theorem sign_int (c : UInt8) (r : List UInt8) : (signL (c :: r) : Int) = signI (c.toNat : Int) (r.head? == some 61) := by
  have e (n : UInt8) : (c == n) = decide ((c.toNat : Int) = (n.toNat : Int)) := by
    rw [Bool.eq_iff_iff]; simp [← UInt8.toNat_inj]; omega
  simp only [signL]
  rw [e 61, e 33, e 60, e 62, e 59, e 44, e 40, e 41, e 38]
  simp only [show ((61 : UInt8).toNat : Int) = 61 from rfl, show ((33 : UInt8).toNat : Int) = 33 from rfl, show ((60 : UInt8).toNat : Int) = 60 from rfl, show ((62 : UInt8).toNat : Int) = 62 from rfl, show ((59 : UInt8).toNat : Int) = 59 from rfl, show ((44 : UInt8).toNat : Int) = 44 from rfl, show ((40 : UInt8).toNat : Int) = 40 from rfl, show ((41 : UInt8).toNat : Int) = 41 from rfl, show ((38 : UInt8).toNat : Int) = 38 from rfl]
  generalize (c.toNat : Int) = n
  unfold signI
  cases (r.head? == some 61)
  · simp only [Bool.and_false, Bool.false_eq_true, if_false, Bool.or_eq_true, decide_eq_true_eq]
    split <;> split <;> (try split) <;> (try split) <;> (try omega)
    all_goals (first | rfl | (exfalso; omega))
  · simp only [Bool.and_true, if_true, Bool.or_eq_true, decide_eq_true_eq]
    split <;> split <;> (try split) <;> (try split) <;> (try omega)
    all_goals (first | rfl | (exfalso; omega))

theorem next_eq (s : ByteArray) (k : Nat) (hk : k < s.size) : ((s.data.toList.drop (k + 1)).head? == some 61) = (if h : k + 1 < s.size then ((s[k + 1]).toNat : Int) == 61 else false) := by
  by_cases h : k + 1 < s.size
  · rw [dif_pos h, drop_cons s (k + 1) h, List.head?_cons]
    rw [Bool.eq_iff_iff]; simp [← UInt8.toNat_inj]; omega
  · rw [dif_neg h, List.drop_of_length_le (by simp; omega)]; rfl

set_option maxHeartbeats 4000000 in
theorem rsign_any (s : ByteArray) (k : Nat) (w : World) (hs : s.size ≤ maxLen) (hk : k < s.size) :
    Calls Tryz.prog 112 #[.string s, .int .i64 k] w fun e w' => e = .returned (.int .i64 (signL (s.data.toList.drop k))) ∧ w = w' := by
  unfold maxLen at hs
  rw [drop_cons s k hk, sign_int, next_eq s k hk]
  obtain ⟨n, hn⟩ : ∃ n : Int, n = ((s[k]).toNat : Int) := ⟨_, rfl⟩
  rw [← hn]
  have hc : n = 59 ∨ n = 44 ∨ n = 40 ∨ n = 41 ∨ n = 38 ∨ n = 60 ∨ n = 62 ∨ n = 61 ∨ n = 33 ∨ (n ≠ 59 ∧ n ≠ 44 ∧ n ≠ 40 ∧ n ≠ 41 ∧ n ≠ 38 ∧ n ≠ 60 ∧ n ≠ 62 ∧ n ≠ 61 ∧ n ≠ 33) := by omega
  have Hn := Lib.hid hn.symm; clear hn
  by_cases h1 : k + 1 < s.size
  · rw [dif_pos h1]
    have h1' : (k : Int) + 1 < (s.size : Int) := by omega
    cases hb : (((s[k + 1]).toNat : Int) == 61)
    all_goals
      rcases hc with rfl | rfl | rfl | rfl | rfl | rfl | rfl | rfl | rfl | hc
      case inr.inr.inr.inr.inr.inr.inr.inr.inr =>
        rw [show signI n _ = 0 by unfold signI; simp [hc]]
        have e1 : (n == 59) = false := by rw [beq_eq_false_iff_ne]; exact hc.1
        have e2 : (n == 44) = false := by rw [beq_eq_false_iff_ne]; exact hc.2.1
        have e3 : (n == 40) = false := by rw [beq_eq_false_iff_ne]; exact hc.2.2.1
        have e4 : (n == 41) = false := by rw [beq_eq_false_iff_ne]; exact hc.2.2.2.1
        have e5 : (n == 38) = false := by rw [beq_eq_false_iff_ne]; exact hc.2.2.2.2.1
        have e6 : (n == 60) = false := by rw [beq_eq_false_iff_ne]; exact hc.2.2.2.2.2.1
        have e7 : (n == 62) = false := by rw [beq_eq_false_iff_ne]; exact hc.2.2.2.2.2.2.1
        have e8 : (n == 61) = false := by rw [beq_eq_false_iff_ne]; exact hc.2.2.2.2.2.2.2.1
        have e9 : (n == 33) = false := by rw [beq_eq_false_iff_ne]; exact hc.2.2.2.2.2.2.2.2
        clear hc
        rw [← Hn.out] at e1 e2 e3 e4 e5 e6 e7 e8 e9
        go_enter Tryz.func112, Tryz.ntmps112
        go_wp2
        go_ret
        exact ⟨rfl, rfl⟩
      all_goals
        have hn := Hn.out
        go_enter Tryz.func112, Tryz.ntmps112
        go_wp2
        go_ret
        exact ⟨rfl, rfl⟩
  · rw [dif_neg h1]
    have h1' : (s.size : Int) ≤ (k : Int) + 1 := by omega
    rcases hc with rfl | rfl | rfl | rfl | rfl | rfl | rfl | rfl | rfl | hc
    case inr.inr.inr.inr.inr.inr.inr.inr.inr =>
      rw [show signI n _ = 0 by unfold signI; simp [hc]]
      have e1 : (n == 59) = false := by rw [beq_eq_false_iff_ne]; exact hc.1
      have e2 : (n == 44) = false := by rw [beq_eq_false_iff_ne]; exact hc.2.1
      have e3 : (n == 40) = false := by rw [beq_eq_false_iff_ne]; exact hc.2.2.1
      have e4 : (n == 41) = false := by rw [beq_eq_false_iff_ne]; exact hc.2.2.2.1
      have e5 : (n == 38) = false := by rw [beq_eq_false_iff_ne]; exact hc.2.2.2.2.1
      have e6 : (n == 60) = false := by rw [beq_eq_false_iff_ne]; exact hc.2.2.2.2.2.1
      have e7 : (n == 62) = false := by rw [beq_eq_false_iff_ne]; exact hc.2.2.2.2.2.2.1
      have e8 : (n == 61) = false := by rw [beq_eq_false_iff_ne]; exact hc.2.2.2.2.2.2.2.1
      have e9 : (n == 33) = false := by rw [beq_eq_false_iff_ne]; exact hc.2.2.2.2.2.2.2.2
      clear hc
      rw [← Hn.out] at e1 e2 e3 e4 e5 e6 e7 e8 e9
      go_enter Tryz.func112, Tryz.ntmps112
      go_wp2
      go_ret
      exact ⟨rfl, rfl⟩
    all_goals
      have hn := Hn.out
      go_enter Tryz.func112, Tryz.ntmps112
      go_wp2
      go_ret
      exact ⟨rfl, rfl⟩
end Go.Proofs.YtlmopoipjolbgaaGreatDoor.LexW
