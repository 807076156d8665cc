/-
  The walks of layer 5 (lex), seventh part: numbers.
-/
import Derived.Test.YtlmopoipjolbgaaDoorLexW6
import Derived.Lib.ParseIntBCases
namespace Go.Proofs.YtlmopoipjolbgaaDoor.LexW
open Go.RowKit Go.Shelf Go.Proofs.YtlmopoipjolbgaaDoor.LexS
set_option linter.unusedVariables false
set_option linter.unusedSimpArgs false

theorem valL_ge (d : UInt8 → Nat) (l : List UInt8) : ∀ acc, acc ≤ valL 10 d acc l := by
  induction l with
  | nil => intro acc; exact Nat.le_refl _
  | cons c r ih => intro acc; simp only [valL]; exact Nat.le_trans (by omega) (ih _)
theorem digit_bounds {c : UInt8} (h : digitB c = true) : 48 ≤ c.toNat ∧ c.toNat ≤ 57 := by
  unfold digitB at h
  simp [UInt8.le_iff_toNat_le] at h
  exact h
theorem valL_cons (b : Nat) (d : UInt8 → Nat) (n : Nat) (c : UInt8) (r : List UInt8) : valL b d n (c :: r) = valL b d (b * n + d c) r := rfl
theorem parse_cons (acc : Nat) (c : UInt8) (r : List UInt8) (h : 48 ≤ c.toNat ∧ c.toNat ≤ 57) : Lib.parseUint10 acc (c :: r) =
    if 1844674407370955162 ≤ acc then .range else if 18446744073709551616 ≤ acc * 10 + (c.toNat - 48) then .range else Lib.parseUint10 (acc * 10 + (c.toNat - 48)) r := by
  rw [Lib.parseUint10, if_pos h]
theorem parse_val (l : List UInt8) (hl : l.all digitB = true) : ∀ acc, acc < 18446744073709551616 →
    Lib.parseUint10 acc l = if valL 10 digV acc l < 18446744073709551616 then .ok (valL 10 digV acc l) else .range := by
  induction l with
  | nil => intro acc h; exact (if_pos h).symm
  | cons c r ih =>
    intro acc h
    rw [List.all_cons, Bool.and_eq_true] at hl
    have hd := digit_bounds hl.1
    have hv : digV c = c.toNat - 48 := rfl
    have hge := valL_ge digV r (10 * acc + digV c)
    rw [parse_cons _ _ _ hd, valL_cons]
    by_cases h1 : 1844674407370955162 ≤ acc
    · rw [if_pos h1, if_neg (by omega)]
    · rw [if_neg h1]
      by_cases h2 : 18446744073709551616 ≤ acc * 10 + (c.toNat - 48)
      · rw [if_pos h2, if_neg (by omega)]
      · rw [if_neg h2, show acc * 10 + (c.toNat - 48) = 10 * acc + digV c by omega]
        exact ih hl.2 _ (by omega)
theorem parseB_val (l : List UInt8) (hne : l ≠ []) (hl : l.all digitB = true) :
    Lib.parseUintB 64 l = if valL 10 digV 0 l < 18446744073709551616 then .ok (valL 10 digV 0 l) else .range := by
  rw [Lib.parseUintB_64, Lib.parseMag, if_neg hne]
  exact parse_val l hl 0 (by omega)

/-- what the program finds when it begins: the library's tables, and its two errors -/
structure Env (w : World) : Prop where
  tabs : Tabs w
  syn : ∃ te pe, w.cell? ⟨0, 0, none⟩ = some (.iface te pe)
  rng : ∃ te pe, w.cell? ⟨1, 0, none⟩ = some (.iface te pe)
theorem cell_stays {w w1 : World} (h : Below w.heap.size w w1) {a : Addr} {v : Value} (hc : w.cell? a = some v) : w1.cell? a = some v := (h.cell (World.block_lt_of_cell? w a hc)).trans hc
theorem Env.below {w w1 : World} (h : Env w) (hb : Below w.heap.size w w1) : Env w1 :=
  ⟨Utf8Tabs_below h.tabs hb, h.syn.imp fun _ ⟨p, hp⟩ => ⟨p, cell_stays hb hp⟩, h.rng.imp fun _ ⟨p, hp⟩ => ⟨p, cell_stays hb hp⟩⟩

theorem below_bytes (w : World) (e : TypeId) (s : ByteArray) : Below w.heap.size w (Lib.bytesWorld w e s) :=
  ⟨rfl, rfl, rfl, by rw [Lib.bytesWorld_size]; omega, fun i hi => Lib.bytesWorld_at_old w e s i (by omega)⟩

set_option maxHeartbeats 1000000 in
theorem parse16 (t : ByteArray) (hne : t.size ≠ 0) (h16 : t.size ≤ 16) (hall : t.data.toList.all hexB = true) (w : World) :
    Calls Tryd.prog 29 #[.string t, .int .i64 16, .int .i64 64] w fun e w' => e = .returned (.tuple #[.int .u64 (valL 16 hexV 0 t.data.toList), .nilIface]) ∧ Below w.heap.size w w' := by
  have hb := below_bytes w 5 t
  generalize hv : valL 16 hexV 0 t.data.toList = v
  have HV := Lib.hid hv; clear hv
  go_enter Tryd.func29, Tryd.ntmps29
  go_wp2_with fail
  refine (inner_parse16 t hne h16 hall w).mono ?_
  rintro e w' ⟨rfl, hw⟩
  rw [HV.out]
  rw [← hw] at hb
  clear hw
  go_wp2
  go_ret2
  exact ⟨rfl, hb⟩

theorem parse10_ok (t : ByteArray) (hne : t.size ≠ 0) (hs : t.size ≤ 140737488351232) (hall : t.data.toList.all digitB = true) (hlt : valL 10 digV 0 t.data.toList < 18446744073709551616) (w : World) :
    Calls Tryd.prog 29 #[.string t, .int .i64 10, .int .i64 64] w fun e w' => e = .returned (.tuple #[.int .u64 (valL 10 digV 0 t.data.toList), .nilIface]) ∧ Below w.heap.size w w' := by
  have hne' : t.data.toList ≠ [] := by intro h; apply hne; have : t.data.toList.length = t.size := by simp
                                       rw [h] at this; simpa using this.symm
  refine (Tryd.strconv_ParseUint_10_at64_ok t (by omega) _ (by rw [parseB_val _ hne' hall, if_pos hlt]) w).mono ?_
  rintro e w' ⟨rfl, rfl | rfl⟩
  · exact ⟨rfl, Below.refl _ _⟩
  · exact ⟨rfl, below_bytes _ _ _⟩
theorem parse10_range (t : ByteArray) (hne : t.size ≠ 0) (hs : t.size ≤ 140737488351232) (hall : t.data.toList.all digitB = true) (hlt : ¬ valL 10 digV 0 t.data.toList < 18446744073709551616) (w : World) (hE : Env w) :
    Calls Tryd.prog 29 #[.string t, .int .i64 10, .int .i64 64] w fun e w' => (∃ N, e = .returned (.tuple #[.int .u64 18446744073709551615, .iface 105 (.pointer (some ⟨N, 0, none⟩))])) ∧ Below w.heap.size w w' := by
  have hne' : t.data.toList ≠ [] := by intro h; apply hne; have : t.data.toList.length = t.size := by simp
                                       rw [h] at this; simpa using this.symm
  obtain ⟨te, pe, hc⟩ := hE.rng
  refine (Tryd.strconv_ParseUint_10_at64_range t (by omega) (by rw [parseB_val _ hne' hall, if_neg hlt]) _ w hc (.inr ⟨te, pe, rfl⟩)).mono ?_
  rintro e w' ⟨N, rfl, _, _, hb⟩
  exact ⟨⟨N, rfl⟩, hb⟩

def digs : ByteArray := ⟨#[48, 49, 50, 51, 52, 53, 54, 55, 56, 57, 97, 98, 99, 100, 101, 102]⟩
def dig16 : ByteArray := digs.extract 0 16
def dig10 : ByteArray := digs.extract 0 10
theorem dig16_low : ∀ d ∈ dig16.data.toList, d.toNat < 128 := by decide
theorem dig10_low : ∀ d ∈ dig10.data.toList, d.toNat < 128 := by decide
theorem dig16_in (c : UInt8) : isIn dig16 c = hexB c := by
  have h : ∀ n : Fin 256, isIn dig16 (UInt8.ofNat n) = hexB (UInt8.ofNat n) := by decide +kernel
  have := h ⟨c.toNat, c.toNat_lt⟩
  simpa using this
theorem dig10_in (c : UInt8) : isIn dig10 c = digitB c := by
  have h : ∀ n : Fin 256, isIn dig10 (UInt8.ofNat n) = digitB (UInt8.ofNat n) := by decide +kernel
  have := h ⟨c.toNat, c.toNat_lt⟩
  simpa using this
theorem all_dropWhile (p : UInt8 → Bool) (l : List UInt8) : (l.dropWhile p).all p = l.all p := by
  conv => rhs; rw [← List.takeWhile_append_dropWhile (p := p) (l := l)]
  rw [List.all_append]
  have : (l.takeWhile p).all p = true := List.all_takeWhile
  rw [this]; rfl
/-- both cuts leave nothing just of a text all of whose bytes are in the set -/
theorem cut_both {set s r t : ByteArray} (h1 : r.size ≤ s.size ∧ r.data.toList = s.data.toList.dropWhile (isIn set)) (h2 : CutR set r t) : (t.size = 0 ↔ s.data.toList.all (isIn set) = true) := by
  rw [h2.2, h1.2, all_dropWhile]

/-- the answer of Number -/
def numR (l : List UInt8) : Int × Bool := match numL l with | some n => (n, true) | none => (0, false)

theorem pre_take (l : List UInt8) : Lib.hasPrefix l [48, 120] = decide (l.take 2 = [48, 120]) := by
  unfold Lib.hasPrefix
  match l with
  | [] => rfl
  | [a] => simp [List.isPrefixOf]
  | a :: b :: r =>
    show (48 == a && (120 == b && true)) = decide ([a, b] = [48, 120])
    by_cases h1 : a = 48
    · subst h1
      by_cases h2 : b = 120
      · subst h2; rfl
      · rw [decide_eq_false (by simpa using h2), show ((120 : UInt8) == b) = false by simpa using Ne.symm h2]; rfl
    · rw [decide_eq_false (by simp [h1]), show ((48 : UInt8) == a) = false by simpa using Ne.symm h1]; rfl
theorem numR_dec {l : List UInt8} (hp : Lib.hasPrefix l [48, 120] = false) :
    numR l = if 1 ≤ l.length ∧ ¬ (1 < l.length ∧ l.head? = some 48) ∧ l.all digitB = true ∧ valL 10 digV 0 l < 18446744073709551616 then ((valL 10 digV 0 l : Int), true) else (0, false) := by
  rw [pre_take, decide_eq_false_iff_not] at hp
  unfold numR numL
  rw [if_neg hp]
  by_cases h : 1 ≤ l.length ∧ ¬ (1 < l.length ∧ l.head? = some 48) ∧ l.all digitB = true ∧ valL 10 digV 0 l < 18446744073709551616
  · rw [if_pos h, if_pos h]
  · rw [if_neg h, if_neg h]
theorem numR_hex {l : List UInt8} (hp : Lib.hasPrefix l [48, 120] = true) :
    numR l = if 1 ≤ (l.drop 2).length ∧ (l.drop 2).length ≤ 16 ∧ (l.drop 2).all hexB = true then ((valL 16 hexV 0 (l.drop 2) : Int), true) else (0, false) := by
  rw [pre_take, decide_eq_true_eq] at hp
  unfold numR numL
  rw [if_pos hp]
  by_cases h : 1 ≤ (l.drop 2).length ∧ (l.drop 2).length ≤ 16 ∧ (l.drop 2).all hexB = true
  · rw [if_pos h, if_pos h]
  · rw [if_neg h, if_neg h]
theorem isIn16 : isIn dig16 = hexB := funext dig16_in
theorem isIn10 : isIn dig10 = digitB := funext dig10_in

set_option maxHeartbeats 4000000 in
set_option maxRecDepth 100000 in
theorem number_dec (s : ByteArray) (w : World) (hs : s.size ≤ 140737488351232) (hE : Env w) (hp : Lib.hasPrefix s.data.toList [48, 120] = false) :
    Calls Tryd.prog 10 #[.string s] w fun e w' => e = .returned (.tuple #[.int .u64 (numR s.data.toList).1, .bool (numR s.data.toList).2]) ∧ Below w.heap.size w w' := by
  rw [numR_dec hp]
  have hm : s.size ≤ maxLen := by unfold maxLen; omega
  have HP := Lib.hid hp
  have htr : Lib.trimPrefix s.data.toList [48, 120] = s.data.toList := by simp [Lib.trimPrefix, hp]
  have HTR := Lib.hid htr
  have hl : s.data.toList.length = s.size := by simp
  clear hp htr
  by_cases h0 : s.size = 0
  · rw [if_neg (by rw [hl]; omega)]
    have he := empty_yes h0
    clear h0 hl hm
    go_enter Tryd.func10, Tryd.ntmps10
    go_wp2_with fail
    refine (Tryd.strings_CutPrefix _ _ _).mono ?_
    rintro e w' ⟨rfl, rfl⟩
    rw [show Lib.hasPrefix s.data.toList _ = false from HP.out, show Lib.trimPrefix s.data.toList _ = s.data.toList from HTR.out]
    go_wp2
    go_ret2
    exact ⟨rfl, Below.refl _ _⟩
  · have hpos : 0 < s.size := by omega
    have he := empty_no hpos
    clear h0
    have hc : s.data.toList.head? = some s[0] := by
      have := drop_cons s 0 hpos
      rw [List.drop_zero] at this
      rw [this]; rfl
    rw [hc]
    have HL := Lib.hid hl; clear hl hc
    by_cases h12 : 1 < s.size ∧ s[0] = 48
    · obtain ⟨h1, h2⟩ := h12
      rw [if_neg (by rw [HL.out, h2]; simp; omega)]
      have hx : (((s[0]).toNat : Int) == 48) = true := by rw [h2]; rfl
      clear h2
      go_enter Tryd.func10, Tryd.ntmps10
      go_wp2_with fail
      refine (Tryd.strings_CutPrefix _ _ _).mono ?_
      rintro e w' ⟨rfl, rfl⟩
      rw [show Lib.hasPrefix s.data.toList _ = false from HP.out, show Lib.trimPrefix s.data.toList _ = s.data.toList from HTR.out]
      go_wp2
      go_ret2
      exact ⟨rfl, Below.refl _ _⟩
    · have hn : (1 ≤ s.data.toList.length ∧ ¬ (1 < s.data.toList.length ∧ some s[0] = some 48) ∧ s.data.toList.all digitB = true ∧ valL 10 digV 0 s.data.toList < 18446744073709551616) ↔ (s.data.toList.all digitB = true ∧ valL 10 digV 0 s.data.toList < 18446744073709551616) := by
        rw [HL.out]
        constructor
        · exact fun h => h.2.2
        · exact fun h => ⟨hpos, fun h' => h12 ⟨h'.1, Option.some.inj h'.2⟩, h⟩
      simp only [hn]
      generalize hR : (if s.data.toList.all digitB = true ∧ valL 10 digV 0 s.data.toList < 18446744073709551616 then ((valL 10 digV 0 s.data.toList : Int), true) else ((0 : Int), false)) = R
      have HRR := Lib.hid hR; clear hR
      have hx : s.size ≤ 1 ∨ (1 < s.size ∧ (((s[0]).toNat : Int) == 48) = false) := by
        by_cases h1 : 1 < s.size
        · right
          refine ⟨h1, ?_⟩
          rw [beq_eq_false_iff_ne]
          intro h
          exact h12 ⟨h1, by rw [← UInt8.toNat_inj]; show _ = 48; omega⟩
        · left; omega
      clear hn h12
      rcases hx with hx | ⟨hx, hx2⟩
      all_goals
        go_enter Tryd.func10, Tryd.ntmps10
        go_wp2_with fail
        refine (Tryd.strings_CutPrefix _ _ _).mono ?_
        rintro e w' ⟨rfl, rfl⟩
        rw [show Lib.hasPrefix s.data.toList _ = false from HP.out, show Lib.trimPrefix s.data.toList _ = s.data.toList from HTR.out]
        go_wp2_with fail
        refine (cutLeft_any s dig10 _ hm dig10_low (by unfold maxLen; decide)).mono ?_
        rintro e w1 ⟨⟨r1, rfl, HR1⟩, hb1⟩
        have hE1 := hE.below hb1
        have hrm : r1.size ≤ maxLen := by have := HR1.out.1; omega
        go_wp2_with fail
        refine (cutRight_any r1 dig10 _ hrm dig10_low (by unfold maxLen; decide) hE1.tabs).mono ?_
        rintro e w2 ⟨⟨r2, rfl, HR2⟩, hb2⟩
        have hE2 := hE1.below hb2
        have hb12 := hb1.trans (hb2.mono hb1.size)
        have hcb := cut_both HR1.out HR2.out
        rw [isIn10] at hcb
        clear hb1 hb2 hE1 hrm HR1 HR2
        by_cases hall : s.data.toList.all digitB = true
        · have he2 := empty_yes (hcb.2 hall)
          by_cases hlt : valL 10 digV 0 s.data.toList < 18446744073709551616
          · have HV : Hid (((valL 10 digV 0 s.data.toList : Int), true) = R) := (if_pos ⟨hall, hlt⟩).symm.trans HRR.out
            clear HRR
            have HC := Lib.hid (parse10_ok s (by omega) hs hall hlt w2)
            generalize (valL 10 digV 0 s.data.toList : Int) = v at HC HV
            clear hcb hall hlt
            go_wp2_with fail
            refine HC.out.mono ?_
            rintro e w3 ⟨rfl, hb3⟩
            have hb13 := hb12.trans (hb3.mono hb12.size)
            go_wp2
            go_ret2
            exact ⟨by rw [← HV.out]; rfl, hb13⟩
          · have HV : Hid (((0 : Int), false) = R) := (if_neg (fun h => hlt h.2)).symm.trans HRR.out
            clear HRR
            have HC := Lib.hid (parse10_range s (by omega) hs hall hlt w2 hE2)
            clear hcb hall hlt
            go_wp2_with fail
            refine HC.out.mono ?_
            rintro e w3 ⟨⟨N, rfl⟩, hb3⟩
            have hb13 := hb12.trans (hb3.mono hb12.size)
            go_wp2
            go_ret2
            exact ⟨by rw [← HV.out]; rfl, hb13⟩
        · have HV : Hid (((0 : Int), false) = R) := (if_neg (fun h => hall h.1)).symm.trans HRR.out
          clear HRR
          have he2 := empty_no (s := r2) (by have : ¬ r2.size = 0 := fun h => hall (hcb.1 h); omega)
          clear hcb hall
          go_wp2
          go_ret2
          exact ⟨by rw [← HV.out]; rfl, hb12⟩

set_option maxHeartbeats 4000000 in
set_option maxRecDepth 100000 in
theorem number_hex (s : ByteArray) (w : World) (hs : s.size ≤ 140737488351232) (hE : Env w) (hp : Lib.hasPrefix s.data.toList [48, 120] = true) :
    Calls Tryd.prog 10 #[.string s] w fun e w' => e = .returned (.tuple #[.int .u64 (numR s.data.toList).1, .bool (numR s.data.toList).2]) ∧ Below w.heap.size w w' := by
  rw [numR_hex hp]
  have HP := Lib.hid hp
  have htr : Lib.trimPrefix s.data.toList [48, 120] = s.data.toList.drop 2 := by simp [Lib.trimPrefix, hp]
  have hsl : s.data.toList.length = s.size := by simp
  obtain ⟨t, ht⟩ : ∃ t : ByteArray, t = ⟨(Lib.trimPrefix s.data.toList [48, 120]).toArray⟩ := ⟨_, rfl⟩
  have htl : t.data.toList = s.data.toList.drop 2 := by rw [ht, htr]
  have hl : t.data.toList.length = t.size := by simp
  have hts : t.size ≤ s.size := by rw [← hl, htl]; simp
  have hm : t.size ≤ maxLen := by unfold maxLen; omega
  rw [← htl]
  have HTR := Lib.hid ht.symm
  clear hp htr ht htl hsl
  generalize hR : (if 1 ≤ t.data.toList.length ∧ t.data.toList.length ≤ 16 ∧ t.data.toList.all hexB = true then ((valL 16 hexV 0 t.data.toList : Int), true) else ((0 : Int), false)) = R
  have HRR := Lib.hid hR; clear hR
  by_cases h0 : t.size = 0
  · have HV : Hid (((0 : Int), false) = R) := (if_neg (by rw [hl]; omega)).symm.trans HRR.out
    have he := empty_yes h0
    clear h0 hl hm HRR
    go_enter Tryd.func10, Tryd.ntmps10
    go_wp2_with fail
    refine (Tryd.strings_CutPrefix _ _ _).mono ?_
    rintro e w' ⟨rfl, rfl⟩
    rw [show Lib.hasPrefix s.data.toList _ = true from HP.out, show (⟨(Lib.trimPrefix s.data.toList _).toArray⟩ : ByteArray) = t from HTR.out]
    go_wp2
    go_ret2
    exact ⟨by rw [← HV.out]; rfl, Below.refl _ _⟩
  · have hpos : 0 < t.size := by omega
    have he := empty_no hpos
    clear h0
    by_cases h1 : 16 < t.size
    · have HV : Hid (((0 : Int), false) = R) := (if_neg (by rw [hl]; omega)).symm.trans HRR.out
      clear hl hm HRR
      go_enter Tryd.func10, Tryd.ntmps10
      go_wp2_with fail
      refine (Tryd.strings_CutPrefix _ _ _).mono ?_
      rintro e w' ⟨rfl, rfl⟩
      rw [show Lib.hasPrefix s.data.toList _ = true from HP.out, show (⟨(Lib.trimPrefix s.data.toList _).toArray⟩ : ByteArray) = t from HTR.out]
      go_wp2
      go_ret2
      exact ⟨by rw [← HV.out]; rfl, Below.refl _ _⟩
    · have h16 : t.size ≤ 16 := by omega
      clear h1
      have HL := Lib.hid hl; clear hl
      go_enter Tryd.func10, Tryd.ntmps10
      go_wp2_with fail
      refine (Tryd.strings_CutPrefix _ _ _).mono ?_
      rintro e w' ⟨rfl, rfl⟩
      rw [show Lib.hasPrefix s.data.toList _ = true from HP.out, show (⟨(Lib.trimPrefix s.data.toList _).toArray⟩ : ByteArray) = t from HTR.out]
      go_wp2_with fail
      refine (cutLeft_any t dig16 _ hm dig16_low (by unfold maxLen; decide)).mono ?_
      rintro e w1 ⟨⟨r1, rfl, HR1⟩, hb1⟩
      have hE1 := hE.below hb1
      have hrm : r1.size ≤ maxLen := by have := HR1.out.1; omega
      go_wp2_with fail
      refine (cutRight_any r1 dig16 _ hrm dig16_low (by unfold maxLen; decide) hE1.tabs).mono ?_
      rintro e w2 ⟨⟨r2, rfl, HR2⟩, hb2⟩
      have hE2 := hE1.below hb2
      have hb12 := hb1.trans (hb2.mono hb1.size)
      have hcb := cut_both HR1.out HR2.out
      rw [isIn16] at hcb
      clear hb1 hb2 hE1 hrm HR1 HR2
      by_cases hall : t.data.toList.all hexB = true
      · have he2 := empty_yes (hcb.2 hall)
        have HV : Hid (((valL 16 hexV 0 t.data.toList : Int), true) = R) := (if_pos (by rw [HL.out]; exact ⟨by omega, h16, hall⟩)).symm.trans HRR.out
        clear HRR
        have HC := Lib.hid (parse16 t (by omega) h16 hall w2)
        generalize (valL 16 hexV 0 t.data.toList : Int) = v at HC HV
        clear hcb hall
        go_wp2_with fail
        refine HC.out.mono ?_
        rintro e w3 ⟨rfl, hb3⟩
        have hb13 := hb12.trans (hb3.mono hb12.size)
        go_wp2
        go_ret2
        exact ⟨by rw [← HV.out]; rfl, hb13⟩
      · have HV : Hid (((0 : Int), false) = R) := (if_neg (fun h => hall h.2.2)).symm.trans HRR.out
        clear HRR
        have he2 := empty_no (s := r2) (by have : ¬ r2.size = 0 := fun h => hall (hcb.1 h); omega)
        clear hcb hall
        go_wp2
        go_ret2
        exact ⟨by rw [← HV.out]; rfl, hb12⟩

theorem number_any (s : ByteArray) (w : World) (hs : s.size ≤ 140737488351232) (hE : Env w) :
    Calls Tryd.prog 10 #[.string s] w fun e w' => e = .returned (.tuple #[.int .u64 (numR s.data.toList).1, .bool (numR s.data.toList).2]) ∧ Below w.heap.size w w' := by
  cases hp : Lib.hasPrefix s.data.toList [48, 120]
  · exact number_dec s w hs hE hp
  · exact number_hex s w hs hE hp
end Go.Proofs.YtlmopoipjolbgaaDoor.LexW
