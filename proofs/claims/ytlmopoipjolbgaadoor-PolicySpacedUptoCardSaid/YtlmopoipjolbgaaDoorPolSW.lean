/-
  The walk of ravelinlaw06.PolicySpaced.
-/
import Derived.Test.YtlmopoipjolbgaaDoorPolSp
import Derived.Test.YtlmopoipjolbgaaDoorPolSn
import Derived.Test.YtlmopoipjolbgaaDoorPolLv
import Derived.Test.YtlmopoipjolbgaaDoorPolRJ
namespace Go.Proofs.YtlmopoipjolbgaaDoor.LexW
open Go.RowKit Go.Shelf Go.Proofs.YtlmopoipjolbgaaDoor.LexS Go.Proofs.YtlmopoipjolbgaaDoorW.PrintWords
set_option linter.unusedVariables false
set_option linter.unusedSimpArgs false

/-- a slice of strings, as the walk reads it -/
def StrsAt6 (w : World) (A : Option Addr) (n : Nat) (f : Nat → ByteArray) : Prop := 0 < n → ∃ b off, A = some ⟨b, off, none⟩ ∧ ∀ i, i < n → w.cell? ⟨b, off + i, none⟩ = some (.string (f i))
theorem StrsAt6.below {w w1 : World} {A : Option Addr} {n : Nat} {f : Nat → ByteArray} (h : StrsAt6 w A n f) (hb : Below w.heap.size w w1) : StrsAt6 w1 A n f := fun hn => by
  obtain ⟨b, off, e, hc⟩ := h hn
  exact ⟨b, off, e, fun i hi => cell_stays hb (hc i hi)⟩
/-- the bytes of the first so many -/
def sumF (f : Nat → ByteArray) : Nat → Nat
  | 0 => 0
  | k + 1 => sumF f k + (f k).size
theorem stand_texts {s : ByteArray} {k : Nat} {l : List Tk} (h : Stand s k l) : ∀ t ∈ l, t.text.size ≤ s.size := by
  induction h with
  | last hk => intro t ht; rw [List.mem_singleton.1 ht]; exact Nat.zero_le _
  | @more k p q t c T l hl h1 h2 h3 ht ha r ih =>
    intro x hx
    rcases List.mem_cons.1 hx with rfl | hx
    · rw [ht, ByteArray.size_extract]; omega
    · exact ih x hx
theorem toks_short6 {s : ByteArray} (he : (toks s).2.1 = 0) : s.size ≤ 65536 := by
  by_cases h : 65536 < s.size
  · exfalso
    unfold toks at he
    rw [toksA_err (by rw [long_err s _ h]; decide), long_err s _ h] at he
    exact absurd he (by decide)
  · omega
theorem wrap_small6 {m : Nat} (h : m < 9223372036854775807) : wrap64 ((m : Int) + 1) = (m : Int) + 1 := by unfold wrap64; omega

set_option maxHeartbeats 8000000 in
set_option maxRecDepth 100000 in
theorem spacedLaw_err (s : ByteArray) (A : Option Addr) (n c : Nat) (w : World) (hE : Env w) (he : (toks s).2.1 ≠ 0) :
    Calls Tryd.prog 8 #[.string s, .slice A n c] w fun e w' => e = .returned (.bool true) ∧ Below w.heap.size w w' := by
  have HL := Lib.hid (fun W => rlist_any s W)
  have hv : listV s = ([], (toks s).2) := by unfold listV; rw [if_pos he]
  rw [hv] at HL
  have hb : ((toks s).2.1 != 0) = true := by rw [bne_iff_ne]; exact he
  clear hv he
  generalize (toks s).2 = P at *
  have HE := Lib.hid hE; clear hE
  go_enter Tryd.func8, Tryd.ntmps8
  go_wp2_with fail
  refine (lives06_any w HE.out).mono ?_
  rintro e w1 ⟨rfl, hb1⟩
  go_wp2_with fail
  refine (HL.out w1).mono ?_
  rintro e w2 ⟨⟨v, rfl, hO⟩, hb2⟩
  obtain ⟨A2, c2, rfl, _, _⟩ := Kd.R_reads hO
  have hbw2 := hb1.trans (hb2.mono hb1.size)
  clear hO hb1 hb2
  go_wp2
  go_ret
  exact ⟨rfl, hbw2⟩

set_option maxHeartbeats 8000000 in
set_option maxRecDepth 100000 in
theorem spacedLaw_ok (s : ByteArray) (A : Option Addr) (n c : Nat) (f : Nat → ByteArray) (w : World) (hE : Env w) (hn : n ≤ 9223372036854775807) (hA : StrsAt6 w A n f) (hf : ∀ k, k ≤ n → sumF f k ≤ 1048576) (he : (toks s).2.1 = 0) :
    Calls Tryd.prog 8 #[.string s, .slice A n c] w fun e w' => e = .returned (.bool true) ∧ Below w.heap.size w w' := by
  have HL := Lib.hid (fun W => rlist_any s W)
  have hv : listV s = ((toks s).1, 0, 0) := by unfold listV; rw [if_neg (by simpa using he)]
  rw [hv] at HL
  have HSP := Lib.hid (fun (S : ByteArray) h1 h2 => spaced_same (s := s) (S := S) he h1 h2)
  have hs := toks_short6 he
  have htx : ∀ t ∈ (toks s).1, t.text.size ≤ 65536 := fun t ht => Nat.le_trans (stand_texts (stand_toks he) t ht) hs
  have hlen := toks_len s
  have HPS := Lib.hid (fun (W : World) h1 => parse_any s w W hE h1 (toks_len s)); have HXS := Lib.hid (fun (W : World) h1 => pexpr_any s w W hE h1 (toks_len s))
  have HPZ := Lib.hid (fun (S : ByteArray) (W : World) h1 => parse_any S w W hE h1 (toks_len S)); have HXZ := Lib.hid (fun (S : ByteArray) (W : World) h1 => pexpr_any S w W hE h1 (toks_len S))
  clear hv he
  generalize (toks s).1 = l at *
  have HT := Lib.hid htx; have HF := Lib.hid hf; have HA := Lib.hid hA; have HE := Lib.hid hE
  clear htx hf hA hE
  go_enter Tryd.func8, Tryd.ntmps8
  go_wp2_with fail
  refine (lives06_any w HE.out).mono ?_
  rintro e w1 ⟨rfl, hb1⟩
  go_wp2_with fail
  refine (HL.out w1).mono ?_
  rintro e w2 ⟨⟨v, rfl, hO⟩, hb2⟩
  obtain ⟨A2, c2, rfl, _, hC⟩ := Kd.R_reads hO
  have hbw2 := hb1.trans (hb2.mono hb1.size)
  have HC := Lib.hid hC; have HB2 := Lib.hid hbw2
  have HA2 := Lib.hid (HA.out.below hbw2)
  clear hO hb1 hb2 hC hbw2 HL HA
  go_wp2
  go_loopw [9, 10] (fun v9 v10 wr => ∃ (pre rest : List Tk) (a : ByteArray), v9 = .string a ∧ v10 = .int .i64 pre.length ∧ Hid (pre ++ rest = l) ∧ Hid (Spaced a pre) ∧ Hid (a.size ≤ pre.length * 65537 + 12 * sumF f (min pre.length n)) ∧ wr = w2) (fun _ v10 _ => l.length + 1 - (intOf v10).toNat)
  case atStart => exact ⟨[], l, ⟨#[]⟩, rfl, rfl, rfl, Lib.hid spaced_nil, by show (0 : Nat) ≤ _; omega, rfl⟩
  case round =>
    obtain ⟨pre, rest, a, rfl, rfl, HP, HS, HZ, rfl⟩ := hrel
    cases rest with
    | nil =>
      have hP : pre = l := by have := HP.out; rwa [List.append_nil] at this
      have hS : Spaced a l := hP ▸ HS.out
      rw [hP]
      clear HP HS HZ HT HF HA2 HC
      by_cases hbig : 65536 < a.size
      · go_wp2
        go_ret
        exact ⟨rfl, HB2.out⟩
      · have hsm : a.size ≤ 65536 := by omega
        clear hbig
        obtain ⟨P, e1, q1, q2, hv1, hv2⟩ : ∃ P e1 q1 q2, parseV s = (P, (e1, q1)) ∧ parseV a = (P, (e1, q2)) := by
          obtain ⟨⟨h1, h2⟩, -⟩ := HSP.out a hsm hS
          exact ⟨(parseV s).1, (parseV s).2.1, (parseV s).2.2, (parseV a).2.2, rfl, by rw [h1, h2]⟩
        obtain ⟨X, f1, r1, r2, hx1, hx2⟩ : ∃ X f1 r1 r2, exprV s = (X, (f1, r1)) ∧ exprV a = (X, (f1, r2)) := by
          obtain ⟨-, h1, h2⟩ := HSP.out a hsm hS
          exact ⟨(exprV s).1, (exprV s).2.1, (exprV s).2.2, (exprV a).2.2, rfl, by rw [h1, h2]⟩
        have H1 := Lib.hid (fun W h => HPS.out W h); rw [hv1] at H1
        have H2 := Lib.hid (fun W h => HPZ.out a W h); rw [hv2] at H2
        have H3 := Lib.hid (fun W h => HXS.out W h); rw [hx1] at H3
        have H4 := Lib.hid (fun W h => HXZ.out a W h); rw [hx2] at H4
        clear hv1 hv2 hx1 hx2 hS HPS HPZ HXS HXZ HSP hP
        go_wp2_with fail
        refine (H1.out wr HB2.out).mono ?_
        rintro e V1 ⟨⟨v1, rfl, hR1⟩, hb1⟩
        obtain ⟨A1, c1, rfl, -, hC1⟩ := Kd.R_reads hR1
        have ha1 := (Below.refl V1.heap.size V1).alloc (Nat.le_refl _) (poBox P A1 c1)
        have hx1 : (V1.alloc (poBox P A1 c1)).heap[V1.heap.size]? = some (poBox P A1 c1) := new_blk V1 _ _
        have hC1 := Kd.C_below hC1 ha1
        have hB1 := HB2.out.trans ((hb1.trans (ha1.mono hb1.size)).mono HB2.out.size)
        clear hR1 hb1
        go_wp2_with fail
        refine (H2.out _ hB1).mono ?_
        rintro e V2 ⟨⟨v2, rfl, hR2⟩, hb2⟩
        obtain ⟨A2', c2', rfl, -, hC2⟩ := Kd.R_reads hR2
        have ha2 := (Below.refl V2.heap.size V2).alloc (Nat.le_refl _) (poBox P A2' c2')
        have hbb2 := hb2.trans (ha2.mono hb2.size)
        have hsz1 : V1.heap.size < (V1.alloc (poBox P A1 c1)).heap.size := by simp
        have hx1b := (hbb2.block _ hsz1).trans hx1
        have hx2 : (V2.alloc (poBox P A2' c2')).heap[V2.heap.size]? = some (poBox P A2' c2') := new_blk V2 _ _
        have hC1b := Kd.C_below hC1 hbb2
        have hC2b := Kd.C_below hC2 ha2
        have hB2 := hB1.trans (hbb2.mono hB1.size)
        clear hR2 hb2 hx1 hC1 hC2 ha1 ha2 hbb2 hB1
        go_wp2_with fail
        refine (H3.out _ hB2).mono ?_
        rintro e V3 ⟨⟨v3, rfl, hR3⟩, hb3⟩
        obtain ⟨A3, c3, rfl, -, hC3⟩ := Kd.R_reads hR3
        have ha3 := (Below.refl V3.heap.size V3).alloc (Nat.le_refl _) (exBox X A3 c3)
        have hbb3 := hb3.trans (ha3.mono hb3.size)
        have hsz2 : V2.heap.size < (V2.alloc (poBox P A2' c2')).heap.size := by simp
        have hsz1b : V1.heap.size < (V2.alloc (poBox P A2' c2')).heap.size := (Array.getElem?_eq_some_iff.1 hx1b).1
        have hx1c := (hbb3.block _ hsz1b).trans hx1b
        have hx2c := (hbb3.block _ hsz2).trans hx2
        have hx3 : (V3.alloc (exBox X A3 c3)).heap[V3.heap.size]? = some (exBox X A3 c3) := new_blk V3 _ _
        have hC1c := Kd.C_below hC1b hbb3
        have hC2c := Kd.C_below hC2b hbb3
        have hC3c := Kd.C_below hC3 ha3
        have hB3 := hB2.trans (hbb3.mono hB2.size)
        clear hR3 hb3 hx1b hx2 hC1b hC2b hC3 ha3 hbb3 hB2 hsz1 hsz2 hsz1b
        go_wp2_with fail
        refine (H4.out _ hB3).mono ?_
        rintro e V4 ⟨⟨v4, rfl, hR4⟩, hb4⟩
        obtain ⟨A4, c4, rfl, -, hC4⟩ := Kd.R_reads hR4
        have ha4 := (Below.refl V4.heap.size V4).alloc (Nat.le_refl _) (exBox X A4 c4)
        have hbb4 := hb4.trans (ha4.mono hb4.size)
        have hx1d := (hbb4.block _ (Array.getElem?_eq_some_iff.1 hx1c).1).trans hx1c
        have hx2d := (hbb4.block _ (Array.getElem?_eq_some_iff.1 hx2c).1).trans hx2c
        have hx3d := (hbb4.block _ (Array.getElem?_eq_some_iff.1 hx3).1).trans hx3
        have hx4d : (V4.alloc (exBox X A4 c4)).heap[V4.heap.size]? = some (exBox X A4 c4) := new_blk V4 _ _
        have hC1d := Kd.C_below hC1c hbb4
        have hC2d := Kd.C_below hC2c hbb4
        have hC3d := Kd.C_below hC3c hbb4
        have hC4d := Kd.C_below hC4 ha4
        have hB4 := hB3.trans (hbb4.mono hB3.size)
        clear hR4 hb4 hx1c hx2c hx3 hC1c hC2c hC3c hC4 ha4 hbb4 hB3
        obtain ⟨i0, i1, i2, i3, i4, i5⟩ := box6 hx1d
        obtain ⟨j0, j1, j2, j3, j4, j5⟩ := box6 hx2d
        go_wp2_with fail
        refine (samePo_any P A1 c1 A2' c2' _ hC1d hC2d).mono ?_
        rintro e V5 ⟨rfl, hb5⟩
        have hx3e := (hb5.block _ (Array.getElem?_eq_some_iff.1 hx3d).1).trans hx3d
        have hx4e := (hb5.block _ (Array.getElem?_eq_some_iff.1 hx4d).1).trans hx4d
        have hC3e := Kd.C_below hC3d hb5
        have hC4e := Kd.C_below hC4d hb5
        have hB5 := hB4.trans (hb5.mono hB4.size)
        clear i0 i1 i2 i3 i4 i5 j0 j1 j2 j3 j4 j5 hx1d hx2d hx3d hx4d hC1d hC2d hC3d hC4d hb5 hB4
        obtain ⟨i0, i1, i2, i3, i4, i5⟩ := box6 hx3e
        obtain ⟨j0, j1, j2, j3, j4, j5⟩ := box6 hx4e
        go_wp2_with fail
        refine (sameEx_any _ X (Nat.lt_succ_self _) A3 c3 A4 c4 _ hC3e hC4e).mono ?_
        rintro e V6 ⟨rfl, hb6⟩
        have hB6 := Lib.hid (hB5.trans (hb6.mono hB5.size))
        clear i0 i1 i2 i3 i4 i5 j0 j1 j2 j3 j4 j5 hx3e hx4e hC3e hC4e hb6 hB5
        go_wp2
        go_ret
        exact ⟨rfl, hB6.out⟩
    | cons t rest =>
      have hP : pre ++ t :: rest = l := HP.out
      have hget : l.getD pre.length tkz = t := by rw [← hP]; simp
      have htx : t.text.size ≤ 65536 := HT.out t (by rw [← hP]; simp)
      have hlt : pre.length < l.length := by rw [← hP]; simp
      have hS2 := spaced_snoc HS.out t
      have hl2 : (pre ++ [t]).length = pre.length + 1 := by simp
      have hP2 : (pre ++ [t]) ++ rest = l := by rw [← hP]; simp
      have hz := HZ.out
      have hsum := HF.out (min pre.length n) (by omega)
      obtain ⟨m, hm⟩ : ∃ m, m = pre.length := ⟨_, rfl⟩
      rw [← hm] at hget hlt hl2 hz hsum ⊢
      obtain ⟨ad, e', -, x1, -, -⟩ := tk_at HC.out m hlt
      rw [hget] at x1
      obtain ⟨tx, htxe⟩ : ∃ tx, tx = t.text := ⟨_, rfl⟩
      rw [← htxe] at x1 htx hS2
      cases e'
      have hcat : a.size + tx.size + 1 ≤ 9223372036854775807 := by omega
      have hcat1 : a.size + tx.size ≤ 9223372036854775807 := by omega
      have hsz2 : ((a ++ tx) ++ (⟨#[32]⟩ : ByteArray)).size ≤ (m + 1) * 65537 + 12 * sumF f (min m n) := by
        rw [ByteArray.size_append, ByteArray.size_append]
        show a.size + tx.size + 1 ≤ _
        omega
      have HS2 := Lib.hid hS2; have HP2 := Lib.hid hP2; have HL2 := Lib.hid hl2; have HZ2 := Lib.hid hsz2; have HM := Lib.hid hm
      clear hS2 hP2 hl2 hsz2 hget hP htxe HP HS HZ hz hm
      have hml : m < l.length := hlt
      by_cases hmn : m < n
      · obtain ⟨b, off, hA, hc⟩ := HA2.out (by omega)
        have hck := hc m hmn
        have hsm1 := HF.out (m + 1) (by omega)
        have hmn2 : min m n = m := by omega
        rw [hmn2] at HZ2
        obtain ⟨g, hg⟩ : ∃ g, g = f m := ⟨_, rfl⟩
        have hsum1 : sumF f (m + 1) = sumF f m + g.size := by rw [hg]; rfl
        rw [← hg] at hck
        subst hA
        clear hc hg
        have HSM := Lib.hid hsum1; have HS1 := Lib.hid hsm1
        have hgs : g.size ≤ 1048576 := by omega
        have hm8 : m < 9223372036854775807 := by omega
        clear hsum1 hsm1 hsum hmn2
        go_wp2
        go_loopw [9, 11] (fun v9 v11 wi => ∃ (j : Nat) (a' : ByteArray), v9 = .string a' ∧ v11 = .int .i64 j ∧ j ≤ g.size ∧ Hid (Spaced a' (pre ++ [t])) ∧ Hid (a'.size ≤ (m + 1) * 65537 + 12 * (sumF f m + j)) ∧ wi = wr) (fun _ v11 _ => g.size - (intOf v11).toNat)
        case atStart => exact ⟨0, _, rfl, rfl, by omega, HS2, HZ2, rfl⟩
        case round =>
          obtain ⟨j, a', rfl, rfl, hj, HSj, HZj, rfl⟩ := hrel
          by_cases hjlt : j < g.size
          · have hzj := HZj.out
            have hs1 := HS1.out
            have hsm' := HSM.out
            have hj8 : j < 9223372036854775807 := by omega
            clear hzj hs1 hsm'
            have hzw : a'.size ≤ 4400000000 := by have hzj := HZj.out; have hs1 := HS1.out; have hsm' := HSM.out; omega
            have HZW := Lib.hid hzw; clear hzw
            have hwj : wrap64 ((j : Int) + 1) = (j : Int) + 1 := wrap_small6 hj8
            go_wp2
            all_goals clear hwj
            all_goals try (exfalso; have hzw := HZW.out; omega)
            all_goals
              refine ⟨⟨j + 1, _, rfl, by simp, by omega, ?_, ?_, trivial⟩, by simp [intOf]; omega⟩
            · exact Lib.hid (spaced_gap (x := ⟨#[10]⟩) HSj.out (by simp) (sepB_gap 0))
            · exact Lib.hid (by have := HZj.out; rw [ByteArray.size_append]; show a'.size + 1 ≤ _; omega)
            · exact Lib.hid (spaced_gap (x := ⟨#[9, 13]⟩) HSj.out (by simp) (sepB_gap 1))
            · exact Lib.hid (by have := HZj.out; rw [ByteArray.size_append]; show a'.size + 2 ≤ _; omega)
            · exact Lib.hid (spaced_gap (x := ⟨#[35, 32, 97, 114, 99, 104, 32, 59, 32, 111, 110, 10]⟩) HSj.out (by simp) (sepB_gap 2))
            · exact Lib.hid (by have := HZj.out; rw [ByteArray.size_append]; show a'.size + 12 ≤ _; omega)
            · exact HSj
            · exact Lib.hid (by have := HZj.out; omega)
          · have hle2 : g.size ≤ j := by omega
            have hje : j = g.size := by omega
            have hmn3 : min (m + 1) n = m + 1 := by omega
            have HJE := Lib.hid hje; have HMN := Lib.hid hmn3
            clear hjlt hje hmn3
            have hwm : wrap64 ((m : Int) + 1) = (m : Int) + 1 := wrap_small6 hm8
            go_wp2
            refine ⟨⟨pre ++ [t], rest, _, rfl, by rw [HL2.out]; simp, HP2, HSj, Lib.hid (by rw [HL2.out, HMN.out, HSM.out, ← HJE.out]; exact HZj.out), trivial⟩, ?_⟩
            simp [intOf]; omega
      · have hle : n ≤ m := by omega
        have hwm : wrap64 ((m : Int) + 1) = (m : Int) + 1 := wrap_small6 (by omega)
        clear hmn
        go_wp2
        refine ⟨⟨pre ++ [t], rest, _, rfl, by rw [HL2.out]; simp, HP2, HS2, Lib.hid (by rw [HL2.out, show min (m + 1) n = min m n by omega]; exact HZ2.out), trivial⟩, ?_⟩
        simp [intOf]; omega
end Go.Proofs.YtlmopoipjolbgaaDoor.LexW
