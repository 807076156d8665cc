/-
  policy.Print. · The reference's sign, word, Verdict. · Layer 6 (policy): a test of a field. · Layer 6 (policy): what stands within a ( or a not; one, or several as one.
-/
import Derived.Test.YtlmopoipjolbgaaGreatDoorM06
import Derived.Test.YtlmopoipjolbgaaGreatDoorM04
namespace Go.Proofs.YtlmopoipjolbgaaGreatDoor.LexW
open Go.RowKit Go.Shelf Go.Proofs.YtlmopoipjolbgaaGreatDoor.LexS Go.Proofs.YtlmopoipjolbgaaGreatDoorW.PrintWords
set_option linter.unusedVariables false
set_option linter.unusedSimpArgs false

/-- the builder in block b holds these bytes -/
def BldS (b : Nat) (l : List UInt8) (W : World) : Prop := Lib.IsBuilderF 78 5 b b (Lib.byteCells l) W
theorem bldAt_below {T e : TypeId} {B b : Nat} {p : Value} {bs : List Value} {w w' : World} (h : Lib.BuilderAtF T e B b p bs w) (hb : Below w.heap.size w w') : Lib.BuilderAtF T e B b p bs w' := by
  have hl := h.lt
  obtain ⟨hB, v, hk, ho, hn⟩ := h
  exact ⟨hB, v, (hb.block b hl).trans hk, ho.kept (grown_of_below hb none) (by cases v.ownBlock <;> simp), hn⟩
theorem BldS.below {b : Nat} {l : List UInt8} {w w' : World} (h : BldS b l w) (hb : Below w.heap.size w w') : BldS b l w' :=
  h.elim (fun h => .inl (bldAt_below h hb)) (fun h => .inr (bldAt_below h hb))
theorem BldS.lt {b : Nat} {l : List UInt8} {w : World} (h : BldS b l w) : b < w.heap.size := h.elim (fun h => h.lt) (fun h => h.lt)
theorem bld_new (W : World) : BldS W.heap.size [] (W.alloc (.cells #[.pointer none, .slice none 0 0] 78)) := Lib.IsBuilderF.of (Lib.fresh_isBuilder _ _ W)
theorem bwrite_any (b : Nat) (l : List UInt8) (s : ByteArray) (W : World) (h : BldS b l W) (hz : l.length + s.size ≤ 100000000000) :
    Calls Tryz.prog 36 #[.pointer (some ⟨b, 0, none⟩), .string s] W fun e w' => e = .returned (.tuple #[.int .i64 s.size, .nilIface]) ∧ BldS b (l ++ s.data.toList) w' ∧ Below b W w' ∧ Lib.OthersKept 5 (some b) W w' := by
  refine (show Calls Tryz.prog 36 #[.pointer (some ⟨b, 0, none⟩), .string s] W _ from Any.Builder_WriteString_k { Tryz.lays156 with } Tryz.Builder_Extra_156 b b (Lib.byteCells l) s W h (by rw [byteCells_len]; omega) (Nat.le_of_lt h.lt)).mono ?_
  rintro e w' ⟨he, h1, h2, h3⟩
  exact ⟨he, .inr (by rw [byteCells_app]; exact h1), h2, h3⟩
theorem bstring_any (b : Nat) (l : List UInt8) (W : World) (h : BldS b l W) :
    Calls Tryz.prog 40 #[.pointer (some ⟨b, 0, none⟩)] W fun e w' => e = .returned (.string ⟨l.toArray⟩) ∧ Below b W w' :=
  (Tryz.Builder_String_any_k b b l W h (Nat.le_of_lt h.lt)).mono fun e w' ⟨he, _, h2, _⟩ => ⟨he, h2⟩
theorem others_blk {b k : Nat} {w w' : World} {cs : Array Value} {t : TypeId} {fz : Nat × Nat} (h : Lib.OthersKept 5 (some b) w w') (hk : w.heap[k]? = some (.cells cs t fz)) (hb : k ≠ b) (ht : t ≠ 5) : w'.heap[k]? = some (.cells cs t fz) :=
  h k _ hk (fun e => hb (Option.some.inj e)) (fun c f e => by injection e with _ e2; exact ht e2)

theorem ba_empty {s : ByteArray} (h : s.size = 0) : s = nil0 := ba_ext (by rw [ba_size] at h; rw [List.length_eq_zero_iff.1 h]; rfl)
theorem blk_free {W : World} {b : Nat} {cs : Array Value} {t : TypeId} (h : W.heap[b]? = some (.cells cs t (0, 0))) (j : Nat) : W.frozen? ⟨b, j, none⟩ = false := by simp [World.frozen?, h]
theorem own_setCell {w : World} {base n : Nat} {e : TypeId} {size : Nat} {v : Value} {xs : List Value} (h : w.ownsRow base e size v n xs) {b j : Nat} (hb : ∀ k, v.ownBlock = some k → k < b) (x : Value) : (w.setCell ⟨b, j, none⟩ x).ownsRow base e size v n xs := by
  refine h.kept (row := some b) ⟨rfl, rfl, rfl, by simp [World.setCell], fun k _ hk => Below.heap_setCell _ _ _ _ (fun e => hk (by simp [e]))⟩ ?_
  cases hv : v.ownBlock with
  | none => exact .inl rfl
  | some k => exact .inr (by have := hb k hv; simp; omega)
theorem setCell2 {W : World} {b : Nat} {v0 v1 x : Value} {t : TypeId} (h : W.heap[b]? = some (.cells #[v0, v1] t (0, 0))) : (W.setCell ⟨b, 0, none⟩ x).heap[b]? = some (.cells #[x, v1] t (0, 0)) := by
  simp [World.setCell, Array.getElem?_modify, h]
theorem box2' {W : World} {b : Nat} {v0 v1 : Value} {t : TypeId} (h : W.heap[b]? = some (.cells #[v0, v1] t (0, 0))) : W.cell? ⟨b, 0, none⟩ = some v0 ∧ W.cell? ⟨b, 1, none⟩ = some v1 := by
  refine ⟨?_, ?_⟩ <;> simp [World.cell?, h]
set_option maxHeartbeats 8000000 in
set_option maxRecDepth 100000 in
theorem print_any (p : Po) (hp : okP p) (hw : wP p ≤ 100000) (A : Option Addr) (c : Nat) (w : World) (hE : EnvN w) (hC : kRl.C w A p.rules.length p.rules) :
    Calls Tryz.prog 14 #[.agg #[.string p.arch, .int .i64 p.foreign.f0, .int .u64 p.foreign.f1, .int .i64 p.dflt.f0, .int .u64 p.dflt.f1, .slice A p.rules.length c]] w fun e w' => e = .returned (.string (prP p)) ∧ Below w.heap.size w w' := by
  have hb1 : Below w.heap.size w (w.alloc (poBox p A c)) := (Below.refl _ w).alloc (Nat.le_refl _) _
  have hk1 : (w.alloc (poBox p A c)).heap[w.heap.size]? = some (.cells #[.string p.arch, .int .i64 p.foreign.f0, .int .u64 p.foreign.f1, .int .i64 p.dflt.f0, .int .u64 p.dflt.f1, .slice A p.rules.length c] 29 (0, 0)) := new_blk w _ _
  have hs1 : (w.alloc (poBox p A c)).heap.size = w.heap.size + 1 := by simp
  have hbld := bld_new (w.alloc (poBox p A c))
  have hC1 := Kd.C_below hC hb1
  have hE1 := hE.below hb1
  obtain ⟨S, hS⟩ : ∃ S, S = prP p := ⟨_, rfl⟩
  rw [← hS]
  have HS := Lib.hid hS
  have hrl : p.rules.length ≤ 512 := hp.many
  have HP := Lib.hid hp; have HW := Lib.hid hw
  clear hS hp hw hC hE
  go_enter Tryz.func14, Tryz.ntmps14
  go_wp2
  show Code.wp _ _ _ _ ((w.alloc (poBox p A c)).alloc (.cells #[.pointer none, .slice none 0 0] 78))
  have hb3 : Below (w.alloc (poBox p A c)).heap.size (w.alloc (poBox p A c)) ((w.alloc (poBox p A c)).alloc (.cells #[.pointer none, .slice none 0 0] 78)) := (Below.refl _ _).alloc (Nat.le_refl _) _
  rw [hs1] at hbld
  generalize (w.alloc (poBox p A c)).alloc (.cells #[.pointer none, .slice none 0 0] 78) = W3 at *
  generalize w.alloc (poBox p A c) = W2 at *
  have HB1 := Lib.hid hb1; have HK1 := Lib.hid hk1; have HS1 := Lib.hid hs1; have HC1 := Lib.hid hC1; have HE1 := Lib.hid hE1; have HBLD := Lib.hid hbld
  have hk3 := (hb3.block w.heap.size (by omega)).trans hk1
  have hs3 := hbld.lt
  have HB3 := Lib.hid hb3; have HK3 := Lib.hid hk3
  have HE3 := Lib.hid (hE1.below hb3)
  clear hb1 hk1 hs1 hC1 hE1 hbld hb3
  obtain ⟨v0, v1, v2, v3, v4, v5⟩ := box6 hk3
  have HPB := Lib.hid (fun (W : World) (h : W.heap[w.heap.size]? = some (.cells #[.string p.arch, .int .i64 p.foreign.f0, .int .u64 p.foreign.f1, .int .i64 p.dflt.f0, .int .u64 p.dflt.f1, .slice A p.rules.length c] 29 (0, 0))) => (box6 h))
  have HV1 := Lib.hid (pverdict_any p.foreign HP.out.forn W3.drew HE3.out.pow.drew)
  have HV2 := Lib.hid (fun W (hb : Below W3.drew.heap.size W3.drew W) => pverdict_any p.dflt HP.out.dflt W (HE3.out.pow.drew.below hb))
  have HWR := Lib.hid (fun W (h : BldS (w.heap.size + 1) [] W) => (show Calls Tryz.prog 36 #[.pointer (some ⟨w.heap.size + 1, 0, none⟩), .string (((((((⟨#[97, 114, 99, 104, 32]⟩ : ByteArray) ++ p.arch) ++ ⟨#[59, 10, 102, 111, 114, 101, 105, 103, 110, 32]⟩) ++ vdT p.foreign) ++ ⟨#[59, 10, 100, 101, 102, 97, 117, 108, 116, 32]⟩) ++ vdT p.dflt) ++ ⟨#[59, 10]⟩)] W fun e w' => e = .returned (.tuple #[.int .i64 (headT p).size, .nilIface]) ∧ BldS (w.heap.size + 1) ([] ++ (headT p).data.toList) w' ∧ Below (w.heap.size + 1) W w' ∧ Lib.OthersKept 5 (some (w.heap.size + 1)) W w' from bwrite_any (w.heap.size + 1) [] (headT p) W h (by have := headT_size HP.out; show 0 + _ ≤ _; omega)))
  have hz1 := vdT_size HP.out.forn
  have hz2 := vdT_size HP.out.dflt
  have hz3 := word_size HP.out.arch
  rw [← ba_size] at hz3
  have d1 : ¬ 9223372036854775807 < 5 + p.arch.size := by omega
  have d2 : ¬ 9223372036854775807 < 5 + p.arch.size + 10 := by omega
  have d3 : ¬ 9223372036854775807 < 5 + p.arch.size + 10 + (vdT p.foreign).size := by omega
  have d4 : ¬ 9223372036854775807 < 5 + p.arch.size + 10 + (vdT p.foreign).size + 10 := by omega
  have d5 : ¬ 9223372036854775807 < 5 + p.arch.size + 10 + (vdT p.foreign).size + 10 + (vdT p.dflt).size := by omega
  have d6 : ¬ 9223372036854775807 < 5 + p.arch.size + 10 + (vdT p.foreign).size + 10 + (vdT p.dflt).size + 2 := by omega
  have HBL6 := Lib.hid (fun W5 W6 (hb5 : Below W3.drew.heap.size W3.drew W5) (hb6 : Below W5.heap.size W5 W6) => ((show BldS (w.heap.size + 1) [] W3.drew from HBLD.out).below hb5).below hb6)
  clear hz1 hz2 hz3 hk3
  go_region_held3 (fun w' => w'.cell? ⟨w.heap.size, 0, none⟩ = some (.string p.arch) ∧ w'.cell? ⟨w.heap.size, 1, none⟩ = some (.int .i64 p.foreign.f0) ∧ w'.cell? ⟨w.heap.size, 2, none⟩ = some (.int .u64 p.foreign.f1) ∧ w'.cell? ⟨w.heap.size, 3, none⟩ = some (.int .i64 p.dflt.f0) ∧ w'.cell? ⟨w.heap.size, 4, none⟩ = some (.int .u64 p.dflt.f1))
    (first | go_keep | exact ⟨bel_cell hb5 v0, bel_cell hb5 v1, bel_cell hb5 v2, bel_cell hb5 v3, bel_cell hb5 v4⟩ | exact ⟨pw_cell_below hb6 (bel_cell hb5 v0), pw_cell_below hb6 (bel_cell hb5 v1), pw_cell_below hb6 (bel_cell hb5 v2), pw_cell_below hb6 (bel_cell hb5 v3), pw_cell_below hb6 (bel_cell hb5 v4)⟩ | exact ⟨(hb7.cell (p := ⟨w.heap.size, 0, none⟩) (Nat.lt_succ_self _)).trans (pw_cell_below hb6 (bel_cell hb5 v0)), (hb7.cell (p := ⟨w.heap.size, 1, none⟩) (Nat.lt_succ_self _)).trans (pw_cell_below hb6 (bel_cell hb5 v1)), (hb7.cell (p := ⟨w.heap.size, 2, none⟩) (Nat.lt_succ_self _)).trans (pw_cell_below hb6 (bel_cell hb5 v2)), (hb7.cell (p := ⟨w.heap.size, 3, none⟩) (Nat.lt_succ_self _)).trans (pw_cell_below hb6 (bel_cell hb5 v3)), (hb7.cell (p := ⟨w.heap.size, 4, none⟩) (Nat.lt_succ_self _)).trans (pw_cell_below hb6 (bel_cell hb5 v4))⟩)
    (first | (go_at_call 37; first | ((with_reducible refine HV1.out.mono ?_); rintro e W5 ⟨rfl, hb5⟩) | ((with_reducible refine (HV2.out W5 hb5).mono ?_); rintro e W6 ⟨rfl, hb6⟩)) | (go_at_call 36; ((with_reducible refine (HWR.out W6 (HBL6.out W5 W6 hb5 hb6)).mono ?_); rintro e W7 ⟨rfl, hbld7, hb7, hok7⟩)))
  have hb27 : Below (w.heap.size + 1) W2 W7 := by
    have h1 := HB3.out
    have h2 : Below W3.heap.size W3 W6 := ((Below.refl W3.heap.size W3).drew).trans (hb5.trans (hb6.mono hb5.size))
    rw [HS1.out] at h1
    exact h1.trans ((h2.mono (by omega)).trans hb7)
  have HB27 := Lib.hid hb27; have HBL7 := Lib.hid hbld7
  obtain ⟨-, -, -, -, -, w5⟩ := box6 ((hb27.block w.heap.size (Nat.lt_succ_self _)).trans HK1.out)
  clear hb5 hb6 hb7 hok7 hbld7 hb27 v0 v1 v2 v3 v4 v5 d1 d2 d3 d4 d5 d6
  go_wp2
  have HCC := Lib.hid (fun (W : World) (h : Below (w.heap.size + 1) W2 W) => (show kRl.C W A p.rules.length p.rules from Kd.C_below HC1.out (by rw [HS1.out]; exact h)))
  have HEE := Lib.hid (fun (W : World) (h : Below (w.heap.size + 1) W2 W) => HE1.out.below (w1 := W) (by rw [HS1.out]; exact h))
  go_loopw [27] (fun v27 wr => ∃ k : Nat, v27 = .int .i64 k ∧ k ≤ p.rules.length ∧ Hid (Below (w.heap.size + 1) W2 wr) ∧ Hid (BldS (w.heap.size + 1) (outL p k) wr)) (fun v27 _ => p.rules.length - (intOf v27).toNat)
  case atStart => exact ⟨0, rfl, by omega, HB27, Lib.hid (by have := HBL7.out; simpa [outL] using this)⟩
  case round =>
    obtain ⟨k, rfl, hk, HB, HBL⟩ := hrel
    obtain ⟨wo, rfl⟩ : ∃ wo : World, wo = wr := ⟨_, rfl⟩
    have hws := HB.out.size
    rw [HS1.out] at hws
    by_cases hlt : k < p.rules.length
    · have hltb : decide ((k : Int) < (p.rules.length : Int)) = true := by simpa using hlt
      have hwk := wrap_s (m := k) (by omega)
      -- the rule, read in the world that the call began with
      have hB2 : Below W2.heap.size W2 wo := by rw [HS1.out]; exact HB.out
      obtain ⟨a0, A2, c2, B2, d2, e0, p0, p1, p2, p3, p4, p5, p6, p7, p8, pl, pc, pm, pd⟩ := at_Rl (HCC.out W2 (Below.refl _ _)) (k : Int) (by omega) (by omega)
      rw [Int.toNat_natCast] at p0 p1 p2 p3 p4 p5 p6 p7 p8
      have hmem := rdRl_mem hlt
      have hsucc := outL_succ p k hlt
      have hok := HP.out.rules _ hmem
      have hwR : wR (rd_Rl p.rules (k : Int)) ≤ 100000 := Nat.le_trans (wR_mem hmem) (by have := HW.out; unfold wP at this; exact this)
      generalize rd_Rl p.rules (k : Int) = r at *
      have HSUCC := Lib.hid hsucc; have HOK := Lib.hid hok; have HWR2 := Lib.hid hwR
      have hcl : r.f0.length ≤ 100000 := by unfold wR at hwR; omega
      have p0 := pw_cell_below hB2 p0; have p1 := pw_cell_below hB2 p1; have p2 := pw_cell_below hB2 p2; have p3 := pw_cell_below hB2 p3; have p4 := pw_cell_below hB2 p4; have p5 := pw_cell_below hB2 p5; have p6 := pw_cell_below hB2 p6; have p7 := pw_cell_below hB2 p7; have p8 := pw_cell_below hB2 p8
      have HCL := Lib.hid (fun (W : World) (h : Below (w.heap.size + 1) W2 W) => (show kCl.C W A2 r.f0.length r.f0 from Kd.C_below pc (by rw [HS1.out]; exact h)))
      have HEX := Lib.hid (fun (W : World) (h : Below (w.heap.size + 1) W2 W) => (show kEx.C W B2 r.f1.f1.length r.f1.f1 from Kd.C_below pd (by rw [HS1.out]; exact h)))
      have hal4 : Below wo.heap.size wo (wo.alloc (rlBox r A2 c2 B2 d2)) := (Below.refl _ _).alloc (Nat.le_refl _) _
      have hxb4 : (wo.alloc (rlBox r A2 c2 B2 d2)).heap[wo.heap.size]? = some (.cells #[.slice A2 r.f0.length c2, .int .i64 r.f1.f0, .slice B2 r.f1.f1.length d2, .int .i64 r.f1.f2, .int .u64 r.f1.f3, .int .i64 r.f1.f4, .int .u64 r.f1.f5, .int .i64 r.f2.f0, .int .u64 r.f2.f1] 70 (0, 0)) := new_blk wo _ _
      have hs4 : (wo.alloc (rlBox r A2 c2 B2 d2)).heap.size = wo.heap.size + 1 := by simp
      obtain ⟨q0, q1, q2, q3, q4, q5, q6, q7, q8⟩ := box9 hxb4
      have HAL4 := Lib.hid hal4; have HXB4 := Lib.hid hxb4; have HS4 := Lib.hid hs4
      have w5' := box6 ((hB2.block w.heap.size (by have := HS1.out; omega)).trans HK1.out)
      obtain ⟨-, -, -, -, -, w5'⟩ := w5'
      subst e0
      clear hsucc hok hwR pc pd pl pm hal4 hxb4 hs4 hmem hB2
      go_wp2
      show Code.wp _ _ _ _ (wo.alloc (rlBox r A2 c2 B2 d2))
      generalize wo.alloc (rlBox r A2 c2 B2 d2) = W4 at *
      clear p0 p1 p2 p3 p4 p5 p6 p7 p8 q0 q1 q2 q3 q4 q5 q6 q7 q8
      have HB4 := Lib.hid (show Below (w.heap.size + 1) W2 W4 from HB.out.trans (HAL4.out.mono (by omega)))
      go_loopw [6, 34] (fun v6 v34 wr => ∃ (j : Nat) (l : List ByteArray), v34 = .int .i64 j ∧ j ≤ r.f0.length ∧ Hid (l = (r.f0.map callT).take j) ∧ Hid (wr.ownsRow (wo.heap.size + 1) 9 1 v6 (pw_strs l).length (pw_strs l)) ∧ Hid (Below (wo.heap.size + 1) W4 wr)) (fun _ v34 _ => r.f0.length - (intOf v34).toNat)
      case atStart => exact ⟨0, [], rfl, by omega, Lib.hid (by simp), Lib.hid (own_nil _ _ _ _), Lib.hid (Below.refl _ _)⟩
      case round =>
        obtain ⟨j, l, rfl, hj, HL, HO, HI⟩ := hrel
        have hwi := HI.out.size
        rw [HS4.out] at hwi
        have HBi := Lib.hid (show Below (w.heap.size + 1) W2 wr from HB4.out.trans (HI.out.mono (by omega)))
        by_cases hjl : j < r.f0.length
        · have hjlb : decide ((j : Int) < (r.f0.length : Int)) = true := by simpa using hjl
          have hwj := wrap_s (m := j) (by omega)
          obtain ⟨a1, e1, i0, i1⟩ := at_Cl (HCL.out wr HBi.out) (j : Int) (by omega) (by omega)
          rw [Int.toNat_natCast] at i0 i1
          have hcmem : rd_Cl r.f0 (j : Int) ∈ r.f0 := by
            unfold rd_Cl
            rw [Int.toNat_natCast, List.getD_eq_getElem?_getD, List.getElem?_eq_getElem hjl]
            exact List.getElem_mem hjl
          have htk : (r.f0.map callT).take (j + 1) = (r.f0.map callT).take j ++ [callT (rd_Cl r.f0 (j : Int))] := by
            have hr : rd_Cl r.f0 (j : Int) = r.f0[j] := by
              unfold rd_Cl
              rw [Int.toNat_natCast, List.getD_eq_getElem?_getD, List.getElem?_eq_getElem hjl]
              rfl
            rw [hr, List.take_succ_eq_append_getElem (by simpa using hjl), List.getElem_map]
          have hokc := HOK.out.calls _ hcmem
          obtain ⟨y, hy⟩ : ∃ y, y = rd_Cl r.f0 (j : Int) := ⟨_, rfl⟩
          rw [← hy] at i0 i1 htk hokc
          clear hy hcmem
          obtain ⟨ct, cn⟩ := y
          dsimp only at i0 i1
          have hal5 : Below wr.heap.size wr (wr.alloc (.cells #[.string ct, .int .u64 cn] 74)) := (Below.refl _ _).alloc (Nat.le_refl _) _
          have hk5 : (wr.alloc (.cells #[.string ct, .int .u64 cn] 74)).heap[wr.heap.size]? = some (.cells #[.string ct, .int .u64 cn] 74 (0, 0)) := new_blk wr _ _
          obtain ⟨z0, z1⟩ := box2' hk5
          have HTK := Lib.hid htk; have HAL5 := Lib.hid hal5; have HK5 := Lib.hid hk5
          clear htk hal5 hk5
          by_cases hct : ct = nil0
          · have hnum : U64 cn := by
              rcases hokc with ⟨_, h⟩ | ⟨h, h2⟩
              · exact h
              · exfalso; simp only at h2; rw [hct] at h2; exact absurd h2 (by decide)
            have HF := Lib.hid (fmt10_any cn hnum.1 hnum.2 _ ((HEE.out wr HBi.out).below HAL5.out).pow)
            have HCT := Lib.hid (show callT ⟨ct, cn⟩ = numB cn by unfold callT; rw [if_pos hct])
            have g2 : ct.toList = [] := empty_yes (by rw [hct]; rfl)
            clear hct hokc hnum
            subst e1
            go_wp2_with fail
            refine HF.out.mono ?_
            rintro e W5 ⟨rfl, hb5⟩
            have hkc := (hb5.block wr.heap.size (by simp)).trans HK5.out
            obtain ⟨u0, u1⟩ := box2' hkc
            have uf := blk_free hkc 0
            have hks := setCell2 (x := .string (numB cn)) hkc
            obtain ⟨s0, s1⟩ := box2' hks
            have hbw5 := HAL5.out.trans (hb5.mono HAL5.out.size)
            have hown5 := own_setCell (pw_own_below HO.out hbw5) (b := wr.heap.size) (j := 0) (own_lt HO.out) (.string (numB cn))
            have HO5 := Lib.hid hown5
            have HI5 := Lib.hid (show Below (wo.heap.size + 1) W4 (W5.setCell ⟨wr.heap.size, 0, none⟩ (.string (numB cn))) from (HI.out.trans (hbw5.mono (by omega))).setCell (by show _ ≤ wr.heap.size; omega) _)
            have hs5 : wo.heap.size + 1 ≤ (W5.setCell ⟨wr.heap.size, 0, none⟩ (.string (numB cn))).heap.size := by have := hbw5.size; simp [World.setCell]; omega
            have hpl : (pw_strs l).length ≤ 100000 := by rw [pw_strs_len, HL.out, List.length_take, List.length_map]; omega
            clear hkc hks hown5 hb5 hbw5 i0 i1 z0 z1
            go_wp2_with (at_builtin; refine print_append (w0 := W5.setCell ⟨wr.heap.size, 0, none⟩ (.string (numB cn))) (W := W5.setCell ⟨wr.heap.size, 0, none⟩ (.string (numB cn))) (wo.heap.size + 1) rfl (.tmp 45) (.tmp 48) 84 9 (.string ⟨#[]⟩) 16 rfl Tryz.underlying84 infoStr rfl (by decide) u6 (pw_strs l) (.string (numB cn)) rfl (by go_simp) rfl HO5.out (Below.refl _ _) hs5 (by omega) ?_; intro v7 w7 hO7 hb7 hg7 hat7)
            have HO7 := Lib.hid hO7
            clear hO7 hat7
            go_roundw
            case rel => exact ⟨j + 1, l ++ [numB cn], by simp, by omega, Lib.hid (by rw [HTK.out, HCT.out, HL.out]), Lib.hid (by rw [pw_strs_snoc]; exact HO7.out), Lib.hid (HI5.out.trans hb7)⟩
            case measure => simp [intOf]; omega
          · have HCT := Lib.hid (show callT ⟨ct, cn⟩ = ct by unfold callT; rw [if_neg hct])
            have g2 : ct.toList.isEmpty = false := empty_no (by rcases Nat.eq_zero_or_pos ct.size with h | h; exact absurd (ba_empty h) hct; exact h)
            clear hct hokc
            subst e1
            have HO5 := Lib.hid (pw_own_below HO.out HAL5.out)
            have hs5 : wo.heap.size + 1 ≤ (wr.alloc (.cells #[.string ct, .int .u64 cn] 74)).heap.size := by simp; omega
            have HI5 := Lib.hid (HI.out.trans (HAL5.out.mono (by omega)))
            have hpl : (pw_strs l).length ≤ 100000 := by rw [pw_strs_len, HL.out, List.length_take, List.length_map]; omega
            go_wp2_with (at_builtin; refine print_append (w0 := wr.alloc (.cells #[.string ct, .int .u64 cn] 74)) (W := wr.alloc (.cells #[.string ct, .int .u64 cn] 74)) (wo.heap.size + 1) rfl (.tmp 45) (.tmp 48) 84 9 (.string ⟨#[]⟩) 16 rfl Tryz.underlying84 infoStr rfl (by decide) u6 (pw_strs l) (.string ct) rfl (by go_simp) rfl HO5.out (Below.refl _ _) hs5 (by omega) ?_; intro v7 w7 hO7 hb7 hg7 hat7)
            have HO7 := Lib.hid hO7
            clear hO7 hat7
            go_roundw
            case rel => exact ⟨j + 1, l ++ [ct], by simp, by omega, Lib.hid (by rw [HTK.out, HCT.out, HL.out]), Lib.hid (by rw [pw_strs_snoc]; exact HO7.out), Lib.hid (HI5.out.trans hb7)⟩
            case measure => simp [intOf]; omega
        · have hjlb : decide ((j : Int) < (r.f0.length : Int)) = false := by simpa using hjl
          have hle : r.f0.length ≤ j := by omega
          have hll : l = r.f0.map callT := by rw [HL.out, List.take_of_length_le (by rw [List.length_map]; exact hle)]
          have hrpos : 0 < r.f0.length := List.length_pos_iff.2 HOK.out.ne
          have hpos : 0 < l.length := by rw [hll, List.length_map]; exact hrpos
          obtain ⟨g, cap, hv6, hcap, hg, hcl2⟩ := own_strs HO.out hpos
          have hjz := join_calls HOK.out
          rw [← hll] at hjz
          have hjz2 : (joinT sCommaS l).size ≤ 10000000 := by omega
          have HJ := Lib.hid (join_any g cap l sCommaS wr hcl2 hg hcap (by rw [hll, List.length_map]; omega) (by omega))
          have HBLr := Lib.hid (((HBL.out.below HAL4.out).below (show Below W4.heap.size W4 wr by rw [HS4.out]; exact HI.out)))
          have HXr := Lib.hid ((HI.out.block wo.heap.size (by omega)).trans HXB4.out)
          have HLL := Lib.hid hll
          have HO3 := Lib.hid (outL_len HP.out HW.out k)
          subst hv6
          have d1 : ¬ 9223372036854775807 < 3 + (joinT sCommaS l).size := by omega
          clear hjl hll hrpos hpos hcap hg hcl2 hjz HL HO
          go_wp2_with fail
          refine HJ.out.mono ?_
          rintro e W5 ⟨rfl, hb5⟩
          have HW1 := Lib.hid (show Calls Tryz.prog 36 #[.pointer (some ⟨w.heap.size + 1, 0, none⟩), .string ((⟨#[111, 110, 32]⟩ : ByteArray) ++ joinT sCommaS l)] W5 fun e w' => e = .returned (.tuple #[.int .i64 ((⟨#[111, 110, 32]⟩ : ByteArray) ++ joinT sCommaS l).size, .nilIface]) ∧ BldS (w.heap.size + 1) (outL p k ++ (sOnS ++ joinT sCommaS l).data.toList) w' ∧ Below (w.heap.size + 1) W5 w' ∧ Lib.OthersKept 5 (some (w.heap.size + 1)) W5 w' from bwrite_any (w.heap.size + 1) _ (sOnS ++ joinT sCommaS l) W5 (HBLr.out.below hb5) (by have := HO3.out; simp only [ByteArray.size_append]; have : sOnS.size = 3 := rfl; omega))
          have HB5 := Lib.hid (HBi.out.trans (hb5.mono (by have := HBi.out.size; have := HS1.out; omega)))
          have HX5 := Lib.hid ((hb5.block wo.heap.size (by have := hwi; omega)).trans HXr.out)
          clear hb5
          go_wp2_with fail
          refine HW1.out.mono ?_
          rintro e W6 ⟨rfl, hbl6, hb6, hok6⟩
          have hx6 := others_blk hok6 HX5.out (by have := HBL.out.lt; omega) (by decide)
          have HX6 := Lib.hid hx6; have HL6 := Lib.hid hbl6; have HB6 := Lib.hid (HB5.out.trans hb6)
          have HZ6 := Lib.hid (show (outL p k ++ (sOnS ++ joinT sCommaS l).data.toList).length ≤ 50000000 by rw [List.length_append, ← ba_size, ByteArray.size_append]; have := HO3.out; have : sOnS.size = 3 := rfl; omega)
          obtain ⟨-, x1, x2, x3, x4, x5, x6, -, -⟩ := box9 hx6
          clear hbl6 hb6 hok6 hx6 hjz2
          by_cases hw1 : r.f1.f0 = 1
          · have bw : (r.f1.f0 != 1) = false := by simpa using hw1
            have HFIN := Lib.hid (show (outL p k ++ (sOnS ++ joinT sCommaS l).data.toList) ++ ((sDoS ++ vdT r.f2) ++ sSemiN).data.toList = outL p (k + 1) by
              rw [HSUCC.out, HLL.out]; unfold ruleT whenT; rw [if_pos hw1, ba_app (_ ++ nil0), ba_app _ nil0, List.append_assoc, List.append_assoc]; rfl)
            have HXV := HX6; have HBV := HB6; have HLV := HL6; have HLZ := HZ6
            clear hw1
            have hxV := HXV.out
            obtain ⟨-, -, -, -, -, -, -, x7, x8⟩ := box9 hxV
            have HVD := Lib.hid (pverdict_any r.f2 HOK.out.verd W6 (HEE.out W6 HBV.out).pow)
            have hvz := vdT_size HOK.out.verd
            have e1 : ¬ 9223372036854775807 < 4 + (vdT r.f2).size := by omega
            have e2 : ¬ 9223372036854775807 < 4 + (vdT r.f2).size + 2 := by omega
            clear hxV hvz
            go_wp2_with fail
            refine HVD.out.mono ?_
            rintro e V9 ⟨rfl, hb9⟩
            have HW3 := Lib.hid (show Calls Tryz.prog 36 #[.pointer (some ⟨w.heap.size + 1, 0, none⟩), .string (((⟨#[32, 100, 111, 32]⟩ : ByteArray) ++ vdT r.f2) ++ ⟨#[59, 10]⟩)] V9 fun e w' => e = .returned (.tuple #[.int .i64 (((⟨#[32, 100, 111, 32]⟩ : ByteArray) ++ vdT r.f2) ++ ⟨#[59, 10]⟩).size, .nilIface]) ∧ BldS (w.heap.size + 1) ((outL p k ++ (sOnS ++ joinT sCommaS l).data.toList) ++ ((sDoS ++ vdT r.f2) ++ sSemiN).data.toList) w' ∧ Below (w.heap.size + 1) V9 w' ∧ Lib.OthersKept 5 (some (w.heap.size + 1)) V9 w' from bwrite_any (w.heap.size + 1) _ ((sDoS ++ vdT r.f2) ++ sSemiN) V9 (HLV.out.below hb9) (by have := HLZ.out; have := vdT_size HOK.out.verd; simp only [ByteArray.size_append]; have : sDoS.size = 4 := rfl; have : sSemiN.size = 2 := rfl; omega))
            have HBV9 := Lib.hid (HBV.out.trans (hb9.mono (by have := HBV.out.size; have := HS1.out; omega)))
            clear hb9 x7 x8
            go_wp2_with fail
            refine HW3.out.mono ?_
            rintro e V10 ⟨rfl, hbl10, hb10, -⟩
            have HBL10 := Lib.hid hbl10
            have HB10 := Lib.hid (HBV9.out.trans hb10)
            clear hbl10 hb10
            go_wp2
            go_roundw
            case rel => exact ⟨k + 1, by simp, by omega, HB10, Lib.hid (by have := HBL10.out; rw [HFIN.out] at this; exact this)⟩
            case measure => simp [intOf]; omega
          · have bw : (r.f1.f0 != 1) = true := by simpa using hw1
            have hwe : wE r.f1 ≤ 100000 := by have := HWR2.out; unfold wR at this; omega
            have hpz := prE_size r.f1 HOK.out.cond
            have hpz2 : (prE r.f1).size ≤ 6400000 := by omega
            have HPE := Lib.hid (pe_any _ r.f1 (Nat.lt_succ_self _) HOK.out.cond hwe B2 d2 W6 (HEE.out W6 HB6.out) (HEX.out W6 HB6.out))
            have HFIN := Lib.hid (show ((outL p k ++ (sOnS ++ joinT sCommaS l).data.toList) ++ (sWhenS ++ prE r.f1).data.toList) ++ ((sDoS ++ vdT r.f2) ++ sSemiN).data.toList = outL p (k + 1) by
              rw [HSUCC.out, HLL.out]; unfold ruleT whenT; rw [if_neg hw1, ba_app (_ ++ (sWhenS ++ _)), ba_app _ (sWhenS ++ _), List.append_assoc, List.append_assoc, List.append_assoc])
            have d3 : ¬ 9223372036854775807 < 6 + (prE r.f1).size := by omega
            clear hw1 hwe hpz
            go_wp2_with fail
            refine HPE.out.mono ?_
            rintro e W7 ⟨rfl, hb7⟩
            have HW2 := Lib.hid (show Calls Tryz.prog 36 #[.pointer (some ⟨w.heap.size + 1, 0, none⟩), .string ((⟨#[32, 119, 104, 101, 110, 32]⟩ : ByteArray) ++ prE r.f1)] W7 fun e w' => e = .returned (.tuple #[.int .i64 ((⟨#[32, 119, 104, 101, 110, 32]⟩ : ByteArray) ++ prE r.f1).size, .nilIface]) ∧ BldS (w.heap.size + 1) ((outL p k ++ (sOnS ++ joinT sCommaS l).data.toList) ++ (sWhenS ++ prE r.f1).data.toList) w' ∧ Below (w.heap.size + 1) W7 w' ∧ Lib.OthersKept 5 (some (w.heap.size + 1)) W7 w' from bwrite_any (w.heap.size + 1) _ (sWhenS ++ prE r.f1) W7 (HL6.out.below hb7) (by have := HZ6.out; simp only [ByteArray.size_append]; have : sWhenS.size = 6 := rfl; omega))
            have HB7 := Lib.hid (HB6.out.trans (hb7.mono (by have := HB6.out.size; have := HS1.out; omega)))
            have HX7 := Lib.hid ((hb7.block wo.heap.size (box_lt HX6.out)).trans HX6.out)
            clear hb7 x1 x2 x3 x4 x5 x6
            go_wp2_with fail
            refine HW2.out.mono ?_
            rintro e W8 ⟨rfl, hbl8, hb8, hok8⟩
            have hx8 := others_blk hok8 HX7.out (by have := HBL.out.lt; omega) (by decide)
            have HXV := Lib.hid hx8; have HLV := Lib.hid hbl8; have HBV := Lib.hid (HB7.out.trans hb8)
            have HLZ := Lib.hid (show ((outL p k ++ (sOnS ++ joinT sCommaS l).data.toList) ++ (sWhenS ++ prE r.f1).data.toList).length ≤ 90000000 by rw [List.length_append, ← ba_size (sWhenS ++ _), ByteArray.size_append]; have := HZ6.out; have : sWhenS.size = 6 := rfl; omega)
            clear hbl8 hb8 hok8 hx8 hpz2
            have hxV := HXV.out
            obtain ⟨-, -, -, -, -, -, -, x7, x8⟩ := box9 hxV
            have HVD := Lib.hid (pverdict_any r.f2 HOK.out.verd W8 (HEE.out W8 HBV.out).pow)
            have hvz := vdT_size HOK.out.verd
            have e1 : ¬ 9223372036854775807 < 4 + (vdT r.f2).size := by omega
            have e2 : ¬ 9223372036854775807 < 4 + (vdT r.f2).size + 2 := by omega
            clear hxV hvz
            go_wp2_with fail
            refine HVD.out.mono ?_
            rintro e V9 ⟨rfl, hb9⟩
            have HW3 := Lib.hid (show Calls Tryz.prog 36 #[.pointer (some ⟨w.heap.size + 1, 0, none⟩), .string (((⟨#[32, 100, 111, 32]⟩ : ByteArray) ++ vdT r.f2) ++ ⟨#[59, 10]⟩)] V9 fun e w' => e = .returned (.tuple #[.int .i64 (((⟨#[32, 100, 111, 32]⟩ : ByteArray) ++ vdT r.f2) ++ ⟨#[59, 10]⟩).size, .nilIface]) ∧ BldS (w.heap.size + 1) (((outL p k ++ (sOnS ++ joinT sCommaS l).data.toList) ++ (sWhenS ++ prE r.f1).data.toList) ++ ((sDoS ++ vdT r.f2) ++ sSemiN).data.toList) w' ∧ Below (w.heap.size + 1) V9 w' ∧ Lib.OthersKept 5 (some (w.heap.size + 1)) V9 w' from bwrite_any (w.heap.size + 1) _ ((sDoS ++ vdT r.f2) ++ sSemiN) V9 (HLV.out.below hb9) (by have := HLZ.out; have := vdT_size HOK.out.verd; simp only [ByteArray.size_append]; have : sDoS.size = 4 := rfl; have : sSemiN.size = 2 := rfl; omega))
            have HBV9 := Lib.hid (HBV.out.trans (hb9.mono (by have := HBV.out.size; have := HS1.out; omega)))
            clear hb9 x7 x8
            go_wp2_with fail
            refine HW3.out.mono ?_
            rintro e V10 ⟨rfl, hbl10, hb10, -⟩
            have HBL10 := Lib.hid hbl10
            have HB10 := Lib.hid (HBV9.out.trans hb10)
            clear hbl10 hb10
            go_wp2
            go_roundw
            case rel => exact ⟨k + 1, by simp, by omega, HB10, Lib.hid (by have := HBL10.out; rw [HFIN.out] at this; exact this)⟩
            case measure => simp [intOf]; omega
    · have hltb : decide ((k : Int) < (p.rules.length : Int)) = false := by simpa using hlt
      have hle : p.rules.length ≤ k := by omega
      have hke : k = p.rules.length := by omega
      have HBS := Lib.hid (bstring_any _ _ _ HBL.out)
      have HF := Lib.hid (show S = ⟨(outL p k).toArray⟩ by rw [HS.out, hke]; rfl)
      have hBw := HB1.out.trans (HB.out.mono (by omega))
      have HBW := Lib.hid hBw
      clear hlt hltb hke hBw
      go_wp2_with fail
      refine HBS.out.mono ?_
      rintro e W9 ⟨rfl, hb9⟩
      go_wp2
      go_ret
      exact ⟨by rw [HF.out]; rfl, HBW.out.trans (hb9.mono (by omega))⟩
end Go.Proofs.YtlmopoipjolbgaaGreatDoor.LexW
namespace Go.Proofs.YtlmopoipjolbgaaGreatDoor.LexW
open Go.RowKit Go.Shelf Go.Proofs.YtlmopoipjolbgaaGreatDoor.LexS Go.Proofs.YtlmopoipjolbgaaGreatDoorW.PrintWords
set_option linter.unusedVariables false
set_option linter.unusedSimpArgs false

set_option maxRecDepth 100000 in
theorem sign_at (n : Nat) (hn : n < 6) (w : World) :
    Calls Tryz.prog 48 #[.int .i64 ((n : Int) + 1)] w fun e w' => e = .returned (.string (relsT.getD n nil0)) ∧ w = w' := by
  match n, hn with
  | 0, _ | 1, _ | 2, _ | 3, _ | 4, _ | 5, _ =>
    simp only [Int.ofNat_zero, Int.cast_ofNat_Int]
    go_enter Tryz.func48, Tryz.ntmps48
    go_wp2
    go_ret
    exact ⟨rfl, rfl⟩
theorem sign_rany (r : Int) (h : 1 ≤ r ∧ r ≤ 6) (w : World) :
    Calls Tryz.prog 48 #[.int .i64 r] w fun e w' => e = .returned (.string (amongT relsT (r - 1))) ∧ w = w' := by
  obtain ⟨n, hn⟩ : ∃ n : Nat, r = (n : Int) + 1 := ⟨(r - 1).toNat, by omega⟩
  have hn6 : n < 6 := by omega
  rw [among_eq _ _ (by omega) (by show r - 1 < 6; omega), show (r - 1).toNat = n by omega, hn]
  exact sign_at n hn6 w
set_option maxRecDepth 100000 in
theorem word_at (n : Nat) (hn : n < 8) (w : World) :
    Calls Tryz.prog 76 #[.int .i64 ((n : Int) + 1)] w fun e w' => e = .returned (.string (wordsT.getD n (nil0, 0, false)).1) ∧ w = w' := by
  match n, hn with
  | 0, _ | 1, _ | 2, _ | 3, _ | 4, _ | 5, _ | 6, _ | 7, _ =>
    simp only [Int.ofNat_zero, Int.cast_ofNat_Int]
    go_enter Tryz.func76, Tryz.ntmps76
    go_wp2
    go_ret
    exact ⟨rfl, rfl⟩
theorem words_num : ∀ n, n < 8 → ((wordsT.getD n (nil0, 0, false)).2.2 = true ↔ ((n : Int) + 1 = 3 ∨ (n : Int) + 1 = 4 ∨ (n : Int) + 1 = 6)) := by decide

theorem box2 {W : World} {b : Nat} {v0 v1 : Value} {t : TypeId} (h : W.heap[b]? = some (.cells #[v0, v1] t (0, 0))) : W.cell? ⟨b, 0, none⟩ = some v0 ∧ W.cell? ⟨b, 1, none⟩ = some v1 := by
  refine ⟨?_, ?_⟩ <;> simp [World.cell?, h]
set_option maxHeartbeats 2000000 in
set_option maxRecDepth 100000 in
theorem rverdict_any (v : Vd) (hv : okV v) (w : World) (hP : PowT w) :
    Calls Tryz.prog 41 #[.agg #[.int .i64 v.f0, .int .u64 v.f1]] w fun e w' => e = .returned (.string (vdT v)) ∧ Below w.heap.size w w' := by
  obtain ⟨hv1, hv8, hu, hz⟩ := hv
  obtain ⟨n, hn⟩ : ∃ n : Nat, v.f0 = (n : Int) + 1 := ⟨v.f0.toNat - 1, by omega⟩
  have hn8 : n < 8 := by omega
  have hvd : vdW v = wordsT.getD n (nil0, 0, false) := by unfold vdW; rw [hn]; congr 1
  have hal : Below w.heap.size w (w.alloc (vdBox v)) := (Below.refl _ w).alloc (Nat.le_refl _) _
  have hvb : (w.alloc (vdBox v)).heap[w.heap.size]? = some (.cells #[.int .i64 v.f0, .int .u64 v.f1] 26 (0, 0)) := new_blk w _ _
  obtain ⟨z0, z1⟩ : (w.alloc (vdBox v)).cell? ⟨w.heap.size, 0, none⟩ = some (.int .i64 v.f0) ∧ (w.alloc (vdBox v)).cell? ⟨w.heap.size, 1, none⟩ = some (.int .u64 v.f1) := box2 hvb
  have hnum := words_num n hn8
  have hws := words_size n hn8
  have hnz := numB_size v.f1 hu
  have HW := Lib.hid (fun W => (show Calls Tryz.prog 76 #[.int .i64 v.f0] W fun e w' => e = .returned (.string (vdW v).1) ∧ W = w' by rw [hn, hvd]; exact word_at n hn8 W))
  have HF := Lib.hid (fun W (h : PowT W) => fmt10_any v.f1 hu.1 hu.2 W h)
  have HAL := Lib.hid hal; have HP := Lib.hid (hP.below hal)
  obtain ⟨S, hS⟩ : ∃ S, S = vdT v := ⟨_, rfl⟩
  rw [← hS]
  rw [← hvd] at hws hnum
  rw [← hn] at hnum
  obtain ⟨T, hT⟩ : ∃ T, T = (vdW v).1 := ⟨_, rfl⟩
  rw [← hT] at HW hws
  have hres : S = if (vdW v).2.2 = true then (T ++ sSp) ++ numB v.f1 else T := by rw [hS, hT]; rfl
  clear hS hT hvd hz hvb hal hP
  have d1 : ¬ 9223372036854775807 < T.size + 1 := by omega
  have d2 : ¬ 9223372036854775807 < T.size + 1 + (numB v.f1).size := by omega
  by_cases o : v.f0 = 3 ∨ v.f0 = 4 ∨ v.f0 = 6
  · have HT := Lib.hid (show S = (T ++ sSp) ++ numB v.f1 by rw [hres, if_pos (hnum.2 o)])
    clear hres hnum hn
    have hb : (v.f0 == 3) = true ∨ ((v.f0 == 3) = false ∧ (v.f0 == 4) = true) ∨ ((v.f0 == 3) = false ∧ (v.f0 == 4) = false ∧ (v.f0 == 6) = true) := by
      rcases o with h | h | h <;> simp [h]
    clear o hv1 hv8 hu
    rcases hb with b3 | ⟨b3, b4⟩ | ⟨b3, b4, b6⟩
    all_goals
      go_enter Tryz.func41, Tryz.ntmps41
      go_wp2
      go_region_held3 (fun w' => w'.cell? ⟨w.heap.size, 0, none⟩ = some (.int .i64 v.f0) ∧ w'.cell? ⟨w.heap.size, 1, none⟩ = some (.int .u64 v.f1))
        (first | go_keep | exact ⟨bel_cell hb5 z0, bel_cell hb5 z1⟩)
        (first | (go_at_call 76; ((with_reducible refine (HW.out _).mono ?_); rintro e W4 ⟨rfl, rfl⟩)) | (go_at_call 38; ((with_reducible refine (HF.out (w.alloc (vdBox v)).drew HP.out.drew).mono ?_); rintro e W5 ⟨rfl, hb5⟩)))
      go_wp2
      go_ret
      exact ⟨by rw [HT.out]; rfl, HAL.out.trans ((((Below.refl _ (w.alloc (vdBox v))).drew).trans hb5).mono HAL.out.size)⟩
  · have HT := Lib.hid (show S = T by rw [hres, if_neg (fun h => o (hnum.1 h))])
    have b3 : (v.f0 == 3) = false := by simp; omega
    have b4 : (v.f0 == 4) = false := by simp; omega
    have b6 : (v.f0 == 6) = false := by simp; omega
    clear hres hnum hn o hv1 hv8 hu
    go_enter Tryz.func41, Tryz.ntmps41
    go_wp2_with fail
    refine (HW.out _).mono ?_
    rintro e W4 ⟨rfl, rfl⟩
    go_wp2
    go_ret
    exact ⟨by rw [HT.out]; rfl, HAL.out⟩
end Go.Proofs.YtlmopoipjolbgaaGreatDoor.LexW
namespace Go.Proofs.YtlmopoipjolbgaaGreatDoor.LexW
open Go.RowKit Go.Shelf Go.Proofs.YtlmopoipjolbgaaGreatDoor.LexS Go.Proofs.YtlmopoipjolbgaaGreatDoorW.PrintWords
set_option linter.unusedVariables false
set_option linter.unusedSimpArgs false
attribute [local go_sem] fld_num fld_text

abbrev exAgg (x : Ex) (v : Value) : Value := .agg #[.int .i64 x.f0, v, .int .i64 x.f2, .int .u64 x.f3, .int .i64 x.f4, .int .u64 x.f5]
abbrev exZero : Obj := .cells #[.int .i64 0, .slice none 0 0, .int .i64 0, .int .u64 0, .int .i64 0, .int .u64 0] 37
/-- the expression's row of arguments, made from a block on -/
def ExRow (W : World) (base : Nat) (v : Value) (l : List Ex) : Prop := kEx.R 37 W base (fun _ => True) v l
def ExOut (s : ByteArray) (ep : EP) (g : Nat) (d : Int) (base : Nat) (p : Ex × List Tk) (e : Ending) (W' : World) : Prop := ∃ v, e = .returned (exAgg p.1 v) ∧ ExRow W' base v p.1.f1 ∧ Rdr s ep g p.2 d W'
theorem blk6 {W : World} {b : Nat} {v0 v1 v2 v3 v4 v5 : Value} {t : TypeId} (h : W.heap[b]? = some (.cells #[v0, v1, v2, v3, v4, v5] t (0, 0))) : W.cell? ⟨b, 0, none⟩ = some v0 ∧ W.cell? ⟨b, 1, none⟩ = some v1 ∧ W.cell? ⟨b, 2, none⟩ = some v2 ∧ W.cell? ⟨b, 3, none⟩ = some v3 ∧ W.cell? ⟨b, 4, none⟩ = some v4 ∧ W.cell? ⟨b, 5, none⟩ = some v5 ∧ ∀ j, W.frozen? ⟨b, j, none⟩ = false := by
  refine ⟨?_, ?_, ?_, ?_, ?_, ?_, fun j => ?_⟩ <;> simp [World.cell?, World.frozen?, h]
theorem Chg.sets6 {S : Nat → Prop} {W W' : World} (h : Chg S W W') (b : Nat) (hb : W.heap.size ≤ b) (v0 v1 v2 v3 v4 v5 : Value) :
    Chg S W ((((((W'.setCell ⟨b, 0, none⟩ v0).setCell ⟨b, 1, none⟩ v1).setCell ⟨b, 2, none⟩ v2).setCell ⟨b, 3, none⟩ v3).setCell ⟨b, 4, none⟩ v4).setCell ⟨b, 5, none⟩ v5) :=
  ((h.sets4 b hb v0 v1 v2 v3).set1 b 4 hb v4).set1 b 5 hb v5
theorem Rdr.far6 {s : ByteArray} {ep : EP} {g : Nat} {L : List Tk} {d : Int} {W : World} (h : Rdr s ep g L d W) (b : Nat) (hb : g ≠ b) (v0 v1 v2 v3 v4 v5 : Value) :
    Rdr s ep g L d ((((((W.setCell ⟨b, 0, none⟩ v0).setCell ⟨b, 1, none⟩ v1).setCell ⟨b, 2, none⟩ v2).setCell ⟨b, 3, none⟩ v3).setCell ⟨b, 4, none⟩ v4).setCell ⟨b, 5, none⟩ v5) :=
  (((((h.far b 0 hb v0).far b 1 hb v1).far b 2 hb v2).far b 3 hb v3).far b 4 hb v4).far b 5 hb v5
theorem blk_sets6 {W : World} {b : Nat} {u0 u1 u2 u3 u4 u5 : Value} {t : TypeId} (h : W.heap[b]? = some (.cells #[u0, u1, u2, u3, u4, u5] t (0, 0))) (v0 v1 v2 v3 v4 v5 : Value) :
    ((((((W.setCell ⟨b, 0, none⟩ v0).setCell ⟨b, 1, none⟩ v1).setCell ⟨b, 2, none⟩ v2).setCell ⟨b, 3, none⟩ v3).setCell ⟨b, 4, none⟩ v4).setCell ⟨b, 5, none⟩ v5).heap[b]? = some (.cells #[v0, v1, v2, v3, v4, v5] t (0, 0)) :=
  blk_set (blk_set (blk_set (blk_set (blk_set (blk_set h 0 v0) 1 v1) 2 v2) 3 v3) 4 v4) 5 v5
theorem rels_blk {w : World} {B : Nat} (h : w.heap[B]? = some (.cells (relsT.map Value.string).toArray 9 (0, 0))) (i : Nat) (hi : i < 6) : w.cell? ⟨B, i, none⟩ = some (.string (relsT.getD i nil0)) := by
  match i, hi with
  | 0, _ | 1, _ | 2, _ | 3, _ | 4, _ | 5, _ => simp [World.cell?, h, relsT]

theorem relF_kind (t : Tk) : ∀ n, relF t n ≠ 0 → t.kind ≠ 1
  | 0, h => absurd rfl h
  | n + 1, h => by
    unfold relF at h
    split at h
    · rename_i hi; exact isT_kind hi
    · exact relF_kind t n h

set_option maxRecDepth 100000 in
set_option maxHeartbeats 4000000 in
theorem test_any (s : ByteArray) (ep : EP) (g : Nat) (L : List Tk) (d f : Int) (w0 W : World) (hO : Okw w0 g W) (hR : Rdr s ep g L d W) (hk : (hdT L).kind ≠ 1) :
    Calls Tryz.prog 91 #[.pointer (some ⟨g, 0, none⟩), .int .i64 f] W (Outs g W (testP ep f L) (ExOut s ep g d W.heap.size)) := by
  have hgW := hR.lt
  have hW1 : Below W.heap.size W (W.alloc exZero) := (Below.refl _ W).alloc (Nat.le_refl _) _
  have hz1 := new_blk W #[.int .i64 0, .slice none 0 0, .int .i64 0, .int .u64 0, .int .i64 0, .int .u64 0] 37
  have HS := Lib.hid (step_any s ep g L d w0 _ (hO.below hW1) (hR.below hW1) hk)
  have HO := Lib.hid hO; have HZ1 := Lib.hid hz1; have HW1 := Lib.hid hW1
  clear hO hR hW1 hz1 hk
  cases hs : stepP ep L with
  | error p =>
    have HSE := Lib.hid hs; clear hs
    go_enter Tryz.func91, Tryz.ntmps91
    go_wp2_with fail
    refine HS.out.mono ?_
    rintro e W2 h
    obtain ⟨rfl, hc⟩ := h.err HSE.out
    go_wp2
    exact ⟨rfl, Outs.mk_err (by unfold testP; rw [HSE.out]; rfl) rfl ((Chg.of_below HW1.out (fun k => k = g)).trans hc (fun k e => .inl e))⟩
  | ok L1 =>
    have hv : testP ep f L = bnd (maskP ep L1) (fun p => if relF (hdT p.2) 6 = 0 then .error (badP 61 p.2) else bnd (stepP ep p.2) (fun L3 => bnd (kindP ep 3 L3) (fun q => .ok (⟨6, [], f, p.1, relF (hdT p.2) 6, q.1.num⟩, q.2)))) := by
      unfold testP; rw [hs]; rfl
    have HV := Lib.hid hv; have HSE := Lib.hid hs; clear hs hv
    go_enter Tryz.func91, Tryz.ntmps91
    go_wp2_with fail
    refine HS.out.mono ?_
    rintro e W2 h
    obtain ⟨⟨rfl, hR2⟩, hc⟩ := h.ok HSE.out
    have hcW : Chg (fun k => k = g) W W2 := (Chg.of_below HW1.out (fun k => k = g)).trans hc (fun k e => .inl e)
    have hz2 := chg_block hc HZ1.out (by omega)
    have hWs : W.heap.size < W2.heap.size := by have := hc.size; simp at this; omega
    -- the world behind the test's own box
    have hY : Below W2.heap.size W2 (W2.alloc (.cells #[.int .i64 6, .slice none 0 0, .int .i64 f, .int .u64 18446744073709551615, .int .i64 0, .int .u64 0] 37)) := (Below.refl _ W2).alloc (Nat.le_refl _) _
    have hv3 := new_blk W2 #[.int .i64 6, .slice none 0 0, .int .i64 f, .int .u64 18446744073709551615, .int .i64 0, .int .u64 0] 37
    have hz3 := blk_past (.cells #[.int .i64 6, .slice none 0 0, .int .i64 f, .int .u64 18446744073709551615, .int .i64 0, .int .u64 0] 37) hz2
    have hR3 := hR2.below hY
    have hO3 := (HO.out.chg hcW).below hY
    have hc3 := hcW.trans (Chg.of_below hY (fun k => k = g)) (fun k e => .inl e)
    obtain ⟨V, hV⟩ : ∃ V, V = W2.heap.size := ⟨_, rfl⟩
    have HV2 := Lib.hid hV
    have hVW : W.heap.size < V := by omega
    have HM := Lib.hid (maybe_any s ep g L1 d sAmp w0 _ hO3 hR3)
    have HR3 := Lib.hid hR3; have HO3 := Lib.hid hO3; have HC3 := Lib.hid hc3; have HZ3 := Lib.hid hz3; have HV3 := Lib.hid hv3; have HR2 := Lib.hid hR2; have HY := Lib.hid hY
    clear hR2 hc hcW hz2 hY hv3 hz3 hR3 hO3 hc3 hV HS
    obtain ⟨t, ee, hB2, rest, j, rfl, rfl, hT⟩ := HR2.out
    obtain ⟨c0, c1, c2, c3, c4, c5, c6⟩ := rdb_cell hB2
    have a1 := cell_past (.cells #[.int .i64 6, .slice none 0 0, .int .i64 f, .int .u64 18446744073709551615, .int .i64 0, .int .u64 0] 37) c1
    clear hB2 hT c0 c1 c2 c3 c4 c5 c6
    by_cases hk4 : t.kind = 4
    rotate_left
    have b4 : (t.kind == 4) = false := by rw [beq_eq_false_iff_ne]; exact hk4
    obtain ⟨m, hm⟩ : ∃ m : Int, m = 18446744073709551615 := ⟨_, rfl⟩
    obtain ⟨L5, hL5⟩ : ∃ L5, L5 = t :: rest := ⟨_, rfl⟩
    have HMV : Hid (maskP ep (t :: rest) = .ok (m, L5)) := Lib.hid (by rw [hm, hL5]; show (if t.kind = 4 then _ else _) = _; rw [if_neg hk4])
    rw [← hL5] at HR3
    clear hL5
    clear hk4
    go_wp2_with fail
    rw [← hm] at HR3 HC3 HZ3 HV3 ⊢
    have HR5 := HR3; have HC5 := HC3; have HZ5 := HZ3; have HV5 := HV3
    rw [← HV2.out] at HV5 ⊢
    generalize W2.alloc (.cells #[.int .i64 6, .slice none 0 0, .int .i64 f, .int .u64 m, .int .i64 0, .int .u64 0] 37) = W5 at *
    clear b4 a1 hm HR3 HC3 HZ3 HV3 HY HM HO3
    rotate_left
    have b4 : (t.kind == 4) = true := by rw [beq_iff_eq]; exact hk4
    have HMK : Hid (maskP ep (t :: rest) = bnd (maybeP ep sAmp (t :: rest)) (fun p => if p.1 = true then bnd (kindP ep 3 p.2) (fun q => .ok (q.1.num, q.2)) else .ok (18446744073709551615, p.2))) := Lib.hid (by show (if t.kind = 4 then _ else _) = _; rw [if_pos hk4])
    clear hk4
    rcases hmb : maybeP ep sAmp (t :: rest) with p | ⟨b, L4⟩
    · have HMB := Lib.hid hmb; clear hmb
      go_wp2_with fail
      refine HM.out.mono ?_
      rintro e W4 h
      obtain ⟨rfl, hc⟩ := h.err HMB.out
      go_wp2
      exact ⟨rfl, Outs.mk_err (by rw [HV.out, HMK.out, HMB.out]; rfl) rfl (HC3.out.trans hc (fun k e => .inl e))⟩
    have HMB := Lib.hid hmb; clear hmb
    go_wp2_with fail
    rw [← HV2.out]
    refine HM.out.mono ?_
    rintro e W4 h
    obtain ⟨⟨rfl, hR4⟩, hc⟩ := h.ok HMB.out
    have hz4 := chg_block hc HZ3.out (by omega)
    have hv4 := chg_block hc HV3.out (by omega)
    rw [← HV2.out] at hv4
    have hc4 := HC3.out.trans hc (fun k e => .inl e)
    have hV4 : V < W4.heap.size := (Array.getElem?_eq_some_iff.1 hv4).1
    have hO4 := HO3.out.chg hc
    have HR4 := Lib.hid hR4; have HC4 := Lib.hid hc4; have HZ4 := Lib.hid hz4; have HV4 := Lib.hid hv4; have HO4 := Lib.hid hO4
    clear hR4 hc4 hz4 hv4 hO4 hc a1 b4 HR3 HC3 HZ3 HV3 HY HM HO3
    cases b
    obtain ⟨m, hm⟩ : ∃ m : Int, m = 18446744073709551615 := ⟨_, rfl⟩
    have HMV : Hid (maskP ep (t :: rest) = .ok (m, L4)) := Lib.hid (by rw [HMK.out, HMB.out, hm]; rfl)
    go_wp2_with fail
    rw [← hm] at HV4 ⊢
    obtain ⟨L5, hL5⟩ : ∃ L5, L5 = L4 := ⟨_, rfl⟩
    rw [← hL5] at HMV HR4
    clear hL5
    have HR5 := HR4; have HC5 := HC4; have HZ5 := HZ4; have HV5 := HV4
    obtain ⟨W5, hW5⟩ : ∃ W5, W5 = W4 := ⟨_, rfl⟩
    rw [← hW5] at HR5 HC5 HZ5 HV5 ⊢
    clear hm HR4 HC4 HZ4 HV4 HO4 HMK HMB hW5
    rotate_left
    have HK := Lib.hid (kind_any s ep g L4 d 3 w0 W4 HO4.out HR4.out)
    rcases hkq : kindP ep 3 L4 with p | ⟨q, L5⟩
    · have HKQ := Lib.hid hkq; clear hkq
      go_wp2_with fail
      refine HK.out.mono ?_
      rintro e W6 h
      obtain ⟨rfl, hc⟩ := h.err HKQ.out
      go_wp2
      exact ⟨rfl, Outs.mk_err (by rw [HV.out, HMK.out, HMB.out]; show bnd (bnd (kindP ep 3 L4) _) _ = _; rw [HKQ.out]; rfl) rfl (HC4.out.trans hc (fun k e => .inl e))⟩
    have HKQ := Lib.hid hkq; clear hkq
    have HMV : Hid (maskP ep (t :: rest) = .ok (q.num, L5)) := Lib.hid (by rw [HMK.out, HMB.out]; show bnd (kindP ep 3 L4) _ = _; rw [HKQ.out]; rfl)
    go_wp2_with fail
    refine HK.out.mono ?_
    rintro e W6 h
    obtain ⟨⟨rfl, hR6⟩, hc⟩ := h.ok HKQ.out
    have hz6 := chg_block hc HZ4.out (by omega)
    have hv6 := chg_block hc HV4.out (by omega)
    obtain ⟨y0, y1, y2, y3, y4, y5, yf⟩ := blk6 hv6
    obtain ⟨m, hm⟩ : ∃ m, m = q.num := ⟨_, rfl⟩
    unfold tkVal
    dsimp only
    rw [← hm] at HMV ⊢
    have HR5 := Lib.hid (hR6.far V 3 (by omega) (.int .u64 m))
    have HC5 := Lib.hid ((HC4.out.trans hc (fun k e => .inl e)).set1 V 3 (by omega) (.int .u64 m))
    have HZ5 := Lib.hid ((Below.heap_setCell W6 ⟨V, 3, none⟩ (.int .u64 m) W.heap.size (by show W.heap.size ≠ V; omega)).trans hz6)
    have HV5 := Lib.hid (blk_set hv6 3 (.int .u64 m))
    clear hR6 hc hz6 hv6 hm
    go_wp2_with fail
    generalize W6.setCell ⟨V, 3, none⟩ (.int .u64 m) = W5 at *
    clear y0 y1 y2 y3 y4 y5 yf HR4 HC4 HZ4 HV4 HO4 HMK HMB HK HKQ hV4
    all_goals
      refine (rels_any W5).mono ?_
      rintro e W6 ⟨rfl, rfl⟩
      have hq6 : (W5.alloc relsObj).heap[W5.heap.size]? = some (.cells (relsT.map Value.string).toArray 9 (0, 0)) := new_blk W5 _ _
      have hb6 : Below W5.heap.size W5 (W5.alloc relsObj) := (Below.refl _ W5).alloc (Nat.le_refl _) _
      have HR6 := Lib.hid (HR5.out.below hb6)
      have HC6 := Lib.hid (HC5.out.trans (Chg.of_below hb6 (fun k => k = g)) (fun k e => .inl e))
      have HZ6 := Lib.hid (blk_past relsObj HZ5.out)
      have HV6 := Lib.hid (blk_past relsObj HV5.out)
      have hV5 : V < W5.heap.size := (Array.getElem?_eq_some_iff.1 HV5.out).1
      obtain ⟨B, hB⟩ : ∃ B, B = W5.heap.size := ⟨_, rfl⟩
      have hVB : V < B := by omega
      go_wp2
      rw [← hB] at hq6 ⊢
      show Code.wp _ _ _ _ (W5.alloc relsObj)
      generalize W5.alloc relsObj = W6 at *
      have HQ6 := Lib.hid hq6
      clear hq6 hb6 HR5 HC5 HZ5 HV5 hV5 hB
      go_loopw [28] (fun vi wr => ∃ i : Nat, vi = .int .i64 i ∧ i ≤ 6 ∧ Hid (wr.heap[V]? = some (.cells #[.int .i64 6, .slice none 0 0, .int .i64 f, .int .u64 m, .int .i64 (relF (hdT L5) i), .int .u64 0] 37 (0, 0))) ∧ Hid (Chg (fun k => k = V) W6 wr)) (fun vi _ => 6 - (intOf vi).toNat)
      case atStart => exact ⟨0, rfl, by omega, HV6, Lib.hid (Chg.refl _ _)⟩
      case round =>
        obtain ⟨i, rfl, hi, HVr, HCr⟩ := hrel
        have hRr : Rdr s ep g L5 d wr := by
          obtain ⟨t', e', hB', hA'⟩ := HR6.out
          exact ⟨t', e', chg_block HCr.out hB' (by omega), hA'⟩
        have HRr := Lib.hid hRr; clear hRr
        obtain ⟨y0, y1, y2, y3, y4, y5, yf⟩ := blk6 HVr.out
        by_cases hlt : i < 6
        · have x0 := rels_blk (chg_block HCr.out HQ6.out (by omega)) i hlt
          have HI := Lib.hid (is_any s ep g L5 d (relsT.getD i nil0) wr HRr.out)
          have hstep : relF (hdT L5) (i + 1) = if isT (relsT.getD i nil0) (hdT L5) then (i : Int) + 1 else relF (hdT L5) i := rfl
          have HST := Lib.hid hstep; clear hstep
          cases hb : isT (relsT.getD i nil0) (hdT L5) with
          | false =>
            rw [hb] at HI HST
            clear hb
            go_wp2_with fail
            refine HI.out.mono ?_
            rintro e wr' ⟨rfl, rfl⟩
            go_wp2
            exact ⟨⟨i + 1, by go_num, by omega, Lib.hid (by rw [HST.out]; exact HVr.out), HCr⟩, by simp [intOf]; omega⟩
          | true =>
            rw [hb] at HI HST
            clear hb
            go_wp2_with fail
            refine HI.out.mono ?_
            rintro e wr' ⟨rfl, rfl⟩
            go_wp2
            exact ⟨⟨i + 1, by go_num, by omega, Lib.hid (by rw [HST.out]; exact blk_set HVr.out 4 (.int .i64 ((i : Int) + 1))), Lib.hid (HCr.out.trans (Chg.of_set wr V 4 _) (fun k e => .inl e))⟩, by simp [intOf]; omega⟩
        · obtain rfl : i = 6 := by omega
          have hcw := HC6.out.trans HCr.out (fun k e => .inr (by omega))
          have hzr := chg_block HCr.out HZ6.out (by omega)
          have hwr : W.heap.size < wr.heap.size := by have := (Array.getElem?_eq_some_iff.1 hzr).1; omega
          have hVr : V < wr.heap.size := (Array.getElem?_eq_some_iff.1 HVr.out).1
          have hkn := relF_kind (hdT L5) 6
          obtain ⟨r, hr⟩ : ∃ r, r = relF (hdT L5) 6 := ⟨_, rfl⟩
          have hv2 : testP ep f L = if r = 0 then .error (badP 61 L5) else bnd (stepP ep L5) (fun L3 => bnd (kindP ep 3 L3) (fun q => .ok (⟨6, [], f, m, r, q.1.num⟩, q.2))) := by rw [HV.out, HMV.out, hr]; rfl
          rw [← hr] at y4 HVr hkn
          have HOr := Lib.hid (HO.out.chg hcw)
          have HCW := Lib.hid hcw; have HZr := Lib.hid hzr; have HV3' := Lib.hid hv2
          clear hcw hzr hv2 hr HV HMV
          by_cases hr0 : r = 0
          · have hrb : (r == 0) = true := by rw [beq_iff_eq]; exact hr0
            have HT : Hid (testP ep f L = .error (badP 61 L5)) := Lib.hid (by rw [HV3'.out, if_pos hr0])
            clear hr0
            go_wp2_with fail
            refine (bad_any s ep g L5 d 61 wr HRr.out).mono ?_
            rintro e W7 ⟨he, rfl⟩
            unfold panics at he
            subst he
            go_wp2
            exact ⟨rfl, Outs.mk_err HT.out rfl HCW.out⟩
          · have hrb : (r == 0) = false := by rw [beq_eq_false_iff_ne]; exact hr0
            have HT : Hid (testP ep f L = bnd (stepP ep L5) (fun L3 => bnd (kindP ep 3 L3) (fun q => .ok (⟨6, [], f, m, r, q.1.num⟩, q.2)))) := Lib.hid (by rw [HV3'.out, if_neg hr0])
            have HS := Lib.hid (step_any s ep g L5 d w0 wr HOr.out HRr.out (hkn hr0))
            clear hr0 hkn
            rcases hs : stepP ep L5 with p | L7
            · have HSE := Lib.hid hs; clear hs
              go_wp2_with fail
              refine HS.out.mono ?_
              rintro e W7 h
              obtain ⟨rfl, hc⟩ := h.err HSE.out
              go_wp2
              exact ⟨rfl, Outs.mk_err (by rw [HT.out, HSE.out]; rfl) rfl (HCW.out.trans hc (fun k e => .inl e))⟩
            · have HSE := Lib.hid hs; clear hs
              go_wp2_with fail
              refine HS.out.mono ?_
              rintro e W7 h
              obtain ⟨⟨rfl, hR7⟩, hc⟩ := h.ok HSE.out
              have hv7 := chg_block hc HVr.out (by omega)
              have hz7 := chg_block hc HZr.out (by omega)
              have HK := Lib.hid (kind_any s ep g L7 d 3 w0 W7 (HOr.out.chg hc) hR7)
              have HC7 := Lib.hid (HCW.out.trans hc (fun k e => .inl e)); have HV7 := Lib.hid hv7; have HZ7 := Lib.hid hz7
              clear hv7 hz7 hc hR7 y0 y1 y2 y3 y4 y5 yf
              rcases hkq : kindP ep 3 L7 with p | ⟨q, L8⟩
              · have HKQ := Lib.hid hkq; clear hkq
                go_wp2_with fail
                refine HK.out.mono ?_
                rintro e W8 h
                obtain ⟨rfl, hc⟩ := h.err HKQ.out
                go_wp2
                exact ⟨rfl, Outs.mk_err (by rw [HT.out, HSE.out]; show bnd (kindP ep 3 L7) _ = _; rw [HKQ.out]; rfl) rfl (HC7.out.trans hc (fun k e => .inl e))⟩
              · have HKQ := Lib.hid hkq; clear hkq
                go_wp2_with fail
                refine HK.out.mono ?_
                rintro e W8 h
                obtain ⟨⟨rfl, hR8⟩, hc⟩ := h.ok HKQ.out
                have hv8 := chg_block hc HV7.out (by omega)
                have hz8 := chg_block hc HZ7.out (by omega)
                obtain ⟨y0, y1, y2, y3, y4, y5, yf⟩ := blk6 hv8
                obtain ⟨z0, z1, z2, z3, z4, z5, zf⟩ := blk6 hz8
                have HR8 := Lib.hid hR8; have HC8 := Lib.hid (HC7.out.trans hc (fun k e => .inl e)); have HZ8 := Lib.hid hz8
                have hne : W.heap.size ≠ V := by omega
                clear hR8 hc hz8 hv8
                unfold tkVal
                go_wp2
                have hb6 := blk_sets6 ((Below.heap_setCell W8 ⟨V, 5, none⟩ (.int .u64 q.num) W.heap.size (by show W.heap.size ≠ V; omega)).trans HZ8.out) (.int .i64 6) (.slice none 0 0) (.int .i64 f) (.int .u64 m) (.int .i64 r) (.int .u64 q.num)
                obtain ⟨r0, r1, r2, r3, r4, r5, rf⟩ := blk6 hb6
                refine bodyPost_ret (v := exAgg ⟨6, [], f, m, r, q.num⟩ (.slice none 0 0)) (by simp [results, Tryz.results91, go_sem, r0, r1, r2, r3, r4, r5]) rfl ?_
                refine Outs.mk_ok (b := (⟨6, [], f, m, r, q.num⟩, L8)) (by rw [HT.out, HSE.out]; show bnd (kindP ep 3 L7) _ = _; rw [HKQ.out]; rfl) ⟨.slice none 0 0, rfl, Kd.R_nil _ _ _ _ _, ?_⟩ ((HC8.out.set1 V 5 (by omega) _).sets6 W.heap.size (Nat.le_refl _) _ _ _ _ _ _)
                exact (HR8.out.far V 5 (by omega) _).far6 W.heap.size (by omega) _ _ _ _ _ _
end Go.Proofs.YtlmopoipjolbgaaGreatDoor.LexW
namespace Go.Proofs.YtlmopoipjolbgaaGreatDoor.LexW
open Go.RowKit Go.Shelf Go.Proofs.YtlmopoipjolbgaaGreatDoor.LexS Go.Proofs.YtlmopoipjolbgaaGreatDoorW.PrintWords
set_option linter.unusedVariables false
set_option linter.unusedSimpArgs false

theorem ExRow.chg {S : Nat → Prop} {W W' : World} {base : Nat} {v : Value} {l : List Ex} (h : ExRow W base v l) (hc : Chg S W W') (hS : ∀ k, S k → k < base) : ExRow W' base v l :=
  Kd.R_mono (Kd.R_move (Kd.R_bound h) (fun k hk => hc.block k hk.2.2.1 (fun e => by have := hS k e; have := hk.2.1; omega))) (fun _ _ => trivial)
theorem ExRow.lower {W : World} {base base' : Nat} {v : Value} {l : List Ex} (h : ExRow W base v l) (hb : base' ≤ base) : ExRow W base' v l := Kd.R_lower h hb
theorem ExRow.below {W W' : World} {base : Nat} {v : Value} {l : List Ex} (h : ExRow W base v l) (hb : Below W.heap.size W W') : ExRow W' base v l := Kd.R_below h hb
theorem Rdr.deep {s : ByteArray} {ep : EP} {g : Nat} {L : List Tk} {d : Int} {W : World} (h : Rdr s ep g L d W) (d' : Int) : Rdr s ep g L d' (W.setCell ⟨g, 6, none⟩ (.int .i64 d')) :=
  let ⟨t, e, hB, hA⟩ := h; ⟨t, e, blk_set hB 6 _, hA⟩
/-- a variable that holds the reader's address -/
def Held (W : World) (b g : Nat) : Prop := W.heap[b]? = some (.cells #[.pointer (some ⟨g, 0, none⟩)] 51 (0, 0))
theorem Held.cell {W : World} {b g : Nat} (h : Held W b g) : W.cell? ⟨b, 0, none⟩ = some (.pointer (some ⟨g, 0, none⟩)) := by simp [World.cell?, show W.heap[b]? = _ from h]
theorem Held.lt {W : World} {b g : Nat} (h : Held W b g) : b < W.heap.size := (Array.getElem?_eq_some_iff.1 h).1
theorem Held.chg {S : Nat → Prop} {W W' : World} {b g : Nat} (h : Held W b g) (hc : Chg S W W') (hn : ¬ S b) : Held W' b g := chg_block hc h hn
theorem Held.below {W W' : World} {b g : Nat} (h : Held W b g) (hb : Below W.heap.size W W') : Held W' b g := (hb.block b h.lt).trans h

theorem Chg.wider {S S' : Nat → Prop} {W W' : World} (h : Chg S W W') (hS : ∀ k, S k → S' k) : Chg S' W W' := ⟨h.os, h.tape, h.output, h.size, fun k hk hn => h.block k hk (fun e => hn (hS k e))⟩
theorem Chg.sets6' {S : Nat → Prop} {W W' : World} (h : Chg S W W') (b : Nat) (hb : ∀ k, k = b → S k) (v0 v1 v2 v3 v4 v5 : Value) :
    Chg S W ((((((W'.setCell ⟨b, 0, none⟩ v0).setCell ⟨b, 1, none⟩ v1).setCell ⟨b, 2, none⟩ v2).setCell ⟨b, 3, none⟩ v3).setCell ⟨b, 4, none⟩ v4).setCell ⟨b, 5, none⟩ v5) :=
  (((((h.trans (Chg.of_set _ b 0 v0) (fun k e => .inl (hb k e))).trans (Chg.of_set _ b 1 v1) (fun k e => .inl (hb k e))).trans (Chg.of_set _ b 2 v2) (fun k e => .inl (hb k e))).trans (Chg.of_set _ b 3 v3) (fun k e => .inl (hb k e))).trans (Chg.of_set _ b 4 v4) (fun k e => .inl (hb k e))).trans (Chg.of_set _ b 5 v5) (fun k e => .inl (hb k e))

theorem stepP_len {ep : EP} {L L1 : List Tk} (h : stepP ep L = .ok L1) : L1.length ≤ L.length := by
  obtain ⟨t, rfl, _⟩ := stepP_ok h
  simp

set_option maxRecDepth 100000 in
set_option maxHeartbeats 2000000 in
theorem nested_any {f : Nat} (he : Enters Tryz.prog f) (s : ByteArray) (ep : EP) (g b : Nat) (L : List Tk) (d : Int) (w0 W : World) (inner : List Tk → Rd Ex) (hO : Okw w0 g W) (hR : Rdr s ep g L d W) (hk : (hdT L).kind ≠ 1) (hH : Held W b g) (hbg : b ≠ g) (hd0 : 0 ≤ d) (hd1 : d < 64)
    (hdo : ∀ L1 W1, L1.length ≤ L.length → Okw w0 g W1 → Rdr s ep g L1 (d + 1) W1 → Held W1 b g → Calls Tryz.prog f #[.pointer (some ⟨b, 0, none⟩)] W1 (Outs g W1 (inner L1) (ExOut s ep g (d + 1) W1.heap.size))) :
    Calls Tryz.prog 88 #[.pointer (some ⟨g, 0, none⟩), .func (.func f) #[] #[.pointer (some ⟨b, 0, none⟩)]] W (Outs g W (bnd (stepP ep L) inner) (ExOut s ep g d W.heap.size)) := by
  have hgW := hR.lt
  have hbW := hH.lt
  have hdb : (d == 64) = false := by rw [beq_eq_false_iff_ne]; omega
  have hW1 : Below W.heap.size W (W.alloc exZero) := (Below.refl _ W).alloc (Nat.le_refl _) _
  have hz1 := new_blk W #[.int .i64 0, .slice none 0 0, .int .i64 0, .int .u64 0, .int .i64 0, .int .u64 0] 37
  have hc1 : Chg (fun k => k = g) W ((W.setCell ⟨g, 6, none⟩ (.int .i64 (d + 1))).alloc exZero) := (Chg.of_set W g 6 _).trans (Chg.of_alloc _ _ (fun k => k = g)) (fun k e => .inl e)
  have hR1 : Rdr s ep g L (d + 1) ((W.setCell ⟨g, 6, none⟩ (.int .i64 (d + 1))).alloc exZero) := (hR.deep (d + 1)).below ((Below.refl _ _).alloc (Nat.le_refl _) _)
  have hz1 : ((W.setCell ⟨g, 6, none⟩ (.int .i64 (d + 1))).alloc exZero).heap[W.heap.size]? = some (.cells #[.int .i64 0, .slice none 0 0, .int .i64 0, .int .u64 0, .int .i64 0, .int .u64 0] 37 (0, 0)) := new_blk' (by simp) _ _
  have hs1 : ((W.setCell ⟨g, 6, none⟩ (.int .i64 (d + 1))).alloc exZero).heap.size = W.heap.size + 1 := by simp
  have hH1 := hH.chg hc1 hbg
  have HS := Lib.hid (step_any s ep g L (d + 1) w0 _ (hO.chg hc1) hR1 hk)
  obtain ⟨t, e, hB, rest, j, rfl, rfl, hT⟩ := hR
  obtain ⟨c0, c1, c2, c3, c4, c5, c6⟩ := rdb_cell hB
  have f0 := rdb_free hB
  have a6 := cell_past exZero c6
  have HO := Lib.hid hO; have HZ1 := Lib.hid hz1; have HC1 := Lib.hid hc1; have HH1 := Lib.hid hH1; have HDO := Lib.hid hdo
  have heg : ∀ (args : Array Value) (w : World), (callFunc f args).run Tryz.prog w = .ok (.enter f args) w := he
  clear hO hz1 hc1 hR1 hH1 hdo hW1 hB hT hH he c0 c1 c2 c3 c4 c5 hk
  rcases hs : stepP ep (t :: rest) with p | L1
  · have HSE := Lib.hid hs; clear hs
    go_enter Tryz.func88, Tryz.ntmps88
    go_wp2_with fail
    refine HS.out.mono ?_
    rintro e W2 h
    obtain ⟨rfl, hc⟩ := h.err HSE.out
    go_wp2
    exact ⟨rfl, Outs.mk_err rfl rfl (HC1.out.trans hc (fun k e => .inl e))⟩
  · have HSE := Lib.hid hs; clear hs
    go_enter Tryz.func88, Tryz.ntmps88
    go_wp2_with fail
    refine HS.out.mono ?_
    rintro e W2 h
    obtain ⟨⟨rfl, hR2⟩, hc⟩ := h.ok HSE.out
    have hc2 := HC1.out.trans hc (fun k e => .inl e)
    have hz2 := chg_block hc HZ1.out (by omega)
    have hB2 : W.heap.size < W2.heap.size := (Array.getElem?_eq_some_iff.1 hz2).1
    have HC2 := Lib.hid hc2; have HZ2 := Lib.hid hz2
    have HD := Lib.hid (HDO.out L1 W2 (stepP_len HSE.out) (HO.out.chg hc2) hR2 (HH1.out.chg hc hbg))
    clear hc hc2 hz2 hR2 c6 f0 a6
    rcases hi : inner L1 with p | ⟨x, L2⟩
    · have HI := Lib.hid hi; clear hi
      go_wp2_with (go_at_fn f; refine HD.out.mono ?_; rintro e W3 h; obtain ⟨rfl, hc⟩ := h.err HI.out; have HC := Lib.hid hc; clear hc)
      exact ⟨rfl, Outs.mk_err (by show inner L1 = _; exact HI.out) rfl (HC2.out.trans HC.out (fun k e => .inl e))⟩
    · have HI := Lib.hid hi; clear hi
      go_wp2_with fail
      refine HD.out.mono ?_
      rintro e W3 h
      obtain ⟨⟨v, rfl, hX, hR3⟩, hc⟩ := h.ok HI.out
      obtain ⟨A, c, rfl⟩ := Kd.R_slice hX
      have hz3 := chg_block hc HZ2.out (by omega)
      have HX := Lib.hid hX; have HC := Lib.hid hc; have HZ3 := Lib.hid hz3; have HR3 := Lib.hid hR3
      obtain ⟨t3, e3, hB3, hA3⟩ := hR3
      obtain ⟨-, -, -, -, -, -, c6⟩ := rdb_cell hB3
      have f0 := rdb_free hB3
      obtain ⟨z0, z1, z2, z3, z4, z5, zf⟩ := blk6 hz3
      have hs3 := hc.size
      have a6 := cell_past (.cells #[.int .i64 x.f0, .slice A x.f1.length c, .int .i64 x.f2, .int .u64 x.f3, .int .i64 x.f4, .int .u64 x.f5] 37) c6
      have hgB : W.heap.size ≠ g := by omega
      have hz4 := blk_past (.cells #[.int .i64 x.f0, .slice A x.f1.length c, .int .i64 x.f2, .int .u64 x.f3, .int .i64 x.f4, .int .u64 x.f5] 37) hz3
      obtain ⟨y0, y1, y2, y3, y4, y5, yf⟩ := blk6 hz4
      have HZ4 := Lib.hid hz4
      have fa := rdb_free (hB3.below ((Below.refl _ W3).alloc (Nat.le_refl _) (.cells #[.int .i64 x.f0, .slice A x.f1.length c, .int .i64 x.f2, .int .u64 x.f3, .int .i64 x.f4, .int .u64 x.f5] 37)))
      clear hX hc hz3 hB3 hA3 hz4
      go_wp2
      have hal := (Below.refl W3.heap.size W3).alloc (Nat.le_refl _) (.cells #[.int .i64 x.f0, .slice A x.f1.length c, .int .i64 x.f2, .int .u64 x.f3, .int .i64 x.f4, .int .u64 x.f5] 37)
      have hb6 := blk_sets6 ((Below.heap_setCell _ ⟨g, 6, none⟩ (.int .i64 d) W.heap.size hgB).trans HZ4.out) (.int .i64 x.f0) (.slice A x.f1.length c) (.int .i64 x.f2) (.int .u64 x.f3) (.int .i64 x.f4) (.int .u64 x.f5)
      obtain ⟨r0, r1, r2, r3, r4, r5, rf⟩ := blk6 hb6
      have hcA : Chg (fun k => k = g) W3 ((W3.alloc (.cells #[.int .i64 x.f0, .slice A x.f1.length c, .int .i64 x.f2, .int .u64 x.f3, .int .i64 x.f4, .int .u64 x.f5] 37)).setCell ⟨g, 6, none⟩ (.int .i64 d)) := (Chg.of_below hal (fun k => k = g)).trans (Chg.of_set _ g 6 _) (fun k e => .inl e)
      have hcB : Chg (fun k => k = g ∨ k = W.heap.size) W3 _ := (hcA.wider (fun k e => .inl e)).sets6' W.heap.size (fun k e => .inr e) (.int .i64 x.f0) (.slice A x.f1.length c) (.int .i64 x.f2) (.int .u64 x.f3) (.int .i64 x.f4) (.int .u64 x.f5)
      refine bodyPost_ret (v := exAgg x (.slice A x.f1.length c)) (by simp [results, Tryz.results88, go_sem, r0, r1, r2, r3, r4, r5]) rfl ?_
      refine Outs.mk_ok (b := (x, L2)) (by show inner L1 = _; exact HI.out) ⟨.slice A x.f1.length c, rfl, (HX.out.chg hcB (fun k e => by omega)).lower (by omega), ?_⟩ (((HC2.out.trans HC.out (fun k e => .inl e)).trans hcA (fun k e => .inl e)).sets6 W.heap.size (Nat.le_refl _) _ _ _ _ _ _)
      exact (((HR3.out.below hal).deep d).far6 W.heap.size (by omega) _ _ _ _ _ _)
end Go.Proofs.YtlmopoipjolbgaaGreatDoor.LexW
