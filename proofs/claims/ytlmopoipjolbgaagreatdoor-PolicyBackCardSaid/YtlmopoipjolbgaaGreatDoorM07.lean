/-
  policy.Print. · policy.Depth. · Layer 6 (policy), plain: what is read from a text is well formed. · Layer 6 (policy), plain: what is read does not hang on where the tokens stand. · Layer 6 (policy), plain: tokens' texts with a blank and further blanks and remarks behind each are cut into the same.
-/
import Derived.Test.YtlmopoipjolbgaaGreatDoorM06
import Derived.Test.YtlmopoipjolbgaaGreatDoorM05
import Derived.Test.YtlmopoipjolbgaaGreatDoorM03
namespace Go.Proofs.YtlmopoipjolbgaaGreatDoor.LexW
open Go.RowKit Go.Shelf Go.Proofs.YtlmopoipjolbgaaGreatDoor.LexS Go.Proofs.YtlmopoipjolbgaaGreatDoorW.PrintWords
set_option linter.unusedVariables false
set_option linter.unusedSimpArgs false

/-- the builder in block b holds these bytes -/
def BldS (b : Nat) (l : List UInt8) (W : World) : Prop := Lib.IsBuilderF 78 5 b b (Lib.byteCells l) W
theorem bldAt_below {T e : TypeId} {B b : Nat} {p : Value} {bs : List Value} {w w' : World} (h : Lib.BuilderAtF T e B b p bs w) (hb : Below w.heap.size w w') : Lib.BuilderAtF T e B b p bs w' := by
  have hl := h.lt
  obtain ⟨hB, v, hk, ho, hn⟩ := h
  exact ⟨hB, v, (hb.block b hl).trans hk, ho.kept (grown_of_below hb none) (by cases v.ownBlock <;> simp), hn⟩
theorem BldS.below {b : Nat} {l : List UInt8} {w w' : World} (h : BldS b l w) (hb : Below w.heap.size w w') : BldS b l w' :=
  h.elim (fun h => .inl (bldAt_below h hb)) (fun h => .inr (bldAt_below h hb))
theorem BldS.lt {b : Nat} {l : List UInt8} {w : World} (h : BldS b l w) : b < w.heap.size := h.elim (fun h => h.lt) (fun h => h.lt)
theorem bld_new (W : World) : BldS W.heap.size [] (W.alloc (.cells #[.pointer none, .slice none 0 0] 78)) := Lib.IsBuilderF.of (Lib.fresh_isBuilder _ _ W)
theorem bwrite_any (b : Nat) (l : List UInt8) (s : ByteArray) (W : World) (h : BldS b l W) (hz : l.length + s.size ≤ 100000000000) :
    Calls Tryz.prog 36 #[.pointer (some ⟨b, 0, none⟩), .string s] W fun e w' => e = .returned (.tuple #[.int .i64 s.size, .nilIface]) ∧ BldS b (l ++ s.data.toList) w' ∧ Below b W w' ∧ Lib.OthersKept 5 (some b) W w' := by
  refine (show Calls Tryz.prog 36 #[.pointer (some ⟨b, 0, none⟩), .string s] W _ from Any.Builder_WriteString_k { Tryz.lays156 with } Tryz.Builder_Extra_156 b b (Lib.byteCells l) s W h (by rw [byteCells_len]; omega) (Nat.le_of_lt h.lt)).mono ?_
  rintro e w' ⟨he, h1, h2, h3⟩
  exact ⟨he, .inr (by rw [byteCells_app]; exact h1), h2, h3⟩
theorem bstring_any (b : Nat) (l : List UInt8) (W : World) (h : BldS b l W) :
    Calls Tryz.prog 40 #[.pointer (some ⟨b, 0, none⟩)] W fun e w' => e = .returned (.string ⟨l.toArray⟩) ∧ Below b W w' :=
  (Tryz.Builder_String_any_k b b l W h (Nat.le_of_lt h.lt)).mono fun e w' ⟨he, _, h2, _⟩ => ⟨he, h2⟩
theorem others_blk {b k : Nat} {w w' : World} {cs : Array Value} {t : TypeId} {fz : Nat × Nat} (h : Lib.OthersKept 5 (some b) w w') (hk : w.heap[k]? = some (.cells cs t fz)) (hb : k ≠ b) (ht : t ≠ 5) : w'.heap[k]? = some (.cells cs t fz) :=
  h k _ hk (fun e => hb (Option.some.inj e)) (fun c f e => by injection e with _ e2; exact ht e2)

theorem ba_empty {s : ByteArray} (h : s.size = 0) : s = nil0 := ba_ext (by rw [ba_size] at h; rw [List.length_eq_zero_iff.1 h]; rfl)
theorem blk_free {W : World} {b : Nat} {cs : Array Value} {t : TypeId} (h : W.heap[b]? = some (.cells cs t (0, 0))) (j : Nat) : W.frozen? ⟨b, j, none⟩ = false := by simp [World.frozen?, h]
theorem own_setCell {w : World} {base n : Nat} {e : TypeId} {size : Nat} {v : Value} {xs : List Value} (h : w.ownsRow base e size v n xs) {b j : Nat} (hb : ∀ k, v.ownBlock = some k → k < b) (x : Value) : (w.setCell ⟨b, j, none⟩ x).ownsRow base e size v n xs := by
  refine h.kept (row := some b) ⟨rfl, rfl, rfl, by simp [World.setCell], fun k _ hk => Below.heap_setCell _ _ _ _ (fun e => hk (by simp [e]))⟩ ?_
  cases hv : v.ownBlock with
  | none => exact .inl rfl
  | some k => exact .inr (by have := hb k hv; simp; omega)
theorem setCell2 {W : World} {b : Nat} {v0 v1 x : Value} {t : TypeId} (h : W.heap[b]? = some (.cells #[v0, v1] t (0, 0))) : (W.setCell ⟨b, 0, none⟩ x).heap[b]? = some (.cells #[x, v1] t (0, 0)) := by
  simp [World.setCell, Array.getElem?_modify, h]
theorem box2' {W : World} {b : Nat} {v0 v1 : Value} {t : TypeId} (h : W.heap[b]? = some (.cells #[v0, v1] t (0, 0))) : W.cell? ⟨b, 0, none⟩ = some v0 ∧ W.cell? ⟨b, 1, none⟩ = some v1 := by
  refine ⟨?_, ?_⟩ <;> simp [World.cell?, h]
set_option maxHeartbeats 8000000 in
set_option maxRecDepth 100000 in
theorem print_any (p : Po) (hp : okP p) (hw : wP p ≤ 100000) (A : Option Addr) (c : Nat) (w : World) (hE : EnvN w) (hC : kRl.C w A p.rules.length p.rules) :
    Calls Tryz.prog 14 #[.agg #[.string p.arch, .int .i64 p.foreign.f0, .int .u64 p.foreign.f1, .int .i64 p.dflt.f0, .int .u64 p.dflt.f1, .slice A p.rules.length c]] w fun e w' => e = .returned (.string (prP p)) ∧ Below w.heap.size w w' := by
  have hb1 : Below w.heap.size w (w.alloc (poBox p A c)) := (Below.refl _ w).alloc (Nat.le_refl _) _
  have hk1 : (w.alloc (poBox p A c)).heap[w.heap.size]? = some (.cells #[.string p.arch, .int .i64 p.foreign.f0, .int .u64 p.foreign.f1, .int .i64 p.dflt.f0, .int .u64 p.dflt.f1, .slice A p.rules.length c] 29 (0, 0)) := new_blk w _ _
  have hs1 : (w.alloc (poBox p A c)).heap.size = w.heap.size + 1 := by simp
  have hbld := bld_new (w.alloc (poBox p A c))
  have hC1 := Kd.C_below hC hb1
  have hE1 := hE.below hb1
  obtain ⟨S, hS⟩ : ∃ S, S = prP p := ⟨_, rfl⟩
  rw [← hS]
  have HS := Lib.hid hS
  have hrl : p.rules.length ≤ 512 := hp.many
  have HP := Lib.hid hp; have HW := Lib.hid hw
  clear hS hp hw hC hE
  go_enter Tryz.func14, Tryz.ntmps14
  go_wp2
  show Code.wp _ _ _ _ ((w.alloc (poBox p A c)).alloc (.cells #[.pointer none, .slice none 0 0] 78))
  have hb3 : Below (w.alloc (poBox p A c)).heap.size (w.alloc (poBox p A c)) ((w.alloc (poBox p A c)).alloc (.cells #[.pointer none, .slice none 0 0] 78)) := (Below.refl _ _).alloc (Nat.le_refl _) _
  rw [hs1] at hbld
  generalize (w.alloc (poBox p A c)).alloc (.cells #[.pointer none, .slice none 0 0] 78) = W3 at *
  generalize w.alloc (poBox p A c) = W2 at *
  have HB1 := Lib.hid hb1; have HK1 := Lib.hid hk1; have HS1 := Lib.hid hs1; have HC1 := Lib.hid hC1; have HE1 := Lib.hid hE1; have HBLD := Lib.hid hbld
  have hk3 := (hb3.block w.heap.size (by omega)).trans hk1
  have hs3 := hbld.lt
  have HB3 := Lib.hid hb3; have HK3 := Lib.hid hk3
  have HE3 := Lib.hid (hE1.below hb3)
  clear hb1 hk1 hs1 hC1 hE1 hbld hb3
  obtain ⟨v0, v1, v2, v3, v4, v5⟩ := box6 hk3
  have HPB := Lib.hid (fun (W : World) (h : W.heap[w.heap.size]? = some (.cells #[.string p.arch, .int .i64 p.foreign.f0, .int .u64 p.foreign.f1, .int .i64 p.dflt.f0, .int .u64 p.dflt.f1, .slice A p.rules.length c] 29 (0, 0))) => (box6 h))
  have HV1 := Lib.hid (pverdict_any p.foreign HP.out.forn W3.drew HE3.out.pow.drew)
  have HV2 := Lib.hid (fun W (hb : Below W3.drew.heap.size W3.drew W) => pverdict_any p.dflt HP.out.dflt W (HE3.out.pow.drew.below hb))
  have HWR := Lib.hid (fun W (h : BldS (w.heap.size + 1) [] W) => (show Calls Tryz.prog 36 #[.pointer (some ⟨w.heap.size + 1, 0, none⟩), .string (((((((⟨#[97, 114, 99, 104, 32]⟩ : ByteArray) ++ p.arch) ++ ⟨#[59, 10, 102, 111, 114, 101, 105, 103, 110, 32]⟩) ++ vdT p.foreign) ++ ⟨#[59, 10, 100, 101, 102, 97, 117, 108, 116, 32]⟩) ++ vdT p.dflt) ++ ⟨#[59, 10]⟩)] W fun e w' => e = .returned (.tuple #[.int .i64 (headT p).size, .nilIface]) ∧ BldS (w.heap.size + 1) ([] ++ (headT p).data.toList) w' ∧ Below (w.heap.size + 1) W w' ∧ Lib.OthersKept 5 (some (w.heap.size + 1)) W w' from bwrite_any (w.heap.size + 1) [] (headT p) W h (by have := headT_size HP.out; show 0 + _ ≤ _; omega)))
  have hz1 := vdT_size HP.out.forn
  have hz2 := vdT_size HP.out.dflt
  have hz3 := word_size HP.out.arch
  rw [← ba_size] at hz3
  have d1 : ¬ 9223372036854775807 < 5 + p.arch.size := by omega
  have d2 : ¬ 9223372036854775807 < 5 + p.arch.size + 10 := by omega
  have d3 : ¬ 9223372036854775807 < 5 + p.arch.size + 10 + (vdT p.foreign).size := by omega
  have d4 : ¬ 9223372036854775807 < 5 + p.arch.size + 10 + (vdT p.foreign).size + 10 := by omega
  have d5 : ¬ 9223372036854775807 < 5 + p.arch.size + 10 + (vdT p.foreign).size + 10 + (vdT p.dflt).size := by omega
  have d6 : ¬ 9223372036854775807 < 5 + p.arch.size + 10 + (vdT p.foreign).size + 10 + (vdT p.dflt).size + 2 := by omega
  have HBL6 := Lib.hid (fun W5 W6 (hb5 : Below W3.drew.heap.size W3.drew W5) (hb6 : Below W5.heap.size W5 W6) => ((show BldS (w.heap.size + 1) [] W3.drew from HBLD.out).below hb5).below hb6)
  clear hz1 hz2 hz3 hk3
  go_region_held3 (fun w' => w'.cell? ⟨w.heap.size, 0, none⟩ = some (.string p.arch) ∧ w'.cell? ⟨w.heap.size, 1, none⟩ = some (.int .i64 p.foreign.f0) ∧ w'.cell? ⟨w.heap.size, 2, none⟩ = some (.int .u64 p.foreign.f1) ∧ w'.cell? ⟨w.heap.size, 3, none⟩ = some (.int .i64 p.dflt.f0) ∧ w'.cell? ⟨w.heap.size, 4, none⟩ = some (.int .u64 p.dflt.f1))
    (first | go_keep | exact ⟨bel_cell hb5 v0, bel_cell hb5 v1, bel_cell hb5 v2, bel_cell hb5 v3, bel_cell hb5 v4⟩ | exact ⟨pw_cell_below hb6 (bel_cell hb5 v0), pw_cell_below hb6 (bel_cell hb5 v1), pw_cell_below hb6 (bel_cell hb5 v2), pw_cell_below hb6 (bel_cell hb5 v3), pw_cell_below hb6 (bel_cell hb5 v4)⟩ | exact ⟨(hb7.cell (p := ⟨w.heap.size, 0, none⟩) (Nat.lt_succ_self _)).trans (pw_cell_below hb6 (bel_cell hb5 v0)), (hb7.cell (p := ⟨w.heap.size, 1, none⟩) (Nat.lt_succ_self _)).trans (pw_cell_below hb6 (bel_cell hb5 v1)), (hb7.cell (p := ⟨w.heap.size, 2, none⟩) (Nat.lt_succ_self _)).trans (pw_cell_below hb6 (bel_cell hb5 v2)), (hb7.cell (p := ⟨w.heap.size, 3, none⟩) (Nat.lt_succ_self _)).trans (pw_cell_below hb6 (bel_cell hb5 v3)), (hb7.cell (p := ⟨w.heap.size, 4, none⟩) (Nat.lt_succ_self _)).trans (pw_cell_below hb6 (bel_cell hb5 v4))⟩)
    (first | (go_at_call 37; first | ((with_reducible refine HV1.out.mono ?_); rintro e W5 ⟨rfl, hb5⟩) | ((with_reducible refine (HV2.out W5 hb5).mono ?_); rintro e W6 ⟨rfl, hb6⟩)) | (go_at_call 36; ((with_reducible refine (HWR.out W6 (HBL6.out W5 W6 hb5 hb6)).mono ?_); rintro e W7 ⟨rfl, hbld7, hb7, hok7⟩)))
  have hb27 : Below (w.heap.size + 1) W2 W7 := by
    have h1 := HB3.out
    have h2 : Below W3.heap.size W3 W6 := ((Below.refl W3.heap.size W3).drew).trans (hb5.trans (hb6.mono hb5.size))
    rw [HS1.out] at h1
    exact h1.trans ((h2.mono (by omega)).trans hb7)
  have HB27 := Lib.hid hb27; have HBL7 := Lib.hid hbld7
  obtain ⟨-, -, -, -, -, w5⟩ := box6 ((hb27.block w.heap.size (Nat.lt_succ_self _)).trans HK1.out)
  clear hb5 hb6 hb7 hok7 hbld7 hb27 v0 v1 v2 v3 v4 v5 d1 d2 d3 d4 d5 d6
  go_wp2
  have HCC := Lib.hid (fun (W : World) (h : Below (w.heap.size + 1) W2 W) => (show kRl.C W A p.rules.length p.rules from Kd.C_below HC1.out (by rw [HS1.out]; exact h)))
  have HEE := Lib.hid (fun (W : World) (h : Below (w.heap.size + 1) W2 W) => HE1.out.below (w1 := W) (by rw [HS1.out]; exact h))
  go_loopw [27] (fun v27 wr => ∃ k : Nat, v27 = .int .i64 k ∧ k ≤ p.rules.length ∧ Hid (Below (w.heap.size + 1) W2 wr) ∧ Hid (BldS (w.heap.size + 1) (outL p k) wr)) (fun v27 _ => p.rules.length - (intOf v27).toNat)
  case atStart => exact ⟨0, rfl, by omega, HB27, Lib.hid (by have := HBL7.out; simpa [outL] using this)⟩
  case round =>
    obtain ⟨k, rfl, hk, HB, HBL⟩ := hrel
    obtain ⟨wo, rfl⟩ : ∃ wo : World, wo = wr := ⟨_, rfl⟩
    have hws := HB.out.size
    rw [HS1.out] at hws
    by_cases hlt : k < p.rules.length
    · have hltb : decide ((k : Int) < (p.rules.length : Int)) = true := by simpa using hlt
      have hwk := wrap_s (m := k) (by omega)
      -- the rule, read in the world that the call began with
      have hB2 : Below W2.heap.size W2 wo := by rw [HS1.out]; exact HB.out
      obtain ⟨a0, A2, c2, B2, d2, e0, p0, p1, p2, p3, p4, p5, p6, p7, p8, pl, pc, pm, pd⟩ := at_Rl (HCC.out W2 (Below.refl _ _)) (k : Int) (by omega) (by omega)
      rw [Int.toNat_natCast] at p0 p1 p2 p3 p4 p5 p6 p7 p8
      have hmem := rdRl_mem hlt
      have hsucc := outL_succ p k hlt
      have hok := HP.out.rules _ hmem
      have hwR : wR (rd_Rl p.rules (k : Int)) ≤ 100000 := Nat.le_trans (wR_mem hmem) (by have := HW.out; unfold wP at this; exact this)
      generalize rd_Rl p.rules (k : Int) = r at *
      have HSUCC := Lib.hid hsucc; have HOK := Lib.hid hok; have HWR2 := Lib.hid hwR
      have hcl : r.f0.length ≤ 100000 := by unfold wR at hwR; omega
      have p0 := pw_cell_below hB2 p0; have p1 := pw_cell_below hB2 p1; have p2 := pw_cell_below hB2 p2; have p3 := pw_cell_below hB2 p3; have p4 := pw_cell_below hB2 p4; have p5 := pw_cell_below hB2 p5; have p6 := pw_cell_below hB2 p6; have p7 := pw_cell_below hB2 p7; have p8 := pw_cell_below hB2 p8
      have HCL := Lib.hid (fun (W : World) (h : Below (w.heap.size + 1) W2 W) => (show kCl.C W A2 r.f0.length r.f0 from Kd.C_below pc (by rw [HS1.out]; exact h)))
      have HEX := Lib.hid (fun (W : World) (h : Below (w.heap.size + 1) W2 W) => (show kEx.C W B2 r.f1.f1.length r.f1.f1 from Kd.C_below pd (by rw [HS1.out]; exact h)))
      have hal4 : Below wo.heap.size wo (wo.alloc (rlBox r A2 c2 B2 d2)) := (Below.refl _ _).alloc (Nat.le_refl _) _
      have hxb4 : (wo.alloc (rlBox r A2 c2 B2 d2)).heap[wo.heap.size]? = some (.cells #[.slice A2 r.f0.length c2, .int .i64 r.f1.f0, .slice B2 r.f1.f1.length d2, .int .i64 r.f1.f2, .int .u64 r.f1.f3, .int .i64 r.f1.f4, .int .u64 r.f1.f5, .int .i64 r.f2.f0, .int .u64 r.f2.f1] 70 (0, 0)) := new_blk wo _ _
      have hs4 : (wo.alloc (rlBox r A2 c2 B2 d2)).heap.size = wo.heap.size + 1 := by simp
      obtain ⟨q0, q1, q2, q3, q4, q5, q6, q7, q8⟩ := box9 hxb4
      have HAL4 := Lib.hid hal4; have HXB4 := Lib.hid hxb4; have HS4 := Lib.hid hs4
      have w5' := box6 ((hB2.block w.heap.size (by have := HS1.out; omega)).trans HK1.out)
      obtain ⟨-, -, -, -, -, w5'⟩ := w5'
      subst e0
      clear hsucc hok hwR pc pd pl pm hal4 hxb4 hs4 hmem hB2
      go_wp2
      show Code.wp _ _ _ _ (wo.alloc (rlBox r A2 c2 B2 d2))
      generalize wo.alloc (rlBox r A2 c2 B2 d2) = W4 at *
      clear p0 p1 p2 p3 p4 p5 p6 p7 p8 q0 q1 q2 q3 q4 q5 q6 q7 q8
      have HB4 := Lib.hid (show Below (w.heap.size + 1) W2 W4 from HB.out.trans (HAL4.out.mono (by omega)))
      go_loopw [6, 34] (fun v6 v34 wr => ∃ (j : Nat) (l : List ByteArray), v34 = .int .i64 j ∧ j ≤ r.f0.length ∧ Hid (l = (r.f0.map callT).take j) ∧ Hid (wr.ownsRow (wo.heap.size + 1) 9 1 v6 (pw_strs l).length (pw_strs l)) ∧ Hid (Below (wo.heap.size + 1) W4 wr)) (fun _ v34 _ => r.f0.length - (intOf v34).toNat)
      case atStart => exact ⟨0, [], rfl, by omega, Lib.hid (by simp), Lib.hid (own_nil _ _ _ _), Lib.hid (Below.refl _ _)⟩
      case round =>
        obtain ⟨j, l, rfl, hj, HL, HO, HI⟩ := hrel
        have hwi := HI.out.size
        rw [HS4.out] at hwi
        have HBi := Lib.hid (show Below (w.heap.size + 1) W2 wr from HB4.out.trans (HI.out.mono (by omega)))
        by_cases hjl : j < r.f0.length
        · have hjlb : decide ((j : Int) < (r.f0.length : Int)) = true := by simpa using hjl
          have hwj := wrap_s (m := j) (by omega)
          obtain ⟨a1, e1, i0, i1⟩ := at_Cl (HCL.out wr HBi.out) (j : Int) (by omega) (by omega)
          rw [Int.toNat_natCast] at i0 i1
          have hcmem : rd_Cl r.f0 (j : Int) ∈ r.f0 := by
            unfold rd_Cl
            rw [Int.toNat_natCast, List.getD_eq_getElem?_getD, List.getElem?_eq_getElem hjl]
            exact List.getElem_mem hjl
          have htk : (r.f0.map callT).take (j + 1) = (r.f0.map callT).take j ++ [callT (rd_Cl r.f0 (j : Int))] := by
            have hr : rd_Cl r.f0 (j : Int) = r.f0[j] := by
              unfold rd_Cl
              rw [Int.toNat_natCast, List.getD_eq_getElem?_getD, List.getElem?_eq_getElem hjl]
              rfl
            rw [hr, List.take_succ_eq_append_getElem (by simpa using hjl), List.getElem_map]
          have hokc := HOK.out.calls _ hcmem
          obtain ⟨y, hy⟩ : ∃ y, y = rd_Cl r.f0 (j : Int) := ⟨_, rfl⟩
          rw [← hy] at i0 i1 htk hokc
          clear hy hcmem
          obtain ⟨ct, cn⟩ := y
          dsimp only at i0 i1
          have hal5 : Below wr.heap.size wr (wr.alloc (.cells #[.string ct, .int .u64 cn] 74)) := (Below.refl _ _).alloc (Nat.le_refl _) _
          have hk5 : (wr.alloc (.cells #[.string ct, .int .u64 cn] 74)).heap[wr.heap.size]? = some (.cells #[.string ct, .int .u64 cn] 74 (0, 0)) := new_blk wr _ _
          obtain ⟨z0, z1⟩ := box2' hk5
          have HTK := Lib.hid htk; have HAL5 := Lib.hid hal5; have HK5 := Lib.hid hk5
          clear htk hal5 hk5
          by_cases hct : ct = nil0
          · have hnum : U64 cn := by
              rcases hokc with ⟨_, h⟩ | ⟨h, h2⟩
              · exact h
              · exfalso; simp only at h2; rw [hct] at h2; exact absurd h2 (by decide)
            have HF := Lib.hid (fmt10_any cn hnum.1 hnum.2 _ ((HEE.out wr HBi.out).below HAL5.out).pow)
            have HCT := Lib.hid (show callT ⟨ct, cn⟩ = numB cn by unfold callT; rw [if_pos hct])
            have g2 : ct.toList = [] := empty_yes (by rw [hct]; rfl)
            clear hct hokc hnum
            subst e1
            go_wp2_with fail
            refine HF.out.mono ?_
            rintro e W5 ⟨rfl, hb5⟩
            have hkc := (hb5.block wr.heap.size (by simp)).trans HK5.out
            obtain ⟨u0, u1⟩ := box2' hkc
            have uf := blk_free hkc 0
            have hks := setCell2 (x := .string (numB cn)) hkc
            obtain ⟨s0, s1⟩ := box2' hks
            have hbw5 := HAL5.out.trans (hb5.mono HAL5.out.size)
            have hown5 := own_setCell (pw_own_below HO.out hbw5) (b := wr.heap.size) (j := 0) (own_lt HO.out) (.string (numB cn))
            have HO5 := Lib.hid hown5
            have HI5 := Lib.hid (show Below (wo.heap.size + 1) W4 (W5.setCell ⟨wr.heap.size, 0, none⟩ (.string (numB cn))) from (HI.out.trans (hbw5.mono (by omega))).setCell (by show _ ≤ wr.heap.size; omega) _)
            have hs5 : wo.heap.size + 1 ≤ (W5.setCell ⟨wr.heap.size, 0, none⟩ (.string (numB cn))).heap.size := by have := hbw5.size; simp [World.setCell]; omega
            have hpl : (pw_strs l).length ≤ 100000 := by rw [pw_strs_len, HL.out, List.length_take, List.length_map]; omega
            clear hkc hks hown5 hb5 hbw5 i0 i1 z0 z1
            go_wp2_with (at_builtin; refine print_append (w0 := W5.setCell ⟨wr.heap.size, 0, none⟩ (.string (numB cn))) (W := W5.setCell ⟨wr.heap.size, 0, none⟩ (.string (numB cn))) (wo.heap.size + 1) rfl (.tmp 45) (.tmp 48) 84 9 (.string ⟨#[]⟩) 16 rfl Tryz.underlying84 infoStr rfl (by decide) u6 (pw_strs l) (.string (numB cn)) rfl (by go_simp) rfl HO5.out (Below.refl _ _) hs5 (by omega) ?_; intro v7 w7 hO7 hb7 hg7 hat7)
            have HO7 := Lib.hid hO7
            clear hO7 hat7
            go_roundw
            case rel => exact ⟨j + 1, l ++ [numB cn], by simp, by omega, Lib.hid (by rw [HTK.out, HCT.out, HL.out]), Lib.hid (by rw [pw_strs_snoc]; exact HO7.out), Lib.hid (HI5.out.trans hb7)⟩
            case measure => simp [intOf]; omega
          · have HCT := Lib.hid (show callT ⟨ct, cn⟩ = ct by unfold callT; rw [if_neg hct])
            have g2 : ct.toList.isEmpty = false := empty_no (by rcases Nat.eq_zero_or_pos ct.size with h | h; exact absurd (ba_empty h) hct; exact h)
            clear hct hokc
            subst e1
            have HO5 := Lib.hid (pw_own_below HO.out HAL5.out)
            have hs5 : wo.heap.size + 1 ≤ (wr.alloc (.cells #[.string ct, .int .u64 cn] 74)).heap.size := by simp; omega
            have HI5 := Lib.hid (HI.out.trans (HAL5.out.mono (by omega)))
            have hpl : (pw_strs l).length ≤ 100000 := by rw [pw_strs_len, HL.out, List.length_take, List.length_map]; omega
            go_wp2_with (at_builtin; refine print_append (w0 := wr.alloc (.cells #[.string ct, .int .u64 cn] 74)) (W := wr.alloc (.cells #[.string ct, .int .u64 cn] 74)) (wo.heap.size + 1) rfl (.tmp 45) (.tmp 48) 84 9 (.string ⟨#[]⟩) 16 rfl Tryz.underlying84 infoStr rfl (by decide) u6 (pw_strs l) (.string ct) rfl (by go_simp) rfl HO5.out (Below.refl _ _) hs5 (by omega) ?_; intro v7 w7 hO7 hb7 hg7 hat7)
            have HO7 := Lib.hid hO7
            clear hO7 hat7
            go_roundw
            case rel => exact ⟨j + 1, l ++ [ct], by simp, by omega, Lib.hid (by rw [HTK.out, HCT.out, HL.out]), Lib.hid (by rw [pw_strs_snoc]; exact HO7.out), Lib.hid (HI5.out.trans hb7)⟩
            case measure => simp [intOf]; omega
        · have hjlb : decide ((j : Int) < (r.f0.length : Int)) = false := by simpa using hjl
          have hle : r.f0.length ≤ j := by omega
          have hll : l = r.f0.map callT := by rw [HL.out, List.take_of_length_le (by rw [List.length_map]; exact hle)]
          have hrpos : 0 < r.f0.length := List.length_pos_iff.2 HOK.out.ne
          have hpos : 0 < l.length := by rw [hll, List.length_map]; exact hrpos
          obtain ⟨g, cap, hv6, hcap, hg, hcl2⟩ := own_strs HO.out hpos
          have hjz := join_calls HOK.out
          rw [← hll] at hjz
          have hjz2 : (joinT sCommaS l).size ≤ 10000000 := by omega
          have HJ := Lib.hid (join_any g cap l sCommaS wr hcl2 hg hcap (by rw [hll, List.length_map]; omega) (by omega))
          have HBLr := Lib.hid (((HBL.out.below HAL4.out).below (show Below W4.heap.size W4 wr by rw [HS4.out]; exact HI.out)))
          have HXr := Lib.hid ((HI.out.block wo.heap.size (by omega)).trans HXB4.out)
          have HLL := Lib.hid hll
          have HO3 := Lib.hid (outL_len HP.out HW.out k)
          subst hv6
          have d1 : ¬ 9223372036854775807 < 3 + (joinT sCommaS l).size := by omega
          clear hjl hll hrpos hpos hcap hg hcl2 hjz HL HO
          go_wp2_with fail
          refine HJ.out.mono ?_
          rintro e W5 ⟨rfl, hb5⟩
          have HW1 := Lib.hid (show Calls Tryz.prog 36 #[.pointer (some ⟨w.heap.size + 1, 0, none⟩), .string ((⟨#[111, 110, 32]⟩ : ByteArray) ++ joinT sCommaS l)] W5 fun e w' => e = .returned (.tuple #[.int .i64 ((⟨#[111, 110, 32]⟩ : ByteArray) ++ joinT sCommaS l).size, .nilIface]) ∧ BldS (w.heap.size + 1) (outL p k ++ (sOnS ++ joinT sCommaS l).data.toList) w' ∧ Below (w.heap.size + 1) W5 w' ∧ Lib.OthersKept 5 (some (w.heap.size + 1)) W5 w' from bwrite_any (w.heap.size + 1) _ (sOnS ++ joinT sCommaS l) W5 (HBLr.out.below hb5) (by have := HO3.out; simp only [ByteArray.size_append]; have : sOnS.size = 3 := rfl; omega))
          have HB5 := Lib.hid (HBi.out.trans (hb5.mono (by have := HBi.out.size; have := HS1.out; omega)))
          have HX5 := Lib.hid ((hb5.block wo.heap.size (by have := hwi; omega)).trans HXr.out)
          clear hb5
          go_wp2_with fail
          refine HW1.out.mono ?_
          rintro e W6 ⟨rfl, hbl6, hb6, hok6⟩
          have hx6 := others_blk hok6 HX5.out (by have := HBL.out.lt; omega) (by decide)
          have HX6 := Lib.hid hx6; have HL6 := Lib.hid hbl6; have HB6 := Lib.hid (HB5.out.trans hb6)
          have HZ6 := Lib.hid (show (outL p k ++ (sOnS ++ joinT sCommaS l).data.toList).length ≤ 50000000 by rw [List.length_append, ← ba_size, ByteArray.size_append]; have := HO3.out; have : sOnS.size = 3 := rfl; omega)
          obtain ⟨-, x1, x2, x3, x4, x5, x6, -, -⟩ := box9 hx6
          clear hbl6 hb6 hok6 hx6 hjz2
          by_cases hw1 : r.f1.f0 = 1
          · have bw : (r.f1.f0 != 1) = false := by simpa using hw1
            have HFIN := Lib.hid (show (outL p k ++ (sOnS ++ joinT sCommaS l).data.toList) ++ ((sDoS ++ vdT r.f2) ++ sSemiN).data.toList = outL p (k + 1) by
              rw [HSUCC.out, HLL.out]; unfold ruleT whenT; rw [if_pos hw1, ba_app (_ ++ nil0), ba_app _ nil0, List.append_assoc, List.append_assoc]; rfl)
            have HXV := HX6; have HBV := HB6; have HLV := HL6; have HLZ := HZ6
            clear hw1
            have hxV := HXV.out
            obtain ⟨-, -, -, -, -, -, -, x7, x8⟩ := box9 hxV
            have HVD := Lib.hid (pverdict_any r.f2 HOK.out.verd W6 (HEE.out W6 HBV.out).pow)
            have hvz := vdT_size HOK.out.verd
            have e1 : ¬ 9223372036854775807 < 4 + (vdT r.f2).size := by omega
            have e2 : ¬ 9223372036854775807 < 4 + (vdT r.f2).size + 2 := by omega
            clear hxV hvz
            go_wp2_with fail
            refine HVD.out.mono ?_
            rintro e V9 ⟨rfl, hb9⟩
            have HW3 := Lib.hid (show Calls Tryz.prog 36 #[.pointer (some ⟨w.heap.size + 1, 0, none⟩), .string (((⟨#[32, 100, 111, 32]⟩ : ByteArray) ++ vdT r.f2) ++ ⟨#[59, 10]⟩)] V9 fun e w' => e = .returned (.tuple #[.int .i64 (((⟨#[32, 100, 111, 32]⟩ : ByteArray) ++ vdT r.f2) ++ ⟨#[59, 10]⟩).size, .nilIface]) ∧ BldS (w.heap.size + 1) ((outL p k ++ (sOnS ++ joinT sCommaS l).data.toList) ++ ((sDoS ++ vdT r.f2) ++ sSemiN).data.toList) w' ∧ Below (w.heap.size + 1) V9 w' ∧ Lib.OthersKept 5 (some (w.heap.size + 1)) V9 w' from bwrite_any (w.heap.size + 1) _ ((sDoS ++ vdT r.f2) ++ sSemiN) V9 (HLV.out.below hb9) (by have := HLZ.out; have := vdT_size HOK.out.verd; simp only [ByteArray.size_append]; have : sDoS.size = 4 := rfl; have : sSemiN.size = 2 := rfl; omega))
            have HBV9 := Lib.hid (HBV.out.trans (hb9.mono (by have := HBV.out.size; have := HS1.out; omega)))
            clear hb9 x7 x8
            go_wp2_with fail
            refine HW3.out.mono ?_
            rintro e V10 ⟨rfl, hbl10, hb10, -⟩
            have HBL10 := Lib.hid hbl10
            have HB10 := Lib.hid (HBV9.out.trans hb10)
            clear hbl10 hb10
            go_wp2
            go_roundw
            case rel => exact ⟨k + 1, by simp, by omega, HB10, Lib.hid (by have := HBL10.out; rw [HFIN.out] at this; exact this)⟩
            case measure => simp [intOf]; omega
          · have bw : (r.f1.f0 != 1) = true := by simpa using hw1
            have hwe : wE r.f1 ≤ 100000 := by have := HWR2.out; unfold wR at this; omega
            have hpz := prE_size r.f1 HOK.out.cond
            have hpz2 : (prE r.f1).size ≤ 6400000 := by omega
            have HPE := Lib.hid (pe_any _ r.f1 (Nat.lt_succ_self _) HOK.out.cond hwe B2 d2 W6 (HEE.out W6 HB6.out) (HEX.out W6 HB6.out))
            have HFIN := Lib.hid (show ((outL p k ++ (sOnS ++ joinT sCommaS l).data.toList) ++ (sWhenS ++ prE r.f1).data.toList) ++ ((sDoS ++ vdT r.f2) ++ sSemiN).data.toList = outL p (k + 1) by
              rw [HSUCC.out, HLL.out]; unfold ruleT whenT; rw [if_neg hw1, ba_app (_ ++ (sWhenS ++ _)), ba_app _ (sWhenS ++ _), List.append_assoc, List.append_assoc, List.append_assoc])
            have d3 : ¬ 9223372036854775807 < 6 + (prE r.f1).size := by omega
            clear hw1 hwe hpz
            go_wp2_with fail
            refine HPE.out.mono ?_
            rintro e W7 ⟨rfl, hb7⟩
            have HW2 := Lib.hid (show Calls Tryz.prog 36 #[.pointer (some ⟨w.heap.size + 1, 0, none⟩), .string ((⟨#[32, 119, 104, 101, 110, 32]⟩ : ByteArray) ++ prE r.f1)] W7 fun e w' => e = .returned (.tuple #[.int .i64 ((⟨#[32, 119, 104, 101, 110, 32]⟩ : ByteArray) ++ prE r.f1).size, .nilIface]) ∧ BldS (w.heap.size + 1) ((outL p k ++ (sOnS ++ joinT sCommaS l).data.toList) ++ (sWhenS ++ prE r.f1).data.toList) w' ∧ Below (w.heap.size + 1) W7 w' ∧ Lib.OthersKept 5 (some (w.heap.size + 1)) W7 w' from bwrite_any (w.heap.size + 1) _ (sWhenS ++ prE r.f1) W7 (HL6.out.below hb7) (by have := HZ6.out; simp only [ByteArray.size_append]; have : sWhenS.size = 6 := rfl; omega))
            have HB7 := Lib.hid (HB6.out.trans (hb7.mono (by have := HB6.out.size; have := HS1.out; omega)))
            have HX7 := Lib.hid ((hb7.block wo.heap.size (box_lt HX6.out)).trans HX6.out)
            clear hb7 x1 x2 x3 x4 x5 x6
            go_wp2_with fail
            refine HW2.out.mono ?_
            rintro e W8 ⟨rfl, hbl8, hb8, hok8⟩
            have hx8 := others_blk hok8 HX7.out (by have := HBL.out.lt; omega) (by decide)
            have HXV := Lib.hid hx8; have HLV := Lib.hid hbl8; have HBV := Lib.hid (HB7.out.trans hb8)
            have HLZ := Lib.hid (show ((outL p k ++ (sOnS ++ joinT sCommaS l).data.toList) ++ (sWhenS ++ prE r.f1).data.toList).length ≤ 90000000 by rw [List.length_append, ← ba_size (sWhenS ++ _), ByteArray.size_append]; have := HZ6.out; have : sWhenS.size = 6 := rfl; omega)
            clear hbl8 hb8 hok8 hx8 hpz2
            have hxV := HXV.out
            obtain ⟨-, -, -, -, -, -, -, x7, x8⟩ := box9 hxV
            have HVD := Lib.hid (pverdict_any r.f2 HOK.out.verd W8 (HEE.out W8 HBV.out).pow)
            have hvz := vdT_size HOK.out.verd
            have e1 : ¬ 9223372036854775807 < 4 + (vdT r.f2).size := by omega
            have e2 : ¬ 9223372036854775807 < 4 + (vdT r.f2).size + 2 := by omega
            clear hxV hvz
            go_wp2_with fail
            refine HVD.out.mono ?_
            rintro e V9 ⟨rfl, hb9⟩
            have HW3 := Lib.hid (show Calls Tryz.prog 36 #[.pointer (some ⟨w.heap.size + 1, 0, none⟩), .string (((⟨#[32, 100, 111, 32]⟩ : ByteArray) ++ vdT r.f2) ++ ⟨#[59, 10]⟩)] V9 fun e w' => e = .returned (.tuple #[.int .i64 (((⟨#[32, 100, 111, 32]⟩ : ByteArray) ++ vdT r.f2) ++ ⟨#[59, 10]⟩).size, .nilIface]) ∧ BldS (w.heap.size + 1) (((outL p k ++ (sOnS ++ joinT sCommaS l).data.toList) ++ (sWhenS ++ prE r.f1).data.toList) ++ ((sDoS ++ vdT r.f2) ++ sSemiN).data.toList) w' ∧ Below (w.heap.size + 1) V9 w' ∧ Lib.OthersKept 5 (some (w.heap.size + 1)) V9 w' from bwrite_any (w.heap.size + 1) _ ((sDoS ++ vdT r.f2) ++ sSemiN) V9 (HLV.out.below hb9) (by have := HLZ.out; have := vdT_size HOK.out.verd; simp only [ByteArray.size_append]; have : sDoS.size = 4 := rfl; have : sSemiN.size = 2 := rfl; omega))
            have HBV9 := Lib.hid (HBV.out.trans (hb9.mono (by have := HBV.out.size; have := HS1.out; omega)))
            clear hb9 x7 x8
            go_wp2_with fail
            refine HW3.out.mono ?_
            rintro e V10 ⟨rfl, hbl10, hb10, -⟩
            have HBL10 := Lib.hid hbl10
            have HB10 := Lib.hid (HBV9.out.trans hb10)
            clear hbl10 hb10
            go_wp2
            go_roundw
            case rel => exact ⟨k + 1, by simp, by omega, HB10, Lib.hid (by have := HBL10.out; rw [HFIN.out] at this; exact this)⟩
            case measure => simp [intOf]; omega
    · have hltb : decide ((k : Int) < (p.rules.length : Int)) = false := by simpa using hlt
      have hle : p.rules.length ≤ k := by omega
      have hke : k = p.rules.length := by omega
      have HBS := Lib.hid (bstring_any _ _ _ HBL.out)
      have HF := Lib.hid (show S = ⟨(outL p k).toArray⟩ by rw [HS.out, hke]; rfl)
      have hBw := HB1.out.trans (HB.out.mono (by omega))
      have HBW := Lib.hid hBw
      clear hlt hltb hke hBw
      go_wp2_with fail
      refine HBS.out.mono ?_
      rintro e W9 ⟨rfl, hb9⟩
      go_wp2
      go_ret
      exact ⟨by rw [HF.out]; rfl, HBW.out.trans (hb9.mono (by omega))⟩
end Go.Proofs.YtlmopoipjolbgaaGreatDoor.LexW
namespace Go.Proofs.YtlmopoipjolbgaaGreatDoor.LexW
open Go.RowKit Go.Shelf Go.Proofs.YtlmopoipjolbgaaGreatDoor.LexS Go.Proofs.YtlmopoipjolbgaaGreatDoorW.PrintWords
set_option linter.unusedVariables false
set_option linter.unusedSimpArgs false

/-- an argument's depth, within an operation -/
def dA (op : Int) (y : Ex) : Nat := dE y + (if aroundB op y.f0 = true then 1 else 0)
theorem dL_take (op : Int) (l : List Ex) (k : Nat) (h : k < l.length) : dL op (l.take (k + 1)) = max (dL op (l.take k)) (dA op (rd_Ex l (k : Int))) := by
  have hr : rd_Ex l (k : Int) = l[k] := by
    unfold rd_Ex
    rw [Int.toNat_natCast, List.getD_eq_getElem?_getD, List.getElem?_eq_getElem h]
    rfl
  rw [hr, List.take_succ_eq_append_getElem h, dL_snoc]
  rfl
theorem dL_mono (op : Int) : ∀ (l : List Ex) (k : Nat), dL op (l.take k) ≤ dL op l
  | [], k => by simp
  | x :: l, 0 => by simp [dL]
  | x :: l, k + 1 => by
    have := dL_mono op l k
    rw [List.take_succ_cons, dL, dL]
    omega
def DeC (x : Ex) : Prop := ∀ (A : Option Addr) (c : Nat) (w : World), kEx.C w A x.f1.length x.f1 →
    Calls Tryz.prog 18 #[.agg #[.int .i64 x.f0, .slice A x.f1.length c, .int .i64 x.f2, .int .u64 x.f3, .int .i64 x.f4, .int .u64 x.f5]] w fun e w' => e = .returned (.int .i64 (dE x : Nat)) ∧ Below w.heap.size w w'

set_option maxHeartbeats 4000000 in
set_option maxRecDepth 100000 in
theorem dep_any (n : Nat) : ∀ (x : Ex), SizeOf.sizeOf x < n → wE x ≤ 100000 → DeC x := by
  induction n with
  | zero => intro x h; omega
  | succ n ih =>
  intro x hx hw A c w hC
  have hw2 := hw
  rw [wE_eq] at hw2
  have hlen := wL_len x.f1
  have hl100 : x.f1.length ≤ 100000 := by omega
  have hdl : dL x.f0 x.f1 ≤ 200000 := by have := dL_le x.f0 x.f1; omega
  have IH := Lib.hid (fun (y : Ex) (hy : y ∈ x.f1) => ih y (by have := mem_size hy rfl; omega) (by have := wE_mem hy; omega))
  have IDE := Lib.hid (fun (y : Ex) (hy : y ∈ x.f1) => (show dE y ≤ 200000 by have := dE_le y; have := wE_mem hy; omega))
  have hb1 : Below w.heap.size w (w.alloc (exBox x A c)) := (Below.refl _ w).alloc (Nat.le_refl _) _
  have hk1 : (w.alloc (exBox x A c)).heap[w.heap.size]? = some (.cells #[.int .i64 x.f0, .slice A x.f1.length c, .int .i64 x.f2, .int .u64 x.f3, .int .i64 x.f4, .int .u64 x.f5] 37 (0, 0)) := new_blk w _ _
  have hs1 : (w.alloc (exBox x A c)).heap.size = w.heap.size + 1 := by simp
  obtain ⟨y0, y1, y2, y3, y4, y5⟩ := box6 hk1
  have HB1 := Lib.hid hb1; have HK1 := Lib.hid hk1; have HS1 := Lib.hid hs1; have HC1 := Lib.hid (Kd.C_below hC hb1)
  have HDE := Lib.hid (dE_eq x)
  clear ih hw hw2 hlen hb1 hk1 hs1 hC hx
  obtain ⟨S, hS⟩ : ∃ S, S = dE x := ⟨_, rfl⟩
  rw [← hS]
  have HS := Lib.hid hS
  clear hS
  go_enter Tryz.func18, Tryz.ntmps18
  go_wp2
  show Code.wp _ _ _ _ (w.alloc (exBox x A c))
  generalize w.alloc (exBox x A c) = W1 at *
  clear y0 y1 y2 y3 y4 y5
  go_loopw [3, 10] (fun v3 v10 wr => ∃ (k m : Nat), v10 = .int .i64 k ∧ v3 = .int .i64 m ∧ k ≤ x.f1.length ∧ Hid (m = dL x.f0 (x.f1.take k)) ∧ Hid (Below W1.heap.size W1 wr)) (fun _ v10 _ => x.f1.length - (intOf v10).toNat)
  case atStart => exact ⟨0, 0, rfl, rfl, by omega, Lib.hid (by simp [dL]), Lib.hid (Below.refl _ _)⟩
  case round =>
    obtain ⟨k, m, rfl, rfl, hk, HM, HB⟩ := hrel
    have hws := HB.out.size
    rw [HS1.out] at hws
    have hm : m ≤ 200000 := by have := dL_mono x.f0 x.f1 k; have := HM.out; omega
    have HKr := Lib.hid ((HB.out.block w.heap.size (by rw [HS1.out]; omega)).trans HK1.out)
    have HCr := Lib.hid (Kd.C_below HC1.out HB.out)
    by_cases hlt : k < x.f1.length
    · have hltb : decide ((k : Int) < (x.f1.length : Int)) = true := by simpa using hlt
      obtain ⟨a0, A2, c2, e0, p0, p1, p2, p3, p4, p5, pl, pc⟩ := at_Ex HCr.out (k : Int) (by omega) (by omega)
      rw [Int.toNat_natCast] at p0 p1 p2 p3 p4 p5
      have hmem := rdEx_mem hlt
      have htk := dL_take x.f0 x.f1 k hlt
      have hIn := IH.out _ hmem
      have hde := IDE.out _ hmem
      generalize rd_Ex x.f1 (k : Int) = y at *
      have hal : Below wr.heap.size wr (wr.alloc (exBox y A2 c2)) := (Below.refl _ _).alloc (Nat.le_refl _) _
      have hk2 : (wr.alloc (exBox y A2 c2)).heap[wr.heap.size]? = some (.cells #[.int .i64 y.f0, .slice A2 y.f1.length c2, .int .i64 y.f2, .int .u64 y.f3, .int .i64 y.f4, .int .u64 y.f5] 37 (0, 0)) := new_blk wr _ _
      obtain ⟨z0, z1, z2, z3, z4, z5⟩ := box6 hk2
      have HR := Lib.hid (hIn A2 c2 _ (Kd.C_below pc hal))
      have HTK := Lib.hid htk; have HAL := Lib.hid hal; have HK2 := Lib.hid hk2
      have hwr := wrap_s (m := k) (by omega)
      subst e0
      obtain ⟨d, hd⟩ : ∃ d, d = dE y := ⟨_, rfl⟩
      rw [← hd] at HR hde
      have HD := Lib.hid hd
      clear htk hIn hal hk2 pc pl hmem hd
      go_wp2_with fail
      refine HR.out.mono ?_
      rintro e W5 ⟨rfl, hb5⟩
      obtain ⟨z0', z1', z2', z3', z4', z5'⟩ := box6 ((hb5.block wr.heap.size (by simp)).trans HK2.out)
      have hbr5 := HAL.out.trans (hb5.mono HAL.out.size)
      obtain ⟨y0, y1, -, -, -, -⟩ := box6 ((hbr5.block w.heap.size (by omega)).trans HKr.out)
      have HB5 := Lib.hid (HB.out.trans ((hbr5.trans ((Below.refl _ W5).alloc (Nat.le_refl _) (exBoxV y (.slice A2 y.f1.length c2)) |>.mono hbr5.size)).mono HB.out.size))
      clear hb5 p0 p1 p2 p3 p4 p5 z0 z1 z2 z3 z4 z5 hbr5
      go_wp2_with fail
      refine (around_any x.f0 y (.slice A2 y.f1.length c2) _).mono ?_
      rintro e W6 ⟨rfl, rfl⟩
      clear y0 y1 z0' z1' z2' z3' z4' z5'
      by_cases hr : aroundB x.f0 y.f0 = true
      · have HDA := Lib.hid (show dA x.f0 y = d + 1 by unfold dA; rw [if_pos hr, HD.out])
        have hwd := wrap_s (m := d) (by omega)
        go_wp2
        go_roundw
        case rel => exact ⟨k + 1, max m (d + 1), by simp, congrArg (Value.int .i64) (by omega), by omega, Lib.hid (by rw [HTK.out, HDA.out, HM.out]), HB5⟩
        case measure => simp [intOf]; omega
      · have hr2 : aroundB x.f0 y.f0 = false := by simpa using hr
        have HDA := Lib.hid (show dA x.f0 y = d by unfold dA; rw [if_neg hr, HD.out]; omega)
        clear hr
        go_wp2
        go_roundw
        case rel => exact ⟨k + 1, max m d, by simp, congrArg (Value.int .i64) (by omega), by omega, Lib.hid (by rw [HTK.out, HDA.out, HM.out]), HB5⟩
        case measure => simp [intOf]; omega
    · have hltb : decide ((k : Int) < (x.f1.length : Int)) = false := by simpa using hlt
      have hle : x.f1.length ≤ k := by omega
      have hBw : Below w.heap.size w wr := HB1.out.trans (HB.out.mono (by rw [HS1.out]; omega))
      have hmm : m = dL x.f0 x.f1 := by rw [HM.out, List.take_of_length_le hle]
      obtain ⟨y0, y1, -, -, -, -⟩ := box6 HKr.out
      have HBW := Lib.hid hBw; have HMM := Lib.hid hmm
      have hwm := wrap_s (m := m) (by omega)
      clear hlt hltb hBw hmm
      by_cases o3 : x.f0 = 3
      · have b3 : (x.f0 == 3) = true := by simpa using o3
        have HT := Lib.hid (show S = m + 1 by rw [HS.out, HDE.out, HMM.out, if_pos o3])
        clear o3
        go_wp2
        go_ret
        exact ⟨by rw [HT.out]; rfl, HBW.out⟩
      · have b3 : (x.f0 == 3) = false := by simpa using o3
        have HT := Lib.hid (show S = m by rw [HS.out, HDE.out, HMM.out, if_neg o3]; rfl)
        clear o3
        go_wp2
        go_ret
        exact ⟨by rw [HT.out]; rfl, HBW.out⟩
end Go.Proofs.YtlmopoipjolbgaaGreatDoor.LexW
namespace Go.Proofs.YtlmopoipjolbgaaGreatDoor.LexW
open Go.RowKit Go.Shelf Go.Proofs.YtlmopoipjolbgaaGreatDoor.LexS Go.Proofs.YtlmopoipjolbgaaGreatDoorW.PrintWords
set_option linter.unusedVariables false
set_option linter.unusedSimpArgs false

theorem valL_hex_lt : ∀ (l : List UInt8) (n k : Nat), l.all hexB = true → n < 16 ^ k → valL 16 hexV n l < 16 ^ (k + l.length)
  | [], n, k, _, h => h
  | c :: l, n, k, ha, h => by
    rw [List.all_cons, Bool.and_eq_true] at ha
    have hc : hexV c < 16 := by
      have := ha.1
      unfold hexB digitB at this
      unfold hexV
      simp only [Bool.or_eq_true, Bool.and_eq_true, decide_eq_true_eq] at this
      simp only [UInt8.le_iff_toNat_le] at this ⊢
      have e48 : (48 : UInt8).toNat = 48 := rfl
      have e57 : (57 : UInt8).toNat = 57 := rfl
      have e97 : (97 : UInt8).toNat = 97 := rfl
      have e102 : (102 : UInt8).toNat = 102 := rfl
      rw [e48, e57, e97, e102] at this
      rw [e57]
      split <;> omega
    have := valL_hex_lt l (16 * n + hexV c) (k + 1) ha.2 (by rw [Nat.pow_succ]; omega)
    rw [valL, List.length_cons, show k + (l.length + 1) = k + 1 + l.length by omega]
    exact this
theorem numL_lt {l : List UInt8} {n : Nat} (h : numL l = some n) : n < 18446744073709551616 := by
  unfold numL at h
  split at h
  · split at h
    · rename_i hh
      cases h
      have := valL_hex_lt (l.drop 2) 0 0 hh.2.2 (by decide)
      refine Nat.lt_of_lt_of_le this ?_
      have h2 : 16 ^ (0 + (l.drop 2).length) ≤ 16 ^ 16 := Nat.pow_le_pow_right (by decide) (by have := hh.2.1; omega)
      exact Nat.le_trans h2 (by decide)
    · cases h
  · split at h
    · rename_i hh
      cases h
      exact hh.2.2.2
    · cases h
theorem numR_u64 (l : List UInt8) : U64 (numR l).1 := by
  unfold numR
  cases h : numL l with
  | none => exact u64_0
  | some n => exact ⟨by simp, by have := numL_lt h; simp only; omega⟩
theorem like_ok {t : Tk} {c : UInt8} {T : List UInt8} (h : TkLike t c T) : TkFit t := by
  have h1 := tk_kinds h
  have h2 := (tk_text h).1
  refine ⟨?_, fun hk => ?_⟩
  · cases h with
    | number hT hk hc hw hr hn => rw [hn]; exact numR_u64 _
    | word => simp_all [u64_0]
    | sign => simp_all [u64_0]
  · rw [h2, ← h1.2.2.2, hk]; rfl
theorem toksF_ok (s : ByteArray) : ∀ f k, TksFit (toksF f s k).1
  | 0, k => by intro t h; simp [toksF] at h
  | f + 1, k => by
    intro t ht
    unfold toksF at ht
    split at ht
    · simp at ht
    · rename_i h0
      have h0 : errOf (nextV s k) = 0 := by simpa using h0
      split at ht
      · rename_i h1
        rw [List.mem_singleton.1 ht]
        obtain ⟨_, _, ⟨hend, _⟩ | ⟨p, q, _, _, _, _, h2, _, _, _⟩⟩ := next_ok s k h0
        · rw [hend]; exact ⟨u64_0, fun h => absurd (show (1 : Int) = 2 from h) (by decide)⟩
        · exact absurd h1 h2
      · rename_i h1
        rcases List.mem_cons.1 ht with rfl | ht
        · obtain ⟨c, T, hl⟩ := tok_like s k h0 h1
          exact like_ok hl
        · exact toksF_ok s f _ t ht
theorem toks_tok (s : ByteArray) : TksFit (toks s).1 := toksF_ok s _ _

theorem wholeP_val {α : Type} {P : α → Prop} {w : α → Nat} {f : EP → List Tk → Rd α} (hf : ∀ ep, Yields P w (f ep)) {s : ByteArray} {x : α} (h : wholeP f s = .ok x) : P x ∧ w x ≤ (toks s).1.length := by
  have hg := toks_tok s
  unfold wholeP at h
  split at h
  · cases h
  · obtain ⟨p, h1, h2⟩ := bnd_inv h
    have hy := hf _ _ _ _ hg h1
    obtain ⟨q, h3, h4⟩ := bnd_inv h2
    cases h4
    exact ⟨hy.1, by omega⟩
/-- an expression that was read -/
theorem exprV_val {s : ByteArray} {X : Ex} {e1 q1 : Int} (h : exprV s = (X, (e1, q1))) (h0 : e1 = 0) : okE X ∧ wE X ≤ 65538 ∧ dE X ≤ 64 := by
  unfold exprV at h
  split at h
  · rename_i x hx
    injection h with ha hb
    subst ha
    have hv := wholeP_val (fun ep => exprP_y ep (oneP_y ep 64)) hx
    have hl := toks_len s
    exact ⟨hv.1.1, by omega, hv.1.2⟩
  · rename_i e he
    injection h with ha hb
    exfalso
    have := wholeP_nz (fun ep => expr_nz ep (one_nz ep 64)) s e he
    rw [hb] at this
    exact this h0
theorem parseV_val {s : ByteArray} {P : Po} {e1 q1 : Int} (h : parseV s = (P, (e1, q1))) (h0 : e1 = 0) : okP P ∧ wP P ≤ 65538 := by
  unfold parseV at h
  split at h
  · rename_i x hx
    injection h with ha hb
    subst ha
    have hv := wholeP_val policyP_y hx
    have hl := toks_len s
    exact ⟨hv.1, by omega⟩
  · rename_i e he
    injection h with ha hb
    exfalso
    have := wholeP_nz policy_nz s e he
    rw [hb] at this
    exact this h0
end Go.Proofs.YtlmopoipjolbgaaGreatDoor.LexW
namespace Go.Proofs.YtlmopoipjolbgaaGreatDoor.LexW
open Go.RowKit Go.Shelf Go.Proofs.YtlmopoipjolbgaaGreatDoor.LexS Go.Proofs.YtlmopoipjolbgaaGreatDoorW.PrintWords
set_option linter.unusedVariables false
set_option linter.unusedSimpArgs false

/-- the same tokens, wherever they stand -/
def Alike (L L' : List Tk) : Prop := L.map strip = L'.map strip
theorem Alike.len {L L' : List Tk} (h : Alike L L') : L.length = L'.length := by have := congrArg List.length h; simpa using this
theorem Alike.hd {L L' : List Tk} (h : Alike L L') : strip (hdT L) = strip (hdT L') := by
  unfold Alike at h
  cases L with
  | nil => cases L' with
    | nil => rfl
    | cons _ _ => simp at h
  | cons a L => cases L' with
    | nil => simp at h
    | cons b L' => simp only [List.map_cons, List.cons.injEq] at h; exact h.1
theorem Alike.kind {L L' : List Tk} (h : Alike L L') : (hdT L).kind = (hdT L').kind := congrArg (fun x => x.1) h.hd
theorem Alike.text {L L' : List Tk} (h : Alike L L') : (hdT L).text = (hdT L').text := congrArg (fun x => x.2.1) h.hd
theorem Alike.num {L L' : List Tk} (h : Alike L L') : (hdT L).num = (hdT L').num := congrArg (fun x => x.2.2) h.hd
theorem strip_isT {x : ByteArray} {t t' : Tk} (h : strip t = strip t') : isT x t = isT x t' := by
  have h1 : t.kind = t'.kind := congrArg (fun x => x.1) h
  have h2 : t.text = t'.text := congrArg (fun x => x.2.1) h
  unfold isT; rw [h1, h2]
theorem Alike.is {L L' : List Tk} (h : Alike L L') (x : ByteArray) : isT x (hdT L) = isT x (hdT L') := strip_isT h.hd

/-- the same answer, but for places -/
inductive RelV {α : Type} (V : α → α → Prop) : Rd α → Rd α → Prop
  | ok {a b : α} {L L' : List Tk} (hV : V a b) (hA : Alike L L') : RelV V (.ok (a, L)) (.ok (b, L'))
  | err {p q : EP} (h : p.1 = q.1) : RelV V (.error p) (.error q)
theorem rel_bnd {α β : Type} {V : α → α → Prop} {U : β → β → Prop} {r r' : Rd α} {f f' : α × List Tk → Rd β} (h : RelV V r r') (hf : ∀ a b L L', V a b → Alike L L' → RelV U (f (a, L)) (f' (b, L'))) : RelV U (bnd r f) (bnd r' f') := by
  cases h with
  | ok hV hA => exact hf _ _ _ _ hV hA
  | err h => exact .err h
section
variable {ep ep' : EP} (he : ep.1 = ep'.1)
include he
theorem step_bnd {β : Type} {U : β → β → Prop} {L L' : List Tk} {f f' : List Tk → Rd β} (h : Alike L L') (hf : ∀ L1 L1', Alike L1 L1' → RelV U (f L1) (f' L1')) : RelV U (bnd (stepP ep L) f) (bnd (stepP ep' L') f') := by
  unfold Alike at h
  match L, L', h with
  | [], [], _ => exact .err he
  | [_], [_], _ => exact .err he
  | _ :: a :: r, _ :: b :: r', h =>
    refine hf (a :: r) (b :: r') ?_
    simp only [List.map_cons, List.cons.injEq] at h
    unfold Alike
    simp only [List.map_cons, List.cons.injEq]
    exact h.2
  | [], _ :: _, h => simp at h
  | _ :: _, [], h => simp at h
  | [_], _ :: _ :: _, h => simp at h
  | _ :: _ :: _, [_], h => simp at h
theorem maybe_al (x : ByteArray) {L L' : List Tk} (h : Alike L L') : RelV Eq (maybeP ep x L) (maybeP ep' x L') := by
  unfold maybeP
  rw [h.is x]
  split
  · exact step_bnd he h (fun L1 L1' h1 => .ok rfl h1)
  · exact .ok rfl h
theorem want_al (x : ByteArray) {L L' : List Tk} (h : Alike L L') : RelV Eq (wantP ep x L) (wantP ep' x L') := by
  unfold wantP
  rw [h.is x]
  split
  · exact step_bnd he h (fun L1 L1' h1 => .ok rfl h1)
  · exact .err rfl
theorem kind_al (k : Int) {L L' : List Tk} (h : Alike L L') : RelV (fun a b => strip a = strip b) (kindP ep k L) (kindP ep' k L') := by
  unfold kindP
  rw [h.kind]
  split
  · split
    · exact .ok h.hd h
    · exact step_bnd he h (fun L1 L1' h1 => .ok h.hd h1)
  · exact .err rfl
theorem verdict_al {L L' : List Tk} (h : Alike L L') : RelV Eq (verdictP ep L) (verdictP ep' L') := by
  unfold verdictP
  rw [h.kind, h.text]
  split
  · split
    · refine step_bnd he h (fun L1 L1' h1 => ?_)
      split
      · refine rel_bnd (kind_al he 3 h1) (fun a b M M' hab hM => .ok ?_ hM)
        show (⟨_, a.num⟩ : Vd) = ⟨_, b.num⟩
        rw [show a.num = b.num from congrArg (fun x => x.2.2) hab]
      · exact .ok rfl h1
    · exact .err rfl
  · exact .err rfl
theorem call_al {L L' : List Tk} (h : Alike L L') : RelV Eq (callP ep L) (callP ep' L') := by
  unfold callP
  rw [h.kind]
  split
  · refine rel_bnd (kind_al he 3 h) (fun a b M M' hab hM => .ok ?_ hM)
    show (⟨nil0, a.num⟩ : Cl) = ⟨nil0, b.num⟩
    rw [show a.num = b.num from congrArg (fun x => x.2.2) hab]
  · refine rel_bnd (kind_al he 2 h) (fun a b M M' hab hM => .ok ?_ hM)
    show (⟨a.text, 0⟩ : Cl) = ⟨b.text, 0⟩
    rw [show a.text = b.text from congrArg (fun x => x.2.1) hab]
omit he in
theorem relF_al {t t' : Tk} (h : strip t = strip t') : ∀ n, relF t n = relF t' n := by
  intro n
  induction n with
  | zero => rfl
  | succ n ih => unfold relF; rw [strip_isT h, ih]
theorem mask_al {L L' : List Tk} (h : Alike L L') : RelV Eq (maskP ep L) (maskP ep' L') := by
  unfold maskP
  rw [h.kind]
  split
  · refine rel_bnd (maybe_al he sAmp h) (fun a b M M' hab hM => ?_)
    subst hab
    show RelV Eq (if a = true then _ else _) (if a = true then _ else _)
    split
    · refine rel_bnd (kind_al he 3 hM) (fun a b M M' hab hM => .ok ?_ hM)
      exact congrArg (fun x => x.2.2) hab
    · exact .ok rfl hM
  · exact .ok rfl h
theorem test_al (f : Int) {L L' : List Tk} (h : Alike L L') : RelV Eq (testP ep f L) (testP ep' f L') := by
  unfold testP
  refine step_bnd he h (fun L1 L1' h1 => ?_)
  refine rel_bnd (mask_al he h1) (fun a b M M' hab hM => ?_)
  subst hab
  show RelV Eq (if relF (hdT M) 6 = 0 then _ else _) (if relF (hdT M') 6 = 0 then _ else _)
  rw [relF_al hM.hd 6]
  split
  · exact .err rfl
  · refine step_bnd he hM (fun L3 L3' h3 => ?_)
    refine rel_bnd (kind_al he 3 h3) (fun c d M3 M3' hcd hM3 => .ok ?_ hM3)
    show (⟨6, [], f, a, relF (hdT M') 6, c.num⟩ : Ex) = ⟨6, [], f, a, relF (hdT M') 6, d.num⟩
    rw [show c.num = d.num from congrArg (fun x => x.2.2) hcd]
theorem atom_al {L L' : List Tk} (h : Alike L L') : RelV Eq (atomP ep L) (atomP ep' L') := by
  unfold atomP
  rw [h.is sTrue, h.is sFalse, show (fun x => isT x (hdT L)) = (fun x => isT x (hdT L')) from funext (fun x => h.is x)]
  split
  · exact step_bnd he h (fun L1 L1' h1 => .ok rfl h1)
  · split
    · exact step_bnd he h (fun L1 L1' h1 => .ok rfl h1)
    · split
      · exact test_al he _ h
      · exact .err rfl
theorem more_al {α : Type} {one one' : List Tk → Rd α} (h1 : ∀ L L', Alike L L' → RelV Eq (one L) (one' L')) (sep : ByteArray) : ∀ n l L L', Alike L L' → RelV Eq (moreP ep one sep n l L) (moreP ep' one' sep n l L') := by
  intro n
  induction n with
  | zero => intro l L L' h; exact .ok rfl h
  | succ n ih =>
    intro l L L' h
    unfold moreP
    refine rel_bnd (maybe_al he sep h) (fun a b M M' hab hM => ?_)
    subst hab
    show RelV Eq (if a = true then _ else _) (if a = true then _ else _)
    split
    · refine rel_bnd (h1 _ _ hM) (fun c d M1 M1' hcd hM1 => ?_)
      subst hcd
      exact ih _ _ _ hM1
    · exact .ok rfl hM
theorem turns_al {α : Type} {one one' : List Tk → Rd α} (h1 : ∀ L L', Alike L L' → RelV Eq (one L) (one' L')) (sep : ByteArray) {L L' : List Tk} (h : Alike L L') : RelV Eq (turnsP ep one sep L) (turnsP ep' one' sep L') := by
  unfold turnsP
  refine rel_bnd (h1 _ _ h) (fun a b M M' hab hM => ?_)
  subst hab
  show RelV Eq (moreP ep one sep (M.length + 1) [a] M) (moreP ep' one' sep (M'.length + 1) [a] M')
  rw [hM.len]
  exact more_al he h1 sep _ _ _ _ hM
theorem all_al {one one' : List Tk → Rd Ex} (h1 : ∀ L L', Alike L L' → RelV Eq (one L) (one' L')) {L L' : List Tk} (h : Alike L L') : RelV Eq (allP ep one L) (allP ep' one' L') := by
  unfold allP
  refine rel_bnd (turns_al he h1 sAnd h) (fun a b M M' hab hM => ?_)
  subst hab
  exact .ok rfl hM
theorem expr_al {one one' : List Tk → Rd Ex} (h1 : ∀ L L', Alike L L' → RelV Eq (one L) (one' L')) {L L' : List Tk} (h : Alike L L') : RelV Eq (exprP ep one L) (exprP ep' one' L') := by
  unfold exprP
  refine rel_bnd (turns_al he (fun _ _ h => all_al he h1 h) sOr h) (fun a b M M' hab hM => ?_)
  subst hab
  exact .ok rfl hM
theorem one_al : ∀ k (L L' : List Tk), Alike L L' → RelV Eq (oneP ep k L) (oneP ep' k L') := by
  intro k
  induction k with
  | zero =>
    intro L L' h
    unfold oneP
    rw [h.is sNot, h.is sOpen]
    split
    · exact .err rfl
    · split
      · exact .err rfl
      · exact atom_al he h
  | succ k ih =>
    intro L L' h
    unfold oneP
    rw [h.is sNot, h.is sOpen]
    split
    · refine step_bnd he h (fun L1 L1' h1 => ?_)
      refine rel_bnd (ih _ _ h1) (fun a b M M' hab hM => ?_)
      subst hab
      exact .ok rfl hM
    · split
      · refine step_bnd he h (fun L1 L1' h1 => ?_)
        refine rel_bnd (expr_al he ih h1) (fun a b M M' hab hM => ?_)
        subst hab
        refine rel_bnd (want_al he sShut hM) (fun c d M1 M1' hcd hM1 => ?_)
        exact .ok rfl hM1
      · exact atom_al he h
theorem rule_al {L L' : List Tk} (h : Alike L L') : RelV Eq (ruleP ep L) (ruleP ep' L') := by
  unfold ruleP
  refine rel_bnd (turns_al he (fun _ _ h => call_al he h) sComma h) (fun a b M M' hab hM => ?_)
  subst hab
  refine rel_bnd (maybe_al he sWhen hM) (fun c d M1 M1' hcd hM1 => ?_)
  subst hcd
  refine rel_bnd (V := Eq) ?_ (fun x y M2 M2' hxy hM2 => ?_)
  · show RelV Eq (if c = true then _ else _) (if c = true then _ else _)
    split
    · exact expr_al he (one_al he 64) hM1
    · exact .ok rfl hM1
  · subst hxy
    refine rel_bnd (want_al he sDo hM2) (fun _ _ M3 M3' _ hM3 => ?_)
    refine rel_bnd (verdict_al he hM3) (fun v w M4 M4' hvw hM4 => ?_)
    subst hvw
    refine rel_bnd (want_al he sSemi hM4) (fun _ _ M5 M5' _ hM5 => ?_)
    exact .ok rfl hM5
theorem rules_al : ∀ n l (L L' : List Tk), Alike L L' → RelV Eq (rulesP ep n l L) (rulesP ep' n l L') := by
  intro n
  induction n with
  | zero => intro l L L' h; exact .ok rfl h
  | succ n ih =>
    intro l L L' h
    unfold rulesP
    rw [h.is sOn]
    split
    · split
      · exact .err rfl
      · refine step_bnd he h (fun L1 L1' h1 => ?_)
        refine rel_bnd (rule_al he h1) (fun a b M M' hab hM => ?_)
        subst hab
        exact ih _ _ _ hM
    · exact .ok rfl h
theorem policy_al {L L' : List Tk} (h : Alike L L') : RelV Eq (policyP ep L) (policyP ep' L') := by
  unfold policyP
  refine rel_bnd (want_al he sArch h) (fun _ _ M1 M1' _ h1 => ?_)
  refine rel_bnd (kind_al he 2 h1) (fun a b M2 M2' hab h2 => ?_)
  refine rel_bnd (want_al he sSemi h2) (fun _ _ M3 M3' _ h3 => ?_)
  refine rel_bnd (want_al he sForeign h3) (fun _ _ M4 M4' _ h4 => ?_)
  refine rel_bnd (verdict_al he h4) (fun f f' M5 M5' hf h5 => ?_)
  subst hf
  refine rel_bnd (want_al he sSemi h5) (fun _ _ M6 M6' _ h6 => ?_)
  refine rel_bnd (want_al he sDefault h6) (fun _ _ M7 M7' _ h7 => ?_)
  refine rel_bnd (verdict_al he h7) (fun d d' M8 M8' hd h8 => ?_)
  subst hd
  refine rel_bnd (want_al he sSemi h8) (fun _ _ M9 M9' _ h9 => ?_)
  refine rel_bnd (V := Eq) ?_ (fun r r' MA MA' hr hA => ?_)
  · show RelV Eq (rulesP ep (M9.length + 1) [] M9) (rulesP ep' (M9'.length + 1) [] M9')
    rw [h9.len]
    exact rules_al he _ _ _ _ h9
  · subst hr
    refine .ok ?_ hA
    show (⟨a.text, _, _, _⟩ : Po) = ⟨b.text, _, _, _⟩
    rw [show a.text = b.text from congrArg (fun x => x.2.1) hab]
end
theorem whole_al {α : Type} {f : EP → List Tk → Rd α} (hf : ∀ ep ep' L L', ep.1 = ep'.1 → Alike L L' → RelV Eq (f ep L) (f ep' L')) {s s' : ByteArray} (hT : Alike (toks s).1 (toks s').1) (he : (toks s).2.1 = (toks s').2.1) :
    (∃ x, wholeP f s = .ok x ∧ wholeP f s' = .ok x) ∨ ∃ p q, wholeP f s = .error p ∧ wholeP f s' = .error q ∧ p.1 = q.1 := by
  have hr := hf _ _ _ _ he hT
  have hw : ∀ (s : ByteArray) (L : List Tk), L = (toks s).1 → L ≠ [] → wholeP f s = bnd (f (toks s).2 L) (fun p => bnd (kindP (toks s).2 1 p.2) (fun _ => .ok p.1)) := fun s L hL hn => by
    subst hL
    unfold wholeP
    split
    · rename_i h; exact absurd h hn
    · rfl
  by_cases h0 : (toks s).1 = []
  · have h0' : (toks s').1 = [] := by have := hT.len; rw [h0] at this; exact List.length_eq_zero_iff.1 this.symm
    right
    refine ⟨(toks s).2, (toks s').2, ?_, ?_, he⟩
    · unfold wholeP; rw [h0]
    · unfold wholeP; rw [h0']
  · have h0' : (toks s').1 ≠ [] := fun e => by have := hT.len; rw [e] at this; exact h0 (List.length_eq_zero_iff.1 this)
    rw [hw s _ rfl h0, hw s' _ rfl h0']
    revert hr
    generalize f (toks s).2 (toks s).1 = r
    generalize f (toks s').2 (toks s').1 = r'
    intro hr
    cases hr with
    | err h => exact .inr ⟨_, _, rfl, rfl, h⟩
    | @ok a b L L' hab hA =>
      subst hab
      have hk := kind_al he 1 hA
      show (∃ x, bnd (kindP (toks s).2 1 L) (fun _ => .ok a) = .ok x ∧ bnd (kindP (toks s').2 1 L') (fun _ => .ok a) = .ok x) ∨ ∃ p q, bnd (kindP (toks s).2 1 L) (fun _ => .ok a) = .error p ∧ bnd (kindP (toks s').2 1 L') (fun _ => .ok a) = .error q ∧ p.1 = q.1
      revert hk
      generalize kindP (toks s).2 1 L = k
      generalize kindP (toks s').2 1 L' = k'
      intro hk
      cases hk with
      | err h => exact .inr ⟨_, _, rfl, rfl, h⟩
      | ok _ _ => exact .inl ⟨a, rfl, rfl⟩
theorem parse_alike {s s' : ByteArray} (hT : Alike (toks s).1 (toks s').1) (he : (toks s).2.1 = (toks s').2.1) : (parseV s).1 = (parseV s').1 ∧ (parseV s).2.1 = (parseV s').2.1 := by
  unfold parseV
  rcases whole_al (f := policyP) (fun ep ep' L L' h1 h2 => policy_al h1 h2) hT he with ⟨x, h1, h2⟩ | ⟨p, q, h1, h2, h3⟩
  · rw [h1, h2]; exact ⟨rfl, rfl⟩
  · rw [h1, h2]; exact ⟨rfl, h3⟩
theorem expr_alike {s s' : ByteArray} (hT : Alike (toks s).1 (toks s').1) (he : (toks s).2.1 = (toks s').2.1) : (exprV s).1 = (exprV s').1 ∧ (exprV s).2.1 = (exprV s').2.1 := by
  unfold exprV
  rcases whole_al (f := fun ep => exprP ep (oneP ep 64)) (fun ep ep' L L' h1 h2 => expr_al h1 (one_al h1 64) h2) hT he with ⟨x, h1, h2⟩ | ⟨p, q, h1, h2, h3⟩
  · rw [h1, h2]; exact ⟨rfl, rfl⟩
  · rw [h1, h2]; exact ⟨rfl, h3⟩
end Go.Proofs.YtlmopoipjolbgaaGreatDoor.LexW
namespace Go.Proofs.YtlmopoipjolbgaaGreatDoor.LexW
open Go.RowKit Go.Shelf Go.Proofs.YtlmopoipjolbgaaGreatDoor.LexS Go.Proofs.YtlmopoipjolbgaaGreatDoorW.PrintWords
set_option linter.unusedVariables false
set_option linter.unusedSimpArgs false

/-- blanks and remarks -/
def gapS (g : List UInt8) : Prop := ∀ l, skipS false (g ++ l) = skipS false l
theorem gapS.nil : gapS [] := fun l => rfl
theorem gapS.app {g h : List UInt8} (hg : gapS g) (hh : gapS h) : gapS (g ++ h) := fun l => by rw [List.append_assoc, hg, hh]
theorem gapS.blank {g : List UInt8} (hg : gapS g) : gapS (32 :: g) := fun l => by
  show skipS false (32 :: (g ++ l)) = _
  rw [skipS, if_pos (by decide)]
  exact hg l
def sepB (b : Nat) : List UInt8 := if b = 0 then [10] else if b = 1 then [9, 13] else if b = 2 then [35, 32, 97, 114, 99, 104, 32, 59, 32, 111, 110, 10] else []
theorem sepB_gap (b : Nat) : gapS (sepB b) := fun l => by
  unfold sepB
  split
  · simp [skipS, blankB]
  · split
    · simp [skipS, blankB]
    · split
      · simp [skipS, blankB]
      · rfl
theorem sepB_len (b : Nat) : (sepB b).length ≤ 12 := by
  unfold sepB
  split
  · decide
  · split
    · decide
    · split <;> decide
/-- the texts, each with a blank and a gap behind it -/
def joinG : List Tk → List (List UInt8) → List UInt8
  | t :: l, g :: gs => t.text.data.toList ++ 32 :: g ++ joinG l gs
  | _, _ => []
theorem joinG_snoc (t : Tk) (g : List UInt8) : ∀ (l : List Tk) (gs : List (List UInt8)), gs.length = l.length → joinG (l ++ [t]) (gs ++ [g]) = joinG l gs ++ (t.text.data.toList ++ 32 :: g) := by
  intro l
  induction l with
  | nil => intro gs h; obtain rfl := List.length_eq_zero_iff.1 h; simp [joinG]
  | cons a l ih =>
    intro gs h
    cases gs with
    | nil => simp at h
    | cons b gs =>
      simp only [List.cons_append, joinG]
      rw [ih gs (by simpa using h)]
      simp
/-- the text written anew, so far -/
def Spaced (a : ByteArray) (l : List Tk) : Prop := ∃ gs : List (List UInt8), gs.length = l.length ∧ (∀ g ∈ gs, gapS g) ∧ a.data.toList = joinG l gs
theorem spaced_nil : Spaced ⟨#[]⟩ [] := ⟨[], rfl, fun g h => by simp at h, rfl⟩
theorem spaced_snoc {a : ByteArray} {l : List Tk} (h : Spaced a l) (t : Tk) : Spaced ((a ++ t.text) ++ ⟨#[32]⟩) (l ++ [t]) := by
  obtain ⟨gs, h1, h2, h3⟩ := h
  refine ⟨gs ++ [[]], by simp [h1], fun g hg => ?_, ?_⟩
  · rcases List.mem_append.1 hg with hg | hg
    · exact h2 g hg
    · rw [List.mem_singleton.1 hg]; exact gapS.nil
  · rw [joinG_snoc _ _ _ _ h1, ByteArray.data_append, ByteArray.data_append, Array.toList_append, Array.toList_append, h3]
    simp
theorem spaced_gap {a x : ByteArray} {l : List Tk} (h : Spaced a l) (hl : l ≠ []) (hx : gapS x.data.toList) : Spaced (a ++ x) l := by
  obtain ⟨gs, h1, h2, h3⟩ := h
  have hlen := List.length_pos_iff.2 hl
  have hgs : gs ≠ [] := fun e => by rw [e] at h1; simp at h1; omega
  obtain ⟨l0, t, rfl⟩ : ∃ l0 t, l = l0 ++ [t] := ⟨l.dropLast, l.getLast hl, (List.dropLast_concat_getLast hl).symm⟩
  obtain ⟨g0, g, rfl⟩ : ∃ g0 g, gs = g0 ++ [g] := ⟨gs.dropLast, gs.getLast hgs, (List.dropLast_concat_getLast hgs).symm⟩
  have h0 : g0.length = l0.length := by simpa using h1
  refine ⟨g0 ++ [g ++ x.data.toList], by simp [h0], fun y hy => ?_, ?_⟩
  · rcases List.mem_append.1 hy with hy | hy
    · exact h2 y (List.mem_append_left _ hy)
    · rw [List.mem_singleton.1 hy]
      exact (h2 g (by simp)).app hx
  · rw [joinG_snoc _ _ _ _ h0, ByteArray.data_append, Array.toList_append, h3, joinG_snoc _ _ _ _ h0]
    simp
theorem next_gap {t : Tk} {c : UInt8} {T : List UInt8} (h : TkLike t c T) {S : ByteArray} {k : Nat} {g B : List UInt8} (hS : S.size ≤ 65536) (hg : gapS g) (hd : S.data.toList.drop k = g ++ (c :: T ++ 32 :: B)) :
    nextV S (k : Int) = (t.kind, t.text, t.num, ((k + g.length : Nat) : Int), ((k + g.length + t.text.size : Nat) : Int), (0 : Int)) := by
  obtain ⟨hT, hb, h35⟩ := tk_text h
  have hlen := congrArg List.length hd
  simp only [List.length_drop, List.length_append, List.length_cons] at hlen
  have hsz : S.data.toList.length = S.size := by simp
  have hbeg : beginN S k = k + g.length := by
    unfold beginN
    rw [hd, hg, List.cons_append, skipS, hb, if_neg (by simp), if_neg (by simpa using h35)]
    simp only [List.length_append, List.length_cons]
    omega
  have hp : k + g.length < S.size := by omega
  have hd2 : S.data.toList.drop (k + g.length) = c :: T ++ 32 :: B := by rw [← List.drop_drop, hd, List.drop_left]
  unfold nextV
  rw [if_neg (by omega), if_neg (by omega), Int.toNat_natCast]
  rw [dif_pos (by rw [hbeg]; exact hp)]
  have := tok_again h hp hd2
  simp only [hbeg]
  exact this
theorem spaced_from {s : ByteArray} : ∀ {k : Nat} {l : List Tk}, Stand s k l → ∀ {S : ByteArray} {j : Nat} {g : List UInt8} {gs : List (List UInt8)}, S.size ≤ 65536 → j ≤ S.size → gapS g → gs.length = l.length → (∀ g ∈ gs, gapS g) → S.data.toList.drop j = g ++ joinG l gs →
    (toksA S j).2.1 = 0 ∧ (toksA S j).1.map strip = l.map strip := by
  intro k l hst
  induction hst with
  | last hk =>
    intro S j g gs hS hj hg hgl hgs hd
    obtain ⟨g1, rfl⟩ : ∃ g1, gs = [g1] := by
      match gs, hgl with
      | [g1], _ => exact ⟨g1, rfl⟩
    have h1 : gapS g1 := hgs g1 (by simp)
    have hbeg : beginN S j = S.size := by
      unfold beginN
      rw [hd, hg]
      show S.size - (skipS false (32 :: g1 ++ [])).length = _
      rw [h1.blank []]
      rfl
    have hn : nextV S (j : Int) = (1, nil0, 0, (S.size : Int), (S.size : Int), 0) := by
      unfold nextV
      rw [if_neg (by omega), if_neg (by omega), Int.toNat_natCast, dif_neg (by rw [hbeg]; omega)]
    rw [toksA_end (by rw [hn]) (by rw [hn]), hn]
    exact ⟨rfl, rfl⟩
  | @more k p q t c T l hl h1 h2 h3 ht ha r ih =>
    intro S j g gs hS hj hg hgl hgs hd
    cases gs with
    | nil => simp at hgl
    | cons g1 gs =>
    obtain ⟨hT, _, _⟩ := tk_text hl
    have hd2 : S.data.toList.drop j = g ++ (c :: T ++ 32 :: (g1 ++ joinG l gs)) := by
      rw [hd]; show g ++ (t.text.data.toList ++ 32 :: g1 ++ joinG l gs) = _; rw [hT]; simp
    have hn := next_gap hl hS hg hd2
    have hlen := congrArg List.length hd2
    simp only [List.length_drop, List.length_append, List.length_cons] at hlen
    have hsz : S.data.toList.length = S.size := by simp
    have htl : t.text.size = T.length + 1 := by rw [size_list, hT]; rfl
    have hd3 : S.data.toList.drop (j + g.length + t.text.size) = (32 :: g1) ++ joinG l gs := by
      rw [← List.drop_drop, ← List.drop_drop, hd2, List.drop_left, size_list, hT, List.drop_left]; rfl
    obtain ⟨e1, e2⟩ := ih hS (by omega) (hgs g1 (by simp)).blank (by simpa using hgl) (fun g hg => hgs g (by simp [hg])) hd3
    rw [toksA_more (q := j + g.length + t.text.size) (by rw [hn]) (by rw [hn]; exact (tk_kinds hl).1) (by rw [hn]) (by omega)]
    refine ⟨e1, ?_⟩
    rw [List.map_cons, List.map_cons, e2, hn]
    rfl
theorem spaced_toks {s S : ByteArray} (he : (toks s).2.1 = 0) (hS : S.size ≤ 65536) (h : Spaced S (toks s).1) : Alike (toks s).1 (toks S).1 ∧ (toks s).2.1 = (toks S).2.1 := by
  obtain ⟨gs, h1, h2, h3⟩ := h
  obtain ⟨e1, e2⟩ := spaced_from (stand_toks he) (S := S) (j := 0) (g := []) hS (by omega) gapS.nil h1 h2 (by rw [List.drop_zero, h3]; rfl)
  exact ⟨e2.symm, by rw [he]; exact e1.symm⟩
theorem spaced_same {s S : ByteArray} (he : (toks s).2.1 = 0) (hS : S.size ≤ 65536) (h : Spaced S (toks s).1) : ((parseV s).1 = (parseV S).1 ∧ (parseV s).2.1 = (parseV S).2.1) ∧ (exprV s).1 = (exprV S).1 ∧ (exprV s).2.1 = (exprV S).2.1 :=
  let ⟨h1, h2⟩ := spaced_toks he hS h
  ⟨parse_alike h1 h2, expr_alike h1 h2⟩
end Go.Proofs.YtlmopoipjolbgaaGreatDoor.LexW
