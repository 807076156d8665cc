/-
  The package-level variables that the rows list: what the walks need of them; a world that holds them (for the witnesses).
-/
import Derived.Test.YtlmopoipjolbgaaDoorLexL1
import Derived.Test.YtlmopoipjolbgaaDoorCards
import Derived.Test.YtlmopoipjolbgaaDoorTie
import Derived.ProofKit
import Derived.OpenShut
import Derived.SizedLaws
import Derived.Deep.DeepHandedRow
import Derived.Deep.DeepWitnessRowRef
import Derived.Lib.LaidTab
import Derived.Lib.LaidU8
namespace Go.Proofs.YtlmopoipjolbgaaDoor.LexW
open Go.ChangeShapes Go.WideShapes Go.ChangeAt Go.RowKit Go.Lib Go.Shelf
set_option linter.unusedVariables false
set_option linter.unusedSimpArgs false

abbrev laidL : List (String × DataW Unit) := Rows.lexNumbersRow.laid

theorem own : ownKnob Tryd.prog.godebug = none := by kernel_rfl

theorem trod_iface_form {P : Program} {w : World} {fuel t : Nat} {ms : Array (String × TypeId)} {cs : List Value} {name : String} {d : DataW Unit} {p : List MemPlace} (ht : P.underlying t = some (.interface ms))
    (h : DataW.trod (fun _ => ()) P w 0 (fun _ => true) false fuel t cs = some (.iface name d, p)) : ∃ u v, cs = [.iface u v] := by
  cases fuel with
  | zero => simp [DataW.trod] at h
  | succ n =>
    unfold DataW.trod at h
    rw [ht] at h
    match cs, h with
    | [], h => simp at h
    | [.iface u v], h => exact ⟨u, v, rfl⟩
    | [.nilIface], h => simp at h
    | [.bool _], h => simp at h
    | [.int _ _], h => simp at h
    | [.string _], h => simp at h
    | _ :: _ :: _, h => simp at h
    | [x], h => cases x <;> first | (exact ⟨_, _, rfl⟩) | (simp at h)
theorem iface_cell {W : World} {n : String} {g t : Nat} {name : String} {d : DataW Unit} {ms : Array (String × TypeId)} (hn : Tryd.prog.globalNamed n = some g) (hy : (Tryd.prog.globals[g]?).map (·.type) = some t) (ht : Tryd.prog.underlying t = some (.interface ms)) (h : VarReads Tryd.prog W n (.iface name d)) :
    ∃ te pe, W.cell? ⟨g, 0, none⟩ = some (.iface te pe) := by
  obtain ⟨g', t', cs, fuel, p, hg, hty, hvar, hd⟩ := h
  obtain rfl := Option.some.inj (hn.symm.trans hg)
  obtain rfl := Option.some.inj (hy.symm.trans hty)
  obtain ⟨u, v, he⟩ := trod_iface_form ht hd
  have hc := World.var?_cell hg hvar 0
  rw [← Array.getElem?_toList, he] at hc
  exact ⟨u, v, hc⟩
theorem first_same : Rows.laid_unicode_utf8_first = Lib.firstData := by kernel_rfl
theorem accept_same : (Rows.laid_unicode_utf8_acceptRanges : DataW Unit) = Lib.acceptData := by kernel_rfl

theorem env_of_laid {W : World} (h : laidMetH Tryd.prog laidL W) : Env W := by
  have hL : laidMet Tryd.prog laidL W := h
  refine ⟨?_, ?_, ?_⟩
  · have h1 := Lib.laidMet.reads hL (n := "unicode/utf8.first") (d := Rows.laid_unicode_utf8_first) (.tail _ (.tail _ (.tail _ (.tail _ (.tail _ (.tail _ (.head _)))))))
    have h2 := Lib.laidMet.reads hL (n := "unicode/utf8.acceptRanges") (d := Rows.laid_unicode_utf8_acceptRanges) (.tail _ (.tail _ (.tail _ (.head _))))
    rw [first_same] at h1
    rw [accept_same] at h2
    exact utf8Tabs_of_reads { Tryd.lays260 with } ⟨by kernel_rfl, by kernel_rfl, by kernel_rfl, by kernel_rfl, by kernel_rfl, by kernel_rfl, by kernel_rfl⟩ h1 h2
  · exact iface_cell (n := "strconv.ErrSyntax") (t := 68) (by kernel_rfl) (by kernel_rfl) Tryd.underlying68 (Lib.laidMet.reads hL (.tail _ (.tail _ (.tail _ (.tail _ (.tail _ (.head _)))))))
  · exact iface_cell (n := "strconv.ErrRange") (t := 68) (by kernel_rfl) (by kernel_rfl) Tryd.underlying68 (Lib.laidMet.reads hL (.tail _ (.tail _ (.tail _ (.tail _ (.head _))))))

/-- A WORLD FOR THE WITNESSES: the settled one, each listed variable holding what its initialiser lays; two new blocks for the two errors' texts. -/
noncomputable def laidWorld (os : Os) : World :=
  let N := (World.settled Tryd.prog os).heap.size
  let w0 := World.holding Tryd.prog os ⟨#[
    .cells #[.string ⟨#[105, 110, 118, 97, 108, 105, 100, 32, 115, 121, 110, 116, 97, 120]⟩] 129,
    .cells #[.string ⟨#[118, 97, 108, 117, 101, 32, 111, 117, 116, 32, 111, 102, 32, 114, 97, 110, 103, 101]⟩] 129], #[], []⟩
  let put (h : Array Obj) (g : Nat) (cs : Array Value) : Array Obj := h.modify g fun
    | .cells _ t frozen => .cells cs t frozen
    | o => o
  let nums (k : IntKind) (d : DataW Unit) : Array Value := match d with
    | .agg l => (l.map fun | .lit (.int _ n) => Value.int k n | _ => undef).toArray
    | _ => #[]
  let h1 := put w0.heap 0 #[.iface 127 (.pointer (some ⟨N, 0, none⟩))]
  let h2 := put h1 1 #[.iface 127 (.pointer (some ⟨N + 1, 0, none⟩))]
  let h3 := put h2 2 (Lib.firstTab.map fun z => Value.int .u8 z).toArray
  let h4 := put h3 3 ((List.range 16).flatMap fun i => [Value.int .u8 (Lib.accLo i), Value.int .u8 (Lib.accHi i)]).toArray
  let h5 := put h4 5 (nums .u64 Rows.laid_internal_strconv_uint64pow10)
  let h6 := put h5 6 (nums .u8 Rows.laid_math_bits_deBruijn32tab)
  let h7 := put h6 7 (nums .u8 Rows.laid_math_bits_deBruijn64tab)
  { w0 with heap := h7 }

theorem laid_met (os : Os) (args : Array Value) : laidMet Tryd.prog laidL ((laidWorld os).forCall (fun _ _ => 0) ⟨#[], args, []⟩).memory :=
  laidMet_of_run' 8 (by kernel_rfl) (by kernel_rfl)
end Go.Proofs.YtlmopoipjolbgaaDoor.LexW
