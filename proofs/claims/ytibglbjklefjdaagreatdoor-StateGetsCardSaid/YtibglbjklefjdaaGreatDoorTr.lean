/-
  What the rows share: a world that fits, what it holds, and the arguments' shapes.
-/
import Derived.Test.YtibglbjklefjdaaGreatDoorTg
import Derived.Test.YtibglbjklefjdaaGreatDoorTu
import Derived.Test.YtibglbjklefjdaaGreatDoorTe
import Derived.Test.YtibglbjklefjdaaGreatDoorRows
import Derived.Test.YtibglbjklefjdaaGreatDoorTie
import Derived.Deep.DeepHandedRow
import Derived.Deep.DeepWitnessRowRef
import Derived.Lib.LaidIn
import Derived.Lib.LaidU8
import Derived.Stop.LaidErr
import Derived.ProofKit
import Derived.SizedLaws
import Derived.OpenShut
import Derived.ShutString
set_option linter.all false
set_option linter.unusedSimpArgs false
set_option linter.unusedVariables false
set_option linter.unusedSectionVars false
namespace Go.Proofs.YtibglbjklefjdaaGreatDoor
open Go.ChangeShapes Go.WideShapes Go.ChangeAt Go.RowKit Go.Lib
open Go.ChangeMaps (open_string shut_string)
set_option maxRecDepth 1000000
theorem own : ownKnob Tryz.prog.godebug = none := by kernel_rfl
theorem laidOut : laidOutB Tryz.prog = true := by kernel_rfl
theorem star : "*" ++ "errors.errorString" = "*errors.errorString" := by decide
theorem rowErr (u : TypeId) (h : Tryz.prog.typeName? 3 u = some "*errors.errorString") : u = 220 :=
  typeName_ptr_named (nm := "errors.errorString") (by rw [star]; kernel_rfl) (by kernel_rfl) (by decide) u (by rw [star]; exact h)
def cellsOfD : Nat → DataW Unit → List Value
  | 0, _ => []
  | _ + 1, .lit (.int k n) => [.int k n]
  | m + 1, .agg ds => ds.flatMap (cellsOfD m)
  | _ + 1, _ => []
def laidAll : List (String × DataW Unit) := Rows.stateBackRow.laid
noncomputable def laidWorld (os : Os) : World :=
  let N := (World.settled Tryz.prog os).heap.size
  let w0 := World.holding Tryz.prog os ⟨#[
    .cells #[.string ⟨#[105, 110, 118, 97, 108, 105, 100, 32, 115, 121, 110, 116, 97, 120]⟩] 222,
    .cells #[.string ⟨#[118, 97, 108, 117, 101, 32, 111, 117, 116, 32, 111, 102, 32, 114, 97, 110, 103, 101]⟩] 222], #[], []⟩
  let put (h : Array Obj) (g : Nat) (cs : Array Value) : Array Obj := h.modify g fun
    | .cells _ t frozen => .cells cs t frozen
    | o => o
  let h0 := put (put w0.heap 1 #[.iface 220 (.pointer (some ⟨N, 0, none⟩))]) 2 #[.iface 220 (.pointer (some ⟨N + 1, 0, none⟩))]
  let h1 := put h0 3 (cellsOfD 3 Rows.laid_unicode_utf8_first).toArray
  let h2 := put h1 4 (cellsOfD 3 Rows.laid_unicode_utf8_acceptRanges).toArray
  let h3 := put h2 5 (cellsOfD 3 Rows.laid_internal_strconv_uint64pow10).toArray
  let h4 := put h3 6 (cellsOfD 3 Rows.laid_math_bits_deBruijn32tab).toArray
  let h5 := put h4 7 (cellsOfD 3 Rows.laid_math_bits_deBruijn64tab).toArray
  { w0 with heap := h5 }
theorem laid_met (os : Os) (args : Array Value) : laidMet Tryz.prog laidAll ((laidWorld os).forCall (fun _ _ => 0) ⟨#[], args, []⟩).memory :=
  laidMet_of_run' 8 (by kernel_rfl) (by kernel_rfl)
end Go.Proofs.YtibglbjklefjdaaGreatDoor

namespace Go.Proofs.YtibglbjklefjdaaGreatDoor
open Go.ChangeShapes Go.WideShapes Go.ChangeAt Go.RowKit Go.Lib
open Go.AM Go.AM.Z
set_option maxRecDepth 1000000
theorem tabs_of_laid {W : World} (h : laidMet Tryz.prog laidAll W) (hs : W.ShapedOpen Tryz.prog) : Tabs W := by
  have h5 : laidMet Tryz.prog (("internal/strconv.uint64pow10", Rows.laid_internal_strconv_uint64pow10) :: ("unicode/utf8.acceptRanges", Rows.laid_unicode_utf8_acceptRanges) :: ("strconv.ErrRange", Rows.laid_strconv_ErrRange) :: ("strconv.ErrSyntax", Rows.laid_strconv_ErrSyntax) :: [("unicode/utf8.first", Rows.laid_unicode_utf8_first)]) W := h.tail.tail
  have hf : firstData = Rows.laid_unicode_utf8_first := by kernel_rfl
  have ha : acceptData = Rows.laid_unicode_utf8_acceptRanges := by kernel_rfl
  refine ⟨?_, ?_, ?_, ?_, ?_⟩
  · exact Lib.tabIs_of_head (g := 5) (zs := Lib.pow10Tab) (by kernel_rfl) (by kernel_rfl) Tryz.underlying235 Tryz.underlying119 (by kernel_rfl) (by kernel_rfl) h5
  · exact utf8Tabs_of_reads (ρ := Tryz.lays260_ren) Tryz.lays260 ⟨by kernel_rfl, by kernel_rfl, by kernel_rfl, by kernel_rfl, by kernel_rfl, by kernel_rfl, by kernel_rfl⟩
      (hf ▸ Lib.laidMet.reads h5 (by simp)) (ha ▸ Lib.laidMet.reads h5 (by simp))
  · obtain ⟨a, s, hv, _⟩ := laid_sentinel (g := 1) (tp := 220) h5.tail.tail.tail (by kernel_rfl) (by kernel_rfl) (Tryz.underlying159) rowErr Tryz.underlying220 Tryz.underlying222 rfl rfl Tryz.underlying9 (by kernel_rfl) (by kernel_rfl)
    have h3 : Tryz.prog.globalNamed "strconv.ErrSyntax" = some 1 := by kernel_rfl
    have := World.var?_cell h3 hv 0
    exact ⟨_, by simpa using this, .inr ⟨_, _, rfl⟩⟩
  · exact Tryz.laysM138.s1_3 W hs
  · obtain ⟨a, s, hv, _⟩ := laid_sentinel (g := 2) (tp := 220) h5.tail.tail (by kernel_rfl) (by kernel_rfl) (Tryz.underlying159) rowErr Tryz.underlying220 Tryz.underlying222 rfl rfl Tryz.underlying9 (by kernel_rfl) (by kernel_rfl)
    have h3 : Tryz.prog.globalNamed "strconv.ErrRange" = some 2 := by kernel_rfl
    have := World.var?_cell h3 hv 0
    exact ⟨_, by simpa using this, .inr ⟨_, _, rfl⟩⟩
theorem tabs_has {W : World} (h : Tabs W) : HasC W := by
  obtain ⟨m, hm⟩ := h.max
  simp only [World.cell?] at hm
  split at hm
  · rename_i cs el fz e
    exact ⟨_, _, _, _, e⟩
  · cases hm
theorem law_call {f : FuncId} {args args' : Array Value} {H H' : Heap} {W : World} {M : Mp} (hT : Tabs W) (hH : HR W.heap.size W M H W) (hv : VRL M args.toList args'.toList) (h : F f args 0 H = some (.returned (.bool true), H')) (hq : cl f = 1) :
    Calls Tryz.prog f args' W fun e w' => e = .returned (.bool true) ∧ Below W.heap.size W w' := by
  refine Calls.mono (F_sound (good hT) h (Nat.zero_le _) hH hv) ?_
  rintro e w' ⟨M', _, h2, h3, h4⟩
  rw [if_pos hq] at h4
  refine ⟨?_, ?_⟩
  · cases e with
    | returned v' => rw [(vr_ground rfl).1 h3]
    | _ => exact h3.elim
  · exact (h4.blk W.heap.size (Nat.le_refl _) fun A n b base ext hA e => absurd (hH.valid e) (by omega)).1
end Go.Proofs.YtibglbjklefjdaaGreatDoor
