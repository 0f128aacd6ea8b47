/-
  What the six rows share: a world that fits, what it holds, and the arguments' shapes.
-/
import Derived.Test.YtijobfkgkopkhaaGreatDoorZe
import Derived.Test.YtijobfkgkopkhaaGreatDoorZd
import Derived.Test.YtijobfkgkopkhaaGreatDoorRows
import Derived.Test.YtijobfkgkopkhaaGreatDoorTie
import Derived.Deep.DeepHandedRow
import Derived.Deep.DeepWitnessRowRef
import Derived.Lib.LaidIn
import Derived.Lib.LaidU8
import Derived.Stop.LaidErr
import Derived.ProofKit
import Derived.SizedLaws
import Derived.OpenShut
import Derived.ShutString
set_option linter.all false
set_option linter.unusedSimpArgs false
set_option linter.unusedVariables false
set_option linter.unusedSectionVars false
namespace Go.Proofs.YtijobfkgkopkhaaGreatDoor
open Go.ChangeShapes Go.WideShapes Go.ChangeAt Go.RowKit Go.Lib
open Go.ChangeMaps (open_string shut_string)
set_option maxRecDepth 1000000
theorem own : ownKnob Tryz.prog.godebug = none := by kernel_rfl
theorem laidOut : laidOutB Tryz.prog = true := by kernel_rfl
theorem star : "*" ++ "errors.errorString" = "*errors.errorString" := by decide
theorem row134 (u : TypeId) (h : Tryz.prog.typeName? 3 u = some "*errors.errorString") : u = 134 :=
  typeName_ptr_named (nm := "errors.errorString") (by rw [star]; kernel_rfl) (by kernel_rfl) (by decide) u (by rw [star]; exact h)
/-- A datum's cells. -/
def cellsOfD : Nat → DataW Unit → List Value
  | 0, _ => []
  | _ + 1, .lit (.int k n) => [.int k n]
  | m + 1, .agg ds => ds.flatMap (cellsOfD m)
  | _ + 1, _ => []
/-- What all six rows list. -/
def laidAll : List (String × DataW Unit) := Rows.zoneTellsRow.laid
/-- A world in which the listed variables hold what they are to hold. -/
noncomputable def laidWorld (os : Os) : World :=
  let N := (World.settled Tryz.prog os).heap.size
  let w0 := World.holding Tryz.prog os ⟨#[
    .cells #[.string ⟨#[105, 110, 118, 97, 108, 105, 100, 32, 115, 121, 110, 116, 97, 120]⟩] 136,
    .cells #[.string ⟨#[118, 97, 108, 117, 101, 32, 111, 117, 116, 32, 111, 102, 32, 114, 97, 110, 103, 101]⟩] 136], #[], []⟩
  let put (h : Array Obj) (g : Nat) (cs : Array Value) : Array Obj := h.modify g fun
    | .cells _ t frozen => .cells cs t frozen
    | o => o
  let h0 := put (put w0.heap 3 #[.iface 134 (.pointer (some ⟨N, 0, none⟩))]) 4 #[.iface 134 (.pointer (some ⟨N + 1, 0, none⟩))]
  let h1 := put h0 0 (cellsOfD 3 Rows.laid_unicode_utf8_first).toArray
  let h2 := put h1 1 (cellsOfD 3 Rows.laid_unicode_utf8_acceptRanges).toArray
  let h3 := put h2 5 (cellsOfD 3 Rows.laid_internal_strconv_uint64pow10).toArray
  let h4 := put h3 6 (cellsOfD 3 Rows.laid_math_bits_deBruijn32tab).toArray
  let h5 := put h4 7 (cellsOfD 3 Rows.laid_math_bits_deBruijn64tab).toArray
  { w0 with heap := h5 }
theorem laid_met (os : Os) (args : Array Value) : laidMet Tryz.prog laidAll ((laidWorld os).forCall (fun _ _ => 0) ⟨#[], args, []⟩).memory :=
  laidMet_of_run' 8 (by kernel_rfl) (by kernel_rfl)
end Go.Proofs.YtijobfkgkopkhaaGreatDoor

namespace Go.Proofs.YtijobfkgkopkhaaGreatDoor
open Go.ChangeShapes Go.WideShapes Go.ChangeAt Go.RowKit Go.Lib
open Go.ChangeMaps (open_string shut_string)
open Go.AM Go.AM.Z
set_option maxRecDepth 1000000
theorem tabs_of_laid {W : World} (h : laidMet Tryz.prog laidAll W) : Tabs W := by
  have h5 : laidMet Tryz.prog (("internal/strconv.uint64pow10", Rows.laid_internal_strconv_uint64pow10) :: ("unicode/utf8.acceptRanges", Rows.laid_unicode_utf8_acceptRanges) :: ("strconv.ErrRange", Rows.laid_strconv_ErrRange) :: ("strconv.ErrSyntax", Rows.laid_strconv_ErrSyntax) :: [("unicode/utf8.first", Rows.laid_unicode_utf8_first)]) W := h.tail.tail
  have hf : firstData = Rows.laid_unicode_utf8_first := by kernel_rfl
  have ha : acceptData = Rows.laid_unicode_utf8_acceptRanges := by kernel_rfl
  refine ⟨?_, ?_, ?_, ?_⟩
  · exact Lib.tabIs_of_head (g := 5) (zs := Lib.pow10Tab) (by kernel_rfl) (by kernel_rfl) Tryz.underlying128 Tryz.underlying117 (by kernel_rfl) (by kernel_rfl) h5
  · exact utf8Tabs_of_reads (ρ := Tryz.lays260_ren) Tryz.lays260 ⟨by kernel_rfl, by kernel_rfl, by kernel_rfl, by kernel_rfl, by kernel_rfl, by kernel_rfl, by kernel_rfl⟩
      (hf ▸ Lib.laidMet.reads h5 (by simp)) (ha ▸ Lib.laidMet.reads h5 (by simp))
  · obtain ⟨a, s, hv, _⟩ := laid_sentinel (g := 3) (tp := 134) h5.tail.tail.tail (by kernel_rfl) (by kernel_rfl) (Tryz.underlying71) row134 Tryz.underlying134 Tryz.underlying136 rfl rfl Tryz.underlying9 (by kernel_rfl) (by kernel_rfl)
    have h3 : Tryz.prog.globalNamed "strconv.ErrSyntax" = some 3 := by kernel_rfl
    have := World.var?_cell h3 hv 0
    exact ⟨_, by simpa using this, .inr ⟨_, _, rfl⟩⟩
  · obtain ⟨a, s, hv, _⟩ := laid_sentinel (g := 4) (tp := 134) h5.tail.tail (by kernel_rfl) (by kernel_rfl) (Tryz.underlying71) row134 Tryz.underlying134 Tryz.underlying136 rfl rfl Tryz.underlying9 (by kernel_rfl) (by kernel_rfl)
    have h3 : Tryz.prog.globalNamed "strconv.ErrRange" = some 4 := by kernel_rfl
    have := World.var?_cell h3 hv 0
    exact ⟨_, by simpa using this, .inr ⟨_, _, rfl⟩⟩
/-! The arguments' values. -/
theorem cell_str {W : World} {base : Nat} {u : TypeId} {v : Value} (hu : Tryz.prog.underlying u = some .string) (h : Cell.okWide Tryz.prog W .any base u v) : ∃ l : List UInt8, v = str l := by
  obtain ⟨s, rfl⟩ := okWide_string (P := Tryz.prog) (w := W) (r := .any) (base := base) hu (by simp only [Value.okWide, hu]; exact h)
  exact ⟨s.data.toList, rfl⟩
theorem cell_int {W : World} {base : Nat} {u : TypeId} {v : Value} {k : IntKind} (hu : Tryz.prog.underlying u = some (.int k)) (h : Cell.okWide Tryz.prog W .any base u v) : ∃ n : Int, v = .int k n :=
  okWide_int (P := Tryz.prog) (w := W) (r := .any) (base := base) hu (by simp only [Value.okWide, hu]; exact h)
theorem cell_bool {W : World} {base : Nat} {u : TypeId} {v : Value} (hu : Tryz.prog.underlying u = some .bool) (h : Cell.okWide Tryz.prog W .any base u v) : ∃ b : Bool, v = .bool b :=
  okWide_bool (P := Tryz.prog) (w := W) (r := .any) (base := base) hu (by simp only [Value.okWide, hu]; exact h)
theorem row_at {W : World} {base : Nat} {t : TypeId} {cs : Array Value} {ts : List TypeId} (hts : Tryz.prog.cellTypes Tryz.prog.depth t = some ts) (hl : cs.size = ts.length) (h : Row.okWide Tryz.prog W .any base t cs) (i : Nat) (u : TypeId) (hi : ts[i]? = some u) :
    ∃ v, cs[i]? = some v ∧ Cell.okWide Tryz.prog W .any base u v := by
  obtain ⟨ts', h1, _, h2⟩ := h
  obtain rfl := Option.some.inj (hts.symm.trans h1)
  have hlt : i < ts.length := (List.getElem?_eq_some_iff.1 hi).1
  obtain ⟨v, hv⟩ : ∃ v, cs[i]? = some v := ⟨cs[i]'(by omega), Array.getElem?_eq_getElem (by omega)⟩
  obtain ⟨u', h3, h4⟩ := h2 i v hv
  rw [Nat.mod_eq_of_lt hlt, hi] at h3
  obtain rfl := Option.some.inj h3
  exact ⟨v, hv, h4⟩
theorem ct25 : Tryz.prog.cellTypes Tryz.prog.depth 25 = some [9, 3, 4, 9, 3, 3, 3, 3, 3, 3, 3, 3, 3, 3, 3] := by kernel_rfl
theorem ct23 : Tryz.prog.cellTypes Tryz.prog.depth 23 = some [3, 3, 3, 3, 3] := by kernel_rfl
theorem zone_open {W : World} {base : Nat} {v : Value} (h : Value.okWide Tryz.prog W .any base 25 v) : ∃ z : ZoneL, v = z.v := by
  simp only [Value.okWide, Tryz.underlying25] at h
  obtain ⟨cs, rfl, hs, hr⟩ := h
  have h15 : Tryz.prog.cellsOf 25 = 15 := by kernel_rfl
  rw [h15] at hs
  have at_ := row_at ct25 hs hr
  have gi : ∀ i, [9, 3, 4, 9, 3, 3, 3, 3, 3, 3, 3, 3, 3, 3, 3][i]? = some 3 → ∃ n, cs[i]? = some (Value.int .i64 n) := fun i hi => by
    obtain ⟨v, h1, h2⟩ := at_ i 3 hi
    obtain ⟨n, rfl⟩ := cell_int Tryz.underlying3 h2
    exact ⟨n, h1⟩
  obtain ⟨v0, e0, k0⟩ := at_ 0 9 rfl
  obtain ⟨l0, rfl⟩ := cell_str Tryz.underlying9 k0
  obtain ⟨n1, e1⟩ := gi 1 rfl
  obtain ⟨v2, e2, k2⟩ := at_ 2 4 rfl
  obtain ⟨b2, rfl⟩ := cell_bool Tryz.underlying4 k2
  obtain ⟨v3, e3, k3⟩ := at_ 3 9 rfl
  obtain ⟨l3, rfl⟩ := cell_str Tryz.underlying9 k3
  obtain ⟨n4, e4⟩ := gi 4 rfl
  obtain ⟨n5, e5⟩ := gi 5 rfl
  obtain ⟨n6, e6⟩ := gi 6 rfl
  obtain ⟨n7, e7⟩ := gi 7 rfl
  obtain ⟨n8, e8⟩ := gi 8 rfl
  obtain ⟨n9, e9⟩ := gi 9 rfl
  obtain ⟨n10, e10⟩ := gi 10 rfl
  obtain ⟨n11, e11⟩ := gi 11 rfl
  obtain ⟨n12, e12⟩ := gi 12 rfl
  obtain ⟨n13, e13⟩ := gi 13 rfl
  obtain ⟨n14, e14⟩ := gi 14 rfl
  refine ⟨⟨l0, n1, b2, l3, n4, ⟨n5, n6, n7, n8, n9⟩, ⟨n10, n11, n12, n13, n14⟩⟩, ?_⟩
  show Value.agg cs = .agg #[str l0, .int .i64 n1, .bool b2, str l3, .int .i64 n4, .int .i64 n5, .int .i64 n6, .int .i64 n7, .int .i64 n8, .int .i64 n9, .int .i64 n10, .int .i64 n11, .int .i64 n12, .int .i64 n13, .int .i64 n14]
  congr 1
  apply Array.ext_getElem?
  intro i
  match i with
  | 0 => exact e0
  | 1 => exact e1
  | 2 => exact e2
  | 3 => exact e3
  | 4 => exact e4
  | 5 => exact e5
  | 6 => exact e6
  | 7 => exact e7
  | 8 => exact e8
  | 9 => exact e9
  | 10 => exact e10
  | 11 => exact e11
  | 12 => exact e12
  | 13 => exact e13
  | 14 => exact e14
  | i + 15 =>
    rw [Array.getElem?_eq_none (by omega)]
    rfl
theorem rule_open {W : World} {base : Nat} {v : Value} (h : Value.okWide Tryz.prog W .any base 23 v) : ∃ z : RuleL, v = z.v := by
  simp only [Value.okWide, Tryz.underlying23] at h
  obtain ⟨cs, rfl, hs, hr⟩ := h
  have h5 : Tryz.prog.cellsOf 23 = 5 := by kernel_rfl
  rw [h5] at hs
  have at_ := row_at ct23 hs hr
  have gi : ∀ i, [3, 3, 3, 3, 3][i]? = some 3 → ∃ n, cs[i]? = some (Value.int .i64 n) := fun i hi => by
    obtain ⟨v, h1, h2⟩ := at_ i 3 hi
    obtain ⟨n, rfl⟩ := cell_int Tryz.underlying3 h2
    exact ⟨n, h1⟩
  obtain ⟨n0, e0⟩ := gi 0 rfl
  obtain ⟨n1, e1⟩ := gi 1 rfl
  obtain ⟨n2, e2⟩ := gi 2 rfl
  obtain ⟨n3, e3⟩ := gi 3 rfl
  obtain ⟨n4, e4⟩ := gi 4 rfl
  refine ⟨⟨n0, n1, n2, n3, n4⟩, ?_⟩
  show Value.agg cs = .agg #[.int .i64 n0, .int .i64 n1, .int .i64 n2, .int .i64 n3, .int .i64 n4]
  congr 1
  apply Array.ext_getElem?
  intro i
  match i with
  | 0 => exact e0
  | 1 => exact e1
  | 2 => exact e2
  | 3 => exact e3
  | 4 => exact e4
  | i + 5 =>
    rw [Array.getElem?_eq_none (by omega)]
    rfl
theorem str_open {W : World} {base : Nat} {v : Value} (h : Value.okWide Tryz.prog W .any base 9 v) : ∃ l : List UInt8, v = str l := by
  obtain ⟨s, rfl⟩ := okWide_string Tryz.underlying9 h
  exact ⟨s.data.toList, rfl⟩
/-- A law over the machine, as a call. -/
theorem law_call {f : FuncId} {args : Array Value} {H' : Heap} {W : World} (hL : laidMet Tryz.prog laidAll W) (h : F f args 0 [] = some (.returned (.bool true), H')) (hg : args.toList.all ground = true) :
    Calls Tryz.prog f args W fun e w' => e = .returned (.bool true) ∧ Below W.heap.size W w' :=
  plain_calls (good (tabs_of_laid hL)) h hg rfl (Below.refl _ _) (Nat.le_refl _)
end Go.Proofs.YtijobfkgkopkhaaGreatDoor
