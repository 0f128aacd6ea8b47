/-
  The types of this program, as rules. No condition.
-/
import Derived.Test.YtijobfkgkopkhaaGreatDoorAMd
import Derived.Test.YtijobfkgkopkhaaGreatDoorChecked
import Derived.KernelRfl
set_option linter.all false
set_option linter.unusedSimpArgs false
set_option linter.unusedVariables false
set_option linter.unusedSectionVars false
/-! MADE BY PROGRAM (facts.py): the types of the program, as rules. -/
namespace Go.AM.Z
open Go Go.AM Go.Proofs
theorem sz1 : sz Tryz.prog 1 = some 1 := by kernel_rfl
theorem ag1 : isAggD Tryz.prog 1 = false := by kernel_rfl
theorem un1 : (Tryz.prog.underlying 1).isSome = true := by kernel_rfl
theorem ld1 (H : Heap) (x o n : Nat) : ldA Tryz.prog H 1 (.pointer (some ⟨x, o, some n⟩)) = get1 H[x]? o n := ld_one sz1 ag1 un1 x o n
theorem st1 (H : Heap) (p x o n : Nat) (v : Value) (h : oneC v = true) : stA Tryz.prog H p 1 (.pointer (some ⟨x, o, some n⟩)) v = put H p x o n H[x]? [v] := st_one sz1 x o n v h
theorem sz2 : sz Tryz.prog 2 = some 1 := by kernel_rfl
theorem ag2 : isAggD Tryz.prog 2 = false := by kernel_rfl
theorem un2 : (Tryz.prog.underlying 2).isSome = true := by kernel_rfl
theorem ld2 (H : Heap) (x o n : Nat) : ldA Tryz.prog H 2 (.pointer (some ⟨x, o, some n⟩)) = get1 H[x]? o n := ld_one sz2 ag2 un2 x o n
theorem st2 (H : Heap) (p x o n : Nat) (v : Value) (h : oneC v = true) : stA Tryz.prog H p 2 (.pointer (some ⟨x, o, some n⟩)) v = put H p x o n H[x]? [v] := st_one sz2 x o n v h
theorem sz3 : sz Tryz.prog 3 = some 1 := by kernel_rfl
theorem ag3 : isAggD Tryz.prog 3 = false := by kernel_rfl
theorem un3 : (Tryz.prog.underlying 3).isSome = true := by kernel_rfl
theorem ld3 (H : Heap) (x o n : Nat) : ldA Tryz.prog H 3 (.pointer (some ⟨x, o, some n⟩)) = get1 H[x]? o n := ld_one sz3 ag3 un3 x o n
theorem st3 (H : Heap) (p x o n : Nat) (v : Value) (h : oneC v = true) : stA Tryz.prog H p 3 (.pointer (some ⟨x, o, some n⟩)) v = put H p x o n H[x]? [v] := st_one sz3 x o n v h
theorem sz4 : sz Tryz.prog 4 = some 1 := by kernel_rfl
theorem ag4 : isAggD Tryz.prog 4 = false := by kernel_rfl
theorem un4 : (Tryz.prog.underlying 4).isSome = true := by kernel_rfl
theorem ld4 (H : Heap) (x o n : Nat) : ldA Tryz.prog H 4 (.pointer (some ⟨x, o, some n⟩)) = get1 H[x]? o n := ld_one sz4 ag4 un4 x o n
theorem st4 (H : Heap) (p x o n : Nat) (v : Value) (h : oneC v = true) : stA Tryz.prog H p 4 (.pointer (some ⟨x, o, some n⟩)) v = put H p x o n H[x]? [v] := st_one sz4 x o n v h
theorem sz5 : sz Tryz.prog 5 = some 1 := by kernel_rfl
theorem ag5 : isAggD Tryz.prog 5 = false := by kernel_rfl
theorem un5 : (Tryz.prog.underlying 5).isSome = true := by kernel_rfl
theorem ld5 (H : Heap) (x o n : Nat) : ldA Tryz.prog H 5 (.pointer (some ⟨x, o, some n⟩)) = get1 H[x]? o n := ld_one sz5 ag5 un5 x o n
theorem st5 (H : Heap) (p x o n : Nat) (v : Value) (h : oneC v = true) : stA Tryz.prog H p 5 (.pointer (some ⟨x, o, some n⟩)) v = put H p x o n H[x]? [v] := st_one sz5 x o n v h
theorem sz6 : sz Tryz.prog 6 = some 1 := by kernel_rfl
theorem ag6 : isAggD Tryz.prog 6 = false := by kernel_rfl
theorem un6 : (Tryz.prog.underlying 6).isSome = true := by kernel_rfl
theorem ld6 (H : Heap) (x o n : Nat) : ldA Tryz.prog H 6 (.pointer (some ⟨x, o, some n⟩)) = get1 H[x]? o n := ld_one sz6 ag6 un6 x o n
theorem st6 (H : Heap) (p x o n : Nat) (v : Value) (h : oneC v = true) : stA Tryz.prog H p 6 (.pointer (some ⟨x, o, some n⟩)) v = put H p x o n H[x]? [v] := st_one sz6 x o n v h
theorem sz7 : sz Tryz.prog 7 = some 4 := by kernel_rfl
theorem ag7 : isAggD Tryz.prog 7 = true := by kernel_rfl
theorem un7 : (Tryz.prog.underlying 7).isSome = true := by kernel_rfl
theorem ld7 (H : Heap) (x o n : Nat) : ldA Tryz.prog H 7 (.pointer (some ⟨x, o, some n⟩)) = (getN H[x]? o n 4).bind fun cs => some (.agg cs) := ld_agg sz7 ag7 x o n
theorem sz8 : sz Tryz.prog 8 = some 4 := by kernel_rfl
theorem ag8 : isAggD Tryz.prog 8 = true := by kernel_rfl
theorem un8 : (Tryz.prog.underlying 8).isSome = true := by kernel_rfl
theorem ld8 (H : Heap) (x o n : Nat) : ldA Tryz.prog H 8 (.pointer (some ⟨x, o, some n⟩)) = (getN H[x]? o n 4).bind fun cs => some (.agg cs) := ld_agg sz8 ag8 x o n
theorem sz9 : sz Tryz.prog 9 = some 1 := by kernel_rfl
theorem ag9 : isAggD Tryz.prog 9 = false := by kernel_rfl
theorem un9 : (Tryz.prog.underlying 9).isSome = true := by kernel_rfl
theorem ld9 (H : Heap) (x o n : Nat) : ldA Tryz.prog H 9 (.pointer (some ⟨x, o, some n⟩)) = get1 H[x]? o n := ld_one sz9 ag9 un9 x o n
theorem st9 (H : Heap) (p x o n : Nat) (v : Value) (h : oneC v = true) : stA Tryz.prog H p 9 (.pointer (some ⟨x, o, some n⟩)) v = put H p x o n H[x]? [v] := st_one sz9 x o n v h
theorem sz10 : sz Tryz.prog 10 = some 1 := by kernel_rfl
theorem ag10 : isAggD Tryz.prog 10 = false := by kernel_rfl
theorem un10 : (Tryz.prog.underlying 10).isSome = true := by kernel_rfl
theorem ld10 (H : Heap) (x o n : Nat) : ldA Tryz.prog H 10 (.pointer (some ⟨x, o, some n⟩)) = get1 H[x]? o n := ld_one sz10 ag10 un10 x o n
theorem st10 (H : Heap) (p x o n : Nat) (v : Value) (h : oneC v = true) : stA Tryz.prog H p 10 (.pointer (some ⟨x, o, some n⟩)) v = put H p x o n H[x]? [v] := st_one sz10 x o n v h
theorem sz11 : sz Tryz.prog 11 = some 1 := by kernel_rfl
theorem ag11 : isAggD Tryz.prog 11 = false := by kernel_rfl
theorem un11 : (Tryz.prog.underlying 11).isSome = true := by kernel_rfl
theorem ld11 (H : Heap) (x o n : Nat) : ldA Tryz.prog H 11 (.pointer (some ⟨x, o, some n⟩)) = get1 H[x]? o n := ld_one sz11 ag11 un11 x o n
theorem st11 (H : Heap) (p x o n : Nat) (v : Value) (h : oneC v = true) : stA Tryz.prog H p 11 (.pointer (some ⟨x, o, some n⟩)) v = put H p x o n H[x]? [v] := st_one sz11 x o n v h
theorem sz12 : sz Tryz.prog 12 = some 1 := by kernel_rfl
theorem ag12 : isAggD Tryz.prog 12 = false := by kernel_rfl
theorem un12 : (Tryz.prog.underlying 12).isSome = true := by kernel_rfl
theorem ld12 (H : Heap) (x o n : Nat) : ldA Tryz.prog H 12 (.pointer (some ⟨x, o, some n⟩)) = get1 H[x]? o n := ld_one sz12 ag12 un12 x o n
theorem st12 (H : Heap) (p x o n : Nat) (v : Value) (h : oneC v = true) : stA Tryz.prog H p 12 (.pointer (some ⟨x, o, some n⟩)) v = put H p x o n H[x]? [v] := st_one sz12 x o n v h
theorem sz13 : sz Tryz.prog 13 = some 2 := by kernel_rfl
theorem ag13 : isAggD Tryz.prog 13 = true := by kernel_rfl
theorem un13 : (Tryz.prog.underlying 13).isSome = true := by kernel_rfl
theorem ld13 (H : Heap) (x o n : Nat) : ldA Tryz.prog H 13 (.pointer (some ⟨x, o, some n⟩)) = (getN H[x]? o n 2).bind fun cs => some (.agg cs) := ld_agg sz13 ag13 x o n
theorem sz14 : sz Tryz.prog 14 = some 2 := by kernel_rfl
theorem ag14 : isAggD Tryz.prog 14 = true := by kernel_rfl
theorem un14 : (Tryz.prog.underlying 14).isSome = true := by kernel_rfl
theorem ld14 (H : Heap) (x o n : Nat) : ldA Tryz.prog H 14 (.pointer (some ⟨x, o, some n⟩)) = (getN H[x]? o n 2).bind fun cs => some (.agg cs) := ld_agg sz14 ag14 x o n
theorem sz15 : sz Tryz.prog 15 = some 1 := by kernel_rfl
theorem ag15 : isAggD Tryz.prog 15 = false := by kernel_rfl
theorem un15 : (Tryz.prog.underlying 15).isSome = true := by kernel_rfl
theorem ld15 (H : Heap) (x o n : Nat) : ldA Tryz.prog H 15 (.pointer (some ⟨x, o, some n⟩)) = get1 H[x]? o n := ld_one sz15 ag15 un15 x o n
theorem st15 (H : Heap) (p x o n : Nat) (v : Value) (h : oneC v = true) : stA Tryz.prog H p 15 (.pointer (some ⟨x, o, some n⟩)) v = put H p x o n H[x]? [v] := st_one sz15 x o n v h
theorem sz16 : sz Tryz.prog 16 = some 1 := by kernel_rfl
theorem ag16 : isAggD Tryz.prog 16 = false := by kernel_rfl
theorem un16 : (Tryz.prog.underlying 16).isSome = true := by kernel_rfl
theorem ld16 (H : Heap) (x o n : Nat) : ldA Tryz.prog H 16 (.pointer (some ⟨x, o, some n⟩)) = get1 H[x]? o n := ld_one sz16 ag16 un16 x o n
theorem st16 (H : Heap) (p x o n : Nat) (v : Value) (h : oneC v = true) : stA Tryz.prog H p 16 (.pointer (some ⟨x, o, some n⟩)) v = put H p x o n H[x]? [v] := st_one sz16 x o n v h
theorem sz17 : sz Tryz.prog 17 = some 1 := by kernel_rfl
theorem ag17 : isAggD Tryz.prog 17 = false := by kernel_rfl
theorem un17 : (Tryz.prog.underlying 17).isSome = true := by kernel_rfl
theorem ld17 (H : Heap) (x o n : Nat) : ldA Tryz.prog H 17 (.pointer (some ⟨x, o, some n⟩)) = get1 H[x]? o n := ld_one sz17 ag17 un17 x o n
theorem st17 (H : Heap) (p x o n : Nat) (v : Value) (h : oneC v = true) : stA Tryz.prog H p 17 (.pointer (some ⟨x, o, some n⟩)) v = put H p x o n H[x]? [v] := st_one sz17 x o n v h
theorem sz18 : sz Tryz.prog 18 = some 1 := by kernel_rfl
theorem ag18 : isAggD Tryz.prog 18 = true := by kernel_rfl
theorem un18 : (Tryz.prog.underlying 18).isSome = true := by kernel_rfl
theorem ld18 (H : Heap) (x o n : Nat) : ldA Tryz.prog H 18 (.pointer (some ⟨x, o, some n⟩)) = (getN H[x]? o n 1).bind fun cs => some (.agg cs) := ld_agg sz18 ag18 x o n
theorem sz19 : sz Tryz.prog 19 = some 1 := by kernel_rfl
theorem ag19 : isAggD Tryz.prog 19 = true := by kernel_rfl
theorem un19 : (Tryz.prog.underlying 19).isSome = true := by kernel_rfl
theorem ld19 (H : Heap) (x o n : Nat) : ldA Tryz.prog H 19 (.pointer (some ⟨x, o, some n⟩)) = (getN H[x]? o n 1).bind fun cs => some (.agg cs) := ld_agg sz19 ag19 x o n
theorem sz20 : sz Tryz.prog 20 = some 1 := by kernel_rfl
theorem ag20 : isAggD Tryz.prog 20 = false := by kernel_rfl
theorem un20 : (Tryz.prog.underlying 20).isSome = true := by kernel_rfl
theorem ld20 (H : Heap) (x o n : Nat) : ldA Tryz.prog H 20 (.pointer (some ⟨x, o, some n⟩)) = get1 H[x]? o n := ld_one sz20 ag20 un20 x o n
theorem st20 (H : Heap) (p x o n : Nat) (v : Value) (h : oneC v = true) : stA Tryz.prog H p 20 (.pointer (some ⟨x, o, some n⟩)) v = put H p x o n H[x]? [v] := st_one sz20 x o n v h
theorem sz21 : sz Tryz.prog 21 = some 1 := by kernel_rfl
theorem ag21 : isAggD Tryz.prog 21 = false := by kernel_rfl
theorem un21 : (Tryz.prog.underlying 21).isSome = true := by kernel_rfl
theorem ld21 (H : Heap) (x o n : Nat) : ldA Tryz.prog H 21 (.pointer (some ⟨x, o, some n⟩)) = get1 H[x]? o n := ld_one sz21 ag21 un21 x o n
theorem st21 (H : Heap) (p x o n : Nat) (v : Value) (h : oneC v = true) : stA Tryz.prog H p 21 (.pointer (some ⟨x, o, some n⟩)) v = put H p x o n H[x]? [v] := st_one sz21 x o n v h
theorem sz22 : sz Tryz.prog 22 = some 5 := by kernel_rfl
theorem ag22 : isAggD Tryz.prog 22 = true := by kernel_rfl
theorem un22 : (Tryz.prog.underlying 22).isSome = true := by kernel_rfl
theorem ld22 (H : Heap) (x o n : Nat) : ldA Tryz.prog H 22 (.pointer (some ⟨x, o, some n⟩)) = (getN H[x]? o n 5).bind fun cs => some (.agg cs) := ld_agg sz22 ag22 x o n
theorem sz23 : sz Tryz.prog 23 = some 5 := by kernel_rfl
theorem ag23 : isAggD Tryz.prog 23 = true := by kernel_rfl
theorem un23 : (Tryz.prog.underlying 23).isSome = true := by kernel_rfl
theorem ld23 (H : Heap) (x o n : Nat) : ldA Tryz.prog H 23 (.pointer (some ⟨x, o, some n⟩)) = (getN H[x]? o n 5).bind fun cs => some (.agg cs) := ld_agg sz23 ag23 x o n
theorem sz24 : sz Tryz.prog 24 = some 15 := by kernel_rfl
theorem ag24 : isAggD Tryz.prog 24 = true := by kernel_rfl
theorem un24 : (Tryz.prog.underlying 24).isSome = true := by kernel_rfl
theorem ld24 (H : Heap) (x o n : Nat) : ldA Tryz.prog H 24 (.pointer (some ⟨x, o, some n⟩)) = (getN H[x]? o n 15).bind fun cs => some (.agg cs) := ld_agg sz24 ag24 x o n
theorem sz25 : sz Tryz.prog 25 = some 15 := by kernel_rfl
theorem ag25 : isAggD Tryz.prog 25 = true := by kernel_rfl
theorem un25 : (Tryz.prog.underlying 25).isSome = true := by kernel_rfl
theorem ld25 (H : Heap) (x o n : Nat) : ldA Tryz.prog H 25 (.pointer (some ⟨x, o, some n⟩)) = (getN H[x]? o n 15).bind fun cs => some (.agg cs) := ld_agg sz25 ag25 x o n
theorem sz26 : sz Tryz.prog 26 = some 1 := by kernel_rfl
theorem ag26 : isAggD Tryz.prog 26 = false := by kernel_rfl
theorem un26 : (Tryz.prog.underlying 26).isSome = true := by kernel_rfl
theorem ld26 (H : Heap) (x o n : Nat) : ldA Tryz.prog H 26 (.pointer (some ⟨x, o, some n⟩)) = get1 H[x]? o n := ld_one sz26 ag26 un26 x o n
theorem st26 (H : Heap) (p x o n : Nat) (v : Value) (h : oneC v = true) : stA Tryz.prog H p 26 (.pointer (some ⟨x, o, some n⟩)) v = put H p x o n H[x]? [v] := st_one sz26 x o n v h
theorem sz27 : sz Tryz.prog 27 = some 1 := by kernel_rfl
theorem ag27 : isAggD Tryz.prog 27 = false := by kernel_rfl
theorem un27 : (Tryz.prog.underlying 27).isSome = true := by kernel_rfl
theorem ld27 (H : Heap) (x o n : Nat) : ldA Tryz.prog H 27 (.pointer (some ⟨x, o, some n⟩)) = get1 H[x]? o n := ld_one sz27 ag27 un27 x o n
theorem st27 (H : Heap) (p x o n : Nat) (v : Value) (h : oneC v = true) : stA Tryz.prog H p 27 (.pointer (some ⟨x, o, some n⟩)) v = put H p x o n H[x]? [v] := st_one sz27 x o n v h
theorem sz29 : sz Tryz.prog 29 = some 1 := by kernel_rfl
theorem ag29 : isAggD Tryz.prog 29 = false := by kernel_rfl
theorem un29 : (Tryz.prog.underlying 29).isSome = true := by kernel_rfl
theorem ld29 (H : Heap) (x o n : Nat) : ldA Tryz.prog H 29 (.pointer (some ⟨x, o, some n⟩)) = get1 H[x]? o n := ld_one sz29 ag29 un29 x o n
theorem st29 (H : Heap) (p x o n : Nat) (v : Value) (h : oneC v = true) : stA Tryz.prog H p 29 (.pointer (some ⟨x, o, some n⟩)) v = put H p x o n H[x]? [v] := st_one sz29 x o n v h
theorem sz30 : sz Tryz.prog 30 = some 1 := by kernel_rfl
theorem ag30 : isAggD Tryz.prog 30 = false := by kernel_rfl
theorem un30 : (Tryz.prog.underlying 30).isSome = true := by kernel_rfl
theorem ld30 (H : Heap) (x o n : Nat) : ldA Tryz.prog H 30 (.pointer (some ⟨x, o, some n⟩)) = get1 H[x]? o n := ld_one sz30 ag30 un30 x o n
theorem st30 (H : Heap) (p x o n : Nat) (v : Value) (h : oneC v = true) : stA Tryz.prog H p 30 (.pointer (some ⟨x, o, some n⟩)) v = put H p x o n H[x]? [v] := st_one sz30 x o n v h
theorem sz32 : sz Tryz.prog 32 = some 1 := by kernel_rfl
theorem ag32 : isAggD Tryz.prog 32 = false := by kernel_rfl
theorem un32 : (Tryz.prog.underlying 32).isSome = true := by kernel_rfl
theorem ld32 (H : Heap) (x o n : Nat) : ldA Tryz.prog H 32 (.pointer (some ⟨x, o, some n⟩)) = get1 H[x]? o n := ld_one sz32 ag32 un32 x o n
theorem st32 (H : Heap) (p x o n : Nat) (v : Value) (h : oneC v = true) : stA Tryz.prog H p 32 (.pointer (some ⟨x, o, some n⟩)) v = put H p x o n H[x]? [v] := st_one sz32 x o n v h
theorem sz33 : sz Tryz.prog 33 = some 1 := by kernel_rfl
theorem ag33 : isAggD Tryz.prog 33 = false := by kernel_rfl
theorem un33 : (Tryz.prog.underlying 33).isSome = true := by kernel_rfl
theorem ld33 (H : Heap) (x o n : Nat) : ldA Tryz.prog H 33 (.pointer (some ⟨x, o, some n⟩)) = get1 H[x]? o n := ld_one sz33 ag33 un33 x o n
theorem st33 (H : Heap) (p x o n : Nat) (v : Value) (h : oneC v = true) : stA Tryz.prog H p 33 (.pointer (some ⟨x, o, some n⟩)) v = put H p x o n H[x]? [v] := st_one sz33 x o n v h
theorem sz34 : sz Tryz.prog 34 = some 1 := by kernel_rfl
theorem ag34 : isAggD Tryz.prog 34 = false := by kernel_rfl
theorem un34 : (Tryz.prog.underlying 34).isSome = true := by kernel_rfl
theorem ld34 (H : Heap) (x o n : Nat) : ldA Tryz.prog H 34 (.pointer (some ⟨x, o, some n⟩)) = get1 H[x]? o n := ld_one sz34 ag34 un34 x o n
theorem st34 (H : Heap) (p x o n : Nat) (v : Value) (h : oneC v = true) : stA Tryz.prog H p 34 (.pointer (some ⟨x, o, some n⟩)) v = put H p x o n H[x]? [v] := st_one sz34 x o n v h
theorem sz35 : sz Tryz.prog 35 = some 1 := by kernel_rfl
theorem ag35 : isAggD Tryz.prog 35 = false := by kernel_rfl
theorem un35 : (Tryz.prog.underlying 35).isSome = true := by kernel_rfl
theorem ld35 (H : Heap) (x o n : Nat) : ldA Tryz.prog H 35 (.pointer (some ⟨x, o, some n⟩)) = get1 H[x]? o n := ld_one sz35 ag35 un35 x o n
theorem st35 (H : Heap) (p x o n : Nat) (v : Value) (h : oneC v = true) : stA Tryz.prog H p 35 (.pointer (some ⟨x, o, some n⟩)) v = put H p x o n H[x]? [v] := st_one sz35 x o n v h
theorem sz36 : sz Tryz.prog 36 = some 1 := by kernel_rfl
theorem ag36 : isAggD Tryz.prog 36 = false := by kernel_rfl
theorem un36 : (Tryz.prog.underlying 36).isSome = true := by kernel_rfl
theorem ld36 (H : Heap) (x o n : Nat) : ldA Tryz.prog H 36 (.pointer (some ⟨x, o, some n⟩)) = get1 H[x]? o n := ld_one sz36 ag36 un36 x o n
theorem st36 (H : Heap) (p x o n : Nat) (v : Value) (h : oneC v = true) : stA Tryz.prog H p 36 (.pointer (some ⟨x, o, some n⟩)) v = put H p x o n H[x]? [v] := st_one sz36 x o n v h
theorem sz37 : sz Tryz.prog 37 = some 1 := by kernel_rfl
theorem ag37 : isAggD Tryz.prog 37 = false := by kernel_rfl
theorem un37 : (Tryz.prog.underlying 37).isSome = true := by kernel_rfl
theorem ld37 (H : Heap) (x o n : Nat) : ldA Tryz.prog H 37 (.pointer (some ⟨x, o, some n⟩)) = get1 H[x]? o n := ld_one sz37 ag37 un37 x o n
theorem st37 (H : Heap) (p x o n : Nat) (v : Value) (h : oneC v = true) : stA Tryz.prog H p 37 (.pointer (some ⟨x, o, some n⟩)) v = put H p x o n H[x]? [v] := st_one sz37 x o n v h
theorem sz38 : sz Tryz.prog 38 = some 1 := by kernel_rfl
theorem ag38 : isAggD Tryz.prog 38 = false := by kernel_rfl
theorem un38 : (Tryz.prog.underlying 38).isSome = true := by kernel_rfl
theorem ld38 (H : Heap) (x o n : Nat) : ldA Tryz.prog H 38 (.pointer (some ⟨x, o, some n⟩)) = get1 H[x]? o n := ld_one sz38 ag38 un38 x o n
theorem st38 (H : Heap) (p x o n : Nat) (v : Value) (h : oneC v = true) : stA Tryz.prog H p 38 (.pointer (some ⟨x, o, some n⟩)) v = put H p x o n H[x]? [v] := st_one sz38 x o n v h
theorem sz39 : sz Tryz.prog 39 = some 1 := by kernel_rfl
theorem ag39 : isAggD Tryz.prog 39 = false := by kernel_rfl
theorem un39 : (Tryz.prog.underlying 39).isSome = true := by kernel_rfl
theorem ld39 (H : Heap) (x o n : Nat) : ldA Tryz.prog H 39 (.pointer (some ⟨x, o, some n⟩)) = get1 H[x]? o n := ld_one sz39 ag39 un39 x o n
theorem st39 (H : Heap) (p x o n : Nat) (v : Value) (h : oneC v = true) : stA Tryz.prog H p 39 (.pointer (some ⟨x, o, some n⟩)) v = put H p x o n H[x]? [v] := st_one sz39 x o n v h
theorem sz40 : sz Tryz.prog 40 = some 1 := by kernel_rfl
theorem ag40 : isAggD Tryz.prog 40 = false := by kernel_rfl
theorem un40 : (Tryz.prog.underlying 40).isSome = true := by kernel_rfl
theorem ld40 (H : Heap) (x o n : Nat) : ldA Tryz.prog H 40 (.pointer (some ⟨x, o, some n⟩)) = get1 H[x]? o n := ld_one sz40 ag40 un40 x o n
theorem st40 (H : Heap) (p x o n : Nat) (v : Value) (h : oneC v = true) : stA Tryz.prog H p 40 (.pointer (some ⟨x, o, some n⟩)) v = put H p x o n H[x]? [v] := st_one sz40 x o n v h
theorem sz41 : sz Tryz.prog 41 = some 1 := by kernel_rfl
theorem ag41 : isAggD Tryz.prog 41 = false := by kernel_rfl
theorem un41 : (Tryz.prog.underlying 41).isSome = true := by kernel_rfl
theorem ld41 (H : Heap) (x o n : Nat) : ldA Tryz.prog H 41 (.pointer (some ⟨x, o, some n⟩)) = get1 H[x]? o n := ld_one sz41 ag41 un41 x o n
theorem st41 (H : Heap) (p x o n : Nat) (v : Value) (h : oneC v = true) : stA Tryz.prog H p 41 (.pointer (some ⟨x, o, some n⟩)) v = put H p x o n H[x]? [v] := st_one sz41 x o n v h
theorem sz42 : sz Tryz.prog 42 = some 1 := by kernel_rfl
theorem ag42 : isAggD Tryz.prog 42 = false := by kernel_rfl
theorem un42 : (Tryz.prog.underlying 42).isSome = true := by kernel_rfl
theorem ld42 (H : Heap) (x o n : Nat) : ldA Tryz.prog H 42 (.pointer (some ⟨x, o, some n⟩)) = get1 H[x]? o n := ld_one sz42 ag42 un42 x o n
theorem st42 (H : Heap) (p x o n : Nat) (v : Value) (h : oneC v = true) : stA Tryz.prog H p 42 (.pointer (some ⟨x, o, some n⟩)) v = put H p x o n H[x]? [v] := st_one sz42 x o n v h
theorem sz43 : sz Tryz.prog 43 = some 1 := by kernel_rfl
theorem ag43 : isAggD Tryz.prog 43 = false := by kernel_rfl
theorem un43 : (Tryz.prog.underlying 43).isSome = true := by kernel_rfl
theorem ld43 (H : Heap) (x o n : Nat) : ldA Tryz.prog H 43 (.pointer (some ⟨x, o, some n⟩)) = get1 H[x]? o n := ld_one sz43 ag43 un43 x o n
theorem st43 (H : Heap) (p x o n : Nat) (v : Value) (h : oneC v = true) : stA Tryz.prog H p 43 (.pointer (some ⟨x, o, some n⟩)) v = put H p x o n H[x]? [v] := st_one sz43 x o n v h
theorem sz45 : sz Tryz.prog 45 = some 1 := by kernel_rfl
theorem ag45 : isAggD Tryz.prog 45 = false := by kernel_rfl
theorem un45 : (Tryz.prog.underlying 45).isSome = true := by kernel_rfl
theorem ld45 (H : Heap) (x o n : Nat) : ldA Tryz.prog H 45 (.pointer (some ⟨x, o, some n⟩)) = get1 H[x]? o n := ld_one sz45 ag45 un45 x o n
theorem st45 (H : Heap) (p x o n : Nat) (v : Value) (h : oneC v = true) : stA Tryz.prog H p 45 (.pointer (some ⟨x, o, some n⟩)) v = put H p x o n H[x]? [v] := st_one sz45 x o n v h
theorem sz47 : sz Tryz.prog 47 = some 1 := by kernel_rfl
theorem ag47 : isAggD Tryz.prog 47 = false := by kernel_rfl
theorem un47 : (Tryz.prog.underlying 47).isSome = true := by kernel_rfl
theorem ld47 (H : Heap) (x o n : Nat) : ldA Tryz.prog H 47 (.pointer (some ⟨x, o, some n⟩)) = get1 H[x]? o n := ld_one sz47 ag47 un47 x o n
theorem st47 (H : Heap) (p x o n : Nat) (v : Value) (h : oneC v = true) : stA Tryz.prog H p 47 (.pointer (some ⟨x, o, some n⟩)) v = put H p x o n H[x]? [v] := st_one sz47 x o n v h
theorem sz48 : sz Tryz.prog 48 = some 1 := by kernel_rfl
theorem ag48 : isAggD Tryz.prog 48 = false := by kernel_rfl
theorem un48 : (Tryz.prog.underlying 48).isSome = true := by kernel_rfl
theorem ld48 (H : Heap) (x o n : Nat) : ldA Tryz.prog H 48 (.pointer (some ⟨x, o, some n⟩)) = get1 H[x]? o n := ld_one sz48 ag48 un48 x o n
theorem st48 (H : Heap) (p x o n : Nat) (v : Value) (h : oneC v = true) : stA Tryz.prog H p 48 (.pointer (some ⟨x, o, some n⟩)) v = put H p x o n H[x]? [v] := st_one sz48 x o n v h
theorem sz50 : sz Tryz.prog 50 = some 1 := by kernel_rfl
theorem ag50 : isAggD Tryz.prog 50 = false := by kernel_rfl
theorem un50 : (Tryz.prog.underlying 50).isSome = true := by kernel_rfl
theorem ld50 (H : Heap) (x o n : Nat) : ldA Tryz.prog H 50 (.pointer (some ⟨x, o, some n⟩)) = get1 H[x]? o n := ld_one sz50 ag50 un50 x o n
theorem st50 (H : Heap) (p x o n : Nat) (v : Value) (h : oneC v = true) : stA Tryz.prog H p 50 (.pointer (some ⟨x, o, some n⟩)) v = put H p x o n H[x]? [v] := st_one sz50 x o n v h
theorem sz51 : sz Tryz.prog 51 = some 1 := by kernel_rfl
theorem ag51 : isAggD Tryz.prog 51 = false := by kernel_rfl
theorem un51 : (Tryz.prog.underlying 51).isSome = true := by kernel_rfl
theorem ld51 (H : Heap) (x o n : Nat) : ldA Tryz.prog H 51 (.pointer (some ⟨x, o, some n⟩)) = get1 H[x]? o n := ld_one sz51 ag51 un51 x o n
theorem st51 (H : Heap) (p x o n : Nat) (v : Value) (h : oneC v = true) : stA Tryz.prog H p 51 (.pointer (some ⟨x, o, some n⟩)) v = put H p x o n H[x]? [v] := st_one sz51 x o n v h
theorem sz52 : sz Tryz.prog 52 = some 3 := by kernel_rfl
theorem ag52 : isAggD Tryz.prog 52 = true := by kernel_rfl
theorem un52 : (Tryz.prog.underlying 52).isSome = true := by kernel_rfl
theorem ld52 (H : Heap) (x o n : Nat) : ldA Tryz.prog H 52 (.pointer (some ⟨x, o, some n⟩)) = (getN H[x]? o n 3).bind fun cs => some (.agg cs) := ld_agg sz52 ag52 x o n
theorem sz53 : sz Tryz.prog 53 = some 3 := by kernel_rfl
theorem ag53 : isAggD Tryz.prog 53 = true := by kernel_rfl
theorem un53 : (Tryz.prog.underlying 53).isSome = true := by kernel_rfl
theorem ld53 (H : Heap) (x o n : Nat) : ldA Tryz.prog H 53 (.pointer (some ⟨x, o, some n⟩)) = (getN H[x]? o n 3).bind fun cs => some (.agg cs) := ld_agg sz53 ag53 x o n
theorem sz54 : sz Tryz.prog 54 = some 1 := by kernel_rfl
theorem ag54 : isAggD Tryz.prog 54 = false := by kernel_rfl
theorem un54 : (Tryz.prog.underlying 54).isSome = true := by kernel_rfl
theorem ld54 (H : Heap) (x o n : Nat) : ldA Tryz.prog H 54 (.pointer (some ⟨x, o, some n⟩)) = get1 H[x]? o n := ld_one sz54 ag54 un54 x o n
theorem st54 (H : Heap) (p x o n : Nat) (v : Value) (h : oneC v = true) : stA Tryz.prog H p 54 (.pointer (some ⟨x, o, some n⟩)) v = put H p x o n H[x]? [v] := st_one sz54 x o n v h
theorem sz55 : sz Tryz.prog 55 = some 1 := by kernel_rfl
theorem ag55 : isAggD Tryz.prog 55 = false := by kernel_rfl
theorem un55 : (Tryz.prog.underlying 55).isSome = true := by kernel_rfl
theorem ld55 (H : Heap) (x o n : Nat) : ldA Tryz.prog H 55 (.pointer (some ⟨x, o, some n⟩)) = get1 H[x]? o n := ld_one sz55 ag55 un55 x o n
theorem st55 (H : Heap) (p x o n : Nat) (v : Value) (h : oneC v = true) : stA Tryz.prog H p 55 (.pointer (some ⟨x, o, some n⟩)) v = put H p x o n H[x]? [v] := st_one sz55 x o n v h
theorem sz56 : sz Tryz.prog 56 = some 1 := by kernel_rfl
theorem ag56 : isAggD Tryz.prog 56 = false := by kernel_rfl
theorem un56 : (Tryz.prog.underlying 56).isSome = true := by kernel_rfl
theorem ld56 (H : Heap) (x o n : Nat) : ldA Tryz.prog H 56 (.pointer (some ⟨x, o, some n⟩)) = get1 H[x]? o n := ld_one sz56 ag56 un56 x o n
theorem st56 (H : Heap) (p x o n : Nat) (v : Value) (h : oneC v = true) : stA Tryz.prog H p 56 (.pointer (some ⟨x, o, some n⟩)) v = put H p x o n H[x]? [v] := st_one sz56 x o n v h
theorem sz57 : sz Tryz.prog 57 = some 1 := by kernel_rfl
theorem ag57 : isAggD Tryz.prog 57 = false := by kernel_rfl
theorem un57 : (Tryz.prog.underlying 57).isSome = true := by kernel_rfl
theorem ld57 (H : Heap) (x o n : Nat) : ldA Tryz.prog H 57 (.pointer (some ⟨x, o, some n⟩)) = get1 H[x]? o n := ld_one sz57 ag57 un57 x o n
theorem st57 (H : Heap) (p x o n : Nat) (v : Value) (h : oneC v = true) : stA Tryz.prog H p 57 (.pointer (some ⟨x, o, some n⟩)) v = put H p x o n H[x]? [v] := st_one sz57 x o n v h
theorem sz58 : sz Tryz.prog 58 = some 1 := by kernel_rfl
theorem ag58 : isAggD Tryz.prog 58 = false := by kernel_rfl
theorem un58 : (Tryz.prog.underlying 58).isSome = true := by kernel_rfl
theorem ld58 (H : Heap) (x o n : Nat) : ldA Tryz.prog H 58 (.pointer (some ⟨x, o, some n⟩)) = get1 H[x]? o n := ld_one sz58 ag58 un58 x o n
theorem st58 (H : Heap) (p x o n : Nat) (v : Value) (h : oneC v = true) : stA Tryz.prog H p 58 (.pointer (some ⟨x, o, some n⟩)) v = put H p x o n H[x]? [v] := st_one sz58 x o n v h
theorem sz59 : sz Tryz.prog 59 = some 1 := by kernel_rfl
theorem ag59 : isAggD Tryz.prog 59 = false := by kernel_rfl
theorem un59 : (Tryz.prog.underlying 59).isSome = true := by kernel_rfl
theorem ld59 (H : Heap) (x o n : Nat) : ldA Tryz.prog H 59 (.pointer (some ⟨x, o, some n⟩)) = get1 H[x]? o n := ld_one sz59 ag59 un59 x o n
theorem st59 (H : Heap) (p x o n : Nat) (v : Value) (h : oneC v = true) : stA Tryz.prog H p 59 (.pointer (some ⟨x, o, some n⟩)) v = put H p x o n H[x]? [v] := st_one sz59 x o n v h
theorem sz60 : sz Tryz.prog 60 = some 1 := by kernel_rfl
theorem ag60 : isAggD Tryz.prog 60 = false := by kernel_rfl
theorem un60 : (Tryz.prog.underlying 60).isSome = true := by kernel_rfl
theorem ld60 (H : Heap) (x o n : Nat) : ldA Tryz.prog H 60 (.pointer (some ⟨x, o, some n⟩)) = get1 H[x]? o n := ld_one sz60 ag60 un60 x o n
theorem st60 (H : Heap) (p x o n : Nat) (v : Value) (h : oneC v = true) : stA Tryz.prog H p 60 (.pointer (some ⟨x, o, some n⟩)) v = put H p x o n H[x]? [v] := st_one sz60 x o n v h
theorem sz61 : sz Tryz.prog 61 = some 1 := by kernel_rfl
theorem ag61 : isAggD Tryz.prog 61 = false := by kernel_rfl
theorem un61 : (Tryz.prog.underlying 61).isSome = true := by kernel_rfl
theorem ld61 (H : Heap) (x o n : Nat) : ldA Tryz.prog H 61 (.pointer (some ⟨x, o, some n⟩)) = get1 H[x]? o n := ld_one sz61 ag61 un61 x o n
theorem st61 (H : Heap) (p x o n : Nat) (v : Value) (h : oneC v = true) : stA Tryz.prog H p 61 (.pointer (some ⟨x, o, some n⟩)) v = put H p x o n H[x]? [v] := st_one sz61 x o n v h
theorem sz63 : sz Tryz.prog 63 = some 1 := by kernel_rfl
theorem ag63 : isAggD Tryz.prog 63 = false := by kernel_rfl
theorem un63 : (Tryz.prog.underlying 63).isSome = true := by kernel_rfl
theorem ld63 (H : Heap) (x o n : Nat) : ldA Tryz.prog H 63 (.pointer (some ⟨x, o, some n⟩)) = get1 H[x]? o n := ld_one sz63 ag63 un63 x o n
theorem st63 (H : Heap) (p x o n : Nat) (v : Value) (h : oneC v = true) : stA Tryz.prog H p 63 (.pointer (some ⟨x, o, some n⟩)) v = put H p x o n H[x]? [v] := st_one sz63 x o n v h
theorem sz65 : sz Tryz.prog 65 = some 1 := by kernel_rfl
theorem ag65 : isAggD Tryz.prog 65 = false := by kernel_rfl
theorem un65 : (Tryz.prog.underlying 65).isSome = true := by kernel_rfl
theorem ld65 (H : Heap) (x o n : Nat) : ldA Tryz.prog H 65 (.pointer (some ⟨x, o, some n⟩)) = get1 H[x]? o n := ld_one sz65 ag65 un65 x o n
theorem st65 (H : Heap) (p x o n : Nat) (v : Value) (h : oneC v = true) : stA Tryz.prog H p 65 (.pointer (some ⟨x, o, some n⟩)) v = put H p x o n H[x]? [v] := st_one sz65 x o n v h
theorem sz66 : sz Tryz.prog 66 = some 1 := by kernel_rfl
theorem ag66 : isAggD Tryz.prog 66 = false := by kernel_rfl
theorem un66 : (Tryz.prog.underlying 66).isSome = true := by kernel_rfl
theorem ld66 (H : Heap) (x o n : Nat) : ldA Tryz.prog H 66 (.pointer (some ⟨x, o, some n⟩)) = get1 H[x]? o n := ld_one sz66 ag66 un66 x o n
theorem st66 (H : Heap) (p x o n : Nat) (v : Value) (h : oneC v = true) : stA Tryz.prog H p 66 (.pointer (some ⟨x, o, some n⟩)) v = put H p x o n H[x]? [v] := st_one sz66 x o n v h
theorem sz67 : sz Tryz.prog 67 = some 1 := by kernel_rfl
theorem ag67 : isAggD Tryz.prog 67 = false := by kernel_rfl
theorem un67 : (Tryz.prog.underlying 67).isSome = true := by kernel_rfl
theorem ld67 (H : Heap) (x o n : Nat) : ldA Tryz.prog H 67 (.pointer (some ⟨x, o, some n⟩)) = get1 H[x]? o n := ld_one sz67 ag67 un67 x o n
theorem st67 (H : Heap) (p x o n : Nat) (v : Value) (h : oneC v = true) : stA Tryz.prog H p 67 (.pointer (some ⟨x, o, some n⟩)) v = put H p x o n H[x]? [v] := st_one sz67 x o n v h
theorem sz68 : sz Tryz.prog 68 = some 1 := by kernel_rfl
theorem ag68 : isAggD Tryz.prog 68 = false := by kernel_rfl
theorem un68 : (Tryz.prog.underlying 68).isSome = true := by kernel_rfl
theorem ld68 (H : Heap) (x o n : Nat) : ldA Tryz.prog H 68 (.pointer (some ⟨x, o, some n⟩)) = get1 H[x]? o n := ld_one sz68 ag68 un68 x o n
theorem st68 (H : Heap) (p x o n : Nat) (v : Value) (h : oneC v = true) : stA Tryz.prog H p 68 (.pointer (some ⟨x, o, some n⟩)) v = put H p x o n H[x]? [v] := st_one sz68 x o n v h
theorem sz69 : sz Tryz.prog 69 = some 1 := by kernel_rfl
theorem ag69 : isAggD Tryz.prog 69 = false := by kernel_rfl
theorem un69 : (Tryz.prog.underlying 69).isSome = true := by kernel_rfl
theorem ld69 (H : Heap) (x o n : Nat) : ldA Tryz.prog H 69 (.pointer (some ⟨x, o, some n⟩)) = get1 H[x]? o n := ld_one sz69 ag69 un69 x o n
theorem st69 (H : Heap) (p x o n : Nat) (v : Value) (h : oneC v = true) : stA Tryz.prog H p 69 (.pointer (some ⟨x, o, some n⟩)) v = put H p x o n H[x]? [v] := st_one sz69 x o n v h
theorem sz70 : sz Tryz.prog 70 = some 1 := by kernel_rfl
theorem ag70 : isAggD Tryz.prog 70 = false := by kernel_rfl
theorem un70 : (Tryz.prog.underlying 70).isSome = true := by kernel_rfl
theorem ld70 (H : Heap) (x o n : Nat) : ldA Tryz.prog H 70 (.pointer (some ⟨x, o, some n⟩)) = get1 H[x]? o n := ld_one sz70 ag70 un70 x o n
theorem st70 (H : Heap) (p x o n : Nat) (v : Value) (h : oneC v = true) : stA Tryz.prog H p 70 (.pointer (some ⟨x, o, some n⟩)) v = put H p x o n H[x]? [v] := st_one sz70 x o n v h
theorem sz71 : sz Tryz.prog 71 = some 1 := by kernel_rfl
theorem ag71 : isAggD Tryz.prog 71 = false := by kernel_rfl
theorem un71 : (Tryz.prog.underlying 71).isSome = true := by kernel_rfl
theorem ld71 (H : Heap) (x o n : Nat) : ldA Tryz.prog H 71 (.pointer (some ⟨x, o, some n⟩)) = get1 H[x]? o n := ld_one sz71 ag71 un71 x o n
theorem st71 (H : Heap) (p x o n : Nat) (v : Value) (h : oneC v = true) : stA Tryz.prog H p 71 (.pointer (some ⟨x, o, some n⟩)) v = put H p x o n H[x]? [v] := st_one sz71 x o n v h
theorem sz73 : sz Tryz.prog 73 = some 1 := by kernel_rfl
theorem ag73 : isAggD Tryz.prog 73 = false := by kernel_rfl
theorem un73 : (Tryz.prog.underlying 73).isSome = true := by kernel_rfl
theorem ld73 (H : Heap) (x o n : Nat) : ldA Tryz.prog H 73 (.pointer (some ⟨x, o, some n⟩)) = get1 H[x]? o n := ld_one sz73 ag73 un73 x o n
theorem st73 (H : Heap) (p x o n : Nat) (v : Value) (h : oneC v = true) : stA Tryz.prog H p 73 (.pointer (some ⟨x, o, some n⟩)) v = put H p x o n H[x]? [v] := st_one sz73 x o n v h
theorem sz74 : sz Tryz.prog 74 = some 1 := by kernel_rfl
theorem ag74 : isAggD Tryz.prog 74 = false := by kernel_rfl
theorem un74 : (Tryz.prog.underlying 74).isSome = true := by kernel_rfl
theorem ld74 (H : Heap) (x o n : Nat) : ldA Tryz.prog H 74 (.pointer (some ⟨x, o, some n⟩)) = get1 H[x]? o n := ld_one sz74 ag74 un74 x o n
theorem st74 (H : Heap) (p x o n : Nat) (v : Value) (h : oneC v = true) : stA Tryz.prog H p 74 (.pointer (some ⟨x, o, some n⟩)) v = put H p x o n H[x]? [v] := st_one sz74 x o n v h
theorem sz75 : sz Tryz.prog 75 = some 1 := by kernel_rfl
theorem ag75 : isAggD Tryz.prog 75 = false := by kernel_rfl
theorem un75 : (Tryz.prog.underlying 75).isSome = true := by kernel_rfl
theorem ld75 (H : Heap) (x o n : Nat) : ldA Tryz.prog H 75 (.pointer (some ⟨x, o, some n⟩)) = get1 H[x]? o n := ld_one sz75 ag75 un75 x o n
theorem st75 (H : Heap) (p x o n : Nat) (v : Value) (h : oneC v = true) : stA Tryz.prog H p 75 (.pointer (some ⟨x, o, some n⟩)) v = put H p x o n H[x]? [v] := st_one sz75 x o n v h
theorem sz76 : sz Tryz.prog 76 = some 1 := by kernel_rfl
theorem ag76 : isAggD Tryz.prog 76 = false := by kernel_rfl
theorem un76 : (Tryz.prog.underlying 76).isSome = true := by kernel_rfl
theorem ld76 (H : Heap) (x o n : Nat) : ldA Tryz.prog H 76 (.pointer (some ⟨x, o, some n⟩)) = get1 H[x]? o n := ld_one sz76 ag76 un76 x o n
theorem st76 (H : Heap) (p x o n : Nat) (v : Value) (h : oneC v = true) : stA Tryz.prog H p 76 (.pointer (some ⟨x, o, some n⟩)) v = put H p x o n H[x]? [v] := st_one sz76 x o n v h
theorem sz77 : sz Tryz.prog 77 = some 1 := by kernel_rfl
theorem ag77 : isAggD Tryz.prog 77 = false := by kernel_rfl
theorem un77 : (Tryz.prog.underlying 77).isSome = true := by kernel_rfl
theorem ld77 (H : Heap) (x o n : Nat) : ldA Tryz.prog H 77 (.pointer (some ⟨x, o, some n⟩)) = get1 H[x]? o n := ld_one sz77 ag77 un77 x o n
theorem st77 (H : Heap) (p x o n : Nat) (v : Value) (h : oneC v = true) : stA Tryz.prog H p 77 (.pointer (some ⟨x, o, some n⟩)) v = put H p x o n H[x]? [v] := st_one sz77 x o n v h
theorem sz78 : sz Tryz.prog 78 = some 2 := by kernel_rfl
theorem ag78 : isAggD Tryz.prog 78 = true := by kernel_rfl
theorem un78 : (Tryz.prog.underlying 78).isSome = true := by kernel_rfl
theorem ld78 (H : Heap) (x o n : Nat) : ldA Tryz.prog H 78 (.pointer (some ⟨x, o, some n⟩)) = (getN H[x]? o n 2).bind fun cs => some (.agg cs) := ld_agg sz78 ag78 x o n
theorem sz79 : sz Tryz.prog 79 = some 2 := by kernel_rfl
theorem ag79 : isAggD Tryz.prog 79 = true := by kernel_rfl
theorem un79 : (Tryz.prog.underlying 79).isSome = true := by kernel_rfl
theorem ld79 (H : Heap) (x o n : Nat) : ldA Tryz.prog H 79 (.pointer (some ⟨x, o, some n⟩)) = (getN H[x]? o n 2).bind fun cs => some (.agg cs) := ld_agg sz79 ag79 x o n
theorem sz81 : sz Tryz.prog 81 = some 1 := by kernel_rfl
theorem ag81 : isAggD Tryz.prog 81 = false := by kernel_rfl
theorem un81 : (Tryz.prog.underlying 81).isSome = true := by kernel_rfl
theorem ld81 (H : Heap) (x o n : Nat) : ldA Tryz.prog H 81 (.pointer (some ⟨x, o, some n⟩)) = get1 H[x]? o n := ld_one sz81 ag81 un81 x o n
theorem st81 (H : Heap) (p x o n : Nat) (v : Value) (h : oneC v = true) : stA Tryz.prog H p 81 (.pointer (some ⟨x, o, some n⟩)) v = put H p x o n H[x]? [v] := st_one sz81 x o n v h
theorem sz82 : sz Tryz.prog 82 = some 1 := by kernel_rfl
theorem ag82 : isAggD Tryz.prog 82 = false := by kernel_rfl
theorem un82 : (Tryz.prog.underlying 82).isSome = true := by kernel_rfl
theorem ld82 (H : Heap) (x o n : Nat) : ldA Tryz.prog H 82 (.pointer (some ⟨x, o, some n⟩)) = get1 H[x]? o n := ld_one sz82 ag82 un82 x o n
theorem st82 (H : Heap) (p x o n : Nat) (v : Value) (h : oneC v = true) : stA Tryz.prog H p 82 (.pointer (some ⟨x, o, some n⟩)) v = put H p x o n H[x]? [v] := st_one sz82 x o n v h
theorem sz83 : sz Tryz.prog 83 = some 1 := by kernel_rfl
theorem ag83 : isAggD Tryz.prog 83 = false := by kernel_rfl
theorem un83 : (Tryz.prog.underlying 83).isSome = true := by kernel_rfl
theorem ld83 (H : Heap) (x o n : Nat) : ldA Tryz.prog H 83 (.pointer (some ⟨x, o, some n⟩)) = get1 H[x]? o n := ld_one sz83 ag83 un83 x o n
theorem st83 (H : Heap) (p x o n : Nat) (v : Value) (h : oneC v = true) : stA Tryz.prog H p 83 (.pointer (some ⟨x, o, some n⟩)) v = put H p x o n H[x]? [v] := st_one sz83 x o n v h
theorem sz84 : sz Tryz.prog 84 = some 1 := by kernel_rfl
theorem ag84 : isAggD Tryz.prog 84 = false := by kernel_rfl
theorem un84 : (Tryz.prog.underlying 84).isSome = true := by kernel_rfl
theorem ld84 (H : Heap) (x o n : Nat) : ldA Tryz.prog H 84 (.pointer (some ⟨x, o, some n⟩)) = get1 H[x]? o n := ld_one sz84 ag84 un84 x o n
theorem st84 (H : Heap) (p x o n : Nat) (v : Value) (h : oneC v = true) : stA Tryz.prog H p 84 (.pointer (some ⟨x, o, some n⟩)) v = put H p x o n H[x]? [v] := st_one sz84 x o n v h
theorem sz85 : sz Tryz.prog 85 = some 1 := by kernel_rfl
theorem ag85 : isAggD Tryz.prog 85 = false := by kernel_rfl
theorem un85 : (Tryz.prog.underlying 85).isSome = true := by kernel_rfl
theorem ld85 (H : Heap) (x o n : Nat) : ldA Tryz.prog H 85 (.pointer (some ⟨x, o, some n⟩)) = get1 H[x]? o n := ld_one sz85 ag85 un85 x o n
theorem st85 (H : Heap) (p x o n : Nat) (v : Value) (h : oneC v = true) : stA Tryz.prog H p 85 (.pointer (some ⟨x, o, some n⟩)) v = put H p x o n H[x]? [v] := st_one sz85 x o n v h
theorem sz86 : sz Tryz.prog 86 = some 1 := by kernel_rfl
theorem ag86 : isAggD Tryz.prog 86 = false := by kernel_rfl
theorem un86 : (Tryz.prog.underlying 86).isSome = true := by kernel_rfl
theorem ld86 (H : Heap) (x o n : Nat) : ldA Tryz.prog H 86 (.pointer (some ⟨x, o, some n⟩)) = get1 H[x]? o n := ld_one sz86 ag86 un86 x o n
theorem st86 (H : Heap) (p x o n : Nat) (v : Value) (h : oneC v = true) : stA Tryz.prog H p 86 (.pointer (some ⟨x, o, some n⟩)) v = put H p x o n H[x]? [v] := st_one sz86 x o n v h
theorem sz87 : sz Tryz.prog 87 = some 256 := by kernel_rfl
theorem ag87 : isAggD Tryz.prog 87 = true := by kernel_rfl
theorem un87 : (Tryz.prog.underlying 87).isSome = true := by kernel_rfl
theorem ld87 (H : Heap) (x o n : Nat) : ldA Tryz.prog H 87 (.pointer (some ⟨x, o, some n⟩)) = (getN H[x]? o n 256).bind fun cs => some (.agg cs) := ld_agg sz87 ag87 x o n
theorem sz88 : sz Tryz.prog 88 = some 256 := by kernel_rfl
theorem ag88 : isAggD Tryz.prog 88 = true := by kernel_rfl
theorem un88 : (Tryz.prog.underlying 88).isSome = true := by kernel_rfl
theorem ld88 (H : Heap) (x o n : Nat) : ldA Tryz.prog H 88 (.pointer (some ⟨x, o, some n⟩)) = (getN H[x]? o n 256).bind fun cs => some (.agg cs) := ld_agg sz88 ag88 x o n
theorem sz90 : sz Tryz.prog 90 = some 1 := by kernel_rfl
theorem ag90 : isAggD Tryz.prog 90 = false := by kernel_rfl
theorem un90 : (Tryz.prog.underlying 90).isSome = true := by kernel_rfl
theorem ld90 (H : Heap) (x o n : Nat) : ldA Tryz.prog H 90 (.pointer (some ⟨x, o, some n⟩)) = get1 H[x]? o n := ld_one sz90 ag90 un90 x o n
theorem st90 (H : Heap) (p x o n : Nat) (v : Value) (h : oneC v = true) : stA Tryz.prog H p 90 (.pointer (some ⟨x, o, some n⟩)) v = put H p x o n H[x]? [v] := st_one sz90 x o n v h
theorem sz91 : sz Tryz.prog 91 = some 1 := by kernel_rfl
theorem ag91 : isAggD Tryz.prog 91 = false := by kernel_rfl
theorem un91 : (Tryz.prog.underlying 91).isSome = true := by kernel_rfl
theorem ld91 (H : Heap) (x o n : Nat) : ldA Tryz.prog H 91 (.pointer (some ⟨x, o, some n⟩)) = get1 H[x]? o n := ld_one sz91 ag91 un91 x o n
theorem st91 (H : Heap) (p x o n : Nat) (v : Value) (h : oneC v = true) : stA Tryz.prog H p 91 (.pointer (some ⟨x, o, some n⟩)) v = put H p x o n H[x]? [v] := st_one sz91 x o n v h
theorem sz92 : sz Tryz.prog 92 = some 1 := by kernel_rfl
theorem ag92 : isAggD Tryz.prog 92 = false := by kernel_rfl
theorem un92 : (Tryz.prog.underlying 92).isSome = true := by kernel_rfl
theorem ld92 (H : Heap) (x o n : Nat) : ldA Tryz.prog H 92 (.pointer (some ⟨x, o, some n⟩)) = get1 H[x]? o n := ld_one sz92 ag92 un92 x o n
theorem st92 (H : Heap) (p x o n : Nat) (v : Value) (h : oneC v = true) : stA Tryz.prog H p 92 (.pointer (some ⟨x, o, some n⟩)) v = put H p x o n H[x]? [v] := st_one sz92 x o n v h
theorem sz93 : sz Tryz.prog 93 = some 1 := by kernel_rfl
theorem ag93 : isAggD Tryz.prog 93 = false := by kernel_rfl
theorem un93 : (Tryz.prog.underlying 93).isSome = true := by kernel_rfl
theorem ld93 (H : Heap) (x o n : Nat) : ldA Tryz.prog H 93 (.pointer (some ⟨x, o, some n⟩)) = get1 H[x]? o n := ld_one sz93 ag93 un93 x o n
theorem st93 (H : Heap) (p x o n : Nat) (v : Value) (h : oneC v = true) : stA Tryz.prog H p 93 (.pointer (some ⟨x, o, some n⟩)) v = put H p x o n H[x]? [v] := st_one sz93 x o n v h
theorem sz94 : sz Tryz.prog 94 = some 1 := by kernel_rfl
theorem ag94 : isAggD Tryz.prog 94 = false := by kernel_rfl
theorem un94 : (Tryz.prog.underlying 94).isSome = true := by kernel_rfl
theorem ld94 (H : Heap) (x o n : Nat) : ldA Tryz.prog H 94 (.pointer (some ⟨x, o, some n⟩)) = get1 H[x]? o n := ld_one sz94 ag94 un94 x o n
theorem st94 (H : Heap) (p x o n : Nat) (v : Value) (h : oneC v = true) : stA Tryz.prog H p 94 (.pointer (some ⟨x, o, some n⟩)) v = put H p x o n H[x]? [v] := st_one sz94 x o n v h
theorem sz95 : sz Tryz.prog 95 = some 1 := by kernel_rfl
theorem ag95 : isAggD Tryz.prog 95 = false := by kernel_rfl
theorem un95 : (Tryz.prog.underlying 95).isSome = true := by kernel_rfl
theorem ld95 (H : Heap) (x o n : Nat) : ldA Tryz.prog H 95 (.pointer (some ⟨x, o, some n⟩)) = get1 H[x]? o n := ld_one sz95 ag95 un95 x o n
theorem st95 (H : Heap) (p x o n : Nat) (v : Value) (h : oneC v = true) : stA Tryz.prog H p 95 (.pointer (some ⟨x, o, some n⟩)) v = put H p x o n H[x]? [v] := st_one sz95 x o n v h
theorem sz96 : sz Tryz.prog 96 = some 1 := by kernel_rfl
theorem ag96 : isAggD Tryz.prog 96 = false := by kernel_rfl
theorem un96 : (Tryz.prog.underlying 96).isSome = true := by kernel_rfl
theorem ld96 (H : Heap) (x o n : Nat) : ldA Tryz.prog H 96 (.pointer (some ⟨x, o, some n⟩)) = get1 H[x]? o n := ld_one sz96 ag96 un96 x o n
theorem st96 (H : Heap) (p x o n : Nat) (v : Value) (h : oneC v = true) : stA Tryz.prog H p 96 (.pointer (some ⟨x, o, some n⟩)) v = put H p x o n H[x]? [v] := st_one sz96 x o n v h
theorem sz97 : sz Tryz.prog 97 = some 1 := by kernel_rfl
theorem ag97 : isAggD Tryz.prog 97 = false := by kernel_rfl
theorem un97 : (Tryz.prog.underlying 97).isSome = true := by kernel_rfl
theorem ld97 (H : Heap) (x o n : Nat) : ldA Tryz.prog H 97 (.pointer (some ⟨x, o, some n⟩)) = get1 H[x]? o n := ld_one sz97 ag97 un97 x o n
theorem st97 (H : Heap) (p x o n : Nat) (v : Value) (h : oneC v = true) : stA Tryz.prog H p 97 (.pointer (some ⟨x, o, some n⟩)) v = put H p x o n H[x]? [v] := st_one sz97 x o n v h
theorem sz98 : sz Tryz.prog 98 = some 1 := by kernel_rfl
theorem ag98 : isAggD Tryz.prog 98 = false := by kernel_rfl
theorem un98 : (Tryz.prog.underlying 98).isSome = true := by kernel_rfl
theorem ld98 (H : Heap) (x o n : Nat) : ldA Tryz.prog H 98 (.pointer (some ⟨x, o, some n⟩)) = get1 H[x]? o n := ld_one sz98 ag98 un98 x o n
theorem st98 (H : Heap) (p x o n : Nat) (v : Value) (h : oneC v = true) : stA Tryz.prog H p 98 (.pointer (some ⟨x, o, some n⟩)) v = put H p x o n H[x]? [v] := st_one sz98 x o n v h
theorem sz99 : sz Tryz.prog 99 = some 1 := by kernel_rfl
theorem ag99 : isAggD Tryz.prog 99 = false := by kernel_rfl
theorem un99 : (Tryz.prog.underlying 99).isSome = true := by kernel_rfl
theorem ld99 (H : Heap) (x o n : Nat) : ldA Tryz.prog H 99 (.pointer (some ⟨x, o, some n⟩)) = get1 H[x]? o n := ld_one sz99 ag99 un99 x o n
theorem st99 (H : Heap) (p x o n : Nat) (v : Value) (h : oneC v = true) : stA Tryz.prog H p 99 (.pointer (some ⟨x, o, some n⟩)) v = put H p x o n H[x]? [v] := st_one sz99 x o n v h
theorem sz100 : sz Tryz.prog 100 = some 1 := by kernel_rfl
theorem ag100 : isAggD Tryz.prog 100 = false := by kernel_rfl
theorem un100 : (Tryz.prog.underlying 100).isSome = true := by kernel_rfl
theorem ld100 (H : Heap) (x o n : Nat) : ldA Tryz.prog H 100 (.pointer (some ⟨x, o, some n⟩)) = get1 H[x]? o n := ld_one sz100 ag100 un100 x o n
theorem st100 (H : Heap) (p x o n : Nat) (v : Value) (h : oneC v = true) : stA Tryz.prog H p 100 (.pointer (some ⟨x, o, some n⟩)) v = put H p x o n H[x]? [v] := st_one sz100 x o n v h
theorem sz101 : sz Tryz.prog 101 = some 1 := by kernel_rfl
theorem ag101 : isAggD Tryz.prog 101 = false := by kernel_rfl
theorem un101 : (Tryz.prog.underlying 101).isSome = true := by kernel_rfl
theorem ld101 (H : Heap) (x o n : Nat) : ldA Tryz.prog H 101 (.pointer (some ⟨x, o, some n⟩)) = get1 H[x]? o n := ld_one sz101 ag101 un101 x o n
theorem st101 (H : Heap) (p x o n : Nat) (v : Value) (h : oneC v = true) : stA Tryz.prog H p 101 (.pointer (some ⟨x, o, some n⟩)) v = put H p x o n H[x]? [v] := st_one sz101 x o n v h
theorem sz103 : sz Tryz.prog 103 = some 1 := by kernel_rfl
theorem ag103 : isAggD Tryz.prog 103 = false := by kernel_rfl
theorem un103 : (Tryz.prog.underlying 103).isSome = true := by kernel_rfl
theorem ld103 (H : Heap) (x o n : Nat) : ldA Tryz.prog H 103 (.pointer (some ⟨x, o, some n⟩)) = get1 H[x]? o n := ld_one sz103 ag103 un103 x o n
theorem st103 (H : Heap) (p x o n : Nat) (v : Value) (h : oneC v = true) : stA Tryz.prog H p 103 (.pointer (some ⟨x, o, some n⟩)) v = put H p x o n H[x]? [v] := st_one sz103 x o n v h
theorem sz104 : sz Tryz.prog 104 = some 1 := by kernel_rfl
theorem ag104 : isAggD Tryz.prog 104 = false := by kernel_rfl
theorem un104 : (Tryz.prog.underlying 104).isSome = true := by kernel_rfl
theorem ld104 (H : Heap) (x o n : Nat) : ldA Tryz.prog H 104 (.pointer (some ⟨x, o, some n⟩)) = get1 H[x]? o n := ld_one sz104 ag104 un104 x o n
theorem st104 (H : Heap) (p x o n : Nat) (v : Value) (h : oneC v = true) : stA Tryz.prog H p 104 (.pointer (some ⟨x, o, some n⟩)) v = put H p x o n H[x]? [v] := st_one sz104 x o n v h
theorem sz105 : sz Tryz.prog 105 = some 1 := by kernel_rfl
theorem ag105 : isAggD Tryz.prog 105 = false := by kernel_rfl
theorem un105 : (Tryz.prog.underlying 105).isSome = true := by kernel_rfl
theorem ld105 (H : Heap) (x o n : Nat) : ldA Tryz.prog H 105 (.pointer (some ⟨x, o, some n⟩)) = get1 H[x]? o n := ld_one sz105 ag105 un105 x o n
theorem st105 (H : Heap) (p x o n : Nat) (v : Value) (h : oneC v = true) : stA Tryz.prog H p 105 (.pointer (some ⟨x, o, some n⟩)) v = put H p x o n H[x]? [v] := st_one sz105 x o n v h
theorem sz106 : sz Tryz.prog 106 = some 1 := by kernel_rfl
theorem ag106 : isAggD Tryz.prog 106 = false := by kernel_rfl
theorem un106 : (Tryz.prog.underlying 106).isSome = true := by kernel_rfl
theorem ld106 (H : Heap) (x o n : Nat) : ldA Tryz.prog H 106 (.pointer (some ⟨x, o, some n⟩)) = get1 H[x]? o n := ld_one sz106 ag106 un106 x o n
theorem st106 (H : Heap) (p x o n : Nat) (v : Value) (h : oneC v = true) : stA Tryz.prog H p 106 (.pointer (some ⟨x, o, some n⟩)) v = put H p x o n H[x]? [v] := st_one sz106 x o n v h
theorem sz107 : sz Tryz.prog 107 = some 1 := by kernel_rfl
theorem ag107 : isAggD Tryz.prog 107 = false := by kernel_rfl
theorem un107 : (Tryz.prog.underlying 107).isSome = true := by kernel_rfl
theorem ld107 (H : Heap) (x o n : Nat) : ldA Tryz.prog H 107 (.pointer (some ⟨x, o, some n⟩)) = get1 H[x]? o n := ld_one sz107 ag107 un107 x o n
theorem st107 (H : Heap) (p x o n : Nat) (v : Value) (h : oneC v = true) : stA Tryz.prog H p 107 (.pointer (some ⟨x, o, some n⟩)) v = put H p x o n H[x]? [v] := st_one sz107 x o n v h
theorem sz108 : sz Tryz.prog 108 = some 256 := by kernel_rfl
theorem ag108 : isAggD Tryz.prog 108 = true := by kernel_rfl
theorem un108 : (Tryz.prog.underlying 108).isSome = true := by kernel_rfl
theorem ld108 (H : Heap) (x o n : Nat) : ldA Tryz.prog H 108 (.pointer (some ⟨x, o, some n⟩)) = (getN H[x]? o n 256).bind fun cs => some (.agg cs) := ld_agg sz108 ag108 x o n
theorem sz109 : sz Tryz.prog 109 = some 2 := by kernel_rfl
theorem ag109 : isAggD Tryz.prog 109 = true := by kernel_rfl
theorem un109 : (Tryz.prog.underlying 109).isSome = true := by kernel_rfl
theorem ld109 (H : Heap) (x o n : Nat) : ldA Tryz.prog H 109 (.pointer (some ⟨x, o, some n⟩)) = (getN H[x]? o n 2).bind fun cs => some (.agg cs) := ld_agg sz109 ag109 x o n
theorem sz110 : sz Tryz.prog 110 = some 2 := by kernel_rfl
theorem ag110 : isAggD Tryz.prog 110 = true := by kernel_rfl
theorem un110 : (Tryz.prog.underlying 110).isSome = true := by kernel_rfl
theorem ld110 (H : Heap) (x o n : Nat) : ldA Tryz.prog H 110 (.pointer (some ⟨x, o, some n⟩)) = (getN H[x]? o n 2).bind fun cs => some (.agg cs) := ld_agg sz110 ag110 x o n
theorem sz111 : sz Tryz.prog 111 = some 32 := by kernel_rfl
theorem ag111 : isAggD Tryz.prog 111 = true := by kernel_rfl
theorem un111 : (Tryz.prog.underlying 111).isSome = true := by kernel_rfl
theorem ld111 (H : Heap) (x o n : Nat) : ldA Tryz.prog H 111 (.pointer (some ⟨x, o, some n⟩)) = (getN H[x]? o n 32).bind fun cs => some (.agg cs) := ld_agg sz111 ag111 x o n
theorem sz113 : sz Tryz.prog 113 = some 1 := by kernel_rfl
theorem ag113 : isAggD Tryz.prog 113 = false := by kernel_rfl
theorem un113 : (Tryz.prog.underlying 113).isSome = true := by kernel_rfl
theorem ld113 (H : Heap) (x o n : Nat) : ldA Tryz.prog H 113 (.pointer (some ⟨x, o, some n⟩)) = get1 H[x]? o n := ld_one sz113 ag113 un113 x o n
theorem st113 (H : Heap) (p x o n : Nat) (v : Value) (h : oneC v = true) : stA Tryz.prog H p 113 (.pointer (some ⟨x, o, some n⟩)) v = put H p x o n H[x]? [v] := st_one sz113 x o n v h
theorem sz114 : sz Tryz.prog 114 = some 1 := by kernel_rfl
theorem ag114 : isAggD Tryz.prog 114 = false := by kernel_rfl
theorem un114 : (Tryz.prog.underlying 114).isSome = true := by kernel_rfl
theorem ld114 (H : Heap) (x o n : Nat) : ldA Tryz.prog H 114 (.pointer (some ⟨x, o, some n⟩)) = get1 H[x]? o n := ld_one sz114 ag114 un114 x o n
theorem st114 (H : Heap) (p x o n : Nat) (v : Value) (h : oneC v = true) : stA Tryz.prog H p 114 (.pointer (some ⟨x, o, some n⟩)) v = put H p x o n H[x]? [v] := st_one sz114 x o n v h
theorem sz115 : sz Tryz.prog 115 = some 1 := by kernel_rfl
theorem ag115 : isAggD Tryz.prog 115 = false := by kernel_rfl
theorem un115 : (Tryz.prog.underlying 115).isSome = true := by kernel_rfl
theorem ld115 (H : Heap) (x o n : Nat) : ldA Tryz.prog H 115 (.pointer (some ⟨x, o, some n⟩)) = get1 H[x]? o n := ld_one sz115 ag115 un115 x o n
theorem st115 (H : Heap) (p x o n : Nat) (v : Value) (h : oneC v = true) : stA Tryz.prog H p 115 (.pointer (some ⟨x, o, some n⟩)) v = put H p x o n H[x]? [v] := st_one sz115 x o n v h
theorem sz116 : sz Tryz.prog 116 = some 24 := by kernel_rfl
theorem ag116 : isAggD Tryz.prog 116 = true := by kernel_rfl
theorem un116 : (Tryz.prog.underlying 116).isSome = true := by kernel_rfl
theorem ld116 (H : Heap) (x o n : Nat) : ldA Tryz.prog H 116 (.pointer (some ⟨x, o, some n⟩)) = (getN H[x]? o n 24).bind fun cs => some (.agg cs) := ld_agg sz116 ag116 x o n
theorem sz117 : sz Tryz.prog 117 = some 1 := by kernel_rfl
theorem ag117 : isAggD Tryz.prog 117 = false := by kernel_rfl
theorem un117 : (Tryz.prog.underlying 117).isSome = true := by kernel_rfl
theorem ld117 (H : Heap) (x o n : Nat) : ldA Tryz.prog H 117 (.pointer (some ⟨x, o, some n⟩)) = get1 H[x]? o n := ld_one sz117 ag117 un117 x o n
theorem st117 (H : Heap) (p x o n : Nat) (v : Value) (h : oneC v = true) : stA Tryz.prog H p 117 (.pointer (some ⟨x, o, some n⟩)) v = put H p x o n H[x]? [v] := st_one sz117 x o n v h
theorem sz118 : sz Tryz.prog 118 = some 1 := by kernel_rfl
theorem ag118 : isAggD Tryz.prog 118 = false := by kernel_rfl
theorem un118 : (Tryz.prog.underlying 118).isSome = true := by kernel_rfl
theorem ld118 (H : Heap) (x o n : Nat) : ldA Tryz.prog H 118 (.pointer (some ⟨x, o, some n⟩)) = get1 H[x]? o n := ld_one sz118 ag118 un118 x o n
theorem st118 (H : Heap) (p x o n : Nat) (v : Value) (h : oneC v = true) : stA Tryz.prog H p 118 (.pointer (some ⟨x, o, some n⟩)) v = put H p x o n H[x]? [v] := st_one sz118 x o n v h
theorem sz119 : sz Tryz.prog 119 = some 1 := by kernel_rfl
theorem ag119 : isAggD Tryz.prog 119 = false := by kernel_rfl
theorem un119 : (Tryz.prog.underlying 119).isSome = true := by kernel_rfl
theorem ld119 (H : Heap) (x o n : Nat) : ldA Tryz.prog H 119 (.pointer (some ⟨x, o, some n⟩)) = get1 H[x]? o n := ld_one sz119 ag119 un119 x o n
theorem st119 (H : Heap) (p x o n : Nat) (v : Value) (h : oneC v = true) : stA Tryz.prog H p 119 (.pointer (some ⟨x, o, some n⟩)) v = put H p x o n H[x]? [v] := st_one sz119 x o n v h
theorem sz121 : sz Tryz.prog 121 = some 1 := by kernel_rfl
theorem ag121 : isAggD Tryz.prog 121 = false := by kernel_rfl
theorem un121 : (Tryz.prog.underlying 121).isSome = true := by kernel_rfl
theorem ld121 (H : Heap) (x o n : Nat) : ldA Tryz.prog H 121 (.pointer (some ⟨x, o, some n⟩)) = get1 H[x]? o n := ld_one sz121 ag121 un121 x o n
theorem st121 (H : Heap) (p x o n : Nat) (v : Value) (h : oneC v = true) : stA Tryz.prog H p 121 (.pointer (some ⟨x, o, some n⟩)) v = put H p x o n H[x]? [v] := st_one sz121 x o n v h
theorem sz123 : sz Tryz.prog 123 = some 1 := by kernel_rfl
theorem ag123 : isAggD Tryz.prog 123 = false := by kernel_rfl
theorem un123 : (Tryz.prog.underlying 123).isSome = true := by kernel_rfl
theorem ld123 (H : Heap) (x o n : Nat) : ldA Tryz.prog H 123 (.pointer (some ⟨x, o, some n⟩)) = get1 H[x]? o n := ld_one sz123 ag123 un123 x o n
theorem st123 (H : Heap) (p x o n : Nat) (v : Value) (h : oneC v = true) : stA Tryz.prog H p 123 (.pointer (some ⟨x, o, some n⟩)) v = put H p x o n H[x]? [v] := st_one sz123 x o n v h
theorem sz124 : sz Tryz.prog 124 = some 3 := by kernel_rfl
theorem ag124 : isAggD Tryz.prog 124 = true := by kernel_rfl
theorem un124 : (Tryz.prog.underlying 124).isSome = true := by kernel_rfl
theorem ld124 (H : Heap) (x o n : Nat) : ldA Tryz.prog H 124 (.pointer (some ⟨x, o, some n⟩)) = (getN H[x]? o n 3).bind fun cs => some (.agg cs) := ld_agg sz124 ag124 x o n
theorem sz125 : sz Tryz.prog 125 = some 3 := by kernel_rfl
theorem ag125 : isAggD Tryz.prog 125 = true := by kernel_rfl
theorem un125 : (Tryz.prog.underlying 125).isSome = true := by kernel_rfl
theorem ld125 (H : Heap) (x o n : Nat) : ldA Tryz.prog H 125 (.pointer (some ⟨x, o, some n⟩)) = (getN H[x]? o n 3).bind fun cs => some (.agg cs) := ld_agg sz125 ag125 x o n
theorem sz126 : sz Tryz.prog 126 = some 1 := by kernel_rfl
theorem ag126 : isAggD Tryz.prog 126 = false := by kernel_rfl
theorem un126 : (Tryz.prog.underlying 126).isSome = true := by kernel_rfl
theorem ld126 (H : Heap) (x o n : Nat) : ldA Tryz.prog H 126 (.pointer (some ⟨x, o, some n⟩)) = get1 H[x]? o n := ld_one sz126 ag126 un126 x o n
theorem st126 (H : Heap) (p x o n : Nat) (v : Value) (h : oneC v = true) : stA Tryz.prog H p 126 (.pointer (some ⟨x, o, some n⟩)) v = put H p x o n H[x]? [v] := st_one sz126 x o n v h
theorem sz127 : sz Tryz.prog 127 = some 1 := by kernel_rfl
theorem ag127 : isAggD Tryz.prog 127 = false := by kernel_rfl
theorem un127 : (Tryz.prog.underlying 127).isSome = true := by kernel_rfl
theorem ld127 (H : Heap) (x o n : Nat) : ldA Tryz.prog H 127 (.pointer (some ⟨x, o, some n⟩)) = get1 H[x]? o n := ld_one sz127 ag127 un127 x o n
theorem st127 (H : Heap) (p x o n : Nat) (v : Value) (h : oneC v = true) : stA Tryz.prog H p 127 (.pointer (some ⟨x, o, some n⟩)) v = put H p x o n H[x]? [v] := st_one sz127 x o n v h
theorem sz128 : sz Tryz.prog 128 = some 20 := by kernel_rfl
theorem ag128 : isAggD Tryz.prog 128 = true := by kernel_rfl
theorem un128 : (Tryz.prog.underlying 128).isSome = true := by kernel_rfl
theorem ld128 (H : Heap) (x o n : Nat) : ldA Tryz.prog H 128 (.pointer (some ⟨x, o, some n⟩)) = (getN H[x]? o n 20).bind fun cs => some (.agg cs) := ld_agg sz128 ag128 x o n
theorem sz129 : sz Tryz.prog 129 = some 65 := by kernel_rfl
theorem ag129 : isAggD Tryz.prog 129 = true := by kernel_rfl
theorem un129 : (Tryz.prog.underlying 129).isSome = true := by kernel_rfl
theorem ld129 (H : Heap) (x o n : Nat) : ldA Tryz.prog H 129 (.pointer (some ⟨x, o, some n⟩)) = (getN H[x]? o n 65).bind fun cs => some (.agg cs) := ld_agg sz129 ag129 x o n
theorem sz130 : sz Tryz.prog 130 = some 1 := by kernel_rfl
theorem ag130 : isAggD Tryz.prog 130 = false := by kernel_rfl
theorem un130 : (Tryz.prog.underlying 130).isSome = true := by kernel_rfl
theorem ld130 (H : Heap) (x o n : Nat) : ldA Tryz.prog H 130 (.pointer (some ⟨x, o, some n⟩)) = get1 H[x]? o n := ld_one sz130 ag130 un130 x o n
theorem st130 (H : Heap) (p x o n : Nat) (v : Value) (h : oneC v = true) : stA Tryz.prog H p 130 (.pointer (some ⟨x, o, some n⟩)) v = put H p x o n H[x]? [v] := st_one sz130 x o n v h
theorem sz132 : sz Tryz.prog 132 = some 1 := by kernel_rfl
theorem ag132 : isAggD Tryz.prog 132 = false := by kernel_rfl
theorem un132 : (Tryz.prog.underlying 132).isSome = true := by kernel_rfl
theorem ld132 (H : Heap) (x o n : Nat) : ldA Tryz.prog H 132 (.pointer (some ⟨x, o, some n⟩)) = get1 H[x]? o n := ld_one sz132 ag132 un132 x o n
theorem st132 (H : Heap) (p x o n : Nat) (v : Value) (h : oneC v = true) : stA Tryz.prog H p 132 (.pointer (some ⟨x, o, some n⟩)) v = put H p x o n H[x]? [v] := st_one sz132 x o n v h
theorem sz133 : sz Tryz.prog 133 = some 1 := by kernel_rfl
theorem ag133 : isAggD Tryz.prog 133 = false := by kernel_rfl
theorem un133 : (Tryz.prog.underlying 133).isSome = true := by kernel_rfl
theorem ld133 (H : Heap) (x o n : Nat) : ldA Tryz.prog H 133 (.pointer (some ⟨x, o, some n⟩)) = get1 H[x]? o n := ld_one sz133 ag133 un133 x o n
theorem st133 (H : Heap) (p x o n : Nat) (v : Value) (h : oneC v = true) : stA Tryz.prog H p 133 (.pointer (some ⟨x, o, some n⟩)) v = put H p x o n H[x]? [v] := st_one sz133 x o n v h
theorem sz134 : sz Tryz.prog 134 = some 1 := by kernel_rfl
theorem ag134 : isAggD Tryz.prog 134 = false := by kernel_rfl
theorem un134 : (Tryz.prog.underlying 134).isSome = true := by kernel_rfl
theorem ld134 (H : Heap) (x o n : Nat) : ldA Tryz.prog H 134 (.pointer (some ⟨x, o, some n⟩)) = get1 H[x]? o n := ld_one sz134 ag134 un134 x o n
theorem st134 (H : Heap) (p x o n : Nat) (v : Value) (h : oneC v = true) : stA Tryz.prog H p 134 (.pointer (some ⟨x, o, some n⟩)) v = put H p x o n H[x]? [v] := st_one sz134 x o n v h
theorem sz135 : sz Tryz.prog 135 = some 1 := by kernel_rfl
theorem ag135 : isAggD Tryz.prog 135 = true := by kernel_rfl
theorem un135 : (Tryz.prog.underlying 135).isSome = true := by kernel_rfl
theorem ld135 (H : Heap) (x o n : Nat) : ldA Tryz.prog H 135 (.pointer (some ⟨x, o, some n⟩)) = (getN H[x]? o n 1).bind fun cs => some (.agg cs) := ld_agg sz135 ag135 x o n
theorem sz136 : sz Tryz.prog 136 = some 1 := by kernel_rfl
theorem ag136 : isAggD Tryz.prog 136 = true := by kernel_rfl
theorem un136 : (Tryz.prog.underlying 136).isSome = true := by kernel_rfl
theorem ld136 (H : Heap) (x o n : Nat) : ldA Tryz.prog H 136 (.pointer (some ⟨x, o, some n⟩)) = (getN H[x]? o n 1).bind fun cs => some (.agg cs) := ld_agg sz136 ag136 x o n
theorem sz137 : sz Tryz.prog 137 = some 1 := by kernel_rfl
theorem ag137 : isAggD Tryz.prog 137 = false := by kernel_rfl
theorem un137 : (Tryz.prog.underlying 137).isSome = true := by kernel_rfl
theorem ld137 (H : Heap) (x o n : Nat) : ldA Tryz.prog H 137 (.pointer (some ⟨x, o, some n⟩)) = get1 H[x]? o n := ld_one sz137 ag137 un137 x o n
theorem st137 (H : Heap) (p x o n : Nat) (v : Value) (h : oneC v = true) : stA Tryz.prog H p 137 (.pointer (some ⟨x, o, some n⟩)) v = put H p x o n H[x]? [v] := st_one sz137 x o n v h
theorem sz138 : sz Tryz.prog 138 = some 32 := by kernel_rfl
theorem ag138 : isAggD Tryz.prog 138 = true := by kernel_rfl
theorem un138 : (Tryz.prog.underlying 138).isSome = true := by kernel_rfl
theorem ld138 (H : Heap) (x o n : Nat) : ldA Tryz.prog H 138 (.pointer (some ⟨x, o, some n⟩)) = (getN H[x]? o n 32).bind fun cs => some (.agg cs) := ld_agg sz138 ag138 x o n
theorem sz139 : sz Tryz.prog 139 = some 64 := by kernel_rfl
theorem ag139 : isAggD Tryz.prog 139 = true := by kernel_rfl
theorem un139 : (Tryz.prog.underlying 139).isSome = true := by kernel_rfl
theorem ld139 (H : Heap) (x o n : Nat) : ldA Tryz.prog H 139 (.pointer (some ⟨x, o, some n⟩)) = (getN H[x]? o n 64).bind fun cs => some (.agg cs) := ld_agg sz139 ag139 x o n
theorem sz140 : sz Tryz.prog 140 = some 4 := by kernel_rfl
theorem ag140 : isAggD Tryz.prog 140 = true := by kernel_rfl
theorem un140 : (Tryz.prog.underlying 140).isSome = true := by kernel_rfl
theorem ld140 (H : Heap) (x o n : Nat) : ldA Tryz.prog H 140 (.pointer (some ⟨x, o, some n⟩)) = (getN H[x]? o n 4).bind fun cs => some (.agg cs) := ld_agg sz140 ag140 x o n
theorem sz141 : sz Tryz.prog 141 = some 4 := by kernel_rfl
theorem ag141 : isAggD Tryz.prog 141 = true := by kernel_rfl
theorem un141 : (Tryz.prog.underlying 141).isSome = true := by kernel_rfl
theorem ld141 (H : Heap) (x o n : Nat) : ldA Tryz.prog H 141 (.pointer (some ⟨x, o, some n⟩)) = (getN H[x]? o n 4).bind fun cs => some (.agg cs) := ld_agg sz141 ag141 x o n
theorem sz142 : sz Tryz.prog 142 = some 0 := by kernel_rfl
theorem ag142 : isAggD Tryz.prog 142 = true := by kernel_rfl
theorem un142 : (Tryz.prog.underlying 142).isSome = true := by kernel_rfl
theorem ld142 (H : Heap) (x o n : Nat) : ldA Tryz.prog H 142 (.pointer (some ⟨x, o, some n⟩)) = (getN H[x]? o n 0).bind fun cs => some (.agg cs) := ld_agg sz142 ag142 x o n
theorem sz143 : sz Tryz.prog 143 = some 0 := by kernel_rfl
theorem ag143 : isAggD Tryz.prog 143 = true := by kernel_rfl
theorem un143 : (Tryz.prog.underlying 143).isSome = true := by kernel_rfl
theorem ld143 (H : Heap) (x o n : Nat) : ldA Tryz.prog H 143 (.pointer (some ⟨x, o, some n⟩)) = (getN H[x]? o n 0).bind fun cs => some (.agg cs) := ld_agg sz143 ag143 x o n
theorem sz144 : sz Tryz.prog 144 = some 0 := by kernel_rfl
theorem ag144 : isAggD Tryz.prog 144 = true := by kernel_rfl
theorem un144 : (Tryz.prog.underlying 144).isSome = true := by kernel_rfl
theorem ld144 (H : Heap) (x o n : Nat) : ldA Tryz.prog H 144 (.pointer (some ⟨x, o, some n⟩)) = (getN H[x]? o n 0).bind fun cs => some (.agg cs) := ld_agg sz144 ag144 x o n
theorem sz145 : sz Tryz.prog 145 = some 1 := by kernel_rfl
theorem ag145 : isAggD Tryz.prog 145 = false := by kernel_rfl
theorem un145 : (Tryz.prog.underlying 145).isSome = true := by kernel_rfl
theorem ld145 (H : Heap) (x o n : Nat) : ldA Tryz.prog H 145 (.pointer (some ⟨x, o, some n⟩)) = get1 H[x]? o n := ld_one sz145 ag145 un145 x o n
theorem st145 (H : Heap) (p x o n : Nat) (v : Value) (h : oneC v = true) : stA Tryz.prog H p 145 (.pointer (some ⟨x, o, some n⟩)) v = put H p x o n H[x]? [v] := st_one sz145 x o n v h
theorem sz146 : sz Tryz.prog 146 = some 1 := by kernel_rfl
theorem ag146 : isAggD Tryz.prog 146 = false := by kernel_rfl
theorem un146 : (Tryz.prog.underlying 146).isSome = true := by kernel_rfl
theorem ld146 (H : Heap) (x o n : Nat) : ldA Tryz.prog H 146 (.pointer (some ⟨x, o, some n⟩)) = get1 H[x]? o n := ld_one sz146 ag146 un146 x o n
theorem st146 (H : Heap) (p x o n : Nat) (v : Value) (h : oneC v = true) : stA Tryz.prog H p 146 (.pointer (some ⟨x, o, some n⟩)) v = put H p x o n H[x]? [v] := st_one sz146 x o n v h
theorem sz147 : sz Tryz.prog 147 = some 1 := by kernel_rfl
theorem ag147 : isAggD Tryz.prog 147 = false := by kernel_rfl
theorem un147 : (Tryz.prog.underlying 147).isSome = true := by kernel_rfl
theorem ld147 (H : Heap) (x o n : Nat) : ldA Tryz.prog H 147 (.pointer (some ⟨x, o, some n⟩)) = get1 H[x]? o n := ld_one sz147 ag147 un147 x o n
theorem st147 (H : Heap) (p x o n : Nat) (v : Value) (h : oneC v = true) : stA Tryz.prog H p 147 (.pointer (some ⟨x, o, some n⟩)) v = put H p x o n H[x]? [v] := st_one sz147 x o n v h
theorem sz148 : sz Tryz.prog 148 = some 1 := by kernel_rfl
theorem ag148 : isAggD Tryz.prog 148 = false := by kernel_rfl
theorem un148 : (Tryz.prog.underlying 148).isSome = true := by kernel_rfl
theorem ld148 (H : Heap) (x o n : Nat) : ldA Tryz.prog H 148 (.pointer (some ⟨x, o, some n⟩)) = get1 H[x]? o n := ld_one sz148 ag148 un148 x o n
theorem st148 (H : Heap) (p x o n : Nat) (v : Value) (h : oneC v = true) : stA Tryz.prog H p 148 (.pointer (some ⟨x, o, some n⟩)) v = put H p x o n H[x]? [v] := st_one sz148 x o n v h
theorem sz149 : sz Tryz.prog 149 = some 1 := by kernel_rfl
theorem ag149 : isAggD Tryz.prog 149 = false := by kernel_rfl
theorem un149 : (Tryz.prog.underlying 149).isSome = true := by kernel_rfl
theorem ld149 (H : Heap) (x o n : Nat) : ldA Tryz.prog H 149 (.pointer (some ⟨x, o, some n⟩)) = get1 H[x]? o n := ld_one sz149 ag149 un149 x o n
theorem st149 (H : Heap) (p x o n : Nat) (v : Value) (h : oneC v = true) : stA Tryz.prog H p 149 (.pointer (some ⟨x, o, some n⟩)) v = put H p x o n H[x]? [v] := st_one sz149 x o n v h
theorem sz150 : sz Tryz.prog 150 = some 11 := by kernel_rfl
theorem ag150 : isAggD Tryz.prog 150 = true := by kernel_rfl
theorem un150 : (Tryz.prog.underlying 150).isSome = true := by kernel_rfl
theorem ld150 (H : Heap) (x o n : Nat) : ldA Tryz.prog H 150 (.pointer (some ⟨x, o, some n⟩)) = (getN H[x]? o n 11).bind fun cs => some (.agg cs) := ld_agg sz150 ag150 x o n
theorem sz151 : sz Tryz.prog 151 = some 11 := by kernel_rfl
theorem ag151 : isAggD Tryz.prog 151 = true := by kernel_rfl
theorem un151 : (Tryz.prog.underlying 151).isSome = true := by kernel_rfl
theorem ld151 (H : Heap) (x o n : Nat) : ldA Tryz.prog H 151 (.pointer (some ⟨x, o, some n⟩)) = (getN H[x]? o n 11).bind fun cs => some (.agg cs) := ld_agg sz151 ag151 x o n
theorem fa7_0 (x o n : Nat) : fieldA Tryz.prog 7 (.pointer (some ⟨x, o, some n⟩)) 0 = some (.pointer (some ⟨x, o + 0, some n⟩)) := by
  have h := fa_of (f := 0) (k := 0) Tryz.underlying7 rfl sz2 x o n
  exact h
theorem fd7_0 (cs : Array Value) : fldV Tryz.prog 7 (.agg cs) 0 = cs[0]? := by
  have h := fd_one (f := 0) Tryz.underlying7 rfl un2 ag2 cs
  exact h
theorem fa7_1 (x o n : Nat) : fieldA Tryz.prog 7 (.pointer (some ⟨x, o, some n⟩)) 1 = some (.pointer (some ⟨x, o + 1, some n⟩)) := by
  have h := fa_of (f := 1) (k := 0) Tryz.underlying7 rfl sz3 x o n
  exact h
theorem fd7_1 (cs : Array Value) : fldV Tryz.prog 7 (.agg cs) 1 = cs[1]? := by
  have h := fd_one (f := 1) Tryz.underlying7 rfl un3 ag3 cs
  exact h
theorem fa7_2 (x o n : Nat) : fieldA Tryz.prog 7 (.pointer (some ⟨x, o, some n⟩)) 2 = some (.pointer (some ⟨x, o + 2, some n⟩)) := by
  have h := fa_of (f := 2) (k := 0) Tryz.underlying7 rfl sz4 x o n
  exact h
theorem fd7_2 (cs : Array Value) : fldV Tryz.prog 7 (.agg cs) 2 = cs[2]? := by
  have h := fd_one (f := 2) Tryz.underlying7 rfl un4 ag4 cs
  exact h
theorem fa7_3 (x o n : Nat) : fieldA Tryz.prog 7 (.pointer (some ⟨x, o, some n⟩)) 3 = some (.pointer (some ⟨x, o + 3, some n⟩)) := by
  have h := fa_of (f := 3) (k := 0) Tryz.underlying7 rfl sz6 x o n
  exact h
theorem fd7_3 (cs : Array Value) : fldV Tryz.prog 7 (.agg cs) 3 = cs[3]? := by
  have h := fd_one (f := 3) Tryz.underlying7 rfl un6 ag6 cs
  exact h
theorem fa8_0 (x o n : Nat) : fieldA Tryz.prog 8 (.pointer (some ⟨x, o, some n⟩)) 0 = some (.pointer (some ⟨x, o + 0, some n⟩)) := by
  have h := fa_of (f := 0) (k := 0) Tryz.underlying8 rfl sz2 x o n
  exact h
theorem fd8_0 (cs : Array Value) : fldV Tryz.prog 8 (.agg cs) 0 = cs[0]? := by
  have h := fd_one (f := 0) Tryz.underlying8 rfl un2 ag2 cs
  exact h
theorem fa8_1 (x o n : Nat) : fieldA Tryz.prog 8 (.pointer (some ⟨x, o, some n⟩)) 1 = some (.pointer (some ⟨x, o + 1, some n⟩)) := by
  have h := fa_of (f := 1) (k := 0) Tryz.underlying8 rfl sz3 x o n
  exact h
theorem fd8_1 (cs : Array Value) : fldV Tryz.prog 8 (.agg cs) 1 = cs[1]? := by
  have h := fd_one (f := 1) Tryz.underlying8 rfl un3 ag3 cs
  exact h
theorem fa8_2 (x o n : Nat) : fieldA Tryz.prog 8 (.pointer (some ⟨x, o, some n⟩)) 2 = some (.pointer (some ⟨x, o + 2, some n⟩)) := by
  have h := fa_of (f := 2) (k := 0) Tryz.underlying8 rfl sz4 x o n
  exact h
theorem fd8_2 (cs : Array Value) : fldV Tryz.prog 8 (.agg cs) 2 = cs[2]? := by
  have h := fd_one (f := 2) Tryz.underlying8 rfl un4 ag4 cs
  exact h
theorem fa8_3 (x o n : Nat) : fieldA Tryz.prog 8 (.pointer (some ⟨x, o, some n⟩)) 3 = some (.pointer (some ⟨x, o + 3, some n⟩)) := by
  have h := fa_of (f := 3) (k := 0) Tryz.underlying8 rfl sz6 x o n
  exact h
theorem fd8_3 (cs : Array Value) : fldV Tryz.prog 8 (.agg cs) 3 = cs[3]? := by
  have h := fd_one (f := 3) Tryz.underlying8 rfl un6 ag6 cs
  exact h
theorem fa13_0 (x o n : Nat) : fieldA Tryz.prog 13 (.pointer (some ⟨x, o, some n⟩)) 0 = some (.pointer (some ⟨x, o + 0, some n⟩)) := by
  have h := fa_of (f := 0) (k := 0) Tryz.underlying13 rfl sz9 x o n
  exact h
theorem fd13_0 (cs : Array Value) : fldV Tryz.prog 13 (.agg cs) 0 = cs[0]? := by
  have h := fd_one (f := 0) Tryz.underlying13 rfl un9 ag9 cs
  exact h
theorem fa13_1 (x o n : Nat) : fieldA Tryz.prog 13 (.pointer (some ⟨x, o, some n⟩)) 1 = some (.pointer (some ⟨x, o + 1, some n⟩)) := by
  have h := fa_of (f := 1) (k := 0) Tryz.underlying13 rfl sz12 x o n
  exact h
theorem fd13_1 (cs : Array Value) : fldV Tryz.prog 13 (.agg cs) 1 = cs[1]? := by
  have h := fd_one (f := 1) Tryz.underlying13 rfl un12 ag12 cs
  exact h
theorem fa14_0 (x o n : Nat) : fieldA Tryz.prog 14 (.pointer (some ⟨x, o, some n⟩)) 0 = some (.pointer (some ⟨x, o + 0, some n⟩)) := by
  have h := fa_of (f := 0) (k := 0) Tryz.underlying14 rfl sz9 x o n
  exact h
theorem fd14_0 (cs : Array Value) : fldV Tryz.prog 14 (.agg cs) 0 = cs[0]? := by
  have h := fd_one (f := 0) Tryz.underlying14 rfl un9 ag9 cs
  exact h
theorem fa14_1 (x o n : Nat) : fieldA Tryz.prog 14 (.pointer (some ⟨x, o, some n⟩)) 1 = some (.pointer (some ⟨x, o + 1, some n⟩)) := by
  have h := fa_of (f := 1) (k := 0) Tryz.underlying14 rfl sz12 x o n
  exact h
theorem fd14_1 (cs : Array Value) : fldV Tryz.prog 14 (.agg cs) 1 = cs[1]? := by
  have h := fd_one (f := 1) Tryz.underlying14 rfl un12 ag12 cs
  exact h
theorem fa18_0 (x o n : Nat) : fieldA Tryz.prog 18 (.pointer (some ⟨x, o, some n⟩)) 0 = some (.pointer (some ⟨x, o + 0, some n⟩)) := by
  have h := fa_of (f := 0) (k := 0) Tryz.underlying18 rfl sz17 x o n
  exact h
theorem fd18_0 (cs : Array Value) : fldV Tryz.prog 18 (.agg cs) 0 = cs[0]? := by
  have h := fd_one (f := 0) Tryz.underlying18 rfl un17 ag17 cs
  exact h
theorem fa19_0 (x o n : Nat) : fieldA Tryz.prog 19 (.pointer (some ⟨x, o, some n⟩)) 0 = some (.pointer (some ⟨x, o + 0, some n⟩)) := by
  have h := fa_of (f := 0) (k := 0) Tryz.underlying19 rfl sz17 x o n
  exact h
theorem fd19_0 (cs : Array Value) : fldV Tryz.prog 19 (.agg cs) 0 = cs[0]? := by
  have h := fd_one (f := 0) Tryz.underlying19 rfl un17 ag17 cs
  exact h
theorem fa22_0 (x o n : Nat) : fieldA Tryz.prog 22 (.pointer (some ⟨x, o, some n⟩)) 0 = some (.pointer (some ⟨x, o + 0, some n⟩)) := by
  have h := fa_of (f := 0) (k := 0) Tryz.underlying22 rfl sz3 x o n
  exact h
theorem fd22_0 (cs : Array Value) : fldV Tryz.prog 22 (.agg cs) 0 = cs[0]? := by
  have h := fd_one (f := 0) Tryz.underlying22 rfl un3 ag3 cs
  exact h
theorem fa22_1 (x o n : Nat) : fieldA Tryz.prog 22 (.pointer (some ⟨x, o, some n⟩)) 1 = some (.pointer (some ⟨x, o + 1, some n⟩)) := by
  have h := fa_of (f := 1) (k := 0) Tryz.underlying22 rfl sz3 x o n
  exact h
theorem fd22_1 (cs : Array Value) : fldV Tryz.prog 22 (.agg cs) 1 = cs[1]? := by
  have h := fd_one (f := 1) Tryz.underlying22 rfl un3 ag3 cs
  exact h
theorem fa22_2 (x o n : Nat) : fieldA Tryz.prog 22 (.pointer (some ⟨x, o, some n⟩)) 2 = some (.pointer (some ⟨x, o + 2, some n⟩)) := by
  have h := fa_of (f := 2) (k := 0) Tryz.underlying22 rfl sz3 x o n
  exact h
theorem fd22_2 (cs : Array Value) : fldV Tryz.prog 22 (.agg cs) 2 = cs[2]? := by
  have h := fd_one (f := 2) Tryz.underlying22 rfl un3 ag3 cs
  exact h
theorem fa22_3 (x o n : Nat) : fieldA Tryz.prog 22 (.pointer (some ⟨x, o, some n⟩)) 3 = some (.pointer (some ⟨x, o + 3, some n⟩)) := by
  have h := fa_of (f := 3) (k := 0) Tryz.underlying22 rfl sz3 x o n
  exact h
theorem fd22_3 (cs : Array Value) : fldV Tryz.prog 22 (.agg cs) 3 = cs[3]? := by
  have h := fd_one (f := 3) Tryz.underlying22 rfl un3 ag3 cs
  exact h
theorem fa22_4 (x o n : Nat) : fieldA Tryz.prog 22 (.pointer (some ⟨x, o, some n⟩)) 4 = some (.pointer (some ⟨x, o + 4, some n⟩)) := by
  have h := fa_of (f := 4) (k := 0) Tryz.underlying22 rfl sz3 x o n
  exact h
theorem fd22_4 (cs : Array Value) : fldV Tryz.prog 22 (.agg cs) 4 = cs[4]? := by
  have h := fd_one (f := 4) Tryz.underlying22 rfl un3 ag3 cs
  exact h
theorem fa23_0 (x o n : Nat) : fieldA Tryz.prog 23 (.pointer (some ⟨x, o, some n⟩)) 0 = some (.pointer (some ⟨x, o + 0, some n⟩)) := by
  have h := fa_of (f := 0) (k := 0) Tryz.underlying23 rfl sz3 x o n
  exact h
theorem fd23_0 (cs : Array Value) : fldV Tryz.prog 23 (.agg cs) 0 = cs[0]? := by
  have h := fd_one (f := 0) Tryz.underlying23 rfl un3 ag3 cs
  exact h
theorem fa23_1 (x o n : Nat) : fieldA Tryz.prog 23 (.pointer (some ⟨x, o, some n⟩)) 1 = some (.pointer (some ⟨x, o + 1, some n⟩)) := by
  have h := fa_of (f := 1) (k := 0) Tryz.underlying23 rfl sz3 x o n
  exact h
theorem fd23_1 (cs : Array Value) : fldV Tryz.prog 23 (.agg cs) 1 = cs[1]? := by
  have h := fd_one (f := 1) Tryz.underlying23 rfl un3 ag3 cs
  exact h
theorem fa23_2 (x o n : Nat) : fieldA Tryz.prog 23 (.pointer (some ⟨x, o, some n⟩)) 2 = some (.pointer (some ⟨x, o + 2, some n⟩)) := by
  have h := fa_of (f := 2) (k := 0) Tryz.underlying23 rfl sz3 x o n
  exact h
theorem fd23_2 (cs : Array Value) : fldV Tryz.prog 23 (.agg cs) 2 = cs[2]? := by
  have h := fd_one (f := 2) Tryz.underlying23 rfl un3 ag3 cs
  exact h
theorem fa23_3 (x o n : Nat) : fieldA Tryz.prog 23 (.pointer (some ⟨x, o, some n⟩)) 3 = some (.pointer (some ⟨x, o + 3, some n⟩)) := by
  have h := fa_of (f := 3) (k := 0) Tryz.underlying23 rfl sz3 x o n
  exact h
theorem fd23_3 (cs : Array Value) : fldV Tryz.prog 23 (.agg cs) 3 = cs[3]? := by
  have h := fd_one (f := 3) Tryz.underlying23 rfl un3 ag3 cs
  exact h
theorem fa23_4 (x o n : Nat) : fieldA Tryz.prog 23 (.pointer (some ⟨x, o, some n⟩)) 4 = some (.pointer (some ⟨x, o + 4, some n⟩)) := by
  have h := fa_of (f := 4) (k := 0) Tryz.underlying23 rfl sz3 x o n
  exact h
theorem fd23_4 (cs : Array Value) : fldV Tryz.prog 23 (.agg cs) 4 = cs[4]? := by
  have h := fd_one (f := 4) Tryz.underlying23 rfl un3 ag3 cs
  exact h
theorem fa24_0 (x o n : Nat) : fieldA Tryz.prog 24 (.pointer (some ⟨x, o, some n⟩)) 0 = some (.pointer (some ⟨x, o + 0, some n⟩)) := by
  have h := fa_of (f := 0) (k := 0) Tryz.underlying24 rfl sz9 x o n
  exact h
theorem fd24_0 (cs : Array Value) : fldV Tryz.prog 24 (.agg cs) 0 = cs[0]? := by
  have h := fd_one (f := 0) Tryz.underlying24 rfl un9 ag9 cs
  exact h
theorem fa24_1 (x o n : Nat) : fieldA Tryz.prog 24 (.pointer (some ⟨x, o, some n⟩)) 1 = some (.pointer (some ⟨x, o + 1, some n⟩)) := by
  have h := fa_of (f := 1) (k := 0) Tryz.underlying24 rfl sz3 x o n
  exact h
theorem fd24_1 (cs : Array Value) : fldV Tryz.prog 24 (.agg cs) 1 = cs[1]? := by
  have h := fd_one (f := 1) Tryz.underlying24 rfl un3 ag3 cs
  exact h
theorem fa24_2 (x o n : Nat) : fieldA Tryz.prog 24 (.pointer (some ⟨x, o, some n⟩)) 2 = some (.pointer (some ⟨x, o + 2, some n⟩)) := by
  have h := fa_of (f := 2) (k := 0) Tryz.underlying24 rfl sz4 x o n
  exact h
theorem fd24_2 (cs : Array Value) : fldV Tryz.prog 24 (.agg cs) 2 = cs[2]? := by
  have h := fd_one (f := 2) Tryz.underlying24 rfl un4 ag4 cs
  exact h
theorem fa24_3 (x o n : Nat) : fieldA Tryz.prog 24 (.pointer (some ⟨x, o, some n⟩)) 3 = some (.pointer (some ⟨x, o + 3, some n⟩)) := by
  have h := fa_of (f := 3) (k := 0) Tryz.underlying24 rfl sz9 x o n
  exact h
theorem fd24_3 (cs : Array Value) : fldV Tryz.prog 24 (.agg cs) 3 = cs[3]? := by
  have h := fd_one (f := 3) Tryz.underlying24 rfl un9 ag9 cs
  exact h
theorem fa24_4 (x o n : Nat) : fieldA Tryz.prog 24 (.pointer (some ⟨x, o, some n⟩)) 4 = some (.pointer (some ⟨x, o + 4, some n⟩)) := by
  have h := fa_of (f := 4) (k := 0) Tryz.underlying24 rfl sz3 x o n
  exact h
theorem fd24_4 (cs : Array Value) : fldV Tryz.prog 24 (.agg cs) 4 = cs[4]? := by
  have h := fd_one (f := 4) Tryz.underlying24 rfl un3 ag3 cs
  exact h
theorem fa24_5 (x o n : Nat) : fieldA Tryz.prog 24 (.pointer (some ⟨x, o, some n⟩)) 5 = some (.pointer (some ⟨x, o + 5, some n⟩)) := by
  have h := fa_of (f := 5) (k := 4) Tryz.underlying24 rfl sz23 x o n
  exact h
theorem fd24_5 (cs : Array Value) : fldV Tryz.prog 24 (.agg cs) 5 = some (.agg (cs.extract 5 (5 + 5))) := by
  have h := fd_agg (f := 5) Tryz.underlying24 rfl un23 ag23 sz23 cs
  exact h
theorem fa24_6 (x o n : Nat) : fieldA Tryz.prog 24 (.pointer (some ⟨x, o, some n⟩)) 6 = some (.pointer (some ⟨x, o + 10, some n⟩)) := by
  have h := fa_of (f := 6) (k := 4) Tryz.underlying24 rfl sz23 x o n
  exact h
theorem fd24_6 (cs : Array Value) : fldV Tryz.prog 24 (.agg cs) 6 = some (.agg (cs.extract 10 (10 + 5))) := by
  have h := fd_agg (f := 6) Tryz.underlying24 rfl un23 ag23 sz23 cs
  exact h
theorem fa25_0 (x o n : Nat) : fieldA Tryz.prog 25 (.pointer (some ⟨x, o, some n⟩)) 0 = some (.pointer (some ⟨x, o + 0, some n⟩)) := by
  have h := fa_of (f := 0) (k := 0) Tryz.underlying25 rfl sz9 x o n
  exact h
theorem fd25_0 (cs : Array Value) : fldV Tryz.prog 25 (.agg cs) 0 = cs[0]? := by
  have h := fd_one (f := 0) Tryz.underlying25 rfl un9 ag9 cs
  exact h
theorem fa25_1 (x o n : Nat) : fieldA Tryz.prog 25 (.pointer (some ⟨x, o, some n⟩)) 1 = some (.pointer (some ⟨x, o + 1, some n⟩)) := by
  have h := fa_of (f := 1) (k := 0) Tryz.underlying25 rfl sz3 x o n
  exact h
theorem fd25_1 (cs : Array Value) : fldV Tryz.prog 25 (.agg cs) 1 = cs[1]? := by
  have h := fd_one (f := 1) Tryz.underlying25 rfl un3 ag3 cs
  exact h
theorem fa25_2 (x o n : Nat) : fieldA Tryz.prog 25 (.pointer (some ⟨x, o, some n⟩)) 2 = some (.pointer (some ⟨x, o + 2, some n⟩)) := by
  have h := fa_of (f := 2) (k := 0) Tryz.underlying25 rfl sz4 x o n
  exact h
theorem fd25_2 (cs : Array Value) : fldV Tryz.prog 25 (.agg cs) 2 = cs[2]? := by
  have h := fd_one (f := 2) Tryz.underlying25 rfl un4 ag4 cs
  exact h
theorem fa25_3 (x o n : Nat) : fieldA Tryz.prog 25 (.pointer (some ⟨x, o, some n⟩)) 3 = some (.pointer (some ⟨x, o + 3, some n⟩)) := by
  have h := fa_of (f := 3) (k := 0) Tryz.underlying25 rfl sz9 x o n
  exact h
theorem fd25_3 (cs : Array Value) : fldV Tryz.prog 25 (.agg cs) 3 = cs[3]? := by
  have h := fd_one (f := 3) Tryz.underlying25 rfl un9 ag9 cs
  exact h
theorem fa25_4 (x o n : Nat) : fieldA Tryz.prog 25 (.pointer (some ⟨x, o, some n⟩)) 4 = some (.pointer (some ⟨x, o + 4, some n⟩)) := by
  have h := fa_of (f := 4) (k := 0) Tryz.underlying25 rfl sz3 x o n
  exact h
theorem fd25_4 (cs : Array Value) : fldV Tryz.prog 25 (.agg cs) 4 = cs[4]? := by
  have h := fd_one (f := 4) Tryz.underlying25 rfl un3 ag3 cs
  exact h
theorem fa25_5 (x o n : Nat) : fieldA Tryz.prog 25 (.pointer (some ⟨x, o, some n⟩)) 5 = some (.pointer (some ⟨x, o + 5, some n⟩)) := by
  have h := fa_of (f := 5) (k := 4) Tryz.underlying25 rfl sz23 x o n
  exact h
theorem fd25_5 (cs : Array Value) : fldV Tryz.prog 25 (.agg cs) 5 = some (.agg (cs.extract 5 (5 + 5))) := by
  have h := fd_agg (f := 5) Tryz.underlying25 rfl un23 ag23 sz23 cs
  exact h
theorem fa25_6 (x o n : Nat) : fieldA Tryz.prog 25 (.pointer (some ⟨x, o, some n⟩)) 6 = some (.pointer (some ⟨x, o + 10, some n⟩)) := by
  have h := fa_of (f := 6) (k := 4) Tryz.underlying25 rfl sz23 x o n
  exact h
theorem fd25_6 (cs : Array Value) : fldV Tryz.prog 25 (.agg cs) 6 = some (.agg (cs.extract 10 (10 + 5))) := by
  have h := fd_agg (f := 6) Tryz.underlying25 rfl un23 ag23 sz23 cs
  exact h
theorem fa52_0 (x o n : Nat) : fieldA Tryz.prog 52 (.pointer (some ⟨x, o, some n⟩)) 0 = some (.pointer (some ⟨x, o + 0, some n⟩)) := by
  have h := fa_of (f := 0) (k := 0) Tryz.underlying52 rfl sz9 x o n
  exact h
theorem fd52_0 (cs : Array Value) : fldV Tryz.prog 52 (.agg cs) 0 = cs[0]? := by
  have h := fd_one (f := 0) Tryz.underlying52 rfl un9 ag9 cs
  exact h
theorem fa52_1 (x o n : Nat) : fieldA Tryz.prog 52 (.pointer (some ⟨x, o, some n⟩)) 1 = some (.pointer (some ⟨x, o + 1, some n⟩)) := by
  have h := fa_of (f := 1) (k := 0) Tryz.underlying52 rfl sz3 x o n
  exact h
theorem fd52_1 (cs : Array Value) : fldV Tryz.prog 52 (.agg cs) 1 = cs[1]? := by
  have h := fd_one (f := 1) Tryz.underlying52 rfl un3 ag3 cs
  exact h
theorem fa52_2 (x o n : Nat) : fieldA Tryz.prog 52 (.pointer (some ⟨x, o, some n⟩)) 2 = some (.pointer (some ⟨x, o + 2, some n⟩)) := by
  have h := fa_of (f := 2) (k := 0) Tryz.underlying52 rfl sz4 x o n
  exact h
theorem fd52_2 (cs : Array Value) : fldV Tryz.prog 52 (.agg cs) 2 = cs[2]? := by
  have h := fd_one (f := 2) Tryz.underlying52 rfl un4 ag4 cs
  exact h
theorem fa53_0 (x o n : Nat) : fieldA Tryz.prog 53 (.pointer (some ⟨x, o, some n⟩)) 0 = some (.pointer (some ⟨x, o + 0, some n⟩)) := by
  have h := fa_of (f := 0) (k := 0) Tryz.underlying53 rfl sz9 x o n
  exact h
theorem fd53_0 (cs : Array Value) : fldV Tryz.prog 53 (.agg cs) 0 = cs[0]? := by
  have h := fd_one (f := 0) Tryz.underlying53 rfl un9 ag9 cs
  exact h
theorem fa53_1 (x o n : Nat) : fieldA Tryz.prog 53 (.pointer (some ⟨x, o, some n⟩)) 1 = some (.pointer (some ⟨x, o + 1, some n⟩)) := by
  have h := fa_of (f := 1) (k := 0) Tryz.underlying53 rfl sz3 x o n
  exact h
theorem fd53_1 (cs : Array Value) : fldV Tryz.prog 53 (.agg cs) 1 = cs[1]? := by
  have h := fd_one (f := 1) Tryz.underlying53 rfl un3 ag3 cs
  exact h
theorem fa53_2 (x o n : Nat) : fieldA Tryz.prog 53 (.pointer (some ⟨x, o, some n⟩)) 2 = some (.pointer (some ⟨x, o + 2, some n⟩)) := by
  have h := fa_of (f := 2) (k := 0) Tryz.underlying53 rfl sz4 x o n
  exact h
theorem fd53_2 (cs : Array Value) : fldV Tryz.prog 53 (.agg cs) 2 = cs[2]? := by
  have h := fd_one (f := 2) Tryz.underlying53 rfl un4 ag4 cs
  exact h
theorem fa78_0 (x o n : Nat) : fieldA Tryz.prog 78 (.pointer (some ⟨x, o, some n⟩)) 0 = some (.pointer (some ⟨x, o + 0, some n⟩)) := by
  have h := fa_of (f := 0) (k := 0) Tryz.underlying78 rfl sz76 x o n
  exact h
theorem fd78_0 (cs : Array Value) : fldV Tryz.prog 78 (.agg cs) 0 = cs[0]? := by
  have h := fd_one (f := 0) Tryz.underlying78 rfl un76 ag76 cs
  exact h
theorem fa78_1 (x o n : Nat) : fieldA Tryz.prog 78 (.pointer (some ⟨x, o, some n⟩)) 1 = some (.pointer (some ⟨x, o + 1, some n⟩)) := by
  have h := fa_of (f := 1) (k := 0) Tryz.underlying78 rfl sz77 x o n
  exact h
theorem fd78_1 (cs : Array Value) : fldV Tryz.prog 78 (.agg cs) 1 = cs[1]? := by
  have h := fd_one (f := 1) Tryz.underlying78 rfl un77 ag77 cs
  exact h
theorem fa79_0 (x o n : Nat) : fieldA Tryz.prog 79 (.pointer (some ⟨x, o, some n⟩)) 0 = some (.pointer (some ⟨x, o + 0, some n⟩)) := by
  have h := fa_of (f := 0) (k := 0) Tryz.underlying79 rfl sz76 x o n
  exact h
theorem fd79_0 (cs : Array Value) : fldV Tryz.prog 79 (.agg cs) 0 = cs[0]? := by
  have h := fd_one (f := 0) Tryz.underlying79 rfl un76 ag76 cs
  exact h
theorem fa79_1 (x o n : Nat) : fieldA Tryz.prog 79 (.pointer (some ⟨x, o, some n⟩)) 1 = some (.pointer (some ⟨x, o + 1, some n⟩)) := by
  have h := fa_of (f := 1) (k := 0) Tryz.underlying79 rfl sz77 x o n
  exact h
theorem fd79_1 (cs : Array Value) : fldV Tryz.prog 79 (.agg cs) 1 = cs[1]? := by
  have h := fd_one (f := 1) Tryz.underlying79 rfl un77 ag77 cs
  exact h
theorem fa109_0 (x o n : Nat) : fieldA Tryz.prog 109 (.pointer (some ⟨x, o, some n⟩)) 0 = some (.pointer (some ⟨x, o + 0, some n⟩)) := by
  have h := fa_of (f := 0) (k := 0) Tryz.underlying109 rfl sz5 x o n
  exact h
theorem fd109_0 (cs : Array Value) : fldV Tryz.prog 109 (.agg cs) 0 = cs[0]? := by
  have h := fd_one (f := 0) Tryz.underlying109 rfl un5 ag5 cs
  exact h
theorem fa109_1 (x o n : Nat) : fieldA Tryz.prog 109 (.pointer (some ⟨x, o, some n⟩)) 1 = some (.pointer (some ⟨x, o + 1, some n⟩)) := by
  have h := fa_of (f := 1) (k := 0) Tryz.underlying109 rfl sz5 x o n
  exact h
theorem fd109_1 (cs : Array Value) : fldV Tryz.prog 109 (.agg cs) 1 = cs[1]? := by
  have h := fd_one (f := 1) Tryz.underlying109 rfl un5 ag5 cs
  exact h
theorem fa110_0 (x o n : Nat) : fieldA Tryz.prog 110 (.pointer (some ⟨x, o, some n⟩)) 0 = some (.pointer (some ⟨x, o + 0, some n⟩)) := by
  have h := fa_of (f := 0) (k := 0) Tryz.underlying110 rfl sz5 x o n
  exact h
theorem fd110_0 (cs : Array Value) : fldV Tryz.prog 110 (.agg cs) 0 = cs[0]? := by
  have h := fd_one (f := 0) Tryz.underlying110 rfl un5 ag5 cs
  exact h
theorem fa110_1 (x o n : Nat) : fieldA Tryz.prog 110 (.pointer (some ⟨x, o, some n⟩)) 1 = some (.pointer (some ⟨x, o + 1, some n⟩)) := by
  have h := fa_of (f := 1) (k := 0) Tryz.underlying110 rfl sz5 x o n
  exact h
theorem fd110_1 (cs : Array Value) : fldV Tryz.prog 110 (.agg cs) 1 = cs[1]? := by
  have h := fd_one (f := 1) Tryz.underlying110 rfl un5 ag5 cs
  exact h
theorem fa124_0 (x o n : Nat) : fieldA Tryz.prog 124 (.pointer (some ⟨x, o, some n⟩)) 0 = some (.pointer (some ⟨x, o + 0, some n⟩)) := by
  have h := fa_of (f := 0) (k := 0) Tryz.underlying124 rfl sz9 x o n
  exact h
theorem fd124_0 (cs : Array Value) : fldV Tryz.prog 124 (.agg cs) 0 = cs[0]? := by
  have h := fd_one (f := 0) Tryz.underlying124 rfl un9 ag9 cs
  exact h
theorem fa124_1 (x o n : Nat) : fieldA Tryz.prog 124 (.pointer (some ⟨x, o, some n⟩)) 1 = some (.pointer (some ⟨x, o + 1, some n⟩)) := by
  have h := fa_of (f := 1) (k := 0) Tryz.underlying124 rfl sz9 x o n
  exact h
theorem fd124_1 (cs : Array Value) : fldV Tryz.prog 124 (.agg cs) 1 = cs[1]? := by
  have h := fd_one (f := 1) Tryz.underlying124 rfl un9 ag9 cs
  exact h
theorem fa124_2 (x o n : Nat) : fieldA Tryz.prog 124 (.pointer (some ⟨x, o, some n⟩)) 2 = some (.pointer (some ⟨x, o + 2, some n⟩)) := by
  have h := fa_of (f := 2) (k := 0) Tryz.underlying124 rfl sz71 x o n
  exact h
theorem fd124_2 (cs : Array Value) : fldV Tryz.prog 124 (.agg cs) 2 = cs[2]? := by
  have h := fd_one (f := 2) Tryz.underlying124 rfl un71 ag71 cs
  exact h
theorem fa125_0 (x o n : Nat) : fieldA Tryz.prog 125 (.pointer (some ⟨x, o, some n⟩)) 0 = some (.pointer (some ⟨x, o + 0, some n⟩)) := by
  have h := fa_of (f := 0) (k := 0) Tryz.underlying125 rfl sz9 x o n
  exact h
theorem fd125_0 (cs : Array Value) : fldV Tryz.prog 125 (.agg cs) 0 = cs[0]? := by
  have h := fd_one (f := 0) Tryz.underlying125 rfl un9 ag9 cs
  exact h
theorem fa125_1 (x o n : Nat) : fieldA Tryz.prog 125 (.pointer (some ⟨x, o, some n⟩)) 1 = some (.pointer (some ⟨x, o + 1, some n⟩)) := by
  have h := fa_of (f := 1) (k := 0) Tryz.underlying125 rfl sz9 x o n
  exact h
theorem fd125_1 (cs : Array Value) : fldV Tryz.prog 125 (.agg cs) 1 = cs[1]? := by
  have h := fd_one (f := 1) Tryz.underlying125 rfl un9 ag9 cs
  exact h
theorem fa125_2 (x o n : Nat) : fieldA Tryz.prog 125 (.pointer (some ⟨x, o, some n⟩)) 2 = some (.pointer (some ⟨x, o + 2, some n⟩)) := by
  have h := fa_of (f := 2) (k := 0) Tryz.underlying125 rfl sz71 x o n
  exact h
theorem fd125_2 (cs : Array Value) : fldV Tryz.prog 125 (.agg cs) 2 = cs[2]? := by
  have h := fd_one (f := 2) Tryz.underlying125 rfl un71 ag71 cs
  exact h
theorem fa135_0 (x o n : Nat) : fieldA Tryz.prog 135 (.pointer (some ⟨x, o, some n⟩)) 0 = some (.pointer (some ⟨x, o + 0, some n⟩)) := by
  have h := fa_of (f := 0) (k := 0) Tryz.underlying135 rfl sz9 x o n
  exact h
theorem fd135_0 (cs : Array Value) : fldV Tryz.prog 135 (.agg cs) 0 = cs[0]? := by
  have h := fd_one (f := 0) Tryz.underlying135 rfl un9 ag9 cs
  exact h
theorem fa136_0 (x o n : Nat) : fieldA Tryz.prog 136 (.pointer (some ⟨x, o, some n⟩)) 0 = some (.pointer (some ⟨x, o + 0, some n⟩)) := by
  have h := fa_of (f := 0) (k := 0) Tryz.underlying136 rfl sz9 x o n
  exact h
theorem fd136_0 (cs : Array Value) : fldV Tryz.prog 136 (.agg cs) 0 = cs[0]? := by
  have h := fd_one (f := 0) Tryz.underlying136 rfl un9 ag9 cs
  exact h
theorem fa140_0 (x o n : Nat) : fieldA Tryz.prog 140 (.pointer (some ⟨x, o, some n⟩)) 0 = some (.pointer (some ⟨x, o + 0, some n⟩)) := by
  have h := fa_of (f := 0) (k := 0) Tryz.underlying140 rfl sz17 x o n
  exact h
theorem fd140_0 (cs : Array Value) : fldV Tryz.prog 140 (.agg cs) 0 = cs[0]? := by
  have h := fd_one (f := 0) Tryz.underlying140 rfl un17 ag17 cs
  exact h
theorem fa140_1 (x o n : Nat) : fieldA Tryz.prog 140 (.pointer (some ⟨x, o, some n⟩)) 1 = some (.pointer (some ⟨x, o + 1, some n⟩)) := by
  have h := fa_of (f := 1) (k := 0) Tryz.underlying140 rfl sz17 x o n
  exact h
theorem fd140_1 (cs : Array Value) : fldV Tryz.prog 140 (.agg cs) 1 = cs[1]? := by
  have h := fd_one (f := 1) Tryz.underlying140 rfl un17 ag17 cs
  exact h
theorem fa140_2 (x o n : Nat) : fieldA Tryz.prog 140 (.pointer (some ⟨x, o, some n⟩)) 2 = some (.pointer (some ⟨x, o + 2, some n⟩)) := by
  have h := fa_of (f := 2) (k := 0) Tryz.underlying140 rfl sz17 x o n
  exact h
theorem fd140_2 (cs : Array Value) : fldV Tryz.prog 140 (.agg cs) 2 = cs[2]? := by
  have h := fd_one (f := 2) Tryz.underlying140 rfl un17 ag17 cs
  exact h
theorem fa140_3 (x o n : Nat) : fieldA Tryz.prog 140 (.pointer (some ⟨x, o, some n⟩)) 3 = some (.pointer (some ⟨x, o + 3, some n⟩)) := by
  have h := fa_of (f := 3) (k := 0) Tryz.underlying140 rfl sz9 x o n
  exact h
theorem fd140_3 (cs : Array Value) : fldV Tryz.prog 140 (.agg cs) 3 = cs[3]? := by
  have h := fd_one (f := 3) Tryz.underlying140 rfl un9 ag9 cs
  exact h
theorem fa141_0 (x o n : Nat) : fieldA Tryz.prog 141 (.pointer (some ⟨x, o, some n⟩)) 0 = some (.pointer (some ⟨x, o + 0, some n⟩)) := by
  have h := fa_of (f := 0) (k := 0) Tryz.underlying141 rfl sz17 x o n
  exact h
theorem fd141_0 (cs : Array Value) : fldV Tryz.prog 141 (.agg cs) 0 = cs[0]? := by
  have h := fd_one (f := 0) Tryz.underlying141 rfl un17 ag17 cs
  exact h
theorem fa141_1 (x o n : Nat) : fieldA Tryz.prog 141 (.pointer (some ⟨x, o, some n⟩)) 1 = some (.pointer (some ⟨x, o + 1, some n⟩)) := by
  have h := fa_of (f := 1) (k := 0) Tryz.underlying141 rfl sz17 x o n
  exact h
theorem fd141_1 (cs : Array Value) : fldV Tryz.prog 141 (.agg cs) 1 = cs[1]? := by
  have h := fd_one (f := 1) Tryz.underlying141 rfl un17 ag17 cs
  exact h
theorem fa141_2 (x o n : Nat) : fieldA Tryz.prog 141 (.pointer (some ⟨x, o, some n⟩)) 2 = some (.pointer (some ⟨x, o + 2, some n⟩)) := by
  have h := fa_of (f := 2) (k := 0) Tryz.underlying141 rfl sz17 x o n
  exact h
theorem fd141_2 (cs : Array Value) : fldV Tryz.prog 141 (.agg cs) 2 = cs[2]? := by
  have h := fd_one (f := 2) Tryz.underlying141 rfl un17 ag17 cs
  exact h
theorem fa141_3 (x o n : Nat) : fieldA Tryz.prog 141 (.pointer (some ⟨x, o, some n⟩)) 3 = some (.pointer (some ⟨x, o + 3, some n⟩)) := by
  have h := fa_of (f := 3) (k := 0) Tryz.underlying141 rfl sz9 x o n
  exact h
theorem fd141_3 (cs : Array Value) : fldV Tryz.prog 141 (.agg cs) 3 = cs[3]? := by
  have h := fd_one (f := 3) Tryz.underlying141 rfl un9 ag9 cs
  exact h
theorem fa150_0 (x o n : Nat) : fieldA Tryz.prog 150 (.pointer (some ⟨x, o, some n⟩)) 0 = some (.pointer (some ⟨x, o + 0, some n⟩)) := by
  have h := fa_of (f := 0) (k := 0) Tryz.underlying150 rfl sz12 x o n
  exact h
theorem fd150_0 (cs : Array Value) : fldV Tryz.prog 150 (.agg cs) 0 = cs[0]? := by
  have h := fd_one (f := 0) Tryz.underlying150 rfl un12 ag12 cs
  exact h
theorem fa150_1 (x o n : Nat) : fieldA Tryz.prog 150 (.pointer (some ⟨x, o, some n⟩)) 1 = some (.pointer (some ⟨x, o + 1, some n⟩)) := by
  have h := fa_of (f := 1) (k := 0) Tryz.underlying150 rfl sz12 x o n
  exact h
theorem fd150_1 (cs : Array Value) : fldV Tryz.prog 150 (.agg cs) 1 = cs[1]? := by
  have h := fd_one (f := 1) Tryz.underlying150 rfl un12 ag12 cs
  exact h
theorem fa150_2 (x o n : Nat) : fieldA Tryz.prog 150 (.pointer (some ⟨x, o, some n⟩)) 2 = some (.pointer (some ⟨x, o + 2, some n⟩)) := by
  have h := fa_of (f := 2) (k := 0) Tryz.underlying150 rfl sz115 x o n
  exact h
theorem fd150_2 (cs : Array Value) : fldV Tryz.prog 150 (.agg cs) 2 = cs[2]? := by
  have h := fd_one (f := 2) Tryz.underlying150 rfl un115 ag115 cs
  exact h
theorem fa150_3 (x o n : Nat) : fieldA Tryz.prog 150 (.pointer (some ⟨x, o, some n⟩)) 3 = some (.pointer (some ⟨x, o + 3, some n⟩)) := by
  have h := fa_of (f := 3) (k := 0) Tryz.underlying150 rfl sz145 x o n
  exact h
theorem fd150_3 (cs : Array Value) : fldV Tryz.prog 150 (.agg cs) 3 = cs[3]? := by
  have h := fd_one (f := 3) Tryz.underlying150 rfl un145 ag145 cs
  exact h
theorem fa150_4 (x o n : Nat) : fieldA Tryz.prog 150 (.pointer (some ⟨x, o, some n⟩)) 4 = some (.pointer (some ⟨x, o + 4, some n⟩)) := by
  have h := fa_of (f := 4) (k := 0) Tryz.underlying150 rfl sz5 x o n
  exact h
theorem fd150_4 (cs : Array Value) : fldV Tryz.prog 150 (.agg cs) 4 = cs[4]? := by
  have h := fd_one (f := 4) Tryz.underlying150 rfl un5 ag5 cs
  exact h
theorem fa150_5 (x o n : Nat) : fieldA Tryz.prog 150 (.pointer (some ⟨x, o, some n⟩)) 5 = some (.pointer (some ⟨x, o + 5, some n⟩)) := by
  have h := fa_of (f := 5) (k := 0) Tryz.underlying150 rfl sz5 x o n
  exact h
theorem fd150_5 (cs : Array Value) : fldV Tryz.prog 150 (.agg cs) 5 = cs[5]? := by
  have h := fd_one (f := 5) Tryz.underlying150 rfl un5 ag5 cs
  exact h
theorem fa150_6 (x o n : Nat) : fieldA Tryz.prog 150 (.pointer (some ⟨x, o, some n⟩)) 6 = some (.pointer (some ⟨x, o + 6, some n⟩)) := by
  have h := fa_of (f := 6) (k := 0) Tryz.underlying150 rfl sz146 x o n
  exact h
theorem fd150_6 (cs : Array Value) : fldV Tryz.prog 150 (.agg cs) 6 = cs[6]? := by
  have h := fd_one (f := 6) Tryz.underlying150 rfl un146 ag146 cs
  exact h
theorem fa150_7 (x o n : Nat) : fieldA Tryz.prog 150 (.pointer (some ⟨x, o, some n⟩)) 7 = some (.pointer (some ⟨x, o + 7, some n⟩)) := by
  have h := fa_of (f := 7) (k := 0) Tryz.underlying150 rfl sz147 x o n
  exact h
theorem fd150_7 (cs : Array Value) : fldV Tryz.prog 150 (.agg cs) 7 = cs[7]? := by
  have h := fd_one (f := 7) Tryz.underlying150 rfl un147 ag147 cs
  exact h
theorem fa150_8 (x o n : Nat) : fieldA Tryz.prog 150 (.pointer (some ⟨x, o, some n⟩)) 8 = some (.pointer (some ⟨x, o + 8, some n⟩)) := by
  have h := fa_of (f := 8) (k := 0) Tryz.underlying150 rfl sz94 x o n
  exact h
theorem fd150_8 (cs : Array Value) : fldV Tryz.prog 150 (.agg cs) 8 = cs[8]? := by
  have h := fd_one (f := 8) Tryz.underlying150 rfl un94 ag94 cs
  exact h
theorem fa150_9 (x o n : Nat) : fieldA Tryz.prog 150 (.pointer (some ⟨x, o, some n⟩)) 9 = some (.pointer (some ⟨x, o + 9, some n⟩)) := by
  have h := fa_of (f := 9) (k := 0) Tryz.underlying150 rfl sz148 x o n
  exact h
theorem fd150_9 (cs : Array Value) : fldV Tryz.prog 150 (.agg cs) 9 = cs[9]? := by
  have h := fd_one (f := 9) Tryz.underlying150 rfl un148 ag148 cs
  exact h
theorem fa150_10 (x o n : Nat) : fieldA Tryz.prog 150 (.pointer (some ⟨x, o, some n⟩)) 10 = some (.pointer (some ⟨x, o + 10, some n⟩)) := by
  have h := fa_of (f := 10) (k := 0) Tryz.underlying150 rfl sz149 x o n
  exact h
theorem fd150_10 (cs : Array Value) : fldV Tryz.prog 150 (.agg cs) 10 = cs[10]? := by
  have h := fd_one (f := 10) Tryz.underlying150 rfl un149 ag149 cs
  exact h
theorem fa151_0 (x o n : Nat) : fieldA Tryz.prog 151 (.pointer (some ⟨x, o, some n⟩)) 0 = some (.pointer (some ⟨x, o + 0, some n⟩)) := by
  have h := fa_of (f := 0) (k := 0) Tryz.underlying151 rfl sz12 x o n
  exact h
theorem fd151_0 (cs : Array Value) : fldV Tryz.prog 151 (.agg cs) 0 = cs[0]? := by
  have h := fd_one (f := 0) Tryz.underlying151 rfl un12 ag12 cs
  exact h
theorem fa151_1 (x o n : Nat) : fieldA Tryz.prog 151 (.pointer (some ⟨x, o, some n⟩)) 1 = some (.pointer (some ⟨x, o + 1, some n⟩)) := by
  have h := fa_of (f := 1) (k := 0) Tryz.underlying151 rfl sz12 x o n
  exact h
theorem fd151_1 (cs : Array Value) : fldV Tryz.prog 151 (.agg cs) 1 = cs[1]? := by
  have h := fd_one (f := 1) Tryz.underlying151 rfl un12 ag12 cs
  exact h
theorem fa151_2 (x o n : Nat) : fieldA Tryz.prog 151 (.pointer (some ⟨x, o, some n⟩)) 2 = some (.pointer (some ⟨x, o + 2, some n⟩)) := by
  have h := fa_of (f := 2) (k := 0) Tryz.underlying151 rfl sz115 x o n
  exact h
theorem fd151_2 (cs : Array Value) : fldV Tryz.prog 151 (.agg cs) 2 = cs[2]? := by
  have h := fd_one (f := 2) Tryz.underlying151 rfl un115 ag115 cs
  exact h
theorem fa151_3 (x o n : Nat) : fieldA Tryz.prog 151 (.pointer (some ⟨x, o, some n⟩)) 3 = some (.pointer (some ⟨x, o + 3, some n⟩)) := by
  have h := fa_of (f := 3) (k := 0) Tryz.underlying151 rfl sz145 x o n
  exact h
theorem fd151_3 (cs : Array Value) : fldV Tryz.prog 151 (.agg cs) 3 = cs[3]? := by
  have h := fd_one (f := 3) Tryz.underlying151 rfl un145 ag145 cs
  exact h
theorem fa151_4 (x o n : Nat) : fieldA Tryz.prog 151 (.pointer (some ⟨x, o, some n⟩)) 4 = some (.pointer (some ⟨x, o + 4, some n⟩)) := by
  have h := fa_of (f := 4) (k := 0) Tryz.underlying151 rfl sz5 x o n
  exact h
theorem fd151_4 (cs : Array Value) : fldV Tryz.prog 151 (.agg cs) 4 = cs[4]? := by
  have h := fd_one (f := 4) Tryz.underlying151 rfl un5 ag5 cs
  exact h
theorem fa151_5 (x o n : Nat) : fieldA Tryz.prog 151 (.pointer (some ⟨x, o, some n⟩)) 5 = some (.pointer (some ⟨x, o + 5, some n⟩)) := by
  have h := fa_of (f := 5) (k := 0) Tryz.underlying151 rfl sz5 x o n
  exact h
theorem fd151_5 (cs : Array Value) : fldV Tryz.prog 151 (.agg cs) 5 = cs[5]? := by
  have h := fd_one (f := 5) Tryz.underlying151 rfl un5 ag5 cs
  exact h
theorem fa151_6 (x o n : Nat) : fieldA Tryz.prog 151 (.pointer (some ⟨x, o, some n⟩)) 6 = some (.pointer (some ⟨x, o + 6, some n⟩)) := by
  have h := fa_of (f := 6) (k := 0) Tryz.underlying151 rfl sz146 x o n
  exact h
theorem fd151_6 (cs : Array Value) : fldV Tryz.prog 151 (.agg cs) 6 = cs[6]? := by
  have h := fd_one (f := 6) Tryz.underlying151 rfl un146 ag146 cs
  exact h
theorem fa151_7 (x o n : Nat) : fieldA Tryz.prog 151 (.pointer (some ⟨x, o, some n⟩)) 7 = some (.pointer (some ⟨x, o + 7, some n⟩)) := by
  have h := fa_of (f := 7) (k := 0) Tryz.underlying151 rfl sz147 x o n
  exact h
theorem fd151_7 (cs : Array Value) : fldV Tryz.prog 151 (.agg cs) 7 = cs[7]? := by
  have h := fd_one (f := 7) Tryz.underlying151 rfl un147 ag147 cs
  exact h
theorem fa151_8 (x o n : Nat) : fieldA Tryz.prog 151 (.pointer (some ⟨x, o, some n⟩)) 8 = some (.pointer (some ⟨x, o + 8, some n⟩)) := by
  have h := fa_of (f := 8) (k := 0) Tryz.underlying151 rfl sz94 x o n
  exact h
theorem fd151_8 (cs : Array Value) : fldV Tryz.prog 151 (.agg cs) 8 = cs[8]? := by
  have h := fd_one (f := 8) Tryz.underlying151 rfl un94 ag94 cs
  exact h
theorem fa151_9 (x o n : Nat) : fieldA Tryz.prog 151 (.pointer (some ⟨x, o, some n⟩)) 9 = some (.pointer (some ⟨x, o + 9, some n⟩)) := by
  have h := fa_of (f := 9) (k := 0) Tryz.underlying151 rfl sz148 x o n
  exact h
theorem fd151_9 (cs : Array Value) : fldV Tryz.prog 151 (.agg cs) 9 = cs[9]? := by
  have h := fd_one (f := 9) Tryz.underlying151 rfl un148 ag148 cs
  exact h
theorem fa151_10 (x o n : Nat) : fieldA Tryz.prog 151 (.pointer (some ⟨x, o, some n⟩)) 10 = some (.pointer (some ⟨x, o + 10, some n⟩)) := by
  have h := fa_of (f := 10) (k := 0) Tryz.underlying151 rfl sz149 x o n
  exact h
theorem fd151_10 (cs : Array Value) : fldV Tryz.prog 151 (.agg cs) 10 = cs[10]? := by
  have h := fd_one (f := 10) Tryz.underlying151 rfl un149 ag149 cs
  exact h
theorem be4 (c a b : Bool) : binV Tryz.prog c .eql 4 (.bool a) (.bool b) = some (.bool (a == b)) := bool_eql a b Tryz.underlying4
theorem lw9 (H : Heap) (l : List UInt8) : lenW Tryz.prog 9 H (str l) = some (.int .i64 l.length) := lenW_str l Tryz.underlying9
theorem rg9 (H : Heap) (s : List UInt8) : rangeV Tryz.prog 9 (str s) H = some (.pointer (some ⟨H.length, 0, some 0⟩), H ++ [itB s 0]) := range_str Tryz.underlying9 s
theorem slb9 {l : List UInt8} {a b : Int} (h0 : 0 ≤ a) (h1 : a ≤ b) (h2 : b ≤ l.length) : sliceV Tryz.prog 9 (str l) (some (.int .i64 a)) (some (.int .i64 b)) none = some (str ((l.drop a.toNat).take (b.toNat - a.toNat))) := sl_str Tryz.underlying9 h0 h1 h2
theorem sll9 {l : List UInt8} {a : Int} (h0 : 0 ≤ a) (h1 : a ≤ l.length) : sliceV Tryz.prog 9 (str l) (some (.int .i64 a)) none none = some (str (l.drop a.toNat)) := sl_strLo Tryz.underlying9 h0 h1
theorem slh9 {l : List UInt8} {b : Int} (h0 : 0 ≤ b) (h1 : b ≤ l.length) : sliceV Tryz.prog 9 (str l) none (some (.int .i64 b)) none = some (str (l.take b.toNat)) := sl_strHi Tryz.underlying9 h0 h1
theorem ix9 {l : List UInt8} {n : Int} {b : UInt8} (h0 : 0 ≤ n) (h : l[n.toNat]? = some b) : idxV Tryz.prog 9 (str l) (.int .i64 n) = some (.int .u8 b.toNat) := idx_str Tryz.underlying9 h0 h
theorem lw10 (H : Heap) (l : List UInt8) : lenW Tryz.prog 10 H (str l) = some (.int .i64 l.length) := lenW_str l Tryz.underlying10
theorem rg10 (H : Heap) (s : List UInt8) : rangeV Tryz.prog 10 (str s) H = some (.pointer (some ⟨H.length, 0, some 0⟩), H ++ [itB s 0]) := range_str Tryz.underlying10 s
theorem slb10 {l : List UInt8} {a b : Int} (h0 : 0 ≤ a) (h1 : a ≤ b) (h2 : b ≤ l.length) : sliceV Tryz.prog 10 (str l) (some (.int .i64 a)) (some (.int .i64 b)) none = some (str ((l.drop a.toNat).take (b.toNat - a.toNat))) := sl_str Tryz.underlying10 h0 h1 h2
theorem sll10 {l : List UInt8} {a : Int} (h0 : 0 ≤ a) (h1 : a ≤ l.length) : sliceV Tryz.prog 10 (str l) (some (.int .i64 a)) none none = some (str (l.drop a.toNat)) := sl_strLo Tryz.underlying10 h0 h1
theorem slh10 {l : List UInt8} {b : Int} (h0 : 0 ≤ b) (h1 : b ≤ l.length) : sliceV Tryz.prog 10 (str l) none (some (.int .i64 b)) none = some (str (l.take b.toNat)) := sl_strHi Tryz.underlying10 h0 h1
theorem ix10 {l : List UInt8} {n : Int} {b : UInt8} (h0 : 0 ≤ n) (h : l[n.toNat]? = some b) : idxV Tryz.prog 10 (str l) (.int .i64 n) = some (.int .u8 b.toNat) := idx_str Tryz.underlying10 h0 h
theorem lw11 (H : Heap) (l : List UInt8) : lenW Tryz.prog 11 H (str l) = some (.int .i64 l.length) := lenW_str l Tryz.underlying11
theorem rg11 (H : Heap) (s : List UInt8) : rangeV Tryz.prog 11 (str s) H = some (.pointer (some ⟨H.length, 0, some 0⟩), H ++ [itB s 0]) := range_str Tryz.underlying11 s
theorem slb11 {l : List UInt8} {a b : Int} (h0 : 0 ≤ a) (h1 : a ≤ b) (h2 : b ≤ l.length) : sliceV Tryz.prog 11 (str l) (some (.int .i64 a)) (some (.int .i64 b)) none = some (str ((l.drop a.toNat).take (b.toNat - a.toNat))) := sl_str Tryz.underlying11 h0 h1 h2
theorem sll11 {l : List UInt8} {a : Int} (h0 : 0 ≤ a) (h1 : a ≤ l.length) : sliceV Tryz.prog 11 (str l) (some (.int .i64 a)) none none = some (str (l.drop a.toNat)) := sl_strLo Tryz.underlying11 h0 h1
theorem slh11 {l : List UInt8} {b : Int} (h0 : 0 ≤ b) (h1 : b ≤ l.length) : sliceV Tryz.prog 11 (str l) none (some (.int .i64 b)) none = some (str (l.take b.toNat)) := sl_strHi Tryz.underlying11 h0 h1
theorem ix11 {l : List UInt8} {n : Int} {b : UInt8} (h0 : 0 ≤ n) (h : l[n.toNat]? = some b) : idxV Tryz.prog 11 (str l) (.int .i64 n) = some (.int .u8 b.toNat) := idx_str Tryz.underlying11 h0 h
attribute [go_sem] ld1 st1 ld2 st2 ld3 st3 ld4 st4 ld5 st5 ld6 st6 ld7 ld8 ld9 st9 ld10 st10 ld11 st11
attribute [go_sem] ld12 st12 ld13 ld14 ld15 st15 ld16 st16 ld17 st17 ld18 ld19 ld20 st20 ld21 st21 ld22 ld23 ld24 ld25
attribute [go_sem] ld26 st26 ld27 st27 ld29 st29 ld30 st30 ld32 st32 ld33 st33 ld34 st34 ld35 st35 ld36 st36 ld37 st37
attribute [go_sem] ld38 st38 ld39 st39 ld40 st40 ld41 st41 ld42 st42 ld43 st43 ld45 st45 ld47 st47 ld48 st48 ld50 st50
attribute [go_sem] ld51 st51 ld52 ld53 ld54 st54 ld55 st55 ld56 st56 ld57 st57 ld58 st58 ld59 st59 ld60 st60 ld61 st61
attribute [go_sem] ld63 st63 ld65 st65 ld66 st66 ld67 st67 ld68 st68 ld69 st69 ld70 st70 ld71 st71 ld73 st73 ld74 st74
attribute [go_sem] ld75 st75 ld76 st76 ld77 st77 ld78 ld79 ld81 st81 ld82 st82 ld83 st83 ld84 st84 ld85 st85 ld86 st86
attribute [go_sem] ld87 ld88 ld90 st90 ld91 st91 ld92 st92 ld93 st93 ld94 st94 ld95 st95 ld96 st96 ld97 st97 ld98 st98
attribute [go_sem] ld99 st99 ld100 st100 ld101 st101 ld103 st103 ld104 st104 ld105 st105 ld106 st106 ld107 st107 ld108 ld109 ld110 ld111
attribute [go_sem] ld113 st113 ld114 st114 ld115 st115 ld116 ld117 st117 ld118 st118 ld119 st119 ld121 st121 ld123 st123 ld124 ld125 ld126
attribute [go_sem] st126 ld127 st127 ld128 ld129 ld130 st130 ld132 st132 ld133 st133 ld134 st134 ld135 ld136 ld137 st137 ld138 ld139 ld140
attribute [go_sem] ld141 ld142 ld143 ld144 ld145 st145 ld146 st146 ld147 st147 ld148 st148 ld149 st149 ld150 ld151 fa7_0 fd7_0 fa7_1 fd7_1
attribute [go_sem] fa7_2 fd7_2 fa7_3 fd7_3 fa8_0 fd8_0 fa8_1 fd8_1 fa8_2 fd8_2 fa8_3 fd8_3 fa13_0 fd13_0 fa13_1 fd13_1 fa14_0 fd14_0 fa14_1 fd14_1
attribute [go_sem] fa18_0 fd18_0 fa19_0 fd19_0 fa22_0 fd22_0 fa22_1 fd22_1 fa22_2 fd22_2 fa22_3 fd22_3 fa22_4 fd22_4 fa23_0 fd23_0 fa23_1 fd23_1 fa23_2 fd23_2
attribute [go_sem] fa23_3 fd23_3 fa23_4 fd23_4 fa24_0 fd24_0 fa24_1 fd24_1 fa24_2 fd24_2 fa24_3 fd24_3 fa24_4 fd24_4 fa24_5 fd24_5 fa24_6 fd24_6 fa25_0 fd25_0
attribute [go_sem] fa25_1 fd25_1 fa25_2 fd25_2 fa25_3 fd25_3 fa25_4 fd25_4 fa25_5 fd25_5 fa25_6 fd25_6 fa52_0 fd52_0 fa52_1 fd52_1 fa52_2 fd52_2 fa53_0 fd53_0
attribute [go_sem] fa53_1 fd53_1 fa53_2 fd53_2 fa78_0 fd78_0 fa78_1 fd78_1 fa79_0 fd79_0 fa79_1 fd79_1 fa109_0 fd109_0 fa109_1 fd109_1 fa110_0 fd110_0 fa110_1 fd110_1
attribute [go_sem] fa124_0 fd124_0 fa124_1 fd124_1 fa124_2 fd124_2 fa125_0 fd125_0 fa125_1 fd125_1 fa125_2 fd125_2 fa135_0 fd135_0 fa136_0 fd136_0 fa140_0 fd140_0 fa140_1 fd140_1
attribute [go_sem] fa140_2 fd140_2 fa140_3 fd140_3 fa141_0 fd141_0 fa141_1 fd141_1 fa141_2 fd141_2 fa141_3 fd141_3 fa150_0 fd150_0 fa150_1 fd150_1 fa150_2 fd150_2 fa150_3 fd150_3
attribute [go_sem] fa150_4 fd150_4 fa150_5 fd150_5 fa150_6 fd150_6 fa150_7 fd150_7 fa150_8 fd150_8 fa150_9 fd150_9 fa150_10 fd150_10 fa151_0 fd151_0 fa151_1 fd151_1 fa151_2 fd151_2
attribute [go_sem] fa151_3 fd151_3 fa151_4 fd151_4 fa151_5 fd151_5 fa151_6 fd151_6 fa151_7 fd151_7 fa151_8 fd151_8 fa151_9 fd151_9 fa151_10 fd151_10 be4 rg9 lw9 slb9
attribute [go_sem] sll9 slh9 ix9 rg10 lw10 slb10 sll10 slh10 ix10 rg11 lw11 slb11 sll11 slh11 ix11
end Go.AM.Z
