/-
  The types of this program, as rules. No condition.
-/
import Derived.Test.YtibglbjklefjdaaGreatDoorANd
import Derived.Test.YtibglbjklefjdaaGreatDoorChecked
import Derived.KernelRfl
import Derived.Lib.AtoiAll
import Derived.Lib.ItoaNum
import Derived.Lib.Bytealg
import Derived.Lib.SpaceU
import Derived.Lib.MapU
import Derived.Lib.IndexMore
set_option linter.all false
set_option linter.unusedSimpArgs false
set_option linter.unusedVariables false
set_option linter.unusedSectionVars false
namespace Go.AM.Z
open Go Go.AM Go.Proofs
theorem sz3 : sz Tryz.prog 3 = some 1 := by kernel_rfl
theorem ag3 : isAggD Tryz.prog 3 = false := by kernel_rfl
theorem un3 : (Tryz.prog.underlying 3).isSome = true := by kernel_rfl
theorem ld3 (H : Heap) (x o n : Nat) : ldA Tryz.prog H 3 (.pointer (some ⟨x, o, some n⟩)) = get1 H[x]? o n := ld_one sz3 ag3 un3 x o n
theorem st3 (H : Heap) (p x o n : Nat) (v : Value) (h : oneC v = true) : stA Tryz.prog H p 3 (.pointer (some ⟨x, o, some n⟩)) v = put H p x o n H[x]? [v] := st_one sz3 x o n v h
theorem sz4 : sz Tryz.prog 4 = some 1 := by kernel_rfl
theorem ag4 : isAggD Tryz.prog 4 = false := by kernel_rfl
theorem un4 : (Tryz.prog.underlying 4).isSome = true := by kernel_rfl
theorem ld4 (H : Heap) (x o n : Nat) : ldA Tryz.prog H 4 (.pointer (some ⟨x, o, some n⟩)) = get1 H[x]? o n := ld_one sz4 ag4 un4 x o n
theorem st4 (H : Heap) (p x o n : Nat) (v : Value) (h : oneC v = true) : stA Tryz.prog H p 4 (.pointer (some ⟨x, o, some n⟩)) v = put H p x o n H[x]? [v] := st_one sz4 x o n v h
theorem sz5 : sz Tryz.prog 5 = some 1 := by kernel_rfl
theorem ag5 : isAggD Tryz.prog 5 = false := by kernel_rfl
theorem un5 : (Tryz.prog.underlying 5).isSome = true := by kernel_rfl
theorem ld5 (H : Heap) (x o n : Nat) : ldA Tryz.prog H 5 (.pointer (some ⟨x, o, some n⟩)) = get1 H[x]? o n := ld_one sz5 ag5 un5 x o n
theorem st5 (H : Heap) (p x o n : Nat) (v : Value) (h : oneC v = true) : stA Tryz.prog H p 5 (.pointer (some ⟨x, o, some n⟩)) v = put H p x o n H[x]? [v] := st_one sz5 x o n v h
theorem sz9 : sz Tryz.prog 9 = some 1 := by kernel_rfl
theorem ag9 : isAggD Tryz.prog 9 = false := by kernel_rfl
theorem un9 : (Tryz.prog.underlying 9).isSome = true := by kernel_rfl
theorem ld9 (H : Heap) (x o n : Nat) : ldA Tryz.prog H 9 (.pointer (some ⟨x, o, some n⟩)) = get1 H[x]? o n := ld_one sz9 ag9 un9 x o n
theorem st9 (H : Heap) (p x o n : Nat) (v : Value) (h : oneC v = true) : stA Tryz.prog H p 9 (.pointer (some ⟨x, o, some n⟩)) v = put H p x o n H[x]? [v] := st_one sz9 x o n v h
theorem sz22 : sz Tryz.prog 22 = some 1 := by kernel_rfl
theorem ag22 : isAggD Tryz.prog 22 = false := by kernel_rfl
theorem un22 : (Tryz.prog.underlying 22).isSome = true := by kernel_rfl
theorem ld22 (H : Heap) (x o n : Nat) : ldA Tryz.prog H 22 (.pointer (some ⟨x, o, some n⟩)) = get1 H[x]? o n := ld_one sz22 ag22 un22 x o n
theorem st22 (H : Heap) (p x o n : Nat) (v : Value) (h : oneC v = true) : stA Tryz.prog H p 22 (.pointer (some ⟨x, o, some n⟩)) v = put H p x o n H[x]? [v] := st_one sz22 x o n v h
theorem sz23 : sz Tryz.prog 23 = some 1 := by kernel_rfl
theorem ag23 : isAggD Tryz.prog 23 = false := by kernel_rfl
theorem un23 : (Tryz.prog.underlying 23).isSome = true := by kernel_rfl
theorem ld23 (H : Heap) (x o n : Nat) : ldA Tryz.prog H 23 (.pointer (some ⟨x, o, some n⟩)) = get1 H[x]? o n := ld_one sz23 ag23 un23 x o n
theorem st23 (H : Heap) (p x o n : Nat) (v : Value) (h : oneC v = true) : stA Tryz.prog H p 23 (.pointer (some ⟨x, o, some n⟩)) v = put H p x o n H[x]? [v] := st_one sz23 x o n v h
theorem sz24 : sz Tryz.prog 24 = some 1 := by kernel_rfl
theorem ag24 : isAggD Tryz.prog 24 = false := by kernel_rfl
theorem un24 : (Tryz.prog.underlying 24).isSome = true := by kernel_rfl
theorem ld24 (H : Heap) (x o n : Nat) : ldA Tryz.prog H 24 (.pointer (some ⟨x, o, some n⟩)) = get1 H[x]? o n := ld_one sz24 ag24 un24 x o n
theorem st24 (H : Heap) (p x o n : Nat) (v : Value) (h : oneC v = true) : stA Tryz.prog H p 24 (.pointer (some ⟨x, o, some n⟩)) v = put H p x o n H[x]? [v] := st_one sz24 x o n v h
theorem sz26 : sz Tryz.prog 26 = some 5 := by kernel_rfl
theorem ag26 : isAggD Tryz.prog 26 = true := by kernel_rfl
theorem ld26 (H : Heap) (x o n : Nat) : ldA Tryz.prog H 26 (.pointer (some ⟨x, o, some n⟩)) = (getN H[x]? o n 5).bind fun cs => some (.agg cs) := ld_agg sz26 ag26 x o n
theorem st26 (H : Heap) (p x o n : Nat) (cs : List Value) (hx : cs.all oneC = true) (hl : cs.length = 5) : stA Tryz.prog H p 26 (.pointer (some ⟨x, o, some n⟩)) (.agg cs.toArray) = put H p x o n H[x]? cs := st_agg sz26 x o n cs.toArray hx hl
theorem sz27 : sz Tryz.prog 27 = some 1 := by kernel_rfl
theorem ag27 : isAggD Tryz.prog 27 = false := by kernel_rfl
theorem un27 : (Tryz.prog.underlying 27).isSome = true := by kernel_rfl
theorem ld27 (H : Heap) (x o n : Nat) : ldA Tryz.prog H 27 (.pointer (some ⟨x, o, some n⟩)) = get1 H[x]? o n := ld_one sz27 ag27 un27 x o n
theorem st27 (H : Heap) (p x o n : Nat) (v : Value) (h : oneC v = true) : stA Tryz.prog H p 27 (.pointer (some ⟨x, o, some n⟩)) v = put H p x o n H[x]? [v] := st_one sz27 x o n v h
theorem sz29 : sz Tryz.prog 29 = some 9 := by kernel_rfl
theorem ag29 : isAggD Tryz.prog 29 = true := by kernel_rfl
theorem ld29 (H : Heap) (x o n : Nat) : ldA Tryz.prog H 29 (.pointer (some ⟨x, o, some n⟩)) = (getN H[x]? o n 9).bind fun cs => some (.agg cs) := ld_agg sz29 ag29 x o n
theorem st29 (H : Heap) (p x o n : Nat) (cs : List Value) (hx : cs.all oneC = true) (hl : cs.length = 9) : stA Tryz.prog H p 29 (.pointer (some ⟨x, o, some n⟩)) (.agg cs.toArray) = put H p x o n H[x]? cs := st_agg sz29 x o n cs.toArray hx hl
theorem sz33 : sz Tryz.prog 33 = some 1 := by kernel_rfl
theorem ag33 : isAggD Tryz.prog 33 = false := by kernel_rfl
theorem un33 : (Tryz.prog.underlying 33).isSome = true := by kernel_rfl
theorem ld33 (H : Heap) (x o n : Nat) : ldA Tryz.prog H 33 (.pointer (some ⟨x, o, some n⟩)) = get1 H[x]? o n := ld_one sz33 ag33 un33 x o n
theorem st33 (H : Heap) (p x o n : Nat) (v : Value) (h : oneC v = true) : stA Tryz.prog H p 33 (.pointer (some ⟨x, o, some n⟩)) v = put H p x o n H[x]? [v] := st_one sz33 x o n v h
theorem sz36 : sz Tryz.prog 36 = some 1 := by kernel_rfl
theorem ag36 : isAggD Tryz.prog 36 = false := by kernel_rfl
theorem un36 : (Tryz.prog.underlying 36).isSome = true := by kernel_rfl
theorem ld36 (H : Heap) (x o n : Nat) : ldA Tryz.prog H 36 (.pointer (some ⟨x, o, some n⟩)) = get1 H[x]? o n := ld_one sz36 ag36 un36 x o n
theorem st36 (H : Heap) (p x o n : Nat) (v : Value) (h : oneC v = true) : stA Tryz.prog H p 36 (.pointer (some ⟨x, o, some n⟩)) v = put H p x o n H[x]? [v] := st_one sz36 x o n v h
theorem sz44 : sz Tryz.prog 44 = some 9 := by kernel_rfl
theorem ag44 : isAggD Tryz.prog 44 = true := by kernel_rfl
theorem ld44 (H : Heap) (x o n : Nat) : ldA Tryz.prog H 44 (.pointer (some ⟨x, o, some n⟩)) = (getN H[x]? o n 9).bind fun cs => some (.agg cs) := ld_agg sz44 ag44 x o n
theorem st44 (H : Heap) (p x o n : Nat) (cs : List Value) (hx : cs.all oneC = true) (hl : cs.length = 9) : stA Tryz.prog H p 44 (.pointer (some ⟨x, o, some n⟩)) (.agg cs.toArray) = put H p x o n H[x]? cs := st_agg sz44 x o n cs.toArray hx hl
theorem sz46 : sz Tryz.prog 46 = some 5 := by kernel_rfl
theorem ag46 : isAggD Tryz.prog 46 = true := by kernel_rfl
theorem ld46 (H : Heap) (x o n : Nat) : ldA Tryz.prog H 46 (.pointer (some ⟨x, o, some n⟩)) = (getN H[x]? o n 5).bind fun cs => some (.agg cs) := ld_agg sz46 ag46 x o n
theorem sz48 : sz Tryz.prog 48 = some 7 := by kernel_rfl
theorem ag48 : isAggD Tryz.prog 48 = true := by kernel_rfl
theorem ld48 (H : Heap) (x o n : Nat) : ldA Tryz.prog H 48 (.pointer (some ⟨x, o, some n⟩)) = (getN H[x]? o n 7).bind fun cs => some (.agg cs) := ld_agg sz48 ag48 x o n
theorem st48 (H : Heap) (p x o n : Nat) (cs : List Value) (hx : cs.all oneC = true) (hl : cs.length = 7) : stA Tryz.prog H p 48 (.pointer (some ⟨x, o, some n⟩)) (.agg cs.toArray) = put H p x o n H[x]? cs := st_agg sz48 x o n cs.toArray hx hl
theorem sz56 : sz Tryz.prog 56 = some 5 := by kernel_rfl
theorem ag56 : isAggD Tryz.prog 56 = true := by kernel_rfl
theorem un56 : (Tryz.prog.underlying 56).isSome = true := by kernel_rfl
theorem ld56 (H : Heap) (x o n : Nat) : ldA Tryz.prog H 56 (.pointer (some ⟨x, o, some n⟩)) = (getN H[x]? o n 5).bind fun cs => some (.agg cs) := ld_agg sz56 ag56 x o n
theorem sz58 : sz Tryz.prog 58 = some 15 := by kernel_rfl
theorem ag58 : isAggD Tryz.prog 58 = true := by kernel_rfl
theorem ld58 (H : Heap) (x o n : Nat) : ldA Tryz.prog H 58 (.pointer (some ⟨x, o, some n⟩)) = (getN H[x]? o n 15).bind fun cs => some (.agg cs) := ld_agg sz58 ag58 x o n
theorem sz61 : sz Tryz.prog 61 = some 5 := by kernel_rfl
theorem sz62 : sz Tryz.prog 62 = some 5 := by kernel_rfl
theorem sz64 : sz Tryz.prog 64 = some 10 := by kernel_rfl
theorem ag64 : isAggD Tryz.prog 64 = true := by kernel_rfl
theorem ld64 (H : Heap) (x o n : Nat) : ldA Tryz.prog H 64 (.pointer (some ⟨x, o, some n⟩)) = (getN H[x]? o n 10).bind fun cs => some (.agg cs) := ld_agg sz64 ag64 x o n
theorem st64 (H : Heap) (p x o n : Nat) (cs : List Value) (hx : cs.all oneC = true) (hl : cs.length = 10) : stA Tryz.prog H p 64 (.pointer (some ⟨x, o, some n⟩)) (.agg cs.toArray) = put H p x o n H[x]? cs := st_agg sz64 x o n cs.toArray hx hl
theorem sz84 : sz Tryz.prog 84 = some 6 := by kernel_rfl
theorem ag84 : isAggD Tryz.prog 84 = true := by kernel_rfl
theorem ld84 (H : Heap) (x o n : Nat) : ldA Tryz.prog H 84 (.pointer (some ⟨x, o, some n⟩)) = (getN H[x]? o n 6).bind fun cs => some (.agg cs) := ld_agg sz84 ag84 x o n
theorem st84 (H : Heap) (p x o n : Nat) (cs : List Value) (hx : cs.all oneC = true) (hl : cs.length = 6) : stA Tryz.prog H p 84 (.pointer (some ⟨x, o, some n⟩)) (.agg cs.toArray) = put H p x o n H[x]? cs := st_agg sz84 x o n cs.toArray hx hl
theorem sz89 : sz Tryz.prog 89 = some 0 := by kernel_rfl
theorem sz122 : sz Tryz.prog 122 = some 2 := by kernel_rfl
theorem ag122 : isAggD Tryz.prog 122 = true := by kernel_rfl
theorem ld122 (H : Heap) (x o n : Nat) : ldA Tryz.prog H 122 (.pointer (some ⟨x, o, some n⟩)) = (getN H[x]? o n 2).bind fun cs => some (.agg cs) := ld_agg sz122 ag122 x o n
theorem st122 (H : Heap) (p x o n : Nat) (cs : List Value) (hx : cs.all oneC = true) (hl : cs.length = 2) : stA Tryz.prog H p 122 (.pointer (some ⟨x, o, some n⟩)) (.agg cs.toArray) = put H p x o n H[x]? cs := st_agg sz122 x o n cs.toArray hx hl
theorem sz131 : sz Tryz.prog 131 = some 0 := by kernel_rfl
theorem sz136 : sz Tryz.prog 136 = some 4 := by kernel_rfl
theorem ag136 : isAggD Tryz.prog 136 = true := by kernel_rfl
theorem ld136 (H : Heap) (x o n : Nat) : ldA Tryz.prog H 136 (.pointer (some ⟨x, o, some n⟩)) = (getN H[x]? o n 4).bind fun cs => some (.agg cs) := ld_agg sz136 ag136 x o n
theorem st136 (H : Heap) (p x o n : Nat) (cs : List Value) (hx : cs.all oneC = true) (hl : cs.length = 4) : stA Tryz.prog H p 136 (.pointer (some ⟨x, o, some n⟩)) (.agg cs.toArray) = put H p x o n H[x]? cs := st_agg sz136 x o n cs.toArray hx hl
theorem sz137 : sz Tryz.prog 137 = some 20 := by kernel_rfl
theorem ag137 : isAggD Tryz.prog 137 = true := by kernel_rfl
theorem ld137 (H : Heap) (x o n : Nat) : ldA Tryz.prog H 137 (.pointer (some ⟨x, o, some n⟩)) = (getN H[x]? o n 20).bind fun cs => some (.agg cs) := ld_agg sz137 ag137 x o n
theorem st137 (H : Heap) (p x o n : Nat) (cs : List Value) (hx : cs.all oneC = true) (hl : cs.length = 20) : stA Tryz.prog H p 137 (.pointer (some ⟨x, o, some n⟩)) (.agg cs.toArray) = put H p x o n H[x]? cs := st_agg sz137 x o n cs.toArray hx hl
theorem sz169 : sz Tryz.prog 169 = some 2 := by kernel_rfl
theorem ag169 : isAggD Tryz.prog 169 = true := by kernel_rfl
theorem ld169 (H : Heap) (x o n : Nat) : ldA Tryz.prog H 169 (.pointer (some ⟨x, o, some n⟩)) = (getN H[x]? o n 2).bind fun cs => some (.agg cs) := ld_agg sz169 ag169 x o n
theorem st169 (H : Heap) (p x o n : Nat) (cs : List Value) (hx : cs.all oneC = true) (hl : cs.length = 2) : stA Tryz.prog H p 169 (.pointer (some ⟨x, o, some n⟩)) (.agg cs.toArray) = put H p x o n H[x]? cs := st_agg sz169 x o n cs.toArray hx hl
theorem sz176 : sz Tryz.prog 176 = some 256 := by kernel_rfl
theorem ag176 : isAggD Tryz.prog 176 = true := by kernel_rfl
theorem ld176 (H : Heap) (x o n : Nat) : ldA Tryz.prog H 176 (.pointer (some ⟨x, o, some n⟩)) = (getN H[x]? o n 256).bind fun cs => some (.agg cs) := ld_agg sz176 ag176 x o n
theorem fa26_0 (x o n : Nat) : fieldA Tryz.prog 26 (.pointer (some ⟨x, o, some n⟩)) 0 = some (.pointer (some ⟨x, o + 0, some n⟩)) := by
  have h := fa_of (f := 0) (k := 0) Tryz.underlying26 rfl sz22 x o n
  exact h
theorem fd26_0 (cs : Array Value) : fldV Tryz.prog 26 (.agg cs) 0 = cs[0]? := by
  have h := fd_one (f := 0) Tryz.underlying26 rfl un22 ag22 cs
  exact h
theorem fa26_1 (x o n : Nat) : fieldA Tryz.prog 26 (.pointer (some ⟨x, o, some n⟩)) 1 = some (.pointer (some ⟨x, o + 1, some n⟩)) := by
  have h := fa_of (f := 1) (k := 0) Tryz.underlying26 rfl sz23 x o n
  exact h
theorem fa26_2 (x o n : Nat) : fieldA Tryz.prog 26 (.pointer (some ⟨x, o, some n⟩)) 2 = some (.pointer (some ⟨x, o + 2, some n⟩)) := by
  have h := fa_of (f := 2) (k := 0) Tryz.underlying26 rfl sz3 x o n
  exact h
theorem fa26_3 (x o n : Nat) : fieldA Tryz.prog 26 (.pointer (some ⟨x, o, some n⟩)) 3 = some (.pointer (some ⟨x, o + 3, some n⟩)) := by
  have h := fa_of (f := 3) (k := 0) Tryz.underlying26 rfl sz24 x o n
  exact h
theorem fa26_4 (x o n : Nat) : fieldA Tryz.prog 26 (.pointer (some ⟨x, o, some n⟩)) 4 = some (.pointer (some ⟨x, o + 4, some n⟩)) := by
  have h := fa_of (f := 4) (k := 0) Tryz.underlying26 rfl sz3 x o n
  exact h
theorem fa29_0 (x o n : Nat) : fieldA Tryz.prog 29 (.pointer (some ⟨x, o, some n⟩)) 0 = some (.pointer (some ⟨x, o + 0, some n⟩)) := by
  have h := fa_of (f := 0) (k := 0) Tryz.underlying29 rfl sz9 x o n
  exact h
theorem fa29_1 (x o n : Nat) : fieldA Tryz.prog 29 (.pointer (some ⟨x, o, some n⟩)) 1 = some (.pointer (some ⟨x, o + 1, some n⟩)) := by
  have h := fa_of (f := 1) (k := 0) Tryz.underlying29 rfl sz27 x o n
  exact h
theorem fa29_2 (x o n : Nat) : fieldA Tryz.prog 29 (.pointer (some ⟨x, o, some n⟩)) 2 = some (.pointer (some ⟨x, o + 2, some n⟩)) := by
  have h := fa_of (f := 2) (k := 0) Tryz.underlying29 rfl sz9 x o n
  exact h
theorem fa29_3 (x o n : Nat) : fieldA Tryz.prog 29 (.pointer (some ⟨x, o, some n⟩)) 3 = some (.pointer (some ⟨x, o + 3, some n⟩)) := by
  have h := fa_of (f := 3) (k := 0) Tryz.underlying29 rfl sz9 x o n
  exact h
theorem fa29_4 (x o n : Nat) : fieldA Tryz.prog 29 (.pointer (some ⟨x, o, some n⟩)) 4 = some (.pointer (some ⟨x, o + 4, some n⟩)) := by
  have h := fa_of (f := 4) (k := 0) Tryz.underlying29 rfl sz3 x o n
  exact h
theorem fa29_5 (x o n : Nat) : fieldA Tryz.prog 29 (.pointer (some ⟨x, o, some n⟩)) 5 = some (.pointer (some ⟨x, o + 5, some n⟩)) := by
  have h := fa_of (f := 5) (k := 0) Tryz.underlying29 rfl sz3 x o n
  exact h
theorem fa29_6 (x o n : Nat) : fieldA Tryz.prog 29 (.pointer (some ⟨x, o, some n⟩)) 6 = some (.pointer (some ⟨x, o + 6, some n⟩)) := by
  have h := fa_of (f := 6) (k := 0) Tryz.underlying29 rfl sz3 x o n
  exact h
theorem fa29_7 (x o n : Nat) : fieldA Tryz.prog 29 (.pointer (some ⟨x, o, some n⟩)) 7 = some (.pointer (some ⟨x, o + 7, some n⟩)) := by
  have h := fa_of (f := 7) (k := 0) Tryz.underlying29 rfl sz3 x o n
  exact h
theorem fa29_8 (x o n : Nat) : fieldA Tryz.prog 29 (.pointer (some ⟨x, o, some n⟩)) 8 = some (.pointer (some ⟨x, o + 8, some n⟩)) := by
  have h := fa_of (f := 8) (k := 0) Tryz.underlying29 rfl sz4 x o n
  exact h
theorem fa44_0 (x o n : Nat) : fieldA Tryz.prog 44 (.pointer (some ⟨x, o, some n⟩)) 0 = some (.pointer (some ⟨x, o + 0, some n⟩)) := by
  have h := fa_of (f := 0) (k := 0) Tryz.underlying44 rfl sz3 x o n
  exact h
theorem fa44_1 (x o n : Nat) : fieldA Tryz.prog 44 (.pointer (some ⟨x, o, some n⟩)) 1 = some (.pointer (some ⟨x, o + 1, some n⟩)) := by
  have h := fa_of (f := 1) (k := 0) Tryz.underlying44 rfl sz3 x o n
  exact h
theorem fa44_2 (x o n : Nat) : fieldA Tryz.prog 44 (.pointer (some ⟨x, o, some n⟩)) 2 = some (.pointer (some ⟨x, o + 2, some n⟩)) := by
  have h := fa_of (f := 2) (k := 0) Tryz.underlying44 rfl sz3 x o n
  exact h
theorem fa44_3 (x o n : Nat) : fieldA Tryz.prog 44 (.pointer (some ⟨x, o, some n⟩)) 3 = some (.pointer (some ⟨x, o + 3, some n⟩)) := by
  have h := fa_of (f := 3) (k := 0) Tryz.underlying44 rfl sz3 x o n
  exact h
theorem fa44_4 (x o n : Nat) : fieldA Tryz.prog 44 (.pointer (some ⟨x, o, some n⟩)) 4 = some (.pointer (some ⟨x, o + 4, some n⟩)) := by
  have h := fa_of (f := 4) (k := 0) Tryz.underlying44 rfl sz33 x o n
  exact h
theorem fa44_5 (x o n : Nat) : fieldA Tryz.prog 44 (.pointer (some ⟨x, o, some n⟩)) 5 = some (.pointer (some ⟨x, o + 5, some n⟩)) := by
  have h := fa_of (f := 5) (k := 0) Tryz.underlying44 rfl sz3 x o n
  exact h
theorem fa44_6 (x o n : Nat) : fieldA Tryz.prog 44 (.pointer (some ⟨x, o, some n⟩)) 6 = some (.pointer (some ⟨x, o + 6, some n⟩)) := by
  have h := fa_of (f := 6) (k := 0) Tryz.underlying44 rfl sz3 x o n
  exact h
theorem fa44_7 (x o n : Nat) : fieldA Tryz.prog 44 (.pointer (some ⟨x, o, some n⟩)) 7 = some (.pointer (some ⟨x, o + 7, some n⟩)) := by
  have h := fa_of (f := 7) (k := 0) Tryz.underlying44 rfl sz3 x o n
  exact h
theorem fa44_8 (x o n : Nat) : fieldA Tryz.prog 44 (.pointer (some ⟨x, o, some n⟩)) 8 = some (.pointer (some ⟨x, o + 8, some n⟩)) := by
  have h := fa_of (f := 8) (k := 0) Tryz.underlying44 rfl sz3 x o n
  exact h
theorem fa46_0 (x o n : Nat) : fieldA Tryz.prog 46 (.pointer (some ⟨x, o, some n⟩)) 0 = some (.pointer (some ⟨x, o + 0, some n⟩)) := by
  have h := fa_of (f := 0) (k := 0) Tryz.underlying46 rfl sz9 x o n
  exact h
theorem fa46_1 (x o n : Nat) : fieldA Tryz.prog 46 (.pointer (some ⟨x, o, some n⟩)) 1 = some (.pointer (some ⟨x, o + 1, some n⟩)) := by
  have h := fa_of (f := 1) (k := 0) Tryz.underlying46 rfl sz9 x o n
  exact h
theorem fa46_2 (x o n : Nat) : fieldA Tryz.prog 46 (.pointer (some ⟨x, o, some n⟩)) 2 = some (.pointer (some ⟨x, o + 2, some n⟩)) := by
  have h := fa_of (f := 2) (k := 0) Tryz.underlying46 rfl sz9 x o n
  exact h
theorem fa46_3 (x o n : Nat) : fieldA Tryz.prog 46 (.pointer (some ⟨x, o, some n⟩)) 3 = some (.pointer (some ⟨x, o + 3, some n⟩)) := by
  have h := fa_of (f := 3) (k := 0) Tryz.underlying46 rfl sz9 x o n
  exact h
theorem fa46_4 (x o n : Nat) : fieldA Tryz.prog 46 (.pointer (some ⟨x, o, some n⟩)) 4 = some (.pointer (some ⟨x, o + 4, some n⟩)) := by
  have h := fa_of (f := 4) (k := 0) Tryz.underlying46 rfl sz3 x o n
  exact h
theorem fa48_0 (x o n : Nat) : fieldA Tryz.prog 48 (.pointer (some ⟨x, o, some n⟩)) 0 = some (.pointer (some ⟨x, o + 0, some n⟩)) := by
  have h := fa_of (f := 0) (k := 0) Tryz.underlying48 rfl sz3 x o n
  exact h
theorem fa48_1 (x o n : Nat) : fieldA Tryz.prog 48 (.pointer (some ⟨x, o, some n⟩)) 1 = some (.pointer (some ⟨x, o + 1, some n⟩)) := by
  have h := fa_of (f := 1) (k := 0) Tryz.underlying48 rfl sz3 x o n
  exact h
theorem fa48_2 (x o n : Nat) : fieldA Tryz.prog 48 (.pointer (some ⟨x, o, some n⟩)) 2 = some (.pointer (some ⟨x, o + 2, some n⟩)) := by
  have h := fa_of (f := 2) (k := 4) Tryz.underlying48 rfl sz46 x o n
  exact h
theorem fa56_0 (x o n : Nat) : fieldA Tryz.prog 56 (.pointer (some ⟨x, o, some n⟩)) 0 = some (.pointer (some ⟨x, o + 0, some n⟩)) := by
  have h := fa_of (f := 0) (k := 0) Tryz.underlying56 rfl sz3 x o n
  exact h
theorem fa56_1 (x o n : Nat) : fieldA Tryz.prog 56 (.pointer (some ⟨x, o, some n⟩)) 1 = some (.pointer (some ⟨x, o + 1, some n⟩)) := by
  have h := fa_of (f := 1) (k := 0) Tryz.underlying56 rfl sz3 x o n
  exact h
theorem fa56_2 (x o n : Nat) : fieldA Tryz.prog 56 (.pointer (some ⟨x, o, some n⟩)) 2 = some (.pointer (some ⟨x, o + 2, some n⟩)) := by
  have h := fa_of (f := 2) (k := 0) Tryz.underlying56 rfl sz3 x o n
  exact h
theorem fa56_3 (x o n : Nat) : fieldA Tryz.prog 56 (.pointer (some ⟨x, o, some n⟩)) 3 = some (.pointer (some ⟨x, o + 3, some n⟩)) := by
  have h := fa_of (f := 3) (k := 0) Tryz.underlying56 rfl sz3 x o n
  exact h
theorem fa56_4 (x o n : Nat) : fieldA Tryz.prog 56 (.pointer (some ⟨x, o, some n⟩)) 4 = some (.pointer (some ⟨x, o + 4, some n⟩)) := by
  have h := fa_of (f := 4) (k := 0) Tryz.underlying56 rfl sz3 x o n
  exact h
theorem fa58_0 (x o n : Nat) : fieldA Tryz.prog 58 (.pointer (some ⟨x, o, some n⟩)) 0 = some (.pointer (some ⟨x, o + 0, some n⟩)) := by
  have h := fa_of (f := 0) (k := 0) Tryz.underlying58 rfl sz9 x o n
  exact h
theorem fa58_1 (x o n : Nat) : fieldA Tryz.prog 58 (.pointer (some ⟨x, o, some n⟩)) 1 = some (.pointer (some ⟨x, o + 1, some n⟩)) := by
  have h := fa_of (f := 1) (k := 0) Tryz.underlying58 rfl sz3 x o n
  exact h
theorem fa58_2 (x o n : Nat) : fieldA Tryz.prog 58 (.pointer (some ⟨x, o, some n⟩)) 2 = some (.pointer (some ⟨x, o + 2, some n⟩)) := by
  have h := fa_of (f := 2) (k := 0) Tryz.underlying58 rfl sz4 x o n
  exact h
theorem fa58_3 (x o n : Nat) : fieldA Tryz.prog 58 (.pointer (some ⟨x, o, some n⟩)) 3 = some (.pointer (some ⟨x, o + 3, some n⟩)) := by
  have h := fa_of (f := 3) (k := 0) Tryz.underlying58 rfl sz9 x o n
  exact h
theorem fa58_4 (x o n : Nat) : fieldA Tryz.prog 58 (.pointer (some ⟨x, o, some n⟩)) 4 = some (.pointer (some ⟨x, o + 4, some n⟩)) := by
  have h := fa_of (f := 4) (k := 0) Tryz.underlying58 rfl sz3 x o n
  exact h
theorem fa58_5 (x o n : Nat) : fieldA Tryz.prog 58 (.pointer (some ⟨x, o, some n⟩)) 5 = some (.pointer (some ⟨x, o + 5, some n⟩)) := by
  have h := fa_of (f := 5) (k := 4) Tryz.underlying58 rfl sz56 x o n
  exact h
theorem fa58_6 (x o n : Nat) : fieldA Tryz.prog 58 (.pointer (some ⟨x, o, some n⟩)) 6 = some (.pointer (some ⟨x, o + 10, some n⟩)) := by
  have h := fa_of (f := 6) (k := 4) Tryz.underlying58 rfl sz56 x o n
  exact h
theorem fa64_0 (x o n : Nat) : fieldA Tryz.prog 64 (.pointer (some ⟨x, o, some n⟩)) 0 = some (.pointer (some ⟨x, o + 0, some n⟩)) := by
  have h := fa_of (f := 0) (k := 4) Tryz.underlying64 rfl sz61 x o n
  exact h
theorem fa64_1 (x o n : Nat) : fieldA Tryz.prog 64 (.pointer (some ⟨x, o, some n⟩)) 1 = some (.pointer (some ⟨x, o + 5, some n⟩)) := by
  have h := fa_of (f := 1) (k := 4) Tryz.underlying64 rfl sz62 x o n
  exact h
theorem fa69_0 (x o n : Nat) : fieldA Tryz.prog 69 (.pointer (some ⟨x, o, some n⟩)) 0 = some (.pointer (some ⟨x, o + 0, some n⟩)) := by
  have h := fa_of (f := 0) (k := 0) Tryz.underlying69 rfl sz33 x o n
  exact h
theorem fa92_0 (x o n : Nat) : fieldA Tryz.prog 92 (.pointer (some ⟨x, o, some n⟩)) 0 = some (.pointer (some ⟨x, o + 0, some n⟩)) := by
  have h := fa_of (f := 0) (k := 0) Tryz.underlying92 rfl sz33 x o n
  exact h
theorem fa102_0 (x o n : Nat) : fieldA Tryz.prog 102 (.pointer (some ⟨x, o, some n⟩)) 0 = some (.pointer (some ⟨x, o + 0, some n⟩)) := by
  have h := fa_of (f := 0) (k := 0) Tryz.underlying102 rfl sz33 x o n
  exact h
theorem fa102_1 (x o n : Nat) : fieldA Tryz.prog 102 (.pointer (some ⟨x, o, some n⟩)) 1 = some (.pointer (some ⟨x, o + 1, some n⟩)) := by
  have h := fa_of (f := 1) (k := 0) Tryz.underlying102 rfl sz4 x o n
  exact h
theorem fa136_0 (x o n : Nat) : fieldA Tryz.prog 136 (.pointer (some ⟨x, o, some n⟩)) 0 = some (.pointer (some ⟨x, o + 0, some n⟩)) := by
  have h := fa_of (f := 0) (k := 0) Tryz.underlying136 rfl sz3 x o n
  exact h
theorem fa136_1 (x o n : Nat) : fieldA Tryz.prog 136 (.pointer (some ⟨x, o, some n⟩)) 1 = some (.pointer (some ⟨x, o + 1, some n⟩)) := by
  have h := fa_of (f := 1) (k := 0) Tryz.underlying136 rfl sz3 x o n
  exact h
theorem fa136_2 (x o n : Nat) : fieldA Tryz.prog 136 (.pointer (some ⟨x, o, some n⟩)) 2 = some (.pointer (some ⟨x, o + 2, some n⟩)) := by
  have h := fa_of (f := 2) (k := 0) Tryz.underlying136 rfl sz9 x o n
  exact h
theorem fa136_3 (x o n : Nat) : fieldA Tryz.prog 136 (.pointer (some ⟨x, o, some n⟩)) 3 = some (.pointer (some ⟨x, o + 3, some n⟩)) := by
  have h := fa_of (f := 3) (k := 0) Tryz.underlying136 rfl sz3 x o n
  exact h
theorem fa169_0 (x o n : Nat) : fieldA Tryz.prog 169 (.pointer (some ⟨x, o, some n⟩)) 0 = some (.pointer (some ⟨x, o + 0, some n⟩)) := by
  have h := fa_of (f := 0) (k := 0) Tryz.underlying169 rfl sz9 x o n
  exact h
theorem fa169_1 (x o n : Nat) : fieldA Tryz.prog 169 (.pointer (some ⟨x, o, some n⟩)) 1 = some (.pointer (some ⟨x, o + 1, some n⟩)) := by
  have h := fa_of (f := 1) (k := 0) Tryz.underlying169 rfl sz9 x o n
  exact h
theorem lw9 (H : Heap) (l : List UInt8) : lenW Tryz.prog 9 H (str l) = some (.int .i64 l.length) := lenW_str l Tryz.underlying9
theorem rg9 (H : Heap) (s : List UInt8) : rangeV Tryz.prog 9 (str s) H = some (.pointer (some ⟨H.length, 0, some 0⟩), H ++ [itB s 0]) := range_str Tryz.underlying9 s
theorem slb9 {l : List UInt8} {a b : Int} (h0 : 0 ≤ a) (h1 : a ≤ b) (h2 : b ≤ l.length) : sliceV Tryz.prog 9 (str l) (some (.int .i64 a)) (some (.int .i64 b)) none = some (str ((l.drop a.toNat).take (b.toNat - a.toNat))) := sl_str Tryz.underlying9 h0 h1 h2
theorem sll9 {l : List UInt8} {a : Int} (h0 : 0 ≤ a) (h1 : a ≤ l.length) : sliceV Tryz.prog 9 (str l) (some (.int .i64 a)) none none = some (str (l.drop a.toNat)) := sl_strLo Tryz.underlying9 h0 h1
theorem slh9 {l : List UInt8} {b : Int} (h0 : 0 ≤ b) (h1 : b ≤ l.length) : sliceV Tryz.prog 9 (str l) none (some (.int .i64 b)) none = some (str (l.take b.toNat)) := sl_strHi Tryz.underlying9 h0 h1
theorem ix9 {l : List UInt8} {n : Int} {b : UInt8} (h0 : 0 ≤ n) (h : l[n.toNat]? = some b) : idxV Tryz.prog 9 (str l) (.int .i64 n) = some (.int .u8 b.toNat) := idx_str Tryz.underlying9 h0 h
theorem zr3 : zer Tryz.prog 3 = some (.int .i64 0) := by kernel_rfl
theorem zr5 : zer Tryz.prog 5 = some (.int .u8 0) := by kernel_rfl
theorem zr9 : zer Tryz.prog 9 = some (.string ⟨#[]⟩) := by kernel_rfl
theorem zr26 : zer Tryz.prog 26 = some (.agg #[.slice none 0 0, .slice none 0 0, .int .i64 0, .slice none 0 0, .int .i64 0]) := by kernel_rfl
theorem al26 : allocC Tryz.prog 26 = some #[.slice none 0 0, .slice none 0 0, .int .i64 0, .slice none 0 0, .int .i64 0] := by kernel_rfl
theorem pl26 : placesV Tryz.prog 26 = some (plOf [(0, 1), (1, 1), (2, 1), (3, 1), (4, 1)]) := places_of Tryz.underlying26 (by kernel_rfl)
theorem bd26 (ps : List (Nat × Value)) (h : ps.all (fun p => (cellsV p.2).isSome) = true) : bldV Tryz.prog 26 ps.toArray = bldF (plOf [(0, 1), (1, 1), (2, 1), (3, 1), (4, 1)]) #[.slice none 0 0, .slice none 0 0, .int .i64 0, .slice none 0 0, .int .i64 0] ps := bld_struct zr26 pl26 ps h
theorem bn26 : bldV Tryz.prog 26 #[] = some (.agg #[.slice none 0 0, .slice none 0 0, .int .i64 0, .slice none 0 0, .int .i64 0]) := (bd26 [] rfl).trans rfl
theorem zr29 : zer Tryz.prog 29 = some (.agg #[.string ⟨#[]⟩, .slice none 0 0, .string ⟨#[]⟩, .string ⟨#[]⟩, .int .i64 0, .int .i64 0, .int .i64 0, .int .i64 0, .bool false]) := by kernel_rfl
theorem al29 : allocC Tryz.prog 29 = some #[.string ⟨#[]⟩, .slice none 0 0, .string ⟨#[]⟩, .string ⟨#[]⟩, .int .i64 0, .int .i64 0, .int .i64 0, .int .i64 0, .bool false] := by kernel_rfl
theorem pl29 : placesV Tryz.prog 29 = some (plOf [(0, 1), (1, 1), (2, 1), (3, 1), (4, 1), (5, 1), (6, 1), (7, 1), (8, 1)]) := places_of Tryz.underlying29 (by kernel_rfl)
theorem bd29 (ps : List (Nat × Value)) (h : ps.all (fun p => (cellsV p.2).isSome) = true) : bldV Tryz.prog 29 ps.toArray = bldF (plOf [(0, 1), (1, 1), (2, 1), (3, 1), (4, 1), (5, 1), (6, 1), (7, 1), (8, 1)]) #[.string ⟨#[]⟩, .slice none 0 0, .string ⟨#[]⟩, .string ⟨#[]⟩, .int .i64 0, .int .i64 0, .int .i64 0, .int .i64 0, .bool false] ps := bld_struct zr29 pl29 ps h
theorem al36 : allocC Tryz.prog 36 = some #[.int .i64 0] := by kernel_rfl
theorem zr44 : zer Tryz.prog 44 = some (.agg #[.int .i64 0, .int .i64 0, .int .i64 0, .int .i64 0, .slice none 0 0, .int .i64 0, .int .i64 0, .int .i64 0, .int .i64 0]) := by kernel_rfl
theorem al44 : allocC Tryz.prog 44 = some #[.int .i64 0, .int .i64 0, .int .i64 0, .int .i64 0, .slice none 0 0, .int .i64 0, .int .i64 0, .int .i64 0, .int .i64 0] := by kernel_rfl
theorem pl44 : placesV Tryz.prog 44 = some (plOf [(0, 1), (1, 1), (2, 1), (3, 1), (4, 1), (5, 1), (6, 1), (7, 1), (8, 1)]) := places_of Tryz.underlying44 (by kernel_rfl)
theorem bd44 (ps : List (Nat × Value)) (h : ps.all (fun p => (cellsV p.2).isSome) = true) : bldV Tryz.prog 44 ps.toArray = bldF (plOf [(0, 1), (1, 1), (2, 1), (3, 1), (4, 1), (5, 1), (6, 1), (7, 1), (8, 1)]) #[.int .i64 0, .int .i64 0, .int .i64 0, .int .i64 0, .slice none 0 0, .int .i64 0, .int .i64 0, .int .i64 0, .int .i64 0] ps := bld_struct zr44 pl44 ps h
theorem bn44 : bldV Tryz.prog 44 #[] = some (.agg #[.int .i64 0, .int .i64 0, .int .i64 0, .int .i64 0, .slice none 0 0, .int .i64 0, .int .i64 0, .int .i64 0, .int .i64 0]) := (bd44 [] rfl).trans rfl
theorem zr46 : zer Tryz.prog 46 = some (.agg #[.string ⟨#[]⟩, .string ⟨#[]⟩, .string ⟨#[]⟩, .string ⟨#[]⟩, .int .i64 0]) := by kernel_rfl
theorem pl46 : placesV Tryz.prog 46 = some (plOf [(0, 1), (1, 1), (2, 1), (3, 1), (4, 1)]) := places_of Tryz.underlying46 (by kernel_rfl)
theorem bd46 (ps : List (Nat × Value)) (h : ps.all (fun p => (cellsV p.2).isSome) = true) : bldV Tryz.prog 46 ps.toArray = bldF (plOf [(0, 1), (1, 1), (2, 1), (3, 1), (4, 1)]) #[.string ⟨#[]⟩, .string ⟨#[]⟩, .string ⟨#[]⟩, .string ⟨#[]⟩, .int .i64 0] ps := bld_struct zr46 pl46 ps h
theorem zr48 : zer Tryz.prog 48 = some (.agg #[.int .i64 0, .int .i64 0, .string ⟨#[]⟩, .string ⟨#[]⟩, .string ⟨#[]⟩, .string ⟨#[]⟩, .int .i64 0]) := by kernel_rfl
theorem al48 : allocC Tryz.prog 48 = some #[.int .i64 0, .int .i64 0, .string ⟨#[]⟩, .string ⟨#[]⟩, .string ⟨#[]⟩, .string ⟨#[]⟩, .int .i64 0] := by kernel_rfl
theorem pl48 : placesV Tryz.prog 48 = some (plOf [(0, 1), (1, 1), (2, 5)]) := places_of Tryz.underlying48 (by kernel_rfl)
theorem bd48 (ps : List (Nat × Value)) (h : ps.all (fun p => (cellsV p.2).isSome) = true) : bldV Tryz.prog 48 ps.toArray = bldF (plOf [(0, 1), (1, 1), (2, 5)]) #[.int .i64 0, .int .i64 0, .string ⟨#[]⟩, .string ⟨#[]⟩, .string ⟨#[]⟩, .string ⟨#[]⟩, .int .i64 0] ps := bld_struct zr48 pl48 ps h
theorem bn48 : bldV Tryz.prog 48 #[] = some (.agg #[.int .i64 0, .int .i64 0, .string ⟨#[]⟩, .string ⟨#[]⟩, .string ⟨#[]⟩, .string ⟨#[]⟩, .int .i64 0]) := (bd48 [] rfl).trans rfl
theorem zr56 : zer Tryz.prog 56 = some (.agg #[.int .i64 0, .int .i64 0, .int .i64 0, .int .i64 0, .int .i64 0]) := by kernel_rfl
theorem al56 : allocC Tryz.prog 56 = some #[.int .i64 0, .int .i64 0, .int .i64 0, .int .i64 0, .int .i64 0] := by kernel_rfl
theorem pl56 : placesV Tryz.prog 56 = some (plOf [(0, 1), (1, 1), (2, 1), (3, 1), (4, 1)]) := places_of Tryz.underlying56 (by kernel_rfl)
theorem bd56 (ps : List (Nat × Value)) (h : ps.all (fun p => (cellsV p.2).isSome) = true) : bldV Tryz.prog 56 ps.toArray = bldF (plOf [(0, 1), (1, 1), (2, 1), (3, 1), (4, 1)]) #[.int .i64 0, .int .i64 0, .int .i64 0, .int .i64 0, .int .i64 0] ps := bld_struct zr56 pl56 ps h
theorem zr58 : zer Tryz.prog 58 = some (.agg #[.string ⟨#[]⟩, .int .i64 0, .bool false, .string ⟨#[]⟩, .int .i64 0, .int .i64 0, .int .i64 0, .int .i64 0, .int .i64 0, .int .i64 0, .int .i64 0, .int .i64 0, .int .i64 0, .int .i64 0, .int .i64 0]) := by kernel_rfl
theorem al58 : allocC Tryz.prog 58 = some #[.string ⟨#[]⟩, .int .i64 0, .bool false, .string ⟨#[]⟩, .int .i64 0, .int .i64 0, .int .i64 0, .int .i64 0, .int .i64 0, .int .i64 0, .int .i64 0, .int .i64 0, .int .i64 0, .int .i64 0, .int .i64 0] := by kernel_rfl
theorem pl58 : placesV Tryz.prog 58 = some (plOf [(0, 1), (1, 1), (2, 1), (3, 1), (4, 1), (5, 5), (10, 5)]) := places_of Tryz.underlying58 (by kernel_rfl)
theorem bd58 (ps : List (Nat × Value)) (h : ps.all (fun p => (cellsV p.2).isSome) = true) : bldV Tryz.prog 58 ps.toArray = bldF (plOf [(0, 1), (1, 1), (2, 1), (3, 1), (4, 1), (5, 5), (10, 5)]) #[.string ⟨#[]⟩, .int .i64 0, .bool false, .string ⟨#[]⟩, .int .i64 0, .int .i64 0, .int .i64 0, .int .i64 0, .int .i64 0, .int .i64 0, .int .i64 0, .int .i64 0, .int .i64 0, .int .i64 0, .int .i64 0] ps := bld_struct zr58 pl58 ps h
theorem bn58 : bldV Tryz.prog 58 #[] = some (.agg #[.string ⟨#[]⟩, .int .i64 0, .bool false, .string ⟨#[]⟩, .int .i64 0, .int .i64 0, .int .i64 0, .int .i64 0, .int .i64 0, .int .i64 0, .int .i64 0, .int .i64 0, .int .i64 0, .int .i64 0, .int .i64 0]) := (bd58 [] rfl).trans rfl
theorem zr64 : zer Tryz.prog 64 = some (.agg #[.slice none 0 0, .slice none 0 0, .slice none 0 0, .slice none 0 0, .slice none 0 0, .bool false, .bool false, .bool false, .bool false, .bool false]) := by kernel_rfl
theorem al64 : allocC Tryz.prog 64 = some #[.slice none 0 0, .slice none 0 0, .slice none 0 0, .slice none 0 0, .slice none 0 0, .bool false, .bool false, .bool false, .bool false, .bool false] := by kernel_rfl
theorem pl64 : placesV Tryz.prog 64 = some (plOf [(0, 5), (5, 5)]) := places_of Tryz.underlying64 (by kernel_rfl)
theorem bd64 (ps : List (Nat × Value)) (h : ps.all (fun p => (cellsV p.2).isSome) = true) : bldV Tryz.prog 64 ps.toArray = bldF (plOf [(0, 5), (5, 5)]) #[.slice none 0 0, .slice none 0 0, .slice none 0 0, .slice none 0 0, .slice none 0 0, .bool false, .bool false, .bool false, .bool false, .bool false] ps := bld_struct zr64 pl64 ps h
theorem bn64 : bldV Tryz.prog 64 #[] = some (.agg #[.slice none 0 0, .slice none 0 0, .slice none 0 0, .slice none 0 0, .slice none 0 0, .bool false, .bool false, .bool false, .bool false, .bool false]) := (bd64 [] rfl).trans rfl
theorem zr69 : zer Tryz.prog 69 = some (.agg #[.slice none 0 0]) := by kernel_rfl
theorem pl69 : placesV Tryz.prog 69 = some (plOf [(0, 1)]) := places_of Tryz.underlying69 (by kernel_rfl)
theorem bd69 (ps : List (Nat × Value)) (h : ps.all (fun p => (cellsV p.2).isSome) = true) : bldV Tryz.prog 69 ps.toArray = bldF (plOf [(0, 1)]) #[.slice none 0 0] ps := bld_struct zr69 pl69 ps h
theorem bn69 : bldV Tryz.prog 69 #[] = some (.agg #[.slice none 0 0]) := (bd69 [] rfl).trans rfl
theorem zr84 : zer Tryz.prog 84 = some (.agg #[.int .i64 0, .int .i64 0, .string ⟨#[]⟩, .string ⟨#[]⟩, .string ⟨#[]⟩, .slice none 0 0]) := by kernel_rfl
theorem al84 : allocC Tryz.prog 84 = some #[.int .i64 0, .int .i64 0, .string ⟨#[]⟩, .string ⟨#[]⟩, .string ⟨#[]⟩, .slice none 0 0] := by kernel_rfl
theorem pl84 : placesV Tryz.prog 84 = some (plOf [(0, 1), (1, 1), (2, 1), (3, 1), (4, 1), (5, 1)]) := places_of Tryz.underlying84 (by kernel_rfl)
theorem bd84 (ps : List (Nat × Value)) (h : ps.all (fun p => (cellsV p.2).isSome) = true) : bldV Tryz.prog 84 ps.toArray = bldF (plOf [(0, 1), (1, 1), (2, 1), (3, 1), (4, 1), (5, 1)]) #[.int .i64 0, .int .i64 0, .string ⟨#[]⟩, .string ⟨#[]⟩, .string ⟨#[]⟩, .slice none 0 0] ps := bld_struct zr84 pl84 ps h
theorem bn84 : bldV Tryz.prog 84 #[] = some (.agg #[.int .i64 0, .int .i64 0, .string ⟨#[]⟩, .string ⟨#[]⟩, .string ⟨#[]⟩, .slice none 0 0]) := (bd84 [] rfl).trans rfl
theorem zr89 : zer Tryz.prog 89 = some (.agg #[]) := by kernel_rfl
theorem al89 : allocC Tryz.prog 89 = some #[] := by kernel_rfl
theorem pl89 : placesV Tryz.prog 89 = some (plOf []) := places_of Tryz.underlying89 (by kernel_rfl)
theorem bd89 (ps : List (Nat × Value)) (h : ps.all (fun p => (cellsV p.2).isSome) = true) : bldV Tryz.prog 89 ps.toArray = bldF (plOf []) #[] ps := bld_struct zr89 pl89 ps h
theorem bn89 : bldV Tryz.prog 89 #[] = some (.agg #[]) := (bd89 [] rfl).trans rfl
theorem zr92 : zer Tryz.prog 92 = some (.agg #[.slice none 0 0]) := by kernel_rfl
theorem pl92 : placesV Tryz.prog 92 = some (plOf [(0, 1)]) := places_of Tryz.underlying92 (by kernel_rfl)
theorem bd92 (ps : List (Nat × Value)) (h : ps.all (fun p => (cellsV p.2).isSome) = true) : bldV Tryz.prog 92 ps.toArray = bldF (plOf [(0, 1)]) #[.slice none 0 0] ps := bld_struct zr92 pl92 ps h
theorem zr102 : zer Tryz.prog 102 = some (.agg #[.slice none 0 0, .bool false]) := by kernel_rfl
theorem pl102 : placesV Tryz.prog 102 = some (plOf [(0, 1), (1, 1)]) := places_of Tryz.underlying102 (by kernel_rfl)
theorem bd102 (ps : List (Nat × Value)) (h : ps.all (fun p => (cellsV p.2).isSome) = true) : bldV Tryz.prog 102 ps.toArray = bldF (plOf [(0, 1), (1, 1)]) #[.slice none 0 0, .bool false] ps := bld_struct zr102 pl102 ps h
theorem zr122 : zer Tryz.prog 122 = some (.agg #[.int .i64 0, .string ⟨#[]⟩]) := by kernel_rfl
theorem al122 : allocC Tryz.prog 122 = some #[.int .i64 0, .string ⟨#[]⟩] := by kernel_rfl
theorem pl122 : placesV Tryz.prog 122 = some (plOf [(0, 1), (1, 1)]) := places_of Tryz.underlying122 (by kernel_rfl)
theorem bd122 (ps : List (Nat × Value)) (h : ps.all (fun p => (cellsV p.2).isSome) = true) : bldV Tryz.prog 122 ps.toArray = bldF (plOf [(0, 1), (1, 1)]) #[.int .i64 0, .string ⟨#[]⟩] ps := bld_struct zr122 pl122 ps h
theorem zr131 : zer Tryz.prog 131 = some (.agg #[]) := by kernel_rfl
theorem al131 : allocC Tryz.prog 131 = some #[] := by kernel_rfl
theorem pl131 : placesV Tryz.prog 131 = some (plOf []) := places_of Tryz.underlying131 (by kernel_rfl)
theorem bd131 (ps : List (Nat × Value)) (h : ps.all (fun p => (cellsV p.2).isSome) = true) : bldV Tryz.prog 131 ps.toArray = bldF (plOf []) #[] ps := bld_struct zr131 pl131 ps h
theorem bn131 : bldV Tryz.prog 131 #[] = some (.agg #[]) := (bd131 [] rfl).trans rfl
theorem zr136 : zer Tryz.prog 136 = some (.agg #[.int .i64 0, .int .i64 0, .string ⟨#[]⟩, .int .i64 0]) := by kernel_rfl
theorem al136 : allocC Tryz.prog 136 = some #[.int .i64 0, .int .i64 0, .string ⟨#[]⟩, .int .i64 0] := by kernel_rfl
theorem pl136 : placesV Tryz.prog 136 = some (plOf [(0, 1), (1, 1), (2, 1), (3, 1)]) := places_of Tryz.underlying136 (by kernel_rfl)
theorem bd136 (ps : List (Nat × Value)) (h : ps.all (fun p => (cellsV p.2).isSome) = true) : bldV Tryz.prog 136 ps.toArray = bldF (plOf [(0, 1), (1, 1), (2, 1), (3, 1)]) #[.int .i64 0, .int .i64 0, .string ⟨#[]⟩, .int .i64 0] ps := bld_struct zr136 pl136 ps h
theorem al137 : allocC Tryz.prog 137 = some #[.int .i64 0, .int .i64 0, .string ⟨#[]⟩, .int .i64 0, .int .i64 0, .int .i64 0, .string ⟨#[]⟩, .int .i64 0, .int .i64 0, .int .i64 0, .string ⟨#[]⟩, .int .i64 0, .int .i64 0, .int .i64 0, .string ⟨#[]⟩, .int .i64 0, .int .i64 0, .int .i64 0, .string ⟨#[]⟩, .int .i64 0] := by kernel_rfl
theorem zr169 : zer Tryz.prog 169 = some (.agg #[.string ⟨#[]⟩, .string ⟨#[]⟩]) := by kernel_rfl
theorem al169 : allocC Tryz.prog 169 = some #[.string ⟨#[]⟩, .string ⟨#[]⟩] := by kernel_rfl
theorem pl169 : placesV Tryz.prog 169 = some (plOf [(0, 1), (1, 1)]) := places_of Tryz.underlying169 (by kernel_rfl)
theorem bd169 (ps : List (Nat × Value)) (h : ps.all (fun p => (cellsV p.2).isSome) = true) : bldV Tryz.prog 169 ps.toArray = bldF (plOf [(0, 1), (1, 1)]) #[.string ⟨#[]⟩, .string ⟨#[]⟩] ps := bld_struct zr169 pl169 ps h
theorem bn169 : bldV Tryz.prog 169 #[] = some (.agg #[.string ⟨#[]⟩, .string ⟨#[]⟩]) := (bd169 [] rfl).trans rfl
theorem sn22 (H : Heap) (q : Q) (len s : Nat) (h : okq q len) : lenW Tryz.prog 22 H (slv q len s) = some (.int .i64 len) := len_slv Tryz.underlying22 h
theorem si22 (q : Q) (len : Nat) (j : Int) (h : okq q len) (hh : 0 ≤ j ∧ j < len) : idxA Tryz.prog 22 (slv q len 9) (.int .i64 j) = some (ptq q (j.toNat * 9)) := ia_slv Tryz.underlying22 sz29 h hh
theorem ap22 : appT Tryz.prog 22 = true := by kernel_rfl
theorem ei22 : elemI Tryz.prog 29 = some (9, 112) := by kernel_rfl
theorem fl22_1 (cs : List Value) (h1 : cs.all oneC = true) (hl : cs.length = 9) : fillW Tryz.prog 22 1 [(0, .agg cs.toArray)] = some (29, 9, cs.toArray) := fill_one (s := 8) (cs := cs) Tryz.underlying22 sz29 zr29 (zs := #[.string ⟨#[]⟩, .slice none 0 0, .string ⟨#[]⟩, .string ⟨#[]⟩, .int .i64 0, .int .i64 0, .int .i64 0, .int .i64 0, .bool false]) (by rfl) rfl (by decide) (cells_agg h1) hl h1
theorem sn23 (H : Heap) (q : Q) (len s : Nat) (h : okq q len) : lenW Tryz.prog 23 H (slv q len s) = some (.int .i64 len) := len_slv Tryz.underlying23 h
theorem si23 (q : Q) (len : Nat) (j : Int) (h : okq q len) (hh : 0 ≤ j ∧ j < len) : idxA Tryz.prog 23 (slv q len 7) (.int .i64 j) = some (ptq q (j.toNat * 7)) := ia_slv Tryz.underlying23 sz48 h hh
theorem ap23 : appT Tryz.prog 23 = true := by kernel_rfl
theorem ei23 : elemI Tryz.prog 48 = some (7, 88) := by kernel_rfl
theorem fl23_1 (cs : List Value) (h1 : cs.all oneC = true) (hl : cs.length = 7) : fillW Tryz.prog 23 1 [(0, .agg cs.toArray)] = some (48, 7, cs.toArray) := fill_one (s := 6) (cs := cs) Tryz.underlying23 sz48 zr48 (zs := #[.int .i64 0, .int .i64 0, .string ⟨#[]⟩, .string ⟨#[]⟩, .string ⟨#[]⟩, .string ⟨#[]⟩, .int .i64 0]) (by rfl) rfl (by decide) (cells_agg h1) hl h1
theorem sn24 (H : Heap) (q : Q) (len s : Nat) (h : okq q len) : lenW Tryz.prog 24 H (slv q len s) = some (.int .i64 len) := len_slv Tryz.underlying24 h
theorem si24 (q : Q) (len : Nat) (j : Int) (h : okq q len) (hh : 0 ≤ j ∧ j < len) : idxA Tryz.prog 24 (slv q len 9) (.int .i64 j) = some (ptq q (j.toNat * 9)) := ia_slv Tryz.underlying24 sz44 h hh
theorem ap24 : appT Tryz.prog 24 = true := by kernel_rfl
theorem ei24 : elemI Tryz.prog 44 = some (9, 88) := by kernel_rfl
theorem fl24_1 (cs : List Value) (h1 : cs.all oneC = true) (hl : cs.length = 9) : fillW Tryz.prog 24 1 [(0, .agg cs.toArray)] = some (44, 9, cs.toArray) := fill_one (s := 8) (cs := cs) Tryz.underlying24 sz44 zr44 (zs := #[.int .i64 0, .int .i64 0, .int .i64 0, .int .i64 0, .slice none 0 0, .int .i64 0, .int .i64 0, .int .i64 0, .int .i64 0]) (by rfl) rfl (by decide) (cells_agg h1) hl h1
theorem sn27 (H : Heap) (q : Q) (len s : Nat) (h : okq q len) : lenW Tryz.prog 27 H (slv q len s) = some (.int .i64 len) := len_slv Tryz.underlying27 h
theorem si27 (q : Q) (len : Nat) (j : Int) (h : okq q len) (hh : 0 ≤ j ∧ j < len) : idxA Tryz.prog 27 (slv q len 1) (.int .i64 j) = some (ptq q (j.toNat * 1)) := ia_slv Tryz.underlying27 sz3 h hh
theorem ap27 : appT Tryz.prog 27 = true := by kernel_rfl
theorem ei27 : elemI Tryz.prog 3 = some (1, 8) := by kernel_rfl
theorem fl27_1 (a : Value) (h : oneC a = true) : fillW Tryz.prog 27 1 [(0, a)] = some (3, 1, #[a]) := fill_1 Tryz.underlying27 sz3 zr3 rfl h
theorem fl27_2 (a b : Value) (h : oneC a = true ∧ oneC b = true) : fillW Tryz.prog 27 2 [(0, a), (1, b)] = some (3, 1, #[a, b]) := fill_2 Tryz.underlying27 sz3 zr3 rfl h
theorem fl27_4 (a b c d : Value) (h : oneC a = true ∧ oneC b = true ∧ oneC c = true ∧ oneC d = true) : fillW Tryz.prog 27 4 [(0, a), (1, b), (2, c), (3, d)] = some (3, 1, #[a, b, c, d]) := fill_4 Tryz.underlying27 sz3 zr3 rfl h
theorem sn33 (H : Heap) (q : Q) (len s : Nat) (h : okq q len) : lenW Tryz.prog 33 H (slv q len s) = some (.int .i64 len) := len_slv Tryz.underlying33 h
theorem sh33 (q : Q) (len : Nat) (hi : Int) (h : okq q len) (hh : 0 ≤ hi ∧ hi ≤ len) : sliceV Tryz.prog 33 (slv q len 1) none (some (.int .i64 hi)) none = some (slv q hi.toNat 1) := slh_slv Tryz.underlying33 sz5 h hh
theorem so33 (q : Q) (len : Nat) (lo : Int) (h : okq q len) (hh : 0 ≤ lo ∧ lo ≤ len) : sliceV Tryz.prog 33 (slv q len 1) (some (.int .i64 lo)) none none = some (slv (shq q (lo.toNat * 1)) (len - lo.toNat) 1) := sll_slv Tryz.underlying33 sz5 h hh
theorem si33 (q : Q) (len : Nat) (j : Int) (h : okq q len) (hh : 0 ≤ j ∧ j < len) : idxA Tryz.prog 33 (slv q len 1) (.int .i64 j) = some (ptq q (j.toNat * 1)) := ia_slv Tryz.underlying33 sz5 h hh
theorem ap33 : appT Tryz.prog 33 = true := by kernel_rfl
theorem sne33 (H : Heap) (a : Addr) (n : Nat) : lenW Tryz.prog 33 H (.slice (some a) n 1) = some (.int .i64 n) := len_sl Tryz.underlying33 a n
theorem sie33 (x o n len : Nat) (j : Int) (hh : 0 ≤ j ∧ j < len) : idxA Tryz.prog 33 (.slice (some ⟨x, o, some n⟩) len 1) (.int .i64 j) = some (.pointer (some ⟨x, o + j.toNat * 1, some n⟩)) := ia_sl Tryz.underlying33 sz5 x o n len j hh
theorem ei33 : elemI Tryz.prog 5 = some (1, 1) := by kernel_rfl
theorem fl33_1 (a : Value) (h : oneC a = true) : fillW Tryz.prog 33 1 [(0, a)] = some (5, 1, #[a]) := fill_1 Tryz.underlying33 sz5 zr5 rfl h
theorem fl33_2 (a b : Value) (h : oneC a = true ∧ oneC b = true) : fillW Tryz.prog 33 2 [(0, a), (1, b)] = some (5, 1, #[a, b]) := fill_2 Tryz.underlying33 sz5 zr5 rfl h
theorem fl33_3 (a b c : Value) (h : oneC a = true ∧ oneC b = true ∧ oneC c = true) : fillW Tryz.prog 33 3 [(0, a), (1, b), (2, c)] = some (5, 1, #[a, b, c]) := fill_3 Tryz.underlying33 sz5 zr5 rfl h
theorem sn113 (H : Heap) (q : Q) (len s : Nat) (h : okq q len) : lenW Tryz.prog 113 H (slv q len s) = some (.int .i64 len) := len_slv Tryz.underlying113 h
theorem si113 (q : Q) (len : Nat) (j : Int) (h : okq q len) (hh : 0 ≤ j ∧ j < len) : idxA Tryz.prog 113 (slv q len 1) (.int .i64 j) = some (ptq q (j.toNat * 1)) := ia_slv Tryz.underlying113 sz9 h hh
theorem ap113 : appT Tryz.prog 113 = true := by kernel_rfl
theorem sne113 (H : Heap) (a : Addr) (n : Nat) : lenW Tryz.prog 113 H (.slice (some a) n 1) = some (.int .i64 n) := len_sl Tryz.underlying113 a n
theorem sie113 (x o n len : Nat) (j : Int) (hh : 0 ≤ j ∧ j < len) : idxA Tryz.prog 113 (.slice (some ⟨x, o, some n⟩) len 1) (.int .i64 j) = some (.pointer (some ⟨x, o + j.toNat * 1, some n⟩)) := ia_sl Tryz.underlying113 sz9 x o n len j hh
theorem ei113 : elemI Tryz.prog 9 = some (1, 16) := by kernel_rfl
theorem fl113_1 (a : Value) (h : oneC a = true) : fillW Tryz.prog 113 1 [(0, a)] = some (9, 1, #[a]) := fill_1 Tryz.underlying113 sz9 zr9 rfl h
theorem fl113_2 (a b : Value) (h : oneC a = true ∧ oneC b = true) : fillW Tryz.prog 113 2 [(0, a), (1, b)] = some (9, 1, #[a, b]) := fill_2 Tryz.underlying113 sz9 zr9 rfl h
theorem fl113_4 (a b c d : Value) (h : oneC a = true ∧ oneC b = true ∧ oneC c = true ∧ oneC d = true) : fillW Tryz.prog 113 4 [(0, a), (1, b), (2, c), (3, d)] = some (9, 1, #[a, b, c, d]) := fill_4 Tryz.underlying113 sz9 zr9 rfl h
theorem sne163 (H : Heap) (a : Addr) (n : Nat) : lenW Tryz.prog 163 H (.slice (some a) n 1) = some (.int .i64 n) := len_sl Tryz.underlying163 a n
theorem sie163 (x o n len : Nat) (j : Int) (hh : 0 ≤ j ∧ j < len) : idxA Tryz.prog 163 (.slice (some ⟨x, o, some n⟩) len 1) (.int .i64 j) = some (.pointer (some ⟨x, o + j.toNat * 1, some n⟩)) := ia_sl Tryz.underlying163 sz4 x o n len j hh
theorem sne187 (H : Heap) (a : Addr) (n : Nat) : lenW Tryz.prog 187 H (.slice (some a) n 2) = some (.int .i64 n) := len_sl Tryz.underlying187 a n
theorem sie187 (x o n len : Nat) (j : Int) (hh : 0 ≤ j ∧ j < len) : idxA Tryz.prog 187 (.slice (some ⟨x, o, some n⟩) len 2) (.int .i64 j) = some (.pointer (some ⟨x, o + j.toNat * 2, some n⟩)) := ia_sl Tryz.underlying187 sz169 x o n len j hh
theorem cv33_9 {p : Nat} (H : Heap) (q : Q) (b : List UInt8) (n : Nat) (hn : n = b.length) (h : CAt H q (u8s b)) : cvS Tryz.prog p 33 9 (slv q n 1) H = some (str b, H) := by
  subst hn
  rw [cvS_ne (by decide)]
  exact conv_slv Tryz.underlying33 Tryz.underlying5 Tryz.underlying9 h
theorem cs9_33 {p : Nat} (H : Heap) (b : List UInt8) : cvS Tryz.prog p 9 33 (str b) H = some (slv (some (H.length, 0, b.length)) b.length 1, H ++ [cel 5 (u8s b).toArray]) := (cvS_ne (by decide)).trans <| conv_str Tryz.underlying9 Tryz.underlying33 Tryz.underlying5
attribute [go_sem] ld3 st3 ld4 st4 ld5 st5 ld9 st9
attribute [go_sem] ld22 st22 ld23 st23 ld24 st24 ld26 st26 ld27 st27 ld29 st29
attribute [go_sem] ld33 st33 ld36 st36
attribute [go_sem] ld44 st44 ld46 ld48 st48
attribute [go_sem] ld56 ld58
attribute [go_sem] ld64 st64
attribute [go_sem] ld84 st84
attribute [go_sem] ld122 st122
attribute [go_sem] ld136 st136 ld137 st137
attribute [go_sem] ld169 st169 ld176
attribute [go_sem] fa26_0 fd26_0 fa26_1 fa26_2 fa26_3 fa26_4
attribute [go_sem] fa29_0 fa29_1 fa29_2
attribute [go_sem] fa29_3 fa29_4 fa29_5 fa29_6 fa29_7 fa29_8
attribute [go_sem] fa44_0 fa44_1 fa44_2 fa44_3 fa44_4
attribute [go_sem] fa44_5 fa44_6 fa44_7 fa44_8 fa46_0
attribute [go_sem] fa46_1 fa46_2 fa46_3 fa46_4 fa48_0 fa48_1 fa48_2
attribute [go_sem] fa56_0 fa56_1 fa56_2 fa56_3 fa56_4
attribute [go_sem] fa58_0 fa58_1 fa58_2
attribute [go_sem] fa58_3 fa58_4 fa58_5 fa58_6 fa64_0 fa64_1 fa69_0
attribute [go_sem] fa92_0 fa102_0 fa102_1
attribute [go_sem] fa136_0 fa136_1 fa136_2 fa136_3 fa169_0 fa169_1
attribute [go_sem] rg9 lw9 slb9 sll9 slh9 ix9
attribute [go_sem] al26 bd26 bn26 al29 bd29
attribute [go_sem] al36 al44 bd44 bn44
attribute [go_sem] bd46 al48 bd48 bn48 al56 bd56
attribute [go_sem] al58 bd58 bn58 al64 bd64 bn64
attribute [go_sem] bd69 bn69
attribute [go_sem] al84 bd84 bn84 al89 bd89 bn89 bd92
attribute [go_sem] bd102
attribute [go_sem] al122 bd122
attribute [go_sem] al131 bd131 bn131 al136 bd136 al137
attribute [go_sem] al169 bd169 bn169
attribute [go_sem] sn22 si22 fl22_1 sn23 si23 fl23_1 sn24
attribute [go_sem] si24 fl24_1 sn27 si27 fl27_1 fl27_2 fl27_4 sn33 sh33 so33 si33 sne33 sie33
attribute [go_sem] fl33_1 fl33_2 fl33_3 sn113 si113 sne113 sie113 fl113_1 fl113_2 fl113_4 sne163 sie163
attribute [go_sem] sne187 sie187 cs9_33
end Go.AM.Z

namespace Go.AM.Z
open Go Go.AM Go.Proofs
set_option maxRecDepth 100000
def isIn (f : Nat) : List Nat → Bool
  | [] => false
  | x :: xs => cond (Nat.beq f x) true (isIn f xs)
def pures : List Nat := [9, 22, 25, 26, 38, 43, 58, 64, 67, 68, 71, 73, 74, 76, 77, 78, 79, 80, 84, 91, 93, 95, 96, 97, 98, 99, 100, 101, 104, 106, 107, 108, 109, 110, 111, 112, 114, 115, 116, 117, 120, 121, 122, 123, 124, 125, 126, 127, 128, 129, 130, 131, 132, 133, 137, 139, 140, 141, 142, 143, 144, 148, 149, 150, 151, 153, 154, 156, 160, 162, 163, 164, 166, 167, 171, 175, 182, 183, 194, 195]
def quiets : List Nat := [3, 4, 5, 6, 7, 8, 10, 11, 12, 13, 14, 15, 16, 18, 19, 20, 21, 23, 24, 27, 35, 36, 37, 39, 40, 41, 42, 57, 59, 62, 65, 66, 69, 72, 75, 82, 83, 85, 103, 112, 118, 145, 161, 210, 211]
def louds : List Nat := [28, 29, 30, 31, 32, 33, 34, 45, 46, 47, 48, 49, 50, 51, 52, 53, 54, 55, 56, 60, 61, 63, 70, 81, 86, 87, 88, 89, 90, 92, 94, 119]
def defers : List Nat := [17, 44]
def exts : List Nat := [102, 105, 113, 138, 152, 155, 158, 159, 165, 173, 202]
def lates : List Nat := [9045, 9023]
def cl : FuncId → Nat := fun f => cond (Nat.ble 2000000 f) (cond (isIn (f - 2000000) lates) 9 0) (cond (Nat.ble 1000000 f) (cond (isIn (f - 1000000) pures) 1 0) (cond (isIn f pures || isIn f quiets || isIn f exts) 1 (cond (isIn f louds) 3 (cond (isIn f defers) 5 0))))
def letterI (c : Int) : Bool := (decide (65 ≤ c) && decide (c ≤ 90)) || (decide (97 ≤ c) && decide (c ≤ 122))
def atoiV (l : List UInt8) : Int := match Lib.atoiAll l with
  | .ok v => v
  | .range => Lib.atoiSat l
  | _ => 0
def errV (l : List UInt8) : Value := match Lib.atoiAll l with
  | .ok _ => .nilIface
  | _ => .chan (some 0)
def gItoa (args : Array Value) : Option Value := match args.toList with
  | [.int .i64 n] => if -9223372036854775808 ≤ n ∧ n ≤ 9223372036854775807 then some (str (Lib.itoa n)) else none
  | _ => none
def gAtoi (args : Array Value) : Option Value := match args.toList with
  | [.string s] => if s.size ≤ 281474976710656 then some (.tuple #[.int .i64 (atoiV s.data.toList), errV s.data.toList]) else none
  | _ => none
def gIndex (args : Array Value) : Option Value := match args.toList with
  | [.string s, .string ⟨⟨[c]⟩⟩] => some (.int .i64 (Lib.indexByte s.data.toList c))
  | _ => none
def gIndexByte (args : Array Value) : Option Value := match args.toList with
  | [.string s, .int .u8 c] => if 0 ≤ c ∧ c < 256 then some (.int .i64 (Lib.indexByte s.data.toList (UInt8.ofNat c.toNat))) else none
  | _ => none
def gCount (args : Array Value) : Option Value := match args.toList with
  | [.string s, .string ⟨⟨[c]⟩⟩] => some (.int .i64 (s.data.toList.count c))
  | _ => none
def gLast (args : Array Value) : Option Value := match args.toList with
  | [.string s] => if s.size ≤ 9223372036854775807 then some (.tuple #[.int .i32 (Lib.decodeLastL s.data.toList).1, .int .i64 (Lib.decodeLastL s.data.toList).2]) else none
  | _ => none
def dropL (c : Int) : Int := if letterI c = true then -1 else c
def gMap (args : Array Value) : Option Value := match args.toList with
  | [.func (.func 153) ⟨[]⟩ ⟨[]⟩, .string s] => if s.size < 35184372088832 ∧ (s.data.toList.all fun b => decide (b.toNat < 128)) = true then some (str (Lib.mapD dropL s.data.toList)) else none
  | _ => none
def rCount (H : Heap) (args : Array Value) (v : Value) : Prop := ∃ q l q2 l2, args = #[slv q l.length 1, slv q2 l2.length 1] ∧ CAt H q (u8s l) ∧ CAt H q2 (u8s l2) ∧ l.length < 4294967281 ∧ 1 ≤ l2.length ∧ l2.length ≤ 1000 ∧ v = .int .i64 (Lib.count l l2 : Nat)
def rJoin (H : Heap) (args : Array Value) (v : Value) : Prop := ∃ (q : Q) (xs : List (List UInt8)) (sep : List UInt8), args = #[slv q xs.length 1, str sep] ∧ CAt H q (xs.map str) ∧ (xs.map List.length).sum + xs.length * sep.length ≤ 1099511627776 ∧ 1 ≤ sep.length ∧ v = str ((xs.intersperse sep).flatten)
noncomputable def X : Exts := fun f => match f with
  | 155 => some (exG gItoa)
  | 113 => some (exG gAtoi)
  | 159 => some (exG gIndex)
  | 173 => some (exG gIndex)
  | 105 => some (exG gIndexByte)
  | 138 => some (exG gIndexByte)
  | 158 => some (exG gCount)
  | 202 => some (exG gLast)
  | 152 => some (exG gMap)
  | 102 => some (exH (gSpec rCount))
  | 165 => some (exH (gSpec rJoin))
  | _ => none
noncomputable abbrev F := limF Tryz.prog cl X
theorem exG_some {g : Array Value → Option Value} {a : Array Value} {v : Value} (p : Nat) (H : Heap) (h : g a = some v) : exG g a p H = some (.returned v, H) := by unfold exG; rw [h]; rfl
theorem FItoa (n : Int) (h1 : -9223372036854775808 ≤ n) (h2 : n ≤ 9223372036854775807) (p : Nat) (H : Heap) : F 155 #[.int .i64 n] p H = some (.returned (str (Lib.itoa n)), H) := by
  rw [F, F_ext (f := 155) (X := X) rfl]
  exact exG_some _ _ (by unfold gItoa; exact if_pos ⟨h1, h2⟩)
theorem FAtoi (s : List UInt8) (h : s.length ≤ 281474976710656) (p : Nat) (H : Heap) : F 113 #[str s] p H = some (.returned (.tuple #[.int .i64 (atoiV s), errV s]), H) := by
  rw [F, F_ext (f := 113) (X := X) rfl]
  exact exG_some _ _ (by unfold gAtoi; exact if_pos h)
theorem FIndex (s : List UInt8) (c : UInt8) (p : Nat) (H : Heap) : F 159 #[str s, str [c]] p H = some (.returned (.int .i64 (Lib.indexByte s c)), H) := by
  rw [F, F_ext (f := 159) (X := X) rfl]
  exact exG_some _ _ rfl
theorem FIndex2 (s : List UInt8) (c : UInt8) (p : Nat) (H : Heap) : F 173 #[str s, str [c]] p H = some (.returned (.int .i64 (Lib.indexByte s c)), H) := by
  rw [F, F_ext (f := 173) (X := X) rfl]
  exact exG_some _ _ rfl
theorem FCount (s : List UInt8) (c : UInt8) (p : Nat) (H : Heap) : F 158 #[str s, str [c]] p H = some (.returned (.int .i64 (s.count c)), H) := by
  rw [F, F_ext (f := 158) (X := X) rfl]
  exact exG_some _ _ rfl
theorem FLast (s : List UInt8) (h : s.length ≤ 9223372036854775807) (p : Nat) (H : Heap) : F 202 #[str s] p H = some (.returned (.tuple #[.int .i32 (Lib.decodeLastL s).1, .int .i64 (Lib.decodeLastL s).2]), H) := by
  rw [F, F_ext (f := 202) (X := X) rfl]
  exact exG_some _ _ (by unfold gLast; exact if_pos h)
theorem cl_late (n : Nat) : cl (2000000 + n) = cond (isIn n lates) 9 0 := by
  unfold cl
  rw [Nat.ble_eq_true_of_le (by omega), cond_true, Nat.add_sub_cancel_left]
theorem isF_late (id d : Nat) : isF cl id (some d) = isIn (1000 * id + d) lates := by
  show Nat.beq (cl (2000000 + 1000 * id + d)) 9 = _
  rw [Nat.add_assoc, cl_late]
  cases isIn (1000 * id + d) lates <;> rfl
theorem isF_no (id d : Nat) (h1 : (1000 * id + d == 9045) = false) (h2 : (1000 * id + d == 9023) = false) : isF cl id (some d) = false := by
  rw [isF_late]
  generalize 1000 * id + d = n at *
  have e : ∀ k : Nat, (n == k) = false → Nat.beq n k = false := fun k h => by
    cases hq : Nat.beq n k with
    | false => rfl
    | true => rw [Nat.eq_of_beq_eq_true hq] at h; simp at h
  simp only [lates, isIn, e _ h1, e _ h2, cond_false]
theorem isF_45 : isF cl 9 (some 45) = true := by rw [isF_late]; rfl
theorem isF_23 : isF cl 9 (some 23) = true := by rw [isF_late]; rfl
attribute [go_sem] isF_no isF_45 isF_23
theorem oneC_slv (q : Q) (n s : Nat) : oneC (slv q n s) = true := by rcases q with _ | ⟨a, b, c⟩ <;> rfl
theorem ext_all {l : List Value} {n : Nat} (h : l.length = n) : l.extract 0 n = l := by subst h; simp
attribute [go_sem] Option.isSome_some ext_all oneC_slv Nat.mul_one bin_add bin_sub
end Go.AM.Z
