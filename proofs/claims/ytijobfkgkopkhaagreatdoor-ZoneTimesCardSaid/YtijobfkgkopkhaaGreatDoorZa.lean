/-
  The functions of the package zone, and of the document's answer, as plain functions. No condition.
-/
import Derived.Test.YtijobfkgkopkhaaGreatDoorZF
import Derived.Test.YtijobfkgkopkhaaGreatDoorAMd
import Derived.Lib.AtoiAll
import Derived.Lib.ItoaNum
import Derived.Lib.Bytealg
import Derived.Lib.SpaceU
import Derived.Lib.MapU
import Derived.Lib.ItoaLen
set_option linter.all false
set_option linter.unusedSimpArgs false
set_option linter.unusedVariables false
set_option linter.unusedSectionVars false
/-! Chapter 03: which functions are taken, and as what. -/
namespace Go.AM.Z
open Go Go.AM Go.Proofs
set_option maxRecDepth 100000

def isIn (f : Nat) : List Nat → Bool
  | [] => false
  | x :: xs => cond (Nat.beq f x) true (isIn f xs)
/-- Run on no memory. -/
def pures : List Nat := [3, 4, 5, 6, 7, 8, 9, 10, 11, 12, 13, 14, 15, 16, 17, 18, 19, 20, 21, 22, 23, 24, 25, 26, 27, 28, 29, 30, 31, 32, 33, 38, 40, 41, 43, 44, 45, 46, 47, 48, 49, 50, 51, 52, 53, 54, 55, 60, 61, 70, 73, 74, 75, 76, 77, 88, 89]
/-- Quiet, but not plain. -/
def quiets : List Nat := [36, 57, 78, 81]
/-- They write. -/
def louds : List Nat := [34, 35, 37, 58, 59]
/-- Summaries of the library. -/
def exts : List Nat := [42, 56, 72, 92, 87, 104, 99, 39, 82]
def cl : FuncId → Nat := fun f => cond (Nat.ble 1000000 f) (cond (isIn (f - 1000000) pures) 1 0) (cond (isIn f pures || isIn f quiets || isIn f exts) 1 (cond (isIn f louds) 3 0))

def letterI (c : Int) : Bool := (decide (65 ≤ c) && decide (c ≤ 90)) || (decide (97 ≤ c) && decide (c ≤ 122))
def atoiV (l : List UInt8) : Int := match Lib.atoiAll l with
  | .ok v => v
  | .range => Lib.atoiSat l
  | _ => 0
def gItoa (args : Array Value) : Option Value := match args.toList with
  | [.int .i64 n] => if -9223372036854775808 ≤ n ∧ n ≤ 9223372036854775807 then some (str (Lib.itoa n)) else none
  | _ => none
def gAtoi (args : Array Value) : Option Value := match args.toList with
  | [.string s] => if s.size ≤ 281474976710656 then some (.tuple #[.int .i64 (atoiV s.data.toList), .chan (some 0)]) else none
  | _ => none
def gIndex (args : Array Value) : Option Value := match args.toList with
  | [.string s, .string ⟨⟨[c]⟩⟩] => some (.int .i64 (Lib.indexByte s.data.toList c))
  | _ => none
def gIndexByte (args : Array Value) : Option Value := match args.toList with
  | [.string s, .int .u8 c] => if 0 ≤ c ∧ c < 256 then some (.int .i64 (Lib.indexByte s.data.toList (UInt8.ofNat c.toNat))) else none
  | _ => none
def gCount (args : Array Value) : Option Value := match args.toList with
  | [.string s, .string ⟨⟨[c]⟩⟩] => some (.int .i64 (s.data.toList.count c))
  | _ => none
def gLast (args : Array Value) : Option Value := match args.toList with
  | [.string s] => if s.size ≤ 9223372036854775807 then some (.tuple #[.int .i32 (Lib.decodeLastL s.data.toList).1, .int .i64 (Lib.decodeLastL s.data.toList).2]) else none
  | _ => none
/-- The letters dropped. -/
def dropL (c : Int) : Int := if letterI c = true then -1 else c
def gMap (args : Array Value) : Option Value := match args.toList with
  | [.func (.func 40) ⟨[]⟩ ⟨[]⟩, .string s] => if s.size < 35184372088832 ∧ (s.data.toList.all fun b => decide (b.toNat < 128)) = true then some (str (Lib.mapD dropL s.data.toList)) else none
  | _ => none
def X : Exts := fun f => match f with
  | 42 => some (exG gItoa)
  | 56 => some (exG gAtoi)
  | 72 => some (exG gIndex)
  | 92 => some (exG gIndex)
  | 87 => some (exG gIndexByte)
  | 104 => some (exG gIndexByte)
  | 99 => some (exG gCount)
  | 82 => some (exG gLast)
  | 39 => some (exG gMap)
  | _ => none
noncomputable abbrev F := limF Tryz.prog cl X

theorem exG_some {g : Array Value → Option Value} {a : Array Value} {v : Value} (p : Nat) (H : Heap) (h : g a = some v) : exG g a p H = some (.returned v, H) := by unfold exG; rw [h]; rfl
theorem FItoa (n : Int) (h1 : -9223372036854775808 ≤ n) (h2 : n ≤ 9223372036854775807) (p : Nat) (H : Heap) : F 42 #[.int .i64 n] p H = some (.returned (str (Lib.itoa n)), H) := by
  rw [F, F_ext (f := 42) (X := X) rfl]
  exact exG_some _ _ (by unfold gItoa; exact if_pos ⟨h1, h2⟩)
theorem FAtoi (s : List UInt8) (h : s.length ≤ 281474976710656) (p : Nat) (H : Heap) : F 56 #[str s] p H = some (.returned (.tuple #[.int .i64 (atoiV s), .chan (some 0)]), H) := by
  rw [F, F_ext (f := 56) (X := X) rfl]
  exact exG_some _ _ (by unfold gAtoi; exact if_pos h)
theorem FIndex (s : List UInt8) (c : UInt8) (p : Nat) (H : Heap) : F 72 #[str s, str [c]] p H = some (.returned (.int .i64 (Lib.indexByte s c)), H) := by
  rw [F, F_ext (f := 72) (X := X) rfl]
  exact exG_some _ _ rfl
theorem FIndex2 (s : List UInt8) (c : UInt8) (p : Nat) (H : Heap) : F 92 #[str s, str [c]] p H = some (.returned (.int .i64 (Lib.indexByte s c)), H) := by
  rw [F, F_ext (f := 92) (X := X) rfl]
  exact exG_some _ _ rfl
theorem FCount (s : List UInt8) (c : UInt8) (p : Nat) (H : Heap) : F 99 #[str s, str [c]] p H = some (.returned (.int .i64 (s.count c)), H) := by
  rw [F, F_ext (f := 99) (X := X) rfl]
  exact exG_some _ _ rfl
theorem FLast (s : List UInt8) (h : s.length ≤ 9223372036854775807) (p : Nat) (H : Heap) : F 82 #[str s] p H = some (.returned (.tuple #[.int .i32 (Lib.decodeLastL s).1, .int .i64 (Lib.decodeLastL s).2]), H) := by
  rw [F, F_ext (f := 82) (X := X) rfl]
  exact exG_some _ _ (by unfold gLast; exact if_pos h)
end Go.AM.Z

namespace Go.AM.Z
open Go Go.AM Go.Proofs
set_option maxRecDepth 100000
theorem F28 (n lo hi : Int) (p : Nat) (H : Heap) : F 28 #[.int .i64 n, .int .i64 lo, .int .i64 hi] p H = some (.returned (.bool (decide (lo ≤ n) && decide (n ≤ hi))), H) := by
  rw [F, F_pure (f := 28) (X := X) (cl := cl) rfl rfl rfl Tryz.func28 rfl (by simp only [go_sem]), Tryz.results28]
  simp only [go_sem]
  repeat' (generalize hz : pickB _ _ _ _ _ = z; rcases pickB_cases hz with ⟨h, rfl⟩ | ⟨h, rfl⟩ <;> clear hz <;> (try simp only [go_sem] at h) <;> simp only [go_sem, h])
attribute [go_sem] F28


def inB (n lo hi : Int) : Bool := decide (lo ≤ n) && decide (n ≤ hi)
def ruleB (k mo we da at_ : Int) : Bool := inB at_ (-604799) 604799 && ((decide (k = 0) && decide (mo = 0) && decide (we = 0) && inB da 1 365) || (decide (k = 1) && decide (mo = 0) && decide (we = 0) && inB da 0 365) || (decide (k = 2) && inB mo 1 12 && inB we 1 5 && inB da 0 6))
theorem F29 (k mo we da at_ : Int) (p : Nat) (H : Heap) : F 29 #[.agg #[.int .i64 k, .int .i64 mo, .int .i64 we, .int .i64 da, .int .i64 at_]] p H = some (.returned (.bool (ruleB k mo we da at_)), H) := by
  rw [F, F_pure (f := 29) (X := X) (cl := cl) rfl rfl rfl Tryz.func29 rfl (by simp only [go_sem]), Tryz.results29]
  simp only [go_sem]
  repeat' (generalize hz : pickB _ _ _ _ _ = z; rcases pickB_cases hz with ⟨h, rfl⟩ | ⟨h, rfl⟩ <;> clear hz <;> (try simp only [go_sem] at h) <;> simp only [go_sem, h])
  all_goals (simp_all [ruleB, inB] <;> (intros; omega))

theorem pre_eq (s q : List UInt8) : q.isPrefixOf s = (decide (q.length ≤ s.length) && decide (s.take q.length = q)) := by
  rw [Bool.eq_iff_iff]
  simp only [List.isPrefixOf_iff_prefix, Bool.and_eq_true, decide_eq_true_eq]
  constructor
  · intro h; exact ⟨h.length_le, (List.prefix_iff_eq_take.1 h).symm⟩
  · rintro ⟨_, h⟩; rw [← h]; exact List.take_prefix _ _
theorem F52 (s q : List UInt8) (p : Nat) (H : Heap) : F 52 #[str s, str q] p H = some (.returned (.bool (q.isPrefixOf s)), H) := by
  rw [F, F_pure (f := 52) (X := X) (cl := cl) rfl rfl rfl Tryz.func52 rfl (by simp only [go_sem]), Tryz.results52]
  simp only [go_sem]
  repeat' (generalize hz : pickB _ _ _ _ _ = z; rcases pickB_cases hz with ⟨h, rfl⟩ | ⟨h, rfl⟩ <;> clear hz <;> (try simp only [go_sem] at h) <;> simp (disch := first | rfl | assumption | omega | (simp only [go_sem]; done)) only [go_sem, h])
  all_goals (rw [pre_eq]; simp_all <;> (intros; omega))
end Go.AM.Z

namespace Go.AM.Z
open Go Go.AM Go.Proofs
set_option maxRecDepth 100000

theorem dec_ascii {s : List UInt8} {pos : Nat} {b : UInt8} (h : s[pos]? = some b) (hb : b.toNat < 128) : dec s pos = (b.toNat, 1) := by
  obtain ⟨hlt, hb'⟩ := List.getElem?_eq_some_iff.1 h
  have hg : (ByteArray.mk s.toArray).get! (pos + 0) = b := by
    rw [Nat.add_zero, ← hb']
    show s.toArray[pos]! = _
    rw [getElem!_pos s.toArray pos (by simpa using hlt)]
    simp
  unfold dec Utf8.decode
  simp only [hg]
  rw [if_pos (by simpa using hb)]
theorem dec_width (s : List UInt8) (pos : Nat) : 1 ≤ (dec s pos).2 := by
  unfold dec Utf8.decode
  simp only
  repeat' split
  all_goals simp

def cutAt (set s : List UInt8) : Nat → Nat → List UInt8
  | 0, _ => []
  | k + 1, pos => if pos < s.length then (if ((dec s pos).1 : Int) ∈ set.map (fun b => (b.toNat : Int)) then cutAt set s k (pos + (dec s pos).2) else s.drop pos) else []
def cutL (set s : List UInt8) : List UInt8 := cutAt set s (s.length + 1) 0

theorem F61 (s set : List UInt8) (hset : ∀ b ∈ set, b.toNat < 128) (p : Nat) (H : Heap) : F 61 #[str s, str set] p H = some (.returned (str (cutL set s)), H) := by
  rw [F, F_pure (f := 61) (X := X) (cl := cl) rfl rfl rfl Tryz.func61 rfl (by simp only [go_sem]), Tryz.results61]
  simp only [go_sem]
  generalize hL : Code.loop _ = L
  have key : ∀ (k pos : Nat) (t : Nat → Value) (H : Heap), s.length < pos + k → H[0]? = some (itB s pos) → t 0 = str s → t 1 = str set → t 11 = .pointer (some ⟨0, 0, some 0⟩) → t 4 = str [] →
      ∃ e t' H', limR Tryz.prog cl X L 0 ⟨t, [], H⟩ = some (e, ⟨t', [], H'⟩) ∧ ((e = .exit 0 ∧ cutAt set s k pos = []) ∨ (e = .ret ∧ t' 4 = str (cutAt set s k pos))) := by
    intro k
    induction k with
    | zero =>
      intro pos t H hk hH h0 h1 h11 h4
      rw [← hL, E_loop, hL]
      have hlt : ¬ pos < s.length := by omega
      simp only [go_sem, hH, hlt, h0, h1, h11, h4]
      exact ⟨_, _, _, rfl, .inl ⟨rfl, rfl⟩⟩
    | succ k ih =>
      intro pos t H hk hH h0 h1 h11 h4
      rw [← hL, E_loop, hL]
      by_cases hlt : pos < s.length
      · simp only [go_sem, hH, hlt, h0, h1, h11, h4]
        generalize hL2 : Code.loop _ = L2
        have key2 : ∀ (k2 q : Nat) (t : Nat → Value) (H : Heap) (A : Nat) (b : Bool) (c : Int), set.length < q + k2 → H[A]? = some (itB set q) → t 17 = .pointer (some ⟨A, 0, some 0⟩) → t 7 = .bool b → t 6 = .int .i32 c →
            ∃ t' H', limR Tryz.prog cl X L2 0 ⟨t, [], H⟩ = some (.exit 2, ⟨t', [], H'⟩) ∧ t' 7 = .bool (b || decide (c ∈ (set.drop q).map (fun b => (b.toNat : Int)))) ∧ (∀ i, i < 18 → i ≠ 7 → i ≠ 9 → t' i = t i) ∧ ∀ B, B ≠ A → H'[B]? = H[B]? := by
          intro k2
          induction k2 with
          | zero =>
            intro q t H A b c hq hA h17 h7 h6
            rw [← hL2, E_loop, hL2]
            have hlt2 : ¬ q < set.length := by omega
            simp only [go_sem, hA, hlt2, h17, h7, h6]
            refine ⟨_, _, rfl, ?_, ?_, fun B _ => rfl⟩
            · simp only [go_sem, h7]
              rw [List.drop_of_length_le (by omega)]
              simp
            · intro i h1 h2 h3
              unfold upd
              repeat rw [if_neg (by omega)]
          | succ k2 ih2 =>
            intro q t H A b c hq hA h17 h7 h6
            rw [← hL2, E_loop, hL2]
            have hAlt := (List.getElem?_eq_some_iff.1 hA).1
            by_cases hlt2 : q < set.length
            · have hb := hset _ (List.getElem_mem hlt2)
              have hd := dec_ascii (List.getElem?_eq_getElem hlt2) hb
              simp only [go_sem, hA, hlt2, h17, h7, h6, hd]
              have hset' : (H.set A (itB set (q + 1)))[A]? = some (itB set (q + 1)) := List.getElem?_set_self hAlt
              have hmem : (c ∈ (set.drop q).map (fun b => (b.toNat : Int))) ↔ (c = (set[q].toNat : Int) ∨ c ∈ (set.drop (q + 1)).map (fun b => (b.toNat : Int))) := by
                rw [List.drop_eq_getElem_cons hlt2, List.map_cons, List.mem_cons]
              have go : ∀ (t2 : Nat → Value) (b2 : Bool), b2 = (b || decide (c = (set[q].toNat : Int))) → t2 17 = .pointer (some ⟨A, 0, some 0⟩) → t2 7 = .bool b2 → t2 6 = .int .i32 c → (∀ i, i < 18 → i ≠ 7 → i ≠ 9 → t2 i = t i) →
                  ∃ t' H', limR Tryz.prog cl X L2 0 ⟨t2, [], H.set A (itB set (q + 1))⟩ = some (.exit 2, ⟨t', [], H'⟩) ∧ t' 7 = .bool (b || decide (c ∈ (set.drop q).map (fun b => (b.toNat : Int)))) ∧ (∀ i, i < 18 → i ≠ 7 → i ≠ 9 → t' i = t i) ∧ ∀ B, B ≠ A → H'[B]? = H[B]? := by
                intro t2 b2 hb2 g17 g7 g6 gt
                obtain ⟨t', H', e1, e2, e3, e4⟩ := ih2 (q + 1) t2 _ A b2 c (by omega) hset' g17 g7 g6
                refine ⟨t', H', e1, ?_, fun i h1 h2 h3 => (e3 i h1 h2 h3).trans (gt i h1 h2 h3), fun B hB => (e4 B hB).trans (List.getElem?_set_ne (fun e => hB e.symm))⟩
                rw [e2, hb2]
                congr 1
                rw [Bool.eq_iff_iff]
                simp only [Bool.or_eq_true, decide_eq_true_eq, hmem]
                constructor
                · rintro ((h | h) | h)
                  · exact .inl h
                  · exact .inr (.inl h)
                  · exact .inr (.inr h)
                · rintro (h | h | h)
                  · exact .inl (.inl h)
                  · exact .inl (.inr h)
                  · exact .inr h
              cases b with
              | true =>
                simp only [go_sem, h17, h7, h6]
                refine go _ true (by simp) ?_ ?_ ?_ ?_
                · simp only [go_sem, h17]
                · simp only [go_sem]
                · simp only [go_sem, h6]
                · intro i h1 h2 h3
                  unfold upd
                  repeat rw [if_neg (by omega)]
              | false =>
                simp only [go_sem, h17, h7, h6]
                refine go _ (decide (c = (set[q].toNat : Int))) (by simp) ?_ ?_ ?_ ?_
                · simp only [go_sem, h17]
                · simp only [go_sem]
                · simp only [go_sem, h6]
                · intro i h1 h2 h3
                  unfold upd
                  repeat rw [if_neg (by omega)]
            · simp only [go_sem, hA, hlt2, h17, h7, h6]
              refine ⟨_, _, rfl, ?_, ?_, fun B _ => rfl⟩
              · simp only [go_sem, h7]
                rw [List.drop_of_length_le (by omega)]
                simp
              · intro i h1 h2 h3
                unfold upd
                repeat rw [if_neg (by omega)]
        have hHlt := (List.getElem?_eq_some_iff.1 hH).1
        generalize hT : upd _ 17 _ = T
        generalize hHH : (_ ++ _ : Heap) = HH
        have hHA : HH[H.length]? = some (itB set 0) := by
          rw [← hHH, List.getElem?_append_right (by simp)]
          simp
        have hH0 : HH[0]? = some (itB s (pos + (dec s pos).2)) := by
          rw [← hHH, List.getElem?_append_left (by simp; omega)]
          exact List.getElem?_set_self hHlt
        obtain ⟨t1, H1, e1, e2, e3, e4⟩ := key2 (set.length + 1) 0 T HH H.length false (dec s pos).1 (by omega) hHA (by rw [← hT]; simp only [go_sem, List.length_set]) (by rw [← hT]; simp only [go_sem]) (by rw [← hT]; simp only [go_sem])
        have f0 : t1 0 = str s := by rw [e3 0 (by omega) (by omega) (by omega), ← hT]; simp only [go_sem, h0]
        have f1 : t1 1 = str set := by rw [e3 1 (by omega) (by omega) (by omega), ← hT]; simp only [go_sem, h1]
        have f4 : t1 4 = str [] := by rw [e3 4 (by omega) (by omega) (by omega), ← hT]; simp only [go_sem, h4]
        have f5 : t1 5 = .int .i64 pos := by rw [e3 5 (by omega) (by omega) (by omega), ← hT]; simp only [go_sem]
        have f11 : t1 11 = .pointer (some ⟨0, 0, some 0⟩) := by rw [e3 11 (by omega) (by omega) (by omega), ← hT]; simp only [go_sem, h11]
        have g0 : H1[0]? = some (itB s (pos + (dec s pos).2)) := by rw [e4 0 (by omega), hH0]
        rw [e1]
        simp only [Bool.false_or, List.drop_zero] at e2
        by_cases hm : ((dec s pos).1 : Int) ∈ set.map (fun b => (b.toNat : Int))
        · simp only [hm, decide_true] at e2
          simp only [go_sem, e2]
          have hw := dec_width s pos
          obtain ⟨e, t', H', k1, k2⟩ := ih (pos + (dec s pos).2) (upd (upd t1 27 (.bool true)) 28 (.bool false)) H1 (by omega) g0 (by simp only [go_sem, f0]) (by simp only [go_sem, f1]) (by simp only [go_sem, f11]) (by simp only [go_sem, f4])
          refine ⟨e, t', H', k1, ?_⟩
          rw [cutAt, if_pos hlt, if_pos hm]
          exact k2
        · simp only [hm, decide_false] at e2
          simp (disch := first | omega | (simp only [go_sem]; done)) only [go_sem, e2, f0, f5]
          refine ⟨_, _, _, rfl, .inr ⟨rfl, ?_⟩⟩
          simp only [go_sem]
          rw [cutAt, if_pos hlt, if_neg hm]
      · simp only [go_sem, hH, hlt, h0, h1, h11, h4]
        exact ⟨_, _, _, rfl, .inl ⟨rfl, by rw [cutAt, if_neg hlt]⟩⟩
  generalize hT : upd _ 11 _ = T
  obtain ⟨e, t', H', k1, k2⟩ := key (s.length + 1) 0 T [itB s 0] (by omega) rfl (by rw [← hT]; simp only [go_sem]) (by rw [← hT]; simp only [go_sem]) (by rw [← hT]; simp only [go_sem]) (by rw [← hT]; simp only [go_sem])
  rw [k1]
  rcases k2 with ⟨rfl, k2⟩ | ⟨rfl, k2⟩
  · simp only [go_sem]
    rw [cutL, k2]
  · simp only [go_sem, k2]
    rfl
end Go.AM.Z

namespace Go.AM.Z
open Go Go.AM Go.Proofs
set_option maxRecDepth 100000
attribute [go_sem] F29 F52 FIndex FIndex2 FCount

theorem F32 (s q : List UInt8) (p : Nat) (H : Heap) : F 32 #[str s, str q] p H = some (.returned (.bool (q.isPrefixOf s)), H) := by
  rw [F, F_pure (f := 32) (X := X) (cl := cl) rfl rfl rfl Tryz.func32 rfl (by simp only [go_sem]), Tryz.results32]
  simp only [go_sem]
attribute [go_sem] F32
theorem F73 (s q : List UInt8) (p : Nat) (H : Heap) : F 73 #[str s, str q] p H = some (.returned (.tuple #[str (if q.isPrefixOf s = true then s.drop q.length else s), .bool (q.isPrefixOf s)]), H) := by
  rw [F, F_pure (f := 73) (X := X) (cl := cl) rfl rfl rfl Tryz.func73 rfl (by simp only [go_sem]), Tryz.results73]
  have hl : q.isPrefixOf s = true → q.length ≤ s.length := fun h => (List.isPrefixOf_iff_prefix.1 h).length_le
  cases hq : q.isPrefixOf s with
  | true =>
    have := hl hq
    simp (disch := first | omega | (simp only [go_sem]; done)) only [go_sem, hq]
  | false => simp only [go_sem, hq]
attribute [go_sem] F73
theorem F48 (s q : List UInt8) (p : Nat) (H : Heap) : F 48 #[str s, str q] p H = some (.returned (.tuple #[str (if q.isPrefixOf s = true then s.drop q.length else s), .bool (q.isPrefixOf s)]), H) := by
  rw [F, F_pure (f := 48) (X := X) (cl := cl) rfl rfl rfl Tryz.func48 rfl (by simp only [go_sem]), Tryz.results48]
  simp only [go_sem]
theorem F75 (s q : List UInt8) (p : Nat) (H : Heap) : F 75 #[str s, str q] p H = some (.returned (str (if q.isPrefixOf s = true then s.drop q.length else s)), H) := by
  rw [F, F_pure (f := 75) (X := X) (cl := cl) rfl rfl rfl Tryz.func75 rfl (by simp only [go_sem]), Tryz.results75]
  have hl : q.isPrefixOf s = true → q.length ≤ s.length := fun h => (List.isPrefixOf_iff_prefix.1 h).length_le
  cases hq : q.isPrefixOf s with
  | true =>
    have := hl hq
    simp (disch := first | omega | (simp only [go_sem]; done)) only [go_sem, hq]
  | false => simp only [go_sem, hq]
attribute [go_sem] F75
theorem F53 (s q : List UInt8) (p : Nat) (H : Heap) : F 53 #[str s, str q] p H = some (.returned (str (if q.isPrefixOf s = true then s.drop q.length else s)), H) := by
  rw [F, F_pure (f := 53) (X := X) (cl := cl) rfl rfl rfl Tryz.func53 rfl (by simp only [go_sem]), Tryz.results53]
  simp only [go_sem]
theorem F47 (s : List UInt8) (c : UInt8) (p : Nat) (H : Heap) : F 47 #[str s, str [c]] p H = some (.returned (.bool (decide (0 ≤ Lib.indexByte s c))), H) := by
  rw [F, F_pure (f := 47) (X := X) (cl := cl) rfl rfl rfl Tryz.func47 rfl (by simp only [go_sem]), Tryz.results47]
  simp only [go_sem]
attribute [go_sem] F48 F53 F47
theorem cutL_nil (s : List UInt8) : cutL [] s = s := by
  unfold cutL
  rw [cutAt]
  split
  · simp
  · cases s with
    | nil => rfl
    | cons a l => simp at *
theorem F60 (s : List UInt8) (hs : s.length ≤ 9223372036854775807) (p : Nat) (H : Heap) : F 60 #[str s, str []] p H = some (.returned (str s), H) := by
  rw [F, F_pure (f := 60) (X := X) (cl := cl) rfl rfl rfl Tryz.func60 rfl (by simp only [go_sem]), Tryz.results60]
  simp only [go_sem]
  by_cases h0 : s = []
  · subst h0
    simp only [go_sem, E_loop]
  · have hl : (0 : Int) < s.length := by
      have := List.length_pos_iff.2 h0
      omega
    simp only [go_sem, E_loop, hl, FLast _ hs]
theorem F38 (s : List UInt8) (hs : s.length ≤ 9223372036854775807) (p : Nat) (H : Heap) : F 38 #[str s, str []] p H = some (.returned (.bool (decide (s = []))), H) := by
  rw [F, F_pure (f := 38) (X := X) (cl := cl) rfl rfl rfl Tryz.func38 rfl (by simp only [go_sem]), Tryz.results38]
  simp only [go_sem, F61 s [] (fun _ h => by simp at h), cutL_nil, F60 _ hs]
end Go.AM.Z

namespace Go.AM.Z
open Go Go.AM Go.Proofs
set_option maxRecDepth 100000

/-- What a name is made of. -/
def signsL : List UInt8 := [65, 66, 67, 68, 69, 70, 71, 72, 73, 74, 75, 76, 77, 78, 79, 80, 81, 82, 83, 84, 85, 86, 87, 88, 89, 90, 97, 98, 99, 100, 101, 102, 103, 104, 105, 106, 107, 108, 109, 110, 111, 112, 113, 114, 115, 116, 117, 118, 119, 120, 121, 122, 48, 49, 50, 51, 52, 53, 54, 55, 56, 57, 43, 45]
def okC (c : UInt8) : Bool := decide (0 ≤ Lib.indexByte signsL c)
def nameB (s : List UInt8) : Bool := s.all okC && inB s.length 3 10

theorem F27 (s : List UInt8) (hs : s.length ≤ 4611686018427387904) (p : Nat) (H : Heap) : F 27 #[str s] p H = some (.returned (.bool (nameB s)), H) := by
  rw [F, F_pure (f := 27) (X := X) (cl := cl) rfl rfl rfl Tryz.func27 rfl (by simp only [go_sem]), Tryz.results27]
  simp only [go_sem]
  generalize hL : Code.loop _ = L
  have key : ∀ (k i : Nat) (t : Nat → Value) (H : Heap), i + k = s.length → t 0 = str s → t 5 = .int .i64 s.length → t 6 = .int .i64 i →
      ∃ e t', limR Tryz.prog cl X L 0 ⟨t, [], H⟩ = some (e, ⟨t', [], H⟩) ∧ ((e = .exit 0 ∧ (s.drop i).all okC = true ∧ t' 0 = str s) ∨ (e = .ret ∧ (s.drop i).all okC = false ∧ t' 2 = .bool false)) := by
    intro k
    induction k with
    | zero =>
      intro i t H hi h0 h5 h6
      rw [← hL, E_loop, hL]
      have hlt : ¬ (i : Int) < s.length := by omega
      simp only [go_sem, h0, h5, h6, hlt]
      refine ⟨_, _, rfl, .inl ⟨rfl, ?_, ?_⟩⟩
      · rw [List.drop_of_length_le (by omega)]; rfl
      · simp only [go_sem, h0]
    | succ k ih =>
      intro i t H hi h0 h5 h6
      rw [← hL, E_loop, hL]
      have hn : i < s.length := by omega
      have hlt : (i : Int) < s.length := by omega
      have hd : (s.drop i).take 1 = [s[i]] := by
        rw [List.drop_eq_getElem_cons hn]; rfl
      have e1 : ((i : Int) + 1).toNat - i = 1 := by omega
      have hall : (s.drop i).all okC = (okC s[i] && (s.drop (i + 1)).all okC) := by
        rw [List.drop_eq_getElem_cons hn, List.all_cons]
      simp (disch := first | omega | (simp only [go_sem]; done)) only [go_sem, h0, h5, h6, hlt, bin_add, e1, hd]
      cases hc : okC s[i] with
      | true =>
        have hc' := hc
        unfold okC signsL at hc'
        simp only [hc', go_sem]
        simp (disch := first | omega | (simp only [go_sem]; done)) only [go_sem, h0, h5, h6, bin_add]
        generalize hT : upd _ 6 _ = T
        obtain ⟨e, t', k1, k2⟩ := ih (i + 1) T H (by omega) (by rw [← hT]; simp only [go_sem, h0]) (by rw [← hT]; simp only [go_sem, h5]) (by rw [← hT]; simp only [go_sem] <;> rfl)
        refine ⟨e, t', k1, ?_⟩
        rw [hall, hc, Bool.true_and]
        exact k2
      | false =>
        have hc' := hc
        unfold okC signsL at hc'
        simp only [hc', go_sem]
        refine ⟨_, _, rfl, .inr ⟨rfl, by rw [hall, hc]; rfl, ?_⟩⟩
        simp only [go_sem]
  generalize hT : upd _ 6 _ = T
  obtain ⟨e, t', k1, k2⟩ := key s.length 0 T [] (by omega) (by rw [← hT]; simp only [go_sem]) (by rw [← hT]; simp only [go_sem]) (by rw [← hT]; simp only [go_sem] <;> rfl)
  rw [k1]
  rcases k2 with ⟨rfl, k2, k3⟩ | ⟨rfl, k2, k3⟩
  · simp only [go_sem, k3]
    rw [nameB, ← List.drop_zero (l := s), k2]
    rfl
  · simp only [go_sem, k3]
    rw [nameB, ← List.drop_zero (l := s), k2]
    rfl
end Go.AM.Z

namespace Go.AM.Z
open Go Go.AM Go.Proofs
set_option maxRecDepth 100000

structure RuleL where
  k : Int
  mo : Int
  we : Int
  da : Int
  at_ : Int
deriving DecidableEq
structure ZoneL where
  std : List UInt8
  off : Int
  has : Bool
  dst : List UInt8
  ahead : Int
  from_ : RuleL
  to : RuleL
deriving DecidableEq
abbrev RuleL.v (r : RuleL) : Value := .agg #[.int .i64 r.k, .int .i64 r.mo, .int .i64 r.we, .int .i64 r.da, .int .i64 r.at_]
abbrev ZoneL.v (z : ZoneL) : Value := .agg #[str z.std, .int .i64 z.off, .bool z.has, str z.dst, .int .i64 z.ahead, .int .i64 z.from_.k, .int .i64 z.from_.mo, .int .i64 z.from_.we, .int .i64 z.from_.da, .int .i64 z.from_.at_, .int .i64 z.to.k, .int .i64 z.to.mo, .int .i64 z.to.we, .int .i64 z.to.da, .int .i64 z.to.at_]

theorem stood25 : Tryz.prog.stoodInHeld 25 = false := by kernel_rfl
theorem stood23 : Tryz.prog.stoodInHeld 23 = false := by kernel_rfl
theorem eqg25 : Tryz.prog.eqGuardType Tryz.prog.depth 25 = false := by kernel_rfl
theorem eqg23 : Tryz.prog.eqGuardType Tryz.prog.depth 23 = false := by kernel_rfl
theorem part3 (cs : Array Value) (o : Nat) : partV Tryz.prog 3 cs o = cs[o]? := by simp only [partV, un3, if_true, ag3, Bool.false_eq_true, if_false]
theorem part9 (cs : Array Value) (o : Nat) : partV Tryz.prog 9 cs o = cs[o]? := by simp only [partV, un9, if_true, ag9, Bool.false_eq_true, if_false]
theorem part4 (cs : Array Value) (o : Nat) : partV Tryz.prog 4 cs o = cs[o]? := by simp only [partV, un4, if_true, ag4, Bool.false_eq_true, if_false]
theorem part23 (cs : Array Value) (o : Nat) : partV Tryz.prog 23 cs o = some (.agg (cs.extract o (o + 5))) := by simp only [partV, un23, if_true, ag23, sz23, Option.map_some]

theorem eqRule (d : Nat) (a b : RuleL) : pureRun Tryz.prog (Op.equalIn (d + 1 + 1) 23 a.v b.v) = some (decide (a = b)) := by
  rw [eq_struct Tryz.underlying23 stood23]
  simp only [fieldsEq, part3, List.toList_toArray, List.getElem?_toArray, List.getElem?_cons_zero, List.getElem?_cons_succ, Option.bind_some, eqIn_int Tryz.underlying3]
  obtain ⟨a1, a2, a3, a4, a5⟩ := a
  obtain ⟨b1, b2, b3, b4, b5⟩ := b
  simp
  by_cases h1 : a1 = b1 <;> by_cases h2 : a2 = b2 <;> by_cases h3 : a3 = b3 <;> by_cases h4 : a4 = b4 <;> by_cases h5 : a5 = b5 <;> simp [h1, h2, h3, h4, h5]
theorem eqZone (d : Nat) (a b : ZoneL) : pureRun Tryz.prog (Op.equalIn (d + 1 + 1 + 1) 25 a.v b.v) = some (decide (a = b)) := by
  rw [eq_struct Tryz.underlying25 stood25]
  have e1 : pureRun Tryz.prog (Op.equalIn (d + 1 + 1) 23 (.agg (#[str a.std, .int .i64 a.off, .bool a.has, str a.dst, .int .i64 a.ahead, .int .i64 a.from_.k, .int .i64 a.from_.mo, .int .i64 a.from_.we, .int .i64 a.from_.da, .int .i64 a.from_.at_, .int .i64 a.to.k, .int .i64 a.to.mo, .int .i64 a.to.we, .int .i64 a.to.da, .int .i64 a.to.at_].extract 5 (5 + 5))) (.agg (#[str b.std, .int .i64 b.off, .bool b.has, str b.dst, .int .i64 b.ahead, .int .i64 b.from_.k, .int .i64 b.from_.mo, .int .i64 b.from_.we, .int .i64 b.from_.da, .int .i64 b.from_.at_, .int .i64 b.to.k, .int .i64 b.to.mo, .int .i64 b.to.we, .int .i64 b.to.da, .int .i64 b.to.at_].extract 5 (5 + 5)))) = some (decide (a.from_ = b.from_)) := eqRule d a.from_ b.from_
  have e2 : pureRun Tryz.prog (Op.equalIn (d + 1 + 1) 23 (.agg (#[str a.std, .int .i64 a.off, .bool a.has, str a.dst, .int .i64 a.ahead, .int .i64 a.from_.k, .int .i64 a.from_.mo, .int .i64 a.from_.we, .int .i64 a.from_.da, .int .i64 a.from_.at_, .int .i64 a.to.k, .int .i64 a.to.mo, .int .i64 a.to.we, .int .i64 a.to.da, .int .i64 a.to.at_].extract 10 (10 + 5))) (.agg (#[str b.std, .int .i64 b.off, .bool b.has, str b.dst, .int .i64 b.ahead, .int .i64 b.from_.k, .int .i64 b.from_.mo, .int .i64 b.from_.we, .int .i64 b.from_.da, .int .i64 b.from_.at_, .int .i64 b.to.k, .int .i64 b.to.mo, .int .i64 b.to.we, .int .i64 b.to.da, .int .i64 b.to.at_].extract 10 (10 + 5)))) = some (decide (a.to = b.to)) := eqRule d a.to b.to
  simp only [fieldsEq, part3, part4, part9, part23, List.toList_toArray, List.getElem?_toArray, List.getElem?_cons_zero, List.getElem?_cons_succ, Option.bind_some, eqIn_int Tryz.underlying3, eqIn_string Tryz.underlying9, eqIn_bool Tryz.underlying4, e1, e2]
  obtain ⟨a1, a2, a3, a4, a5, a6, a7⟩ := a
  obtain ⟨b1, b2, b3, b4, b5, b6, b7⟩ := b
  simp
  by_cases h1 : a1 = b1 <;> by_cases h2 : a2 = b2 <;> by_cases h3 : a3 = b3 <;> by_cases h4 : a4 = b4 <;> by_cases h5 : a5 = b5 <;> by_cases h6 : a6 = b6 <;> by_cases h7 : a7 = b7 <;> simp [h1, h2, h3, h4, h5, h6, h7]
theorem gRule (r : RuleL) : ground r.v = true := by simp only [go_sem]
theorem gZone (r : ZoneL) : ground r.v = true := by simp only [go_sem]
theorem zEql (c : Bool) (a b : ZoneL) : binV Tryz.prog c .eql 25 a.v b.v = some (.bool (decide (a = b))) := (bin_eqAgg eqg25 (gZone a) (gZone b) (eqZone 9997 a b)).1
theorem zNeq (c : Bool) (a b : ZoneL) : binV Tryz.prog c .neq 25 a.v b.v = some (.bool (!decide (a = b))) := (bin_eqAgg eqg25 (gZone a) (gZone b) (eqZone 9997 a b)).2
theorem rEql (c : Bool) (a b : RuleL) : binV Tryz.prog c .eql 23 a.v b.v = some (.bool (decide (a = b))) := (bin_eqAgg eqg23 (gRule a) (gRule b) (eqRule 9998 a b)).1
end Go.AM.Z

namespace Go.AM.Z
open Go Go.AM Go.Proofs
set_option maxRecDepth 100000
attribute [-go_sem] F28
theorem F28' (n lo hi : Int) (p : Nat) (H : Heap) : F 28 #[.int .i64 n, .int .i64 lo, .int .i64 hi] p H = some (.returned (.bool (inB n lo hi)), H) := F28 n lo hi p H
theorem zEql' (c : Bool) (x1 x4 y1 y4 : List UInt8) (x3 y3 : Bool) (x2 x5 x6 x7 x8 x9 x10 x11 x12 x13 x14 x15 y2 y5 y6 y7 y8 y9 y10 y11 y12 y13 y14 y15 : Int) : binV Tryz.prog c .eql 25 (.agg #[str x1, .int .i64 x2, .bool x3, str x4, .int .i64 x5, .int .i64 x6, .int .i64 x7, .int .i64 x8, .int .i64 x9, .int .i64 x10, .int .i64 x11, .int .i64 x12, .int .i64 x13, .int .i64 x14, .int .i64 x15]) (.agg #[str y1, .int .i64 y2, .bool y3, str y4, .int .i64 y5, .int .i64 y6, .int .i64 y7, .int .i64 y8, .int .i64 y9, .int .i64 y10, .int .i64 y11, .int .i64 y12, .int .i64 y13, .int .i64 y14, .int .i64 y15]) = some (.bool (decide ((⟨x1, x2, x3, x4, x5, ⟨x6, x7, x8, x9, x10⟩, ⟨x11, x12, x13, x14, x15⟩⟩ : ZoneL) = (⟨y1, y2, y3, y4, y5, ⟨y6, y7, y8, y9, y10⟩, ⟨y11, y12, y13, y14, y15⟩⟩ : ZoneL)))) := zEql c (⟨x1, x2, x3, x4, x5, ⟨x6, x7, x8, x9, x10⟩, ⟨x11, x12, x13, x14, x15⟩⟩ : ZoneL) (⟨y1, y2, y3, y4, y5, ⟨y6, y7, y8, y9, y10⟩, ⟨y11, y12, y13, y14, y15⟩⟩ : ZoneL)
theorem zNeq' (c : Bool) (x1 x4 y1 y4 : List UInt8) (x3 y3 : Bool) (x2 x5 x6 x7 x8 x9 x10 x11 x12 x13 x14 x15 y2 y5 y6 y7 y8 y9 y10 y11 y12 y13 y14 y15 : Int) : binV Tryz.prog c .neq 25 (.agg #[str x1, .int .i64 x2, .bool x3, str x4, .int .i64 x5, .int .i64 x6, .int .i64 x7, .int .i64 x8, .int .i64 x9, .int .i64 x10, .int .i64 x11, .int .i64 x12, .int .i64 x13, .int .i64 x14, .int .i64 x15]) (.agg #[str y1, .int .i64 y2, .bool y3, str y4, .int .i64 y5, .int .i64 y6, .int .i64 y7, .int .i64 y8, .int .i64 y9, .int .i64 y10, .int .i64 y11, .int .i64 y12, .int .i64 y13, .int .i64 y14, .int .i64 y15]) = some (.bool (!decide ((⟨x1, x2, x3, x4, x5, ⟨x6, x7, x8, x9, x10⟩, ⟨x11, x12, x13, x14, x15⟩⟩ : ZoneL) = (⟨y1, y2, y3, y4, y5, ⟨y6, y7, y8, y9, y10⟩, ⟨y11, y12, y13, y14, y15⟩⟩ : ZoneL)))) := zNeq c (⟨x1, x2, x3, x4, x5, ⟨x6, x7, x8, x9, x10⟩, ⟨x11, x12, x13, x14, x15⟩⟩ : ZoneL) (⟨y1, y2, y3, y4, y5, ⟨y6, y7, y8, y9, y10⟩, ⟨y11, y12, y13, y14, y15⟩⟩ : ZoneL)
attribute [go_sem] List.extract List.drop_succ_cons List.drop_zero List.take_succ_cons List.take_zero F28' zEql' zNeq' rEql

theorem zer25 : zer Tryz.prog 25 = some (.agg #[str [], .int .i64 0, .bool false, str [], .int .i64 0, .int .i64 0, .int .i64 0, .int .i64 0, .int .i64 0, .int .i64 0, .int .i64 0, .int .i64 0, .int .i64 0, .int .i64 0, .int .i64 0]) := by kernel_rfl
theorem pls25 : placesV Tryz.prog 25 = some (plOf [(0, 1), (1, 1), (2, 1), (3, 1), (4, 1), (5, 5), (10, 5)]) := places_of Tryz.underlying25 (by kernel_rfl)
theorem bld25 (ps : List (Nat × Value)) (h : ps.all (fun p => (cellsV p.2).isSome) = true) : bldV Tryz.prog 25 ps.toArray = bldF (plOf [(0, 1), (1, 1), (2, 1), (3, 1), (4, 1), (5, 5), (10, 5)]) #[str [], .int .i64 0, .bool false, str [], .int .i64 0, .int .i64 0, .int .i64 0, .int .i64 0, .int .i64 0, .int .i64 0, .int .i64 0, .int .i64 0, .int .i64 0, .int .i64 0, .int .i64 0] ps := bld_struct zer25 pls25 ps h
attribute [go_sem] bld25 Option.isSome_some
def RuleL.ok (r : RuleL) : Bool := ruleB r.k r.mo r.we r.da r.at_
def RuleL.z : RuleL := ⟨0, 0, 0, 0, 0⟩
def ZoneL.may (z : ZoneL) : Bool := nameB z.std && inB z.off (-89999) 89999 &&
  (if z.has = true then nameB z.dst && (decide (z.ahead = z.off + 3600) || inB z.ahead (-89999) 89999) && z.from_.ok && z.to.ok else decide (z = ⟨z.std, z.off, false, [], 0, .z, .z⟩))
theorem F29' (r : RuleL) (p : Nat) (H : Heap) : F 29 #[r.v] p H = some (.returned (.bool r.ok), H) := F29 ..
attribute [-go_sem] F29
theorem F13 (z : ZoneL) (h1 : z.std.length ≤ 4611686018427387904) (h2 : z.dst.length ≤ 4611686018427387904) (p : Nat) (H : Heap) : F 13 #[z.v] p H = some (.returned (.bool z.may), H) := by
  rw [F, F_pure (f := 13) (X := X) (cl := cl) rfl rfl rfl Tryz.func13 rfl (by simp only [go_sem]), Tryz.results13]
  simp only [go_sem, F27 _ h1]
  repeat' (generalize hz : pickB _ _ _ _ _ = zz; rcases pickB_cases hz with ⟨h, rfl⟩ | ⟨h, rfl⟩ <;> clear hz <;> (try simp only [go_sem] at h) <;> simp (disch := first | (simp only [go_sem]; done) | (simp only [inB, go_sem] at *; omega)) only [go_sem, h, F27 _ h1, F27 _ h2, F29', bin_add])
  all_goals (try simp only [go_sem])
  all_goals (obtain ⟨z1, z2, z3, z4, z5, ⟨f1, f2, f3, f4, f5⟩, ⟨g1, g2, g3, g4, g5⟩⟩ := z; simp_all [ZoneL.may, RuleL.z])
end Go.AM.Z

namespace Go.AM.Z
open Go Go.AM Go.Proofs
set_option maxRecDepth 100000
theorem itoa_pos (n : Int) : 1 ≤ (Lib.itoa n).length := by
  unfold Lib.itoa
  split
  · simp
  · rw [Lib.decDigits_length]; exact Lib.nDigits_pos _
def twoL (n : Int) : List UInt8 := (Lib.itoa (n + 100)).drop 1
theorem twoL_len (n : Int) (h1 : -1000000 ≤ n) (h2 : n ≤ 1000000) : (twoL n).length ≤ 21 := by
  unfold twoL
  have := Lib.itoa_length_le (n + 100) (by omega) (by omega)
  simp
  omega
theorem F43 (n : Int) (h1 : -1000000 ≤ n) (h2 : n ≤ 1000000) (p : Nat) (H : Heap) : F 43 #[.int .i64 n] p H = some (.returned (str (twoL n)), H) := by
  rw [F, F_pure (f := 43) (X := X) (cl := cl) rfl rfl rfl Tryz.func43 rfl (by simp only [go_sem]), Tryz.results43]
  have hl : (1 : Int) ≤ (Lib.itoa (n + 100)).length := by have := itoa_pos (n + 100); omega
  simp (disch := first | omega | (simp only [go_sem]; done)) only [go_sem, bin_add, FItoa]
  rfl
def timeP (n : Int) : List UInt8 := Lib.itoa (n.tdiv 3600) ++ (if n.tmod 3600 = 0 then [] else 58 :: twoL ((n.tdiv 60).tmod 60)) ++ (if n.tmod 60 = 0 then [] else 58 :: twoL (n.tmod 60))
def timeL (n : Int) : List UInt8 := if n < 0 then 45 :: timeP (-n) else timeP n
theorem F20p (n : Int) (h1 : 0 ≤ n) (h2 : n ≤ 1000000000) (p : Nat) (H : Heap) : F 20 #[.int .i64 n] p H = some (.returned (str (timeP n)), H) := by
  rw [F, F_pure (f := 20) (X := X) (cl := cl) rfl rfl rfl Tryz.func20 rfl (by simp only [go_sem]), Tryz.results20]
  have hn : ¬ n < 0 := by omega
  have e1 : n.tdiv 3600 = n / 3600 := Int.tdiv_eq_ediv_of_nonneg h1
  have e2 : n.tdiv 60 = n / 60 := Int.tdiv_eq_ediv_of_nonneg h1
  have e3 : n.tmod 3600 = n % 3600 := Int.tmod_eq_emod_of_nonneg h1
  have e4 : n.tmod 60 = n % 60 := Int.tmod_eq_emod_of_nonneg h1
  have e5 : (n / 60).tmod 60 = n / 60 % 60 := Int.tmod_eq_emod_of_nonneg (by omega)
  have l1 := Lib.itoa_length_le (n / 3600) (by omega) (by omega)
  have l2 := twoL_len (n / 60 % 60) (by omega) (by omega)
  have l3 := twoL_len (n % 60) (by omega) (by omega)
  have q1 : -9223372036854775808 ≤ n / 3600 := by omega
  have q2 : n / 3600 ≤ 9223372036854775807 := by omega
  have d0 : (3600 : Int) ≠ 0 := by omega
  have d1 : (60 : Int) ≠ 0 := by omega
  unfold timeP
  rw [e1, e2, e3, e4, e5]
  have b1 : ∀ (c : Bool) (T : TypeId), binV Tryz.prog c .quo T (.int .i64 n) (.int .i64 3600) = some (.int .i64 (n / 3600)) := fun c T => by rw [bin_quo d0 (by omega) (by omega), e1]
  have b2 : ∀ (c : Bool) (T : TypeId), binV Tryz.prog c .quo T (.int .i64 n) (.int .i64 60) = some (.int .i64 (n / 60)) := fun c T => by rw [bin_quo d1 (by omega) (by omega), e2]
  have b3 : ∀ (c : Bool) (T : TypeId), binV Tryz.prog c .rem T (.int .i64 n) (.int .i64 3600) = some (.int .i64 (n % 3600)) := fun c T => by rw [bin_rem _ d0, e3]
  have b4 : ∀ (c : Bool) (T : TypeId), binV Tryz.prog c .rem T (.int .i64 n) (.int .i64 60) = some (.int .i64 (n % 60)) := fun c T => by rw [bin_rem _ d1, e4]
  have b5 : ∀ (c : Bool) (T : TypeId), binV Tryz.prog c .rem T (.int .i64 (n / 60)) (.int .i64 60) = some (.int .i64 (n / 60 % 60)) := fun c T => by rw [bin_rem _ d1, e5]
  simp (disch := first | omega | (simp only [go_sem]; done)) only [go_sem, hn, b1, b2, b3, b4, b5, FItoa]
  by_cases k1 : n % 3600 = 0 <;> by_cases k2 : n % 60 = 0 <;>
    simp (disch := first | omega | (simp only [List.length_append, List.length_cons, List.length_nil, List.cons_append, List.nil_append]; omega) | (simp only [go_sem]; done)) only [go_sem, k1, k2, b1, b2, b3, b4, b5, F43, str_add, List.append_nil]
theorem timeP_len (n : Int) (h1 : 0 ≤ n) (h2 : n ≤ 1000000000) : (timeP n).length ≤ 100 := by
  have e1 : n.tdiv 3600 = n / 3600 := Int.tdiv_eq_ediv_of_nonneg h1
  have e2 : n.tdiv 60 = n / 60 := Int.tdiv_eq_ediv_of_nonneg h1
  have e4 : n.tmod 60 = n % 60 := Int.tmod_eq_emod_of_nonneg h1
  have e5 : (n / 60).tmod 60 = n / 60 % 60 := Int.tmod_eq_emod_of_nonneg (by omega)
  have l1 := Lib.itoa_length_le (n / 3600) (by omega) (by omega)
  have l2 := twoL_len (n / 60 % 60) (by omega) (by omega)
  have l3 := twoL_len (n % 60) (by omega) (by omega)
  unfold timeP
  rw [e1, e2, e4, e5]
  simp only [List.length_append]
  split <;> split <;> simp only [List.length_cons, List.length_nil] <;> omega
theorem F20 (n : Int) (h1 : -1000000000 ≤ n) (h2 : n ≤ 1000000000) (p : Nat) (H : Heap) : F 20 #[.int .i64 n] p H = some (.returned (str (timeL n)), H) := by
  by_cases hn : n < 0
  · rw [F, F_pure (f := 20) (X := X) (cl := cl) rfl rfl rfl Tryz.func20 rfl (by simp only [go_sem]), Tryz.results20]
    have hl := timeP_len (-n) (by omega) (by omega)
    simp (disch := first | omega | (simp only [List.length_append, List.length_cons, List.length_nil, List.cons_append, List.nil_append]; omega) | (simp only [go_sem]; done)) only [go_sem, hn, un_neg, F20p, str_add]
    rw [timeL, if_pos hn]
  · rw [F20p n (by omega) h2, timeL, if_neg hn]
end Go.AM.Z

namespace Go.AM.Z
open Go Go.AM Go.Proofs
set_option maxRecDepth 100000
theorem FMap (s : List UInt8) (h : s.length < 35184372088832) (ha : (s.all fun b => decide (b.toNat < 128)) = true) (p : Nat) (H : Heap) : F 39 #[.func (.func 40) #[] #[], str s] p H = some (.returned (str (Lib.mapD dropL s)), H) := by
  rw [F, F_ext (f := 39) (X := X) rfl]
  exact exG_some _ _ (by unfold gMap; exact if_pos ⟨h, ha⟩)
def namedL (s : List UInt8) : List UInt8 := if Lib.mapD dropL s = [] then s else 60 :: (s ++ [62])
theorem F19 (s : List UInt8) (h : s.length ≤ 1000) (hm : (Lib.mapD dropL s).length ≤ 9223372036854775807) (ha : (s.all fun b => decide (b.toNat < 128)) = true) (p : Nat) (H : Heap) : F 19 #[str s] p H = some (.returned (str (namedL s)), H) := by
  rw [F, F_pure (f := 19) (X := X) (cl := cl) rfl rfl rfl Tryz.func19 rfl (by simp only [go_sem]), Tryz.results19]
  simp only [go_sem, FMap s (by omega) ha, F38 _ hm]
  by_cases hq : Lib.mapD dropL s = []
  · simp only [go_sem, hq]
    rw [namedL, if_pos hq]
  · simp (disch := first | omega | (simp only [List.length_append, List.length_cons, List.length_nil, List.cons_append, List.nil_append]; omega) | (simp only [go_sem]; done)) only [go_sem, hq, str_add]
    rw [namedL, if_neg hq]
def numL (n : Int) : List UInt8 := Lib.itoa n
def dayL (r : RuleL) : List UInt8 := (if r.k = 0 then 74 :: numL r.da else if r.k = 1 then numL r.da else 77 :: (numL r.mo ++ 46 :: (numL r.we ++ 46 :: numL r.da))) ++ (if r.at_ = 7200 then [] else 47 :: timeL r.at_)
theorem fin_scope {P : Program} {cl : FuncId → Nat} {X : Exts} {c : Code} {p : Nat} {s : St} {H : Heap} {rs : Array ResultVar} {z : Option (Ending × Heap)} (h : ∃ y, scopeGo (limR P cl X) p c 2 c s = some y ∧ purely H (finish P false rs [] (some y)) = z) : purely H (finish P false rs [] (limR P cl X (.scope c) p s)) = z := by
  obtain ⟨y, h1, h2⟩ := h
  rw [E_scope 2 h1]
  exact h2
theorem scope_of {P : Program} {cl : FuncId → Nat} {X : Exts} {c : Code} {p : Nat} {s : St} {y z : Exit × St} (h : scopeGo (limR P cl X) p c 2 c s = some y) (hz : y = z) : limR P cl X (.scope c) p s = some z := hz ▸ E_scope 2 h
theorem cl42 : cl 42 = 1 := (rfl)
attribute [go_sem] cl42
theorem F21 (r : RuleL) (h : r.ok = true) (p : Nat) (H : Heap) : F 21 #[r.v] p H = some (.returned (str (dayL r)), H) := by
  rw [F, F_pure (f := 21) (X := X) (cl := cl) rfl rfl rfl Tryz.func21 rfl (by simp only [go_sem]), Tryz.results21]
  have hb : (-604799 ≤ r.at_ ∧ r.at_ ≤ 604799 ∧ 0 ≤ r.da ∧ r.da ≤ 365) ∧ (r.k = 0 ∨ r.k = 1 ∨ (¬ r.k = 0 ∧ ¬ r.k = 1 ∧ 1 ≤ r.mo ∧ r.mo ≤ 12 ∧ 1 ≤ r.we ∧ r.we ≤ 5)) := by
    simp only [RuleL.ok, ruleB, inB, Bool.and_eq_true, Bool.or_eq_true, decide_eq_true_eq] at h
    omega
  obtain ⟨hb, hk⟩ := hb
  simp only [go_sem]
  refine fin_scope ?_
  have l1 := Lib.itoa_length_le r.da (by omega) (by omega)
  have l5 : (timeL r.at_).length ≤ 101 := by
    unfold timeL
    split
    · have := timeP_len (-r.at_) (by omega) (by omega)
      simp only [List.length_cons]
      omega
    · have := timeP_len r.at_ (by omega) (by omega)
      omega
  rcases hk with k0 | k1 | ⟨k0, k1, m1, m2, m3, m4⟩
  · by_cases ka : r.at_ = 7200 <;>
      simp (disch := first | omega | (simp only [List.length_append, List.length_cons, List.length_nil, List.cons_append, List.nil_append]; omega) | (simp only [go_sem]; done)) only [scopeGo, findLabel, go_sem, k0, ka, FItoa, F20, str_add] <;>
      exact ⟨_, rfl, by simp only [go_sem]; simp [dayL, numL, k0, ka]⟩
  · have k0 : ¬ r.k = 0 := by omega
    by_cases ka : r.at_ = 7200 <;>
      simp (disch := first | omega | (simp only [List.length_append, List.length_cons, List.length_nil, List.cons_append, List.nil_append]; omega) | (simp only [go_sem]; done)) only [scopeGo, findLabel, go_sem, k1, ka, FItoa, F20, str_add] <;>
      exact ⟨_, rfl, by simp only [go_sem]; simp [dayL, numL, k1, ka]⟩
  · have l2 := Lib.itoa_length_le r.mo (by omega) (by omega)
    have l3 := Lib.itoa_length_le r.we (by omega) (by omega)
    by_cases ka : r.at_ = 7200 <;>
      simp (disch := first | omega | (simp only [List.length_append, List.length_cons, List.length_nil, List.cons_append, List.nil_append]; omega) | (simp only [go_sem]; done)) only [scopeGo, findLabel, go_sem, k0, k1, ka, FItoa, F20, str_add] <;>
      exact ⟨_, rfl, by simp only [go_sem]; simp [dayL, numL, k0, k1, ka]⟩
end Go.AM.Z

namespace Go.AM.Z
open Go Go.AM Go.Proofs
set_option maxRecDepth 100000
theorem okC_tab : ∀ n : Fin 256, okC (UInt8.ofNat n.val) = true → n.val < 128 := by decide +kernel
theorem okC_ascii (c : UInt8) (h : okC c = true) : c.toNat < 128 := by
  have := okC_tab ⟨c.toNat, c.toNat_lt⟩
  simp only [UInt8.ofNat_toNat] at this
  exact this h
theorem name_ascii {s : List UInt8} (h : nameB s = true) : (s.all fun b => decide (b.toNat < 128)) = true ∧ s.length ≤ 10 := by
  simp only [nameB, inB, Bool.and_eq_true, List.all_eq_true, decide_eq_true_eq] at h
  refine ⟨?_, by omega⟩
  rw [List.all_eq_true]
  intro b hb
  simpa using okC_ascii b (h.1 b hb)
theorem mapGo_ascii : ∀ (n : Nat) (l : List UInt8), l.length ≤ n → (∀ b ∈ l, b.toNat < 128) → Lib.mapGoD dropL n l = l.filter fun b => !letterI b.toNat
  | 0, l, hl, _ => by
    cases l with
    | nil => rfl
    | cons a l => simp at hl
  | n + 1, [], _, _ => by rw [Lib.mapGoD, if_pos rfl]; rfl
  | n + 1, b :: l, hl, ha => by
    have hb := ha b (by simp)
    have hd : Lib.decodeL (b :: l) = (b.toNat, 1) := dec_ascii (s := b :: l) (pos := 0) rfl hb
    rw [Lib.mapGoD, if_neg (by simp), hd]
    have ih := mapGo_ascii n l (by simpa using hl) fun x hx => ha x (by simp [hx])
    show (if 0 ≤ dropL (b.toNat : Int) then Lib.encodeRune (dropL (b.toNat : Int)) else []) ++ Lib.mapGoD dropL n l = _
    rw [ih, List.filter_cons]
    cases hq : letterI (b.toNat : Int) with
    | true =>
      have : dropL (b.toNat : Int) = -1 := by unfold dropL; rw [if_pos hq]
      rw [this, if_neg (by omega)]
      simp
    | false =>
      have : dropL (b.toNat : Int) = b.toNat := by unfold dropL; rw [if_neg (by simp [hq])]
      rw [this, if_pos (by omega)]
      unfold Lib.encodeRune
      rw [Lib.encodeRuneZ_one (by omega) (by omega)]
      simp
theorem mapD_name {s : List UInt8} (h : nameB s = true) : Lib.mapD dropL s = s.filter fun b => !letterI b.toNat := by
  have := (name_ascii h).1
  rw [List.all_eq_true] at this
  exact mapGo_ascii _ _ (Nat.le_refl _) fun b hb => by simpa using this b hb
theorem mapD_len (s : List UInt8) (h : nameB s = true) : (Lib.mapD dropL s).length ≤ 10 := by
  rw [mapD_name h]
  have := List.length_filter_le (fun b => !letterI (UInt8.toNat b : Int)) s
  have := (name_ascii h).2
  omega
theorem timeL_len (n : Int) (h1 : -1000000000 ≤ n) (h2 : n ≤ 1000000000) : (timeL n).length ≤ 101 := by
  unfold timeL
  split
  · have := timeP_len (-n) (by omega) (by omega)
    simp only [List.length_cons]
    omega
  · have := timeP_len n (by omega) (by omega)
    omega
theorem namedL_len (s : List UInt8) (h : nameB s = true) : (namedL s).length ≤ 12 := by
  have := (name_ascii h).2
  unfold namedL
  split
  · omega
  · simp only [List.length_cons, List.length_append, List.length_nil]; omega
theorem dayL_len (r : RuleL) (h : r.ok = true) : (dayL r).length ≤ 200 := by
  have hb : (-604799 ≤ r.at_ ∧ r.at_ ≤ 604799 ∧ 0 ≤ r.da ∧ r.da ≤ 365) ∧ (r.k = 0 ∨ r.k = 1 ∨ (1 ≤ r.mo ∧ r.mo ≤ 12 ∧ 1 ≤ r.we ∧ r.we ≤ 5)) := by
    simp only [RuleL.ok, ruleB, inB, Bool.and_eq_true, Bool.or_eq_true, decide_eq_true_eq] at h
    omega
  obtain ⟨hb, hk⟩ := hb
  have l1 := Lib.itoa_length_le r.da (by omega) (by omega)
  have l5 := timeL_len r.at_ (by omega) (by omega)
  unfold dayL numL
  by_cases k0 : r.k = 0 <;> by_cases k1 : r.k = 1 <;> by_cases ka : r.at_ = 7200
  all_goals (try (exfalso; omega))
  all_goals (try (have l2 := Lib.itoa_length_le r.mo (by omega) (by omega); have l3 := Lib.itoa_length_le r.we (by omega) (by omega)))
  all_goals (simp [k0, k1, ka]; omega)
def writeL (z : ZoneL) : List UInt8 := namedL z.std ++ timeL (-z.off) ++ (if z.has = true then namedL z.dst ++ (if z.ahead = z.off + 3600 then [] else timeL (-z.ahead)) ++ 44 :: (dayL z.from_ ++ 44 :: dayL z.to) else [])
theorem F21' (r : RuleL) (h : r.ok = true) (p : Nat) (H : Heap) : F 21 #[.agg #[.int .i64 r.k, .int .i64 r.mo, .int .i64 r.we, .int .i64 r.da, .int .i64 r.at_]] p H = some (.returned (str (dayL r)), H) := F21 r h p H
theorem F10 (z : ZoneL) (h1 : z.std.length ≤ 4611686018427387904) (h2 : z.dst.length ≤ 4611686018427387904) (p : Nat) (H : Heap) : F 10 #[z.v] p H = some (.returned (.tuple (if z.may = true then #[str (writeL z), .int .i64 0] else #[str [], .int .i64 1])), H) := by
  rw [F, F_pure (f := 10) (X := X) (cl := cl) rfl rfl rfl Tryz.func10 rfl (by simp only [go_sem]), Tryz.results10]
  cases hm : z.may with
  | false =>
    simp only [go_sem, F13 z h1 h2, hm]
  | true =>
    have hm' := hm
    simp only [ZoneL.may, Bool.and_eq_true] at hm'
    obtain ⟨⟨n1, n2⟩, n3⟩ := hm'
    simp only [inB, Bool.and_eq_true, decide_eq_true_eq] at n2
    obtain ⟨a1, a2⟩ := name_ascii n1
    have a3 := mapD_len _ n1
    have a4 := namedL_len _ n1
    have a5 := timeL_len (-z.off) (by omega) (by omega)
    have u : ∀ n : Int, n = n := fun _ => rfl
    simp only [go_sem, F13 z h1 h2, hm]
    cases hh : z.has with
    | false =>
      simp (disch := first | omega | assumption | (simp only [List.length_append, List.length_cons, List.length_nil, List.cons_append, List.nil_append]; omega) | (simp only [go_sem]; done)) only [go_sem, hh, F19, F20, un_neg, str_add]
      simp [writeL, hh]
    | true =>
      rw [if_pos hh] at n3
      simp only [Bool.and_eq_true] at n3
      obtain ⟨⟨⟨n3, n4⟩, n5⟩, n6⟩ := n3
      obtain ⟨b1, b2⟩ := name_ascii n3
      have b3 := mapD_len _ n3
      have b4 := namedL_len _ n3
      have hah : -1000000 ≤ z.ahead ∧ z.ahead ≤ 1000000 := by
        simp only [inB, Bool.or_eq_true, Bool.and_eq_true, decide_eq_true_eq] at n4
        omega
      have b5 := timeL_len (-z.ahead) (by omega) (by omega)
      have b6 := dayL_len _ n5
      have b7 := dayL_len _ n6
      by_cases ha : z.ahead = z.off + 3600
      · have ha' : (z.off + 3600 = z.off + 3600) := rfl
        simp (disch := first | omega | assumption | (simp only [List.length_append, List.length_cons, List.length_nil, List.cons_append, List.nil_append]; omega) | (simp only [go_sem]; done)) only [go_sem, hh, F19, F20, un_neg, str_add, bin_add, ha, F21']
        simp [writeL, hh, ha]
      · simp (disch := first | omega | assumption | (simp only [List.length_append, List.length_cons, List.length_nil, List.cons_append, List.nil_append]; omega) | (simp only [go_sem]; done)) only [go_sem, hh, F19, F20, un_neg, str_add, bin_add, ha, F21']
        simp [writeL, hh, ha]
end Go.AM.Z

namespace Go.AM.Z
open Go Go.AM Go.Proofs
set_option maxRecDepth 100000
theorem cutAt_len (set s : List UInt8) : ∀ (k pos : Nat), (cutAt set s k pos).length ≤ s.length
  | 0, _ => by simp [cutAt]
  | k + 1, pos => by
    rw [cutAt]
    split
    · split
      · exact cutAt_len set s k _
      · simp
    · simp
theorem cutL_len (set s : List UInt8) : (cutL set s).length ≤ s.length := cutAt_len set s _ _
theorem F50 (s set : List UInt8) (hset : ∀ b ∈ set, b.toNat < 128) (hs : s.length ≤ 1000000) (p : Nat) (H : Heap) : F 50 #[str s, str set] p H = some (.returned (.tuple #[str (s.take (s.length - (cutL set s).length)), str (cutL set s)]), H) := by
  rw [F, F_pure (f := 50) (X := X) (cl := cl) rfl rfl rfl Tryz.func50 rfl (by simp only [go_sem]), Tryz.results50]
  have hl := cutL_len set s
  have e : ((s.length : Int) - (cutL set s).length).toNat = s.length - (cutL set s).length := by omega
  simp (disch := first | omega | (simp only [go_sem]; done)) only [go_sem, F61 _ _ hset, bin_sub, e]
theorem indexByte_lt (c : UInt8) : ∀ (l : List UInt8), Lib.indexByte l c < l.length ∨ l = []
  | [] => .inr rfl
  | b :: l => by
    left
    have ge := Lib.indexByte_ge l c
    unfold Lib.indexByte
    rcases indexByte_lt c l with h | h
    · split
      · simp
      · split
        · simp; omega
        · simp; omega
    · subst h
      simp [Lib.indexByte]
      split <;> omega
theorem indexByte_lt' (l : List UInt8) (c : UInt8) (h : 0 ≤ Lib.indexByte l c) : Lib.indexByte l c < l.length := by
  rcases indexByte_lt c l with h1 | h1
  · exact h1
  · subst h1; simp [Lib.indexByte] at h
theorem F74 (s : List UInt8) (c : UInt8) (hs : s.length ≤ 1000000) (p : Nat) (H : Heap) : F 74 #[str s, str [c]] p H = some (.returned (.tuple (if 0 ≤ Lib.indexByte s c then #[str (s.take (Lib.indexByte s c).toNat), str (s.drop ((Lib.indexByte s c).toNat + 1)), .bool true] else #[str s, str [], .bool false])), H) := by
  rw [F, F_pure (f := 74) (X := X) (cl := cl) rfl rfl rfl Tryz.func74 rfl (by simp only [go_sem]), Tryz.results74]
  by_cases h : 0 ≤ Lib.indexByte s c
  · have hi := indexByte_lt' s c h
    have e : (Lib.indexByte s c + 1).toNat = (Lib.indexByte s c).toNat + 1 := by omega
    simp (disch := first | omega | (simp only [go_sem]; done)) only [go_sem, h, bin_add, e]
  · simp only [go_sem, h]
attribute [go_sem] F74
theorem F49 (s : List UInt8) (c : UInt8) (hs : s.length ≤ 1000000) (p : Nat) (H : Heap) : F 49 #[str s, str [c]] p H = some (.returned (.tuple (if 0 ≤ Lib.indexByte s c then #[str (s.take (Lib.indexByte s c).toNat), str (s.drop ((Lib.indexByte s c).toNat + 1)), .bool true] else #[str s, str [], .bool false])), H) := by
  rw [F, F_pure (f := 49) (X := X) (cl := cl) rfl rfl rfl Tryz.func49 rfl (by simp only [go_sem]), Tryz.results49]
  by_cases h : 0 ≤ Lib.indexByte s c
  · simp only [go_sem, hs, h]
  · simp only [go_sem, hs, h]
end Go.AM.Z

namespace Go.AM.Z
open Go Go.AM Go.Proofs
set_option maxRecDepth 100000
def lettersL : List UInt8 := [65, 66, 67, 68, 69, 70, 71, 72, 73, 74, 75, 76, 77, 78, 79, 80, 81, 82, 83, 84, 85, 86, 87, 88, 89, 90, 97, 98, 99, 100, 101, 102, 103, 104, 105, 106, 107, 108, 109, 110, 111, 112, 113, 114, 115, 116, 117, 118, 119, 120, 121, 122]
def timeSet : List UInt8 := [48, 49, 50, 51, 52, 53, 54, 55, 56, 57, 45, 58]
theorem letters_ascii : ∀ b ∈ lettersL, b.toNat < 128 := by decide +kernel
theorem timeSet_ascii : ∀ b ∈ timeSet, b.toNat < 128 := by decide +kernel
def pre (set s : List UInt8) : List UInt8 := s.take (s.length - (cutL set s).length)
def takeNameL (s : List UInt8) : List UInt8 × List UInt8 := if ([60] : List UInt8).isPrefixOf s = true then
    (if 0 ≤ Lib.indexByte (s.drop 1) 62 then ((s.drop 1).take (Lib.indexByte (s.drop 1) 62).toNat, (s.drop 1).drop ((Lib.indexByte (s.drop 1) 62).toNat + 1)) else (s.drop 1, []))
  else (pre lettersL s, cutL lettersL s)
theorem F30 (s : List UInt8) (hs : s.length ≤ 1000000) (p : Nat) (H : Heap) : F 30 #[str s] p H = some (.returned (.tuple #[str (takeNameL s).1, str (takeNameL s).2]), H) := by
  rw [F, F_pure (f := 30) (X := X) (cl := cl) rfl rfl rfl Tryz.func30 rfl (by simp only [go_sem]), Tryz.results30]
  have h50 := F50 s lettersL letters_ascii hs
  simp only [lettersL] at h50
  have hd : (s.drop 1).length ≤ 1000000 := by simp; omega
  cases hq : ([60] : List UInt8).isPrefixOf s with
  | true =>
    by_cases h : 0 ≤ Lib.indexByte (s.drop 1) 62
    · simp only [go_sem, hq, F49 _ _ hd, h]
      rw [takeNameL, if_pos hq, if_pos h]
    · simp only [go_sem, hq, F49 _ _ hd, h]
      rw [takeNameL, if_pos hq, if_neg h]
  | false =>
    simp only [go_sem, hq, h50]
    rw [takeNameL, if_neg (by simp [hq])]
    simp only [pre, lettersL]
end Go.AM.Z

namespace Go.AM.Z
open Go Go.AM Go.Proofs
set_option maxRecDepth 100000
theorem F44 (c : Int) (p : Nat) (H : Heap) : F 44 #[.int .u8 c] p H = some (.returned (.bool (letterI c)), H) := by
  rw [F, F_pure (f := 44) (X := X) (cl := cl) rfl rfl rfl Tryz.func44 rfl (by simp only [go_sem]), Tryz.results44]
  simp only [go_sem]
  repeat' (generalize hz : pickB _ _ _ _ _ = z; rcases pickB_cases hz with ⟨h, rfl⟩ | ⟨h, rfl⟩ <;> clear hz <;> (try simp only [go_sem] at h) <;> simp only [go_sem, h])
  all_goals (simp_all [letterI] <;> (intros; omega))
theorem F26 (n : Int) (p : Nat) (H : Heap) : F 26 #[.int .i64 n] p H = some (.returned (.bool (inB n (-89999) 89999)), H) := by
  rw [F, F_pure (f := 26) (X := X) (cl := cl) rfl rfl rfl Tryz.func26 rfl (by simp only [go_sem]), Tryz.results26]
  simp only [go_sem]
  repeat' (generalize hz : pickB _ _ _ _ _ = z; rcases pickB_cases hz with ⟨h, rfl⟩ | ⟨h, rfl⟩ <;> clear hz <;> (try simp only [go_sem] at h) <;> simp only [go_sem, h])
  all_goals (simp_all [inB] <;> (intros; omega))
end Go.AM.Z
namespace Go.AM.Z
open Go Go.AM Go.Proofs
set_option maxRecDepth 100000
attribute [go_sem] F44 F26
def signI (c : Int) : Bool := letterI c || (decide (48 ≤ c) && decide (c ≤ 57)) || decide (c = 43) || decide (c = 45)
theorem F46 (c : Int) (p : Nat) (H : Heap) : F 46 #[.int .u8 c] p H = some (.returned (.bool (signI c)), H) := by
  rw [F, F_pure (f := 46) (X := X) (cl := cl) rfl rfl rfl Tryz.func46 rfl (by simp only [go_sem]), Tryz.results46]
  simp only [go_sem]
  repeat' (generalize hz : pickB _ _ _ _ _ = z; rcases pickB_cases hz with ⟨h, rfl⟩ | ⟨h, rfl⟩ <;> clear hz <;> (try simp only [go_sem] at h) <;> simp only [go_sem, h])
  all_goals (simp_all [signI] <;> (intros; omega))
theorem F17 (r : RuleL) (p : Nat) (H : Heap) : F 17 #[r.v] p H = some (.returned (.bool r.ok), H) := by
  rw [F, F_pure (f := 17) (X := X) (cl := cl) rfl rfl rfl Tryz.func17 rfl (by simp only [go_sem]), Tryz.results17]
  simp only [go_sem]
  repeat' (generalize hz : pickB _ _ _ _ _ = z; rcases pickB_cases hz with ⟨h, rfl⟩ | ⟨h, rfl⟩ <;> clear hz <;> (try simp only [go_sem] at h) <;> simp only [go_sem, h])
  all_goals (simp_all [RuleL.ok, ruleB, inB] <;> (intros; omega))
end Go.AM.Z

namespace Go.AM.Z
open Go Go.AM Go.Proofs
set_option maxRecDepth 100000
attribute [go_sem] F46 F17
theorem F25 (s : List UInt8) (hs : s.length ≤ 4611686018427387904) (p : Nat) (H : Heap) : F 25 #[str s] p H = some (.returned (.bool ((s.all fun b => signI b.toNat) && inB s.length 3 10)), H) := by
  rw [F, F_pure (f := 25) (X := X) (cl := cl) rfl rfl rfl Tryz.func25 rfl (by simp only [go_sem]), Tryz.results25]
  simp only [go_sem]
  generalize hL : Code.loop _ = L
  have key : ∀ (k i : Nat) (t : Nat → Value) (H : Heap), i + k = s.length → t 0 = str s → t 3 = .int .i64 i →
      ∃ e t', limR Tryz.prog cl X L 0 ⟨t, [], H⟩ = some (e, ⟨t', [], H⟩) ∧ ((e = .exit 0 ∧ ((s.drop i).all fun b => signI b.toNat) = true ∧ t' 0 = str s) ∨ (e = .ret ∧ ((s.drop i).all fun b => signI b.toNat) = false ∧ t' 2 = .bool false)) := by
    intro k
    induction k with
    | zero =>
      intro i t H hi h0 h3
      rw [← hL, E_loop, hL]
      have hlt : ¬ (i : Int) < s.length := by omega
      simp only [go_sem, h0, h3, hlt]
      refine ⟨_, _, rfl, .inl ⟨rfl, ?_, ?_⟩⟩
      · rw [List.drop_of_length_le (by omega)]; rfl
      · simp only [go_sem, h0]
    | succ k ih =>
      intro i t H hi h0 h3
      rw [← hL, E_loop, hL]
      have hn : i < s.length := by omega
      have hlt : (i : Int) < s.length := by omega
      have hd : s[i]? = some s[i] := List.getElem?_eq_getElem hn
      have hall : ((s.drop i).all fun b => signI b.toNat) = (signI s[i].toNat && (s.drop (i + 1)).all fun b => signI b.toNat) := by
        rw [List.drop_eq_getElem_cons hn, List.all_cons]
      have hix : idxV Tryz.prog 9 (str s) (.int .i64 i) = some (.int .u8 s[i].toNat) := ix9 (by omega) (by rw [Int.toNat_natCast]; exact hd)
      cases hc : signI s[i].toNat with
      | true =>
        simp (disch := first | omega | (simp only [go_sem]; done)) only [go_sem, h0, h3, hlt, bin_add, hix, hc]
        generalize hT : upd _ 3 _ = T
        obtain ⟨e, t', k1, k2⟩ := ih (i + 1) T H (by omega) (by rw [← hT]; simp only [go_sem, h0]) (by rw [← hT]; simp only [go_sem] <;> rfl)
        refine ⟨e, t', k1, ?_⟩
        rw [hall, hc, Bool.true_and]
        exact k2
      | false =>
        simp (disch := first | omega | (simp only [go_sem]; done)) only [go_sem, h0, h3, hlt, bin_add, hix, hc]
        refine ⟨_, _, rfl, .inr ⟨rfl, by rw [hall, hc]; rfl, ?_⟩⟩
        simp only [go_sem]
  generalize hT : upd _ 3 _ = T
  obtain ⟨e, t', k1, k2⟩ := key s.length 0 T [] (by omega) (by rw [← hT]; simp only [go_sem]) (by rw [← hT]; simp only [go_sem] <;> rfl)
  rw [k1]
  rw [← List.drop_zero (l := s)]
  simp only [List.drop_zero] at k2 ⊢
  rcases k2 with ⟨rfl, k2, k3⟩ | ⟨rfl, k2, k3⟩
  · by_cases hq : (3 : Int) ≤ s.length
    · simp only [go_sem, k3, k2, hq, inB]
    · simp only [go_sem, k3, k2, hq, inB]
  · simp only [go_sem, k3, k2]
end Go.AM.Z

namespace Go.AM.Z
open Go Go.AM Go.Proofs
set_option maxRecDepth 100000
theorem okC_eq_tab : ∀ n : Fin 256, okC (UInt8.ofNat n.val) = signI n.val := by decide +kernel
theorem okC_eq (c : UInt8) : okC c = signI c.toNat := by
  have := okC_eq_tab ⟨c.toNat, c.toNat_lt⟩
  simpa only [UInt8.ofNat_toNat] using this
theorem name_eq (s : List UInt8) : nameB s = ((s.all fun b => signI b.toNat) && inB s.length 3 10) := by
  unfold nameB
  congr 2
  funext b
  exact okC_eq b
theorem F25' (s : List UInt8) (hs : s.length ≤ 4611686018427387904) (p : Nat) (H : Heap) : F 25 #[str s] p H = some (.returned (.bool (nameB s)), H) := by rw [name_eq]; exact F25 s hs p H
theorem F17' (r : RuleL) (p : Nat) (H : Heap) : F 17 #[.agg #[.int .i64 r.k, .int .i64 r.mo, .int .i64 r.we, .int .i64 r.da, .int .i64 r.at_]] p H = some (.returned (.bool r.ok), H) := F17 r p H
attribute [-go_sem] F17
attribute [go_sem] F17' 
theorem zer23 : zer Tryz.prog 23 = some (.agg #[.int .i64 0, .int .i64 0, .int .i64 0, .int .i64 0, .int .i64 0]) := by kernel_rfl
theorem pls23 : placesV Tryz.prog 23 = some (plOf [(0, 1), (1, 1), (2, 1), (3, 1), (4, 1)]) := places_of Tryz.underlying23 (by kernel_rfl)
theorem bld23 (ps : List (Nat × Value)) (h : ps.all (fun p => (cellsV p.2).isSome) = true) : bldV Tryz.prog 23 ps.toArray = bldF (plOf [(0, 1), (1, 1), (2, 1), (3, 1), (4, 1)]) #[.int .i64 0, .int .i64 0, .int .i64 0, .int .i64 0, .int .i64 0] ps := bld_struct zer23 pls23 ps h
theorem rEql' (c : Bool) (a1 a2 a3 a4 a5 b1 b2 b3 b4 b5 : Int) : binV Tryz.prog c .eql 23 (.agg #[.int .i64 a1, .int .i64 a2, .int .i64 a3, .int .i64 a4, .int .i64 a5]) (.agg #[.int .i64 b1, .int .i64 b2, .int .i64 b3, .int .i64 b4, .int .i64 b5]) = some (.bool (decide ((⟨a1, a2, a3, a4, a5⟩ : RuleL) = ⟨b1, b2, b3, b4, b5⟩))) := rEql c ⟨a1, a2, a3, a4, a5⟩ ⟨b1, b2, b3, b4, b5⟩
theorem bld23e : bldV Tryz.prog 23 #[] = some (.agg #[.int .i64 0, .int .i64 0, .int .i64 0, .int .i64 0, .int .i64 0]) := by
  have h := bld23 [] rfl
  simp only [go_sem] at h
  exact h
attribute [go_sem] bld23 bld23e rEql'
theorem F12 (z : ZoneL) (h1 : z.std.length ≤ 4611686018427387904) (h2 : z.dst.length ≤ 4611686018427387904) (p : Nat) (H : Heap) : F 12 #[z.v] p H = some (.returned (.bool z.may), H) := by
  rw [F, F_pure (f := 12) (X := X) (cl := cl) rfl rfl rfl Tryz.func12 rfl (by simp only [go_sem]), Tryz.results12]
  simp only [go_sem, F25' _ h1]
  repeat' (generalize hz : pickB _ _ _ _ _ = zz; rcases pickB_cases hz with ⟨h, rfl⟩ | ⟨h, rfl⟩ <;> clear hz <;> (try simp only [go_sem] at h) <;> simp (disch := first | (simp only [go_sem]; done) | (simp only [inB, go_sem] at *; omega)) only [go_sem, h, F25' _ h1, F25' _ h2, bin_add])
  all_goals (obtain ⟨z1, z2, z3, z4, z5, ⟨f1, f2, f3, f4, f5⟩, ⟨g1, g2, g3, g4, g5⟩⟩ := z; simp_all [ZoneL.may, RuleL.z])
end Go.AM.Z

namespace Go.AM.Z
open Go Go.AM Go.Proofs
set_option maxRecDepth 100000
theorem dig (m : Int) : ((([48, 49, 50, 51, 52, 53, 54, 55, 56, 57] : List UInt8).drop (m % 10).toNat).take ((m % 10 + 1).toNat - (m % 10).toNat)) = [UInt8.ofNat (48 + (m % 10).toNat)] := by
  have h : m % 10 = 0 ∨ m % 10 = 1 ∨ m % 10 = 2 ∨ m % 10 = 3 ∨ m % 10 = 4 ∨ m % 10 = 5 ∨ m % 10 = 6 ∨ m % 10 = 7 ∨ m % 10 = 8 ∨ m % 10 = 9 := by omega
  rcases h with h | h | h | h | h | h | h | h | h | h <;> rw [h] <;> rfl
theorem dec_step (m : Nat) (out : List UInt8) (h : m ≠ 0) : Lib.decDigits m ++ out = (if m / 10 = 0 then [] else Lib.decDigits (m / 10)) ++ UInt8.ofNat (48 + m % 10) :: out := by
  by_cases h9 : m < 10
  · rw [Lib.decDigits, dif_pos h9, if_pos (by omega), show m % 10 = m by omega]; rfl
  · rw [Lib.decDigits, dif_neg h9, if_neg (by omega)]; simp
theorem F16 (n : Int) (h0 : 0 ≤ n) (h1 : n ≤ 1000000000) (p : Nat) (H : Heap) : F 16 #[.int .i64 n] p H = some (.returned (str (Lib.itoa n)), H) := by
  rw [F, F_pure (f := 16) (X := X) (cl := cl) rfl rfl rfl Tryz.func16 rfl (by simp only [go_sem]), Tryz.results16]
  have d0 : (10 : Int) ≠ 0 := by omega
  have b1 : ∀ (m : Int) (c : Bool) (T : TypeId), 0 ≤ m → m ≤ 1000000000 → binV Tryz.prog c .rem T (.int .i64 m) (.int .i64 10) = some (.int .i64 (m % 10)) := fun m c T h1 h2 => by rw [bin_rem _ d0, Int.tmod_eq_emod_of_nonneg h1]
  have b2 : ∀ (m : Int) (c : Bool) (T : TypeId), 0 ≤ m → m ≤ 1000000000 → binV Tryz.prog c .quo T (.int .i64 m) (.int .i64 10) = some (.int .i64 (m / 10)) := fun m c T h1 h2 => by
    have e : m.tdiv 10 = m / 10 := Int.tdiv_eq_ediv_of_nonneg h1
    rw [bin_quo d0 (by omega) (by omega), e]
  simp (disch := first | omega | (simp only [go_sem]; done) | (simp only [List.length_cons, List.length_nil]; omega)) only [go_sem, b1, b2, bin_add, dig]
  generalize hL : Code.loop _ = L
  have key : ∀ (k m : Nat) (out : List UInt8) (t : Nat → Value) (H : Heap), m ≤ k → m ≤ 1000000000 → out.length + k ≤ 2000000000 → t 0 = .int .i64 m → t 3 = str out →
      ∃ t', limR Tryz.prog cl X L 0 ⟨t, [], H⟩ = some (.exit 0, ⟨t', [], H⟩) ∧ t' 3 = str ((if m = 0 then [] else Lib.decDigits m) ++ out) := by
    intro k
    induction k with
    | zero =>
      intro m out t H hk hm ho g0 g3
      rw [← hL, E_loop, hL]
      have e : ¬ (0 : Int) < m := by omega
      simp only [go_sem, g0, g3, e]
      refine ⟨_, rfl, ?_⟩
      simp only [go_sem, g3]
      rw [if_pos (by omega)]; rfl
    | succ k ih =>
      intro m out t H hk hm ho g0 g3
      rw [← hL, E_loop, hL]
      by_cases hz : m = 0
      · have e : ¬ (0 : Int) < m := by omega
        simp only [go_sem, g0, g3, e]
        refine ⟨_, rfl, ?_⟩
        simp only [go_sem, g3]
        rw [if_pos hz]; rfl
      · have e : (0 : Int) < m := by omega
        simp (disch := first | omega | (simp only [go_sem]; done) | (simp only [List.length_cons, List.length_nil]; omega)) only [go_sem, g0, g3, e, b1, b2, bin_add, dig, str_add]
        generalize hT : upd _ 0 _ = T
        obtain ⟨t', k1, k2⟩ := ih (m / 10) (UInt8.ofNat (48 + m % 10) :: out) T H (by omega) (by omega) (by simp only [List.length_cons]; omega) (by rw [← hT]; simp only [go_sem] <;> rfl) (by rw [← hT]; simp only [go_sem] <;> rfl)
        refine ⟨t', k1, ?_⟩
        rw [k2, if_neg hz, dec_step m out hz]
  obtain ⟨m, rfl⟩ := Int.eq_ofNat_of_zero_le h0
  generalize hT : upd _ 0 _ = T
  obtain ⟨t', k1, k2⟩ := key 1000000000 (m / 10) [UInt8.ofNat (48 + m % 10)] T [] (by omega) (by omega) (by simp) (by rw [← hT]; simp only [go_sem] <;> rfl) (by rw [← hT]; simp only [go_sem] <;> rfl)
  rw [k1]
  simp only [go_sem, k2]
  have e : Lib.itoa (m : Int) = Lib.decDigits m := by
    unfold Lib.itoa
    rw [if_neg (by omega)]
    rfl
  rw [e]
  by_cases hz : m = 0
  · subst hz
    rw [Lib.decDigits, dif_pos (by omega), if_pos (by omega)]
    rfl
  · have := dec_step m [] hz
    rw [List.append_nil] at this
    rw [this]
end Go.AM.Z

namespace Go.AM.Z
open Go Go.AM Go.Proofs
set_option maxRecDepth 100000
theorem two_tab : ∀ n : Fin 100, twoL n.val = (if n.val < 10 then 48 :: Lib.decDigits n.val else Lib.decDigits n.val) := by
  intro n
  unfold twoL Lib.itoa
  rw [if_neg (by omega)]
  have e : ((n.val : Int) + 100).toNat = n.val + 100 := by omega
  rw [e, Lib.decDigits, dif_neg (by omega), Lib.decDigits, dif_neg (by omega), Lib.decDigits, dif_pos (by omega)]
  have h1 : (n.val + 100) / 10 / 10 = 1 := by omega
  have h2 : (n.val + 100) / 10 % 10 = n.val / 10 := by omega
  have h3 : (n.val + 100) % 10 = n.val % 10 := by omega
  rw [h1, h2, h3]
  by_cases h : n.val < 10
  · rw [if_pos h, Lib.decDigits_one h, show n.val / 10 = 0 by omega, show n.val % 10 = n.val by omega]; rfl
  · rw [if_neg h, Lib.decDigits_two h n.isLt]; rfl
theorem F45 (n : Int) (h0 : 0 ≤ n) (h1 : n < 100) (p : Nat) (H : Heap) : F 45 #[.int .i64 n] p H = some (.returned (str (twoL n)), H) := by
  rw [F, F_pure (f := 45) (X := X) (cl := cl) rfl rfl rfl Tryz.func45 rfl (by simp only [go_sem]), Tryz.results45]
  obtain ⟨m, rfl⟩ := Int.eq_ofNat_of_zero_le h0
  have ht := two_tab ⟨m, by omega⟩
  simp only at ht
  have hl := Lib.itoa_length_le (m : Int) (by omega) (by omega)
  have e : Lib.itoa (m : Int) = Lib.decDigits m := by
    unfold Lib.itoa
    rw [if_neg (by omega)]
    rfl
  rw [e] at hl
  rw [ht]
  by_cases h : m < 10
  · have h' : (m : Int) < 10 := by omega
    simp (disch := first | omega | (simp only [List.length_cons, List.length_nil]; omega) | (simp only [go_sem]; done)) only [go_sem, h', F16, str_add, h, e]
  · have h' : ¬ (m : Int) < 10 := by omega
    simp (disch := first | omega | (simp only [go_sem]; done)) only [go_sem, h', F16, h, e]
end Go.AM.Z

namespace Go.AM.Z
open Go Go.AM Go.Proofs
set_option maxRecDepth 100000
theorem F23p (n : Int) (sg : Bool) (h1 : 0 ≤ n) (h2 : n ≤ 1000000000) (hs : sg = true → 0 < n) (p : Nat) (H : Heap) : F 23 #[.int .i64 (if sg = true then -n else n)] p H = some (.returned (str ((if sg = true then [45] else []) ++ timeP n)), H) := by
  rw [F, F_pure (f := 23) (X := X) (cl := cl) rfl rfl rfl Tryz.func23 rfl (by simp only [go_sem]), Tryz.results23]
  have e1 : n.tdiv 3600 = n / 3600 := Int.tdiv_eq_ediv_of_nonneg h1
  have e2 : n.tdiv 60 = n / 60 := Int.tdiv_eq_ediv_of_nonneg h1
  have e3 : n.tmod 3600 = n % 3600 := Int.tmod_eq_emod_of_nonneg h1
  have e4 : n.tmod 60 = n % 60 := Int.tmod_eq_emod_of_nonneg h1
  have e5 : (n / 60).tmod 60 = n / 60 % 60 := Int.tmod_eq_emod_of_nonneg (by omega)
  have l1 := Lib.itoa_length_le (n / 3600) (by omega) (by omega)
  have l2 := twoL_len (n / 60 % 60) (by omega) (by omega)
  have l3 := twoL_len (n % 60) (by omega) (by omega)
  have d0 : (3600 : Int) ≠ 0 := by omega
  have d1 : (60 : Int) ≠ 0 := by omega
  unfold timeP
  rw [e1, e2, e3, e4, e5]
  have b1 : ∀ (c : Bool) (T : TypeId), binV Tryz.prog c .quo T (.int .i64 n) (.int .i64 3600) = some (.int .i64 (n / 3600)) := fun c T => by rw [bin_quo d0 (by omega) (by omega), e1]
  have b2 : ∀ (c : Bool) (T : TypeId), binV Tryz.prog c .quo T (.int .i64 n) (.int .i64 60) = some (.int .i64 (n / 60)) := fun c T => by rw [bin_quo d1 (by omega) (by omega), e2]
  have b3 : ∀ (c : Bool) (T : TypeId), binV Tryz.prog c .rem T (.int .i64 n) (.int .i64 3600) = some (.int .i64 (n % 3600)) := fun c T => by rw [bin_rem _ d0, e3]
  have b4 : ∀ (c : Bool) (T : TypeId), binV Tryz.prog c .rem T (.int .i64 n) (.int .i64 60) = some (.int .i64 (n % 60)) := fun c T => by rw [bin_rem _ d1, e4]
  have b5 : ∀ (c : Bool) (T : TypeId), binV Tryz.prog c .rem T (.int .i64 (n / 60)) (.int .i64 60) = some (.int .i64 (n / 60 % 60)) := fun c T => by rw [bin_rem _ d1, e5]
  cases sg with
  | true =>
    have hn : -n < 0 := by have := hs rfl; omega
    have hnn : - -n = n := by omega
    by_cases k1 : n % 3600 = 0 <;> by_cases k2 : n % 60 = 0 <;>
    simp (disch := first | omega | (simp only [List.length_append, List.length_cons, List.length_nil, List.cons_append, List.nil_append]; omega) | (simp only [go_sem]; done)) only [go_sem, hn, hnn, un_neg, k1, k2, b1, b2, b3, b4, b5, F16, F45, str_add, List.append_nil, List.append_assoc]
  | false =>
    have hn : ¬ n < 0 := by omega
    by_cases k1 : n % 3600 = 0 <;> by_cases k2 : n % 60 = 0 <;>
    simp (disch := first | omega | (simp only [List.length_append, List.length_cons, List.length_nil, List.cons_append, List.nil_append]; omega) | (simp only [go_sem]; done)) only [go_sem, hn, k1, k2, b1, b2, b3, b4, b5, F16, F45, str_add, List.append_nil, List.append_assoc]
end Go.AM.Z

namespace Go.AM.Z
open Go Go.AM Go.Proofs
set_option maxRecDepth 100000
theorem F22 (s : List UInt8) (hs : s.length ≤ 4611686018427387904) (p : Nat) (H : Heap) : F 22 #[str s] p H = some (.returned (str (if (s.all fun b => letterI b.toNat) = true then s else 60 :: (s ++ [62]))), H) := by
  rw [F, F_pure (f := 22) (X := X) (cl := cl) rfl rfl rfl Tryz.func22 rfl (by simp only [go_sem]), Tryz.results22]
  simp only [go_sem]
  generalize hL : Code.loop _ = L
  have key : ∀ (k i : Nat) (t : Nat → Value) (H : Heap), i + k = s.length → t 0 = str s → t 3 = .int .i64 i →
      ∃ e t', limR Tryz.prog cl X L 0 ⟨t, [], H⟩ = some (e, ⟨t', [], H⟩) ∧ ((e = .exit 0 ∧ ((s.drop i).all fun b => letterI b.toNat) = true ∧ t' 0 = str s) ∨ (e = .ret ∧ ((s.drop i).all fun b => letterI b.toNat) = false ∧ t' 2 = str (60 :: (s ++ [62])))) := by
    intro k
    induction k with
    | zero =>
      intro i t H hi h0 h3
      rw [← hL, E_loop, hL]
      have hlt : ¬ (i : Int) < s.length := by omega
      simp only [go_sem, h0, h3, hlt]
      refine ⟨_, _, rfl, .inl ⟨rfl, ?_, ?_⟩⟩
      · rw [List.drop_of_length_le (by omega)]; rfl
      · simp only [go_sem, h0]
    | succ k ih =>
      intro i t H hi h0 h3
      rw [← hL, E_loop, hL]
      have hn : i < s.length := by omega
      have hlt : (i : Int) < s.length := by omega
      have hd : s[i]? = some s[i] := List.getElem?_eq_getElem hn
      have hall : ((s.drop i).all fun b => letterI b.toNat) = (letterI s[i].toNat && (s.drop (i + 1)).all fun b => letterI b.toNat) := by
        rw [List.drop_eq_getElem_cons hn, List.all_cons]
      have hix : idxV Tryz.prog 9 (str s) (.int .i64 i) = some (.int .u8 s[i].toNat) := ix9 (by omega) (by rw [Int.toNat_natCast]; exact hd)
      cases hc : letterI s[i].toNat with
      | true =>
        simp (disch := first | omega | (simp only [go_sem]; done)) only [go_sem, h0, h3, hlt, bin_add, hix, hc]
        generalize hT : upd _ 3 _ = T
        obtain ⟨e, t', k1, k2⟩ := ih (i + 1) T H (by omega) (by rw [← hT]; simp only [go_sem, h0]) (by rw [← hT]; simp only [go_sem] <;> rfl)
        refine ⟨e, t', k1, ?_⟩
        rw [hall, hc, Bool.true_and]
        exact k2
      | false =>
        simp (disch := first | omega | (simp only [go_sem]; done) | (simp only [List.length_append, List.length_cons, List.length_nil, List.cons_append, List.nil_append]; omega)) only [go_sem, h0, h3, hlt, bin_add, hix, hc, str_add]
        refine ⟨_, _, rfl, .inr ⟨rfl, by rw [hall, hc]; rfl, ?_⟩⟩
        simp only [go_sem]
  generalize hT : upd _ 3 _ = T
  obtain ⟨e, t', k1, k2⟩ := key s.length 0 T [] (by omega) (by rw [← hT]; simp only [go_sem]) (by rw [← hT]; simp only [go_sem] <;> rfl)
  rw [k1]
  rw [← List.drop_zero (l := s)]
  simp only [List.drop_zero] at k2 ⊢
  rcases k2 with ⟨rfl, k2, k3⟩ | ⟨rfl, k2, k3⟩
  · simp only [go_sem, k3, k2]
  · simp only [go_sem, k3, k2]
end Go.AM.Z

namespace Go.AM.Z
open Go Go.AM Go.Proofs
set_option maxRecDepth 100000
theorem F23 (n : Int) (h1 : -1000000000 ≤ n) (h2 : n ≤ 1000000000) (p : Nat) (H : Heap) : F 23 #[.int .i64 n] p H = some (.returned (str (timeL n)), H) := by
  by_cases hn : n < 0
  · have := F23p (-n) true (by omega) (by omega) (fun _ => by omega) p H
    simp only [if_true, Int.neg_neg] at this
    rw [this, timeL, if_pos hn]
    rfl
  · have := F23p n false (by omega) (by omega) (fun h => by cases h) p H
    simp only [Bool.false_eq_true, if_false] at this
    rw [this, timeL, if_neg hn]
    rfl
end Go.AM.Z

namespace Go.AM.Z
open Go Go.AM Go.Proofs
set_option maxRecDepth 100000
theorem F24 (r : RuleL) (h : r.ok = true) (p : Nat) (H : Heap) : F 24 #[r.v] p H = some (.returned (str (dayL r)), H) := by
  rw [F, F_pure (f := 24) (X := X) (cl := cl) rfl rfl rfl Tryz.func24 rfl (by simp only [go_sem]), Tryz.results24]
  have hb : (-604799 ≤ r.at_ ∧ r.at_ ≤ 604799 ∧ 0 ≤ r.da ∧ r.da ≤ 365) ∧ (r.k = 0 ∨ r.k = 1 ∨ (¬ r.k = 0 ∧ ¬ r.k = 1 ∧ 1 ≤ r.mo ∧ r.mo ≤ 12 ∧ 1 ≤ r.we ∧ r.we ≤ 5)) := by
    simp only [RuleL.ok, ruleB, inB, Bool.and_eq_true, Bool.or_eq_true, decide_eq_true_eq] at h
    omega
  obtain ⟨hb, hk⟩ := hb
  have l1 := Lib.itoa_length_le r.da (by omega) (by omega)
  have l5 := timeL_len r.at_ (by omega) (by omega)
  rcases hk with k0 | k1 | ⟨k0, k1, m1, m2, m3, m4⟩
  · by_cases ka : r.at_ = 7200 <;>
      simp (disch := first | omega | (simp only [List.length_append, List.length_cons, List.length_nil, List.cons_append, List.nil_append]; omega) | (simp only [go_sem]; done)) only [go_sem, k0, ka, F16, F23, str_add] <;>
      simp [dayL, numL, k0, ka]
  · have k0 : ¬ r.k = 0 := by omega
    by_cases ka : r.at_ = 7200 <;>
      simp (disch := first | omega | (simp only [List.length_append, List.length_cons, List.length_nil, List.cons_append, List.nil_append]; omega) | (simp only [go_sem]; done)) only [go_sem, k1, ka, F16, F23, str_add] <;>
      simp [dayL, numL, k1, ka]
  · have l2 := Lib.itoa_length_le r.mo (by omega) (by omega)
    have l3 := Lib.itoa_length_le r.we (by omega) (by omega)
    by_cases ka : r.at_ = 7200 <;>
      simp (disch := first | omega | (simp only [List.length_append, List.length_cons, List.length_nil, List.cons_append, List.nil_append]; omega) | (simp only [go_sem]; done)) only [go_sem, k0, k1, ka, F16, F23, str_add] <;>
      simp [dayL, numL, k0, k1, ka]
end Go.AM.Z

namespace Go.AM.Z
open Go Go.AM Go.Proofs
set_option maxRecDepth 100000
theorem named_eq (s : List UInt8) (h : nameB s = true) : namedL s = if (s.all fun b => letterI b.toNat) = true then s else 60 :: (s ++ [62]) := by
  unfold namedL
  rw [mapD_name h]
  have : (s.filter fun b => !letterI b.toNat) = [] ↔ (s.all fun b => letterI b.toNat) = true := by
    rw [List.filter_eq_nil_iff, List.all_eq_true]
    constructor
    · intro h b hb; simpa using h b hb
    · intro h b hb; simpa using h b hb
  by_cases hq : (s.all fun b => letterI b.toNat) = true
  · rw [if_pos hq, if_pos (this.2 hq)]
  · rw [if_neg hq, if_neg (fun h => hq (this.1 h))]
theorem F22' (s : List UInt8) (h : nameB s = true) (p : Nat) (H : Heap) : F 22 #[str s] p H = some (.returned (str (namedL s)), H) := by
  rw [named_eq s h]; exact F22 s (by have := (name_ascii h).2; omega) p H
theorem F24' (r : RuleL) (h : r.ok = true) (p : Nat) (H : Heap) : F 24 #[.agg #[.int .i64 r.k, .int .i64 r.mo, .int .i64 r.we, .int .i64 r.da, .int .i64 r.at_]] p H = some (.returned (str (dayL r)), H) := F24 r h p H
theorem F11 (z : ZoneL) (h1 : z.std.length ≤ 4611686018427387904) (h2 : z.dst.length ≤ 4611686018427387904) (p : Nat) (H : Heap) : F 11 #[z.v] p H = some (.returned (.tuple (if z.may = true then #[str (writeL z), .int .i64 0] else #[str [], .int .i64 1])), H) := by
  rw [F, F_pure (f := 11) (X := X) (cl := cl) rfl rfl rfl Tryz.func11 rfl (by simp only [go_sem]), Tryz.results11]
  cases hm : z.may with
  | false =>
    simp only [go_sem, F12 z h1 h2, hm]
  | true =>
    have hm' := hm
    simp only [ZoneL.may, Bool.and_eq_true] at hm'
    obtain ⟨⟨n1, n2⟩, n3⟩ := hm'
    simp only [inB, Bool.and_eq_true, decide_eq_true_eq] at n2
    obtain ⟨a1, a2⟩ := name_ascii n1
    have a3 := mapD_len _ n1
    have a4 := namedL_len _ n1
    have a5 := timeL_len (-z.off) (by omega) (by omega)
    have u : ∀ n : Int, n = n := fun _ => rfl
    simp only [go_sem, F12 z h1 h2, hm]
    cases hh : z.has with
    | false =>
      simp (disch := first | omega | assumption | (simp only [List.length_append, List.length_cons, List.length_nil, List.cons_append, List.nil_append]; omega) | (simp only [go_sem]; done)) only [go_sem, hh, F22', F23, un_neg, str_add]
      simp [writeL, hh]
    | true =>
      rw [if_pos hh] at n3
      simp only [Bool.and_eq_true] at n3
      obtain ⟨⟨⟨n3, n4⟩, n5⟩, n6⟩ := n3
      obtain ⟨b1, b2⟩ := name_ascii n3
      have b3 := mapD_len _ n3
      have b4 := namedL_len _ n3
      have hah : -1000000 ≤ z.ahead ∧ z.ahead ≤ 1000000 := by
        simp only [inB, Bool.or_eq_true, Bool.and_eq_true, decide_eq_true_eq] at n4
        omega
      have b5 := timeL_len (-z.ahead) (by omega) (by omega)
      have b6 := dayL_len _ n5
      have b7 := dayL_len _ n6
      by_cases ha : z.ahead = z.off + 3600
      · have ha' : (z.off + 3600 = z.off + 3600) := rfl
        simp (disch := first | omega | assumption | (simp only [List.length_append, List.length_cons, List.length_nil, List.cons_append, List.nil_append]; omega) | (simp only [go_sem]; done)) only [go_sem, hh, F22', F23, un_neg, str_add, bin_add, ha, F24']
        simp [writeL, hh, ha]
      · simp (disch := first | omega | assumption | (simp only [List.length_append, List.length_cons, List.length_nil, List.cons_append, List.nil_append]; omega) | (simp only [go_sem]; done)) only [go_sem, hh, F22', F23, un_neg, str_add, bin_add, ha, F24']
        simp [writeL, hh, ha]
end Go.AM.Z
