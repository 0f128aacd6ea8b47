/-
  The reader and Parse of the document's answer, as plain functions; both Parses answer alike for every text. No condition.
-/
import Derived.Test.YtijobfkgkopkhaaGreatDoorZb
set_option linter.all false
set_option linter.unusedSimpArgs false
set_option linter.unusedVariables false
set_option linter.unusedSectionVars false
namespace Go.AM
open Go
variable {P : Program} {T : TypeId} {c : Bool}
theorem sub_u8 {a b : Int} (h1 : 0 ≤ a - b) (h2 : a - b < 256) : binV P c .sub T (.int .u8 a) (.int .u8 b) = some (.int .u8 (a - b)) := by
  rw [binV_ints (v := .int .u8 (IntKind.u8.wrap (a - b))) (by simp [binOp, Op.intArith]; try rfl) rfl, wrap_u8 h1 h2]
end Go.AM
namespace Go.AM.Z
open Go Go.AM Go.Proofs
set_option maxRecDepth 100000
theorem cv5_3 (x : Int) (h1 : 0 ≤ x) (h2 : x < 256) {H : Heap} : convV Tryz.prog 5 3 (.int .u8 x) H = some (.int .i64 x, H) := by
  rw [conv_intInt Tryz.underlying5 Tryz.underlying3, wrap_i64 (by omega) (by omega)]
theorem ix9n {s : List UInt8} {at_ : Nat} {b : UInt8} (h : s[at_]? = some b) : idxV Tryz.prog 9 (str s) (.int .i64 (at_ : Nat)) = some (.int .u8 b.toNat) := ix9 (by omega) (by rw [Int.toNat_natCast]; exact h)
/-- A reader. -/
abbrev rdB (s : List UInt8) (at_ : Nat) (bad : Bool) (fl : Nat) : Blk := ⟨0, 53, #[str s, .int .i64 (at_ : Nat), .bool bad], fl, false, []⟩
abbrev ptr1 : Value := .pointer (some ⟨1, 0, some 3⟩)
def isR (s : List UInt8) (at_ : Nat) (c : Int) : Bool := match s[at_]? with
  | some b => decide ((b.toNat : Int) = c)
  | none => false
theorem isR_lt {s : List UInt8} {at_ : Nat} {c : Int} (h : isR s at_ c = true) : at_ < s.length := by
  unfold isR at h
  cases hq : s[at_]? with
  | none => rw [hq] at h; cases h
  | some b => exact (List.getElem?_eq_some_iff.1 hq).1
attribute [go_sem] nilV_some
theorem F58 (a : Blk) (s : List UInt8) (hs : s.length ≤ 1000) (at_ : Nat) (bad : Bool) (fl : Nat) (hfl : fl ≤ 3) (R : Heap) (c : Int) (p : Nat) (hp : p ≤ 1) :
    F 58 #[ptr1, .int .u8 c] p (a :: rdB s at_ bad fl :: R) = some (.returned (.bool (isR s at_ c)), if isR s at_ c = true then a :: rdB s (at_ + 1) bad 3 :: R else a :: rdB s at_ bad fl :: R) := by
  rw [F, F_loud (f := 58) (X := X) (cl := cl) rfl rfl rfl Tryz.func58 rfl, Tryz.results58]
  have e1 : ((at_ : Int) + 1) = ((at_ + 1 : Nat) : Int) := by omega
  cases hq : s[at_]? with
  | none =>
    have hr : isR s at_ c = false := by unfold isR; rw [hq]
    have hlt : (s.length : Int) ≤ at_ := by have := List.getElem?_eq_none_iff.1 hq; omega
    simp (disch := first | omega | (simp only [go_sem]; omega) | (simp only [go_sem]; done)) only [go_sem, hlt, hr]
  | some b =>
    have hl := (List.getElem?_eq_some_iff.1 hq).1
    have hlt : ¬ (s.length : Int) ≤ at_ := by omega
    have hi := ix9n hq
    by_cases hc : (b.toNat : Int) = c
    · have hr : isR s at_ c = true := by unfold isR; rw [hq]; exact decide_eq_true hc
      simp (disch := first | omega | (simp only [go_sem]; omega) | (simp only [go_sem]; done)) only [go_sem, hlt, hr, hi, hc, bin_add, e1]
    · have hr : isR s at_ c = false := by unfold isR; rw [hq]; exact decide_eq_false hc
      simp (disch := first | omega | (simp only [go_sem]; omega) | (simp only [go_sem]; done)) only [go_sem, hlt, hr, hi, hc]
end Go.AM.Z

namespace Go.AM.Z
open Go Go.AM Go.Proofs
set_option maxRecDepth 100000
def seeR (s : List UInt8) (at_ : Nat) : Int := match s[at_]? with
  | some b => b.toNat
  | none => 0
theorem F36 (a : Blk) (s : List UInt8) (hs : s.length ≤ 1000) (at_ : Nat) (bad : Bool) (fl : Nat) (hfl : fl ≤ 3) (R : Heap) (p : Nat) :
    F 36 #[ptr1] p (a :: rdB s at_ bad fl :: R) = some (.returned (.int .u8 (seeR s at_)), a :: rdB s at_ bad fl :: R) := by
  rw [F, F_quiet (f := 36) (X := X) (cl := cl) rfl rfl rfl Tryz.func36 rfl, Tryz.results36]
  cases hq : s[at_]? with
  | none =>
    have hr : seeR s at_ = 0 := by unfold seeR; rw [hq]
    have hlt : ¬ (at_ : Int) < s.length := by have := List.getElem?_eq_none_iff.1 hq; omega
    simp (disch := first | omega | (simp only [go_sem]; omega) | (simp only [go_sem]; done)) only [go_sem, hlt, hr]
  | some b =>
    have hr : seeR s at_ = b.toNat := by unfold seeR; rw [hq]
    have hl := (List.getElem?_eq_some_iff.1 hq).1
    have hlt : (at_ : Int) < s.length := by omega
    have hi := ix9n hq
    simp (disch := first | omega | (simp only [go_sem]; omega) | (simp only [go_sem]; done)) only [go_sem, hlt, hr, hi]
/-- Digits, at most k: the number, and how many there are. -/
def digs : Nat → List UInt8 → Nat → Nat × Nat
  | 0, _, n => (n, 0)
  | _ + 1, [], n => (n, 0)
  | k + 1, b :: l, n => if 48 ≤ b.toNat ∧ b.toNat ≤ 57 then ((digs k l (10 * n + (b.toNat - 48))).1, (digs k l (10 * n + (b.toNat - 48))).2 + 1) else (n, 0)
def numR (s : List UInt8) (at_ : Nat) : Nat × Nat := digs 6 (s.drop at_) 0
theorem digs_le : ∀ (k : Nat) (l : List UInt8) (n : Nat), (digs k l n).2 ≤ k ∧ (digs k l n).2 ≤ l.length
  | 0, _, n => by simp [digs]
  | _ + 1, [], n => by simp [digs]
  | k + 1, b :: l, n => by
    rw [digs]
    split
    · have := digs_le k l (10 * n + (b.toNat - 48))
      simp only [List.length_cons]
      omega
    · simp
theorem digs_val : ∀ (k : Nat) (l : List UInt8) (n m : Nat), n < 10 ^ m → (digs k l n).1 < 10 ^ (m + k)
  | 0, _, n, m, h => by simpa [digs] using h
  | k + 1, [], n, m, h => by
    rw [digs]
    have := Nat.pow_le_pow_right (show 0 < 10 by omega) (show m ≤ m + (k + 1) by omega)
    exact Nat.lt_of_lt_of_le h this
  | k + 1, b :: l, n, m, h => by
    rw [digs]
    split
    · have := digs_val k l (10 * n + (b.toNat - 48)) (m + 1) (by rw [Nat.pow_succ]; omega)
      rw [show m + (k + 1) = m + 1 + k by omega]
      exact this
    · have := Nat.pow_le_pow_right (show 0 < 10 by omega) (show m ≤ m + (k + 1) by omega)
      exact Nat.lt_of_lt_of_le h this
theorem numR_val (s : List UInt8) (at_ : Nat) : (numR s at_).1 < 1000000 := digs_val 6 _ 0 0 (by decide)
theorem numR_le (s : List UInt8) (at_ : Nat) (h : at_ ≤ s.length) : at_ + (numR s at_).2 ≤ s.length := by
  have := (digs_le 6 (s.drop at_) 0).2
  rw [List.length_drop] at this
  unfold numR
  omega
theorem F59 (a : Blk) (s : List UInt8) (hs : s.length ≤ 1000) (at_ : Nat) (bad : Bool) (fl : Nat) (hfl : fl ≤ 3) (R : Heap) (p : Nat) (hp : p ≤ 1) :
    F 59 #[ptr1] p (a :: rdB s at_ bad fl :: R) = some (.returned (.int .i64 (numR s at_).1), a :: rdB s (at_ + (numR s at_).2) (bad || decide ((numR s at_).2 = 0)) 3 :: R) := by
  rw [F, F_loud (f := 59) (X := X) (cl := cl) rfl rfl rfl Tryz.func59 rfl, Tryz.results59]
  simp only [go_sem]
  generalize hL : Code.loop _ = L
  have key : ∀ (k m n at_ fl : Nat) (t : Nat → Value), m + k = 6 → fl ≤ 3 → n < 10 ^ m → t 0 = ptr1 → t 3 = .int .i64 (n : Nat) → t 4 = .int .i64 (m : Nat) →
      ∃ t', limR Tryz.prog cl X L p ⟨t, [], a :: rdB s at_ bad fl :: R⟩ = some (.exit 0, ⟨t', [], a :: rdB s (at_ + (digs k (s.drop at_) n).2) bad (if (digs k (s.drop at_) n).2 = 0 then fl else 3) :: R⟩) ∧ t' 0 = ptr1 ∧ t' 3 = .int .i64 ((digs k (s.drop at_) n).1 : Nat) ∧ t' 4 = .int .i64 ((m + (digs k (s.drop at_) n).2 : Nat) : Int) := by
    intro k
    induction k with
    | zero =>
      intro m n at_ fl t hm hfl hn h0 h3 h4
      rw [← hL, E_loop, hL]
      have hm6 : ¬ ((m : Int) < 6) := by omega
      cases hq : s[at_]? with
      | none =>
        have hlt : ¬ (at_ : Int) < s.length := by have := List.getElem?_eq_none_iff.1 hq; omega
        simp (disch := first | omega | (simp only [go_sem]; omega) | (simp only [go_sem]; done)) only [go_sem, h0, h3, h4, hlt]
        exact ⟨_, rfl, by simp only [go_sem, h0], by simp only [go_sem, h3, digs], by simp only [go_sem, h4, digs, Nat.add_zero]⟩
      | some b =>
        have hl := (List.getElem?_eq_some_iff.1 hq).1
        have hlt : (at_ : Int) < s.length := by omega
        have hi := ix9n hq
        by_cases q1 : (48 : Int) ≤ b.toNat
        · by_cases q2 : (b.toNat : Int) ≤ 57
          · simp (disch := first | omega | (simp only [go_sem]; omega) | (simp only [go_sem]; done)) only [go_sem, h0, h3, h4, hlt, hi, q1, q2, hm6]
            exact ⟨_, rfl, by simp only [go_sem, h0], by simp only [go_sem, h3, digs], by simp only [go_sem, h4, digs, Nat.add_zero]⟩
          · simp (disch := first | omega | (simp only [go_sem]; omega) | (simp only [go_sem]; done)) only [go_sem, h0, h3, h4, hlt, hi, q1, q2, hm6]
            exact ⟨_, rfl, by simp only [go_sem, h0], by simp only [go_sem, h3, digs], by simp only [go_sem, h4, digs, Nat.add_zero]⟩
        · simp (disch := first | omega | (simp only [go_sem]; omega) | (simp only [go_sem]; done)) only [go_sem, h0, h3, h4, hlt, hi, q1, hm6]
          exact ⟨_, rfl, by simp only [go_sem, h0], by simp only [go_sem, h3, digs], by simp only [go_sem, h4, digs, Nat.add_zero]⟩
    | succ k ih =>
      intro m n at_ fl t hm hfl hn h0 h3 h4
      rw [← hL, E_loop, hL]
      have hm6 : ((m : Int) < 6) := by omega
      cases hq : s[at_]? with
      | none =>
        have hge := List.getElem?_eq_none_iff.1 hq
        have hlt : ¬ (at_ : Int) < s.length := by omega
        have hd : s.drop at_ = [] := List.drop_of_length_le hge
        rw [hd]
        simp (disch := first | omega | (simp only [go_sem]; omega) | (simp only [go_sem]; done)) only [go_sem, h0, h3, h4, hlt]
        exact ⟨_, rfl, by simp only [go_sem, h0], by simp only [go_sem, h3, digs], by simp only [go_sem, h4, digs, Nat.add_zero]⟩
      | some b =>
        have hl := (List.getElem?_eq_some_iff.1 hq).1
        have hlt : (at_ : Int) < s.length := by omega
        have hi := ix9n hq
        have hb : s[at_] = b := by rw [List.getElem?_eq_getElem hl] at hq; exact Option.some.inj hq
        have hd : s.drop at_ = b :: s.drop (at_ + 1) := by rw [List.drop_eq_getElem_cons hl, hb]
        rw [hd]
        have hb9 := b.toNat_lt
        by_cases q1 : (48 : Int) ≤ b.toNat
        · by_cases q2 : (b.toNat : Int) ≤ 57
          · have hdg : digs (k + 1) (b :: s.drop (at_ + 1)) n = ((digs k (s.drop (at_ + 1)) (10 * n + (b.toNat - 48))).1, (digs k (s.drop (at_ + 1)) (10 * n + (b.toNat - 48))).2 + 1) := by rw [digs, if_pos ⟨by omega, by omega⟩]
            have hp5 : 10 ^ m ≤ 10 ^ 5 := Nat.pow_le_pow_right (by omega) (by omega)
            have hp5' : (10 : Nat) ^ 5 = 100000 := by decide
            have hn' : n < 100000 := by omega
            have e1 : ((at_ : Int) + 1) = ((at_ + 1 : Nat) : Int) := by omega
            have e2 : ((m : Int) + 1) = ((m + 1 : Nat) : Int) := by omega
            have e3 : (10 * (n : Int) + ((b.toNat : Int) - 48)) = ((10 * n + (b.toNat - 48) : Nat) : Int) := by omega
            simp (disch := first | omega | (simp only [go_sem]; omega) | (simp only [go_sem]; done)) only [go_sem, h0, h3, h4, hlt, hi, q1, q2, hm6, bin_mul, bin_add, sub_u8, cv5_3, e1, e2, e3]
            generalize hT : upd _ 4 _ = T
            obtain ⟨t', k1, k2, k3, k4⟩ := ih (m + 1) (10 * n + (b.toNat - 48)) (at_ + 1) 3 T (by omega) (by omega) (by rw [Nat.pow_succ]; omega) (by rw [← hT]; simp only [go_sem, h0]) (by rw [← hT]; simp only [go_sem] <;> rfl) (by rw [← hT]; simp only [go_sem] <;> rfl)
            refine ⟨t', ?_, k2, ?_, ?_⟩
            · rw [k1, hdg]
              have e4 : at_ + 1 + (digs k (s.drop (at_ + 1)) (10 * n + (b.toNat - 48))).2 = at_ + ((digs k (s.drop (at_ + 1)) (10 * n + (b.toNat - 48))).2 + 1) := by omega
              simp only [e4, ite_self, if_neg (Nat.succ_ne_zero _)]
            · rw [k3, hdg]
            · rw [k4, hdg]
              congr 1
              simp only
              omega
          · have hdg : digs (k + 1) (b :: s.drop (at_ + 1)) n = (n, 0) := by rw [digs, if_neg (by omega)]
            rw [hdg]
            simp (disch := first | omega | (simp only [go_sem]; omega) | (simp only [go_sem]; done)) only [go_sem, h0, h3, h4, hlt, hi, q1, q2, hm6]
            exact ⟨_, rfl, by simp only [go_sem, h0], by simp only [go_sem, h3], by simp only [go_sem, h4, Nat.add_zero]⟩
        · have hdg : digs (k + 1) (b :: s.drop (at_ + 1)) n = (n, 0) := by rw [digs, if_neg (by omega)]
          rw [hdg]
          simp (disch := first | omega | (simp only [go_sem]; omega) | (simp only [go_sem]; done)) only [go_sem, h0, h3, h4, hlt, hi, q1, hm6]
          exact ⟨_, rfl, by simp only [go_sem, h0], by simp only [go_sem, h3], by simp only [go_sem, h4, Nat.add_zero]⟩
  generalize hT : upd _ 4 _ = T
  obtain ⟨t', k1, k2, k3, k4⟩ := key 6 0 0 at_ fl T (by omega) hfl (by decide) (by rw [← hT]; simp only [go_sem]) (by rw [← hT]; simp only [go_sem] <;> rfl) (by rw [← hT]; simp only [go_sem] <;> rfl)
  have hfold : digs 6 (s.drop at_) 0 = numR s at_ := rfl
  rw [hfold] at k1 k3 k4
  rw [k1]
  by_cases hz : (numR s at_).2 = 0
  · have hz' : (((0 + (numR s at_).2 : Nat) : Int) = 0) := by omega
    simp (disch := first | omega | (simp only [go_sem]; omega) | (simp only [go_sem]; done)) only [go_sem, k2, k3, k4, hz]
  · have hz' : ¬ (((numR s at_).2 : Int) = 0) := by omega
    simp (disch := first | omega | (simp only [go_sem]; omega) | (simp only [go_sem]; done)) only [go_sem, k2, k3, k4, hz, hz']
end Go.AM.Z

namespace Go.AM.Z
open Go Go.AM Go.Proofs
set_option maxRecDepth 100000
def sgn (m : Bool) (n : Int) : Int := if m = true then -n else n
def timeR1 (s : List UInt8) (m : Bool) (a1 : Nat) (bad : Bool) : Int × Nat × Bool :=
  let d1 := numR s a1
  let a2 := a1 + d1.2
  let b1 := bad || decide (d1.2 = 0)
  if isR s a2 58 = true then
    let d2 := numR s (a2 + 1)
    let a4 := a2 + 1 + d2.2
    let b2 := b1 || decide (d2.2 = 0)
    if isR s a4 58 = true then
      let d3 := numR s (a4 + 1)
      (sgn m (3600 * (d1.1 : Int) + 60 * d2.1 + d3.1), a4 + 1 + d3.2, b2 || decide (d3.2 = 0))
    else (sgn m (3600 * (d1.1 : Int) + 60 * d2.1), a4, b2)
  else (sgn m (3600 * (d1.1 : Int)), a2, b1)
def timeR (s : List UInt8) (at_ : Nat) (bad : Bool) : Int × Nat × Bool := timeR1 s (isR s at_ 45) (if isR s at_ 45 = true then at_ + 1 else at_) bad
theorem F35 (a : Blk) (s : List UInt8) (hs : s.length ≤ 1000) (at_ : Nat) (bad : Bool) (fl : Nat) (hfl : fl ≤ 3) (R : Heap) (p : Nat) (hp : p ≤ 1) :
    F 35 #[ptr1] p (a :: rdB s at_ bad fl :: R) = some (.returned (.int .i64 (timeR s at_ bad).1), a :: rdB s (timeR s at_ bad).2.1 (timeR s at_ bad).2.2 3 :: R) := by
  rw [F, F_loud (f := 35) (X := X) (cl := cl) rfl rfl rfl Tryz.func35 rfl, Tryz.results35]
  have v := numR_val s
  cases hm : isR s at_ 45 with
  | true =>
    rw [timeR, hm]
    simp only [if_true, if_false, Bool.false_eq_true]
    rw [timeR1]
    have v1 := v (at_ + 1)
    generalize hd1 : numR s (at_ + 1) = d1 at *
    cases h1 : isR s (at_ + 1 + d1.2) 58 with
    | false => simp (disch := first | omega | (simp only [go_sem]; omega) | (simp only [go_sem]; done)) only [go_sem, F58, F59, hm, hd1, h1, bin_mul, un_neg, sgn]
    | true =>
      have v2 := v (at_ + 1 + d1.2 + 1)
      generalize hd2 : numR s (at_ + 1 + d1.2 + 1) = d2 at *
      cases h2 : isR s (at_ + 1 + d1.2 + 1 + d2.2) 58 with
      | false => simp (disch := first | omega | (simp only [go_sem]; omega) | (simp only [go_sem]; done)) only [go_sem, F58, F59, hm, hd1, h1, hd2, h2, bin_mul, bin_add, un_neg, sgn]
      | true =>
        have v3 := v (at_ + 1 + d1.2 + 1 + d2.2 + 1)
        generalize hd3 : numR s (at_ + 1 + d1.2 + 1 + d2.2 + 1) = d3 at *
        simp (disch := first | omega | (simp only [go_sem]; omega) | (simp only [go_sem]; done)) only [go_sem, F58, F59, hm, hd1, h1, hd2, h2, hd3, bin_mul, bin_add, un_neg, sgn]
  | false =>
    rw [timeR, hm]
    simp only [if_true, if_false, Bool.false_eq_true]
    rw [timeR1]
    have v1 := v (at_)
    generalize hd1 : numR s (at_) = d1 at *
    cases h1 : isR s (at_ + d1.2) 58 with
    | false => simp (disch := first | omega | (simp only [go_sem]; omega) | (simp only [go_sem]; done)) only [go_sem, F58, F59, hm, hd1, h1, bin_mul, un_neg, sgn]
    | true =>
      have v2 := v (at_ + d1.2 + 1)
      generalize hd2 : numR s (at_ + d1.2 + 1) = d2 at *
      cases h2 : isR s (at_ + d1.2 + 1 + d2.2) 58 with
      | false => simp (disch := first | omega | (simp only [go_sem]; omega) | (simp only [go_sem]; done)) only [go_sem, F58, F59, hm, hd1, h1, hd2, h2, bin_mul, bin_add, un_neg, sgn]
      | true =>
        have v3 := v (at_ + d1.2 + 1 + d2.2 + 1)
        generalize hd3 : numR s (at_ + d1.2 + 1 + d2.2 + 1) = d3 at *
        simp (disch := first | omega | (simp only [go_sem]; omega) | (simp only [go_sem]; done)) only [go_sem, F58, F59, hm, hd1, h1, hd2, h2, hd3, bin_mul, bin_add, un_neg, sgn]
theorem timeR_bound (s : List UInt8) (at_ : Nat) (bad : Bool) (h : at_ ≤ s.length) : (-10000000000 ≤ (timeR s at_ bad).1 ∧ (timeR s at_ bad).1 ≤ 10000000000) ∧ (timeR s at_ bad).2.1 ≤ s.length := by
  have key : ∀ (m : Bool) (a1 : Nat), a1 ≤ s.length → (-10000000000 ≤ (timeR1 s m a1 bad).1 ∧ (timeR1 s m a1 bad).1 ≤ 10000000000) ∧ (timeR1 s m a1 bad).2.1 ≤ s.length := by
    intro m a1 h1
    have v1 := numR_val s a1
    have l1 := numR_le s a1 h1
    unfold timeR1
    simp only
    split
    · rename_i q1
      have p1 := isR_lt q1
      have v2 := numR_val s (a1 + (numR s a1).2 + 1)
      have l2 := numR_le s (a1 + (numR s a1).2 + 1) (by omega)
      split
      · rename_i q2
        have p2 := isR_lt q2
        have v3 := numR_val s (a1 + (numR s a1).2 + 1 + (numR s (a1 + (numR s a1).2 + 1)).2 + 1)
        have l3 := numR_le s (a1 + (numR s a1).2 + 1 + (numR s (a1 + (numR s a1).2 + 1)).2 + 1) (by omega)
        refine ⟨?_, l3⟩
        unfold sgn
        split <;> omega
      · refine ⟨?_, l2⟩
        unfold sgn
        split <;> omega
    · refine ⟨?_, l1⟩
      unfold sgn
      split <;> omega
  unfold timeR
  split
  · rename_i q
    exact key _ _ (by have := isR_lt q; omega)
  · exact key _ _ h
end Go.AM.Z

namespace Go.AM.Z
open Go Go.AM Go.Proofs
set_option maxRecDepth 100000
def notGt (b : UInt8) : Bool := !decide ((b.toNat : Int) = 62)
def letB (b : UInt8) : Bool := letterI b.toNat
def run (f : UInt8 → Bool) (s : List UInt8) (q : Nat) : Nat := ((s.drop q).takeWhile f).length
theorem run_none (f : UInt8 → Bool) {s : List UInt8} {q : Nat} (h : s[q]? = none) : run f s q = 0 := by
  unfold run
  rw [List.drop_of_length_le (List.getElem?_eq_none_iff.1 h)]
  rfl
theorem drop_of {s : List UInt8} {q : Nat} {b : UInt8} (h : s[q]? = some b) : s.drop q = b :: s.drop (q + 1) := by
  obtain ⟨hl, hb⟩ := List.getElem?_eq_some_iff.1 h
  rw [List.drop_eq_getElem_cons hl, hb]
theorem run_no (f : UInt8 → Bool) {s : List UInt8} {q : Nat} {b : UInt8} (h : s[q]? = some b) (hf : f b = false) : run f s q = 0 := by
  unfold run
  rw [drop_of h, List.takeWhile_cons_of_neg (by simp [hf])]
  rfl
theorem run_yes (f : UInt8 → Bool) {s : List UInt8} {q : Nat} {b : UInt8} (h : s[q]? = some b) (hf : f b = true) : run f s q = run f s (q + 1) + 1 := by
  unfold run
  rw [drop_of h, List.takeWhile_cons_of_pos hf]
  rfl
theorem run_le (f : UInt8 → Bool) (s : List UInt8) (q : Nat) (h : q ≤ s.length) : q + run f s q ≤ s.length := by
  unfold run
  have := (List.takeWhile_sublist f (l := s.drop q)).length_le
  rw [List.length_drop] at this
  omega
def nameR (s : List UInt8) (at_ : Nat) (bad : Bool) (fl : Nat) : List UInt8 × Nat × Bool × Nat :=
  if isR s at_ 60 = true then
    let k := run notGt s (at_ + 1)
    ((s.drop (at_ + 1)).take k, if isR s (at_ + 1 + k) 62 = true then at_ + 1 + k + 1 else at_ + 1 + k, if isR s (at_ + 1 + k) 62 = true then bad else true, 3)
  else
    let k := run letB s at_
    ((s.drop at_).take k, at_ + k, bad, if k = 0 then fl else 3)
theorem F34 (a : Blk) (s : List UInt8) (hs : s.length ≤ 1000) (at_ : Nat) (hat : at_ ≤ s.length) (bad : Bool) (fl : Nat) (hfl : fl ≤ 3) (R : Heap) (p : Nat) (hp : p ≤ 1) :
    F 34 #[ptr1] p (a :: rdB s at_ bad fl :: R) = some (.returned (str (nameR s at_ bad fl).1), a :: rdB s (nameR s at_ bad fl).2.1 (nameR s at_ bad fl).2.2.1 (nameR s at_ bad fl).2.2.2 :: R) := by
  rw [F, F_loud (f := 34) (X := X) (cl := cl) rfl rfl rfl Tryz.func34 rfl, Tryz.results34]
  cases h1 : isR s at_ 60 with
  | true =>
    have hlt1 := isR_lt h1
    rw [nameR, if_pos h1]
    simp (disch := first | omega | (simp only [go_sem]; omega) | (simp only [go_sem]; done)) only [go_sem, F58, h1]
    generalize hL : Code.loop (.seq (.seq (.region 4 _ _) _) _) = L
    have key : ∀ (n q : Nat) (t : Nat → Value), q + n = s.length → t 0 = ptr1 → t 3 = .int .i64 (at_ : Nat) →
        ∃ t', limR Tryz.prog cl X L p ⟨t, [], a :: rdB s q bad 3 :: R⟩ = some (.exit 0, ⟨t', [], a :: rdB s (q + run notGt s q) bad 3 :: R⟩) ∧ t' 0 = ptr1 ∧ t' 3 = .int .i64 (at_ : Nat) := by
      intro n
      induction n with
      | zero =>
        intro q t hq h0 h3
        rw [← hL, E_loop, hL]
        have hlt : ¬ (q : Int) < s.length := by omega
        rw [run_none notGt (List.getElem?_eq_none_iff.2 (by omega : s.length ≤ q))]
        simp (disch := first | omega | (simp only [go_sem]; omega) | (simp only [go_sem]; done)) only [go_sem, h0, h3, hlt]
        exact ⟨_, rfl, by simp only [go_sem, h0], by simp only [go_sem, h3]⟩
      | succ n ih =>
        intro q t hq h0 h3
        rw [← hL, E_loop, hL]
        have hl : q < s.length := by omega
        have hlt : (q : Int) < s.length := by omega
        have hq' : s[q]? = some s[q] := List.getElem?_eq_getElem hl
        have hi := ix9n hq'
        have e1 : ((q : Int) + 1) = ((q + 1 : Nat) : Int) := by omega
        by_cases q1 : (s[q].toNat : Int) = 62
        · rw [run_no notGt hq' (by unfold notGt; rw [decide_eq_true q1]; rfl)]
          simp (disch := first | omega | (simp only [go_sem]; omega) | (simp only [go_sem]; done)) only [go_sem, h0, h3, hlt, hi, q1]
          exact ⟨_, rfl, by simp only [go_sem, h0], by simp only [go_sem, h3]⟩
        · rw [run_yes notGt hq' (by unfold notGt; rw [decide_eq_false q1]; rfl)]
          simp (disch := first | omega | (simp only [go_sem]; omega) | (simp only [go_sem]; done)) only [go_sem, h0, h3, hlt, hi, q1, bin_add, e1]
          generalize hT : upd _ 43 _ = T
          obtain ⟨t', k1, k2, k3⟩ := ih (q + 1) T (by omega) (by rw [← hT]; simp only [go_sem, h0]) (by rw [← hT]; simp only [go_sem, h3])
          refine ⟨t', ?_, k2, k3⟩
          rw [k1, show q + 1 + run notGt s (q + 1) = q + (run notGt s (q + 1) + 1) by omega]
    generalize hT : upd _ 14 _ = T
    obtain ⟨t', k1, k2, k3⟩ := key (s.length - (at_ + 1)) (at_ + 1) T (by omega) (by rw [← hT]; simp only [go_sem]) (by rw [← hT]; simp only [go_sem])
    rw [k1]
    have hle := run_le notGt s (at_ + 1) (by omega)
    generalize run notGt s (at_ + 1) = k at *
    have e1 : ((at_ : Int) + 1).toNat = at_ + 1 := by omega
    have e2 : at_ + 1 + k - (at_ + 1) = k := by omega
    have w1 : sliceV Tryz.prog 9 (str s) (some (.int .i64 ((at_ : Int) + 1))) (some (.int .i64 ((at_ + 1 + k : Nat) : Int))) none = some (str ((s.drop (at_ + 1)).take k)) := by
      rw [sl_str Tryz.underlying9 (by omega) (by omega) (by omega), Int.toNat_natCast, e1, e2]
    cases h2 : isR s (at_ + 1 + k) 62 with
    | true => simp (disch := first | omega | (simp only [go_sem]; omega) | (simp only [go_sem]; done)) only [go_sem, k2, k3, F58, h2, bin_add, w1]
    | false => simp (disch := first | omega | (simp only [go_sem]; omega) | (simp only [go_sem]; done)) only [go_sem, k2, k3, F58, h2, bin_add, w1]
  | false =>
    rw [nameR, if_neg (by simp [h1])]
    simp (disch := first | omega | (simp only [go_sem]; omega) | (simp only [go_sem]; done)) only [go_sem, F58, h1]
    generalize hL : Code.loop _ = L
    have key : ∀ (n q fl : Nat) (t : Nat → Value), q + n = s.length → fl ≤ 3 → t 0 = ptr1 → t 3 = .int .i64 (at_ : Nat) →
        ∃ t', limR Tryz.prog cl X L p ⟨t, [], a :: rdB s q bad fl :: R⟩ = some (.exit 2, ⟨t', [], a :: rdB s (q + run letB s q) bad (if run letB s q = 0 then fl else 3) :: R⟩) ∧ t' 0 = ptr1 ∧ t' 3 = .int .i64 (at_ : Nat) := by
      intro n
      induction n with
      | zero =>
        intro q fl t hq hfl h0 h3
        rw [← hL, E_loop, hL]
        have hlt : ¬ (q : Int) < s.length := by omega
        rw [run_none letB (List.getElem?_eq_none_iff.2 (by omega : s.length ≤ q)), if_pos rfl]
        simp (disch := first | omega | (simp only [go_sem]; omega) | (simp only [go_sem]; done)) only [go_sem, h0, h3, hlt]
        exact ⟨_, rfl, by simp only [go_sem, h0], by simp only [go_sem, h3]⟩
      | succ n ih =>
        intro q fl t hq hfl h0 h3
        rw [← hL, E_loop, hL]
        have hl : q < s.length := by omega
        have hlt : (q : Int) < s.length := by omega
        have hq' : s[q]? = some s[q] := List.getElem?_eq_getElem hl
        have hi := ix9n hq'
        have e1 : ((q : Int) + 1) = ((q + 1 : Nat) : Int) := by omega
        cases q1 : letterI (s[q].toNat : Int) with
        | false =>
          rw [run_no letB hq' q1, if_pos rfl]
          simp (disch := first | omega | (simp only [go_sem]; omega) | (simp only [go_sem]; done)) only [go_sem, h0, h3, hlt, hi, q1]
          exact ⟨_, rfl, by simp only [go_sem, h0], by simp only [go_sem, h3]⟩
        | true =>
          rw [run_yes letB hq' q1, if_neg (by omega)]
          simp (disch := first | omega | (simp only [go_sem]; omega) | (simp only [go_sem]; done)) only [go_sem, h0, h3, hlt, hi, q1, bin_add, e1]
          generalize hT : upd _ 91 _ = T
          obtain ⟨t', k1, k2, k3⟩ := ih (q + 1) 3 T (by omega) (by omega) (by rw [← hT]; simp only [go_sem, h0]) (by rw [← hT]; simp only [go_sem, h3])
          refine ⟨t', ?_, k2, k3⟩
          rw [k1, show q + 1 + run letB s (q + 1) = q + (run letB s (q + 1) + 1) by omega, ite_self]
    generalize hT : upd _ 14 _ = T
    obtain ⟨t', k1, k2, k3⟩ := key (s.length - at_) at_ fl T (by omega) hfl (by rw [← hT]; simp only [go_sem]) (by rw [← hT]; simp only [go_sem])
    rw [k1]
    have hle := run_le letB s at_ hat
    generalize run letB s at_ = k at *
    have e2 : at_ + k - at_ = k := by omega
    have w1 : sliceV Tryz.prog 9 (str s) (some (.int .i64 (at_ : Nat))) (some (.int .i64 ((at_ + k : Nat) : Int))) none = some (str ((s.drop at_).take k)) := by
      rw [sl_str Tryz.underlying9 (by omega) (by omega) (by omega), Int.toNat_natCast, Int.toNat_natCast, e2]
    have hfl' : (if k = 0 then fl else 3) ≤ 3 := by split <;> omega
    simp (disch := first | omega | (simp only [go_sem]; omega) | (simp only [go_sem]; done)) only [go_sem, k2, k3, w1]
theorem nameR_fl (s : List UInt8) (at_ : Nat) (bad : Bool) (fl : Nat) (h : fl ≤ 3) : (nameR s at_ bad fl).2.2.2 ≤ 3 := by
  unfold nameR
  split
  · exact Nat.le_refl _
  · simp only
    split <;> omega
theorem nameR_bound (s : List UInt8) (at_ : Nat) (bad : Bool) (fl : Nat) (h : at_ ≤ s.length) : (nameR s at_ bad fl).2.1 ≤ s.length ∧ (nameR s at_ bad fl).1.length ≤ s.length := by
  unfold nameR
  split
  · rename_i h1
    have := isR_lt h1
    have hle := run_le notGt s (at_ + 1) (by omega)
    simp only [List.length_take, List.length_drop]
    refine ⟨?_, by omega⟩
    split
    · rename_i h2
      have := isR_lt h2
      omega
    · omega
  · have hle := run_le letB s at_ h
    simp only [List.length_take, List.length_drop]
    omega
end Go.AM.Z

namespace Go.AM.Z
open Go Go.AM Go.Proofs
set_option maxRecDepth 100000
abbrev rlB (r : RuleL) : Blk := ⟨0, 23, #[.int .i64 r.k, .int .i64 r.mo, .int .i64 r.we, .int .i64 r.da, .int .i64 r.at_], 5, false, []⟩
def ruleR2 (s : List UInt8) (k mo we da : Int) (a : Nat) (b : Bool) : RuleL × Nat × Bool :=
  if isR s a 47 = true then (⟨k, mo, we, da, (timeR s (a + 1) b).1⟩, (timeR s (a + 1) b).2.1, (timeR s (a + 1) b).2.2) else (⟨k, mo, we, da, 7200⟩, a, b)
def ruleR1 (s : List UInt8) (a : Nat) (b : Bool) : RuleL × Nat × Bool :=
  if isR s a 74 = true then
    let d1 := numR s (a + 1)
    ruleR2 s 0 0 0 d1.1 (a + 1 + d1.2) (b || decide (d1.2 = 0))
  else if isR s a 77 = true then
    let d1 := numR s (a + 1)
    if isR s (a + 1 + d1.2) 46 = true then
      let d2 := numR s (a + 1 + d1.2 + 1)
      if isR s (a + 1 + d1.2 + 1 + d2.2) 46 = true then
        let d3 := numR s (a + 1 + d1.2 + 1 + d2.2 + 1)
        ruleR2 s 2 d1.1 d2.1 d3.1 (a + 1 + d1.2 + 1 + d2.2 + 1 + d3.2) (b || decide (d1.2 = 0) || decide (d2.2 = 0) || decide (d3.2 = 0))
      else
        let d3 := numR s (a + 1 + d1.2 + 1 + d2.2)
        ruleR2 s 2 d1.1 d2.1 d3.1 (a + 1 + d1.2 + 1 + d2.2 + d3.2) true
    else
      let d2 := numR s (a + 1 + d1.2)
      if isR s (a + 1 + d1.2 + d2.2) 46 = true then
        let d3 := numR s (a + 1 + d1.2 + d2.2 + 1)
        ruleR2 s 2 d1.1 d2.1 d3.1 (a + 1 + d1.2 + d2.2 + 1 + d3.2) true
      else
        let d3 := numR s (a + 1 + d1.2 + d2.2)
        ruleR2 s 2 d1.1 d2.1 d3.1 (a + 1 + d1.2 + d2.2 + d3.2) true
  else
    let d1 := numR s a
    ruleR2 s 1 0 0 d1.1 (a + d1.2) (b || decide (d1.2 = 0))
def ruleR (s : List UInt8) (at_ : Nat) (bad : Bool) : RuleL × Nat × Bool :=
  ruleR1 s (if isR s at_ 44 = true then at_ + 1 else at_) (if isR s at_ 44 = true then bad else true)
set_option maxHeartbeats 4000000 in
theorem F37a (a c : Blk) (s : List UInt8) (hs : s.length ≤ 1000) (at_ : Nat) (bad : Bool) (fl : Nat) (hfl : fl ≤ 3) (p : Nat) (hp : p ≤ 1) :
    F 37 #[ptr1] p [a, rdB s at_ bad fl, c] = some (.returned (ruleR s at_ bad).1.v, [a, rdB s (ruleR s at_ bad).2.1 (ruleR s at_ bad).2.2 3, c, rlB (ruleR s at_ bad).1, rlB (ruleR s at_ bad).1]) := by
  rw [F, F_loud (f := 37) (X := X) (cl := cl) rfl rfl rfl Tryz.func37 rfl, Tryz.results37]
  cases hc : isR s at_ 44 with
  | true =>
    rw [ruleR, hc]
    simp only [if_true, if_false, Bool.false_eq_true]
    rw [ruleR1]
    cases hj : isR s (at_ + 1) 74 with
    | true =>
      simp only [if_true]
      generalize hd1 : numR s (at_ + 1 + 1) = d1 at *
      rw [ruleR2]
      cases hs4 : isR s (at_ + 1 + 1 + d1.2) 47 with
      | false => simp (disch := first | omega | (simp only [go_sem]; omega) | (simp only [go_sem]; done)) only [go_sem, F58, F59, F35, hc, hj, hd1, hs4]
      | true =>
        (try simp only [Bool.true_or])
        generalize htm : timeR s (at_ + 1 + 1 + d1.2 + 1) _ = tm
        simp (disch := first | omega | (simp only [go_sem]; omega) | (simp only [go_sem]; done)) only [go_sem, F58, F59, F35, hc, hj, hd1, hs4, htm]
    | false =>
      simp only [if_false, Bool.false_eq_true]
      cases hn : isR s (at_ + 1) 77 with
      | false =>
        simp only [if_false, Bool.false_eq_true]
        generalize hd1 : numR s (at_ + 1) = d1 at *
        rw [ruleR2]
        cases hs4 : isR s (at_ + 1 + d1.2) 47 with
        | false => simp (disch := first | omega | (simp only [go_sem]; omega) | (simp only [go_sem]; done)) only [go_sem, F58, F59, F35, hc, hj, hn, hd1, hs4]
        | true =>
          (try simp only [Bool.true_or])
          generalize htm : timeR s (at_ + 1 + d1.2 + 1) _ = tm
          simp (disch := first | omega | (simp only [go_sem]; omega) | (simp only [go_sem]; done)) only [go_sem, F58, F59, F35, hc, hj, hn, hd1, hs4, htm]
      | true =>
        simp only [if_true]
        generalize hd1 : numR s (at_ + 1 + 1) = d1 at *
        cases ho : isR s (at_ + 1 + 1 + d1.2) 46 with
        | true =>
          simp only [if_true, if_false, Bool.false_eq_true]
          generalize hd2 : numR s (at_ + 1 + 1 + d1.2 + 1) = d2 at *
          cases ht : isR s (at_ + 1 + 1 + d1.2 + 1 + d2.2) 46 with
          | true =>
            simp only [if_true, if_false, Bool.false_eq_true]
            generalize hd3 : numR s (at_ + 1 + 1 + d1.2 + 1 + d2.2 + 1) = d3 at *
            rw [ruleR2]
            cases hs4 : isR s (at_ + 1 + 1 + d1.2 + 1 + d2.2 + 1 + d3.2) 47 with
            | false => simp (disch := first | omega | (simp only [go_sem]; omega) | (simp only [go_sem]; done)) only [go_sem, F58, F59, F35, hc, hj, hn, hd1, ho, hd2, ht, hd3, hs4]
            | true =>
              (try simp only [Bool.true_or])
              generalize htm : timeR s (at_ + 1 + 1 + d1.2 + 1 + d2.2 + 1 + d3.2 + 1) _ = tm
              simp (disch := first | omega | (simp only [go_sem]; omega) | (simp only [go_sem]; done)) only [go_sem, F58, F59, F35, hc, hj, hn, hd1, ho, hd2, ht, hd3, hs4, htm]
          | false =>
            simp only [if_true, if_false, Bool.false_eq_true]
            generalize hd3 : numR s (at_ + 1 + 1 + d1.2 + 1 + d2.2) = d3 at *
            rw [ruleR2]
            cases hs4 : isR s (at_ + 1 + 1 + d1.2 + 1 + d2.2 + d3.2) 47 with
            | false => simp (disch := first | omega | (simp only [go_sem]; omega) | (simp only [go_sem]; done)) only [go_sem, F58, F59, F35, hc, hj, hn, hd1, ho, hd2, ht, hd3, hs4]
            | true =>
              (try simp only [Bool.true_or])
              generalize htm : timeR s (at_ + 1 + 1 + d1.2 + 1 + d2.2 + d3.2 + 1) _ = tm
              simp (disch := first | omega | (simp only [go_sem]; omega) | (simp only [go_sem]; done)) only [go_sem, F58, F59, F35, hc, hj, hn, hd1, ho, hd2, ht, hd3, hs4, htm]
        | false =>
          simp only [if_true, if_false, Bool.false_eq_true]
          generalize hd2 : numR s (at_ + 1 + 1 + d1.2) = d2 at *
          cases ht : isR s (at_ + 1 + 1 + d1.2 + d2.2) 46 with
          | true =>
            simp only [if_true, if_false, Bool.false_eq_true]
            generalize hd3 : numR s (at_ + 1 + 1 + d1.2 + d2.2 + 1) = d3 at *
            rw [ruleR2]
            cases hs4 : isR s (at_ + 1 + 1 + d1.2 + d2.2 + 1 + d3.2) 47 with
            | false => simp (disch := first | omega | (simp only [go_sem]; omega) | (simp only [go_sem]; done)) only [go_sem, F58, F59, F35, hc, hj, hn, hd1, ho, hd2, ht, hd3, hs4]
            | true =>
              (try simp only [Bool.true_or])
              generalize htm : timeR s (at_ + 1 + 1 + d1.2 + d2.2 + 1 + d3.2 + 1) _ = tm
              simp (disch := first | omega | (simp only [go_sem]; omega) | (simp only [go_sem]; done)) only [go_sem, F58, F59, F35, hc, hj, hn, hd1, ho, hd2, ht, hd3, hs4, htm]
          | false =>
            simp only [if_true, if_false, Bool.false_eq_true]
            generalize hd3 : numR s (at_ + 1 + 1 + d1.2 + d2.2) = d3 at *
            rw [ruleR2]
            cases hs4 : isR s (at_ + 1 + 1 + d1.2 + d2.2 + d3.2) 47 with
            | false => simp (disch := first | omega | (simp only [go_sem]; omega) | (simp only [go_sem]; done)) only [go_sem, F58, F59, F35, hc, hj, hn, hd1, ho, hd2, ht, hd3, hs4]
            | true =>
              (try simp only [Bool.true_or])
              generalize htm : timeR s (at_ + 1 + 1 + d1.2 + d2.2 + d3.2 + 1) _ = tm
              simp (disch := first | omega | (simp only [go_sem]; omega) | (simp only [go_sem]; done)) only [go_sem, F58, F59, F35, hc, hj, hn, hd1, ho, hd2, ht, hd3, hs4, htm]
  | false =>
    rw [ruleR, hc]
    simp only [if_true, if_false, Bool.false_eq_true]
    rw [ruleR1]
    cases hj : isR s (at_) 74 with
    | true =>
      simp only [if_true]
      generalize hd1 : numR s (at_ + 1) = d1 at *
      rw [ruleR2]
      cases hs4 : isR s (at_ + 1 + d1.2) 47 with
      | false => simp (disch := first | omega | (simp only [go_sem]; omega) | (simp only [go_sem]; done)) only [go_sem, F58, F59, F35, hc, hj, hd1, hs4]
      | true =>
        (try simp only [Bool.true_or])
        generalize htm : timeR s (at_ + 1 + d1.2 + 1) _ = tm
        simp (disch := first | omega | (simp only [go_sem]; omega) | (simp only [go_sem]; done)) only [go_sem, F58, F59, F35, hc, hj, hd1, hs4, htm]
    | false =>
      simp only [if_false, Bool.false_eq_true]
      cases hn : isR s (at_) 77 with
      | false =>
        simp only [if_false, Bool.false_eq_true]
        generalize hd1 : numR s (at_) = d1 at *
        rw [ruleR2]
        cases hs4 : isR s (at_ + d1.2) 47 with
        | false => simp (disch := first | omega | (simp only [go_sem]; omega) | (simp only [go_sem]; done)) only [go_sem, F58, F59, F35, hc, hj, hn, hd1, hs4]
        | true =>
          (try simp only [Bool.true_or])
          generalize htm : timeR s (at_ + d1.2 + 1) _ = tm
          simp (disch := first | omega | (simp only [go_sem]; omega) | (simp only [go_sem]; done)) only [go_sem, F58, F59, F35, hc, hj, hn, hd1, hs4, htm]
      | true =>
        simp only [if_true]
        generalize hd1 : numR s (at_ + 1) = d1 at *
        cases ho : isR s (at_ + 1 + d1.2) 46 with
        | true =>
          simp only [if_true, if_false, Bool.false_eq_true]
          generalize hd2 : numR s (at_ + 1 + d1.2 + 1) = d2 at *
          cases ht : isR s (at_ + 1 + d1.2 + 1 + d2.2) 46 with
          | true =>
            simp only [if_true, if_false, Bool.false_eq_true]
            generalize hd3 : numR s (at_ + 1 + d1.2 + 1 + d2.2 + 1) = d3 at *
            rw [ruleR2]
            cases hs4 : isR s (at_ + 1 + d1.2 + 1 + d2.2 + 1 + d3.2) 47 with
            | false => simp (disch := first | omega | (simp only [go_sem]; omega) | (simp only [go_sem]; done)) only [go_sem, F58, F59, F35, hc, hj, hn, hd1, ho, hd2, ht, hd3, hs4]
            | true =>
              (try simp only [Bool.true_or])
              generalize htm : timeR s (at_ + 1 + d1.2 + 1 + d2.2 + 1 + d3.2 + 1) _ = tm
              simp (disch := first | omega | (simp only [go_sem]; omega) | (simp only [go_sem]; done)) only [go_sem, F58, F59, F35, hc, hj, hn, hd1, ho, hd2, ht, hd3, hs4, htm]
          | false =>
            simp only [if_true, if_false, Bool.false_eq_true]
            generalize hd3 : numR s (at_ + 1 + d1.2 + 1 + d2.2) = d3 at *
            rw [ruleR2]
            cases hs4 : isR s (at_ + 1 + d1.2 + 1 + d2.2 + d3.2) 47 with
            | false => simp (disch := first | omega | (simp only [go_sem]; omega) | (simp only [go_sem]; done)) only [go_sem, F58, F59, F35, hc, hj, hn, hd1, ho, hd2, ht, hd3, hs4]
            | true =>
              (try simp only [Bool.true_or])
              generalize htm : timeR s (at_ + 1 + d1.2 + 1 + d2.2 + d3.2 + 1) _ = tm
              simp (disch := first | omega | (simp only [go_sem]; omega) | (simp only [go_sem]; done)) only [go_sem, F58, F59, F35, hc, hj, hn, hd1, ho, hd2, ht, hd3, hs4, htm]
        | false =>
          simp only [if_true, if_false, Bool.false_eq_true]
          generalize hd2 : numR s (at_ + 1 + d1.2) = d2 at *
          cases ht : isR s (at_ + 1 + d1.2 + d2.2) 46 with
          | true =>
            simp only [if_true, if_false, Bool.false_eq_true]
            generalize hd3 : numR s (at_ + 1 + d1.2 + d2.2 + 1) = d3 at *
            rw [ruleR2]
            cases hs4 : isR s (at_ + 1 + d1.2 + d2.2 + 1 + d3.2) 47 with
            | false => simp (disch := first | omega | (simp only [go_sem]; omega) | (simp only [go_sem]; done)) only [go_sem, F58, F59, F35, hc, hj, hn, hd1, ho, hd2, ht, hd3, hs4]
            | true =>
              (try simp only [Bool.true_or])
              generalize htm : timeR s (at_ + 1 + d1.2 + d2.2 + 1 + d3.2 + 1) _ = tm
              simp (disch := first | omega | (simp only [go_sem]; omega) | (simp only [go_sem]; done)) only [go_sem, F58, F59, F35, hc, hj, hn, hd1, ho, hd2, ht, hd3, hs4, htm]
          | false =>
            simp only [if_true, if_false, Bool.false_eq_true]
            generalize hd3 : numR s (at_ + 1 + d1.2 + d2.2) = d3 at *
            rw [ruleR2]
            cases hs4 : isR s (at_ + 1 + d1.2 + d2.2 + d3.2) 47 with
            | false => simp (disch := first | omega | (simp only [go_sem]; omega) | (simp only [go_sem]; done)) only [go_sem, F58, F59, F35, hc, hj, hn, hd1, ho, hd2, ht, hd3, hs4]
            | true =>
              (try simp only [Bool.true_or])
              generalize htm : timeR s (at_ + 1 + d1.2 + d2.2 + d3.2 + 1) _ = tm
              simp (disch := first | omega | (simp only [go_sem]; omega) | (simp only [go_sem]; done)) only [go_sem, F58, F59, F35, hc, hj, hn, hd1, ho, hd2, ht, hd3, hs4, htm]
set_option maxHeartbeats 4000000 in
theorem F37b (a c g h : Blk) (s : List UInt8) (hs : s.length ≤ 1000) (at_ : Nat) (bad : Bool) (fl : Nat) (hfl : fl ≤ 3) (p : Nat) (hp : p ≤ 1) :
    F 37 #[ptr1] p [a, rdB s at_ bad fl, c, g, h] = some (.returned (ruleR s at_ bad).1.v, [a, rdB s (ruleR s at_ bad).2.1 (ruleR s at_ bad).2.2 3, c, g, h, rlB (ruleR s at_ bad).1, rlB (ruleR s at_ bad).1]) := by
  rw [F, F_loud (f := 37) (X := X) (cl := cl) rfl rfl rfl Tryz.func37 rfl, Tryz.results37]
  cases hc : isR s at_ 44 with
  | true =>
    rw [ruleR, hc]
    simp only [if_true, if_false, Bool.false_eq_true]
    rw [ruleR1]
    cases hj : isR s (at_ + 1) 74 with
    | true =>
      simp only [if_true]
      generalize hd1 : numR s (at_ + 1 + 1) = d1 at *
      rw [ruleR2]
      cases hs4 : isR s (at_ + 1 + 1 + d1.2) 47 with
      | false => simp (disch := first | omega | (simp only [go_sem]; omega) | (simp only [go_sem]; done)) only [go_sem, F58, F59, F35, hc, hj, hd1, hs4]
      | true =>
        (try simp only [Bool.true_or])
        generalize htm : timeR s (at_ + 1 + 1 + d1.2 + 1) _ = tm
        simp (disch := first | omega | (simp only [go_sem]; omega) | (simp only [go_sem]; done)) only [go_sem, F58, F59, F35, hc, hj, hd1, hs4, htm]
    | false =>
      simp only [if_false, Bool.false_eq_true]
      cases hn : isR s (at_ + 1) 77 with
      | false =>
        simp only [if_false, Bool.false_eq_true]
        generalize hd1 : numR s (at_ + 1) = d1 at *
        rw [ruleR2]
        cases hs4 : isR s (at_ + 1 + d1.2) 47 with
        | false => simp (disch := first | omega | (simp only [go_sem]; omega) | (simp only [go_sem]; done)) only [go_sem, F58, F59, F35, hc, hj, hn, hd1, hs4]
        | true =>
          (try simp only [Bool.true_or])
          generalize htm : timeR s (at_ + 1 + d1.2 + 1) _ = tm
          simp (disch := first | omega | (simp only [go_sem]; omega) | (simp only [go_sem]; done)) only [go_sem, F58, F59, F35, hc, hj, hn, hd1, hs4, htm]
      | true =>
        simp only [if_true]
        generalize hd1 : numR s (at_ + 1 + 1) = d1 at *
        cases ho : isR s (at_ + 1 + 1 + d1.2) 46 with
        | true =>
          simp only [if_true, if_false, Bool.false_eq_true]
          generalize hd2 : numR s (at_ + 1 + 1 + d1.2 + 1) = d2 at *
          cases ht : isR s (at_ + 1 + 1 + d1.2 + 1 + d2.2) 46 with
          | true =>
            simp only [if_true, if_false, Bool.false_eq_true]
            generalize hd3 : numR s (at_ + 1 + 1 + d1.2 + 1 + d2.2 + 1) = d3 at *
            rw [ruleR2]
            cases hs4 : isR s (at_ + 1 + 1 + d1.2 + 1 + d2.2 + 1 + d3.2) 47 with
            | false => simp (disch := first | omega | (simp only [go_sem]; omega) | (simp only [go_sem]; done)) only [go_sem, F58, F59, F35, hc, hj, hn, hd1, ho, hd2, ht, hd3, hs4]
            | true =>
              (try simp only [Bool.true_or])
              generalize htm : timeR s (at_ + 1 + 1 + d1.2 + 1 + d2.2 + 1 + d3.2 + 1) _ = tm
              simp (disch := first | omega | (simp only [go_sem]; omega) | (simp only [go_sem]; done)) only [go_sem, F58, F59, F35, hc, hj, hn, hd1, ho, hd2, ht, hd3, hs4, htm]
          | false =>
            simp only [if_true, if_false, Bool.false_eq_true]
            generalize hd3 : numR s (at_ + 1 + 1 + d1.2 + 1 + d2.2) = d3 at *
            rw [ruleR2]
            cases hs4 : isR s (at_ + 1 + 1 + d1.2 + 1 + d2.2 + d3.2) 47 with
            | false => simp (disch := first | omega | (simp only [go_sem]; omega) | (simp only [go_sem]; done)) only [go_sem, F58, F59, F35, hc, hj, hn, hd1, ho, hd2, ht, hd3, hs4]
            | true =>
              (try simp only [Bool.true_or])
              generalize htm : timeR s (at_ + 1 + 1 + d1.2 + 1 + d2.2 + d3.2 + 1) _ = tm
              simp (disch := first | omega | (simp only [go_sem]; omega) | (simp only [go_sem]; done)) only [go_sem, F58, F59, F35, hc, hj, hn, hd1, ho, hd2, ht, hd3, hs4, htm]
        | false =>
          simp only [if_true, if_false, Bool.false_eq_true]
          generalize hd2 : numR s (at_ + 1 + 1 + d1.2) = d2 at *
          cases ht : isR s (at_ + 1 + 1 + d1.2 + d2.2) 46 with
          | true =>
            simp only [if_true, if_false, Bool.false_eq_true]
            generalize hd3 : numR s (at_ + 1 + 1 + d1.2 + d2.2 + 1) = d3 at *
            rw [ruleR2]
            cases hs4 : isR s (at_ + 1 + 1 + d1.2 + d2.2 + 1 + d3.2) 47 with
            | false => simp (disch := first | omega | (simp only [go_sem]; omega) | (simp only [go_sem]; done)) only [go_sem, F58, F59, F35, hc, hj, hn, hd1, ho, hd2, ht, hd3, hs4]
            | true =>
              (try simp only [Bool.true_or])
              generalize htm : timeR s (at_ + 1 + 1 + d1.2 + d2.2 + 1 + d3.2 + 1) _ = tm
              simp (disch := first | omega | (simp only [go_sem]; omega) | (simp only [go_sem]; done)) only [go_sem, F58, F59, F35, hc, hj, hn, hd1, ho, hd2, ht, hd3, hs4, htm]
          | false =>
            simp only [if_true, if_false, Bool.false_eq_true]
            generalize hd3 : numR s (at_ + 1 + 1 + d1.2 + d2.2) = d3 at *
            rw [ruleR2]
            cases hs4 : isR s (at_ + 1 + 1 + d1.2 + d2.2 + d3.2) 47 with
            | false => simp (disch := first | omega | (simp only [go_sem]; omega) | (simp only [go_sem]; done)) only [go_sem, F58, F59, F35, hc, hj, hn, hd1, ho, hd2, ht, hd3, hs4]
            | true =>
              (try simp only [Bool.true_or])
              generalize htm : timeR s (at_ + 1 + 1 + d1.2 + d2.2 + d3.2 + 1) _ = tm
              simp (disch := first | omega | (simp only [go_sem]; omega) | (simp only [go_sem]; done)) only [go_sem, F58, F59, F35, hc, hj, hn, hd1, ho, hd2, ht, hd3, hs4, htm]
  | false =>
    rw [ruleR, hc]
    simp only [if_true, if_false, Bool.false_eq_true]
    rw [ruleR1]
    cases hj : isR s (at_) 74 with
    | true =>
      simp only [if_true]
      generalize hd1 : numR s (at_ + 1) = d1 at *
      rw [ruleR2]
      cases hs4 : isR s (at_ + 1 + d1.2) 47 with
      | false => simp (disch := first | omega | (simp only [go_sem]; omega) | (simp only [go_sem]; done)) only [go_sem, F58, F59, F35, hc, hj, hd1, hs4]
      | true =>
        (try simp only [Bool.true_or])
        generalize htm : timeR s (at_ + 1 + d1.2 + 1) _ = tm
        simp (disch := first | omega | (simp only [go_sem]; omega) | (simp only [go_sem]; done)) only [go_sem, F58, F59, F35, hc, hj, hd1, hs4, htm]
    | false =>
      simp only [if_false, Bool.false_eq_true]
      cases hn : isR s (at_) 77 with
      | false =>
        simp only [if_false, Bool.false_eq_true]
        generalize hd1 : numR s (at_) = d1 at *
        rw [ruleR2]
        cases hs4 : isR s (at_ + d1.2) 47 with
        | false => simp (disch := first | omega | (simp only [go_sem]; omega) | (simp only [go_sem]; done)) only [go_sem, F58, F59, F35, hc, hj, hn, hd1, hs4]
        | true =>
          (try simp only [Bool.true_or])
          generalize htm : timeR s (at_ + d1.2 + 1) _ = tm
          simp (disch := first | omega | (simp only [go_sem]; omega) | (simp only [go_sem]; done)) only [go_sem, F58, F59, F35, hc, hj, hn, hd1, hs4, htm]
      | true =>
        simp only [if_true]
        generalize hd1 : numR s (at_ + 1) = d1 at *
        cases ho : isR s (at_ + 1 + d1.2) 46 with
        | true =>
          simp only [if_true, if_false, Bool.false_eq_true]
          generalize hd2 : numR s (at_ + 1 + d1.2 + 1) = d2 at *
          cases ht : isR s (at_ + 1 + d1.2 + 1 + d2.2) 46 with
          | true =>
            simp only [if_true, if_false, Bool.false_eq_true]
            generalize hd3 : numR s (at_ + 1 + d1.2 + 1 + d2.2 + 1) = d3 at *
            rw [ruleR2]
            cases hs4 : isR s (at_ + 1 + d1.2 + 1 + d2.2 + 1 + d3.2) 47 with
            | false => simp (disch := first | omega | (simp only [go_sem]; omega) | (simp only [go_sem]; done)) only [go_sem, F58, F59, F35, hc, hj, hn, hd1, ho, hd2, ht, hd3, hs4]
            | true =>
              (try simp only [Bool.true_or])
              generalize htm : timeR s (at_ + 1 + d1.2 + 1 + d2.2 + 1 + d3.2 + 1) _ = tm
              simp (disch := first | omega | (simp only [go_sem]; omega) | (simp only [go_sem]; done)) only [go_sem, F58, F59, F35, hc, hj, hn, hd1, ho, hd2, ht, hd3, hs4, htm]
          | false =>
            simp only [if_true, if_false, Bool.false_eq_true]
            generalize hd3 : numR s (at_ + 1 + d1.2 + 1 + d2.2) = d3 at *
            rw [ruleR2]
            cases hs4 : isR s (at_ + 1 + d1.2 + 1 + d2.2 + d3.2) 47 with
            | false => simp (disch := first | omega | (simp only [go_sem]; omega) | (simp only [go_sem]; done)) only [go_sem, F58, F59, F35, hc, hj, hn, hd1, ho, hd2, ht, hd3, hs4]
            | true =>
              (try simp only [Bool.true_or])
              generalize htm : timeR s (at_ + 1 + d1.2 + 1 + d2.2 + d3.2 + 1) _ = tm
              simp (disch := first | omega | (simp only [go_sem]; omega) | (simp only [go_sem]; done)) only [go_sem, F58, F59, F35, hc, hj, hn, hd1, ho, hd2, ht, hd3, hs4, htm]
        | false =>
          simp only [if_true, if_false, Bool.false_eq_true]
          generalize hd2 : numR s (at_ + 1 + d1.2) = d2 at *
          cases ht : isR s (at_ + 1 + d1.2 + d2.2) 46 with
          | true =>
            simp only [if_true, if_false, Bool.false_eq_true]
            generalize hd3 : numR s (at_ + 1 + d1.2 + d2.2 + 1) = d3 at *
            rw [ruleR2]
            cases hs4 : isR s (at_ + 1 + d1.2 + d2.2 + 1 + d3.2) 47 with
            | false => simp (disch := first | omega | (simp only [go_sem]; omega) | (simp only [go_sem]; done)) only [go_sem, F58, F59, F35, hc, hj, hn, hd1, ho, hd2, ht, hd3, hs4]
            | true =>
              (try simp only [Bool.true_or])
              generalize htm : timeR s (at_ + 1 + d1.2 + d2.2 + 1 + d3.2 + 1) _ = tm
              simp (disch := first | omega | (simp only [go_sem]; omega) | (simp only [go_sem]; done)) only [go_sem, F58, F59, F35, hc, hj, hn, hd1, ho, hd2, ht, hd3, hs4, htm]
          | false =>
            simp only [if_true, if_false, Bool.false_eq_true]
            generalize hd3 : numR s (at_ + 1 + d1.2 + d2.2) = d3 at *
            rw [ruleR2]
            cases hs4 : isR s (at_ + 1 + d1.2 + d2.2 + d3.2) 47 with
            | false => simp (disch := first | omega | (simp only [go_sem]; omega) | (simp only [go_sem]; done)) only [go_sem, F58, F59, F35, hc, hj, hn, hd1, ho, hd2, ht, hd3, hs4]
            | true =>
              (try simp only [Bool.true_or])
              generalize htm : timeR s (at_ + 1 + d1.2 + d2.2 + d3.2 + 1) _ = tm
              simp (disch := first | omega | (simp only [go_sem]; omega) | (simp only [go_sem]; done)) only [go_sem, F58, F59, F35, hc, hj, hn, hd1, ho, hd2, ht, hd3, hs4, htm]
end Go.AM.Z

namespace Go.AM.Z
open Go Go.AM Go.Proofs
set_option maxRecDepth 100000
theorem zer53 : zer Tryz.prog 53 = some (.agg #[str [], .int .i64 0, .bool false]) := by kernel_rfl
theorem pls53 : placesV Tryz.prog 53 = some (plOf [(0, 1), (1, 1), (2, 1)]) := places_of Tryz.underlying53 (by kernel_rfl)
theorem bld53 (ps : List (Nat × Value)) (h : ps.all (fun p => (cellsV p.2).isSome) = true) : bldV Tryz.prog 53 ps.toArray = bldF (plOf [(0, 1), (1, 1), (2, 1)]) #[str [], .int .i64 0, .bool false] ps := bld_struct zer53 pls53 ps h
attribute [go_sem] bld53
theorem F11' (a1 a4 : List UInt8) (a3 : Bool) (a2 a5 b1 b2 b3 b4 b5 c1 c2 c3 c4 c5 : Int) (h1 : a1.length ≤ 4611686018427387904) (h2 : a4.length ≤ 4611686018427387904) (p : Nat) (H : Heap) :
    F 11 #[.agg #[str a1, .int .i64 a2, .bool a3, str a4, .int .i64 a5, .int .i64 b1, .int .i64 b2, .int .i64 b3, .int .i64 b4, .int .i64 b5, .int .i64 c1, .int .i64 c2, .int .i64 c3, .int .i64 c4, .int .i64 c5]] p H =
      some (.returned (.tuple (if (ZoneL.mk a1 a2 a3 a4 a5 ⟨b1, b2, b3, b4, b5⟩ ⟨c1, c2, c3, c4, c5⟩).may = true then #[str (writeL ⟨a1, a2, a3, a4, a5, ⟨b1, b2, b3, b4, b5⟩, ⟨c1, c2, c3, c4, c5⟩⟩), .int .i64 0] else #[str [], .int .i64 1])), H) := F11 ⟨a1, a2, a3, a4, a5, ⟨b1, b2, b3, b4, b5⟩, ⟨c1, c2, c3, c4, c5⟩⟩ h1 h2 p H
/-- What the reference reads. -/
def looseR1 (s : List UInt8) (std : List UInt8) (off : Int) (at_ : Nat) : ZoneL × Nat × Bool :=
  let n := nameR s at_ false 3
  let t := if seeR s n.2.1 = 44 then (off + 3600, n.2.1, n.2.2.1) else (-(timeR s n.2.1 n.2.2.1).1, (timeR s n.2.1 n.2.2.1).2.1, (timeR s n.2.1 n.2.2.1).2.2)
  let r1 := ruleR s t.2.1 t.2.2
  let r2 := ruleR s r1.2.1 r1.2.2
  (⟨std, off, true, n.1, t.1, r1.1, r2.1⟩, r2.2.1, r2.2.2)
def looseR (s : List UInt8) : ZoneL × Nat × Bool :=
  let n := nameR s 0 false 0
  let t := timeR s n.2.1 n.2.2.1
  if t.2.1 < s.length ∧ t.2.2 = false then looseR1 s n.1 (-t.1) t.2.1
  else (⟨n.1, -t.1, false, [], 0, ⟨0, 0, 0, 0, 0⟩, ⟨0, 0, 0, 0, 0⟩⟩, t.2.1, t.2.2)
def parseR (s : List UInt8) : ZoneL × Int := if 100 < s.length then (zeroZ, 4) else if (looseR s).2.2 = false ∧ ¬ (looseR s).2.1 < s.length ∧ (looseR s).1.may = true ∧ writeL (looseR s).1 = s then ((looseR s).1, 0) else (zeroZ, 2)
set_option maxHeartbeats 4000000 in
theorem F15 (s : List UInt8) (hs : s.length ≤ 1000000) (p : Nat) (H : Heap) : F 15 #[str s] p H = some (.returned (.tuple #[(parseR s).1.v, .int .i64 (parseR s).2]), H) := by
  rw [F, F_pure (f := 15) (X := X) (cl := cl) rfl rfl rfl Tryz.func15 rfl (by simp only [go_sem]), Tryz.results15]
  by_cases hl : 100 < s.length
  · have hl' : (100 : Int) < s.length := by omega
    rw [parseR, if_pos hl]
    simp only [go_sem, hl', zeroZ, RuleL.z]
  · have hl' : ¬ (100 : Int) < s.length := by omega
    rw [parseR, if_neg hl]
    have n1 := nameR_bound s 0 false 0 (by omega)
    have n1f := nameR_fl s 0 false 0 (by omega)
    have h34 : ∀ (a : Blk) (R : Heap), F 34 #[ptr1] 0 (a :: ⟨0, 53, #[str s, .int .i64 0, .bool false], 0, false, []⟩ :: R) = _ := fun a R => F34 a s (by omega) 0 (by omega) false 0 (by omega) R 0 (by omega)
    generalize hn : nameR s 0 false 0 = n at *
    obtain ⟨std, q1, bad1, fl1⟩ := n
    simp only at n1 n1f h34
    have t1 := timeR_bound s q1 bad1 n1.1
    have h35 := fun a R => F35 a s (by omega) q1 bad1 fl1 n1f R 0 (by omega)
    generalize ht : timeR s q1 bad1 = t at *
    obtain ⟨tv, q2, bad2⟩ := t
    simp only at t1 h35
    by_cases hq : q2 < s.length
    · have hq' : (q2 : Int) < s.length := by omega
      cases hb : bad2 with
      | false =>
        subst hb
        have hz : looseR s = looseR1 s std (-tv) q2 := by rw [looseR, hn]; simp only [ht]; rw [if_pos (by simp [hq])]
        rw [hz, looseR1]
        have n2 := nameR_bound s q2 false 3 (by omega)
        have n2f := nameR_fl s q2 false 3 (by omega)
        have h34' := fun a R => F34 a s (by omega) q2 (by omega) false 3 (by omega) R 0 (by omega)
        generalize hn2 : nameR s q2 false 3 = n2' at *
        obtain ⟨dst, q3, bad3, fl3⟩ := n2'
        simp only at n2 n2f h34'
        have h36 := fun a R => F36 a s (by omega) q3 bad3 fl3 n2f R 0
        by_cases hs44 : seeR s q3 = 44
        · simp only [hs44, if_true]
          generalize r1 : ruleR s q3 bad3 = x1 at *
          generalize r2 : ruleR s x1.2.1 x1.2.2 = x2 at *
          have h11 := F11' std dst true (-tv) (-tv + 3600) x1.1.k x1.1.mo x1.1.we x1.1.da x1.1.at_ x2.1.k x2.1.mo x2.1.we x2.1.da x2.1.at_ (by omega) (by omega)
          generalize hmm : (ZoneL.mk std (-tv) true dst (-tv + 3600) _ _) = zz at *
          have hnat : (x2.2.1 < s.length) = ((x2.2.1 : Int) < s.length) := propext (by omega)
          cases hb : x2.2.2 <;> by_cases hq4 : (x2.2.1 : Int) < s.length <;> cases hm : zz.may <;> rw [hm] at h11 <;> by_cases hw : writeL zz = s <;>
            simp (disch := first | omega | (simp only [go_sem]; omega) | (simp only [go_sem]; done)) only [go_sem, hl', h34, h35, un_neg, bin_add, hq', h34', h36, hs44, F37a, F37b, r1, r2, h11, hb, hnat, hq4, hm, hw, false_and, and_false, zeroZ, RuleL.z, Bool.true_eq_false]
          all_goals simp only [← hmm]
        · simp only [hs44, if_false]
          have t2 := timeR_bound s q3 bad3 (by omega)
          have h35' := fun a R => F35 a s (by omega) q3 bad3 fl3 n2f R 0 (by omega)
          generalize ht2 : timeR s q3 bad3 = t2' at *
          obtain ⟨tv2, q4, bad4⟩ := t2'
          simp only at t2 h35'
          simp only
          generalize r1 : ruleR s q4 bad4 = x1 at *
          generalize r2 : ruleR s x1.2.1 x1.2.2 = x2 at *
          have h11 := F11' std dst true (-tv) (-tv2) x1.1.k x1.1.mo x1.1.we x1.1.da x1.1.at_ x2.1.k x2.1.mo x2.1.we x2.1.da x2.1.at_ (by omega) (by omega)
          generalize hmm : (ZoneL.mk std (-tv) true dst (-tv2) _ _) = zz at *
          have hnat : (x2.2.1 < s.length) = ((x2.2.1 : Int) < s.length) := propext (by omega)
          cases hb : x2.2.2 <;> by_cases hq4 : (x2.2.1 : Int) < s.length <;> cases hm : zz.may <;> rw [hm] at h11 <;> by_cases hw : writeL zz = s <;>
            simp (disch := first | omega | (simp only [go_sem]; omega) | (simp only [go_sem]; done)) only [go_sem, hl', h34, h35, un_neg, bin_add, hq', h34', h36, hs44, F37a, F37b, r1, r2, h11, hb, hnat, hq4, hm, hw, false_and, and_false, zeroZ, RuleL.z, Bool.true_eq_false, h35']
          all_goals simp only [← hmm]
      | true =>
        subst hb
        have hz : looseR s = (⟨std, -tv, false, [], 0, ⟨0, 0, 0, 0, 0⟩, ⟨0, 0, 0, 0, 0⟩⟩, q2, true) := by rw [looseR, hn]; simp only [ht]; rw [if_neg (by simp)]
        rw [hz]
        have h11 := F11' std [] false (-tv) 0 0 0 0 0 0 0 0 0 0 0 (by omega) (by simp)
        generalize (ZoneL.mk std (-tv) false [] 0 ⟨0, 0, 0, 0, 0⟩ ⟨0, 0, 0, 0, 0⟩) = zz at *
        cases hm : zz.may <;> rw [hm] at h11 <;>
          simp (disch := first | omega | (simp only [go_sem]; omega) | (simp only [go_sem]; done)) only [go_sem, hl', h34, h35, un_neg, hq', h11, false_and, zeroZ, RuleL.z, Bool.true_eq_false]
    · have hq' : ¬ (q2 : Int) < s.length := by omega
      have hz : looseR s = (⟨std, -tv, false, [], 0, ⟨0, 0, 0, 0, 0⟩, ⟨0, 0, 0, 0, 0⟩⟩, q2, bad2) := by rw [looseR, hn]; simp only [ht]; rw [if_neg (by omega)]
      rw [hz]
      have h11 := F11' std [] false (-tv) 0 0 0 0 0 0 0 0 0 0 0 (by omega) (by simp)
      generalize hmm : (ZoneL.mk std (-tv) false [] 0 ⟨0, 0, 0, 0, 0⟩ ⟨0, 0, 0, 0, 0⟩) = zz at *
      cases hb : bad2 <;> subst hb <;> cases hm : zz.may <;> rw [hm] at h11 <;> by_cases hw : writeL zz = s <;>
        simp (disch := first | omega | (simp only [go_sem]; omega) | (simp only [go_sem]; done)) only [go_sem, hl', h34, h35, un_neg, hq, hq', h11, false_and, and_false, hm, hw, zeroZ, RuleL.z, Bool.true_eq_false]
      simp only [← hmm]
end Go.AM.Z

namespace Go.AM.Z
open Go Go.AM Go.Proofs
set_option maxRecDepth 100000
/-! The plain law: what is written is read back, by either. -/
def Asc (l : List UInt8) : Prop := ∀ b ∈ l, b.toNat < 128
theorem Asc.app {l r : List UInt8} (h : Asc l) (k : Asc r) : Asc (l ++ r) := fun b hb => by
  rcases List.mem_append.1 hb with h1 | h1
  · exact h b h1
  · exact k b h1
theorem Asc.cons {b : UInt8} {r : List UInt8} (h : b.toNat < 128) (k : Asc r) : Asc (b :: r) := fun x hx => by
  rcases List.mem_cons.1 hx with rfl | h1
  · exact h
  · exact k x h1
theorem Asc.nil : Asc [] := fun b hb => by cases hb
theorem Asc.right {l r : List UInt8} (h : Asc (l ++ r)) : Asc r := fun b hb => h b (List.mem_append_right _ hb)
def HeadNo (f : UInt8 → Bool) (r : List UInt8) : Prop := ∀ b, r.head? = some b → f b = false
theorem HeadNo.nil {f : UInt8 → Bool} : HeadNo f [] := fun b h => by cases h
theorem HeadNo.cons {f : UInt8 → Bool} {b : UInt8} {r : List UInt8} (h : f b = false) : HeadNo f (b :: r) := fun x hx => by
  injection hx with hx; subst hx; exact h
theorem tw_stop {f : UInt8 → Bool} {l r : List UInt8} (h : ∀ b ∈ l, f b = true) (hr : HeadNo f r) : (l ++ r).takeWhile f = l ∧ (l ++ r).dropWhile f = r := by
  rw [List.takeWhile_append_of_pos h, List.dropWhile_append_of_pos h]
  cases r with
  | nil => simp
  | cons b r =>
    have := hr b rfl
    simp [this]
theorem cutAt_asc (set s : List UInt8) (ha : Asc s) : ∀ (k pos : Nat), s.length < pos + k → cutAt set s k pos = (s.drop pos).dropWhile (fun b => set.contains b)
  | 0, pos, h => by rw [cutAt, List.drop_of_length_le (by omega)]; rfl
  | k + 1, pos, h => by
    rw [cutAt]
    by_cases hp : pos < s.length
    · rw [if_pos hp, List.drop_eq_getElem_cons hp]
      have hd := dec_ascii (List.getElem?_eq_getElem hp) (ha _ (List.getElem_mem hp))
      rw [hd]
      have e : (((s[pos].toNat : Nat) : Int) ∈ set.map (fun b => (b.toNat : Int))) ↔ set.contains s[pos] = true := by
        rw [List.contains_iff_mem, List.mem_map]
        constructor
        · rintro ⟨a, h1, h2⟩
          have : a = s[pos] := UInt8.toNat_inj.1 (by omega)
          exact this ▸ h1
        · exact fun h => ⟨_, h, rfl⟩
      by_cases hc : set.contains s[pos] = true
      · rw [if_pos (e.2 hc), List.dropWhile_cons_of_pos hc]
        exact cutAt_asc set s ha k (pos + 1) (by omega)
      · rw [if_neg (fun h => hc (e.1 h)), List.dropWhile_cons_of_neg hc]
    · rw [if_neg hp, List.drop_of_length_le (by omega)]; rfl
theorem cutL_asc {set s : List UInt8} (ha : Asc s) : cutL set s = s.dropWhile (fun b => set.contains b) := by
  unfold cutL
  rw [cutAt_asc set s ha _ 0 (by omega), List.drop_zero]
theorem cut_stop {set l r : List UInt8} (ha : Asc (l ++ r)) (h : ∀ b ∈ l, set.contains b = true) (hr : HeadNo (fun b => set.contains b) r) : cutL set (l ++ r) = r ∧ pre set (l ++ r) = l := by
  have e := cutL_asc (set := set) ha
  rw [(tw_stop h hr).2] at e
  refine ⟨e, ?_⟩
  unfold pre
  rw [e, List.length_append, Nat.add_sub_cancel, List.take_left']
  rfl
/-- Digits. -/
def dg (b : UInt8) : Bool := decide (48 ≤ b.toNat ∧ b.toNat ≤ 57)
def val (n : Nat) (l : List UInt8) : Nat := l.foldl (fun n b => 10 * n + (b.toNat - 48)) n
theorem val_nil (n : Nat) : val n [] = n := by unfold val; rw [List.foldl_nil]
theorem val_cons (n : Nat) (b : UInt8) (l : List UInt8) : val n (b :: l) = val (10 * n + (b.toNat - 48)) l := by unfold val; rw [List.foldl_cons]
theorem val_app (l r : List UInt8) (n : Nat) : val n (l ++ r) = val (val n l) r := by unfold val; rw [List.foldl_append]
structure Dig (l : List UInt8) (n k : Nat) : Prop where
  all : ∀ b ∈ l, dg b = true
  val : val 0 l = n
  ne : l ≠ []
  len : l.length ≤ k
theorem dec_dig : ∀ (k n : Nat), n < 10 ^ (k + 1) → Dig (Lib.decDigits n) n (k + 1) := by
  intro k
  induction k with
  | zero =>
    intro n h
    rw [Lib.decDigits, dif_pos (by simpa using h)]
    have h10 : n < 10 := by simpa using h
    have hb : (UInt8.ofNat (48 + n)).toNat = 48 + n := by rw [UInt8.toNat_ofNat']; omega
    refine ⟨fun b hb' => ?_, ?_, by simp, by simp⟩
    · rw [List.mem_singleton] at hb'
      subst hb'
      unfold dg
      exact decide_eq_true (by omega)
    · rw [val_cons, val_nil, hb]
      omega
  | succ k ih =>
    intro n h
    by_cases h10 : n < 10
    · have d := ih n (by have := Nat.pow_le_pow_right (show 0 < 10 by omega) (show 1 ≤ k + 1 by omega); omega)
      exact ⟨d.all, d.val, d.ne, by have := d.len; omega⟩
    · have d := ih (n / 10) (by rw [Nat.pow_succ] at h; omega)
      rw [Lib.decDigits, dif_neg h10]
      have hb : (UInt8.ofNat (48 + n % 10)).toNat = 48 + n % 10 := by rw [UInt8.toNat_ofNat']; omega
      refine ⟨fun b hb' => ?_, ?_, by simp, by have := d.len; simp; omega⟩
      · rcases List.mem_append.1 hb' with h1 | h1
        · exact d.all b h1
        · rw [List.mem_singleton] at h1
          subst h1
          unfold dg
          exact decide_eq_true (by omega)
      · rw [val_app, d.val]
        rw [val_cons, val_nil, hb]
        omega
theorem itoa_dig (n : Int) (h0 : 0 ≤ n) (h1 : n < 1000000) : Dig (Lib.itoa n) n.toNat 6 := by
  obtain ⟨m, rfl⟩ := Int.eq_ofNat_of_zero_le h0
  rw [show Lib.itoa (m : Int) = Lib.decDigits m by unfold Lib.itoa; rw [if_neg (by omega)]; rfl, Int.toNat_natCast]
  exact dec_dig 5 m (by have : (10 : Nat) ^ (5 + 1) = 1000000 := by decide
                        omega)
theorem two_dig_tab : ∀ n : Fin 100, (twoL n.val).all dg = true ∧ val 0 (twoL n.val) = n.val ∧ (twoL n.val).length = 2 := by
  intro n
  have h := two_tab n
  rw [h]
  revert n
  decide +kernel
end Go.AM.Z

namespace Go.AM.Z
open Go Go.AM Go.Proofs
set_option maxRecDepth 100000
theorem index_at (c : UInt8) : ∀ (a b : List UInt8), c ∉ a → Lib.indexByte (a ++ c :: b) c = a.length
  | [], b, _ => by rw [List.nil_append, Lib.indexByte, if_pos (by simp)]; rfl
  | x :: a, b, h => by
    have h1 : ¬ x = c := fun e => h (by rw [e]; simp)
    have ih := index_at c a b (fun hc => h (List.mem_cons_of_mem _ hc))
    rw [List.cons_append, Lib.indexByte, if_neg (by simpa using h1), ih, if_neg (by rw [beq_iff_eq]; omega)]
    simp
theorem pieces_none {c : UInt8} {a : List UInt8} (h : c ∉ a) : pieces c a = [a] := by
  unfold pieces
  rw [List.count_eq_zero_of_not_mem h]
  rfl
theorem pieces_cons {c : UInt8} {a b : List UInt8} (h : c ∉ a) : pieces c (a ++ c :: b) = a :: pieces c b := by
  unfold pieces
  rw [List.count_append, List.count_eq_zero_of_not_mem h, List.count_cons_self, Nat.zero_add, piecesN, index_at c a b h, Int.toNat_natCast]
  congr 1
  · simp
  · rw [← List.drop_drop, List.drop_left]
    rfl
theorem dg_ne {b c : UInt8} (h : dg b = true) (hc : dg c = false) : ¬ b = c := fun e => by subst e; rw [h] at hc; cases hc
theorem dig_not {l : List UInt8} (h : ∀ b ∈ l, dg b = true) {c : UInt8} (hc : dg c = false) : c ∉ l := fun hm => dg_ne (h c hm) hc rfl
theorem parse_dig : ∀ (l : List UInt8) (acc : Nat), (∀ b ∈ l, dg b = true) → (acc + 1) * 10 ^ l.length ≤ 1000000000000000000 → Lib.parseUint10 acc l = .ok (val acc l)
  | [], acc, _, _ => by rw [Lib.parseUint10, val_nil]
  | b :: l, acc, h, hb => by
    have hd := h b (by simp)
    unfold dg at hd
    have hd := of_decide_eq_true hd
    rw [List.length_cons, Nat.pow_succ] at hb
    have hp : 1 ≤ 10 ^ l.length := Nat.one_le_pow _ _ (by omega)
    have h2 : (10 * (acc + 1)) * 10 ^ l.length ≤ 1000000000000000000 := by
      have e : (10 * (acc + 1)) * 10 ^ l.length = (acc + 1) * (10 ^ l.length * 10) := by
        rw [Nat.mul_comm 10 (acc + 1), Nat.mul_assoc, Nat.mul_comm 10]
      rw [e]; exact hb
    have h3 : 10 * (acc + 1) ≤ 1000000000000000000 := Nat.le_trans (Nat.le_mul_of_pos_right _ (by omega)) h2
    rw [Lib.parseUint10, if_pos hd, if_neg (by omega), if_neg (by omega), val_cons]
    have e1 : acc * 10 + (b.toNat - 48) = 10 * acc + (b.toNat - 48) := by omega
    rw [e1]
    refine parse_dig l _ (fun x hx => h x (List.mem_cons_of_mem _ hx)) (Nat.le_trans (Nat.mul_le_mul_right _ ?_) h2)
    omega
theorem atoi_dig {l : List UInt8} (h : ∀ b ∈ l, dg b = true) (hne : l ≠ []) (hl : l.length ≤ 6) : atoiV l = val 0 l := by
  cases l with
  | nil => exact absurd rfl hne
  | cons c r =>
    have hd := h c (by simp)
    unfold dg at hd
    have hd := of_decide_eq_true hd
    have hp : 10 ^ (c :: r).length ≤ 10 ^ 6 := Nat.pow_le_pow_right (by omega) hl
    have h6 : (10 : Nat) ^ 6 = 1000000 := by decide
    have hpar := parse_dig (c :: r) 0 h (by rw [Nat.zero_add, Nat.one_mul]; omega)
    have hlt : val 0 (c :: r) < 9223372036854775808 := by
      have key : ∀ (l : List UInt8) (acc m : Nat), (∀ b ∈ l, dg b = true) → acc < 10 ^ m → val acc l < 10 ^ (m + l.length) := by
        intro l
        induction l with
        | nil => intro acc m _ h; simpa [val_nil] using h
        | cons b l ih =>
          intro acc m h1 h2
          have hd := h1 b (by simp)
          unfold dg at hd
          have hd := of_decide_eq_true hd
          rw [val_cons, List.length_cons, show m + (l.length + 1) = m + 1 + l.length by omega]
          exact ih _ (m + 1) (fun x hx => h1 x (List.mem_cons_of_mem _ hx)) (by rw [Nat.pow_succ]; omega)
      have := key (c :: r) 0 0 h (by decide)
      rw [Nat.zero_add] at this
      omega
    unfold atoiV Lib.atoiAll
    simp only
    have n1 : ¬ (c.toNat = 43 ∨ c.toNat = 45) := by omega
    have n2 : ¬ c.toNat = 45 := by omega
    rw [if_neg n1]
    unfold Lib.parseMag
    rw [if_neg (by simp), hpar]
    simp only
    rw [if_neg (by omega), if_neg (by omega), if_neg n2]
theorem two_dig (k : Int) (h0 : 0 ≤ k) (h1 : k < 100) : Dig (twoL k) k.toNat 6 := by
  obtain ⟨m, rfl⟩ := Int.eq_ofNat_of_zero_le h0
  obtain ⟨h1, h2, h3⟩ := two_dig_tab ⟨m, by omega⟩
  exact ⟨fun b hb => by rw [List.all_eq_true] at h1; exact h1 b hb, by rw [Int.toNat_natCast]; exact h2, (fun e => by rw [e] at h3; simp at h3), by rw [h3]; omega⟩
theorem Dig.atoi {l : List UInt8} {n k : Nat} (d : Dig l n k) (hk : k ≤ 6) : atoiV l = n := by
  rw [atoi_dig d.all d.ne (by have := d.len; omega), d.val]
/-- A time's text: hours, and minutes, and seconds, where there are any. -/
theorem timeP_parts (n : Int) (h0 : 0 ≤ n) (h1 : n < 1000000) : ∃ h m s : Int, n = 3600 * h + 60 * m + s ∧ 0 ≤ h ∧ h < 1000 ∧ 0 ≤ m ∧ m < 60 ∧ 0 ≤ s ∧ s < 60 ∧
    timeP n = Lib.itoa h ++ (if m = 0 ∧ s = 0 then [] else 58 :: twoL m) ++ (if s = 0 then [] else 58 :: twoL s) := by
  have e1 : n.tdiv 3600 = n / 3600 := Int.tdiv_eq_ediv_of_nonneg h0
  have e2 : n.tdiv 60 = n / 60 := Int.tdiv_eq_ediv_of_nonneg h0
  have e3 : n.tmod 3600 = n % 3600 := Int.tmod_eq_emod_of_nonneg h0
  have e4 : (n / 60).tmod 60 = n / 60 % 60 := Int.tmod_eq_emod_of_nonneg (by omega)
  have e5 : n.tmod 60 = n % 60 := Int.tmod_eq_emod_of_nonneg h0
  refine ⟨n / 3600, n / 60 % 60, n % 60, by omega, by omega, by omega, by omega, by omega, by omega, by omega, ?_⟩
  unfold timeP
  rw [e1, e2, e3, e4, e5]
  have : (n % 3600 = 0) = (n / 60 % 60 = 0 ∧ n % 60 = 0) := propext (by omega)
  simp only [this]
theorem val1_time (sg n : Int) (h0 : 0 ≤ n) (h1 : n ≤ 604799) : val1 sg (timeP n) = sg * n := by
  obtain ⟨h, m, s, e, b1, b2, b3, b4, b5, b6, ht⟩ := timeP_parts n h0 (by omega)
  have dh := itoa_dig h b1 (by omega)
  have dm := two_dig m b3 (by omega)
  have ds := two_dig s b5 (by omega)
  have n58 : dg 58 = false := by decide
  have ah := dh.atoi (Nat.le_refl _)
  have am := dm.atoi (Nat.le_refl _)
  have as_ := ds.atoi (Nat.le_refl _)
  rw [ht]
  unfold val1
  by_cases hs : s = 0
  · by_cases hm : m = 0
    · rw [if_pos ⟨hm, hs⟩, if_pos hs, List.append_nil, List.append_nil, pieces_none (dig_not dh.all n58)]
      simp only [valGo, ah]
      rw [if_neg (by omega)]
      simp only
      congr 1
      omega
    · rw [if_neg (by omega), if_pos hs, List.append_nil, pieces_cons (dig_not dh.all n58), pieces_none (dig_not dm.all n58)]
      simp only [valGo, ah, am]
      rw [if_neg (by omega), if_neg (by omega)]
      simp only
      congr 1
      omega
  · rw [if_neg (by omega), if_neg hs, List.append_assoc, List.cons_append, pieces_cons (dig_not dh.all n58), pieces_cons (dig_not dm.all n58), pieces_none (dig_not ds.all n58)]
    simp only [valGo, ah, am, as_]
    rw [if_neg (by omega), if_neg (by omega), if_neg (by omega)]
    simp only
    congr 1
    omega
theorem timeP_head (n : Int) (h0 : 0 ≤ n) (h1 : n < 1000000) : ∃ b r, timeP n = b :: r ∧ dg b = true := by
  obtain ⟨h, m, s, e, b1, b2, b3, b4, b5, b6, ht⟩ := timeP_parts n h0 h1
  have dh := itoa_dig h b1 (by omega)
  cases hh : Lib.itoa h with
  | nil => exact absurd hh dh.ne
  | cons b r =>
    refine ⟨b, r ++ (if m = 0 ∧ s = 0 then [] else 58 :: twoL m) ++ (if s = 0 then [] else 58 :: twoL s), ?_, dh.all b (by rw [hh]; simp)⟩
    rw [ht, hh]
    rfl
theorem valueL_time (n : Int) (h0 : -604799 ≤ n) (h1 : n ≤ 604799) : valueL (timeL n) = n := by
  unfold timeL
  by_cases hn : n < 0
  · rw [if_pos hn]
    unfold valueL
    have e : ([45] : List UInt8).isPrefixOf (45 :: timeP (-n)) = true := rfl
    rw [if_pos e]
    show val1 (-1) (timeP (-n)) = n
    rw [val1_time _ _ (by omega) (by omega)]
    omega
  · rw [if_neg hn]
    obtain ⟨b, r, hb, hd⟩ := timeP_head n (by omega) (by omega)
    have e : ([45] : List UInt8).isPrefixOf (timeP n) = false := by
      rw [hb]
      show ((45 : UInt8) == b && _) = false
      have : ((45 : UInt8) == b) = false := by
        rw [beq_eq_false_iff_ne]
        intro e; subst e; revert hd; decide
      rw [this]; rfl
    unfold valueL
    rw [if_neg (by rw [e]; simp), val1_time _ _ (by omega) (by omega)]
    omega
end Go.AM.Z

namespace Go.AM.Z
open Go Go.AM Go.Proofs
set_option maxRecDepth 100000
theorem u8_all {p : UInt8 → Bool} (h : ∀ n : Fin 256, p (UInt8.ofNat n.val) = true) (b : UInt8) : p b = true := by
  have := h ⟨b.toNat, b.toNat_lt⟩
  simpa using this
theorem dg_time (b : UInt8) : (!dg b || timeSet.contains b) = true := u8_all (p := fun b => !dg b || timeSet.contains b) (by decide +kernel) b
theorem dg_time' {b : UInt8} (h : dg b = true) : timeSet.contains b = true := by have := dg_time b; rw [h] at this; simpa using this
theorem dg_asc {b : UInt8} (h : dg b = true) : b.toNat < 128 := by
  unfold dg at h
  have := of_decide_eq_true h
  omega
/-- What stands in a time's text. -/
theorem timeL_mem (n : Int) (h0 : -1000000 < n) (h1 : n < 1000000) : ∀ b ∈ timeL n, dg b = true ∨ b = 45 ∨ b = 58 := by
  have key : ∀ n : Int, 0 ≤ n → n < 1000000 → ∀ b ∈ timeP n, dg b = true ∨ b = 45 ∨ b = 58 := by
    intro n h0 h1 b hb
    obtain ⟨h, m, s, e, b1, b2, b3, b4, b5, b6, ht⟩ := timeP_parts n h0 h1
    have dh := itoa_dig h b1 (by omega)
    have dm := two_dig m b3 (by omega)
    have ds := two_dig s b5 (by omega)
    rw [ht, List.mem_append, List.mem_append] at hb
    rcases hb with (hb | hb) | hb
    · exact .inl (dh.all b hb)
    · split at hb
      · cases hb
      · rcases List.mem_cons.1 hb with rfl | hb
        · exact .inr (.inr rfl)
        · exact .inl (dm.all b hb)
    · split at hb
      · cases hb
      · rcases List.mem_cons.1 hb with rfl | hb
        · exact .inr (.inr rfl)
        · exact .inl (ds.all b hb)
  intro b hb
  unfold timeL at hb
  split at hb
  · rcases List.mem_cons.1 hb with rfl | hb
    · exact .inr (.inl rfl)
    · exact key (-n) (by omega) (by omega) b hb
  · exact key n (by omega) h1 b hb
theorem timeL_asc (n : Int) (h0 : -1000000 < n) (h1 : n < 1000000) : Asc (timeL n) := fun b hb => by
  rcases timeL_mem n h0 h1 b hb with h | rfl | rfl
  · exact dg_asc h
  · decide
  · decide
theorem timeL_set (n : Int) (h0 : -1000000 < n) (h1 : n < 1000000) : ∀ b ∈ timeL n, timeSet.contains b = true := fun b hb => by
  rcases timeL_mem n h0 h1 b hb with h | rfl | rfl
  · exact dg_time' h
  · decide
  · decide
theorem timeL_head (n : Int) (h0 : -1000000 < n) (h1 : n < 1000000) : ∃ b r, timeL n = b :: r ∧ (dg b = true ∨ b = 45) := by
  unfold timeL
  split
  · exact ⟨45, _, rfl, .inr rfl⟩
  · obtain ⟨b, r, h, hd⟩ := timeP_head n (by omega) h1
    exact ⟨b, r, h, .inl hd⟩
theorem takeTime_of (n : Int) (h0 : -604799 ≤ n) (h1 : n ≤ 604799) {r : List UInt8} (ha : Asc r) (hr : HeadNo (fun b => timeSet.contains b) r) : takeTimeL (timeL n ++ r) = (n, r) := by
  obtain ⟨e1, e2⟩ := cut_stop (set := timeSet) ((timeL_asc n (by omega) (by omega)).app ha) (timeL_set n (by omega) (by omega)) hr
  unfold takeTimeL
  rw [e1, e2, valueL_time n h0 h1]
theorem letters_set (b : UInt8) : (lettersL.contains b == letterI b.toNat) = true := u8_all (p := fun b => lettersL.contains b == letterI b.toNat) (by decide +kernel) b
theorem letters_set' (b : UInt8) : lettersL.contains b = letterI b.toNat := by simpa using letters_set b
theorem okC_no62 {b : UInt8} (h : okC b = true) : ¬ b = 62 := fun e => by subst e; revert h; decide +kernel
theorem name_ok {s : List UInt8} (h : nameB s = true) : (∀ b ∈ s, okC b = true) ∧ 3 ≤ s.length ∧ s.length ≤ 10 := by
  simp only [nameB, inB, Bool.and_eq_true, List.all_eq_true, decide_eq_true_eq] at h
  exact ⟨h.1, by omega, by omega⟩
theorem name_asc {s : List UInt8} (h : nameB s = true) : Asc s := fun b hb => okC_ascii b ((name_ok h).1 b hb)
theorem named_asc {s : List UInt8} (h : nameB s = true) : Asc (namedL s) := by
  rw [named_eq s h]
  split
  · exact name_asc h
  · exact .cons (by decide) ((name_asc h).app (.cons (by decide) .nil))
theorem takeName_of {x : List UInt8} (hx : nameB x = true) {r : List UInt8} (ha : Asc r) (hr : HeadNo (fun b => letterI b.toNat) r) : takeNameL (namedL x ++ r) = (x, r) := by
  rw [named_eq x hx]
  obtain ⟨h1, h2, h3⟩ := name_ok hx
  by_cases hq : (x.all fun b => letterI b.toNat) = true
  · rw [if_pos hq]
    rw [List.all_eq_true] at hq
    have e1 := cut_stop (set := lettersL) (l := x) (r := r) ((name_asc hx).app ha) (fun b hb => by rw [letters_set']; exact hq b hb) (fun b hb => by simp only [letters_set']; exact hr b hb)
    have e2 : ([60] : List UInt8).isPrefixOf (x ++ r) = false := by
      cases x with
      | nil => simp at h2
      | cons c x =>
        have hc := hq c (by simp)
        show ((60 : UInt8) == c && _) = false
        have : ((60 : UInt8) == c) = false := by
          rw [beq_eq_false_iff_ne]
          intro e; subst e; revert hc; decide
        rw [this]; rfl
    unfold takeNameL
    rw [if_neg (by rw [e2]; simp), e1.1, e1.2]
  · rw [if_neg hq]
    have e2 : ([60] : List UInt8).isPrefixOf (60 :: (x ++ [62]) ++ r) = true := rfl
    have e3 : (60 :: (x ++ [62]) ++ r).drop 1 = x ++ 62 :: r := by simp
    have e4 : Lib.indexByte (x ++ 62 :: r) 62 = x.length := index_at 62 x r fun hm => okC_no62 (h1 62 hm) rfl
    unfold takeNameL
    rw [if_pos e2, e3, e4, if_pos (by omega), Int.toNat_natCast, List.take_left' rfl, ← List.drop_drop, List.drop_left' rfl]
    rfl
/-- A rule, but for its time. -/
def bodyL (r : RuleL) : List UInt8 := if r.k = 0 then 74 :: numL r.da else if r.k = 1 then numL r.da else 77 :: (numL r.mo ++ 46 :: (numL r.we ++ 46 :: numL r.da))
def tailL (r : RuleL) : List UInt8 := if r.at_ = 7200 then [] else 47 :: timeL r.at_
theorem day_eq (r : RuleL) : dayL r = bodyL r ++ tailL r := rfl
theorem rule_bd {r : RuleL} (h : r.ok = true) : (-604799 ≤ r.at_ ∧ r.at_ ≤ 604799 ∧ 0 ≤ r.da ∧ r.da ≤ 365) ∧ ((r.k = 0 ∧ r.mo = 0 ∧ r.we = 0) ∨ (r.k = 1 ∧ r.mo = 0 ∧ r.we = 0) ∨ (r.k = 2 ∧ 1 ≤ r.mo ∧ r.mo ≤ 12 ∧ 1 ≤ r.we ∧ r.we ≤ 5 ∧ r.da ≤ 6)) := by
  simp only [RuleL.ok, ruleB, inB, Bool.and_eq_true, Bool.or_eq_true, decide_eq_true_eq] at h
  omega
theorem body_mem {r : RuleL} (h : r.ok = true) : ∀ b ∈ bodyL r, dg b = true ∨ b = 74 ∨ b = 77 ∨ b = 46 := by
  obtain ⟨hb, hk⟩ := rule_bd h
  have d1 := itoa_dig r.da (by omega) (by omega)
  intro b hm
  unfold bodyL numL at hm
  split at hm
  · rcases List.mem_cons.1 hm with rfl | hm
    · exact .inr (.inl rfl)
    · exact .inl (d1.all b hm)
  · split at hm
    · exact .inl (d1.all b hm)
    · have d2 := itoa_dig r.mo (by omega) (by omega)
      have d3 := itoa_dig r.we (by omega) (by omega)
      simp only [List.mem_cons, List.mem_append] at hm
      rcases hm with rfl | hm | rfl | hm | rfl | hm
      · exact .inr (.inr (.inl rfl))
      · exact .inl (d2.all b hm)
      · exact .inr (.inr (.inr rfl))
      · exact .inl (d3.all b hm)
      · exact .inr (.inr (.inr rfl))
      · exact .inl (d1.all b hm)
theorem body_sep {r : RuleL} (h : r.ok = true) : ∀ b ∈ bodyL r, sepB b = false := fun b hb => by
  rcases body_mem h b hb with h | rfl | rfl | rfl
  · have : (!dg b || !sepB b) = true := u8_all (p := fun b => !dg b || !sepB b) (by decide +kernel) b
    rw [h] at this
    simpa using this
  · decide
  · decide
  · decide
theorem body_asc {r : RuleL} (h : r.ok = true) : Asc (bodyL r) := fun b hb => by
  rcases body_mem h b hb with h | rfl | rfl | rfl
  · exact dg_asc h
  · decide
  · decide
  · decide
theorem day_asc {r : RuleL} (h : r.ok = true) : Asc (dayL r) := by
  obtain ⟨hb, hk⟩ := rule_bd h
  rw [day_eq]
  refine (body_asc h).app ?_
  unfold tailL
  split
  · exact .nil
  · exact .cons (by decide) (timeL_asc _ (by omega) (by omega))
theorem anyI_end {l : List UInt8} (h : ∀ b ∈ l, sepB b = false) : anyI l = -1 := anyI_none fun j hj => h _ (List.getElem_mem hj)
theorem anyI_at {l r : List UInt8} {c : UInt8} (h : ∀ b ∈ l, sepB b = false) (hc : sepB c = true) : anyI (l ++ c :: r) = l.length := by
  refine anyI_some (by simp) ?_ fun j hj => ?_
  · rw [List.getElem_append_right (Nat.le_refl _)]
    simpa using hc
  · rw [List.getElem_append_left hj]
    exact h _ (List.getElem_mem hj)
theorem pre_no {c b : UInt8} {r : List UInt8} (h : ¬ b = c) : ([c] : List UInt8).isPrefixOf (b :: r) = false := by
  show (c == b && _) = false
  have : (c == b) = false := by rw [beq_eq_false_iff_ne]; exact fun e => h e.symm
  rw [this]; rfl
theorem rule_of_body {r : RuleL} (h : r.ok = true) : ruleOf (bodyL r) = ⟨r.k, r.mo, r.we, r.da, 7200⟩ := by
  obtain ⟨hb, hk⟩ := rule_bd h
  have d1 := itoa_dig r.da (by omega) (by omega)
  have a1 := d1.atoi (Nat.le_refl _)
  rcases hk with ⟨k0, k1, k2⟩ | ⟨k0, k1, k2⟩ | ⟨k0, k1, k2, k3, k4, k5⟩
  · rw [bodyL, if_pos k0]
    have e : ([74] : List UInt8).isPrefixOf (74 :: numL r.da) = true := rfl
    rw [ruleOf, if_pos e]
    show RuleL.mk 0 0 0 (atoiV (Lib.itoa r.da)) 7200 = _
    rw [a1, k0, k1, k2]
    congr 1
    omega
  · rw [bodyL, if_neg (by omega), if_pos k0]
    unfold numL
    cases hh : Lib.itoa r.da with
    | nil => exact absurd hh d1.ne
    | cons c l =>
      have hc := d1.all c (by rw [hh]; simp)
      rw [hh] at a1
      have n1 := pre_no (c := 74) (r := l) (dg_ne hc (by decide))
      have n2 := pre_no (c := 77) (r := l) (dg_ne hc (by decide))
      rw [ruleOf, if_neg (by rw [n1]; simp)]
      simp only [n2]
      rw [a1, k0, k1, k2]
      congr 1
      omega
  · have d2 := itoa_dig r.mo (by omega) (by omega)
    have d3 := itoa_dig r.we (by omega) (by omega)
    have a2 := d2.atoi (Nat.le_refl _)
    have a3 := d3.atoi (Nat.le_refl _)
    have n46 : dg 46 = false := by decide
    rw [bodyL, if_neg (by omega), if_neg (by omega)]
    unfold numL
    have n1 : ([74] : List UInt8).isPrefixOf (77 :: (Lib.itoa r.mo ++ 46 :: (Lib.itoa r.we ++ 46 :: Lib.itoa r.da))) = false := rfl
    have n2 : ([77] : List UInt8).isPrefixOf (77 :: (Lib.itoa r.mo ++ 46 :: (Lib.itoa r.we ++ 46 :: Lib.itoa r.da))) = true := rfl
    have hp : pieces 46 (Lib.itoa r.mo ++ 46 :: (Lib.itoa r.we ++ 46 :: Lib.itoa r.da)) = [Lib.itoa r.mo, Lib.itoa r.we, Lib.itoa r.da] := by
      rw [pieces_cons (dig_not d2.all n46), pieces_cons (dig_not d3.all n46), pieces_none (dig_not d1.all n46)]
    rw [ruleOf, if_neg (by rw [n1]; simp)]
    simp only [n2, if_true, List.drop_succ_cons, List.drop_zero, hp]
    rw [a1, a2, a3, k0]
    congr 1 <;> omega
theorem takeRule_of {rl : RuleL} (h : rl.ok = true) {r : List UInt8} (ha : Asc r) (hr : r = [] ∨ ∃ l, r = 44 :: l) : takeRuleL (44 :: (dayL rl ++ r)) = (rl, r) := by
  obtain ⟨hb, hk⟩ := rule_bd h
  have e : ([44] : List UInt8).isPrefixOf (44 :: (dayL rl ++ r)) = true := rfl
  rw [takeRuleL, if_pos e, List.drop_succ_cons, List.drop_zero, day_eq, List.append_assoc]
  have hsep := body_sep h
  have hrule := rule_of_body h
  unfold tailL takeRule1
  by_cases h7 : rl.at_ = 7200
  · rw [if_pos h7, List.nil_append]
    have er : (⟨rl.k, rl.mo, rl.we, rl.da, 7200⟩ : RuleL) = rl := by rw [← h7]
    rcases hr with rfl | ⟨l, rfl⟩
    · rw [List.append_nil, anyI_end hsep, if_neg (by omega), hrule, er]
    · rw [anyI_at hsep (by decide), if_pos (by omega), Int.toNat_natCast, List.take_left' rfl, List.drop_left' rfl, hrule, er]
      rfl
  · rw [if_neg h7, List.cons_append, anyI_at hsep (by decide), if_pos (by omega), Int.toNat_natCast, List.take_left' rfl, List.drop_left' rfl, hrule]
    have e2 : ([47] : List UInt8).isPrefixOf (47 :: (timeL rl.at_ ++ r)) = true := rfl
    rw [atOf, if_pos e2, List.drop_succ_cons, List.drop_zero, takeTime_of rl.at_ (by omega) (by omega) ha]
    rcases hr with rfl | ⟨l, rfl⟩
    · exact .nil
    · exact .cons (by decide)
theorem may_parts {z : ZoneL} (h : z.may = true) : nameB z.std = true ∧ (-89999 ≤ z.off ∧ z.off ≤ 89999) ∧ ((z.has = true ∧ nameB z.dst = true ∧ (-100000 ≤ z.ahead ∧ z.ahead ≤ 100000) ∧ z.from_.ok = true ∧ z.to.ok = true) ∨ z = ⟨z.std, z.off, false, [], 0, .z, .z⟩) := by
  simp only [ZoneL.may, Bool.and_eq_true] at h
  obtain ⟨⟨h1, h2⟩, h3⟩ := h
  simp only [inB, Bool.and_eq_true, decide_eq_true_eq] at h2
  refine ⟨h1, h2, ?_⟩
  cases hh : z.has with
  | true =>
    rw [if_pos hh] at h3
    simp only [Bool.and_eq_true, Bool.or_eq_true, inB, decide_eq_true_eq] at h3
    exact .inl ⟨rfl, h3.1.1.1, by omega, h3.1.2, h3.2⟩
  | false =>
    rw [if_neg (by simp [hh])] at h3
    exact .inr (of_decide_eq_true h3)
theorem named_head {x : List UInt8} (hx : nameB x = true) : ∃ b r, namedL x = b :: r ∧ (letterI b.toNat = true ∨ b = 60) := by
  rw [named_eq x hx]
  obtain ⟨h1, h2, h3⟩ := name_ok hx
  by_cases hq : (x.all fun b => letterI b.toNat) = true
  · rw [if_pos hq]
    rw [List.all_eq_true] at hq
    cases x with
    | nil => simp at h2
    | cons b r => exact ⟨b, r, rfl, .inl (hq b (by simp))⟩
  · rw [if_neg hq]
    exact ⟨60, _, rfl, .inr rfl⟩
theorem letter_no {b : UInt8} (h : letterI b.toNat = true ∨ b = 60) : timeSet.contains b = false := by
  rcases h with h | rfl
  · have : (!letterI b.toNat || !timeSet.contains b) = true := u8_all (p := fun b => !letterI b.toNat || !timeSet.contains b) (by decide +kernel) b
    rw [h] at this
    simpa using this
  · decide
theorem dg_noletter {b : UInt8} (h : dg b = true ∨ b = 45) : letterI b.toNat = false := by
  rcases h with h | rfl
  · have : (!dg b || !letterI b.toNat) = true := u8_all (p := fun b => !dg b || !letterI b.toNat) (by decide +kernel) b
    rw [h] at this
    simpa using this
  · decide
/-- What is written is read, by the program. -/
theorem loose_write {z : ZoneL} (h : z.may = true) : looseL (writeL z) = z := by
  obtain ⟨h1, h2, h3⟩ := may_parts h
  obtain ⟨tb, tr, htb, hth⟩ := timeL_head (-z.off) (by omega) (by omega)
  have hta := timeL_asc (-z.off) (by omega) (by omega)
  rcases h3 with ⟨hh, h4, h5, h6, h7⟩ | hz
  · obtain ⟨nb, nr, hnb, hnh⟩ := named_head h4
    generalize hA : (if z.ahead = z.off + 3600 then ([] : List UInt8) else timeL (-z.ahead)) = ah
    have haa : Asc ah := by
      rw [← hA]
      split
      · exact .nil
      · exact timeL_asc _ (by omega) (by omega)
    have hw : writeL z = namedL z.std ++ (timeL (-z.off) ++ (namedL z.dst ++ (ah ++ 44 :: (dayL z.from_ ++ 44 :: (dayL z.to ++ []))))) := by
      rw [writeL, if_pos hh, hA]
      simp only [List.append_assoc, List.append_nil]
    have a1 : Asc (44 :: (dayL z.to ++ [])) := .cons (by decide) ((day_asc h7).app .nil)
    have a2 : Asc (44 :: (dayL z.from_ ++ 44 :: (dayL z.to ++ []))) := .cons (by decide) ((day_asc h6).app a1)
    have a3 := haa.app a2
    have a4 := (named_asc h4).app a3
    have a5 := hta.app a4
    have s1 := takeName_of h1 a5 (by rw [htb]; exact .cons (dg_noletter hth))
    have s2 := takeTime_of (-z.off) (by omega) (by omega) a4 (by rw [hnb]; exact .cons (letter_no hnh))
    have s3 := takeName_of h4 a3 (by
      rw [← hA]
      split
      · exact .cons (by decide)
      · obtain ⟨b, r, hb, hd⟩ := timeL_head (-z.ahead) (by omega) (by omega)
        rw [hb]
        exact .cons (dg_noletter hd))
    have s4 : aheadOf (z.off) (ah ++ 44 :: (dayL z.from_ ++ 44 :: (dayL z.to ++ []))) = (z.ahead, 44 :: (dayL z.from_ ++ 44 :: (dayL z.to ++ []))) := by
      rw [← hA]
      split
      · rename_i hq
        have e : ([44] : List UInt8).isPrefixOf ([] ++ 44 :: (dayL z.from_ ++ 44 :: (dayL z.to ++ []))) = true := rfl
        rw [aheadOf, if_pos e, hq]
        rfl
      · obtain ⟨b, r, hb, hd⟩ := timeL_head (-z.ahead) (by omega) (by omega)
        have e : ([44] : List UInt8).isPrefixOf (timeL (-z.ahead) ++ 44 :: (dayL z.from_ ++ 44 :: (dayL z.to ++ []))) = false := by
          rw [hb]
          refine pre_no ?_
          rintro rfl
          rcases hd with h | h
          · revert h; decide
          · revert h; decide
        rw [aheadOf, if_neg (by rw [e]; simp), takeTime_of (-z.ahead) (by omega) (by omega) a2 (.cons (by decide))]
        simp
    have s5 := takeRule_of h6 a1 (.inr ⟨_, rfl⟩)
    have s6 := takeRule_of h7 .nil (.inl rfl)
    rw [hw, looseL]
    simp only [s1, s2, s3, s5, s6, Int.neg_neg, s4]
    rw [if_neg (by rw [hnb]; simp)]
    cases z
    simp only at hh
    rw [hh]
  · have hh : z.has = false := by rw [hz]
    have hw : writeL z = namedL z.std ++ (timeL (-z.off) ++ []) := by
      rw [writeL, if_neg (by simp [hh])]
      simp only [List.append_nil]
    have s1 := takeName_of h1 (hta.app .nil) (by rw [htb]; exact .cons (dg_noletter hth))
    have s2 := takeTime_of (-z.off) (by omega) (by omega) .nil .nil
    rw [hw, looseL]
    simp only [s1, s2, Int.neg_neg, if_true]
    exact hz.symm
end Go.AM.Z

namespace Go.AM.Z
open Go Go.AM Go.Proofs
set_option maxRecDepth 100000
theorem get_head (s : List UInt8) (a : Nat) : s[a]? = (s.drop a).head? := by rw [List.head?_drop]
theorem isR_cons {s : List UInt8} {a : Nat} {b : UInt8} {r : List UInt8} (h : s.drop a = b :: r) (c : Int) : isR s a c = decide ((b.toNat : Int) = c) := by
  unfold isR
  rw [get_head, h]
  rfl
theorem isR_nil {s : List UInt8} {a : Nat} (h : s.drop a = []) (c : Int) : isR s a c = false := by
  unfold isR
  rw [get_head, h]
  rfl
theorem isR_no {s : List UInt8} {a : Nat} {r : List UInt8} (h : s.drop a = r) (c : Int) (hr : ∀ b, r.head? = some b → ¬ (b.toNat : Int) = c) : isR s a c = false := by
  cases r with
  | nil => exact isR_nil h c
  | cons b r => rw [isR_cons h]; exact decide_eq_false (hr b rfl)
theorem drop_app {s : List UInt8} {a : Nat} {l r : List UInt8} (h : s.drop a = l ++ r) : s.drop (a + l.length) = r := by
  rw [← List.drop_drop, h, List.drop_left' rfl]
theorem drop_one {s : List UInt8} {a : Nat} {b : UInt8} {r : List UInt8} (h : s.drop a = b :: r) : s.drop (a + 1) = r := by
  rw [← List.drop_drop, h, List.drop_succ_cons, List.drop_zero]
theorem digs_app : ∀ (l : List UInt8) (k acc : Nat) (r : List UInt8), (∀ b ∈ l, dg b = true) → l.length ≤ k → HeadNo dg r → digs k (l ++ r) acc = (val acc l, l.length)
  | [], k, acc, r, _, _, hr => by
    rw [List.nil_append, val_nil]
    cases k with
    | zero => rw [digs]; rfl
    | succ k =>
      cases r with
      | nil => rw [digs]; rfl
      | cons b r =>
        have := hr b rfl
        unfold dg at this
        rw [digs, if_neg (of_decide_eq_false this)]
        rfl
  | b :: l, 0, acc, r, _, hk, _ => by simp at hk
  | b :: l, k + 1, acc, r, h, hk, hr => by
    have hd := h b (by simp)
    unfold dg at hd
    rw [List.cons_append, digs, if_pos (of_decide_eq_true hd), digs_app l k _ r (fun x hx => h x (List.mem_cons_of_mem _ hx)) (by simpa using hk) hr, val_cons]
    rfl
theorem numR_of {s : List UInt8} {a : Nat} {l r : List UInt8} {n k : Nat} (h : s.drop a = l ++ r) (d : Dig l n k) (hk : k ≤ 6) (hr : HeadNo dg r) : numR s a = (n, l.length) := by
  unfold numR
  rw [h, digs_app l 6 0 r d.all (by have := d.len; omega) hr, d.val]
theorem len_pos {l : List UInt8} (h : l ≠ []) : decide (l.length = 0) = false := by
  cases l with
  | nil => exact absurd rfl h
  | cons b l => rfl
def is58 (b : UInt8) : Bool := decide (b.toNat = 58)
theorem timeR1_of {s : List UInt8} {a : Nat} {r : List UInt8} (n : Int) (h0 : 0 ≤ n) (h1 : n < 1000000) (h : s.drop a = timeP n ++ r) (hd : HeadNo dg r) (hc : HeadNo is58 r) (m : Bool) :
    timeR1 s m a false = (sgn m n, a + (timeP n).length, false) := by
  obtain ⟨h', m', s', e, b1, b2, b3, b4, b5, b6, ht⟩ := timeP_parts n h0 h1
  have dh := itoa_dig h' b1 (by omega)
  have dm := two_dig m' b3 (by omega)
  have ds := two_dig s' b5 (by omega)
  have hno : ∀ b, r.head? = some b → ¬ (b.toNat : Int) = 58 := fun b hb he => by
    have := hc b hb
    unfold is58 at this
    exact of_decide_eq_false this (by omega)
  have n58 : dg 58 = false := by decide
  by_cases hs : s' = 0
  · by_cases hm : m' = 0
    · rw [if_pos ⟨hm, hs⟩, if_pos hs, List.append_nil, List.append_nil] at ht
      rw [ht] at h ⊢
      unfold timeR1
      have q1 := numR_of h dh (Nat.le_refl _) hd
      have q2 := isR_no (drop_app h) 58 hno
      simp only [q1, q2, Bool.false_eq_true, if_false, len_pos dh.ne, Bool.or_self, Bool.false_or]
      congr 1
      congr 1
      omega
    · rw [if_neg (by omega), if_pos hs, List.append_nil] at ht
      rw [ht] at h ⊢
      unfold timeR1
      rw [List.append_assoc, List.cons_append] at h
      have q1 := numR_of h dh (Nat.le_refl _) (.cons n58)
      have g1 := drop_app h
      have q2 := isR_cons g1 58
      have g2 := drop_one g1
      have q3 := numR_of g2 dm (Nat.le_refl _) hd
      have q4 := isR_no (drop_app g2) 58 hno
      have q2' : isR s (a + (Lib.itoa h').length) 58 = true := q2
      simp only [q1, q2', if_true, q3, q4, Bool.false_eq_true, if_false, len_pos dh.ne, len_pos dm.ne, Bool.or_self, Bool.false_or]
      congr 1
      · congr 1
        omega
      · simp only [List.length_append, List.length_cons]
        congr 1
        omega
  · rw [if_neg (by omega), if_neg hs] at ht
    rw [ht] at h ⊢
    unfold timeR1
    rw [List.append_assoc, List.append_assoc, List.cons_append, List.cons_append] at h
    have q1 := numR_of h dh (Nat.le_refl _) (.cons n58)
    have g1 := drop_app h
    have q2 : isR s (a + (Lib.itoa h').length) 58 = true := isR_cons g1 58
    have g2 := drop_one g1
    have q3 := numR_of g2 dm (Nat.le_refl _) (.cons n58)
    have g3 := drop_app g2
    have q4 : isR s (a + (Lib.itoa h').length + 1 + (twoL m').length) 58 = true := isR_cons g3 58
    have g4 := drop_one g3
    have q5 := numR_of g4 ds (Nat.le_refl _) hd
    simp only [q1, q2, if_true, q3, q4, q5, len_pos dh.ne, len_pos dm.ne, len_pos ds.ne, Bool.or_self, Bool.false_or]
    congr 1
    · congr 1
      omega
    · simp only [List.length_append, List.length_cons]
      congr 1
      omega
theorem timeR_of {s : List UInt8} {a : Nat} {r : List UInt8} (n : Int) (h0 : -1000000 < n) (h1 : n < 1000000) (h : s.drop a = timeL n ++ r) (hd : HeadNo dg r) (hc : HeadNo is58 r) :
    timeR s a false = (n, a + (timeL n).length, false) := by
  unfold timeL at h ⊢
  by_cases hn : n < 0
  · rw [if_pos hn] at h ⊢
    rw [List.cons_append] at h
    have q : isR s a 45 = true := isR_cons h 45
    unfold timeR
    rw [q, if_pos rfl, timeR1_of (-n) (by omega) (by omega) (drop_one h) hd hc]
    simp only [sgn, if_true, List.length_cons]
    congr 1
    · omega
    · congr 1
      omega
  · rw [if_neg hn] at h ⊢
    obtain ⟨b, l, hb, hdb⟩ := timeP_head n (by omega) h1
    have q : isR s a 45 = false := isR_no h 45 fun x hx he => by
      rw [hb] at hx
      injection hx with hx
      subst hx
      have : b = 45 := UInt8.toNat_inj.1 (by have : (45 : UInt8).toNat = 45 := rfl
                                             omega)
      subst this
      revert hdb
      decide
    unfold timeR
    rw [q, if_neg (by simp), timeR1_of n (by omega) h1 h hd hc]
    rfl
theorem run_of {f : UInt8 → Bool} {s : List UInt8} {a : Nat} {l r : List UInt8} (h : s.drop a = l ++ r) (hl : ∀ b ∈ l, f b = true) (hr : HeadNo f r) : run f s a = l.length := by
  unfold run
  rw [h, (tw_stop hl hr).1]
theorem nameR_of {s : List UInt8} {a : Nat} {x r : List UInt8} (hx : nameB x = true) (h : s.drop a = namedL x ++ r) (hr : HeadNo (fun b => letterI b.toNat) r) (bad : Bool) (fl : Nat) :
    ∃ fl', nameR s a bad fl = (x, a + (namedL x).length, bad, fl') := by
  rw [named_eq x hx] at h ⊢
  obtain ⟨h1, h2, h3⟩ := name_ok hx
  unfold nameR
  by_cases hq : (x.all fun b => letterI b.toNat) = true
  · rw [if_pos hq] at h ⊢
    rw [List.all_eq_true] at hq
    have q : isR s a 60 = false := isR_no h 60 fun b hb he => by
      cases x with
      | nil => simp at h2
      | cons c x =>
        injection hb with hb
        subst hb
        have hc := hq c (by simp)
        have : c = 60 := UInt8.toNat_inj.1 (by have : (60 : UInt8).toNat = 60 := rfl
                                               omega)
        subst this
        revert hc; decide
    have q2 := run_of (f := letB) h hq hr
    rw [if_neg (by rw [q]; simp)]
    simp only [q2]
    rw [h, List.take_left' rfl]
    exact ⟨_, rfl⟩
  · rw [if_neg hq] at h ⊢
    have h' : s.drop a = 60 :: (x ++ 62 :: r) := by rw [h]; simp
    have q : isR s a 60 = true := isR_cons h' 60
    have g1 := drop_one h'
    have q2 := run_of (f := notGt) (l := x) (r := 62 :: r) g1 (fun b hb => by
      unfold notGt
      have := okC_no62 (h1 b hb)
      have h62 : (62 : UInt8).toNat = 62 := rfl
      rw [decide_eq_false fun e => this (UInt8.toNat_inj.1 (by omega))]
      rfl) (.cons (by decide))
    have g2 := drop_app g1
    have q3 : isR s (a + 1 + x.length) 62 = true := isR_cons g2 62
    rw [if_pos q]
    simp only [q2, q3, if_true]
    rw [g1, List.take_left' rfl]
    refine ⟨3, ?_⟩
    congr 1
    simp only [List.length_cons, List.length_append, List.length_nil]
    congr 1
    omega
end Go.AM.Z

namespace Go.AM.Z
open Go Go.AM Go.Proofs
set_option maxRecDepth 100000
theorem tail_head {rl : RuleL} {r : List UInt8} (hr : r = [] ∨ ∃ l, r = 44 :: l) : tailL rl ++ r = [] ∨ (∃ l, tailL rl ++ r = 44 :: l) ∨ ∃ l, tailL rl ++ r = 47 :: l := by
  unfold tailL
  split
  · rw [List.nil_append]
    rcases hr with h | h
    · exact .inl h
    · exact .inr (.inl h)
  · exact .inr (.inr ⟨_, rfl⟩)
theorem ruleR2_of {s : List UInt8} {a : Nat} {rl : RuleL} {r : List UInt8} (hb : -604799 ≤ rl.at_ ∧ rl.at_ ≤ 604799) (h : s.drop a = tailL rl ++ r) (hr : r = [] ∨ ∃ l, r = 44 :: l) (k mo we da : Int) :
    ruleR2 s k mo we da a false = (⟨k, mo, we, da, rl.at_⟩, a + (tailL rl).length, false) := by
  unfold tailL at h ⊢
  unfold ruleR2
  have hd : HeadNo dg r := by
    rcases hr with rfl | ⟨l, rfl⟩
    · exact .nil
    · exact .cons (by decide)
  have hc : HeadNo is58 r := by
    rcases hr with rfl | ⟨l, rfl⟩
    · exact .nil
    · exact .cons (by decide)
  by_cases h7 : rl.at_ = 7200
  · rw [if_pos h7, List.nil_append] at h
    have q : isR s a 47 = false := isR_no h 47 fun b hb he => by
      rcases hr with rfl | ⟨l, rfl⟩
      · cases hb
      · injection hb with hb
        subst hb
        revert he; decide
    rw [q, if_neg (by simp), if_pos h7, h7]
    rfl
  · rw [if_neg h7, List.cons_append] at h
    have q : isR s a 47 = true := isR_cons h 47
    rw [q, if_pos rfl, if_neg h7, timeR_of rl.at_ (by omega) (by omega) (drop_one h) hd hc]
    simp only [List.length_cons]
    congr 1
    congr 1
    omega
theorem ruleR_of {s : List UInt8} {a : Nat} {rl : RuleL} (hok : rl.ok = true) {r : List UInt8} (h : s.drop a = 44 :: (dayL rl ++ r)) (hr : r = [] ∨ ∃ l, r = 44 :: l) :
    ruleR s a false = (rl, a + 1 + (dayL rl).length, false) := by
  obtain ⟨hb, hk⟩ := rule_bd hok
  have q : isR s a 44 = true := isR_cons h 44
  have g := drop_one h
  rw [day_eq, List.append_assoc] at g
  have hth := tail_head (rl := rl) hr
  have hd : HeadNo dg (tailL rl ++ r) := by
    rcases hth with h | ⟨l, h⟩ | ⟨l, h⟩ <;> rw [h]
    · exact .nil
    · exact .cons (by decide)
    · exact .cons (by decide)
  have d1 := itoa_dig rl.da (by omega) (by omega)
  unfold ruleR
  rw [q, if_pos rfl, if_pos rfl, day_eq, List.length_append]
  unfold bodyL numL at g ⊢
  unfold ruleR1
  have eda : ((rl.da.toNat : Nat) : Int) = rl.da := by omega
  have emo : 0 ≤ rl.mo → ((rl.mo.toNat : Nat) : Int) = rl.mo := by omega
  have ewe : 0 ≤ rl.we → ((rl.we.toNat : Nat) : Int) = rl.we := by omega
  rcases hk with ⟨k0, k1, k2⟩ | ⟨k0, k1, k2⟩ | ⟨k0, k1, k2, k3, k4, k5⟩
  · rw [if_pos k0, List.cons_append] at g
    have q1 : isR s (a + 1) 74 = true := isR_cons g 74
    have g1 := drop_one g
    have q2 := numR_of g1 d1 (Nat.le_refl _) hd
    have q3 := ruleR2_of ⟨hb.1, hb.2.1⟩ (drop_app g1) hr 0 0 0 rl.da
    rw [if_pos q1, if_pos k0]
    simp only [q2, len_pos d1.ne, Bool.or_self, Bool.false_or, eda, q3]
    congr 1
    · cases rl; simp only at k0 k1 k2 ⊢; rw [k0, k1, k2]
    · simp only [List.length_cons]
      congr 1
      omega
  · have n0 : ¬ rl.k = 0 := by omega
    rw [if_neg n0, if_pos k0] at g
    rw [if_neg n0, if_pos k0]
    have hnd : ∀ c : Int, (c < 48 ∨ 57 < c) → isR s (a + 1) c = false := fun c hc => isR_no g c fun b hb' he => by
      cases hh : Lib.itoa rl.da with
      | nil => exact d1.ne hh
      | cons x l =>
        rw [hh] at hb'
        injection hb' with hb'
        subst hb'
        have := d1.all x (by rw [hh]; simp)
        unfold dg at this
        have := of_decide_eq_true this
        omega
    have q1 := hnd 74 (by omega)
    have q1' := hnd 77 (by omega)
    have q2 := numR_of g d1 (Nat.le_refl _) hd
    have q3 := ruleR2_of ⟨hb.1, hb.2.1⟩ (drop_app g) hr 1 0 0 rl.da
    rw [if_neg (by rw [q1]; simp), if_neg (by rw [q1']; simp)]
    simp only [q2, len_pos d1.ne, Bool.or_self, Bool.false_or, eda, q3]
    congr 1
    · cases rl; simp only at k0 k1 k2 ⊢; rw [k0, k1, k2]
    · congr 1
      omega
  · have d2 := itoa_dig rl.mo (by omega) (by omega)
    have d3 := itoa_dig rl.we (by omega) (by omega)
    have n0 : ¬ rl.k = 0 := by omega
    have n1 : ¬ rl.k = 1 := by omega
    have n46 : dg 46 = false := by decide
    rw [if_neg n0, if_neg n1, List.cons_append] at g
    rw [if_neg n0, if_neg n1]
    have q1 : isR s (a + 1) 74 = false := (isR_cons g 74).trans (by decide)
    have q1' : isR s (a + 1) 77 = true := isR_cons g 77
    have g1 := drop_one g
    rw [List.append_assoc, List.cons_append] at g1
    have q2 := numR_of g1 d2 (Nat.le_refl _) (.cons n46)
    have g2 := drop_app g1
    have q3 : isR s (a + 1 + 1 + (Lib.itoa rl.mo).length) 46 = true := isR_cons g2 46
    have g3 := drop_one g2
    rw [List.append_assoc, List.cons_append] at g3
    have q4 := numR_of g3 d3 (Nat.le_refl _) (.cons n46)
    have g4 := drop_app g3
    have q5 : isR s (a + 1 + 1 + (Lib.itoa rl.mo).length + 1 + (Lib.itoa rl.we).length) 46 = true := isR_cons g4 46
    have g5 := drop_one g4
    have q6 := numR_of g5 d1 (Nat.le_refl _) hd
    have q7 := ruleR2_of ⟨hb.1, hb.2.1⟩ (drop_app g5) hr 2 rl.mo rl.we rl.da
    rw [if_neg (by rw [q1]; simp), if_pos q1']
    simp only [q2, q3, if_true, q4, q5, q6, len_pos d1.ne, len_pos d2.ne, len_pos d3.ne, Bool.or_self, Bool.false_or, eda, emo (by omega), ewe (by omega), q7]
    congr 1
    · cases rl; simp only at k0 ⊢; rw [k0]
    · simp only [List.length_cons, List.length_append]
      congr 1
      omega
theorem loose_ref {z : ZoneL} (h : z.may = true) : looseR (writeL z) = (z, (writeL z).length, false) := by
  obtain ⟨h1, h2, h3⟩ := may_parts h
  obtain ⟨tb, tr, htb, hth⟩ := timeL_head (-z.off) (by omega) (by omega)
  have hnl : ∀ (b : UInt8) (r : List UInt8), (dg b = true ∨ b = 45) → HeadNo (fun b => letterI b.toNat) (b :: r) := fun b r hb => .cons (dg_noletter hb)
  rcases h3 with ⟨hh, h4, h5, h6, h7⟩ | hz
  · obtain ⟨nb, nr, hnb, hnh⟩ := named_head h4
    generalize hA : (if z.ahead = z.off + 3600 then ([] : List UInt8) else timeL (-z.ahead)) = ah
    have hw : writeL z = namedL z.std ++ (timeL (-z.off) ++ (namedL z.dst ++ (ah ++ 44 :: (dayL z.from_ ++ 44 :: (dayL z.to ++ []))))) := by
      rw [writeL, if_pos hh, hA]
      simp only [List.append_assoc, List.append_nil]
    generalize writeL z = s at *
    have g0 : s.drop 0 = _ := hw
    obtain ⟨fl1, q1⟩ := nameR_of h1 g0 (by rw [htb]; exact hnl _ _ hth) false 0
    have g1 := drop_app g0
    rw [Nat.zero_add] at q1 g1
    have hx : letterI nb.toNat = true ∨ nb = 60 := hnh
    have q2 := timeR_of (-z.off) (by omega) (by omega) g1 (by
      rw [hnb]
      refine .cons ?_
      have := letter_no hx
      cases hq : dg nb with
      | false => rfl
      | true => rw [dg_time' hq] at this; cases this) (by
      rw [hnb]
      refine .cons ?_
      have := letter_no hx
      cases hq : is58 nb with
      | false => rfl
      | true =>
        have : nb = 58 := UInt8.toNat_inj.1 (of_decide_eq_true hq)
        subst this
        revert hx; decide)
    have g2 := drop_app g1
    obtain ⟨fl2, q3⟩ := nameR_of h4 g2 (by
      rw [← hA]
      split
      · exact .cons (by decide)
      · obtain ⟨b, r, hb, hd⟩ := timeL_head (-z.ahead) (by omega) (by omega)
        rw [hb]
        exact hnl _ _ hd) false 3
    have g3 := drop_app g2
    have hlt : (namedL z.std).length + (timeL (-z.off)).length < s.length := by
      rw [hw, hnb]
      simp only [List.length_append, List.length_cons]
      omega
    have hls : s.length = (namedL z.std).length + (timeL (-z.off)).length + (namedL z.dst).length + ah.length + 1 + (dayL z.from_).length + 1 + (dayL z.to).length := by
      rw [hw]
      simp only [List.length_append, List.length_cons, List.length_nil]
      omega
    have key : ∀ a : Nat, s.drop a = 44 :: (dayL z.from_ ++ 44 :: (dayL z.to ++ [])) → ruleR s a false = (z.from_, a + 1 + (dayL z.from_).length, false) ∧ ruleR s (a + 1 + (dayL z.from_).length) false = (z.to, a + 1 + (dayL z.from_).length + 1 + (dayL z.to).length, false) := by
      intro a ha
      have r1 := ruleR_of h6 ha (.inr ⟨_, rfl⟩)
      have g5 := drop_app (drop_one ha)
      exact ⟨r1, ruleR_of h7 g5 (.inl rfl)⟩
    unfold looseR
    simp only [q1, q2]
    rw [if_pos ⟨hlt, trivial⟩]
    unfold looseR1
    simp only [q3, Int.neg_neg]
    by_cases ha : z.ahead = z.off + 3600
    · rw [if_pos ha] at hA
      subst hA
      rw [List.nil_append] at g3
      obtain ⟨r1, r2⟩ := key _ g3
      have hs : seeR s ((namedL z.std).length + (timeL (-z.off)).length + (namedL z.dst).length) = 44 := by
        unfold seeR
        rw [get_head, g3]
        rfl
      simp only [hs, if_true, r1, r2]
      congr 1
      · cases z; simp only at hh ha ⊢; rw [hh, ha]
      · congr 1
        rw [hls]
        simp
    · rw [if_neg ha] at hA
      obtain ⟨b, r, hb, hd⟩ := timeL_head (-z.ahead) (by omega) (by omega)
      have hs : ¬ seeR s ((namedL z.std).length + (timeL (-z.off)).length + (namedL z.dst).length) = 44 := by
        unfold seeR
        rw [get_head, g3, ← hA, hb]
        intro he
        have : b = 44 := UInt8.toNat_inj.1 (by have : (44 : UInt8).toNat = 44 := rfl
                                               have he' : (b.toNat : Int) = 44 := he
                                               omega)
        subst this
        revert hd; decide
      have g3' := g3
      rw [← hA] at g3'
      have q4 := timeR_of (-z.ahead) (by omega) (by omega) g3' (.cons (by decide)) (.cons (by decide))
      obtain ⟨r1, r2⟩ := key _ (drop_app g3')
      simp only [hs, if_false, q4, r1, r2, Int.neg_neg]
      congr 1
      · cases z; simp only at hh ⊢; rw [hh]
      · congr 1
        rw [hls, ← hA]
  · have hh : z.has = false := by rw [hz]
    have hw : writeL z = namedL z.std ++ (timeL (-z.off) ++ []) := by
      rw [writeL, if_neg (by simp [hh])]
      simp only [List.append_nil]
    generalize writeL z = s at *
    have g0 : s.drop 0 = _ := hw
    obtain ⟨fl1, q1⟩ := nameR_of h1 g0 (by rw [htb]; exact hnl _ _ hth) false 0
    have g1 := drop_app g0
    rw [Nat.zero_add] at q1 g1
    have q2 := timeR_of (-z.off) (by omega) (by omega) g1 .nil .nil
    have hls : s.length = (namedL z.std).length + (timeL (-z.off)).length := by
      rw [hw]
      simp only [List.length_append, List.length_nil]
      omega
    unfold looseR
    simp only [q1, q2]
    rw [if_neg (by omega), Int.neg_neg, hls]
    congr 1
    exact hz.symm
end Go.AM.Z

namespace Go.AM.Z
open Go Go.AM Go.Proofs
set_option maxRecDepth 100000
theorem parse_eq (s : List UInt8) : parseR s = parseL s := by
  unfold parseR parseL
  by_cases hl : 100 < s.length
  · rw [if_pos hl, if_pos hl]
  · rw [if_neg hl, if_neg hl]
    by_cases h : (looseL s).may = true ∧ writeL (looseL s) = s
    · have hr := loose_ref h.1
      rw [h.2] at hr
      rw [if_pos h, hr]
      simp only
      rw [if_pos ⟨trivial, by omega, h⟩]
    · rw [if_neg h, if_neg]
      rintro ⟨_, _, h3, h4⟩
      have hp := loose_write h3
      rw [h4] at hp
      exact h (by rw [hp]; exact ⟨h3, h4⟩)
theorem itoa_len (n : Int) (k : Nat) (h0 : 0 ≤ n) (h1 : n < 10 ^ (k + 1)) : (Lib.itoa n).length ≤ k + 1 := by
  obtain ⟨m, rfl⟩ := Int.eq_ofNat_of_zero_le h0
  rw [show Lib.itoa (m : Int) = Lib.decDigits m by unfold Lib.itoa; rw [if_neg (by omega)]; rfl]
  exact (dec_dig k m (by exact_mod_cast h1)).len
theorem timeL_len' (n : Int) (h0 : -1000000 < n) (h1 : n < 1000000) : (timeL n).length ≤ 10 := by
  have key : ∀ n : Int, 0 ≤ n → n < 1000000 → (timeP n).length ≤ 9 := by
    intro n h0 h1
    obtain ⟨h, m, s, e, b1, b2, b3, b4, b5, b6, ht⟩ := timeP_parts n h0 h1
    have lh := itoa_len h 2 b1 (by omega)
    have dm := (two_dig_tab ⟨m.toNat, by omega⟩).2.2
    have ds := (two_dig_tab ⟨s.toNat, by omega⟩).2.2
    have em : ((m.toNat : Nat) : Int) = m := by omega
    have es : ((s.toNat : Nat) : Int) = s := by omega
    simp only [em] at dm
    simp only [es] at ds
    rw [ht, List.length_append, List.length_append]
    split <;> split <;> simp only [List.length_cons, List.length_nil] <;> omega
  unfold timeL
  split
  · have := key (-n) (by omega) (by omega)
    simp only [List.length_cons]
    omega
  · have := key n (by omega) h1
    omega
theorem dayL_len' {r : RuleL} (h : r.ok = true) : (dayL r).length ≤ 20 := by
  obtain ⟨hb, hk⟩ := rule_bd h
  have l1 := itoa_len r.da 2 (by omega) (by omega)
  have lt := timeL_len' r.at_ (by omega) (by omega)
  rw [day_eq, List.length_append]
  have ht : (tailL r).length ≤ 11 := by
    unfold tailL
    split
    · simp
    · simp only [List.length_cons]; omega
  have hbd : (bodyL r).length ≤ 9 := by
    unfold bodyL numL
    rcases hk with ⟨k0, k1, k2⟩ | ⟨k0, k1, k2⟩ | ⟨k0, k1, k2, k3, k4, k5⟩
    · rw [if_pos k0, List.length_cons]; omega
    · rw [if_neg (by omega), if_pos k0]; omega
    · have l2 := itoa_len r.mo 1 (by omega) (by omega)
      have l3 := itoa_len r.we 0 (by omega) (by omega)
      have l4 := itoa_len r.da 0 (by omega) (by omega)
      rw [if_neg (by omega), if_neg (by omega)]
      simp only [List.length_cons, List.length_append]
      omega
  omega
theorem write_len {z : ZoneL} (h : z.may = true) : (writeL z).length ≤ 100 := by
  obtain ⟨h1, h2, h3⟩ := may_parts h
  have l1 := namedL_len _ h1
  have l2 := timeL_len' (-z.off) (by omega) (by omega)
  unfold writeL
  rcases h3 with ⟨hh, h4, h5, h6, h7⟩ | hz
  · have l3 := namedL_len _ h4
    have l4 := timeL_len' (-z.ahead) (by omega) (by omega)
    have l5 := dayL_len' h6
    have l6 := dayL_len' h7
    rw [if_pos hh]
    simp only [List.length_append, List.length_cons]
    split
    · simp only [List.length_nil]; omega
    · omega
  · have hh : z.has = false := by rw [hz]
    rw [if_neg (by simp [hh])]
    simp only [List.length_append, List.length_nil]
    omega
theorem parse_write {z : ZoneL} (h : z.may = true) : parseL (writeL z) = (z, 0) := by
  have hl := write_len h
  unfold parseL
  rw [if_neg (by omega), loose_write h, if_pos ⟨h, rfl⟩]
/-- The chapter's example. -/
def someZ : ZoneL := ⟨[67, 69, 84], 3600, true, [67, 69, 83, 84], 7200, ⟨2, 3, 5, 0, 7200⟩, ⟨2, 10, 5, 0, 10800⟩⟩
def someS : List UInt8 := [67, 69, 84, 45, 49, 67, 69, 83, 84, 44, 77, 51, 46, 53, 46, 48, 44, 77, 49, 48, 46, 53, 46, 48, 47, 51]
theorem some_may : someZ.may = true := by decide +kernel
theorem some_write : writeL someZ = someS := by
  have i0 : Lib.itoa 0 = [48] := by decide +kernel
  have i1 : Lib.itoa 1 = [49] := by decide +kernel
  have i3 : Lib.itoa 3 = [51] := by decide +kernel
  have i5 : Lib.itoa 5 = [53] := by decide +kernel
  have i10 : Lib.itoa 10 = [49, 48] := by decide +kernel
  have n1 : nameB [67, 69, 84] = true := by decide +kernel
  have n2 : nameB [67, 69, 83, 84] = true := by decide +kernel
  have e1 : namedL [67, 69, 84] = [67, 69, 84] := by rw [named_eq _ n1, if_pos (by decide)]
  have e2 : namedL [67, 69, 83, 84] = [67, 69, 83, 84] := by rw [named_eq _ n2, if_pos (by decide)]
  have t1 : timeL (-3600) = [45, 49] := by
    unfold timeL
    rw [if_pos (by decide)]
    unfold timeP
    show 45 :: (Lib.itoa 1 ++ [] ++ []) = _
    rw [i1]; rfl
  have t3 : timeL 10800 = [51] := by
    unfold timeL
    rw [if_neg (by decide)]
    unfold timeP
    show (Lib.itoa 3 ++ [] ++ []) = _
    rw [i3]; rfl
  have d1 : dayL ⟨2, 3, 5, 0, 7200⟩ = [77, 51, 46, 53, 46, 48] := by
    show 77 :: (Lib.itoa 3 ++ 46 :: (Lib.itoa 5 ++ 46 :: Lib.itoa 0)) ++ [] = _
    rw [i3, i5, i0]; rfl
  have d2 : dayL ⟨2, 10, 5, 0, 10800⟩ = [77, 49, 48, 46, 53, 46, 48, 47, 51] := by
    show 77 :: (Lib.itoa 10 ++ 46 :: (Lib.itoa 5 ++ 46 :: Lib.itoa 0)) ++ 47 :: timeL 10800 = _
    rw [i10, i5, i0, t3]; rfl
  unfold writeL someZ
  simp only [if_true]
  rw [e1, e2, t1, d1, d2]
  rfl
theorem some_parse : parseL someS = (someZ, 0) := by rw [← some_write]; exact parse_write some_may
end Go.AM.Z
