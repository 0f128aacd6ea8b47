/-
  Each of the six laws answers true on the abstract machine. No condition.
-/
import Derived.Test.YtijobfkgkopkhaaGreatDoorZc
set_option linter.all false
set_option linter.unusedSimpArgs false
set_option linter.unusedVariables false
set_option linter.unusedSectionVars false
namespace Go.AM.Z
open Go Go.AM Go.Proofs
set_option maxRecDepth 100000
theorem F12' (a1 a4 : List UInt8) (a3 : Bool) (a2 a5 b1 b2 b3 b4 b5 c1 c2 c3 c4 c5 : Int) (h1 : a1.length ≤ 4611686018427387904) (h2 : a4.length ≤ 4611686018427387904) (p : Nat) (H : Heap) :
    F 12 #[.agg #[str a1, .int .i64 a2, .bool a3, str a4, .int .i64 a5, .int .i64 b1, .int .i64 b2, .int .i64 b3, .int .i64 b4, .int .i64 b5, .int .i64 c1, .int .i64 c2, .int .i64 c3, .int .i64 c4, .int .i64 c5]] p H =
      some (.returned (.bool (ZoneL.mk a1 a2 a3 a4 a5 ⟨b1, b2, b3, b4, b5⟩ ⟨c1, c2, c3, c4, c5⟩).may), H) := F12 ⟨a1, a2, a3, a4, a5, ⟨b1, b2, b3, b4, b5⟩, ⟨c1, c2, c3, c4, c5⟩⟩ h1 h2 p H
theorem F13' (a1 a4 : List UInt8) (a3 : Bool) (a2 a5 b1 b2 b3 b4 b5 c1 c2 c3 c4 c5 : Int) (h1 : a1.length ≤ 4611686018427387904) (h2 : a4.length ≤ 4611686018427387904) (p : Nat) (H : Heap) :
    F 13 #[.agg #[str a1, .int .i64 a2, .bool a3, str a4, .int .i64 a5, .int .i64 b1, .int .i64 b2, .int .i64 b3, .int .i64 b4, .int .i64 b5, .int .i64 c1, .int .i64 c2, .int .i64 c3, .int .i64 c4, .int .i64 c5]] p H =
      some (.returned (.bool (ZoneL.mk a1 a2 a3 a4 a5 ⟨b1, b2, b3, b4, b5⟩ ⟨c1, c2, c3, c4, c5⟩).may), H) := F13 ⟨a1, a2, a3, a4, a5, ⟨b1, b2, b3, b4, b5⟩, ⟨c1, c2, c3, c4, c5⟩⟩ h1 h2 p H
theorem F18 (p : Nat) (H : Heap) : F 18 #[] p H = some (.returned someZ.v, H) := by
  rw [F, F_pure (f := 18) (X := X) (cl := cl) rfl rfl rfl Tryz.func18 rfl rfl, Tryz.results18]
  simp (disch := first | omega | (simp only [go_sem]; done)) only [go_sem, someZ]
theorem some_may' : (ZoneL.mk [67, 69, 84] 3600 true [67, 69, 83, 84] 7200 ⟨2, 3, 5, 0, 7200⟩ ⟨2, 10, 5, 0, 10800⟩).may = true := some_may
theorem some_write' : writeL (ZoneL.mk [67, 69, 84] 3600 true [67, 69, 83, 84] 7200 ⟨2, 3, 5, 0, 7200⟩ ⟨2, 10, 5, 0, 10800⟩) = [67, 69, 84, 45, 49, 67, 69, 83, 84, 44, 77, 51, 46, 53, 46, 48, 44, 77, 49, 48, 46, 53, 46, 48, 47, 51] := some_write
theorem F9 (p : Nat) (H : Heap) : F 9 #[] p H = some (.returned (.bool true), H) := by
  rw [F, F_pure (f := 9) (X := X) (cl := cl) rfl rfl rfl Tryz.func9 rfl rfl, Tryz.results9]
  have h14 := F14 someS (by decide)
  rw [some_parse] at h14
  simp only [someS, someZ] at h14
  have h18 := F18
  simp only [someZ] at h18
  have h10 := F10' [67, 69, 84] [67, 69, 83, 84] true 3600 7200 2 3 5 0 7200 2 10 5 0 10800 (by simp) (by simp)
  have h13 := F13' [67, 69, 84] [67, 69, 83, 84] true 3600 7200 2 3 5 0 7200 2 10 5 0 10800 (by simp) (by simp)
  rw [some_may', some_write'] at h10
  rw [some_may'] at h13
  simp (disch := first | omega | (simp only [go_sem]; done)) only [go_sem, h14, h18, h10, h13]
attribute [go_sem] F9
theorem F3 (z : ZoneL) (p : Nat) (H : Heap) : F 3 #[z.v] p H = some (.returned (.bool true), H) := by
  rw [F, F_pure (f := 3) (X := X) (cl := cl) rfl rfl rfl Tryz.func3 rfl (by simp only [go_sem]), Tryz.results3]
  obtain ⟨a1, a2, a3, a4, a5, ⟨b1, b2, b3, b4, b5⟩, ⟨c1, c2, c3, c4, c5⟩⟩ := z
  by_cases l1 : (100 : Int) < a1.length
  · simp (disch := first | omega | (simp only [go_sem]; done)) only [go_sem, l1]
  · by_cases l2 : (100 : Int) < a4.length
    · simp (disch := first | omega | (simp only [go_sem]; done)) only [go_sem, l1, l2]
    · have h10 := F10' a1 a4 a3 a2 a5 b1 b2 b3 b4 b5 c1 c2 c3 c4 c5 (by omega) (by omega)
      have h11 := F11' a1 a4 a3 a2 a5 b1 b2 b3 b4 b5 c1 c2 c3 c4 c5 (by omega) (by omega)
      have h12 := F12' a1 a4 a3 a2 a5 b1 b2 b3 b4 b5 c1 c2 c3 c4 c5 (by omega) (by omega)
      have h13 := F13' a1 a4 a3 a2 a5 b1 b2 b3 b4 b5 c1 c2 c3 c4 c5 (by omega) (by omega)
      obtain ⟨zz, hzz⟩ : ∃ zz, zz = (ZoneL.mk a1 a2 a3 a4 a5 ⟨b1, b2, b3, b4, b5⟩ ⟨c1, c2, c3, c4, c5⟩) := ⟨_, rfl⟩
      rw [← hzz] at h10 h11 h12 h13
      cases hm : zz.may <;> rw [hm] at h10 h11 h12 h13 <;>
        simp (disch := first | omega | (simp only [go_sem]; done)) only [go_sem, l1, l2, h10, h11, h12, h13, bool_eql, un4]
theorem F14e (s : List UInt8) (hs : s.length ≤ 1000000) (x : ZoneL) (e : Int) (hx : parseL s = (x, e)) (p : Nat) (H : Heap) : F 14 #[str s] p H = some (.returned (.tuple #[.agg #[str x.std, .int .i64 x.off, .bool x.has, str x.dst, .int .i64 x.ahead, .int .i64 x.from_.k, .int .i64 x.from_.mo, .int .i64 x.from_.we, .int .i64 x.from_.da, .int .i64 x.from_.at_, .int .i64 x.to.k, .int .i64 x.to.mo, .int .i64 x.to.we, .int .i64 x.to.da, .int .i64 x.to.at_], .int .i64 e]), H) := by
  have := F14 s hs p H
  rw [hx] at this
  exact this
theorem F15e (s : List UInt8) (hs : s.length ≤ 1000000) (x : ZoneL) (e : Int) (hx : parseL s = (x, e)) (p : Nat) (H : Heap) : F 15 #[str s] p H = some (.returned (.tuple #[.agg #[str x.std, .int .i64 x.off, .bool x.has, str x.dst, .int .i64 x.ahead, .int .i64 x.from_.k, .int .i64 x.from_.mo, .int .i64 x.from_.we, .int .i64 x.from_.da, .int .i64 x.from_.at_, .int .i64 x.to.k, .int .i64 x.to.mo, .int .i64 x.to.we, .int .i64 x.to.da, .int .i64 x.to.at_], .int .i64 e]), H) := by
  have := F15 s hs p H
  rw [parse_eq, hx] at this
  exact this
theorem F4 (s : List UInt8) (p : Nat) (H : Heap) : F 4 #[str s] p H = some (.returned (.bool true), H) := by
  rw [F, F_pure (f := 4) (X := X) (cl := cl) rfl rfl rfl Tryz.func4 rfl (by simp only [go_sem]), Tryz.results4]
  by_cases l1 : (200 : Int) < s.length
  · simp (disch := first | omega | (simp only [go_sem]; done)) only [go_sem, l1]
  · obtain ⟨x, e, hx⟩ : ∃ x e, parseL s = (x, e) := ⟨_, _, rfl⟩
    have h14 := F14e s (by omega) x e hx
    have h15 := F15e s (by omega) x e hx
    simp (disch := first | omega | (simp only [go_sem]; done)) only [go_sem, l1, h14, h15]
end Go.AM.Z

namespace Go.AM.Z
open Go Go.AM Go.Proofs
set_option maxRecDepth 100000
theorem parse_cases (s : List UInt8) : (100 < s.length ∧ parseL s = (zeroZ, 4)) ∨ (∃ x, x.may = true ∧ writeL x = s ∧ parseL s = (x, 0)) ∨ parseL s = (zeroZ, 2) := by
  unfold parseL
  by_cases hl : 100 < s.length
  · exact .inl ⟨hl, if_pos hl⟩
  · rw [if_neg hl]
    by_cases h : (looseL s).may = true ∧ writeL (looseL s) = s
    · exact .inr (.inl ⟨_, h.1, h.2, if_pos h⟩)
    · exact .inr (.inr (if_neg h))
theorem F10m (x : ZoneL) (hm : x.may = true) (p : Nat) (H : Heap) : F 10 #[.agg #[str x.std, .int .i64 x.off, .bool x.has, str x.dst, .int .i64 x.ahead, .int .i64 x.from_.k, .int .i64 x.from_.mo, .int .i64 x.from_.we, .int .i64 x.from_.da, .int .i64 x.from_.at_, .int .i64 x.to.k, .int .i64 x.to.mo, .int .i64 x.to.we, .int .i64 x.to.da, .int .i64 x.to.at_]] p H = some (.returned (.tuple #[str (writeL x), .int .i64 0]), H) := by
  have hp := may_parts hm
  have h1 : x.std.length ≤ 10 := (name_ok hp.1).2.2
  have h2 : x.dst.length ≤ 10 := by
    rcases hp.2.2 with h | h
    · exact (name_ok h.2.1).2.2
    · rw [h]; simp
  have := F10 x (by omega) (by omega) p H
  rw [hm] at this
  exact this
theorem F13m (x : ZoneL) (hm : x.may = true) (p : Nat) (H : Heap) : F 13 #[.agg #[str x.std, .int .i64 x.off, .bool x.has, str x.dst, .int .i64 x.ahead, .int .i64 x.from_.k, .int .i64 x.from_.mo, .int .i64 x.from_.we, .int .i64 x.from_.da, .int .i64 x.from_.at_, .int .i64 x.to.k, .int .i64 x.to.mo, .int .i64 x.to.we, .int .i64 x.to.da, .int .i64 x.to.at_]] p H = some (.returned (.bool true), H) := by
  have hp := may_parts hm
  have h1 : x.std.length ≤ 10 := (name_ok hp.1).2.2
  have h2 : x.dst.length ≤ 10 := by
    rcases hp.2.2 with h | h
    · exact (name_ok h.2.1).2.2
    · rw [h]; simp
  have := F13 x (by omega) (by omega) p H
  rw [hm] at this
  exact this
theorem F14m (x : ZoneL) (hm : x.may = true) (p : Nat) (H : Heap) : F 14 #[str (writeL x)] p H = some (.returned (.tuple #[.agg #[str x.std, .int .i64 x.off, .bool x.has, str x.dst, .int .i64 x.ahead, .int .i64 x.from_.k, .int .i64 x.from_.mo, .int .i64 x.from_.we, .int .i64 x.from_.da, .int .i64 x.from_.at_, .int .i64 x.to.k, .int .i64 x.to.mo, .int .i64 x.to.we, .int .i64 x.to.da, .int .i64 x.to.at_], .int .i64 0]), H) := F14e (writeL x) (by have := write_len hm; omega) x 0 (parse_write hm) p H
set_option maxHeartbeats 1000000 in
theorem F5 (z : ZoneL) (s : List UInt8) (p : Nat) (H : Heap) : F 5 #[z.v, str s] p H = some (.returned (.bool true), H) := by
  rw [F, F_pure (f := 5) (X := X) (cl := cl) rfl rfl rfl Tryz.func5 rfl (by simp only [go_sem]), Tryz.results5]
  obtain ⟨a1, a2, a3, a4, a5, ⟨b1, b2, b3, b4, b5⟩, ⟨c1, c2, c3, c4, c5⟩⟩ := z
  by_cases l1 : (100 : Int) < a1.length
  · simp (disch := first | omega | (simp only [go_sem]; done)) only [go_sem, l1]
  · by_cases l2 : (100 : Int) < a4.length
    · simp (disch := first | omega | (simp only [go_sem]; done)) only [go_sem, l1, l2]
    · by_cases l3 : (200 : Int) < s.length
      · simp (disch := first | omega | (simp only [go_sem]; done)) only [go_sem, l1, l2, l3]
      · have h10 := F10' a1 a4 a3 a2 a5 b1 b2 b3 b4 b5 c1 c2 c3 c4 c5 (by omega) (by omega)
        have h14m := F14m ⟨a1, a2, a3, a4, a5, ⟨b1, b2, b3, b4, b5⟩, ⟨c1, c2, c3, c4, c5⟩⟩
        have hwl := @write_len ⟨a1, a2, a3, a4, a5, ⟨b1, b2, b3, b4, b5⟩, ⟨c1, c2, c3, c4, c5⟩⟩
        simp only at h14m
        obtain ⟨zz, hzz⟩ : ∃ zz, zz = (ZoneL.mk a1 a2 a3 a4 a5 ⟨b1, b2, b3, b4, b5⟩ ⟨c1, c2, c3, c4, c5⟩) := ⟨_, rfl⟩
        rw [← hzz] at h10 h14m hwl
        cases hm : zz.may <;> rw [hm] at h10
        case' true =>
          have h14 := h14m hm
          have hw : ¬ (100 : Int) < (writeL zz).length := by have := hwl hm; omega
        case' false =>
          have h14 := h10
          have hw := h10
        all_goals
          rcases parse_cases s with ⟨hl, hp⟩ | ⟨x, hx, hxs, hp⟩ | hp
          · have hl' : (100 : Int) < s.length := by omega
            have h14s := F14e s (by omega) _ _ hp
            simp only [zeroZ, RuleL.z] at h14s
            simp (disch := first | omega | (simp only [go_sem]; done)) only [go_sem, l1, l2, l3, h10, h14, hw, h14s, hl']
          · have h14s := F14e s (by omega) _ _ hp
            have h10x := F10m x hx
            have h13x := F13m x hx
            simp (disch := first | omega | (simp only [go_sem]; done)) only [go_sem, l1, l2, l3, h10, h14, hw, h14s, h10x, h13x, hxs]
          · have h14s := F14e s (by omega) _ _ hp
            simp only [zeroZ, RuleL.z] at h14s
            simp (disch := first | omega | (simp only [go_sem]; done)) only [go_sem, l1, l2, l3, h10, h14, hw, h14s]
end Go.AM.Z

namespace Go.AM.Z
open Go Go.AM Go.Proofs
set_option maxRecDepth 100000
theorem two_num : ∀ n : Fin 100, twoL n.val = Lib.itoa (n.val / 10 : Nat) ++ Lib.itoa (n.val % 10 : Nat) := by
  intro n
  rw [two_tab n]
  revert n
  decide +kernel
theorem two_num' (m : Int) (h0 : 0 ≤ m) (h1 : m < 100) : twoL m = Lib.itoa (m / 10) ++ Lib.itoa (m % 10) := by
  obtain ⟨k, rfl⟩ := Int.eq_ofNat_of_zero_le h0
  exact two_num ⟨k, by omega⟩
theorem timeP_hms (h m s : Int) (b1 : 0 ≤ h) (b3 : 0 ≤ m) (b4 : m < 60) (b5 : 0 ≤ s) (b6 : s < 60) :
    timeP (3600 * h + 60 * m + s) = Lib.itoa h ++ (if m = 0 ∧ s = 0 then [] else 58 :: twoL m) ++ (if s = 0 then [] else 58 :: twoL s) := by
  generalize hn : 3600 * h + 60 * m + s = n
  have h0 : 0 ≤ n := by omega
  have e1 : n.tdiv 3600 = n / 3600 := Int.tdiv_eq_ediv_of_nonneg h0
  have e2 : n.tdiv 60 = n / 60 := Int.tdiv_eq_ediv_of_nonneg h0
  have e3 : n.tmod 3600 = n % 3600 := Int.tmod_eq_emod_of_nonneg h0
  have e4 : (n / 60).tmod 60 = n / 60 % 60 := Int.tmod_eq_emod_of_nonneg (by omega)
  have e5 : n.tmod 60 = n % 60 := Int.tmod_eq_emod_of_nonneg h0
  unfold timeP
  rw [e1, e2, e3, e4, e5]
  have x1 : n / 3600 = h := by omega
  have x2 : n / 60 % 60 = m := by omega
  have x3 : n % 60 = s := by omega
  have x4 : (n % 3600 = 0) = (m = 0 ∧ s = 0) := propext (by omega)
  simp only [x1, x2, x3, x4]
def utcZ (n : Int) : ZoneL := ⟨[85, 84, 67], n, false, [], 0, ⟨0, 0, 0, 0, 0⟩, ⟨0, 0, 0, 0, 0⟩⟩
theorem utc_name : nameB [85, 84, 67] = true := by decide +kernel
theorem utc_may (n : Int) (h : -89999 ≤ n ∧ n ≤ 89999) : (utcZ n).may = true := by
  unfold ZoneL.may utcZ
  simp only [utc_name, inB, h.1, h.2, decide_true, Bool.and_true, Bool.true_and, Bool.false_eq_true, if_false]
  exact decide_eq_true rfl
theorem utc_write (n : Int) : writeL (utcZ n) = [85, 84, 67] ++ timeL (-n) := by
  unfold writeL utcZ
  simp only [Bool.false_eq_true, if_false, List.append_nil]
  rw [named_eq _ utc_name, if_pos (by decide)]
theorem F10z (z : ZoneL) (hz : z.may = true) (W : List UInt8) (hW : writeL z = W) (p : Nat) (H : Heap) : F 10 #[.agg #[str z.std, .int .i64 z.off, .bool z.has, str z.dst, .int .i64 z.ahead, .int .i64 z.from_.k, .int .i64 z.from_.mo, .int .i64 z.from_.we, .int .i64 z.from_.da, .int .i64 z.from_.at_, .int .i64 z.to.k, .int .i64 z.to.mo, .int .i64 z.to.we, .int .i64 z.to.da, .int .i64 z.to.at_]] p H = some (.returned (.tuple #[str W, .int .i64 0]), H) := by
  rw [F10m z hz, hW]
theorem F14z (z : ZoneL) (hz : z.may = true) (W : List UInt8) (hW : writeL z = W) (p : Nat) (H : Heap) : F 14 #[str W] p H = some (.returned (.tuple #[.agg #[str z.std, .int .i64 z.off, .bool z.has, str z.dst, .int .i64 z.ahead, .int .i64 z.from_.k, .int .i64 z.from_.mo, .int .i64 z.from_.we, .int .i64 z.from_.da, .int .i64 z.from_.at_, .int .i64 z.to.k, .int .i64 z.to.mo, .int .i64 z.to.we, .int .i64 z.to.da, .int .i64 z.to.at_], .int .i64 0]), H) := by
  rw [← hW, F14m z hz]
set_option maxHeartbeats 2000000 in
theorem F6 (h m s : Int) (mi : Bool) (p : Nat) (H : Heap) : F 6 #[.int .i64 h, .int .i64 m, .int .i64 s, .bool mi] p H = some (.returned (.bool true), H) := by
  rw [F, F_pure (f := 6) (X := X) (cl := cl) rfl rfl rfl Tryz.func6 rfl (by simp only [go_sem]), Tryz.results6]
  by_cases q1 : h < 0
  · simp (disch := first | omega | (simp only [go_sem]; done)) only [go_sem, q1]
  by_cases q2 : 24 < h
  · simp (disch := first | omega | (simp only [go_sem]; done)) only [go_sem, q1, q2]
  by_cases q3 : m < 0
  · simp (disch := first | omega | (simp only [go_sem]; done)) only [go_sem, q1, q2, q3]
  by_cases q4 : 59 < m
  · simp (disch := first | omega | (simp only [go_sem]; done)) only [go_sem, q1, q2, q3, q4]
  by_cases q5 : s < 0
  · simp (disch := first | omega | (simp only [go_sem]; done)) only [go_sem, q1, q2, q3, q4, q5]
  by_cases q6 : 59 < s
  · simp (disch := first | omega | (simp only [go_sem]; done)) only [go_sem, q1, q2, q3, q4, q5, q6]
  have ht := timeP_hms h m s (by omega) (by omega) (by omega) (by omega) (by omega)
  have lh := itoa_len h 2 (by omega) (by omega)
  have l1 := itoa_len (m / 10) 2 (by omega) (by omega)
  have l2 := itoa_len (m % 10) 2 (by omega) (by omega)
  have l3 := itoa_len (s / 10) 2 (by omega) (by omega)
  have l4 := itoa_len (s % 10) 2 (by omega) (by omega)
  have e1 : m.tdiv 10 = m / 10 := Int.tdiv_eq_ediv_of_nonneg (by omega)
  have e2 : m.tmod 10 = m % 10 := Int.tmod_eq_emod_of_nonneg (by omega)
  have e3 : s.tdiv 10 = s / 10 := Int.tdiv_eq_ediv_of_nonneg (by omega)
  have e4 : s.tmod 10 = s % 10 := Int.tmod_eq_emod_of_nonneg (by omega)
  rw [two_num' m (by omega) (by omega), two_num' s (by omega) (by omega)] at ht
  have d10 : (10 : Int) ≠ 0 := by omega
  have b2 : ∀ (c : Bool) (T : TypeId) (m : Int), 0 ≤ m → m ≤ 59 → binV Tryz.prog c .quo T (.int .i64 m) (.int .i64 10) = some (.int .i64 (m / 10)) := fun c T m h1 h2 => by
    have e : m.tdiv 10 = m / 10 := Int.tdiv_eq_ediv_of_nonneg h1
    rw [bin_quo d10 (by omega) (by omega), e]
  have b1 : ∀ (c : Bool) (T : TypeId) (m : Int), 0 ≤ m → m ≤ 59 → binV Tryz.prog c .rem T (.int .i64 m) (.int .i64 10) = some (.int .i64 (m % 10)) := fun c T m h1 h2 => by
    rw [bin_rem _ d10, Int.tmod_eq_emod_of_nonneg h1]
  by_cases q0 : 3600 * h + 60 * m + s = 0
  · have q7 : m = 0 := by omega
    have q8 : s = 0 := by omega
    have q9 : h = 0 := by omega
    subst q7 q8 q9
    have hW : writeL (utcZ 0) = 85 :: 84 :: 67 :: Lib.itoa 0 := by
      have h0 := timeP_hms 0 0 0 (by omega) (by omega) (by omega) (by omega) (by omega)
      have h1 : timeL (-0) = timeP 0 := by
        unfold timeL
        rw [if_neg (by omega), Int.neg_zero]
      rw [utc_write, h1]
      have h2 : (3600 * 0 + 60 * 0 + 0 : Int) = 0 := by omega
      rw [h2] at h0
      rw [h0, if_pos ⟨rfl, rfl⟩, if_pos rfl]
      simp only [List.append_nil, List.cons_append, List.nil_append]
    have h10 := F10z (utcZ 0) (utc_may 0 (by omega)) _ hW
    have h14 := F14z (utcZ 0) (utc_may 0 (by omega)) _ hW
    unfold utcZ at h10 h14
    simp only at h10 h14
    cases mi <;>
      simp (disch := first | omega | (simp only [List.length_append, List.length_cons, List.length_nil]; omega) | (simp only [go_sem]; done)) only [go_sem, q1, q2, q3, q4, q5, q6, F16, bin_mul, bin_add, bin_quo, bin_rem, un_neg, str_add, e1, e2, e3, e4, List.append_assoc, h10, h14, Int.reduceNeg, Int.neg_zero]
  · have q0n : ¬ (-(3600 * h + 60 * m + s) = 0) := by omega
    have htl : timeL (-(3600 * h + 60 * m + s)) = 45 :: timeP (3600 * h + 60 * m + s) := by
      unfold timeL
      rw [if_pos (by omega), Int.neg_neg]
    have htl' : timeL (-(-(3600 * h + 60 * m + s))) = timeP (3600 * h + 60 * m + s) := by
      rw [Int.neg_neg]
      unfold timeL
      rw [if_neg (by omega)]
    cases mi with
    | false =>
      have hm := utc_may (3600 * h + 60 * m + s) (by omega)
      have hw := utc_write (3600 * h + 60 * m + s)
      rw [htl, ht] at hw
      have h10 := F10z (utcZ (3600 * h + 60 * m + s)) hm
      have h14 := F14z (utcZ (3600 * h + 60 * m + s)) hm
      by_cases qs : s = 0
      · by_cases qm : m = 0
        · have hms : ¬ (0 < m + s) := by omega
          have hs0 : ¬ (0 < s) := by omega
          rw [if_pos ⟨qm, qs⟩, if_pos qs] at hw
          simp only [List.cons_append, List.nil_append, List.append_nil, List.append_assoc] at hw
          have h10 := h10 _ hw
          have h14 := h14 _ hw
          unfold utcZ at h10 h14
          simp only at h10 h14
          simp (disch := first | omega | (simp only [List.length_append, List.length_cons, List.length_nil]; omega) | (simp only [go_sem]; done)) only [go_sem, q1, q2, q3, q4, q5, q6, F16, bin_mul, bin_add, bin_quo, bin_rem, un_neg, str_add, e1, e2, e3, e4, List.append_assoc, b1, b2, q0, q0n, hms, hs0, h10, h14]
        · have hms : (0 < m + s) := by omega
          have hs0 : ¬ (0 < s) := by omega
          rw [if_neg (by omega), if_pos qs] at hw
          simp only [List.cons_append, List.nil_append, List.append_nil, List.append_assoc] at hw
          have h10 := h10 _ hw
          have h14 := h14 _ hw
          unfold utcZ at h10 h14
          simp only at h10 h14
          simp (disch := first | omega | (simp only [List.length_append, List.length_cons, List.length_nil]; omega) | (simp only [go_sem]; done)) only [go_sem, q1, q2, q3, q4, q5, q6, F16, bin_mul, bin_add, bin_quo, bin_rem, un_neg, str_add, e1, e2, e3, e4, List.append_assoc, b1, b2, q0, q0n, hms, hs0, h10, h14]
      · have hms : (0 < m + s) := by omega
        have hs0 : (0 < s) := by omega
        rw [if_neg (by omega), if_neg qs] at hw
        simp only [List.cons_append, List.nil_append, List.append_nil, List.append_assoc] at hw
        have h10 := h10 _ hw
        have h14 := h14 _ hw
        unfold utcZ at h10 h14
        simp only at h10 h14
        simp (disch := first | omega | (simp only [List.length_append, List.length_cons, List.length_nil]; omega) | (simp only [go_sem]; done)) only [go_sem, q1, q2, q3, q4, q5, q6, F16, bin_mul, bin_add, bin_quo, bin_rem, un_neg, str_add, e1, e2, e3, e4, List.append_assoc, b1, b2, q0, q0n, hms, hs0, h10, h14]
    | true =>
      have hm := utc_may (-(3600 * h + 60 * m + s)) (by omega)
      have hw := utc_write (-(3600 * h + 60 * m + s))
      rw [htl', ht] at hw
      have h10 := F10z (utcZ (-(3600 * h + 60 * m + s))) hm
      have h14 := F14z (utcZ (-(3600 * h + 60 * m + s))) hm
      by_cases qs : s = 0
      · by_cases qm : m = 0
        · have hms : ¬ (0 < m + s) := by omega
          have hs0 : ¬ (0 < s) := by omega
          rw [if_pos ⟨qm, qs⟩, if_pos qs] at hw
          simp only [List.cons_append, List.nil_append, List.append_nil, List.append_assoc] at hw
          have h10 := h10 _ hw
          have h14 := h14 _ hw
          unfold utcZ at h10 h14
          simp only at h10 h14
          simp (disch := first | omega | (simp only [List.length_append, List.length_cons, List.length_nil]; omega) | (simp only [go_sem]; done)) only [go_sem, q1, q2, q3, q4, q5, q6, F16, bin_mul, bin_add, bin_quo, bin_rem, un_neg, str_add, e1, e2, e3, e4, List.append_assoc, b1, b2, q0, q0n, hms, hs0, h10, h14]
        · have hms : (0 < m + s) := by omega
          have hs0 : ¬ (0 < s) := by omega
          rw [if_neg (by omega), if_pos qs] at hw
          simp only [List.cons_append, List.nil_append, List.append_nil, List.append_assoc] at hw
          have h10 := h10 _ hw
          have h14 := h14 _ hw
          unfold utcZ at h10 h14
          simp only at h10 h14
          simp (disch := first | omega | (simp only [List.length_append, List.length_cons, List.length_nil]; omega) | (simp only [go_sem]; done)) only [go_sem, q1, q2, q3, q4, q5, q6, F16, bin_mul, bin_add, bin_quo, bin_rem, un_neg, str_add, e1, e2, e3, e4, List.append_assoc, b1, b2, q0, q0n, hms, hs0, h10, h14]
      · have hms : (0 < m + s) := by omega
        have hs0 : (0 < s) := by omega
        rw [if_neg (by omega), if_neg qs] at hw
        simp only [List.cons_append, List.nil_append, List.append_nil, List.append_assoc] at hw
        have h10 := h10 _ hw
        have h14 := h14 _ hw
        unfold utcZ at h10 h14
        simp only at h10 h14
        simp (disch := first | omega | (simp only [List.length_append, List.length_cons, List.length_nil]; omega) | (simp only [go_sem]; done)) only [go_sem, q1, q2, q3, q4, q5, q6, F16, bin_mul, bin_add, bin_quo, bin_rem, un_neg, str_add, e1, e2, e3, e4, List.append_assoc, b1, b2, q0, q0n, hms, hs0, h10, h14]
end Go.AM.Z

namespace Go.AM
open Go
variable {P : Program} {T : TypeId} {c : Bool}
theorem bool_neq (a b : Bool) (hu : P.underlying T = some .bool) : binV P c .neq T (.bool a) (.bool b) = some (.bool (!(a == b))) := by
  unfold binV
  rw [if_pos (by simp [ground, flat1, flat])]
  unfold binG
  rw [pureRun_bind]
  have hg : pureRun P (eqGuard .neq T (if c = true then .const .nilIface else .tmp 0) (.tmp 0) (.bool a) (.bool b)) = some () := by
    unfold eqGuard
    rfl
  rw [hg]
  have : pureRun P (Op.equalIn Op.maxDepth T (.bool a) (.bool b)) = some (a == b) := by
    show pureRun P (Op.equalIn (9999 + 1) T (.bool a) (.bool b)) = _
    unfold Op.equalIn
    rw [pureRun_bind, pureRun_underlying, hu]
    rfl
  simp only [Option.bind_some, binOp, pureRun_bind, Op.equal]
  rw [this]
  rfl
end Go.AM
namespace Go.AM.Z
open Go Go.AM Go.Proofs
set_option maxRecDepth 100000
theorem beql4 (a b : Bool) (c : Bool) : binV Tryz.prog c .eql 4 (.bool a) (.bool b) = some (.bool (a == b)) := bool_eql a b Tryz.underlying4
theorem bneq4 (a b : Bool) (c : Bool) : binV Tryz.prog c .neq 4 (.bool a) (.bool b) = some (.bool (!(a == b))) := bool_neq a b Tryz.underlying4
def nmZ (s : List UInt8) : ZoneL := ⟨s, 0, false, [], 0, ⟨0, 0, 0, 0, 0⟩, ⟨0, 0, 0, 0, 0⟩⟩
theorem nm_may (s : List UInt8) : (nmZ s).may = nameB s := by
  unfold ZoneL.may nmZ
  simp only [inB, Bool.false_eq_true, if_false]
  have h1 : decide ((-89999 : Int) ≤ 0) = true := by decide
  have h2 : decide ((0 : Int) ≤ 89999) = true := by decide
  have h3 : decide ((⟨s, 0, false, [], 0, ⟨0, 0, 0, 0, 0⟩, ⟨0, 0, 0, 0, 0⟩⟩ : ZoneL) = ⟨s, 0, false, [], 0, .z, .z⟩) = true := decide_eq_true rfl
  rw [h1, h2, h3]
  simp
theorem time0 : timeL 0 = [48] := by
  have h0 := timeP_hms 0 0 0 (by omega) (by omega) (by omega) (by omega) (by omega)
  have h2 : (3600 * 0 + 60 * 0 + 0 : Int) = 0 := by omega
  rw [h2] at h0
  have i0 : Lib.itoa 0 = [48] := by decide +kernel
  unfold timeL
  rw [if_neg (by omega), h0, if_pos ⟨rfl, rfl⟩, if_pos rfl, i0]
  rfl
theorem nm_write (s : List UInt8) : writeL (nmZ s) = namedL s ++ [48] := by
  unfold writeL nmZ
  simp only [Bool.false_eq_true, if_false, List.append_nil, Int.neg_zero, time0]
set_option maxHeartbeats 1000000 in
theorem F7 (s : List UInt8) (p : Nat) (H : Heap) : F 7 #[str s] p H = some (.returned (.bool true), H) := by
  rw [F, F_pure (f := 7) (X := X) (cl := cl) rfl rfl rfl Tryz.func7 rfl (by simp only [go_sem]), Tryz.results7]
  by_cases l1 : (20 : Int) < s.length
  · simp (disch := first | omega | (simp only [go_sem]; done)) only [go_sem, l1]
  · have h10 := F10' s [] false 0 0 0 0 0 0 0 0 0 0 0 0 (by omega) (by simp)
    have h13 := F13' s [] false 0 0 0 0 0 0 0 0 0 0 0 0 (by omega) (by simp)
    have hmay : (ZoneL.mk s 0 false [] 0 ⟨0, 0, 0, 0, 0⟩ ⟨0, 0, 0, 0, 0⟩).may = nameB s := nm_may s
    have hwr : writeL (ZoneL.mk s 0 false [] 0 ⟨0, 0, 0, 0, 0⟩ ⟨0, 0, 0, 0, 0⟩) = namedL s ++ [48] := nm_write s
    rw [hmay, hwr] at h10
    rw [hmay] at h13
    cases hm : nameB s with
    | false =>
      rw [hm] at h10 h13
      simp (disch := first | omega | (simp only [go_sem]; done)) only [go_sem, l1, h10, h13, bneq4, beq_self_eq_true]
    | true =>
      rw [hm] at h10 h13
      simp (disch := first | omega | (simp only [go_sem]; done)) only [go_sem, l1, h10, h13, bneq4, beq_self_eq_true]
      generalize hL : Code.loop _ = L
      have key : ∀ (k i : Nat) (acc : Bool) (t : Nat → Value) (H : Heap), i + k = s.length → t 0 = str s → t 4 = str (namedL s ++ [48]) → t 6 = .bool acc → t 7 = .int .i64 i →
          ∃ t', limR Tryz.prog cl X L 0 ⟨t, [], H⟩ = some (.exit 0, ⟨t', [], H⟩) ∧ t' 0 = str s ∧ t' 4 = str (namedL s ++ [48]) ∧ t' 6 = .bool (acc && ((s.drop i).all fun b => letterI b.toNat)) := by
        intro k
        induction k with
        | zero =>
          intro i acc t H hi h0 h4 h6 h7
          rw [← hL, E_loop, hL]
          have hlt : ¬ (i : Int) < s.length := by omega
          simp only [go_sem, h0, h4, h6, h7, hlt]
          refine ⟨_, rfl, by simp only [go_sem, h0], by simp only [go_sem, h4], ?_⟩
          rw [List.drop_of_length_le (by omega)]
          simp only [go_sem, h6]
        | succ k ih =>
          intro i acc t H hi h0 h4 h6 h7
          rw [← hL, E_loop, hL]
          have hn : i < s.length := by omega
          have hlt : (i : Int) < s.length := by omega
          have hi' := ix9n (List.getElem?_eq_getElem hn)
          have hall : ((s.drop i).all fun b => letterI b.toNat) = (letterI s[i].toNat && (s.drop (i + 1)).all fun b => letterI b.toNat) := by
            rw [List.drop_eq_getElem_cons hn, List.all_cons]
          have e1 : ((i : Int) + 1) = ((i + 1 : Nat) : Int) := by omega
          generalize htg : (acc && ((s.drop i).all fun b => letterI b.toNat)) = tgt
          have go : ∀ T : Nat → Value, T 0 = str s → T 4 = str (namedL s ++ [48]) → T 6 = .bool (acc && letterI s[i].toNat) → T 7 = .int .i64 ((i + 1 : Nat) : Int) →
              ∃ t', limR Tryz.prog cl X L 0 ⟨T, [], H⟩ = some (.exit 0, ⟨t', [], H⟩) ∧ t' 0 = str s ∧ t' 4 = str (namedL s ++ [48]) ∧ t' 6 = .bool tgt := by
            intro T g0 g4 g6 g7
            rw [← htg, hall, ← Bool.and_assoc]
            exact ih (i + 1) _ T H (by omega) g0 g4 g6 g7
          generalize hb : (s[i].toNat : Int) = b at *
          have hlet : letterI b = ((decide (65 ≤ b) && decide (b ≤ 90)) || (decide (97 ≤ b) && decide (b ≤ 122))) := rfl
          by_cases u1 : 65 ≤ b <;> by_cases u2 : b ≤ 90 <;> by_cases u3 : 97 ≤ b <;> by_cases u4 : b ≤ 122 <;> cases hacc : acc <;>
            simp (disch := first | omega | (simp only [go_sem]; done)) only [go_sem, h0, h4, h6, h7, hlt, hi', u1, u2, u3, u4, hacc, bin_add, e1] <;>
            (generalize hT : upd _ 7 _ = T
             refine go T (by rw [← hT]; simp only [go_sem, h0]) (by rw [← hT]; simp only [go_sem, h4]) (by rw [← hT, hlet, hacc]; simp only [go_sem, u1, u2, u3, u4, Bool.or_false, Bool.or_true, Bool.and_true, Bool.and_false, Bool.or_self, h6, hacc]) (by rw [← hT]; simp only [go_sem] <;> rfl))
      generalize hT : upd _ 7 _ = T
      obtain ⟨t', k1, k2, k3, k4⟩ := key s.length 0 true T [] (by omega) (by rw [← hT]; simp only [go_sem]) (by rw [← hT]; simp only [go_sem]) (by rw [← hT]; simp only [go_sem]) (by rw [← hT]; simp only [go_sem] <;> rfl)
      rw [k1]
      rw [List.drop_zero, Bool.true_and] at k4
      have hne := named_eq s hm
      cases hq : (s.all fun b => letterI b.toNat) with
      | true =>
        rw [hq] at k4
        rw [if_pos hq] at hne
        rw [hne] at k3
        simp (disch := first | omega | (simp only [List.length_append, List.length_cons, List.length_nil]; omega) | (simp only [go_sem]; done)) only [go_sem, k2, k3, k4, str_add]
      | false =>
        rw [hq] at k4
        rw [if_neg (by rw [hq]; simp)] at hne
        rw [hne] at k3
        simp (disch := first | omega | (simp only [List.length_append, List.length_cons, List.length_nil]; omega) | (simp only [go_sem]; done)) only [go_sem, k2, k3, k4, str_add, List.append_assoc]
end Go.AM.Z

namespace Go.AM.Z
open Go Go.AM Go.Proofs
set_option maxRecDepth 100000
def dsZ (k mo we da x : Int) : ZoneL := ⟨[83, 84, 68], 0, true, [68, 83, 84], 3600, ⟨k, mo, we, da, x⟩, ⟨k, mo, we, da, x⟩⟩
theorem std_name : nameB [83, 84, 68] = true := by decide +kernel
theorem dst_name : nameB [68, 83, 84] = true := by decide +kernel
theorem ok_at {k mo we da a : Int} (h : (RuleL.mk k mo we da a).ok = true) (x : Int) (hx : -604799 ≤ x ∧ x ≤ 604799) : (RuleL.mk k mo we da x).ok = true := by
  simp only [RuleL.ok, ruleB, inB, Bool.and_eq_true, Bool.or_eq_true, decide_eq_true_eq] at h ⊢
  exact ⟨hx, h.2⟩
theorem ds_may {k mo we da a : Int} (h : (RuleL.mk k mo we da a).ok = true) (x : Int) (hx : -604799 ≤ x ∧ x ≤ 604799) : (dsZ k mo we da x).may = true := by
  have ho := ok_at h x hx
  unfold ZoneL.may dsZ
  simp only [std_name, dst_name, ho, inB, if_true]
  simp
theorem time1 : timeL 3600 = [49] := by
  have h0 := timeP_hms 1 0 0 (by omega) (by omega) (by omega) (by omega) (by omega)
  have h2 : (3600 * 1 + 60 * 0 + 0 : Int) = 3600 := by omega
  rw [h2] at h0
  have i0 : Lib.itoa 1 = [49] := by decide +kernel
  unfold timeL
  rw [if_neg (by omega), h0, if_pos ⟨rfl, rfl⟩, if_pos rfl, i0]
  rfl
theorem ds_write (k mo we da x : Int) : writeL (dsZ k mo we da x) = 83 :: 84 :: 68 :: 48 :: 68 :: 83 :: 84 :: 44 :: (dayL ⟨k, mo, we, da, x⟩ ++ 44 :: dayL ⟨k, mo, we, da, x⟩) := by
  unfold writeL dsZ
  simp only [if_true, Int.neg_zero, time0]
  rw [named_eq _ std_name, named_eq _ dst_name, if_pos (by decide), if_pos (by decide)]
  rfl
theorem day7 (k mo we da : Int) : dayL ⟨k, mo, we, da, 7200⟩ = bodyL ⟨k, mo, we, da, 0⟩ := by
  rw [day_eq]
  unfold tailL bodyL
  simp only [if_true, List.append_nil]
theorem day1 (k mo we da : Int) : dayL ⟨k, mo, we, da, 3600⟩ = bodyL ⟨k, mo, we, da, 0⟩ ++ [47, 49] := by
  rw [day_eq]
  show bodyL ⟨k, mo, we, da, 0⟩ ++ (if (3600 : Int) = 7200 then [] else 47 :: timeL 3600) = _
  rw [if_neg (by omega), time1]
set_option maxHeartbeats 2000000 in
theorem F8 (r : RuleL) (two : Bool) (p : Nat) (H : Heap) : F 8 #[r.v, .bool two] p H = some (.returned (.bool true), H) := by
  rw [F, F_pure (f := 8) (X := X) (cl := cl) rfl rfl rfl Tryz.func8 rfl (by simp only [go_sem]), Tryz.results8]
  obtain ⟨k, mo, we, da, at_⟩ := r
  have h17 := F17' ⟨k, mo, we, da, at_⟩
  simp only at h17
  cases hok : (RuleL.mk k mo we da at_).ok with
  | false =>
    rw [hok] at h17
    simp (disch := first | omega | (simp only [go_sem]; done)) only [go_sem, h17]
  | true =>
    rw [hok] at h17
    obtain ⟨hb, hk⟩ := rule_bd hok
    simp only at hb hk
    have l1 := itoa_len da 2 (by omega) (by omega)
    have m7 := ds_may hok 7200 (by omega)
    have m1 := ds_may hok 3600 (by omega)
    have w7 := ds_write k mo we da 7200
    have w1 := ds_write k mo we da 3600
    rw [day7] at w7
    rw [day1] at w1
    have f7 := F10z (dsZ k mo we da 7200) m7
    have f1 := F10z (dsZ k mo we da 3600) m1
    have g7 := F14z (dsZ k mo we da 7200) m7
    have g1 := F14z (dsZ k mo we da 3600) m1
    unfold bodyL numL at w7 w1
    simp only at w7 w1
    rcases hk with ⟨k0, k1, k2⟩ | ⟨k0, k1, k2⟩ | ⟨k0, k1, k2, k3, k4, k5⟩
    · rw [if_pos k0] at w7 w1
      subst k0 k1 k2
      cases two with
      | true =>
        (try simp only [List.cons_append, List.nil_append, List.append_nil, List.append_assoc] at w7)
        have h10 := f7 _ w7
        have h14 := g7 _ w7
        unfold dsZ at h10 h14
        simp only at h10 h14
        simp (disch := first | omega | (simp only [List.length_append, List.length_cons, List.length_nil]; omega) | (simp only [go_sem]; done)) only [go_sem, h17, F16, str_add, List.append_assoc, h10, h14]
      | false =>
        (try simp only [List.cons_append, List.nil_append, List.append_nil, List.append_assoc] at w1)
        have h10 := f1 _ w1
        have h14 := g1 _ w1
        unfold dsZ at h10 h14
        simp only at h10 h14
        simp (disch := first | omega | (simp only [List.length_append, List.length_cons, List.length_nil]; omega) | (simp only [go_sem]; done)) only [go_sem, h17, F16, str_add, List.append_assoc, h10, h14]
    · rw [if_neg (by omega), if_pos k0] at w7 w1
      subst k0 k1 k2
      cases two with
      | true =>
        (try simp only [List.cons_append, List.nil_append, List.append_nil, List.append_assoc] at w7)
        have h10 := f7 _ w7
        have h14 := g7 _ w7
        unfold dsZ at h10 h14
        simp only at h10 h14
        simp (disch := first | omega | (simp only [List.length_append, List.length_cons, List.length_nil]; omega) | (simp only [go_sem]; done)) only [go_sem, h17, F16, str_add, List.append_assoc, h10, h14]
      | false =>
        (try simp only [List.cons_append, List.nil_append, List.append_nil, List.append_assoc] at w1)
        have h10 := f1 _ w1
        have h14 := g1 _ w1
        unfold dsZ at h10 h14
        simp only at h10 h14
        simp (disch := first | omega | (simp only [List.length_append, List.length_cons, List.length_nil]; omega) | (simp only [go_sem]; done)) only [go_sem, h17, F16, str_add, List.append_assoc, h10, h14]
    · rw [if_neg (by omega), if_neg (by omega)] at w7 w1
      subst k0
      have l2 := itoa_len mo 2 (by omega) (by omega)
      have l3 := itoa_len we 2 (by omega) (by omega)
      cases two with
      | true =>
        (try simp only [List.cons_append, List.nil_append, List.append_nil, List.append_assoc] at w7)
        have h10 := f7 _ w7
        have h14 := g7 _ w7
        unfold dsZ at h10 h14
        simp only at h10 h14
        simp (disch := first | omega | (simp only [List.length_append, List.length_cons, List.length_nil]; omega) | (simp only [go_sem]; done)) only [go_sem, h17, F16, str_add, List.append_assoc, h10, h14]
      | false =>
        (try simp only [List.cons_append, List.nil_append, List.append_nil, List.append_assoc] at w1)
        have h10 := f1 _ w1
        have h14 := g1 _ w1
        unfold dsZ at h10 h14
        simp only at h10 h14
        simp (disch := first | omega | (simp only [List.length_append, List.length_cons, List.length_nil]; omega) | (simp only [go_sem]; done)) only [go_sem, h17, F16, str_add, List.append_assoc, h10, h14]
end Go.AM.Z
