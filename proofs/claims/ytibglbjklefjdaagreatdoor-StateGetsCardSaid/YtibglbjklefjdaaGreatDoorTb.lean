/-
  The package zone, as plain functions. No condition.
-/
import Derived.Test.YtibglbjklefjdaaGreatDoorTF
import Derived.Test.YtibglbjklefjdaaGreatDoorANd
import Derived.Lib.ItoaLen
set_option linter.all false
set_option linter.unusedSimpArgs false
set_option linter.unusedVariables false
set_option linter.unusedSectionVars false
namespace Go.AM.Z
open Go Go.AM Go.Proofs
set_option maxRecDepth 100000
theorem F28 (n lo hi : Int) (p : Nat) (H : Heap) : F 149 #[.int .i64 n, .int .i64 lo, .int .i64 hi] p H = some (.returned (.bool (decide (lo ≤ n) && decide (n ≤ hi))), H) := by
  rw [F, F_pure (f := 149) (X := X) (cl := cl) rfl rfl rfl Tryz.func149 rfl (by simp only [go_sem]), Tryz.results149]
  simp only [go_sem]
  repeat' (generalize hz : pickB _ _ _ _ _ = z; rcases pickB_cases hz with ⟨h, rfl⟩ | ⟨h, rfl⟩ <;> clear hz <;> (try simp only [go_sem] at h) <;> simp only [go_sem, h])
attribute [go_sem] F28
def inB (n lo hi : Int) : Bool := decide (lo ≤ n) && decide (n ≤ hi)
def ruleB (k mo we da at_ : Int) : Bool := inB at_ (-604799) 604799 && ((decide (k = 0) && decide (mo = 0) && decide (we = 0) && inB da 1 365) || (decide (k = 1) && decide (mo = 0) && decide (we = 0) && inB da 0 365) || (decide (k = 2) && inB mo 1 12 && inB we 1 5 && inB da 0 6))
theorem F29 (k mo we da at_ : Int) (p : Nat) (H : Heap) : F 150 #[.agg #[.int .i64 k, .int .i64 mo, .int .i64 we, .int .i64 da, .int .i64 at_]] p H = some (.returned (.bool (ruleB k mo we da at_)), H) := by
  rw [F, F_pure (f := 150) (X := X) (cl := cl) rfl rfl rfl Tryz.func150 rfl (by simp only [go_sem]), Tryz.results150]
  simp only [go_sem]
  repeat' (generalize hz : pickB _ _ _ _ _ = z; rcases pickB_cases hz with ⟨h, rfl⟩ | ⟨h, rfl⟩ <;> clear hz <;> (try simp only [go_sem] at h) <;> simp only [go_sem, h])
  all_goals (simp_all [ruleB, inB] <;> (intros; omega))
theorem pre_eq (s q : List UInt8) : q.isPrefixOf s = (decide (q.length ≤ s.length) && decide (s.take q.length = q)) := by
  rw [Bool.eq_iff_iff]
  simp only [List.isPrefixOf_iff_prefix, Bool.and_eq_true, decide_eq_true_eq]
  constructor
  · intro h; exact ⟨h.length_le, (List.prefix_iff_eq_take.1 h).symm⟩
  · rintro ⟨_, h⟩; rw [← h]; exact List.take_prefix _ _
theorem F52 (s q : List UInt8) (p : Nat) (H : Heap) : F 109 #[str s, str q] p H = some (.returned (.bool (q.isPrefixOf s)), H) := by
  rw [F, F_pure (f := 109) (X := X) (cl := cl) rfl rfl rfl Tryz.func109 rfl (by simp only [go_sem]), Tryz.results109]
  simp only [go_sem]
  repeat' (generalize hz : pickB _ _ _ _ _ = z; rcases pickB_cases hz with ⟨h, rfl⟩ | ⟨h, rfl⟩ <;> clear hz <;> (try simp only [go_sem] at h) <;> simp (disch := first | rfl | assumption | omega | (simp only [go_sem]; done) | fail) only [go_sem, h])
  all_goals (rw [pre_eq]; simp_all <;> (intros; omega))
theorem dec_ascii {s : List UInt8} {pos : Nat} {b : UInt8} (h : s[pos]? = some b) (hb : b.toNat < 128) : dec s pos = (b.toNat, 1) := by
  obtain ⟨hlt, hb'⟩ := List.getElem?_eq_some_iff.1 h
  have hg : (ByteArray.mk s.toArray).get! (pos + 0) = b := by
    rw [Nat.add_zero, ← hb']
    show s.toArray[pos]! = _
    rw [getElem!_pos s.toArray pos (by simpa using hlt)]
    simp
  unfold dec Utf8.decode
  simp only [hg]
  rw [if_pos (by simpa using hb)]
theorem dec_width (s : List UInt8) (pos : Nat) : 1 ≤ (dec s pos).2 := by
  unfold dec Utf8.decode
  simp only
  repeat' split
  all_goals simp
def cutAt (set s : List UInt8) : Nat → Nat → List UInt8
  | 0, _ => []
  | k + 1, pos => if pos < s.length then (if ((dec s pos).1 : Int) ∈ set.map (fun b => (b.toNat : Int)) then cutAt set s k (pos + (dec s pos).2) else s.drop pos) else []
def cutL (set s : List UInt8) : List UInt8 := cutAt set s (s.length + 1) 0
theorem F61 (s set : List UInt8) (hset : ∀ b ∈ set, b.toNat < 128) (p : Nat) (H : Heap) : F 140 #[str s, str set] p H = some (.returned (str (cutL set s)), H) := by
  rw [F, F_pure (f := 140) (X := X) (cl := cl) rfl rfl rfl Tryz.func140 rfl (by simp only [go_sem]), Tryz.results140]
  simp only [go_sem]
  generalize hL : Code.loop _ = L
  have key : ∀ (k pos : Nat) (t : Nat → Value) (H : Heap), s.length < pos + k → H[0]? = some (itB s pos) → t 0 = str s → t 1 = str set → t 11 = .pointer (some ⟨0, 0, some 0⟩) → t 4 = str [] →
      ∃ e t' H', limR Tryz.prog cl X L 0 ⟨t, [], H⟩ = some (e, ⟨t', [], H'⟩) ∧ ((e = .exit 0 ∧ cutAt set s k pos = []) ∨ (e = .ret ∧ t' 4 = str (cutAt set s k pos))) := by
    intro k
    induction k with
    | zero =>
      intro pos t H hk hH h0 h1 h11 h4
      rw [← hL, E_loop, hL]
      have hlt : ¬ pos < s.length := by omega
      simp only [go_sem, hH, hlt, h0, h1, h11, h4]
      exact ⟨_, _, _, rfl, .inl ⟨rfl, rfl⟩⟩
    | succ k ih =>
      intro pos t H hk hH h0 h1 h11 h4
      rw [← hL, E_loop, hL]
      by_cases hlt : pos < s.length
      · simp only [go_sem, hH, hlt, h0, h1, h11, h4]
        generalize hL2 : Code.loop _ = L2
        have key2 : ∀ (k2 q : Nat) (t : Nat → Value) (H : Heap) (A : Nat) (b : Bool) (c : Int), set.length < q + k2 → H[A]? = some (itB set q) → t 17 = .pointer (some ⟨A, 0, some 0⟩) → t 7 = .bool b → t 6 = .int .i32 c →
            ∃ t' H', limR Tryz.prog cl X L2 0 ⟨t, [], H⟩ = some (.exit 2, ⟨t', [], H'⟩) ∧ t' 7 = .bool (b || decide (c ∈ (set.drop q).map (fun b => (b.toNat : Int)))) ∧ (∀ i, i < 18 → i ≠ 7 → i ≠ 9 → t' i = t i) ∧ ∀ B, B ≠ A → H'[B]? = H[B]? := by
          intro k2
          induction k2 with
          | zero =>
            intro q t H A b c hq hA h17 h7 h6
            rw [← hL2, E_loop, hL2]
            have hlt2 : ¬ q < set.length := by omega
            simp only [go_sem, hA, hlt2, h17, h7, h6]
            refine ⟨_, _, rfl, ?_, ?_, fun B _ => rfl⟩
            · simp only [go_sem, h7]
              rw [List.drop_of_length_le (by omega)]
              simp
            · intro i h1 h2 h3
              unfold upd
              repeat rw [if_neg (by omega)]
          | succ k2 ih2 =>
            intro q t H A b c hq hA h17 h7 h6
            rw [← hL2, E_loop, hL2]
            have hAlt := (List.getElem?_eq_some_iff.1 hA).1
            by_cases hlt2 : q < set.length
            · have hb := hset _ (List.getElem_mem hlt2)
              have hd := dec_ascii (List.getElem?_eq_getElem hlt2) hb
              simp only [go_sem, hA, hlt2, h17, h7, h6, hd]
              have hset' : (H.set A (itB set (q + 1)))[A]? = some (itB set (q + 1)) := List.getElem?_set_self hAlt
              have hmem : (c ∈ (set.drop q).map (fun b => (b.toNat : Int))) ↔ (c = (set[q].toNat : Int) ∨ c ∈ (set.drop (q + 1)).map (fun b => (b.toNat : Int))) := by
                rw [List.drop_eq_getElem_cons hlt2, List.map_cons, List.mem_cons]
              have go : ∀ (t2 : Nat → Value) (b2 : Bool), b2 = (b || decide (c = (set[q].toNat : Int))) → t2 17 = .pointer (some ⟨A, 0, some 0⟩) → t2 7 = .bool b2 → t2 6 = .int .i32 c → (∀ i, i < 18 → i ≠ 7 → i ≠ 9 → t2 i = t i) →
                  ∃ t' H', limR Tryz.prog cl X L2 0 ⟨t2, [], H.set A (itB set (q + 1))⟩ = some (.exit 2, ⟨t', [], H'⟩) ∧ t' 7 = .bool (b || decide (c ∈ (set.drop q).map (fun b => (b.toNat : Int)))) ∧ (∀ i, i < 18 → i ≠ 7 → i ≠ 9 → t' i = t i) ∧ ∀ B, B ≠ A → H'[B]? = H[B]? := by
                intro t2 b2 hb2 g17 g7 g6 gt
                obtain ⟨t', H', e1, e2, e3, e4⟩ := ih2 (q + 1) t2 _ A b2 c (by omega) hset' g17 g7 g6
                refine ⟨t', H', e1, ?_, fun i h1 h2 h3 => (e3 i h1 h2 h3).trans (gt i h1 h2 h3), fun B hB => (e4 B hB).trans (List.getElem?_set_ne (fun e => hB e.symm))⟩
                rw [e2, hb2]
                congr 1
                rw [Bool.eq_iff_iff]
                simp only [Bool.or_eq_true, decide_eq_true_eq, hmem]
                constructor
                · rintro ((h | h) | h)
                  · exact .inl h
                  · exact .inr (.inl h)
                  · exact .inr (.inr h)
                · rintro (h | h | h)
                  · exact .inl (.inl h)
                  · exact .inl (.inr h)
                  · exact .inr h
              cases b with
              | true =>
                simp only [go_sem, h17, h7, h6]
                refine go _ true (by simp) ?_ ?_ ?_ ?_
                · simp only [go_sem, h17]
                · simp only [go_sem]
                · simp only [go_sem, h6]
                · intro i h1 h2 h3
                  unfold upd
                  repeat rw [if_neg (by omega)]
              | false =>
                simp only [go_sem, h17, h7, h6]
                refine go _ (decide (c = (set[q].toNat : Int))) (by simp) ?_ ?_ ?_ ?_
                · simp only [go_sem, h17]
                · simp only [go_sem]
                · simp only [go_sem, h6]
                · intro i h1 h2 h3
                  unfold upd
                  repeat rw [if_neg (by omega)]
            · simp only [go_sem, hA, hlt2, h17, h7, h6]
              refine ⟨_, _, rfl, ?_, ?_, fun B _ => rfl⟩
              · simp only [go_sem, h7]
                rw [List.drop_of_length_le (by omega)]
                simp
              · intro i h1 h2 h3
                unfold upd
                repeat rw [if_neg (by omega)]
        have hHlt := (List.getElem?_eq_some_iff.1 hH).1
        generalize hT : upd _ 17 _ = T
        generalize hHH : (_ ++ _ : Heap) = HH
        have hHA : HH[H.length]? = some (itB set 0) := by
          rw [← hHH, List.getElem?_append_right (by simp)]
          simp
        have hH0 : HH[0]? = some (itB s (pos + (dec s pos).2)) := by
          rw [← hHH, List.getElem?_append_left (by simp; omega)]
          exact List.getElem?_set_self hHlt
        obtain ⟨t1, H1, e1, e2, e3, e4⟩ := key2 (set.length + 1) 0 T HH H.length false (dec s pos).1 (by omega) hHA (by rw [← hT]; simp only [go_sem, List.length_set]) (by rw [← hT]; simp only [go_sem]) (by rw [← hT]; simp only [go_sem])
        have f0 : t1 0 = str s := by rw [e3 0 (by omega) (by omega) (by omega), ← hT]; simp only [go_sem, h0]
        have f1 : t1 1 = str set := by rw [e3 1 (by omega) (by omega) (by omega), ← hT]; simp only [go_sem, h1]
        have f4 : t1 4 = str [] := by rw [e3 4 (by omega) (by omega) (by omega), ← hT]; simp only [go_sem, h4]
        have f5 : t1 5 = .int .i64 pos := by rw [e3 5 (by omega) (by omega) (by omega), ← hT]; simp only [go_sem]
        have f11 : t1 11 = .pointer (some ⟨0, 0, some 0⟩) := by rw [e3 11 (by omega) (by omega) (by omega), ← hT]; simp only [go_sem, h11]
        have g0 : H1[0]? = some (itB s (pos + (dec s pos).2)) := by rw [e4 0 (by omega), hH0]
        rw [e1]
        simp only [Bool.false_or, List.drop_zero] at e2
        by_cases hm : ((dec s pos).1 : Int) ∈ set.map (fun b => (b.toNat : Int))
        · simp only [hm, decide_true] at e2
          simp only [go_sem, e2]
          have hw := dec_width s pos
          obtain ⟨e, t', H', k1, k2⟩ := ih (pos + (dec s pos).2) (upd (upd t1 27 (.bool true)) 28 (.bool false)) H1 (by omega) g0 (by simp only [go_sem, f0]) (by simp only [go_sem, f1]) (by simp only [go_sem, f11]) (by simp only [go_sem, f4])
          refine ⟨e, t', H', k1, ?_⟩
          rw [cutAt, if_pos hlt, if_pos hm]
          exact k2
        · simp only [hm, decide_false] at e2
          simp (disch := first | omega | (simp only [go_sem]; done) | fail) only [go_sem, e2, f0, f5]
          refine ⟨_, _, _, rfl, .inr ⟨rfl, ?_⟩⟩
          simp only [go_sem]
          rw [cutAt, if_pos hlt, if_neg hm]
      · simp only [go_sem, hH, hlt, h0, h1, h11, h4]
        exact ⟨_, _, _, rfl, .inl ⟨rfl, by rw [cutAt, if_neg hlt]⟩⟩
  generalize hT : upd _ 11 _ = T
  obtain ⟨e, t', H', k1, k2⟩ := key (s.length + 1) 0 T [itB s 0] (by omega) rfl (by rw [← hT]; simp only [go_sem]) (by rw [← hT]; simp only [go_sem]) (by rw [← hT]; simp only [go_sem]) (by rw [← hT]; simp only [go_sem])
  rw [k1]
  rcases k2 with ⟨rfl, k2⟩ | ⟨rfl, k2⟩
  · simp only [go_sem]
    rw [cutL, k2]
  · simp only [go_sem, k2]
    rfl
attribute [go_sem] F29 F52 FIndex FIndex2 FCount
theorem F32 (s q : List UInt8) (p : Nat) (H : Heap) : F 78 #[str s, str q] p H = some (.returned (.bool (q.isPrefixOf s)), H) := by
  rw [F, F_pure (f := 78) (X := X) (cl := cl) rfl rfl rfl Tryz.func78 rfl (by simp only [go_sem]), Tryz.results78]
  simp only [go_sem]
attribute [go_sem] F32
theorem F73 (s q : List UInt8) (p : Nat) (H : Heap) : F 139 #[str s, str q] p H = some (.returned (.tuple #[str (if q.isPrefixOf s = true then s.drop q.length else s), .bool (q.isPrefixOf s)]), H) := by
  rw [F, F_pure (f := 139) (X := X) (cl := cl) rfl rfl rfl Tryz.func139 rfl (by simp only [go_sem]), Tryz.results139]
  have hl : q.isPrefixOf s = true → q.length ≤ s.length := fun h => (List.isPrefixOf_iff_prefix.1 h).length_le
  cases hq : q.isPrefixOf s with
  | true =>
    have := hl hq
    simp (disch := first | omega | (simp only [go_sem]; done) | fail) only [go_sem, hq]
  | false => simp only [go_sem, hq]
attribute [go_sem] F73
theorem F48 (s q : List UInt8) (p : Nat) (H : Heap) : F 106 #[str s, str q] p H = some (.returned (.tuple #[str (if q.isPrefixOf s = true then s.drop q.length else s), .bool (q.isPrefixOf s)]), H) := by
  rw [F, F_pure (f := 106) (X := X) (cl := cl) rfl rfl rfl Tryz.func106 rfl (by simp only [go_sem]), Tryz.results106]
  simp only [go_sem]
theorem F75 (s q : List UInt8) (p : Nat) (H : Heap) : F 141 #[str s, str q] p H = some (.returned (str (if q.isPrefixOf s = true then s.drop q.length else s)), H) := by
  rw [F, F_pure (f := 141) (X := X) (cl := cl) rfl rfl rfl Tryz.func141 rfl (by simp only [go_sem]), Tryz.results141]
  have hl : q.isPrefixOf s = true → q.length ≤ s.length := fun h => (List.isPrefixOf_iff_prefix.1 h).length_le
  cases hq : q.isPrefixOf s with
  | true =>
    have := hl hq
    simp (disch := first | omega | (simp only [go_sem]; done) | fail) only [go_sem, hq]
  | false => simp only [go_sem, hq]
attribute [go_sem] F75
theorem F53 (s q : List UInt8) (p : Nat) (H : Heap) : F 110 #[str s, str q] p H = some (.returned (str (if q.isPrefixOf s = true then s.drop q.length else s)), H) := by
  rw [F, F_pure (f := 110) (X := X) (cl := cl) rfl rfl rfl Tryz.func110 rfl (by simp only [go_sem]), Tryz.results110]
  simp only [go_sem]
theorem F47 (s : List UInt8) (c : UInt8) (p : Nat) (H : Heap) : F 182 #[str s, str [c]] p H = some (.returned (.bool (decide (0 ≤ Lib.indexByte s c))), H) := by
  rw [F, F_pure (f := 182) (X := X) (cl := cl) rfl rfl rfl Tryz.func182 rfl (by simp only [go_sem]), Tryz.results182]
  simp only [go_sem]
attribute [go_sem] F48 F53 F47
theorem cutL_nil (s : List UInt8) : cutL [] s = s := by
  unfold cutL
  rw [cutAt]
  split
  · simp
  · cases s with
    | nil => rfl
    | cons a l => simp at *
theorem F60 (s : List UInt8) (hs : s.length ≤ 9223372036854775807) (p : Nat) (H : Heap) : F 183 #[str s, str []] p H = some (.returned (str s), H) := by
  rw [F, F_pure (f := 183) (X := X) (cl := cl) rfl rfl rfl Tryz.func183 rfl (by simp only [go_sem]), Tryz.results183]
  simp only [go_sem]
  by_cases h0 : s = []
  · subst h0
    simp only [go_sem, E_loop]
  · have hl : (0 : Int) < s.length := by
      have := List.length_pos_iff.2 h0
      omega
    simp only [go_sem, E_loop, hl, FLast _ hs]
theorem F38 (s : List UInt8) (hs : s.length ≤ 9223372036854775807) (p : Nat) (H : Heap) : F 151 #[str s, str []] p H = some (.returned (.bool (decide (s = []))), H) := by
  rw [F, F_pure (f := 151) (X := X) (cl := cl) rfl rfl rfl Tryz.func151 rfl (by simp only [go_sem]), Tryz.results151]
  simp only [go_sem, F61 s [] (fun _ h => by simp at h), cutL_nil, F60 _ hs]
def signsL : List UInt8 := [65, 66, 67, 68, 69, 70, 71, 72, 73, 74, 75, 76, 77, 78, 79, 80, 81, 82, 83, 84, 85, 86, 87, 88, 89, 90, 97, 98, 99, 100, 101, 102, 103, 104, 105, 106, 107, 108, 109, 110, 111, 112, 113, 114, 115, 116, 117, 118, 119, 120, 121, 122, 48, 49, 50, 51, 52, 53, 54, 55, 56, 57, 43, 45]
def okC (c : UInt8) : Bool := decide (0 ≤ Lib.indexByte signsL c)
def nameB (s : List UInt8) : Bool := s.all okC && inB s.length 3 10
theorem F27 (s : List UInt8) (hs : s.length ≤ 4611686018427387904) (p : Nat) (H : Heap) : F 148 #[str s] p H = some (.returned (.bool (nameB s)), H) := by
  rw [F, F_pure (f := 148) (X := X) (cl := cl) rfl rfl rfl Tryz.func148 rfl (by simp only [go_sem]), Tryz.results148]
  simp only [go_sem]
  generalize hL : Code.loop _ = L
  have key : ∀ (k i : Nat) (t : Nat → Value) (H : Heap), i + k = s.length → t 0 = str s → t 5 = .int .i64 s.length → t 6 = .int .i64 i →
      ∃ e t', limR Tryz.prog cl X L 0 ⟨t, [], H⟩ = some (e, ⟨t', [], H⟩) ∧ ((e = .exit 0 ∧ (s.drop i).all okC = true ∧ t' 0 = str s) ∨ (e = .ret ∧ (s.drop i).all okC = false ∧ t' 2 = .bool false)) := by
    intro k
    induction k with
    | zero =>
      intro i t H hi h0 h5 h6
      rw [← hL, E_loop, hL]
      have hlt : ¬ (i : Int) < s.length := by omega
      simp only [go_sem, h0, h5, h6, hlt]
      refine ⟨_, _, rfl, .inl ⟨rfl, ?_, ?_⟩⟩
      · rw [List.drop_of_length_le (by omega)]; rfl
      · simp only [go_sem, h0]
    | succ k ih =>
      intro i t H hi h0 h5 h6
      rw [← hL, E_loop, hL]
      have hn : i < s.length := by omega
      have hlt : (i : Int) < s.length := by omega
      have hd : (s.drop i).take 1 = [s[i]] := by
        rw [List.drop_eq_getElem_cons hn]; rfl
      have e1 : ((i : Int) + 1).toNat - i = 1 := by omega
      have hall : (s.drop i).all okC = (okC s[i] && (s.drop (i + 1)).all okC) := by
        rw [List.drop_eq_getElem_cons hn, List.all_cons]
      simp (disch := first | omega | (simp only [go_sem]; done) | fail) only [go_sem, h0, h5, h6, hlt, bin_add, e1, hd]
      cases hc : okC s[i] with
      | true =>
        have hc' := hc
        unfold okC signsL at hc'
        simp only [hc', go_sem]
        simp (disch := first | omega | (simp only [go_sem]; done) | fail) only [go_sem, h0, h5, h6, bin_add]
        generalize hT : upd _ 6 _ = T
        obtain ⟨e, t', k1, k2⟩ := ih (i + 1) T H (by omega) (by rw [← hT]; simp only [go_sem, h0]) (by rw [← hT]; simp only [go_sem, h5]) (by rw [← hT]; simp only [go_sem] <;> rfl)
        refine ⟨e, t', k1, ?_⟩
        rw [hall, hc, Bool.true_and]
        exact k2
      | false =>
        have hc' := hc
        unfold okC signsL at hc'
        simp only [hc', go_sem]
        refine ⟨_, _, rfl, .inr ⟨rfl, by rw [hall, hc]; rfl, ?_⟩⟩
        simp only [go_sem]
  generalize hT : upd _ 6 _ = T
  obtain ⟨e, t', k1, k2⟩ := key s.length 0 T [] (by omega) (by rw [← hT]; simp only [go_sem]) (by rw [← hT]; simp only [go_sem]) (by rw [← hT]; simp only [go_sem] <;> rfl)
  rw [k1]
  rcases k2 with ⟨rfl, k2, k3⟩ | ⟨rfl, k2, k3⟩
  · simp only [go_sem, k3]
    rw [nameB, ← List.drop_zero (l := s), k2]
    rfl
  · simp only [go_sem, k3]
    rw [nameB, ← List.drop_zero (l := s), k2]
    rfl
structure RuleL where
  k : Int
  mo : Int
  we : Int
  da : Int
  at_ : Int
deriving DecidableEq
structure ZoneL where
  std : List UInt8
  off : Int
  has : Bool
  dst : List UInt8
  ahead : Int
  from_ : RuleL
  to : RuleL
deriving DecidableEq
abbrev RuleL.v (r : RuleL) : Value := .agg #[.int .i64 r.k, .int .i64 r.mo, .int .i64 r.we, .int .i64 r.da, .int .i64 r.at_]
abbrev ZoneL.v (z : ZoneL) : Value := .agg #[str z.std, .int .i64 z.off, .bool z.has, str z.dst, .int .i64 z.ahead, .int .i64 z.from_.k, .int .i64 z.from_.mo, .int .i64 z.from_.we, .int .i64 z.from_.da, .int .i64 z.from_.at_, .int .i64 z.to.k, .int .i64 z.to.mo, .int .i64 z.to.we, .int .i64 z.to.da, .int .i64 z.to.at_]
theorem stood25 : Tryz.prog.stoodInHeld 58 = false := by kernel_rfl
theorem stood23 : Tryz.prog.stoodInHeld 56 = false := by kernel_rfl
theorem eqg25 : Tryz.prog.eqGuardType Tryz.prog.depth 58 = false := by kernel_rfl
theorem part3 (cs : Array Value) (o : Nat) : partV Tryz.prog 3 cs o = cs[o]? := by simp only [partV, un3, if_true, ag3, Bool.false_eq_true, if_false]
theorem part9 (cs : Array Value) (o : Nat) : partV Tryz.prog 9 cs o = cs[o]? := by simp only [partV, un9, if_true, ag9, Bool.false_eq_true, if_false]
theorem part4 (cs : Array Value) (o : Nat) : partV Tryz.prog 4 cs o = cs[o]? := by simp only [partV, un4, if_true, ag4, Bool.false_eq_true, if_false]
theorem part23 (cs : Array Value) (o : Nat) : partV Tryz.prog 56 cs o = some (.agg (cs.extract o (o + 5))) := by simp only [partV, un56, if_true, ag56, sz56, Option.map_some]
theorem eqRule (d : Nat) (a b : RuleL) : pureRun Tryz.prog (Op.equalIn (d + 1 + 1) 56 a.v b.v) = some (decide (a = b)) := by
  rw [eq_struct Tryz.underlying56 stood23]
  simp only [fieldsEq, part3, List.toList_toArray, List.getElem?_toArray, List.getElem?_cons_zero, List.getElem?_cons_succ, Option.bind_some, eqIn_int Tryz.underlying3]
  obtain ⟨a1, a2, a3, a4, a5⟩ := a
  obtain ⟨b1, b2, b3, b4, b5⟩ := b
  simp
  by_cases h1 : a1 = b1 <;> by_cases h2 : a2 = b2 <;> by_cases h3 : a3 = b3 <;> by_cases h4 : a4 = b4 <;> by_cases h5 : a5 = b5 <;> simp [h1, h2, h3, h4, h5]
theorem eqZone (d : Nat) (a b : ZoneL) : pureRun Tryz.prog (Op.equalIn (d + 1 + 1 + 1) 58 a.v b.v) = some (decide (a = b)) := by
  rw [eq_struct Tryz.underlying58 stood25]
  have e1 : pureRun Tryz.prog (Op.equalIn (d + 1 + 1) 56 (.agg (#[str a.std, .int .i64 a.off, .bool a.has, str a.dst, .int .i64 a.ahead, .int .i64 a.from_.k, .int .i64 a.from_.mo, .int .i64 a.from_.we, .int .i64 a.from_.da, .int .i64 a.from_.at_, .int .i64 a.to.k, .int .i64 a.to.mo, .int .i64 a.to.we, .int .i64 a.to.da, .int .i64 a.to.at_].extract 5 (5 + 5))) (.agg (#[str b.std, .int .i64 b.off, .bool b.has, str b.dst, .int .i64 b.ahead, .int .i64 b.from_.k, .int .i64 b.from_.mo, .int .i64 b.from_.we, .int .i64 b.from_.da, .int .i64 b.from_.at_, .int .i64 b.to.k, .int .i64 b.to.mo, .int .i64 b.to.we, .int .i64 b.to.da, .int .i64 b.to.at_].extract 5 (5 + 5)))) = some (decide (a.from_ = b.from_)) := eqRule d a.from_ b.from_
  have e2 : pureRun Tryz.prog (Op.equalIn (d + 1 + 1) 56 (.agg (#[str a.std, .int .i64 a.off, .bool a.has, str a.dst, .int .i64 a.ahead, .int .i64 a.from_.k, .int .i64 a.from_.mo, .int .i64 a.from_.we, .int .i64 a.from_.da, .int .i64 a.from_.at_, .int .i64 a.to.k, .int .i64 a.to.mo, .int .i64 a.to.we, .int .i64 a.to.da, .int .i64 a.to.at_].extract 10 (10 + 5))) (.agg (#[str b.std, .int .i64 b.off, .bool b.has, str b.dst, .int .i64 b.ahead, .int .i64 b.from_.k, .int .i64 b.from_.mo, .int .i64 b.from_.we, .int .i64 b.from_.da, .int .i64 b.from_.at_, .int .i64 b.to.k, .int .i64 b.to.mo, .int .i64 b.to.we, .int .i64 b.to.da, .int .i64 b.to.at_].extract 10 (10 + 5)))) = some (decide (a.to = b.to)) := eqRule d a.to b.to
  simp only [fieldsEq, part3, part4, part9, part23, List.toList_toArray, List.getElem?_toArray, List.getElem?_cons_zero, List.getElem?_cons_succ, Option.bind_some, eqIn_int Tryz.underlying3, eqIn_string Tryz.underlying9, eqIn_bool Tryz.underlying4, e1, e2]
  obtain ⟨a1, a2, a3, a4, a5, a6, a7⟩ := a
  obtain ⟨b1, b2, b3, b4, b5, b6, b7⟩ := b
  simp
  by_cases h1 : a1 = b1 <;> by_cases h2 : a2 = b2 <;> by_cases h3 : a3 = b3 <;> by_cases h4 : a4 = b4 <;> by_cases h5 : a5 = b5 <;> by_cases h6 : a6 = b6 <;> by_cases h7 : a7 = b7 <;> simp [h1, h2, h3, h4, h5, h6, h7]
theorem gZone (r : ZoneL) : ground r.v = true := by simp only [go_sem]
theorem zEql (c : Bool) (a b : ZoneL) : binV Tryz.prog c .eql 58 a.v b.v = some (.bool (decide (a = b))) := (bin_eqAgg eqg25 (gZone a) (gZone b) (eqZone 9997 a b)).1
attribute [-go_sem] F28
theorem F28' (n lo hi : Int) (p : Nat) (H : Heap) : F 149 #[.int .i64 n, .int .i64 lo, .int .i64 hi] p H = some (.returned (.bool (inB n lo hi)), H) := F28 n lo hi p H
theorem zEql' (c : Bool) (x1 x4 y1 y4 : List UInt8) (x3 y3 : Bool) (x2 x5 x6 x7 x8 x9 x10 x11 x12 x13 x14 x15 y2 y5 y6 y7 y8 y9 y10 y11 y12 y13 y14 y15 : Int) : binV Tryz.prog c .eql 58 (.agg #[str x1, .int .i64 x2, .bool x3, str x4, .int .i64 x5, .int .i64 x6, .int .i64 x7, .int .i64 x8, .int .i64 x9, .int .i64 x10, .int .i64 x11, .int .i64 x12, .int .i64 x13, .int .i64 x14, .int .i64 x15]) (.agg #[str y1, .int .i64 y2, .bool y3, str y4, .int .i64 y5, .int .i64 y6, .int .i64 y7, .int .i64 y8, .int .i64 y9, .int .i64 y10, .int .i64 y11, .int .i64 y12, .int .i64 y13, .int .i64 y14, .int .i64 y15]) = some (.bool (decide ((⟨x1, x2, x3, x4, x5, ⟨x6, x7, x8, x9, x10⟩, ⟨x11, x12, x13, x14, x15⟩⟩ : ZoneL) = (⟨y1, y2, y3, y4, y5, ⟨y6, y7, y8, y9, y10⟩, ⟨y11, y12, y13, y14, y15⟩⟩ : ZoneL)))) := zEql c (⟨x1, x2, x3, x4, x5, ⟨x6, x7, x8, x9, x10⟩, ⟨x11, x12, x13, x14, x15⟩⟩ : ZoneL) (⟨y1, y2, y3, y4, y5, ⟨y6, y7, y8, y9, y10⟩, ⟨y11, y12, y13, y14, y15⟩⟩ : ZoneL)
attribute [go_sem] List.extract List.drop_succ_cons List.drop_zero List.take_succ_cons List.take_zero F28' zEql'
attribute [go_sem] Option.isSome_some
def RuleL.ok (r : RuleL) : Bool := ruleB r.k r.mo r.we r.da r.at_
def RuleL.z : RuleL := ⟨0, 0, 0, 0, 0⟩
def ZoneL.may (z : ZoneL) : Bool := nameB z.std && inB z.off (-89999) 89999 &&
  (if z.has = true then nameB z.dst && (decide (z.ahead = z.off + 3600) || inB z.ahead (-89999) 89999) && z.from_.ok && z.to.ok else decide (z = ⟨z.std, z.off, false, [], 0, .z, .z⟩))
theorem F29' (r : RuleL) (p : Nat) (H : Heap) : F 150 #[r.v] p H = some (.returned (.bool r.ok), H) := F29 ..
attribute [-go_sem] F29
theorem F13 (z : ZoneL) (h1 : z.std.length ≤ 4611686018427387904) (h2 : z.dst.length ≤ 4611686018427387904) (p : Nat) (H : Heap) : F 114 #[z.v] p H = some (.returned (.bool z.may), H) := by
  rw [F, F_pure (f := 114) (X := X) (cl := cl) rfl rfl rfl Tryz.func114 rfl (by simp only [go_sem]), Tryz.results114]
  simp only [go_sem, F27 _ h1]
  repeat' (generalize hz : pickB _ _ _ _ _ = zz; rcases pickB_cases hz with ⟨h, rfl⟩ | ⟨h, rfl⟩ <;> clear hz <;> (try simp only [go_sem] at h) <;> simp (disch := first | (simp only [go_sem]; done) | (simp only [inB, go_sem] at *; omega)) only [go_sem, h, F27 _ h1, F27 _ h2, F29', bin_add])
  all_goals (try simp only [go_sem])
  all_goals (obtain ⟨z1, z2, z3, z4, z5, ⟨f1, f2, f3, f4, f5⟩, ⟨g1, g2, g3, g4, g5⟩⟩ := z; simp_all [ZoneL.may, RuleL.z])
theorem itoa_pos (n : Int) : 1 ≤ (Lib.itoa n).length := by
  unfold Lib.itoa
  split
  · simp
  · rw [Lib.decDigits_length]; exact Lib.nDigits_pos _
def twoL (n : Int) : List UInt8 := (Lib.itoa (n + 100)).drop 1
theorem twoL_len (n : Int) (h1 : -1000000 ≤ n) (h2 : n ≤ 1000000) : (twoL n).length ≤ 21 := by
  unfold twoL
  have := Lib.itoa_length_le (n + 100) (by omega) (by omega)
  simp
  omega
theorem F43 (n : Int) (h1 : -1000000 ≤ n) (h2 : n ≤ 1000000) (p : Nat) (H : Heap) : F 156 #[.int .i64 n] p H = some (.returned (str (twoL n)), H) := by
  rw [F, F_pure (f := 156) (X := X) (cl := cl) rfl rfl rfl Tryz.func156 rfl (by simp only [go_sem]), Tryz.results156]
  have hl : (1 : Int) ≤ (Lib.itoa (n + 100)).length := by have := itoa_pos (n + 100); omega
  simp (disch := first | omega | (simp only [go_sem]; done) | fail) only [go_sem, bin_add, FItoa]
  rfl
def timeP (n : Int) : List UInt8 := Lib.itoa (n.tdiv 3600) ++ (if n.tmod 3600 = 0 then [] else 58 :: twoL ((n.tdiv 60).tmod 60)) ++ (if n.tmod 60 = 0 then [] else 58 :: twoL (n.tmod 60))
def timeL (n : Int) : List UInt8 := if n < 0 then 45 :: timeP (-n) else timeP n
theorem F20p (n : Int) (h1 : 0 ≤ n) (h2 : n ≤ 1000000000) (p : Nat) (H : Heap) : F 116 #[.int .i64 n] p H = some (.returned (str (timeP n)), H) := by
  rw [F, F_pure (f := 116) (X := X) (cl := cl) rfl rfl rfl Tryz.func116 rfl (by simp only [go_sem]), Tryz.results116]
  have hn : ¬ n < 0 := by omega
  have e1 : n.tdiv 3600 = n / 3600 := Int.tdiv_eq_ediv_of_nonneg h1
  have e2 : n.tdiv 60 = n / 60 := Int.tdiv_eq_ediv_of_nonneg h1
  have e3 : n.tmod 3600 = n % 3600 := Int.tmod_eq_emod_of_nonneg h1
  have e4 : n.tmod 60 = n % 60 := Int.tmod_eq_emod_of_nonneg h1
  have e5 : (n / 60).tmod 60 = n / 60 % 60 := Int.tmod_eq_emod_of_nonneg (by omega)
  have l1 := Lib.itoa_length_le (n / 3600) (by omega) (by omega)
  have l2 := twoL_len (n / 60 % 60) (by omega) (by omega)
  have l3 := twoL_len (n % 60) (by omega) (by omega)
  have q1 : -9223372036854775808 ≤ n / 3600 := by omega
  have q2 : n / 3600 ≤ 9223372036854775807 := by omega
  have d0 : (3600 : Int) ≠ 0 := by omega
  have d1 : (60 : Int) ≠ 0 := by omega
  unfold timeP
  rw [e1, e2, e3, e4, e5]
  have b1 : ∀ (c : Bool) (T : TypeId), binV Tryz.prog c .quo T (.int .i64 n) (.int .i64 3600) = some (.int .i64 (n / 3600)) := fun c T => by rw [bin_quo d0 (by omega) (by omega), e1]
  have b2 : ∀ (c : Bool) (T : TypeId), binV Tryz.prog c .quo T (.int .i64 n) (.int .i64 60) = some (.int .i64 (n / 60)) := fun c T => by rw [bin_quo d1 (by omega) (by omega), e2]
  have b3 : ∀ (c : Bool) (T : TypeId), binV Tryz.prog c .rem T (.int .i64 n) (.int .i64 3600) = some (.int .i64 (n % 3600)) := fun c T => by rw [bin_rem _ d0, e3]
  have b4 : ∀ (c : Bool) (T : TypeId), binV Tryz.prog c .rem T (.int .i64 n) (.int .i64 60) = some (.int .i64 (n % 60)) := fun c T => by rw [bin_rem _ d1, e4]
  have b5 : ∀ (c : Bool) (T : TypeId), binV Tryz.prog c .rem T (.int .i64 (n / 60)) (.int .i64 60) = some (.int .i64 (n / 60 % 60)) := fun c T => by rw [bin_rem _ d1, e5]
  simp (disch := first | omega | (simp only [go_sem]; done) | fail) only [go_sem, hn, b1, b2, b3, b4, b5, FItoa]
  by_cases k1 : n % 3600 = 0 <;> by_cases k2 : n % 60 = 0 <;>
    simp (disch := first | omega | (simp only [List.length_append, List.length_cons, List.length_nil, List.cons_append, List.nil_append]; omega) | (simp only [go_sem]; done) | fail) only [go_sem, k1, k2, b1, b2, b3, b4, b5, F43, str_add, List.append_nil]
theorem timeP_len (n : Int) (h1 : 0 ≤ n) (h2 : n ≤ 1000000000) : (timeP n).length ≤ 100 := by
  have e1 : n.tdiv 3600 = n / 3600 := Int.tdiv_eq_ediv_of_nonneg h1
  have e2 : n.tdiv 60 = n / 60 := Int.tdiv_eq_ediv_of_nonneg h1
  have e4 : n.tmod 60 = n % 60 := Int.tmod_eq_emod_of_nonneg h1
  have e5 : (n / 60).tmod 60 = n / 60 % 60 := Int.tmod_eq_emod_of_nonneg (by omega)
  have l1 := Lib.itoa_length_le (n / 3600) (by omega) (by omega)
  have l2 := twoL_len (n / 60 % 60) (by omega) (by omega)
  have l3 := twoL_len (n % 60) (by omega) (by omega)
  unfold timeP
  rw [e1, e2, e4, e5]
  simp only [List.length_append]
  split <;> split <;> simp only [List.length_cons, List.length_nil] <;> omega
theorem F20 (n : Int) (h1 : -1000000000 ≤ n) (h2 : n ≤ 1000000000) (p : Nat) (H : Heap) : F 116 #[.int .i64 n] p H = some (.returned (str (timeL n)), H) := by
  by_cases hn : n < 0
  · rw [F, F_pure (f := 116) (X := X) (cl := cl) rfl rfl rfl Tryz.func116 rfl (by simp only [go_sem]), Tryz.results116]
    have hl := timeP_len (-n) (by omega) (by omega)
    simp (disch := first | omega | (simp only [List.length_append, List.length_cons, List.length_nil, List.cons_append, List.nil_append]; omega) | (simp only [go_sem]; done) | fail) only [go_sem, hn, un_neg, F20p, str_add]
    rw [timeL, if_pos hn]
  · rw [F20p n (by omega) h2, timeL, if_neg hn]
theorem FMap (s : List UInt8) (h : s.length < 35184372088832) (ha : (s.all fun b => decide (b.toNat < 128)) = true) (p : Nat) (H : Heap) : F 152 #[.func (.func 153) #[] #[], str s] p H = some (.returned (str (Lib.mapD dropL s)), H) := by
  rw [F, F_ext (f := 152) (X := X) rfl]
  exact exG_some _ _ (by unfold gMap; exact if_pos ⟨h, ha⟩)
def namedL (s : List UInt8) : List UInt8 := if Lib.mapD dropL s = [] then s else 60 :: (s ++ [62])
theorem F19 (s : List UInt8) (h : s.length ≤ 1000) (hm : (Lib.mapD dropL s).length ≤ 9223372036854775807) (ha : (s.all fun b => decide (b.toNat < 128)) = true) (p : Nat) (H : Heap) : F 115 #[str s] p H = some (.returned (str (namedL s)), H) := by
  rw [F, F_pure (f := 115) (X := X) (cl := cl) rfl rfl rfl Tryz.func115 rfl (by simp only [go_sem]), Tryz.results115]
  simp only [go_sem, FMap s (by omega) ha, F38 _ hm]
  by_cases hq : Lib.mapD dropL s = []
  · simp only [go_sem, hq]
    rw [namedL, if_pos hq]
  · simp (disch := first | omega | (simp only [List.length_append, List.length_cons, List.length_nil, List.cons_append, List.nil_append]; omega) | (simp only [go_sem]; done) | fail) only [go_sem, hq, str_add]
    rw [namedL, if_neg hq]
def numL (n : Int) : List UInt8 := Lib.itoa n
def dayL (r : RuleL) : List UInt8 := (if r.k = 0 then 74 :: numL r.da else if r.k = 1 then numL r.da else 77 :: (numL r.mo ++ 46 :: (numL r.we ++ 46 :: numL r.da))) ++ (if r.at_ = 7200 then [] else 47 :: timeL r.at_)
theorem fin_scope {P : Program} {cl : FuncId → Nat} {X : Exts} {c : Code} {p : Nat} {s : St} {H : Heap} {rs : Array ResultVar} {z : Option (Ending × Heap)} (h : ∃ y, scopeGo (limR P cl X) p c 2 c s = some y ∧ purely H (finish P false rs [] (some y)) = z) : purely H (finish P false rs [] (limR P cl X (.scope c) p s)) = z := by
  obtain ⟨y, h1, h2⟩ := h
  rw [E_scope 2 h1]
  exact h2
theorem cl42 : cl 155 = 1 := (rfl)
attribute [go_sem] cl42
theorem F21 (r : RuleL) (h : r.ok = true) (p : Nat) (H : Heap) : F 117 #[r.v] p H = some (.returned (str (dayL r)), H) := by
  rw [F, F_pure (f := 117) (X := X) (cl := cl) rfl rfl rfl Tryz.func117 rfl (by simp only [go_sem]), Tryz.results117]
  have hb : (-604799 ≤ r.at_ ∧ r.at_ ≤ 604799 ∧ 0 ≤ r.da ∧ r.da ≤ 365) ∧ (r.k = 0 ∨ r.k = 1 ∨ (¬ r.k = 0 ∧ ¬ r.k = 1 ∧ 1 ≤ r.mo ∧ r.mo ≤ 12 ∧ 1 ≤ r.we ∧ r.we ≤ 5)) := by
    simp only [RuleL.ok, ruleB, inB, Bool.and_eq_true, Bool.or_eq_true, decide_eq_true_eq] at h
    omega
  obtain ⟨hb, hk⟩ := hb
  simp only [go_sem]
  refine fin_scope ?_
  have l1 := Lib.itoa_length_le r.da (by omega) (by omega)
  have l5 : (timeL r.at_).length ≤ 101 := by
    unfold timeL
    split
    · have := timeP_len (-r.at_) (by omega) (by omega)
      simp only [List.length_cons]
      omega
    · have := timeP_len r.at_ (by omega) (by omega)
      omega
  rcases hk with k0 | k1 | ⟨k0, k1, m1, m2, m3, m4⟩
  · by_cases ka : r.at_ = 7200 <;>
      simp (disch := first | omega | (simp only [List.length_append, List.length_cons, List.length_nil, List.cons_append, List.nil_append]; omega) | (simp only [go_sem]; done) | fail) only [scopeGo, findLabel, go_sem, k0, ka, FItoa, F20, str_add] <;>
      exact ⟨_, rfl, by simp only [go_sem]; simp [dayL, numL, k0, ka]⟩
  · have k0 : ¬ r.k = 0 := by omega
    by_cases ka : r.at_ = 7200 <;>
      simp (disch := first | omega | (simp only [List.length_append, List.length_cons, List.length_nil, List.cons_append, List.nil_append]; omega) | (simp only [go_sem]; done) | fail) only [scopeGo, findLabel, go_sem, k1, ka, FItoa, F20, str_add] <;>
      exact ⟨_, rfl, by simp only [go_sem]; simp [dayL, numL, k1, ka]⟩
  · have l2 := Lib.itoa_length_le r.mo (by omega) (by omega)
    have l3 := Lib.itoa_length_le r.we (by omega) (by omega)
    by_cases ka : r.at_ = 7200 <;>
      simp (disch := first | omega | (simp only [List.length_append, List.length_cons, List.length_nil, List.cons_append, List.nil_append]; omega) | (simp only [go_sem]; done) | fail) only [scopeGo, findLabel, go_sem, k0, k1, ka, FItoa, F20, str_add] <;>
      exact ⟨_, rfl, by simp only [go_sem]; simp [dayL, numL, k0, k1, ka]⟩
theorem okC_tab : ∀ n : Fin 256, okC (UInt8.ofNat n.val) = true → n.val < 128 := by decide +kernel
theorem okC_ascii (c : UInt8) (h : okC c = true) : c.toNat < 128 := by
  have := okC_tab ⟨c.toNat, c.toNat_lt⟩
  simp only [UInt8.ofNat_toNat] at this
  exact this h
theorem name_ascii {s : List UInt8} (h : nameB s = true) : (s.all fun b => decide (b.toNat < 128)) = true ∧ s.length ≤ 10 := by
  simp only [nameB, inB, Bool.and_eq_true, List.all_eq_true, decide_eq_true_eq] at h
  refine ⟨?_, by omega⟩
  rw [List.all_eq_true]
  intro b hb
  simpa using okC_ascii b (h.1 b hb)
theorem mapGo_ascii : ∀ (n : Nat) (l : List UInt8), l.length ≤ n → (∀ b ∈ l, b.toNat < 128) → Lib.mapGoD dropL n l = l.filter fun b => !letterI b.toNat
  | 0, l, hl, _ => by
    cases l with
    | nil => rfl
    | cons a l => simp at hl
  | n + 1, [], _, _ => by rw [Lib.mapGoD, if_pos rfl]; rfl
  | n + 1, b :: l, hl, ha => by
    have hb := ha b (by simp)
    have hd : Lib.decodeL (b :: l) = (b.toNat, 1) := dec_ascii (s := b :: l) (pos := 0) rfl hb
    rw [Lib.mapGoD, if_neg (by simp), hd]
    have ih := mapGo_ascii n l (by simpa using hl) fun x hx => ha x (by simp [hx])
    show (if 0 ≤ dropL (b.toNat : Int) then Lib.encodeRune (dropL (b.toNat : Int)) else []) ++ Lib.mapGoD dropL n l = _
    rw [ih, List.filter_cons]
    cases hq : letterI (b.toNat : Int) with
    | true =>
      have : dropL (b.toNat : Int) = -1 := by unfold dropL; rw [if_pos hq]
      rw [this, if_neg (by omega)]
      simp
    | false =>
      have : dropL (b.toNat : Int) = b.toNat := by unfold dropL; rw [if_neg (by simp [hq])]
      rw [this, if_pos (by omega)]
      unfold Lib.encodeRune
      rw [Lib.encodeRuneZ_one (by omega) (by omega)]
      simp
theorem mapD_name {s : List UInt8} (h : nameB s = true) : Lib.mapD dropL s = s.filter fun b => !letterI b.toNat := by
  have := (name_ascii h).1
  rw [List.all_eq_true] at this
  exact mapGo_ascii _ _ (Nat.le_refl _) fun b hb => by simpa using this b hb
theorem mapD_len (s : List UInt8) (h : nameB s = true) : (Lib.mapD dropL s).length ≤ 10 := by
  rw [mapD_name h]
  have := List.length_filter_le (fun b => !letterI (UInt8.toNat b : Int)) s
  have := (name_ascii h).2
  omega
theorem timeL_len (n : Int) (h1 : -1000000000 ≤ n) (h2 : n ≤ 1000000000) : (timeL n).length ≤ 101 := by
  unfold timeL
  split
  · have := timeP_len (-n) (by omega) (by omega)
    simp only [List.length_cons]
    omega
  · have := timeP_len n (by omega) (by omega)
    omega
theorem namedL_len (s : List UInt8) (h : nameB s = true) : (namedL s).length ≤ 12 := by
  have := (name_ascii h).2
  unfold namedL
  split
  · omega
  · simp only [List.length_cons, List.length_append, List.length_nil]; omega
theorem dayL_len (r : RuleL) (h : r.ok = true) : (dayL r).length ≤ 200 := by
  have hb : (-604799 ≤ r.at_ ∧ r.at_ ≤ 604799 ∧ 0 ≤ r.da ∧ r.da ≤ 365) ∧ (r.k = 0 ∨ r.k = 1 ∨ (1 ≤ r.mo ∧ r.mo ≤ 12 ∧ 1 ≤ r.we ∧ r.we ≤ 5)) := by
    simp only [RuleL.ok, ruleB, inB, Bool.and_eq_true, Bool.or_eq_true, decide_eq_true_eq] at h
    omega
  obtain ⟨hb, hk⟩ := hb
  have l1 := Lib.itoa_length_le r.da (by omega) (by omega)
  have l5 := timeL_len r.at_ (by omega) (by omega)
  unfold dayL numL
  by_cases k0 : r.k = 0 <;> by_cases k1 : r.k = 1 <;> by_cases ka : r.at_ = 7200
  all_goals (try (exfalso; omega))
  all_goals (try (have l2 := Lib.itoa_length_le r.mo (by omega) (by omega); have l3 := Lib.itoa_length_le r.we (by omega) (by omega)))
  all_goals (simp [k0, k1, ka]; omega)
def writeL (z : ZoneL) : List UInt8 := namedL z.std ++ timeL (-z.off) ++ (if z.has = true then namedL z.dst ++ (if z.ahead = z.off + 3600 then [] else timeL (-z.ahead)) ++ 44 :: (dayL z.from_ ++ 44 :: dayL z.to) else [])
theorem F21' (r : RuleL) (h : r.ok = true) (p : Nat) (H : Heap) : F 117 #[.agg #[.int .i64 r.k, .int .i64 r.mo, .int .i64 r.we, .int .i64 r.da, .int .i64 r.at_]] p H = some (.returned (str (dayL r)), H) := F21 r h p H
theorem F10 (z : ZoneL) (h1 : z.std.length ≤ 4611686018427387904) (h2 : z.dst.length ≤ 4611686018427387904) (p : Nat) (H : Heap) : F 80 #[z.v] p H = some (.returned (.tuple (if z.may = true then #[str (writeL z), .int .i64 0] else #[str [], .int .i64 1])), H) := by
  rw [F, F_pure (f := 80) (X := X) (cl := cl) rfl rfl rfl Tryz.func80 rfl (by simp only [go_sem]), Tryz.results80]
  cases hm : z.may with
  | false =>
    simp only [go_sem, F13 z h1 h2, hm]
  | true =>
    have hm' := hm
    simp only [ZoneL.may, Bool.and_eq_true] at hm'
    obtain ⟨⟨n1, n2⟩, n3⟩ := hm'
    simp only [inB, Bool.and_eq_true, decide_eq_true_eq] at n2
    obtain ⟨a1, a2⟩ := name_ascii n1
    have a3 := mapD_len _ n1
    have a4 := namedL_len _ n1
    have a5 := timeL_len (-z.off) (by omega) (by omega)
    have u : ∀ n : Int, n = n := fun _ => rfl
    simp only [go_sem, F13 z h1 h2, hm]
    cases hh : z.has with
    | false =>
      simp (disch := first | omega | assumption | (simp only [List.length_append, List.length_cons, List.length_nil, List.cons_append, List.nil_append]; omega) | (simp only [go_sem]; done) | fail) only [go_sem, hh, F19, F20, un_neg, str_add]
      simp [writeL, hh]
    | true =>
      rw [if_pos hh] at n3
      simp only [Bool.and_eq_true] at n3
      obtain ⟨⟨⟨n3, n4⟩, n5⟩, n6⟩ := n3
      obtain ⟨b1, b2⟩ := name_ascii n3
      have b3 := mapD_len _ n3
      have b4 := namedL_len _ n3
      have hah : -1000000 ≤ z.ahead ∧ z.ahead ≤ 1000000 := by
        simp only [inB, Bool.or_eq_true, Bool.and_eq_true, decide_eq_true_eq] at n4
        omega
      have b5 := timeL_len (-z.ahead) (by omega) (by omega)
      have b6 := dayL_len _ n5
      have b7 := dayL_len _ n6
      by_cases ha : z.ahead = z.off + 3600
      · have ha' : (z.off + 3600 = z.off + 3600) := rfl
        simp (disch := first | omega | assumption | (simp only [List.length_append, List.length_cons, List.length_nil, List.cons_append, List.nil_append]; omega) | (simp only [go_sem]; done) | fail) only [go_sem, hh, F19, F20, un_neg, str_add, bin_add, ha, F21']
        simp [writeL, hh, ha]
      · simp (disch := first | omega | assumption | (simp only [List.length_append, List.length_cons, List.length_nil, List.cons_append, List.nil_append]; omega) | (simp only [go_sem]; done) | fail) only [go_sem, hh, F19, F20, un_neg, str_add, bin_add, ha, F21']
        simp [writeL, hh, ha]
theorem cutAt_len (set s : List UInt8) : ∀ (k pos : Nat), (cutAt set s k pos).length ≤ s.length
  | 0, _ => by simp [cutAt]
  | k + 1, pos => by
    rw [cutAt]
    split
    · split
      · exact cutAt_len set s k _
      · simp
    · simp
theorem cutL_len (set s : List UInt8) : (cutL set s).length ≤ s.length := cutAt_len set s _ _
theorem F50 (s set : List UInt8) (hset : ∀ b ∈ set, b.toNat < 128) (hs : s.length ≤ 1000000) (p : Nat) (H : Heap) : F 107 #[str s, str set] p H = some (.returned (.tuple #[str (s.take (s.length - (cutL set s).length)), str (cutL set s)]), H) := by
  rw [F, F_pure (f := 107) (X := X) (cl := cl) rfl rfl rfl Tryz.func107 rfl (by simp only [go_sem]), Tryz.results107]
  have hl := cutL_len set s
  have e : ((s.length : Int) - (cutL set s).length).toNat = s.length - (cutL set s).length := by omega
  simp (disch := first | omega | (simp only [go_sem]; done) | fail) only [go_sem, F61 _ _ hset, bin_sub, e]
theorem indexByte_lt (c : UInt8) : ∀ (l : List UInt8), Lib.indexByte l c < l.length ∨ l = []
  | [] => .inr rfl
  | b :: l => by
    left
    have ge := Lib.indexByte_ge l c
    unfold Lib.indexByte
    rcases indexByte_lt c l with h | h
    · split
      · simp
      · split
        · simp; omega
        · simp; omega
    · subst h
      simp [Lib.indexByte]
      split <;> omega
theorem indexByte_lt' (l : List UInt8) (c : UInt8) (h : 0 ≤ Lib.indexByte l c) : Lib.indexByte l c < l.length := by
  rcases indexByte_lt c l with h1 | h1
  · exact h1
  · subst h1; simp [Lib.indexByte] at h
theorem F74 (s : List UInt8) (c : UInt8) (hs : s.length ≤ 1000000) (p : Nat) (H : Heap) : F 137 #[str s, str [c]] p H = some (.returned (.tuple (if 0 ≤ Lib.indexByte s c then #[str (s.take (Lib.indexByte s c).toNat), str (s.drop ((Lib.indexByte s c).toNat + 1)), .bool true] else #[str s, str [], .bool false])), H) := by
  rw [F, F_pure (f := 137) (X := X) (cl := cl) rfl rfl rfl Tryz.func137 rfl (by simp only [go_sem]), Tryz.results137]
  by_cases h : 0 ≤ Lib.indexByte s c
  · have hi := indexByte_lt' s c h
    have e : (Lib.indexByte s c + 1).toNat = (Lib.indexByte s c).toNat + 1 := by omega
    simp (disch := first | omega | (simp only [go_sem]; done) | fail) only [go_sem, h, bin_add, e]
  · simp only [go_sem, h]
attribute [go_sem] F74
theorem F49 (s : List UInt8) (c : UInt8) (hs : s.length ≤ 1000000) (p : Nat) (H : Heap) : F 104 #[str s, str [c]] p H = some (.returned (.tuple (if 0 ≤ Lib.indexByte s c then #[str (s.take (Lib.indexByte s c).toNat), str (s.drop ((Lib.indexByte s c).toNat + 1)), .bool true] else #[str s, str [], .bool false])), H) := by
  rw [F, F_pure (f := 104) (X := X) (cl := cl) rfl rfl rfl Tryz.func104 rfl (by simp only [go_sem]), Tryz.results104]
  by_cases h : 0 ≤ Lib.indexByte s c
  · simp only [go_sem, hs, h]
  · simp only [go_sem, hs, h]
def lettersL : List UInt8 := [65, 66, 67, 68, 69, 70, 71, 72, 73, 74, 75, 76, 77, 78, 79, 80, 81, 82, 83, 84, 85, 86, 87, 88, 89, 90, 97, 98, 99, 100, 101, 102, 103, 104, 105, 106, 107, 108, 109, 110, 111, 112, 113, 114, 115, 116, 117, 118, 119, 120, 121, 122]
def timeSet : List UInt8 := [48, 49, 50, 51, 52, 53, 54, 55, 56, 57, 45, 58]
theorem letters_ascii : ∀ b ∈ lettersL, b.toNat < 128 := by decide +kernel
theorem timeSet_ascii : ∀ b ∈ timeSet, b.toNat < 128 := by decide +kernel
def pre (set s : List UInt8) : List UInt8 := s.take (s.length - (cutL set s).length)
def takeNameL (s : List UInt8) : List UInt8 × List UInt8 := if ([60] : List UInt8).isPrefixOf s = true then
    (if 0 ≤ Lib.indexByte (s.drop 1) 62 then ((s.drop 1).take (Lib.indexByte (s.drop 1) 62).toNat, (s.drop 1).drop ((Lib.indexByte (s.drop 1) 62).toNat + 1)) else (s.drop 1, []))
  else (pre lettersL s, cutL lettersL s)
theorem F30 (s : List UInt8) (hs : s.length ≤ 1000000) (p : Nat) (H : Heap) : F 76 #[str s] p H = some (.returned (.tuple #[str (takeNameL s).1, str (takeNameL s).2]), H) := by
  rw [F, F_pure (f := 76) (X := X) (cl := cl) rfl rfl rfl Tryz.func76 rfl (by simp only [go_sem]), Tryz.results76]
  have h50 := F50 s lettersL letters_ascii hs
  simp only [lettersL] at h50
  have hd : (s.drop 1).length ≤ 1000000 := by simp; omega
  cases hq : ([60] : List UInt8).isPrefixOf s with
  | true =>
    by_cases h : 0 ≤ Lib.indexByte (s.drop 1) 62
    · simp only [go_sem, hq, F49 _ _ hd, h]
      rw [takeNameL, if_pos hq, if_pos h]
    · simp only [go_sem, hq, F49 _ _ hd, h]
      rw [takeNameL, if_pos hq, if_neg h]
  | false =>
    simp only [go_sem, hq, h50]
    rw [takeNameL, if_neg (by simp [hq])]
    simp only [pre, lettersL]
end Go.AM.Z
namespace Go.AM.Z
open Go Go.AM Go.Proofs
set_option maxRecDepth 100000
def piecesN (c : UInt8) : Nat → List UInt8 → List (List UInt8)
  | 0, s => [s]
  | k + 1, s => s.take (Lib.indexByte s c).toNat :: piecesN c k (s.drop ((Lib.indexByte s c).toNat + 1))
def pieces (c : UInt8) (s : List UInt8) : List (List UInt8) := piecesN c (s.count c) s
theorem piecesN_len (c : UInt8) : ∀ (k : Nat) (s : List UInt8), (piecesN c k s).length = k + 1
  | 0, _ => rfl
  | k + 1, s => by rw [piecesN, List.length_cons, piecesN_len c k]
theorem pieces_len (c : UInt8) (s : List UInt8) : (pieces c s).length = s.count c + 1 := piecesN_len c _ _
theorem index_count (c : UInt8) : ∀ (s : List UInt8), s.count c ≠ 0 → 0 ≤ Lib.indexByte s c ∧ (s.drop ((Lib.indexByte s c).toNat + 1)).count c + 1 = s.count c
  | [], h => by simp at h
  | b :: l, h => by
    unfold Lib.indexByte
    by_cases hb : b = c
    · subst hb
      simp
    · rw [List.count_cons_of_ne (by simpa using hb)] at h
      obtain ⟨h1, h2⟩ := index_count c l h
      rw [List.count_cons_of_ne (by simpa using hb)]
      have hb' : ¬ ((b == c) = true) := by simpa using hb
      have hm : ¬ ((Lib.indexByte l c == -1) = true) := by simp; omega
      rw [if_neg hb', if_neg hm]
      refine ⟨by omega, ?_⟩
      have e2 : (Lib.indexByte l c + 1).toNat = (Lib.indexByte l c).toNat + 1 := by omega
      rw [e2, List.drop_succ_cons]
      exact h2
theorem slh74Z (A off n len : Nat) (hi : Int) (h : 0 ≤ hi ∧ hi ≤ len) : sliceV Tryz.prog 113 (.slice (some ⟨A, off, some n⟩) len 1) none (some (.int .i64 hi)) none = some (.slice (some ⟨A, off, some n⟩) hi.toNat 1) := slh_sl Tryz.underlying113 sz9 A off n len hi h
theorem bt9 : bts Tryz.prog 9 = some 16 := by kernel_rfl
theorem mk74Z {H : Heap} (n : Nat) (h : n ≤ 2 ^ 20) : mkSl Tryz.prog 113 (.int .i64 (n : Nat)) (.int .i64 (n : Nat)) H = some (.slice (some ⟨H.length, 0, some n⟩) n 1, H ++ [⟨0, 9, (List.replicate n (str [])).toArray, 0, false, []⟩]) :=
  mk_sl (s := 1) Tryz.underlying113 sz9 bt9 (by kernel_rfl) rfl n (by omega)
attribute [go_sem] slh74Z mk74Z putAll_one
theorem F81 (s : List UInt8) (c : UInt8) (hs : s.length ≤ 1000000) (p : Nat) (H : Heap) :
    F 118 #[str s, str [c], .int .i64 0, .int .i64 (-1)] p H = some (.returned (.slice (some ⟨H.length, 0, some (s.count c + 1)⟩) (s.count c + 1) 1), H ++ [⟨0, 9, ((pieces c s).map str).toArray, s.count c + 1, false, []⟩]) := by
  rw [F, F_quiet (f := 118) (X := X) (cl := cl) rfl rfl rfl Tryz.func118 rfl, Tryz.results118]
  have hc : s.count c ≤ s.length := List.count_le_length
  generalize hn : s.count c + 1 = n
  have m1 : ¬ ((s.length : Int) + 1 < (n : Nat)) := by omega
  have m2 : ((s.count c : Int) + 1) = (n : Nat) := by omega
  have m3 : ([c] = ([] : List UInt8)) = False := by simp
  simp (disch := first | omega | (simp only [go_sem]; done) | fail) only [go_sem, FCount, bin_add, bin_sub, m1, m2, m3, mk74Z]
  generalize hA : H.length = A
  generalize hL : Code.loop _ = L
  have key : ∀ (k : Nat) (done : List Value) (r : List UInt8) (t : Nat → Value) (H' : Heap) (fl : Nat), r.count c = k → r.length ≤ 1000000 → H'[A]? = some ⟨0, 9, (done ++ List.replicate (k + 1) (str [])).toArray, fl, false, []⟩ → fl ≤ n → done.length + k + 1 = n →
      t 0 = str r → t 1 = str [c] → t 2 = .int .i64 0 → t 3 = .int .i64 ((n : Int) - 1) → t 9 = .slice (some ⟨A, 0, some n⟩) n 1 → t 10 = .int .i64 (done.length : Nat) →
      ∃ t' init last fl', limR Tryz.prog cl X L A ⟨t, [], H'⟩ = some (.exit 0, ⟨t', [], H'.set A ⟨0, 9, (done ++ init ++ [str []]).toArray, fl', false, []⟩⟩) ∧ fl' ≤ n ∧ (piecesN c k r).map str = init ++ [str last] ∧ t' 0 = str last ∧ t' 9 = .slice (some ⟨A, 0, some n⟩) n 1 ∧ t' 10 = .int .i64 ((n : Int) - 1) := by
    intro k
    induction k with
    | zero =>
      intro done r t H' fl hk hr hH hfl hd h0 h1 h2 h3 h9 h10
      rw [← hL, E_loop, hL]
      have hlt : ¬ ((done.length : Int) < (n : Int) - 1) := by omega
      simp only [go_sem, h0, h1, h2, h3, h9, h10, hlt]
      have e : H' = H'.set A ⟨0, 9, (done ++ [] ++ [str []]).toArray, fl, false, []⟩ := by
        have e : done ++ [] ++ [str []] = done ++ List.replicate (0 + 1) (str []) := by simp
        rw [e, set_same hH]
      refine ⟨_, [], r, fl, congrArg (fun h => some (Exit.exit 0, (⟨_, [], h⟩ : St))) e, hfl, rfl, ?_, ?_, ?_⟩
      · simp only [go_sem, h0]
      · simp only [go_sem, h9]
      · simp only [go_sem, h10]
        congr 1
        omega
    | succ k ih =>
      intro done r t H' fl hk hr hH hfl hd h0 h1 h2 h3 h9 h10
      rw [← hL, E_loop, hL]
      obtain ⟨i1, i2⟩ := index_count c r (by omega)
      have i3 := indexByte_lt' r c i1
      have hlt : ((done.length : Int) < (n : Int) - 1) := by omega
      have hx : ¬ (Lib.indexByte r c < 0) := by omega
      have hAl := (List.getElem?_eq_some_iff.1 hH).1
      have ea : (0 : Nat) + ((done.length : Nat) : Int).toNat = done.length := by omega
      have ep : (done ++ List.replicate (k + 1 + 1) (str [])).set done.length (str (r.take (Lib.indexByte r c).toNat)) = done ++ str (r.take (Lib.indexByte r c).toNat) :: List.replicate (k + 1) (str []) := by
        rw [List.replicate_succ]; simp
      simp (disch := first | omega | (simp only [go_sem]; done) | (simp only [List.size_toArray, List.length_append, List.length_replicate, List.length_cons, List.length_nil]; omega)) only [go_sem, h0, h1, h2, h3, h9, h10, hlt, FIndex, hx, bin_add, Int.add_zero, hH, putAll_one, ep]
      generalize hT : upd _ 10 _ = T
      obtain ⟨t', init, last, fl', k1, k2, k3, k4, k5, k6⟩ := ih (done ++ [str (r.take (Lib.indexByte r c).toNat)]) (r.drop ((Lib.indexByte r c).toNat + 1)) T (H'.set A ⟨0, 9, (done ++ str (r.take (Lib.indexByte r c).toNat) :: List.replicate (k + 1) (str [])).toArray, n, false, []⟩) n (by omega) (by simp; omega)
        (by rw [List.getElem?_set_self hAl]; simp) (Nat.le_refl _) (by simp; omega)
        (by rw [← hT]; simp only [go_sem]; congr 2; congr 1; omega) (by rw [← hT]; simp only [go_sem, h1]) (by rw [← hT]; simp only [go_sem, h2]) (by rw [← hT]; simp only [go_sem, h3]) (by rw [← hT]; simp only [go_sem, h9]) (by rw [← hT]; simp only [go_sem] <;> (congr 1))
      refine ⟨t', str (r.take (Lib.indexByte r c).toNat) :: init, last, fl', ?_, k2, ?_, k4, k5, k6⟩
      · rw [k1, List.set_set]
        simp
      · rw [piecesN, List.map_cons, k3]
        rfl
  generalize hT : upd _ 10 _ = T
  obtain ⟨t', init, last, fl', k1, k2, k3, k4, k5, k6⟩ := key (s.count c) [] s T (H ++ [⟨0, 9, (List.replicate n (str [])).toArray, 0, false, []⟩]) 0 rfl hs (by rw [← hA, ← hn]; simp) (Nat.zero_le _) (by simp; omega)
    (by rw [← hT]; simp only [go_sem]) (by rw [← hT]; simp only [go_sem]) (by rw [← hT]; simp only [go_sem]) (by rw [← hT]; simp only [go_sem]) (by rw [← hT]; simp only [go_sem]) (by rw [← hT]; simp only [go_sem] <;> rfl)
  rw [k1]
  have hl : init.length + 1 = n := by
    have := congrArg List.length k3
    rw [List.length_map, piecesN_len] at this
    simp at this
    omega
  have hAl : A < (H ++ [(⟨0, 9, (List.replicate n (str [])).toArray, 0, false, []⟩ : Blk)]).length := by rw [← hA]; simp
  have ea : 0 + ((n : Int) - 1).toNat = init.length := by omega
  have eb : ((n : Int) - 1 + 1).toNat = n := by omega
  have ep : (init ++ [str []]).set init.length (str last) = init ++ [str last] := by simp
  simp (disch := first | omega | (simp only [go_sem]; done) | (simp only [List.size_toArray, List.length_append, List.length_replicate, List.length_cons, List.length_nil]; omega)) only [go_sem, k4, k5, k6, bin_add, hAl, putAll_one, ea, eb, ep]
  rw [List.set_set, ← hA, List.set_append_right _ _ (Nat.le_refl _), pieces, k3]
  simp
theorem F57 (s : List UInt8) (c : UInt8) (hs : s.length ≤ 1000000) (p : Nat) (H : Heap) :
    F 82 #[str s, str [c]] p H = some (.returned (.slice (some ⟨H.length, 0, some (s.count c + 1)⟩) (s.count c + 1) 1), H ++ [⟨0, 9, ((pieces c s).map str).toArray, s.count c + 1, false, []⟩]) := by
  rw [F, F_quiet (f := 82) (X := X) (cl := cl) rfl rfl rfl Tryz.func82 rfl, Tryz.results82]
  simp only [go_sem, F81 _ _ hs]
theorem piecesN_le (c : UInt8) : ∀ (k : Nat) (s : List UInt8), ∀ x ∈ piecesN c k s, x.length ≤ s.length
  | 0, s, x, h => by rw [piecesN, List.mem_singleton] at h; subst h; exact Nat.le_refl _
  | k + 1, s, x, h => by
    rw [piecesN, List.mem_cons] at h
    rcases h with rfl | h
    · simp; omega
    · have := piecesN_le c k _ x h
      simp at this; omega
def valGo : List (List UInt8) → Int → Int → Option Int
  | [], n, _ => some n
  | p :: ps, n, u => if atoiV p < 0 ∨ 604799 < atoiV p then none else valGo ps (n + atoiV p * u) (u / 60)
def val1 (sg : Int) (s : List UInt8) : Int := match valGo (pieces 58 s) 0 3600 with
  | none => 0
  | some n => sg * n
def valueL (s : List UInt8) : Int := if ([45] : List UInt8).isPrefixOf s = true then val1 (-1) (s.drop 1) else val1 1 s
theorem piecesN_all (c : UInt8) (s : List UInt8) (hs : s.length ≤ 1000) : ∀ x ∈ pieces c s, x.length ≤ 281474976710656 := fun x hx => by have := piecesN_le c _ s x hx; omega
theorem F51 (s : List UInt8) (hs : s.length ≤ 1000) (p : Nat) (H : Heap) : F 108 #[str s] p H = some (.returned (.int .i64 (valueL s)), H) := by
  rw [F, F_pure (f := 108) (X := X) (cl := cl) rfl rfl rfl Tryz.func108 rfl (by simp only [go_sem]), Tryz.results108]
  have hd1 : (s.drop 1).length ≤ 1000 := by simp; omega
  obtain ⟨r, sg, hr, hsg, hv⟩ : ∃ r sg, r.length ≤ 1000 ∧ (sg = 1 ∨ sg = -1) ∧ valueL s = val1 sg r ∧ (([45] : List UInt8).isPrefixOf s = true → r = s.drop 1 ∧ sg = -1) ∧ (([45] : List UInt8).isPrefixOf s = false → r = s ∧ sg = 1) := by
    cases hq : ([45] : List UInt8).isPrefixOf s with
    | true => exact ⟨s.drop 1, -1, hd1, .inr rfl, by rw [valueL, if_pos hq], fun _ => ⟨rfl, rfl⟩, fun h => by cases h⟩
    | false => exact ⟨s, 1, hs, .inl rfl, by rw [valueL, if_neg (by simp [hq])], (fun h => by cases h), fun _ => ⟨rfl, rfl⟩⟩
  rw [hv.1]
  generalize hps : pieces 58 r = ps
  have hl : ps.length = r.count 58 + 1 := by rw [← hps, pieces_len]
  have hcn : r.count 58 ≤ r.length := List.count_le_length
  have hpl := piecesN_all 58 r hr
  rw [hps] at hpl
  have c60 : (60 : Int) ≠ 0 := by omega
  have b2 : ∀ (m : Int) (c : Bool) (T : TypeId), 0 ≤ m → m ≤ 3600 → binV Tryz.prog c .quo T (.int .i64 m) (.int .i64 60) = some (.int .i64 (m / 60)) := fun m c T h1 h2 => by
    have e : m.tdiv 60 = m / 60 := Int.tdiv_eq_ediv_of_nonneg h1
    rw [bin_quo c60 (by omega) (by omega), e]
  cases hq : ([45] : List UInt8).isPrefixOf s
  case' true => simp (disch := first | omega | (simp only [go_sem]; done) | fail) only [go_sem, hq, F57]; rw [← (hv.2.1 hq).1]
  case' false => simp (disch := first | omega | (simp only [go_sem]; done) | fail) only [go_sem, hq, F57]; rw [← (hv.2.2 hq).1]
  all_goals
    rw [hps, ← hl]
    generalize hL : Code.loop _ = L
    have key : ∀ (k i : Nat) (t : Nat → Value) (acc u : Int) (H : Heap), i + k = ps.length → 0 ≤ acc → acc ≤ 2177276400 * (i : Int) → 0 ≤ u → u ≤ 3600 → H[0]? = some ⟨0, 9, (ps.map str).toArray, ps.length, false, []⟩ →
        t 20 = .slice (some ⟨0, 0, some ps.length⟩) ps.length 1 → t 21 = .int .i64 ps.length → t 22 = .int .i64 i → t 6 = .int .i64 acc → t 7 = .int .i64 u → t 3 = .int .i64 sg →
        ∃ e t', limR Tryz.prog cl X L 0 ⟨t, [], H⟩ = some (e, ⟨t', [], H⟩) ∧ ((e = .exit 0 ∧ ∃ m, valGo (ps.drop i) acc u = some m ∧ t' 6 = .int .i64 m ∧ t' 3 = .int .i64 sg ∧ 0 ≤ m ∧ m ≤ 2177276400 * (ps.length : Int)) ∨ (e = .ret ∧ valGo (ps.drop i) acc u = none ∧ t' 2 = .int .i64 0)) := by
      intro k
      induction k with
      | zero =>
        intro i t acc u H hi ha0 ha1 hu0 hu1 hH h20 h21 h22 h6 h7 h3
        rw [← hL, E_loop, hL]
        have hlt : ¬ (i : Int) < ps.length := by omega
        simp only [go_sem, h20, h21, h22, h6, h7, h3, hlt]
        refine ⟨_, _, rfl, .inl ⟨rfl, acc, ?_, ?_, ?_, ha0, (show (i : Int) = ps.length by omega) ▸ ha1⟩⟩
        · rw [List.drop_of_length_le (by omega)]; rfl
        · simp only [go_sem, h6]
        · simp only [go_sem, h3]
      | succ k ih =>
        intro i t acc u H hi ha0 ha1 hu0 hu1 hH h20 h21 h22 h6 h7 h3
        rw [← hL, E_loop, hL]
        have hn : i < ps.length := by omega
        have hlt : (i : Int) < ps.length := by omega
        have hg : (ps.map str)[i]? = some (str ps[i]) := by rw [List.getElem?_map, List.getElem?_eq_getElem hn]; rfl
        have hpi := hpl _ (List.getElem_mem hn)
        have hvg : valGo (ps.drop i) acc u = if atoiV ps[i] < 0 ∨ 604799 < atoiV ps[i] then none else valGo (ps.drop (i + 1)) (acc + atoiV ps[i] * u) (u / 60) := by
          rw [List.drop_eq_getElem_cons hn, valGo]
        by_cases q1 : atoiV ps[i] < 0
        · simp (disch := first | omega | (simp only [go_sem]; done) | (simp only [List.size_toArray, List.length_map]; omega)) only [go_sem, h20, h21, h22, h6, h7, h3, hlt, hH, hg, FAtoi, q1]
          refine ⟨_, _, rfl, .inr ⟨rfl, ?_, ?_⟩⟩
          · rw [hvg, if_pos (.inl q1)]
          · simp only [go_sem]
        · by_cases q2 : 604799 < atoiV ps[i]
          · simp (disch := first | omega | (simp only [go_sem]; done) | (simp only [List.size_toArray, List.length_map]; omega)) only [go_sem, h20, h21, h22, h6, h7, h3, hlt, hH, hg, FAtoi, q1, q2]
            refine ⟨_, _, rfl, .inr ⟨rfl, ?_, ?_⟩⟩
            · rw [hvg, if_pos (.inr q2)]
            · simp only [go_sem]
          · have x1 : 0 ≤ atoiV ps[i] * u := Int.mul_nonneg (by omega) hu0
            have x2 : atoiV ps[i] * u ≤ 2177276400 := by
              have := Int.mul_le_mul (show atoiV ps[i] ≤ 604799 by omega) hu1 hu0 (by omega)
              omega
            have hi9 : (i : Int) ≤ 1001 := by omega
            simp (disch := first | omega | (simp only [go_sem]; done) | (simp only [List.size_toArray, List.length_map]; omega)) only [go_sem, h20, h21, h22, h6, h7, h3, hlt, hH, hg, FAtoi, q1, q2, bin_mul, bin_add, b2]
            generalize hT : upd _ 22 _ = T
            obtain ⟨e, t', k1, k2⟩ := ih (i + 1) T (acc + atoiV ps[i] * u) (u / 60) H (by omega) (by omega) (by omega) (by omega) (by omega) hH (by rw [← hT]; simp only [go_sem, h20]) (by rw [← hT]; simp only [go_sem, h21]) (by rw [← hT]; simp only [go_sem] <;> rfl) (by rw [← hT]; simp only [go_sem]) (by rw [← hT]; simp only [go_sem]) (by rw [← hT]; simp only [go_sem, h3])
            refine ⟨e, t', k1, ?_⟩
            rw [hvg, if_neg (by omega)]
            exact k2
    generalize hT : upd _ 22 _ = T
    obtain ⟨e, t', k1, k2⟩ := key ps.length 0 T 0 3600 [⟨0, 9, (ps.map str).toArray, ps.length, false, []⟩] (by omega) (by omega) (by omega) (by omega) (by omega) rfl (by rw [← hT]; simp only [go_sem] <;> rfl) (by rw [← hT]; simp only [go_sem] <;> rfl) (by rw [← hT]; simp only [go_sem] <;> rfl) (by rw [← hT]; simp only [go_sem] <;> rfl) (by rw [← hT]; simp only [go_sem] <;> rfl) (by rw [← hT]; simp only [go_sem]; first | rw [(hv.2.1 hq).2] | rw [(hv.2.2 hq).2])
    rw [k1]
    rw [List.drop_zero, ← hps] at k2
    have hl9 : ((pieces 58 r).length : Int) ≤ 1001 := by rw [hps]; omega
    rcases k2 with ⟨rfl, m, k2, k3, k4, k5, k6⟩ | ⟨rfl, k2, k3⟩
    · have y1 : -9223372036854775808 ≤ sg * m ∧ sg * m ≤ 9223372036854775807 := by rcases hsg with rfl | rfl <;> omega
      simp (disch := first | exact y1.1 | exact y1.2 | omega | (simp only [go_sem]; done) | fail) only [go_sem, k3, k4, bin_mul]
      rw [val1, k2]
    · simp only [go_sem, k3]
      rw [val1, k2]
def takeTimeL (s : List UInt8) : Int × List UInt8 := (valueL (pre timeSet s), cutL timeSet s)
theorem F31 (s : List UInt8) (hs : s.length ≤ 1000) (p : Nat) (H : Heap) : F 77 #[str s] p H = some (.returned (.tuple #[.int .i64 (takeTimeL s).1, str (takeTimeL s).2]), H) := by
  rw [F, F_pure (f := 77) (X := X) (cl := cl) rfl rfl rfl Tryz.func77 rfl (by simp only [go_sem]), Tryz.results77]
  have h50 := F50 s timeSet timeSet_ascii (by omega)
  simp only [timeSet] at h50
  have hl : (s.take (s.length - (cutL timeSet s).length)).length ≤ 1000 := by simp; omega
  have h51 := F51 _ hl
  simp only [timeSet] at h51
  simp only [go_sem, h50, h51]
  rfl
theorem enc_high (x : Nat) (h : 128 ≤ x) : ∃ (es : List UInt8) (a : UInt8) (m : Nat), Utf8.encode x = ⟨es.toArray⟩ ∧ es.length = m + 1 ∧ 1 ≤ m ∧ m ≤ 3 ∧ es[m]? = some a ∧ 128 ≤ a.toNat := by
  unfold Utf8.encode
  simp only
  have hc : 128 ≤ (if Utf8.valid (x : Int) = true then (x : Int).toNat else Utf8.runeError) := by
    split
    · omega
    · decide
  generalize (if Utf8.valid (x : Int) = true then (x : Int).toNat else Utf8.runeError) = c at hc
  have hb : 128 ≤ (UInt8.ofNat (128 + c % 64)).toNat := by
    rw [UInt8.toNat_ofNat']
    omega
  rw [if_neg (by omega)]
  by_cases h1 : c < 2048
  · rw [if_pos h1]
    exact ⟨_, _, 1, rfl, rfl, by omega, by omega, rfl, hb⟩
  · rw [if_neg h1]
    by_cases h2 : c < 65536
    · rw [if_pos h2]
      exact ⟨_, _, 2, rfl, rfl, by omega, by omega, rfl, hb⟩
    · rw [if_neg h2]
      exact ⟨_, _, 3, rfl, rfl, by omega, by omega, rfl, hb⟩
theorem FIndexByte (s : List UInt8) (c : Int) (h : 0 ≤ c ∧ c < 256) (p : Nat) (H : Heap) : F 105 #[str s, .int .u8 c] p H = some (.returned (.int .i64 (Lib.indexByte s (UInt8.ofNat c.toNat))), H) := by
  rw [F, F_ext (f := 105) (X := X) rfl]
  exact exG_some _ _ (by unfold gIndexByte; exact if_pos h)
theorem indexByte_none (a : UInt8) : ∀ (l : List UInt8), (∀ b ∈ l, b ≠ a) → Lib.indexByte l a = -1
  | [], _ => rfl
  | b :: l, h => by
    unfold Lib.indexByte
    rw [if_neg (by simpa using h b (by simp)), if_pos (by rw [indexByte_none a l fun x hx => h x (by simp [hx])]; rfl)]
theorem F88 (x : Int) (p : Nat) (H : Heap) : ∃ b, F 175 #[.int .i32 x] p H = some (.returned (.bool b), H) := by
  rw [F, F_pure (f := 175) (X := X) (cl := cl) rfl rfl rfl Tryz.func175 rfl (by simp only [go_sem]), Tryz.results175]
  simp only [go_sem]
  repeat' (generalize hz : pickB _ _ _ _ _ = z; rcases pickB_cases hz with ⟨h, rfl⟩ | ⟨h, rfl⟩ <;> clear hz <;> (try simp only [go_sem] at h) <;> simp only [go_sem, h])
  all_goals exact ⟨_, rfl⟩
theorem cv21_5Z {p : Nat} (x : Int) (h1 : 0 ≤ x) (h2 : x < 256) {H : Heap} : cvS Tryz.prog p 21 5 (.int .i32 x) H = some (.int .u8 x, H) := by
  rw [cvS_ne (by decide), conv_intInt Tryz.underlying21 Tryz.underlying5, wrap_u8 h1 h2]
theorem cv21_9Z {p : Nat} (x : Int) {H : Heap} : cvS Tryz.prog p 21 9 (.int .i32 x) H = some (.string (Utf8.encode x), H) := (cvS_ne (by decide)).trans <| conv_intStr Tryz.underlying21 Tryz.underlying9 x
theorem F70 (s : List UInt8) (hs : s.length ≤ 1000000) (ha : ∀ b ∈ s, b.toNat < 128) (x : Nat) (p : Nat) (H : Heap) : F 142 #[str s, .int .i32 x] p H = some (.returned (.int .i64 (if x < 128 then Lib.indexByte s (UInt8.ofNat x) else -1)), H) := by
  rw [F, F_pure (f := 142) (X := X) (cl := cl) rfl rfl rfl Tryz.func142 rfl (by simp only [go_sem]), Tryz.results142]
  have h0 : (0 : Int) ≤ x := by omega
  by_cases hx : x < 128
  · have hx' : (x : Int) < 128 := by omega
    rw [if_pos hx]
    simp (disch := first | omega | (simp only [go_sem]; done) | fail) only [go_sem, h0, hx', cv21_5Z, FIndexByte]
  · have hx' : ¬ (x : Int) < 128 := by omega
    rw [if_neg hx]
    by_cases he : (x : Int) = 65533
    · simp (disch := first | omega | (simp only [go_sem]; done) | fail) only [go_sem, h0, hx', he]
      generalize hL : Code.loop _ = L
      have key : ∀ (k q : Nat) (t : Nat → Value) (H : Heap), s.length < q + k → H[0]? = some (itB s q) → t 175 = .pointer (some ⟨0, 0, some 0⟩) →
          ∃ t' H', limR Tryz.prog cl X L 0 ⟨t, [], H⟩ = some (.exit 9, ⟨t', [], H'⟩) := by
        intro k
        induction k with
        | zero =>
          intro q t H hq hH h175
          rw [← hL, E_loop, hL]
          have hlt : ¬ q < s.length := by omega
          simp only [go_sem, hH, hlt, h175]
          exact ⟨_, _, rfl⟩
        | succ k ih =>
          intro q t H hq hH h175
          rw [← hL, E_loop, hL]
          have hAl := (List.getElem?_eq_some_iff.1 hH).1
          by_cases hlt : q < s.length
          · have hb := ha _ (List.getElem_mem hlt)
            have hd := dec_ascii (List.getElem?_eq_getElem hlt) hb
            have hne : ¬ ((s[q].toNat : Int) = 65533) := by omega
            simp (disch := first | omega | (simp only [go_sem]; done) | fail) only [go_sem, hH, hlt, h175, hd, hne]
            generalize hT : upd _ 181 _ = T
            exact ih (q + 1) T _ (by omega) (List.getElem?_set_self hAl) (by rw [← hT]; simp only [go_sem, h175])
          · simp only [go_sem, hH, hlt, h175]
            exact ⟨_, _, rfl⟩
      generalize hT : upd _ 175 _ = T
      obtain ⟨t', H', k1⟩ := key (s.length + 1) 0 T [itB s 0] (by omega) rfl (by rw [← hT]; simp only [go_sem])
      rw [k1]
      simp only [go_sem]
    · obtain ⟨b, h88⟩ := F88 x 0 []
      cases b with
      | false => simp (disch := first | omega | (simp only [go_sem]; done) | fail) only [go_sem, h0, hx', he, h88]
      | true =>
        obtain ⟨es, a, m, e1, e2, e3, e4, e5, e6⟩ := enc_high x (by omega)
        have e2' : ((es.length : Int) - 1) = (m : Nat) := by omega
        simp (disch := first | omega | (simp only [go_sem]; done) | fail) only [go_sem, h0, hx', he, h88]
        rw [E_scopeR]
        simp (disch := first | omega | (simp only [go_sem]; done) | fail) only [go_sem, cv21_9Z, e1, bin_sub, e2']
        rw [E_loop]
        by_cases hm : m < s.length
        · have hm' : (m : Int) < s.length := by omega
          have hs1 : s[((m : Nat) : Int).toNat]? = some s[m] := by rw [Int.toNat_natCast]; exact List.getElem?_eq_getElem hm
          have hs2 : es[((m : Nat) : Int).toNat]? = some a := by rw [Int.toNat_natCast]; exact e5
          have hbm := ha _ (List.getElem_mem hm)
          have hne : ¬ ((s[m].toNat : Int) = a.toNat) := by omega
          have hc := a.toNat_lt
          have hmm : ((m : Int) + 1).toNat = m + 1 := by omega
          have hio : Lib.indexByte (s.drop (m + 1)) (UInt8.ofNat a.toNat) = -1 := indexByte_none _ _ fun b hb => by
            intro he
            have := ha b (List.mem_of_mem_drop hb)
            rw [he, UInt8.ofNat_toNat] at this
            omega
          have i1 := ix9 (l := s) (by omega) hs1
          have i2 := ix9 (l := es) (by omega) hs2
          simp (disch := first | omega | (simp only [go_sem]; done) | fail) only [go_sem, hm', i1, i2, hne, bin_add, FIndexByte, hmm, hio, E_scopeR]
        · have hm' : ¬ (m : Int) < s.length := by omega
          simp (disch := first | omega | (simp only [go_sem]; done) | fail) only [go_sem, hm', E_scopeR]
theorem letters_tab : ∀ n : Fin 128, decide (0 ≤ Lib.indexByte lettersL (UInt8.ofNat n.val)) = letterI n.val := by decide +kernel
theorem F41 (x : Nat) (p : Nat) (H : Heap) : F 154 #[str lettersL, .int .i32 x] p H = some (.returned (.bool (letterI x)), H) := by
  rw [F, F_pure (f := 154) (X := X) (cl := cl) rfl rfl rfl Tryz.func154 rfl (by simp only [go_sem]), Tryz.results154]
  have h70 := F70 lettersL (by decide) letters_ascii x
  by_cases hx : x < 128
  · have := letters_tab ⟨x, hx⟩
    simp only at this
    simp only [go_sem, h70, hx, this]
  · have : letterI x = false := by unfold letterI; simp; omega
    simp only [go_sem, h70, hx, this]
theorem F40 (x : Nat) (p : Nat) (H : Heap) : F 153 #[.int .i32 x] p H = some (.returned (.int .i32 (dropL x)), H) := by
  rw [F, F_pure (f := 153) (X := X) (cl := cl) rfl rfl rfl Tryz.func153 rfl (by simp only [go_sem]), Tryz.results153]
  have h41 := F41 x
  simp only [lettersL] at h41
  unfold dropL
  cases hq : letterI x with
  | true => simp only [go_sem, h41, hq]
  | false => simp only [go_sem, h41, hq]
theorem F76 (n : Int) (p : Nat) (H : Heap) : F 143 #[.int .i64 n] p H = some (.returned (.bool (decide (8 < n))), H) := by
  rw [F, F_pure (f := 143) (X := X) (cl := cl) rfl rfl rfl Tryz.func143 rfl (by simp only [go_sem]), Tryz.results143]
  simp only [go_sem]
def setA : List Value := ((List.replicate 256 (Value.bool false)).set 44 (.bool true)).set 47 (.bool true)
theorem setA_len : setA.length = 256 := by simp [setA]
theorem setA_at (i : Nat) (h : i < 256) : setA[i]? = some (.bool (decide (i = 44 ∨ i = 47))) := by
  unfold setA
  by_cases h1 : i = 47
  · subst h1; simp
  · rw [List.getElem?_set_ne (by omega)]
    by_cases h2 : i = 44
    · subst h2; simp
    · rw [List.getElem?_set_ne (by omega), List.getElem?_replicate, if_pos h]
      simp [h1, h2]
theorem setA_mem (v : Value) (h : v ∈ setA) : ∃ b, v = .bool b := by
  obtain ⟨i, hi, rfl⟩ := List.getElem_of_mem h
  have := setA_at i (by rw [← setA_len]; exact hi)
  rw [List.getElem?_eq_getElem hi] at this
  exact ⟨_, Option.some.inj this⟩
theorem setA_one : setA.all oneC = true := by
  rw [List.all_eq_true]
  intro v h
  obtain ⟨b, rfl⟩ := setA_mem v h
  rfl
theorem setA_flat : setA.all flat = true := by
  rw [List.all_eq_true]
  intro v h
  obtain ⟨b, rfl⟩ := setA_mem v h
  rfl
theorem al88Z : allocC Tryz.prog 176 = some (List.replicate 256 (Value.bool false)).toArray := by kernel_rfl
theorem ia88Z (A off n : Nat) (k : IntKind) (i : Int) (h : 0 ≤ i ∧ i < 256) : idxA Tryz.prog 176 (.pointer (some ⟨A, off, some n⟩)) (.int k i) = some (.pointer (some ⟨A, off + i.toNat, some n⟩)) := by
  rw [ia_arr Tryz.underlying176 sz4 A off n i h, Nat.mul_one]
theorem st88Z (H : Heap) (p A off n : Nat) (cs : Array Value) (hx : cs.toList.all oneC = true) (hl : cs.size = 256) : stA Tryz.prog H p 176 (.pointer (some ⟨A, off, some n⟩)) (.agg cs) = put H p A off n H[A]? cs.toList := st_agg sz176 A off n cs hx hl
theorem F77 (p : Nat) (H : Heap) : F 144 #[str [44, 47]] p H = some (.returned (.tuple #[.agg setA.toArray, .bool true]), H) := by
  rw [F, F_pure (f := 144) (X := X) (cl := cl) rfl rfl rfl Tryz.func144 rfl (by simp only [go_sem]), Tryz.results144]
  have hal := al88Z
  have hz : (List.replicate 256 (Value.bool false)).length = 256 := by simp
  have hz2 : ((List.replicate 256 (Value.bool false)).set 44 (.bool true)).length = 256 := by simp
  have hs : ((List.replicate 256 (Value.bool false)).set 44 (.bool true)).set 47 (.bool true) = setA := rfl
  generalize (List.replicate 256 (Value.bool false)) = z at *
  have he : setA.extract 0 256 = setA := by
    rw [List.extract_eq_take_drop, List.drop_zero, Nat.sub_zero, List.take_of_length_le (by rw [setA_len]; omega)]
  have i1 : idxV Tryz.prog 9 (str [44, 47]) (.int .i64 0) = some (.int .u8 44) := (ix9 (l := [44, 47]) (n := 0) (b := 44) (by omega) rfl).trans rfl
  have i2 : idxV Tryz.prog 9 (str [44, 47]) (.int .i64 1) = some (.int .u8 47) := (ix9 (l := [44, 47]) (n := 1) (b := 47) (by omega) rfl).trans rfl
  have he' : (z.set 44 (Value.bool true)).set 47 (Value.bool true) = setA := hs
  simp (disch := first | omega | exact setA_one | (simp only [go_sem]; done) | (simp only [List.size_toArray, List.length_set, setA_len]; omega)) only [go_sem, hal, i1, i2, bin_add, hz, ia88Z, putAll_one, he']
  have pd : putAll setA.toArray 0 setA = setA.toArray := putAll_drop setA setA 0 rfl
  have sl := setA_len
  have so := setA_one
  have sf := setA_flat
  generalize setA = z2 at *
  have ht : z2.take 256 = z2 := List.take_of_length_le (by omega)
  rw [E_loop]
  simp (disch := first | omega | assumption | (simp only [go_sem]; done) | (simp only [List.size_toArray, List.length_set, List.length_cons, List.length_nil, hz, sl, true_and, and_true, Nat.le_refl, Nat.zero_le, Nat.reduceAdd, Nat.reduceLeDiff]; done) | (simp only [List.size_toArray, List.length_set, List.length_cons, List.length_nil, hz, sl, true_and, and_true, Nat.le_refl, Nat.zero_le, Nat.reduceAdd, Nat.reduceLeDiff]; omega)) only [go_sem, hal, i1, i2, bin_add, hz, ia88Z, putAll_one, he']
  rw [E_loop]
  simp (disch := first | omega | assumption | (simp only [go_sem]; done) | (simp only [List.size_toArray, List.length_set, List.length_cons, List.length_nil, hz, sl, true_and, and_true, Nat.le_refl, Nat.zero_le, Nat.reduceAdd, Nat.reduceLeDiff]; done) | (simp only [List.size_toArray, List.length_set, List.length_cons, List.length_nil, hz, sl, true_and, and_true, Nat.le_refl, Nat.zero_le, Nat.reduceAdd, Nat.reduceLeDiff]; omega)) only [go_sem, hal, i1, i2, bin_add, hz, ia88Z, putAll_one, he']
  rw [E_loop]
  simp (disch := first | omega | assumption | (simp only [go_sem]; done) | (simp only [List.size_toArray, List.length_set, List.length_cons, List.length_nil, hz, sl, true_and, and_true, Nat.le_refl, Nat.zero_le, Nat.reduceAdd, Nat.reduceLeDiff]; done) | (simp only [List.size_toArray, List.length_set, List.length_cons, List.length_nil, hz, sl, true_and, and_true, Nat.le_refl, Nat.zero_le, Nat.reduceAdd, Nat.reduceLeDiff]; omega)) only [go_sem, hal, i1, i2, bin_add, hz, ia88Z, putAll_one, he', he, ht, st88Z, pd, sf]
  have hg : ground (.tuple #[.agg z2.toArray, .bool true]) = true := by simp only [go_sem, sf]
  rw [purely_ret _ _ _ hg]
theorem F78 (A off : Nat) (c : Nat) (hc : c < 256) (fl : Nat) (hfl : fl ≤ 256) (p : Nat) (H : Heap) (hH : H[A]? = some ⟨0, 176, setA.toArray, fl, false, []⟩) :
    F 145 #[.pointer (some ⟨A, 0, some 256⟩), .int .u8 c] p H = some (.returned (.bool (decide (c = 44 ∨ c = 47))), H) := by
  rw [F, F_quiet (f := 145) (X := X) (cl := cl) rfl rfl rfl Tryz.func145 rfl, Tryz.results145]
  have hs := setA_len
  have ha := setA_at c hc
  simp (disch := first | omega | (simp only [List.size_toArray, hs, Int.toNat_natCast]; omega) | (simp only [go_sem]; done) | fail) only [go_sem, nilV_some, ia88Z, hH, ha]
def anyI (s : List UInt8) : Int := match s.findIdx? (fun b => b == 44 || b == 47) with
  | some i => i
  | none => -1
def sepB (b : UInt8) : Bool := b == 44 || b == 47
theorem anyI_some {s : List UInt8} {i : Nat} (hi : i < s.length) (h1 : sepB s[i] = true) (h2 : ∀ j (hj : j < i), sepB (s[j]'(by omega)) = false) : anyI s = i := by
  have : s.findIdx? (fun b => b == 44 || b == 47) = some i := List.findIdx?_eq_some_iff_getElem.2 ⟨hi, h1, fun j hj => by have := h2 j hj; unfold sepB at this; simpa using this⟩
  unfold anyI
  rw [this]
theorem anyI_none {s : List UInt8} (h2 : ∀ j (hj : j < s.length), sepB s[j] = false) : anyI s = -1 := by
  have : s.findIdx? (fun b => b == 44 || b == 47) = none := List.findIdx?_eq_none_iff.2 fun x hx => by
    obtain ⟨j, hj, rfl⟩ := List.getElem_of_mem hx
    exact h2 j hj
  unfold anyI
  rw [this]
theorem get_of {s : List UInt8} {i : Nat} (h : i < s.length) : (ByteArray.mk s.toArray).get! i = s[i] := by
  show s.toArray[i]! = _
  rw [getElem!_pos s.toArray i (by simpa using h)]
  simp
theorem dec_spec (s : List UInt8) (pos : Nat) (h : pos < s.length) : ((dec s pos).1 < 128 → (dec s pos).1 = s[pos].toNat ∧ (dec s pos).2 = 1) ∧ (128 ≤ (dec s pos).1 → 128 ≤ s[pos].toNat) ∧ ∀ k (hk : pos + k < s.length), 1 ≤ k → k < (dec s pos).2 → 128 ≤ s[pos + k].toNat := by
  have g0 := get_of h
  have gk : ∀ k (hk : pos + k < s.length), (ByteArray.mk s.toArray).get! (pos + k) = s[pos + k] := fun k hk => get_of hk
  have hsz : (ByteArray.mk s.toArray).size = s.length := Go.ByteArray.size_mk_toArray s
  unfold dec Utf8.decode
  simp only [Nat.add_zero, g0, hsz]
  have c64 : ∀ (k : Nat) (hk : pos + k < s.length), ((ByteArray.mk s.toArray).get! (pos + k)).toNat / 64 = 2 → 128 ≤ s[pos + k].toNat := fun k hk he => by
    rw [gk k hk] at he
    omega
  by_cases h0 : s[pos].toNat < 128
  · rw [if_pos h0]
    exact ⟨fun _ => ⟨rfl, rfl⟩, fun h1 => by simp only at h1; omega, fun k hk h1 h2 => by simp only at h2; omega⟩
  · rw [if_neg h0]
    have e : ∀ (c w : Nat), 128 ≤ c → (∀ k (hk : pos + k < s.length), 1 ≤ k → k < w → 128 ≤ s[pos + k].toNat) → ((c, w).1 < 128 → (c, w).1 = s[pos].toNat ∧ (c, w).2 = 1) ∧ (128 ≤ (c, w).1 → 128 ≤ s[pos].toNat) ∧ ∀ k (hk : pos + k < s.length), 1 ≤ k → k < (c, w).2 → 128 ≤ s[pos + k].toNat := fun c w hc hw => ⟨fun h1 => by simp only at h1; omega, fun _ => by omega, hw⟩
    have e1 : 128 ≤ Utf8.runeError := by decide
    split
    · rename_i h1
      simp only [Bool.and_eq_true, decide_eq_true_eq, beq_iff_eq] at h1
      split
      · rename_i h2
        exact e _ _ (by omega) fun k hk k1 k2 => by
          obtain rfl : k = 1 := by omega
          exact c64 1 hk h1.2.2
      · exact e _ _ e1 fun k hk k1 k2 => by omega
    · split
      · rename_i h1
        simp only [Bool.and_eq_true, decide_eq_true_eq, beq_iff_eq] at h1
        split
        · rename_i h2
          simp only [Bool.and_eq_true, decide_eq_true_eq] at h2
          exact e _ _ (by omega) fun k hk k1 k2 => by
            have : k = 1 ∨ k = 2 := by omega
            rcases this with rfl | rfl
            · exact c64 1 hk h1.1.2.2
            · exact c64 2 hk h1.2.2
        · exact e _ _ e1 fun k hk k1 k2 => by omega
      · split
        · rename_i h1
          simp only [Bool.and_eq_true, decide_eq_true_eq, beq_iff_eq] at h1
          split
          · rename_i h2
            simp only [Bool.and_eq_true, decide_eq_true_eq] at h2
            exact e _ _ (by omega) fun k hk k1 k2 => by
              have : k = 1 ∨ k = 2 ∨ k = 3 := by omega
              rcases this with rfl | rfl | rfl
              · exact c64 1 hk h1.1.1.2.2
              · exact c64 2 hk h1.1.2.2
              · exact c64 3 hk h1.2.2
          · exact e _ _ e1 fun k hk k1 k2 => by omega
        · exact e _ _ e1 fun k hk k1 k2 => by omega
theorem F54 (s : List UInt8) (hs : s.length ≤ 1000000) (p : Nat) (H : Heap) : F 111 #[str s, str [44, 47]] p H = some (.returned (.int .i64 (anyI s)), H) := by
  rw [F, F_pure (f := 111) (X := X) (cl := cl) rfl rfl rfl Tryz.func111 rfl (by simp only [go_sem]), Tryz.results111]
  have m1 : (([44, 47] : List UInt8) = []) = False := by simp
  by_cases h8 : (8 : Int) < s.length
  · have hal := al88Z
    have hz : (List.replicate 256 (Value.bool false)).length = 256 := by simp
    generalize (List.replicate 256 (Value.bool false)) = z at *
    have sl := setA_len
    have hpa : putAll z.toArray 0 setA = setA.toArray := by rw [putAll_over setA z 0 (by omega)]; simp
    simp (disch := first | omega | exact setA_one | (simp only [go_sem]; done) | (simp only [List.size_toArray, hz, sl]; done) | (simp only [List.size_toArray, hz, sl, true_and, and_true]; omega)) only [go_sem, m1, F76, h8, F77, hal, hz, st88Z, hpa, sl]
    generalize hL : Code.loop (.seq (.seq (.region 12 _ _) _) _) = L
    generalize hHH : ([⟨0, 176, setA.toArray, 256, false, []⟩] : Heap) = HH
    have hH0 : HH[0]? = some ⟨0, 176, setA.toArray, 256, false, []⟩ := by rw [← hHH]; rfl
    have key : ∀ (k i : Nat) (t : Nat → Value), i + k = s.length → (∀ j (hj : j < s.length), j < i → sepB s[j] = false) → t 0 = str s → t 6 = .pointer (some ⟨0, 0, some 256⟩) → t 8 = .int .i64 i →
        ∃ e t', limR Tryz.prog cl X L 0 ⟨t, [], HH⟩ = some (e, ⟨t', [], HH⟩) ∧ ((e = .exit 0 ∧ anyI s = -1) ∨ (e = .ret ∧ t' 4 = .int .i64 (anyI s))) := by
      intro k
      induction k with
      | zero =>
        intro i t hi hn h0 h6 h8
        rw [← hL, E_loop, hL]
        have hlt : ¬ (i : Int) < s.length := by omega
        simp only [go_sem, h0, h6, h8, hlt]
        exact ⟨_, _, rfl, .inl ⟨rfl, anyI_none fun j hj => hn j hj (by omega)⟩⟩
      | succ k ih =>
        intro i t hi hn h0 h6 h8
        rw [← hL, E_loop, hL]
        have hil : i < s.length := by omega
        have hlt : (i : Int) < s.length := by omega
        have i1 : idxV Tryz.prog 9 (str s) (.int .i64 i) = some (.int .u8 s[i].toNat) := ix9 (by omega) (by rw [Int.toNat_natCast]; exact List.getElem?_eq_getElem hil)
        have f78 := F78 0 0 s[i].toNat s[i].toNat_lt 256 (Nat.le_refl _) 0 HH hH0
        have hsep : (s[i].toNat = 44 ∨ s[i].toNat = 47) ↔ sepB s[i] = true := by
          unfold sepB
          simp only [Bool.or_eq_true, beq_iff_eq, ← UInt8.toNat_inj]
          rfl
        by_cases hq : (s[i].toNat = 44 ∨ s[i].toNat = 47)
        · simp (disch := first | omega | (simp only [go_sem]; done) | fail) only [go_sem, h0, h6, h8, hlt, i1, f78, hq, bin_add]
          refine ⟨_, _, rfl, .inr ⟨rfl, ?_⟩⟩
          rw [anyI_some hil (hsep.1 hq) fun j hj => hn j _ hj]
          simp only [go_sem, h8]
        · simp (disch := first | omega | (simp only [go_sem]; done) | fail) only [go_sem, h0, h6, h8, hlt, i1, f78, hq, bin_add]
          generalize hT : upd _ 8 _ = T
          refine ih (i + 1) T (by omega) (fun j hj hji => ?_) (by rw [← hT]; simp only [go_sem, h0]) (by rw [← hT]; simp only [go_sem, h6]) (by rw [← hT]; simp only [go_sem] <;> rfl)
          rcases Nat.lt_or_ge j i with h1 | h1
          · exact hn j hj h1
          · obtain rfl : j = i := by omega
            exact Bool.eq_false_iff.2 fun h => hq (hsep.2 h)
    generalize hT : upd _ 8 _ = T
    obtain ⟨e, t', k1, k2⟩ := key s.length 0 T (by omega) (fun j _ h => by omega) (by rw [← hT]; simp only [go_sem]) (by rw [← hT]; simp only [go_sem]) (by rw [← hT]; simp only [go_sem] <;> rfl)
    rw [k1]
    rcases k2 with ⟨rfl, k2⟩ | ⟨rfl, k2⟩
    · simp only [go_sem, k2]
    · simp only [go_sem, k2]
  · simp (disch := first | omega | (simp only [go_sem]; done) | fail) only [go_sem, m1, F76, h8]
    generalize hL : Code.loop _ = L
    have key : ∀ (k q : Nat) (t : Nat → Value) (H : Heap), s.length < q + k → (∀ j (hj : j < s.length), j < q → sepB s[j] = false) → H[0]? = some (itB s q) → t 1 = str [44, 47] → t 45 = .pointer (some ⟨0, 0, some 0⟩) →
        ∃ e t' H', limR Tryz.prog cl X L 0 ⟨t, [], H⟩ = some (e, ⟨t', [], H'⟩) ∧ ((e = .exit 2 ∧ anyI s = -1) ∨ (e = .ret ∧ t' 4 = .int .i64 (anyI s))) := by
      intro k
      induction k with
      | zero =>
        intro q t H hq hn hH h1 h45
        rw [← hL, E_loop, hL]
        have hlt : ¬ q < s.length := by omega
        simp only [go_sem, hH, hlt, h45]
        exact ⟨_, _, _, rfl, .inl ⟨rfl, anyI_none fun j hj => hn j hj (by omega)⟩⟩
      | succ k ih =>
        intro q t H hq hn hH h1 h45
        rw [← hL, E_loop, hL]
        have hAl := (List.getElem?_eq_some_iff.1 hH).1
        by_cases hlt : q < s.length
        · obtain ⟨d1, d2, d3⟩ := dec_spec s q hlt
          have d4 := dec_width s q
          have h70 := F70 [44, 47] (by decide) (by decide) (dec s q).1 0
          have tab : ∀ n : Fin 128, decide (0 ≤ Lib.indexByte [44, 47] (UInt8.ofNat n.val)) = decide (n.val = 44 ∨ n.val = 47) := by decide +kernel
          have hres : decide ((0 : Int) ≤ (if (dec s q).1 < 128 then Lib.indexByte [44, 47] (UInt8.ofNat (dec s q).1) else -1)) = sepB s[q] := by
            by_cases hc : (dec s q).1 < 128
            · rw [if_pos hc, tab ⟨(dec s q).1, hc⟩, Bool.eq_iff_iff]
              unfold sepB
              simp only [decide_eq_true_eq, Bool.or_eq_true, beq_iff_eq, ← UInt8.toNat_inj, (d1 hc).1]
              rfl
            · rw [if_neg hc]
              have := d2 (by omega)
              symm
              have hb : sepB s[q] = false := by
                unfold sepB
                rw [Bool.or_eq_false_iff]
                constructor <;> (rw [beq_eq_false_iff_ne]; intro h; rw [h] at this; revert this; decide)
              rw [hb]; rfl
          generalize hcw : dec s q = cw at *
          obtain ⟨c, wd⟩ := cw
          simp only at d1 d2 d3 d4 h70 hres
          generalize (if c < 128 then Lib.indexByte [44, 47] (UInt8.ofNat c) else -1) = r at *
          cases hq2 : sepB s[q] with
          | true =>
            rw [hq2] at hres
            have hr : (0 : Int) ≤ r := of_decide_eq_true hres
            simp (disch := first | omega | (simp only [go_sem]; done) | fail) only [go_sem, hH, hlt, h45, h1, hcw, h70, hr]
            refine ⟨_, _, _, rfl, .inr ⟨rfl, ?_⟩⟩
            rw [anyI_some hlt hq2 fun j hj => hn j _ hj]
            simp only [go_sem]
          | false =>
            rw [hq2] at hres
            have hr : ¬ (0 : Int) ≤ r := of_decide_eq_false hres
            simp (disch := first | omega | (simp only [go_sem]; done) | fail) only [go_sem, hH, hlt, h45, h1, hcw, h70, hr]
            generalize hT : upd _ 53 _ = T
            refine ih (q + wd) T _ (by omega) (fun j hj hji => ?_) (List.getElem?_set_self hAl) (by rw [← hT]; simp only [go_sem, h1]) (by rw [← hT]; simp only [go_sem, h45])
            rcases Nat.lt_or_ge j q with h1 | h1
            · exact hn j hj h1
            · by_cases h2 : j = q
              · subst h2; exact hq2
              · have := d3 (j - q) (by omega) (by omega) (by omega)
                have ej : q + (j - q) = j := by omega
                simp only [ej] at this
                unfold sepB
                rw [Bool.or_eq_false_iff]
                constructor <;> (rw [beq_eq_false_iff_ne]; intro h; rw [h] at this; revert this; decide)
        · simp only [go_sem, hH, hlt, h45]
          exact ⟨_, _, _, rfl, .inl ⟨rfl, anyI_none fun j hj => hn j hj (by omega)⟩⟩
    generalize hT : upd _ 45 _ = T
    obtain ⟨e, t', H', k1, k2⟩ := key (s.length + 1) 0 T [itB s 0] (by omega) (fun j _ h => by omega) rfl (by rw [← hT]; simp only [go_sem]) (by rw [← hT]; simp only [go_sem])
    rw [k1]
    rcases k2 with ⟨rfl, k2⟩ | ⟨rfl, k2⟩
    · simp only [go_sem, k2]
    · simp only [go_sem, k2]
theorem F55 (s : List UInt8) (hs : s.length ≤ 1000000) (p : Nat) (H : Heap) : F 112 #[str s] p H = some (.returned (.int .i64 (atoiV s)), H) := by
  rw [F, F_pure (f := 112) (X := X) (cl := cl) rfl rfl rfl Tryz.func112 rfl (by simp only [go_sem]), Tryz.results112]
  simp (disch := first | omega | (simp only [go_sem]; done) | fail) only [go_sem, FAtoi]
theorem cl55 : cl 112 = 1 := (rfl)
theorem st23Z (H : Heap) (p A off n : Nat) (cs : Array Value) (hx : cs.toList.all oneC = true) (hl : cs.size = 5) : stA Tryz.prog H p 56 (.pointer (some ⟨A, off, some n⟩)) (.agg cs) = put H p A off n H[A]? cs.toList := st_agg sz56 A off n cs hx hl
theorem st25Z (H : Heap) (p A off n : Nat) (cs : Array Value) (hx : cs.toList.all oneC = true) (hl : cs.size = 15) : stA Tryz.prog H p 58 (.pointer (some ⟨A, off, some n⟩)) (.agg cs) = put H p A off n H[A]? cs.toList := st_agg sz58 A off n cs hx hl
attribute [go_sem] cl55 st23Z st25Z
def ruleOf (d : List UInt8) : RuleL :=
  if ([74] : List UInt8).isPrefixOf d = true then ⟨0, 0, 0, atoiV (d.drop 1), 7200⟩
  else match ([77] : List UInt8).isPrefixOf d, pieces 46 (if ([77] : List UInt8).isPrefixOf d = true then d.drop 1 else d) with
    | true, [a, b, c] => ⟨2, atoiV a, atoiV b, atoiV c, 7200⟩
    | _, _ => ⟨1, 0, 0, atoiV d, 7200⟩
def atOf (r : RuleL) (rest : List UInt8) : RuleL × List UInt8 :=
  if ([47] : List UInt8).isPrefixOf rest = true then ({ r with at_ := (takeTimeL (rest.drop 1)).1 }, (takeTimeL (rest.drop 1)).2) else (r, rest)
def takeRule1 (s : List UInt8) : RuleL × List UInt8 :=
  if 0 ≤ anyI s then atOf (ruleOf (s.take (anyI s).toNat)) (s.drop (anyI s).toNat) else (ruleOf s, [])
def takeRuleL (s : List UInt8) : RuleL × List UInt8 := takeRule1 (if ([44] : List UInt8).isPrefixOf s = true then s.drop 1 else s)
theorem anyI_lt (s : List UInt8) (h : 0 ≤ anyI s) : anyI s < s.length := by
  unfold anyI at *
  cases hi : s.findIdx? (fun b => b == 44 || b == 47) with
  | none => rw [hi] at h; simp only at h; omega
  | some i =>
    simp only
    have := (List.findIdx?_eq_some_iff_getElem.1 hi).1
    omega
theorem pieces_three (d : List UInt8) : (∃ a b c, pieces 46 d = [a, b, c] ∧ d.count 46 = 2) ∨ (¬ (((d.count 46 + 1 : Nat) : Int) = 3) ∧ ∀ a b c, pieces 46 d ≠ [a, b, c]) := by
  have hl := pieces_len 46 d
  match h : pieces 46 d, hl with
  | [], hl => simp at hl
  | [a], hl => exact .inr ⟨by simp at hl; omega, fun _ _ _ h => by simp at h⟩
  | [a, b], hl => exact .inr ⟨by simp at hl; omega, fun _ _ _ h => by simp at h⟩
  | [a, b, c], hl => exact .inl ⟨a, b, c, rfl, by simp at hl; omega⟩
  | a :: b :: c :: e :: r, hl => exact .inr ⟨by simp at hl; omega, fun _ _ _ h => by simp at h⟩
theorem atoi_len {d : List UInt8} (hd : d.length ≤ 1000) {a : List UInt8} (h : a ∈ pieces 46 d) : a.length ≤ 1000000 := by
  have := piecesN_le 46 _ d a h
  omega
set_option maxHeartbeats 1000000 in
theorem F33 (s : List UInt8) (hs : s.length ≤ 1000) (p : Nat) (H : Heap) : F 79 #[str s] p H = some (.returned (.tuple #[(takeRuleL s).1.v, str (takeRuleL s).2]), H) := by
  rw [F, F_pure (f := 79) (X := X) (cl := cl) rfl rfl rfl Tryz.func79 rfl (by simp only [go_sem]), Tryz.results79]
  rw [takeRuleL]
  have hl : (if ([44] : List UInt8).isPrefixOf s = true then s.drop 1 else s).length ≤ 1000 := by
    split
    · simp; omega
    · omega
  have h53 := F53 s [44]
  simp only [List.length_cons, List.length_nil, Nat.zero_add] at h53
  generalize (if ([44] : List UInt8).isPrefixOf s = true then s.drop 1 else s) = q at *
  have h54 := F54 q (by omega)
  by_cases hi : 0 ≤ anyI q
  case' pos =>
    have hlt := anyI_lt q hi
    have hb : (q.take (anyI q).toNat).length ≤ 1000 := by simp; omega
    rw [takeRule1, if_pos hi]
    have hb2 : (q.drop (anyI q).toNat).length ≤ 1000 := by simp; omega
    simp (disch := first | omega | (simp only [go_sem]; done) | fail) only [go_sem, h53, h54, hi]
    generalize q.take (anyI q).toNat = d at *
    generalize q.drop (anyI q).toNat = rest at *
    have hb3 : (rest.drop 1).length ≤ 1000 := by simp; omega
    have hrest := hb3
  case' neg =>
    rw [takeRule1, if_neg hi]
    simp (disch := first | omega | (simp only [go_sem]; done) | fail) only [go_sem, h53, h54, hi]
    have hb := hl
    generalize q = d at *
    obtain ⟨rest, hrest⟩ : ∃ rest : List UInt8, rest = [] := ⟨_, rfl⟩
    have hb3 : (rest.drop 1).length ≤ 1000 := by subst hrest; simp
    have hS' : ([47] : List UInt8).isPrefixOf rest = false := by subst hrest; rfl
  all_goals
    have hd1 : (d.drop 1).length ≤ 1000 := by simp; omega
    have hS0 : ([47] : List UInt8).isPrefixOf ([] : List UInt8) = false := rfl
    have h31 := F31 (rest.drop 1) hb3
    have h55a := F55 d (by omega)
    have h55b := F55 (d.drop 1) (by omega)
    have h57a := F57 d 46 (by omega)
    have h57b := F57 (d.drop 1) 46 (by omega)
    cases hJ : ([74] : List UInt8).isPrefixOf d with
    | true =>
      have hr : ruleOf d = ⟨0, 0, 0, atoiV (d.drop 1), 7200⟩ := by rw [ruleOf, if_pos hJ]
      have hdl : 1 ≤ d.length := by
        cases d with
        | nil => cases hJ
        | cons a l => simp
      cases hM : ([77] : List UInt8).isPrefixOf d <;> cases hS : ([47] : List UInt8).isPrefixOf rest <;>
        first | (exfalso; rw [hS'] at hS; cases hS; done) | simp (disch := first | omega | (simp only [go_sem]; done) | fail) only [go_sem, hS0, hrest, hJ, hM, hS, h57a, h57b, h55a, h55b, h31, hr, atOf]
    | false =>
      cases hM : ([77] : List UInt8).isPrefixOf d with
      | false =>
        have hr : ruleOf d = ⟨1, 0, 0, atoiV d, 7200⟩ := by rw [ruleOf, if_neg (by simp [hJ])]; simp only [hM]
        cases hS : ([47] : List UInt8).isPrefixOf rest <;>
          first | (exfalso; rw [hS'] at hS; cases hS; done) | simp (disch := first | omega | (simp only [go_sem]; done) | fail) only [go_sem, hS0, hrest, hJ, hM, hS, h57a, h57b, h55a, h55b, h31, hr, atOf]
      | true =>
        rcases pieces_three (d.drop 1) with ⟨a, b, c, hp, hc⟩ | ⟨hc, hp⟩
        · have hr : ruleOf d = ⟨2, atoiV a, atoiV b, atoiV c, 7200⟩ := by rw [ruleOf, if_neg (by simp [hJ])]; simp only [hM, if_true, hp]
          have ha := F55 a (atoi_len hd1 (by rw [hp]; simp))
          have hb' := F55 b (atoi_len hd1 (by rw [hp]; simp))
          have hc' := F55 c (atoi_len hd1 (by rw [hp]; simp))
          cases hS : ([47] : List UInt8).isPrefixOf rest <;>
            first | (exfalso; rw [hS'] at hS; cases hS; done) | simp (disch := first | omega | (simp only [go_sem]; done) | fail) only [go_sem, hS0, hrest, hJ, hM, hS, h57a, h57b, ha, hb', hc', h31, hr, atOf, hp, hc]
        · have hr : ruleOf d = ⟨1, 0, 0, atoiV d, 7200⟩ := by
            rw [ruleOf, if_neg (by simp [hJ])]
            simp only [hM, if_true]
            split
            · rename_i h; exact absurd h (hp _ _ _)
            · rfl
          cases hS : ([47] : List UInt8).isPrefixOf rest <;>
            first | (exfalso; rw [hS'] at hS; cases hS; done) | simp (disch := first | omega | (simp only [go_sem]; done) | fail) only [go_sem, hS0, hrest, hJ, hM, hS, h57a, h57b, h55a, h55b, h31, hr, atOf, hc]
theorem valGo_bound : ∀ (ps : List (List UInt8)) (n u m : Int), valGo ps n u = some m → 0 ≤ n → 0 ≤ u → u ≤ 3600 → 0 ≤ m ∧ m ≤ n + 2177276400 * (ps.length : Int)
  | [], n, u, m, h, h1, h2, h3 => by
    rw [valGo] at h
    injection h with h
    subst h
    simp; omega
  | p :: ps, n, u, m, h, h1, h2, h3 => by
    rw [valGo] at h
    split at h
    · cases h
    · rename_i hq
      have x1 : 0 ≤ atoiV p * u := Int.mul_nonneg (by omega) h2
      have x2 : atoiV p * u ≤ 2177276400 := by
        have := Int.mul_le_mul (show atoiV p ≤ 604799 by omega) h3 h2 (by omega)
        omega
      have := valGo_bound ps _ _ m h (by omega) (by omega) (by omega)
      simp only [List.length_cons]
      omega
theorem val1_bound (sg : Int) (hsg : sg = 1 ∨ sg = -1) (s : List UInt8) (hs : s.length ≤ 1000) : -10000000000000 ≤ val1 sg s ∧ val1 sg s ≤ 10000000000000 := by
  unfold val1
  split
  · omega
  · rename_i n hn
    have := valGo_bound _ _ _ _ hn (by omega) (by omega) (by omega)
    have h1 := pieces_len 58 s
    have h2 : s.count 58 ≤ s.length := List.count_le_length
    rcases hsg with rfl | rfl <;> omega
theorem valueL_bound (s : List UInt8) (hs : s.length ≤ 1000) : -10000000000000 ≤ valueL s ∧ valueL s ≤ 10000000000000 := by
  unfold valueL
  split
  · exact val1_bound _ (.inr rfl) _ (by simp; omega)
  · exact val1_bound _ (.inl rfl) _ hs
theorem takeTime_bound (s : List UInt8) (hs : s.length ≤ 1000) : -10000000000000 ≤ (takeTimeL s).1 ∧ (takeTimeL s).1 ≤ 10000000000000 ∧ (takeTimeL s).2.length ≤ s.length := by
  have := valueL_bound (pre timeSet s) (by unfold pre; simp; omega)
  exact ⟨this.1, this.2, cutL_len _ _⟩
theorem takeName_bound (s : List UInt8) : (takeNameL s).1.length ≤ s.length ∧ (takeNameL s).2.length ≤ s.length := by
  unfold takeNameL
  split
  · split
    · simp; omega
    · simp
  · exact ⟨by unfold pre; rw [List.length_take]; omega, cutL_len _ _⟩
theorem atOf_bound (r : RuleL) (s : List UInt8) (hs : s.length ≤ 1000) : (atOf r s).2.length ≤ s.length := by
  unfold atOf
  split
  · have := (takeTime_bound (s.drop 1) (by simp; omega)).2.2
    simp at this ⊢
    omega
  · exact Nat.le_refl _
theorem takeRule_bound (s : List UInt8) (hs : s.length ≤ 1000) : (takeRuleL s).2.length ≤ s.length := by
  have key : ∀ q : List UInt8, q.length ≤ 1000 → (takeRule1 q).2.length ≤ q.length := fun q hq => by
    unfold takeRule1
    split
    · have := atOf_bound (ruleOf (q.take (anyI q).toNat)) (q.drop (anyI q).toNat) (by simp; omega)
      simp at this ⊢
      omega
    · simp
  unfold takeRuleL
  split
  · have := key (s.drop 1) (by simp; omega)
    rw [List.length_drop] at this
    omega
  · exact key s hs
def aheadOf (off : Int) (l : List UInt8) : Int × List UInt8 := if ([44] : List UInt8).isPrefixOf l = true then (off + 3600, l) else (-(takeTimeL l).1, (takeTimeL l).2)
def looseL (s : List UInt8) : ZoneL :=
  let a := takeNameL s
  let b := takeTimeL a.2
  if b.2 = [] then ⟨a.1, -b.1, false, [], 0, .z, .z⟩
  else
    let c := takeNameL b.2
    let d := aheadOf (-b.1) c.2
    let e := takeRuleL d.2
    let f := takeRuleL e.2
    ⟨a.1, -b.1, true, c.1, d.1, e.1, f.1⟩
def zeroZ : ZoneL := ⟨[], 0, false, [], 0, .z, .z⟩
def parseL (s : List UInt8) : ZoneL × Int := if 100 < s.length then (zeroZ, 4) else if (looseL s).may = true ∧ writeL (looseL s) = s then (looseL s, 0) else (zeroZ, 2)
theorem F10' (a1 a4 : List UInt8) (a3 : Bool) (a2 a5 b1 b2 b3 b4 b5 c1 c2 c3 c4 c5 : Int) (h1 : a1.length ≤ 4611686018427387904) (h2 : a4.length ≤ 4611686018427387904) (p : Nat) (H : Heap) :
    F 80 #[.agg #[str a1, .int .i64 a2, .bool a3, str a4, .int .i64 a5, .int .i64 b1, .int .i64 b2, .int .i64 b3, .int .i64 b4, .int .i64 b5, .int .i64 c1, .int .i64 c2, .int .i64 c3, .int .i64 c4, .int .i64 c5]] p H =
      some (.returned (.tuple (if (ZoneL.mk a1 a2 a3 a4 a5 ⟨b1, b2, b3, b4, b5⟩ ⟨c1, c2, c3, c4, c5⟩).may = true then #[str (writeL ⟨a1, a2, a3, a4, a5, ⟨b1, b2, b3, b4, b5⟩, ⟨c1, c2, c3, c4, c5⟩⟩), .int .i64 0] else #[str [], .int .i64 1])), H) := F10 ⟨a1, a2, a3, a4, a5, ⟨b1, b2, b3, b4, b5⟩, ⟨c1, c2, c3, c4, c5⟩⟩ h1 h2 p H
set_option maxHeartbeats 1000000 in
theorem F14 (s : List UInt8) (hs : s.length ≤ 1000000) (p : Nat) (H : Heap) : F 43 #[str s] p H = some (.returned (.tuple #[(parseL s).1.v, .int .i64 (parseL s).2]), H) := by
  rw [F, F_pure (f := 43) (X := X) (cl := cl) rfl rfl rfl Tryz.func43 rfl (by simp only [go_sem]), Tryz.results43]
  by_cases hl : 100 < s.length
  · have hl' : (100 : Int) < s.length := by omega
    rw [parseL, if_pos hl]
    simp only [go_sem, hl', zeroZ, RuleL.z]
  · have hl' : ¬ (100 : Int) < s.length := by omega
    rw [parseL, if_neg hl]
    have n1 := takeName_bound s
    have t1 := takeTime_bound (takeNameL s).2 (by omega)
    have h30 := F30 s (by omega)
    have h31 := F31 (takeNameL s).2 (by omega)
    by_cases hb : (takeTimeL (takeNameL s).2).2 = []
    · have hz : looseL s = ⟨(takeNameL s).1, -(takeTimeL (takeNameL s).2).1, false, [], 0, ⟨0, 0, 0, 0, 0⟩, ⟨0, 0, 0, 0, 0⟩⟩ := by
        simp only [looseL, hb, if_true, RuleL.z]
      rw [hz]
      have h10 := F10' (takeNameL s).1 [] false (-(takeTimeL (takeNameL s).2).1) 0 0 0 0 0 0 0 0 0 0 0 (by omega) (by simp)
      generalize hmm : (ZoneL.mk (takeNameL s).1 (-(takeTimeL (takeNameL s).2).1) false [] 0 ⟨0, 0, 0, 0, 0⟩ ⟨0, 0, 0, 0, 0⟩) = zz at *
      cases hm : zz.may with
      | false =>
        rw [hm] at h10
        simp (disch := first | omega | (simp only [go_sem]; done) | fail) only [go_sem, hl', h30, h31, hb, un_neg, h10, false_and, zeroZ, RuleL.z]
      | true =>
        rw [hm] at h10
        by_cases hw : writeL zz = s
        · simp (disch := first | omega | (simp only [go_sem]; done) | fail) only [go_sem, hl', h30, h31, hb, un_neg, h10, false_and, zeroZ, RuleL.z, hw]
          simp only [← hmm]
        · simp (disch := first | omega | (simp only [go_sem]; done) | fail) only [go_sem, hl', h30, h31, hb, un_neg, h10, false_and, zeroZ, RuleL.z, hw]
    · have n2 := takeName_bound (takeTimeL (takeNameL s).2).2
      have h30' := F30 (takeTimeL (takeNameL s).2).2 (by omega)
      have t2 := takeTime_bound (takeNameL (takeTimeL (takeNameL s).2).2).2 (by omega)
      have h31' := F31 (takeNameL (takeTimeL (takeNameL s).2).2).2 (by omega)
      obtain ⟨ah, l4, had, hah, hl4⟩ : ∃ ah l4, aheadOf (-(takeTimeL (takeNameL s).2).1) (takeNameL (takeTimeL (takeNameL s).2).2).2 = (ah, l4) ∧ (-100000000000000 ≤ ah ∧ ah ≤ 100000000000000) ∧ l4.length ≤ 1000 := by
        refine ⟨(aheadOf (-(takeTimeL (takeNameL s).2).1) (takeNameL (takeTimeL (takeNameL s).2).2).2).1, (aheadOf (-(takeTimeL (takeNameL s).2).1) (takeNameL (takeTimeL (takeNameL s).2).2).2).2, rfl, ?_, ?_⟩
        · unfold aheadOf; split <;> simp only <;> omega
        · unfold aheadOf; split <;> simp only <;> omega
      have r1 := takeRule_bound l4 hl4
      have h33 := F33 l4 hl4
      have h33' := F33 (takeRuleL l4).2 (by omega)
      have hz : looseL s = ⟨(takeNameL s).1, -(takeTimeL (takeNameL s).2).1, true, (takeNameL (takeTimeL (takeNameL s).2).2).1, ah, ⟨(takeRuleL l4).1.k, (takeRuleL l4).1.mo, (takeRuleL l4).1.we, (takeRuleL l4).1.da, (takeRuleL l4).1.at_⟩, ⟨(takeRuleL (takeRuleL l4).2).1.k, (takeRuleL (takeRuleL l4).2).1.mo, (takeRuleL (takeRuleL l4).2).1.we, (takeRuleL (takeRuleL l4).2).1.da, (takeRuleL (takeRuleL l4).2).1.at_⟩⟩ := by
        simp only [looseL, hb, if_false, had]
      rw [hz]
      have h10 := F10' (takeNameL s).1 (takeNameL (takeTimeL (takeNameL s).2).2).1 true (-(takeTimeL (takeNameL s).2).1) ah (takeRuleL l4).1.k (takeRuleL l4).1.mo (takeRuleL l4).1.we (takeRuleL l4).1.da (takeRuleL l4).1.at_ (takeRuleL (takeRuleL l4).2).1.k (takeRuleL (takeRuleL l4).2).1.mo (takeRuleL (takeRuleL l4).2).1.we (takeRuleL (takeRuleL l4).2).1.da (takeRuleL (takeRuleL l4).2).1.at_ (by omega) (by omega)
      generalize hmm : (ZoneL.mk (takeNameL s).1 _ true _ _ _ _) = zz at *
      unfold aheadOf at had
      cases hq : ([44] : List UInt8).isPrefixOf (takeNameL (takeTimeL (takeNameL s).2).2).2 with
      | true =>
        rw [if_pos hq] at had
        injection had with had1 had2
        rw [had2] at hq
        cases hm : zz.may with
        | false =>
          rw [hm] at h10
          simp (disch := first | omega | (simp only [go_sem]; done) | fail) only [go_sem, hl', h30, h31, hb, h30', hq, un_neg, bin_add, had1, had2, h33, h33', h10, false_and, zeroZ, RuleL.z]
        | true =>
          rw [hm] at h10
          by_cases hw : writeL zz = s
          · simp (disch := first | omega | (simp only [go_sem]; done) | fail) only [go_sem, hl', h30, h31, hb, h30', hq, un_neg, bin_add, had1, had2, h33, h33', h10, false_and, zeroZ, RuleL.z, hw]
            simp only [← hmm]
          · simp (disch := first | omega | (simp only [go_sem]; done) | fail) only [go_sem, hl', h30, h31, hb, h30', hq, un_neg, bin_add, had1, had2, h33, h33', h10, false_and, zeroZ, RuleL.z, hw]
      | false =>
        rw [if_neg (by simp [hq])] at had
        injection had with had1 had2
        cases hm : zz.may with
        | false =>
          rw [hm] at h10
          simp (disch := first | omega | (simp only [go_sem]; done) | fail) only [go_sem, hl', h30, h31, hb, h30', h31', hq, un_neg, bin_add, had1, had2, h33, h33', h10, false_and, zeroZ, RuleL.z]
        | true =>
          rw [hm] at h10
          by_cases hw : writeL zz = s
          · simp (disch := first | omega | (simp only [go_sem]; done) | fail) only [go_sem, hl', h30, h31, hb, h30', h31', hq, un_neg, bin_add, had1, had2, h33, h33', h10, false_and, zeroZ, RuleL.z, hw]
            simp only [← hmm]
          · simp (disch := first | omega | (simp only [go_sem]; done) | fail) only [go_sem, hl', h30, h31, hb, h30', h31', hq, un_neg, bin_add, had1, had2, h33, h33', h10, false_and, zeroZ, RuleL.z, hw]
attribute [go_sem] nilV_some
def run (f : UInt8 → Bool) (s : List UInt8) (q : Nat) : Nat := ((s.drop q).takeWhile f).length
def Asc (l : List UInt8) : Prop := ∀ b ∈ l, b.toNat < 128
theorem Asc.app {l r : List UInt8} (h : Asc l) (k : Asc r) : Asc (l ++ r) := fun b hb => by
  rcases List.mem_append.1 hb with h1 | h1
  · exact h b h1
  · exact k b h1
theorem Asc.cons {b : UInt8} {r : List UInt8} (h : b.toNat < 128) (k : Asc r) : Asc (b :: r) := fun x hx => by
  rcases List.mem_cons.1 hx with rfl | h1
  · exact h
  · exact k x h1
theorem Asc.nil : Asc [] := fun b hb => by cases hb
theorem Asc.right {l r : List UInt8} (h : Asc (l ++ r)) : Asc r := fun b hb => h b (List.mem_append_right _ hb)
def HeadNo (f : UInt8 → Bool) (r : List UInt8) : Prop := ∀ b, r.head? = some b → f b = false
theorem HeadNo.nil {f : UInt8 → Bool} : HeadNo f [] := fun b h => by cases h
theorem HeadNo.cons {f : UInt8 → Bool} {b : UInt8} {r : List UInt8} (h : f b = false) : HeadNo f (b :: r) := fun x hx => by
  injection hx with hx; subst hx; exact h
def dg (b : UInt8) : Bool := decide (48 ≤ b.toNat ∧ b.toNat ≤ 57)
def val (n : Nat) (l : List UInt8) : Nat := l.foldl (fun n b => 10 * n + (b.toNat - 48)) n
theorem val_nil (n : Nat) : val n [] = n := by unfold val; rw [List.foldl_nil]
theorem val_cons (n : Nat) (b : UInt8) (l : List UInt8) : val n (b :: l) = val (10 * n + (b.toNat - 48)) l := by unfold val; rw [List.foldl_cons]
structure Dig (l : List UInt8) (n k : Nat) : Prop where
  all : ∀ b ∈ l, dg b = true
  val : val 0 l = n
  ne : l ≠ []
  len : l.length ≤ k
theorem parse_dig : ∀ (l : List UInt8) (acc : Nat), (∀ b ∈ l, dg b = true) → (acc + 1) * 10 ^ l.length ≤ 1000000000000000000 → Lib.parseUint10 acc l = .ok (val acc l)
  | [], acc, _, _ => by rw [Lib.parseUint10, val_nil]
  | b :: l, acc, h, hb => by
    have hd := h b (by simp)
    unfold dg at hd
    have hd := of_decide_eq_true hd
    rw [List.length_cons, Nat.pow_succ] at hb
    have hp : 1 ≤ 10 ^ l.length := Nat.one_le_pow _ _ (by omega)
    have h2 : (10 * (acc + 1)) * 10 ^ l.length ≤ 1000000000000000000 := by
      have e : (10 * (acc + 1)) * 10 ^ l.length = (acc + 1) * (10 ^ l.length * 10) := by
        rw [Nat.mul_comm 10 (acc + 1), Nat.mul_assoc, Nat.mul_comm 10]
      rw [e]; exact hb
    have h3 : 10 * (acc + 1) ≤ 1000000000000000000 := Nat.le_trans (Nat.le_mul_of_pos_right _ (by omega)) h2
    rw [Lib.parseUint10, if_pos hd, if_neg (by omega), if_neg (by omega), val_cons]
    have e1 : acc * 10 + (b.toNat - 48) = 10 * acc + (b.toNat - 48) := by omega
    rw [e1]
    refine parse_dig l _ (fun x hx => h x (List.mem_cons_of_mem _ hx)) (Nat.le_trans (Nat.mul_le_mul_right _ ?_) h2)
    omega
theorem atoi_dig {l : List UInt8} (h : ∀ b ∈ l, dg b = true) (hne : l ≠ []) (hl : l.length ≤ 6) : atoiV l = val 0 l := by
  cases l with
  | nil => exact absurd rfl hne
  | cons c r =>
    have hd := h c (by simp)
    unfold dg at hd
    have hd := of_decide_eq_true hd
    have hp : 10 ^ (c :: r).length ≤ 10 ^ 6 := Nat.pow_le_pow_right (by omega) hl
    have h6 : (10 : Nat) ^ 6 = 1000000 := by decide
    have hpar := parse_dig (c :: r) 0 h (by rw [Nat.zero_add, Nat.one_mul]; omega)
    have hlt : val 0 (c :: r) < 9223372036854775808 := by
      have key : ∀ (l : List UInt8) (acc m : Nat), (∀ b ∈ l, dg b = true) → acc < 10 ^ m → val acc l < 10 ^ (m + l.length) := by
        intro l
        induction l with
        | nil => intro acc m _ h; simpa [val_nil] using h
        | cons b l ih =>
          intro acc m h1 h2
          have hd := h1 b (by simp)
          unfold dg at hd
          have hd := of_decide_eq_true hd
          rw [val_cons, List.length_cons, show m + (l.length + 1) = m + 1 + l.length by omega]
          exact ih _ (m + 1) (fun x hx => h1 x (List.mem_cons_of_mem _ hx)) (by rw [Nat.pow_succ]; omega)
      have := key (c :: r) 0 0 h (by decide)
      rw [Nat.zero_add] at this
      omega
    unfold atoiV Lib.atoiAll
    simp only
    have n1 : ¬ (c.toNat = 43 ∨ c.toNat = 45) := by omega
    have n2 : ¬ c.toNat = 45 := by omega
    rw [if_neg n1]
    unfold Lib.parseMag
    rw [if_neg (by simp), hpar]
    simp only
    rw [if_neg (by omega), if_neg (by omega), if_neg n2]
end Go.AM.Z
