/-
  Splitting, searching and parsing of the package zone, as plain functions. No condition.
-/
import Derived.Test.YtijobfkgkopkhaaGreatDoorZa
import Derived.Test.YtijobfkgkopkhaaGreatDoorAMd
set_option linter.all false
set_option linter.unusedSimpArgs false
set_option linter.unusedVariables false
set_option linter.unusedSectionVars false
namespace Go.AM
open Go
variable {P : Program} {cl : FuncId → Nat} {fn : Fn'} {dq : Bool} {p d : Nat} {t : Nat → Value} {ds : List Deferred} {H : Heap}
def minW (P : Program) (a b : Value) : Option Value := if #[a, b].all flat = true then (pureRun P (Builtin.min_ #[] 0 #[a, b])).bind fun v => if flat v = true then some v else none else none
theorem ev_min (x y : Operand) (T T' : TypeId) : evOp fn P cl dq p (.call ⟨.builtin .min, #[x, y], #[T, T']⟩) (some d) ⟨t, ds, H⟩ = stepV t ds H d (minW P (St.eval ⟨t, ds, H⟩ x) (St.eval ⟨t, ds, H⟩ y)) := by
  refine evOp_vR ?_
  simp only [aexec, acall, abuiltin, List.map_toArray, List.map_cons, List.map_nil, minW]
  split <;> rfl
theorem min_int (k : IntKind) (a b : Int) : minW P (.int k a) (.int k b) = some (.int k (if b < a then b else a)) := by
  unfold minW
  rw [if_pos (by simp [flat])]
  rfl
theorem finishq_ret (rs : Array ResultVar) (H H' : Heap) (t : Nat → Value) : finish P true rs H (some (.ret, ⟨t, [], H'⟩)) = (resOf P rs ⟨t, [], H'⟩).bind fun v => some (.returned v, if ground v = true then H else H') := by
  simp only [finish, Option.bind_some, Bool.true_and]
  cases resOf P rs ⟨t, [], H'⟩ <;> rfl
theorem F_quiet {X : Exts} {f : FuncId} {fn : Func} {c : Code} {a : Array Value} {p : Nat} {H : Heap} (hX : X f = none) (hc : cl f = 1) (hpu : pu cl f = false) (hf : P.funcs[f]? = some fn) (hb : fn.body = some c) :
    limF P cl X f a p H = finish P true fn.results H (limR P cl X c H.length { t := fun i => a.getD i undef, ds := [], H }) := by
  rw [F_body hX (by omega) hpu hf hb, if_pos hc, hc]
  rfl
theorem F_loud {X : Exts} {f : FuncId} {fn : Func} {c : Code} {a : Array Value} {p : Nat} {H : Heap} (hX : X f = none) (hc : cl f = 3) (hpu : pu cl f = false) (hf : P.funcs[f]? = some fn) (hb : fn.body = some c) :
    limF P cl X f a p H = finish P false fn.results H (limR P cl X c p { t := fun i => a.getD i undef, ds := [], H }) := by
  rw [F_body hX (by omega) hpu hf hb, if_neg (by omega), hc]
  rfl
theorem g_sl (a : Addr) (n s : Nat) : ground (.slice (some a) n s) = false := (rfl)
end Go.AM
namespace Go.AM.Z
open Go Go.AM Go.Proofs
set_option maxRecDepth 100000
/-- What stands between the bytes c. -/
def piecesN (c : UInt8) : Nat → List UInt8 → List (List UInt8)
  | 0, s => [s]
  | k + 1, s => s.take (Lib.indexByte s c).toNat :: piecesN c k (s.drop ((Lib.indexByte s c).toNat + 1))
def pieces (c : UInt8) (s : List UInt8) : List (List UInt8) := piecesN c (s.count c) s
theorem piecesN_len (c : UInt8) : ∀ (k : Nat) (s : List UInt8), (piecesN c k s).length = k + 1
  | 0, _ => rfl
  | k + 1, s => by rw [piecesN, List.length_cons, piecesN_len c k]
theorem pieces_len (c : UInt8) (s : List UInt8) : (pieces c s).length = s.count c + 1 := piecesN_len c _ _
theorem index_count (c : UInt8) : ∀ (s : List UInt8), s.count c ≠ 0 → 0 ≤ Lib.indexByte s c ∧ (s.drop ((Lib.indexByte s c).toNat + 1)).count c + 1 = s.count c
  | [], h => by simp at h
  | b :: l, h => by
    unfold Lib.indexByte
    by_cases hb : b = c
    · subst hb
      simp
    · rw [List.count_cons_of_ne (by simpa using hb)] at h
      obtain ⟨h1, h2⟩ := index_count c l h
      rw [List.count_cons_of_ne (by simpa using hb)]
      have hb' : ¬ ((b == c) = true) := by simpa using hb
      have hm : ¬ ((Lib.indexByte l c == -1) = true) := by simp; omega
      rw [if_neg hb', if_neg hm]
      refine ⟨by omega, ?_⟩
      have e2 : (Lib.indexByte l c + 1).toNat = (Lib.indexByte l c).toNat + 1 := by omega
      rw [e2, List.drop_succ_cons]
      exact h2
attribute [go_sem] ev_min min_int finishq_ret g_sl
theorem ia74 (A off n len : Nat) (i : Int) (h : 0 ≤ i ∧ i < len) : idxA Tryz.prog 74 (.slice (some ⟨A, off, some n⟩) len 1) (.int .i64 i) = some (.pointer (some ⟨A, off + i.toNat, some n⟩)) := by
  rw [ia_sl Tryz.underlying74 sz9 A off n len i h, Nat.mul_one]
theorem slh74 (A off n len : Nat) (hi : Int) (h : 0 ≤ hi ∧ hi ≤ len) : sliceV Tryz.prog 74 (.slice (some ⟨A, off, some n⟩) len 1) none (some (.int .i64 hi)) none = some (.slice (some ⟨A, off, some n⟩) hi.toNat 1) := slh_sl Tryz.underlying74 sz9 A off n len hi h
theorem bt9 : bts Tryz.prog 9 = some 16 := by kernel_rfl
theorem mk74 {H : Heap} (n : Nat) (h : n ≤ 2 ^ 20) : mkSl Tryz.prog 74 (.int .i64 (n : Nat)) (.int .i64 (n : Nat)) H = some (.slice (some ⟨H.length, 0, some n⟩) n 1, H ++ [⟨0, 9, (List.replicate n (str [])).toArray, 0, false, []⟩]) :=
  mk_sl (s := 1) Tryz.underlying74 sz9 bt9 (by kernel_rfl) rfl n (by omega)
theorem len74 {H : Heap} (a : Addr) (n : Nat) : lenW Tryz.prog 74 H (.slice (some a) n 1) = some (.int .i64 n) := len_sl Tryz.underlying74 a n
attribute [go_sem] ia74 slh74 mk74 len74 putAll_one
end Go.AM.Z

namespace Go.AM
theorem set_same {α : Type} {l : List α} {A : Nat} {x : α} (h : l[A]? = some x) : l.set A x = l := by
  apply List.ext_getElem?
  intro i
  by_cases hi : A = i
  · subst hi
    rw [h, List.getElem?_set_self (List.getElem?_eq_some_iff.1 h).1]
  · rw [List.getElem?_set_ne hi]
end Go.AM
namespace Go.AM.Z
open Go Go.AM Go.Proofs
set_option maxRecDepth 100000
theorem F81 (s : List UInt8) (c : UInt8) (hs : s.length ≤ 1000000) (p : Nat) (H : Heap) :
    F 81 #[str s, str [c], .int .i64 0, .int .i64 (-1)] p H = some (.returned (.slice (some ⟨H.length, 0, some (s.count c + 1)⟩) (s.count c + 1) 1), H ++ [⟨0, 9, ((pieces c s).map str).toArray, s.count c + 1, false, []⟩]) := by
  rw [F, F_quiet (f := 81) (X := X) (cl := cl) rfl rfl rfl Tryz.func81 rfl, Tryz.results81]
  have hc : s.count c ≤ s.length := List.count_le_length
  generalize hn : s.count c + 1 = n
  have m1 : ¬ ((s.length : Int) + 1 < (n : Nat)) := by omega
  have m2 : ((s.count c : Int) + 1) = (n : Nat) := by omega
  have m3 : ([c] = ([] : List UInt8)) = False := by simp
  simp (disch := first | omega | (simp only [go_sem]; done)) only [go_sem, FCount, bin_add, bin_sub, m1, m2, m3, mk74]
  generalize hA : H.length = A
  generalize hL : Code.loop _ = L
  have key : ∀ (k : Nat) (done : List Value) (r : List UInt8) (t : Nat → Value) (H' : Heap) (fl : Nat), r.count c = k → r.length ≤ 1000000 → H'[A]? = some ⟨0, 9, (done ++ List.replicate (k + 1) (str [])).toArray, fl, false, []⟩ → fl ≤ n → done.length + k + 1 = n →
      t 0 = str r → t 1 = str [c] → t 2 = .int .i64 0 → t 3 = .int .i64 ((n : Int) - 1) → t 9 = .slice (some ⟨A, 0, some n⟩) n 1 → t 10 = .int .i64 (done.length : Nat) →
      ∃ t' init last fl', limR Tryz.prog cl X L A ⟨t, [], H'⟩ = some (.exit 0, ⟨t', [], H'.set A ⟨0, 9, (done ++ init ++ [str []]).toArray, fl', false, []⟩⟩) ∧ fl' ≤ n ∧ (piecesN c k r).map str = init ++ [str last] ∧ t' 0 = str last ∧ t' 9 = .slice (some ⟨A, 0, some n⟩) n 1 ∧ t' 10 = .int .i64 ((n : Int) - 1) := by
    intro k
    induction k with
    | zero =>
      intro done r t H' fl hk hr hH hfl hd h0 h1 h2 h3 h9 h10
      rw [← hL, E_loop, hL]
      have hlt : ¬ ((done.length : Int) < (n : Int) - 1) := by omega
      simp only [go_sem, h0, h1, h2, h3, h9, h10, hlt]
      have e : H' = H'.set A ⟨0, 9, (done ++ [] ++ [str []]).toArray, fl, false, []⟩ := by
        have e : done ++ [] ++ [str []] = done ++ List.replicate (0 + 1) (str []) := by simp
        rw [e, set_same hH]
      refine ⟨_, [], r, fl, congrArg (fun h => some (Exit.exit 0, (⟨_, [], h⟩ : St))) e, hfl, rfl, ?_, ?_, ?_⟩
      · simp only [go_sem, h0]
      · simp only [go_sem, h9]
      · simp only [go_sem, h10]
        congr 1
        omega
    | succ k ih =>
      intro done r t H' fl hk hr hH hfl hd h0 h1 h2 h3 h9 h10
      rw [← hL, E_loop, hL]
      obtain ⟨i1, i2⟩ := index_count c r (by omega)
      have i3 := indexByte_lt' r c i1
      have hlt : ((done.length : Int) < (n : Int) - 1) := by omega
      have hx : ¬ (Lib.indexByte r c < 0) := by omega
      have hAl := (List.getElem?_eq_some_iff.1 hH).1
      have ea : (0 : Nat) + ((done.length : Nat) : Int).toNat = done.length := by omega
      have ep : (done ++ List.replicate (k + 1 + 1) (str [])).set done.length (str (r.take (Lib.indexByte r c).toNat)) = done ++ str (r.take (Lib.indexByte r c).toNat) :: List.replicate (k + 1) (str []) := by
        rw [List.replicate_succ]; simp
      simp (disch := first | omega | (simp only [go_sem]; done) | (simp only [List.size_toArray, List.length_append, List.length_replicate, List.length_cons, List.length_nil]; omega)) only [go_sem, h0, h1, h2, h3, h9, h10, hlt, FIndex, hx, bin_add, Int.add_zero, hH, putAll_one, ep]
      generalize hT : upd _ 10 _ = T
      obtain ⟨t', init, last, fl', k1, k2, k3, k4, k5, k6⟩ := ih (done ++ [str (r.take (Lib.indexByte r c).toNat)]) (r.drop ((Lib.indexByte r c).toNat + 1)) T (H'.set A ⟨0, 9, (done ++ str (r.take (Lib.indexByte r c).toNat) :: List.replicate (k + 1) (str [])).toArray, n, false, []⟩) n (by omega) (by simp; omega)
        (by rw [List.getElem?_set_self hAl]; simp) (Nat.le_refl _) (by simp; omega)
        (by rw [← hT]; simp only [go_sem]; congr 2; congr 1; omega) (by rw [← hT]; simp only [go_sem, h1]) (by rw [← hT]; simp only [go_sem, h2]) (by rw [← hT]; simp only [go_sem, h3]) (by rw [← hT]; simp only [go_sem, h9]) (by rw [← hT]; simp only [go_sem] <;> (congr 1))
      refine ⟨t', str (r.take (Lib.indexByte r c).toNat) :: init, last, fl', ?_, k2, ?_, k4, k5, k6⟩
      · rw [k1, List.set_set]
        simp
      · rw [piecesN, List.map_cons, k3]
        rfl
  generalize hT : upd _ 10 _ = T
  obtain ⟨t', init, last, fl', k1, k2, k3, k4, k5, k6⟩ := key (s.count c) [] s T (H ++ [⟨0, 9, (List.replicate n (str [])).toArray, 0, false, []⟩]) 0 rfl hs (by rw [← hA, ← hn]; simp) (Nat.zero_le _) (by simp; omega)
    (by rw [← hT]; simp only [go_sem]) (by rw [← hT]; simp only [go_sem]) (by rw [← hT]; simp only [go_sem]) (by rw [← hT]; simp only [go_sem]) (by rw [← hT]; simp only [go_sem]) (by rw [← hT]; simp only [go_sem] <;> rfl)
  rw [k1]
  have hl : init.length + 1 = n := by
    have := congrArg List.length k3
    rw [List.length_map, piecesN_len] at this
    simp at this
    omega
  have hAl : A < (H ++ [(⟨0, 9, (List.replicate n (str [])).toArray, 0, false, []⟩ : Blk)]).length := by rw [← hA]; simp
  have ea : 0 + ((n : Int) - 1).toNat = init.length := by omega
  have eb : ((n : Int) - 1 + 1).toNat = n := by omega
  have ep : (init ++ [str []]).set init.length (str last) = init ++ [str last] := by simp
  simp (disch := first | omega | (simp only [go_sem]; done) | (simp only [List.size_toArray, List.length_append, List.length_replicate, List.length_cons, List.length_nil]; omega)) only [go_sem, k4, k5, k6, bin_add, hAl, putAll_one, ea, eb, ep]
  rw [List.set_set, ← hA, List.set_append_right _ _ (Nat.le_refl _), pieces, k3]
  simp
end Go.AM.Z

namespace Go.AM.Z
open Go Go.AM Go.Proofs
set_option maxRecDepth 100000
theorem F57 (s : List UInt8) (c : UInt8) (hs : s.length ≤ 1000000) (p : Nat) (H : Heap) :
    F 57 #[str s, str [c]] p H = some (.returned (.slice (some ⟨H.length, 0, some (s.count c + 1)⟩) (s.count c + 1) 1), H ++ [⟨0, 9, ((pieces c s).map str).toArray, s.count c + 1, false, []⟩]) := by
  rw [F, F_quiet (f := 57) (X := X) (cl := cl) rfl rfl rfl Tryz.func57 rfl, Tryz.results57]
  simp only [go_sem, F81 _ _ hs]
theorem piecesN_le (c : UInt8) : ∀ (k : Nat) (s : List UInt8), ∀ x ∈ piecesN c k s, x.length ≤ s.length
  | 0, s, x, h => by rw [piecesN, List.mem_singleton] at h; subst h; exact Nat.le_refl _
  | k + 1, s, x, h => by
    rw [piecesN, List.mem_cons] at h
    rcases h with rfl | h
    · simp; omega
    · have := piecesN_le c k _ x h
      simp at this; omega
/-- The parts of a time, one by one. -/
def valGo : List (List UInt8) → Int → Int → Option Int
  | [], n, _ => some n
  | p :: ps, n, u => if atoiV p < 0 ∨ 604799 < atoiV p then none else valGo ps (n + atoiV p * u) (u / 60)
def val1 (sg : Int) (s : List UInt8) : Int := match valGo (pieces 58 s) 0 3600 with
  | none => 0
  | some n => sg * n
def valueL (s : List UInt8) : Int := if ([45] : List UInt8).isPrefixOf s = true then val1 (-1) (s.drop 1) else val1 1 s
theorem piecesN_all (c : UInt8) (s : List UInt8) (hs : s.length ≤ 1000) : ∀ x ∈ pieces c s, x.length ≤ 281474976710656 := fun x hx => by have := piecesN_le c _ s x hx; omega
theorem F51 (s : List UInt8) (hs : s.length ≤ 1000) (p : Nat) (H : Heap) : F 51 #[str s] p H = some (.returned (.int .i64 (valueL s)), H) := by
  rw [F, F_pure (f := 51) (X := X) (cl := cl) rfl rfl rfl Tryz.func51 rfl (by simp only [go_sem]), Tryz.results51]
  have hd1 : (s.drop 1).length ≤ 1000 := by simp; omega
  obtain ⟨r, sg, hr, hsg, hv⟩ : ∃ r sg, r.length ≤ 1000 ∧ (sg = 1 ∨ sg = -1) ∧ valueL s = val1 sg r ∧ (([45] : List UInt8).isPrefixOf s = true → r = s.drop 1 ∧ sg = -1) ∧ (([45] : List UInt8).isPrefixOf s = false → r = s ∧ sg = 1) := by
    cases hq : ([45] : List UInt8).isPrefixOf s with
    | true => exact ⟨s.drop 1, -1, hd1, .inr rfl, by rw [valueL, if_pos hq], fun _ => ⟨rfl, rfl⟩, fun h => by cases h⟩
    | false => exact ⟨s, 1, hs, .inl rfl, by rw [valueL, if_neg (by simp [hq])], (fun h => by cases h), fun _ => ⟨rfl, rfl⟩⟩
  rw [hv.1]
  generalize hps : pieces 58 r = ps
  have hl : ps.length = r.count 58 + 1 := by rw [← hps, pieces_len]
  have hcn : r.count 58 ≤ r.length := List.count_le_length
  have hpl := piecesN_all 58 r hr
  rw [hps] at hpl
  have c60 : (60 : Int) ≠ 0 := by omega
  have b2 : ∀ (m : Int) (c : Bool) (T : TypeId), 0 ≤ m → m ≤ 3600 → binV Tryz.prog c .quo T (.int .i64 m) (.int .i64 60) = some (.int .i64 (m / 60)) := fun m c T h1 h2 => by
    have e : m.tdiv 60 = m / 60 := Int.tdiv_eq_ediv_of_nonneg h1
    rw [bin_quo c60 (by omega) (by omega), e]
  cases hq : ([45] : List UInt8).isPrefixOf s
  case' true => simp (disch := first | omega | (simp only [go_sem]; done)) only [go_sem, hq, F57]; rw [← (hv.2.1 hq).1]
  case' false => simp (disch := first | omega | (simp only [go_sem]; done)) only [go_sem, hq, F57]; rw [← (hv.2.2 hq).1]
  all_goals
    rw [hps, ← hl]
    generalize hL : Code.loop _ = L
    have key : ∀ (k i : Nat) (t : Nat → Value) (acc u : Int) (H : Heap), i + k = ps.length → 0 ≤ acc → acc ≤ 2177276400 * (i : Int) → 0 ≤ u → u ≤ 3600 → H[0]? = some ⟨0, 9, (ps.map str).toArray, ps.length, false, []⟩ →
        t 20 = .slice (some ⟨0, 0, some ps.length⟩) ps.length 1 → t 21 = .int .i64 ps.length → t 22 = .int .i64 i → t 6 = .int .i64 acc → t 7 = .int .i64 u → t 3 = .int .i64 sg →
        ∃ e t', limR Tryz.prog cl X L 0 ⟨t, [], H⟩ = some (e, ⟨t', [], H⟩) ∧ ((e = .exit 0 ∧ ∃ m, valGo (ps.drop i) acc u = some m ∧ t' 6 = .int .i64 m ∧ t' 3 = .int .i64 sg ∧ 0 ≤ m ∧ m ≤ 2177276400 * (ps.length : Int)) ∨ (e = .ret ∧ valGo (ps.drop i) acc u = none ∧ t' 2 = .int .i64 0)) := by
      intro k
      induction k with
      | zero =>
        intro i t acc u H hi ha0 ha1 hu0 hu1 hH h20 h21 h22 h6 h7 h3
        rw [← hL, E_loop, hL]
        have hlt : ¬ (i : Int) < ps.length := by omega
        simp only [go_sem, h20, h21, h22, h6, h7, h3, hlt]
        refine ⟨_, _, rfl, .inl ⟨rfl, acc, ?_, ?_, ?_, ha0, (show (i : Int) = ps.length by omega) ▸ ha1⟩⟩
        · rw [List.drop_of_length_le (by omega)]; rfl
        · simp only [go_sem, h6]
        · simp only [go_sem, h3]
      | succ k ih =>
        intro i t acc u H hi ha0 ha1 hu0 hu1 hH h20 h21 h22 h6 h7 h3
        rw [← hL, E_loop, hL]
        have hn : i < ps.length := by omega
        have hlt : (i : Int) < ps.length := by omega
        have hg : (ps.map str)[i]? = some (str ps[i]) := by rw [List.getElem?_map, List.getElem?_eq_getElem hn]; rfl
        have hpi := hpl _ (List.getElem_mem hn)
        have hvg : valGo (ps.drop i) acc u = if atoiV ps[i] < 0 ∨ 604799 < atoiV ps[i] then none else valGo (ps.drop (i + 1)) (acc + atoiV ps[i] * u) (u / 60) := by
          rw [List.drop_eq_getElem_cons hn, valGo]
        by_cases q1 : atoiV ps[i] < 0
        · simp (disch := first | omega | (simp only [go_sem]; done) | (simp only [List.size_toArray, List.length_map]; omega)) only [go_sem, h20, h21, h22, h6, h7, h3, hlt, hH, hg, FAtoi, q1]
          refine ⟨_, _, rfl, .inr ⟨rfl, ?_, ?_⟩⟩
          · rw [hvg, if_pos (.inl q1)]
          · simp only [go_sem]
        · by_cases q2 : 604799 < atoiV ps[i]
          · simp (disch := first | omega | (simp only [go_sem]; done) | (simp only [List.size_toArray, List.length_map]; omega)) only [go_sem, h20, h21, h22, h6, h7, h3, hlt, hH, hg, FAtoi, q1, q2]
            refine ⟨_, _, rfl, .inr ⟨rfl, ?_, ?_⟩⟩
            · rw [hvg, if_pos (.inr q2)]
            · simp only [go_sem]
          · have x1 : 0 ≤ atoiV ps[i] * u := Int.mul_nonneg (by omega) hu0
            have x2 : atoiV ps[i] * u ≤ 2177276400 := by
              have := Int.mul_le_mul (show atoiV ps[i] ≤ 604799 by omega) hu1 hu0 (by omega)
              omega
            have hi9 : (i : Int) ≤ 1001 := by omega
            simp (disch := first | omega | (simp only [go_sem]; done) | (simp only [List.size_toArray, List.length_map]; omega)) only [go_sem, h20, h21, h22, h6, h7, h3, hlt, hH, hg, FAtoi, q1, q2, bin_mul, bin_add, b2]
            generalize hT : upd _ 22 _ = T
            obtain ⟨e, t', k1, k2⟩ := ih (i + 1) T (acc + atoiV ps[i] * u) (u / 60) H (by omega) (by omega) (by omega) (by omega) (by omega) hH (by rw [← hT]; simp only [go_sem, h20]) (by rw [← hT]; simp only [go_sem, h21]) (by rw [← hT]; simp only [go_sem] <;> rfl) (by rw [← hT]; simp only [go_sem]) (by rw [← hT]; simp only [go_sem]) (by rw [← hT]; simp only [go_sem, h3])
            refine ⟨e, t', k1, ?_⟩
            rw [hvg, if_neg (by omega)]
            exact k2
    generalize hT : upd _ 22 _ = T
    obtain ⟨e, t', k1, k2⟩ := key ps.length 0 T 0 3600 [⟨0, 9, (ps.map str).toArray, ps.length, false, []⟩] (by omega) (by omega) (by omega) (by omega) (by omega) rfl (by rw [← hT]; simp only [go_sem] <;> rfl) (by rw [← hT]; simp only [go_sem] <;> rfl) (by rw [← hT]; simp only [go_sem] <;> rfl) (by rw [← hT]; simp only [go_sem] <;> rfl) (by rw [← hT]; simp only [go_sem] <;> rfl) (by rw [← hT]; simp only [go_sem]; first | rw [(hv.2.1 hq).2] | rw [(hv.2.2 hq).2])
    rw [k1]
    rw [List.drop_zero, ← hps] at k2
    have hl9 : ((pieces 58 r).length : Int) ≤ 1001 := by rw [hps]; omega
    rcases k2 with ⟨rfl, m, k2, k3, k4, k5, k6⟩ | ⟨rfl, k2, k3⟩
    · have y1 : -9223372036854775808 ≤ sg * m ∧ sg * m ≤ 9223372036854775807 := by rcases hsg with rfl | rfl <;> omega
      simp (disch := first | exact y1.1 | exact y1.2 | omega | (simp only [go_sem]; done)) only [go_sem, k3, k4, bin_mul]
      rw [val1, k2]
    · simp only [go_sem, k3]
      rw [val1, k2]
def takeTimeL (s : List UInt8) : Int × List UInt8 := (valueL (pre timeSet s), cutL timeSet s)
theorem F31 (s : List UInt8) (hs : s.length ≤ 1000) (p : Nat) (H : Heap) : F 31 #[str s] p H = some (.returned (.tuple #[.int .i64 (takeTimeL s).1, str (takeTimeL s).2]), H) := by
  rw [F, F_pure (f := 31) (X := X) (cl := cl) rfl rfl rfl Tryz.func31 rfl (by simp only [go_sem]), Tryz.results31]
  have h50 := F50 s timeSet timeSet_ascii (by omega)
  simp only [timeSet] at h50
  have hl : (s.take (s.length - (cutL timeSet s).length)).length ≤ 1000 := by simp; omega
  have h51 := F51 _ hl
  simp only [timeSet] at h51
  simp only [go_sem, h50, h51]
  rfl
end Go.AM.Z

namespace Go.AM
open Go
variable {P : Program} {cl : FuncId → Nat} {H : Heap}
theorem pureRun_underlying' {src : TypeId} {u : TypeDesc} (h : P.underlying src = some u) {α : Type} (k : TypeDesc → Sem α) : pureRun P (underlying src >>= k) = pureRun P (k u) := by
  rw [pureRun_bind, pureRun_underlying, h]
  rfl
theorem conv_intInt {src dst : TypeId} {k k' j : IntKind} (hs : P.underlying src = some (.int j)) (hd : P.underlying dst = some (.int k')) (n : Int) : convV P src dst (.int k n) H = some (.int k' (k'.wrap n), H) := by
  unfold convV
  rw [hs, hd]
  simp only
  have hf : flat (Value.int k n) = true := rfl
  rw [if_pos hf]
  unfold convert
  rw [pureRun_underlying' hs, pureRun_underlying' hd]
  rfl
theorem conv_intStr {src dst : TypeId} {k j : IntKind} (hs : P.underlying src = some (.int j)) (hd : P.underlying dst = some .string) (n : Int) : convV P src dst (.int k n) H = some (.string (Utf8.encode n), H) := by
  unfold convV
  rw [hs, hd]
  simp only
  have hf : flat (Value.int k n) = true := rfl
  rw [if_pos hf]
  unfold convert
  rw [pureRun_underlying' hs, pureRun_underlying' hd]
  rfl
theorem scope_one {X : Exts} {c : Code} {p : Nat} {s s' : St} {e : Exit} (h : limR P cl X c p s = some (e, s')) (he : ∀ l, e ≠ .goto l) : limR P cl X (.scope c) p s = some (e, s') := by
  refine E_scope 1 ?_
  rw [scopeGo, h]
  cases e with
  | goto l => exact absurd rfl (he l)
  | _ => rfl
/-- A scope that ends without a jump. -/
noncomputable def scopeR (P : Program) (cl : FuncId → Nat) (X : Exts) (c : Code) (p : Nat) (s : St) (r : Option (Exit × St)) : Option (Exit × St) := match r with
  | none => limR P cl X (.scope c) p s
  | some (.goto _, _) => limR P cl X (.scope c) p s
  | r => r
theorem E_scopeR {X : Exts} {c : Code} {p : Nat} {s : St} : limR P cl X (.scope c) p s = scopeR P cl X c p s (limR P cl X c p s) := by
  cases h : limR P cl X c p s with
  | none => rfl
  | some y =>
    obtain ⟨e, s'⟩ := y
    cases e with
    | goto l => rfl
    | _ => exact scope_one h fun l h => by cases h
theorem scopeR_ret {X : Exts} {c : Code} {p : Nat} {s s' : St} : scopeR P cl X c p s (some (.ret, s')) = some (.ret, s') := (rfl)
theorem scopeR_exit {X : Exts} {c : Code} {p i : Nat} {s s' : St} : scopeR P cl X c p s (some (.exit i, s')) = some (.exit i, s') := (rfl)
theorem scopeR_normal {X : Exts} {c : Code} {p : Nat} {s s' : St} : scopeR P cl X c p s (some (.normal, s')) = some (.normal, s') := (rfl)
attribute [go_sem] scopeR_ret scopeR_exit scopeR_normal
theorem wrap_u8 {n : Int} (h1 : 0 ≤ n) (h2 : n < 256) : IntKind.u8.wrap n = n := by
  have e : IntKind.u8.wrap n = n % 256 := by
    unfold IntKind.wrap
    simp [IntKind.bits, IntKind.signed]
  rw [e]
  omega
theorem wrap_i32 {n : Int} (h1 : -2147483648 ≤ n) (h2 : n ≤ 2147483647) : IntKind.i32.wrap n = n := by
  have e : IntKind.i32.wrap n = if n % 4294967296 ≥ 2147483648 then n % 4294967296 - 4294967296 else n % 4294967296 := by
    unfold IntKind.wrap
    simp [IntKind.bits, IntKind.signed]
  rw [e]
  by_cases h : 0 ≤ n
  · rw [Int.emod_eq_of_lt h (by omega), if_neg (by omega)]
  · have : n % 4294967296 = n + 4294967296 := by omega
    rw [this, if_pos (by omega)]
    omega
end Go.AM
namespace Go.AM.Z
open Go Go.AM Go.Proofs
set_option maxRecDepth 100000
theorem enc_high (x : Nat) (h : 128 ≤ x) : ∃ (es : List UInt8) (a : UInt8) (m : Nat), Utf8.encode x = ⟨es.toArray⟩ ∧ es.length = m + 1 ∧ 1 ≤ m ∧ m ≤ 3 ∧ es[m]? = some a ∧ 128 ≤ a.toNat := by
  unfold Utf8.encode
  simp only
  have hc : 128 ≤ (if Utf8.valid (x : Int) = true then (x : Int).toNat else Utf8.runeError) := by
    split
    · omega
    · decide
  generalize (if Utf8.valid (x : Int) = true then (x : Int).toNat else Utf8.runeError) = c at hc
  have hb : 128 ≤ (UInt8.ofNat (128 + c % 64)).toNat := by
    rw [UInt8.toNat_ofNat']
    omega
  rw [if_neg (by omega)]
  by_cases h1 : c < 2048
  · rw [if_pos h1]
    exact ⟨_, _, 1, rfl, rfl, by omega, by omega, rfl, hb⟩
  · rw [if_neg h1]
    by_cases h2 : c < 65536
    · rw [if_pos h2]
      exact ⟨_, _, 2, rfl, rfl, by omega, by omega, rfl, hb⟩
    · rw [if_neg h2]
      exact ⟨_, _, 3, rfl, rfl, by omega, by omega, rfl, hb⟩
theorem FIndexByte (s : List UInt8) (c : Int) (h : 0 ≤ c ∧ c < 256) (p : Nat) (H : Heap) : F 87 #[str s, .int .u8 c] p H = some (.returned (.int .i64 (Lib.indexByte s (UInt8.ofNat c.toNat))), H) := by
  rw [F, F_ext (f := 87) (X := X) rfl]
  exact exG_some _ _ (by unfold gIndexByte; exact if_pos h)
theorem indexByte_none (a : UInt8) : ∀ (l : List UInt8), (∀ b ∈ l, b ≠ a) → Lib.indexByte l a = -1
  | [], _ => rfl
  | b :: l, h => by
    unfold Lib.indexByte
    rw [if_neg (by simpa using h b (by simp)), if_pos (by rw [indexByte_none a l fun x hx => h x (by simp [hx])]; rfl)]
theorem F88 (x : Int) (p : Nat) (H : Heap) : ∃ b, F 88 #[.int .i32 x] p H = some (.returned (.bool b), H) := by
  rw [F, F_pure (f := 88) (X := X) (cl := cl) rfl rfl rfl Tryz.func88 rfl (by simp only [go_sem]), Tryz.results88]
  simp only [go_sem]
  repeat' (generalize hz : pickB _ _ _ _ _ = z; rcases pickB_cases hz with ⟨h, rfl⟩ | ⟨h, rfl⟩ <;> clear hz <;> (try simp only [go_sem] at h) <;> simp only [go_sem, h])
  all_goals exact ⟨_, rfl⟩
theorem cv21_5 (x : Int) (h1 : 0 ≤ x) (h2 : x < 256) {H : Heap} : convV Tryz.prog 21 5 (.int .i32 x) H = some (.int .u8 x, H) := by
  rw [conv_intInt Tryz.underlying21 Tryz.underlying5, wrap_u8 h1 h2]
theorem cv21_9 (x : Int) {H : Heap} : convV Tryz.prog 21 9 (.int .i32 x) H = some (.string (Utf8.encode x), H) := conv_intStr Tryz.underlying21 Tryz.underlying9 x
theorem F70 (s : List UInt8) (hs : s.length ≤ 1000000) (ha : ∀ b ∈ s, b.toNat < 128) (x : Nat) (p : Nat) (H : Heap) : F 70 #[str s, .int .i32 x] p H = some (.returned (.int .i64 (if x < 128 then Lib.indexByte s (UInt8.ofNat x) else -1)), H) := by
  rw [F, F_pure (f := 70) (X := X) (cl := cl) rfl rfl rfl Tryz.func70 rfl (by simp only [go_sem]), Tryz.results70]
  have h0 : (0 : Int) ≤ x := by omega
  by_cases hx : x < 128
  · have hx' : (x : Int) < 128 := by omega
    rw [if_pos hx]
    simp (disch := first | omega | (simp only [go_sem]; done)) only [go_sem, h0, hx', cv21_5, FIndexByte]
  · have hx' : ¬ (x : Int) < 128 := by omega
    rw [if_neg hx]
    by_cases he : (x : Int) = 65533
    · simp (disch := first | omega | (simp only [go_sem]; done)) only [go_sem, h0, hx', he]
      generalize hL : Code.loop _ = L
      have key : ∀ (k q : Nat) (t : Nat → Value) (H : Heap), s.length < q + k → H[0]? = some (itB s q) → t 175 = .pointer (some ⟨0, 0, some 0⟩) →
          ∃ t' H', limR Tryz.prog cl X L 0 ⟨t, [], H⟩ = some (.exit 9, ⟨t', [], H'⟩) := by
        intro k
        induction k with
        | zero =>
          intro q t H hq hH h175
          rw [← hL, E_loop, hL]
          have hlt : ¬ q < s.length := by omega
          simp only [go_sem, hH, hlt, h175]
          exact ⟨_, _, rfl⟩
        | succ k ih =>
          intro q t H hq hH h175
          rw [← hL, E_loop, hL]
          have hAl := (List.getElem?_eq_some_iff.1 hH).1
          by_cases hlt : q < s.length
          · have hb := ha _ (List.getElem_mem hlt)
            have hd := dec_ascii (List.getElem?_eq_getElem hlt) hb
            have hne : ¬ ((s[q].toNat : Int) = 65533) := by omega
            simp (disch := first | omega | (simp only [go_sem]; done)) only [go_sem, hH, hlt, h175, hd, hne]
            generalize hT : upd _ 181 _ = T
            exact ih (q + 1) T _ (by omega) (List.getElem?_set_self hAl) (by rw [← hT]; simp only [go_sem, h175])
          · simp only [go_sem, hH, hlt, h175]
            exact ⟨_, _, rfl⟩
      generalize hT : upd _ 175 _ = T
      obtain ⟨t', H', k1⟩ := key (s.length + 1) 0 T [itB s 0] (by omega) rfl (by rw [← hT]; simp only [go_sem])
      rw [k1]
      simp only [go_sem]
    · obtain ⟨b, h88⟩ := F88 x 0 []
      cases b with
      | false => simp (disch := first | omega | (simp only [go_sem]; done)) only [go_sem, h0, hx', he, h88]
      | true =>
        obtain ⟨es, a, m, e1, e2, e3, e4, e5, e6⟩ := enc_high x (by omega)
        have e2' : ((es.length : Int) - 1) = (m : Nat) := by omega
        simp (disch := first | omega | (simp only [go_sem]; done)) only [go_sem, h0, hx', he, h88]
        rw [E_scopeR]
        simp (disch := first | omega | (simp only [go_sem]; done)) only [go_sem, cv21_9, e1, bin_sub, e2']
        rw [E_loop]
        by_cases hm : m < s.length
        · have hm' : (m : Int) < s.length := by omega
          have hs1 : s[((m : Nat) : Int).toNat]? = some s[m] := by rw [Int.toNat_natCast]; exact List.getElem?_eq_getElem hm
          have hs2 : es[((m : Nat) : Int).toNat]? = some a := by rw [Int.toNat_natCast]; exact e5
          have hbm := ha _ (List.getElem_mem hm)
          have hne : ¬ ((s[m].toNat : Int) = a.toNat) := by omega
          have hc := a.toNat_lt
          have hmm : ((m : Int) + 1).toNat = m + 1 := by omega
          have hio : Lib.indexByte (s.drop (m + 1)) (UInt8.ofNat a.toNat) = -1 := indexByte_none _ _ fun b hb => by
            intro he
            have := ha b (List.mem_of_mem_drop hb)
            rw [he, UInt8.ofNat_toNat] at this
            omega
          have i1 := ix9 (l := s) (by omega) hs1
          have i2 := ix9 (l := es) (by omega) hs2
          simp (disch := first | omega | (simp only [go_sem]; done)) only [go_sem, hm', i1, i2, hne, bin_add, FIndexByte, hmm, hio, E_scopeR]
        · have hm' : ¬ (m : Int) < s.length := by omega
          simp (disch := first | omega | (simp only [go_sem]; done)) only [go_sem, hm', E_scopeR]
end Go.AM.Z

namespace Go.AM
open Go
variable {P : Program} {cl : FuncId → Nat} {fn : Fn'} {dq : Bool} {p d : Nat} {t : Nat → Value} {ds : List Deferred} {H : Heap} {T : TypeId}
def allocC (P : Program) (T : TypeId) : Option (Array Value) := (zer P T).bind cellsV
theorem ev_allocB (T : TypeId) : evOp fn P cl dq p (.alloc T) (some d) ⟨t, ds, H⟩ = stepB t ds H d T (allocC P T) := by
  unfold evOp
  simp only [aexec, allocC]
  cases (zer P T).bind cellsV <;> rfl
theorem resOf_cell (a : Nat) (T : TypeId) (t : Nat → Value) (ds : List Deferred) (H : Heap) : resOf P #[.cell a T] ⟨t, ds, H⟩ = ldA P H T (t a) := by
  simp only [resOf, resAll, res1, List.toList_toArray, Option.map_some]
  cases ldA P H T (t a) <;> rfl
theorem resOf_cell_tmp (a b : Nat) (T : TypeId) (t : Nat → Value) (ds : List Deferred) (H : Heap) : resOf P #[.cell a T, .tmp b] ⟨t, ds, H⟩ = (ldA P H T (t a)).bind fun v => some (.tuple #[v, t b]) := by
  simp only [resOf, resAll, res1, List.toList_toArray, Option.map_some]
  cases ldA P H T (t a) <;> rfl
theorem ia_arr {s N : Nat} {e : TypeId} {k : IntKind} (hu : P.underlying T = some (.array N e)) (hs : sz P e = some s) (A off n : Nat) (i : Int) (h : 0 ≤ i ∧ i < N) :
    idxA P T (.pointer (some ⟨A, off, some n⟩)) (.int k i) = some (.pointer (some ⟨A, off + i.toNat * s, some n⟩)) := by
  simp only [idxA, hu, hs, Option.bind_some]
  rw [if_pos h]
theorem putAll_drop : ∀ (vs : List Value) (l : List Value) (off : Nat), l.drop off = vs → putAll l.toArray off vs = l.toArray
  | [], l, off, _ => rfl
  | v :: vs, l, off, h => by
    have hlt : off < l.length := by
      rcases Nat.lt_or_ge off l.length with h1 | h1
      · exact h1
      · rw [List.drop_of_length_le h1] at h; cases h
    rw [List.drop_eq_getElem_cons hlt] at h
    injection h with h1 h2
    rw [putAll, List.setIfInBounds_toArray, ← h1, List.set_getElem_self]
    exact putAll_drop vs l (off + 1) h2
attribute [go_sem] ev_allocB resOf_cell resOf_cell_tmp
end Go.AM
namespace Go.AM.Z
open Go Go.AM Go.Proofs
set_option maxRecDepth 100000
theorem letters_tab : ∀ n : Fin 128, decide (0 ≤ Lib.indexByte lettersL (UInt8.ofNat n.val)) = letterI n.val := by decide +kernel
theorem F41 (x : Nat) (p : Nat) (H : Heap) : F 41 #[str lettersL, .int .i32 x] p H = some (.returned (.bool (letterI x)), H) := by
  rw [F, F_pure (f := 41) (X := X) (cl := cl) rfl rfl rfl Tryz.func41 rfl (by simp only [go_sem]), Tryz.results41]
  have h70 := F70 lettersL (by decide) letters_ascii x
  by_cases hx : x < 128
  · have := letters_tab ⟨x, hx⟩
    simp only at this
    simp only [go_sem, h70, hx, this]
  · have : letterI x = false := by unfold letterI; simp; omega
    simp only [go_sem, h70, hx, this]
theorem F40 (x : Nat) (p : Nat) (H : Heap) : F 40 #[.int .i32 x] p H = some (.returned (.int .i32 (dropL x)), H) := by
  rw [F, F_pure (f := 40) (X := X) (cl := cl) rfl rfl rfl Tryz.func40 rfl (by simp only [go_sem]), Tryz.results40]
  have h41 := F41 x
  simp only [lettersL] at h41
  unfold dropL
  cases hq : letterI x with
  | true => simp only [go_sem, h41, hq]
  | false => simp only [go_sem, h41, hq]
theorem F76 (n : Int) (p : Nat) (H : Heap) : F 76 #[.int .i64 n] p H = some (.returned (.bool (decide (8 < n))), H) := by
  rw [F, F_pure (f := 76) (X := X) (cl := cl) rfl rfl rfl Tryz.func76 rfl (by simp only [go_sem]), Tryz.results76]
  simp only [go_sem]
/-- The set of ',' and '/'. -/
def setA : List Value := ((List.replicate 256 (Value.bool false)).set 44 (.bool true)).set 47 (.bool true)
theorem setA_len : setA.length = 256 := by simp [setA]
theorem setA_at (i : Nat) (h : i < 256) : setA[i]? = some (.bool (decide (i = 44 ∨ i = 47))) := by
  unfold setA
  by_cases h1 : i = 47
  · subst h1; simp
  · rw [List.getElem?_set_ne (by omega)]
    by_cases h2 : i = 44
    · subst h2; simp
    · rw [List.getElem?_set_ne (by omega), List.getElem?_replicate, if_pos h]
      simp [h1, h2]
theorem setA_mem (v : Value) (h : v ∈ setA) : ∃ b, v = .bool b := by
  obtain ⟨i, hi, rfl⟩ := List.getElem_of_mem h
  have := setA_at i (by rw [← setA_len]; exact hi)
  rw [List.getElem?_eq_getElem hi] at this
  exact ⟨_, Option.some.inj this⟩
theorem setA_one : setA.all oneC = true := by
  rw [List.all_eq_true]
  intro v h
  obtain ⟨b, rfl⟩ := setA_mem v h
  rfl
theorem setA_flat : setA.all flat = true := by
  rw [List.all_eq_true]
  intro v h
  obtain ⟨b, rfl⟩ := setA_mem v h
  rfl
theorem al88 : allocC Tryz.prog 88 = some (List.replicate 256 (Value.bool false)).toArray := by kernel_rfl
theorem ia88 (A off n : Nat) (k : IntKind) (i : Int) (h : 0 ≤ i ∧ i < 256) : idxA Tryz.prog 88 (.pointer (some ⟨A, off, some n⟩)) (.int k i) = some (.pointer (some ⟨A, off + i.toNat, some n⟩)) := by
  rw [ia_arr Tryz.underlying88 sz4 A off n i h, Nat.mul_one]
theorem st88 (H : Heap) (p A off n : Nat) (cs : Array Value) (hx : cs.toList.all oneC = true) (hl : cs.size = 256) : stA Tryz.prog H p 88 (.pointer (some ⟨A, off, some n⟩)) (.agg cs) = put H p A off n H[A]? cs.toList := st_agg sz88 A off n cs hx hl
theorem F77 (p : Nat) (H : Heap) : F 77 #[str [44, 47]] p H = some (.returned (.tuple #[.agg setA.toArray, .bool true]), H) := by
  rw [F, F_pure (f := 77) (X := X) (cl := cl) rfl rfl rfl Tryz.func77 rfl (by simp only [go_sem]), Tryz.results77]
  have hal := al88
  have hz : (List.replicate 256 (Value.bool false)).length = 256 := by simp
  have hz2 : ((List.replicate 256 (Value.bool false)).set 44 (.bool true)).length = 256 := by simp
  have hs : ((List.replicate 256 (Value.bool false)).set 44 (.bool true)).set 47 (.bool true) = setA := rfl
  generalize (List.replicate 256 (Value.bool false)) = z at *
  have he : setA.extract 0 256 = setA := by
    rw [List.extract_eq_take_drop, List.drop_zero, Nat.sub_zero, List.take_of_length_le (by rw [setA_len]; omega)]
  have i1 : idxV Tryz.prog 9 (str [44, 47]) (.int .i64 0) = some (.int .u8 44) := (ix9 (l := [44, 47]) (n := 0) (b := 44) (by omega) rfl).trans rfl
  have i2 : idxV Tryz.prog 9 (str [44, 47]) (.int .i64 1) = some (.int .u8 47) := (ix9 (l := [44, 47]) (n := 1) (b := 47) (by omega) rfl).trans rfl
  have he' : (z.set 44 (Value.bool true)).set 47 (Value.bool true) = setA := hs
  simp (disch := first | omega | exact setA_one | (simp only [go_sem]; done) | (simp only [List.size_toArray, List.length_set, setA_len]; omega)) only [go_sem, hal, i1, i2, bin_add, hz, ia88, putAll_one, he']
  have pd : putAll setA.toArray 0 setA = setA.toArray := putAll_drop setA setA 0 rfl
  have sl := setA_len
  have so := setA_one
  have sf := setA_flat
  generalize setA = z2 at *
  have ht : z2.take 256 = z2 := List.take_of_length_le (by omega)
  rw [E_loop]
  simp (disch := first | omega | assumption | (simp only [go_sem]; done) | (simp only [List.size_toArray, List.length_set, List.length_cons, List.length_nil, hz, sl, true_and, and_true, Nat.le_refl, Nat.zero_le, Nat.reduceAdd, Nat.reduceLeDiff]; done) | (simp only [List.size_toArray, List.length_set, List.length_cons, List.length_nil, hz, sl, true_and, and_true, Nat.le_refl, Nat.zero_le, Nat.reduceAdd, Nat.reduceLeDiff]; omega)) only [go_sem, hal, i1, i2, bin_add, hz, ia88, putAll_one, he']
  rw [E_loop]
  simp (disch := first | omega | assumption | (simp only [go_sem]; done) | (simp only [List.size_toArray, List.length_set, List.length_cons, List.length_nil, hz, sl, true_and, and_true, Nat.le_refl, Nat.zero_le, Nat.reduceAdd, Nat.reduceLeDiff]; done) | (simp only [List.size_toArray, List.length_set, List.length_cons, List.length_nil, hz, sl, true_and, and_true, Nat.le_refl, Nat.zero_le, Nat.reduceAdd, Nat.reduceLeDiff]; omega)) only [go_sem, hal, i1, i2, bin_add, hz, ia88, putAll_one, he']
  rw [E_loop]
  simp (disch := first | omega | assumption | (simp only [go_sem]; done) | (simp only [List.size_toArray, List.length_set, List.length_cons, List.length_nil, hz, sl, true_and, and_true, Nat.le_refl, Nat.zero_le, Nat.reduceAdd, Nat.reduceLeDiff]; done) | (simp only [List.size_toArray, List.length_set, List.length_cons, List.length_nil, hz, sl, true_and, and_true, Nat.le_refl, Nat.zero_le, Nat.reduceAdd, Nat.reduceLeDiff]; omega)) only [go_sem, hal, i1, i2, bin_add, hz, ia88, putAll_one, he', he, ht, st88, pd, sf]
  have hg : ground (.tuple #[.agg z2.toArray, .bool true]) = true := by simp only [go_sem, sf]
  rw [purely_ret _ _ _ hg]
end Go.AM.Z

namespace Go.AM.Z
open Go Go.AM Go.Proofs
set_option maxRecDepth 100000
theorem F78 (A off : Nat) (c : Nat) (hc : c < 256) (fl : Nat) (hfl : fl ≤ 256) (p : Nat) (H : Heap) (hH : H[A]? = some ⟨0, 88, setA.toArray, fl, false, []⟩) :
    F 78 #[.pointer (some ⟨A, 0, some 256⟩), .int .u8 c] p H = some (.returned (.bool (decide (c = 44 ∨ c = 47))), H) := by
  rw [F, F_quiet (f := 78) (X := X) (cl := cl) rfl rfl rfl Tryz.func78 rfl, Tryz.results78]
  have hs := setA_len
  have ha := setA_at c hc
  simp (disch := first | omega | (simp only [List.size_toArray, hs, Int.toNat_natCast]; omega) | (simp only [go_sem]; done)) only [go_sem, nilV_some, ia88, hH, ha]
/-- Where the first ',' or '/' stands. -/
def anyI (s : List UInt8) : Int := match s.findIdx? (fun b => b == 44 || b == 47) with
  | some i => i
  | none => -1
def sepB (b : UInt8) : Bool := b == 44 || b == 47
theorem anyI_some {s : List UInt8} {i : Nat} (hi : i < s.length) (h1 : sepB s[i] = true) (h2 : ∀ j (hj : j < i), sepB (s[j]'(by omega)) = false) : anyI s = i := by
  have : s.findIdx? (fun b => b == 44 || b == 47) = some i := List.findIdx?_eq_some_iff_getElem.2 ⟨hi, h1, fun j hj => by have := h2 j hj; unfold sepB at this; simpa using this⟩
  unfold anyI
  rw [this]
theorem anyI_none {s : List UInt8} (h2 : ∀ j (hj : j < s.length), sepB s[j] = false) : anyI s = -1 := by
  have : s.findIdx? (fun b => b == 44 || b == 47) = none := List.findIdx?_eq_none_iff.2 fun x hx => by
    obtain ⟨j, hj, rfl⟩ := List.getElem_of_mem hx
    exact h2 j hj
  unfold anyI
  rw [this]
theorem get_of {s : List UInt8} {i : Nat} (h : i < s.length) : (ByteArray.mk s.toArray).get! i = s[i] := by
  show s.toArray[i]! = _
  rw [getElem!_pos s.toArray i (by simpa using h)]
  simp
/-- What a step over a rune passes by. -/
theorem dec_spec (s : List UInt8) (pos : Nat) (h : pos < s.length) : ((dec s pos).1 < 128 → (dec s pos).1 = s[pos].toNat ∧ (dec s pos).2 = 1) ∧ (128 ≤ (dec s pos).1 → 128 ≤ s[pos].toNat) ∧ ∀ k (hk : pos + k < s.length), 1 ≤ k → k < (dec s pos).2 → 128 ≤ s[pos + k].toNat := by
  have g0 := get_of h
  have gk : ∀ k (hk : pos + k < s.length), (ByteArray.mk s.toArray).get! (pos + k) = s[pos + k] := fun k hk => get_of hk
  have hsz : (ByteArray.mk s.toArray).size = s.length := Go.ByteArray.size_mk_toArray s
  unfold dec Utf8.decode
  simp only [Nat.add_zero, g0, hsz]
  have c64 : ∀ (k : Nat) (hk : pos + k < s.length), ((ByteArray.mk s.toArray).get! (pos + k)).toNat / 64 = 2 → 128 ≤ s[pos + k].toNat := fun k hk he => by
    rw [gk k hk] at he
    omega
  by_cases h0 : s[pos].toNat < 128
  · rw [if_pos h0]
    exact ⟨fun _ => ⟨rfl, rfl⟩, fun h1 => by simp only at h1; omega, fun k hk h1 h2 => by simp only at h2; omega⟩
  · rw [if_neg h0]
    have e : ∀ (c w : Nat), 128 ≤ c → (∀ k (hk : pos + k < s.length), 1 ≤ k → k < w → 128 ≤ s[pos + k].toNat) → ((c, w).1 < 128 → (c, w).1 = s[pos].toNat ∧ (c, w).2 = 1) ∧ (128 ≤ (c, w).1 → 128 ≤ s[pos].toNat) ∧ ∀ k (hk : pos + k < s.length), 1 ≤ k → k < (c, w).2 → 128 ≤ s[pos + k].toNat := fun c w hc hw => ⟨fun h1 => by simp only at h1; omega, fun _ => by omega, hw⟩
    have e1 : 128 ≤ Utf8.runeError := by decide
    split
    · rename_i h1
      simp only [Bool.and_eq_true, decide_eq_true_eq, beq_iff_eq] at h1
      split
      · rename_i h2
        exact e _ _ (by omega) fun k hk k1 k2 => by
          obtain rfl : k = 1 := by omega
          exact c64 1 hk h1.2.2
      · exact e _ _ e1 fun k hk k1 k2 => by omega
    · split
      · rename_i h1
        simp only [Bool.and_eq_true, decide_eq_true_eq, beq_iff_eq] at h1
        split
        · rename_i h2
          simp only [Bool.and_eq_true, decide_eq_true_eq] at h2
          exact e _ _ (by omega) fun k hk k1 k2 => by
            have : k = 1 ∨ k = 2 := by omega
            rcases this with rfl | rfl
            · exact c64 1 hk h1.1.2.2
            · exact c64 2 hk h1.2.2
        · exact e _ _ e1 fun k hk k1 k2 => by omega
      · split
        · rename_i h1
          simp only [Bool.and_eq_true, decide_eq_true_eq, beq_iff_eq] at h1
          split
          · rename_i h2
            simp only [Bool.and_eq_true, decide_eq_true_eq] at h2
            exact e _ _ (by omega) fun k hk k1 k2 => by
              have : k = 1 ∨ k = 2 ∨ k = 3 := by omega
              rcases this with rfl | rfl | rfl
              · exact c64 1 hk h1.1.1.2.2
              · exact c64 2 hk h1.1.2.2
              · exact c64 3 hk h1.2.2
          · exact e _ _ e1 fun k hk k1 k2 => by omega
        · exact e _ _ e1 fun k hk k1 k2 => by omega
end Go.AM.Z

namespace Go.AM
open Go
theorem putAll_over : ∀ (vs l : List Value) (off : Nat), l.length = off + vs.length → putAll l.toArray off vs = (l.take off ++ vs).toArray
  | [], l, off, h => by
    rw [putAll, List.append_nil, List.take_of_length_le (by simp at h; omega)]
  | v :: vs, l, off, h => by
    simp only [List.length_cons] at h
    rw [putAll, List.setIfInBounds_toArray, putAll_over vs (l.set off v) (off + 1) (by rw [List.length_set]; omega)]
    congr 1
    have e : (l.set off v).take (off + 1) = l.take off ++ [v] := by
      rw [List.take_set, List.take_succ_eq_append_getElem (by omega)]
      rw [List.set_append_right _ _ (by simp; omega)]
      simp
      have : off - min off l.length = 0 := by omega
      simp [this]
    rw [e, List.append_assoc]
    rfl
end Go.AM
namespace Go.AM.Z
open Go Go.AM Go.Proofs
set_option maxRecDepth 100000
theorem F54 (s : List UInt8) (hs : s.length ≤ 1000000) (p : Nat) (H : Heap) : F 54 #[str s, str [44, 47]] p H = some (.returned (.int .i64 (anyI s)), H) := by
  rw [F, F_pure (f := 54) (X := X) (cl := cl) rfl rfl rfl Tryz.func54 rfl (by simp only [go_sem]), Tryz.results54]
  have m1 : (([44, 47] : List UInt8) = []) = False := by simp
  by_cases h8 : (8 : Int) < s.length
  · have hal := al88
    have hz : (List.replicate 256 (Value.bool false)).length = 256 := by simp
    generalize (List.replicate 256 (Value.bool false)) = z at *
    have sl := setA_len
    have hpa : putAll z.toArray 0 setA = setA.toArray := by rw [putAll_over setA z 0 (by omega)]; simp
    simp (disch := first | omega | exact setA_one | (simp only [go_sem]; done) | (simp only [List.size_toArray, hz, sl]; done) | (simp only [List.size_toArray, hz, sl, true_and, and_true]; omega)) only [go_sem, m1, F76, h8, F77, hal, hz, st88, hpa, sl]
    generalize hL : Code.loop (.seq (.seq (.region 12 _ _) _) _) = L
    generalize hHH : ([⟨0, 88, setA.toArray, 256, false, []⟩] : Heap) = HH
    have hH0 : HH[0]? = some ⟨0, 88, setA.toArray, 256, false, []⟩ := by rw [← hHH]; rfl
    have key : ∀ (k i : Nat) (t : Nat → Value), i + k = s.length → (∀ j (hj : j < s.length), j < i → sepB s[j] = false) → t 0 = str s → t 6 = .pointer (some ⟨0, 0, some 256⟩) → t 8 = .int .i64 i →
        ∃ e t', limR Tryz.prog cl X L 0 ⟨t, [], HH⟩ = some (e, ⟨t', [], HH⟩) ∧ ((e = .exit 0 ∧ anyI s = -1) ∨ (e = .ret ∧ t' 4 = .int .i64 (anyI s))) := by
      intro k
      induction k with
      | zero =>
        intro i t hi hn h0 h6 h8
        rw [← hL, E_loop, hL]
        have hlt : ¬ (i : Int) < s.length := by omega
        simp only [go_sem, h0, h6, h8, hlt]
        exact ⟨_, _, rfl, .inl ⟨rfl, anyI_none fun j hj => hn j hj (by omega)⟩⟩
      | succ k ih =>
        intro i t hi hn h0 h6 h8
        rw [← hL, E_loop, hL]
        have hil : i < s.length := by omega
        have hlt : (i : Int) < s.length := by omega
        have i1 : idxV Tryz.prog 9 (str s) (.int .i64 i) = some (.int .u8 s[i].toNat) := ix9 (by omega) (by rw [Int.toNat_natCast]; exact List.getElem?_eq_getElem hil)
        have f78 := F78 0 0 s[i].toNat s[i].toNat_lt 256 (Nat.le_refl _) 0 HH hH0
        have hsep : (s[i].toNat = 44 ∨ s[i].toNat = 47) ↔ sepB s[i] = true := by
          unfold sepB
          simp only [Bool.or_eq_true, beq_iff_eq, ← UInt8.toNat_inj]
          rfl
        by_cases hq : (s[i].toNat = 44 ∨ s[i].toNat = 47)
        · simp (disch := first | omega | (simp only [go_sem]; done)) only [go_sem, h0, h6, h8, hlt, i1, f78, hq, bin_add]
          refine ⟨_, _, rfl, .inr ⟨rfl, ?_⟩⟩
          rw [anyI_some hil (hsep.1 hq) fun j hj => hn j _ hj]
          simp only [go_sem, h8]
        · simp (disch := first | omega | (simp only [go_sem]; done)) only [go_sem, h0, h6, h8, hlt, i1, f78, hq, bin_add]
          generalize hT : upd _ 8 _ = T
          refine ih (i + 1) T (by omega) (fun j hj hji => ?_) (by rw [← hT]; simp only [go_sem, h0]) (by rw [← hT]; simp only [go_sem, h6]) (by rw [← hT]; simp only [go_sem] <;> rfl)
          rcases Nat.lt_or_ge j i with h1 | h1
          · exact hn j hj h1
          · obtain rfl : j = i := by omega
            exact Bool.eq_false_iff.2 fun h => hq (hsep.2 h)
    generalize hT : upd _ 8 _ = T
    obtain ⟨e, t', k1, k2⟩ := key s.length 0 T (by omega) (fun j _ h => by omega) (by rw [← hT]; simp only [go_sem]) (by rw [← hT]; simp only [go_sem]) (by rw [← hT]; simp only [go_sem] <;> rfl)
    rw [k1]
    rcases k2 with ⟨rfl, k2⟩ | ⟨rfl, k2⟩
    · simp only [go_sem, k2]
    · simp only [go_sem, k2]
  · simp (disch := first | omega | (simp only [go_sem]; done)) only [go_sem, m1, F76, h8]
    generalize hL : Code.loop _ = L
    have key : ∀ (k q : Nat) (t : Nat → Value) (H : Heap), s.length < q + k → (∀ j (hj : j < s.length), j < q → sepB s[j] = false) → H[0]? = some (itB s q) → t 1 = str [44, 47] → t 45 = .pointer (some ⟨0, 0, some 0⟩) →
        ∃ e t' H', limR Tryz.prog cl X L 0 ⟨t, [], H⟩ = some (e, ⟨t', [], H'⟩) ∧ ((e = .exit 2 ∧ anyI s = -1) ∨ (e = .ret ∧ t' 4 = .int .i64 (anyI s))) := by
      intro k
      induction k with
      | zero =>
        intro q t H hq hn hH h1 h45
        rw [← hL, E_loop, hL]
        have hlt : ¬ q < s.length := by omega
        simp only [go_sem, hH, hlt, h45]
        exact ⟨_, _, _, rfl, .inl ⟨rfl, anyI_none fun j hj => hn j hj (by omega)⟩⟩
      | succ k ih =>
        intro q t H hq hn hH h1 h45
        rw [← hL, E_loop, hL]
        have hAl := (List.getElem?_eq_some_iff.1 hH).1
        by_cases hlt : q < s.length
        · obtain ⟨d1, d2, d3⟩ := dec_spec s q hlt
          have d4 := dec_width s q
          have h70 := F70 [44, 47] (by decide) (by decide) (dec s q).1 0
          have tab : ∀ n : Fin 128, decide (0 ≤ Lib.indexByte [44, 47] (UInt8.ofNat n.val)) = decide (n.val = 44 ∨ n.val = 47) := by decide +kernel
          have hres : decide ((0 : Int) ≤ (if (dec s q).1 < 128 then Lib.indexByte [44, 47] (UInt8.ofNat (dec s q).1) else -1)) = sepB s[q] := by
            by_cases hc : (dec s q).1 < 128
            · rw [if_pos hc, tab ⟨(dec s q).1, hc⟩, Bool.eq_iff_iff]
              unfold sepB
              simp only [decide_eq_true_eq, Bool.or_eq_true, beq_iff_eq, ← UInt8.toNat_inj, (d1 hc).1]
              rfl
            · rw [if_neg hc]
              have := d2 (by omega)
              symm
              have hb : sepB s[q] = false := by
                unfold sepB
                rw [Bool.or_eq_false_iff]
                constructor <;> (rw [beq_eq_false_iff_ne]; intro h; rw [h] at this; revert this; decide)
              rw [hb]; rfl
          generalize hcw : dec s q = cw at *
          obtain ⟨c, wd⟩ := cw
          simp only at d1 d2 d3 d4 h70 hres
          generalize (if c < 128 then Lib.indexByte [44, 47] (UInt8.ofNat c) else -1) = r at *
          cases hq2 : sepB s[q] with
          | true =>
            rw [hq2] at hres
            have hr : (0 : Int) ≤ r := of_decide_eq_true hres
            simp (disch := first | omega | (simp only [go_sem]; done)) only [go_sem, hH, hlt, h45, h1, hcw, h70, hr]
            refine ⟨_, _, _, rfl, .inr ⟨rfl, ?_⟩⟩
            rw [anyI_some hlt hq2 fun j hj => hn j _ hj]
            simp only [go_sem]
          | false =>
            rw [hq2] at hres
            have hr : ¬ (0 : Int) ≤ r := of_decide_eq_false hres
            simp (disch := first | omega | (simp only [go_sem]; done)) only [go_sem, hH, hlt, h45, h1, hcw, h70, hr]
            generalize hT : upd _ 53 _ = T
            refine ih (q + wd) T _ (by omega) (fun j hj hji => ?_) (List.getElem?_set_self hAl) (by rw [← hT]; simp only [go_sem, h1]) (by rw [← hT]; simp only [go_sem, h45])
            rcases Nat.lt_or_ge j q with h1 | h1
            · exact hn j hj h1
            · by_cases h2 : j = q
              · subst h2; exact hq2
              · have := d3 (j - q) (by omega) (by omega) (by omega)
                have ej : q + (j - q) = j := by omega
                simp only [ej] at this
                unfold sepB
                rw [Bool.or_eq_false_iff]
                constructor <;> (rw [beq_eq_false_iff_ne]; intro h; rw [h] at this; revert this; decide)
        · simp only [go_sem, hH, hlt, h45]
          exact ⟨_, _, _, rfl, .inl ⟨rfl, anyI_none fun j hj => hn j hj (by omega)⟩⟩
    generalize hT : upd _ 45 _ = T
    obtain ⟨e, t', H', k1, k2⟩ := key (s.length + 1) 0 T [itB s 0] (by omega) (fun j _ h => by omega) rfl (by rw [← hT]; simp only [go_sem]) (by rw [← hT]; simp only [go_sem])
    rw [k1]
    rcases k2 with ⟨rfl, k2⟩ | ⟨rfl, k2⟩
    · simp only [go_sem, k2]
    · simp only [go_sem, k2]
end Go.AM.Z

namespace Go.AM.Z
open Go Go.AM Go.Proofs
set_option maxRecDepth 100000
theorem F55 (s : List UInt8) (hs : s.length ≤ 1000000) (p : Nat) (H : Heap) : F 55 #[str s] p H = some (.returned (.int .i64 (atoiV s)), H) := by
  rw [F, F_pure (f := 55) (X := X) (cl := cl) rfl rfl rfl Tryz.func55 rfl (by simp only [go_sem]), Tryz.results55]
  simp (disch := first | omega | (simp only [go_sem]; done)) only [go_sem, FAtoi]
theorem cl55 : cl 55 = 1 := (rfl)
theorem cl31 : cl 31 = 1 := (rfl)
theorem al23 : allocC Tryz.prog 23 = some #[.int .i64 0, .int .i64 0, .int .i64 0, .int .i64 0, .int .i64 0] := by
  unfold allocC
  rw [zer23]
  rfl
theorem al25 : allocC Tryz.prog 25 = some #[str [], .int .i64 0, .bool false, str [], .int .i64 0, .int .i64 0, .int .i64 0, .int .i64 0, .int .i64 0, .int .i64 0, .int .i64 0, .int .i64 0, .int .i64 0, .int .i64 0, .int .i64 0] := by
  unfold allocC
  rw [zer25]
  rfl
theorem st23 (H : Heap) (p A off n : Nat) (cs : Array Value) (hx : cs.toList.all oneC = true) (hl : cs.size = 5) : stA Tryz.prog H p 23 (.pointer (some ⟨A, off, some n⟩)) (.agg cs) = put H p A off n H[A]? cs.toList := st_agg sz23 A off n cs hx hl
theorem st25 (H : Heap) (p A off n : Nat) (cs : Array Value) (hx : cs.toList.all oneC = true) (hl : cs.size = 15) : stA Tryz.prog H p 25 (.pointer (some ⟨A, off, some n⟩)) (.agg cs) = put H p A off n H[A]? cs.toList := st_agg sz25 A off n cs hx hl
attribute [go_sem] cl55 cl31 al23 al25 st23 st25
def ruleOf (d : List UInt8) : RuleL :=
  if ([74] : List UInt8).isPrefixOf d = true then ⟨0, 0, 0, atoiV (d.drop 1), 7200⟩
  else match ([77] : List UInt8).isPrefixOf d, pieces 46 (if ([77] : List UInt8).isPrefixOf d = true then d.drop 1 else d) with
    | true, [a, b, c] => ⟨2, atoiV a, atoiV b, atoiV c, 7200⟩
    | _, _ => ⟨1, 0, 0, atoiV d, 7200⟩
def atOf (r : RuleL) (rest : List UInt8) : RuleL × List UInt8 :=
  if ([47] : List UInt8).isPrefixOf rest = true then ({ r with at_ := (takeTimeL (rest.drop 1)).1 }, (takeTimeL (rest.drop 1)).2) else (r, rest)
def takeRule1 (s : List UInt8) : RuleL × List UInt8 :=
  if 0 ≤ anyI s then atOf (ruleOf (s.take (anyI s).toNat)) (s.drop (anyI s).toNat) else (ruleOf s, [])
def takeRuleL (s : List UInt8) : RuleL × List UInt8 := takeRule1 (if ([44] : List UInt8).isPrefixOf s = true then s.drop 1 else s)
theorem anyI_lt (s : List UInt8) (h : 0 ≤ anyI s) : anyI s < s.length := by
  unfold anyI at *
  cases hi : s.findIdx? (fun b => b == 44 || b == 47) with
  | none => rw [hi] at h; simp only at h; omega
  | some i =>
    simp only
    have := (List.findIdx?_eq_some_iff_getElem.1 hi).1
    omega
theorem pieces_three (d : List UInt8) : (∃ a b c, pieces 46 d = [a, b, c] ∧ d.count 46 = 2) ∨ (¬ (((d.count 46 + 1 : Nat) : Int) = 3) ∧ ∀ a b c, pieces 46 d ≠ [a, b, c]) := by
  have hl := pieces_len 46 d
  match h : pieces 46 d, hl with
  | [], hl => simp at hl
  | [a], hl => exact .inr ⟨by simp at hl; omega, fun _ _ _ h => by simp at h⟩
  | [a, b], hl => exact .inr ⟨by simp at hl; omega, fun _ _ _ h => by simp at h⟩
  | [a, b, c], hl => exact .inl ⟨a, b, c, rfl, by simp at hl; omega⟩
  | a :: b :: c :: e :: r, hl => exact .inr ⟨by simp at hl; omega, fun _ _ _ h => by simp at h⟩
theorem atoi_len {d : List UInt8} (hd : d.length ≤ 1000) {a : List UInt8} (h : a ∈ pieces 46 d) : a.length ≤ 1000000 := by
  have := piecesN_le 46 _ d a h
  omega
set_option maxHeartbeats 1000000 in
theorem F33 (s : List UInt8) (hs : s.length ≤ 1000) (p : Nat) (H : Heap) : F 33 #[str s] p H = some (.returned (.tuple #[(takeRuleL s).1.v, str (takeRuleL s).2]), H) := by
  rw [F, F_pure (f := 33) (X := X) (cl := cl) rfl rfl rfl Tryz.func33 rfl (by simp only [go_sem]), Tryz.results33]
  rw [takeRuleL]
  have hl : (if ([44] : List UInt8).isPrefixOf s = true then s.drop 1 else s).length ≤ 1000 := by
    split
    · simp; omega
    · omega
  have h53 := F53 s [44]
  simp only [List.length_cons, List.length_nil, Nat.zero_add] at h53
  generalize (if ([44] : List UInt8).isPrefixOf s = true then s.drop 1 else s) = q at *
  have h54 := F54 q (by omega)
  by_cases hi : 0 ≤ anyI q
  case' pos =>
    have hlt := anyI_lt q hi
    have hb : (q.take (anyI q).toNat).length ≤ 1000 := by simp; omega
    rw [takeRule1, if_pos hi]
    have hb2 : (q.drop (anyI q).toNat).length ≤ 1000 := by simp; omega
    simp (disch := first | omega | (simp only [go_sem]; done)) only [go_sem, h53, h54, hi]
    generalize q.take (anyI q).toNat = d at *
    generalize q.drop (anyI q).toNat = rest at *
    have hb3 : (rest.drop 1).length ≤ 1000 := by simp; omega
    have hrest := hb3
  case' neg =>
    rw [takeRule1, if_neg hi]
    simp (disch := first | omega | (simp only [go_sem]; done)) only [go_sem, h53, h54, hi]
    have hb := hl
    generalize q = d at *
    obtain ⟨rest, hrest⟩ : ∃ rest : List UInt8, rest = [] := ⟨_, rfl⟩
    have hb3 : (rest.drop 1).length ≤ 1000 := by subst hrest; simp
    have hS' : ([47] : List UInt8).isPrefixOf rest = false := by subst hrest; rfl
  all_goals
    have hd1 : (d.drop 1).length ≤ 1000 := by simp; omega
    have hS0 : ([47] : List UInt8).isPrefixOf ([] : List UInt8) = false := rfl
    have h31 := F31 (rest.drop 1) hb3
    have h55a := F55 d (by omega)
    have h55b := F55 (d.drop 1) (by omega)
    have h57a := F57 d 46 (by omega)
    have h57b := F57 (d.drop 1) 46 (by omega)
    cases hJ : ([74] : List UInt8).isPrefixOf d with
    | true =>
      have hr : ruleOf d = ⟨0, 0, 0, atoiV (d.drop 1), 7200⟩ := by rw [ruleOf, if_pos hJ]
      have hdl : 1 ≤ d.length := by
        cases d with
        | nil => cases hJ
        | cons a l => simp
      cases hM : ([77] : List UInt8).isPrefixOf d <;> cases hS : ([47] : List UInt8).isPrefixOf rest <;>
        first | (exfalso; rw [hS'] at hS; cases hS; done) | simp (disch := first | omega | (simp only [go_sem]; done)) only [go_sem, hS0, hrest, hJ, hM, hS, h57a, h57b, h55a, h55b, h31, hr, atOf]
    | false =>
      cases hM : ([77] : List UInt8).isPrefixOf d with
      | false =>
        have hr : ruleOf d = ⟨1, 0, 0, atoiV d, 7200⟩ := by rw [ruleOf, if_neg (by simp [hJ])]; simp only [hM]
        cases hS : ([47] : List UInt8).isPrefixOf rest <;>
          first | (exfalso; rw [hS'] at hS; cases hS; done) | simp (disch := first | omega | (simp only [go_sem]; done)) only [go_sem, hS0, hrest, hJ, hM, hS, h57a, h57b, h55a, h55b, h31, hr, atOf]
      | true =>
        rcases pieces_three (d.drop 1) with ⟨a, b, c, hp, hc⟩ | ⟨hc, hp⟩
        · have hr : ruleOf d = ⟨2, atoiV a, atoiV b, atoiV c, 7200⟩ := by rw [ruleOf, if_neg (by simp [hJ])]; simp only [hM, if_true, hp]
          have ha := F55 a (atoi_len hd1 (by rw [hp]; simp))
          have hb' := F55 b (atoi_len hd1 (by rw [hp]; simp))
          have hc' := F55 c (atoi_len hd1 (by rw [hp]; simp))
          cases hS : ([47] : List UInt8).isPrefixOf rest <;>
            first | (exfalso; rw [hS'] at hS; cases hS; done) | simp (disch := first | omega | (simp only [go_sem]; done)) only [go_sem, hS0, hrest, hJ, hM, hS, h57a, h57b, ha, hb', hc', h31, hr, atOf, hp, hc]
        · have hr : ruleOf d = ⟨1, 0, 0, atoiV d, 7200⟩ := by
            rw [ruleOf, if_neg (by simp [hJ])]
            simp only [hM, if_true]
            split
            · rename_i h; exact absurd h (hp _ _ _)
            · rfl
          cases hS : ([47] : List UInt8).isPrefixOf rest <;>
            first | (exfalso; rw [hS'] at hS; cases hS; done) | simp (disch := first | omega | (simp only [go_sem]; done)) only [go_sem, hS0, hrest, hJ, hM, hS, h57a, h57b, h55a, h55b, h31, hr, atOf, hc]
end Go.AM.Z

namespace Go.AM.Z
open Go Go.AM Go.Proofs
set_option maxRecDepth 100000
theorem valGo_bound : ∀ (ps : List (List UInt8)) (n u m : Int), valGo ps n u = some m → 0 ≤ n → 0 ≤ u → u ≤ 3600 → 0 ≤ m ∧ m ≤ n + 2177276400 * (ps.length : Int)
  | [], n, u, m, h, h1, h2, h3 => by
    rw [valGo] at h
    injection h with h
    subst h
    simp; omega
  | p :: ps, n, u, m, h, h1, h2, h3 => by
    rw [valGo] at h
    split at h
    · cases h
    · rename_i hq
      have x1 : 0 ≤ atoiV p * u := Int.mul_nonneg (by omega) h2
      have x2 : atoiV p * u ≤ 2177276400 := by
        have := Int.mul_le_mul (show atoiV p ≤ 604799 by omega) h3 h2 (by omega)
        omega
      have := valGo_bound ps _ _ m h (by omega) (by omega) (by omega)
      simp only [List.length_cons]
      omega
theorem val1_bound (sg : Int) (hsg : sg = 1 ∨ sg = -1) (s : List UInt8) (hs : s.length ≤ 1000) : -10000000000000 ≤ val1 sg s ∧ val1 sg s ≤ 10000000000000 := by
  unfold val1
  split
  · omega
  · rename_i n hn
    have := valGo_bound _ _ _ _ hn (by omega) (by omega) (by omega)
    have h1 := pieces_len 58 s
    have h2 : s.count 58 ≤ s.length := List.count_le_length
    rcases hsg with rfl | rfl <;> omega
theorem valueL_bound (s : List UInt8) (hs : s.length ≤ 1000) : -10000000000000 ≤ valueL s ∧ valueL s ≤ 10000000000000 := by
  unfold valueL
  split
  · exact val1_bound _ (.inr rfl) _ (by simp; omega)
  · exact val1_bound _ (.inl rfl) _ hs
theorem takeTime_bound (s : List UInt8) (hs : s.length ≤ 1000) : -10000000000000 ≤ (takeTimeL s).1 ∧ (takeTimeL s).1 ≤ 10000000000000 ∧ (takeTimeL s).2.length ≤ s.length := by
  have := valueL_bound (pre timeSet s) (by unfold pre; simp; omega)
  exact ⟨this.1, this.2, cutL_len _ _⟩
theorem takeName_bound (s : List UInt8) : (takeNameL s).1.length ≤ s.length ∧ (takeNameL s).2.length ≤ s.length := by
  unfold takeNameL
  split
  · split
    · simp; omega
    · simp
  · exact ⟨by unfold pre; rw [List.length_take]; omega, cutL_len _ _⟩
theorem atOf_bound (r : RuleL) (s : List UInt8) (hs : s.length ≤ 1000) : (atOf r s).2.length ≤ s.length := by
  unfold atOf
  split
  · have := (takeTime_bound (s.drop 1) (by simp; omega)).2.2
    simp at this ⊢
    omega
  · exact Nat.le_refl _
theorem takeRule_bound (s : List UInt8) (hs : s.length ≤ 1000) : (takeRuleL s).2.length ≤ s.length := by
  have key : ∀ q : List UInt8, q.length ≤ 1000 → (takeRule1 q).2.length ≤ q.length := fun q hq => by
    unfold takeRule1
    split
    · have := atOf_bound (ruleOf (q.take (anyI q).toNat)) (q.drop (anyI q).toNat) (by simp; omega)
      simp at this ⊢
      omega
    · simp
  unfold takeRuleL
  split
  · have := key (s.drop 1) (by simp; omega)
    rw [List.length_drop] at this
    omega
  · exact key s hs
/-- What a text is read as, loosely. -/
def aheadOf (off : Int) (l : List UInt8) : Int × List UInt8 := if ([44] : List UInt8).isPrefixOf l = true then (off + 3600, l) else (-(takeTimeL l).1, (takeTimeL l).2)
def looseL (s : List UInt8) : ZoneL :=
  let a := takeNameL s
  let b := takeTimeL a.2
  if b.2 = [] then ⟨a.1, -b.1, false, [], 0, .z, .z⟩
  else
    let c := takeNameL b.2
    let d := aheadOf (-b.1) c.2
    let e := takeRuleL d.2
    let f := takeRuleL e.2
    ⟨a.1, -b.1, true, c.1, d.1, e.1, f.1⟩
def zeroZ : ZoneL := ⟨[], 0, false, [], 0, .z, .z⟩
def parseL (s : List UInt8) : ZoneL × Int := if 100 < s.length then (zeroZ, 4) else if (looseL s).may = true ∧ writeL (looseL s) = s then (looseL s, 0) else (zeroZ, 2)
theorem F10' (a1 a4 : List UInt8) (a3 : Bool) (a2 a5 b1 b2 b3 b4 b5 c1 c2 c3 c4 c5 : Int) (h1 : a1.length ≤ 4611686018427387904) (h2 : a4.length ≤ 4611686018427387904) (p : Nat) (H : Heap) :
    F 10 #[.agg #[str a1, .int .i64 a2, .bool a3, str a4, .int .i64 a5, .int .i64 b1, .int .i64 b2, .int .i64 b3, .int .i64 b4, .int .i64 b5, .int .i64 c1, .int .i64 c2, .int .i64 c3, .int .i64 c4, .int .i64 c5]] p H =
      some (.returned (.tuple (if (ZoneL.mk a1 a2 a3 a4 a5 ⟨b1, b2, b3, b4, b5⟩ ⟨c1, c2, c3, c4, c5⟩).may = true then #[str (writeL ⟨a1, a2, a3, a4, a5, ⟨b1, b2, b3, b4, b5⟩, ⟨c1, c2, c3, c4, c5⟩⟩), .int .i64 0] else #[str [], .int .i64 1])), H) := F10 ⟨a1, a2, a3, a4, a5, ⟨b1, b2, b3, b4, b5⟩, ⟨c1, c2, c3, c4, c5⟩⟩ h1 h2 p H
theorem bld25e : bldV Tryz.prog 25 #[] = some (.agg #[str [], .int .i64 0, .bool false, str [], .int .i64 0, .int .i64 0, .int .i64 0, .int .i64 0, .int .i64 0, .int .i64 0, .int .i64 0, .int .i64 0, .int .i64 0, .int .i64 0, .int .i64 0]) := by
  have h := bld25 [] rfl
  exact h.trans rfl
attribute [go_sem] bld25e
set_option maxHeartbeats 1000000 in
theorem F14 (s : List UInt8) (hs : s.length ≤ 1000000) (p : Nat) (H : Heap) : F 14 #[str s] p H = some (.returned (.tuple #[(parseL s).1.v, .int .i64 (parseL s).2]), H) := by
  rw [F, F_pure (f := 14) (X := X) (cl := cl) rfl rfl rfl Tryz.func14 rfl (by simp only [go_sem]), Tryz.results14]
  by_cases hl : 100 < s.length
  · have hl' : (100 : Int) < s.length := by omega
    rw [parseL, if_pos hl]
    simp only [go_sem, hl', zeroZ, RuleL.z]
  · have hl' : ¬ (100 : Int) < s.length := by omega
    rw [parseL, if_neg hl]
    have n1 := takeName_bound s
    have t1 := takeTime_bound (takeNameL s).2 (by omega)
    have h30 := F30 s (by omega)
    have h31 := F31 (takeNameL s).2 (by omega)
    by_cases hb : (takeTimeL (takeNameL s).2).2 = []
    · have hz : looseL s = ⟨(takeNameL s).1, -(takeTimeL (takeNameL s).2).1, false, [], 0, ⟨0, 0, 0, 0, 0⟩, ⟨0, 0, 0, 0, 0⟩⟩ := by
        simp only [looseL, hb, if_true, RuleL.z]
      rw [hz]
      have h10 := F10' (takeNameL s).1 [] false (-(takeTimeL (takeNameL s).2).1) 0 0 0 0 0 0 0 0 0 0 0 (by omega) (by simp)
      generalize hmm : (ZoneL.mk (takeNameL s).1 (-(takeTimeL (takeNameL s).2).1) false [] 0 ⟨0, 0, 0, 0, 0⟩ ⟨0, 0, 0, 0, 0⟩) = zz at *
      cases hm : zz.may with
      | false =>
        rw [hm] at h10
        simp (disch := first | omega | (simp only [go_sem]; done)) only [go_sem, hl', h30, h31, hb, un_neg, h10, false_and, zeroZ, RuleL.z]
      | true =>
        rw [hm] at h10
        by_cases hw : writeL zz = s
        · simp (disch := first | omega | (simp only [go_sem]; done)) only [go_sem, hl', h30, h31, hb, un_neg, h10, false_and, zeroZ, RuleL.z, hw]
          simp only [← hmm]
        · simp (disch := first | omega | (simp only [go_sem]; done)) only [go_sem, hl', h30, h31, hb, un_neg, h10, false_and, zeroZ, RuleL.z, hw]
    · have n2 := takeName_bound (takeTimeL (takeNameL s).2).2
      have h30' := F30 (takeTimeL (takeNameL s).2).2 (by omega)
      have t2 := takeTime_bound (takeNameL (takeTimeL (takeNameL s).2).2).2 (by omega)
      have h31' := F31 (takeNameL (takeTimeL (takeNameL s).2).2).2 (by omega)
      obtain ⟨ah, l4, had, hah, hl4⟩ : ∃ ah l4, aheadOf (-(takeTimeL (takeNameL s).2).1) (takeNameL (takeTimeL (takeNameL s).2).2).2 = (ah, l4) ∧ (-100000000000000 ≤ ah ∧ ah ≤ 100000000000000) ∧ l4.length ≤ 1000 := by
        refine ⟨(aheadOf (-(takeTimeL (takeNameL s).2).1) (takeNameL (takeTimeL (takeNameL s).2).2).2).1, (aheadOf (-(takeTimeL (takeNameL s).2).1) (takeNameL (takeTimeL (takeNameL s).2).2).2).2, rfl, ?_, ?_⟩
        · unfold aheadOf; split <;> simp only <;> omega
        · unfold aheadOf; split <;> simp only <;> omega
      have r1 := takeRule_bound l4 hl4
      have h33 := F33 l4 hl4
      have h33' := F33 (takeRuleL l4).2 (by omega)
      have hz : looseL s = ⟨(takeNameL s).1, -(takeTimeL (takeNameL s).2).1, true, (takeNameL (takeTimeL (takeNameL s).2).2).1, ah, ⟨(takeRuleL l4).1.k, (takeRuleL l4).1.mo, (takeRuleL l4).1.we, (takeRuleL l4).1.da, (takeRuleL l4).1.at_⟩, ⟨(takeRuleL (takeRuleL l4).2).1.k, (takeRuleL (takeRuleL l4).2).1.mo, (takeRuleL (takeRuleL l4).2).1.we, (takeRuleL (takeRuleL l4).2).1.da, (takeRuleL (takeRuleL l4).2).1.at_⟩⟩ := by
        simp only [looseL, hb, if_false, had]
      rw [hz]
      have h10 := F10' (takeNameL s).1 (takeNameL (takeTimeL (takeNameL s).2).2).1 true (-(takeTimeL (takeNameL s).2).1) ah (takeRuleL l4).1.k (takeRuleL l4).1.mo (takeRuleL l4).1.we (takeRuleL l4).1.da (takeRuleL l4).1.at_ (takeRuleL (takeRuleL l4).2).1.k (takeRuleL (takeRuleL l4).2).1.mo (takeRuleL (takeRuleL l4).2).1.we (takeRuleL (takeRuleL l4).2).1.da (takeRuleL (takeRuleL l4).2).1.at_ (by omega) (by omega)
      generalize hmm : (ZoneL.mk (takeNameL s).1 _ true _ _ _ _) = zz at *
      unfold aheadOf at had
      cases hq : ([44] : List UInt8).isPrefixOf (takeNameL (takeTimeL (takeNameL s).2).2).2 with
      | true =>
        rw [if_pos hq] at had
        injection had with had1 had2
        rw [had2] at hq
        cases hm : zz.may with
        | false =>
          rw [hm] at h10
          simp (disch := first | omega | (simp only [go_sem]; done)) only [go_sem, hl', h30, h31, hb, h30', hq, un_neg, bin_add, had1, had2, h33, h33', h10, false_and, zeroZ, RuleL.z]
        | true =>
          rw [hm] at h10
          by_cases hw : writeL zz = s
          · simp (disch := first | omega | (simp only [go_sem]; done)) only [go_sem, hl', h30, h31, hb, h30', hq, un_neg, bin_add, had1, had2, h33, h33', h10, false_and, zeroZ, RuleL.z, hw]
            simp only [← hmm]
          · simp (disch := first | omega | (simp only [go_sem]; done)) only [go_sem, hl', h30, h31, hb, h30', hq, un_neg, bin_add, had1, had2, h33, h33', h10, false_and, zeroZ, RuleL.z, hw]
      | false =>
        rw [if_neg (by simp [hq])] at had
        injection had with had1 had2
        cases hm : zz.may with
        | false =>
          rw [hm] at h10
          simp (disch := first | omega | (simp only [go_sem]; done)) only [go_sem, hl', h30, h31, hb, h30', h31', hq, un_neg, bin_add, had1, had2, h33, h33', h10, false_and, zeroZ, RuleL.z]
        | true =>
          rw [hm] at h10
          by_cases hw : writeL zz = s
          · simp (disch := first | omega | (simp only [go_sem]; done)) only [go_sem, hl', h30, h31, hb, h30', h31', hq, un_neg, bin_add, had1, had2, h33, h33', h10, false_and, zeroZ, RuleL.z, hw]
            simp only [← hmm]
          · simp (disch := first | omega | (simp only [go_sem]; done)) only [go_sem, hl', h30, h31, hb, h30', h31', hq, un_neg, bin_add, had1, had2, h33, h33', h10, false_and, zeroZ, RuleL.z, hw]
end Go.AM.Z
