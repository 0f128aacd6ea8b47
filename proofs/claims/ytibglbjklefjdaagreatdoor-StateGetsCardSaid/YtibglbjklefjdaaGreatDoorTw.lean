/-
  The reference's writer and reader of states, as plain functions; both Gets answer alike; the law StateGets answers true on the abstract machine. No condition but that the argument is what its type lets in.
-/
import Derived.Test.YtibglbjklefjdaaGreatDoorTi
import Derived.Test.YtibglbjklefjdaaGreatDoorTu
set_option linter.all false
set_option linter.unusedSimpArgs false
set_option linter.unusedVariables false
set_option linter.unusedSectionVars false
namespace Go.AM.Z
open Go Go.AM Go.Proofs
set_option maxRecDepth 100000
theorem mk8 {H : Heap} : mkSl Tryz.prog 33 (.int .i64 8) (.int .i64 8) H = some (.slice (some ⟨H.length, 0, some 8⟩) 8 1, H ++ [⟨0, 5, #[.int .u8 0, .int .u8 0, .int .u8 0, .int .u8 0, .int .u8 0, .int .u8 0, .int .u8 0, .int .u8 0], 0, false, []⟩]) := by
  unfold mkSl
  simp only [Tryz.underlying33, sz5]
  rfl
theorem cv_u64 {p : Nat} (H : Heap) (n : Int) : cvS Tryz.prog p 3 119 (.int .i64 n) H = some (.int .u64 (n % 18446744073709551616), H) := by
  rw [cvS_ne (by decide), conv_intInt Tryz.underlying3 Tryz.underlying119]
  unfold IntKind.wrap
  simp [IntKind.bits, IntKind.signed]
theorem cv_u64b {p : Nat} (H : Heap) (n : Int) (h1 : 0 ≤ n) (h2 : n < 256) : cvS Tryz.prog p 119 5 (.int .u64 n) H = some (.int .u8 n, H) := by
  rw [cvS_ne (by decide), conv_intInt Tryz.underlying119 Tryz.underlying5, wrap_u8 h1 h2]
theorem rem256 {c : Bool} {T : TypeId} (n : Int) (h : 0 ≤ n) : binV Tryz.prog c .rem T (.int .u64 n) (.int .u64 256) = some (.int .u64 (n % 256)) := by
  rw [bin_rem .u64 (by decide), Int.tmod_eq_emod_of_nonneg h]
theorem quo256 {c : Bool} {T : TypeId} (n : Int) (h : 0 ≤ n) (h2 : n < 18446744073709551616) : binV Tryz.prog c .quo T (.int .u64 n) (.int .u64 256) = some (.int .u64 (n / 256)) := by
  have e : IntKind.u64.wrap (n.tdiv 256) = n / 256 := by
    rw [Int.tdiv_eq_ediv_of_nonneg h]
    unfold IntKind.wrap
    simp [IntKind.bits, IntKind.signed]
    omega
  rw [binV_ints (v := .int .u64 (IntKind.u64.wrap (n.tdiv 256))) (by simp [binOp, Op.intDiv]; try rfl) rfl, e]
theorem FrNumber (n : Int) (p : Nat) (H : Heap) : F 35 #[i64v n] p H = some (.returned (.slice (some ⟨H.length, 0, some 8⟩) 8 1), H ++ [⟨0, 5, (u8s (numB n)).toArray, 8, false, []⟩]) := by
  rw [F, F_quiet (f := 35) (X := X) (cl := cl) rfl rfl rfl Tryz.func35 rfl, Tryz.results35]
  have hx : 0 ≤ n % 18446744073709551616 ∧ n % 18446744073709551616 < 18446744073709551616 := by omega
  generalize hxx : n % 18446744073709551616 = x at hx
  have cx : ∀ (p : Nat) (G : Heap), cvS Tryz.prog p 3 119 (.int .i64 n) G = some (.int .u64 x, G) := fun p G => by rw [cv_u64, hxx]
  simp (disch := first | assumption | omega | (simp only [go_sem] <;> omega) | fail) only [go_sem, cx, mk8, E_loop, rem256, quo256, cv_u64b]
  have e : ∀ i : Nat, u8v (byteAt n i) = .int .u8 ((n / 256 ^ i) % 256) := fun i => by
    show Value.int .u8 ((byteAt n i).toNat : Int) = _
    rw [byte_nat]
  have e2 : n / 256 ^ 2 = n / 256 / 256 := by rw [Int.ediv_ediv_of_nonneg (by decide)]; rfl
  have e3 : n / 256 ^ 3 = n / 256 / 256 / 256 := by rw [Int.ediv_ediv_of_nonneg (by decide), Int.ediv_ediv_of_nonneg (by decide)]; rfl
  have e4 : n / 256 ^ 4 = n / 256 / 256 / 256 / 256 := by rw [Int.ediv_ediv_of_nonneg (by decide), Int.ediv_ediv_of_nonneg (by decide), Int.ediv_ediv_of_nonneg (by decide)]; rfl
  have e5 : n / 256 ^ 5 = n / 256 / 256 / 256 / 256 / 256 := by rw [Int.ediv_ediv_of_nonneg (by decide), Int.ediv_ediv_of_nonneg (by decide), Int.ediv_ediv_of_nonneg (by decide), Int.ediv_ediv_of_nonneg (by decide)]; rfl
  have e6 : n / 256 ^ 6 = n / 256 / 256 / 256 / 256 / 256 / 256 := by rw [Int.ediv_ediv_of_nonneg (by decide), Int.ediv_ediv_of_nonneg (by decide), Int.ediv_ediv_of_nonneg (by decide), Int.ediv_ediv_of_nonneg (by decide), Int.ediv_ediv_of_nonneg (by decide)]; rfl
  have e7 : n / 256 ^ 7 = n / 256 / 256 / 256 / 256 / 256 / 256 / 256 := by rw [Int.ediv_ediv_of_nonneg (by decide), Int.ediv_ediv_of_nonneg (by decide), Int.ediv_ediv_of_nonneg (by decide), Int.ediv_ediv_of_nonneg (by decide), Int.ediv_ediv_of_nonneg (by decide), Int.ediv_ediv_of_nonneg (by decide)]; rfl
  have e1 : n / 256 ^ 1 = n / 256 := by rw [Int.pow_one]
  have e0 : n / 256 ^ 0 = n := by rw [Int.pow_zero, Int.ediv_one]
  simp only [numB, bytesTo, u8s, List.map_cons, List.map_nil, e, e0, e1, e2, e3, e4, e5, e6, e7]
  rw [show x % 256 = n % 256 by omega, show x / 256 % 256 = n / 256 % 256 by omega, show x / 256 / 256 % 256 = n / 256 / 256 % 256 by omega, show x / 256 / 256 / 256 % 256 = n / 256 / 256 / 256 % 256 by omega,
    show x / 256 / 256 / 256 / 256 % 256 = n / 256 / 256 / 256 / 256 % 256 by omega, show x / 256 / 256 / 256 / 256 / 256 % 256 = n / 256 / 256 / 256 / 256 / 256 % 256 by omega, show x / 256 / 256 / 256 / 256 / 256 / 256 % 256 = n / 256 / 256 / 256 / 256 / 256 / 256 % 256 by omega,
    show x / 256 / 256 / 256 / 256 / 256 / 256 / 256 % 256 = n / 256 / 256 / 256 / 256 / 256 / 256 / 256 % 256 by omega]
def WrR (p : Nat) (H : Heap) (l : List UInt8) (call : Option (Ending × Heap)) : Prop := ∃ q Z, call = some (.returned (slv q l.length 1), H ++ Z) ∧ OwnS H.length (H ++ Z) q (u8s l)
theorem WrR.cat {p : Nat} {H : Heap} {l : List UInt8} {q : Q} {Z : Heap} (h : OwnS H.length (H ++ Z) q (u8s l)) : CAt (H ++ Z) q (u8s l) := h.cat
theorem FrText (s : List UInt8) (hs : s.length ≤ 1099511627776) (p : Nat) (H : Heap) : WrR p H (textB s) (F 36 #[str s] p H) := by
  rw [F, F_quiet (f := 36) (X := X) (cl := cl) rfl rfl rfl Tryz.func36 rfl, Tryz.results36]
  have hn := FrNumber s.length H.length H
  have hown : OwnS H.length (H ++ [⟨0, 5, (u8s (numB s.length)).toArray, 8, false, []⟩]) (some (H.length, 0, 8)) (u8s (numB s.length)) :=
    ⟨rfl, by simp [numB_len], Nat.le_refl _, _, at_end rfl, rfl, by simp, rfl, rfl⟩
  have hsrc := src_str (H := H ++ [⟨0, 5, (u8s (numB s.length)).toArray, 8, false, []⟩]) s
  obtain ⟨q1, H1, a1, a2, a3, a4, a5, _⟩ := app_own (P := Tryz.prog) (p := H.length) (T' := 9) (st := 33) (q := some (H.length, 0, 8)) (len := 8) (m := s.length) (s := 1) Tryz.underlying33 ei33 (by omega) (by kernel_rfl) (by simp) hown (by simp [numB_len]) hsrc (by simp) (by omega)
  simp only [slv] at a1
  rcases q1 with _ | ⟨A, off, m⟩
  · exfalso
    have : u8s (numB s.length) ++ u8s s = [] := a2
    have := congrArg List.length this
    simp [numB_len] at this
  simp only [slv] at a1
  simp (disch := first | assumption | omega | (simp only [go_sem] <;> omega) | fail) only [go_sem, hn, a1]
  obtain ⟨Z, rfl⟩ := Pr.add (H := H) (H' := H1) ⟨by simp at a3; omega, fun B hB => (a4 B (by simp; omega) (fun hc => by obtain ⟨_, _, hc⟩ := hc; cases hc; omega)).trans (List.getElem?_append_left hB)⟩
  refine ⟨some (A, off, m), Z, ?_, ?_⟩
  · rw [textB, List.length_append, numB_len]; rfl
  · rw [textB, show u8s (numB s.length ++ s) = u8s (numB s.length) ++ u8s s by simp [u8s]]; exact a2
theorem nums_len : ∀ xs : List Int, (xs.flatMap numB).length = 8 * xs.length
  | [] => rfl
  | x :: xs => by rw [List.flatMap_cons, List.length_append, numB_len, nums_len xs, List.length_cons]; omega
theorem blk8 (G : Heap) (n : Int) : CAt (G ++ [⟨0, 5, (u8s (numB n)).toArray, 8, false, []⟩]) (some (G.length, 0, 8)) (u8s (numB n)) := by
  exact cat_lit (k := 0) rfl (by simp [numB_len]) (by simp [numB_len])
theorem own_app {p : Nat} {G : Heap} {q qs : Q} {l w : List UInt8} (hp : p ≤ G.length) (h : OwnS p G q (u8s l)) (hs : CAt G qs (u8s w)) (hb : l.length + w.length ≤ 1099511627776) :
    ∃ q' G', appW Tryz.prog p 33 33 (slv q l.length 1) (slv qs w.length 1) G = some (slv q' (l.length + w.length) 1, G') ∧ OwnS p G' q' (u8s (l ++ w)) ∧ G.length ≤ G'.length ∧ (∀ C, C < G.length → ¬ inq q C → G'[C]? = G[C]?) ∧ (∀ C, inq q' C → inq q C ∨ G.length ≤ C) := by
  obtain ⟨q1, H1, a1, a2, a3, a4, a5, _⟩ := app_own (P := Tryz.prog) (p := p) (T' := 33) (st := 33) (q := q) (len := l.length) (m := w.length) (s := 1) Tryz.underlying33 ei33 (by omega) ap33 hp h (by simp) (src_slv (s := 1) (len := w.length) hs (by simp) (by omega)) (by simp) (by omega)
  exact ⟨q1, H1, a1, by rw [show u8s (l ++ w) = u8s l ++ u8s w by simp [u8s]]; exact a2, a3, a4, a5⟩
theorem FrNumbers {qs : Q} {xs : List Int} {H : Heap} (hs : CAt H qs (i64s xs)) (hb : xs.length ≤ 1000000000) (p : Nat) : WrR p H (xs.flatMap numB) (F 37 #[slv qs xs.length 1] p H) := by
  have hok : okq qs xs.length := hs.okq (s := 1) (by simp) (by omega)
  rw [F, F_quiet (f := 37) (X := X) (cl := cl) rfl rfl rfl Tryz.func37 rfl, Tryz.results37]
  simp (disch := first | assumption | omega | (simp only [go_sem] <;> omega) | fail) only [go_sem]
  generalize hL : Code.loop _ = L
  generalize hT : upd _ 4 _ = T
  obtain ⟨e, t1, G1, k1, kPr, q1, kO, k2, k3⟩ := loop_up (P := Tryz.prog) (cl := cl) (X := X) (L := L) (p := H.length) (t := T) (H := H) xs.length
    (fun i t G => Pr H.length H G ∧ ∃ q, OwnS H.length G q (u8s ((xs.take i).flatMap numB)) ∧ t 3 = slv q (8 * i) 1 ∧ t 4 = i64v i ∧ t 0 = slv qs xs.length 1)
    (fun e t G => Pr H.length H G ∧ ∃ q, OwnS H.length G q (u8s (xs.flatMap numB)) ∧ e = .exit 0 ∧ t 3 = slv q (8 * xs.length) 1)
    (by
      rintro i t G hi ⟨hPr, q, hO, h3, h4, h0⟩
      left
      have hlt : (i : Int) < xs.length := by omega
      obtain ⟨n, hn⟩ : ∃ n, xs[i]? = some n := ⟨_, List.getElem?_eq_getElem hi⟩
      have hs1 : CAt G qs (i64s xs) := hs.keep fun B hB => hPr.2 B (CAt.lt hs B hB)
      have hld := ld_ptq (P := Tryz.prog) (T := 3) sz3 ag3 un3 hs1 (o := i) (v := i64v n) (by simp [i64s, hn])
      have hnum := FrNumber n H.length G
      have hl : ((xs.take i).flatMap numB).length = 8 * i := by rw [nums_len, List.length_take, Nat.min_eq_left (by omega)]
      obtain ⟨q2, G2, a1, a2, a3, a4, a5⟩ := own_app (p := H.length) (w := numB n) (by have := hPr.1; simp; omega) (hO.keep fun A hA => List.getElem?_append_left (hO.lt hA).2) (blk8 G n) (by rw [hl, numB_len]; omega)
      rw [hl, numB_len] at a1
      have a1' : appW Tryz.prog H.length 33 33 (slv q (8 * i) 1) (.slice (some ⟨G.length, 0, some 8⟩) 8 1) (G ++ [⟨0, 5, (u8s (numB n)).toArray, 8, false, []⟩]) = some (slv q2 (8 * i + 8) 1, G2) := a1
      rw [← hL, E_loop, hL]
      simp (disch := first | assumption | omega | (simp only [go_sem] <;> omega) | fail) only [go_sem, h0, h3, h4, hlt, hld, hnum, a1']
      refine ⟨_, _, rfl, ⟨by have := hPr.1; simp at a3; omega, fun B hB => ?_⟩, q2, ?_, ?_, ?_, ?_⟩
      · rw [a4 B (by have := hPr.1; simp; omega) (fun hc => by have := (hO.lt hc).1; omega), List.getElem?_append_left (by have := hPr.1; omega)]
        exact hPr.2 B hB
      · rw [List.take_succ_eq_append_getElem hi, List.flatMap_append]
        have : xs[i] = n := by rw [List.getElem?_eq_getElem hi] at hn; exact Option.some.inj hn
        rw [this]
        simpa using a2
      · simp only [go_sem, Nat.mul_succ] <;> rfl
      · simp only [go_sem, h4] <;> rfl
      · simp only [go_sem, h0])
    (by
      rintro t G ⟨hPr, q, hO, h3, h4, h0⟩
      have hlt : ¬ (xs.length : Int) < xs.length := by omega
      rw [← hL, E_loop, hL]
      simp (disch := first | assumption | omega | (simp only [go_sem] <;> omega) | fail) only [go_sem, h0, h3, h4, hlt]
      rw [List.take_length] at hO
      exact ⟨_, _, _, rfl, hPr, q, hO, rfl, by simp only [go_sem, h3]⟩)
    ⟨⟨Nat.le_refl _, fun _ _ => rfl⟩, none, rfl, (by rw [← hT]; simp only [go_sem] <;> rfl), (by rw [← hT]; simp only [go_sem] <;> rfl), (by rw [← hT]; simp only [go_sem] <;> rfl)⟩
  subst k2
  rw [k1]
  obtain ⟨Z, rfl⟩ := Pr.add kPr
  rcases q1 with _ | ⟨A, off, m⟩
  · have h0 : u8s (xs.flatMap numB) = [] := kO
    have hx : xs.length = 0 := by
      rw [u8s, List.map_eq_nil_iff] at h0
      have := nums_len xs
      rw [h0] at this
      simp at this
      omega
    simp only [slv, hx] at k3
    simp (disch := first | assumption | omega | (simp only [go_sem] <;> omega) | fail) only [go_sem, k3]
    refine ⟨none, [], ?_, h0⟩
    rw [nums_len, hx, List.append_nil]; rfl
  · simp only [slv] at k3
    simp (disch := first | assumption | omega | (simp only [go_sem] <;> omega) | fail) only [go_sem, k3]
    exact ⟨some (A, off, m), Z, by rw [nums_len]; rfl, kO⟩
structure Acc (p : Nat) (G : Heap) (q : Q) (m : Nat) (l : List UInt8) : Prop where
  own : OwnS p G q (u8s l)
  len : m = l.length
structure Stp (G : Heap) (q : Q) (G' : Heap) (q' : Q) : Prop where
  le : G.length ≤ G'.length
  old : ∀ C, C < G.length → ¬ inq q C → G'[C]? = G[C]?
  new : ∀ C, inq q' C → inq q C ∨ G.length ≤ C
theorem Stp.refl (G : Heap) (q : Q) : Stp G q G q := ⟨Nat.le_refl _, fun _ _ _ => rfl, fun _ h => .inl h⟩
theorem Stp.trans {a b c : Heap} {q q' q'' : Q} (h : Stp a q b q') (k : Stp b q' c q'') : Stp a q c q'' :=
  ⟨Nat.le_trans h.le k.le, fun C h1 h2 => (k.old C (Nat.lt_of_lt_of_le h1 h.le) (fun hc => (h.new C hc).elim h2 (by omega))).trans (h.old C h1 h2), fun C hc => (k.new C hc).elim (h.new C) (fun hh => .inr (Nat.le_trans h.le hh))⟩
theorem Stp.push (G : Heap) (q : Q) (Z : Heap) : Stp G q (G ++ Z) q := ⟨by simp, fun C h _ => List.getElem?_append_left h, fun _ h => .inl h⟩
theorem Acc.lt {p : Nat} {G : Heap} {q : Q} {m : Nat} {l : List UInt8} (h : Acc p G q m l) : ∀ B, inq q B → p ≤ B ∧ B < G.length := fun _ hB => h.own.lt hB
theorem Acc.push {p : Nat} {G : Heap} {q : Q} {m : Nat} {l : List UInt8} (h : Acc p G q m l) (Z : Heap) : Acc p (G ++ Z) q m l := ⟨h.own.keep fun _ hA => List.getElem?_append_left (h.own.lt hA).2, h.len⟩
theorem acc_app {p : Nat} {G : Heap} {q qs : Q} {m n : Nat} {l w : List UInt8} (h : Acc p G q m l) (hp : p ≤ G.length) (hn : n = w.length) (hs : CAt G qs (u8s w)) (hb : l.length + w.length ≤ 1099511627776) :
    ∃ q' m' G', appW Tryz.prog p 33 33 (slv q m 1) (slv qs n 1) G = some (slv q' m' 1, G') ∧ Acc p G' q' m' (l ++ w) ∧ Stp G q G' q' := by
  obtain ⟨q', G', a1, a2, a3, a4, a5⟩ := own_app hp h.own hs hb
  obtain rfl := h.len
  subst hn
  exact ⟨q', l.length + w.length, G', a1, ⟨a2, by simp⟩, ⟨a3, a4, a5⟩⟩
theorem acc_num {p : Nat} {G : Heap} {q : Q} {m : Nat} {l : List UInt8} (h : Acc p G q m l) (hp : p ≤ G.length) (n : Int) (hb : l.length + 8 ≤ 1099511627776) :
    ∃ v0 G1 q' m' G', F 35 #[.int .i64 n] p G = some (.returned v0, G1) ∧ appW Tryz.prog p 33 33 (slv q m 1) v0 G1 = some (slv q' m' 1, G') ∧ Acc p G' q' m' (l ++ numB n) ∧ Stp G q G' q' := by
  obtain ⟨q', m', G', a1, a2, a3⟩ := acc_app (h.push _) (by simp; omega) (numB_len n).symm (blk8 G n) (by rw [numB_len]; omega)
  exact ⟨_, _, q', m', G', FrNumber n p G, a1, a2, (Stp.push _ _ _).trans a3⟩
theorem acc_text {p : Nat} {G : Heap} {q : Q} {m : Nat} {l : List UInt8} (h : Acc p G q m l) (hp : p ≤ G.length) (s : List UInt8) (hb : l.length + (textB s).length ≤ 1099511627776) :
    ∃ v0 G1 q' m' G', F 36 #[str s] p G = some (.returned v0, G1) ∧ appW Tryz.prog p 33 33 (slv q m 1) v0 G1 = some (slv q' m' 1, G') ∧ Acc p G' q' m' (l ++ textB s) ∧ Stp G q G' q' := by
  obtain ⟨q0, Z, e, ho⟩ := FrText s (by have := textB_len s; omega) p G
  obtain ⟨q', m', G', a1, a2, a3⟩ := acc_app (h.push Z) (by simp; omega) rfl ho.cat hb
  exact ⟨_, _, q', m', G', e, a1, a2, (Stp.push _ _ _).trans a3⟩
theorem acc_nums {p : Nat} {G : Heap} {q qs : Q} {m : Nat} {l : List UInt8} (h : Acc p G q m l) (hp : p ≤ G.length) (xs : List Int) (hs : CAt G qs (i64s xs)) (hb : l.length + (xs.flatMap numB).length ≤ 100000000000) (hx : xs.length ≤ 1000000000) :
    ∃ v0 G1 q' m' G', F 37 #[slv qs xs.length 1] p G = some (.returned v0, G1) ∧ appW Tryz.prog p 33 33 (slv q m 1) v0 G1 = some (slv q' m' 1, G') ∧ Acc p G' q' m' (l ++ xs.flatMap numB) ∧ Stp G q G' q' := by
  obtain ⟨q0, Z, e, ho⟩ := FrNumbers hs hx p
  obtain ⟨q', m', G', a1, a2, a3⟩ := acc_app (h.push Z) (by simp; omega) rfl ho.cat (by omega)
  exact ⟨_, _, q', m', G', e, a1, a2, (Stp.push _ _ _).trans a3⟩
theorem acc_row {p : Nat} {G : Heap} {q : Q} {m : Nat} {l : List UInt8} (h : Acc p G q m l) (hp : p ≤ G.length) (xs : List Int) (n : Nat) (hn : n = xs.length) (hb : l.length + 8 * n ≤ 10000000000) (hx : n ≤ 100) :
    ∃ v0 G1 q' m' G', F 37 #[.slice (some ⟨G.length, 0, some n⟩) n 1] p (G ++ [⟨0, 3, (i64s xs).toArray, 0, false, []⟩]) = some (.returned v0, G1) ∧ appW Tryz.prog p 33 33 (slv q m 1) v0 G1 = some (slv q' m' 1, G') ∧ Acc p G' q' m' (l ++ xs.flatMap numB) ∧ Stp G q G' q' := by
  subst hn
  obtain ⟨v0, G1, q', m', G', a1, a2, a3, a4⟩ := acc_nums (qs := some (G.length, 0, xs.length)) (h.push [⟨0, 3, (i64s xs).toArray, 0, false, []⟩]) (by simp; omega) xs (cat_lit (k := 0) rfl (by simp) (by simp)) (by rw [nums_len]; omega) (by omega)
  exact ⟨v0, G1, q', m', G', a1, a2, a3, (Stp.push _ _ _).trans a4⟩
theorem acc_byte {p : Nat} {G : Heap} {q : Q} {m : Nat} {l : List UInt8} (h : Acc p G q m l) (hp : p ≤ G.length) (b : UInt8) (hb : l.length + 1 ≤ 1099511627776) :
    ∃ q' m' G', appW Tryz.prog p 33 33 (slv q m 1) (.slice (some ⟨G.length, 0, some 1⟩) 1 1) (G ++ [⟨0, 5, #[.int .u8 b.toNat], 0, false, []⟩]) = some (slv q' m' 1, G') ∧ Acc p G' q' m' (l ++ [b]) ∧ Stp G q G' q' := by
  obtain ⟨q', m', G', a1, a2, a3⟩ := acc_app (w := [b]) (qs := some (G.length, 0, 1)) (n := 1) (h.push [⟨0, 5, #[.int .u8 b.toNat], 0, false, []⟩]) (by simp; omega) rfl (cat_lit (k := 0) (cs := u8s [b]) rfl (by simp) (by simp)) (by simpa using hb)
  exact ⟨q', m', G', a1, a2, (Stp.push _ _ _).trans a3⟩
theorem flat_bound {α : Type} (f : α → List UInt8) : ∀ (l : List α) (i : Nat) (x : α), l[i]? = some x → ((l.take i).flatMap f).length + (f x).length ≤ (l.flatMap f).length
  | y :: l, 0, x, h => by
    simp only [List.getElem?_cons_zero, Option.some.injEq] at h; subst h
    simp
  | y :: l, i + 1, x, h => by
    have := flat_bound f l i x (by simpa using h)
    simp only [List.take_succ_cons, List.flatMap_cons, List.length_append]; omega
theorem flat_snoc {α : Type} (f : α → List UInt8) {l : List α} {i : Nat} {x : α} (h : l[i]? = some x) : (l.take (i + 1)).flatMap f = (l.take i).flatMap f ++ f x := by
  have hi := (List.getElem?_eq_some_iff.1 h).1
  have hx : l[i] = x := by rw [List.getElem?_eq_getElem hi] at h; exact Option.some.inj h
  rw [List.take_succ_eq_append_getElem hi, List.flatMap_append, hx]
  simp
set_option maxHeartbeats 4000000 in
theorem FrPut {O : Nat → Prop} {H : Heap} {s : StateL} {v : Value} (hs : StateAt O H s v) (hO : ∀ B, O B → B < H.length) (hb : (putL s).length ≤ 1000000000) (p : Nat) : ∃ q Z, q ≠ none ∧ F 14 #[v] p H = some (.returned (slv q (putL s).length 1), H ++ Z) ∧ CAt (H ++ Z) q (u8s (putL s)) := by
  obtain ⟨v1, v2, v3, rfl, ⟨q1, c1, rfl, hc1, hl1, hq1, hL1⟩, ⟨q2, c2, rfl, hc2, hl2, hq2, hL2⟩, ⟨q3, c3, rfl, hc3, hl3, hq3, hL3⟩⟩ := hs
  have hok1 : okq q1 s.subs.length := hc1.okq hl1 (by omega)
  have hok2 : okq q2 s.items.length := hc2.okq hl2 (by omega)
  have hok3 : okq q3 s.out.length := hc3.okq hl3 (by omega)
  have hbt : (s.subs.flatMap subB).length + (s.items.flatMap itemB).length + (s.out.flatMap outB).length + 40 ≤ 1000000000 := by
    simp only [putL, listB, List.length_append, numB_len] at hb
    omega
  have hm1 := flat_len subB (fun x => by simp only [subB, List.length_append, textB_len]; omega) s.subs
  have hm2 := flat_len itemB (fun x => by simp only [itemB, List.length_append, textB_len, numB_len]; omega) s.items
  have hm3 := flat_len outB (fun x => by simp only [outB, List.length_append, textB_len, numB_len]; omega) s.out
  rw [F, F_quiet (f := 14) (X := X) (cl := cl) rfl rfl rfl Tryz.func14 rfl, Tryz.results14]
  have ho1 : [slv q1 s.subs.length 9, slv q2 s.items.length 7, i64v s.seq, slv q3 s.out.length 9, i64v s.now].all oneC = true := by simp [oneC_slv, oneC_int]
  have hn0 := FrNumber s.subs.length H.length (H ++ [(⟨0, 26, #[slv q1 s.subs.length 9, slv q2 s.items.length 7, i64v s.seq, slv q3 s.out.length 9, i64v s.now], 0, false, []⟩ : Blk)])
  generalize hLa : Code.loop (.seq (.seq (.region 3 _ _) _) _) = La
  generalize hLb : Code.loop (.seq (.seq (.region 18 _ _) _) _) = Lb
  generalize hLc : Code.loop (.seq (.seq (.region 30 _ _) _) _) = Lc
  simp (disch := first | assumption | omega | (simp only [go_sem] <;> omega) | fail) only [go_sem, ho1, hn0]
  generalize hT : upd _ 4 _ = T
  have hA : Acc H.length (H ++ [(⟨0, 26, #[slv q1 s.subs.length 9, slv q2 s.items.length 7, i64v s.seq, slv q3 s.out.length 9, i64v s.now], 0, false, []⟩ : Blk)] ++ [⟨0, 5, (u8s (numB s.subs.length)).toArray, 8, false, []⟩]) (some (H.length + 1, 0, 8)) 8 (numB s.subs.length) :=
    ⟨⟨rfl, by simp [numB_len], by omega, _, at_end (by simp), rfl, by simp, rfl, rfl⟩, (numB_len _).symm⟩
  generalize hGG : H ++ [(⟨0, 26, #[slv q1 s.subs.length 9, slv q2 s.items.length 7, i64v s.seq, slv q3 s.out.length 9, i64v s.now], 0, false, []⟩ : Blk)] ++ [(⟨0, 5, (u8s (numB s.subs.length)).toArray, 8, false, []⟩ : Blk)] = GG at *
  have hGl : GG.length = H.length + 2 := by rw [← hGG]; simp
  have hGk : ∀ B, B < H.length → GG[B]? = H[B]? := fun B hB => by rw [← hGG, List.append_assoc]; exact List.getElem?_append_left hB
  have hGN : GG[H.length]? = some (⟨0, 26, #[slv q1 s.subs.length 9, slv q2 s.items.length 7, i64v s.seq, slv q3 s.out.length 9, i64v s.now], 0, false, []⟩ : Blk) := by rw [← hGG, List.getElem?_append_left (by simp)]; exact at_end rfl
  obtain ⟨e, t, G, k1, ⟨k2, kPr, kl, kN, q, m, hA, hN, h3, h1⟩⟩ := loop_up (P := Tryz.prog) (cl := cl) (X := X) (L := La) (p := H.length) (t := T) (H := GG) s.subs.length
    (fun i t G => Pr H.length H G ∧ H.length + 1 ≤ G.length ∧ G[H.length]? = some (⟨0, 26, #[slv q1 s.subs.length 9, slv q2 s.items.length 7, i64v s.seq, slv q3 s.out.length 9, i64v s.now], 0, false, []⟩ : Blk) ∧ ∃ q m, Acc H.length G q m (numB s.subs.length ++ (s.subs.take i).flatMap subB) ∧ ¬ inq q H.length ∧ t 3 = slv q m 1 ∧ t 4 = i64v i ∧ t 1 = .pointer (some ⟨H.length, 0, some 5⟩))
    (fun e t G => e = .exit 0 ∧ Pr H.length H G ∧ H.length + 1 ≤ G.length ∧ G[H.length]? = some (⟨0, 26, #[slv q1 s.subs.length 9, slv q2 s.items.length 7, i64v s.seq, slv q3 s.out.length 9, i64v s.now], 0, false, []⟩ : Blk) ∧ ∃ q m, Acc H.length G q m (numB s.subs.length ++ s.subs.flatMap subB) ∧ ¬ inq q H.length ∧ t 3 = slv q m 1 ∧ t 1 = .pointer (some ⟨H.length, 0, some 5⟩))
    (by
      rintro i t G hi ⟨hPr, hG, hNb, q, m, hA, hN, h3, h4, h1⟩
      left
      have hlt : (i : Int) < s.subs.length := by omega
      have hyi : s.subs[i]? = some s.subs[i] := List.getElem?_eq_getElem hi
      have hsn := flat_snoc subB hyi
      have hfb := flat_bound subB s.subs i _ hyi
      have hs1 : CAt G q1 c1 := hc1.keep fun B hB => hPr.2 B (CAt.lt hc1 B hB)
      have hE : SubE O H s.subs[i] ((c1.drop (i * 9)).take 9) := LC.nth SubE.len hL1 hyi
      have hq0 : q1 ≠ none := fun e => by have := hok1 e; omega
      have hld := ld_ptqA (P := Tryz.prog) (T := 29) (o := i * 9) sz29 ag29 hs1 (by rw [hl1]; have := Nat.mul_le_mul_right 9 hi; rw [Nat.succ_mul] at this; omega) hq0
      have hso := si22 q1 s.subs.length (i : Int) hok1 ⟨by omega, hlt⟩
      simp only [Int.toNat_natCast] at hso
      have hbd : (numB s.subs.length ++ (s.subs.take i).flatMap subB).length + (subB s.subs[i]).length ≤ 1000000000 := by
        have := hbt
        simp only [List.length_append, listB, numB_len] at *
        omega
      obtain ⟨qf, hc, hcf, hqf⟩ := hE
      rw [hc] at hld
      simp only [SubL.cells] at hld
      have hokf := hcf.okq (s := 1) (len := (s.subs[i]).feeds.length) (by simp) (by omega)
      generalize s.subs[i] = y at *
      have hx0 : (G ++ [(⟨0, 29, #[str y.addr, slv qf y.feeds.length 1, str y.zone, str y.cron, i64v y.start, i64v y.cursor, i64v y.no, i64v y.clock, .bool y.off], 9, false, []⟩ : Blk)])[G.length]? = some (⟨0, 29, #[str y.addr, slv qf y.feeds.length 1, str y.zone, str y.cron, i64v y.start, i64v y.cursor, i64v y.no, i64v y.clock, .bool y.off], 9, false, []⟩ : Blk) := at_end rfl
      have hy0 : (G ++ [(⟨0, 29, #[str y.addr, slv qf y.feeds.length 1, str y.zone, str y.cron, i64v y.start, i64v y.cursor, i64v y.no, i64v y.clock, .bool y.off], 9, false, []⟩ : Blk)])[H.length]? = some (⟨0, 26, #[slv q1 s.subs.length 9, slv q2 s.items.length 7, i64v s.seq, slv q3 s.out.length 9, i64v s.now], 0, false, []⟩ : Blk) := by rw [List.getElem?_append_left (by omega)]; exact hNb
      have low0 : ∀ B, B < H.length → (G ++ [(⟨0, 29, #[str y.addr, slv qf y.feeds.length 1, str y.zone, str y.cron, i64v y.start, i64v y.cursor, i64v y.no, i64v y.clock, .bool y.off], 9, false, []⟩ : Blk)])[B]? = H[B]? := fun B hB => by rw [List.getElem?_append_left (by omega)]; exact hPr.2 B hB
      have hA0 := hA.push [(⟨0, 29, #[str y.addr, slv qf y.feeds.length 1, str y.zone, str y.cron, i64v y.start, i64v y.cursor, i64v y.no, i64v y.clock, .bool y.off], 9, false, []⟩ : Blk)]
      have hK : ¬ inq q G.length := fun hc => by have := (hA.lt _ hc).2; omega
      have hG0l : (G ++ [(⟨0, 29, #[str y.addr, slv qf y.feeds.length 1, str y.zone, str y.cron, i64v y.start, i64v y.cursor, i64v y.no, i64v y.clock, .bool y.off], 9, false, []⟩ : Blk)]).length = G.length + 1 := by simp
      have sp0 := Stp.refl (G ++ [(⟨0, 29, #[str y.addr, slv qf y.feeds.length 1, str y.zone, str y.cron, i64v y.start, i64v y.cursor, i64v y.no, i64v y.clock, .bool y.off], 9, false, []⟩ : Blk)]) q
      rw [← hLa, E_loop, hLa]
      generalize hG0 : G ++ [(⟨0, 29, #[str y.addr, slv qf y.feeds.length 1, str y.zone, str y.cron, i64v y.start, i64v y.cursor, i64v y.no, i64v y.clock, .bool y.off], 9, false, []⟩ : Blk)] = G0 at *
      simp only [subB, List.length_append, offB, List.length_singleton] at hbd
      cases hoff : y.off with
      | true =>
        obtain ⟨v1, R1, r1, m1, G1, e1, a1, hA1, sq1⟩ := acc_text (p := H.length) hA0 (by have := sp0.le; have := hG0l; omega) (y.addr) (by have := hbd; simp only [List.length_append, numB_len, nums_len, ints_len, List.length_singleton, List.length_cons, List.length_nil] at *; omega)
        have sp1 := sp0.trans sq1
        have x1 : G1[G.length]? = some (⟨0, 29, #[str y.addr, slv qf y.feeds.length 1, str y.zone, str y.cron, i64v y.start, i64v y.cursor, i64v y.no, i64v y.clock, .bool y.off], 9, false, []⟩ : Blk) := (sp1.old G.length (by omega) hK).trans hx0
        have y1 : G1[H.length]? = some (⟨0, 26, #[slv q1 s.subs.length 9, slv q2 s.items.length 7, i64v s.seq, slv q3 s.out.length 9, i64v s.now], 0, false, []⟩ : Blk) := (sp1.old H.length (by omega) hN).trans hy0
        have low1 : ∀ B, B < H.length → G1[B]? = H[B]? := fun B hB => (sp1.old B (by omega) (fun hc => by have := (hA.lt B hc).1; omega)).trans (low0 B hB)
        obtain ⟨v2, R2, r2, m2, G2, e2, a2, hA2, sq2⟩ := acc_num (p := H.length) hA1 (by have := sp1.le; have := hG0l; omega) (y.feeds.length) (by have := hbd; simp only [List.length_append, numB_len, nums_len, ints_len, List.length_singleton, List.length_cons, List.length_nil] at *; omega)
        have sp2 := sp1.trans sq2
        have x2 : G2[G.length]? = some (⟨0, 29, #[str y.addr, slv qf y.feeds.length 1, str y.zone, str y.cron, i64v y.start, i64v y.cursor, i64v y.no, i64v y.clock, .bool y.off], 9, false, []⟩ : Blk) := (sp2.old G.length (by omega) hK).trans hx0
        have y2 : G2[H.length]? = some (⟨0, 26, #[slv q1 s.subs.length 9, slv q2 s.items.length 7, i64v s.seq, slv q3 s.out.length 9, i64v s.now], 0, false, []⟩ : Blk) := (sp2.old H.length (by omega) hN).trans hy0
        have low2 : ∀ B, B < H.length → G2[B]? = H[B]? := fun B hB => (sp2.old B (by omega) (fun hc => by have := (hA.lt B hc).1; omega)).trans (low0 B hB)
        obtain ⟨v3, R3, r3, m3, G3, e3, a3, hA3, sq3⟩ := acc_nums (p := H.length) hA2 (by have := sp2.le; have := hG0l; omega) (y.feeds) (hcf.keep fun B hB => low2 B (CAt.lt hcf B hB)) (by have := hbd; simp only [List.length_append, numB_len, nums_len, ints_len, List.length_singleton, List.length_cons, List.length_nil] at *; omega) (by have := hbd; simp only [List.length_append, numB_len, nums_len, ints_len, List.length_singleton, List.length_cons, List.length_nil] at *; omega)
        have sp3 := sp2.trans sq3
        have x3 : G3[G.length]? = some (⟨0, 29, #[str y.addr, slv qf y.feeds.length 1, str y.zone, str y.cron, i64v y.start, i64v y.cursor, i64v y.no, i64v y.clock, .bool y.off], 9, false, []⟩ : Blk) := (sp3.old G.length (by omega) hK).trans hx0
        have y3 : G3[H.length]? = some (⟨0, 26, #[slv q1 s.subs.length 9, slv q2 s.items.length 7, i64v s.seq, slv q3 s.out.length 9, i64v s.now], 0, false, []⟩ : Blk) := (sp3.old H.length (by omega) hN).trans hy0
        have low3 : ∀ B, B < H.length → G3[B]? = H[B]? := fun B hB => (sp3.old B (by omega) (fun hc => by have := (hA.lt B hc).1; omega)).trans (low0 B hB)
        obtain ⟨v4, R4, r4, m4, G4, e4, a4, hA4, sq4⟩ := acc_text (p := H.length) hA3 (by have := sp3.le; have := hG0l; omega) (y.zone) (by have := hbd; simp only [List.length_append, numB_len, nums_len, ints_len, List.length_singleton, List.length_cons, List.length_nil] at *; omega)
        have sp4 := sp3.trans sq4
        have x4 : G4[G.length]? = some (⟨0, 29, #[str y.addr, slv qf y.feeds.length 1, str y.zone, str y.cron, i64v y.start, i64v y.cursor, i64v y.no, i64v y.clock, .bool y.off], 9, false, []⟩ : Blk) := (sp4.old G.length (by omega) hK).trans hx0
        have y4 : G4[H.length]? = some (⟨0, 26, #[slv q1 s.subs.length 9, slv q2 s.items.length 7, i64v s.seq, slv q3 s.out.length 9, i64v s.now], 0, false, []⟩ : Blk) := (sp4.old H.length (by omega) hN).trans hy0
        have low4 : ∀ B, B < H.length → G4[B]? = H[B]? := fun B hB => (sp4.old B (by omega) (fun hc => by have := (hA.lt B hc).1; omega)).trans (low0 B hB)
        obtain ⟨v5, R5, r5, m5, G5, e5, a5, hA5, sq5⟩ := acc_text (p := H.length) hA4 (by have := sp4.le; have := hG0l; omega) (y.cron) (by have := hbd; simp only [List.length_append, numB_len, nums_len, ints_len, List.length_singleton, List.length_cons, List.length_nil] at *; omega)
        have sp5 := sp4.trans sq5
        have x5 : G5[G.length]? = some (⟨0, 29, #[str y.addr, slv qf y.feeds.length 1, str y.zone, str y.cron, i64v y.start, i64v y.cursor, i64v y.no, i64v y.clock, .bool y.off], 9, false, []⟩ : Blk) := (sp5.old G.length (by omega) hK).trans hx0
        have y5 : G5[H.length]? = some (⟨0, 26, #[slv q1 s.subs.length 9, slv q2 s.items.length 7, i64v s.seq, slv q3 s.out.length 9, i64v s.now], 0, false, []⟩ : Blk) := (sp5.old H.length (by omega) hN).trans hy0
        have low5 : ∀ B, B < H.length → G5[B]? = H[B]? := fun B hB => (sp5.old B (by omega) (fun hc => by have := (hA.lt B hc).1; omega)).trans (low0 B hB)
        obtain ⟨v6, R6, r6, m6, G6, e6, a6, hA6, sq6⟩ := acc_row (p := H.length) hA5 (by have := sp5.le; have := hG0l; omega) [y.start, y.cursor, y.no, y.clock] 4 rfl (by have := hbd; simp only [List.length_append, numB_len, nums_len, ints_len, List.length_singleton, List.length_cons, List.length_nil] at *; omega) (by omega)
        simp only [i64s, List.map_cons, List.map_nil] at e6
        have sp6 := sp5.trans sq6
        have x6 : G6[G.length]? = some (⟨0, 29, #[str y.addr, slv qf y.feeds.length 1, str y.zone, str y.cron, i64v y.start, i64v y.cursor, i64v y.no, i64v y.clock, .bool y.off], 9, false, []⟩ : Blk) := (sp6.old G.length (by omega) hK).trans hx0
        have y6 : G6[H.length]? = some (⟨0, 26, #[slv q1 s.subs.length 9, slv q2 s.items.length 7, i64v s.seq, slv q3 s.out.length 9, i64v s.now], 0, false, []⟩ : Blk) := (sp6.old H.length (by omega) hN).trans hy0
        have low6 : ∀ B, B < H.length → G6[B]? = H[B]? := fun B hB => (sp6.old B (by omega) (fun hc => by have := (hA.lt B hc).1; omega)).trans (low0 B hB)
        obtain ⟨r7, m7, G7, a7, hA7, sq7⟩ := acc_byte (p := H.length) hA6 (by have := sp6.le; have := hG0l; omega) (1) (by have := hbd; simp only [List.length_append, numB_len, nums_len, ints_len, List.length_singleton, List.length_cons, List.length_nil] at *; omega)
        simp only [show (((1 : UInt8).toNat : Nat) : Int) = 1 from rfl, show (((0 : UInt8).toNat : Nat) : Int) = 0 from rfl] at a7
        have sp7 := sp6.trans sq7
        have x7 : G7[G.length]? = some (⟨0, 29, #[str y.addr, slv qf y.feeds.length 1, str y.zone, str y.cron, i64v y.start, i64v y.cursor, i64v y.no, i64v y.clock, .bool y.off], 9, false, []⟩ : Blk) := (sp7.old G.length (by omega) hK).trans hx0
        have y7 : G7[H.length]? = some (⟨0, 26, #[slv q1 s.subs.length 9, slv q2 s.items.length 7, i64v s.seq, slv q3 s.out.length 9, i64v s.now], 0, false, []⟩ : Blk) := (sp7.old H.length (by omega) hN).trans hy0
        have low7 : ∀ B, B < H.length → G7[B]? = H[B]? := fun B hB => (sp7.old B (by omega) (fun hc => by have := (hA.lt B hc).1; omega)).trans (low0 B hB)
        simp (disch := first | assumption | omega | (simp only [go_sem] <;> omega) | fail) only [go_sem, h1, h3, h4, hNb, hlt, hso, hld, hG0, hx0, e1, a1, x1, e2, a2, x2, e3, a3, x3, e4, a4, x4, e5, a5, x5, e6, a6, x6, a7, x7]
        simp (disch := first | assumption | omega | (simp only [go_sem] <;> omega) | fail) only [go_sem, hoff, h1, h3, h4, e1, a1, x1, e2, a2, x2, e3, a3, x3, e4, a4, x4, e5, a5, x5, e6, a6, x6, a7, x7]
        have le7 := sp7.le
        refine ⟨_, _, rfl, ⟨?_, low7⟩, ?_, y7, r7, m7, ?_, fun hc => (sp7.new _ hc).elim hN (by omega), ?_, ?_, ?_⟩
        · show H.length ≤ G7.length
          omega
        · show H.length + 1 ≤ G7.length
          omega
        · rw [hsn, subB, hoff]
          simp only [offB, if_true, Bool.false_eq_true, if_false, ← List.append_assoc, List.flatMap_cons, List.flatMap_nil, List.append_nil] at hA7 ⊢
          exact hA7
        · simp only [go_sem] <;> rfl
        · simp only [go_sem, h4] <;> rfl
        · simp only [go_sem, h1]
      | false =>
        obtain ⟨v1, R1, r1, m1, G1, e1, a1, hA1, sq1⟩ := acc_text (p := H.length) hA0 (by have := sp0.le; have := hG0l; omega) (y.addr) (by have := hbd; simp only [List.length_append, numB_len, nums_len, ints_len, List.length_singleton, List.length_cons, List.length_nil] at *; omega)
        have sp1 := sp0.trans sq1
        have x1 : G1[G.length]? = some (⟨0, 29, #[str y.addr, slv qf y.feeds.length 1, str y.zone, str y.cron, i64v y.start, i64v y.cursor, i64v y.no, i64v y.clock, .bool y.off], 9, false, []⟩ : Blk) := (sp1.old G.length (by omega) hK).trans hx0
        have y1 : G1[H.length]? = some (⟨0, 26, #[slv q1 s.subs.length 9, slv q2 s.items.length 7, i64v s.seq, slv q3 s.out.length 9, i64v s.now], 0, false, []⟩ : Blk) := (sp1.old H.length (by omega) hN).trans hy0
        have low1 : ∀ B, B < H.length → G1[B]? = H[B]? := fun B hB => (sp1.old B (by omega) (fun hc => by have := (hA.lt B hc).1; omega)).trans (low0 B hB)
        obtain ⟨v2, R2, r2, m2, G2, e2, a2, hA2, sq2⟩ := acc_num (p := H.length) hA1 (by have := sp1.le; have := hG0l; omega) (y.feeds.length) (by have := hbd; simp only [List.length_append, numB_len, nums_len, ints_len, List.length_singleton, List.length_cons, List.length_nil] at *; omega)
        have sp2 := sp1.trans sq2
        have x2 : G2[G.length]? = some (⟨0, 29, #[str y.addr, slv qf y.feeds.length 1, str y.zone, str y.cron, i64v y.start, i64v y.cursor, i64v y.no, i64v y.clock, .bool y.off], 9, false, []⟩ : Blk) := (sp2.old G.length (by omega) hK).trans hx0
        have y2 : G2[H.length]? = some (⟨0, 26, #[slv q1 s.subs.length 9, slv q2 s.items.length 7, i64v s.seq, slv q3 s.out.length 9, i64v s.now], 0, false, []⟩ : Blk) := (sp2.old H.length (by omega) hN).trans hy0
        have low2 : ∀ B, B < H.length → G2[B]? = H[B]? := fun B hB => (sp2.old B (by omega) (fun hc => by have := (hA.lt B hc).1; omega)).trans (low0 B hB)
        obtain ⟨v3, R3, r3, m3, G3, e3, a3, hA3, sq3⟩ := acc_nums (p := H.length) hA2 (by have := sp2.le; have := hG0l; omega) (y.feeds) (hcf.keep fun B hB => low2 B (CAt.lt hcf B hB)) (by have := hbd; simp only [List.length_append, numB_len, nums_len, ints_len, List.length_singleton, List.length_cons, List.length_nil] at *; omega) (by have := hbd; simp only [List.length_append, numB_len, nums_len, ints_len, List.length_singleton, List.length_cons, List.length_nil] at *; omega)
        have sp3 := sp2.trans sq3
        have x3 : G3[G.length]? = some (⟨0, 29, #[str y.addr, slv qf y.feeds.length 1, str y.zone, str y.cron, i64v y.start, i64v y.cursor, i64v y.no, i64v y.clock, .bool y.off], 9, false, []⟩ : Blk) := (sp3.old G.length (by omega) hK).trans hx0
        have y3 : G3[H.length]? = some (⟨0, 26, #[slv q1 s.subs.length 9, slv q2 s.items.length 7, i64v s.seq, slv q3 s.out.length 9, i64v s.now], 0, false, []⟩ : Blk) := (sp3.old H.length (by omega) hN).trans hy0
        have low3 : ∀ B, B < H.length → G3[B]? = H[B]? := fun B hB => (sp3.old B (by omega) (fun hc => by have := (hA.lt B hc).1; omega)).trans (low0 B hB)
        obtain ⟨v4, R4, r4, m4, G4, e4, a4, hA4, sq4⟩ := acc_text (p := H.length) hA3 (by have := sp3.le; have := hG0l; omega) (y.zone) (by have := hbd; simp only [List.length_append, numB_len, nums_len, ints_len, List.length_singleton, List.length_cons, List.length_nil] at *; omega)
        have sp4 := sp3.trans sq4
        have x4 : G4[G.length]? = some (⟨0, 29, #[str y.addr, slv qf y.feeds.length 1, str y.zone, str y.cron, i64v y.start, i64v y.cursor, i64v y.no, i64v y.clock, .bool y.off], 9, false, []⟩ : Blk) := (sp4.old G.length (by omega) hK).trans hx0
        have y4 : G4[H.length]? = some (⟨0, 26, #[slv q1 s.subs.length 9, slv q2 s.items.length 7, i64v s.seq, slv q3 s.out.length 9, i64v s.now], 0, false, []⟩ : Blk) := (sp4.old H.length (by omega) hN).trans hy0
        have low4 : ∀ B, B < H.length → G4[B]? = H[B]? := fun B hB => (sp4.old B (by omega) (fun hc => by have := (hA.lt B hc).1; omega)).trans (low0 B hB)
        obtain ⟨v5, R5, r5, m5, G5, e5, a5, hA5, sq5⟩ := acc_text (p := H.length) hA4 (by have := sp4.le; have := hG0l; omega) (y.cron) (by have := hbd; simp only [List.length_append, numB_len, nums_len, ints_len, List.length_singleton, List.length_cons, List.length_nil] at *; omega)
        have sp5 := sp4.trans sq5
        have x5 : G5[G.length]? = some (⟨0, 29, #[str y.addr, slv qf y.feeds.length 1, str y.zone, str y.cron, i64v y.start, i64v y.cursor, i64v y.no, i64v y.clock, .bool y.off], 9, false, []⟩ : Blk) := (sp5.old G.length (by omega) hK).trans hx0
        have y5 : G5[H.length]? = some (⟨0, 26, #[slv q1 s.subs.length 9, slv q2 s.items.length 7, i64v s.seq, slv q3 s.out.length 9, i64v s.now], 0, false, []⟩ : Blk) := (sp5.old H.length (by omega) hN).trans hy0
        have low5 : ∀ B, B < H.length → G5[B]? = H[B]? := fun B hB => (sp5.old B (by omega) (fun hc => by have := (hA.lt B hc).1; omega)).trans (low0 B hB)
        obtain ⟨v6, R6, r6, m6, G6, e6, a6, hA6, sq6⟩ := acc_row (p := H.length) hA5 (by have := sp5.le; have := hG0l; omega) [y.start, y.cursor, y.no, y.clock] 4 rfl (by have := hbd; simp only [List.length_append, numB_len, nums_len, ints_len, List.length_singleton, List.length_cons, List.length_nil] at *; omega) (by omega)
        simp only [i64s, List.map_cons, List.map_nil] at e6
        have sp6 := sp5.trans sq6
        have x6 : G6[G.length]? = some (⟨0, 29, #[str y.addr, slv qf y.feeds.length 1, str y.zone, str y.cron, i64v y.start, i64v y.cursor, i64v y.no, i64v y.clock, .bool y.off], 9, false, []⟩ : Blk) := (sp6.old G.length (by omega) hK).trans hx0
        have y6 : G6[H.length]? = some (⟨0, 26, #[slv q1 s.subs.length 9, slv q2 s.items.length 7, i64v s.seq, slv q3 s.out.length 9, i64v s.now], 0, false, []⟩ : Blk) := (sp6.old H.length (by omega) hN).trans hy0
        have low6 : ∀ B, B < H.length → G6[B]? = H[B]? := fun B hB => (sp6.old B (by omega) (fun hc => by have := (hA.lt B hc).1; omega)).trans (low0 B hB)
        obtain ⟨r7, m7, G7, a7, hA7, sq7⟩ := acc_byte (p := H.length) hA6 (by have := sp6.le; have := hG0l; omega) (0) (by have := hbd; simp only [List.length_append, numB_len, nums_len, ints_len, List.length_singleton, List.length_cons, List.length_nil] at *; omega)
        simp only [show (((1 : UInt8).toNat : Nat) : Int) = 1 from rfl, show (((0 : UInt8).toNat : Nat) : Int) = 0 from rfl] at a7
        have sp7 := sp6.trans sq7
        have x7 : G7[G.length]? = some (⟨0, 29, #[str y.addr, slv qf y.feeds.length 1, str y.zone, str y.cron, i64v y.start, i64v y.cursor, i64v y.no, i64v y.clock, .bool y.off], 9, false, []⟩ : Blk) := (sp7.old G.length (by omega) hK).trans hx0
        have y7 : G7[H.length]? = some (⟨0, 26, #[slv q1 s.subs.length 9, slv q2 s.items.length 7, i64v s.seq, slv q3 s.out.length 9, i64v s.now], 0, false, []⟩ : Blk) := (sp7.old H.length (by omega) hN).trans hy0
        have low7 : ∀ B, B < H.length → G7[B]? = H[B]? := fun B hB => (sp7.old B (by omega) (fun hc => by have := (hA.lt B hc).1; omega)).trans (low0 B hB)
        simp (disch := first | assumption | omega | (simp only [go_sem] <;> omega) | fail) only [go_sem, h1, h3, h4, hNb, hlt, hso, hld, hG0, hx0, e1, a1, x1, e2, a2, x2, e3, a3, x3, e4, a4, x4, e5, a5, x5, e6, a6, x6, a7, x7]
        simp (disch := first | assumption | omega | (simp only [go_sem] <;> omega) | fail) only [go_sem, hoff, h1, h3, h4, e1, a1, x1, e2, a2, x2, e3, a3, x3, e4, a4, x4, e5, a5, x5, e6, a6, x6, a7, x7]
        have le7 := sp7.le
        refine ⟨_, _, rfl, ⟨?_, low7⟩, ?_, y7, r7, m7, ?_, fun hc => (sp7.new _ hc).elim hN (by omega), ?_, ?_, ?_⟩
        · show H.length ≤ G7.length
          omega
        · show H.length + 1 ≤ G7.length
          omega
        · rw [hsn, subB, hoff]
          simp only [offB, if_true, Bool.false_eq_true, if_false, ← List.append_assoc, List.flatMap_cons, List.flatMap_nil, List.append_nil] at hA7 ⊢
          exact hA7
        · simp only [go_sem] <;> rfl
        · simp only [go_sem, h4] <;> rfl
        · simp only [go_sem, h1])
    (by
      rintro t G ⟨hPr, hG, hNb, q, m, hA, hN, h3, h4, h1⟩
      have hlt : ¬ (s.subs.length : Int) < s.subs.length := by omega
      rw [← hLa, E_loop, hLa]
      simp (disch := first | assumption | omega | (simp only [go_sem] <;> omega) | fail) only [go_sem, h1, h3, h4, hNb, hlt]
      rw [List.take_length] at hA
      exact ⟨_, _, _, rfl, rfl, hPr, hG, hNb, q, m, hA, hN, by simp only [go_sem, h3], by simp only [go_sem, h1]⟩)
    ⟨⟨by omega, hGk⟩, by omega, hGN, _, _, by simpa using hA, (fun hc => by obtain ⟨_, _, hc⟩ := hc; simp at hc), (by rw [← hT]; simp only [go_sem] <;> rfl), (by rw [← hT]; simp only [go_sem] <;> rfl), (by rw [← hT]; simp only [go_sem])⟩
  subst k2
  rw [k1]
  obtain ⟨v91, R91, r91, m91, G91, e91, a91, hA91, sq91⟩ := acc_num (p := H.length) hA (by omega) s.items.length (by have := hbt; simp only [List.length_append, numB_len] at *; omega)
  have jl91 : H.length + 1 ≤ G91.length := by have := sq91.le; omega
  have jN91 : G91[H.length]? = some (⟨0, 26, #[slv q1 s.subs.length 9, slv q2 s.items.length 7, i64v s.seq, slv q3 s.out.length 9, i64v s.now], 0, false, []⟩ : Blk) := (sq91.old _ (by omega) hN).trans kN
  have jP91 : ∀ B, B < H.length → G91[B]? = H[B]? := fun B hB => (sq91.old B (by omega) (fun hc => by have := (hA.lt B hc).1; omega)).trans (kPr.2 B hB)
  have jn91 : ¬ inq r91 H.length := fun hc => (sq91.new _ hc).elim hN (by omega)
  simp (disch := first | assumption | omega | (simp only [go_sem] <;> omega) | fail) only [go_sem, h1, h3, kN, e91, a91]
  generalize hT : upd _ 7 _ = T
  obtain ⟨e, t, G, k1, ⟨k2, kPr, kl, kN, q, m, hA, hN, h3, h1⟩⟩ := loop_up (P := Tryz.prog) (cl := cl) (X := X) (L := Lb) (p := H.length) (t := T) (H := G91) s.items.length
    (fun i t G => Pr H.length H G ∧ H.length + 1 ≤ G.length ∧ G[H.length]? = some (⟨0, 26, #[slv q1 s.subs.length 9, slv q2 s.items.length 7, i64v s.seq, slv q3 s.out.length 9, i64v s.now], 0, false, []⟩ : Blk) ∧ ∃ q m, Acc H.length G q m (numB s.subs.length ++ s.subs.flatMap subB ++ numB s.items.length ++ (s.items.take i).flatMap itemB) ∧ ¬ inq q H.length ∧ t 3 = slv q m 1 ∧ t 7 = i64v i ∧ t 1 = .pointer (some ⟨H.length, 0, some 5⟩))
    (fun e t G => e = .exit 2 ∧ Pr H.length H G ∧ H.length + 1 ≤ G.length ∧ G[H.length]? = some (⟨0, 26, #[slv q1 s.subs.length 9, slv q2 s.items.length 7, i64v s.seq, slv q3 s.out.length 9, i64v s.now], 0, false, []⟩ : Blk) ∧ ∃ q m, Acc H.length G q m (numB s.subs.length ++ s.subs.flatMap subB ++ numB s.items.length ++ s.items.flatMap itemB) ∧ ¬ inq q H.length ∧ t 3 = slv q m 1 ∧ t 1 = .pointer (some ⟨H.length, 0, some 5⟩))
    (by
      rintro i t G hi ⟨hPr, hG, hNb, q, m, hA, hN, h3, h4, h1⟩
      left
      have hlt : (i : Int) < s.items.length := by omega
      have hyi : s.items[i]? = some s.items[i] := List.getElem?_eq_getElem hi
      have hsn := flat_snoc itemB hyi
      have hfb := flat_bound itemB s.items i _ hyi
      have hs1 : CAt G q2 c2 := hc2.keep fun B hB => hPr.2 B (CAt.lt hc2 B hB)
      have hE : ItemE O H s.items[i] ((c2.drop (i * 7)).take 7) := LC.nth ItemE.len hL2 hyi
      have hq0 : q2 ≠ none := fun e => by have := hok2 e; omega
      have hld := ld_ptqA (P := Tryz.prog) (T := 48) (o := i * 7) sz48 ag48 hs1 (by rw [hl2]; have := Nat.mul_le_mul_right 7 hi; rw [Nat.succ_mul] at this; omega) hq0
      have hso := si23 q2 s.items.length (i : Int) hok2 ⟨by omega, hlt⟩
      simp only [Int.toNat_natCast] at hso
      have hbd : (numB s.subs.length ++ s.subs.flatMap subB ++ numB s.items.length ++ (s.items.take i).flatMap itemB).length + (itemB s.items[i]).length ≤ 1000000000 := by
        have := hbt
        simp only [List.length_append, listB, numB_len] at *
        omega
      rw [ItemE] at hE
      rw [hE] at hld
      simp only [ItemL.cells] at hld
      generalize s.items[i] = y at *
      have hx0 : (G ++ [(⟨0, 48, #[i64v y.feed, i64v y.seq, str y.id, str y.title, str y.link, str y.text, i64v y.at_], 7, false, []⟩ : Blk)])[G.length]? = some (⟨0, 48, #[i64v y.feed, i64v y.seq, str y.id, str y.title, str y.link, str y.text, i64v y.at_], 7, false, []⟩ : Blk) := at_end rfl
      have hy0 : (G ++ [(⟨0, 48, #[i64v y.feed, i64v y.seq, str y.id, str y.title, str y.link, str y.text, i64v y.at_], 7, false, []⟩ : Blk)])[H.length]? = some (⟨0, 26, #[slv q1 s.subs.length 9, slv q2 s.items.length 7, i64v s.seq, slv q3 s.out.length 9, i64v s.now], 0, false, []⟩ : Blk) := by rw [List.getElem?_append_left (by omega)]; exact hNb
      have low0 : ∀ B, B < H.length → (G ++ [(⟨0, 48, #[i64v y.feed, i64v y.seq, str y.id, str y.title, str y.link, str y.text, i64v y.at_], 7, false, []⟩ : Blk)])[B]? = H[B]? := fun B hB => by rw [List.getElem?_append_left (by omega)]; exact hPr.2 B hB
      have hA0 := hA.push [(⟨0, 48, #[i64v y.feed, i64v y.seq, str y.id, str y.title, str y.link, str y.text, i64v y.at_], 7, false, []⟩ : Blk)]
      have hK : ¬ inq q G.length := fun hc => by have := (hA.lt _ hc).2; omega
      have hG0l : (G ++ [(⟨0, 48, #[i64v y.feed, i64v y.seq, str y.id, str y.title, str y.link, str y.text, i64v y.at_], 7, false, []⟩ : Blk)]).length = G.length + 1 := by simp
      have sp0 := Stp.refl (G ++ [(⟨0, 48, #[i64v y.feed, i64v y.seq, str y.id, str y.title, str y.link, str y.text, i64v y.at_], 7, false, []⟩ : Blk)]) q
      rw [← hLb, E_loop, hLb]
      generalize hG0 : G ++ [(⟨0, 48, #[i64v y.feed, i64v y.seq, str y.id, str y.title, str y.link, str y.text, i64v y.at_], 7, false, []⟩ : Blk)] = G0 at *
      simp only [itemB, List.length_append] at hbd
      obtain ⟨v1, R1, r1, m1, G1, e1, a1, hA1, sq1⟩ := acc_row (p := H.length) hA0 (by have := sp0.le; have := hG0l; omega) [y.feed, y.seq] 2 rfl (by have := hbd; simp only [List.length_append, numB_len, nums_len, ints_len, List.length_singleton, List.length_cons, List.length_nil] at *; omega) (by omega)
      simp only [i64s, List.map_cons, List.map_nil] at e1
      have sp1 := sp0.trans sq1
      have x1 : G1[G.length]? = some (⟨0, 48, #[i64v y.feed, i64v y.seq, str y.id, str y.title, str y.link, str y.text, i64v y.at_], 7, false, []⟩ : Blk) := (sp1.old G.length (by omega) hK).trans hx0
      have y1 : G1[H.length]? = some (⟨0, 26, #[slv q1 s.subs.length 9, slv q2 s.items.length 7, i64v s.seq, slv q3 s.out.length 9, i64v s.now], 0, false, []⟩ : Blk) := (sp1.old H.length (by omega) hN).trans hy0
      have low1 : ∀ B, B < H.length → G1[B]? = H[B]? := fun B hB => (sp1.old B (by omega) (fun hc => by have := (hA.lt B hc).1; omega)).trans (low0 B hB)
      obtain ⟨v2, R2, r2, m2, G2, e2, a2, hA2, sq2⟩ := acc_text (p := H.length) hA1 (by have := sp1.le; have := hG0l; omega) (y.id) (by have := hbd; simp only [List.length_append, numB_len, nums_len, ints_len, List.length_singleton, List.length_cons, List.length_nil] at *; omega)
      have sp2 := sp1.trans sq2
      have x2 : G2[G.length]? = some (⟨0, 48, #[i64v y.feed, i64v y.seq, str y.id, str y.title, str y.link, str y.text, i64v y.at_], 7, false, []⟩ : Blk) := (sp2.old G.length (by omega) hK).trans hx0
      have y2 : G2[H.length]? = some (⟨0, 26, #[slv q1 s.subs.length 9, slv q2 s.items.length 7, i64v s.seq, slv q3 s.out.length 9, i64v s.now], 0, false, []⟩ : Blk) := (sp2.old H.length (by omega) hN).trans hy0
      have low2 : ∀ B, B < H.length → G2[B]? = H[B]? := fun B hB => (sp2.old B (by omega) (fun hc => by have := (hA.lt B hc).1; omega)).trans (low0 B hB)
      obtain ⟨v3, R3, r3, m3, G3, e3, a3, hA3, sq3⟩ := acc_text (p := H.length) hA2 (by have := sp2.le; have := hG0l; omega) (y.title) (by have := hbd; simp only [List.length_append, numB_len, nums_len, ints_len, List.length_singleton, List.length_cons, List.length_nil] at *; omega)
      have sp3 := sp2.trans sq3
      have x3 : G3[G.length]? = some (⟨0, 48, #[i64v y.feed, i64v y.seq, str y.id, str y.title, str y.link, str y.text, i64v y.at_], 7, false, []⟩ : Blk) := (sp3.old G.length (by omega) hK).trans hx0
      have y3 : G3[H.length]? = some (⟨0, 26, #[slv q1 s.subs.length 9, slv q2 s.items.length 7, i64v s.seq, slv q3 s.out.length 9, i64v s.now], 0, false, []⟩ : Blk) := (sp3.old H.length (by omega) hN).trans hy0
      have low3 : ∀ B, B < H.length → G3[B]? = H[B]? := fun B hB => (sp3.old B (by omega) (fun hc => by have := (hA.lt B hc).1; omega)).trans (low0 B hB)
      obtain ⟨v4, R4, r4, m4, G4, e4, a4, hA4, sq4⟩ := acc_text (p := H.length) hA3 (by have := sp3.le; have := hG0l; omega) (y.link) (by have := hbd; simp only [List.length_append, numB_len, nums_len, ints_len, List.length_singleton, List.length_cons, List.length_nil] at *; omega)
      have sp4 := sp3.trans sq4
      have x4 : G4[G.length]? = some (⟨0, 48, #[i64v y.feed, i64v y.seq, str y.id, str y.title, str y.link, str y.text, i64v y.at_], 7, false, []⟩ : Blk) := (sp4.old G.length (by omega) hK).trans hx0
      have y4 : G4[H.length]? = some (⟨0, 26, #[slv q1 s.subs.length 9, slv q2 s.items.length 7, i64v s.seq, slv q3 s.out.length 9, i64v s.now], 0, false, []⟩ : Blk) := (sp4.old H.length (by omega) hN).trans hy0
      have low4 : ∀ B, B < H.length → G4[B]? = H[B]? := fun B hB => (sp4.old B (by omega) (fun hc => by have := (hA.lt B hc).1; omega)).trans (low0 B hB)
      obtain ⟨v5, R5, r5, m5, G5, e5, a5, hA5, sq5⟩ := acc_text (p := H.length) hA4 (by have := sp4.le; have := hG0l; omega) (y.text) (by have := hbd; simp only [List.length_append, numB_len, nums_len, ints_len, List.length_singleton, List.length_cons, List.length_nil] at *; omega)
      have sp5 := sp4.trans sq5
      have x5 : G5[G.length]? = some (⟨0, 48, #[i64v y.feed, i64v y.seq, str y.id, str y.title, str y.link, str y.text, i64v y.at_], 7, false, []⟩ : Blk) := (sp5.old G.length (by omega) hK).trans hx0
      have y5 : G5[H.length]? = some (⟨0, 26, #[slv q1 s.subs.length 9, slv q2 s.items.length 7, i64v s.seq, slv q3 s.out.length 9, i64v s.now], 0, false, []⟩ : Blk) := (sp5.old H.length (by omega) hN).trans hy0
      have low5 : ∀ B, B < H.length → G5[B]? = H[B]? := fun B hB => (sp5.old B (by omega) (fun hc => by have := (hA.lt B hc).1; omega)).trans (low0 B hB)
      obtain ⟨v6, R6, r6, m6, G6, e6, a6, hA6, sq6⟩ := acc_num (p := H.length) hA5 (by have := sp5.le; have := hG0l; omega) (y.at_) (by have := hbd; simp only [List.length_append, numB_len, nums_len, ints_len, List.length_singleton, List.length_cons, List.length_nil] at *; omega)
      have sp6 := sp5.trans sq6
      have x6 : G6[G.length]? = some (⟨0, 48, #[i64v y.feed, i64v y.seq, str y.id, str y.title, str y.link, str y.text, i64v y.at_], 7, false, []⟩ : Blk) := (sp6.old G.length (by omega) hK).trans hx0
      have y6 : G6[H.length]? = some (⟨0, 26, #[slv q1 s.subs.length 9, slv q2 s.items.length 7, i64v s.seq, slv q3 s.out.length 9, i64v s.now], 0, false, []⟩ : Blk) := (sp6.old H.length (by omega) hN).trans hy0
      have low6 : ∀ B, B < H.length → G6[B]? = H[B]? := fun B hB => (sp6.old B (by omega) (fun hc => by have := (hA.lt B hc).1; omega)).trans (low0 B hB)
      simp (disch := first | assumption | omega | (simp only [go_sem] <;> omega) | fail) only [go_sem, h1, h3, h4, hNb, hlt, hso, hld, hG0, hx0, e1, a1, x1, e2, a2, x2, e3, a3, x3, e4, a4, x4, e5, a5, x5, e6, a6, x6]
      have le6 := sp6.le
      refine ⟨_, _, rfl, ⟨?_, low6⟩, ?_, y6, r6, m6, ?_, fun hc => (sp6.new _ hc).elim hN (by omega), ?_, ?_, ?_⟩
      · show H.length ≤ G6.length
        omega
      · show H.length + 1 ≤ G6.length
        omega
      · rw [hsn, itemB]
        simp only [offB, if_true, Bool.false_eq_true, if_false, ← List.append_assoc, List.flatMap_cons, List.flatMap_nil, List.append_nil] at hA6 ⊢
        exact hA6
      · simp only [go_sem] <;> rfl
      · simp only [go_sem, h4] <;> rfl
      · simp only [go_sem, h1])
    (by
      rintro t G ⟨hPr, hG, hNb, q, m, hA, hN, h3, h4, h1⟩
      have hlt : ¬ (s.items.length : Int) < s.items.length := by omega
      rw [← hLb, E_loop, hLb]
      simp (disch := first | assumption | omega | (simp only [go_sem] <;> omega) | fail) only [go_sem, h1, h3, h4, hNb, hlt]
      rw [List.take_length] at hA
      exact ⟨_, _, _, rfl, rfl, hPr, hG, hNb, q, m, hA, hN, by simp only [go_sem, h3], by simp only [go_sem, h1]⟩)
    ⟨⟨by omega, jP91⟩, jl91, jN91, r91, m91, by simpa using hA91, jn91, (by rw [← hT]; simp only [go_sem] <;> rfl), (by rw [← hT]; simp only [go_sem] <;> rfl), (by rw [← hT]; simp only [go_sem, h1])⟩
  subst k2
  rw [k1]
  obtain ⟨v92, R92, r92, m92, G92, e92, a92, hA92, sq92⟩ := acc_num (p := H.length) hA (by omega) s.seq (by have := hbt; simp only [List.length_append, numB_len] at *; omega)
  have jl92 : H.length + 1 ≤ G92.length := by have := sq92.le; omega
  have jN92 : G92[H.length]? = some (⟨0, 26, #[slv q1 s.subs.length 9, slv q2 s.items.length 7, i64v s.seq, slv q3 s.out.length 9, i64v s.now], 0, false, []⟩ : Blk) := (sq92.old _ (by omega) hN).trans kN
  have jP92 : ∀ B, B < H.length → G92[B]? = H[B]? := fun B hB => (sq92.old B (by omega) (fun hc => by have := (hA.lt B hc).1; omega)).trans (kPr.2 B hB)
  have jn92 : ¬ inq r92 H.length := fun hc => (sq92.new _ hc).elim hN (by omega)
  obtain ⟨v93, R93, r93, m93, G93, e93, a93, hA93, sq93⟩ := acc_num (p := H.length) hA92 (by omega) s.out.length (by have := hbt; simp only [List.length_append, numB_len] at *; omega)
  have jl93 : H.length + 1 ≤ G93.length := by have := sq93.le; omega
  have jN93 : G93[H.length]? = some (⟨0, 26, #[slv q1 s.subs.length 9, slv q2 s.items.length 7, i64v s.seq, slv q3 s.out.length 9, i64v s.now], 0, false, []⟩ : Blk) := (sq93.old _ (by omega) jn92).trans jN92
  have jP93 : ∀ B, B < H.length → G93[B]? = H[B]? := fun B hB => (sq93.old B (by omega) (fun hc => by have := (hA92.lt B hc).1; omega)).trans (jP92 B hB)
  have jn93 : ¬ inq r93 H.length := fun hc => (sq93.new _ hc).elim jn92 (by omega)
  simp (disch := first | assumption | omega | (simp only [go_sem] <;> omega) | fail) only [go_sem, h1, h3, kN, e92, a92, jN92, e93, a93]
  generalize hT : upd _ 9 _ = T
  obtain ⟨e, t, G, k1, ⟨k2, kPr, kl, kN, q, m, hA, hN, h3, h1⟩⟩ := loop_up (P := Tryz.prog) (cl := cl) (X := X) (L := Lc) (p := H.length) (t := T) (H := G93) s.out.length
    (fun i t G => Pr H.length H G ∧ H.length + 1 ≤ G.length ∧ G[H.length]? = some (⟨0, 26, #[slv q1 s.subs.length 9, slv q2 s.items.length 7, i64v s.seq, slv q3 s.out.length 9, i64v s.now], 0, false, []⟩ : Blk) ∧ ∃ q m, Acc H.length G q m (numB s.subs.length ++ s.subs.flatMap subB ++ numB s.items.length ++ s.items.flatMap itemB ++ numB s.seq ++ numB s.out.length ++ (s.out.take i).flatMap outB) ∧ ¬ inq q H.length ∧ t 3 = slv q m 1 ∧ t 9 = i64v i ∧ t 1 = .pointer (some ⟨H.length, 0, some 5⟩))
    (fun e t G => e = .exit 4 ∧ Pr H.length H G ∧ H.length + 1 ≤ G.length ∧ G[H.length]? = some (⟨0, 26, #[slv q1 s.subs.length 9, slv q2 s.items.length 7, i64v s.seq, slv q3 s.out.length 9, i64v s.now], 0, false, []⟩ : Blk) ∧ ∃ q m, Acc H.length G q m (numB s.subs.length ++ s.subs.flatMap subB ++ numB s.items.length ++ s.items.flatMap itemB ++ numB s.seq ++ numB s.out.length ++ s.out.flatMap outB) ∧ ¬ inq q H.length ∧ t 3 = slv q m 1 ∧ t 1 = .pointer (some ⟨H.length, 0, some 5⟩))
    (by
      rintro i t G hi ⟨hPr, hG, hNb, q, m, hA, hN, h3, h4, h1⟩
      left
      have hlt : (i : Int) < s.out.length := by omega
      have hyi : s.out[i]? = some s.out[i] := List.getElem?_eq_getElem hi
      have hsn := flat_snoc outB hyi
      have hfb := flat_bound outB s.out i _ hyi
      have hs1 : CAt G q3 c3 := hc3.keep fun B hB => hPr.2 B (CAt.lt hc3 B hB)
      have hE : OutE O H s.out[i] ((c3.drop (i * 9)).take 9) := LC.nth OutE.len hL3 hyi
      have hq0 : q3 ≠ none := fun e => by have := hok3 e; omega
      have hld := ld_ptqA (P := Tryz.prog) (T := 44) (o := i * 9) sz44 ag44 hs1 (by rw [hl3]; have := Nat.mul_le_mul_right 9 hi; rw [Nat.succ_mul] at this; omega) hq0
      have hso := si24 q3 s.out.length (i : Int) hok3 ⟨by omega, hlt⟩
      simp only [Int.toNat_natCast] at hso
      have hbd : (numB s.subs.length ++ s.subs.flatMap subB ++ numB s.items.length ++ s.items.flatMap itemB ++ numB s.seq ++ numB s.out.length ++ (s.out.take i).flatMap outB).length + (outB s.out[i]).length ≤ 1000000000 := by
        have := hbt
        simp only [List.length_append, listB, numB_len] at *
        omega
      obtain ⟨qm, hc, hcm, hqm⟩ := hE
      rw [hc] at hld
      simp only [OutL.cells] at hld
      have hokm := hcm.okq (s := 1) (len := (s.out[i]).mail.length) (by simp) (by omega)
      generalize s.out[i] = y at *
      have hx0 : (G ++ [(⟨0, 44, #[i64v y.sub, i64v y.no, i64v y.from_, i64v y.upto, slv qm y.mail.length 1, i64v y.cut, i64v y.tried, i64v y.next, i64v y.out], 9, false, []⟩ : Blk)])[G.length]? = some (⟨0, 44, #[i64v y.sub, i64v y.no, i64v y.from_, i64v y.upto, slv qm y.mail.length 1, i64v y.cut, i64v y.tried, i64v y.next, i64v y.out], 9, false, []⟩ : Blk) := at_end rfl
      have hy0 : (G ++ [(⟨0, 44, #[i64v y.sub, i64v y.no, i64v y.from_, i64v y.upto, slv qm y.mail.length 1, i64v y.cut, i64v y.tried, i64v y.next, i64v y.out], 9, false, []⟩ : Blk)])[H.length]? = some (⟨0, 26, #[slv q1 s.subs.length 9, slv q2 s.items.length 7, i64v s.seq, slv q3 s.out.length 9, i64v s.now], 0, false, []⟩ : Blk) := by rw [List.getElem?_append_left (by omega)]; exact hNb
      have low0 : ∀ B, B < H.length → (G ++ [(⟨0, 44, #[i64v y.sub, i64v y.no, i64v y.from_, i64v y.upto, slv qm y.mail.length 1, i64v y.cut, i64v y.tried, i64v y.next, i64v y.out], 9, false, []⟩ : Blk)])[B]? = H[B]? := fun B hB => by rw [List.getElem?_append_left (by omega)]; exact hPr.2 B hB
      have hA0 := hA.push [(⟨0, 44, #[i64v y.sub, i64v y.no, i64v y.from_, i64v y.upto, slv qm y.mail.length 1, i64v y.cut, i64v y.tried, i64v y.next, i64v y.out], 9, false, []⟩ : Blk)]
      have hK : ¬ inq q G.length := fun hc => by have := (hA.lt _ hc).2; omega
      have hG0l : (G ++ [(⟨0, 44, #[i64v y.sub, i64v y.no, i64v y.from_, i64v y.upto, slv qm y.mail.length 1, i64v y.cut, i64v y.tried, i64v y.next, i64v y.out], 9, false, []⟩ : Blk)]).length = G.length + 1 := by simp
      have sp0 := Stp.refl (G ++ [(⟨0, 44, #[i64v y.sub, i64v y.no, i64v y.from_, i64v y.upto, slv qm y.mail.length 1, i64v y.cut, i64v y.tried, i64v y.next, i64v y.out], 9, false, []⟩ : Blk)]) q
      rw [← hLc, E_loop, hLc]
      generalize hG0 : G ++ [(⟨0, 44, #[i64v y.sub, i64v y.no, i64v y.from_, i64v y.upto, slv qm y.mail.length 1, i64v y.cut, i64v y.tried, i64v y.next, i64v y.out], 9, false, []⟩ : Blk)] = G0 at *
      simp only [outB, List.length_append] at hbd
      obtain ⟨v1, R1, r1, m1, G1, e1, a1, hA1, sq1⟩ := acc_row (p := H.length) hA0 (by have := sp0.le; have := hG0l; omega) [y.sub, y.no, y.from_, y.upto] 4 rfl (by have := hbd; simp only [List.length_append, numB_len, nums_len, ints_len, List.length_singleton, List.length_cons, List.length_nil] at *; omega) (by omega)
      simp only [i64s, List.map_cons, List.map_nil] at e1
      have sp1 := sp0.trans sq1
      have x1 : G1[G.length]? = some (⟨0, 44, #[i64v y.sub, i64v y.no, i64v y.from_, i64v y.upto, slv qm y.mail.length 1, i64v y.cut, i64v y.tried, i64v y.next, i64v y.out], 9, false, []⟩ : Blk) := (sp1.old G.length (by omega) hK).trans hx0
      have y1 : G1[H.length]? = some (⟨0, 26, #[slv q1 s.subs.length 9, slv q2 s.items.length 7, i64v s.seq, slv q3 s.out.length 9, i64v s.now], 0, false, []⟩ : Blk) := (sp1.old H.length (by omega) hN).trans hy0
      have low1 : ∀ B, B < H.length → G1[B]? = H[B]? := fun B hB => (sp1.old B (by omega) (fun hc => by have := (hA.lt B hc).1; omega)).trans (low0 B hB)
      have cv2 := fun p => cv33_9 (p := p) G1 qm (y.mail) (y.mail).length rfl (hcm.keep fun B hB => low1 B (CAt.lt hcm B hB))
      obtain ⟨v2, R2, r2, m2, G2, e2, a2, hA2, sq2⟩ := acc_text (p := H.length) hA1 (by have := sp1.le; have := hG0l; omega) (y.mail) (by have := hbd; simp only [List.length_append, numB_len, nums_len, ints_len, List.length_singleton, List.length_cons, List.length_nil] at *; omega)
      have sp2 := sp1.trans sq2
      have x2 : G2[G.length]? = some (⟨0, 44, #[i64v y.sub, i64v y.no, i64v y.from_, i64v y.upto, slv qm y.mail.length 1, i64v y.cut, i64v y.tried, i64v y.next, i64v y.out], 9, false, []⟩ : Blk) := (sp2.old G.length (by omega) hK).trans hx0
      have y2 : G2[H.length]? = some (⟨0, 26, #[slv q1 s.subs.length 9, slv q2 s.items.length 7, i64v s.seq, slv q3 s.out.length 9, i64v s.now], 0, false, []⟩ : Blk) := (sp2.old H.length (by omega) hN).trans hy0
      have low2 : ∀ B, B < H.length → G2[B]? = H[B]? := fun B hB => (sp2.old B (by omega) (fun hc => by have := (hA.lt B hc).1; omega)).trans (low0 B hB)
      obtain ⟨v3, R3, r3, m3, G3, e3, a3, hA3, sq3⟩ := acc_row (p := H.length) hA2 (by have := sp2.le; have := hG0l; omega) [y.cut, y.tried, y.next, y.out] 4 rfl (by have := hbd; simp only [List.length_append, numB_len, nums_len, ints_len, List.length_singleton, List.length_cons, List.length_nil] at *; omega) (by omega)
      simp only [i64s, List.map_cons, List.map_nil] at e3
      have sp3 := sp2.trans sq3
      have x3 : G3[G.length]? = some (⟨0, 44, #[i64v y.sub, i64v y.no, i64v y.from_, i64v y.upto, slv qm y.mail.length 1, i64v y.cut, i64v y.tried, i64v y.next, i64v y.out], 9, false, []⟩ : Blk) := (sp3.old G.length (by omega) hK).trans hx0
      have y3 : G3[H.length]? = some (⟨0, 26, #[slv q1 s.subs.length 9, slv q2 s.items.length 7, i64v s.seq, slv q3 s.out.length 9, i64v s.now], 0, false, []⟩ : Blk) := (sp3.old H.length (by omega) hN).trans hy0
      have low3 : ∀ B, B < H.length → G3[B]? = H[B]? := fun B hB => (sp3.old B (by omega) (fun hc => by have := (hA.lt B hc).1; omega)).trans (low0 B hB)
      simp (disch := first | assumption | omega | (simp only [go_sem] <;> omega) | fail) only [go_sem, h1, h3, h4, hNb, hlt, hso, hld, hG0, hx0, e1, a1, x1, cv2, e2, a2, x2, e3, a3, x3]
      have le3 := sp3.le
      refine ⟨_, _, rfl, ⟨?_, low3⟩, ?_, y3, r3, m3, ?_, fun hc => (sp3.new _ hc).elim hN (by omega), ?_, ?_, ?_⟩
      · show H.length ≤ G3.length
        omega
      · show H.length + 1 ≤ G3.length
        omega
      · rw [hsn, outB]
        simp only [offB, if_true, Bool.false_eq_true, if_false, ← List.append_assoc, List.flatMap_cons, List.flatMap_nil, List.append_nil] at hA3 ⊢
        exact hA3
      · simp only [go_sem] <;> rfl
      · simp only [go_sem, h4] <;> rfl
      · simp only [go_sem, h1])
    (by
      rintro t G ⟨hPr, hG, hNb, q, m, hA, hN, h3, h4, h1⟩
      have hlt : ¬ (s.out.length : Int) < s.out.length := by omega
      rw [← hLc, E_loop, hLc]
      simp (disch := first | assumption | omega | (simp only [go_sem] <;> omega) | fail) only [go_sem, h1, h3, h4, hNb, hlt]
      rw [List.take_length] at hA
      exact ⟨_, _, _, rfl, rfl, hPr, hG, hNb, q, m, hA, hN, by simp only [go_sem, h3], by simp only [go_sem, h1]⟩)
    ⟨⟨by omega, jP93⟩, jl93, jN93, r93, m93, by simpa using hA93, jn93, (by rw [← hT]; simp only [go_sem] <;> rfl), (by rw [← hT]; simp only [go_sem] <;> rfl), (by rw [← hT]; simp only [go_sem, h1])⟩
  subst k2
  rw [k1]
  obtain ⟨v94, R94, r94, m94, G94, e94, a94, hA94, sq94⟩ := acc_num (p := H.length) hA (by omega) s.now (by have := hbt; simp only [List.length_append, numB_len] at *; omega)
  have jl94 : H.length + 1 ≤ G94.length := by have := sq94.le; omega
  have jN94 : G94[H.length]? = some (⟨0, 26, #[slv q1 s.subs.length 9, slv q2 s.items.length 7, i64v s.seq, slv q3 s.out.length 9, i64v s.now], 0, false, []⟩ : Blk) := (sq94.old _ (by omega) hN).trans kN
  have jP94 : ∀ B, B < H.length → G94[B]? = H[B]? := fun B hB => (sq94.old B (by omega) (fun hc => by have := (hA.lt B hc).1; omega)).trans (kPr.2 B hB)
  have jn94 : ¬ inq r94 H.length := fun hc => (sq94.new _ hc).elim hN (by omega)
  obtain ⟨Z, hZ⟩ := Pr.add (H := H) (H' := G94) ⟨by omega, jP94⟩
  subst hZ
  have hfin : numB s.subs.length ++ s.subs.flatMap subB ++ numB s.items.length ++ s.items.flatMap itemB ++ numB s.seq ++ numB s.out.length ++ s.out.flatMap outB ++ numB s.now = putL s := by
    simp only [putL, listB, List.append_assoc]
  rw [hfin] at hA94
  obtain ⟨ho94, hm94⟩ := hA94
  subst hm94
  rcases r94 with _ | ⟨A94, o94, n94⟩
  · exfalso
    have h0 : u8s (putL s) = [] := ho94
    rw [u8s, List.map_eq_nil_iff] at h0
    have := congrArg List.length h0
    simp only [putL, listB, List.length_append, numB_len, List.length_nil] at this
    omega
  · have a94' : appW Tryz.prog H.length 33 33 (slv q m 1) v94 R94 = some (.slice (some ⟨A94, o94, some n94⟩) (putL s).length 1, H ++ Z) := a94
    simp (disch := first | assumption | omega | (simp only [go_sem] <;> omega) | fail) only [go_sem, h1, h3, kN, e94, a94']
    exact ⟨some (A94, o94, n94), Z, by simp, rfl, ho94.cat⟩
theorem FrSame {O : Nat → Prop} {H : Heap} {s t : StateL} {v w : Value} (hs : StateAt O H s v) (ht : StateAt O H t w) (hO : ∀ B, O B → B < H.length) (h1 : (putL s).length ≤ 1000000000) (h2 : (putL t).length ≤ 1000000000) (p : Nat) : F 19 #[v, w] p H = some (.returned (.bool (decide (putL s = putL t))), H) := by
  obtain ⟨a1, a2, a3, ev, o1, o2, o3⟩ := hs.cells
  obtain ⟨b1, b2, b3, ew, r1, r2, r3⟩ := ht.cells
  have ho1 : [a1, a2, i64v s.seq, a3, i64v s.now].all oneC = true := by simp [o1, o2, o3, oneC_int]
  have ho2 : [b1, b2, i64v t.seq, b3, i64v t.now].all oneC = true := by simp [r1, r2, r3, oneC_int]
  rw [F, F_quiet (f := 19) (X := X) (cl := cl) rfl rfl rfl Tryz.func19 rfl, Tryz.results19]
  subst ev
  subst ew
  generalize hG : H ++ [(⟨0, 26, #[a1, a2, i64v s.seq, a3, i64v s.now], 0, false, []⟩ : Blk)] ++ [⟨0, 26, #[b1, b2, i64v t.seq, b3, i64v t.now], 0, false, []⟩] = G
  have hGl : G.length = H.length + 2 := by rw [← hG]; simp
  have hN1 : G[H.length]? = some ⟨0, 26, #[a1, a2, i64v s.seq, a3, i64v s.now], 0, false, []⟩ := by rw [← hG, at_front (by simp)]; exact at_end rfl
  have hN2 : G[H.length + 1]? = some ⟨0, 26, #[b1, b2, i64v t.seq, b3, i64v t.now], 0, false, []⟩ := by rw [← hG]; exact at_end (by simp)
  have hk : ∀ B, B < H.length → G[B]? = H[B]? := fun B hB => by rw [← hG, List.append_assoc]; exact List.getElem?_append_left hB
  obtain ⟨q1, Z1, hq1, e1, c1⟩ := FrPut (hs.move fun B hB => ⟨hB, hk B (hO B hB)⟩) (fun B hB => by have := hO B hB; omega) h1 H.length
  have hM2 : (G ++ Z1)[H.length + 1]? = some ⟨0, 26, #[b1, b2, i64v t.seq, b3, i64v t.now], 0, false, []⟩ := (List.getElem?_append_left (by omega)).trans hN2
  obtain ⟨q2, Z2, hq2, e2, c2⟩ := FrPut (O := O) (H := G ++ Z1) (ht.move fun B hB => ⟨hB, by have := hO B hB; rw [List.getElem?_append_left (by omega)]; exact hk B this⟩) (fun B hB => by have := hO B hB; simp; omega) h2 H.length
  have cv1 := fun p => cv33_9 (p := p) (G ++ Z1) q1 (putL s) (putL s).length rfl c1
  have cv2 := fun p => cv33_9 (p := p) (G ++ Z1 ++ Z2) q2 (putL t) (putL t).length rfl c2
  simp (disch := first | assumption | omega | (simp only [go_sem] <;> omega) | fail) only [go_sem, ho1, ho2, hG, hN1, hN2, e1, cv1, hM2, e2, cv2]
structure RB (H : Heap) (A : Nat) (q : Q) (l : List UInt8) (b : Bool) : Prop where
  cell : ∃ fl, fl ≤ 2 ∧ H[A]? = some ⟨0, 102, #[slv q l.length 1, .bool b], fl, false, []⟩
  bts : CAt H q (u8s l)
  ne : ∀ B, inq q B → B < A
theorem RB.okq {H : Heap} {A : Nat} {q : Q} {l : List UInt8} {b : Bool} (h : RB H A q l b) : okq q l.length := h.bts.okq (s := 1) (by simp) (by omega)
theorem RB.lt {H : Heap} {A : Nat} {q : Q} {l : List UInt8} {b : Bool} (h : RB H A q l b) : A < H.length := by
  obtain ⟨fl, _, h⟩ := h.cell
  exact (List.getElem?_eq_some_iff.1 h).1
theorem RB.keep {H H' : Heap} {A : Nat} {q : Q} {l : List UInt8} {b : Bool} (h : RB H A q l b) (hk : ∀ B, B ≤ A → H'[B]? = H[B]?) : RB H' A q l b := by
  obtain ⟨fl, h1, h2⟩ := h.cell
  exact ⟨⟨fl, h1, (hk A (Nat.le_refl _)).trans h2⟩, h.bts.keep fun B hB => hk B (Nat.le_of_lt (h.ne B hB)), h.ne⟩
theorem RB.set {H : Heap} {A : Nat} {q q' : Q} {l l' : List UInt8} {b : Bool} (h : RB H A q l b) (b' : Bool) (n : Nat) (hn : n = l'.length) (hq : ∀ B, inq q' B → inq q B) (hc : CAt H q' (u8s l')) : RB (H.set A ⟨0, 102, #[slv q' n 1, .bool b'], 2, false, []⟩) A q' l' b' := by
  subst hn
  exact ⟨⟨2, Nat.le_refl _, List.getElem?_set_self h.lt⟩, hc.keep fun B hB => List.getElem?_set_ne (by have := h.ne B (hq B hB); omega), fun B hB => h.ne B (hq B hB)⟩
abbrev MR (α : Type) := List UInt8 → Bool → α × List UInt8 × Bool
def RdR {α : Type} (A : Nat) (H : Heap) (l : List UInt8) (b : Bool) (f : MR α) (V : α → Value → Heap → Prop) (call : Option (Ending × Heap)) : Prop :=
  ∃ v H' q', call = some (.returned v, H') ∧ V (f l b).1 v H' ∧ RB H' A q' (f l b).2.1 (f l b).2.2 ∧ Fr A H H'
def rNum : MR Int := fun l b => if l.length < 8 then (0, [], true) else (numV (l.take 8), l.drop 8, b)
theorem mul256 {c : Bool} {T : TypeId} (n : Int) (h : 0 ≤ n) (h2 : n < 72057594037927936) : binV Tryz.prog c .mul T (.int .u64 256) (.int .u64 n) = some (.int .u64 (256 * n)) := by
  have e : IntKind.u64.wrap (256 * n) = 256 * n := by
    unfold IntKind.wrap
    simp [IntKind.bits, IntKind.signed]
    omega
  rw [binV_ints (v := .int .u64 (IntKind.u64.wrap (256 * n))) (by simp [binOp, Op.intArith]; try rfl) rfl, e]
theorem add64 {c : Bool} {T : TypeId} (n m : Int) (h : 0 ≤ n + m) (h2 : n + m < 18446744073709551616) : binV Tryz.prog c .add T (.int .u64 n) (.int .u64 m) = some (.int .u64 (n + m)) := by
  have e : IntKind.u64.wrap (n + m) = n + m := by
    unfold IntKind.wrap
    simp [IntKind.bits, IntKind.signed]
    omega
  rw [binV_ints (v := .int .u64 (IntKind.u64.wrap (n + m))) (by simp [binOp, Op.intArith]; try rfl) rfl, e]
theorem cv_b64 {p : Nat} (H : Heap) (b : UInt8) : cvS Tryz.prog p 5 119 (.int .u8 b.toNat) H = some (.int .u64 b.toNat, H) := by
  rw [cvS_ne (by decide), conv_intInt Tryz.underlying5 Tryz.underlying119]
  have hb := b.toNat_lt
  have e : IntKind.u64.wrap (b.toNat : Int) = b.toNat := by
    unfold IntKind.wrap
    simp [IntKind.bits, IntKind.signed]
    omega
  rw [e]
theorem cv_u64i {p : Nat} (H : Heap) (n : Int) : cvS Tryz.prog p 119 3 (.int .u64 n) H = some (.int .i64 (IntKind.i64.wrap n), H) := by
  rw [cvS_ne (by decide), conv_intInt Tryz.underlying119 Tryz.underlying3]
theorem ge8 {l : List UInt8} (h : ¬ l.length < 8) : ∃ a b c d e f g k r, l = a :: b :: c :: d :: e :: f :: g :: k :: r := by
  match l, h with
  | a :: b :: c :: d :: e :: f :: g :: k :: r, _ => exact ⟨a, b, c, d, e, f, g, k, r, rfl⟩
  | [], h => simp at h
  | [_], h => simp at h
  | [_, _], h => simp at h
  | [_, _, _], h => simp at h
  | [_, _, _, _], h => simp at h
  | [_, _, _, _, _], h => simp at h
  | [_, _, _, _, _, _], h => simp at h
  | [_, _, _, _, _, _, _], h => simp at h
theorem FrRnum {A : Nat} {q : Q} {l : List UInt8} {b : Bool} {p : Nat} {H : Heap} (h : RB H A q l b) (hp : p ≤ A) : RdR A H l b rNum (fun n v _ => v = i64v n) (F 53 #[ptr0 A 2] p H) := by
  obtain ⟨fl, hfl, hA⟩ := h.cell
  have hok := h.okq
  have hlt := h.lt
  have hfr : ∀ x : Blk, Fr A H (H.set A x) := fun x => Fr.set _ _ _
  rw [F, F_loud (f := 53) (X := X) (cl := cl) rfl rfl rfl Tryz.func53 rfl, Tryz.results53]
  by_cases h8 : (l.length : Int) < 8
  · have e : rNum l b = (0, [], true) := by unfold rNum; rw [if_pos (by omega)]
    unfold RdR
    rw [e]
    simp (disch := first | assumption | omega | (simp only [go_sem] <;> omega) | fail) only [go_sem, hA, h8, List.set_set]
    refine ⟨_, _, none, rfl, rfl, h.set (q' := none) (l' := []) true 0 rfl (fun B hB => by obtain ⟨_, _, hB⟩ := hB; cases hB) rfl, hfr _⟩
  · have e : rNum l b = (numV (l.take 8), l.drop 8, b) := by unfold rNum; rw [if_neg (by omega)]
    have hl0 : ∀ i (c : UInt8), l[i]? = some c → ldA Tryz.prog H 5 (ptq q i) = some (.int .u8 c.toNat) := fun i c hc => ld_ptq (P := Tryz.prog) (T := 5) sz5 ag5 un5 h.bts (by simp [u8s, hc])
    have hcd : CAt H (shq q 8) (u8s (l.drop 8)) := by
      have := h.bts.shift 8 (by simp; omega)
      rwa [show (u8s l).drop 8 = u8s (l.drop 8) by simp [u8s]] at this
    have hset := h.set (q' := shq q 8) (l' := l.drop 8) b (l.length - 8) (by rw [List.length_drop]) (fun B hB => by rcases q with _ | ⟨a, o, m⟩ <;> obtain ⟨x, y, hB⟩ := hB <;> simp [shq] at hB; exact ⟨_, _, by rw [hB.1]⟩) hcd
    unfold RdR
    rw [e]
    obtain ⟨c0, c1, c2, c3, c4, c5, c6, c7, r, hl⟩ := ge8 (l := l) (by omega)
    have g0 := hl0 0 c0 (by rw [hl]; rfl)
    have g1 := hl0 1 c1 (by rw [hl]; rfl)
    have g2 := hl0 2 c2 (by rw [hl]; rfl)
    have g3 := hl0 3 c3 (by rw [hl]; rfl)
    have g4 := hl0 4 c4 (by rw [hl]; rfl)
    have g5 := hl0 5 c5 (by rw [hl]; rfl)
    have g6 := hl0 6 c6 (by rw [hl]; rfl)
    have g7 := hl0 7 c7 (by rw [hl]; rfl)
    have b0 := c0.toNat_lt
    have b1 := c1.toNat_lt
    have b2 := c2.toNat_lt
    have b3 := c3.toNat_lt
    have b4 := c4.toNat_lt
    have b5 := c5.toNat_lt
    have b6 := c6.toNat_lt
    have b7 := c7.toNat_lt
    have hln : ¬ l.length < 8 := by omega
    simp (disch := first | assumption | omega | (simp only [go_sem] <;> omega) | fail) only [go_sem, hA, h8, E_loop, g0, g1, g2, g3, g4, g5, g6, g7, mul256, add64, cv_b64, cv_u64i]
    refine ⟨_, _, _, rfl, ?_, hset, hfr _⟩
    have e8 : l.take 8 = [c0, c1, c2, c3, c4, c5, c6, c7] := by rw [hl]; rfl
    rw [e8]
    have hm := numV_mod [c0, c1, c2, c3, c4, c5, c6, c7]
    have hb := numV_bound [c0, c1, c2, c3, c4, c5, c6, c7]
    simp only [List.foldl_cons, List.foldl_nil] at hm
    generalize numV [c0, c1, c2, c3, c4, c5, c6, c7] = x at hm hb ⊢
    show Value.int .i64 _ = Value.int .i64 x
    rw [wrap64]
    congr 1
    split <;> omega
def rText : MR (List UInt8) := fun l b => if (rNum l b).1 < 0 ∨ ((rNum l b).2.1.length : Int) < (rNum l b).1 then ([], (rNum l b).2.1, true) else ((rNum l b).2.1.take (rNum l b).1.toNat, (rNum l b).2.1.drop (rNum l b).1.toNat, (rNum l b).2.2)
def rTruth : MR Bool := fun l b => match l with
  | [] => (false, [], true)
  | c :: r => (decide (c = 1), r, b || decide (1 < c.toNat))
theorem inq_shq {q : Q} {n B : Nat} (h : inq (shq q n) B) : inq q B := by
  rcases q with _ | ⟨a, o, m⟩
  · obtain ⟨x, y, h⟩ := h
    simp [shq] at h
  · obtain ⟨x, y, h⟩ := h
    simp only [shq, Option.map_some, Option.some.injEq, Prod.mk.injEq] at h
    exact ⟨o, m, by rw [h.1]⟩
theorem FrRtext {A : Nat} {q : Q} {l : List UInt8} {b : Bool} {p : Nat} {H : Heap} (h : RB H A q l b) (hp : p ≤ A) : RdR A H l b rText (fun s v _ => v = str s) (F 89 #[ptr0 A 2] p H) := by
  obtain ⟨v, H1, q1, e1, rfl, h1, f1⟩ := FrRnum h hp
  obtain ⟨fl, hfl, hA⟩ := h1.cell
  have hok := h1.okq
  have hlt := h1.lt
  have e1' : F 53 #[.pointer (some ⟨A, 0, some 2⟩)] p H = some (.returned (i64v (rNum l b).1), H1) := e1
  rw [F, F_loud (f := 89) (X := X) (cl := cl) rfl rfl rfl Tryz.func89 rfl, Tryz.results89]
  unfold RdR rText
  generalize (rNum l b).1 = n at *
  generalize (rNum l b).2.1 = l1 at *
  generalize (rNum l b).2.2 = b1 at *
  by_cases c1 : n < 0
  · rw [if_pos (.inl c1)]
    simp (disch := first | assumption | omega | (simp only [go_sem] <;> omega) | fail) only [go_sem, e1', hA, c1]
    exact ⟨_, _, q1, rfl, rfl, h1.set (q' := q1) (l' := l1) true l1.length rfl (fun B hB => hB) h1.bts, f1.trans (Fr.set _ _ _)⟩
  · by_cases c2 : (l1.length : Int) < n
    · rw [if_pos (.inr c2)]
      simp (disch := first | assumption | omega | (simp only [go_sem] <;> omega) | fail) only [go_sem, e1', hA, c1, c2]
      exact ⟨_, _, q1, rfl, rfl, h1.set (q' := q1) (l' := l1) true l1.length rfl (fun B hB => hB) h1.bts, f1.trans (Fr.set _ _ _)⟩
    · rw [if_neg (fun hh => hh.elim c1 c2)]
      have ht : CAt H1 q1 (u8s (l1.take n.toNat)) := by
        have := h1.bts.take n.toNat
        rwa [show (u8s l1).take n.toNat = u8s (l1.take n.toNat) by simp [u8s, List.map_take]] at this
      have cv := fun p => cv33_9 (p := p) H1 q1 (l1.take n.toNat) n.toNat (by rw [List.length_take]; omega) ht
      have hcd : CAt H1 (shq q1 (n.toNat * 1)) (u8s (l1.drop n.toNat)) := by
        have := h1.bts.shift n.toNat (by simp; omega)
        rw [Nat.mul_one]
        rwa [show (u8s l1).drop n.toNat = u8s (l1.drop n.toNat) by simp [u8s, List.map_drop]] at this
      have hset := h1.set (q' := shq q1 n.toNat) (l' := l1.drop n.toNat) b1 (l1.length - n.toNat) (by rw [List.length_drop]) (fun B hB => inq_shq hB) (by rw [Nat.mul_one] at hcd; exact hcd)
      simp (disch := first | assumption | omega | (simp only [go_sem] <;> omega) | fail) only [go_sem, e1', hA, c1, c2, cv]
      exact ⟨_, _, _, rfl, rfl, hset, f1.trans (Fr.set _ _ _)⟩
theorem FrRtruth {A : Nat} {q : Q} {l : List UInt8} {b : Bool} {p : Nat} {H : Heap} (h : RB H A q l b) (hp : p ≤ A) : RdR A H l b rTruth (fun s v _ => v = .bool s) (F 90 #[ptr0 A 2] p H) := by
  obtain ⟨fl, hfl, hA⟩ := h.cell
  have hok := h.okq
  have hlt := h.lt
  rw [F, F_loud (f := 90) (X := X) (cl := cl) rfl rfl rfl Tryz.func90 rfl, Tryz.results90]
  unfold RdR
  cases l with
  | nil =>
    have c1 : ((([] : List UInt8).length : Nat) : Int) < 1 := by simp
    simp (disch := first | assumption | omega | (simp only [go_sem] <;> omega) | fail) only [go_sem, hA, c1]
    exact ⟨_, _, q, rfl, rfl, h.set (q' := q) (l' := []) true 0 rfl (fun B hB => hB) h.bts, Fr.set _ _ _⟩
  | cons c r =>
    have c1 : ¬ ((r.length + 1 : Nat) : Int) < 1 := by omega
    have hl0 : ldA Tryz.prog H 5 (ptq q 0) = some (.int .u8 c.toNat) := ld_ptq (P := Tryz.prog) (T := 5) sz5 ag5 un5 h.bts (by simp [u8s])
    have hcd : CAt H (shq q 1) (u8s r) := by
      have := h.bts.shift 1 (by simp)
      simpa [u8s] using this
    have hset := fun b' => h.set (q' := shq q 1) (l' := r) b' ((c :: r).length - 1) (by simp) (fun B hB => inq_shq hB) hcd
    have hcb := c.toNat_lt
    have hc1 : (c = 1) ↔ c.toNat = 1 := ⟨fun h => by rw [h]; rfl, fun h => UInt8.toNat_inj.1 h⟩
    by_cases c2 : (1 : Int) < c.toNat
    · have e : rTruth (c :: r) b = (false, r, true) := by
        unfold rTruth
        have n1 : ¬ c = 1 := fun hh => by have := hc1.1 hh; omega
        simp [n1, show 1 < c.toNat by omega]
      have c3 : ¬ (c.toNat : Int) = 1 := by omega
      rw [e]
      simp (disch := first | assumption | omega | (simp only [go_sem] <;> omega) | fail) only [go_sem, hA, c1, hl0, c2, c3, List.set_set]
      exact ⟨_, _, _, rfl, rfl, hset true, Fr.set _ _ _⟩
    · have e : rTruth (c :: r) b = (decide (c = 1), r, b) := by
        unfold rTruth
        simp [show ¬ 1 < c.toNat by omega]
      rw [e]
      by_cases c3 : (c.toNat : Int) = 1
      · have : c = 1 := hc1.2 (by omega)
        rw [decide_eq_true this]
        simp (disch := first | assumption | omega | (simp only [go_sem] <;> omega) | fail) only [go_sem, hA, c1, hl0, c2, c3]
        exact ⟨_, _, _, rfl, rfl, hset b, Fr.set _ _ _⟩
      · have : ¬ c = 1 := fun hh => c3 (by have := hc1.1 hh; omega)
        rw [decide_eq_false this]
        simp (disch := first | assumption | omega | (simp only [go_sem] <;> omega) | fail) only [go_sem, hA, c1, hl0, c2, c3]
        exact ⟨_, _, _, rfl, rfl, hset b, Fr.set _ _ _⟩
theorem rd_step {α : Type} {f : MR α} {g : FuncId} {mk : α → Value} {A p : Nat} (hf : ∀ {q l b H}, RB H A q l b → RdR A H l b f (fun x v _ => v = mk x) (F g #[ptr0 A 2] p H)) {G : Heap} {q : Q} {l : List UInt8} {b : Bool} (hR : RB G A q l b) (K : Nat) (hAK : A < K) (hK : K < G.length) (x' : Blk) :
    ∃ G1 q1 G2, F g #[.pointer (some ⟨A, 0, some 2⟩)] p G = some (.returned (mk (f l b).1), G1) ∧ (∀ B, B < G.length → B ≠ A → G1[B]? = G[B]?) ∧ G1.set K x' = G2 ∧ RB G2 A q1 (f l b).2.1 (f l b).2.2 ∧ G2[K]? = some x' ∧ (∀ B, B < G.length → B ≠ A → B ≠ K → G2[B]? = G[B]?) ∧ G.length ≤ G2.length := by
  obtain ⟨v, G1, q1, e, rfl, r, fr⟩ := hf hR
  refine ⟨G1, q1, _, e, fr.2, rfl, r.keep fun B hB => List.getElem?_set_ne (by omega), List.getElem?_set_self (by have := fr.1; omega), fun B h1 h2 h3 => ?_, by rw [List.length_set]; exact fr.1⟩
  rw [List.getElem?_set_ne (Ne.symm h3)]
  exact fr.2 B h1 h2
theorem rd_mail {A p : Nat} (hp : p ≤ A) {G : Heap} {q : Q} {l : List UInt8} {b : Bool} (hR : RB G A q l b) (K : Nat) (hAK : A < K) (hK : K < G.length) (x' : Nat → Blk) :
    ∃ G1 q1 G2, F 89 #[.pointer (some ⟨A, 0, some 2⟩)] p G = some (.returned (str (rText l b).1), G1) ∧ (∀ B, B < G.length → B ≠ A → G1[B]? = G[B]?) ∧ G1.set K (x' G1.length) ++ [(⟨0, 5, (u8s (rText l b).1).toArray, 0, false, []⟩ : Blk)] = G2 ∧ RB G2 A q1 (rText l b).2.1 (rText l b).2.2 ∧ G2[K]? = some (x' G1.length) ∧ (∀ B, B < G.length → B ≠ A → B ≠ K → G2[B]? = G[B]?) ∧ G.length ≤ G1.length ∧ G1.length < G2.length ∧ G2[G1.length]? = some ((⟨0, 5, (u8s (rText l b).1).toArray, 0, false, []⟩ : Blk)) := by
  obtain ⟨v, G1, q1, e, rfl, r, fr⟩ := FrRtext hR hp
  have hl := fr.1
  have hA := r.lt
  refine ⟨G1, q1, _, e, fr.2, rfl, r.keep fun B hB => ?_, ?_, fun B h1 h2 h3 => ?_, hl, by simp, at_end (by rw [List.length_set])⟩
  · rw [List.getElem?_append_left (by rw [List.length_set]; omega), List.getElem?_set_ne (by omega)]
  · rw [List.getElem?_append_left (by rw [List.length_set]; omega), List.getElem?_set_self (by omega)]
  · rw [List.getElem?_append_left (by rw [List.length_set]; omega), List.getElem?_set_ne (Ne.symm h3)]
    exact fr.2 B h1 h2
def rItem : MR ItemL := fun l b =>
  let r0 := rNum l b
  let r1 := rNum r0.2.1 r0.2.2
  let r2 := rText r1.2.1 r1.2.2
  let r3 := rText r2.2.1 r2.2.2
  let r4 := rText r3.2.1 r3.2.2
  let r5 := rText r4.2.1 r4.2.2
  let r6 := rNum r5.2.1 r5.2.2
  (⟨r0.1, r1.1, r2.1, r3.1, r4.1, r5.1, r6.1⟩, r6.2)
def rOut : MR OutL := fun l b =>
  let r0 := rNum l b
  let r1 := rNum r0.2.1 r0.2.2
  let r2 := rNum r1.2.1 r1.2.2
  let r3 := rNum r2.2.1 r2.2.2
  let r4 := rText r3.2.1 r3.2.2
  let r5 := rNum r4.2.1 r4.2.2
  let r6 := rNum r5.2.1 r5.2.2
  let r7 := rNum r6.2.1 r6.2.2
  let r8 := rNum r7.2.1 r7.2.2
  (⟨r0.1, r1.1, r2.1, r3.1, r4.1, r5.1, r6.1, r7.1, r8.1⟩, r8.2)
theorem FrRitem {A : Nat} {q : Q} {l : List UInt8} {b : Bool} {p : Nat} {H : Heap} (h : RB H A q l b) (hp : p ≤ A) : RdR A H l b rItem (fun x v H' => ∃ c, v = .agg (List.toArray c) ∧ ItemE (fun B => H.length ≤ B ∧ B < H'.length) H' x c) (F 55 #[ptr0 A 2] p H) := by
  have hlt := h.lt
  rw [F, F_loud (f := 55) (X := X) (cl := cl) rfl rfl rfl Tryz.func55 rfl, Tryz.results55]
  obtain ⟨Z0, hZ0⟩ : ∃ Z, Z = (⟨0, 48, #[.int .i64 0, .int .i64 0, str [], str [], str [], str [], .int .i64 0], 0, false, []⟩ : Blk) := ⟨_, rfl⟩
  generalize hGG : H ++ [Z0] ++ [(⟨0, 48, #[.int .i64 0, .int .i64 0, str [], str [], str [], str [], .int .i64 0], 7, false, []⟩ : Blk)] = GG
  have hgl : GG.length = H.length + 2 := by rw [← hGG]; simp
  have hz2 : GG[H.length]? = some Z0 := by rw [← hGG, List.getElem?_append_left (by simp)]; exact at_end rfl
  have hz3 : GG[H.length + 1]? = some ⟨0, 48, #[.int .i64 0, .int .i64 0, str [], str [], str [], str [], .int .i64 0], 7, false, []⟩ := by rw [← hGG]; exact at_end (by simp)
  have hk : ∀ B, B < H.length → GG[B]? = H[B]? := fun B hB => by rw [← hGG, List.append_assoc]; exact List.getElem?_append_left hB
  have hk0 : ∀ B, B < H.length → B ≠ A → GG[B]? = H[B]? := fun B h1 _ => hk B h1
  have hR := h.keep (H' := GG) fun B hB => hk B (by omega)
  obtain ⟨R0, u0, G0, e0, w0, s0, hR0, hx0, ho0, hl0⟩ := rd_step (f := rNum) (g := 53) (mk := i64v) (p := p) (fun h => FrRnum h hp) hR (H.length + 1) (by omega) (by omega) ⟨0, 48, #[i64v (rNum l b).1, .int .i64 0, str [], str [], str [], str [], .int .i64 0], 7, false, []⟩
  clear hR
  have hR := hR0
  clear hR0
  generalize hr0 : rNum l b = z0 at *
  obtain ⟨n0, l0, b0⟩ := z0
  simp only at e0 s0 hR hx0
  have c0 : R0[H.length + 1]? = GG[H.length + 1]? := w0 _ (by omega) (by omega)
  have z20 : G0[H.length]? = some Z0 := (ho0 _ (by omega) (by omega) (by omega)).trans hz2
  have fr0 : ∀ B, B < H.length → B ≠ A → G0[B]? = H[B]? := fun B h1 h2 => (ho0 B (by omega) h2 (by omega)).trans (hk0 B h1 h2)
  obtain ⟨R1, u1, G1, e1, w1, s1, hR1, hx1, ho1, hl1⟩ := rd_step (f := rNum) (g := 53) (mk := i64v) (p := p) (fun h => FrRnum h hp) hR (H.length + 1) (by omega) (by omega) ⟨0, 48, #[i64v n0, i64v (rNum l0 b0).1, str [], str [], str [], str [], .int .i64 0], 7, false, []⟩
  clear hR
  have hR := hR1
  clear hR1
  generalize hr1 : rNum l0 b0 = z1 at *
  obtain ⟨n1, l1, b1⟩ := z1
  simp only at e1 s1 hR hx1
  have c1 : R1[H.length + 1]? = G0[H.length + 1]? := w1 _ (by omega) (by omega)
  have z21 : G1[H.length]? = some Z0 := (ho1 _ (by omega) (by omega) (by omega)).trans z20
  have fr1 : ∀ B, B < H.length → B ≠ A → G1[B]? = H[B]? := fun B h1 h2 => (ho1 B (by omega) h2 (by omega)).trans (fr0 B h1 h2)
  obtain ⟨R2, u2, G2, e2, w2, s2, hR2, hx2, ho2, hl2⟩ := rd_step (f := rText) (g := 89) (mk := str) (p := p) (fun h => FrRtext h hp) hR (H.length + 1) (by omega) (by omega) ⟨0, 48, #[i64v n0, i64v n1, str (rText l1 b1).1, str [], str [], str [], .int .i64 0], 7, false, []⟩
  clear hR
  have hR := hR2
  clear hR2
  generalize hr2 : rText l1 b1 = z2 at *
  obtain ⟨n2, l2, b2⟩ := z2
  simp only at e2 s2 hR hx2
  have c2 : R2[H.length + 1]? = G1[H.length + 1]? := w2 _ (by omega) (by omega)
  have z22 : G2[H.length]? = some Z0 := (ho2 _ (by omega) (by omega) (by omega)).trans z21
  have fr2 : ∀ B, B < H.length → B ≠ A → G2[B]? = H[B]? := fun B h1 h2 => (ho2 B (by omega) h2 (by omega)).trans (fr1 B h1 h2)
  obtain ⟨R3, u3, G3, e3, w3, s3, hR3, hx3, ho3, hl3⟩ := rd_step (f := rText) (g := 89) (mk := str) (p := p) (fun h => FrRtext h hp) hR (H.length + 1) (by omega) (by omega) ⟨0, 48, #[i64v n0, i64v n1, str n2, str (rText l2 b2).1, str [], str [], .int .i64 0], 7, false, []⟩
  clear hR
  have hR := hR3
  clear hR3
  generalize hr3 : rText l2 b2 = z3 at *
  obtain ⟨n3, l3, b3⟩ := z3
  simp only at e3 s3 hR hx3
  have c3 : R3[H.length + 1]? = G2[H.length + 1]? := w3 _ (by omega) (by omega)
  have z23 : G3[H.length]? = some Z0 := (ho3 _ (by omega) (by omega) (by omega)).trans z22
  have fr3 : ∀ B, B < H.length → B ≠ A → G3[B]? = H[B]? := fun B h1 h2 => (ho3 B (by omega) h2 (by omega)).trans (fr2 B h1 h2)
  obtain ⟨R4, u4, G4, e4, w4, s4, hR4, hx4, ho4, hl4⟩ := rd_step (f := rText) (g := 89) (mk := str) (p := p) (fun h => FrRtext h hp) hR (H.length + 1) (by omega) (by omega) ⟨0, 48, #[i64v n0, i64v n1, str n2, str n3, str (rText l3 b3).1, str [], .int .i64 0], 7, false, []⟩
  clear hR
  have hR := hR4
  clear hR4
  generalize hr4 : rText l3 b3 = z4 at *
  obtain ⟨n4, l4, b4⟩ := z4
  simp only at e4 s4 hR hx4
  have c4 : R4[H.length + 1]? = G3[H.length + 1]? := w4 _ (by omega) (by omega)
  have z24 : G4[H.length]? = some Z0 := (ho4 _ (by omega) (by omega) (by omega)).trans z23
  have fr4 : ∀ B, B < H.length → B ≠ A → G4[B]? = H[B]? := fun B h1 h2 => (ho4 B (by omega) h2 (by omega)).trans (fr3 B h1 h2)
  obtain ⟨R5, u5, G5, e5, w5, s5, hR5, hx5, ho5, hl5⟩ := rd_step (f := rText) (g := 89) (mk := str) (p := p) (fun h => FrRtext h hp) hR (H.length + 1) (by omega) (by omega) ⟨0, 48, #[i64v n0, i64v n1, str n2, str n3, str n4, str (rText l4 b4).1, .int .i64 0], 7, false, []⟩
  clear hR
  have hR := hR5
  clear hR5
  generalize hr5 : rText l4 b4 = z5 at *
  obtain ⟨n5, l5, b5⟩ := z5
  simp only at e5 s5 hR hx5
  have c5 : R5[H.length + 1]? = G4[H.length + 1]? := w5 _ (by omega) (by omega)
  have z25 : G5[H.length]? = some Z0 := (ho5 _ (by omega) (by omega) (by omega)).trans z24
  have fr5 : ∀ B, B < H.length → B ≠ A → G5[B]? = H[B]? := fun B h1 h2 => (ho5 B (by omega) h2 (by omega)).trans (fr4 B h1 h2)
  obtain ⟨R6, u6, G6, e6, w6, s6, hR6, hx6, ho6, hl6⟩ := rd_step (f := rNum) (g := 53) (mk := i64v) (p := p) (fun h => FrRnum h hp) hR (H.length + 1) (by omega) (by omega) ⟨0, 48, #[i64v n0, i64v n1, str n2, str n3, str n4, str n5, i64v (rNum l5 b5).1], 7, false, []⟩
  clear hR
  have hR := hR6
  clear hR6
  generalize hr6 : rNum l5 b5 = z6 at *
  obtain ⟨n6, l6, b6⟩ := z6
  simp only at e6 s6 hR hx6
  have c6 : R6[H.length + 1]? = G5[H.length + 1]? := w6 _ (by omega) (by omega)
  have z26 : G6[H.length]? = some Z0 := (ho6 _ (by omega) (by omega) (by omega)).trans z25
  have fr6 : ∀ B, B < H.length → B ≠ A → G6[B]? = H[B]? := fun B h1 h2 => (ho6 B (by omega) h2 (by omega)).trans (fr5 B h1 h2)
  unfold RdR rItem
  simp only [hr0, hr1, hr2, hr3, hr4, hr5, hr6]
  have hlG : H.length < G6.length := by omega
  subst hZ0
  simp (disch := first | assumption | omega | (simp only [go_sem] <;> omega) | fail) only [go_sem, hGG, hz3, e0, c0, hx0, s0, e1, c1, hx1, s1, e2, c2, hx2, s2, e3, c3, hx3, s3, e4, c4, hx4, s4, e5, c5, hx5, s5, e6, c6, hx6, s6, z26]
  exact ⟨_, _, _, rfl, ⟨[i64v n0, i64v n1, str n2, str n3, str n4, str n5, i64v n6], rfl, rfl⟩, hR.keep (fun B hB => List.getElem?_set_ne (by omega)), by rw [List.length_set]; omega, fun B h1 h2 => by rw [List.getElem?_set_ne (by omega)]; exact fr6 B h1 h2⟩
theorem FrRout {A : Nat} {q : Q} {l : List UInt8} {b : Bool} {p : Nat} {H : Heap} (h : RB H A q l b) (hp : p ≤ A) (hb : l.length ≤ 1000000000) : RdR A H l b rOut (fun x v H' => ∃ c, v = .agg (List.toArray c) ∧ OutE (fun B => H.length ≤ B ∧ B < H'.length) H' x c) (F 56 #[ptr0 A 2] p H) := by
  have hlt := h.lt
  rw [F, F_loud (f := 56) (X := X) (cl := cl) rfl rfl rfl Tryz.func56 rfl, Tryz.results56]
  obtain ⟨Z0, hZ0⟩ : ∃ Z, Z = (⟨0, 44, #[.int .i64 0, .int .i64 0, .int .i64 0, .int .i64 0, .slice none 0 0, .int .i64 0, .int .i64 0, .int .i64 0, .int .i64 0], 0, false, []⟩ : Blk) := ⟨_, rfl⟩
  generalize hGG : H ++ [Z0] ++ [(⟨0, 44, #[.int .i64 0, .int .i64 0, .int .i64 0, .int .i64 0, .slice none 0 0, .int .i64 0, .int .i64 0, .int .i64 0, .int .i64 0], 9, false, []⟩ : Blk)] = GG
  have hgl : GG.length = H.length + 2 := by rw [← hGG]; simp
  have hz2 : GG[H.length]? = some Z0 := by rw [← hGG, List.getElem?_append_left (by simp)]; exact at_end rfl
  have hz3 : GG[H.length + 1]? = some ⟨0, 44, #[.int .i64 0, .int .i64 0, .int .i64 0, .int .i64 0, .slice none 0 0, .int .i64 0, .int .i64 0, .int .i64 0, .int .i64 0], 9, false, []⟩ := by rw [← hGG]; exact at_end (by simp)
  have hk : ∀ B, B < H.length → GG[B]? = H[B]? := fun B hB => by rw [← hGG, List.append_assoc]; exact List.getElem?_append_left hB
  have hk0 : ∀ B, B < H.length → B ≠ A → GG[B]? = H[B]? := fun B h1 _ => hk B h1
  have hR := h.keep (H' := GG) fun B hB => hk B (by omega)
  obtain ⟨R0, u0, G0, e0, w0, s0, hR0, hx0, ho0, hl0⟩ := rd_step (f := rNum) (g := 53) (mk := i64v) (p := p) (fun h => FrRnum h hp) hR (H.length + 1) (by omega) (by omega) ⟨0, 44, #[i64v (rNum l b).1, .int .i64 0, .int .i64 0, .int .i64 0, .slice none 0 0, .int .i64 0, .int .i64 0, .int .i64 0, .int .i64 0], 9, false, []⟩
  clear hR
  have hR := hR0
  clear hR0
  generalize hr0 : rNum l b = z0 at *
  obtain ⟨n0, l0, b0⟩ := z0
  simp only at e0 s0 hR hx0
  have c0 : R0[H.length + 1]? = GG[H.length + 1]? := w0 _ (by omega) (by omega)
  have z20 : G0[H.length]? = some Z0 := (ho0 _ (by omega) (by omega) (by omega)).trans hz2
  have fr0 : ∀ B, B < H.length → B ≠ A → G0[B]? = H[B]? := fun B h1 h2 => (ho0 B (by omega) h2 (by omega)).trans (hk0 B h1 h2)
  obtain ⟨R1, u1, G1, e1, w1, s1, hR1, hx1, ho1, hl1⟩ := rd_step (f := rNum) (g := 53) (mk := i64v) (p := p) (fun h => FrRnum h hp) hR (H.length + 1) (by omega) (by omega) ⟨0, 44, #[i64v n0, i64v (rNum l0 b0).1, .int .i64 0, .int .i64 0, .slice none 0 0, .int .i64 0, .int .i64 0, .int .i64 0, .int .i64 0], 9, false, []⟩
  clear hR
  have hR := hR1
  clear hR1
  generalize hr1 : rNum l0 b0 = z1 at *
  obtain ⟨n1, l1, b1⟩ := z1
  simp only at e1 s1 hR hx1
  have c1 : R1[H.length + 1]? = G0[H.length + 1]? := w1 _ (by omega) (by omega)
  have z21 : G1[H.length]? = some Z0 := (ho1 _ (by omega) (by omega) (by omega)).trans z20
  have fr1 : ∀ B, B < H.length → B ≠ A → G1[B]? = H[B]? := fun B h1 h2 => (ho1 B (by omega) h2 (by omega)).trans (fr0 B h1 h2)
  obtain ⟨R2, u2, G2, e2, w2, s2, hR2, hx2, ho2, hl2⟩ := rd_step (f := rNum) (g := 53) (mk := i64v) (p := p) (fun h => FrRnum h hp) hR (H.length + 1) (by omega) (by omega) ⟨0, 44, #[i64v n0, i64v n1, i64v (rNum l1 b1).1, .int .i64 0, .slice none 0 0, .int .i64 0, .int .i64 0, .int .i64 0, .int .i64 0], 9, false, []⟩
  clear hR
  have hR := hR2
  clear hR2
  generalize hr2 : rNum l1 b1 = z2 at *
  obtain ⟨n2, l2, b2⟩ := z2
  simp only at e2 s2 hR hx2
  have c2 : R2[H.length + 1]? = G1[H.length + 1]? := w2 _ (by omega) (by omega)
  have z22 : G2[H.length]? = some Z0 := (ho2 _ (by omega) (by omega) (by omega)).trans z21
  have fr2 : ∀ B, B < H.length → B ≠ A → G2[B]? = H[B]? := fun B h1 h2 => (ho2 B (by omega) h2 (by omega)).trans (fr1 B h1 h2)
  obtain ⟨R3, u3, G3, e3, w3, s3, hR3, hx3, ho3, hl3⟩ := rd_step (f := rNum) (g := 53) (mk := i64v) (p := p) (fun h => FrRnum h hp) hR (H.length + 1) (by omega) (by omega) ⟨0, 44, #[i64v n0, i64v n1, i64v n2, i64v (rNum l2 b2).1, .slice none 0 0, .int .i64 0, .int .i64 0, .int .i64 0, .int .i64 0], 9, false, []⟩
  clear hR
  have hR := hR3
  clear hR3
  generalize hr3 : rNum l2 b2 = z3 at *
  obtain ⟨n3, l3, b3⟩ := z3
  simp only at e3 s3 hR hx3
  have c3 : R3[H.length + 1]? = G2[H.length + 1]? := w3 _ (by omega) (by omega)
  have z23 : G3[H.length]? = some Z0 := (ho3 _ (by omega) (by omega) (by omega)).trans z22
  have fr3 : ∀ B, B < H.length → B ≠ A → G3[B]? = H[B]? := fun B h1 h2 => (ho3 B (by omega) h2 (by omega)).trans (fr2 B h1 h2)
  obtain ⟨R4, u4, G4, e4, w4, s4, hR4, hx4, ho4, hl04, hl4, hm4⟩ := rd_mail (p := p) hp hR (H.length + 1) (by omega) (by omega) (fun M => ⟨0, 44, #[i64v n0, i64v n1, i64v n2, i64v n3, slv (some (M, 0, (rText l3 b3).1.length)) (rText l3 b3).1.length 1, .int .i64 0, .int .i64 0, .int .i64 0, .int .i64 0], 9, false, []⟩)
  clear hR
  have hR := hR4
  clear hR4
  generalize hr4 : rText l3 b3 = z4 at *
  obtain ⟨n4, l4, b4⟩ := z4
  simp only at e4 s4 hR hx4 hm4
  have c4 : R4[H.length + 1]? = G3[H.length + 1]? := w4 _ (by omega) (by omega)
  have z24 : G4[H.length]? = some Z0 := (ho4 _ (by omega) (by omega) (by omega)).trans z23
  have fr4 : ∀ B, B < H.length → B ≠ A → G4[B]? = H[B]? := fun B h1 h2 => (ho4 B (by omega) h2 (by omega)).trans (fr3 B h1 h2)
  obtain ⟨R5, u5, G5, e5, w5, s5, hR5, hx5, ho5, hl5⟩ := rd_step (f := rNum) (g := 53) (mk := i64v) (p := p) (fun h => FrRnum h hp) hR (H.length + 1) (by omega) (by omega) ⟨0, 44, #[i64v n0, i64v n1, i64v n2, i64v n3, slv (some (R4.length, 0, n4.length)) n4.length 1, i64v (rNum l4 b4).1, .int .i64 0, .int .i64 0, .int .i64 0], 9, false, []⟩
  clear hR
  have hR := hR5
  clear hR5
  generalize hr5 : rNum l4 b4 = z5 at *
  obtain ⟨n5, l5, b5⟩ := z5
  simp only at e5 s5 hR hx5
  have c5 : R5[H.length + 1]? = G4[H.length + 1]? := w5 _ (by omega) (by omega)
  have z25 : G5[H.length]? = some Z0 := (ho5 _ (by omega) (by omega) (by omega)).trans z24
  have fr5 : ∀ B, B < H.length → B ≠ A → G5[B]? = H[B]? := fun B h1 h2 => (ho5 B (by omega) h2 (by omega)).trans (fr4 B h1 h2)
  have hm5 : G5[R4.length]? = _ := (ho5 _ (by omega) (by omega) (by omega)).trans hm4
  obtain ⟨R6, u6, G6, e6, w6, s6, hR6, hx6, ho6, hl6⟩ := rd_step (f := rNum) (g := 53) (mk := i64v) (p := p) (fun h => FrRnum h hp) hR (H.length + 1) (by omega) (by omega) ⟨0, 44, #[i64v n0, i64v n1, i64v n2, i64v n3, slv (some (R4.length, 0, n4.length)) n4.length 1, i64v n5, i64v (rNum l5 b5).1, .int .i64 0, .int .i64 0], 9, false, []⟩
  clear hR
  have hR := hR6
  clear hR6
  generalize hr6 : rNum l5 b5 = z6 at *
  obtain ⟨n6, l6, b6⟩ := z6
  simp only at e6 s6 hR hx6
  have c6 : R6[H.length + 1]? = G5[H.length + 1]? := w6 _ (by omega) (by omega)
  have z26 : G6[H.length]? = some Z0 := (ho6 _ (by omega) (by omega) (by omega)).trans z25
  have fr6 : ∀ B, B < H.length → B ≠ A → G6[B]? = H[B]? := fun B h1 h2 => (ho6 B (by omega) h2 (by omega)).trans (fr5 B h1 h2)
  have hm6 : G6[R4.length]? = _ := (ho6 _ (by omega) (by omega) (by omega)).trans hm5
  obtain ⟨R7, u7, G7, e7, w7, s7, hR7, hx7, ho7, hl7⟩ := rd_step (f := rNum) (g := 53) (mk := i64v) (p := p) (fun h => FrRnum h hp) hR (H.length + 1) (by omega) (by omega) ⟨0, 44, #[i64v n0, i64v n1, i64v n2, i64v n3, slv (some (R4.length, 0, n4.length)) n4.length 1, i64v n5, i64v n6, i64v (rNum l6 b6).1, .int .i64 0], 9, false, []⟩
  clear hR
  have hR := hR7
  clear hR7
  generalize hr7 : rNum l6 b6 = z7 at *
  obtain ⟨n7, l7, b7⟩ := z7
  simp only at e7 s7 hR hx7
  have c7 : R7[H.length + 1]? = G6[H.length + 1]? := w7 _ (by omega) (by omega)
  have z27 : G7[H.length]? = some Z0 := (ho7 _ (by omega) (by omega) (by omega)).trans z26
  have fr7 : ∀ B, B < H.length → B ≠ A → G7[B]? = H[B]? := fun B h1 h2 => (ho7 B (by omega) h2 (by omega)).trans (fr6 B h1 h2)
  have hm7 : G7[R4.length]? = _ := (ho7 _ (by omega) (by omega) (by omega)).trans hm6
  obtain ⟨R8, u8, G8, e8, w8, s8, hR8, hx8, ho8, hl8⟩ := rd_step (f := rNum) (g := 53) (mk := i64v) (p := p) (fun h => FrRnum h hp) hR (H.length + 1) (by omega) (by omega) ⟨0, 44, #[i64v n0, i64v n1, i64v n2, i64v n3, slv (some (R4.length, 0, n4.length)) n4.length 1, i64v n5, i64v n6, i64v n7, i64v (rNum l7 b7).1], 9, false, []⟩
  clear hR
  have hR := hR8
  clear hR8
  generalize hr8 : rNum l7 b7 = z8 at *
  obtain ⟨n8, l8, b8⟩ := z8
  simp only at e8 s8 hR hx8
  have c8 : R8[H.length + 1]? = G7[H.length + 1]? := w8 _ (by omega) (by omega)
  have z28 : G8[H.length]? = some Z0 := (ho8 _ (by omega) (by omega) (by omega)).trans z27
  have fr8 : ∀ B, B < H.length → B ≠ A → G8[B]? = H[B]? := fun B h1 h2 => (ho8 B (by omega) h2 (by omega)).trans (fr7 B h1 h2)
  have hm8 : G8[R4.length]? = _ := (ho8 _ (by omega) (by omega) (by omega)).trans hm7
  unfold RdR rOut
  simp only [hr0, hr1, hr2, hr3, hr4, hr5, hr6, hr7, hr8]
  have hlG : H.length < G8.length := by omega
  subst hZ0
  simp (disch := first | assumption | omega | (simp only [go_sem] <;> omega) | fail) only [go_sem, hGG, hz3, e0, c0, hx0, s0, e1, c1, hx1, s1, e2, c2, hx2, s2, e3, c3, hx3, s3, e4, c4, hx4, s4, e5, c5, hx5, s5, e6, c6, hx6, s6, e7, c7, hx7, s7, e8, c8, hx8, s8, z28]
  refine ⟨_, _, u8, rfl, ⟨[i64v n0, i64v n1, i64v n2, i64v n3, slv (some (R4.length, 0, n4.length)) n4.length 1, i64v n5, i64v n6, i64v n7, i64v n8], rfl, some (R4.length, 0, n4.length), rfl, ?_, ?_⟩, ?_, ?_, ?_⟩
  · simp only [CAt]
    refine rd_iff.2 ⟨⟨0, 5, (u8s n4).toArray, 0, false, []⟩, by rw [List.getElem?_set_ne (by omega)]; exact hm8, ⟨rfl, Nat.zero_le _, by simp, by simp⟩, by simp [List.take_of_length_le]⟩
  · rintro B ⟨_, _, hB⟩
    cases hB
    rw [List.length_set]
    omega
  · exact hR.keep (fun B hB => List.getElem?_set_ne (by omega))
  · rw [List.length_set]; omega
  · intro B h1 h2
    rw [List.getElem?_set_ne (by omega)]; exact fr8 B h1 h2
def rRep {α : Type} (f : MR α) : Nat → MR (List α)
  | 0, l, b => ([], l, b)
  | k + 1, l, b => if b = true then ([], l, true) else ((f l b).1 :: (rRep f k (f l b).2.1 (f l b).2.2).1, (rRep f k (f l b).2.1 (f l b).2.2).2)
theorem rRep_bad {α : Type} (f : MR α) : ∀ (k : Nat) (l : List UInt8), rRep f k l true = ([], l, true)
  | 0, _ => rfl
  | _ + 1, _ => rfl
theorem rRep_go {α : Type} (f : MR α) (k : Nat) (l : List UInt8) : rRep f (k + 1) l false = ((f l false).1 :: (rRep f k (f l false).2.1 (f l false).2.2).1, (rRep f k (f l false).2.1 (f l false).2.2).2) := rfl
structure Eats {α : Type} (f : MR α) : Prop where
  eat : ∀ l, (f l false).2.2 = false → (f l false).2.1.length + 1 ≤ l.length
  le : ∀ l b, (f l b).2.1.length ≤ l.length
  bad : ∀ l, (f l true).2.2 = true
theorem eats_num : Eats rNum where
  eat l h := by
    unfold rNum at h ⊢
    split at h
    · cases h
    · rename_i hh; rw [if_neg hh]; simp only [List.length_drop]; omega
  le l b := by unfold rNum; split <;> simp
  bad l := by unfold rNum; split <;> rfl
theorem text_le (l : List UInt8) (b : Bool) : (rText l b).2.1.length ≤ (rNum l b).2.1.length ∧ ((rText l b).2.2 = false → (rNum l b).2.2 = false) := by
  unfold rText
  split
  · exact ⟨Nat.le_refl _, fun h => by cases h⟩
  · exact ⟨by simp, fun h => h⟩
theorem eats_text : Eats rText where
  eat l h := by
    obtain ⟨h1, h2⟩ := text_le l false
    have := eats_num.eat l (h2 h)
    omega
  le l b := Nat.le_trans (text_le l b).1 (eats_num.le l b)
  bad l := by
    cases h : (rText l true).2.2 with
    | true => rfl
    | false => have := (text_le l true).2 h; rw [eats_num.bad l] at this; cases this
theorem truth_le (l : List UInt8) (b : Bool) : (rTruth l b).2.1.length ≤ l.length := by
  cases l <;> simp [rTruth]
theorem truth_bad (l : List UInt8) : (rTruth l true).2.2 = true := by cases l <;> simp [rTruth]
theorem rep_le {α : Type} {f : MR α} (h : Eats f) : ∀ (k : Nat) (l : List UInt8) (b : Bool), (rRep f k l b).2.1.length ≤ l.length
  | 0, _, _ => Nat.le_refl _
  | k + 1, l, true => Nat.le_refl _
  | k + 1, l, false => by
    rw [rRep_go]
    exact Nat.le_trans (rep_le h k _ _) (h.le l false)
theorem rep_bad {α : Type} (f : MR α) (k : Nat) (l : List UInt8) : (rRep f k l true).2.2 = true := by rw [rRep_bad]
def rSub : MR SubL := fun l b =>
  let r0 := rText l b
  let r1 := rNum r0.2.1 r0.2.2
  let r2 := rRep rNum r1.1.toNat r1.2.1 r1.2.2
  let r3 := rText r2.2.1 (r2.2.2 || decide (r1.1 < 0))
  let r4 := rText r3.2.1 r3.2.2
  let r5 := rNum r4.2.1 r4.2.2
  let r6 := rNum r5.2.1 r5.2.2
  let r7 := rNum r6.2.1 r6.2.2
  let r8 := rNum r7.2.1 r7.2.2
  let r9 := rTruth r8.2.1 r8.2.2
  (⟨r0.1, r2.1, r3.1, r4.1, r5.1, r6.1, r7.1, r8.1, r9.1⟩, r9.2)
theorem eats_first {α β : Type} {f : MR α} {g : MR β} (h : Eats f) (h1 : ∀ l b, (g l b).2.1.length ≤ (f l b).2.1.length) (h2 : ∀ l b, (g l b).2.2 = false → (f l b).2.2 = false) : Eats g where
  eat l hh := by have := h.eat l (h2 l false hh); have := h1 l false; omega
  le l b := Nat.le_trans (h1 l b) (h.le l b)
  bad l := by
    cases hh : (g l true).2.2 with
    | true => rfl
    | false => have := h2 l true hh; rw [h.bad l] at this; cases this
theorem num_chain (l : List UInt8) (b : Bool) : (rNum l b).2.2 = false → b = false := fun h => by
  cases b with
  | false => rfl
  | true => rw [eats_num.bad l] at h; cases h
theorem text_chain (l : List UInt8) (b : Bool) : (rText l b).2.2 = false → b = false := fun h => by
  cases b with
  | false => rfl
  | true => rw [eats_text.bad l] at h; cases h
theorem truth_chain (l : List UInt8) (b : Bool) : (rTruth l b).2.2 = false → b = false := fun h => by
  cases b with
  | false => rfl
  | true => rw [truth_bad l] at h; cases h
theorem rep_chain {α : Type} (f : MR α) (k : Nat) (l : List UInt8) (b : Bool) : (rRep f k l b).2.2 = false → b = false := fun h => by
  cases b with
  | false => rfl
  | true => rw [rep_bad f k l] at h; cases h
theorem eats_item : Eats rItem := eats_first eats_num (fun l b => by
    unfold rItem
    simp only
    refine Nat.le_trans (eats_num.le _ _) (Nat.le_trans (eats_text.le _ _) (Nat.le_trans (eats_text.le _ _) (Nat.le_trans (eats_text.le _ _) (Nat.le_trans (eats_text.le _ _) (eats_num.le _ _)))))) (fun l b h => by
    unfold rItem at h
    simp only at h
    exact num_chain _ _ (text_chain _ _ (text_chain _ _ (text_chain _ _ (text_chain _ _ (num_chain _ _ h))))))
theorem eats_out : Eats rOut := eats_first eats_num (fun l b => by
    unfold rOut
    simp only
    refine Nat.le_trans (eats_num.le _ _) (Nat.le_trans (eats_num.le _ _) (Nat.le_trans (eats_num.le _ _) (Nat.le_trans (eats_num.le _ _) (Nat.le_trans (eats_text.le _ _) (Nat.le_trans (eats_num.le _ _) (Nat.le_trans (eats_num.le _ _) (eats_num.le _ _)))))))) (fun l b h => by
    unfold rOut at h
    simp only at h
    exact num_chain _ _ (num_chain _ _ (num_chain _ _ (text_chain _ _ (num_chain _ _ (num_chain _ _ (num_chain _ _ (num_chain _ _ h))))))))
theorem eats_sub : Eats rSub := eats_first eats_text (fun l b => by
    unfold rSub
    simp only
    refine Nat.le_trans (truth_le _ _) (Nat.le_trans (eats_num.le _ _) (Nat.le_trans (eats_num.le _ _) (Nat.le_trans (eats_num.le _ _) (Nat.le_trans (eats_num.le _ _) (Nat.le_trans (eats_text.le _ _) (Nat.le_trans (eats_text.le _ _) (Nat.le_trans (rep_le eats_num _ _ _) (eats_num.le _ _))))))))) (fun l b h => by
    unfold rSub at h
    simp only at h
    have h1 := text_chain _ _ (text_chain _ _ (num_chain _ _ (num_chain _ _ (num_chain _ _ (num_chain _ _ (truth_chain _ _ h))))))
    simp only [Bool.or_eq_false_iff] at h1
    exact num_chain _ _ (rep_chain _ _ _ _ h1.1))
structure LI {α : Type} (E : Rl α) (s p N1 : Nat) (G : Heap) (xs : List α) (q : Q) : Prop where
  own : ∃ cs, OwnS p G q cs ∧ cs.length = xs.length * s ∧ LC (E (fun B => N1 ≤ B ∧ B < G.length ∧ ¬ inq q B) G) xs cs
  new : ∀ B, inq q B → N1 ≤ B ∧ B < G.length
variable {α : Type} {E : Rl α} {s p N1 : Nat} {G G' : Heap} {xs : List α} {q : Q}
theorem LI.nil : LI E s p N1 G [] none := ⟨⟨[], rfl, by simp, rfl⟩, fun B h => by obtain ⟨_, _, h⟩ := h; cases h⟩
theorem LI.keep (hE : Kept E) (h : LI E s p N1 G xs q) (hk : ∀ B, N1 ≤ B → B < G.length → G'[B]? = G[B]?) (hl : G.length ≤ G'.length) : LI E s p N1 G' xs q := by
  obtain ⟨⟨cs, h1, h2, h3⟩, h4⟩ := h
  exact ⟨⟨cs, h1.keep fun A hA => hk A (h4 A hA).1 (h4 A hA).2, h2, h3.mono fun x c k => hE _ _ _ _ _ _ (fun B hB => ⟨⟨hB.1, by omega, hB.2.2⟩, hk B hB.1 hB.2.1⟩) k⟩, fun B hB => ⟨(h4 B hB).1, by have := (h4 B hB).2; omega⟩⟩
theorem LI.app {T st e : TypeId} {b : Nat} (hu : Tryz.prog.underlying st = some (.slice e)) (he : elemI Tryz.prog e = some (s, b)) (hs : 0 < s) (hT : appT Tryz.prog st = true) (hE : Kept E) (hlen : ∀ O H x c, E O H x c → c.length = s)
    (h : LI E s p N1 G xs q) (hp : p ≤ N1) (hN : N1 ≤ G.length) {x : α} {c : List Value} (hx : E (fun B => N1 ≤ B ∧ B < G.length ∧ ¬ inq q B) G x c) (n : Nat) (hn : n = xs.length) (hb : (n + 1) * (b + 1) ≤ 2 ^ 47) :
    ∃ q' G', appW Tryz.prog p st st (slv q n s) (.slice (some ⟨G.length, 0, some s⟩) 1 s) (G ++ [⟨0, T, c.toArray, 0, false, []⟩]) = some (slv q' (n + 1) s, G') ∧ LI E s p N1 G' (xs ++ [x]) q' ∧ G.length ≤ G'.length ∧ ∀ B, B < N1 → G'[B]? = G[B]? := by
  obtain ⟨⟨cs, h1, h2, h3⟩, h4⟩ := h
  subst hn
  obtain ⟨q', G', a1, a2, a3, a4, a5⟩ := app_new (P := Tryz.prog) (p := p) (H := G) (T := T) (T' := st) (st := st) (q := q) (len := xs.length) (s := s) (xs := c) hu he hs hT (by omega) h1 h2 (hlen _ _ _ _ hx) hb
  have nq : ∀ B, B < G.length → ¬ inq q B → ¬ inq q' B := fun B hB hq hc => (a5 B hc).elim hq (by omega)
  refine ⟨q', G', a1, ⟨⟨cs ++ c, a2, by rw [List.length_append, h2, hlen _ _ _ _ hx, List.length_append, Nat.add_mul]; simp, ?_⟩, fun B hB => ?_⟩, a3, fun B hB => a4 B (by omega) (fun hc => by have := (h4 B hc).1; omega)⟩
  · have mv : ∀ B, (N1 ≤ B ∧ B < G.length ∧ ¬ inq q B) → (N1 ≤ B ∧ B < G'.length ∧ ¬ inq q' B) ∧ G'[B]? = G[B]? := fun B hB => ⟨⟨hB.1, by omega, nq B hB.2.1 hB.2.2⟩, a4 B hB.2.1 hB.2.2⟩
    exact LC.snoc (hE _ _ _ _ _ _ mv hx) (h3.mono fun y d k => hE _ _ _ _ _ _ mv k)
  · refine ⟨(a5 B hB).elim (fun h => (h4 B h).1) (by omega), (a2.lt hB).2⟩
theorem LI.listAt (hE : Kept E) (h : LI E s p N1 G xs q) : ListAt E s (fun B => N1 ≤ B ∧ B < G.length) G xs (slv q xs.length s) := by
  obtain ⟨⟨cs, h1, h2, h3⟩, h4⟩ := h
  exact ⟨q, cs, rfl, h1.cat, h2, h4, h3.mono fun x c k => hE _ _ _ _ _ _ (fun B hB => ⟨⟨hB.1, hB.2.1⟩, rfl⟩) k⟩
end Go.AM.Z

namespace Go.AM.Z
open Go Go.AM Go.Proofs
set_option maxRecDepth 100000
set_option maxHeartbeats 4000000 in
theorem FrRsub {A : Nat} {q : Q} {l : List UInt8} {b : Bool} {p : Nat} {H : Heap} (h : RB H A q l b) (hp : p ≤ A) (hbl : l.length ≤ 1000000000) : RdR A H l b rSub (fun x v H' => ∃ c, v = .agg (List.toArray c) ∧ SubE (fun B => H.length ≤ B ∧ B < H'.length) H' x c) (F 54 #[ptr0 A 2] p H) := by
  have hlt0 := h.lt
  rw [F, F_loud (f := 54) (X := X) (cl := cl) rfl rfl rfl Tryz.func54 rfl, Tryz.results54]
  have hR := h.keep (H' := H ++ [(⟨0, 29, #[str [], .slice none 0 0, str [], str [], .int .i64 0, .int .i64 0, .int .i64 0, .int .i64 0, .bool false], 0, false, []⟩ : Blk)]) fun B hB => List.getElem?_append_left (by omega)
  obtain ⟨v, R0, q0, e0, rfl, hR0, f0⟩ := FrRtext hR hp
  have hle0 : l.length ≥ (rText l b).2.1.length := eats_text.le l b
  generalize hr0 : rText l b = z0 at *
  obtain ⟨n0, l0, b0⟩ := z0
  simp only at e0 hR0 hle0
  have fl0 := f0.1
  simp only [List.length_append, List.length_cons, List.length_nil, Nat.zero_add] at fl0
  have zz0 : R0[H.length]? = some (⟨0, 29, #[str [], .slice none 0 0, str [], str [], .int .i64 0, .int .i64 0, .int .i64 0, .int .i64 0, .bool false], 0, false, []⟩ : Blk) := (f0.2 _ (by simp) (by omega)).trans (at_end rfl)
  have hk0 : ∀ B, B < H.length → B ≠ A → R0[B]? = H[B]? := fun B h1 h2 => (f0.2 B (by simp; omega) h2).trans (List.getElem?_append_left h1)
  have hR0' := hR0.keep (H' := R0 ++ [(⟨0, 29, #[str n0, .slice none 0 0, str [], str [], .int .i64 0, .int .i64 0, .int .i64 0, .int .i64 0, .bool false], 9, false, []⟩ : Blk)]) fun B hB => List.getElem?_append_left (by omega)
  obtain ⟨v, R1, q1, e1, rfl, hR1, f1⟩ := FrRnum hR0' hp
  have hle1 : l0.length ≥ (rNum l0 b0).2.1.length := eats_num.le l0 b0
  generalize hr1 : rNum l0 b0 = z1 at *
  obtain ⟨n1, l1, b1⟩ := z1
  simp only at e1 hR1 hle1
  have fl1 := f1.1
  simp only [List.length_append, List.length_cons, List.length_nil, Nat.zero_add] at fl1
  have zz1 : R1[H.length]? = some (⟨0, 29, #[str [], .slice none 0 0, str [], str [], .int .i64 0, .int .i64 0, .int .i64 0, .int .i64 0, .bool false], 0, false, []⟩ : Blk) := (f1.2 _ (by simp; omega) (by omega)).trans ((List.getElem?_append_left (by omega)).trans zz0)
  have kk1 : R1[R0.length]? = some (⟨0, 29, #[str n0, .slice none 0 0, str [], str [], .int .i64 0, .int .i64 0, .int .i64 0, .int .i64 0, .bool false], 9, false, []⟩ : Blk) := (f1.2 _ (by simp) (by omega)).trans (at_end rfl)
  have hk1 : ∀ B, B < H.length → B ≠ A → R1[B]? = H[B]? := fun B h1 h2 => (f1.2 B (by simp; omega) h2).trans ((List.getElem?_append_left (by omega)).trans (hk0 B h1 h2))
  have e0' : F 89 #[.pointer (some ⟨A, 0, some 2⟩)] p (H ++ [(⟨0, 29, #[str [], .slice none 0 0, str [], str [], .int .i64 0, .int .i64 0, .int .i64 0, .int .i64 0, .bool false], 0, false, []⟩ : Blk)]) = some (.returned (str n0), R0) := e0
  have e1' : F 53 #[.pointer (some ⟨A, 0, some 2⟩)] p (R0 ++ [(⟨0, 29, #[str n0, .slice none 0 0, str [], str [], .int .i64 0, .int .i64 0, .int .i64 0, .int .i64 0, .bool false], 9, false, []⟩ : Blk)]) = some (.returned (i64v n1), R1) := e1
  generalize hLa : Code.loop _ = La
  simp (disch := first | assumption | omega | (simp only [go_sem] <;> omega) | fail) only [go_sem, e0', e1']
  generalize hT : upd _ 5 _ = T
  obtain ⟨e, t, G, k1, ⟨k2, qL, q, hLI, hR, hKb, hfr, hNl, hxl, g2, g3, g4, g5⟩⟩ := loop_up (P := Tryz.prog) (cl := cl) (X := X) (L := La) (p := p) (t := T) (H := R1) n1.toNat
    (fun i t G => ∃ qL q xs l' b', LI IntE 1 p R1.length G xs qL ∧ RB G A q l' b' ∧ xs.length = i ∧ rRep rNum n1.toNat l1 b1 = (xs ++ (rRep rNum (n1.toNat - i) l' b').1, (rRep rNum (n1.toNat - i) l' b').2) ∧ (b' = false → i + l'.length ≤ l1.length) ∧ i ≤ l1.length + 1 ∧ G[R0.length]? = some (⟨0, 29, #[str n0, slv qL i 1, str [], str [], .int .i64 0, .int .i64 0, .int .i64 0, .int .i64 0, .bool false], 9, false, []⟩ : Blk) ∧ (∀ B, B < R1.length → B ≠ A → B ≠ R0.length → G[B]? = R1[B]?) ∧ R1.length ≤ G.length ∧ t 5 = i64v i ∧ t 4 = i64v n1 ∧ t 0 = .pointer (some ⟨A, 0, some 2⟩) ∧ t 3 = .pointer (some ⟨R0.length, 0, some 9⟩) ∧ t 2 = .pointer (some ⟨H.length, 0, some 9⟩))
    (fun e t G => e = .exit 0 ∧ ∃ qL q, LI IntE 1 p R1.length G (rRep rNum n1.toNat l1 b1).1 qL ∧ RB G A q (rRep rNum n1.toNat l1 b1).2.1 (rRep rNum n1.toNat l1 b1).2.2 ∧ G[R0.length]? = some (⟨0, 29, #[str n0, slv qL (rRep rNum n1.toNat l1 b1).1.length 1, str [], str [], .int .i64 0, .int .i64 0, .int .i64 0, .int .i64 0, .bool false], 9, false, []⟩ : Blk) ∧ (∀ B, B < R1.length → B ≠ A → B ≠ R0.length → G[B]? = R1[B]?) ∧ R1.length ≤ G.length ∧ (rRep rNum n1.toNat l1 b1).1.length ≤ l1.length + 1 ∧ t 4 = i64v n1 ∧ t 0 = .pointer (some ⟨A, 0, some 2⟩) ∧ t 3 = .pointer (some ⟨R0.length, 0, some 9⟩) ∧ t 2 = .pointer (some ⟨H.length, 0, some 9⟩))
    (by
      rintro i t G hi ⟨qL, q, xs, l', b', hLI, hR, hxl, hrep, hb1, hb2, hKb, hfr, hNl, g1, g2, g3, g4, g5⟩
      have hlt : (i : Int) < n1 := by omega
      obtain ⟨fl0, hfl0, hAc⟩ := hR.cell
      cases b' with
      | true =>
        right
        rw [← hLa, E_loop, hLa]
        rw [rRep_bad] at hrep
        simp only [List.append_nil] at hrep
        simp (disch := first | assumption | omega | (simp only [go_sem] <;> omega) | fail) only [go_sem, g1, g2, g3, g4, hlt, hAc]
        refine ⟨_, _, _, rfl, rfl, qL, q, ?_⟩
        rw [hrep]
        refine ⟨hLI, hR, by rw [hxl]; exact hKb, hfr, hNl, (by show xs.length ≤ _; omega), ?_, ?_, ?_, ?_⟩ <;> simp only [go_sem, g2, g3, g4, g5]
      | false =>
        left
        obtain ⟨m, hm⟩ : ∃ m, n1.toNat - i = m + 1 := ⟨n1.toNat - i - 1, by omega⟩
        rw [hm, rRep_go] at hrep
        have heat := eats_num.eat l'
        have hb1' := hb1 rfl
        obtain ⟨v, R, q1, e1, hv, hR1, f1⟩ := FrRnum hR (by omega)
        have hl1 := f1.1
        have hKR : R[R0.length]? = _ := (f1.2 R0.length (by omega) (by omega)).trans hKb
        have hLIR := hLI.keep kept_int (fun B h1 h2 => f1.2 B h2 (by omega)) hl1
        have hcnt : ((rNum l' false).2.2 = false → i + 1 + (rNum l' false).2.1.length ≤ l1.length) ∧ i + 1 ≤ l1.length + 1 := ⟨fun hh => by have := heat hh; omega, by omega⟩
        subst hv
        generalize hrr : rNum l' false = rr at *
        obtain ⟨y, ly, by_⟩ := rr
        simp only at hrep hR1 hcnt e1
        have e1' : F 53 #[.pointer (some ⟨A, 0, some 2⟩)] p G = some (.returned (i64v y), R) := e1
        obtain ⟨q2, H2, a1, a2, a3, a4⟩ := LI.app (T := 3) (st := 27) Tryz.underlying27 ei27 (by omega) ap27 kept_int (fun _ _ => IntE.len) hLIR (by omega) (by omega) (x := y) (c := [i64v y]) rfl i hxl.symm (by omega)
        have a1' : appW Tryz.prog p 27 27 (slv qL i 1) (.slice (some ⟨R.length, 0, some 1⟩) 1 1) (R ++ [⟨0, 3, #[i64v y], 0, false, []⟩]) = some (slv q2 (i + 1) 1, H2) := a1
        have hK2 : H2[R0.length]? = _ := (a4 R0.length (by omega)).trans hKR
        rw [← hLa, E_loop, hLa]
        simp (disch := first | assumption | omega | (simp only [go_sem] <;> omega) | fail) only [go_sem, g1, g2, g3, g4, hlt, hAc, e1', hKR, a1', hK2]
        have hKl : R0.length < H2.length := (List.getElem?_eq_some_iff.1 hK2).1
        refine ⟨_, _, rfl, q2, q1, xs ++ [y], ly, by_, a2.keep kept_int (fun B h1 h2 => List.getElem?_set_ne (by omega)) (by rw [List.length_set]; exact Nat.le_refl _), hR1.keep (fun B hB => by rw [List.getElem?_set_ne (by omega), a4 B (by omega)]), by simp [hxl], ?_, hcnt.1, (by have := hcnt.2; omega), List.getElem?_set_self hKl, fun B h1 h2 h3 => ?_, ?_, ?_, ?_, ?_, ?_, ?_⟩
        · rw [hrep, show n1.toNat - (i + 1) = m by omega, List.append_assoc]; rfl
        · rw [List.getElem?_set_ne (Ne.symm h3), a4 B h1, f1.2 B (by omega) h2]
          exact hfr B h1 h2 h3
        · rw [List.length_set]; omega
        · simp only [go_sem, g1] <;> rfl
        · simp only [go_sem, g2]
        · simp only [go_sem, g3]
        · simp only [go_sem, g4]
        · simp only [go_sem, g5])
    (by
      rintro t G ⟨qL, q, xs, l', b', hLI, hR, hxl, hrep, hb1, hb2, hKb, hfr, hNl, g1, g2, g3, g4, g5⟩
      have hlt : ¬ (n1.toNat : Int) < n1 := by omega
      rw [Nat.sub_self, rRep, List.append_nil] at hrep
      rw [← hLa, E_loop, hLa]
      simp (disch := first | assumption | omega | (simp only [go_sem] <;> omega) | fail) only [go_sem, g1, g2, g3, g4, hlt]
      refine ⟨_, _, _, rfl, rfl, qL, q, ?_⟩
      rw [hrep]
      refine ⟨hLI, hR, by rw [hxl]; exact hKb, hfr, hNl, (by show xs.length ≤ _; omega), ?_, ?_, ?_, ?_⟩ <;> simp only [go_sem, g2, g3, g4, g5])
    ⟨none, q1, [], l1, b1, .nil, hR1, rfl, by simp, fun _ => by omega, by omega, kk1, (fun _ _ _ _ => rfl), Nat.le_refl _, by rw [← hT]; simp only [go_sem] <;> rfl, by rw [← hT]; simp only [go_sem], by rw [← hT]; simp only [go_sem], by rw [← hT]; simp only [go_sem], by rw [← hT]; simp only [go_sem]⟩
  subst k2
  rw [k1]
  have hle2 := rep_le eats_num n1.toNat l1 b1
  generalize hr2 : rRep rNum n1.toNat l1 b1 = z2 at *
  obtain ⟨n2, l2, b2⟩ := z2
  simp only at hLI hR hKb hxl hle2
  have hz2' : G[H.length]? = some (⟨0, 29, #[str [], .slice none 0 0, str [], str [], .int .i64 0, .int .i64 0, .int .i64 0, .int .i64 0, .bool false], 0, false, []⟩ : Blk) := (hfr _ (by omega) (by omega) (by omega)).trans zz1
  have hf2 : ∀ B, B < H.length → B ≠ A → G[B]? = H[B]? := fun B h1 h2 => (hfr B (by omega) h2 (by omega)).trans (hk1 B h1 h2)
  obtain ⟨fl0', hfl0', hAc⟩ := hR.cell
  obtain ⟨⟨cs, o1, o2, o3⟩, o4⟩ := hLI
  obtain rfl := LC_int o3
  have ocat := o1.cat
  clear o1 o2 o3 e0 e1 hR0 hR1 hR0' f0 f1
  by_cases c1 : n1 < 0
  · have hbb : (b2 || decide (n1 < 0)) = true := by simp [c1]
    have hset := hR.set (q' := q) (l' := l2) true l2.length rfl (fun B hB => hB) hR.bts
    generalize hS : G.set A ⟨0, 102, #[slv q l2.length 1, .bool true], 2, false, []⟩ = S at *
    have sA : A < G.length := hR.lt
    have sl : S.length = G.length := by rw [← hS, List.length_set]
    have so : ∀ B, B ≠ A → S[B]? = G[B]? := fun B hB => by rw [← hS]; exact List.getElem?_set_ne (Ne.symm hB)
    have hKb2 := (so R0.length (by omega)).trans hKb
    have hz2 := (so H.length (by omega)).trans hz2'
    have hk0' : ∀ B, B < H.length → B ≠ A → S[B]? = H[B]? := fun B h1 h2 => (so B h2).trans (hf2 B h1 h2)
    have low : ∀ B, R1.length ≤ B → B < G.length → S[B]? = G[B]? := fun B h1 h2 => so B (by omega)
    clear hR
    have hR := hset
    obtain ⟨R3, u3, G3, e3, w3, s3, hR3, hx3, ho3, hl3⟩ := rd_step (f := rText) (g := 89) (mk := str) (p := p) (fun h => FrRtext h hp) hR R0.length (by omega) (by omega) ⟨0, 29, #[str n0, slv qL n2.length 1, str (rText l2 true).1, str [], .int .i64 0, .int .i64 0, .int .i64 0, .int .i64 0, .bool false], 9, false, []⟩
    clear hR
    have hR := hR3
    clear hR3
    generalize hr3 : rText l2 true = z3 at *
    obtain ⟨n3, l3, b3⟩ := z3
    simp only at e3 s3 hR hx3
    have c3 : R3[R0.length]? = S[R0.length]? := w3 _ (by omega) (by omega)
    have y3 : G3[H.length]? = some (⟨0, 29, #[str [], .slice none 0 0, str [], str [], .int .i64 0, .int .i64 0, .int .i64 0, .int .i64 0, .bool false], 0, false, []⟩ : Blk) := (ho3 _ (by omega) (by omega) (by omega)).trans hz2
    have fr3 : ∀ B, B < H.length → B ≠ A → G3[B]? = H[B]? := fun B h1 h2 => (ho3 B (by omega) h2 (by omega)).trans (hk0' B h1 h2)
    have lo3 : ∀ B, R1.length ≤ B → B < G.length → G3[B]? = G[B]? := fun B h1 h2 => (ho3 B (by omega) (by omega) (by omega)).trans (low B h1 h2)
    obtain ⟨R4, u4, G4, e4, w4, s4, hR4, hx4, ho4, hl4⟩ := rd_step (f := rText) (g := 89) (mk := str) (p := p) (fun h => FrRtext h hp) hR R0.length (by omega) (by omega) ⟨0, 29, #[str n0, slv qL n2.length 1, str n3, str (rText l3 b3).1, .int .i64 0, .int .i64 0, .int .i64 0, .int .i64 0, .bool false], 9, false, []⟩
    clear hR
    have hR := hR4
    clear hR4
    generalize hr4 : rText l3 b3 = z4 at *
    obtain ⟨n4, l4, b4⟩ := z4
    simp only at e4 s4 hR hx4
    have c4 : R4[R0.length]? = G3[R0.length]? := w4 _ (by omega) (by omega)
    have y4 : G4[H.length]? = some (⟨0, 29, #[str [], .slice none 0 0, str [], str [], .int .i64 0, .int .i64 0, .int .i64 0, .int .i64 0, .bool false], 0, false, []⟩ : Blk) := (ho4 _ (by omega) (by omega) (by omega)).trans y3
    have fr4 : ∀ B, B < H.length → B ≠ A → G4[B]? = H[B]? := fun B h1 h2 => (ho4 B (by omega) h2 (by omega)).trans (fr3 B h1 h2)
    have lo4 : ∀ B, R1.length ≤ B → B < G.length → G4[B]? = G[B]? := fun B h1 h2 => (ho4 B (by omega) (by omega) (by omega)).trans (lo3 B h1 h2)
    obtain ⟨R5, u5, G5, e5, w5, s5, hR5, hx5, ho5, hl5⟩ := rd_step (f := rNum) (g := 53) (mk := i64v) (p := p) (fun h => FrRnum h hp) hR R0.length (by omega) (by omega) ⟨0, 29, #[str n0, slv qL n2.length 1, str n3, str n4, i64v (rNum l4 b4).1, .int .i64 0, .int .i64 0, .int .i64 0, .bool false], 9, false, []⟩
    clear hR
    have hR := hR5
    clear hR5
    generalize hr5 : rNum l4 b4 = z5 at *
    obtain ⟨n5, l5, b5⟩ := z5
    simp only at e5 s5 hR hx5
    have c5 : R5[R0.length]? = G4[R0.length]? := w5 _ (by omega) (by omega)
    have y5 : G5[H.length]? = some (⟨0, 29, #[str [], .slice none 0 0, str [], str [], .int .i64 0, .int .i64 0, .int .i64 0, .int .i64 0, .bool false], 0, false, []⟩ : Blk) := (ho5 _ (by omega) (by omega) (by omega)).trans y4
    have fr5 : ∀ B, B < H.length → B ≠ A → G5[B]? = H[B]? := fun B h1 h2 => (ho5 B (by omega) h2 (by omega)).trans (fr4 B h1 h2)
    have lo5 : ∀ B, R1.length ≤ B → B < G.length → G5[B]? = G[B]? := fun B h1 h2 => (ho5 B (by omega) (by omega) (by omega)).trans (lo4 B h1 h2)
    obtain ⟨R6, u6, G6, e6, w6, s6, hR6, hx6, ho6, hl6⟩ := rd_step (f := rNum) (g := 53) (mk := i64v) (p := p) (fun h => FrRnum h hp) hR R0.length (by omega) (by omega) ⟨0, 29, #[str n0, slv qL n2.length 1, str n3, str n4, i64v n5, i64v (rNum l5 b5).1, .int .i64 0, .int .i64 0, .bool false], 9, false, []⟩
    clear hR
    have hR := hR6
    clear hR6
    generalize hr6 : rNum l5 b5 = z6 at *
    obtain ⟨n6, l6, b6⟩ := z6
    simp only at e6 s6 hR hx6
    have c6 : R6[R0.length]? = G5[R0.length]? := w6 _ (by omega) (by omega)
    have y6 : G6[H.length]? = some (⟨0, 29, #[str [], .slice none 0 0, str [], str [], .int .i64 0, .int .i64 0, .int .i64 0, .int .i64 0, .bool false], 0, false, []⟩ : Blk) := (ho6 _ (by omega) (by omega) (by omega)).trans y5
    have fr6 : ∀ B, B < H.length → B ≠ A → G6[B]? = H[B]? := fun B h1 h2 => (ho6 B (by omega) h2 (by omega)).trans (fr5 B h1 h2)
    have lo6 : ∀ B, R1.length ≤ B → B < G.length → G6[B]? = G[B]? := fun B h1 h2 => (ho6 B (by omega) (by omega) (by omega)).trans (lo5 B h1 h2)
    obtain ⟨R7, u7, G7, e7, w7, s7, hR7, hx7, ho7, hl7⟩ := rd_step (f := rNum) (g := 53) (mk := i64v) (p := p) (fun h => FrRnum h hp) hR R0.length (by omega) (by omega) ⟨0, 29, #[str n0, slv qL n2.length 1, str n3, str n4, i64v n5, i64v n6, i64v (rNum l6 b6).1, .int .i64 0, .bool false], 9, false, []⟩
    clear hR
    have hR := hR7
    clear hR7
    generalize hr7 : rNum l6 b6 = z7 at *
    obtain ⟨n7, l7, b7⟩ := z7
    simp only at e7 s7 hR hx7
    have c7 : R7[R0.length]? = G6[R0.length]? := w7 _ (by omega) (by omega)
    have y7 : G7[H.length]? = some (⟨0, 29, #[str [], .slice none 0 0, str [], str [], .int .i64 0, .int .i64 0, .int .i64 0, .int .i64 0, .bool false], 0, false, []⟩ : Blk) := (ho7 _ (by omega) (by omega) (by omega)).trans y6
    have fr7 : ∀ B, B < H.length → B ≠ A → G7[B]? = H[B]? := fun B h1 h2 => (ho7 B (by omega) h2 (by omega)).trans (fr6 B h1 h2)
    have lo7 : ∀ B, R1.length ≤ B → B < G.length → G7[B]? = G[B]? := fun B h1 h2 => (ho7 B (by omega) (by omega) (by omega)).trans (lo6 B h1 h2)
    obtain ⟨R8, u8, G8, e8, w8, s8, hR8, hx8, ho8, hl8⟩ := rd_step (f := rNum) (g := 53) (mk := i64v) (p := p) (fun h => FrRnum h hp) hR R0.length (by omega) (by omega) ⟨0, 29, #[str n0, slv qL n2.length 1, str n3, str n4, i64v n5, i64v n6, i64v n7, i64v (rNum l7 b7).1, .bool false], 9, false, []⟩
    clear hR
    have hR := hR8
    clear hR8
    generalize hr8 : rNum l7 b7 = z8 at *
    obtain ⟨n8, l8, b8⟩ := z8
    simp only at e8 s8 hR hx8
    have c8 : R8[R0.length]? = G7[R0.length]? := w8 _ (by omega) (by omega)
    have y8 : G8[H.length]? = some (⟨0, 29, #[str [], .slice none 0 0, str [], str [], .int .i64 0, .int .i64 0, .int .i64 0, .int .i64 0, .bool false], 0, false, []⟩ : Blk) := (ho8 _ (by omega) (by omega) (by omega)).trans y7
    have fr8 : ∀ B, B < H.length → B ≠ A → G8[B]? = H[B]? := fun B h1 h2 => (ho8 B (by omega) h2 (by omega)).trans (fr7 B h1 h2)
    have lo8 : ∀ B, R1.length ≤ B → B < G.length → G8[B]? = G[B]? := fun B h1 h2 => (ho8 B (by omega) (by omega) (by omega)).trans (lo7 B h1 h2)
    obtain ⟨R9, u9, G9, e9, w9, s9, hR9, hx9, ho9, hl9⟩ := rd_step (f := rTruth) (g := 90) (mk := Value.bool) (p := p) (fun h => FrRtruth h hp) hR R0.length (by omega) (by omega) ⟨0, 29, #[str n0, slv qL n2.length 1, str n3, str n4, i64v n5, i64v n6, i64v n7, i64v n8, Value.bool (rTruth l8 b8).1], 9, false, []⟩
    clear hR
    have hR := hR9
    clear hR9
    generalize hr9 : rTruth l8 b8 = z9 at *
    obtain ⟨n9, l9, b9⟩ := z9
    simp only at e9 s9 hR hx9
    have c9 : R9[R0.length]? = G8[R0.length]? := w9 _ (by omega) (by omega)
    have y9 : G9[H.length]? = some (⟨0, 29, #[str [], .slice none 0 0, str [], str [], .int .i64 0, .int .i64 0, .int .i64 0, .int .i64 0, .bool false], 0, false, []⟩ : Blk) := (ho9 _ (by omega) (by omega) (by omega)).trans y8
    have fr9 : ∀ B, B < H.length → B ≠ A → G9[B]? = H[B]? := fun B h1 h2 => (ho9 B (by omega) h2 (by omega)).trans (fr8 B h1 h2)
    have lo9 : ∀ B, R1.length ≤ B → B < G.length → G9[B]? = G[B]? := fun B h1 h2 => (ho9 B (by omega) (by omega) (by omega)).trans (lo8 B h1 h2)
    unfold RdR rSub
    simp only [hr0, hr1, hr2, hbb, hr3, hr4, hr5, hr6, hr7, hr8, hr9]
    simp (disch := first | assumption | omega | (simp only [go_sem] <;> omega) | fail) only [go_sem, c1, g2, g3, g4, g5, hAc, hS, hKb2, e3, c3, hx3, s3, e4, c4, hx4, s4, e5, c5, hx5, s5, e6, c6, hx6, s6, e7, c7, hx7, s7, e8, c8, hx8, s8, e9, c9, hx9, s9, y9]
    refine ⟨_, _, u9, rfl, ⟨[str n0, slv qL n2.length 1, str n3, str n4, i64v n5, i64v n6, i64v n7, i64v n8, Value.bool n9], rfl, qL, rfl, ?_, ?_⟩, ?_, ?_, ?_⟩
    · exact ocat.keep fun B hB => by
        have := o4 B hB
        rw [List.getElem?_set_ne (by omega)]
        exact lo9 B this.1 this.2
    · intro B hB
      have := o4 B hB
      rw [List.length_set]
      omega
    · exact hR.keep (fun B hB => List.getElem?_set_ne (by omega))
    · rw [List.length_set]; omega
    · intro B h1 h2
      rw [List.getElem?_set_ne (by omega)]; exact fr9 B h1 h2
  · have hbb : (b2 || decide (n1 < 0)) = b2 := by simp [c1]
    have hKb2 := hKb
    have hz2 := hz2'
    have hk0' := hf2
    have low : ∀ B, R1.length ≤ B → B < G.length → G[B]? = G[B]? := fun _ _ _ => rfl
    have sl : G.length = G.length := rfl
    obtain ⟨R3, u3, G3, e3, w3, s3, hR3, hx3, ho3, hl3⟩ := rd_step (f := rText) (g := 89) (mk := str) (p := p) (fun h => FrRtext h hp) hR R0.length (by omega) (by omega) ⟨0, 29, #[str n0, slv qL n2.length 1, str (rText l2 b2).1, str [], .int .i64 0, .int .i64 0, .int .i64 0, .int .i64 0, .bool false], 9, false, []⟩
    clear hR
    have hR := hR3
    clear hR3
    generalize hr3 : rText l2 b2 = z3 at *
    obtain ⟨n3, l3, b3⟩ := z3
    simp only at e3 s3 hR hx3
    have c3 : R3[R0.length]? = G[R0.length]? := w3 _ (by omega) (by omega)
    have y3 : G3[H.length]? = some (⟨0, 29, #[str [], .slice none 0 0, str [], str [], .int .i64 0, .int .i64 0, .int .i64 0, .int .i64 0, .bool false], 0, false, []⟩ : Blk) := (ho3 _ (by omega) (by omega) (by omega)).trans hz2
    have fr3 : ∀ B, B < H.length → B ≠ A → G3[B]? = H[B]? := fun B h1 h2 => (ho3 B (by omega) h2 (by omega)).trans (hk0' B h1 h2)
    have lo3 : ∀ B, R1.length ≤ B → B < G.length → G3[B]? = G[B]? := fun B h1 h2 => (ho3 B (by omega) (by omega) (by omega)).trans (low B h1 h2)
    obtain ⟨R4, u4, G4, e4, w4, s4, hR4, hx4, ho4, hl4⟩ := rd_step (f := rText) (g := 89) (mk := str) (p := p) (fun h => FrRtext h hp) hR R0.length (by omega) (by omega) ⟨0, 29, #[str n0, slv qL n2.length 1, str n3, str (rText l3 b3).1, .int .i64 0, .int .i64 0, .int .i64 0, .int .i64 0, .bool false], 9, false, []⟩
    clear hR
    have hR := hR4
    clear hR4
    generalize hr4 : rText l3 b3 = z4 at *
    obtain ⟨n4, l4, b4⟩ := z4
    simp only at e4 s4 hR hx4
    have c4 : R4[R0.length]? = G3[R0.length]? := w4 _ (by omega) (by omega)
    have y4 : G4[H.length]? = some (⟨0, 29, #[str [], .slice none 0 0, str [], str [], .int .i64 0, .int .i64 0, .int .i64 0, .int .i64 0, .bool false], 0, false, []⟩ : Blk) := (ho4 _ (by omega) (by omega) (by omega)).trans y3
    have fr4 : ∀ B, B < H.length → B ≠ A → G4[B]? = H[B]? := fun B h1 h2 => (ho4 B (by omega) h2 (by omega)).trans (fr3 B h1 h2)
    have lo4 : ∀ B, R1.length ≤ B → B < G.length → G4[B]? = G[B]? := fun B h1 h2 => (ho4 B (by omega) (by omega) (by omega)).trans (lo3 B h1 h2)
    obtain ⟨R5, u5, G5, e5, w5, s5, hR5, hx5, ho5, hl5⟩ := rd_step (f := rNum) (g := 53) (mk := i64v) (p := p) (fun h => FrRnum h hp) hR R0.length (by omega) (by omega) ⟨0, 29, #[str n0, slv qL n2.length 1, str n3, str n4, i64v (rNum l4 b4).1, .int .i64 0, .int .i64 0, .int .i64 0, .bool false], 9, false, []⟩
    clear hR
    have hR := hR5
    clear hR5
    generalize hr5 : rNum l4 b4 = z5 at *
    obtain ⟨n5, l5, b5⟩ := z5
    simp only at e5 s5 hR hx5
    have c5 : R5[R0.length]? = G4[R0.length]? := w5 _ (by omega) (by omega)
    have y5 : G5[H.length]? = some (⟨0, 29, #[str [], .slice none 0 0, str [], str [], .int .i64 0, .int .i64 0, .int .i64 0, .int .i64 0, .bool false], 0, false, []⟩ : Blk) := (ho5 _ (by omega) (by omega) (by omega)).trans y4
    have fr5 : ∀ B, B < H.length → B ≠ A → G5[B]? = H[B]? := fun B h1 h2 => (ho5 B (by omega) h2 (by omega)).trans (fr4 B h1 h2)
    have lo5 : ∀ B, R1.length ≤ B → B < G.length → G5[B]? = G[B]? := fun B h1 h2 => (ho5 B (by omega) (by omega) (by omega)).trans (lo4 B h1 h2)
    obtain ⟨R6, u6, G6, e6, w6, s6, hR6, hx6, ho6, hl6⟩ := rd_step (f := rNum) (g := 53) (mk := i64v) (p := p) (fun h => FrRnum h hp) hR R0.length (by omega) (by omega) ⟨0, 29, #[str n0, slv qL n2.length 1, str n3, str n4, i64v n5, i64v (rNum l5 b5).1, .int .i64 0, .int .i64 0, .bool false], 9, false, []⟩
    clear hR
    have hR := hR6
    clear hR6
    generalize hr6 : rNum l5 b5 = z6 at *
    obtain ⟨n6, l6, b6⟩ := z6
    simp only at e6 s6 hR hx6
    have c6 : R6[R0.length]? = G5[R0.length]? := w6 _ (by omega) (by omega)
    have y6 : G6[H.length]? = some (⟨0, 29, #[str [], .slice none 0 0, str [], str [], .int .i64 0, .int .i64 0, .int .i64 0, .int .i64 0, .bool false], 0, false, []⟩ : Blk) := (ho6 _ (by omega) (by omega) (by omega)).trans y5
    have fr6 : ∀ B, B < H.length → B ≠ A → G6[B]? = H[B]? := fun B h1 h2 => (ho6 B (by omega) h2 (by omega)).trans (fr5 B h1 h2)
    have lo6 : ∀ B, R1.length ≤ B → B < G.length → G6[B]? = G[B]? := fun B h1 h2 => (ho6 B (by omega) (by omega) (by omega)).trans (lo5 B h1 h2)
    obtain ⟨R7, u7, G7, e7, w7, s7, hR7, hx7, ho7, hl7⟩ := rd_step (f := rNum) (g := 53) (mk := i64v) (p := p) (fun h => FrRnum h hp) hR R0.length (by omega) (by omega) ⟨0, 29, #[str n0, slv qL n2.length 1, str n3, str n4, i64v n5, i64v n6, i64v (rNum l6 b6).1, .int .i64 0, .bool false], 9, false, []⟩
    clear hR
    have hR := hR7
    clear hR7
    generalize hr7 : rNum l6 b6 = z7 at *
    obtain ⟨n7, l7, b7⟩ := z7
    simp only at e7 s7 hR hx7
    have c7 : R7[R0.length]? = G6[R0.length]? := w7 _ (by omega) (by omega)
    have y7 : G7[H.length]? = some (⟨0, 29, #[str [], .slice none 0 0, str [], str [], .int .i64 0, .int .i64 0, .int .i64 0, .int .i64 0, .bool false], 0, false, []⟩ : Blk) := (ho7 _ (by omega) (by omega) (by omega)).trans y6
    have fr7 : ∀ B, B < H.length → B ≠ A → G7[B]? = H[B]? := fun B h1 h2 => (ho7 B (by omega) h2 (by omega)).trans (fr6 B h1 h2)
    have lo7 : ∀ B, R1.length ≤ B → B < G.length → G7[B]? = G[B]? := fun B h1 h2 => (ho7 B (by omega) (by omega) (by omega)).trans (lo6 B h1 h2)
    obtain ⟨R8, u8, G8, e8, w8, s8, hR8, hx8, ho8, hl8⟩ := rd_step (f := rNum) (g := 53) (mk := i64v) (p := p) (fun h => FrRnum h hp) hR R0.length (by omega) (by omega) ⟨0, 29, #[str n0, slv qL n2.length 1, str n3, str n4, i64v n5, i64v n6, i64v n7, i64v (rNum l7 b7).1, .bool false], 9, false, []⟩
    clear hR
    have hR := hR8
    clear hR8
    generalize hr8 : rNum l7 b7 = z8 at *
    obtain ⟨n8, l8, b8⟩ := z8
    simp only at e8 s8 hR hx8
    have c8 : R8[R0.length]? = G7[R0.length]? := w8 _ (by omega) (by omega)
    have y8 : G8[H.length]? = some (⟨0, 29, #[str [], .slice none 0 0, str [], str [], .int .i64 0, .int .i64 0, .int .i64 0, .int .i64 0, .bool false], 0, false, []⟩ : Blk) := (ho8 _ (by omega) (by omega) (by omega)).trans y7
    have fr8 : ∀ B, B < H.length → B ≠ A → G8[B]? = H[B]? := fun B h1 h2 => (ho8 B (by omega) h2 (by omega)).trans (fr7 B h1 h2)
    have lo8 : ∀ B, R1.length ≤ B → B < G.length → G8[B]? = G[B]? := fun B h1 h2 => (ho8 B (by omega) (by omega) (by omega)).trans (lo7 B h1 h2)
    obtain ⟨R9, u9, G9, e9, w9, s9, hR9, hx9, ho9, hl9⟩ := rd_step (f := rTruth) (g := 90) (mk := Value.bool) (p := p) (fun h => FrRtruth h hp) hR R0.length (by omega) (by omega) ⟨0, 29, #[str n0, slv qL n2.length 1, str n3, str n4, i64v n5, i64v n6, i64v n7, i64v n8, Value.bool (rTruth l8 b8).1], 9, false, []⟩
    clear hR
    have hR := hR9
    clear hR9
    generalize hr9 : rTruth l8 b8 = z9 at *
    obtain ⟨n9, l9, b9⟩ := z9
    simp only at e9 s9 hR hx9
    have c9 : R9[R0.length]? = G8[R0.length]? := w9 _ (by omega) (by omega)
    have y9 : G9[H.length]? = some (⟨0, 29, #[str [], .slice none 0 0, str [], str [], .int .i64 0, .int .i64 0, .int .i64 0, .int .i64 0, .bool false], 0, false, []⟩ : Blk) := (ho9 _ (by omega) (by omega) (by omega)).trans y8
    have fr9 : ∀ B, B < H.length → B ≠ A → G9[B]? = H[B]? := fun B h1 h2 => (ho9 B (by omega) h2 (by omega)).trans (fr8 B h1 h2)
    have lo9 : ∀ B, R1.length ≤ B → B < G.length → G9[B]? = G[B]? := fun B h1 h2 => (ho9 B (by omega) (by omega) (by omega)).trans (lo8 B h1 h2)
    unfold RdR rSub
    simp only [hr0, hr1, hr2, hbb, hr3, hr4, hr5, hr6, hr7, hr8, hr9]
    simp (disch := first | assumption | omega | (simp only [go_sem] <;> omega) | fail) only [go_sem, c1, g2, g3, g4, g5, hAc, hKb2, e3, c3, hx3, s3, e4, c4, hx4, s4, e5, c5, hx5, s5, e6, c6, hx6, s6, e7, c7, hx7, s7, e8, c8, hx8, s8, e9, c9, hx9, s9, y9]
    refine ⟨_, _, u9, rfl, ⟨[str n0, slv qL n2.length 1, str n3, str n4, i64v n5, i64v n6, i64v n7, i64v n8, Value.bool n9], rfl, qL, rfl, ?_, ?_⟩, ?_, ?_, ?_⟩
    · exact ocat.keep fun B hB => by
        have := o4 B hB
        rw [List.getElem?_set_ne (by omega)]
        exact lo9 B this.1 this.2
    · intro B hB
      have := o4 B hB
      rw [List.length_set]
      omega
    · exact hR.keep (fun B hB => List.getElem?_set_ne (by omega))
    · rw [List.length_set]; omega
    · intro B h1 h2
      rw [List.getElem?_set_ne (by omega)]; exact fr9 B h1 h2
structure RLen {α : Type} (f : MR α) (g : α → List UInt8) : Prop where
  len : ∀ l b, (f l b).2.2 = false → (g (f l b).1).length + (f l b).2.1.length = l.length
theorem rlen_num : RLen rNum numB where
  len l b h := by
    unfold rNum at h ⊢
    split at h
    · cases h
    · rename_i hh; rw [if_neg hh]; simp only [numB_len, List.length_drop]; omega
theorem rlen_text : RLen rText textB where
  len l b h := by
    have h0 := (text_le l b).2 h
    have h1 := rlen_num.len l b h0
    rw [numB_len] at h1
    unfold rText at h ⊢
    split at h
    · cases h
    · rename_i hh
      rw [if_neg hh]
      simp only [textB_len, List.length_take, List.length_drop]
      omega
theorem rlen_truth : RLen rTruth offB where
  len l b h := by
    cases l with
    | nil => cases h
    | cons c r => simp [rTruth, offB]; omega
theorem rlen_rep {α : Type} {f : MR α} {g : α → List UInt8} (h : RLen f g) : ∀ (k : Nat) (l : List UInt8) (b : Bool), (rRep f k l b).2.2 = false → ((rRep f k l b).1.flatMap g).length + (rRep f k l b).2.1.length = l.length
  | 0, l, _, _ => by simp [rRep]
  | k + 1, l, true, hh => by cases hh
  | k + 1, l, false, hh => by
    rw [rRep_go] at hh ⊢
    simp only at hh ⊢
    have hb := rep_chain f k _ _ hh
    have h1 := h.len l _ hb
    have h2 := rlen_rep h k _ _ hh
    rw [List.flatMap_cons, List.length_append]
    omega
theorem rlen_item : RLen rItem itemB where
  len l b h := by
    unfold rItem at h ⊢
    simp only at h ⊢
    have c6 := num_chain _ _ h
    have c5 := text_chain _ _ c6
    have c4 := text_chain _ _ c5
    have c3 := text_chain _ _ c4
    have c2 := text_chain _ _ c3
    have c1 := num_chain _ _ c2
    have e0 := rlen_num.len l b c1
    have e1 := rlen_num.len _ _ c2
    have e2 := rlen_text.len _ _ c3
    have e3 := rlen_text.len _ _ c4
    have e4 := rlen_text.len _ _ c5
    have e5 := rlen_text.len _ _ c6
    have e6 := rlen_num.len _ _ h
    simp only [itemB, List.length_append]
    omega
theorem rlen_out : RLen rOut outB where
  len l b h := by
    unfold rOut at h ⊢
    simp only at h ⊢
    have c8 := num_chain _ _ h
    have c7 := num_chain _ _ c8
    have c6 := num_chain _ _ c7
    have c5 := num_chain _ _ c6
    have c4 := text_chain _ _ c5
    have c3 := num_chain _ _ c4
    have c2 := num_chain _ _ c3
    have c1 := num_chain _ _ c2
    have e0 := rlen_num.len l b c1
    have e1 := rlen_num.len _ _ c2
    have e2 := rlen_num.len _ _ c3
    have e3 := rlen_num.len _ _ c4
    have e4 := rlen_text.len _ _ c5
    have e5 := rlen_num.len _ _ c6
    have e6 := rlen_num.len _ _ c7
    have e7 := rlen_num.len _ _ c8
    have e8 := rlen_num.len _ _ h
    simp only [outB, List.length_append]
    omega
theorem rlen_sub : RLen rSub subB where
  len l b h := by
    unfold rSub at h ⊢
    simp only at h ⊢
    have c9 := truth_chain _ _ h
    have c8 := num_chain _ _ c9
    have c7 := num_chain _ _ c8
    have c6 := num_chain _ _ c7
    have c5 := num_chain _ _ c6
    have c4 := text_chain _ _ c5
    have c3 := text_chain _ _ c4
    have c3' := c3
    simp only [Bool.or_eq_false_iff] at c3'
    have c2 := rep_chain _ _ _ _ c3'.1
    have c1 := num_chain _ _ c2
    have e0 := rlen_text.len l b c1
    have e1 := rlen_num.len _ _ c2
    have e2 := rlen_rep rlen_num _ _ _ c3'.1
    have e3 := rlen_text.len _ _ c4
    have e4 := rlen_text.len _ _ c5
    have e5 := rlen_num.len _ _ c6
    have e6 := rlen_num.len _ _ c7
    have e7 := rlen_num.len _ _ c8
    have e8 := rlen_num.len _ _ c9
    have e9 := rlen_truth.len _ _ h
    simp only [subB, List.length_append, numB_len] at *
    omega
def rGet : MR StateL := fun l b =>
  let r0 := rNum l b
  let r1 := rRep rSub r0.1.toNat r0.2.1 r0.2.2
  let r2 := rNum r1.2.1 r1.2.2
  let r3 := rRep rItem r2.1.toNat r2.2.1 r2.2.2
  let r4 := rNum r3.2.1 r3.2.2
  let r5 := rNum r4.2.1 r4.2.2
  let r6 := rRep rOut r5.1.toNat r5.2.1 r5.2.2
  let r7 := rNum r6.2.1 r6.2.2
  (⟨r1.1, r3.1, r4.1, r6.1, r7.1⟩, r7.2)
theorem rlen_get : RLen rGet putL where
  len l b h := by
    unfold rGet at h ⊢
    simp only at h ⊢
    have c7 := num_chain _ _ h
    have c6 := rep_chain _ _ _ _ c7
    have c5 := num_chain _ _ c6
    have c4 := num_chain _ _ c5
    have c3 := rep_chain _ _ _ _ c4
    have c2 := num_chain _ _ c3
    have c1 := rep_chain _ _ _ _ c2
    have e0 := rlen_num.len l b c1
    have e1 := rlen_rep rlen_sub _ _ _ c2
    have e2 := rlen_num.len _ _ c3
    have e3 := rlen_rep rlen_item _ _ _ c4
    have e4 := rlen_num.len _ _ c5
    have e5 := rlen_num.len _ _ c6
    have e6 := rlen_rep rlen_out _ _ _ c7
    have e7 := rlen_num.len _ _ h
    simp only [putL, listB, List.length_append, numB_len] at *
    omega
def rOk (l : List UInt8) : Bool := !(rGet l false).2.2 && decide ((rGet l false).2.1 = []) && decide (putL (rGet l false).1 = l)
theorem lists_move {α : Type} {E : Rl α} {s N1 : Nat} {O' : Nat → Prop} {G G' : Heap} {xs : List α} {v : Value} (hE : Kept E) (h : ListAt E s (fun B => N1 ≤ B ∧ B < G.length) G xs v) (hk : ∀ B, N1 ≤ B → B < G.length → O' B ∧ G'[B]? = G[B]?) : ListAt E s O' G' xs v := by
  obtain ⟨q, cs, h1, h2, h3, h4, h5⟩ := h
  exact ⟨q, cs, h1, h2.keep fun B hB => (hk B (h4 B hB).1 (h4 B hB).2).2, h3, fun B hB => (hk B (h4 B hB).1 (h4 B hB).2).1, h5.mono fun x c k => hE _ _ _ _ _ _ (fun B hB => hk B hB.1 hB.2) k⟩
theorem list_flat {α : Type} {E : Rl α} {s : Nat} {O O' : Nat → Prop} {G G' : Heap} {xs : List α} {v : Value} (hs : 0 < s) (h : ListAt E s O G xs v) (hf : flat v = true) : ListAt E s O' G' xs v := by
  obtain ⟨q, cs, rfl, h2, h3, h4, h5⟩ := h
  rcases q with _ | ⟨a, o, n⟩
  · have hc : cs = [] := h2
    subst hc
    have : xs.length = 0 := by
      rw [List.length_nil] at h3
      rcases Nat.mul_eq_zero.1 h3.symm with h | h <;> omega
    obtain rfl := List.length_eq_zero_iff.1 this
    exact ⟨none, [], rfl, rfl, by simp, (fun B hB => by obtain ⟨_, _, hB⟩ := hB; cases hB), rfl⟩
  · simp [slv, flat] at hf
set_option maxHeartbeats 8000000 in
theorem FrGet {qb : Q} {l : List UInt8} {H : Heap} (hq : CAt H qb (u8s l)) (hbl : l.length ≤ 1000000) (p : Nat) : ∃ v Z, F 18 #[slv qb l.length 1] p H = some (.returned (.tuple #[v, i64v (if rOk l = true then 0 else 2)]), H ++ Z) ∧
    (rOk l = true → StateAt (fun B => B < (H ++ Z).length) (H ++ Z) (rGet l false).1 v) ∧ (rOk l = false → v = .agg #[.slice none 0 0, .slice none 0 0, i64v 0, .slice none 0 0, i64v 0]) := by
  have hokb : okq qb l.length := hq.okq (s := 1) (by simp) (by omega)
  have hqlt := CAt.lt hq
  rw [F, F_quiet (f := 18) (X := X) (cl := cl) rfl rfl rfl Tryz.func18 rfl, Tryz.results18]
  generalize hGG : H ++ [(⟨0, 26, #[.slice none 0 0, .slice none 0 0, .int .i64 0, .slice none 0 0, .int .i64 0], 0, false, []⟩ : Blk)] ++ [(⟨0, 102, #[slv qb l.length 1, .bool false], 0, false, []⟩ : Blk)] ++ [(⟨0, 26, #[.slice none 0 0, .slice none 0 0, .int .i64 0, .slice none 0 0, .int .i64 0], 5, false, []⟩ : Blk)] = GG
  have gl : GG.length = H.length + 3 := by rw [← hGG]; simp
  have gk : ∀ B, B < H.length → GG[B]? = H[B]? := fun B hB => by rw [← hGG, List.append_assoc, List.append_assoc]; exact List.getElem?_append_left hB
  have gz : GG[H.length]? = some (⟨0, 26, #[.slice none 0 0, .slice none 0 0, .int .i64 0, .slice none 0 0, .int .i64 0], 0, false, []⟩ : Blk) := by rw [← hGG, List.getElem?_append_left (by simp), List.getElem?_append_left (by simp)]; exact at_end rfl
  have ga : GG[H.length + 1]? = some (⟨0, 102, #[slv qb l.length 1, .bool false], 0, false, []⟩ : Blk) := by rw [← hGG, List.getElem?_append_left (by simp)]; exact at_end (by simp)
  have gK : GG[H.length + 2]? = some (⟨0, 26, #[.slice none 0 0, .slice none 0 0, .int .i64 0, .slice none 0 0, .int .i64 0], 5, false, []⟩ : Blk) := by rw [← hGG]; exact at_end (by simp)
  have hR : RB GG (H.length + 1) qb l false := ⟨⟨0, by omega, ga⟩, hq.keep fun B hB => gk B (hqlt B hB), fun B hB => by have := hqlt B hB; omega⟩
  obtain ⟨v, R0, q0, e0, rfl, hR0, f0⟩ := FrRnum (p := H.length) hR (by omega)
  have hle0 := eats_num.le l false
  generalize hr0 : rNum l false = z0 at *
  obtain ⟨n0, l0, b0⟩ := z0
  simp only at e0 hR0 hle0
  have fl0 := f0.1
  have e0' : F 53 #[.pointer (some ⟨H.length + 1, 0, some 2⟩)] H.length GG = some (.returned (i64v n0), R0) := e0
  have kk0 : R0[H.length + 2]? = some (⟨0, 26, #[.slice none 0 0, .slice none 0 0, .int .i64 0, .slice none 0 0, .int .i64 0], 5, false, []⟩ : Blk) := (f0.2 _ (by omega) (by omega)).trans gK
  have zz0 : R0[H.length]? = some (⟨0, 26, #[.slice none 0 0, .slice none 0 0, .int .i64 0, .slice none 0 0, .int .i64 0], 0, false, []⟩ : Blk) := (f0.2 _ (by omega) (by omega)).trans gz
  have lo0 : ∀ B, B < H.length → R0[B]? = H[B]? := fun B hB => (f0.2 B (by omega) (by omega)).trans (gk B hB)
  generalize hLa : Code.loop (.seq (.seq (.region 5 _ _) _) _) = La
  generalize hLb : Code.loop (.seq (.seq (.region 11 _ _) _) _) = Lb
  generalize hLc : Code.loop (.seq (.seq (.region 18 _ _) _) _) = Lc
  simp (disch := first | assumption | omega | (simp only [go_sem] <;> omega) | fail) only [go_sem, hGG, e0']
  generalize hT : upd _ 7 _ = T
  obtain ⟨e, t, G, k1, ⟨k2, qL, q, hLI, hR, hKb, hfr, hNl, hxl, g2, g3, g4, g5, g6⟩⟩ := loop_up (P := Tryz.prog) (cl := cl) (X := X) (L := La) (p := H.length) (t := T) (H := R0) n0.toNat
    (fun i t G => ∃ qL q xs l' b', LI SubE 9 H.length R0.length G xs qL ∧ RB G (H.length + 1) q l' b' ∧ xs.length = i ∧ rRep rSub n0.toNat l0 b0 = (xs ++ (rRep rSub (n0.toNat - i) l' b').1, (rRep rSub (n0.toNat - i) l' b').2) ∧ (b' = false → i + l'.length ≤ l0.length) ∧ i ≤ l0.length + 1 ∧ G[(H.length + 2)]? = some (⟨0, 26, #[slv qL i 9, .slice none 0 0, .int .i64 0, .slice none 0 0, .int .i64 0], 5, false, []⟩ : Blk) ∧ (∀ B, B < R0.length → B ≠ (H.length + 1) → B ≠ (H.length + 2) → G[B]? = R0[B]?) ∧ R0.length ≤ G.length ∧ t 7 = i64v i ∧ t 6 = i64v n0 ∧ t 4 = .pointer (some ⟨H.length + 1, 0, some 2⟩) ∧ t 5 = .pointer (some ⟨H.length + 2, 0, some 5⟩) ∧ t 2 = .pointer (some ⟨H.length, 0, some 5⟩) ∧ t 0 = slv qb l.length 1)
    (fun e t G => e = .exit 0 ∧ ∃ qL q, LI SubE 9 H.length R0.length G (rRep rSub n0.toNat l0 b0).1 qL ∧ RB G (H.length + 1) q (rRep rSub n0.toNat l0 b0).2.1 (rRep rSub n0.toNat l0 b0).2.2 ∧ G[(H.length + 2)]? = some (⟨0, 26, #[slv qL (rRep rSub n0.toNat l0 b0).1.length 9, .slice none 0 0, .int .i64 0, .slice none 0 0, .int .i64 0], 5, false, []⟩ : Blk) ∧ (∀ B, B < R0.length → B ≠ (H.length + 1) → B ≠ (H.length + 2) → G[B]? = R0[B]?) ∧ R0.length ≤ G.length ∧ (rRep rSub n0.toNat l0 b0).1.length ≤ l0.length + 1 ∧ t 6 = i64v n0 ∧ t 4 = .pointer (some ⟨H.length + 1, 0, some 2⟩) ∧ t 5 = .pointer (some ⟨H.length + 2, 0, some 5⟩) ∧ t 2 = .pointer (some ⟨H.length, 0, some 5⟩) ∧ t 0 = slv qb l.length 1)
    (by
      rintro i t G hi ⟨qL, q, xs, l', b', hLI, hR, hxl, hrep, hb1, hb2, hKb, hfr, hNl, g1, g2, g3, g4, g5, g6⟩
      have hlt : (i : Int) < n0 := by omega
      obtain ⟨fl0, hfl0, hAc⟩ := hR.cell
      cases b' with
      | true =>
        right
        rw [← hLa, E_loop, hLa]
        rw [rRep_bad] at hrep
        simp only [List.append_nil] at hrep
        simp (disch := first | assumption | omega | (simp only [go_sem] <;> omega) | fail) only [go_sem, g1, g2, g3, g4, hlt, hAc]
        refine ⟨_, _, _, rfl, rfl, qL, q, ?_⟩
        rw [hrep]
        refine ⟨hLI, hR, by rw [hxl]; exact hKb, hfr, hNl, (by show xs.length ≤ _; omega), ?_, ?_, ?_, ?_, ?_⟩ <;> simp only [go_sem, g2, g3, g4, g5, g6]
      | false =>
        left
        obtain ⟨m, hm⟩ : ∃ m, n0.toNat - i = m + 1 := ⟨n0.toNat - i - 1, by omega⟩
        rw [hm, rRep_go] at hrep
        have heat := eats_sub.eat l'
        have hb1' := hb1 rfl
        obtain ⟨v, R, q1, e1, hv, hR1, f1⟩ := FrRsub (p := H.length) hR (by omega) (by omega)
        have hl1 := f1.1
        have hKR : R[(H.length + 2)]? = _ := (f1.2 (H.length + 2) (by omega) (by omega)).trans hKb
        have hLIR := hLI.keep kept_sub (fun B h1 h2 => f1.2 B h2 (by omega)) hl1
        have hcnt : ((rSub l' false).2.2 = false → i + 1 + (rSub l' false).2.1.length ≤ l0.length) ∧ i + 1 ≤ l0.length + 1 := ⟨fun hh => by have := heat hh; omega, by omega⟩
        obtain ⟨c, rfl, hE⟩ := hv
        have hcl : c.length = 9 := SubE.len _ _ hE
        generalize hrr : rSub l' false = rr at *
        obtain ⟨y, ly, by_⟩ := rr
        simp only at hrep hR1 hcnt e1 hE
        have hLI2 := hLIR.keep kept_sub (G' := R ++ [⟨0, 29, c.toArray, 9, false, []⟩]) (fun B h1 h2 => List.getElem?_append_left h2) (by simp)
        have hx : SubE (fun B => R0.length ≤ B ∧ B < (R ++ [(⟨0, 29, c.toArray, 9, false, []⟩ : Blk)]).length ∧ ¬ inq qL B) (R ++ [⟨0, 29, c.toArray, 9, false, []⟩]) y c :=
          kept_sub _ _ _ _ _ _ (fun B hB => ⟨⟨by omega, by simp; omega, fun hc => by have := (hLI.new B hc).2; omega⟩, List.getElem?_append_left hB.2⟩) hE
        obtain ⟨q2, H2, a1, a2, a3, a4⟩ := LI.app (T := 29) (st := 22) Tryz.underlying22 ei22 (by omega) ap22 kept_sub (fun _ _ => SubE.len) hLI2 (by omega) (by simp; omega) hx i hxl.symm (by omega)
        have hK2 : H2[(H.length + 2)]? = _ := ((a4 (H.length + 2) (by omega)).trans (List.getElem?_append_left (by omega))).trans hKR
        clear hx hLI2
        obtain ⟨qf, rfl, hq1, hq2⟩ := hE
        simp only [SubL.cells] at a1 e1
        simp only [List.length_append, List.length_cons, List.length_nil, Nat.zero_add] at a1 a3
        have a1' : appW Tryz.prog H.length 22 22 (slv qL i 9) (.slice (some ⟨R.length + 1, 0, some 9⟩) 1 9) (R ++ [⟨0, 29, #[str y.addr, slv qf y.feeds.length 1, str y.zone, str y.cron, i64v y.start, i64v y.cursor, i64v y.no, i64v y.clock, .bool y.off], 9, false, []⟩] ++ [⟨0, 29, #[str y.addr, slv qf y.feeds.length 1, str y.zone, str y.cron, i64v y.start, i64v y.cursor, i64v y.no, i64v y.clock, .bool y.off], 0, false, []⟩]) = some (slv q2 (i + 1) 9, H2) := a1
        have e1' : F 54 #[.pointer (some ⟨H.length + 1, 0, some 2⟩)] H.length G = some (.returned (.agg #[str y.addr, slv qf y.feeds.length 1, str y.zone, str y.cron, i64v y.start, i64v y.cursor, i64v y.no, i64v y.clock, .bool y.off]), R) := e1
        have hoc : [str y.addr, slv qf y.feeds.length 1, str y.zone, str y.cron, i64v y.start, i64v y.cursor, i64v y.no, i64v y.clock, .bool y.off].all oneC = true := by simp [oneC_slv, oneC_int, oneC_str, oneC_bool]
        have hRK : (R ++ [(⟨0, 29, #[str y.addr, slv qf y.feeds.length 1, str y.zone, str y.cron, i64v y.start, i64v y.cursor, i64v y.no, i64v y.clock, .bool y.off], 9, false, []⟩ : Blk)])[(H.length + 2)]? = some (⟨0, 26, #[slv qL i 9, .slice none 0 0, .int .i64 0, .slice none 0 0, .int .i64 0], 5, false, []⟩ : Blk) := by rw [List.getElem?_append_left (by omega)]; exact hKR
        rw [← hLa, E_loop, hLa]
        simp (disch := first | assumption | omega | (simp only [go_sem] <;> omega) | fail) only [go_sem, g1, g2, g3, g4, hlt, hAc, e1', hoc, hRK, hKR, a1', hK2]
        have hKl : (H.length + 2) < H2.length := (List.getElem?_eq_some_iff.1 hK2).1
        refine ⟨_, _, rfl, q2, q1, xs ++ [y], ly, by_, a2.keep kept_sub (fun B h1 h2 => List.getElem?_set_ne (by omega)) (by rw [List.length_set]; exact Nat.le_refl _), hR1.keep (fun B hB => by rw [List.getElem?_set_ne (by omega), a4 B (by omega)]; exact List.getElem?_append_left (by have := hR1.lt; omega)), by simp [hxl], ?_, hcnt.1, (by have := hcnt.2; omega), List.getElem?_set_self hKl, fun B h1 h2 h3 => ?_, ?_, ?_, ?_, ?_, ?_, ?_, ?_⟩
        · rw [hrep, show n0.toNat - (i + 1) = m by omega, List.append_assoc]; rfl
        · rw [List.getElem?_set_ne (Ne.symm h3), a4 B h1, List.getElem?_append_left (by omega), f1.2 B (by omega) h2]
          exact hfr B h1 h2 h3
        · rw [List.length_set]; omega
        · simp only [go_sem, g1] <;> rfl
        · simp only [go_sem, g2]
        · simp only [go_sem, g3]
        · simp only [go_sem, g4]
        · simp only [go_sem, g5]
        · simp only [go_sem, g6])
    (by
      rintro t G ⟨qL, q, xs, l', b', hLI, hR, hxl, hrep, hb1, hb2, hKb, hfr, hNl, g1, g2, g3, g4, g5, g6⟩
      have hlt : ¬ (n0.toNat : Int) < n0 := by omega
      rw [Nat.sub_self, rRep, List.append_nil] at hrep
      rw [← hLa, E_loop, hLa]
      simp (disch := first | assumption | omega | (simp only [go_sem] <;> omega) | fail) only [go_sem, g1, g2, g3, g4, hlt]
      refine ⟨_, _, _, rfl, rfl, qL, q, ?_⟩
      rw [hrep]
      refine ⟨hLI, hR, by rw [hxl]; exact hKb, hfr, hNl, (by show xs.length ≤ _; omega), ?_, ?_, ?_, ?_, ?_⟩ <;> simp only [go_sem, g2, g3, g4, g5, g6])
    ⟨none, q0, [], l0, b0, .nil, hR0, rfl, by simp, fun _ => by omega, by omega, kk0, (fun _ _ _ _ => rfl), Nat.le_refl _, by rw [← hT]; simp only [go_sem] <;> rfl, by rw [← hT]; simp only [go_sem], by rw [← hT]; simp only [go_sem], by rw [← hT]; simp only [go_sem], by rw [← hT]; simp only [go_sem], by rw [← hT]; simp only [go_sem]⟩
  subst k2
  rw [k1]
  have hle1 := rep_le eats_sub n0.toNat l0 b0
  generalize hr1 : rRep rSub n0.toNat l0 b0 = z1 at *
  obtain ⟨n1, l1, b1⟩ := z1
  simp only at hLI hR hKb hxl hle1
  have hS1 := hLI.listAt kept_sub
  have zz1 : G[H.length]? = some (⟨0, 26, #[.slice none 0 0, .slice none 0 0, .int .i64 0, .slice none 0 0, .int .i64 0], 0, false, []⟩ : Blk) := (hfr _ (by omega) (by omega) (by omega)).trans zz0
  have lo1 : ∀ B, B < H.length → G[B]? = H[B]? := fun B hB => (hfr B (by omega) (by omega) (by omega)).trans (lo0 B hB)
  generalize hw1 : slv qL n1.length 9 = w1 at *
  have ow1 : oneC w1 = true := by rw [← hw1]; exact oneC_slv _ _ _
  have hG1l : R0.length ≤ G.length := hNl
  clear hLI hfr hNl e0 f0 hR0
  obtain ⟨v, R2, q2, e2, rfl, hR2, f2⟩ := FrRnum (p := H.length) hR (by omega)
  have hle2 := eats_num.le l1 b1
  generalize hr2 : rNum l1 b1 = z2 at *
  obtain ⟨n2, l2, b2⟩ := z2
  simp only at e2 hR2 hle2
  have fl2 := f2.1
  have e2' : F 53 #[.pointer (some ⟨H.length + 1, 0, some 2⟩)] H.length G = some (.returned (i64v n2), R2) := e2
  have kk2 : R2[H.length + 2]? = some (⟨0, 26, #[w1, .slice none 0 0, .int .i64 0, .slice none 0 0, .int .i64 0], 5, false, []⟩ : Blk) := (f2.2 _ (by omega) (by omega)).trans hKb
  have zz2 : R2[H.length]? = some (⟨0, 26, #[.slice none 0 0, .slice none 0 0, .int .i64 0, .slice none 0 0, .int .i64 0], 0, false, []⟩ : Blk) := (f2.2 _ (by omega) (by omega)).trans zz1
  have lo2 : ∀ B, B < H.length → R2[B]? = H[B]? := fun B hB => (f2.2 B (by omega) (by omega)).trans (lo1 B hB)
  have hS2 : ListAt SubE 9 (fun B => H.length + 3 ≤ B ∧ B < R2.length) R2 n1 w1 := lists_move kept_sub hS1 fun B h1 h2 => ⟨⟨by omega, by omega⟩, f2.2 B h2 (by omega)⟩
  simp (disch := first | assumption | omega | (simp only [go_sem] <;> omega) | fail) only [go_sem, g2, g3, g4, g5, g6, e2']
  generalize hT : upd _ 10 _ = T
  clear e2 f2 hS1 hR hKb k1 hxl
  obtain ⟨e, t, G, k1, ⟨k2, qL, q, hLI, hR, hKb, hfr, hNl, hxl, g2, g3, g4, g5, g6⟩⟩ := loop_up (P := Tryz.prog) (cl := cl) (X := X) (L := Lb) (p := H.length) (t := T) (H := R2) n2.toNat
    (fun i t G => ∃ qL q xs l' b', LI ItemE 7 H.length R2.length G xs qL ∧ RB G (H.length + 1) q l' b' ∧ xs.length = i ∧ rRep rItem n2.toNat l2 b2 = (xs ++ (rRep rItem (n2.toNat - i) l' b').1, (rRep rItem (n2.toNat - i) l' b').2) ∧ (b' = false → i + l'.length ≤ l2.length) ∧ i ≤ l2.length + 1 ∧ G[(H.length + 2)]? = some (⟨0, 26, #[w1, slv qL i 7, .int .i64 0, .slice none 0 0, .int .i64 0], 5, false, []⟩ : Blk) ∧ (∀ B, B < R2.length → B ≠ (H.length + 1) → B ≠ (H.length + 2) → G[B]? = R2[B]?) ∧ R2.length ≤ G.length ∧ t 10 = i64v i ∧ t 9 = i64v n2 ∧ t 4 = .pointer (some ⟨H.length + 1, 0, some 2⟩) ∧ t 5 = .pointer (some ⟨H.length + 2, 0, some 5⟩) ∧ t 2 = .pointer (some ⟨H.length, 0, some 5⟩) ∧ t 0 = slv qb l.length 1)
    (fun e t G => e = .exit 2 ∧ ∃ qL q, LI ItemE 7 H.length R2.length G (rRep rItem n2.toNat l2 b2).1 qL ∧ RB G (H.length + 1) q (rRep rItem n2.toNat l2 b2).2.1 (rRep rItem n2.toNat l2 b2).2.2 ∧ G[(H.length + 2)]? = some (⟨0, 26, #[w1, slv qL (rRep rItem n2.toNat l2 b2).1.length 7, .int .i64 0, .slice none 0 0, .int .i64 0], 5, false, []⟩ : Blk) ∧ (∀ B, B < R2.length → B ≠ (H.length + 1) → B ≠ (H.length + 2) → G[B]? = R2[B]?) ∧ R2.length ≤ G.length ∧ (rRep rItem n2.toNat l2 b2).1.length ≤ l2.length + 1 ∧ t 9 = i64v n2 ∧ t 4 = .pointer (some ⟨H.length + 1, 0, some 2⟩) ∧ t 5 = .pointer (some ⟨H.length + 2, 0, some 5⟩) ∧ t 2 = .pointer (some ⟨H.length, 0, some 5⟩) ∧ t 0 = slv qb l.length 1)
    (by
      rintro i t G hi ⟨qL, q, xs, l', b', hLI, hR, hxl, hrep, hb1, hb2, hKb, hfr, hNl, g1, g2, g3, g4, g5, g6⟩
      have hlt : (i : Int) < n2 := by omega
      obtain ⟨fl0, hfl0, hAc⟩ := hR.cell
      cases b' with
      | true =>
        right
        rw [← hLb, E_loop, hLb]
        rw [rRep_bad] at hrep
        simp only [List.append_nil] at hrep
        simp (disch := first | assumption | omega | (simp only [go_sem] <;> omega) | fail) only [go_sem, g1, g2, g3, g4, hlt, hAc]
        refine ⟨_, _, _, rfl, rfl, qL, q, ?_⟩
        rw [hrep]
        refine ⟨hLI, hR, by rw [hxl]; exact hKb, hfr, hNl, (by show xs.length ≤ _; omega), ?_, ?_, ?_, ?_, ?_⟩ <;> simp only [go_sem, g2, g3, g4, g5, g6]
      | false =>
        left
        obtain ⟨m, hm⟩ : ∃ m, n2.toNat - i = m + 1 := ⟨n2.toNat - i - 1, by omega⟩
        rw [hm, rRep_go] at hrep
        have heat := eats_item.eat l'
        have hb1' := hb1 rfl
        obtain ⟨v, R, q1, e1, hv, hR1, f1⟩ := FrRitem (p := H.length) hR (by omega)
        have hl1 := f1.1
        have hKR : R[(H.length + 2)]? = _ := (f1.2 (H.length + 2) (by omega) (by omega)).trans hKb
        have hLIR := hLI.keep kept_item (fun B h1 h2 => f1.2 B h2 (by omega)) hl1
        have hcnt : ((rItem l' false).2.2 = false → i + 1 + (rItem l' false).2.1.length ≤ l2.length) ∧ i + 1 ≤ l2.length + 1 := ⟨fun hh => by have := heat hh; omega, by omega⟩
        obtain ⟨c, rfl, hE⟩ := hv
        have hcl : c.length = 7 := ItemE.len _ _ hE
        generalize hrr : rItem l' false = rr at *
        obtain ⟨y, ly, by_⟩ := rr
        simp only at hrep hR1 hcnt e1 hE
        have hLI2 := hLIR.keep kept_item (G' := R ++ [⟨0, 48, c.toArray, 7, false, []⟩]) (fun B h1 h2 => List.getElem?_append_left h2) (by simp)
        have hx : ItemE (fun B => R2.length ≤ B ∧ B < (R ++ [(⟨0, 48, c.toArray, 7, false, []⟩ : Blk)]).length ∧ ¬ inq qL B) (R ++ [⟨0, 48, c.toArray, 7, false, []⟩]) y c :=
          kept_item _ _ _ _ _ _ (fun B hB => ⟨⟨by omega, by simp; omega, fun hc => by have := (hLI.new B hc).2; omega⟩, List.getElem?_append_left hB.2⟩) hE
        obtain ⟨q2, H2, a1, a2, a3, a4⟩ := LI.app (T := 48) (st := 23) Tryz.underlying23 ei23 (by omega) ap23 kept_item (fun _ _ => ItemE.len) hLI2 (by omega) (by simp; omega) hx i hxl.symm (by omega)
        have hK2 : H2[(H.length + 2)]? = _ := ((a4 (H.length + 2) (by omega)).trans (List.getElem?_append_left (by omega))).trans hKR
        clear hx hLI2
        rw [ItemE] at hE
        subst hE
        simp only [ItemL.cells] at a1 e1
        simp only [List.length_append, List.length_cons, List.length_nil, Nat.zero_add] at a1 a3
        have a1' : appW Tryz.prog H.length 23 23 (slv qL i 7) (.slice (some ⟨R.length + 1, 0, some 7⟩) 1 7) (R ++ [⟨0, 48, #[i64v y.feed, i64v y.seq, str y.id, str y.title, str y.link, str y.text, i64v y.at_], 7, false, []⟩] ++ [⟨0, 48, #[i64v y.feed, i64v y.seq, str y.id, str y.title, str y.link, str y.text, i64v y.at_], 0, false, []⟩]) = some (slv q2 (i + 1) 7, H2) := a1
        have e1' : F 55 #[.pointer (some ⟨H.length + 1, 0, some 2⟩)] H.length G = some (.returned (.agg #[i64v y.feed, i64v y.seq, str y.id, str y.title, str y.link, str y.text, i64v y.at_]), R) := e1
        have hoc : [i64v y.feed, i64v y.seq, str y.id, str y.title, str y.link, str y.text, i64v y.at_].all oneC = true := by simp [oneC_slv, oneC_int, oneC_str, oneC_bool]
        have hRK : (R ++ [(⟨0, 48, #[i64v y.feed, i64v y.seq, str y.id, str y.title, str y.link, str y.text, i64v y.at_], 7, false, []⟩ : Blk)])[(H.length + 2)]? = some (⟨0, 26, #[w1, slv qL i 7, .int .i64 0, .slice none 0 0, .int .i64 0], 5, false, []⟩ : Blk) := by rw [List.getElem?_append_left (by omega)]; exact hKR
        rw [← hLb, E_loop, hLb]
        simp (disch := first | assumption | omega | (simp only [go_sem] <;> omega) | fail) only [go_sem, g1, g2, g3, g4, hlt, hAc, e1', hoc, hRK, hKR, a1', hK2]
        have hKl : (H.length + 2) < H2.length := (List.getElem?_eq_some_iff.1 hK2).1
        refine ⟨_, _, rfl, q2, q1, xs ++ [y], ly, by_, a2.keep kept_item (fun B h1 h2 => List.getElem?_set_ne (by omega)) (by rw [List.length_set]; exact Nat.le_refl _), hR1.keep (fun B hB => by rw [List.getElem?_set_ne (by omega), a4 B (by omega)]; exact List.getElem?_append_left (by have := hR1.lt; omega)), by simp [hxl], ?_, hcnt.1, (by have := hcnt.2; omega), List.getElem?_set_self hKl, fun B h1 h2 h3 => ?_, ?_, ?_, ?_, ?_, ?_, ?_, ?_⟩
        · rw [hrep, show n2.toNat - (i + 1) = m by omega, List.append_assoc]; rfl
        · rw [List.getElem?_set_ne (Ne.symm h3), a4 B h1, List.getElem?_append_left (by omega), f1.2 B (by omega) h2]
          exact hfr B h1 h2 h3
        · rw [List.length_set]; omega
        · simp only [go_sem, g1] <;> rfl
        · simp only [go_sem, g2]
        · simp only [go_sem, g3]
        · simp only [go_sem, g4]
        · simp only [go_sem, g5]
        · simp only [go_sem, g6])
    (by
      rintro t G ⟨qL, q, xs, l', b', hLI, hR, hxl, hrep, hb1, hb2, hKb, hfr, hNl, g1, g2, g3, g4, g5, g6⟩
      have hlt : ¬ (n2.toNat : Int) < n2 := by omega
      rw [Nat.sub_self, rRep, List.append_nil] at hrep
      rw [← hLb, E_loop, hLb]
      simp (disch := first | assumption | omega | (simp only [go_sem] <;> omega) | fail) only [go_sem, g1, g2, g3, g4, hlt]
      refine ⟨_, _, _, rfl, rfl, qL, q, ?_⟩
      rw [hrep]
      refine ⟨hLI, hR, by rw [hxl]; exact hKb, hfr, hNl, (by show xs.length ≤ _; omega), ?_, ?_, ?_, ?_, ?_⟩ <;> simp only [go_sem, g2, g3, g4, g5, g6])
    ⟨none, q2, [], l2, b2, .nil, hR2, rfl, by simp, fun _ => by omega, by omega, kk2, (fun _ _ _ _ => rfl), Nat.le_refl _, by rw [← hT]; simp only [go_sem] <;> rfl, by rw [← hT]; simp only [go_sem, g2, g3, g4, g5, g6], by rw [← hT]; simp only [go_sem, g2, g3, g4, g5, g6], by rw [← hT]; simp only [go_sem, g2, g3, g4, g5, g6], by rw [← hT]; simp only [go_sem, g2, g3, g4, g5, g6], by rw [← hT]; simp only [go_sem, g2, g3, g4, g5, g6]⟩
  subst k2
  rw [k1]
  have hle3 := rep_le eats_item n2.toNat l2 b2
  generalize hr3 : rRep rItem n2.toNat l2 b2 = z3 at *
  obtain ⟨n3, l3, b3⟩ := z3
  simp only at hLI hR hKb hxl hle3
  have hI3 := hLI.listAt kept_item
  have zz3 : G[H.length]? = some (⟨0, 26, #[.slice none 0 0, .slice none 0 0, .int .i64 0, .slice none 0 0, .int .i64 0], 0, false, []⟩ : Blk) := (hfr _ (by omega) (by omega) (by omega)).trans zz2
  have lo3 : ∀ B, B < H.length → G[B]? = H[B]? := fun B hB => (hfr B (by omega) (by omega) (by omega)).trans (lo2 B hB)
  have hS3 : ListAt SubE 9 (fun B => H.length + 3 ≤ B ∧ B < G.length) G n1 w1 := lists_move kept_sub hS2 fun B h1 h2 => ⟨⟨by omega, by omega⟩, hfr B h2 (by omega) (by omega)⟩
  generalize hw3 : slv qL n3.length 7 = w3 at *
  have ow3 : oneC w3 = true := by rw [← hw3]; exact oneC_slv _ _ _
  have hG3l : R2.length ≤ G.length := hNl
  clear hLI hfr hNl hR2 hS2
  obtain ⟨v, R4, q4, e4, rfl, hR4, f4⟩ := FrRnum (p := H.length) hR (by omega)
  have hle4 := eats_num.le l3 b3
  generalize hr4 : rNum l3 b3 = z4 at *
  obtain ⟨n4, l4, b4⟩ := z4
  simp only at e4 hR4 hle4
  have fl4 := f4.1
  have e4' : F 53 #[.pointer (some ⟨H.length + 1, 0, some 2⟩)] H.length G = some (.returned (i64v n4), R4) := e4
  have kk4 : R4[H.length + 2]? = some (⟨0, 26, #[w1, w3, .int .i64 0, .slice none 0 0, .int .i64 0], 5, false, []⟩ : Blk) := (f4.2 _ (by omega) (by omega)).trans hKb
  have zz4 : R4[H.length]? = some (⟨0, 26, #[.slice none 0 0, .slice none 0 0, .int .i64 0, .slice none 0 0, .int .i64 0], 0, false, []⟩ : Blk) := (f4.2 _ (by omega) (by omega)).trans zz3
  obtain ⟨S4, hS4e⟩ : ∃ S, S = R4.set (H.length + 2) (⟨0, 26, #[w1, w3, i64v n4, .slice none 0 0, .int .i64 0], 5, false, []⟩ : Blk) := ⟨_, rfl⟩
  have sl4 : S4.length = R4.length := by rw [hS4e, List.length_set]
  have so4 : ∀ B, B ≠ H.length + 2 → S4[B]? = R4[B]? := fun B hB => by rw [hS4e]; exact List.getElem?_set_ne (Ne.symm hB)
  have sK4 : S4[H.length + 2]? = some (⟨0, 26, #[w1, w3, i64v n4, .slice none 0 0, .int .i64 0], 5, false, []⟩ : Blk) := by rw [hS4e]; exact List.getElem?_set_self (by omega)
  have sR4 : RB S4 (H.length + 1) q4 l4 b4 := hR4.keep fun B hB => so4 B (by omega)
  have lo4 : ∀ B, B < H.length → S4[B]? = H[B]? := fun B hB => ((so4 B (by omega)).trans (f4.2 B (by omega) (by omega))).trans (lo3 B hB)
  have zz4' : S4[H.length]? = some (⟨0, 26, #[.slice none 0 0, .slice none 0 0, .int .i64 0, .slice none 0 0, .int .i64 0], 0, false, []⟩ : Blk) := (so4 _ (by omega)).trans zz4
  have hS4 : ListAt SubE 9 (fun B => H.length + 3 ≤ B ∧ B < S4.length) S4 n1 w1 := lists_move kept_sub hS3 fun B h1 h2 => ⟨⟨by omega, by omega⟩, (so4 B (by omega)).trans (f4.2 B h2 (by omega))⟩
  have hI4 : ListAt ItemE 7 (fun B => H.length + 3 ≤ B ∧ B < S4.length) S4 n3 w3 := lists_move kept_item hI3 fun B h1 h2 => ⟨⟨by omega, by omega⟩, (so4 B (by omega)).trans (f4.2 B h2 (by omega))⟩
  clear hS3 hI3
  obtain ⟨v, R5, q5, e5, rfl, hR5, f5⟩ := FrRnum (p := H.length) sR4 (by omega)
  have hle5 := eats_num.le l4 b4
  generalize hr5 : rNum l4 b4 = z5 at *
  obtain ⟨n5, l5, b5⟩ := z5
  simp only at e5 hR5 hle5
  have fl5 := f5.1
  have e5' : F 53 #[.pointer (some ⟨H.length + 1, 0, some 2⟩)] H.length S4 = some (.returned (i64v n5), R5) := e5
  have kk5 : R5[H.length + 2]? = some (⟨0, 26, #[w1, w3, i64v n4, .slice none 0 0, .int .i64 0], 5, false, []⟩ : Blk) := (f5.2 _ (by omega) (by omega)).trans sK4
  have zz5 : R5[H.length]? = some (⟨0, 26, #[.slice none 0 0, .slice none 0 0, .int .i64 0, .slice none 0 0, .int .i64 0], 0, false, []⟩ : Blk) := (f5.2 _ (by omega) (by omega)).trans zz4'
  have lo5 : ∀ B, B < H.length → R5[B]? = H[B]? := fun B hB => (f5.2 B (by omega) (by omega)).trans (lo4 B hB)
  have hS5 : ListAt SubE 9 (fun B => H.length + 3 ≤ B ∧ B < R5.length) R5 n1 w1 := lists_move kept_sub hS4 fun B h1 h2 => ⟨⟨by omega, by omega⟩, f5.2 B h2 (by omega)⟩
  have hI5 : ListAt ItemE 7 (fun B => H.length + 3 ≤ B ∧ B < R5.length) R5 n3 w3 := lists_move kept_item hI4 fun B h1 h2 => ⟨⟨by omega, by omega⟩, f5.2 B h2 (by omega)⟩
  simp (disch := first | assumption | omega | (simp only [go_sem] <;> omega) | fail) only [go_sem, g2, g3, g4, g5, g6, e4', kk4, ← hS4e, e5']
  generalize hT : upd _ 13 _ = T
  clear e4 e5 f5 hS4 hI4 hR hKb k1 hxl hR4 sR4 e4' e5'
  obtain ⟨e, t, G, k1, ⟨k2, qL, q, hLI, hR, hKb, hfr, hNl, hxl, g2, g3, g4, g5, g6⟩⟩ := loop_up (P := Tryz.prog) (cl := cl) (X := X) (L := Lc) (p := H.length) (t := T) (H := R5) n5.toNat
    (fun i t G => ∃ qL q xs l' b', LI OutE 9 H.length R5.length G xs qL ∧ RB G (H.length + 1) q l' b' ∧ xs.length = i ∧ rRep rOut n5.toNat l5 b5 = (xs ++ (rRep rOut (n5.toNat - i) l' b').1, (rRep rOut (n5.toNat - i) l' b').2) ∧ (b' = false → i + l'.length ≤ l5.length) ∧ i ≤ l5.length + 1 ∧ G[(H.length + 2)]? = some (⟨0, 26, #[w1, w3, i64v n4, slv qL i 9, .int .i64 0], 5, false, []⟩ : Blk) ∧ (∀ B, B < R5.length → B ≠ (H.length + 1) → B ≠ (H.length + 2) → G[B]? = R5[B]?) ∧ R5.length ≤ G.length ∧ t 13 = i64v i ∧ t 12 = i64v n5 ∧ t 4 = .pointer (some ⟨H.length + 1, 0, some 2⟩) ∧ t 5 = .pointer (some ⟨H.length + 2, 0, some 5⟩) ∧ t 2 = .pointer (some ⟨H.length, 0, some 5⟩) ∧ t 0 = slv qb l.length 1)
    (fun e t G => e = .exit 4 ∧ ∃ qL q, LI OutE 9 H.length R5.length G (rRep rOut n5.toNat l5 b5).1 qL ∧ RB G (H.length + 1) q (rRep rOut n5.toNat l5 b5).2.1 (rRep rOut n5.toNat l5 b5).2.2 ∧ G[(H.length + 2)]? = some (⟨0, 26, #[w1, w3, i64v n4, slv qL (rRep rOut n5.toNat l5 b5).1.length 9, .int .i64 0], 5, false, []⟩ : Blk) ∧ (∀ B, B < R5.length → B ≠ (H.length + 1) → B ≠ (H.length + 2) → G[B]? = R5[B]?) ∧ R5.length ≤ G.length ∧ (rRep rOut n5.toNat l5 b5).1.length ≤ l5.length + 1 ∧ t 12 = i64v n5 ∧ t 4 = .pointer (some ⟨H.length + 1, 0, some 2⟩) ∧ t 5 = .pointer (some ⟨H.length + 2, 0, some 5⟩) ∧ t 2 = .pointer (some ⟨H.length, 0, some 5⟩) ∧ t 0 = slv qb l.length 1)
    (by
      rintro i t G hi ⟨qL, q, xs, l', b', hLI, hR, hxl, hrep, hb1, hb2, hKb, hfr, hNl, g1, g2, g3, g4, g5, g6⟩
      have hlt : (i : Int) < n5 := by omega
      obtain ⟨fl0, hfl0, hAc⟩ := hR.cell
      cases b' with
      | true =>
        right
        rw [← hLc, E_loop, hLc]
        rw [rRep_bad] at hrep
        simp only [List.append_nil] at hrep
        simp (disch := first | assumption | omega | (simp only [go_sem] <;> omega) | fail) only [go_sem, g1, g2, g3, g4, hlt, hAc]
        refine ⟨_, _, _, rfl, rfl, qL, q, ?_⟩
        rw [hrep]
        refine ⟨hLI, hR, by rw [hxl]; exact hKb, hfr, hNl, (by show xs.length ≤ _; omega), ?_, ?_, ?_, ?_, ?_⟩ <;> simp only [go_sem, g2, g3, g4, g5, g6]
      | false =>
        left
        obtain ⟨m, hm⟩ : ∃ m, n5.toNat - i = m + 1 := ⟨n5.toNat - i - 1, by omega⟩
        rw [hm, rRep_go] at hrep
        have heat := eats_out.eat l'
        have hb1' := hb1 rfl
        obtain ⟨v, R, q1, e1, hv, hR1, f1⟩ := FrRout (p := H.length) hR (by omega) (by omega)
        have hl1 := f1.1
        have hKR : R[(H.length + 2)]? = _ := (f1.2 (H.length + 2) (by omega) (by omega)).trans hKb
        have hLIR := hLI.keep kept_out (fun B h1 h2 => f1.2 B h2 (by omega)) hl1
        have hcnt : ((rOut l' false).2.2 = false → i + 1 + (rOut l' false).2.1.length ≤ l5.length) ∧ i + 1 ≤ l5.length + 1 := ⟨fun hh => by have := heat hh; omega, by omega⟩
        obtain ⟨c, rfl, hE⟩ := hv
        have hcl : c.length = 9 := OutE.len _ _ hE
        generalize hrr : rOut l' false = rr at *
        obtain ⟨y, ly, by_⟩ := rr
        simp only at hrep hR1 hcnt e1 hE
        have hLI2 := hLIR.keep kept_out (G' := R ++ [⟨0, 44, c.toArray, 9, false, []⟩]) (fun B h1 h2 => List.getElem?_append_left h2) (by simp)
        have hx : OutE (fun B => R5.length ≤ B ∧ B < (R ++ [(⟨0, 44, c.toArray, 9, false, []⟩ : Blk)]).length ∧ ¬ inq qL B) (R ++ [⟨0, 44, c.toArray, 9, false, []⟩]) y c :=
          kept_out _ _ _ _ _ _ (fun B hB => ⟨⟨by omega, by simp; omega, fun hc => by have := (hLI.new B hc).2; omega⟩, List.getElem?_append_left hB.2⟩) hE
        obtain ⟨q2, H2, a1, a2, a3, a4⟩ := LI.app (T := 44) (st := 24) Tryz.underlying24 ei24 (by omega) ap24 kept_out (fun _ _ => OutE.len) hLI2 (by omega) (by simp; omega) hx i hxl.symm (by omega)
        have hK2 : H2[(H.length + 2)]? = _ := ((a4 (H.length + 2) (by omega)).trans (List.getElem?_append_left (by omega))).trans hKR
        clear hx hLI2
        obtain ⟨qf, rfl, hq1, hq2⟩ := hE
        simp only [OutL.cells] at a1 e1
        simp only [List.length_append, List.length_cons, List.length_nil, Nat.zero_add] at a1 a3
        have a1' : appW Tryz.prog H.length 24 24 (slv qL i 9) (.slice (some ⟨R.length + 1, 0, some 9⟩) 1 9) (R ++ [⟨0, 44, #[i64v y.sub, i64v y.no, i64v y.from_, i64v y.upto, slv qf y.mail.length 1, i64v y.cut, i64v y.tried, i64v y.next, i64v y.out], 9, false, []⟩] ++ [⟨0, 44, #[i64v y.sub, i64v y.no, i64v y.from_, i64v y.upto, slv qf y.mail.length 1, i64v y.cut, i64v y.tried, i64v y.next, i64v y.out], 0, false, []⟩]) = some (slv q2 (i + 1) 9, H2) := a1
        have e1' : F 56 #[.pointer (some ⟨H.length + 1, 0, some 2⟩)] H.length G = some (.returned (.agg #[i64v y.sub, i64v y.no, i64v y.from_, i64v y.upto, slv qf y.mail.length 1, i64v y.cut, i64v y.tried, i64v y.next, i64v y.out]), R) := e1
        have hoc : [i64v y.sub, i64v y.no, i64v y.from_, i64v y.upto, slv qf y.mail.length 1, i64v y.cut, i64v y.tried, i64v y.next, i64v y.out].all oneC = true := by simp [oneC_slv, oneC_int, oneC_str, oneC_bool]
        have hRK : (R ++ [(⟨0, 44, #[i64v y.sub, i64v y.no, i64v y.from_, i64v y.upto, slv qf y.mail.length 1, i64v y.cut, i64v y.tried, i64v y.next, i64v y.out], 9, false, []⟩ : Blk)])[(H.length + 2)]? = some (⟨0, 26, #[w1, w3, i64v n4, slv qL i 9, .int .i64 0], 5, false, []⟩ : Blk) := by rw [List.getElem?_append_left (by omega)]; exact hKR
        rw [← hLc, E_loop, hLc]
        simp (disch := first | assumption | omega | (simp only [go_sem] <;> omega) | fail) only [go_sem, g1, g2, g3, g4, hlt, hAc, e1', hoc, hRK, hKR, a1', hK2]
        have hKl : (H.length + 2) < H2.length := (List.getElem?_eq_some_iff.1 hK2).1
        refine ⟨_, _, rfl, q2, q1, xs ++ [y], ly, by_, a2.keep kept_out (fun B h1 h2 => List.getElem?_set_ne (by omega)) (by rw [List.length_set]; exact Nat.le_refl _), hR1.keep (fun B hB => by rw [List.getElem?_set_ne (by omega), a4 B (by omega)]; exact List.getElem?_append_left (by have := hR1.lt; omega)), by simp [hxl], ?_, hcnt.1, (by have := hcnt.2; omega), List.getElem?_set_self hKl, fun B h1 h2 h3 => ?_, ?_, ?_, ?_, ?_, ?_, ?_, ?_⟩
        · rw [hrep, show n5.toNat - (i + 1) = m by omega, List.append_assoc]; rfl
        · rw [List.getElem?_set_ne (Ne.symm h3), a4 B h1, List.getElem?_append_left (by omega), f1.2 B (by omega) h2]
          exact hfr B h1 h2 h3
        · rw [List.length_set]; omega
        · simp only [go_sem, g1] <;> rfl
        · simp only [go_sem, g2]
        · simp only [go_sem, g3]
        · simp only [go_sem, g4]
        · simp only [go_sem, g5]
        · simp only [go_sem, g6])
    (by
      rintro t G ⟨qL, q, xs, l', b', hLI, hR, hxl, hrep, hb1, hb2, hKb, hfr, hNl, g1, g2, g3, g4, g5, g6⟩
      have hlt : ¬ (n5.toNat : Int) < n5 := by omega
      rw [Nat.sub_self, rRep, List.append_nil] at hrep
      rw [← hLc, E_loop, hLc]
      simp (disch := first | assumption | omega | (simp only [go_sem] <;> omega) | fail) only [go_sem, g1, g2, g3, g4, hlt]
      refine ⟨_, _, _, rfl, rfl, qL, q, ?_⟩
      rw [hrep]
      refine ⟨hLI, hR, by rw [hxl]; exact hKb, hfr, hNl, (by show xs.length ≤ _; omega), ?_, ?_, ?_, ?_, ?_⟩ <;> simp only [go_sem, g2, g3, g4, g5, g6])
    ⟨none, q5, [], l5, b5, .nil, hR5, rfl, by simp, fun _ => by omega, by omega, kk5, (fun _ _ _ _ => rfl), Nat.le_refl _, by rw [← hT]; simp only [go_sem] <;> rfl, by rw [← hT]; simp only [go_sem, g2, g3, g4, g5, g6], by rw [← hT]; simp only [go_sem, g2, g3, g4, g5, g6], by rw [← hT]; simp only [go_sem, g2, g3, g4, g5, g6], by rw [← hT]; simp only [go_sem, g2, g3, g4, g5, g6], by rw [← hT]; simp only [go_sem, g2, g3, g4, g5, g6]⟩
  subst k2
  rw [k1]
  have hle6 := rep_le eats_out n5.toNat l5 b5
  generalize hr6 : rRep rOut n5.toNat l5 b5 = z6 at *
  obtain ⟨n6, l6, b6⟩ := z6
  simp only at hLI hR hKb hxl hle6
  have hO6 := hLI.listAt kept_out
  have zz6 : G[H.length]? = some (⟨0, 26, #[.slice none 0 0, .slice none 0 0, .int .i64 0, .slice none 0 0, .int .i64 0], 0, false, []⟩ : Blk) := (hfr _ (by omega) (by omega) (by omega)).trans zz5
  have lo6 : ∀ B, B < H.length → G[B]? = H[B]? := fun B hB => (hfr B (by omega) (by omega) (by omega)).trans (lo5 B hB)
  have hS6 : ListAt SubE 9 (fun B => H.length + 3 ≤ B ∧ B < G.length) G n1 w1 := lists_move kept_sub hS5 fun B h1 h2 => ⟨⟨by omega, by omega⟩, hfr B h2 (by omega) (by omega)⟩
  have hI6 : ListAt ItemE 7 (fun B => H.length + 3 ≤ B ∧ B < G.length) G n3 w3 := lists_move kept_item hI5 fun B h1 h2 => ⟨⟨by omega, by omega⟩, hfr B h2 (by omega) (by omega)⟩
  generalize hw6 : slv qL n6.length 9 = w6 at *
  have ow6 : oneC w6 = true := by rw [← hw6]; exact oneC_slv _ _ _
  have hG6l : R5.length ≤ G.length := hNl
  clear hLI hfr hNl hR5 hS5 hI5
  obtain ⟨v, R7, q7, e7, rfl, hR7, f7⟩ := FrRnum (p := H.length) hR (by omega)
  have hle7 := eats_num.le l6 b6
  generalize hr7 : rNum l6 b6 = z7 at *
  obtain ⟨n7, l7, b7⟩ := z7
  simp only at e7 hR7 hle7
  have fl7 := f7.1
  have e7' : F 53 #[.pointer (some ⟨H.length + 1, 0, some 2⟩)] H.length G = some (.returned (i64v n7), R7) := e7
  have kk7 : R7[H.length + 2]? = some (⟨0, 26, #[w1, w3, i64v n4, w6, .int .i64 0], 5, false, []⟩ : Blk) := (f7.2 _ (by omega) (by omega)).trans hKb
  have zz7 : R7[H.length]? = some (⟨0, 26, #[.slice none 0 0, .slice none 0 0, .int .i64 0, .slice none 0 0, .int .i64 0], 0, false, []⟩ : Blk) := (f7.2 _ (by omega) (by omega)).trans zz6
  obtain ⟨S7, hS7e⟩ : ∃ S, S = R7.set (H.length + 2) (⟨0, 26, #[w1, w3, i64v n4, w6, i64v n7], 5, false, []⟩ : Blk) := ⟨_, rfl⟩
  have sl7 : S7.length = R7.length := by rw [hS7e, List.length_set]
  have so7 : ∀ B, B ≠ H.length + 2 → S7[B]? = R7[B]? := fun B hB => by rw [hS7e]; exact List.getElem?_set_ne (Ne.symm hB)
  have sK7 : S7[H.length + 2]? = some (⟨0, 26, #[w1, w3, i64v n4, w6, i64v n7], 5, false, []⟩ : Blk) := by rw [hS7e]; exact List.getElem?_set_self (by omega)
  have sR7 : RB S7 (H.length + 1) q7 l7 b7 := hR7.keep fun B hB => so7 B (by omega)
  have lo7 : ∀ B, B < H.length → S7[B]? = H[B]? := fun B hB => ((so7 B (by omega)).trans (f7.2 B (by omega) (by omega))).trans (lo6 B hB)
  have zz7' : S7[H.length]? = some (⟨0, 26, #[.slice none 0 0, .slice none 0 0, .int .i64 0, .slice none 0 0, .int .i64 0], 0, false, []⟩ : Blk) := (so7 _ (by omega)).trans zz7
  have hS7 : ListAt SubE 9 (fun B => H.length + 3 ≤ B ∧ B < S7.length) S7 n1 w1 := lists_move kept_sub hS6 fun B h1 h2 => ⟨⟨by omega, by omega⟩, (so7 B (by omega)).trans (f7.2 B h2 (by omega))⟩
  have hI7 : ListAt ItemE 7 (fun B => H.length + 3 ≤ B ∧ B < S7.length) S7 n3 w3 := lists_move kept_item hI6 fun B h1 h2 => ⟨⟨by omega, by omega⟩, (so7 B (by omega)).trans (f7.2 B h2 (by omega))⟩
  have hO7 : ListAt OutE 9 (fun B => H.length + 3 ≤ B ∧ B < S7.length) S7 n6 w6 := lists_move kept_out hO6 fun B h1 h2 => ⟨⟨by omega, by omega⟩, (so7 B (by omega)).trans (f7.2 B h2 (by omega))⟩
  clear hS6 hI6 hO6
  have hget : rGet l false = (⟨n1, n3, n4, n6, n7⟩, l7, b7) := by
    unfold rGet
    simp only [hr0, hr1, hr2, hr3, hr4, hr5, hr6, hr7]
  obtain ⟨flr, hflr, hAc⟩ := sR7.cell
  have hok7 := sR7.okq
  have sA : S7.length ≥ H.length + 3 := by omega
  have zs7 : S7[H.length]? = some (⟨0, 26, #[.slice none 0 0, .slice none 0 0, .int .i64 0, .slice none 0 0, .int .i64 0], 0, false, []⟩ : Blk) := zz7'
  cases b7 with
  | true =>
    have hrok : rOk l = false := by unfold rOk; rw [hget]; rfl
    rw [hrok]
    simp (disch := first | assumption | omega | (simp only [go_sem] <;> omega) | fail) only [go_sem, g2, g3, g4, g5, g6, e7', kk7, ← hS7e, hAc, zs7]
    exact ⟨_, [], by rw [List.append_nil], (fun h => by cases h), fun _ => rfl⟩
  | false =>
    by_cases hl7 : l7 = []
    · subst hl7
      have hlen := rlen_get.len l false (by rw [hget])
      rw [hget] at hlen
      simp only [List.length_nil, Nat.add_zero] at hlen
      have hst : StateAt (fun B => B < S7.length) S7 ⟨n1, n3, n4, n6, n7⟩ (.agg #[w1, w3, i64v n4, w6, i64v n7]) := by
        have mv : ∀ B, H.length + 3 ≤ B → B < S7.length → (B < S7.length) ∧ S7[B]? = S7[B]? := fun B _ h => ⟨h, rfl⟩
        exact ⟨w1, w3, w6, rfl, lists_move kept_sub hS7 mv, lists_move kept_item hI7 mv, lists_move kept_out hO7 mv⟩
      obtain ⟨q8, Z8, hq8, e8, c8⟩ := FrPut hst (fun B hB => hB) (by omega) H.length
      have cv8 := fun p => cv33_9 (p := p) (S7 ++ Z8) q8 _ _ rfl c8
      have cvb := fun p => cv33_9 (p := p) (S7 ++ Z8) qb l l.length rfl (hq.keep fun B hB => (List.getElem?_append_left (by have := hqlt B hB; omega)).trans (lo7 B (hqlt B hB)))
      have zs8 : (S7 ++ Z8)[H.length]? = some (⟨0, 26, #[.slice none 0 0, .slice none 0 0, .int .i64 0, .slice none 0 0, .int .i64 0], 0, false, []⟩ : Blk) := (List.getElem?_append_left (by omega)).trans zs7
      have sK8 : (S7 ++ Z8)[H.length + 2]? = some (⟨0, 26, #[w1, w3, i64v n4, w6, i64v n7], 5, false, []⟩ : Blk) := (List.getElem?_append_left (by omega)).trans sK7
      have how : [w1, w3, i64v n4, w6, i64v n7].all oneC = true := by simp [ow1, ow3, ow6, oneC_int]
      have hz0 : ¬ (0 : Int) < (([] : List UInt8).length : Nat) := by simp
      by_cases hp : putL ⟨n1, n3, n4, n6, n7⟩ = l
      · have hrok : rOk l = true := by unfold rOk; rw [hget]; simp [hp]
        rw [hrok]
        rw [hp] at e8 c8
        have cv9 := fun p => cv33_9 (p := p) (S7 ++ Z8) q8 l l.length rfl c8
        simp (disch := first | assumption | omega | (simp only [go_sem] <;> omega) | fail) only [go_sem, g2, g3, g4, g5, g6, e7', kk7, ← hS7e, hAc, zs7, hz0, sK7, e8, cv9, cvb, zs8, sK8, how]
        by_cases hfl : flat w1 = true ∧ flat w3 = true ∧ flat w6 = true
        · rw [if_pos hfl]
          refine ⟨_, [], by rw [List.append_nil], fun _ => ?_, (fun h => by cases h)⟩
          rw [hget]
          exact ⟨w1, w3, w6, rfl, list_flat (by omega) hS7 hfl.1, list_flat (by omega) hI7 hfl.2.1, list_flat (by omega) hO7 hfl.2.2⟩
        · rw [if_neg hfl]
          have hs8 : ∀ B, H.length + 3 ≤ B → B < S7.length → ((S7 ++ Z8).set H.length (⟨0, 26, #[w1, w3, i64v n4, w6, i64v n7], 5, false, []⟩ : Blk))[B]? = S7[B]? := fun B h1 h2 => by
            rw [List.getElem?_set_ne (by omega), List.getElem?_append_left h2]
          obtain ⟨Zf, hZf⟩ := Pr.add (H := H) (H' := (S7 ++ Z8).set H.length (⟨0, 26, #[w1, w3, i64v n4, w6, i64v n7], 5, false, []⟩ : Blk)) ⟨by rw [List.length_set, List.length_append]; omega, fun B hB => by
            rw [List.getElem?_set_ne (by omega), List.getElem?_append_left (by omega)]; exact lo7 B hB⟩
          have hlf : (H ++ Zf).length = S7.length + Z8.length := by rw [← hZf, List.length_set, List.length_append]
          refine ⟨_, Zf, by rw [← hZf], fun _ => ?_, (fun h => by cases h)⟩
          rw [hget]
          have mv2 : ∀ B, H.length + 3 ≤ B → B < S7.length → (B < H.length + Zf.length) ∧ (H ++ Zf)[B]? = S7[B]? := fun B h1 h2 => ⟨by rw [List.length_append] at hlf; omega, by rw [← hZf]; exact hs8 B h1 h2⟩
          exact ⟨w1, w3, w6, rfl, lists_move kept_sub hS7 mv2, lists_move kept_item hI7 mv2, lists_move kept_out hO7 mv2⟩
      · have hrok : rOk l = false := by unfold rOk; rw [hget]; simp [hp]
        rw [hrok]
        simp (disch := first | assumption | omega | (simp only [go_sem] <;> omega) | fail) only [go_sem, g2, g3, g4, g5, g6, e7', kk7, ← hS7e, hAc, zs7, hz0, sK7, e8, cv8, cvb, zs8, sK8, how, hp]
        exact ⟨_, [], by rw [List.append_nil], (fun h => by cases h), fun _ => rfl⟩
    · have hrok : rOk l = false := by unfold rOk; rw [hget]; simp [hl7]
      rw [hrok]
      have hz1 : (0 : Int) < l7.length := by have : l7.length ≠ 0 := fun e => hl7 (List.length_eq_zero_iff.1 e); omega
      simp (disch := first | assumption | omega | (simp only [go_sem] <;> omega) | fail) only [go_sem, g2, g3, g4, g5, g6, e7', kk7, ← hS7e, hAc, zs7, hz1]
      exact ⟨_, [], by rw [List.append_nil], (fun h => by cases h), fun _ => rfl⟩
def Sim {α : Type} (p : Pa α) (f : MR α) : Prop := ∀ l x r, p l = some (x, r) → f l false = (x, r, false)
theorem sim_num : Sim numP rNum := fun l x r h => by
  unfold numP at h
  split at h
  · rename_i hh
    cases h
    unfold rNum
    rw [if_neg (by omega)]
  · cases h
theorem sim_text : Sim textP rText := fun l x r h => by
  unfold textP at h
  obtain ⟨⟨n, l1⟩, h1, h2⟩ := Option.bind_eq_some_iff.1 h
  unfold takeP at h2
  simp only at h2
  split at h2
  · rename_i hn
    cases h2
    unfold rText
    rw [sim_num _ _ _ h1]
    simp only
    rw [if_neg (by omega)]
  · cases h2
theorem sim_off : Sim offP rTruth := fun l x r h => by
  unfold offP at h
  cases l with
  | nil => cases h
  | cons c l' =>
    simp only at h
    split at h
    · rename_i hc
      cases h
      have e : decide (c = 1) = decide (c.toNat = 1) := by
        have : (c = 1) ↔ c.toNat = 1 := ⟨fun h => by rw [h]; rfl, fun h => UInt8.toNat_inj.1 h⟩
        simp [this]
      simp [rTruth, e, show ¬ 1 < c.toNat by omega]
    · cases h
theorem sim_rep {α : Type} {p : Pa α} {f : MR α} (h : Sim p f) : ∀ (n : Nat) (l : List UInt8) (xs : List α) (r : List UInt8), repP p n l = some (xs, r) → rRep f n l false = (xs, r, false)
  | 0, l, xs, r, hh => by cases hh; rfl
  | n + 1, l, xs, r, hh => by
    rw [repP] at hh
    obtain ⟨⟨x, l1⟩, h1, h2⟩ := Option.bind_eq_some_iff.1 hh
    obtain ⟨⟨ys, l2⟩, h3, h4⟩ := Option.bind_eq_some_iff.1 h2
    cases h4
    rw [rRep_go, h _ _ _ h1]
    simp only
    rw [sim_rep h n _ _ _ h3]
theorem sim_list {α : Type} {p : Pa α} {f : MR α} (h : Sim p f) {l : List UInt8} {xs : List α} {r : List UInt8} (hh : listP p l = some (xs, r)) : ∃ n l1, rNum l false = (n, l1, false) ∧ 0 ≤ n ∧ rRep f n.toNat l1 false = (xs, r, false) := by
  unfold listP at hh
  obtain ⟨⟨n, l1⟩, h1, h2⟩ := Option.bind_eq_some_iff.1 hh
  simp only at h2
  split at h2
  · rename_i hn
    exact ⟨n, l1, sim_num _ _ _ h1, hn.1, sim_rep h _ _ _ _ h2⟩
  · cases h2
theorem sim_item : Sim itemP rItem := fun l x r h => by
  unfold itemP at h
  obtain ⟨_, _, k1, h⟩ := bindP_iff h
  obtain ⟨_, _, k2, h⟩ := bindP_iff h
  obtain ⟨_, _, k3, h⟩ := bindP_iff h
  obtain ⟨_, _, k4, h⟩ := bindP_iff h
  obtain ⟨_, _, k5, h⟩ := bindP_iff h
  obtain ⟨_, _, k6, h⟩ := bindP_iff h
  obtain ⟨_, _, k7, h⟩ := bindP_iff h
  cases h
  unfold rItem
  simp only [sim_num _ _ _ k1, sim_num _ _ _ k2, sim_text _ _ _ k3, sim_text _ _ _ k4, sim_text _ _ _ k5, sim_text _ _ _ k6, sim_num _ _ _ k7]
theorem sim_out : Sim outP rOut := fun l x r h => by
  unfold outP at h
  obtain ⟨_, _, k1, h⟩ := bindP_iff h
  obtain ⟨_, _, k2, h⟩ := bindP_iff h
  obtain ⟨_, _, k3, h⟩ := bindP_iff h
  obtain ⟨_, _, k4, h⟩ := bindP_iff h
  obtain ⟨_, _, k5, h⟩ := bindP_iff h
  obtain ⟨_, _, k6, h⟩ := bindP_iff h
  obtain ⟨_, _, k7, h⟩ := bindP_iff h
  obtain ⟨_, _, k8, h⟩ := bindP_iff h
  obtain ⟨_, _, k9, h⟩ := bindP_iff h
  cases h
  unfold rOut
  simp only [sim_num _ _ _ k1, sim_num _ _ _ k2, sim_num _ _ _ k3, sim_num _ _ _ k4, sim_text _ _ _ k5, sim_num _ _ _ k6, sim_num _ _ _ k7, sim_num _ _ _ k8, sim_num _ _ _ k9]
theorem sim_sub : Sim subP rSub := fun l x r h => by
  unfold subP at h
  obtain ⟨_, _, k1, h⟩ := bindP_iff h
  obtain ⟨_, _, k2, h⟩ := bindP_iff h
  obtain ⟨_, _, k3, h⟩ := bindP_iff h
  obtain ⟨_, _, k4, h⟩ := bindP_iff h
  obtain ⟨_, _, k5, h⟩ := bindP_iff h
  obtain ⟨_, _, k6, h⟩ := bindP_iff h
  obtain ⟨_, _, k7, h⟩ := bindP_iff h
  obtain ⟨_, _, k8, h⟩ := bindP_iff h
  obtain ⟨_, _, k9, h⟩ := bindP_iff h
  cases h
  obtain ⟨n, l1, m1, m2, m3⟩ := sim_list sim_num k2
  have hd : (false || decide (n < 0)) = false := by simp; omega
  unfold rSub
  simp only [sim_text _ _ _ k1, m1, m3, hd, sim_text _ _ _ k3, sim_text _ _ _ k4, sim_num _ _ _ k5, sim_num _ _ _ k6, sim_num _ _ _ k7, sim_num _ _ _ k8, sim_off _ _ _ k9]
theorem sim_get {l : List UInt8} {s : StateL} (h : getL l = some s) : rGet l false = (s, [], false) := by
  have hs : stateP l = some (s, []) := by
    unfold getL at h
    split at h
    · rename_i h1; cases h; exact h1
    · cases h
  unfold stateP at hs
  obtain ⟨_, _, k1, hs⟩ := bindP_iff hs
  obtain ⟨_, _, k2, hs⟩ := bindP_iff hs
  obtain ⟨_, _, k3, hs⟩ := bindP_iff hs
  obtain ⟨_, _, k4, hs⟩ := bindP_iff hs
  obtain ⟨_, _, k5, hs⟩ := bindP_iff hs
  cases hs
  obtain ⟨_, _, m1, _, m2⟩ := sim_list sim_sub k1
  obtain ⟨_, _, m3, _, m4⟩ := sim_list sim_item k2
  obtain ⟨_, _, m5, _, m6⟩ := sim_list sim_out k4
  unfold rGet
  simp only [m1, m2, m3, m4, sim_num _ _ _ k3, m5, m6, sim_num _ _ _ k5]
def lb (l : List UInt8) : Prop := l.length ≤ 1000000000
theorem ok_num (l : List UInt8) (b : Bool) : i64 (rNum l b).1 := by
  unfold rNum
  split
  · exact ⟨by decide, by decide⟩
  · exact numV_bound _
theorem ok_text {l : List UInt8} (h : lb l) (b : Bool) : len64 (rText l b).1 := by
  have := eats_num.le l b
  unfold lb at h
  unfold rText len64
  split
  · simp
  · simp only [List.length_take]; omega
theorem lb_num {l : List UInt8} (h : lb l) (b : Bool) : lb (rNum l b).2.1 := Nat.le_trans (eats_num.le l b) h
theorem lb_text {l : List UInt8} (h : lb l) (b : Bool) : lb (rText l b).2.1 := Nat.le_trans (eats_text.le l b) h
theorem lb_rep {α : Type} {f : MR α} (hf : Eats f) {l : List UInt8} (h : lb l) (k : Nat) (b : Bool) : lb (rRep f k l b).2.1 := Nat.le_trans (rep_le hf k l b) h
theorem rep_cnt {α : Type} {f : MR α} (hf : Eats f) : ∀ (k : Nat) (l : List UInt8) (b : Bool), (rRep f k l b).1.length ≤ l.length + 1
  | 0, l, b => by simp [rRep]
  | k + 1, l, true => by simp [rRep]
  | k + 1, l, false => by
    rw [rRep_go]
    simp only [List.length_cons]
    cases hb : (f l false).2.2 with
    | true => rw [rRep_bad]; simp
    | false =>
      have h1 := hf.eat l hb
      have h2 := rep_cnt hf k (f l false).2.1 false
      omega
theorem rep_all {α : Type} {f : MR α} (hf : Eats f) {ok : α → Prop} (ho : ∀ l b, lb l → ok (f l b).1) : ∀ (k : Nat) (l : List UInt8) (b : Bool), lb l → ∀ x ∈ (rRep f k l b).1, ok x
  | 0, l, b, _, x, hx => by simp [rRep] at hx
  | k + 1, l, true, _, x, hx => by simp [rRep] at hx
  | k + 1, l, false, h, x, hx => by
    rw [rRep_go] at hx
    rcases List.mem_cons.1 hx with rfl | hx
    · exact ho l false h
    · exact rep_all hf ho k _ _ (Nat.le_trans (hf.le l false) h) x hx
theorem ok_rep {α : Type} {f : MR α} (hf : Eats f) {ok : α → Prop} (ho : ∀ l b, lb l → ok (f l b).1) (k : Nat) {l : List UInt8} (h : lb l) (b : Bool) : all64 ok (rRep f k l b).1 :=
  ⟨rep_all hf ho k l b h, by have := rep_cnt hf k l b; unfold lb at h; unfold len64; omega⟩
theorem ok_item (l : List UInt8) (b : Bool) (h : lb l) : ItemOk (rItem l b).1 := by
  unfold rItem
  dsimp only
  have h0 := lb_num h (b)
  have o0 := ok_num l (b)
  generalize rNum l (b) = r0 at *
  have h1 := lb_num h0 (r0.2.2)
  have o1 := ok_num r0.2.1 (r0.2.2)
  generalize rNum r0.2.1 (r0.2.2) = r1 at *
  have h2 := lb_text h1 (r1.2.2)
  have o2 := ok_text h1 (r1.2.2)
  generalize rText r1.2.1 (r1.2.2) = r2 at *
  have h3 := lb_text h2 (r2.2.2)
  have o3 := ok_text h2 (r2.2.2)
  generalize rText r2.2.1 (r2.2.2) = r3 at *
  have h4 := lb_text h3 (r3.2.2)
  have o4 := ok_text h3 (r3.2.2)
  generalize rText r3.2.1 (r3.2.2) = r4 at *
  have h5 := lb_text h4 (r4.2.2)
  have o5 := ok_text h4 (r4.2.2)
  generalize rText r4.2.1 (r4.2.2) = r5 at *
  have h6 := lb_num h5 (r5.2.2)
  have o6 := ok_num r5.2.1 (r5.2.2)
  generalize rNum r5.2.1 (r5.2.2) = r6 at *
  exact ⟨o0, o1, o2, o3, o4, o5, o6⟩
theorem ok_out (l : List UInt8) (b : Bool) (h : lb l) : OutOk (rOut l b).1 := by
  unfold rOut
  dsimp only
  have h0 := lb_num h (b)
  have o0 := ok_num l (b)
  generalize rNum l (b) = r0 at *
  have h1 := lb_num h0 (r0.2.2)
  have o1 := ok_num r0.2.1 (r0.2.2)
  generalize rNum r0.2.1 (r0.2.2) = r1 at *
  have h2 := lb_num h1 (r1.2.2)
  have o2 := ok_num r1.2.1 (r1.2.2)
  generalize rNum r1.2.1 (r1.2.2) = r2 at *
  have h3 := lb_num h2 (r2.2.2)
  have o3 := ok_num r2.2.1 (r2.2.2)
  generalize rNum r2.2.1 (r2.2.2) = r3 at *
  have h4 := lb_text h3 (r3.2.2)
  have o4 := ok_text h3 (r3.2.2)
  generalize rText r3.2.1 (r3.2.2) = r4 at *
  have h5 := lb_num h4 (r4.2.2)
  have o5 := ok_num r4.2.1 (r4.2.2)
  generalize rNum r4.2.1 (r4.2.2) = r5 at *
  have h6 := lb_num h5 (r5.2.2)
  have o6 := ok_num r5.2.1 (r5.2.2)
  generalize rNum r5.2.1 (r5.2.2) = r6 at *
  have h7 := lb_num h6 (r6.2.2)
  have o7 := ok_num r6.2.1 (r6.2.2)
  generalize rNum r6.2.1 (r6.2.2) = r7 at *
  have h8 := lb_num h7 (r7.2.2)
  have o8 := ok_num r7.2.1 (r7.2.2)
  generalize rNum r7.2.1 (r7.2.2) = r8 at *
  exact ⟨o0, o1, o2, o3, o4, o5, o6, o7, o8⟩
theorem ok_sub (l : List UInt8) (b : Bool) (h : lb l) : SubOk (rSub l b).1 := by
  unfold rSub
  dsimp only
  have h0 := lb_text h (b)
  have o0 := ok_text h (b)
  generalize rText l (b) = r0 at *
  have h1 := lb_num h0 (r0.2.2)
  have o1 := ok_num r0.2.1 (r0.2.2)
  generalize rNum r0.2.1 (r0.2.2) = r1 at *
  have h2 := lb_rep eats_num h1 r1.1.toNat (r1.2.2)
  have o2 := ok_rep eats_num (fun l b _ => ok_num l b) r1.1.toNat h1 (r1.2.2)
  generalize rRep rNum r1.1.toNat r1.2.1 (r1.2.2) = r2 at *
  have h3 := lb_text h2 (r2.2.2 || decide (r1.1 < 0))
  have o3 := ok_text h2 (r2.2.2 || decide (r1.1 < 0))
  generalize rText r2.2.1 (r2.2.2 || decide (r1.1 < 0)) = r3 at *
  have h4 := lb_text h3 (r3.2.2)
  have o4 := ok_text h3 (r3.2.2)
  generalize rText r3.2.1 (r3.2.2) = r4 at *
  have h5 := lb_num h4 (r4.2.2)
  have o5 := ok_num r4.2.1 (r4.2.2)
  generalize rNum r4.2.1 (r4.2.2) = r5 at *
  have h6 := lb_num h5 (r5.2.2)
  have o6 := ok_num r5.2.1 (r5.2.2)
  generalize rNum r5.2.1 (r5.2.2) = r6 at *
  have h7 := lb_num h6 (r6.2.2)
  have o7 := ok_num r6.2.1 (r6.2.2)
  generalize rNum r6.2.1 (r6.2.2) = r7 at *
  have h8 := lb_num h7 (r7.2.2)
  have o8 := ok_num r7.2.1 (r7.2.2)
  generalize rNum r7.2.1 (r7.2.2) = r8 at *
  exact ⟨o0, o2, o3, o4, o5, o6, o7, o8⟩
theorem ok_get (l : List UInt8) (b : Bool) (h : lb l) : StateOk (rGet l b).1 := by
  unfold rGet
  dsimp only
  have h0 := lb_num h (b)
  have o0 := ok_num l (b)
  generalize rNum l (b) = r0 at *
  have h1 := lb_rep eats_sub h0 r0.1.toNat (r0.2.2)
  have o1 := ok_rep eats_sub ok_sub r0.1.toNat h0 (r0.2.2)
  generalize rRep rSub r0.1.toNat r0.2.1 (r0.2.2) = r1 at *
  have h2 := lb_num h1 (r1.2.2)
  have o2 := ok_num r1.2.1 (r1.2.2)
  generalize rNum r1.2.1 (r1.2.2) = r2 at *
  have h3 := lb_rep eats_item h2 r2.1.toNat (r2.2.2)
  have o3 := ok_rep eats_item ok_item r2.1.toNat h2 (r2.2.2)
  generalize rRep rItem r2.1.toNat r2.2.1 (r2.2.2) = r3 at *
  have h4 := lb_num h3 (r3.2.2)
  have o4 := ok_num r3.2.1 (r3.2.2)
  generalize rNum r3.2.1 (r3.2.2) = r4 at *
  have h5 := lb_num h4 (r4.2.2)
  have o5 := ok_num r4.2.1 (r4.2.2)
  generalize rNum r4.2.1 (r4.2.2) = r5 at *
  have h6 := lb_rep eats_out h5 r5.1.toNat (r5.2.2)
  have o6 := ok_rep eats_out ok_out r5.1.toNat h5 (r5.2.2)
  generalize rRep rOut r5.1.toNat r5.2.1 (r5.2.2) = r6 at *
  have h7 := lb_num h6 (r6.2.2)
  have o7 := ok_num r6.2.1 (r6.2.2)
  generalize rNum r6.2.1 (r6.2.2) = r7 at *
  exact ⟨o1, o3, o4, o6, o7⟩
theorem rOk_iff {l : List UInt8} (h : lb l) : (∃ s, getL l = some s ∧ rOk l = true ∧ (rGet l false).1 = s) ∨ (getL l = none ∧ rOk l = false) := by
  cases hg : getL l with
  | some s =>
    left
    have h1 := sim_get hg
    have h2 := put_getL hg
    exact ⟨s, rfl, by unfold rOk; rw [h1]; simp [h2], by rw [h1]⟩
  | none =>
    right
    refine ⟨rfl, ?_⟩
    cases hr : rOk l with
    | false => rfl
    | true =>
      exfalso
      unfold rOk at hr
      simp only [Bool.and_eq_true, decide_eq_true_eq] at hr
      have := getL_put (ok_get l false h)
      rw [hr.2, hg] at this
      cases this
theorem Fgets {q : Q} {l : List UInt8} {H : Heap} (hc : CAt H q (u8s l)) (p : Nat) : F 4 #[slv q l.length 1] p H = some (.returned (.bool true), H) := by
  have hok : okq q l.length := hc.okq (s := 1) (by simp) (by omega)
  rw [F, F_quiet (f := 4) (X := X) (cl := cl) rfl rfl rfl Tryz.func4 rfl, Tryz.results4]
  by_cases hl : (3000 : Int) < l.length
  · simp (disch := first | assumption | omega | (simp only [go_sem] <;> omega) | fail) only [go_sem, Fawake, hl]
  · rcases rOk_iff (l := l) (by unfold lb; omega) with ⟨s, hg, hr, hs⟩ | ⟨hg, hr⟩
    · obtain ⟨v, Z1, e1, sa⟩ := Get_some (p := H.length) hc (Nat.le_refl _) (by omega) hg
      obtain ⟨x1, x2, x3, rfl, y1, y2, y3⟩ := sa.cells
      have hox : [x1, x2, i64v s.seq, x3, i64v s.now].all oneC = true := by simp [y1, y2, y3, oneC_int]
      generalize hG1 : H ++ Z1 ++ [(⟨0, 26, #[x1, x2, i64v s.seq, x3, i64v s.now], 5, false, []⟩ : Blk)] = G1
      have gl : G1.length = H.length + Z1.length + 1 := by rw [← hG1]; simp; omega
      have gN : G1[H.length + Z1.length]? = some ⟨0, 26, #[x1, x2, i64v s.seq, x3, i64v s.now], 5, false, []⟩ := by rw [← hG1]; exact at_end (by simp)
      have sa1 : StateAt (fun B => B < G1.length) G1 s (.agg #[x1, x2, i64v s.seq, x3, i64v s.now]) := by rw [← hG1]; exact sa.any (fun B hB => hB.2) _
      have hc1 : CAt G1 q (u8s l) := by rw [← hG1, List.append_assoc]; exact hc.push _
      obtain ⟨w, Z2, e2, sb, _⟩ := FrGet hc1 (by omega) H.length
      have sb := sb hr
      rw [hs] at sb
      rw [hr] at e2
      simp only [if_true] at e2
      obtain ⟨u1, u2, u3, rfl, z1, z2, z3⟩ := sb.cells
      have hou : [u1, u2, i64v s.seq, u3, i64v s.now].all oneC = true := by simp [z1, z2, z3, oneC_int]
      generalize hG2 : G1 ++ Z2 ++ [(⟨0, 26, #[u1, u2, i64v s.seq, u3, i64v s.now], 5, false, []⟩ : Blk)] = G2
      have gN2 : G2[H.length + Z1.length]? = some ⟨0, 26, #[x1, x2, i64v s.seq, x3, i64v s.now], 5, false, []⟩ := by rw [← hG2, List.append_assoc, List.getElem?_append_left (by omega)]; exact gN
      have gM2 : G2[G1.length + Z2.length]? = some ⟨0, 26, #[u1, u2, i64v s.seq, u3, i64v s.now], 5, false, []⟩ := by rw [← hG2]; exact at_end (by simp)
      have sa2 : StateAt (fun B => B < G2.length) G2 s (.agg #[x1, x2, i64v s.seq, x3, i64v s.now]) := by rw [← hG2, List.append_assoc]; exact sa1.any (fun B hB => hB) _
      have sb2 : StateAt (fun B => B < G2.length) G2 s (.agg #[u1, u2, i64v s.seq, u3, i64v s.now]) := by rw [← hG2]; exact sb.any (fun B hB => hB) _
      have hpl : (putL s).length ≤ 1000000000 := by rw [put_getL hg]; omega
      have sm := FrSame sa2 sb2 (fun B hB => hB) hpl hpl H.length
      rw [decide_eq_true rfl] at sm
      simp (disch := first | assumption | omega | (simp only [go_sem] <;> omega) | fail) only [go_sem, Fawake, hl, e1, hox, hG1, e2, hou, hG2, gN2, gM2, sm]
    · obtain ⟨Z1, e1⟩ := Get_none (p := H.length) hc (Nat.le_refl _) (by omega) hg
      generalize hG1 : H ++ Z1 ++ [(⟨0, 26, #[.slice none 0 0, .slice none 0 0, i64v 0, .slice none 0 0, i64v 0], 5, false, []⟩ : Blk)] = G1
      have gl : G1.length = H.length + Z1.length + 1 := by rw [← hG1]; simp; omega
      have gN : G1[H.length + Z1.length]? = some ⟨0, 26, #[.slice none 0 0, .slice none 0 0, i64v 0, .slice none 0 0, i64v 0], 5, false, []⟩ := by rw [← hG1]; exact at_end (by simp)
      have hc1 : CAt G1 q (u8s l) := by rw [← hG1, List.append_assoc]; exact hc.push _
      obtain ⟨w, Z2, e2, _, sb⟩ := FrGet hc1 (by omega) H.length
      obtain rfl := sb hr
      rw [hr] at e2
      simp only [Bool.false_eq_true, if_false] at e2
      generalize hG2 : G1 ++ Z2 ++ [(⟨0, 26, #[.slice none 0 0, .slice none 0 0, i64v 0, .slice none 0 0, i64v 0], 5, false, []⟩ : Blk)] = G2
      have gN2 : G2[H.length + Z1.length]? = some ⟨0, 26, #[.slice none 0 0, .slice none 0 0, i64v 0, .slice none 0 0, i64v 0], 5, false, []⟩ := by rw [← hG2, List.append_assoc, List.getElem?_append_left (by omega)]; exact gN
      have gM2 : G2[G1.length + Z2.length]? = some ⟨0, 26, #[.slice none 0 0, .slice none 0 0, i64v 0, .slice none 0 0, i64v 0], 5, false, []⟩ := by rw [← hG2]; exact at_end (by simp)
      have sm := FrSame (zero_at (fun B => B < G2.length) G2) (zero_at (fun B => B < G2.length) G2) (fun B hB => hB) (by rw [zero_len]; omega) (by rw [zero_len]; omega) H.length
      rw [decide_eq_true rfl] at sm
      simp (disch := first | assumption | omega | (simp only [go_sem] <;> omega) | fail) only [go_sem, Fawake, hl, e1, hG1, e2, hG2, gN2, gM2, sm]
end Go.AM.Z
