/-
  Two laws, StateParts and StateBack, answer true on the abstract machine. No condition but that the arguments are what their types let in.
-/
import Derived.Test.YtibglbjklefjdaaGreatDoorSd
set_option linter.all false
set_option linter.unusedSimpArgs false
set_option linter.unusedVariables false
set_option linter.unusedSectionVars false
/-! The law StateParts. -/
namespace Go.AM.Z
open Go Go.AM Go.Proofs
set_option maxRecDepth 100000
theorem sum_le {α : Type} (f : α → List UInt8) (n : Nat) : ∀ l : List α, (∀ x ∈ l, (f x).length ≤ n) → (l.flatMap f).length ≤ l.length * n
  | [], _ => by simp
  | x :: l, h => by
    have h1 := h x (by simp)
    have h2 := sum_le f n l fun y hy => h y (by simp [hy])
    rw [List.flatMap_cons, List.length_append, List.length_cons, Nat.succ_mul]
    omega
theorem few_sub {x : SubL} (h : fewSub x = true) : SubSz x ∧ (subB x).length ≤ 900 := by
  simp only [fewSub, Bool.and_eq_true, decide_eq_true_eq] at h
  obtain ⟨⟨⟨h1, h2⟩, h3⟩, h4⟩ := h
  refine ⟨⟨by omega, by omega, by omega, by omega⟩, ?_⟩
  simp only [subB, List.length_append, textB_len, numB_len, ints_len, offB_len]
  omega
theorem few_item {x : ItemL} (h : fewItem x = true) : ItemSz x ∧ (itemB x).length ≤ 1000 := by
  simp only [fewItem, Bool.and_eq_true, decide_eq_true_eq] at h
  obtain ⟨⟨⟨h1, h2⟩, h3⟩, h4⟩ := h
  refine ⟨⟨by omega, by omega, by omega⟩, ?_⟩
  simp only [itemB, List.length_append, textB_len, numB_len]
  omega
theorem few_out {x : OutL} (h : fewOut x = true) : x.mail.length ≤ 4000000000 ∧ (outB x).length ≤ 3200 := by
  simp only [fewOut, decide_eq_true_eq] at h
  refine ⟨by omega, ?_⟩
  simp only [outB, List.length_append, textB_len, numB_len]
  omega
theorem few_sz {s : StateL} (h : fewL s = true) : StateSz s ∧ (putL s).length ≤ 100000 := by
  simp only [fewL, Bool.and_eq_true, decide_eq_true_eq, List.all_eq_true] at h
  obtain ⟨⟨⟨⟨⟨h1, h2⟩, h3⟩, h4⟩, h5⟩, h6⟩ := h
  refine ⟨⟨fun x hx => (few_sub (h4 x hx)).1, fun x hx => (few_item (h5 x hx)).1, fun x hx => (few_out (h6 x hx)).1, by omega, by omega, by omega⟩, ?_⟩
  have a1 := sum_le subB 900 s.subs fun x hx => (few_sub (h4 x hx)).2
  have a2 := sum_le itemB 1000 s.items fun x hx => (few_item (h5 x hx)).2
  have a3 := sum_le outB 3200 s.out fun x hx => (few_out (h6 x hx)).2
  have b1 := Nat.mul_le_mul_right 900 h1
  have b2 := Nat.mul_le_mul_right 1000 h2
  have b3 := Nat.mul_le_mul_right 3200 h3
  simp only [putL, listB, List.length_append, numB_len]
  omega
/-- Get, of bytes that are none. -/
theorem Get_none {q : Q} {l : List UInt8} {p : Nat} {H : Heap} (hq : CAt H q (u8s l)) (hp : p ≤ H.length) (hb : l.length ≤ 4294967296) (h : getL l = none) : ∃ Z, F 17 #[slv q l.length 1] p H = some (.returned (.tuple #[.agg #[.slice none 0 0, .slice none 0 0, i64v 0, .slice none 0 0, i64v 0], i64v 2]), H ++ Z) := by
  obtain ⟨v, e, H', e1, e2, e3, e4⟩ := FGet hq (CAt.lt hq) hp hb
  obtain ⟨Z, rfl⟩ := Pr.add (H := H) (H' := H') ⟨e2, e3⟩
  rcases e4 with ⟨s, h1, _⟩ | ⟨_, rfl, rfl⟩
  · rw [h] at h1; cases h1
  · exact ⟨Z, e1⟩
theorem Get_some {q : Q} {l : List UInt8} {p : Nat} {H : Heap} {s : StateL} (hq : CAt H q (u8s l)) (hp : p ≤ H.length) (hb : l.length ≤ 4294967296) (h : getL l = some s) : ∃ v Z, F 17 #[slv q l.length 1] p H = some (.returned (.tuple #[v, i64v 0]), H ++ Z) ∧ StateAt (fun B => H.length ≤ B ∧ B < (H ++ Z).length) (H ++ Z) s v := by
  obtain ⟨v, e, H', e1, e2, e3, e4⟩ := FGet hq (CAt.lt hq) hp hb
  obtain ⟨Z, rfl⟩ := Pr.add (H := H) (H' := H') ⟨e2, e3⟩
  rcases e4 with ⟨s', h1, rfl, h2⟩ | ⟨h1, _⟩
  · rw [h] at h1; cases h1
    exact ⟨v, Z, e1, h2⟩
  · rw [h] at h1; cases h1
/-- Put, as it is used. -/
theorem Put_some {O : Nat → Prop} {H : Heap} {s : StateL} {v : Value} (hs : StateAt O H s v) (hO : ∀ B, O B → B < H.length) (hb : (putL s).length ≤ 1099511627776) (p : Nat) : ∃ q Z, q ≠ none ∧ F 13 #[v] p H = some (.returned (slv q (putL s).length 1), H ++ Z) ∧ CAt (H ++ Z) q (u8s (putL s)) := by
  obtain ⟨A, n, H', e1, e2, e3, e4, e5, e6⟩ := FPut (p := p) hs hO hb
  obtain ⟨Z, rfl⟩ := Pr.add (H := H) (H' := H') ⟨e5, e6⟩
  exact ⟨some (A, 0, n), Z, by simp, e1, e2⟩
theorem Fparts {O : Nat → Prop} {H : Heap} {s : StateL} {v : Value} (hs : StateAt O H s v) (hO : ∀ B, O B → B < H.length) (hok : StateOk s) (at_ : Int) (more : UInt8) (p : Nat) : F 6 #[v, .int .i64 at_, .int .u8 more.toNat] p H = some (.returned (.bool true), H) := by
  obtain ⟨a1, a2, a3, ev, o1, o2, o3⟩ := hs.cells
  have ho1 : [a1, a2, i64v s.seq, a3, i64v s.now].all oneC = true := by simp [o1, o2, o3, oneC_int]
  have hso : ∀ Z : Heap, StateAt O (H ++ Z) s v := fun Z => hs.push hO Z
  have hOl : ∀ Z : Heap, ∀ B, O B → B < (H ++ Z).length := fun Z B hB => by have := hO B hB; simp; omega
  have hfew := fun Z p => Ffew (hso Z) (hOl Z) p
  subst ev
  rw [F, F_quiet (f := 6) (X := X) (cl := cl) rfl rfl rfl Tryz.func6 rfl, Tryz.results6]
  cases hf : fewL s with
  | false =>
    rw [hf] at hfew
    simp (disch := first | assumption | omega | (simp only [go_sem]; done) | (simp only [go_sem]; omega) | fail) only [go_sem, ho1, Fawake, hfew]
  | true =>
    rw [hf] at hfew
    obtain ⟨hz, hlen⟩ := few_sz hf
    obtain ⟨q, Z1, hq0, e1, c1⟩ := Put_some (hso [⟨0, 26, #[a1, a2, i64v s.seq, a3, i64v s.now], 0, false, []⟩]) (hOl _) (by omega) H.length
    have hbl : (H ++ [(⟨0, 26, #[a1, a2, i64v s.seq, a3, i64v s.now], 0, false, []⟩ : Blk)] ++ Z1).length = H.length + 1 + Z1.length := by simp; omega
    obtain ⟨q1, H1, f1, f2, f3, f4, f5, _⟩ := app_own (P := Tryz.prog) (p := H.length) (T' := 33) (st := 33) (q := none) (cs := []) (len := 0) (m := (putL s).length) (s := 1) Tryz.underlying33 ei33 (by omega) ap33 (by omega) rfl rfl (src_slv (s := 1) (len := (putL s).length) c1 (by simp) (by omega)) (by simp) (by omega)
    simp only [show slv none 0 1 = Value.slice none 0 0 from rfl, List.nil_append, Nat.zero_add] at f1 f2
    obtain ⟨q2, H2, g1, g2, g3, g4, g5⟩ := app_new (P := Tryz.prog) (p := H.length) (H := H1) (T := 5) (T' := 33) (st := 33) (q := q1) (len := (putL s).length) (s := 1) (xs := [u8v more]) Tryz.underlying33 ei33 (by omega) ap33 (by omega) f2 (by simp) rfl (by omega)
    have c2 : CAt H2 q2 (u8s (putL s ++ [more])) := by
      have := g2.cat
      rwa [show u8s (putL s) ++ [u8v more] = u8s (putL s ++ [more]) by simp [u8s]] at this
    have hl2 : (putL s ++ [more]).length = (putL s).length + 1 := by simp
    have g1' : appW Tryz.prog H.length 33 33 (slv q1 (putL s).length 1) (.slice (some ⟨H1.length, 0, some 1⟩) 1 1) (H1 ++ [⟨0, 5, #[.int .u8 more.toNat], 0, false, []⟩]) = some (slv q2 ((putL s).length + 1) 1, H2) := g1
    obtain ⟨Z3, e3⟩ := Get_none (p := H.length) c2 (by omega) (by omega) (getL_more hok more)
    rw [hl2] at e3
    have c1' : CAt H1 q (u8s (putL s)) := c1.keep fun B hB => f4 B (CAt.lt c1 B hB) (fun hc => by obtain ⟨_, _, hc⟩ := hc; cases hc)
    have c1'' : CAt H2 q (u8s (putL s)) := c1'.keep fun B hB => g4 B (CAt.lt c1' B hB) (fun hc => by
      rcases f5 B hc with ⟨_, _, h⟩ | h
      · cases h
      · have := CAt.lt c1 B hB; omega)
    have hokq : okq q (putL s).length := fun e => absurd e hq0
    by_cases b1 : at_ < 0
    · simp (disch := first | assumption | omega | (simp only [go_sem]; done) | (simp only [go_sem]; omega) | fail) only [go_sem, ho1, Fawake, hfew, e1, f1, g1', e3, b1]
    · by_cases b2 : ((putL s).length : Int) ≤ at_
      · simp (disch := first | assumption | omega | (simp only [go_sem]; done) | (simp only [go_sem]; omega) | fail) only [go_sem, ho1, Fawake, hfew, e1, f1, g1', e3, b1, b2]
      · have c3 : CAt (H2 ++ Z3 ++ [⟨0, 26, #[.slice none 0 0, .slice none 0 0, i64v 0, .slice none 0 0, i64v 0], 5, false, []⟩]) q (u8s ((putL s).take at_.toNat)) := by
          have := ((c1''.push Z3).push [⟨0, 26, #[.slice none 0 0, .slice none 0 0, i64v 0, .slice none 0 0, i64v 0], 5, false, []⟩]).take at_.toNat
          rwa [show (u8s (putL s)).take at_.toNat = u8s ((putL s).take at_.toNat) by simp [u8s, List.map_take]] at this
        have hl3 : ((putL s).take at_.toNat).length = at_.toNat := by rw [List.length_take]; omega
        obtain ⟨Z4, e4⟩ := Get_none (p := H.length) c3 (by simp; omega) (by omega) (getL_part hok (n := at_.toNat) (by omega))
        rw [hl3] at e4
        simp (disch := first | assumption | omega | (simp only [go_sem]; done) | (simp only [go_sem]; omega) | fail) only [go_sem, ho1, Fawake, hfew, e1, f1, g1', e3, b1, b2, e4]
end Go.AM.Z


/-! The law StateBack. -/
namespace Go.AM.Z
open Go Go.AM Go.Proofs
set_option maxRecDepth 100000
theorem StateAt.any {O : Nat → Prop} {H : Heap} {s : StateL} {v : Value} (h : StateAt O H s v) (hO : ∀ B, O B → B < H.length) (Z : Heap) : StateAt (fun B => B < (H ++ Z).length) (H ++ Z) s v :=
  h.move fun B hB => ⟨by have := hO B hB; simp; omega, List.getElem?_append_left (hO B hB)⟩
theorem Fback {O : Nat → Prop} {H : Heap} {s t : StateL} {v w : Value} {qb : Q} {b : List UInt8} (hs : StateAt O H s v) (ht : StateAt O H t w) (hO : ∀ B, O B → B < H.length) (hb : CAt H qb (u8s b)) (hok : StateOk s) (p : Nat) : F 5 #[v, w, slv qb b.length 1] p H = some (.returned (.bool true), H) := by
  obtain ⟨a1, a2, a3, ev, o1, o2, o3⟩ := hs.cells
  obtain ⟨b1, b2, b3, ew, r1, r2, r3⟩ := ht.cells
  have ho1 : [a1, a2, i64v s.seq, a3, i64v s.now].all oneC = true := by simp [o1, o2, o3, oneC_int]
  have ho2 : [b1, b2, i64v t.seq, b3, i64v t.now].all oneC = true := by simp [r1, r2, r3, oneC_int]
  have hokb : okq qb b.length := hb.okq (s := 1) (by simp) (by omega)
  subst ev
  subst ew
  rw [F, F_quiet (f := 5) (X := X) (cl := cl) rfl rfl rfl Tryz.func5 rfl, Tryz.results5]
  generalize hG0 : H ++ [(⟨0, 26, #[a1, a2, i64v s.seq, a3, i64v s.now], 0, false, []⟩ : Blk)] ++ [⟨0, 26, #[b1, b2, i64v t.seq, b3, i64v t.now], 0, false, []⟩] = G0
  have hG0l : G0.length = H.length + 2 := by rw [← hG0]; simp
  have hN1 : G0[H.length]? = some ⟨0, 26, #[a1, a2, i64v s.seq, a3, i64v s.now], 0, false, []⟩ := by rw [← hG0, at_front (by simp)]; exact at_end rfl
  have hN2 : G0[H.length + 1]? = some ⟨0, 26, #[b1, b2, i64v t.seq, b3, i64v t.now], 0, false, []⟩ := by rw [← hG0]; exact at_end (by simp)
  have sa : StateAt (fun B => B < G0.length) G0 s (.agg #[a1, a2, i64v s.seq, a3, i64v s.now]) := by rw [← hG0, List.append_assoc]; exact hs.any hO _
  have ta : StateAt (fun B => B < G0.length) G0 t (.agg #[b1, b2, i64v t.seq, b3, i64v t.now]) := by rw [← hG0, List.append_assoc]; exact ht.any hO _
  have ba : CAt G0 qb (u8s b) := by rw [← hG0, List.append_assoc]; exact hb.push _
  have fs := fun p => Ffew sa (fun B hB => hB) p
  have ft := fun p => Ffew ta (fun B hB => hB) p
  cases f1 : fewL s with
  | false =>
    rw [f1] at fs
    cases f2 : fewL t <;> rw [f2] at ft <;> simp (disch := first | assumption | omega | (simp only [go_sem]; done) | (simp only [go_sem]; omega) | fail) only [go_sem, ho1, ho2, hG0, hN1, hN2, Fawake, fs, ft]
  | true =>
    rw [f1] at fs
    cases f2 : fewL t with
    | false =>
      rw [f2] at ft
      simp (disch := first | assumption | omega | (simp only [go_sem]; done) | (simp only [go_sem]; omega) | fail) only [go_sem, ho1, ho2, hG0, hN1, hN2, Fawake, fs, ft]
    | true =>
      rw [f2] at ft
      obtain ⟨hz1, hl1⟩ := few_sz f1
      obtain ⟨hz2, hl2⟩ := few_sz f2
      by_cases hlb : (3000 : Int) < b.length
      · simp (disch := first | assumption | omega | (simp only [go_sem]; done) | (simp only [go_sem]; omega) | fail) only [go_sem, ho1, ho2, hG0, hN1, hN2, Fawake, fs, ft, hlb]
      · obtain ⟨q1, Z1, hq1, e1, c1⟩ := Put_some sa (fun B hB => hB) (by omega) H.length
        obtain ⟨x, Z2, e2, xa⟩ := Get_some (p := H.length) c1 (by simp; omega) (by omega) (getL_put hok)
        obtain ⟨x1, x2, x3, rfl, y1, y2, y3⟩ := xa.cells
        have hox : [x1, x2, i64v s.seq, x3, i64v s.now].all oneC = true := by simp [y1, y2, y3, oneC_int]
        generalize hG1 : G0 ++ Z1 ++ Z2 ++ [(⟨0, 26, #[x1, x2, i64v s.seq, x3, i64v s.now], 5, false, []⟩ : Blk)] = G1
        have hG1l : G0.length ≤ G1.length ∧ ∀ B, B < G0.length → G1[B]? = G0[B]? := by
          rw [← hG1]
          exact ⟨by simp, fun B hB => by rw [List.append_assoc, List.append_assoc]; exact List.getElem?_append_left hB⟩
        have xa1 : StateAt (fun B => B < G1.length) G1 s (.agg #[x1, x2, i64v s.seq, x3, i64v s.now]) := by
          rw [← hG1]; exact xa.any (fun B hB => hB.2) _
        have sa1 : StateAt (fun B => B < G1.length) G1 s (.agg #[a1, a2, i64v s.seq, a3, i64v s.now]) := sa.move fun B hB => ⟨by omega, hG1l.2 B hB⟩
        have ta1 : StateAt (fun B => B < G1.length) G1 t (.agg #[b1, b2, i64v t.seq, b3, i64v t.now]) := ta.move fun B hB => ⟨by omega, hG1l.2 B hB⟩
        have ba1 : CAt G1 qb (u8s b) := ba.keep fun B hB => hG1l.2 B (CAt.lt ba B hB)
        have hM1 : G1[H.length]? = _ := (hG1l.2 _ (by omega)).trans hN1
        have hM2 : G1[H.length + 1]? = _ := (hG1l.2 _ (by omega)).trans hN2
        have hM3 : G1[G0.length + Z1.length + Z2.length]? = some ⟨0, 26, #[x1, x2, i64v s.seq, x3, i64v s.now], 5, false, []⟩ := by rw [← hG1]; exact at_end (by simp [Nat.add_assoc])
        have same1 := Fstsame xa1 sa1 (fun B hB => hB) (by omega) (by omega) H.length
        rw [decide_eq_true rfl] at same1
        have may1 := Fstmay xa1 (fun B hB => hB) hz1 H.length
        have may2 := Fstmay sa1 (fun B hB => hB) hz1 H.length
        have same2 := Fstsame sa1 ta1 (fun B hB => hB) (by omega) (by omega) H.length
        obtain ⟨q3, Z3, hq3, e3, c3⟩ := Put_some sa1 (fun B hB => hB) (by omega) H.length
        obtain ⟨q4, Z4, hq4, e4, c4⟩ := Put_some (O := fun B => B < G1.length) (ta1.push (fun B hB => hB) Z3) (fun B hB => by simp; omega) (by omega) H.length
        have cv3 := fun p => cv33_9 (p := p) (G1 ++ Z3) q3 (putL s) (putL s).length rfl c3
        have cv4 := fun p => cv33_9 (p := p) (G1 ++ Z3 ++ Z4) q4 (putL t) (putL t).length rfl c4
        have ba2 : CAt (G1 ++ Z3 ++ Z4) qb (u8s b) := (ba1.push Z3).push Z4
        have hL1 : ∀ Z : Heap, (G1 ++ Z)[H.length]? = _ := fun Z => (List.getElem?_append_left (by omega)).trans hM1
        have hL2 : ∀ Z : Heap, (G1 ++ Z)[H.length + 1]? = _ := fun Z => (List.getElem?_append_left (by omega)).trans hM2
        have bn : ∀ (c a b : Bool), binV Tryz.prog c .neq 4 (.bool a) (.bool b) = some (.bool (!(a == b))) := fun c a b => bool_neq a b Tryz.underlying4
        simp (disch := first | assumption | omega | (simp only [go_sem]; done) | (simp only [go_sem]; omega) | fail) only [go_sem, bn, beq_self_eq_true, ho1, ho2, hG0, hN1, hN2, Fawake, fs, ft, hlb, e1, e2, hox, hG1, hM1, hM2, hM3, same1, may1, may2, same2, e3, cv3, e4, cv4, hL1, hL2]
        have hGl : H.length < G1.length := by omega
        cases hg : getL b with
        | none =>
          obtain ⟨Z5, e5⟩ := Get_none (p := H.length) ba2 (by simp; omega) (by omega) hg
          have n1 : ∀ G, lenW Tryz.prog 22 G (.slice none 0 0) = some (.int .i64 0) := fun G => len_slv (q := none) (s := 0) Tryz.underlying22 (fun _ => rfl)
          have n2 : ∀ G, lenW Tryz.prog 24 G (.slice none 0 0) = some (.int .i64 0) := fun G => len_slv (q := none) (s := 0) Tryz.underlying24 (fun _ => rfl)
          simp (disch := first | assumption | omega | (simp only [go_sem]; done) | (simp only [go_sem]; omega) | fail) only [go_sem, e5, hL1, hL2, n1, n2]
        | some y =>
          obtain ⟨yv, Z5, e5, ya⟩ := Get_some (p := H.length) ba2 (by simp; omega) (by omega) hg
          obtain ⟨x4, x5, x6, rfl, y4, y5, y6⟩ := ya.cells
          have hoy : [x4, x5, i64v y.seq, x6, i64v y.now].all oneC = true := by simp [y4, y5, y6, oneC_int]
          have hpg := put_getL hg
          generalize hG2 : G1 ++ Z3 ++ Z4 ++ Z5 ++ [(⟨0, 26, #[x4, x5, i64v y.seq, x6, i64v y.now], 5, false, []⟩ : Blk)] = G2
          have hM4 : G2[G1.length + Z3.length + Z4.length + Z5.length]? = some ⟨0, 26, #[x4, x5, i64v y.seq, x6, i64v y.now], 5, false, []⟩ := by rw [← hG2]; exact at_end (by simp [Nat.add_assoc])
          have yb : StateAt (fun B => B < G2.length) G2 y (.agg #[x4, x5, i64v y.seq, x6, i64v y.now]) := by
            rw [← hG2]; exact ya.any (fun B hB => hB.2) _
          obtain ⟨q5, Z6, hq5, e6, c5⟩ := Put_some yb (fun B hB => hB) (by rw [hpg]; omega) H.length
          rw [hpg] at e6 c5
          have cv5 := fun p => cv33_9 (p := p) (G2 ++ Z6) q5 b b.length rfl c5
          have bb : CAt (G2 ++ Z6) qb (u8s b) := by rw [← hG2, List.append_assoc, List.append_assoc]; exact ba2.push _
          have cv6 := fun p => cv33_9 (p := p) (G2 ++ Z6) qb b b.length rfl bb
          simp (disch := first | assumption | omega | (simp only [go_sem]; done) | (simp only [go_sem]; omega) | fail) only [go_sem, e5, hL1, hL2, hoy, hG2, hM4, e6, cv5, cv6]
end Go.AM.Z

