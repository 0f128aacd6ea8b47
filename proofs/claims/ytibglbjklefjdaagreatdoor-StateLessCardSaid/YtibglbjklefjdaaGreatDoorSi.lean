/-
  The law StateLess answers true on the abstract machine. No condition but that the arguments are what their types let in.
-/
import Derived.Test.YtibglbjklefjdaaGreatDoorSh
set_option linter.all false
set_option linter.unusedSimpArgs false
set_option linter.unusedVariables false
set_option linter.unusedSectionVars false
/-! The law StateLess: the plain part. -/
namespace Go.AM.Z
open Go Go.AM Go.Proofs
set_option maxRecDepth 100000
theorem outGo_app (subs : List SubL) : ∀ (l r : List OutL) (ks : List (Int × Int)), outGo subs (l ++ r) ks = (outGo subs l ks && outGo subs r (ks ++ l.map fun f => (f.sub, f.no)))
  | [], r, ks => by simp [outGo]
  | f :: l, r, ks => by
    rw [List.cons_append, outGo, outGo, outGo_app subs l r, List.map_cons, List.append_assoc, List.singleton_append]
    simp only [Bool.and_assoc]
theorem itemsGo_app (seq : Int) : ∀ (l r : List ItemL) (ks : List (Int × List UInt8)) (last : Int), itemsGo seq (l ++ r) ks last = (itemsGo seq l ks last && itemsGo seq r (ks ++ l.map ItemL.key) ((l.getLast?.map (·.seq)).getD last))
  | [], r, ks, last => by simp [itemsGo]
  | x :: l, r, ks, last => by
    have e : ((l.getLast?.map (·.seq)).getD x.seq) = (((x :: l).getLast?.map (·.seq)).getD last) := by
      cases l with
      | nil => rfl
      | cons y l =>
        rw [List.getLast?_cons_cons, List.getLast?_eq_some_getLast (List.cons_ne_nil y l)]
        rfl
    rw [List.cons_append, itemsGo, itemsGo, itemsGo_app seq l r, List.map_cons, List.append_assoc, List.singleton_append, e]
    simp only [Bool.and_assoc]
theorem less_out {s : StateL} (h : stateMay s = true) (n : Nat) : stateMay { s with out := s.out.take n } = true := by
  unfold stateMay at h ⊢
  simp only [Bool.and_eq_true] at h ⊢
  refine ⟨h.1, ?_⟩
  have := h.2
  rw [← List.take_append_drop n s.out, outGo_app, Bool.and_eq_true] at this
  exact this.1
theorem more_out {s : StateL} {f : OutL} (h : s.out[0]? = some f) : stateMay { s with out := s.out ++ [f] } = false := by
  have e : outGo s.subs (s.out ++ [f]) [] = false := by
    rw [outGo_app]
    have hm : (f.sub, f.no) ∈ [] ++ s.out.map fun f => (f.sub, f.no) := by
      rw [List.nil_append, List.mem_map]
      exact ⟨f, List.mem_of_getElem? h, rfl⟩
    have : decide ((f.sub, f.no) ∉ [] ++ s.out.map fun f => (f.sub, f.no)) = false := decide_eq_false (fun hh => hh hm)
    rw [outGo, this]
    simp
  unfold stateMay
  simp only [e, Bool.and_false]
theorem less_items {s : StateL} (h : stateMay s = true) (n : Nat) : stateMay { s with items := s.items.take n } = true := by
  unfold stateMay at h ⊢
  simp only [Bool.and_eq_true] at h ⊢
  obtain ⟨⟨⟨h0, h1⟩, h3⟩, h4⟩ := h
  refine ⟨⟨⟨h0, ?_⟩, h3⟩, h4⟩
  unfold itemsMay at h1 ⊢
  rw [← List.take_append_drop n s.items, itemsGo_app, Bool.and_eq_true] at h1
  exact h1.1
theorem more_items {s : StateL} {f : ItemL} (h : s.items[0]? = some f) : stateMay { s with items := s.items ++ [f] } = false := by
  have e : itemsMay (s.items ++ [f]) s.seq = false := by
    unfold itemsMay
    rw [itemsGo_app]
    have hm : f.key ∈ [] ++ s.items.map ItemL.key := by
      rw [List.nil_append, List.mem_map]
      exact ⟨f, List.mem_of_getElem? h, rfl⟩
    have : decide (f.key ∉ [] ++ s.items.map ItemL.key) = false := decide_eq_false (fun hh => hh hm)
    rw [itemsGo, this]
    simp
  unfold stateMay
  simp only [e, Bool.and_false, Bool.false_and]
theorem LC.app {α : Type} {E : α → List Value → Prop} : ∀ {xs ys : List α} {c d : List Value}, LC E xs c → LC E ys d → LC E (xs ++ ys) (c ++ d)
  | [], _, _, _, h, k => by
    rw [LC] at h; subst h; exact k
  | _ :: _, _, _, _, ⟨c', rest, e, k1, k2⟩, k => ⟨c', rest ++ _, by rw [e, List.append_assoc], k1, LC.app k2 k⟩
theorem LC.take {α : Type} {E : α → List Value → Prop} {s : Nat} (hE : ∀ x c, E x c → c.length = s) : ∀ {xs : List α} {cs : List Value} (n : Nat), LC E xs cs → LC E (xs.take n) (cs.take (n * s))
  | [], _, n, h => by rw [LC] at h; subst h; simp [LC]
  | x :: xs, cs, 0, _ => by simp [LC]
  | x :: xs, cs, n + 1, ⟨c, rest, e, k1, k2⟩ => by
    have hl := hE _ _ k1
    rw [List.take_succ_cons, e]
    have : (c ++ rest).take ((n + 1) * s) = c ++ rest.take (n * s) := by
      rw [List.take_append, List.take_of_length_le (by rw [hl, Nat.succ_mul]; omega), hl, show (n + 1) * s - s = n * s by rw [Nat.succ_mul]; omega]
    rw [this]
    exact ⟨c, _, rfl, k1, LC.take hE n k2⟩
end Go.AM.Z


/-! The law StateLess. -/
namespace Go.AM.Z
open Go Go.AM Go.Proofs
set_option maxRecDepth 100000
attribute [go_sem] List.length_set
set_option maxHeartbeats 2000000 in
theorem Fless {O : Nat → Prop} {H : Heap} {s : StateL} {v : Value} (hs : StateAt O H s v) (hO : ∀ B, O B → B < H.length) (hok : StateOk s) (p : Nat) : F 7 #[v] p H = some (.returned (.bool true), H) := by
  have hs0 := hs
  obtain ⟨v1, v2, v3, rfl, ⟨q1, c1, rfl, hc1, hl1, hq1, hL1⟩, ⟨q2, c2, rfl, hc2, hl2, hq2, hL2⟩, ⟨q3, c3, rfl, hc3, hl3, hq3, hL3⟩⟩ := hs
  have hok1 : okq q1 s.subs.length := hc1.okq hl1 (by omega)
  have hok2 : okq q2 s.items.length := hc2.okq hl2 (by omega)
  have hok3 : okq q3 s.out.length := hc3.okq hl3 (by omega)
  rw [F, F_quiet (f := 7) (X := X) (cl := cl) rfl rfl rfl Tryz.func7 rfl, Tryz.results7]
  have ho1 : [slv q1 s.subs.length 9, slv q2 s.items.length 7, i64v s.seq, slv q3 s.out.length 9, i64v s.now].all oneC = true := by simp [oneC_slv, oneC_int]
  have ho2 : ∀ (q : Q) (n : Nat), [slv q1 s.subs.length 9, slv q n 7, i64v s.seq, slv q3 s.out.length 9, i64v s.now].all oneC = true := fun q n => by simp [oneC_slv, oneC_int]
  have ho3 : ∀ (q : Q) (n : Nat), [slv q1 s.subs.length 9, slv q2 s.items.length 7, i64v s.seq, slv q n 9, i64v s.now].all oneC = true := fun q n => by simp [oneC_slv, oneC_int]
  have hfew := fun p => Ffew (hs0.push hO [⟨0, 26, #[slv q1 s.subs.length 9, slv q2 s.items.length 7, i64v s.seq, slv q3 s.out.length 9, i64v s.now], 0, false, []⟩]) (fun B hB => by have := hO B hB; simp; omega) p
  cases hf : fewL s with
  | false =>
    rw [hf] at hfew
    simp (disch := first | assumption | omega | (simp only [go_sem]; done) | (simp only [go_sem]; omega) | fail) only [go_sem, ho1, Fawake, hfew]
  | true =>
    rw [hf] at hfew
    obtain ⟨hz, _⟩ := few_sz hf
    have hb20 : s.items.length ≤ 20 ∧ s.out.length ≤ 10 := by
      simp only [fewL, Bool.and_eq_true, decide_eq_true_eq] at hf
      exact ⟨hf.1.1.1.1.2, hf.1.1.1.2⟩
    have hmay := fun p => Fstmay (hs0.push hO [⟨0, 26, #[slv q1 s.subs.length 9, slv q2 s.items.length 7, i64v s.seq, slv q3 s.out.length 9, i64v s.now], 0, false, []⟩]) (fun B hB => by have := hO B hB; simp; omega) hz p
    cases hm : stateMay s with
    | false =>
      rw [hm] at hmay
      simp (disch := first | assumption | omega | (simp only [go_sem]; done) | (simp only [go_sem]; omega) | fail) only [go_sem, ho1, Fawake, hfew, hmay]
    | true =>
      rw [hm] at hmay
      generalize hL : Code.seq (Code.seq (Code.region 12 _ _) _) _ = L
      have key : ∀ (t : Nat → Value) (G : Heap), t 1 = .pointer (some ⟨H.length, 0, some 5⟩) → G[H.length]? = some ⟨0, 26, #[slv q1 s.subs.length 9, slv q2 s.items.length 7, i64v s.seq, slv q3 s.out.length 9, i64v s.now], 0, false, []⟩ → (∀ B, B < H.length → G[B]? = H[B]?) → H.length + 1 ≤ G.length →
          ∃ t' G', limR Tryz.prog cl X L H.length ⟨t, [], G⟩ = some (.ret, ⟨t', [], G'⟩) ∧ t' 2 = .bool true := by
        intro t G h1 hG hk hlen
        rw [← hL]
        by_cases hn : s.items.length = 0
        · have hn' : ¬ (0 : Int) < s.items.length := by omega
          simp (disch := first | assumption | omega | (simp only [go_sem]; done) | (simp only [go_sem]; omega) | fail) only [go_sem, h1, hG, hn']
          exact ⟨_, _, rfl, by simp only [go_sem]⟩
        · have : True := trivial
          obtain ⟨m, hm1⟩ : ∃ m, s.items.length = m + 1 := ⟨s.items.length - 1, by omega⟩
          have hn' : (0 : Int) < s.items.length := by omega
          obtain ⟨x0, hx0⟩ : ∃ x, s.items[0]? = some x := ⟨_, List.getElem?_eq_getElem (by omega)⟩
          have hq0 : q2 ≠ none := fun e => by have := hok2 e; omega
          have cG : ∀ G' : Heap, (∀ B, B < H.length → G'[B]? = H[B]?) → CAt G' q2 c2 := fun G' h => hc2.keep fun B hB => h B (hO B (hq2 B hB))
          have hto : (((s.items.length : Int)) - 1).toNat = m := by omega
          have hk0 : ∀ B, B < H.length → (G ++ [(⟨0, 26, #[slv q1 s.subs.length 9, slv q2 s.items.length 7, i64v s.seq, slv q3 s.out.length 9, i64v s.now], 5, false, []⟩ : Blk)])[B]? = H[B]? := fun B hB => by rw [List.getElem?_append_left (by omega)]; exact hk B hB
          obtain ⟨qa, Ha, a1, a2, a3, a4, a5, _⟩ := app_own (P := Tryz.prog) (p := H.length) (H := G ++ [(⟨0, 26, #[slv q1 s.subs.length 9, slv q2 s.items.length 7, i64v s.seq, slv q3 s.out.length 9, i64v s.now], 5, false, []⟩ : Blk)]) (T' := 23) (st := 23) (q := none) (cs := []) (xs := c2.take (m * 7)) (len := 0) (m := m) (s := 7) Tryz.underlying23 ei23 (by omega) ap23 (by simp; omega) rfl rfl (src_slv (s := 7) (len := m) ((cG _ hk0).take (m * 7)) (by rw [List.length_take, hl2, hm1]; omega) (by omega)) (by rw [List.length_take, hl2, hm1]; omega) (by omega)
          simp only [show slv none 0 7 = Value.slice none 0 0 from rfl, List.nil_append, Nat.zero_add] at a1 a2
          simp only [List.length_append, List.length_cons, List.length_nil, Nat.zero_add] at a3
          have no : ∀ C, ¬ inq none C := fun C h => by obtain ⟨_, _, h⟩ := h; cases h
          have k1 : ∀ C, C < G.length + 1 → Ha[C]? = (G ++ [(⟨0, 26, #[slv q1 s.subs.length 9, slv q2 s.items.length 7, i64v s.seq, slv q3 s.out.length 9, i64v s.now], 5, false, []⟩ : Blk)])[C]? := fun C hC => a4 C (by simp; omega) (no C)
          have hA7 : Ha[G.length]? = some (⟨0, 26, #[slv q1 s.subs.length 9, slv q2 s.items.length 7, i64v s.seq, slv q3 s.out.length 9, i64v s.now], 5, false, []⟩ : Blk) := (k1 _ (by omega)).trans (at_end rfl)
          have kH : ∀ B, B < H.length → (Ha.set G.length (⟨0, 26, #[slv q1 s.subs.length 9, slv qa m 7, i64v s.seq, slv q3 s.out.length 9, i64v s.now], 5, false, []⟩ : Blk) ++ [(⟨0, 26, #[slv q1 s.subs.length 9, slv q2 s.items.length 7, i64v s.seq, slv q3 s.out.length 9, i64v s.now], 5, false, []⟩ : Blk)])[B]? = H[B]? := fun B hB => by
            rw [List.getElem?_append_left (by rw [List.length_set]; omega), List.getElem?_set_ne (by omega), k1 B (by omega)]
            exact hk0 B hB
          obtain ⟨qd, Hd, d1, d2, d3, d4, d5, _⟩ := app_own (P := Tryz.prog) (p := H.length) (H := Ha.set G.length (⟨0, 26, #[slv q1 s.subs.length 9, slv qa m 7, i64v s.seq, slv q3 s.out.length 9, i64v s.now], 5, false, []⟩ : Blk) ++ [(⟨0, 26, #[slv q1 s.subs.length 9, slv q2 s.items.length 7, i64v s.seq, slv q3 s.out.length 9, i64v s.now], 5, false, []⟩ : Blk)]) (T' := 23) (st := 23) (q := none) (cs := []) (xs := c2) (len := 0) (m := s.items.length) (s := 7) Tryz.underlying23 ei23 (by omega) ap23 (by simp; omega) rfl rfl (src_slv (s := 7) (len := s.items.length) (cG _ kH) hl2 (by omega)) hl2 (by omega)
          simp only [show slv none 0 7 = Value.slice none 0 0 from rfl, List.nil_append, Nat.zero_add] at d1 d2
          simp only [List.length_append, List.length_cons, List.length_nil, Nat.zero_add, List.length_set] at d3
          have k2 : ∀ C, C < Ha.length + 1 → Hd[C]? = (Ha.set G.length (⟨0, 26, #[slv q1 s.subs.length 9, slv qa m 7, i64v s.seq, slv q3 s.out.length 9, i64v s.now], 5, false, []⟩ : Blk) ++ [(⟨0, 26, #[slv q1 s.subs.length 9, slv q2 s.items.length 7, i64v s.seq, slv q3 s.out.length 9, i64v s.now], 5, false, []⟩ : Blk)])[C]? := fun C hC => d4 C (by simp; omega) (no C)
          have kD : ∀ B, B < H.length → Hd[B]? = H[B]? := fun B hB => (k2 B (by omega)).trans (kH B hB)
          have hld := ld_ptqA (P := Tryz.prog) (T := 48) (o := 0) sz48 ag48 (cG _ kD) (by rw [hl2]; omega) hq0
          have hE0 : ItemE O H x0 ((c2.drop 0).take 7) := by have := LC.nth ItemE.len hL2 hx0; rwa [Nat.zero_mul] at this
          have hl0 : ((c2.drop 0).take 7).length = 7 := ItemE.len _ _ hE0
          have h1c := ItemE.one hE0
          simp only [List.drop_zero] at hld hE0 hl0 h1c
          obtain ⟨qe, He, e1, e2, e3, e4, e5⟩ := app_new (P := Tryz.prog) (p := H.length) (H := Hd) (T := 48) (T' := 23) (st := 23) (q := qd) (len := s.items.length) (s := 7) (xs := c2.take 7) Tryz.underlying23 ei23 (by omega) ap23 (by omega) d2 hl2 hl0 (by omega)
          have k3 : ∀ C, C < Ha.length + 1 → He[C]? = Hd[C]? := fun C hC => e4 C (by omega) (fun hc => by
            rcases d5 C hc with h | h
            · exact no C h
            · simp at h; omega)
          have k4 : ∀ C, C < Ha.length → C ≠ G.length → He[C]? = Ha[C]? := fun C hC hne => by
            rw [k3 C (by omega), k2 C (by omega), List.getElem?_append_left (by rw [List.length_set]; omega), List.getElem?_set_ne (Ne.symm hne)]
          have hE7 : He[G.length]? = some (⟨0, 26, #[slv q1 s.subs.length 9, slv qa m 7, i64v s.seq, slv q3 s.out.length 9, i64v s.now], 5, false, []⟩ : Blk) := by
            rw [k3 _ (by omega), k2 _ (by omega), List.getElem?_append_left (by rw [List.length_set]; omega), List.getElem?_set_self (by omega)]
          have hE8 : He[Ha.length]? = some (⟨0, 26, #[slv q1 s.subs.length 9, slv q2 s.items.length 7, i64v s.seq, slv q3 s.out.length 9, i64v s.now], 5, false, []⟩ : Blk) := by
            rw [k3 _ (by omega), k2 _ (by omega)]; exact at_end (by rw [List.length_set])
          have hA1 : ∀ x : Blk, (Ha.set G.length x)[H.length]? = some (⟨0, 26, #[slv q1 s.subs.length 9, slv q2 s.items.length 7, i64v s.seq, slv q3 s.out.length 9, i64v s.now], 0, false, []⟩ : Blk) := fun x => by
            rw [List.getElem?_set_ne (by omega), k1 _ (by omega), List.getElem?_append_left (by omega)]; exact hG
          have hD1 : Hd[H.length]? = some (⟨0, 26, #[slv q1 s.subs.length 9, slv q2 s.items.length 7, i64v s.seq, slv q3 s.out.length 9, i64v s.now], 0, false, []⟩ : Blk) := by
            rw [k2 _ (by omega), List.getElem?_append_left (by rw [List.length_set]; omega)]; exact hA1 _
          have hC1 : (Ha.set G.length (⟨0, 26, #[slv q1 s.subs.length 9, slv qa m 7, i64v s.seq, slv q3 s.out.length 9, i64v s.now], 5, false, []⟩ : Blk) ++ [(⟨0, 26, #[slv q1 s.subs.length 9, slv q2 s.items.length 7, i64v s.seq, slv q3 s.out.length 9, i64v s.now], 5, false, []⟩ : Blk)])[H.length]? = some (⟨0, 26, #[slv q1 s.subs.length 9, slv q2 s.items.length 7, i64v s.seq, slv q3 s.out.length 9, i64v s.now], 0, false, []⟩ : Blk) := by
            rw [List.getElem?_append_left (by rw [List.length_set]; omega)]; exact hA1 _
          have hF7 : ∀ x : Blk, (He.set Ha.length x)[G.length]? = some (⟨0, 26, #[slv q1 s.subs.length 9, slv qa m 7, i64v s.seq, slv q3 s.out.length 9, i64v s.now], 5, false, []⟩ : Blk) := fun x => by rw [List.getElem?_set_ne (by omega)]; exact hE7
          have hF8 : ∀ x : Blk, (He.set Ha.length x)[Ha.length]? = some x := fun x => List.getElem?_set_self (by omega)
          have mv : ∀ (x : Blk) (B : Nat), O B → B < (He.set Ha.length x).length ∧ (He.set Ha.length x)[B]? = H[B]? := fun x B hB => by
            have := hO B hB
            refine ⟨by rw [List.length_set]; omega, ?_⟩
            rw [List.getElem?_set_ne (by omega), k4 B (by omega) (by omega), k1 B (by omega)]
            exact hk0 B this
          have st0 : ∀ x : Blk, StateAt (fun B => B < (He.set Ha.length x).length) (He.set Ha.length x) s _ := fun x => hs0.move (mv x)
          have qaB : ∀ B, inq qa B → G.length + 1 ≤ B ∧ B < Ha.length := fun B hB => ⟨by
            rcases a5 B hB with h | h
            · exact absurd h (no B)
            · simpa using h, CAt.lt a2.cat B hB⟩
          have qeB : ∀ B, inq qe B → Ha.length + 1 ≤ B ∧ B < He.length := fun B hB => ⟨by
            rcases e5 B hB with h | h
            · rcases d5 B h with h | h
              · exact absurd h (no B)
              · simpa using h
            · omega, CAt.lt e2.cat B hB⟩
          have l1 : ∀ x : Blk, ListAt ItemE 7 (fun B => B < (He.set Ha.length x).length) (He.set Ha.length x) (s.items.take m) (slv qa m 7) := fun x =>
            ⟨qa, c2.take (m * 7), by rw [List.length_take, hm1, Nat.min_eq_left (by omega)], a2.cat.keep fun B hB => by
                have := qaB B hB
                rw [List.getElem?_set_ne (by omega), k4 B (by omega) (by omega)], by rw [List.length_take, List.length_take, hl2, hm1]; omega, fun B hB => by have := qaB B hB; rw [List.length_set]; omega, (LC.take ItemE.len m hL2).mono fun y c k => k.move (mv x)⟩
          have l2 : ∀ x : Blk, ListAt ItemE 7 (fun B => B < (He.set Ha.length x).length) (He.set Ha.length x) (s.items ++ [x0]) (slv qe (s.items.length + 1) 7) := fun x =>
            ⟨qe, c2 ++ c2.take 7, by rw [List.length_append]; rfl, e2.cat.keep fun B hB => by
                have := qeB B hB
                rw [List.getElem?_set_ne (by omega)], by rw [List.length_append, hl0, hl2, List.length_append, Nat.add_mul]; rfl, fun B hB => by have := qeB B hB; rw [List.length_set]; omega, (LC.snoc hE0 hL2).mono fun y c k => k.move (mv x)⟩
          have may1 := fun (x : Blk) (p : Nat) => Fstmay (O := fun B => B < (He.set Ha.length x).length) (H := He.set Ha.length x) (s := { s with items := s.items.take m }) (v := .agg #[slv q1 s.subs.length 9, slv qa m 7, i64v s.seq, slv q3 s.out.length 9, i64v s.now]) (by
            obtain ⟨_, _, _, e, j1, j2, j3⟩ := st0 x
            simp only [Value.agg.injEq, Array.mk.injEq, List.cons.injEq] at e
            obtain ⟨rfl, rfl, _, rfl, _⟩ := e
            exact ⟨_, _, _, rfl, j1, l1 x, j3⟩) (fun B hB => hB) ⟨hz.a, fun y hy => hz.b y (List.mem_of_mem_take hy), hz.c, hz.na, by rw [List.length_take]; have := hz.nb; omega, hz.nc⟩ p
          have may2 := fun (x : Blk) (p : Nat) => Fstmay (O := fun B => B < (He.set Ha.length x).length) (H := He.set Ha.length x) (s := { s with items := s.items ++ [x0] }) (v := .agg #[slv q1 s.subs.length 9, slv qe (s.items.length + 1) 7, i64v s.seq, slv q3 s.out.length 9, i64v s.now]) (by
            obtain ⟨_, _, _, e, j1, j2, j3⟩ := st0 x
            simp only [Value.agg.injEq, Array.mk.injEq, List.cons.injEq] at e
            obtain ⟨rfl, rfl, _, rfl, _⟩ := e
            exact ⟨_, _, _, rfl, j1, l2 x, j3⟩) (fun B hB => hB) ⟨hz.a, fun y hy => by rcases List.mem_append.1 hy with h | h; exact hz.b y h; rw [List.mem_singleton.1 h]; exact hz.b _ (List.mem_of_getElem? hx0), hz.c, hz.na, by rw [List.length_append, List.length_singleton]; omega, hz.nc⟩ p
          simp only [less_items hm m, more_items hx0] at may1 may2
          have hsi := si23 q2 s.items.length 0 hok2 ⟨by omega, hn'⟩
          simp only [Int.toNat_zero, Nat.zero_mul] at hsi
          simp (disch := first | assumption | omega | (simp only [go_sem]; done) | (simp only [go_sem]; omega) | fail) only [go_sem, h1, hG, ho1, ho2, ho3, h1c, hl0, hn', hto, a1, hA7, hA1, hC1, hD1, d1, hsi, hld, e1, hE8, hF7, hF8, may1, may2]
          exact ⟨_, _, rfl, by simp only [go_sem]⟩
      by_cases hn : s.out.length = 0
      · have hn' : ¬ (0 : Int) < s.out.length := by omega
        simp (disch := first | assumption | omega | (simp only [go_sem]; done) | (simp only [go_sem]; omega) | fail) only [go_sem, ho1, Fawake, hfew, hmay, hn']
        generalize hT : upd _ 27 _ = T
        obtain ⟨t', G', g1, g2⟩ := key T _ (by rw [← hT]; simp only [go_sem]) (at_end rfl) (fun B hB => List.getElem?_append_left hB) (by simp)
        rw [g1]
        simp (disch := first | assumption | omega | (simp only [go_sem]; done) | (simp only [go_sem]; omega) | fail) only [go_sem, g2]
      · have hG : (H ++ [(⟨0, 26, #[slv q1 s.subs.length 9, slv q2 s.items.length 7, i64v s.seq, slv q3 s.out.length 9, i64v s.now], 0, false, []⟩ : Blk)])[H.length]? = some ⟨0, 26, #[slv q1 s.subs.length 9, slv q2 s.items.length 7, i64v s.seq, slv q3 s.out.length 9, i64v s.now], 0, false, []⟩ := at_end rfl
        have hk : ∀ B, B < H.length → (H ++ [(⟨0, 26, #[slv q1 s.subs.length 9, slv q2 s.items.length 7, i64v s.seq, slv q3 s.out.length 9, i64v s.now], 0, false, []⟩ : Blk)])[B]? = H[B]? := fun B hB => List.getElem?_append_left hB
        have hlen : H.length + 1 ≤ (H ++ [(⟨0, 26, #[slv q1 s.subs.length 9, slv q2 s.items.length 7, i64v s.seq, slv q3 s.out.length 9, i64v s.now], 0, false, []⟩ : Blk)]).length := by simp
        have hmay1 := hmay
        generalize hGG : H ++ [(⟨0, 26, #[slv q1 s.subs.length 9, slv q2 s.items.length 7, i64v s.seq, slv q3 s.out.length 9, i64v s.now], 0, false, []⟩ : Blk)] = G at *
        obtain ⟨m, hm1⟩ : ∃ m, s.out.length = m + 1 := ⟨s.out.length - 1, by omega⟩
        have hn' : (0 : Int) < s.out.length := by omega
        obtain ⟨x0, hx0⟩ : ∃ x, s.out[0]? = some x := ⟨_, List.getElem?_eq_getElem (by omega)⟩
        have hq0 : q3 ≠ none := fun e => by have := hok3 e; omega
        have cG : ∀ G' : Heap, (∀ B, B < H.length → G'[B]? = H[B]?) → CAt G' q3 c3 := fun G' h => hc3.keep fun B hB => h B (hO B (hq3 B hB))
        have hto : (((s.out.length : Int)) - 1).toNat = m := by omega
        have hk0 : ∀ B, B < H.length → (G ++ [(⟨0, 26, #[slv q1 s.subs.length 9, slv q2 s.items.length 7, i64v s.seq, slv q3 s.out.length 9, i64v s.now], 5, false, []⟩ : Blk)])[B]? = H[B]? := fun B hB => by rw [List.getElem?_append_left (by omega)]; exact hk B hB
        obtain ⟨qa, Ha, a1, a2, a3, a4, a5, _⟩ := app_own (P := Tryz.prog) (p := H.length) (H := G ++ [(⟨0, 26, #[slv q1 s.subs.length 9, slv q2 s.items.length 7, i64v s.seq, slv q3 s.out.length 9, i64v s.now], 5, false, []⟩ : Blk)]) (T' := 24) (st := 24) (q := none) (cs := []) (xs := c3.take (m * 9)) (len := 0) (m := m) (s := 9) Tryz.underlying24 ei24 (by omega) ap24 (by simp; omega) rfl rfl (src_slv (s := 9) (len := m) ((cG _ hk0).take (m * 9)) (by rw [List.length_take, hl3, hm1]; omega) (by omega)) (by rw [List.length_take, hl3, hm1]; omega) (by omega)
        simp only [show slv none 0 9 = Value.slice none 0 0 from rfl, List.nil_append, Nat.zero_add] at a1 a2
        simp only [List.length_append, List.length_cons, List.length_nil, Nat.zero_add] at a3
        have no : ∀ C, ¬ inq none C := fun C h => by obtain ⟨_, _, h⟩ := h; cases h
        have k1 : ∀ C, C < G.length + 1 → Ha[C]? = (G ++ [(⟨0, 26, #[slv q1 s.subs.length 9, slv q2 s.items.length 7, i64v s.seq, slv q3 s.out.length 9, i64v s.now], 5, false, []⟩ : Blk)])[C]? := fun C hC => a4 C (by simp; omega) (no C)
        have hA7 : Ha[G.length]? = some (⟨0, 26, #[slv q1 s.subs.length 9, slv q2 s.items.length 7, i64v s.seq, slv q3 s.out.length 9, i64v s.now], 5, false, []⟩ : Blk) := (k1 _ (by omega)).trans (at_end rfl)
        have kH : ∀ B, B < H.length → (Ha.set G.length (⟨0, 26, #[slv q1 s.subs.length 9, slv q2 s.items.length 7, i64v s.seq, slv qa m 9, i64v s.now], 5, false, []⟩ : Blk) ++ [(⟨0, 26, #[slv q1 s.subs.length 9, slv q2 s.items.length 7, i64v s.seq, slv q3 s.out.length 9, i64v s.now], 5, false, []⟩ : Blk)])[B]? = H[B]? := fun B hB => by
          rw [List.getElem?_append_left (by rw [List.length_set]; omega), List.getElem?_set_ne (by omega), k1 B (by omega)]
          exact hk0 B hB
        obtain ⟨qd, Hd, d1, d2, d3, d4, d5, _⟩ := app_own (P := Tryz.prog) (p := H.length) (H := Ha.set G.length (⟨0, 26, #[slv q1 s.subs.length 9, slv q2 s.items.length 7, i64v s.seq, slv qa m 9, i64v s.now], 5, false, []⟩ : Blk) ++ [(⟨0, 26, #[slv q1 s.subs.length 9, slv q2 s.items.length 7, i64v s.seq, slv q3 s.out.length 9, i64v s.now], 5, false, []⟩ : Blk)]) (T' := 24) (st := 24) (q := none) (cs := []) (xs := c3) (len := 0) (m := s.out.length) (s := 9) Tryz.underlying24 ei24 (by omega) ap24 (by simp; omega) rfl rfl (src_slv (s := 9) (len := s.out.length) (cG _ kH) hl3 (by omega)) hl3 (by omega)
        simp only [show slv none 0 9 = Value.slice none 0 0 from rfl, List.nil_append, Nat.zero_add] at d1 d2
        simp only [List.length_append, List.length_cons, List.length_nil, Nat.zero_add, List.length_set] at d3
        have k2 : ∀ C, C < Ha.length + 1 → Hd[C]? = (Ha.set G.length (⟨0, 26, #[slv q1 s.subs.length 9, slv q2 s.items.length 7, i64v s.seq, slv qa m 9, i64v s.now], 5, false, []⟩ : Blk) ++ [(⟨0, 26, #[slv q1 s.subs.length 9, slv q2 s.items.length 7, i64v s.seq, slv q3 s.out.length 9, i64v s.now], 5, false, []⟩ : Blk)])[C]? := fun C hC => d4 C (by simp; omega) (no C)
        have kD : ∀ B, B < H.length → Hd[B]? = H[B]? := fun B hB => (k2 B (by omega)).trans (kH B hB)
        have hld := ld_ptqA (P := Tryz.prog) (T := 44) (o := 0) sz44 ag44 (cG _ kD) (by rw [hl3]; omega) hq0
        have hE0 : OutE O H x0 ((c3.drop 0).take 9) := by have := LC.nth OutE.len hL3 hx0; rwa [Nat.zero_mul] at this
        have hl0 : ((c3.drop 0).take 9).length = 9 := OutE.len _ _ hE0
        have h1c := OutE.one hE0
        simp only [List.drop_zero] at hld hE0 hl0 h1c
        obtain ⟨qe, He, e1, e2, e3, e4, e5⟩ := app_new (P := Tryz.prog) (p := H.length) (H := Hd) (T := 44) (T' := 24) (st := 24) (q := qd) (len := s.out.length) (s := 9) (xs := c3.take 9) Tryz.underlying24 ei24 (by omega) ap24 (by omega) d2 hl3 hl0 (by omega)
        have k3 : ∀ C, C < Ha.length + 1 → He[C]? = Hd[C]? := fun C hC => e4 C (by omega) (fun hc => by
          rcases d5 C hc with h | h
          · exact no C h
          · simp at h; omega)
        have k4 : ∀ C, C < Ha.length → C ≠ G.length → He[C]? = Ha[C]? := fun C hC hne => by
          rw [k3 C (by omega), k2 C (by omega), List.getElem?_append_left (by rw [List.length_set]; omega), List.getElem?_set_ne (Ne.symm hne)]
        have hE7 : He[G.length]? = some (⟨0, 26, #[slv q1 s.subs.length 9, slv q2 s.items.length 7, i64v s.seq, slv qa m 9, i64v s.now], 5, false, []⟩ : Blk) := by
          rw [k3 _ (by omega), k2 _ (by omega), List.getElem?_append_left (by rw [List.length_set]; omega), List.getElem?_set_self (by omega)]
        have hE8 : He[Ha.length]? = some (⟨0, 26, #[slv q1 s.subs.length 9, slv q2 s.items.length 7, i64v s.seq, slv q3 s.out.length 9, i64v s.now], 5, false, []⟩ : Blk) := by
          rw [k3 _ (by omega), k2 _ (by omega)]; exact at_end (by rw [List.length_set])
        have hA1 : ∀ x : Blk, (Ha.set G.length x)[H.length]? = some (⟨0, 26, #[slv q1 s.subs.length 9, slv q2 s.items.length 7, i64v s.seq, slv q3 s.out.length 9, i64v s.now], 0, false, []⟩ : Blk) := fun x => by
          rw [List.getElem?_set_ne (by omega), k1 _ (by omega), List.getElem?_append_left (by omega)]; exact hG
        have hD1 : Hd[H.length]? = some (⟨0, 26, #[slv q1 s.subs.length 9, slv q2 s.items.length 7, i64v s.seq, slv q3 s.out.length 9, i64v s.now], 0, false, []⟩ : Blk) := by
          rw [k2 _ (by omega), List.getElem?_append_left (by rw [List.length_set]; omega)]; exact hA1 _
        have hC1 : (Ha.set G.length (⟨0, 26, #[slv q1 s.subs.length 9, slv q2 s.items.length 7, i64v s.seq, slv qa m 9, i64v s.now], 5, false, []⟩ : Blk) ++ [(⟨0, 26, #[slv q1 s.subs.length 9, slv q2 s.items.length 7, i64v s.seq, slv q3 s.out.length 9, i64v s.now], 5, false, []⟩ : Blk)])[H.length]? = some (⟨0, 26, #[slv q1 s.subs.length 9, slv q2 s.items.length 7, i64v s.seq, slv q3 s.out.length 9, i64v s.now], 0, false, []⟩ : Blk) := by
          rw [List.getElem?_append_left (by rw [List.length_set]; omega)]; exact hA1 _
        have hF7 : ∀ x : Blk, (He.set Ha.length x)[G.length]? = some (⟨0, 26, #[slv q1 s.subs.length 9, slv q2 s.items.length 7, i64v s.seq, slv qa m 9, i64v s.now], 5, false, []⟩ : Blk) := fun x => by rw [List.getElem?_set_ne (by omega)]; exact hE7
        have hF8 : ∀ x : Blk, (He.set Ha.length x)[Ha.length]? = some x := fun x => List.getElem?_set_self (by omega)
        have mv : ∀ (x : Blk) (B : Nat), O B → B < (He.set Ha.length x).length ∧ (He.set Ha.length x)[B]? = H[B]? := fun x B hB => by
          have := hO B hB
          refine ⟨by rw [List.length_set]; omega, ?_⟩
          rw [List.getElem?_set_ne (by omega), k4 B (by omega) (by omega), k1 B (by omega)]
          exact hk0 B this
        have st0 : ∀ x : Blk, StateAt (fun B => B < (He.set Ha.length x).length) (He.set Ha.length x) s _ := fun x => hs0.move (mv x)
        have qaB : ∀ B, inq qa B → G.length + 1 ≤ B ∧ B < Ha.length := fun B hB => ⟨by
          rcases a5 B hB with h | h
          · exact absurd h (no B)
          · simpa using h, CAt.lt a2.cat B hB⟩
        have qeB : ∀ B, inq qe B → Ha.length + 1 ≤ B ∧ B < He.length := fun B hB => ⟨by
          rcases e5 B hB with h | h
          · rcases d5 B h with h | h
            · exact absurd h (no B)
            · simpa using h
          · omega, CAt.lt e2.cat B hB⟩
        have l1 : ∀ x : Blk, ListAt OutE 9 (fun B => B < (He.set Ha.length x).length) (He.set Ha.length x) (s.out.take m) (slv qa m 9) := fun x =>
          ⟨qa, c3.take (m * 9), by rw [List.length_take, hm1, Nat.min_eq_left (by omega)], a2.cat.keep fun B hB => by
              have := qaB B hB
              rw [List.getElem?_set_ne (by omega), k4 B (by omega) (by omega)], by rw [List.length_take, List.length_take, hl3, hm1]; omega, fun B hB => by have := qaB B hB; rw [List.length_set]; omega, (LC.take OutE.len m hL3).mono fun y c k => k.move (mv x)⟩
        have l2 : ∀ x : Blk, ListAt OutE 9 (fun B => B < (He.set Ha.length x).length) (He.set Ha.length x) (s.out ++ [x0]) (slv qe (s.out.length + 1) 9) := fun x =>
          ⟨qe, c3 ++ c3.take 9, by rw [List.length_append]; rfl, e2.cat.keep fun B hB => by
              have := qeB B hB
              rw [List.getElem?_set_ne (by omega)], by rw [List.length_append, hl0, hl3, List.length_append, Nat.add_mul]; rfl, fun B hB => by have := qeB B hB; rw [List.length_set]; omega, (LC.snoc hE0 hL3).mono fun y c k => k.move (mv x)⟩
        have may1 := fun (x : Blk) (p : Nat) => Fstmay (O := fun B => B < (He.set Ha.length x).length) (H := He.set Ha.length x) (s := { s with out := s.out.take m }) (v := .agg #[slv q1 s.subs.length 9, slv q2 s.items.length 7, i64v s.seq, slv qa m 9, i64v s.now]) (by
          obtain ⟨_, _, _, e, j1, j2, j3⟩ := st0 x
          simp only [Value.agg.injEq, Array.mk.injEq, List.cons.injEq] at e
          obtain ⟨rfl, rfl, _, rfl, _⟩ := e
          exact ⟨_, _, _, rfl, j1, j2, l1 x⟩) (fun B hB => hB) ⟨hz.a, hz.b, fun y hy => hz.c y (List.mem_of_mem_take hy), hz.na, hz.nb, by rw [List.length_take]; have := hz.nc; omega⟩ p
        have may2 := fun (x : Blk) (p : Nat) => Fstmay (O := fun B => B < (He.set Ha.length x).length) (H := He.set Ha.length x) (s := { s with out := s.out ++ [x0] }) (v := .agg #[slv q1 s.subs.length 9, slv q2 s.items.length 7, i64v s.seq, slv qe (s.out.length + 1) 9, i64v s.now]) (by
          obtain ⟨_, _, _, e, j1, j2, j3⟩ := st0 x
          simp only [Value.agg.injEq, Array.mk.injEq, List.cons.injEq] at e
          obtain ⟨rfl, rfl, _, rfl, _⟩ := e
          exact ⟨_, _, _, rfl, j1, j2, l2 x⟩) (fun B hB => hB) ⟨hz.a, hz.b, fun y hy => by rcases List.mem_append.1 hy with h | h; exact hz.c y h; rw [List.mem_singleton.1 h]; exact hz.c _ (List.mem_of_getElem? hx0), hz.na, hz.nb, by rw [List.length_append, List.length_singleton]; omega⟩ p
        simp only [less_out hm m, more_out hx0] at may1 may2
        have hsi := si24 q3 s.out.length 0 hok3 ⟨by omega, hn'⟩
        simp only [Int.toNat_zero, Nat.zero_mul] at hsi
        simp (disch := first | assumption | omega | (simp only [go_sem]; done) | (simp only [go_sem]; omega) | fail) only [go_sem, Fawake, hfew, hmay, hGG, hG, ho1, ho2, ho3, h1c, hl0, hn', hto, a1, hA7, hA1, hC1, hD1, d1, hsi, hld, e1, hE8, hF7, hF8, may1, may2]
        generalize hT : upd _ 55 _ = T
        obtain ⟨t', G', g1, g2⟩ := key T (He.set Ha.length (⟨0, 26, #[slv q1 s.subs.length 9, slv q2 s.items.length 7, i64v s.seq, slv qe (s.out.length + 1) 9, i64v s.now], 5, false, []⟩ : Blk)) (by rw [← hT]; simp only [go_sem]) (by rw [List.getElem?_set_ne (by omega), k4 _ (by omega) (by omega), k1 _ (by omega), List.getElem?_append_left (by omega)]; exact hG) (fun B hB => by rw [List.getElem?_set_ne (by omega), k4 _ (by omega) (by omega), k1 _ (by omega)]; exact hk0 B hB) (by rw [List.length_set]; omega)
        rw [g1]
        simp (disch := first | assumption | omega | (simp only [go_sem]; done) | (simp only [go_sem]; omega) | fail) only [go_sem, g2]
end Go.AM.Z

