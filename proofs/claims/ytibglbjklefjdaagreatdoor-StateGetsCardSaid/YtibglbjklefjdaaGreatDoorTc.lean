/-
  Bytes, addresses, mails, keys, schedules, as plain functions. No condition.
-/
import Derived.Test.YtibglbjklefjdaaGreatDoorTb
import Derived.Test.YtibglbjklefjdaaGreatDoorTa
import Derived.Test.YtibglbjklefjdaaGreatDoorANd
import Derived.Lib.IndexMore
set_option linter.all false
set_option linter.unusedSimpArgs false
set_option linter.unusedVariables false
set_option linter.unusedSectionVars false
namespace Go.AM.Z
open Go Go.AM Go.Proofs
set_option maxRecDepth 100000
theorem Fstin (n lo hi : Int) (p : Nat) (H : Heap) : F 38 #[.int .i64 n, .int .i64 lo, .int .i64 hi] p H = some (.returned (.bool (inB n lo hi)), H) := by
  rw [F, F_pure (f := 38) (X := X) (cl := cl) rfl rfl rfl Tryz.func38 rfl (by simp only [go_sem]), Tryz.results38]
  simp only [go_sem]
  repeat' (generalize hz : pickB _ _ _ _ _ = z; rcases pickB_cases hz with ⟨h, rfl⟩ | ⟨h, rfl⟩ <;> clear hz <;> (try simp only [go_sem] at h) <;> simp (disch := first | assumption | omega | (simp only [go_sem] <;> omega) | fail) only [go_sem, h])
  all_goals (simp_all [inB] <;> (intros; omega))
attribute [go_sem] Fstin
def risesL : Int → List Int → Bool
  | _, [] => true
  | last, f :: l => decide (last < f) && decide (f < 8) && risesL f l
def feedsB (l : List Int) : Bool := risesL (-1) l && decide (0 < l.length)
def lastL (l : List Int) (i : Nat) : Int := if i = 0 then -1 else l.getD (i - 1) 0
theorem rises_drop (l : List Int) (i : Nat) (h : i < l.length) : risesL (lastL l i) (l.drop i) = (decide (lastL l i < l[i]) && decide (l[i] < 8) && risesL (lastL l (i + 1)) (l.drop (i + 1))) := by
  rw [drop_cons h, risesL]
  congr 2
  unfold lastL
  rw [if_neg (by omega)]
  simp [List.getD_eq_getElem?_getD, h]
theorem Ffeeds {q : Q} {l : List Int} {p : Nat} {H : Heap} (hc : CAt H q (i64s l)) (hl : l.length ≤ 1099511627776) : F 42 #[slv q l.length 1] p H = some (.returned (.bool (feedsB l)), H) := by
  rw [F, F_quiet (f := 42) (X := X) (cl := cl) rfl rfl rfl Tryz.func42 rfl, Tryz.results42]
  have hok : okq q l.length := hc.okq (s := 1) (by simp) (by omega)
  simp (disch := first | assumption | omega | (simp only [go_sem] <;> omega) | fail) only [go_sem]
  generalize hL : Code.loop _ = L
  generalize hT : upd _ 8 _ = T
  obtain ⟨e, t', H', k1, rfl, k2⟩ := loop_up (P := Tryz.prog) (cl := cl) (X := X) (L := L) (p := H.length) (t := T) (H := H) l.length
    (fun i t H' => H' = H ∧ t 0 = slv q l.length 1 ∧ t 3 = i64v (lastL l i) ∧ t 6 = slv q l.length 1 ∧ t 7 = i64v l.length ∧ t 8 = i64v i ∧ risesL (-1) l = risesL (lastL l i) (l.drop i))
    (fun e t H' => H' = H ∧ ((e = .exit 0 ∧ risesL (-1) l = true ∧ t 0 = slv q l.length 1) ∨ (e = .ret ∧ risesL (-1) l = false ∧ t 2 = .bool false)))
    (by
      rintro i t H' hi ⟨rfl, h0, h3, h6, h7, h8, hr⟩
      rw [← hL, E_loop, hL]
      have hlt : (i : Int) < l.length := by omega
      have hld := ld_ptq (P := Tryz.prog) (T := 3) (o := i) (v := i64v l[i]) sz3 ag3 un3 hc (by simp [hi])
      rw [rises_drop l i hi] at hr
      by_cases h1 : l[i] ≤ lastL l i
      · right
        simp (disch := first | assumption | omega | (simp only [go_sem] <;> omega) | fail) only [go_sem, h0, h3, h6, h7, h8, hlt, hld, h1]
        refine ⟨_, _, _, rfl, rfl, .inr ⟨rfl, ?_, ?_⟩⟩
        · rw [hr, decide_eq_false (by omega)]; rfl
        · simp only [go_sem]
      · by_cases h2 : 8 ≤ l[i]
        · right
          simp (disch := first | assumption | omega | (simp only [go_sem] <;> omega) | fail) only [go_sem, h0, h3, h6, h7, h8, hlt, hld, h1, h2]
          refine ⟨_, _, _, rfl, rfl, .inr ⟨rfl, ?_, ?_⟩⟩
          · rw [hr, decide_eq_false (p := l[i] < 8) (by omega), Bool.and_false]; rfl
          · simp only [go_sem]
        · left
          simp (disch := first | assumption | omega | (simp only [go_sem] <;> omega) | fail) only [go_sem, h0, h3, h6, h7, h8, hlt, hld, h1, h2]
          refine ⟨_, _, rfl, rfl, ?_⟩
          simp only [go_sem, h0, h6, h7]
          refine ⟨?_, rfl, ?_⟩
          · unfold lastL; rw [if_neg (by omega)]; simp [List.getD_eq_getElem?_getD, hi]
          · rw [hr, decide_eq_true (by omega), decide_eq_true (by omega)]; rfl)
    (by
      rintro t H' ⟨rfl, h0, h3, h6, h7, h8, hr⟩
      rw [← hL, E_loop, hL]
      have hlt : ¬ (l.length : Int) < l.length := by omega
      simp (disch := first | assumption | omega | (simp only [go_sem] <;> omega) | fail) only [go_sem, h0, h3, h6, h7, h8, hlt]
      refine ⟨_, _, _, rfl, rfl, .inl ⟨rfl, ?_, ?_⟩⟩
      · rw [hr, List.drop_length]; rfl
      · simp only [go_sem, h0])
    ⟨rfl, (by rw [← hT]; simp only [go_sem] <;> rfl), (by rw [← hT]; simp only [go_sem] <;> rfl), (by rw [← hT]; simp only [go_sem] <;> rfl), (by rw [← hT]; simp only [go_sem] <;> rfl), (by rw [← hT]; simp only [go_sem] <;> rfl), rfl⟩
  rw [k1]
  rcases k2 with ⟨rfl, k2, k3⟩ | ⟨rfl, k2, k3⟩
  · simp (disch := first | assumption | omega | (simp only [go_sem] <;> omega) | fail) only [go_sem, k3]
    rw [feedsB, k2]
    simp
  · simp (disch := first | assumption | omega | (simp only [go_sem] <;> omega) | fail) only [go_sem, k3]
    rw [feedsB, k2]
    rfl
def onlyB (s g : List UInt8) : Bool := s.all (fun c => decide (0 ≤ Lib.indexByte g c)) && decide (s ≠ []) && decide (s.length ≤ 60)
theorem Fonly (s g : List UInt8) (hs : s.length ≤ 4611686018427387904) (p : Nat) (H : Heap) : F 74 #[str s, str g] p H = some (.returned (.bool (onlyB s g)), H) := by
  rw [F, F_pure (f := 74) (X := X) (cl := cl) rfl rfl rfl Tryz.func74 rfl (by simp only [go_sem]), Tryz.results74]
  simp only [go_sem]
  generalize hL : Code.loop _ = L
  let ok : UInt8 → Bool := fun c => decide (0 ≤ Lib.indexByte g c)
  generalize hT : upd _ 8 _ = T
  obtain ⟨e, t', H', k1, rfl, k2⟩ := loop_up (P := Tryz.prog) (cl := cl) (X := X) (L := L) (p := 0) (t := T) (H := []) s.length
    (fun i t H' => H' = [] ∧ t 0 = str s ∧ t 1 = str g ∧ t 7 = i64v s.length ∧ t 8 = i64v i ∧ s.all ok = (s.drop i).all ok)
    (fun e t H' => H' = [] ∧ ((e = .exit 0 ∧ s.all ok = true ∧ t 0 = str s) ∨ (e = .ret ∧ s.all ok = false ∧ t 4 = .bool false)))
    (by
      rintro i t H' hi ⟨rfl, h0, h1, h7, h8, hr⟩
      rw [← hL, E_loop, hL]
      have hlt : (i : Int) < s.length := by omega
      have hi9 := ix9 (l := s) (n := (i : Int)) (by omega) (by rw [Int.toNat_natCast]; exact List.getElem?_eq_getElem hi)
      have hb : ((s[i].toNat : Nat) : Int).toNat = s[i].toNat := rfl
      have hx := s[i].toNat_lt
      rw [drop_cons hi, List.all_cons] at hr
      cases hc : ok s[i] with
      | false =>
        right
        have hc' : (Lib.indexByte g s[i]) < 0 := by simpa [ok] using hc
        simp (disch := first | assumption | omega | (simp only [go_sem] <;> omega) | fail) only [go_sem, h0, h1, h7, h8, hlt, hi9, FIndexByte, hb, UInt8.ofNat_toNat, hc']
        refine ⟨_, _, _, rfl, rfl, .inr ⟨rfl, ?_, ?_⟩⟩
        · rw [hr, hc]; rfl
        · simp only [go_sem]
      | true =>
        left
        have hc' : ¬ (Lib.indexByte g s[i]) < 0 := by simpa [ok] using hc
        simp (disch := first | assumption | omega | (simp only [go_sem] <;> omega) | fail) only [go_sem, h0, h1, h7, h8, hlt, hi9, FIndexByte, hb, UInt8.ofNat_toNat, hc']
        refine ⟨_, _, rfl, rfl, ?_⟩
        simp only [go_sem, h0, h1, h7]
        refine ⟨rfl, ?_⟩
        rw [hr, hc]; rfl)
    (by
      rintro t H' ⟨rfl, h0, h1, h7, h8, hr⟩
      rw [← hL, E_loop, hL]
      have hlt : ¬ (s.length : Int) < s.length := by omega
      simp (disch := first | assumption | omega | (simp only [go_sem] <;> omega) | fail) only [go_sem, h0, h1, h7, h8, hlt]
      refine ⟨_, _, _, rfl, rfl, .inl ⟨rfl, ?_, ?_⟩⟩
      · rw [hr, List.drop_length]; rfl
      · simp only [go_sem, h0])
    ⟨rfl, (by rw [← hT]; simp only [go_sem] <;> rfl), (by rw [← hT]; simp only [go_sem] <;> rfl), (by rw [← hT]; simp only [go_sem] <;> rfl), (by rw [← hT]; simp only [go_sem] <;> rfl), rfl⟩
  rw [k1]
  rcases k2 with ⟨rfl, k2, k3⟩ | ⟨rfl, k2, k3⟩
  · simp (disch := first | assumption | omega | (simp only [go_sem] <;> omega) | fail) only [go_sem, k3]
    have k2' : s.all (fun c => decide (0 ≤ Lib.indexByte g c)) = true := k2
    rw [onlyB, k2']
    repeat' (generalize hz : pickB _ _ _ _ _ = z; rcases pickB_cases hz with ⟨h, rfl⟩ | ⟨h, rfl⟩ <;> clear hz <;> (try simp only [go_sem] at h) <;> simp (disch := first | assumption | omega | (simp only [go_sem] <;> omega) | fail) only [go_sem, h, k3])
    all_goals (simp_all <;> (try omega))
  · simp (disch := first | assumption | omega | (simp only [go_sem] <;> omega) | fail) only [go_sem, k3]
    have k2' : s.all (fun c => decide (0 ≤ Lib.indexByte g c)) = false := k2
    rw [onlyB, k2']
    rfl
theorem u8s_inj : ∀ {a b : List UInt8}, u8s a = u8s b → a = b
  | [], [], _ => rfl
  | [], _ :: _, h => by cases h
  | _ :: _, [], h => by cases h
  | x :: a, y :: b, h => by
    simp only [u8s, List.map_cons, List.cons.injEq, Value.int.injEq, true_and] at h
    obtain ⟨h1, h2⟩ := h
    have : x = y := UInt8.toNat_inj.1 (by omega)
    rw [this, u8s_inj (a := a) (b := b) h2]
theorem FbCount {q q2 : Q} {l l2 : List UInt8} {p : Nat} {H : Heap} (n n2 : Nat) (hn : n = l.length) (hn2 : n2 = l2.length) (hc : CAt H q (u8s l)) (hc2 : CAt H q2 (u8s l2)) (hl : l.length < 4294967281) (h1 : 1 ≤ l2.length) (h2 : l2.length ≤ 1000) :
    F 102 #[slv q n 1, slv q2 n2 1] p H = some (.returned (.int .i64 (Lib.count l l2 : Nat)), H) := by
  subst hn hn2
  rw [F, F_ext (f := 102) (X := X) rfl]
  refine exH_some _ _ (gSpec_some ⟨q, l, q2, l2, rfl, hc, hc2, hl, h1, h2, rfl⟩ ?_)
  rintro v' ⟨r, a, r2, a2, e, k1, k2, _, _, _, rfl⟩
  simp only [Array.mk.injEq, List.cons.injEq, and_true] at e
  obtain ⟨e1, e2⟩ := e
  rw [u8s_inj (slv_inj e1 hc k1 (by simp) (by simp)), u8s_inj (slv_inj e2 hc2 k2 (by simp) (by simp))]
theorem FbEqual {q q2 : Q} {l l2 : List UInt8} {p : Nat} {H : Heap} (n n2 : Nat) (hn : n = l.length) (hn2 : n2 = l2.length) (hc : CAt H q (u8s l)) (hc2 : CAt H q2 (u8s l2)) : F 57 #[slv q n 1, slv q2 n2 1] p H = some (.returned (.bool (decide (l = l2))), H) := by
  rw [F, F_quiet (f := 57) (X := X) (cl := cl) rfl rfl rfl Tryz.func57 rfl, Tryz.results57]
  simp (disch := first | assumption | omega | (simp only [go_sem] <;> omega) | fail) only [go_sem, cv33_9 _ _ _ _ hn hc, cv33_9 _ _ _ _ hn2 hc2]
theorem FbHasSuffix {q q2 : Q} {l l2 : List UInt8} {p : Nat} {H : Heap} (n n2 : Nat) (hn : n = l.length) (hn2 : n2 = l2.length) (hc : CAt H q (u8s l)) (hc2 : CAt H q2 (u8s l2)) (hl : l.length ≤ 4611686018427387904) : F 103 #[slv q n 1, slv q2 n2 1] p H = some (.returned (.bool (l2.isSuffixOf l)), H) := by
  rw [F, F_quiet (f := 103) (X := X) (cl := cl) rfl rfl rfl Tryz.func103 rfl, Tryz.results103]
  have hok : okq q n := hc.okq (s := 1) (by simp [hn]) (by omega)
  have hok2 : okq q2 n2 := hc2.okq (s := 1) (by simp [hn2]) (by omega)
  by_cases h : l2.length ≤ l.length
  · have h' : (n2 : Int) ≤ n := by omega
    have e1 : ((n : Int) - n2).toNat = l.length - l2.length := by omega
    have e2 : n - (l.length - l2.length) = l2.length := by omega
    have hcs : CAt H (shq q (l.length - l2.length)) (u8s (l.drop (l.length - l2.length))) := by
      have := hc.shift (l.length - l2.length) (by simp)
      rwa [show (u8s l).drop (l.length - l2.length) = u8s (l.drop (l.length - l2.length)) by simp [u8s, List.map_drop]] at this
    have hE := FbEqual (p := H.length) l2.length n2 (by rw [List.length_drop]; omega) hn2 hcs hc2
    simp (disch := first | assumption | omega | (simp only [go_sem] <;> omega) | fail) only [go_sem, h', bin_sub, e1, e2, hE]
    congr 4
    rw [Bool.eq_iff_iff, List.isSuffixOf_iff_suffix, decide_eq_true_eq]
    constructor
    · intro h; rw [← h]; exact List.drop_suffix _ _
    · intro h; exact (List.suffix_iff_eq_drop.1 h).symm
  · have h' : ¬ (n2 : Int) ≤ n := by omega
    simp (disch := first | assumption | omega | (simp only [go_sem] <;> omega) | fail) only [go_sem, h']
    congr 4
    symm
    rw [Bool.eq_false_iff, ne_eq, List.isSuffixOf_iff_suffix]
    intro hs
    exact h hs.length_le
theorem mark_slv {prot : Nat} {q : Q} {len : Nat} {H : Heap} (h : ∀ A off n, q = some (A, off, n) → prot ≤ A ∧ ∃ B, H[A]? = some B ∧ B.k = 0 ∧ B.ro = false) (h0 : q ≠ none) (hn : len ≠ 0) : cvS Tryz.prog prot 33 33 (slv q len 1) H = some (slv q len 1, H) := by
  rw [cvS_eq]
  rcases q with _ | ⟨A, off, n⟩
  · exact absurd rfl h0
  · obtain ⟨h1, B, h2, h3, h4⟩ := h A off n rfl
    simp only [markV, slv, Tryz.underlying33, Tryz.underlying5, h2, Option.bind_some]
    rw [if_pos ⟨h3, h1, h4, hn⟩]
theorem mark_new {prot : Nat} {len n : Nat} {H : Heap} {b : Blk} (h : prot ≤ H.length) (hk : b.k = 0) (hr : b.ro = false) (hn : len ≠ 0) : cvS Tryz.prog prot 33 33 (.slice (some ⟨H.length, 0, some n⟩) len 1) (H ++ [b]) = some (.slice (some ⟨H.length, 0, some n⟩) len 1, H ++ [b]) :=
  mark_slv (q := some (H.length, 0, n)) (by rintro _ _ _ ⟨⟩; exact ⟨h, b, by simp, hk, hr⟩) (by simp) hn
def mailB (l : List UInt8) : Bool := decide (Lib.count l [13] = Lib.count l [13, 10]) && decide (Lib.count l [10] = Lib.count l [13, 10]) && (decide (l.length = 0) || [13, 10].isSuffixOf l)
theorem _root_.Go.AM.CAt.push {H : Heap} {q : Q} {cs : List Value} (h : CAt H q cs) (X : Heap) : CAt (H ++ X) q cs := by
  rcases q with _ | ⟨A, off, n⟩
  · exact h
  · refine h.keep fun B hB => ?_
    obtain ⟨_, _, hh⟩ := hB
    cases hh
    simp only [CAt] at h
    obtain ⟨B', hB', _⟩ := rd_iff.1 h
    exact List.getElem?_append_left (List.getElem?_eq_some_iff.1 hB').1
theorem cat_new {H : Heap} {e : TypeId} {cs : List Value} {fl : Nat} (h : fl ≤ cs.length) {n : Nat} (hn : n = cs.length) : CAt (H ++ [⟨0, e, cs.toArray, fl, false, []⟩]) (some (H.length, 0, n)) cs := by
  subst hn
  simp only [CAt]
  refine rd_iff.2 ⟨_, by simp; rfl, ⟨rfl, h, by omega, by simp⟩, by simp⟩
theorem FdotMay {q : Q} {l : List UInt8} {p : Nat} {H : Heap} (hc : CAt H q (u8s l)) (hl : l.length ≤ 4000000000) : F 72 #[slv q l.length 1] p H = some (.returned (.bool (mailB l)), H) := by
  rw [F, F_quiet (f := 72) (X := X) (cl := cl) rfl rfl rfl Tryz.func72 rfl, Tryz.results72]
  have hok : okq q l.length := hc.okq (s := 1) (by simp) (by omega)
  have cat : ∀ X, CAt (H ++ X) q (u8s l) := fun X => hc.push X
  have k1 : ∀ b, CAt (H ++ [b]) q (u8s l) := fun b => cat _
  have k2 : ∀ b c, CAt (H ++ [b] ++ [c]) q (u8s l) := fun b c => by rw [List.append_assoc]; exact cat _
  have k3 : ∀ b c d, CAt (H ++ [b] ++ [c] ++ [d]) q (u8s l) := fun b c d => by rw [List.append_assoc, List.append_assoc]; exact cat _
  have c2 : ∀ (G : Heap) k p, CAt G q (u8s l) → k = G.length → F 102 #[slv q l.length 1, .slice (some ⟨k, 0, some 2⟩) 2 1] p (G ++ [⟨0, 5, #[.int .u8 13, .int .u8 10], 0, false, []⟩]) = some (.returned (.int .i64 (Lib.count l [13, 10] : Nat)), G ++ [⟨0, 5, #[.int .u8 13, .int .u8 10], 0, false, []⟩]) := by
    rintro G _ p hG rfl
    exact FbCount (q2 := some (G.length, 0, 2)) (l2 := [13, 10]) _ _ rfl rfl (hG.push [_]) (cat_new (cs := u8s [13, 10]) (by simp) (by simp)) (by omega) (by simp) (by simp)
  have c13 : ∀ (G : Heap) k p, CAt G q (u8s l) → k = G.length → F 102 #[slv q l.length 1, .slice (some ⟨k, 0, some 1⟩) 1 1] p (G ++ [⟨0, 5, #[.int .u8 13], 0, false, []⟩]) = some (.returned (.int .i64 (Lib.count l [13] : Nat)), G ++ [⟨0, 5, #[.int .u8 13], 0, false, []⟩]) := by
    rintro G _ p hG rfl
    exact FbCount (q2 := some (G.length, 0, 1)) (l2 := [13]) _ _ rfl rfl (hG.push [_]) (cat_new (cs := u8s [13]) (by simp) (by simp)) (by omega) (by simp) (by simp)
  have c10 : ∀ (G : Heap) k p, CAt G q (u8s l) → k = G.length → F 102 #[slv q l.length 1, .slice (some ⟨k, 0, some 1⟩) 1 1] p (G ++ [⟨0, 5, #[.int .u8 10], 0, false, []⟩]) = some (.returned (.int .i64 (Lib.count l [10] : Nat)), G ++ [⟨0, 5, #[.int .u8 10], 0, false, []⟩]) := by
    rintro G _ p hG rfl
    exact FbCount (q2 := some (G.length, 0, 1)) (l2 := [10]) _ _ rfl rfl (hG.push [_]) (cat_new (cs := u8s [10]) (by simp) (by simp)) (by omega) (by simp) (by simp)
  have c3 : ∀ (G : Heap) k p, CAt G q (u8s l) → k = G.length → F 103 #[slv q l.length 1, .slice (some ⟨k, 0, some 2⟩) 2 1] p (G ++ [⟨0, 5, #[.int .u8 13, .int .u8 10], 0, false, []⟩]) = some (.returned (.bool ([13, 10].isSuffixOf l)), G ++ [⟨0, 5, #[.int .u8 13, .int .u8 10], 0, false, []⟩]) := by
    rintro G _ p hG rfl
    exact FbHasSuffix (q2 := some (G.length, 0, 2)) (l2 := [13, 10]) _ _ rfl rfl (hG.push [_]) (cat_new (cs := u8s [13, 10]) (by simp) (by simp)) (by omega)
  have mk : ∀ (G : Heap) k p b, p ≤ k → k = G.length → cvS Tryz.prog p 33 33 (.slice (some ⟨k, 0, some 2⟩) 2 1) (G ++ [⟨0, 5, b, 0, false, []⟩]) = some (.slice (some ⟨k, 0, some 2⟩) 2 1, G ++ [⟨0, 5, b, 0, false, []⟩]) := by
    rintro G _ p b hp rfl
    exact mark_new hp rfl rfl (by decide)
  by_cases h1 : (Lib.count l [13] : Int) = (Lib.count l [13, 10] : Nat)
  · by_cases h2 : (Lib.count l [10] : Int) = (Lib.count l [13, 10] : Nat)
    · by_cases h3 : (l.length : Int) = 0
      · simp (disch := first | assumption | omega | (simp only [go_sem] <;> omega) | exact k1 _ | exact k2 _ _ | exact k3 _ _ _ | fail) only [go_sem, mk, c2, c13, c10, c3, h1, h2, h3]
        have h1' : Lib.count l [13] = Lib.count l [13, 10] := by omega
        have h2' : Lib.count l [10] = Lib.count l [13, 10] := by omega
        have h3' : l.length = 0 := by omega
        simp [mailB, h1', h2', h3']
      · simp (disch := first | assumption | omega | (simp only [go_sem] <;> omega) | exact k1 _ | exact k2 _ _ | exact k3 _ _ _ | fail) only [go_sem, mk, c2, c13, c10, c3, h1, h2, h3]
        have h1' : Lib.count l [13] = Lib.count l [13, 10] := by omega
        have h2' : Lib.count l [10] = Lib.count l [13, 10] := by omega
        have h3' : ¬ l.length = 0 := by omega
        simp [mailB, h1', h2', h3']
    · simp (disch := first | assumption | omega | (simp only [go_sem] <;> omega) | exact k1 _ | exact k2 _ _ | exact k3 _ _ _ | fail) only [go_sem, mk, c2, c13, c10, c3, h1, h2]
      have h1' : Lib.count l [13] = Lib.count l [13, 10] := by omega
      have h2' : ¬ Lib.count l [10] = Lib.count l [13, 10] := by omega
      simp [mailB, h2']
  · simp (disch := first | assumption | omega | (simp only [go_sem] <;> omega) | exact k1 _ | exact k2 _ _ | exact k3 _ _ _ | fail) only [go_sem, mk, c2, c13, c10, c3, h1]
    have h1' : ¬ Lib.count l [13] = Lib.count l [13, 10] := by omega
    simp [mailB, h1']
def lowB (c : UInt8) : UInt8 := if 65 ≤ c.toNat ∧ c.toNat ≤ 90 then UInt8.ofNat (c.toNat + 32) else c
def lowL (l : List UInt8) : List UInt8 := l.map lowB
theorem lowB_up {c : UInt8} (h1 : 65 ≤ c.toNat) (h2 : c.toNat ≤ 90) : (lowB c).toNat = c.toNat + 32 := by
  unfold lowB
  rw [if_pos ⟨h1, h2⟩, UInt8.toNat_ofNat']
  omega
theorem lowB_no {c : UInt8} (h : ¬ (65 ≤ c.toNat ∧ c.toNat ≤ 90)) : lowB c = c := by unfold lowB; rw [if_neg h]
theorem low_step {l : List UInt8} {i : Nat} (hi : i < l.length) : (u8s (lowL (l.take i) ++ l.drop i)).set i (u8v (lowB l[i])) = u8s (lowL (l.take (i + 1)) ++ l.drop (i + 1)) := by
  have hlen : (lowL (l.take i)).length = i := by simp [lowL]; omega
  have e1 : l.drop i = l[i] :: l.drop (i + 1) := List.drop_eq_getElem_cons hi
  have e2 : l.take (i + 1) = l.take i ++ [l[i]] := by rw [List.take_add_one, List.getElem?_eq_getElem hi]; rfl
  rw [e2, e1]
  have e3 : u8s (lowL (l.take i) ++ l[i] :: l.drop (i + 1)) = u8s (lowL (l.take i)) ++ u8v l[i] :: u8s (l.drop (i + 1)) := by rw [u8s, List.map_append, List.map_cons]
  have e4 : u8s (lowL (l.take i ++ [l[i]]) ++ l.drop (i + 1)) = u8s (lowL (l.take i)) ++ u8v (lowB l[i]) :: u8s (l.drop (i + 1)) := by rw [u8s, lowL, List.map_append, List.map_append, List.map_append, List.append_assoc]; rfl
  rw [e3, e4]
  have e5 : (u8s (lowL (l.take i))).length = i := by rw [u8s, List.length_map, hlen]
  rw [List.set_append]
  rw [if_neg (by omega), e5, Nat.sub_self, List.set_cons_zero]
theorem add_u8 {P : Program} {c : Bool} {T : TypeId} {a b : Int} (h1 : 0 ≤ a + b) (h2 : a + b < 256) : binV P c .add T (.int .u8 a) (.int .u8 b) = some (.int .u8 (a + b)) := by
  refine binV_ints (v := .int .u8 (a + b)) ?_ rfl
  show some (Value.int .u8 (IntKind.u8.wrap (a + b))) = _
  rw [wrap_u8 h1 h2]
theorem _root_.List.set_getElem?_self {α : Type} {l : List α} {i : Nat} {x : α} (h : l[i]? = some x) : l.set i x = l := by
  apply List.ext_getElem?
  intro j
  rw [List.getElem?_set]
  split
  · rename_i e
    subst e
    rw [h]
    simp [(List.getElem?_eq_some_iff.1 h).1]
  · rfl
theorem Fidentsmall (l : List UInt8) (hl : l.length ≤ 1099511627776) (p : Nat) (H : Heap) : F 131 #[str l] p H = some (.returned (str (lowL l)), H) := by
  rw [F, F_pure (f := 131) (X := X) (cl := cl) rfl rfl rfl Tryz.func131 rfl (by simp only [go_sem]), Tryz.results131]
  have hok : okq (some (0, 0, l.length)) l.length := by intro h; cases h
  simp (disch := first | assumption | omega | (simp only [go_sem] <;> omega) | fail) only [go_sem]
  generalize hL : Code.loop _ = L
  generalize hT : upd _ 10 _ = T
  obtain ⟨e, t', H', k1, rfl, ⟨fl, hfl, rfl⟩, k3⟩ := loop_up (P := Tryz.prog) (cl := cl) (X := X) (L := L) (p := 0) (t := T) (H := [⟨0, 5, (u8s l).toArray, 0, false, []⟩]) l.length
    (fun i t H' => (∃ fl, fl ≤ l.length ∧ H' = [⟨0, 5, (u8s (lowL (l.take i) ++ l.drop i)).toArray, fl, false, []⟩]) ∧ t 3 = slv (some (0, 0, l.length)) l.length 1 ∧ t 8 = slv (some (0, 0, l.length)) l.length 1 ∧ t 9 = i64v l.length ∧ t 10 = i64v i)
    (fun e t H' => e = .exit 0 ∧ (∃ fl, fl ≤ l.length ∧ H' = [⟨0, 5, (u8s (lowL l)).toArray, fl, false, []⟩]) ∧ t 3 = slv (some (0, 0, l.length)) l.length 1)
    (by
      rintro i t H' hi ⟨⟨fl, hfl, rfl⟩, h3, h8, h9, h10⟩
      left
      rw [← hL, E_loop, hL]
      have hlt : (i : Int) < l.length := by omega
      have hll : (u8s (lowL (l.take i) ++ l.drop i)).length = l.length := by simp [u8s, lowL]; omega
      have hc : CAt [(⟨0, 5, (u8s (lowL (l.take i) ++ l.drop i)).toArray, fl, false, []⟩ : Blk)] (some (0, 0, l.length)) (u8s (lowL (l.take i) ++ l.drop i)) := by
        have := cat_new (H := []) (e := 5) (cs := u8s (lowL (l.take i) ++ l.drop i)) (fl := fl) (by omega) (n := l.length) hll.symm
        exact this
      have hx : (u8s (lowL (l.take i) ++ l.drop i))[i]? = some (u8v l[i]) := by
        have hlen : (lowL (l.take i)).length = i := by simp [lowL]; omega
        simp only [u8s, List.getElem?_map]
        rw [List.getElem?_append_right (by omega), hlen, Nat.sub_self, List.getElem?_drop, Nat.add_zero, List.getElem?_eq_getElem hi]
        rfl
      have hld := ld_ptq (P := Tryz.prog) (T := 5) (o := i) (v := u8v l[i]) sz5 ag5 un5 hc hx
      have hpt : ptq (some (0, 0, l.length)) i = .pointer (some ⟨0, 0 + i, some l.length⟩) := rfl
      have hset : (u8s (lowL (l.take i) ++ l.drop i)).set i (u8v (lowB l[i])) = u8s (lowL (l.take (i + 1)) ++ l.drop (i + 1)) := low_step hi
      have hz : l[i].toNat < 256 := l[i].toNat_lt
      by_cases h1 : (65 : Int) ≤ l[i].toNat
      · by_cases h2 : (l[i].toNat : Int) ≤ 90
        · have hlow : (lowB l[i]).toNat = l[i].toNat + 32 := lowB_up (by omega) (by omega)
          have e1 : ((l[i].toNat : Int) + 97 - 65) = (lowB l[i]).toNat := by omega
          simp (disch := first | assumption | omega | (simp only [go_sem] <;> omega) | fail) only [go_sem, h3, h8, h9, h10, hlt, hx, h1, h2, add_u8, sub_u8, e1, hpt, putAll_one, Nat.zero_add, hset]
          refine ⟨_, _, rfl, ⟨l.length, Nat.le_refl _, rfl⟩, ?_⟩
          simp only [go_sem, h3, h8, h9] <;> rfl
        · rw [lowB_no (by omega)] at hset
          rw [List.set_getElem?_self hx] at hset
          simp (disch := first | assumption | omega | (simp only [go_sem] <;> omega) | fail) only [go_sem, h3, h8, h9, h10, hlt, hld, h1, h2]
          refine ⟨_, _, rfl, ⟨fl, hfl, by rw [← hset]⟩, ?_⟩
          simp only [go_sem, h3, h8, h9] <;> rfl
      · rw [lowB_no (by omega)] at hset
        rw [List.set_getElem?_self hx] at hset
        simp (disch := first | assumption | omega | (simp only [go_sem] <;> omega) | fail) only [go_sem, h3, h8, h9, h10, hlt, hld, h1]
        refine ⟨_, _, rfl, ⟨fl, hfl, by rw [← hset]⟩, ?_⟩
        simp only [go_sem, h3, h8, h9] <;> rfl)
    (by
      rintro t H' ⟨⟨fl, hfl, rfl⟩, h3, h8, h9, h10⟩
      rw [← hL, E_loop, hL]
      have hlt : ¬ (l.length : Int) < l.length := by omega
      simp (disch := first | assumption | omega | (simp only [go_sem] <;> omega) | fail) only [go_sem, h3, h8, h9, h10, hlt]
      refine ⟨_, _, _, rfl, rfl, ⟨fl, hfl, ?_⟩, ?_⟩
      · rw [List.take_length, List.drop_length, List.append_nil]
      · simp only [go_sem, h3])
    ⟨⟨0, Nat.zero_le _, rfl⟩, (by rw [← hT]; simp only [go_sem] <;> rfl), (by rw [← hT]; simp only [go_sem] <;> rfl), (by rw [← hT]; simp only [go_sem] <;> rfl), (by rw [← hT]; simp only [go_sem] <;> rfl)⟩
  rw [k1]
  have hlow : (lowL l).length = l.length := by simp [lowL]
  have hcat : CAt [(⟨0, 5, (u8s (lowL l)).toArray, fl, false, []⟩ : Blk)] (some (0, 0, l.length)) (u8s (lowL l)) :=
    cat_new (H := []) (e := 5) (cs := u8s (lowL l)) (fl := fl) (by simp [hlow]; omega) (n := l.length) (by simp [hlow])
  simp (disch := first | assumption | omega | (simp only [go_sem] <;> omega) | fail) only [go_sem, k3, cv33_9 _ _ _ _ hlow.symm hcat]
theorem Fcronsmall (l : List UInt8) (hl : l.length ≤ 1099511627776) (p : Nat) (H : Heap) : F 195 #[str l] p H = some (.returned (str (lowL l)), H) := by
  rw [F, F_pure (f := 195) (X := X) (cl := cl) rfl rfl rfl Tryz.func195 rfl (by simp only [go_sem]), Tryz.results195]
  have hok : okq (some (0, 0, l.length)) l.length := by intro h; cases h
  simp (disch := first | assumption | omega | (simp only [go_sem] <;> omega) | fail) only [go_sem]
  generalize hL : Code.loop _ = L
  generalize hT : upd _ 10 _ = T
  obtain ⟨e, t', H', k1, rfl, ⟨fl, hfl, rfl⟩, k3⟩ := loop_up (P := Tryz.prog) (cl := cl) (X := X) (L := L) (p := 0) (t := T) (H := [⟨0, 5, (u8s l).toArray, 0, false, []⟩]) l.length
    (fun i t H' => (∃ fl, fl ≤ l.length ∧ H' = [⟨0, 5, (u8s (lowL (l.take i) ++ l.drop i)).toArray, fl, false, []⟩]) ∧ t 3 = slv (some (0, 0, l.length)) l.length 1 ∧ t 8 = slv (some (0, 0, l.length)) l.length 1 ∧ t 9 = i64v l.length ∧ t 10 = i64v i)
    (fun e t H' => e = .exit 0 ∧ (∃ fl, fl ≤ l.length ∧ H' = [⟨0, 5, (u8s (lowL l)).toArray, fl, false, []⟩]) ∧ t 3 = slv (some (0, 0, l.length)) l.length 1)
    (by
      rintro i t H' hi ⟨⟨fl, hfl, rfl⟩, h3, h8, h9, h10⟩
      left
      rw [← hL, E_loop, hL]
      have hlt : (i : Int) < l.length := by omega
      have hll : (u8s (lowL (l.take i) ++ l.drop i)).length = l.length := by simp [u8s, lowL]; omega
      have hc : CAt [(⟨0, 5, (u8s (lowL (l.take i) ++ l.drop i)).toArray, fl, false, []⟩ : Blk)] (some (0, 0, l.length)) (u8s (lowL (l.take i) ++ l.drop i)) := by
        have := cat_new (H := []) (e := 5) (cs := u8s (lowL (l.take i) ++ l.drop i)) (fl := fl) (by omega) (n := l.length) hll.symm
        exact this
      have hx : (u8s (lowL (l.take i) ++ l.drop i))[i]? = some (u8v l[i]) := by
        have hlen : (lowL (l.take i)).length = i := by simp [lowL]; omega
        simp only [u8s, List.getElem?_map]
        rw [List.getElem?_append_right (by omega), hlen, Nat.sub_self, List.getElem?_drop, Nat.add_zero, List.getElem?_eq_getElem hi]
        rfl
      have hld := ld_ptq (P := Tryz.prog) (T := 5) (o := i) (v := u8v l[i]) sz5 ag5 un5 hc hx
      have hpt : ptq (some (0, 0, l.length)) i = .pointer (some ⟨0, 0 + i, some l.length⟩) := rfl
      have hset : (u8s (lowL (l.take i) ++ l.drop i)).set i (u8v (lowB l[i])) = u8s (lowL (l.take (i + 1)) ++ l.drop (i + 1)) := low_step hi
      have hz : l[i].toNat < 256 := l[i].toNat_lt
      by_cases h1 : (65 : Int) ≤ l[i].toNat
      · by_cases h2 : (l[i].toNat : Int) ≤ 90
        · have hlow : (lowB l[i]).toNat = l[i].toNat + 32 := lowB_up (by omega) (by omega)
          have e1 : ((l[i].toNat : Int) + 97 - 65) = (lowB l[i]).toNat := by omega
          simp (disch := first | assumption | omega | (simp only [go_sem] <;> omega) | fail) only [go_sem, h3, h8, h9, h10, hlt, hx, h1, h2, add_u8, sub_u8, e1, hpt, putAll_one, Nat.zero_add, hset]
          refine ⟨_, _, rfl, ⟨l.length, Nat.le_refl _, rfl⟩, ?_⟩
          simp only [go_sem, h3, h8, h9] <;> rfl
        · rw [lowB_no (by omega)] at hset
          rw [List.set_getElem?_self hx] at hset
          simp (disch := first | assumption | omega | (simp only [go_sem] <;> omega) | fail) only [go_sem, h3, h8, h9, h10, hlt, hld, h1, h2]
          refine ⟨_, _, rfl, ⟨fl, hfl, by rw [← hset]⟩, ?_⟩
          simp only [go_sem, h3, h8, h9] <;> rfl
      · rw [lowB_no (by omega)] at hset
        rw [List.set_getElem?_self hx] at hset
        simp (disch := first | assumption | omega | (simp only [go_sem] <;> omega) | fail) only [go_sem, h3, h8, h9, h10, hlt, hld, h1]
        refine ⟨_, _, rfl, ⟨fl, hfl, by rw [← hset]⟩, ?_⟩
        simp only [go_sem, h3, h8, h9] <;> rfl)
    (by
      rintro t H' ⟨⟨fl, hfl, rfl⟩, h3, h8, h9, h10⟩
      rw [← hL, E_loop, hL]
      have hlt : ¬ (l.length : Int) < l.length := by omega
      simp (disch := first | assumption | omega | (simp only [go_sem] <;> omega) | fail) only [go_sem, h3, h8, h9, h10, hlt]
      refine ⟨_, _, _, rfl, rfl, ⟨fl, hfl, ?_⟩, ?_⟩
      · rw [List.take_length, List.drop_length, List.append_nil]
      · simp only [go_sem, h3])
    ⟨⟨0, Nat.zero_le _, rfl⟩, (by rw [← hT]; simp only [go_sem] <;> rfl), (by rw [← hT]; simp only [go_sem] <;> rfl), (by rw [← hT]; simp only [go_sem] <;> rfl), (by rw [← hT]; simp only [go_sem] <;> rfl)⟩
  rw [k1]
  have hlow : (lowL l).length = l.length := by simp [lowL]
  have hcat : CAt [(⟨0, 5, (u8s (lowL l)).toArray, fl, false, []⟩ : Blk)] (some (0, 0, l.length)) (u8s (lowL l)) :=
    cat_new (H := []) (e := 5) (cs := u8s (lowL l)) (fl := fl) (by simp [hlow]; omega) (n := l.length) (by simp [hlow])
  simp (disch := first | assumption | omega | (simp only [go_sem] <;> omega) | fail) only [go_sem, k3, cv33_9 _ _ _ _ hlow.symm hcat]
def hostsL : List UInt8 := [97, 98, 99, 100, 101, 102, 103, 104, 105, 106, 107, 108, 109, 110, 111, 112, 113, 114, 115, 116, 117, 118, 119, 120, 121, 122, 65, 66, 67, 68, 69, 70, 71, 72, 73, 74, 75, 76, 77, 78, 79, 80, 81, 82, 83, 84, 85, 86, 87, 88, 89, 90, 48, 49, 50, 51, 52, 53, 54, 55, 56, 57, 46, 45]
def personsL : List UInt8 := [97, 98, 99, 100, 101, 102, 103, 104, 105, 106, 107, 108, 109, 110, 111, 112, 113, 114, 115, 116, 117, 118, 119, 120, 121, 122, 65, 66, 67, 68, 69, 70, 71, 72, 73, 74, 75, 76, 77, 78, 79, 80, 81, 82, 83, 84, 85, 86, 87, 88, 89, 90, 48, 49, 50, 51, 52, 53, 54, 55, 56, 57, 46, 45, 95, 43]
def addrB (s : List UInt8) : Bool := decide (0 ≤ Lib.indexByte s 64) && onlyB (s.take (Lib.indexByte s 64).toNat) personsL && onlyB (s.drop ((Lib.indexByte s 64).toNat + 1)) personsL && decide (3 ≤ s.length) && decide (s.length ≤ 60)
theorem Faddr (s : List UInt8) (hs : s.length ≤ 1000000) (p : Nat) (H : Heap) : F 73 #[str s] p H = some (.returned (.bool (addrB s)), H) := by
  rw [F, F_pure (f := 73) (X := X) (cl := cl) rfl rfl rfl Tryz.func73 rfl (by simp only [go_sem]), Tryz.results73]
  have hc := F49 s 64 hs
  have o1 := Fonly (s.take (Lib.indexByte s 64).toNat) personsL (by rw [List.length_take]; omega)
  have o2 := Fonly (s.drop ((Lib.indexByte s 64).toNat + 1)) personsL (by rw [List.length_drop]; omega)
  have hp : ([97, 98, 99, 100, 101, 102, 103, 104, 105, 106, 107, 108, 109, 110, 111, 112, 113, 114, 115, 116, 117, 118, 119, 120, 121, 122, 65, 66, 67, 68, 69, 70, 71].append [72, 73, 74, 75, 76, 77, 78, 79, 80, 81, 82, 83, 84, 85, 86, 87, 88, 89, 90, 48, 49, 50, 51, 52, 53, 54, 55, 56, 57, 46, 45, 95, 43] : List UInt8) = personsL := rfl
  have hb : addrB s = (decide (0 ≤ Lib.indexByte s 64) && onlyB (s.take (Lib.indexByte s 64).toNat) personsL && onlyB (s.drop ((Lib.indexByte s 64).toNat + 1)) personsL && decide (3 ≤ s.length) && decide (s.length ≤ 60)) := rfl
  rw [hb]
  generalize personsL = pl at *
  by_cases h : 0 ≤ Lib.indexByte s 64
  · simp only [h, if_true] at hc
    cases b1 : onlyB (s.take (Lib.indexByte s 64).toNat) pl
    · simp (disch := first | assumption | omega | (simp only [go_sem] <;> omega) | fail) only [go_sem, hc, hp, o1, o2, b1, h]
    · cases b2 : onlyB (s.drop ((Lib.indexByte s 64).toNat + 1)) pl
      · simp (disch := first | assumption | omega | (simp only [go_sem] <;> omega) | fail) only [go_sem, hc, hp, o1, o2, b1, b2, h]
      · by_cases h3 : (3 : Int) ≤ s.length
        · simp (disch := first | assumption | omega | (simp only [go_sem] <;> omega) | fail) only [go_sem, hc, hp, o1, o2, b1, b2, h, h3]
          rw [decide_eq_true (p := 3 ≤ s.length) (by omega)]
          by_cases h4 : s.length ≤ 60
          · rw [decide_eq_true h4, decide_eq_true (by omega)]; rfl
          · rw [decide_eq_false h4, decide_eq_false (by omega)]; rfl
        · simp (disch := first | assumption | omega | (simp only [go_sem] <;> omega) | fail) only [go_sem, hc, hp, o1, o2, b1, b2, h, h3]
          rw [decide_eq_false (p := 3 ≤ s.length) (by omega)]
          simp
  · simp only [h, if_false] at hc
    simp (disch := first | assumption | omega | (simp only [go_sem] <;> omega) | fail) only [go_sem, hc, hp, h]
def startB (from_ to name : List UInt8) (mail : List UInt8) : Bool := addrB from_ && addrB to && onlyB name hostsL && mailB mail
theorem g_sl0 (a b : Nat) : ground (.slice none a b) = true := (rfl)
theorem flat_sl0 (a b : Nat) : flat (.slice none a b) = true := (rfl)
attribute [go_sem] g_sl0 flat_sl0 List.getElem?_concat_length ite_self
theorem nil_eql {c : Bool} : binV Tryz.prog c .eql 33 (.slice none 0 0) (.slice none 0 0) = some (.bool true) := by cases c <;> kernel_rfl
theorem FcloneNil (p : Nat) (H : Heap) : F 75 #[.slice none 0 0] p H = some (.returned (.slice none 0 0), H) := by
  rw [F, F_quiet (f := 75) (X := X) (cl := cl) rfl rfl rfl Tryz.func75 rfl, Tryz.results75]
  simp (disch := first | assumption | omega | (simp only [go_sem] <;> omega) | fail) only [go_sem, nil_eql]
def sessV (ok : Bool) (from_ to name : List UInt8) : Value := .agg #[.int .i64 0, .int .i64 0, str (if ok = true then from_ else []), str (if ok = true then to else []), str (if ok = true then name else []), .slice none 0 0]
theorem FstartNil (from_ to name : List UInt8) (h1 : from_.length ≤ 1000000) (h2 : to.length ≤ 1000000) (h3 : name.length ≤ 1000000) (p : Nat) (H : Heap) :
    F 41 #[str from_, str to, str name, .slice none 0 0] p H = some (.returned (.tuple #[sessV (startB from_ to name []) from_ to name, .int .i64 (if startB from_ to name [] = true then 0 else 1)]), H) := by
  rw [F, F_quiet (f := 41) (X := X) (cl := cl) rfl rfl rfl Tryz.func41 rfl, Tryz.results41]
  have hh : ([97, 98, 99, 100, 101, 102, 103, 104, 105, 106, 107, 108, 109, 110, 111, 112, 113, 114, 115, 116, 117, 118, 119, 120, 121, 122, 65, 66, 67, 68, 69, 70, 71, 72, 73, 74, 75, 76, 77, 78, 79, 80, 81, 82, 83, 84, 85, 86, 87, 88, 89, 90, 48, 49, 50, 51, 52, 53, 54, 55, 56, 57, 46, 45] : List UInt8) = hostsL := rfl
  have a1 := Faddr from_ h1
  have a2 := Faddr to h2
  have a3 := Fonly name hostsL (by omega)
  have a4 := fun p H => FdotMay (q := none) (l := []) (p := p) (H := H) rfl (by simp)
  have e : ((([] : List UInt8).length : Nat) : Int) = 0 := rfl
  have m0 : mailB [] = true := by decide
  simp only [slv, m0] at a4
  unfold startB
  rw [m0]
  cases b1 : addrB from_
  · simp (disch := first | assumption | omega | (simp only [go_sem] <;> omega) | fail) only [go_sem, a1, b1]
    rfl
  · cases b2 : addrB to
    · simp (disch := first | assumption | omega | (simp only [go_sem] <;> omega) | fail) only [go_sem, a1, a2, b1, b2]
      rfl
    · generalize hostsL = hl at *
      cases b3 : onlyB name hl
      · simp (disch := first | assumption | omega | (simp only [go_sem] <;> omega) | fail) only [go_sem, a1, a2, hh, a3, b1, b2, b3]
        rfl
      · simp (disch := first | assumption | omega | (simp only [go_sem] <;> omega) | fail) only [go_sem, a1, a2, hh, a3, a4, b1, b2, b3, FcloneNil]
        rfl
theorem Fjoin {q : Q} {xs : List (List UInt8)} {sep : List UInt8} {p : Nat} {H : Heap} (n : Nat) (hn : n = xs.length) (hc : CAt H q (xs.map str)) (hb : (xs.map List.length).sum + xs.length * sep.length ≤ 1099511627776) (hsep : 1 ≤ sep.length) :
    F 165 #[slv q n 1, str sep] p H = some (.returned (str (xs.intersperse sep).flatten), H) := by
  subst hn
  rw [F, F_ext (f := 165) (X := X) rfl]
  refine exH_some _ _ (gSpec_some ⟨q, xs, sep, rfl, hc, hb, hsep, rfl⟩ ?_)
  rintro v' ⟨r, ys, sp, e, k1, _, _, rfl⟩
  simp only [Array.mk.injEq, List.cons.injEq, and_true] at e
  obtain ⟨e1, e2⟩ := e
  have e3 := slv_inj e1 hc k1 (by simp) (by simp)
  have inj : ∀ a b : List UInt8, str a = str b → a = b := fun a b h => by simpa [str] using h
  have e4 : xs = ys := (List.map_inj_right (fun a b h => inj a b h)).1 e3
  rw [e4, inj _ _ e2]
def spaceB (c : UInt8) : Bool := decide (0 ≤ Lib.indexByte [9, 10, 13, 32] c)
theorem Fspace (c : UInt8) (p : Nat) (H : Heap) : F 164 #[.int .u8 c.toNat] p H = some (.returned (.bool (spaceB c)), H) := by
  rw [F, F_pure (f := 164) (X := X) (cl := cl) rfl rfl rfl Tryz.func164 rfl (by simp only [go_sem]), Tryz.results164]
  have hb : ((c.toNat : Nat) : Int).toNat = c.toNat := rfl
  have hx := c.toNat_lt
  simp (disch := first | assumption | omega | (simp only [go_sem] <;> omega) | fail) only [go_sem, FIndexByte, hb, UInt8.ofNat_toNat]
  rfl
def wordsL : Option (List UInt8) → List UInt8 → List (List UInt8)
  | none, [] => []
  | some w, [] => [w]
  | none, c :: r => if spaceB c = true then wordsL none r else wordsL (some [c]) r
  | some w, c :: r => if spaceB c = true then w :: wordsL none r else wordsL (some (w ++ [c])) r
def trimS (s : List UInt8) : List UInt8 := ((wordsL none s).intersperse [32]).flatten
def sumL (l : List (List UInt8)) : Nat := (l.map List.length).sum
def curL (s : List UInt8) (f : Int) (i : Nat) : Option (List UInt8) := if f < 0 then none else some ((s.drop f.toNat).take (i - f.toNat))
theorem words_sum : ∀ (s : List UInt8) (w : Option (List UInt8)), sumL (wordsL w s) ≤ s.length + (w.getD []).length ∧ (wordsL w s).length ≤ s.length + (if w = none then 0 else 1)
  | [], none => by simp [wordsL, sumL]
  | [], some w => by simp [wordsL, sumL]
  | c :: r, none => by
    rw [wordsL]
    split
    · have := words_sum r none; simp at this ⊢; omega
    · have := words_sum r (some [c]); simp at this ⊢; omega
  | c :: r, some w => by
    rw [wordsL]
    split
    · have := words_sum r none; simp [sumL] at this ⊢; omega
    · have := words_sum r (some (w ++ [c])); simp at this ⊢; omega
theorem Ftrim (s : List UInt8) (hs : s.length ≤ 1099511627) (p : Nat) (H : Heap) : F 129 #[str s] p H = some (.returned (str (trimS s)), H) := by
  rw [F, F_pure (f := 129) (X := X) (cl := cl) rfl rfl rfl Tryz.func129 rfl (by simp only [go_sem]), Tryz.results129]
  simp only [go_sem]
  generalize hL : Code.loop _ = L
  generalize hT : upd _ 5 _ = T
  obtain ⟨e, t', H', k1, rfl, q, k2, k3⟩ := loop_up (P := Tryz.prog) (cl := cl) (X := X) (L := L) (p := 0) (t := T) (H := []) (s.length + 1)
    (fun i t H' => ∃ (q : Q) (d : List (List UInt8)) (f : Int), OwnS 0 H' q (d.map str) ∧ d.length ≤ i ∧ (if i ≤ s.length then wordsL none s = d ++ wordsL (curL s f i) (s.drop i) else wordsL none s = d) ∧ f ≤ i ∧ -1 ≤ f ∧ (i = s.length + 1 → f < 0) ∧
      t 0 = str s ∧ t 3 = slv q d.length 1 ∧ t 4 = i64v f ∧ t 5 = i64v i)
    (fun e t H' => e = .exit 0 ∧ ∃ q : Q, CAt H' q ((wordsL none s).map str) ∧ t 3 = slv q (wordsL none s).length 1)
    (by
      rintro i t H' hi ⟨q, d, f, hO, hd, hw, hf1, hf2, _, h0, h3, h4, h5⟩
      rw [if_pos (by omega)] at hw
      rw [← hL, E_loop, hL]
      left
      have hle : (i : Int) ≤ s.length := by omega
      have hdl := (words_sum s none).2
      simp only [if_true, Nat.add_zero] at hdl
      have app := fun (w : List UInt8) => app_new (P := Tryz.prog) (T := 9) (T' := 113) (st := 113) (q := q) (len := d.length) (xs := [str w]) Tryz.underlying113 ei113 (by omega) ap113 (Nat.zero_le _) hO (by simp) rfl (by omega)
      by_cases hie : i = s.length
      · subst hie
        rw [List.drop_length] at hw
        by_cases hfn : f < 0
        · simp (disch := first | assumption | omega | (simp only [go_sem] <;> omega) | fail) only [go_sem, h0, h3, h4, h5, hle, hfn, Int.le_refl, Int.not_le.2 hfn]
          refine ⟨_, _, rfl, q, d, f, hO, by omega, ?_, by omega, by omega, fun _ => hfn, ?_⟩
          · rw [if_neg (by omega), hw, curL, if_pos hfn, wordsL, List.append_nil]
          · simp only [go_sem, h0, h3, h4] <;> trivial
        · have hfn' : 0 ≤ f := by omega
          obtain ⟨q', H2, g1, g2, g3, g4, g5⟩ := app ((s.drop f.toNat).take (s.length - f.toNat))
          simp (disch := first | assumption | omega | (simp only [go_sem] <;> omega) | fail) only [go_sem, h0, h3, h4, h5, hle, hfn, hfn', Int.le_refl, g1]
          refine ⟨_, _, rfl, q', d ++ [(s.drop f.toNat).take (s.length - f.toNat)], -1, by rw [List.map_append]; exact g2, by simp; omega, ?_, by omega, by omega, fun _ => by omega, ?_⟩
          · rw [if_neg (by omega), hw, curL, if_neg hfn, wordsL]
          · simp only [go_sem, h0] <;> trivial
      · have hi2 : i < s.length := by omega
        have hne : ¬ (i : Int) = s.length := by omega
        have hi9 := ix9 (l := s) (n := (i : Int)) (by omega) (by rw [Int.toNat_natCast]; exact List.getElem?_eq_getElem hi2)
        rw [drop_cons hi2] at hw
        cases hsp : spaceB s[i] with
        | true =>
          by_cases hfn : f < 0
          · simp (disch := first | assumption | omega | (simp only [go_sem] <;> omega) | fail) only [go_sem, h0, h3, h4, h5, hle, hne, hi9, Fspace, hsp, hfn, Int.not_le.2 hfn]
            refine ⟨_, _, rfl, q, d, f, hO, by omega, ?_, by omega, by omega, fun _ => hfn, ?_⟩
            · rw [if_pos (by omega), hw, curL, curL, if_pos hfn, if_pos hfn, wordsL, if_pos hsp]
            · simp only [go_sem, h0, h3, h4] <;> trivial
          · have hfn' : 0 ≤ f := by omega
            obtain ⟨q', H2, g1, g2, g3, g4, g5⟩ := app ((s.drop f.toNat).take (i - f.toNat))
            simp (disch := first | assumption | omega | (simp only [go_sem] <;> omega) | fail) only [go_sem, h0, h3, h4, h5, hle, hne, hi9, Fspace, hsp, hfn, hfn', g1]
            refine ⟨_, _, rfl, q', d ++ [(s.drop f.toNat).take (i - f.toNat)], -1, by rw [List.map_append]; exact g2, by simp; omega, ?_, by omega, by omega, fun _ => by omega, ?_⟩
            · rw [if_pos (by omega), hw, curL, curL, if_neg hfn, if_pos (by omega), wordsL, if_pos hsp, List.append_assoc]; rfl
            · simp only [go_sem, h0] <;> trivial
        | false =>
          by_cases hfn : f < 0
          · simp (disch := first | assumption | omega | (simp only [go_sem] <;> omega) | fail) only [go_sem, h0, h3, h4, h5, hle, hne, hi9, Fspace, hsp, hfn]
            refine ⟨_, _, rfl, q, d, i, hO, by omega, ?_, by omega, by omega, fun h => by omega, ?_⟩
            · rw [if_pos (by omega), hw, curL, curL, if_pos hfn, if_neg (by omega), wordsL, if_neg (by rw [hsp]; simp)]
              have : i + 1 - ((i : Nat) : Int).toNat = 1 := by omega
              rw [this, Int.toNat_natCast, drop_cons hi2]; rfl
            · simp only [go_sem, h0, h3, h4] <;> trivial
          · have hfn' : 0 ≤ f := by omega
            simp (disch := first | assumption | omega | (simp only [go_sem] <;> omega) | fail) only [go_sem, h0, h3, h4, h5, hle, hne, hi9, Fspace, hsp, hfn, hfn']
            refine ⟨_, _, rfl, q, d, f, hO, by omega, ?_, by omega, by omega, fun h => by omega, ?_⟩
            · rw [if_pos (by omega), hw, curL, curL, if_neg hfn, if_neg (by omega), wordsL, if_neg (by rw [hsp]; simp)]
              have e1 : i + 1 - f.toNat = i - f.toNat + 1 := by omega
              have e2 : (s.drop f.toNat)[i - f.toNat]? = some s[i] := by
                rw [List.getElem?_drop, show f.toNat + (i - f.toNat) = i by omega, List.getElem?_eq_getElem hi2]
              rw [e1, List.take_add_one, e2]; rfl
            · simp only [go_sem, h0, h3, h4] <;> trivial)
    (by
      rintro t H' ⟨q, d, f, hO, hd, hw, hf1, hf2, _, h0, h3, h4, h5⟩
      rw [if_neg (by omega)] at hw
      rw [← hL, E_loop, hL]
      have hle : ¬ ((s.length + 1 : Nat) : Int) ≤ s.length := by omega
      simp (disch := first | assumption | omega | (simp only [go_sem] <;> omega) | fail) only [go_sem, h0, h3, h4, h5, hle]
      refine ⟨_, _, _, rfl, rfl, q, ?_, ?_⟩
      · rw [hw]; exact hO.cat
      · simp only [go_sem, h3]; rw [hw])
    ⟨none, [], -1, rfl, Nat.zero_le _, by rw [if_pos (Nat.zero_le _)]; rfl, by omega, by omega, fun h => by omega, (by rw [← hT]; simp only [go_sem] <;> rfl), (by rw [← hT]; simp only [go_sem] <;> rfl), (by rw [← hT]; simp only [go_sem] <;> rfl), (by rw [← hT]; simp only [go_sem] <;> rfl)⟩
  rw [k1]
  have hj := fun p => Fjoin (sep := [32]) (p := p) (wordsL none s).length rfl k2 (by have := words_sum s none; simp [sumL] at this ⊢; omega)
  simp (disch := first | assumption | omega | (simp only [go_sem] <;> omega) | fail) only [go_sem, k3, hj]
  rfl
def sepG (g : List UInt8) (b : UInt8) : Bool := decide (b ∈ g)
theorem sepG_high {g : List UInt8} (hg : ∀ b ∈ g, b.toNat < 128) {b : UInt8} (h : 128 ≤ b.toNat) : sepG g b = false := by
  unfold sepG
  rw [decide_eq_false]
  intro hb
  have := hg b hb
  omega
theorem indexByte_mem (g : List UInt8) (b : UInt8) : decide (0 ≤ Lib.indexByte g b) = sepG g b := by
  unfold sepG
  induction g with
  | nil => rfl
  | cons x g ih =>
    have ge := Lib.indexByte_ge g b
    unfold Lib.indexByte
    by_cases h : x = b
    · subst h; simp
    · have h' : ¬ b = x := fun e => h e.symm
      rw [if_neg (by simpa using h)]
      by_cases h2 : Lib.indexByte g b < 0
      · rw [decide_eq_false (by omega)] at ih
        have : ¬ b ∈ g := of_decide_eq_false ih.symm
        have hm : Lib.indexByte g b = -1 := by omega
        rw [if_pos (by simpa using hm)]
        simp [h', this]
      · rw [decide_eq_true (by omega)] at ih
        have : b ∈ g := of_decide_eq_true ih.symm
        have hm : ¬ Lib.indexByte g b = -1 := by omega
        rw [if_neg (by simpa using hm)]
        simp [this]
        omega
def setG (g : List UInt8) : List Value := g.foldl (fun z c => z.set c.toNat (.bool true)) (List.replicate 256 (Value.bool false))
theorem setG_gen : ∀ (g : List UInt8) (z : List Value) (f : Nat → Bool), z.length = 256 → (∀ i, i < 256 → z[i]? = some (.bool (f i))) → (g.foldl (fun z c => z.set c.toNat (.bool true)) z).length = 256 ∧ ∀ i, i < 256 → (g.foldl (fun z c => z.set c.toNat (.bool true)) z)[i]? = some (.bool (f i || decide (UInt8.ofNat i ∈ g)))
  | [], z, f, h1, h2 => ⟨h1, fun i hi => by rw [List.foldl_nil, h2 i hi]; simp⟩
  | c :: g, z, f, h1, h2 => by
    rw [List.foldl_cons]
    have := setG_gen g (z.set c.toNat (.bool true)) (fun i => f i || decide (i = c.toNat)) (by simpa using h1) (fun i hi => by
      rw [List.getElem?_set]
      by_cases h : c.toNat = i
      · subst h
        rw [if_pos rfl, if_pos (by omega)]
        simp
      · have h' : ¬ i = c.toNat := fun e => h e.symm
        rw [if_neg h, h2 i hi]
        simp [h'])
    refine ⟨this.1, fun i hi => ?_⟩
    rw [this.2 i hi, Bool.or_assoc]
    congr 3
    have : (i = c.toNat) ↔ UInt8.ofNat i = c := by
      constructor
      · rintro rfl; exact UInt8.ofNat_toNat
      · rintro rfl; rw [UInt8.toNat_ofNat']; omega
    by_cases h1 : UInt8.ofNat i = c
    · simp [this.2 h1, h1]
    · have h2 : ¬ i = c.toNat := fun e => h1 (this.1 e)
      simp [h2, h1]
theorem setG_len (g : List UInt8) : (setG g).length = 256 := (setG_gen g _ (fun _ => false) (by simp) (fun i hi => by rw [List.getElem?_replicate, if_pos hi])).1
theorem setG_at (g : List UInt8) (b : UInt8) : (setG g)[b.toNat]? = some (.bool (sepG g b)) := by
  have := (setG_gen g (List.replicate 256 (Value.bool false)) (fun _ => false) (by simp) (fun i hi => by rw [List.getElem?_replicate, if_pos hi])).2 b.toNat b.toNat_lt
  rw [UInt8.ofNat_toNat, Bool.false_or] at this
  exact this
theorem setG_mem (g : List UInt8) (v : Value) (h : v ∈ setG g) : ∃ b, v = .bool b := by
  obtain ⟨i, hi, rfl⟩ := List.getElem_of_mem h
  have hi' : i < 256 := by rw [← setG_len g]; exact hi
  have := setG_at g (UInt8.ofNat i)
  rw [UInt8.toNat_ofNat', Nat.mod_eq_of_lt hi', List.getElem?_eq_getElem hi] at this
  exact ⟨_, Option.some.inj this⟩
theorem setG_one (g : List UInt8) : (setG g).all oneC = true := by
  rw [List.all_eq_true]
  intro v h
  obtain ⟨b, rfl⟩ := setG_mem g v h
  rfl
theorem setG_flat (g : List UInt8) : (setG g).all flat = true := by
  rw [List.all_eq_true]
  intro v h
  obtain ⟨b, rfl⟩ := setG_mem g v h
  rfl
theorem setG_step (g : List UInt8) (i : Nat) (h : i < g.length) : (setG (g.take i)).set g[i].toNat (.bool true) = setG (g.take (i + 1)) := by
  have e : g.take (i + 1) = g.take i ++ [g[i]] := by rw [List.take_add_one, List.getElem?_eq_getElem h]; rfl
  rw [e, setG, setG, List.foldl_append]; rfl
theorem FmkSet (g : List UInt8) (hg : ∀ b ∈ g, b.toNat < 128) (hg3 : g.length ≤ 1000000) (p : Nat) (H : Heap) : F 144 #[str g] p H = some (.returned (.tuple #[.agg (setG g).toArray, .bool true]), H) := by
  rw [F, F_pure (f := 144) (X := X) (cl := cl) rfl rfl rfl Tryz.func144 rfl (by simp only [go_sem]), Tryz.results144]
  have hal : allocC Tryz.prog 176 = some (setG []).toArray := al88Z
  simp (disch := first | assumption | omega | (simp only [go_sem] <;> omega) | fail) only [go_sem, hal]
  generalize hL : Code.loop _ = L
  generalize hT : upd _ 4 _ = T
  have hl0 := setG_len []
  obtain ⟨e, t', H', k1, rfl, ⟨fl, hfl, rfl⟩, k3⟩ := loop_up (P := Tryz.prog) (cl := cl) (X := X) (L := L) (p := 0) (t := T) (H := [⟨0, 176, (setG []).toArray, 0, false, []⟩]) g.length
    (fun i t H' => (∃ fl, fl ≤ 256 ∧ H' = [⟨0, 176, (setG (g.take i)).toArray, fl, false, []⟩]) ∧ t 0 = str g ∧ t 2 = .pointer (some ⟨0, 0, some 256⟩) ∧ t 4 = i64v i)
    (fun e t H' => e = .exit 0 ∧ (∃ fl, fl ≤ 256 ∧ H' = [⟨0, 176, (setG g).toArray, fl, false, []⟩]) ∧ t 2 = .pointer (some ⟨0, 0, some 256⟩))
    (by
      rintro i t H' hi ⟨⟨fl, hfl, rfl⟩, h0, h2, h4⟩
      left
      rw [← hL, E_loop, hL]
      have hlt : (i : Int) < g.length := by omega
      have hi9 := ix9 (l := g) (n := (i : Int)) (by omega) (by rw [Int.toNat_natCast]; exact List.getElem?_eq_getElem hi)
      have hb := hg g[i] (List.getElem_mem hi)
      have hn : ¬ (128 : Int) ≤ g[i].toNat := by omega
      have hln := setG_len (g.take i)
      have hst := setG_step g i hi
      have hz : ((g[i].toNat : Nat) : Int).toNat = g[i].toNat := rfl
      simp (disch := first | assumption | omega | (simp only [go_sem] <;> omega) | fail) only [go_sem, h0, h2, h4, hlt, hi9, hn, ia88Z, hz, putAll_one, Nat.zero_add, hln, hst]
      refine ⟨_, _, rfl, ⟨256, by omega, rfl⟩, ?_⟩
      simp only [go_sem, h0, h2] <;> rfl)
    (by
      rintro t H' ⟨⟨fl, hfl, rfl⟩, h0, h2, h4⟩
      rw [← hL, E_loop, hL]
      have hlt : ¬ (g.length : Int) < g.length := by omega
      simp (disch := first | assumption | omega | (simp only [go_sem] <;> omega) | fail) only [go_sem, h0, h2, h4, hlt]
      refine ⟨_, _, _, rfl, rfl, ⟨fl, hfl, ?_⟩, ?_⟩
      · rw [List.take_length]
      · simp only [go_sem, h2])
    ⟨⟨0, by omega, by rw [List.take_zero]⟩, (by rw [← hT]; simp only [go_sem] <;> rfl), (by rw [← hT]; simp only [go_sem, hl0]), (by rw [← hT]; simp only [go_sem] <;> rfl)⟩
  rw [k1]
  have hl := setG_len g
  have ho := setG_one g
  have hf := setG_flat g
  have hpa : putAll (setG g).toArray 0 (setG g) = (setG g).toArray := by rw [putAll_over (setG g) (setG g) 0 (by omega)]; simp
  have hex : (setG g).take 256 = setG g := by rw [← hl]; simp
  simp (disch := first | assumption | omega | (simp only [go_sem] <;> omega) | fail) only [go_sem, k3, st88Z, hl, ho, hpa, hex, hf]
theorem Fcontains (g : List UInt8) (A : Nat) (c : UInt8) (fl : Nat) (hfl : fl ≤ 256) (p : Nat) (H : Heap) (hH : H[A]? = some ⟨0, 176, (setG g).toArray, fl, false, []⟩) :
    F 145 #[.pointer (some ⟨A, 0, some 256⟩), .int .u8 c.toNat] p H = some (.returned (.bool (sepG g c)), H) := by
  rw [F, F_quiet (f := 145) (X := X) (cl := cl) rfl rfl rfl Tryz.func145 rfl, Tryz.results145]
  have hs := setG_len g
  have ha := setG_at g c
  have hc := c.toNat_lt
  simp (disch := first | omega | (simp only [List.size_toArray, hs, Int.toNat_natCast]; omega) | (simp only [go_sem]; done) | fail) only [go_sem, nilV_some, ia88Z, hH, ha]
def anyG (g : List UInt8) (s : List UInt8) : Int := match s.findIdx? (sepG g) with
  | some i => i
  | none => -1
theorem anyG_some {g s : List UInt8} {i : Nat} (hi : i < s.length) (h1 : sepG g s[i] = true) (h2 : ∀ j (hj : j < i), sepG g (s[j]'(by omega)) = false) : anyG g s = i := by
  have : s.findIdx? (sepG g) = some i := List.findIdx?_eq_some_iff_getElem.2 ⟨hi, h1, fun j hj => by rw [h2 j hj]; simp⟩
  unfold anyG
  rw [this]
theorem anyG_none {g s : List UInt8} (h2 : ∀ j (hj : j < s.length), sepG g s[j] = false) : anyG g s = -1 := by
  have : s.findIdx? (sepG g) = none := List.findIdx?_eq_none_iff.2 fun x hx => by
    obtain ⟨j, hj, rfl⟩ := List.getElem_of_mem hx
    exact h2 j hj
  unfold anyG
  rw [this]
theorem FindexAny (g : List UInt8) (hg : ∀ b ∈ g, b.toNat < 128) (hg2 : 2 ≤ g.length) (hg3 : g.length ≤ 1000000) (s : List UInt8) (hs : s.length ≤ 1099511627776) (p : Nat) (H : Heap) : F 111 #[str s, str g] p H = some (.returned (.int .i64 (anyG g s)), H) := by
  rw [F, F_pure (f := 111) (X := X) (cl := cl) rfl rfl rfl Tryz.func111 rfl (by simp only [go_sem]), Tryz.results111]
  have m1 : (g = []) = False := by simp; intro h; subst h; simp at hg2
  have m2 : ¬ (g.length : Int) = 1 := by omega
  by_cases h8 : (8 : Int) < s.length
  · have hal := al88Z
    have hz : (List.replicate 256 (Value.bool false)).length = 256 := by simp
    generalize (List.replicate 256 (Value.bool false)) = z at *
    have sl := setG_len g
    have hpa : putAll z.toArray 0 (setG g) = (setG g).toArray := by rw [putAll_over (setG g) z 0 (by omega)]; simp
    simp (disch := first | omega | exact setG_one g | (simp only [go_sem]; done) | (simp only [List.size_toArray, hz, sl]; done) | (simp only [List.size_toArray, hz, sl, true_and, and_true]; omega)) only [go_sem, m1, m2, F76, h8, FmkSet g hg hg3, hal, hz, st88Z, hpa, sl]
    generalize hL : Code.loop (.seq (.seq (.region 12 _ _) _) _) = L
    generalize hHH : ([⟨0, 176, (setG g).toArray, 256, false, []⟩] : Heap) = HH
    have hH0 : HH[0]? = some ⟨0, 176, (setG g).toArray, 256, false, []⟩ := by rw [← hHH]; rfl
    have key : ∀ (k i : Nat) (t : Nat → Value), i + k = s.length → (∀ j (hj : j < s.length), j < i → sepG g s[j] = false) → t 0 = str s → t 6 = .pointer (some ⟨0, 0, some 256⟩) → t 8 = .int .i64 i →
        ∃ e t', limR Tryz.prog cl X L 0 ⟨t, [], HH⟩ = some (e, ⟨t', [], HH⟩) ∧ ((e = .exit 0 ∧ anyG g s = -1) ∨ (e = .ret ∧ t' 4 = .int .i64 (anyG g s))) := by
      intro k
      induction k with
      | zero =>
        intro i t hi hn h0 h6 h8
        rw [← hL, E_loop, hL]
        have hlt : ¬ (i : Int) < s.length := by omega
        simp only [go_sem, h0, h6, h8, hlt]
        exact ⟨_, _, rfl, .inl ⟨rfl, anyG_none fun j hj => hn j hj (by omega)⟩⟩
      | succ k ih =>
        intro i t hi hn h0 h6 h8
        rw [← hL, E_loop, hL]
        have hil : i < s.length := by omega
        have hlt : (i : Int) < s.length := by omega
        have i1 : idxV Tryz.prog 9 (str s) (.int .i64 i) = some (.int .u8 s[i].toNat) := ix9 (by omega) (by rw [Int.toNat_natCast]; exact List.getElem?_eq_getElem hil)
        have f78 := Fcontains g 0 s[i] 256 (Nat.le_refl _) 0 HH hH0
        by_cases hq : sepG g s[i] = true
        · simp (disch := first | omega | (simp only [go_sem]; done) | fail) only [go_sem, h0, h6, h8, hlt, i1, f78, hq, bin_add]
          refine ⟨_, _, rfl, .inr ⟨rfl, ?_⟩⟩
          rw [anyG_some hil hq fun j hj => hn j _ hj]
          simp only [go_sem, h8]
        · simp (disch := first | omega | (simp only [go_sem]; done) | fail) only [go_sem, h0, h6, h8, hlt, i1, f78, hq, bin_add]
          generalize hT : upd _ 8 _ = T
          refine ih (i + 1) T (by omega) (fun j hj hji => ?_) (by rw [← hT]; simp only [go_sem, h0]) (by rw [← hT]; simp only [go_sem, h6]) (by rw [← hT]; simp only [go_sem] <;> rfl)
          rcases Nat.lt_or_ge j i with h1 | h1
          · exact hn j hj h1
          · obtain rfl : j = i := by omega
            exact Bool.eq_false_iff.2 fun h => hq h
    generalize hT : upd _ 8 _ = T
    obtain ⟨e, t', k1, k2⟩ := key s.length 0 T (by omega) (fun j _ h => by omega) (by rw [← hT]; simp only [go_sem]) (by rw [← hT]; simp only [go_sem]) (by rw [← hT]; simp only [go_sem] <;> rfl)
    rw [k1]
    rcases k2 with ⟨rfl, k2⟩ | ⟨rfl, k2⟩
    · simp only [go_sem, k2]
    · simp only [go_sem, k2]
  · simp (disch := first | omega | (simp only [go_sem]; done) | fail) only [go_sem, m1, m2, F76, h8]
    generalize hL : Code.loop _ = L
    have key : ∀ (k q : Nat) (t : Nat → Value) (H : Heap), s.length < q + k → (∀ j (hj : j < s.length), j < q → sepG g s[j] = false) → H[0]? = some (itB s q) → t 1 = str g → t 45 = .pointer (some ⟨0, 0, some 0⟩) →
        ∃ e t' H', limR Tryz.prog cl X L 0 ⟨t, [], H⟩ = some (e, ⟨t', [], H'⟩) ∧ ((e = .exit 2 ∧ anyG g s = -1) ∨ (e = .ret ∧ t' 4 = .int .i64 (anyG g s))) := by
      intro k
      induction k with
      | zero =>
        intro q t H hq hn hH h1 h45
        rw [← hL, E_loop, hL]
        have hlt : ¬ q < s.length := by omega
        simp only [go_sem, hH, hlt, h45]
        exact ⟨_, _, _, rfl, .inl ⟨rfl, anyG_none fun j hj => hn j hj (by omega)⟩⟩
      | succ k ih =>
        intro q t H hq hn hH h1 h45
        rw [← hL, E_loop, hL]
        have hAl := (List.getElem?_eq_some_iff.1 hH).1
        by_cases hlt : q < s.length
        · obtain ⟨d1, d2, d3⟩ := dec_spec s q hlt
          have d4 := dec_width s q
          have h70 := F70 g hg3 hg (dec s q).1 0
          have hres : decide ((0 : Int) ≤ (if (dec s q).1 < 128 then Lib.indexByte g (UInt8.ofNat (dec s q).1) else -1)) = sepG g s[q] := by
            by_cases hc : (dec s q).1 < 128
            · rw [if_pos hc, (d1 hc).1, UInt8.ofNat_toNat]
              exact indexByte_mem g s[q]
            · rw [if_neg hc]
              have := d2 (by omega)
              rw [sepG_high hg this]; rfl
          generalize hcw : dec s q = cw at *
          obtain ⟨c, wd⟩ := cw
          simp only at d1 d2 d3 d4 h70 hres
          generalize (if c < 128 then Lib.indexByte g (UInt8.ofNat c) else -1) = r at *
          cases hq2 : sepG g s[q] with
          | true =>
            rw [hq2] at hres
            have hr : (0 : Int) ≤ r := of_decide_eq_true hres
            simp (disch := first | omega | (simp only [go_sem]; done) | fail) only [go_sem, hH, hlt, h45, h1, hcw, h70, hr]
            refine ⟨_, _, _, rfl, .inr ⟨rfl, ?_⟩⟩
            rw [anyG_some hlt hq2 fun j hj => hn j _ hj]
            simp only [go_sem]
          | false =>
            rw [hq2] at hres
            have hr : ¬ (0 : Int) ≤ r := of_decide_eq_false hres
            simp (disch := first | omega | (simp only [go_sem]; done) | fail) only [go_sem, hH, hlt, h45, h1, hcw, h70, hr]
            generalize hT : upd _ 53 _ = T
            refine ih (q + wd) T _ (by omega) (fun j hj hji => ?_) (List.getElem?_set_self hAl) (by rw [← hT]; simp only [go_sem, h1]) (by rw [← hT]; simp only [go_sem, h45])
            rcases Nat.lt_or_ge j q with h1 | h1
            · exact hn j hj h1
            · by_cases h2 : j = q
              · subst h2; exact hq2
              · have := d3 (j - q) (by omega) (by omega) (by omega)
                have ej : q + (j - q) = j := by omega
                simp only [ej] at this
                exact sepG_high hg this
        · simp only [go_sem, hH, hlt, h45]
          exact ⟨_, _, _, rfl, .inl ⟨rfl, anyG_none fun j hj => hn j hj (by omega)⟩⟩
    generalize hT : upd _ 45 _ = T
    obtain ⟨e, t', H', k1, k2⟩ := key (s.length + 1) 0 T [itB s 0] (by omega) (fun j _ h => by omega) rfl (by rw [← hT]; simp only [go_sem]) (by rw [← hT]; simp only [go_sem])
    rw [k1]
    rcases k2 with ⟨rfl, k2⟩ | ⟨rfl, k2⟩
    · simp only [go_sem, k2]
    · simp only [go_sem, k2]
theorem suffix_eq (s q : List UInt8) : q.isSuffixOf s = (decide (q.length ≤ s.length) && decide (s.drop (s.length - q.length) = q)) := by
  rw [Bool.eq_iff_iff]
  simp only [List.isSuffixOf_iff_suffix, Bool.and_eq_true, decide_eq_true_eq]
  constructor
  · intro h; exact ⟨h.length_le, (List.suffix_iff_eq_drop.1 h).symm⟩
  · rintro ⟨_, h⟩; rw [← h]; exact List.drop_suffix _ _
theorem FslHasSuffix (s q : List UInt8) (hs : s.length ≤ 4611686018427387904) (p : Nat) (H : Heap) : F 166 #[str s, str q] p H = some (.returned (.bool (q.isSuffixOf s)), H) := by
  rw [F, F_pure (f := 166) (X := X) (cl := cl) rfl rfl rfl Tryz.func166 rfl (by simp only [go_sem]), Tryz.results166]
  rw [suffix_eq]
  by_cases h : (q.length : Int) ≤ s.length
  · have e : ((s.length : Int) - q.length).toNat = s.length - q.length := by omega
    have h' : q.length ≤ s.length := by omega
    simp (disch := first | assumption | omega | (simp only [go_sem] <;> omega) | fail) only [go_sem, h, bin_sub, e]
    simp [h']
  · have h' : ¬ q.length ≤ s.length := by omega
    simp (disch := first | assumption | omega | (simp only [go_sem] <;> omega) | fail) only [go_sem, h]
    simp [h']
theorem FHasSuffix (s q : List UInt8) (hs : s.length ≤ 4611686018427387904) (p : Nat) (H : Heap) : F 132 #[str s, str q] p H = some (.returned (.bool (q.isSuffixOf s)), H) := by
  rw [F, F_pure (f := 132) (X := X) (cl := cl) rfl rfl rfl Tryz.func132 rfl (by simp only [go_sem]), Tryz.results132]
  simp (disch := first | assumption | omega | (simp only [go_sem] <;> omega) | fail) only [go_sem, FslHasSuffix s q hs]
def trimSuf (s q : List UInt8) : List UInt8 := if q.isSuffixOf s = true then s.take (s.length - q.length) else s
theorem FslTrimSuffix (s q : List UInt8) (hs : s.length ≤ 4611686018427387904) (p : Nat) (H : Heap) : F 167 #[str s, str q] p H = some (.returned (str (trimSuf s q)), H) := by
  rw [F, F_pure (f := 167) (X := X) (cl := cl) rfl rfl rfl Tryz.func167 rfl (by simp only [go_sem]), Tryz.results167]
  unfold trimSuf
  cases h : q.isSuffixOf s with
  | true =>
    have hl := (List.isSuffixOf_iff_suffix.1 h).length_le
    have e : ((s.length : Int) - q.length).toNat = s.length - q.length := by omega
    simp (disch := first | assumption | omega | (simp only [go_sem] <;> omega) | fail) only [go_sem, FslHasSuffix s q hs, h, bin_sub, e]
  | false => simp (disch := first | assumption | omega | (simp only [go_sem] <;> omega) | fail) only [go_sem, FslHasSuffix s q hs, h]
theorem FTrimSuffix (s q : List UInt8) (hs : s.length ≤ 4611686018427387904) (p : Nat) (H : Heap) : F 133 #[str s, str q] p H = some (.returned (str (trimSuf s q)), H) := by
  rw [F, F_pure (f := 133) (X := X) (cl := cl) rfl rfl rfl Tryz.func133 rfl (by simp only [go_sem]), Tryz.results133]
  simp (disch := first | assumption | omega | (simp only [go_sem] <;> omega) | fail) only [go_sem, FslTrimSuffix s q hs]
def httpL : List UInt8 := [104, 116, 116, 112, 58, 47, 47]
def httpsL : List UInt8 := [104, 116, 116, 112, 115, 58, 47, 47]
def begL (w s : List UInt8) : Bool := decide (w.length ≤ s.length) && decide (lowL (s.take w.length) = w)
def schL (s : List UInt8) : Option (List UInt8 × List UInt8) := if begL httpL s = true then some (httpL, [58, 56, 48]) else if begL httpsL s = true then some (httpsL, [58, 52, 52, 51]) else none
def schV (s : List UInt8) : Value := match schL s with
  | some (a, b) => .tuple #[.agg #[str a, str b], .bool true]
  | none => .tuple #[.agg #[str [], str []], .bool false]
theorem flSch : fillW Tryz.prog 187 2 [(0, .agg #[.string ⟨#[104, 116, 116, 112, 58, 47, 47]⟩, .string ⟨#[58, 56, 48]⟩]), (1, .agg #[.string ⟨#[104, 116, 116, 112, 115, 58, 47, 47]⟩, .string ⟨#[58, 52, 52, 51]⟩])] = some (169, 2, #[.string ⟨#[104, 116, 116, 112, 58, 47, 47]⟩, .string ⟨#[58, 56, 48]⟩, .string ⟨#[104, 116, 116, 112, 115, 58, 47, 47]⟩, .string ⟨#[58, 52, 52, 51]⟩]) := by kernel_rfl
theorem Fof (s : List UInt8) (hs : s.length ≤ 1099511627776) (p : Nat) (H : Heap) : F 130 #[str s] p H = some (.returned (schV s), H) := by
  rw [F, F_pure (f := 130) (X := X) (cl := cl) rfl rfl rfl Tryz.func130 rfl (by simp only [go_sem]), Tryz.results130]
  have hfs := flSch
  have g1 := Fidentsmall (s.take 7) (by rw [List.length_take]; omega)
  have g2 := Fidentsmall (s.take 8) (by rw [List.length_take]; omega)
  have ok2 : okq (some (1, 0, 4)) 2 := by intro h; cases h
  simp (disch := first | assumption | omega | (simp only [go_sem] <;> omega) | fail) only [go_sem, flSch]
  generalize hL : Code.loop _ = L
  rw [← hL, E_loop, hL]
  have r1 : ((7 : Int)).toNat = 7 := rfl
  have r2 : ((8 : Int)).toNat = 8 := rfl
  have q1 : lowL (s.take 7) = [104, 116, 116, 112, 58, 47, 47] ↔ lowL (s.take 7) = httpL := Iff.rfl
  have key : schV s = if 7 ≤ s.length ∧ lowL (s.take 7) = httpL then .tuple #[.agg #[str httpL, str [58, 56, 48]], .bool true] else if 8 ≤ s.length ∧ lowL (s.take 8) = httpsL then .tuple #[.agg #[str httpsL, str [58, 52, 52, 51]], .bool true] else .tuple #[.agg #[str [], str []], .bool false] := by
    unfold schV schL begL
    simp only [Bool.and_eq_true, decide_eq_true_eq]
    have e1 : httpL.length = 7 := rfl
    have e2 : httpsL.length = 8 := rfl
    rw [e1, e2]
    by_cases h1 : 7 ≤ s.length ∧ lowL (s.take 7) = httpL
    · rw [if_pos h1, if_pos h1]
    · rw [if_neg h1, if_neg h1]
      by_cases h2 : 8 ≤ s.length ∧ lowL (s.take 8) = httpsL
      · rw [if_pos h2, if_pos h2]
      · rw [if_neg h2, if_neg h2]
  rw [key]
  clear key q1
  unfold httpL httpsL
  by_cases h7 : (7 : Int) ≤ s.length
  · by_cases h1 : lowL (s.take 7) = [104, 116, 116, 112, 58, 47, 47]
    · rw [if_pos ⟨by omega, h1⟩]
      simp (disch := first | assumption | omega | (simp only [go_sem] <;> omega) | fail) only [go_sem, h7, r1, g1, h1]
    · rw [if_neg (fun h => h1 h.2)]
      simp (disch := first | assumption | omega | (simp only [go_sem] <;> omega) | fail) only [go_sem, h7, r1, g1, h1]
      rw [← hL, E_loop, hL]
      by_cases h8 : (8 : Int) ≤ s.length
      · by_cases h2 : lowL (s.take 8) = [104, 116, 116, 112, 115, 58, 47, 47]
        · rw [if_pos ⟨by omega, h2⟩]
          simp (disch := first | assumption | omega | (simp only [go_sem] <;> omega) | fail) only [go_sem, h8, r2, g2, h2]
        · rw [if_neg (fun h => h2 h.2)]
          simp (disch := first | assumption | omega | (simp only [go_sem] <;> omega) | fail) only [go_sem, h8, r2, g2, h2]
          rw [← hL, E_loop, hL]
          simp (disch := first | assumption | omega | (simp only [go_sem] <;> omega) | fail) only [go_sem]
      · rw [if_neg (fun h => h8 (by omega))]
        simp (disch := first | assumption | omega | (simp only [go_sem] <;> omega) | fail) only [go_sem, h8, r2]
        rw [← hL, E_loop, hL]
        simp (disch := first | assumption | omega | (simp only [go_sem] <;> omega) | fail) only [go_sem]
  · rw [if_neg (fun h => h7 (by omega)), if_neg (fun h => h7 (by omega))]
    have h8 : ¬ (8 : Int) ≤ s.length := by omega
    simp (disch := first | assumption | omega | (simp only [go_sem] <;> omega) | fail) only [go_sem, h7, r1]
    rw [← hL, E_loop, hL]
    simp (disch := first | assumption | omega | (simp only [go_sem] <;> omega) | fail) only [go_sem, h8, r1]
    rw [← hL, E_loop, hL]
    simp (disch := first | assumption | omega | (simp only [go_sem] <;> omega) | fail) only [go_sem]
def stripP (port : List UInt8) : Nat → List UInt8 → List UInt8
  | 0, h => h
  | n + 1, h => if port.isSuffixOf h = true then stripP port n (h.take (h.length - port.length)) else h
def cutAtL (c : UInt8) (s : List UInt8) : List UInt8 := if 0 ≤ Lib.indexByte s c then s.take (Lib.indexByte s c).toNat else s
def restL (s : List UInt8) : List UInt8 := if ([47] : List UInt8).isPrefixOf (trimS (cutAtL 35 s)) = true then trimS (cutAtL 35 s) else 47 :: trimS (cutAtL 35 s)
def atL (u : List UInt8) : Nat := if 0 ≤ anyG [47, 63, 35] u then (anyG [47, 63, 35] u).toNat else u.length
def normL (s : List UInt8) : List UInt8 := match schL (trimS s) with
  | none => trimS s
  | some (name, port) =>
    let u := (trimS s).drop name.length
    name ++ (stripP port (lowL (u.take (atL u))).length (lowL (u.take (atL u))) ++ restL (u.drop (atL u)))
theorem trimS_len (s : List UInt8) : (trimS s).length ≤ 2 * s.length := by
  have h := words_sum s none
  simp only [Option.getD_none, List.length_nil, Nat.add_zero, if_true] at h
  have : ∀ l : List (List UInt8), ((l.intersperse [32]).flatten).length ≤ sumL l + l.length := by
    intro l
    induction l with
    | nil => simp
    | cons a l ih =>
      cases l with
      | nil => simp [sumL]
      | cons b l =>
        simp only [List.intersperse_cons_cons, List.flatten_cons, List.length_append, List.length_cons, List.length_nil, sumL, List.map_cons, List.sum_cons] at ih ⊢
        omega
  have := this (wordsL none s)
  unfold trimS
  omega
theorem anyG_lt (g s : List UInt8) : anyG g s < s.length ∨ anyG g s = -1 := by
  unfold anyG
  split
  · rename_i i h
    obtain ⟨h1, _⟩ := List.findIdx?_eq_some_iff_getElem.1 h
    left; omega
  · exact .inr rfl
theorem atL_le (u : List UInt8) : atL u ≤ u.length := by
  unfold atL
  have := anyG_lt [47, 63, 35] u
  split <;> omega
theorem schL_some {s name port : List UInt8} (h : schL s = some (name, port)) : (name = httpL ∧ port = [58, 56, 48] ∧ 7 ≤ s.length) ∨ (name = httpsL ∧ port = [58, 52, 52, 51] ∧ 8 ≤ s.length) := by
  unfold schL begL at h
  split at h
  · rename_i hb
    cases h
    simp only [Bool.and_eq_true, decide_eq_true_eq] at hb
    exact .inl ⟨rfl, rfl, hb.1⟩
  · split at h
    · rename_i hb
      cases h
      simp only [Bool.and_eq_true, decide_eq_true_eq] at hb
      exact .inr ⟨rfl, rfl, hb.1⟩
    · cases h
theorem Fnorm (s : List UInt8) (hs : s.length ≤ 100000) (p : Nat) (H : Heap) : F 101 #[str s] p H = some (.returned (str (normL s)), H) := by
  rw [F, F_pure (f := 101) (X := X) (cl := cl) rfl rfl rfl Tryz.func101 rfl (by simp only [go_sem]), Tryz.results101]
  have t1 := Ftrim s (by omega)
  have hl1 := trimS_len s
  unfold normL
  generalize trimS s = t at *
  have t2 := Fof t (by omega)
  unfold schV at t2
  cases hsc : schL t with
  | none =>
    simp only [hsc] at t2
    simp (disch := first | assumption | omega | (simp only [go_sem] <;> omega) | fail) only [go_sem, t1, t2]
  | some np =>
    obtain ⟨name, port⟩ := np
    have hsp := schL_some hsc
    have hn : name.length ≤ t.length ∧ port ≠ [] ∧ name.length ≤ 8 := by rcases hsp with ⟨rfl, rfl, h⟩ | ⟨rfl, rfl, h⟩ <;> exact ⟨h, by simp, by decide⟩
    simp only [hsc] at t2 ⊢
    have e1 : ((name.length : Nat) : Int).toNat = name.length := rfl
    have t3 := FindexAny [47, 63, 35] (by decide) (by decide) (by decide) (t.drop name.length) (by rw [List.length_drop]; omega)
    have hat := atL_le (t.drop name.length)
    generalize hu : t.drop name.length = u at *
    have hul : u.length ≤ t.length := by rw [← hu, List.length_drop]; omega
    have t4 := Fidentsmall (u.take (atL u)) (by rw [List.length_take]; omega)
    have t5 := F49 (u.drop (atL u)) 35 (by rw [List.length_drop]; omega)
    have hcl : (cutAtL 35 (u.drop (atL u))).length ≤ u.length := by
      unfold cutAtL
      split <;> simp <;> omega
    have t6 := Ftrim (cutAtL 35 (u.drop (atL u))) (by omega)
    have hrl := trimS_len (cutAtL 35 (u.drop (atL u)))
    have t7 := F32 (trimS (cutAtL 35 (u.drop (atL u)))) [47] 
    have hfin : ∀ pre, str (pre ++ restL (u.drop (atL u))) = str (if ([47] : List UInt8).isPrefixOf (trimS (cutAtL 35 (u.drop (atL u)))) = true then pre ++ trimS (cutAtL 35 (u.drop (atL u))) else pre ++ 47 :: trimS (cutAtL 35 (u.drop (atL u)))) := by
      intro pre
      unfold restL
      split <;> rfl
    have hhl : (lowL (u.take (atL u))).length ≤ u.length := by simp [lowL]; omega
    have hz1 : ((atL u : Nat) : Int).toNat = atL u := rfl
    have hz2 : (0 : Int) ≤ ((atL u : Nat) : Int) := by omega
    have loop : ∀ (L : Code) (p : Nat) (t : Nat → Value), (∀ t : Nat → Value, ∀ h : List UInt8, h.length ≤ u.length → t 0 = str u → t 3 = .pointer (some ⟨0, 0, some 2⟩) → t 5 = i64v (atL u) → t 6 = str h →
        (port.isSuffixOf h = true → ∃ t', limR Tryz.prog cl X L p ⟨t, [], [⟨0, 169, #[str name, str port], 2, false, []⟩]⟩ = limR Tryz.prog cl X L p ⟨t', [], [⟨0, 169, #[str name, str port], 2, false, []⟩]⟩ ∧ t' 0 = str u ∧ t' 3 = .pointer (some ⟨0, 0, some 2⟩) ∧ t' 5 = i64v (atL u) ∧ t' 6 = str (h.take (h.length - port.length))) ∧
        (port.isSuffixOf h = false → ∃ t', limR Tryz.prog cl X L p ⟨t, [], [⟨0, 169, #[str name, str port], 2, false, []⟩]⟩ = some (.exit 0, ⟨t', [], [⟨0, 169, #[str name, str port], 2, false, []⟩]⟩) ∧ t' 0 = str u ∧ t' 3 = .pointer (some ⟨0, 0, some 2⟩) ∧ t' 5 = i64v (atL u) ∧ t' 6 = str h)) →
        t 0 = str u → t 3 = .pointer (some ⟨0, 0, some 2⟩) → t 5 = i64v (atL u) → t 6 = str (lowL (u.take (atL u))) →
        ∃ t', limR Tryz.prog cl X L p ⟨t, [], [⟨0, 169, #[str name, str port], 2, false, []⟩]⟩ = some (.exit 0, ⟨t', [], [⟨0, 169, #[str name, str port], 2, false, []⟩]⟩) ∧ t' 0 = str u ∧ t' 3 = .pointer (some ⟨0, 0, some 2⟩) ∧ t' 5 = i64v (atL u) ∧ t' 6 = str (stripP port (lowL (u.take (atL u))).length (lowL (u.take (atL u)))) := by
      intro L p t step h0 h3 h5 h6
      have key : ∀ (k : Nat) (h : List UInt8) (t : Nat → Value), h.length ≤ k → h.length ≤ u.length → t 0 = str u → t 3 = .pointer (some ⟨0, 0, some 2⟩) → t 5 = i64v (atL u) → t 6 = str h →
          ∃ t', limR Tryz.prog cl X L p ⟨t, [], [⟨0, 169, #[str name, str port], 2, false, []⟩]⟩ = some (.exit 0, ⟨t', [], [⟨0, 169, #[str name, str port], 2, false, []⟩]⟩) ∧ t' 0 = str u ∧ t' 3 = .pointer (some ⟨0, 0, some 2⟩) ∧ t' 5 = i64v (atL u) ∧ t' 6 = str (stripP port k h) := by
        intro k
        induction k with
        | zero =>
          intro h t hk hku h0 h3 h5 h6
          obtain rfl : h = [] := List.eq_nil_of_length_eq_zero (by omega)
          refine (step t [] hku h0 h3 h5 h6).2 ?_
          rw [suffix_eq]
          have := List.length_pos_iff.2 hn.2.1
          simp; intro hp; rw [hp] at this; simp at this
        | succ k ih =>
          intro h t hk hku h0 h3 h5 h6
          cases hs : port.isSuffixOf h with
          | false =>
            obtain ⟨t', r1, r2, r3, r4, r5⟩ := (step t h hku h0 h3 h5 h6).2 hs
            exact ⟨t', r1, r2, r3, r4, by rw [stripP, if_neg (by rw [hs]; simp)]; exact r5⟩
          | true =>
            obtain ⟨t', r1, r2, r3, r4, r5⟩ := (step t h hku h0 h3 h5 h6).1 hs
            have hp := List.length_pos_iff.2 hn.2.1
            have hle := (List.isSuffixOf_iff_suffix.1 hs).length_le
            obtain ⟨t2, q1, q2⟩ := ih (h.take (h.length - port.length)) t' (by rw [List.length_take]; omega) (by rw [List.length_take]; omega) r2 r3 r4 r5
            exact ⟨t2, by rw [r1]; exact q1, by rw [stripP, if_pos hs]; exact q2⟩
      exact key _ _ t (Nat.le_refl _) hhl h0 h3 h5 h6
    have hstr : ∀ k (h : List UInt8), (stripP port k h).length ≤ h.length := by
      intro k
      induction k with
      | zero => intro h; simp [stripP]
      | succ k ih =>
        intro h
        rw [stripP]
        split
        · have := ih (h.take (h.length - port.length)); simp at this ⊢; omega
        · exact Nat.le_refl _
    have hat1 := anyG_lt [47, 63, 35] u
    by_cases ha0 : anyG [47, 63, 35] u < 0
    · have hae : u.length = atL u := by unfold atL; rw [if_neg (by omega)]
      have haI : (u.length : Int) = (atL u : Nat) := by omega
      simp (disch := first | assumption | omega | (simp only [go_sem] <;> omega) | fail) only [go_sem, t1, t2, e1, hu, t3, ha0, haI, t4, hz1]
      generalize hL : Code.loop _ = L
      generalize hT : upd _ 6 _ = T
      obtain ⟨t', k1, k2, k3, k4, k5⟩ := loop L 0 T (by
        intro t h hhu h0 h3 h5 h6
        have s1 := FHasSuffix h port (by omega)
        have s2 := FTrimSuffix h port (by omega)
        unfold trimSuf at s2
        refine ⟨fun hsf => ?_, fun hsf => ?_⟩
        · rw [← hL, E_loop, hL]
          simp only [hsf, if_true] at s2
          simp (disch := first | assumption | omega | (simp only [go_sem] <;> omega) | fail) only [go_sem, h0, h3, h5, h6, s1, s2, hsf]
          exact ⟨_, rfl, by simp only [go_sem, h0], by simp only [go_sem, h3], by simp only [go_sem, h5], by simp only [go_sem]⟩
        · rw [← hL, E_loop, hL]
          simp (disch := first | assumption | omega | (simp only [go_sem] <;> omega) | fail) only [go_sem, h0, h3, h5, h6, s1, hsf]
          exact ⟨_, rfl, by simp only [go_sem, h0], by simp only [go_sem, h3], by simp only [go_sem, h5], by simp only [go_sem, h6]⟩) (by rw [← hT]; simp only [go_sem] <;> rfl) (by rw [← hT]; simp only [go_sem] <;> rfl) (by rw [← hT]; simp only [go_sem] <;> rfl) (by rw [← hT]; simp only [go_sem] <;> rfl)
      rw [k1]
      have hsl := hstr (lowL (u.take (atL u))).length (lowL (u.take (atL u)))
      generalize stripP port (lowL (u.take (atL u))).length (lowL (u.take (atL u))) = host at *
      by_cases hc : 0 ≤ Lib.indexByte (u.drop (atL u)) 35
      · have hcut : cutAtL 35 (u.drop (atL u)) = (u.drop (atL u)).take (Lib.indexByte (u.drop (atL u)) 35).toNat := if_pos hc
        simp only [hc, if_true] at t5
        rw [hcut] at t6 t7 hrl hcl
        rw [← List.append_assoc, hfin, hcut]
        cases hpx : ([47] : List UInt8).isPrefixOf (trimS ((u.drop (atL u)).take (Lib.indexByte (u.drop (atL u)) 35).toNat)) with
        | true => simp (disch := first | assumption | omega | (simp only [go_sem] <;> omega) | fail) only [go_sem, k2, k3, k4, k5, hz1, hz2, t5, t6, t7, hpx, str_add]
        | false => simp (disch := first | assumption | omega | (simp only [go_sem] <;> omega) | fail) only [go_sem, k2, k3, k4, k5, hz1, hz2, t5, t6, t7, hpx, str_add]
      · have hcut : cutAtL 35 (u.drop (atL u)) = u.drop (atL u) := if_neg hc
        simp only [hc, if_false] at t5
        rw [hcut] at t6 t7 hrl hcl
        rw [← List.append_assoc, hfin, hcut]
        cases hpx : ([47] : List UInt8).isPrefixOf (trimS (u.drop (atL u))) with
        | true => simp (disch := first | assumption | omega | (simp only [go_sem] <;> omega) | fail) only [go_sem, k2, k3, k4, k5, hz1, hz2, t5, t6, t7, hpx, str_add]
        | false => simp (disch := first | assumption | omega | (simp only [go_sem] <;> omega) | fail) only [go_sem, k2, k3, k4, k5, hz1, hz2, t5, t6, t7, hpx, str_add]
    · have hae : anyG [47, 63, 35] u = (atL u : Nat) := by unfold atL; rw [if_pos (by omega)]; omega
      rw [hae] at ha0
      simp (disch := first | assumption | omega | (simp only [go_sem] <;> omega) | fail) only [go_sem, t1, t2, e1, hu, t3, hae, ha0, t4, hz1]
      generalize hL : Code.loop _ = L
      generalize hT : upd _ 6 _ = T
      obtain ⟨t', k1, k2, k3, k4, k5⟩ := loop L 0 T (by
        intro t h hhu h0 h3 h5 h6
        have s1 := FHasSuffix h port (by omega)
        have s2 := FTrimSuffix h port (by omega)
        unfold trimSuf at s2
        refine ⟨fun hsf => ?_, fun hsf => ?_⟩
        · rw [← hL, E_loop, hL]
          simp only [hsf, if_true] at s2
          simp (disch := first | assumption | omega | (simp only [go_sem] <;> omega) | fail) only [go_sem, h0, h3, h5, h6, s1, s2, hsf]
          exact ⟨_, rfl, by simp only [go_sem, h0], by simp only [go_sem, h3], by simp only [go_sem, h5], by simp only [go_sem]⟩
        · rw [← hL, E_loop, hL]
          simp (disch := first | assumption | omega | (simp only [go_sem] <;> omega) | fail) only [go_sem, h0, h3, h5, h6, s1, hsf]
          exact ⟨_, rfl, by simp only [go_sem, h0], by simp only [go_sem, h3], by simp only [go_sem, h5], by simp only [go_sem, h6]⟩) (by rw [← hT]; simp only [go_sem] <;> rfl) (by rw [← hT]; simp only [go_sem] <;> rfl) (by rw [← hT]; simp only [go_sem] <;> rfl) (by rw [← hT]; simp only [go_sem] <;> rfl)
      rw [k1]
      have hsl := hstr (lowL (u.take (atL u))).length (lowL (u.take (atL u)))
      generalize stripP port (lowL (u.take (atL u))).length (lowL (u.take (atL u))) = host at *
      by_cases hc : 0 ≤ Lib.indexByte (u.drop (atL u)) 35
      · have hcut : cutAtL 35 (u.drop (atL u)) = (u.drop (atL u)).take (Lib.indexByte (u.drop (atL u)) 35).toNat := if_pos hc
        simp only [hc, if_true] at t5
        rw [hcut] at t6 t7 hrl hcl
        rw [← List.append_assoc, hfin, hcut]
        cases hpx : ([47] : List UInt8).isPrefixOf (trimS ((u.drop (atL u)).take (Lib.indexByte (u.drop (atL u)) 35).toNat)) with
        | true => simp (disch := first | assumption | omega | (simp only [go_sem] <;> omega) | fail) only [go_sem, k2, k3, k4, k5, hz1, hz2, t5, t6, t7, hpx, str_add]
        | false => simp (disch := first | assumption | omega | (simp only [go_sem] <;> omega) | fail) only [go_sem, k2, k3, k4, k5, hz1, hz2, t5, t6, t7, hpx, str_add]
      · have hcut : cutAtL 35 (u.drop (atL u)) = u.drop (atL u) := if_neg hc
        simp only [hc, if_false] at t5
        rw [hcut] at t6 t7 hrl hcl
        rw [← List.append_assoc, hfin, hcut]
        cases hpx : ([47] : List UInt8).isPrefixOf (trimS (u.drop (atL u))) with
        | true => simp (disch := first | assumption | omega | (simp only [go_sem] <;> omega) | fail) only [go_sem, k2, k3, k4, k5, hz1, hz2, t5, t6, t7, hpx, str_add]
        | false => simp (disch := first | assumption | omega | (simp only [go_sem] <;> omega) | fail) only [go_sem, k2, k3, k4, k5, hz1, hz2, t5, t6, t7, hpx, str_add]
def keyL (id title link : List UInt8) : List UInt8 := if normL id ≠ [] then 105 :: normL id else if normL link ≠ [] then 108 :: normL link else 116 :: title
theorem restL_len (s : List UInt8) : (restL s).length ≤ 2 * s.length + 1 := by
  unfold restL
  have h1 := trimS_len (cutAtL 35 s)
  have h2 : (cutAtL 35 s).length ≤ s.length := by unfold cutAtL; split <;> simp <;> omega
  split <;> simp <;> omega
theorem stripP_len (port : List UInt8) : ∀ k (h : List UInt8), (stripP port k h).length ≤ h.length
  | 0, h => by simp [stripP]
  | k + 1, h => by
    rw [stripP]
    split
    · have := stripP_len port k (h.take (h.length - port.length)); simp at this ⊢; omega
    · exact Nat.le_refl _
theorem normL_len (s : List UInt8) : (normL s).length ≤ 10 * s.length + 10 := by
  unfold normL
  have h1 := trimS_len s
  split
  · omega
  · rename_i name port hsc
    have hsp := schL_some hsc
    have hn : name.length ≤ 8 := by rcases hsp with ⟨rfl, rfl, h⟩ | ⟨rfl, rfl, h⟩ <;> decide
    simp only [List.length_append]
    have h2 : (stripP port (lowL (((trimS s).drop name.length).take (atL ((trimS s).drop name.length)))).length (lowL (((trimS s).drop name.length).take (atL ((trimS s).drop name.length))))).length ≤ (trimS s).length :=
      Nat.le_trans (stripP_len _ _ _) (by simp only [lowL, List.length_map, List.length_take, List.length_drop]; omega)
    have h3 := restL_len (((trimS s).drop name.length).drop (atL ((trimS s).drop name.length)))
    simp only [List.length_drop] at h3
    omega
theorem Fkey (id title link text : List UInt8) (n : Int) (h1 : id.length ≤ 100000) (h2 : link.length ≤ 100000) (h3 : title.length ≤ 1099511627776) (p : Nat) (H : Heap) : F 71 #[.agg #[str id, str title, str link, str text, .int .i64 n]] p H = some (.returned (str (keyL id title link)), H) := by
  rw [F, F_pure (f := 71) (X := X) (cl := cl) rfl rfl rfl Tryz.func71 rfl (by simp only [go_sem]), Tryz.results71]
  have n1 := Fnorm id h1
  have n2 := Fnorm link h2
  have l1 := normL_len id
  have l2 := normL_len link
  unfold keyL
  generalize normL id = a at *
  generalize normL link = b at *
  by_cases ha : a = []
  · by_cases hb : b = []
    · simp (disch := first | assumption | omega | (simp only [go_sem] <;> omega) | fail) only [go_sem, n1, n2, ha, hb, str_add]
      simp
    · simp (disch := first | assumption | omega | (simp only [go_sem] <;> omega) | fail) only [go_sem, n1, n2, ha, hb, str_add]
      simp [hb]
  · simp (disch := first | assumption | omega | (simp only [go_sem] <;> omega) | fail) only [go_sem, n1, ha, str_add]
    simp [ha]
theorem atoi_ok {l : List UInt8} (h : ∀ b ∈ l, dg b = true) (hne : l ≠ []) (hl : l.length ≤ 6) : Lib.atoiAll l = .ok (val 0 l) := by
  cases l with
  | nil => exact absurd rfl hne
  | cons c r =>
    have hd := h c (by simp)
    unfold dg at hd
    have hd := of_decide_eq_true hd
    have hp : 10 ^ (c :: r).length ≤ 10 ^ 6 := Nat.pow_le_pow_right (by omega) hl
    have h6 : (10 : Nat) ^ 6 = 1000000 := by decide
    have hpar := parse_dig (c :: r) 0 h (by rw [Nat.zero_add, Nat.one_mul]; omega)
    have hlt : val 0 (c :: r) < 9223372036854775808 := by
      have key : ∀ (l : List UInt8) (acc m : Nat), (∀ b ∈ l, dg b = true) → acc < 10 ^ m → val acc l < 10 ^ (m + l.length) := by
        intro l
        induction l with
        | nil => intro acc m _ h; simpa [val_nil] using h
        | cons b l ih =>
          intro acc m h1 h2
          have hd := h1 b (by simp)
          unfold dg at hd
          have hd := of_decide_eq_true hd
          rw [val_cons, List.length_cons, show m + (l.length + 1) = m + 1 + l.length by omega]
          exact ih _ (m + 1) (fun x hx => h1 x (List.mem_cons_of_mem _ hx)) (by rw [Nat.pow_succ]; omega)
      have := key (c :: r) 0 0 h (by decide)
      rw [Nat.zero_add] at this
      omega
    unfold Lib.atoiAll
    simp only
    have n1 : ¬ (c.toNat = 43 ∨ c.toNat = 45) := by omega
    have n2 : ¬ c.toNat = 45 := by omega
    rw [if_neg n1]
    unfold Lib.parseMag
    rw [if_neg (by simp), hpar]
    simp only
    rw [if_neg (by omega), if_neg (by omega), if_neg n2]
theorem errV_dig {l : List UInt8} (h : ∀ b ∈ l, dg b = true) (hne : l ≠ []) (hl : l.length ≤ 6) : errV l = .nilIface := by unfold errV; rw [atoi_ok h hne hl]
def dropEnd (q : UInt8 → Bool) (s : List UInt8) : List UInt8 := (s.reverse.dropWhile q).reverse
theorem FtrimL (g : List UInt8) (s : List UInt8) (hs : s.length ≤ 4611686018427387904) {A fl : Nat} (hfl : fl ≤ 256) (p : Nat) (H : Heap) (hH : H[A]? = some ⟨0, 176, (setG g).toArray, fl, false, []⟩) :
    F 210 #[str s, .pointer (some ⟨A, 0, some 256⟩)] p H = some (.returned (str (s.dropWhile (sepG g))), H) := by
  rw [F, F_quiet (f := 210) (X := X) (cl := cl) rfl rfl rfl Tryz.func210 rfl, Tryz.results210]
  simp only [go_sem]
  generalize hL : Code.loop _ = L
  generalize hT : upd _ 4 _ = T
  obtain ⟨e, t', H', k1, rfl, rfl, k2⟩ := loop_down (P := Tryz.prog) (cl := cl) (X := X) (L := L) (p := H.length) (t := T) (H := H) (k := s.length)
    (fun k t H' => H' = H ∧ ∃ u, u.length ≤ k ∧ u.length ≤ s.length ∧ s.dropWhile (sepG g) = u.dropWhile (sepG g) ∧ t 0 = str u ∧ t 1 = .pointer (some ⟨A, 0, some 256⟩))
    (fun e t H' => e = .exit 0 ∧ H' = H ∧ t 0 = str (s.dropWhile (sepG g)))
    (by
      rintro k t H' ⟨rfl, u, hk, hu, hd, h0, h1⟩
      rw [← hL, E_loop, hL]
      cases u with
      | nil =>
        right
        simp (disch := first | assumption | omega | (simp only [go_sem] <;> omega) | fail) only [go_sem, h0, h1]
        refine ⟨_, _, _, rfl, rfl, rfl, ?_⟩
        simp only [go_sem, h0]
        rw [hd]; rfl
      | cons c r =>
        have hlt : (0 : Int) < ((c :: r).length : Int) := by simp
        have hi9 := ix9 (l := c :: r) (n := 0) (b := c) (by omega) rfl
        have hc := Fcontains g A c fl hfl
        simp only [List.length_cons] at hk hu hlt
        cases hx : sepG g c with
        | true =>
          left
          rw [hx] at hc
          simp (disch := first | assumption | omega | (simp only [go_sem] <;> omega) | fail) only [go_sem, h0, h1, hlt, hi9, hc, hH]
          refine ⟨k - 1, _, _, by omega, rfl, rfl, r, by omega, by omega, ?_, ?_⟩
          · rw [hd, List.dropWhile_cons, if_pos hx]
          · simp only [go_sem, h1] <;> trivial
        | false =>
          right
          rw [hx] at hc
          simp (disch := first | assumption | omega | (simp only [go_sem] <;> omega) | fail) only [go_sem, h0, h1, hlt, hi9, hc, hH]
          refine ⟨_, _, _, rfl, rfl, rfl, ?_⟩
          simp only [go_sem, h0]
          rw [hd, List.dropWhile_cons, if_neg (by rw [hx]; simp)])
    ⟨rfl, s, Nat.le_refl _, Nat.le_refl _, rfl, (by rw [← hT]; simp only [go_sem] <;> rfl), (by rw [← hT]; simp only [go_sem] <;> rfl)⟩
  rw [k1]
  simp (disch := first | assumption | omega | (simp only [go_sem] <;> omega) | fail) only [go_sem, k2]
theorem dropEnd_snoc (q : UInt8 → Bool) (u : List UInt8) (c : UInt8) : dropEnd q (u ++ [c]) = if q c = true then dropEnd q u else u ++ [c] := by
  unfold dropEnd
  rw [List.reverse_append, List.reverse_cons, List.reverse_nil, List.nil_append, List.singleton_append, List.dropWhile_cons]
  split
  · rfl
  · simp
theorem FtrimR (g : List UInt8) (s : List UInt8) (hs : s.length ≤ 4611686018427387904) {A fl : Nat} (hfl : fl ≤ 256) (p : Nat) (H : Heap) (hH : H[A]? = some ⟨0, 176, (setG g).toArray, fl, false, []⟩) :
    F 211 #[str s, .pointer (some ⟨A, 0, some 256⟩)] p H = some (.returned (str (dropEnd (sepG g) s)), H) := by
  rw [F, F_quiet (f := 211) (X := X) (cl := cl) rfl rfl rfl Tryz.func211 rfl, Tryz.results211]
  simp only [go_sem]
  generalize hL : Code.loop _ = L
  generalize hT : upd _ 4 _ = T
  obtain ⟨e, t', H', k1, rfl, rfl, k2⟩ := loop_down (P := Tryz.prog) (cl := cl) (X := X) (L := L) (p := H.length) (t := T) (H := H) (k := s.length)
    (fun k t H' => H' = H ∧ ∃ u, u.length ≤ k ∧ u.length ≤ s.length ∧ dropEnd (sepG g) s = dropEnd (sepG g) u ∧ t 0 = str u ∧ t 1 = .pointer (some ⟨A, 0, some 256⟩))
    (fun e t H' => e = .exit 0 ∧ H' = H ∧ t 0 = str (dropEnd (sepG g) s))
    (by
      rintro k t H' ⟨rfl, u, hk, hu, hd, h0, h1⟩
      rw [← hL, E_loop, hL]
      rcases List.eq_nil_or_concat u with rfl | ⟨r, c, rfl⟩
      · right
        simp (disch := first | assumption | omega | (simp only [go_sem] <;> omega) | fail) only [go_sem, h0, h1]
        refine ⟨_, _, _, rfl, rfl, rfl, ?_⟩
        simp only [go_sem, h0]
        rw [hd]; rfl
      · rw [List.concat_eq_append] at *
        have hln : (r ++ [c]).length = r.length + 1 := by simp
        rw [hln] at hk hu
        have hlt : (0 : Int) < ((r.length + 1 : Nat) : Int) := by omega
        have e1 : (((r.length + 1 : Nat) : Int) - 1) = (r.length : Nat) := by omega
        have hi9 := ix9 (l := r ++ [c]) (n := (r.length : Nat)) (b := c) (by omega) (by rw [Int.toNat_natCast]; simp)
        have hc := Fcontains g A c fl hfl
        have hsl : (r ++ [c]).take r.length = r := by simp
        have hlw : ∀ {H : Heap}, lenW Tryz.prog 9 H (str (r ++ [c])) = some (.int .i64 ((r.length + 1 : Nat) : Int)) := by intro H; rw [lw9, hln]
        rw [dropEnd_snoc] at hd
        generalize hw : r ++ [c] = w at *
        cases hx : sepG g c with
        | true =>
          left
          rw [hx] at hc hd
          simp (disch := first | assumption | omega | (simp only [go_sem] <;> omega) | fail) only [go_sem, h0, h1, hlw, hlt, e1, bin_sub, hi9, hc, hH, hsl]
          refine ⟨k - 1, _, _, by omega, rfl, rfl, r, by omega, by omega, ?_, ?_⟩
          · rw [hd]; rfl
          · simp only [go_sem, h1] <;> trivial
        | false =>
          right
          rw [hx] at hc hd
          simp (disch := first | assumption | omega | (simp only [go_sem] <;> omega) | fail) only [go_sem, h0, h1, hlw, hlt, e1, bin_sub, hi9, hc, hH]
          refine ⟨_, _, _, rfl, rfl, rfl, ?_⟩
          simp only [go_sem, h0]
          rw [hd]; rfl)
    ⟨rfl, s, Nat.le_refl _, Nat.le_refl _, rfl, (by rw [← hT]; simp only [go_sem] <;> rfl), (by rw [← hT]; simp only [go_sem] <;> rfl)⟩
  rw [k1]
  simp (disch := first | assumption | omega | (simp only [go_sem] <;> omega) | fail) only [go_sem, k2]
def trimG (g s : List UInt8) : List UInt8 := (dropEnd (sepG g) s).dropWhile (sepG g)
theorem dropEnd_len (q : UInt8 → Bool) (s : List UInt8) : (dropEnd q s).length ≤ s.length := by
  unfold dropEnd
  rw [List.length_reverse]
  exact Nat.le_trans (List.dropWhile_sublist q).length_le (by simp)
theorem FstrTrim (g : List UInt8) (hg : ∀ b ∈ g, b.toNat < 128) (hg2 : 2 ≤ g.length) (hg3 : g.length ≤ 1000000) (s : List UInt8) (hs : s.length ≤ 1099511627776) (p : Nat) (H : Heap) : F 194 #[str s, str g] p H = some (.returned (str (trimG g s)), H) := by
  rw [F, F_pure (f := 194) (X := X) (cl := cl) rfl rfl rfl Tryz.func194 rfl (by simp only [go_sem]), Tryz.results194]
  have m1 : (g = []) = False := by simp; intro h; subst h; simp at hg2
  have m2 : ¬ (g.length : Int) = 1 := by omega
  by_cases h0 : s = []
  · subst h0
    simp (disch := first | assumption | omega | (simp only [go_sem] <;> omega) | fail) only [go_sem, m1, m2]
    rfl
  · have ms := FmkSet g hg hg3
    have hal : allocC Tryz.prog 176 = some (setG []).toArray := al88Z
    have hl0 := setG_len []
    have hl := setG_len g
    have ho := setG_one g
    have hpa : putAll (setG []).toArray 0 (setG g) = (setG g).toArray := by rw [putAll_over (setG g) (setG []) 0 (by omega)]; simp [hl, hl0]
    have r1 := FtrimR g s (by omega) (A := 0) (Nat.le_refl 256)
    have r2 := FtrimL g (dropEnd (sepG g) s) (by have := dropEnd_len (sepG g) s; omega) (A := 0) (Nat.le_refl 256)
    simp (disch := first | assumption | omega | (simp only [go_sem] <;> omega) | fail) only [go_sem, m1, m2, h0, ms, hal, st88Z, hl, hl0, ho, hpa, r1, r2]
    rfl
theorem finishq_normal {P : Program} (rs : Array ResultVar) (H H' : Heap) (t : Nat → Value) : finish P true rs H (some (.normal, ⟨t, [], H'⟩)) = (resOf P rs ⟨t, [], H'⟩).bind fun v => some (.returned v, if ground v = true then H else H') := by
  unfold finish
  simp only [Option.bind_some, Bool.true_and]
  cases resOf P rs ⟨t, [], H'⟩ <;> rfl
theorem finishq_panic {P : Program} (q : Bool) (rs : Array ResultVar) (H H' : Heap) (t : Nat → Value) (ch : List PanicEntry) : finish P q rs H (some (.panic ch, ⟨t, [], H'⟩)) = some (.panicked ch, H') := (rfl)
theorem stepF_panic (t : Nat → Value) (ds : List Deferred) (d : Option Tmp) (ch : List PanicEntry) (H : Heap) : stepF t ds d (some (.panicked ch, H)) = some (.panic ch, ⟨t, ds, H⟩) := (rfl)
theorem blockOut_panic (id : Nat) (ch : List PanicEntry) (s : St) : blockOut id (some (.panic ch, s)) = some (.panic ch, s) := (rfl)
attribute [go_sem] finishq_normal finishq_panic stepF_panic blockOut_panic andThen_panic
theorem trimG_nil (g s : List UInt8) : trimG g s = [] ↔ s.all (sepG g) = true := by
  unfold trimG dropEnd
  have dw : ∀ (l : List UInt8), l.dropWhile (sepG g) = [] ↔ ∀ x ∈ l, sepG g x = true := by
    intro l
    induction l with
    | nil => simp
    | cons c r ih =>
      rw [List.dropWhile_cons]
      split
      · rename_i h; rw [ih]; simp [h]
      · rename_i h
        simp only [reduceCtorEq, false_iff]
        intro hh
        exact h (hh c (by simp))
  constructor
  · intro h
    rw [List.all_eq_true]
    by_cases hz : s.reverse.dropWhile (sepG g) = []
    · rw [dw] at hz
      intro x hx
      exact hz x (by simpa using hx)
    · exfalso
      rw [dw] at h
      have h2 := List.head_dropWhile_not (sepG g) hz
      have := h _ (List.mem_reverse.2 (List.head_mem hz))
      rw [this] at h2
      cases h2
  · intro h
    rw [List.all_eq_true] at h
    have : s.reverse.dropWhile (sepG g) = [] := (dw _).2 fun x hx => h x (by simpa using hx)
    rw [this]; rfl
def digG : List UInt8 := [48, 49, 50, 51, 52, 53, 54, 55, 56, 57]
theorem digG_tab : ∀ n : Fin 256, sepG digG (UInt8.ofNat n.val) = dg (UInt8.ofNat n.val) := by decide +kernel
theorem digG_dg (b : UInt8) : sepG digG b = dg b := by
  have := digG_tab ⟨b.toNat, b.toNat_lt⟩
  simpa only [UInt8.ofNat_toNat] using this
theorem nilT : binV Tryz.prog true .eql 159 .nilIface .nilIface = some (.bool true) := by kernel_rfl
def digL (s : List UInt8) : Option Int := if 1 ≤ s.length ∧ s.length ≤ 2 ∧ s.all dg = true then some (val 0 s) else none
theorem Fdigits (s : List UInt8) (hs : s.length ≤ 1099511627776) (p : Nat) (H : Heap) : F 160 #[str s] p H = some (.returned (.tuple #[.int .i64 ((digL s).getD 0), .bool (digL s).isSome]), H) := by
  rw [F, F_pure (f := 160) (X := X) (cl := cl) rfl rfl rfl Tryz.func160 rfl (by simp only [go_sem]), Tryz.results160]
  have tr := FstrTrim digG (by decide) (by decide) (by decide) s hs
  have hall : s.all (sepG digG) = s.all dg := by congr 1; funext b; exact digG_dg b
  have htn := trimG_nil digG s
  rw [hall] at htn
  have ha := FAtoi s (by omega)
  unfold digL
  unfold digG at tr
  by_cases h1 : (s.length : Int) < 1
  · rw [if_neg (fun h => by omega)]
    simp (disch := first | assumption | omega | (simp only [go_sem] <;> omega) | fail) only [go_sem, h1]
    rfl
  · by_cases h2 : (2 : Int) < s.length
    · rw [if_neg (fun h => by omega)]
      simp (disch := first | assumption | omega | (simp only [go_sem] <;> omega) | fail) only [go_sem, h1, h2]
      rfl
    · cases h3 : s.all dg with
      | false =>
        rw [if_neg (fun h => by simp at h)]
        have htn' : ¬ trimG [48, 49, 50, 51, 52, 53, 54, 55, 56, 57] s = [] := fun h => by have := htn.1 h; rw [h3] at this; cases this
        simp (disch := first | assumption | omega | (simp only [go_sem] <;> omega) | fail) only [go_sem, h1, h2, tr, htn']
        rfl
      | true =>
        rw [if_pos ⟨by omega, by omega, rfl⟩]
        have htn' : trimG [48, 49, 50, 51, 52, 53, 54, 55, 56, 57] s = [] := htn.2 h3
        have hd : ∀ b ∈ s, dg b = true := by rw [List.all_eq_true] at h3; exact h3
        have hne : s ≠ [] := by rintro rfl; simp at h1
        have he := errV_dig hd hne (by omega)
        have hv := atoi_dig hd hne (by omega)
        have hn1 : binV Tryz.prog true .eql 159 .nilIface .nilIface = some (.bool true) := nilT
        simp (disch := first | assumption | omega | (simp only [go_sem] <;> omega) | fail) only [go_sem, h1, h2, tr, htn', ha, he, hv, hn1]
        rfl
def cronP : List PanicEntry := [{ v := .iface 131 (.agg #[]), recovered := false }]
theorem Funless (b : Bool) (p : Nat) (H : Heap) : F 83 #[.bool b] p H = some (if b = true then .returned (.tuple #[]) else .panicked cronP, H) := by
  rw [F, F_quiet (f := 83) (X := X) (cl := cl) rfl rfl rfl Tryz.func83 rfl, Tryz.results83]
  cases b with
  | true => simp (disch := first | assumption | omega | (simp only [go_sem] <;> omega) | fail) only [go_sem]
  | false =>
    simp (disch := first | assumption | omega | (simp only [go_sem] <;> omega) | fail) only [go_sem]
    rfl
def maxW (P : Program) (a b : Value) : Option Value := if #[a, b].all flat = true then (pureRun P (Builtin.max_ #[] 0 #[a, b])).bind fun v => if flat v = true then some v else none else none
theorem ev_max {P : Program} {cl : FuncId → Nat} {fn : Fn'} {dq : Bool} {p d : Nat} {t : Nat → Value} {ds : List Deferred} {H : Heap} (x y : Operand) (T T' : TypeId) : evOp fn P cl dq p (.call ⟨.builtin .max, #[x, y], #[T, T']⟩) (some d) ⟨t, ds, H⟩ = stepV t ds H d (maxW P (St.eval ⟨t, ds, H⟩ x) (St.eval ⟨t, ds, H⟩ y)) := by
  refine evOp_vR ?_
  simp only [aexec, acall, abuiltin, List.map_toArray, List.map_cons, List.map_nil, maxW]
  split <;> rfl
theorem max_int {P : Program} (k : IntKind) (a b : Int) : maxW P (.int k a) (.int k b) = some (.int k (if a < b then b else a)) := by
  unfold maxW
  rw [if_pos (by simp [flat])]
  rfl
attribute [go_sem] ev_max max_int
structure FieldL where
  low : Int
  high : Int
  names : List UInt8
  over : Int
def FieldL.v (f : FieldL) : Value := .agg #[.int .i64 f.low, .int .i64 f.high, str f.names, .int .i64 f.over]
structure FieldL.Ok (f : FieldL) : Prop where
  l0 : 0 ≤ f.low
  l1 : f.low ≤ f.high
  h1 : f.high ≤ 100
  o0 : f.over = 0 ∨ f.over = f.high + 1
  n1 : f.names.length ≤ 100
def nameGo (w : List UInt8) : Nat → List UInt8 → Int → Int
  | m, a :: b :: c :: r, acc => nameGo w (m + 1) r (if [a, b, c] = w then (m : Nat) else acc)
  | _, _, acc => acc
def nameI (names w : List UInt8) : Int := nameGo w 0 names (-1)
def fnumL (f : FieldL) (s : List UInt8) : Option Int := (match digL s with
  | some n => some n
  | none => if 0 ≤ nameI f.names (lowL s) then some (f.low + nameI f.names (lowL s)) else none).bind fun n => if f.low ≤ n ∧ n ≤ max f.high f.over then some n else none
def endC (x : Option Value) : Ending := match x with
  | some v => .returned v
  | none => .panicked cronP
theorem nameGo_bound (w : List UInt8) (B : Int) : ∀ (m : Nat) (l : List UInt8) (acc : Int), -1 ≤ acc → acc ≤ B → (m : Int) + l.length ≤ B → -1 ≤ nameGo w m l acc ∧ nameGo w m l acc ≤ B
  | m, a :: b :: c :: r, acc, h1, h2, h3 => by
    rw [nameGo]
    simp only [List.length_cons] at h3
    exact nameGo_bound w B (m + 1) r (if [a, b, c] = w then (m : Nat) else acc) (by split <;> omega) (by split <;> omega) (by omega)
  | m, [], acc, h1, h2, _ => ⟨h1, h2⟩
  | m, [_], acc, h1, h2, _ => ⟨h1, h2⟩
  | m, [_, _], acc, h1, h2, _ => ⟨h1, h2⟩
theorem nameGo_end (w : List UInt8) (m : Nat) (l : List UInt8) (acc : Int) (h : l.length < 3) : nameGo w m l acc = acc := by
  match l, h with
  | [], _ => rfl
  | [_], _ => rfl
  | [_, _], _ => rfl
theorem nameGo_step (w : List UInt8) (m : Nat) (l : List UInt8) (acc : Int) (h : 3 ≤ l.length) : nameGo w m l acc = nameGo w (m + 1) (l.drop 3) (if l.take 3 = w then (m : Nat) else acc) := by
  match l, h with
  | a :: b :: c :: r, _ => rfl
theorem Fnumber (f : FieldL) (hf : f.Ok) (s : List UInt8) (hs : s.length ≤ 1099511627) {p : Nat} {H : Heap} : ∃ Z, F 161 #[f.v, str s] p H = some (endC ((fnumL f s).map (.int .i64 ·)), H ++ Z) ∧ ((fnumL f s).isSome = true → Z = []) := by
  rw [F, F_quiet (f := 161) (X := X) (cl := cl) rfl rfl rfl Tryz.func161 rfl, Tryz.results161]
  obtain ⟨low, high, names, over⟩ := f
  obtain ⟨hl0, hl1, hh1, ho0, hn1⟩ := hf
  simp only at hl0 hl1 hh1 ho0 hn1
  simp only [FieldL.v]
  have hd := Fdigits s (by omega)
  have hmax : (if high < over then over else high) = max high over := by split <;> omega
  have hfn : fnumL ⟨low, high, names, over⟩ s = (match digL s with
    | some n => some n
    | none => if 0 ≤ nameI names (lowL s) then some (low + nameI names (lowL s)) else none).bind fun n => if low ≤ n ∧ n ≤ max high over then some n else none := rfl
  rw [hfn]
  cases hdl : digL s with
  | some n =>
    simp only [hdl, Option.getD_some, Option.isSome_some] at hd
    simp only [Option.bind_some]
    by_cases h1 : low ≤ n
    · by_cases h2 : n ≤ max high over
      · rw [if_pos ⟨h1, h2⟩]
        simp (disch := first | assumption | omega | (simp only [go_sem] <;> omega) | fail) only [go_sem, hd, h1, hmax, h2, Funless]
        exact ⟨[], by rw [List.append_nil]; rfl, fun _ => rfl⟩
      · rw [if_neg (fun h => h2 h.2)]
        simp (disch := first | assumption | omega | (simp only [go_sem] <;> omega) | fail) only [go_sem, hd, h1, hmax, h2, Funless]
        exact ⟨_, rfl, fun h => by cases h⟩
    · rw [if_neg (fun h => h1 h.1)]
      simp (disch := first | assumption | omega | (simp only [go_sem] <;> omega) | fail) only [go_sem, hd, h1, Funless]
      exact ⟨_, rfl, fun h => by cases h⟩
  | none =>
    simp only [hdl, Option.getD_none, Option.isSome_none] at hd
    simp only
    have hsm := Fcronsmall s (by omega)
    have hnb := nameGo_bound (lowL s) 100 0 names (-1) (by omega) (by omega) (by simp; omega)
    simp (disch := first | assumption | omega | (simp only [go_sem] <;> omega) | fail) only [go_sem, hd]
    generalize hL : Code.loop _ = L
    generalize hT : upd _ 8 _ = T
    obtain ⟨e, t', H', k1, rfl, rfl, k2, k3, k4⟩ := loop_up (P := Tryz.prog) (cl := cl) (X := X) (L := L) (p := H.length) (t := T) (H := H ++ [⟨0, 136, #[.int .i64 low, .int .i64 high, str names, .int .i64 over], 0, false, []⟩]) (names.length / 3)
      (fun m t H' => H' = H ++ [⟨0, 136, #[.int .i64 low, .int .i64 high, str names, .int .i64 over], 0, false, []⟩] ∧ t 1 = str s ∧ t 2 = .pointer (some ⟨H.length, 0, some 4⟩) ∧ t 8 = i64v ((3 * m : Nat) : Int) ∧ ∃ acc, t 7 = i64v acc ∧ nameI names (lowL s) = nameGo (lowL s) m (names.drop (3 * m)) acc)
      (fun e t H' => e = .exit 0 ∧ H' = H ++ [⟨0, 136, #[.int .i64 low, .int .i64 high, str names, .int .i64 over], 0, false, []⟩] ∧ t 1 = str s ∧ t 2 = .pointer (some ⟨H.length, 0, some 4⟩) ∧ t 7 = i64v (nameI names (lowL s)))
      (by
        rintro m t H' hm ⟨rfl, h1, h2, h8, acc, h7, hacc⟩
        left
        rw [← hL, E_loop, hL]
        have hle : ((3 * m : Nat) : Int) + 3 ≤ names.length := by omega
        have e1 : (((3 * m : Nat) : Int) + 3).toNat - 3 * m = 3 := by omega
        have e2 : ((3 * m : Nat) : Int).toNat = 3 * m := rfl
        have e3 : (((3 * m : Nat) : Int)).tdiv 3 = (m : Nat) := by rw [Int.tdiv_eq_ediv_of_nonneg (by omega)]; omega
        rw [nameGo_step _ _ _ _ (by rw [List.length_drop]; omega), List.drop_drop] at hacc
        by_cases hw : (names.drop (3 * m)).take 3 = lowL s
        · rw [if_pos hw] at hacc
          simp (disch := first | assumption | omega | (simp only [go_sem] <;> omega) | fail) only [go_sem, h1, h2, h7, h8, bin_add, hle, e1, e2, hsm, hw, e3, bin_quo]
          refine ⟨_, _, rfl, rfl, ?_⟩
          simp only [go_sem, h1, h2]
          refine ⟨?_, _, rfl, hacc⟩
          show Value.int .i64 (((3 * m : Nat) : Int) + 3) = .int .i64 ((3 * (m + 1) : Nat) : Int)
          congr 1
        · rw [if_neg hw] at hacc
          simp (disch := first | assumption | omega | (simp only [go_sem] <;> omega) | fail) only [go_sem, h1, h2, h7, h8, bin_add, hle, e1, e2, hsm, hw]
          refine ⟨_, _, rfl, rfl, ?_⟩
          simp only [go_sem, h1, h2, h7]
          refine ⟨?_, _, rfl, hacc⟩
          show Value.int .i64 (((3 * m : Nat) : Int) + 3) = .int .i64 ((3 * (m + 1) : Nat) : Int)
          congr 1)
      (by
        rintro t H' ⟨rfl, h1, h2, h8, acc, h7, hacc⟩
        rw [← hL, E_loop, hL]
        have hle : ¬ ((3 * (names.length / 3) : Nat) : Int) + 3 ≤ names.length := by omega
        rw [nameGo_end _ _ _ _ (by rw [List.length_drop]; omega)] at hacc
        simp (disch := first | assumption | omega | (simp only [go_sem] <;> omega) | fail) only [go_sem, h1, h2, h7, h8, bin_add, hle]
        refine ⟨_, _, _, rfl, rfl, rfl, ?_⟩
        simp only [go_sem, h1, h2, h7, hacc])
      ⟨rfl, (by rw [← hT]; simp only [go_sem] <;> rfl), (by rw [← hT]; simp only [go_sem] <;> rfl), (by rw [← hT]; simp only [go_sem] <;> rfl), -1, (by rw [← hT]; simp only [go_sem] <;> rfl), rfl⟩
    rw [k1]
    have hnb' : -1 ≤ nameI names (lowL s) ∧ nameI names (lowL s) ≤ 100 := hnb
    generalize nameI names (lowL s) = ni at *
    by_cases h0 : 0 ≤ ni
    · rw [if_pos h0, Option.bind_some]
      by_cases h1 : low ≤ low + ni
      · by_cases h2 : low + ni ≤ max high over
        · rw [if_pos ⟨h1, h2⟩]
          simp (disch := first | assumption | omega | (simp only [go_sem] <;> omega) | fail) only [go_sem, k2, k3, k4, h0, bin_add, h1, hmax, h2, Funless]
          exact ⟨[], by rw [List.append_nil]; rfl, fun _ => rfl⟩
        · rw [if_neg (fun h => h2 h.2)]
          simp (disch := first | assumption | omega | (simp only [go_sem] <;> omega) | fail) only [go_sem, k2, k3, k4, h0, bin_add, h1, hmax, h2, Funless]
          exact ⟨_, rfl, fun h => by cases h⟩
      · omega
    · rw [if_neg h0]
      simp (disch := first | assumption | omega | (simp only [go_sem] <;> omega) | fail) only [go_sem, k2, k3, k4, h0, Funless]
      exact ⟨_, rfl, fun h => by cases h⟩
def cut1 (c : UInt8) (s : List UInt8) : List UInt8 × List UInt8 × Bool := if 0 ≤ Lib.indexByte s c then (s.take (Lib.indexByte s c).toNat, s.drop ((Lib.indexByte s c).toNat + 1), true) else (s, [], false)
theorem Fcut1 (s : List UInt8) (c : UInt8) (hs : s.length ≤ 1000000) (p : Nat) (H : Heap) : F 104 #[str s, str [c]] p H = some (.returned (.tuple #[str (cut1 c s).1, str (cut1 c s).2.1, .bool (cut1 c s).2.2]), H) := by
  rw [F49 s c hs p H]
  unfold cut1
  split <;> rfl
theorem cut1_len (c : UInt8) (s : List UInt8) : (cut1 c s).1.length ≤ s.length ∧ (cut1 c s).2.1.length ≤ s.length := by
  unfold cut1
  split
  · simp only [List.length_take, List.length_drop]; omega
  · simp
def stepL (r : List UInt8 × List UInt8 × Bool) : Option Int := if r.2.2 = true then (digL r.2.1).bind fun n => if 0 < n then some n else none else some 1
def spanL (f : FieldL) (r : List UInt8 × List UInt8 × Bool) : Option (Int × Int) := if r.1 = [42] then some (f.low, f.high) else
  if (cut1 45 r.1).2.2 = false ∧ r.2.2 = true then none else (fnumL f (cut1 45 r.1).1).bind fun a => (if (cut1 45 r.1).2.2 = true then fnumL f (cut1 45 r.1).2.1 else some a).bind fun b => if a ≤ b then some (a, b) else none
def markGo (f : FieldL) (b step : Int) : Nat → Int → List Bool → List Bool
  | 0, _, h => h
  | k + 1, n, h => if n ≤ b then markGo f b step k (n + step) (if n = f.over ∧ 0 < f.over then h.set f.low.toNat true else h.set n.toNat true) else h
def pieceL (f : FieldL) (s : List UInt8) (has : List Bool) : Option (List Bool) := (stepL (cut1 47 s)).bind fun st => (spanL f (cut1 47 s)).map fun ab => markGo f ab.2 st (ab.2 + 1 - ab.1).toNat ab.1 has
theorem fnumL_bound {f : FieldL} {s : List UInt8} {n : Int} (h : fnumL f s = some n) : f.low ≤ n ∧ n ≤ max f.high f.over := by
  unfold fnumL at h
  obtain ⟨m, _, h⟩ := Option.bind_eq_some_iff.1 h
  split at h
  · rename_i hh; cases h; exact hh
  · cases h
theorem digL_bound {s : List UInt8} {n : Int} (h : digL s = some n) : 0 ≤ n ∧ n ≤ 99 := by
  unfold digL at h
  split at h
  · rename_i hh
    cases h
    have hd : ∀ b ∈ s, dg b = true := List.all_eq_true.1 hh.2.2
    match s, hh.1, hh.2.1 with
    | [a], _, _ =>
      have := hd a (by simp)
      unfold dg at this
      have := of_decide_eq_true this
      rw [val_cons, val_nil]
      omega
    | [a, b], _, _ =>
      have h1 := hd a (by simp)
      have h2 := hd b (by simp)
      unfold dg at h1 h2
      have h1 := of_decide_eq_true h1
      have h2 := of_decide_eq_true h2
      rw [val_cons, val_cons, val_nil]
      omega
  · cases h
theorem FnumC_ok {f : FieldL} (hf : f.Ok) {s : List UInt8} (hs : s.length ≤ 1099511627) {n : Int} (h : fnumL f s = some n) (p : Nat) (H : Heap) : F 161 #[.agg #[.int .i64 f.low, .int .i64 f.high, str f.names, .int .i64 f.over], str s] p H = some (.returned (.int .i64 n), H) := by
  obtain ⟨Z, h1, h2⟩ := Fnumber f hf s hs (p := p) (H := H)
  rw [h] at h1 h2
  rw [h2 rfl, List.append_nil] at h1
  exact h1
theorem FnumC_bad {f : FieldL} (hf : f.Ok) {s : List UInt8} (hs : s.length ≤ 1099511627) (h : fnumL f s = none) (p : Nat) (H : Heap) : ∃ Z, F 161 #[.agg #[.int .i64 f.low, .int .i64 f.high, str f.names, .int .i64 f.over], str s] p H = some (.panicked cronP, H ++ Z) := by
  obtain ⟨Z, h1, h2⟩ := Fnumber f hf s hs (p := p) (H := H)
  rw [h] at h1
  exact ⟨Z, h1⟩
abbrev boolsV (l : List Bool) : List Value := l.map Value.bool
theorem markGo_len (f : FieldL) (b step : Int) : ∀ (k : Nat) (n : Int) (h : List Bool), (markGo f b step k n h).length = h.length
  | 0, _, _ => rfl
  | k + 1, n, h => by
    rw [markGo]
    split
    · rw [markGo_len f b step k]; split <;> simp
    · rfl
def PieceR (A n : Nat) (H : Heap) (r : Option (List Bool)) (call : Option (Ending × Heap)) : Prop :=
  ∃ H', Fr A H H' ∧ ((∃ h', r = some h' ∧ h'.length = n ∧ call = some (.returned (.tuple #[]), H') ∧ ∃ fl', fl' ≤ n ∧ H'[A]? = some ⟨0, 4, (boolsV h').toArray, fl', false, []⟩) ∨ (r = none ∧ call = some (.panicked cronP, H')))
theorem Fpiece (f : FieldL) (hf : f.Ok) (s : List UInt8) (hs : s.length ≤ 1000000) {A fl : Nat} {has : List Bool} {p : Nat} {H : Heap} (hA : H[A]? = some ⟨0, 4, (boolsV has).toArray, fl, false, []⟩) (hfl : fl ≤ has.length) (hlen : (has.length : Int) = f.high + 1) (hp : p ≤ A) :
    PieceR A has.length H (pieceL f s has) (F 119 #[f.v, str s, .slice (some ⟨A, 0, some has.length⟩) has.length 1] p H) := by
  rw [F, F_loud (f := 119) (X := X) (cl := cl) rfl rfl rfl Tryz.func119 rfl, Tryz.results119]
  have hAl := (List.getElem?_eq_some_iff.1 hA).1
  have c1 := Fcut1 s 47 hs
  have l1 := cut1_len 47 s
  unfold pieceL
  generalize cut1 47 s = r at *
  obtain ⟨whole, tail, stepped⟩ := r
  simp only at c1 l1
  have d1 := Fdigits tail (by omega)
  have frB : ∀ Z, Fr A H (H ++ Z) := fun Z => Fr.push A H Z
  obtain ⟨hl0, hl1, hh1, ho0, hn1⟩ := hf
  have hf : f.Ok := ⟨hl0, hl1, hh1, ho0, hn1⟩
  simp only [FieldL.v]
  generalize hL : Code.loop _ = L
  have marks : ∀ (b st : Int), 1 ≤ st → st ≤ 100 → b ≤ max f.high f.over → ∀ (k : Nat) (a : Int) (h : List Bool) (t : Nat → Value) (G : Heap) (fl' : Nat), (b + 1 - a).toNat ≤ k → f.low ≤ a → a ≤ 1000 → h.length = has.length → fl' ≤ has.length →
      (∃ fl0, fl0 ≤ 4 ∧ G[H.length]? = some ⟨0, 136, #[.int .i64 f.low, .int .i64 f.high, str f.names, .int .i64 f.over], fl0, false, []⟩) → G[A]? = some ⟨0, 4, (boolsV h).toArray, fl', false, []⟩ →
      t 2 = .slice (some ⟨A, 0, some has.length⟩) has.length 1 → t 3 = .pointer (some ⟨H.length, 0, some 4⟩) → t 9 = i64v st → t 11 = i64v b → t 17 = i64v a →
      ∃ t' G' fl2, limR Tryz.prog cl X L p ⟨t, [], G⟩ = some (.exit 0, ⟨t', [], G'⟩) ∧ Fr A G G' ∧ fl2 ≤ has.length ∧ G'[A]? = some ⟨0, 4, (boolsV (markGo f b st k a h)).toArray, fl2, false, []⟩ := by
    intro b st hs1 hs2 hb k
    induction k with
    | zero =>
      intro a h t G fl' hk ha ha2 hh hfl' hB hGA h2 h3 h9 h11 h17
      rw [← hL, E_loop, hL]
      have hlt : ¬ a ≤ b := by omega
      simp (disch := first | assumption | omega | (simp only [go_sem] <;> omega) | fail) only [go_sem, h2, h3, h9, h11, h17, hlt]
      exact ⟨_, G, fl', rfl, Fr.refl _ _, hfl', hGA⟩
    | succ k ih =>
      intro a h t G fl' hk ha ha2 hh hfl' hB hGA h2 h3 h9 h11 h17
      rw [← hL, E_loop, hL]
      by_cases hlt : a ≤ b
      · obtain ⟨fl0, hfl0, hGB⟩ := hB
        have hGAl := (List.getElem?_eq_some_iff.1 hGA).1
        have hsz : (boolsV h).length = has.length := by simp [hh]
        have hset : ∀ i, (boolsV h).set i (.bool true) = boolsV (h.set i true) := fun i => by simp [boolsV, List.map_set]
        have step : ∀ (i : Nat), i < has.length → (markGo f b st (k + 1) a h = markGo f b st k (a + st) (h.set i true)) → ∀ t', t' 2 = .slice (some ⟨A, 0, some has.length⟩) has.length 1 → t' 3 = .pointer (some ⟨H.length, 0, some 4⟩) → t' 9 = i64v st → t' 11 = i64v b → t' 17 = i64v (a + st) →
            ∃ t'' G' fl2, limR Tryz.prog cl X L p ⟨t', [], G.set A ⟨0, 4, (boolsV (h.set i true)).toArray, has.length, false, []⟩⟩ = some (.exit 0, ⟨t'', [], G'⟩) ∧ Fr A G G' ∧ fl2 ≤ has.length ∧ G'[A]? = some ⟨0, 4, (boolsV (markGo f b st (k + 1) a h)).toArray, fl2, false, []⟩ := by
          intro i hi hm t' k2 k3 k9 k11 k17
          have hne : H.length ≠ A := by omega
          obtain ⟨t'', G', fl2, q1, q2, q3, q4⟩ := ih (a + st) (h.set i true) t' (G.set A ⟨0, 4, (boolsV (h.set i true)).toArray, has.length, false, []⟩) has.length (by omega) (by omega) (by omega) (by simp [hh]) (Nat.le_refl _) ⟨fl0, hfl0, by rw [List.getElem?_set_ne (by omega)]; exact hGB⟩ (List.getElem?_set_self hGAl) k2 k3 k9 k11 k17
          exact ⟨t'', G', fl2, q1, (Fr.set _ _ _).trans q2, q3, by rw [hm]; exact q4⟩
        by_cases ho : a = f.over
        · subst ho
          by_cases ho1 : 0 < f.over
          · have hi : f.low.toNat < has.length := by omega
            have hm : markGo f b st (k + 1) f.over h = markGo f b st k (f.over + st) (h.set f.low.toNat true) := by rw [markGo, if_pos hlt, if_pos ⟨rfl, ho1⟩]
            simp (disch := first | assumption | omega | (simp only [go_sem] <;> omega) | fail) only [go_sem, h2, h3, h9, h11, h17, hlt, hGB, ho1, hGA, hsz, putAll_one, Nat.zero_add, hset, bin_add]
            generalize hT : upd _ 17 _ = T
            exact step _ hi hm T (by rw [← hT]; simp only [go_sem, h2]) (by rw [← hT]; simp only [go_sem, h3]) (by rw [← hT]; simp only [go_sem, h9]) (by rw [← hT]; simp only [go_sem, h11]) (by rw [← hT]; simp only [go_sem])
          · have hi : f.over.toNat < has.length := by omega
            have hm : markGo f b st (k + 1) f.over h = markGo f b st k (f.over + st) (h.set f.over.toNat true) := by rw [markGo, if_pos hlt, if_neg (fun h => ho1 h.2)]
            simp (disch := first | assumption | omega | (simp only [go_sem] <;> omega) | fail) only [go_sem, h2, h3, h9, h11, h17, hlt, hGB, ho1, hGA, hsz, putAll_one, Nat.zero_add, hset, bin_add]
            generalize hT : upd _ 17 _ = T
            exact step _ hi hm T (by rw [← hT]; simp only [go_sem, h2]) (by rw [← hT]; simp only [go_sem, h3]) (by rw [← hT]; simp only [go_sem, h9]) (by rw [← hT]; simp only [go_sem, h11]) (by rw [← hT]; simp only [go_sem])
        · have hi : a.toNat < has.length := by omega
          have hm : markGo f b st (k + 1) a h = markGo f b st k (a + st) (h.set a.toNat true) := by rw [markGo, if_pos hlt, if_neg (fun h => ho h.1)]
          simp (disch := first | assumption | omega | (simp only [go_sem] <;> omega) | fail) only [go_sem, h2, h3, h9, h11, h17, hlt, hGB, ho, hGA, hsz, putAll_one, Nat.zero_add, hset, bin_add]
          generalize hT : upd _ 17 _ = T
          exact step _ hi hm T (by rw [← hT]; simp only [go_sem, h2]) (by rw [← hT]; simp only [go_sem, h3]) (by rw [← hT]; simp only [go_sem, h9]) (by rw [← hT]; simp only [go_sem, h11]) (by rw [← hT]; simp only [go_sem])
      · have hm : markGo f b st (k + 1) a h = h := by rw [markGo, if_neg hlt]
        simp (disch := first | assumption | omega | (simp only [go_sem] <;> omega) | fail) only [go_sem, h2, h3, h9, h11, h17, hlt]
        exact ⟨_, G, fl', rfl, Fr.refl _ _, hfl', by rw [hm]; exact hGA⟩
  cases hst : stepL (whole, tail, stepped) with
  | none =>
    rw [Option.bind_none]
    unfold stepL at hst
    cases stepped with
    | false => simp at hst
    | true =>
      simp only [if_true] at hst
      cases hd : digL tail with
      | none =>
        simp only [hd, Option.getD_none, Option.isSome_none] at d1
        simp (disch := first | assumption | omega | (simp only [go_sem] <;> omega) | fail) only [go_sem, c1, d1, Funless]
        exact ⟨_, frB _, .inr ⟨rfl, rfl⟩⟩
      | some n =>
        simp only [hd, Option.getD_some, Option.isSome_some] at d1
        rw [hd, Option.bind_some] at hst
        have hn : ¬ 0 < n := fun h => by rw [if_pos h] at hst; cases hst
        simp (disch := first | assumption | omega | (simp only [go_sem] <;> omega) | fail) only [go_sem, c1, d1, hn, Funless]
        exact ⟨_, frB _, .inr ⟨rfl, rfl⟩⟩
  | some st =>
    rw [Option.bind_some]
    unfold stepL at hst
    cases stepped with
    | false =>
      simp only [Bool.false_eq_true, if_false, Option.some.injEq] at hst
      subst hst
      have hst2 : (1 : Int) ≤ 1 ∧ (1 : Int) ≤ 100 := by omega
      have fin : ∀ (a b : Int), f.low ≤ a → a ≤ 1000 → b ≤ max f.high f.over → ∀ T : Nat → Value, T 2 = .slice (some ⟨A, 0, some has.length⟩) has.length 1 → T 3 = .pointer (some ⟨H.length, 0, some 4⟩) → T 9 = i64v 1 → T 11 = i64v b → T 17 = i64v a →
          ∃ t' G' fl2, limR Tryz.prog cl X L p ⟨T, [], H ++ [⟨0, 136, #[.int .i64 f.low, .int .i64 f.high, str f.names, .int .i64 f.over], 0, false, []⟩]⟩ = some (.exit 0, ⟨t', [], G'⟩) ∧ Fr A H G' ∧ fl2 ≤ has.length ∧ G'[A]? = some ⟨0, 4, (boolsV (markGo f b 1 (b + 1 - a).toNat a has)).toArray, fl2, false, []⟩ := by
        intro a b h1 h2 h3 T k2 k3 k9 k11 k17
        obtain ⟨t', G', fl2, q1, q2, q3, q4⟩ := marks b 1 hst2.1 hst2.2 h3 (b + 1 - a).toNat a has T (H ++ [⟨0, 136, #[.int .i64 f.low, .int .i64 f.high, str f.names, .int .i64 f.over], 0, false, []⟩]) fl (Nat.le_refl _) h1 h2 rfl hfl ⟨0, by omega, by simp⟩ (by rw [List.getElem?_append_left hAl]; exact hA) k2 k3 k9 k11 k17
        exact ⟨t', G', fl2, q1, (frB _).trans q2, q3, q4⟩
      by_cases hw : whole = [42]
      · have hsp : spanL f (whole, tail, false) = some (f.low, f.high) := by unfold spanL; rw [if_pos hw]
        rw [hsp, Option.map_some]
        subst hw
        simp (disch := first | assumption | omega | (simp only [go_sem] <;> omega) | fail) only [go_sem, c1]
        generalize hT : upd _ 17 _ = T
        obtain ⟨t', G', fl2, q1, q2, q3, q4⟩ := fin f.low f.high (by omega) (by omega) (by omega) T (by rw [← hT]; simp only [go_sem] <;> rfl) (by rw [← hT]; simp only [go_sem] <;> rfl) (by rw [← hT]; simp only [go_sem] <;> rfl) (by rw [← hT]; simp only [go_sem] <;> rfl) (by rw [← hT]; simp only [go_sem] <;> rfl)
        rw [q1]
        simp (disch := first | assumption | omega | (simp only [go_sem] <;> omega) | fail) only [go_sem]
        exact ⟨G', q2, .inl ⟨_, rfl, markGo_len _ _ _ _ _ _, rfl, fl2, q3, q4⟩⟩
      · have hsp : spanL f (whole, tail, false) = if (cut1 45 whole).2.2 = false ∧ false = true then none else (fnumL f (cut1 45 whole).1).bind fun a => (if (cut1 45 whole).2.2 = true then fnumL f (cut1 45 whole).2.1 else some a).bind fun b => if a ≤ b then some (a, b) else none := by unfold spanL; rw [if_neg hw]
        rw [hsp]
        have c2 := Fcut1 whole 45 (by omega)
        have l2 := cut1_len 45 whole
        generalize cut1 45 whole = r2 at *
        obtain ⟨first, last, two⟩ := r2
        simp only at c2 l2
        cases two with
        | false =>
          rw [if_neg (fun h => by cases h.2)]
          cases ha : fnumL f first with
          | none =>
            rw [Option.bind_none, Option.map_none]
            obtain ⟨Z, n1⟩ := FnumC_bad hf (by omega) ha p (H ++ [⟨0, 136, #[.int .i64 f.low, .int .i64 f.high, str f.names, .int .i64 f.over], 0, false, []⟩])
            simp (disch := first | assumption | omega | (simp only [go_sem] <;> omega) | fail) only [go_sem, c1, c2, hw, Funless, n1]
            exact ⟨_, (frB _).trans (Fr.push _ _ _), .inr ⟨rfl, rfl⟩⟩
          | some a =>
            rw [Option.bind_some]
            have hab0 := fnumL_bound ha
            have n1 := FnumC_ok hf (by omega) ha
            simp only [Bool.false_eq_true, if_false, Option.bind_some, Int.le_refl, if_true, Option.map_some]
            simp (disch := first | assumption | omega | (simp only [go_sem] <;> omega) | fail) only [go_sem, c1, c2, hw, Funless, n1, Int.le_refl]
            generalize hT : upd _ 17 _ = T
            obtain ⟨t', G', fl2, q1, q2, q3, q4⟩ := fin a a (by omega) (by omega) (by omega) T (by rw [← hT]; simp only [go_sem] <;> rfl) (by rw [← hT]; simp only [go_sem] <;> rfl) (by rw [← hT]; simp only [go_sem] <;> rfl) (by rw [← hT]; simp only [go_sem] <;> rfl) (by rw [← hT]; simp only [go_sem] <;> rfl)
            rw [q1]
            simp (disch := first | assumption | omega | (simp only [go_sem] <;> omega) | fail) only [go_sem]
            exact ⟨G', q2, .inl ⟨_, rfl, markGo_len _ _ _ _ _ _, rfl, fl2, q3, q4⟩⟩
        | true =>
          rw [if_neg (fun h => by cases h.1)]
          cases ha : fnumL f first with
          | none =>
            rw [Option.bind_none, Option.map_none]
            obtain ⟨Z, n1⟩ := FnumC_bad hf (by omega) ha p (H ++ [⟨0, 136, #[.int .i64 f.low, .int .i64 f.high, str f.names, .int .i64 f.over], 0, false, []⟩])
            simp (disch := first | assumption | omega | (simp only [go_sem] <;> omega) | fail) only [go_sem, c1, c2, hw, Funless, n1]
            exact ⟨_, (frB _).trans (Fr.push _ _ _), .inr ⟨rfl, rfl⟩⟩
          | some a =>
            rw [Option.bind_some]
            have hab0 := fnumL_bound ha
            have n1 := FnumC_ok hf (by omega) ha
            simp only [if_true]
            cases hb : fnumL f last with
            | none =>
              rw [Option.bind_none, Option.map_none]
              obtain ⟨Z, n2⟩ := FnumC_bad hf (by omega) hb p (H ++ [⟨0, 136, #[.int .i64 f.low, .int .i64 f.high, str f.names, .int .i64 f.over], 0, false, []⟩])
              simp (disch := first | assumption | omega | (simp only [go_sem] <;> omega) | fail) only [go_sem, c1, c2, hw, Funless, n1, n2]
              exact ⟨_, (frB _).trans (Fr.push _ _ _), .inr ⟨rfl, rfl⟩⟩
            | some b =>
              rw [Option.bind_some]
              have hbb := fnumL_bound hb
              have n2 := FnumC_ok hf (by omega) hb
              by_cases hab : a ≤ b
              · rw [if_pos hab, Option.map_some]
                simp (disch := first | assumption | omega | (simp only [go_sem] <;> omega) | fail) only [go_sem, c1, c2, hw, Funless, n1, n2, hab]
                generalize hT : upd _ 17 _ = T
                obtain ⟨t', G', fl2, q1, q2, q3, q4⟩ := fin a b (by omega) (by omega) (by omega) T (by rw [← hT]; simp only [go_sem] <;> rfl) (by rw [← hT]; simp only [go_sem] <;> rfl) (by rw [← hT]; simp only [go_sem] <;> rfl) (by rw [← hT]; simp only [go_sem] <;> rfl) (by rw [← hT]; simp only [go_sem] <;> rfl)
                rw [q1]
                simp (disch := first | assumption | omega | (simp only [go_sem] <;> omega) | fail) only [go_sem]
                exact ⟨G', q2, .inl ⟨_, rfl, markGo_len _ _ _ _ _ _, rfl, fl2, q3, q4⟩⟩
              · rw [if_neg hab, Option.map_none]
                simp (disch := first | assumption | omega | (simp only [go_sem] <;> omega) | fail) only [go_sem, c1, c2, hw, Funless, n1, n2, hab]
                exact ⟨_, frB _, .inr ⟨rfl, rfl⟩⟩
    | true =>
      simp only [if_true] at hst
      obtain ⟨n, hd, hst⟩ := Option.bind_eq_some_iff.1 hst
      have hn : 0 < n := by
        rcases Int.lt_or_le 0 n with h | h
        · exact h
        · rw [if_neg (by omega)] at hst; cases hst
      rw [if_pos hn] at hst
      obtain rfl := Option.some.inj hst
      have hdb := digL_bound hd
      have hst2 : 1 ≤ n ∧ n ≤ 100 := by omega
      simp only [hd, Option.getD_some, Option.isSome_some] at d1
      have fin : ∀ (a b : Int), f.low ≤ a → a ≤ 1000 → b ≤ max f.high f.over → ∀ T : Nat → Value, T 2 = .slice (some ⟨A, 0, some has.length⟩) has.length 1 → T 3 = .pointer (some ⟨H.length, 0, some 4⟩) → T 9 = i64v n → T 11 = i64v b → T 17 = i64v a →
          ∃ t' G' fl2, limR Tryz.prog cl X L p ⟨T, [], H ++ [⟨0, 136, #[.int .i64 f.low, .int .i64 f.high, str f.names, .int .i64 f.over], 0, false, []⟩]⟩ = some (.exit 0, ⟨t', [], G'⟩) ∧ Fr A H G' ∧ fl2 ≤ has.length ∧ G'[A]? = some ⟨0, 4, (boolsV (markGo f b n (b + 1 - a).toNat a has)).toArray, fl2, false, []⟩ := by
        intro a b h1 h2 h3 T k2 k3 k9 k11 k17
        obtain ⟨t', G', fl2, q1, q2, q3, q4⟩ := marks b n hst2.1 hst2.2 h3 (b + 1 - a).toNat a has T (H ++ [⟨0, 136, #[.int .i64 f.low, .int .i64 f.high, str f.names, .int .i64 f.over], 0, false, []⟩]) fl (Nat.le_refl _) h1 h2 rfl hfl ⟨0, by omega, by simp⟩ (by rw [List.getElem?_append_left hAl]; exact hA) k2 k3 k9 k11 k17
        exact ⟨t', G', fl2, q1, (frB _).trans q2, q3, q4⟩
      by_cases hw : whole = [42]
      · have hsp : spanL f (whole, tail, true) = some (f.low, f.high) := by unfold spanL; rw [if_pos hw]
        rw [hsp, Option.map_some]
        subst hw
        simp (disch := first | assumption | omega | (simp only [go_sem] <;> omega) | fail) only [go_sem, c1, d1, hn, Funless]
        generalize hT : upd _ 17 _ = T
        obtain ⟨t', G', fl2, q1, q2, q3, q4⟩ := fin f.low f.high (by omega) (by omega) (by omega) T (by rw [← hT]; simp only [go_sem] <;> rfl) (by rw [← hT]; simp only [go_sem] <;> rfl) (by rw [← hT]; simp only [go_sem] <;> rfl) (by rw [← hT]; simp only [go_sem] <;> rfl) (by rw [← hT]; simp only [go_sem] <;> rfl)
        rw [q1]
        simp (disch := first | assumption | omega | (simp only [go_sem] <;> omega) | fail) only [go_sem]
        exact ⟨G', q2, .inl ⟨_, rfl, markGo_len _ _ _ _ _ _, rfl, fl2, q3, q4⟩⟩
      · have hsp : spanL f (whole, tail, true) = if (cut1 45 whole).2.2 = false ∧ true = true then none else (fnumL f (cut1 45 whole).1).bind fun a => (if (cut1 45 whole).2.2 = true then fnumL f (cut1 45 whole).2.1 else some a).bind fun b => if a ≤ b then some (a, b) else none := by unfold spanL; rw [if_neg hw]
        rw [hsp]
        have c2 := Fcut1 whole 45 (by omega)
        have l2 := cut1_len 45 whole
        generalize cut1 45 whole = r2 at *
        obtain ⟨first, last, two⟩ := r2
        simp only at c2 l2
        cases two with
        | false =>
          rw [if_pos ⟨rfl, rfl⟩, Option.map_none]
          simp (disch := first | assumption | omega | (simp only [go_sem] <;> omega) | fail) only [go_sem, c1, d1, hn, Funless, c2, hw, Funless]
          exact ⟨_, frB _, .inr ⟨rfl, rfl⟩⟩
        | true =>
          rw [if_neg (fun h => by cases h.1)]
          cases ha : fnumL f first with
          | none =>
            rw [Option.bind_none, Option.map_none]
            obtain ⟨Z, n1⟩ := FnumC_bad hf (by omega) ha p (H ++ [⟨0, 136, #[.int .i64 f.low, .int .i64 f.high, str f.names, .int .i64 f.over], 0, false, []⟩])
            simp (disch := first | assumption | omega | (simp only [go_sem] <;> omega) | fail) only [go_sem, c1, d1, hn, Funless, c2, hw, Funless, n1]
            exact ⟨_, (frB _).trans (Fr.push _ _ _), .inr ⟨rfl, rfl⟩⟩
          | some a =>
            rw [Option.bind_some]
            have hab0 := fnumL_bound ha
            have n1 := FnumC_ok hf (by omega) ha
            simp only [if_true]
            cases hb : fnumL f last with
            | none =>
              rw [Option.bind_none, Option.map_none]
              obtain ⟨Z, n2⟩ := FnumC_bad hf (by omega) hb p (H ++ [⟨0, 136, #[.int .i64 f.low, .int .i64 f.high, str f.names, .int .i64 f.over], 0, false, []⟩])
              simp (disch := first | assumption | omega | (simp only [go_sem] <;> omega) | fail) only [go_sem, c1, d1, hn, Funless, c2, hw, Funless, n1, n2]
              exact ⟨_, (frB _).trans (Fr.push _ _ _), .inr ⟨rfl, rfl⟩⟩
            | some b =>
              rw [Option.bind_some]
              have hbb := fnumL_bound hb
              have n2 := FnumC_ok hf (by omega) hb
              by_cases hab : a ≤ b
              · rw [if_pos hab, Option.map_some]
                simp (disch := first | assumption | omega | (simp only [go_sem] <;> omega) | fail) only [go_sem, c1, d1, hn, Funless, c2, hw, Funless, n1, n2, hab]
                generalize hT : upd _ 17 _ = T
                obtain ⟨t', G', fl2, q1, q2, q3, q4⟩ := fin a b (by omega) (by omega) (by omega) T (by rw [← hT]; simp only [go_sem] <;> rfl) (by rw [← hT]; simp only [go_sem] <;> rfl) (by rw [← hT]; simp only [go_sem] <;> rfl) (by rw [← hT]; simp only [go_sem] <;> rfl) (by rw [← hT]; simp only [go_sem] <;> rfl)
                rw [q1]
                simp (disch := first | assumption | omega | (simp only [go_sem] <;> omega) | fail) only [go_sem]
                exact ⟨G', q2, .inl ⟨_, rfl, markGo_len _ _ _ _ _ _, rfl, fl2, q3, q4⟩⟩
              · rw [if_neg hab, Option.map_none]
                simp (disch := first | assumption | omega | (simp only [go_sem] <;> omega) | fail) only [go_sem, c1, d1, hn, Funless, c2, hw, Funless, n1, n2, hab]
                exact ⟨_, frB _, .inr ⟨rfl, rfl⟩⟩
theorem Fsplit {s : List UInt8} {c : UInt8} (hs : s.length ≤ 1000000) (p : Nat) (H : Heap) : F 82 #[str s, str [c]] p H = some (.returned (.slice (some ⟨H.length, 0, some (pieces c s).length⟩) (pieces c s).length 1), H ++ [⟨0, 9, ((pieces c s).map str).toArray, (pieces c s).length, false, []⟩]) := by
  rw [pieces_len]
  exact F57 s c hs p H
def partGo (f : FieldL) : List (List UInt8) → List Bool → Option (List Bool)
  | [], h => some h
  | p :: ps, h => (pieceL f p h).bind (partGo f ps)
def idxL : Nat → List Bool → List Int
  | _, [] => []
  | i, b :: r => if b = true then (i : Int) :: idxL (i + 1) r else idxL (i + 1) r
def partL (f : FieldL) (s : List UInt8) : Option (List Int) := (partGo f (pieces 44 s) (List.replicate (f.high.toNat + 1) false)).map (idxL 0)
theorem idxL_len : ∀ (i : Nat) (l : List Bool), (idxL i l).length ≤ l.length
  | _, [] => Nat.le_refl _
  | i, b :: r => by
    rw [idxL]
    have := idxL_len (i + 1) r
    split <;> simp <;> omega
theorem btB : bts Tryz.prog 4 = some 1 := by kernel_rfl
theorem mkB {H : Heap} (n : Nat) (h : n ≤ 2 ^ 20) : mkSl Tryz.prog 163 (.int .i64 (n : Nat)) (.int .i64 (n : Nat)) H = some (.slice (some ⟨H.length, 0, some n⟩) n 1, H ++ [⟨0, 4, (List.replicate n (.bool false)).toArray, 0, false, []⟩]) :=
  mk_sl (s := 1) Tryz.underlying163 sz4 btB (by kernel_rfl) rfl n (by omega)
theorem pieces_le (c : UInt8) : ∀ (k : Nat) (s x : List UInt8), x ∈ piecesN c k s → x.length ≤ s.length
  | 0, s, x, h => by simp only [piecesN, List.mem_singleton] at h; rw [h]; exact Nat.le_refl _
  | k + 1, s, x, h => by
    rw [piecesN, List.mem_cons] at h
    rcases h with rfl | h
    · simp only [List.length_take]; omega
    · have := pieces_le c k _ x h; simp only [List.length_drop] at this; omega
def ListR (H : Heap) (x : Option (List Int)) (call : Option (Ending × Heap)) : Prop := ∃ Z, (∃ xs q, x = some xs ∧ call = some (.returned (slv q xs.length 1), H ++ Z) ∧ CAt (H ++ Z) q (i64s xs) ∧ ∀ B, inq q B → H.length ≤ B ∧ B < (H ++ Z).length) ∨ (x = none ∧ call = some (.panicked cronP, H ++ Z))
theorem Pr.add {H H' : Heap} (h : Pr H.length H H') : ∃ Z, H' = H ++ Z := by
  refine ⟨H'.drop H.length, ?_⟩
  apply List.ext_getElem?
  intro i
  by_cases hi : i < H.length
  · rw [List.getElem?_append_left hi, h.2 i hi]
  · rw [List.getElem?_append_right (by omega), List.getElem?_drop]
    congr 1; omega
theorem Fpart (f : FieldL) (hf : f.Ok) (s : List UInt8) (hs : s.length ≤ 100000) {p : Nat} {H : Heap} : ListR H (partL f s) (F 85 #[f.v, str s] p H) := by
  rw [F, F_quiet (f := 85) (X := X) (cl := cl) rfl rfl rfl Tryz.func85 rfl, Tryz.results85]
  obtain ⟨hl0, hl1, hh1, ho0, hn1⟩ := hf
  have hf : f.Ok := ⟨hl0, hl1, hh1, ho0, hn1⟩
  have e1 : f.high + 1 = ((f.high.toNat + 1 : Nat) : Int) := by omega
  have sp := Fsplit (s := s) (c := 44) (by omega)
  have hpl : ∀ x ∈ pieces 44 s, x.length ≤ s.length := fun x hx => pieces_le 44 _ s x hx
  unfold partL
  have hnp : (pieces 44 s).length ≤ 100001 := by rw [pieces_len]; have := List.count_le_length (a := (44 : UInt8)) (l := s); omega
  generalize pieces 44 s = ps at *
  simp only [FieldL.v]
  have mk := fun (H : Heap) => mkB (H := H) (f.high.toNat + 1) (by omega)
  simp (disch := first | assumption | omega | (simp only [go_sem] <;> omega) | fail) only [go_sem, bin_add, e1, mk, sp]
  generalize hL : Code.loop (.seq (.region 3 _ _) _) = L
  generalize hL2 : Code.loop (.seq (.region 9 _ _) _) = L2
  generalize hT : upd _ 18 _ = T
  have hsz1 : (ps.map str).length = ps.length := by simp
  have hps : ∀ i (h : i < ps.length), (ps.map str)[i]? = some (str ps[i]) := fun i h => by simp [h]
  obtain ⟨e, t1, G1, k1, k2⟩ := loop_up (P := Tryz.prog) (cl := cl) (X := X) (L := L) (p := H.length) (t := T) (H := H ++ [⟨0, 136, #[.int .i64 f.low, .int .i64 f.high, str f.names, .int .i64 f.over], 0, false, []⟩] ++ [⟨0, 4, (List.replicate (f.high.toNat + 1) (Value.bool false)).toArray, 0, false, []⟩] ++ [⟨0, 9, (ps.map str).toArray, ps.length, false, []⟩]) ps.length
    (fun i t G => Pr H.length H G ∧ H.length + 3 ≤ G.length ∧ G[H.length]? = some ⟨0, 136, #[.int .i64 f.low, .int .i64 f.high, str f.names, .int .i64 f.over], 0, false, []⟩ ∧ G[H.length + 2]? = some ⟨0, 9, (ps.map str).toArray, ps.length, false, []⟩ ∧
      (∃ h fl, h.length = f.high.toNat + 1 ∧ fl ≤ f.high.toNat + 1 ∧ G[H.length + 1]? = some ⟨0, 4, (boolsV h).toArray, fl, false, []⟩ ∧ partGo f ps (List.replicate (f.high.toNat + 1) false) = partGo f (ps.drop i) h) ∧
      t 2 = .pointer (some ⟨H.length, 0, some 4⟩) ∧ t 5 = .slice (some ⟨H.length + 1, 0, some (f.high.toNat + 1)⟩) (f.high.toNat + 1) 1 ∧ t 16 = .slice (some ⟨H.length + 2, 0, some ps.length⟩) ps.length 1 ∧ t 17 = i64v ps.length ∧ t 18 = i64v i)
    (fun e t G => Pr H.length H G ∧ ((e = .panic cronP ∧ partGo f ps (List.replicate (f.high.toNat + 1) false) = none) ∨ (e = .exit 0 ∧ H.length + 3 ≤ G.length ∧ ∃ h fl, h.length = f.high.toNat + 1 ∧ fl ≤ f.high.toNat + 1 ∧ G[H.length + 1]? = some ⟨0, 4, (boolsV h).toArray, fl, false, []⟩ ∧ partGo f ps (List.replicate (f.high.toNat + 1) false) = some h ∧
      t 5 = .slice (some ⟨H.length + 1, 0, some (f.high.toNat + 1)⟩) (f.high.toNat + 1) 1)))
    (by
      rintro i t G hi ⟨hPr, hG, g0, g2, ⟨h, fl, hh, hfl, g1, hgo⟩, h2, h5, h16, h17, h18⟩
      have hlt : (i : Int) < ps.length := by omega
      have hpi := hps i hi
      have hmem := hpl ps[i] (List.getElem_mem hi)
      rw [drop_cons hi, partGo] at hgo
      obtain ⟨G', hFr, hr⟩ := Fpiece f hf ps[i] (by omega) (A := H.length + 1) (p := H.length) g1 (by omega) (by omega) (by omega)
      simp only [FieldL.v, hh] at hr
      have hPr' : Pr H.length H G' := ⟨by have := hFr.1; omega, fun B hB => by rw [hFr.2 B (by omega) (by omega)]; exact hPr.2 B hB⟩
      rcases hr with ⟨h', e2, e3, e4, fl', e5, e6⟩ | ⟨e2, e4⟩
      · left
        rw [← hL, E_loop, hL]
        simp (disch := first | assumption | omega | (simp only [go_sem] <;> omega) | fail) only [go_sem, h2, h5, h16, h17, h18, hlt, g0, g2, hsz1, hpi, e4]
        refine ⟨_, _, rfl, hPr', by have := hFr.1; omega, by rw [hFr.2 _ (by omega) (by omega)]; exact g0, by rw [hFr.2 _ (by omega) (by omega)]; exact g2, ⟨h', fl', e3, e5, e6, by rw [hgo, e2]; rfl⟩, ?_⟩
        simp only [go_sem, h2, h5, h16, h17] <;> rfl
      · right
        rw [← hL, E_loop, hL]
        simp (disch := first | assumption | omega | (simp only [go_sem] <;> omega) | fail) only [go_sem, h2, h5, h16, h17, h18, hlt, g0, g2, hsz1, hpi, e4]
        exact ⟨_, _, _, rfl, hPr', .inl ⟨rfl, by rw [hgo, e2]; rfl⟩⟩)
    (by
      rintro t G ⟨hPr, hG, g0, g2, ⟨h, fl, hh, hfl, g1, hgo⟩, h2, h5, h16, h17, h18⟩
      rw [← hL, E_loop, hL]
      have hlt : ¬ (ps.length : Int) < ps.length := by omega
      rw [List.drop_length, partGo] at hgo
      simp (disch := first | assumption | omega | (simp only [go_sem] <;> omega) | fail) only [go_sem, h2, h5, h16, h17, h18, hlt]
      refine ⟨_, _, _, rfl, hPr, .inr ⟨rfl, hG, h, fl, hh, hfl, g1, hgo, ?_⟩⟩
      all_goals (simp only [go_sem, h5]))
    ⟨⟨by simp, fun B hB => by rw [List.getElem?_append_left (by simp; omega), List.getElem?_append_left (by simp; omega), List.getElem?_append_left hB]⟩, by simp,
      by rw [List.getElem?_append_left (by simp), List.getElem?_append_left (by simp)]; simp, by rw [List.getElem?_append_right (by simp)]; simp,
      ⟨List.replicate (f.high.toNat + 1) false, 0, by simp, by omega, by rw [List.getElem?_append_left (by simp), List.getElem?_append_right (by simp)]; simp [boolsV], rfl⟩, (by rw [← hT]; simp only [go_sem] <;> rfl), (by rw [← hT]; simp only [go_sem] <;> rfl), (by rw [← hT]; simp only [go_sem] <;> rfl), (by rw [← hT]; simp only [go_sem] <;> rfl), (by rw [← hT]; simp only [go_sem] <;> rfl)⟩
  rw [k1]
  obtain ⟨hPr1, k2⟩ := k2
  rcases k2 with ⟨rfl, k2⟩ | ⟨rfl, hG1, h, fl, hh, hfl, g1, hgo, h5⟩
  · simp (disch := first | assumption | omega | (simp only [go_sem] <;> omega) | fail) only [go_sem]
    obtain ⟨Z, rfl⟩ := Pr.add hPr1
    exact ⟨Z, .inr ⟨by rw [k2]; rfl, rfl⟩⟩
  · rw [hgo, Option.map_some]
    simp (disch := first | assumption | omega | (simp only [go_sem] <;> omega) | fail) only [go_sem, h5]
    generalize hT : upd _ 29 _ = T
    have hil := idxL_len 0 h
    have hszb : (boolsV h).length = f.high.toNat + 1 := by simp [hh]
    obtain ⟨e, t2, G2, q1, rfl, hPr2, q, hq1, hq2, hq3⟩ := loop_up (P := Tryz.prog) (cl := cl) (X := X) (L := L2) (p := H.length) (t := T) (H := G1) (f.high.toNat + 1)
      (fun i t G => Pr H.length H G ∧ H.length + 3 ≤ G.length ∧ G[H.length + 1]? = some ⟨0, 4, (boolsV h).toArray, fl, false, []⟩ ∧ (∃ q acc, OwnS H.length G q (i64s acc) ∧ (∀ B, inq q B → H.length + 3 ≤ B) ∧ idxL 0 h = acc ++ idxL i (h.drop i) ∧ t 8 = slv q acc.length 1) ∧
        t 27 = .slice (some ⟨H.length + 1, 0, some (f.high.toNat + 1)⟩) (f.high.toNat + 1) 1 ∧ t 28 = i64v (f.high.toNat + 1 : Nat) ∧ t 29 = i64v i)
      (fun e t G => e = .exit 2 ∧ Pr H.length H G ∧ ∃ q, CAt G q (i64s (idxL 0 h)) ∧ (∀ B, inq q B → H.length ≤ B ∧ B < G.length) ∧ t 8 = slv q (idxL 0 h).length 1)
      (by
        rintro i t G hi ⟨hPr, hG, g1, ⟨q, acc, hO, hq, hacc, h8⟩, h27, h28, h29⟩
        left
        rw [← hL2, E_loop, hL2]
        have hlt : (i : Int) < (f.high.toNat + 1 : Nat) := by omega
        have hi' : i < h.length := by omega
        have hbi : (boolsV h)[i]? = some (.bool h[i]) := by simp [hi']
        have hal : acc.length ≤ 1000 := by have := congrArg List.length hacc; simp at this; omega
        rw [drop_cons hi', idxL] at hacc
        cases hb : h[i] with
        | true =>
          rw [hb, if_pos rfl] at hacc
          rw [hb] at hbi
          obtain ⟨q', H2, a1, a2, a3, a4, a5⟩ := app_new (P := Tryz.prog) (p := H.length) (H := G) (T := 3) (T' := 27) (st := 27) (q := q) (len := acc.length) (xs := [i64v i]) Tryz.underlying27 ei27 (by omega) ap27 (by omega) hO (by simp) rfl (by omega)
          simp (disch := first | assumption | omega | (simp only [go_sem] <;> omega) | fail) only [go_sem, h8, h27, h28, h29, hlt, g1, hszb, hbi, a1]
          refine ⟨_, _, rfl, ⟨by omega, fun B hB => by rw [a4 B (by omega) (fun hc => by have := hq B hc; omega)]; exact hPr.2 B hB⟩, by omega, by rw [a4 _ (by omega) (fun hc => by have := hq _ hc; omega)]; exact g1, ⟨q', acc ++ [(i : Int)], by rw [i64s, List.map_append]; exact a2, fun B hB => (a5 B hB).elim (fun h => hq B h) (fun h => by omega), by rw [hacc, List.append_assoc]; rfl, by simp only [go_sem]⟩, ?_⟩
          simp only [go_sem, h27, h28] <;> rfl
        | false =>
          rw [hb, if_neg (by simp)] at hacc
          rw [hb] at hbi
          simp (disch := first | assumption | omega | (simp only [go_sem] <;> omega) | fail) only [go_sem, h8, h27, h28, h29, hlt, g1, hszb, hbi]
          refine ⟨_, _, rfl, hPr, hG, g1, ⟨q, acc, hO, hq, hacc, by simp only [go_sem, h8]⟩, ?_⟩
          simp only [go_sem, h27, h28] <;> rfl)
      (by
        rintro t G ⟨hPr, hG, g1, ⟨q, acc, hO, hq, hacc, h8⟩, h27, h28, h29⟩
        rw [← hL2, E_loop, hL2]
        have hlt : ¬ ((f.high.toNat + 1 : Nat) : Int) < (f.high.toNat + 1 : Nat) := by omega
        rw [List.drop_of_length_le (by omega), idxL, List.append_nil] at hacc
        simp (disch := first | assumption | omega | (simp only [go_sem] <;> omega) | fail) only [go_sem, h8, h27, h28, h29, hlt]
        refine ⟨_, _, _, rfl, rfl, hPr, q, by rw [hacc]; exact hO.cat, fun B hB => ⟨by have := hq B hB; omega, (hO.lt hB).2⟩, ?_⟩
        simp only [go_sem, h8]; rw [hacc])
      ⟨hPr1, hG1, g1, ⟨none, [], rfl, (fun B hB => by obtain ⟨_, _, hB⟩ := hB; cases hB), rfl, (by rw [← hT]; simp only [go_sem] <;> rfl)⟩, (by rw [← hT]; simp only [go_sem] <;> rfl), (by rw [← hT]; simp only [go_sem] <;> rfl), (by rw [← hT]; simp only [go_sem] <;> rfl)⟩
    rw [q1]
    obtain ⟨Z, rfl⟩ := Pr.add hPr2
    simp (disch := first | assumption | omega | (simp only [go_sem] <;> omega) | fail) only [go_sem, hq3]
    rcases q with _ | ⟨A0, o0, n0⟩
    · have hz : i64s (idxL 0 h) = [] := hq1
      have hz' : idxL 0 h = [] := by simpa using hz
      refine ⟨[], .inl ⟨_, none, rfl, ?_, ?_, fun B hB => by obtain ⟨_, _, hB⟩ := hB; cases hB⟩⟩
      · simp only [slv, g_sl0, if_true, List.append_nil]
      · rw [hz]; rfl
    · refine ⟨Z, .inl ⟨_, _, rfl, ?_, hq1, hq2⟩⟩
      simp only [slv, g_sl, Bool.false_eq_true, if_false]
end Go.AM.Z
