/-
  The program is good for the abstract machine, in a world that holds the library's tables.
-/
import Derived.Test.YtijobfkgkopkhaaGreatDoorZb
import Derived.Test.YtijobfkgkopkhaaGreatDoorZs
import Derived.Test.YtijobfkgkopkhaaGreatDoorZc
import Derived.WalkSmall
set_option linter.all false
set_option linter.unusedSimpArgs false
set_option linter.unusedVariables false
set_option linter.unusedSectionVars false
/-! The closure of 'named' alone, before the summaries of the library that call it. -/
namespace Go.AM.Z0
open Go Go.AM Go.AM.Z Go.Proofs
set_option maxRecDepth 100000
def some4 : List Nat := [40, 41, 70, 88]
def cl : FuncId → Nat := fun f => cond (Nat.ble 1000000 f) (cond (isIn (f - 1000000) some4) 1 0) (cond (isIn f some4 || Nat.beq f 87) 1 0)
def X : Exts := fun f => match f with
  | 87 => some (exG gIndexByte)
  | _ => none
noncomputable abbrev F := limF Tryz.prog cl X
theorem FIndexByte (s : List UInt8) (c : Int) (h : 0 ≤ c ∧ c < 256) (p : Nat) (H : Heap) : F 87 #[str s, .int .u8 c] p H = some (.returned (.int .i64 (Lib.indexByte s (UInt8.ofNat c.toNat))), H) := by
  rw [F, F_ext (f := 87) (X := X) rfl]
  exact exG_some _ _ (by unfold gIndexByte; exact if_pos h)
theorem F88 (x : Int) (p : Nat) (H : Heap) : ∃ b, F 88 #[.int .i32 x] p H = some (.returned (.bool b), H) := by
  rw [F, F_pure (f := 88) (X := X) (cl := cl) rfl rfl rfl Tryz.func88 rfl (by simp only [go_sem]), Tryz.results88]
  simp only [go_sem]
  repeat' (generalize hz : pickB _ _ _ _ _ = z; rcases pickB_cases hz with ⟨h, rfl⟩ | ⟨h, rfl⟩ <;> clear hz <;> (try simp only [go_sem] at h) <;> simp only [go_sem, h])
  all_goals exact ⟨_, rfl⟩
theorem F70 (s : List UInt8) (hs : s.length ≤ 1000000) (ha : ∀ b ∈ s, b.toNat < 128) (x : Nat) (p : Nat) (H : Heap) : F 70 #[str s, .int .i32 x] p H = some (.returned (.int .i64 (if x < 128 then Lib.indexByte s (UInt8.ofNat x) else -1)), H) := by
  rw [F, F_pure (f := 70) (X := X) (cl := cl) rfl rfl rfl Tryz.func70 rfl (by simp only [go_sem]), Tryz.results70]
  have h0 : (0 : Int) ≤ x := by omega
  by_cases hx : x < 128
  · have hx' : (x : Int) < 128 := by omega
    rw [if_pos hx]
    simp (disch := first | omega | (simp only [go_sem]; done)) only [go_sem, h0, hx', cv21_5, FIndexByte]
  · have hx' : ¬ (x : Int) < 128 := by omega
    rw [if_neg hx]
    by_cases he : (x : Int) = 65533
    · simp (disch := first | omega | (simp only [go_sem]; done)) only [go_sem, h0, hx', he]
      generalize hL : Code.loop _ = L
      have key : ∀ (k q : Nat) (t : Nat → Value) (H : Heap), s.length < q + k → H[0]? = some (itB s q) → t 175 = .pointer (some ⟨0, 0, some 0⟩) →
          ∃ t' H', limR Tryz.prog cl X L 0 ⟨t, [], H⟩ = some (.exit 9, ⟨t', [], H'⟩) := by
        intro k
        induction k with
        | zero =>
          intro q t H hq hH h175
          rw [← hL, E_loop, hL]
          have hlt : ¬ q < s.length := by omega
          simp only [go_sem, hH, hlt, h175]
          exact ⟨_, _, rfl⟩
        | succ k ih =>
          intro q t H hq hH h175
          rw [← hL, E_loop, hL]
          have hAl := (List.getElem?_eq_some_iff.1 hH).1
          by_cases hlt : q < s.length
          · have hb := ha _ (List.getElem_mem hlt)
            have hd := dec_ascii (List.getElem?_eq_getElem hlt) hb
            have hne : ¬ ((s[q].toNat : Int) = 65533) := by omega
            simp (disch := first | omega | (simp only [go_sem]; done)) only [go_sem, hH, hlt, h175, hd, hne]
            generalize hT : upd _ 181 _ = T
            exact ih (q + 1) T _ (by omega) (List.getElem?_set_self hAl) (by rw [← hT]; simp only [go_sem, h175])
          · simp only [go_sem, hH, hlt, h175]
            exact ⟨_, _, rfl⟩
      generalize hT : upd _ 175 _ = T
      obtain ⟨t', H', k1⟩ := key (s.length + 1) 0 T [itB s 0] (by omega) rfl (by rw [← hT]; simp only [go_sem])
      rw [k1]
      simp only [go_sem]
    · obtain ⟨b, h88⟩ := F88 x 0 []
      cases b with
      | false => simp (disch := first | omega | (simp only [go_sem]; done)) only [go_sem, h0, hx', he, h88]
      | true =>
        obtain ⟨es, a, m, e1, e2, e3, e4, e5, e6⟩ := enc_high x (by omega)
        have e2' : ((es.length : Int) - 1) = (m : Nat) := by omega
        simp (disch := first | omega | (simp only [go_sem]; done)) only [go_sem, h0, hx', he, h88]
        rw [E_scopeR]
        simp (disch := first | omega | (simp only [go_sem]; done)) only [go_sem, cv21_9, e1, bin_sub, e2']
        rw [E_loop]
        by_cases hm : m < s.length
        · have hm' : (m : Int) < s.length := by omega
          have hs1 : s[((m : Nat) : Int).toNat]? = some s[m] := by rw [Int.toNat_natCast]; exact List.getElem?_eq_getElem hm
          have hs2 : es[((m : Nat) : Int).toNat]? = some a := by rw [Int.toNat_natCast]; exact e5
          have hbm := ha _ (List.getElem_mem hm)
          have hne : ¬ ((s[m].toNat : Int) = a.toNat) := by omega
          have hc := a.toNat_lt
          have hmm : ((m : Int) + 1).toNat = m + 1 := by omega
          have hio : Lib.indexByte (s.drop (m + 1)) (UInt8.ofNat a.toNat) = -1 := indexByte_none _ _ fun b hb => by
            intro he
            have := ha b (List.mem_of_mem_drop hb)
            rw [he, UInt8.ofNat_toNat] at this
            omega
          have i1 := ix9 (l := s) (by omega) hs1
          have i2 := ix9 (l := es) (by omega) hs2
          simp (disch := first | omega | (simp only [go_sem]; done)) only [go_sem, hm', i1, i2, hne, bin_add, FIndexByte, hmm, hio, E_scopeR]
        · have hm' : ¬ (m : Int) < s.length := by omega
          simp (disch := first | omega | (simp only [go_sem]; done)) only [go_sem, hm', E_scopeR]
theorem F41 (x : Nat) (p : Nat) (H : Heap) : F 41 #[str lettersL, .int .i32 x] p H = some (.returned (.bool (letterI x)), H) := by
  rw [F, F_pure (f := 41) (X := X) (cl := cl) rfl rfl rfl Tryz.func41 rfl (by simp only [go_sem]), Tryz.results41]
  have h70 := F70 lettersL (by decide) letters_ascii x
  by_cases hx : x < 128
  · have := letters_tab ⟨x, hx⟩
    simp only at this
    simp only [go_sem, h70, hx, this]
  · have : letterI x = false := by unfold letterI; simp; omega
    simp only [go_sem, h70, hx, this]
theorem F40 (x : Nat) (p : Nat) (H : Heap) : F 40 #[.int .i32 x] p H = some (.returned (.int .i32 (dropL x)), H) := by
  rw [F, F_pure (f := 40) (X := X) (cl := cl) rfl rfl rfl Tryz.func40 rfl (by simp only [go_sem]), Tryz.results40]
  have h41 := F41 x
  simp only [lettersL] at h41
  unfold dropL
  cases hq : letterI x with
  | true => simp only [go_sem, h41, hq]
  | false => simp only [go_sem, h41, hq]
end Go.AM.Z0

namespace Go.AM
open Go
open Go.RowKit (Below)
variable {P : Program} {N0 : Nat} {W0 : World} {cl : FuncId → Nat} {X : Exts}
theorem ext_plain2 {f : FuncId} {g : Array Value → Option Value} (hT : Taken P f) (hg : ∀ args v, g args = some v → (∀ M ys, VRL M args.toList ys → ys = args.toList) ∧ ∀ w, Below N0 W0 w → N0 ≤ w.heap.size →
    Calls P f args w fun e w' => ∃ v', e = .returned v' ∧ VR noMp v v' ∧ Below w.heap.size w w') : ExtSound P N0 W0 f (exG g) := by
  refine ⟨hT, fun args prot H e H' h hp => ?_⟩
  unfold exG at h
  obtain ⟨v, hv, h⟩ := Option.map_eq_some_iff.1 h
  cases h
  obtain ⟨h1, h2⟩ := hg args v hv
  refine ⟨.refl _ _, fun M w args' hH hvl => ?_⟩
  have : args' = args := Array.ext' (h1 M _ hvl)
  subst this
  refine Calls.mono (h2 w hH.below hH.n0) ?_
  rintro e w' ⟨v', rfl, k1, k2⟩
  exact ⟨M, .refl _, hH.world k2, vr_mono (noMp_le M) k1, ⟨fun _ _ _ => rfl, fun B0 hB hM => ⟨k2.mono hB, hM⟩⟩⟩
/-- What is asked of the functions that are taken, as one test. -/
def goodB (P : Program) (cl : FuncId → Nat) (ex : FuncId → Bool) : Bool := (List.range P.funcs.size).all fun f => ex f || Nat.beq (cl f) 0 || (match P.funcs[f]? with
  | some fn => match fn.body with
    | some c => decide (fn.name ≠ "runtime.NumGoroutine") && codeOk cl fn.ntmps c
    | none => true
  | none => true)
theorem body_of {ex : FuncId → Bool} (h : goodB P cl ex = true) (hx : ∀ f, X f = none → ex f = false) :
    ∀ f, X f = none → cl f ≠ 0 → ∀ fn c, P.funcs[f]? = some fn → fn.body = some c → fn.name ≠ "runtime.NumGoroutine" ∧ codeOk cl fn.ntmps c = true := by
  intro f hX hc fn c hf hb
  have hlt : f < P.funcs.size := (Array.getElem?_eq_some_iff.1 hf).1
  have := List.all_eq_true.1 h f (List.mem_range.2 hlt)
  have hcl : Nat.beq (cl f) 0 = false := by
    cases hq : Nat.beq (cl f) 0 with
    | false => rfl
    | true => exact absurd (Nat.eq_of_beq_eq_true hq) hc
  simp only [hx f hX, hcl, Bool.false_or, hf, hb, Bool.and_eq_true, decide_eq_true_eq] at this
  exact this
end Go.AM
namespace Go.AM.Z
open Go Go.AM Go.Proofs
open Go.RowKit (Below)
set_option maxRecDepth 1000000
theorem args1 {args : Array Value} {a : Value} (h : args.toList = [a]) : args = #[a] := Array.ext' h
theorem args2 {args : Array Value} {a b : Value} (h : args.toList = [a, b]) : args = #[a, b] := Array.ext' h
theorem mixedT : Tryz.prog.follows .mixedOrders = true := by kernel_rfl
variable {N0 : Nat} {W0 : World}
theorem s_IndexByte {f : FuncId} (hT : Taken Tryz.prog f) (hC : ∀ (s : ByteArray) (c : Int) (w : World), Calls Tryz.prog f #[.string s, .int .u8 c] w fun e w' => e = .returned (.int .i64 (Lib.indexByte s.data.toList c.toNat.toUInt8)) ∧ w' = w) :
    ExtSound Tryz.prog N0 W0 f (exG gIndexByte) := by
  refine ext_plain hT fun args v h => ?_
  unfold gIndexByte at h
  split at h
  · rename_i s c ha
    split at h
    · injection h with h
      rw [ha]
      refine ⟨by simp [ground, flat1, flat], fun w hb hn => ?_⟩
      rw [args2 ha]
      refine Calls.mono (hC s c w) ?_
      rintro e w' ⟨rfl, rfl⟩
      exact ⟨_, rfl, by rw [← h]; exact (vr_ground rfl).2 rfl, Below.refl _ _⟩
    · cases h
  · cases h
theorem s_Index {f : FuncId} (hT : Taken Tryz.prog f) (hC : ∀ (s : ByteArray) (c : UInt8) (w : World), Calls Tryz.prog f #[.string s, .string ⟨#[c]⟩] w fun e w' => e = .returned (.int .i64 (Lib.indexByte s.data.toList c)) ∧ w' = w) :
    ExtSound Tryz.prog N0 W0 f (exG gIndex) := by
  refine ext_plain hT fun args v h => ?_
  unfold gIndex at h
  split at h
  · rename_i s c ha
    injection h with h
    rw [ha]
    refine ⟨by simp [ground, flat1, flat], fun w hb hn => ?_⟩
    rw [args2 ha]
    refine Calls.mono (hC s c w) ?_
    rintro e w' ⟨rfl, rfl⟩
    exact ⟨_, rfl, by rw [← h]; exact (vr_ground rfl).2 rfl, Below.refl _ _⟩
  · cases h
theorem s_Count : ExtSound Tryz.prog N0 W0 99 (exG gCount) := by
  refine ext_plain ⟨Tryz.f99, Tryz.func99, rfl, by decide⟩ fun args v h => ?_
  unfold gCount at h
  split at h
  · rename_i s c ha
    injection h with h
    rw [ha]
    refine ⟨by simp [ground, flat1, flat], fun w hb hn => ?_⟩
    rw [args2 ha]
    refine Calls.mono (Tryz.strings_Count_one s c w) ?_
    rintro e w' ⟨rfl, rfl⟩
    exact ⟨_, rfl, by rw [← h]; exact (vr_ground rfl).2 rfl, Below.refl _ _⟩
  · cases h
/-- What the variables hold that the library reads. -/
structure Tabs (w : World) : Prop where
  pow : Lib.TabIs Tryz.prog w "internal/strconv.uint64pow10" .u64 Lib.pow10Tab
  utf : Lib.Utf8Tabs 0 1 w
  syn : ∃ ev, w.cell? ⟨3, 0, none⟩ = some ev ∧ (ev = .nilIface ∨ ∃ te pe, ev = .iface te pe)
  ran : ∃ ev, w.cell? ⟨4, 0, none⟩ = some ev ∧ (ev = .nilIface ∨ ∃ te pe, ev = .iface te pe)
theorem cell_lt' {w : World} {a : Addr} {v : Value} (hc : w.cell? a = some v) : a.block < w.heap.size := by
  rcases Nat.lt_or_ge a.block w.heap.size with h' | h'
  · exact h'
  · simp [World.cell?, Array.getElem?_eq_none h'] at hc
theorem Tabs.below {w w' : World} (h : Tabs w) (hb : Below w.heap.size w w') : Tabs w' := by
  obtain ⟨h1, h2, ⟨v3, h3, k3⟩, ⟨v4, h4, k4⟩⟩ := h
  refine ⟨?_, Utf8Tabs_below h2 hb, ⟨v3, (hb.cell (cell_lt' h3)).trans h3, k3⟩, ⟨v4, (hb.cell (cell_lt' h4)).trans h4, k4⟩⟩
  have h8 : Tryz.prog.globalNamed "internal/strconv.uint64pow10" = some 5 := by kernel_rfl
  have hlt : 5 < w.heap.size := by
    have := World.var?_cell h8 h1 0
    refine cell_lt' (a := ⟨5, 0, none⟩) (v := .int .u64 1) (this.trans ?_)
    rfl
  exact var?_below hb h8 hlt h1
theorem s_Itoa (hT0 : Tabs W0) : ExtSound Tryz.prog W0.heap.size W0 42 (exG gItoa) := by
  refine ext_plain ⟨Tryz.f42, Tryz.func42, rfl, by decide⟩ fun args v h => ?_
  unfold gItoa at h
  split at h
  · rename_i n ha
    split at h
    · rename_i hn
      injection h with h
      rw [ha]
      refine ⟨by simp [ground, flat1, flat], fun w hb _ => ?_⟩
      rw [args1 ha]
      refine Calls.mono (Tryz.strconv_Itoa n hn.1 hn.2 w (hT0.below hb).pow) ?_
      rintro e w' ⟨rfl, k, os, rfl⟩
      exact ⟨_, rfl, by rw [← h]; exact (vr_ground rfl).2 rfl, ⟨rfl, rfl, rfl, by first | (simp [Go.Sort.grow]; done) | (simp [Go.Sort.grow]; omega) | (show w.heap.size ≤ (w.heap ++ os).size; simp), fun i hi => by
        show (w.heap ++ os)[i]? = _
        rw [Array.getElem?_append_left hi]⟩⟩
    · cases h
  · cases h
theorem s_Atoi (hT0 : Tabs W0) : ExtSound Tryz.prog W0.heap.size W0 56 (exG gAtoi) := by
  refine ext_plain ⟨Tryz.f56, Tryz.func56, rfl, by decide⟩ fun args v h => ?_
  unfold gAtoi at h
  split at h
  · rename_i s ha
    split at h
    · rename_i hn
      injection h with h
      rw [ha]
      refine ⟨by simp [ground, flat1, flat], fun w hb _ => ?_⟩
      rw [args1 ha]
      have tb := hT0.below hb
      have fin : ∀ (n : Int) (x : Value), atoiV s.data.toList = n → VR noMp v (.tuple #[.int .i64 n, x]) := by
        intro n x hn
        rw [← h, hn]
        show ∃ ys, _ = Value.tuple ⟨ys⟩ ∧ VRL noMp [Value.int .i64 n, .chan (some 0)] ys
        refine ⟨[.int .i64 n, x], rfl, ?_⟩
        rw [vrl_cons2, vrl_cons2]
        exact ⟨(vr_flat rfl).2 rfl, by simp [VR], by simp [VRL]⟩
      rcases hq : Lib.atoiAll s.data.toList with n | _ | _
      · refine Calls.mono (Tryz.strconv_Atoi_ok s (by omega) n hq w) ?_
        rintro e w' ⟨rfl, hw⟩
        refine ⟨_, rfl, fin _ _ (by unfold atoiV; rw [hq]), ?_⟩
        rcases hw with rfl | ⟨t, rfl⟩
        · exact Below.refl _ _
        · exact ⟨rfl, rfl, rfl, by rw [Lib.bytesWorld_size]; omega, fun j hj => Lib.bytesWorld_at_old w 5 t j hj⟩
      · obtain ⟨ev, e1, e2⟩ := tb.syn
        refine Calls.mono (Any.strconv_Atoi_syntax Tryz.laysC172 s hn hq ev w e1 e2) ?_
        rintro e w' ⟨N, rfl, _, _, hw⟩
        exact ⟨_, rfl, fin _ _ (by unfold atoiV; rw [hq]), hw⟩
      · obtain ⟨ev, e1, e2⟩ := tb.ran
        refine Calls.mono (Tryz.strconv_Atoi_range s hn hq ev w e1 e2) ?_
        rintro e w' ⟨N, rfl, _, _, hw⟩
        exact ⟨_, rfl, fin _ _ (by unfold atoiV; rw [hq]), hw⟩
    · cases h
  · cases h
theorem s_Last (hT0 : Tabs W0) : ExtSound Tryz.prog W0.heap.size W0 82 (exG gLast) := by
  refine ext_plain ⟨Tryz.f82, Tryz.func82, rfl, by decide⟩ fun args v h => ?_
  unfold gLast at h
  split at h
  · rename_i s ha
    split at h
    · rename_i hn
      injection h with h
      rw [ha]
      refine ⟨by simp [ground, flat1, flat], fun w hb _ => ?_⟩
      rw [args1 ha]
      refine Calls.mono (Tryz.utf8_DecodeLastRuneInString s w hn (hT0.below hb).utf) ?_
      rintro e w' ⟨rfl, hw⟩
      exact ⟨_, rfl, by rw [← h]; exact (vr_ground (by simp [ground, flat1, flat])).2 rfl, hw⟩
    · cases h
  · cases h
theorem gb0 : goodB Tryz.prog Z0.cl (fun f => Nat.beq f 87) = true := by kernel_rfl
theorem good0 : Good Tryz.prog N0 W0 Z0.cl Z0.X := by
  refine ⟨mixedT, ?_, body_of gb0 ?_⟩
  · intro f g hX
    unfold Z0.X at hX
    split at hX
    · injection hX with hX
      subst hX
      exact s_IndexByte ⟨Tryz.f87, Tryz.func87, rfl, by decide⟩ Tryz.strings_IndexByte
    · cases hX
  · intro f hX
    cases hq : Nat.beq f 87 with
    | false => rfl
    | true =>
      rw [Nat.eq_of_beq_eq_true hq] at hX
      cases hX
theorem dropL_bound (x : Nat) (h : x ≤ 1114111) : -2147483648 ≤ dropL x ∧ dropL x ≤ 2147483647 := by
  unfold dropL
  split <;> omega
theorem s_Map (hT0 : Tabs W0) : ExtSound Tryz.prog W0.heap.size W0 39 (exG gMap) := by
  refine ext_plain2 ⟨Tryz.f39, Tryz.func39, rfl, by decide⟩ fun args v h => ?_
  unfold gMap at h
  split at h
  · rename_i s ha
    split at h
    · rename_i hn
      injection h with h
      rw [ha]
      refine ⟨fun M ys hv => ?_, fun w hb hN => ?_⟩
      · rw [vrl_cons] at hv
        obtain ⟨y, ys', rfl, h1, h2⟩ := hv
        rw [vrl_cons] at h2
        obtain ⟨y2, ys2, rfl, h3, h4⟩ := h2
        rw [vrl_nil] at h4
        subst h4
        rw [(vr_flat rfl).1 h3]
        simp only [VR, VRL] at h1
        obtain ⟨a', b', e1, e2, e3⟩ := h1
        subst e2 e3
        rw [e1]
      · rw [args2 ha]
        have eg : ∀ (args : Array Value) (w : World), (callFunc 40 args).run Tryz.prog w = .ok (.enter 40 args) w := enters_of Tryz.func40 (by kernel_rfl) rfl
        have hf : MapGrows Tryz.prog 40 #[] dropL w := by
          intro W x hx hbW
          have hb' : Below W0.heap.size W0 W := hb.trans (hbW.mono hN)
          have hn' : W0.heap.size ≤ W.heap.size := Nat.le_trans hN hbW.size
          exact plain_calls (good0 (N0 := W0.heap.size) (W0 := W0)) (Z0.F40 x 0 []) (by simp [ground, flat1, flat]) rfl hb' hn'
        refine Calls.mono (Tryz.strings_Map_grows 40 #[] eg dropL s w hn.1 hf dropL_bound (hT0.below hb).utf) ?_
        rintro e w' ⟨rfl, hw⟩
        exact ⟨_, rfl, by rw [← h]; exact (vr_ground rfl).2 rfl, hw⟩
    · cases h
  · cases h
theorem gb : goodB Tryz.prog cl (fun f => isIn f exts) = true := by kernel_rfl
theorem good (hT0 : Tabs W0) : Good Tryz.prog W0.heap.size W0 cl X := by
  refine ⟨mixedT, ?_, body_of gb ?_⟩
  · intro f g hX
    unfold X at hX
    split at hX <;> first | (injection hX with hX; subst hX) | cases hX
    · exact s_Itoa hT0
    · exact s_Atoi hT0
    · exact s_Index ⟨Tryz.f72, Tryz.func72, rfl, by decide⟩ Tryz.strings_Index_one
    · exact s_Index ⟨Tryz.f92, Tryz.func92, rfl, by decide⟩ Tryz.stringslite_Index_one
    · exact s_IndexByte ⟨Tryz.f87, Tryz.func87, rfl, by decide⟩ Tryz.strings_IndexByte
    · exact s_IndexByte ⟨Tryz.f104, Tryz.func104, rfl, by decide⟩ Tryz.stringslite_IndexByte
    · exact s_Count
    · exact s_Last hT0
    · exact s_Map hT0
  · intro f hX
    cases hq : isIn f exts with
    | false => rfl
    | true =>
      exfalso
      have key : ∀ l : List Nat, isIn f l = true → f ∈ l := by
        intro l
        induction l with
        | nil => intro h; cases h
        | cons x xs ih =>
          intro h
          unfold isIn at h
          cases hb : Nat.beq f x with
          | true => rw [Nat.eq_of_beq_eq_true hb]; simp
          | false => rw [hb] at h; exact List.mem_cons_of_mem _ (ih h)
      have hm := key _ hq
      simp only [exts, List.mem_cons, List.mem_nil_iff, or_false] at hm
      rcases hm with rfl | rfl | rfl | rfl | rfl | rfl | rfl | rfl | rfl <;> cases hX
end Go.AM.Z
