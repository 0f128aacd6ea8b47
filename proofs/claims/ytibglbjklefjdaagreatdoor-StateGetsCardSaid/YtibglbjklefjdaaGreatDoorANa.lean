/-
  An abstract machine for the program's code, and how its states belong to the model's worlds; each plain operation is simulated. No condition.
-/
import Derived.WalkKit
set_option linter.all false
set_option linter.unusedSimpArgs false
set_option linter.unusedVariables false
set_option linter.unusedSectionVars false
namespace Go.AM
open Go
structure Blk where
  k : Nat
  e : TypeId
  c : Array Value
  fl : Nat
  ro : Bool
  m : List (Value × Value)
abbrev Heap := List Blk
def cel (e : TypeId) (c : Array Value) : Blk := ⟨0, e, c, 0, false, []⟩
structure St where
  t : Nat → Value
  ds : List Deferred
  H : Heap
abbrev Fn' := FuncId → Array Value → Nat → Heap → Option (Ending × Heap)
abbrev Ru := Code → Nat → St → Option (Exit × St)
def flat : Value → Bool
  | .bool _ | .int .. | .float .. | .complex .. | .string _ | .nilFunc | .nilIface | .pointer none | .slice none _ _ | .map none | .chan none => true
  | _ => false
def flat1 : Value → Bool
  | .agg cs => cs.all flat
  | .iface _ v => flat v
  | v => flat v
def ground : Value → Bool
  | .tuple vs => vs.all flat1
  | .iface _ v => flat1 v
  | v => flat1 v
def oneC : Value → Bool
  | .agg _ | .tuple _ | .chan (some _) => false
  | _ => true
def cellsV : Value → Option (Array Value)
  | .agg cs => if cs.toList.all oneC = true then some cs else none
  | v => if oneC v = true then some #[v] else none
def pureRun (P : Program) {α : Type} : Sem α → Option α
  | .pure a => some a
  | .program k => pureRun P (k P)
  | .mark _ k => pureRun P k
  | _ => none
def sz (P : Program) (t : TypeId) : Option Nat := (P.info? t).map (·.size)
def bts (P : Program) (t : TypeId) : Option Nat := (P.info? t).map (·.bytes)
def zer (P : Program) (t : TypeId) : Option Value := ((P.info? t).bind (·.zero)).bind fun z => if flat1 z = true then some z else none
def isAggD (P : Program) (t : TypeId) : Bool := match P.underlying t with
  | some (.struct _) | some (.array ..) => true
  | _ => false
def rd (H : Heap) (A off n cnt : Nat) : Option (Array Value) :=
  (H[A]?).bind fun B => if B.k = 0 ∧ B.fl ≤ n ∧ off + cnt ≤ n ∧ n ≤ B.c.size then some (B.c.extract off (off + cnt)) else none
def putAll (cs : Array Value) (off : Nat) : List Value → Array Value
  | [] => cs
  | v :: vs => putAll (cs.setIfInBounds off v) (off + 1) vs
def wr (H : Heap) (prot A off n : Nat) (vs : Array Value) : Option Heap :=
  (H[A]?).bind fun B => if B.k = 0 ∧ prot ≤ A ∧ B.ro = false ∧ B.fl ≤ n ∧ n = B.c.size ∧ off + vs.size ≤ n then some (H.set A { B with c := putAll B.c off vs.toList, fl := n }) else none
def ldv (P : Program) (H : Heap) (t : TypeId) (A off n : Nat) : Option Value :=
  (sz P t).bind fun s => (rd H A off n s).bind fun cs => if isAggD P t = true then some (.agg cs) else if s = 1 ∧ (P.underlying t).isSome = true then cs[0]? else none
def ldA (P : Program) (H : Heap) (t : TypeId) : Value → Option Value
  | .pointer (some ⟨A, off, some n⟩) => ldv P H t A off n
  | _ => none
def stA (P : Program) (H : Heap) (prot : Nat) (t : TypeId) (a x : Value) : Option Heap := match a with
  | .pointer (some ⟨A, off, some n⟩) => (cellsV x).bind fun cs => if sz P t = some cs.size then wr H prot A off n cs else none
  | _ => none
def zeros (z : Array Value) (l : Nat) : Array Value := (List.replicate l z.toList).flatten.toArray
def elemI (P : Program) (t : TypeId) : Option (Nat × Nat) := (P.info? t).bind fun i => (zer P t).bind fun z => if z.cells.size = i.size then some (i.size, i.bytes) else none
def srcOf (H : Heap) (s : Nat) : Value → Option (Array Value × Nat)
  | .slice none 0 0 => some (#[], 0)
  | .slice (some ⟨A, off, some n⟩) len s' => if s' = s then (rd H A off n (len * s)).map fun cs => (cs, len) else none
  | .string b => if s = 1 then some (b.data.map fun c => Value.int .u8 c.toNat, b.size) else none
  | _ => none
def appendV (P : Program) (prot : Nat) (st : TypeId) (s x : Value) (H : Heap) : Option (Value × Heap) :=
  match P.underlying st with
  | some (.slice elem) => (elemI P elem).bind fun sb => (srcOf H sb.1 x).bind fun xm =>
    match s with
    | .slice none 0 0 => if xm.2 = 0 then some (.slice none 0 0, H) else if xm.2 * (sb.2 + 1) ≤ 2 ^ 47 then some (.slice (some ⟨H.length, 0, some xm.1.size⟩) xm.2 sb.1, H ++ [cel elem xm.1]) else none
    | .slice (some ⟨A, 0, some n⟩) len s' =>
      if s' = sb.1 then
        if xm.2 = 0 then some (s, H) else
        (H[A]?).bind fun B => if B.k = 0 ∧ prot ≤ A ∧ B.ro = false ∧ B.fl ≤ n ∧ n = B.c.size ∧ len * sb.1 = n ∧ 0 < sb.1 ∧ (len + xm.2) * (sb.2 + 1) ≤ 2 ^ 47 then
            some (.slice (some ⟨A, 0, some (n + xm.1.size)⟩) (len + xm.2) sb.1, H.set A { B with c := B.c ++ xm.1 })
          else none
      else none
    | _ => none
  | _ => none
def copyV (P : Program) (prot : Nat) (dt : TypeId) (d x : Value) (H : Heap) : Option (Value × Heap) :=
  match P.underlying dt with
  | some (.slice elem) => (sz P elem).bind fun size => (srcOf H size x).bind fun xm =>
    match d with
    | .slice none 0 0 => some (.int .i64 0, H)
    | .slice (some ⟨A, off, some n⟩) len s' => if s' = size then let k := Nat.min xm.2 len
        (wr H prot A off n (xm.1.extract 0 (k * size))).map fun H' => (.int .i64 k, H') else none
    | _ => none
  | _ => none
def partV (P : Program) (t : TypeId) (cs : Array Value) (off : Nat) : Option Value :=
  if (P.underlying t).isSome = true then if isAggD P t = true then (sz P t).map fun s => .agg (cs.extract off (off + s)) else cs[off]? else none
def fldV (P : Program) (T : TypeId) (x : Value) (f : Nat) : Option Value := match P.underlying T, x with
  | some (.struct fs), .agg cs => (fs[f]?).bind fun fd => partV P fd.type cs fd.offset
  | _, _ => none
def extV (x : Value) (i : Nat) : Option Value := match x with
  | .tuple vs => vs[i]?
  | _ => none
def mkIV (P : Program) (T : TypeId) (x : Value) : Option Value := match P.underlying T with
  | some (.interface _) => none
  | some _ => some (.iface T x)
  | none => none
def idxV (P : Program) (T : TypeId) (x i : Value) : Option Value := match P.underlying T, x, i with
  | some (.array len e), .agg cs, .int _ n => if 0 ≤ n ∧ n < len then (sz P e).bind fun s => partV P e cs (n.toNat * s) else none
  | some .string, .string s, .int _ n => if 0 ≤ n then (s[n.toNat]?).map fun b => .int .u8 b.toNat else none
  | _, _, _ => none
def okV (P : Program) (T : TypeId) (ok : Bool) (r : Option Value) : Option Value := match r with
  | some v => some (if ok = true then .tuple #[v, .bool true] else v)
  | none => if ok = true then (zer P T).map fun z => .tuple #[z, .bool false] else none
def asrtV (P : Program) (x : Value) (T : TypeId) (ok : Bool) : Option Value := match P.underlying T, x with
  | some (.interface want), .iface t v => (P.info? t).bind fun i => okV P T ok (if Instr.missingMethod want i.methods = none then some (.iface t v) else none)
  | some _, .iface t v => okV P T ok (if t = T then some v else none)
  | some _, .nilIface => okV P T ok none
  | _, _ => none
def placesV (P : Program) (T : TypeId) : Option (Nat → Option (Nat × Nat)) := match P.underlying T with
  | some (.struct fields) => (pureRun P (fields.mapM fun f => do pure (f.offset, ← sizeOf f.type))).map fun pl i => pl[i]?
  | some (.array _ elem) => (sz P elem).map fun s i => some (i * s, s)
  | _ => none
def bldV (P : Program) (T : TypeId) (parts : Array (Nat × Value)) : Option Value :=
  if parts.toList.all (fun p => (cellsV p.2).isSome) = true then (zer P T).bind fun z => (placesV P T).bind fun pl => (Instr.fill pl z.cells parts.toList).map fun cs => .agg cs else none
def nilOk (P : Program) (T : TypeId) (x y : Value) : Bool := match P.underlying T, x, y with
  | some (.pointer _), .pointer (some _), .pointer none | some (.pointer _), .pointer none, .pointer (some _)
  | some (.slice _), .slice (some _) _ _, .slice none _ _ | some (.slice _), .slice none _ _, .slice (some _) _ _
  | some (.func ..), .func .., .nilFunc | some (.func ..), .nilFunc, .func ..
  | some (.interface _), .iface .., .nilIface | some (.interface _), .nilIface, .iface ..
  | some (.map ..), .map (some _), .map none | some (.map ..), .map none, .map (some _) => true
  | _, _, _ => false
def binG (P : Program) (c : Bool) (op : BinOp) (T : TypeId) (x y : Value) : Option Value :=
  (pureRun P (do eqGuard op T (if c = true then .const .nilIface else .tmp 0) (.tmp 0) x y; binOp op T x y)).bind fun v => if flat v = true then some v else none
def binV (P : Program) (c : Bool) (op : BinOp) (T : TypeId) (x y : Value) : Option Value :=
  if (ground x && ground y) = true then binG P c op T x y
  else if nilOk P T x y = true then match op with
    | .eql => some (.bool false)
    | .neq => some (.bool true)
    | _ => none
  else none
def unV (P : Program) (op : UnOp) (x : Value) : Option Value := if flat x then pureRun P (Op.unary op x) else none
def isC : Operand → Bool
  | .const _ => true
  | _ => false
def pickV (c x y : Value) : Option Value := match c with
  | .bool b => some (if b = true then x else y)
  | _ => none
def lowV (v : Option Value) : Option Nat := match v with
  | none => some 0
  | some (.int _ n) => if 0 ≤ n then some n.toNat else none
  | _ => none
def highV (v : Option Value) (len : Nat) : Option Nat := match v with
  | none => some len
  | some (.int _ n) => if 0 ≤ n ∧ n ≤ len then some n.toNat else none
  | _ => none
def sliceV (P : Program) (t : TypeId) (x : Value) (lo hi mx : Option Value) : Option Value :=
  match x with
  | .string s => match P.underlying t with
    | some .string => if mx.isNone then (highV hi s.size).bind fun h => (lowV lo).bind fun l => if l ≤ h then some (.string (s.extract l h)) else none else none
    | _ => none
  | .slice none 0 0 => match P.underlying t with
    | some (.slice e) => (sz P e).bind fun _ => if mx.isNone then (highV hi 0).bind fun _ => (lowV lo).bind fun l => if l = 0 then some (.slice none 0 0) else none else none
    | _ => none
  | .slice (some ⟨A, off, some n⟩) len s' => match P.underlying t with
    | some (.slice e) => (sz P e).bind fun s => (highV mx len).bind fun m => (highV hi m).bind fun h => (lowV lo).bind fun l => if l ≤ h ∧ s' = s ∧ (mx.isSome → hi.isSome) then some (.slice (some ⟨A, off + l * s, some n⟩) (h - l) s) else none
    | _ => none
  | .pointer (some ⟨A, off, some n⟩) => match P.underlying t with
    | some (.array N e) => (sz P e).bind fun s => (highV hi N).bind fun h => (lowV lo).bind fun l => if l ≤ h ∧ mx.isNone ∧ off + N * s ≤ n then some (.slice (some ⟨A, off + l * s, some n⟩) (h - l) s) else none
    | _ => none
  | _ => none
def fieldA (P : Program) (s : TypeId) (x : Value) (f : Nat) : Option Value :=
  match x, P.underlying s with
  | .pointer (some ⟨A, off, some n⟩), some (.struct fs) => (fs[f]?).bind fun fd => if sz P fd.type = some 0 ∨ sz P fd.type = none then none else some (.pointer (some ⟨A, off + fd.offset, some n⟩))
  | _, _ => none
def idxA (P : Program) (t : TypeId) (x ix : Value) : Option Value :=
  match ix, P.underlying t, x with
  | .int _ i, some (.slice e), .slice (some ⟨A, off, some n⟩) len s' => (sz P e).bind fun s => if 0 ≤ i ∧ i < len ∧ s' = s then some (.pointer (some ⟨A, off + i.toNat * s, some n⟩)) else none
  | .int _ i, some (.array len e), .pointer (some ⟨A, off, some n⟩) => (sz P e).bind fun s => if 0 ≤ i ∧ i < len then some (.pointer (some ⟨A, off + i.toNat * s, some n⟩)) else none
  | _, _, _ => none
def bytesOf (cs : Array Value) : Option ByteArray := cs.toList.foldlM (fun (s : ByteArray) c => match c with
  | .int .u8 n => some (s.push (UInt8.ofNat n.toNat))
  | _ => none) ByteArray.empty
def convV (P : Program) (src dst : TypeId) (x : Value) (H : Heap) : Option (Value × Heap) :=
  match P.underlying src, P.underlying dst, x with
  | some _, some (.slice e), .string s => match P.underlying e with
    | some (.int .u8) => some (.slice (some ⟨H.length, 0, some s.size⟩) s.size 1, H ++ [cel e (s.data.map fun c => Value.int .u8 c.toNat)])
    | some (.int .i32) => let r := Conv.runesFrom s s.size 0 #[]; if r.toList.all flat then some (.slice (some ⟨H.length, 0, some r.size⟩) r.size 1, H ++ [cel e r]) else none
    | _ => none
  | some (.slice e), some .string, .slice (some ⟨A, off, some n⟩) len s' => match P.underlying e with
    | some (.int .u8) => if s' = 1 then (rd H A off n len).bind fun cs => (bytesOf cs).map fun b => (.string b, H) else none
    | _ => none
  | _, _, v => if flat v = true then (pureRun P (convert src dst v)).bind fun v => if flat v = true then some (v, H) else none else none
def markV (P : Program) (prot : Nat) (T : TypeId) (x : Value) (H : Heap) : Option (Value × Heap) :=
  match P.underlying T, x with
  | some (.slice e), .slice (some ⟨A, _, some _⟩) l _ => match P.underlying e with
    | some (.int .u8) => (H[A]?).bind fun B => if B.k = 0 ∧ prot ≤ A ∧ B.ro = false ∧ l ≠ 0 then some (x, H) else none
    | _ => none
  | _, _ => convV P T T x H
def cvS (P : Program) (prot : Nat) (src dst : TypeId) (x : Value) (H : Heap) : Option (Value × Heap) := if src = dst then markV P prot dst x H else convV P src dst x H
theorem cvS_ne {P : Program} {prot : Nat} {src dst : TypeId} {x : Value} {H : Heap} (h : src ≠ dst) : cvS P prot src dst x H = convV P src dst x H := if_neg h
theorem cvS_eq {P : Program} {prot : Nat} {T : TypeId} {x : Value} {H : Heap} : cvS P prot T T x H = markV P prot T x H := if_pos rfl
def fillC (P : Program) (t : TypeId) (len : Nat) (parts : Array (Nat × Value)) : Option (TypeId × Nat × Array Value) :=
  match P.underlying t with
  | some (.slice elem) => (sz P elem).bind fun size => if len * size ≤ 2 ^ 24 ∧ parts.toList.all (fun p => (cellsV p.2).isSome) = true then
      (if len * size = 0 then some #[] else (zer P elem).bind cellsV).bind fun z =>
        if z.size = size ∨ len * size = 0 then (Instr.fill (fun i => some (i * size, size)) (if len * size = 0 then #[] else zeros z len) parts.toList).bind fun cs => if cs.toList.all oneC = true then some (elem, size, cs) else none else none
    else none
  | _ => none
def mkSl (P : Program) (t : TypeId) (l c : Value) (H : Heap) : Option (Value × Heap) :=
  match P.underlying t, l, c with
  | some (.slice elem), .int .i64 l, .int .i64 c => (sz P elem).bind fun size => (bts P elem).bind fun bytes => ((zer P elem).bind cellsV).bind fun z =>
    if 0 ≤ l ∧ l ≤ c ∧ c ≤ 2 ^ 47 ∧ bytes * c ≤ 2 ^ 47 ∧ z.size = size then some (.slice (some ⟨H.length, 0, some (l.toNat * size)⟩) l.toNat size, H ++ [cel elem (zeros z l.toNat)]) else none
  | _, _, _ => none
def entries (m : List (Value × Value)) : List MapEntry := m.map fun p => { key := p.1, val := p.2, born := 0 }
def lookV (P : Program) (T : TypeId) (x k : Value) (ok : Bool) (H : Heap) : Option Value :=
  match P.underlying T with
  | some (.map kt et) =>
    (match x with
      | .map none => some []
      | .map (some r) => (H[r]?).bind fun B => if B.k = 1 then some B.m else none
      | _ => none).bind fun m => if flat1 k then
        (pureRun P (do Instr.checkKey m.isEmpty 10000 kt k; Instr.findKey kt k (entries m))).bind fun r => match r with
          | some (_, v) => some (if ok then .tuple #[v, .bool true] else v)
          | none => (zer P et).map fun z => if ok then .tuple #[z, .bool false] else z
        else none
  | _ => none
def mapUp (P : Program) (prot : Nat) (T : TypeId) (x k v : Value) (H : Heap) : Option Heap :=
  match P.underlying T, x with
  | some (.map kt _), .map (some r) => (H[r]?).bind fun B => if B.k = 1 ∧ prot ≤ r ∧ flat1 k = true ∧ B.ro = false then
      (pureRun P (do Instr.checkKey false 10000 kt k; Instr.findKey kt k (entries B.m))).bind fun q => match q with
        | some (i, _) => (B.m[i]?).bind fun p => if Instr.sameBits 10000 p.1 k then some (H.set r { B with m := B.m.set i (k, v) }) else none
        | none => some (H.set r { B with m := B.m ++ [(k, v)] })
      else none
  | _, _ => none
def nextV (prot : Nat) (it : Value) (H : Heap) : Option (Value × Heap) :=
  match it with
  | .pointer (some ⟨A, 0, some 0⟩) => (H[A]?).bind fun B => if B.k = 2 ∧ prot ≤ A ∧ B.ro = false then match B.c.toList with
      | [.string s, .int .i64 pos] => if 0 ≤ pos then
          if pos.toNat < s.size then let cw := Utf8.decode s pos.toNat
            some (.tuple #[.bool true, .int .i64 pos.toNat, .int .i32 cw.1], H.set A { B with c := #[.string s, .int .i64 (pos.toNat + cw.2 : Nat)] })
          else some (.tuple #[.bool false], H)
        else none
      | _ => none
    else none
  | _ => none
def lenV (H : Heap) : Value → Option Value
  | .slice none 0 0 => some (.int .i64 0)
  | .slice (some _) n _ => some (.int .i64 n)
  | .string s => some (.int .i64 s.size)
  | .map none => some (.int .i64 0)
  | .map (some r) => (H[r]?).bind fun B => if B.k = 1 then some (.int .i64 B.m.length) else none
  | _ => none
abbrev Res := Except Value Next
def vR (H : Heap) (x : Option Value) : Option (Res × Heap) := x.map fun v => (.ok (.value v), H)
def vH (x : Option (Value × Heap)) : Option (Res × Heap) := x.map fun v => (.ok (.value v.1), v.2)
def uH (x : Option Heap) : Option (Res × Heap) := x.map fun H => (.ok .skip, H)
def lenOkT (P : Program) (t : TypeId) (v : Value) : Bool := match P.underlying t, v with
  | some .string, .string _ => true
  | some (.slice _), .slice .. => true
  | some (.map ..), .map _ => true
  | _, _ => false
def appT (P : Program) (t : TypeId) : Bool := match P.underlying t with
  | some (.slice _) | some .string => true
  | _ => false
def abuiltin (P : Program) (prot : Nat) (b : Builtin) (argTypes : Array TypeId) (args : Array Value) (H : Heap) : Option (Res × Heap) :=
  match b, args.toList, argTypes.toList with
  | .len, [x], [t] => if lenOkT P t x = true then vR H (lenV H x) else none
  | .min, _, _ => if args.all flat = true then vR H ((pureRun P (Builtin.min_ #[] 0 args)).bind fun v => if flat v = true then some v else none) else none
  | .max, _, _ => if args.all flat = true then vR H ((pureRun P (Builtin.max_ #[] 0 args)).bind fun v => if flat v = true then some v else none) else none
  | .append, [s, x], [st, xt] => if appT P xt = true then vH (appendV P prot st s x H) else none
  | .copy, [d, x], [dt, _] => vH (copyV P prot dt d x H)
  | _, _, _ => none
def dynC (c : Call) : Bool := match c.callee with
  | .value (.tmp _) => true
  | _ => false
def acall (P : Program) (cl : FuncId → Nat) (dq : Bool) (prot : Nat) (ρ : Operand → Value) (c : Call) (H : Heap) : Option (Res × Heap) :=
  match c.callee with
  | .builtin b => abuiltin P prot b c.argTypes (c.args.map ρ) H
  | .value f => match ρ f with
    | .func (.func g) first captured => if dq = true ∧ cl g ≠ 1 then none else some (.ok (.enter g (first ++ c.args.map ρ ++ captured)), H)
    | _ => none
  | .invoke _ _ => none
def aexec (P : Program) (cl : FuncId → Nat) (dq : Bool) (prot : Nat) (ρ : Operand → Value) (op : Op) (H : Heap) : Option (Res × Heap) :=
  match op with
  | .move x | .assign x => some (.ok (.value (ρ x)), H)
  | .pick c a b => vR H (pickV (ρ c) (ρ a) (ρ b))
  | .alloc t => ((zer P t).bind cellsV).map fun cs => (.ok (.value (.pointer (some ⟨H.length, 0, some cs.size⟩))), H ++ [cel t cs])
  | .box t x => (cellsV (ρ x)).map fun cs => (.ok (.value (.pointer (some ⟨H.length, 0, some cs.size⟩))), H ++ [cel t cs])
  | .build T ps => vR H (bldV P T (ps.map fun (i, x) => (i, ρ x)))
  | .buildSlice t len ps => (fillC P t len (ps.map fun (i, x) => (i, ρ x))).map fun r => (.ok (.value (.slice (some ⟨H.length, 0, some r.2.2.size⟩) len r.2.1)), H ++ [cel r.1 r.2.2])
  | .load t a => vR H (ldA P H t (ρ a))
  | .store t a x => uH (stA P H prot t (ρ a) (ρ x))
  | .nilCheck x => match ρ x with
    | .pointer (some a) => some (.ok (.value (.pointer (some a))), H)
    | _ => none
  | .binOp op T x y _ => vR H (binV P (isC x || isC y) op T (ρ x) (ρ y))
  | .unOp op _ x => vR H (unV P op (ρ x))
  | .convert src dst x => vH (cvS P prot src dst (ρ x) H)
  | .makeInterface T x => vR H (mkIV P T (ρ x))
  | .makeFunc fn first captured => some (.ok (.value (.func fn (first.map ρ) (captured.map ρ))), H)
  | .makeMap t r => match r, P.underlying t with
    | none, some (.map ..) => some (.ok (.value (.map (some H.length))), H ++ [⟨1, t, #[], 0, false, []⟩])
    | _, _ => none
  | .makeSlice t l c => vH (mkSl P t (ρ l) (ρ c) H)
  | .slice t x lo hi mx => vR H (sliceV P t (ρ x) (lo.map ρ) (hi.map ρ) (mx.map ρ))
  | .fieldAddr s x f => vR H (fieldA P s (ρ x) f)
  | .field T x f => vR H (fldV P T (ρ x) f)
  | .indexAddr t x ix => vR H (idxA P t (ρ x) (ρ ix))
  | .index T x i => vR H (idxV P T (ρ x) (ρ i))
  | .lookup T x k ok => vR H (lookV P T (ρ x) (ρ k) ok H)
  | .mapUpdate T m k v | .insert T m k v => uH (mapUp P prot T (ρ m) (ρ k) (ρ v) H)
  | .range T x => match P.underlying T, ρ x with
    | some .string, .string s => some (.ok (.value (.pointer (some ⟨H.length, 0, some 0⟩))), H ++ [⟨2, 0, #[.string s, .int .i64 0], 0, false, []⟩])
    | _, _ => none
  | .next it isS => if isS = true then vH (nextV prot (ρ it) H) else none
  | .typeAssert x _ T' ok => vR H (asrtV P (ρ x) T' ok)
  | .extract x i => vR H (extV (ρ x) i)
  | .call c => acall P cl (dq && dynC c) prot ρ c H
  | .defer c => match c.callee with
    | .value f => match ρ f with
      | .func (.func g) first captured => some (.ok (.defer { target := .fn (.func g) captured, args := first ++ c.args.map ρ }), H)
      | _ => none
    | _ => none
  | .panic x => match ρ x with
    | .iface t v => some (.error (.iface t v), H)
    | _ => none
  | _ => none
def upd (e : Nat → Value) (d : Nat) (v : Value) : Nat → Value := fun i => if i = d then v else e i
def St.put (s : St) (d : Option Tmp) (v : Value) : St := match d with
  | some d => { s with t := upd s.t d v }
  | none => s
def St.eval (s : St) : Operand → Value
  | .tmp t => s.t t
  | .const v => v
  | .global _ => .chan (some 0)
  | .func f => .func (.func f) #[] #[]
def evOp (fn : Fn') (P : Program) (cl : FuncId → Nat) (dq : Bool) (prot : Nat) (op : Op) (dst : Option Tmp) (s : St) : Option (Exit × St) :=
  (aexec P cl dq prot s.eval op s.H).bind fun r => match r.1 with
    | .ok (.value v) => some (.normal, { s.put dst v with H := r.2 })
    | .ok .skip => some (.normal, { s.put dst undef with H := r.2 })
    | .ok (.defer d) => some (.normal, { ({ s with ds := d :: s.ds } : St).put dst undef with H := r.2 })
    | .ok (.enter f args) => (fn f args prot r.2).bind fun q => match q.1 with
      | .returned v => some (.normal, { s.put dst v with H := q.2 })
      | .panicked ch => some (.panic ch, { s with H := q.2 })
      | .outgrown => none
    | .error v => some (.panic [{ v, recovered := false }], { s with H := r.2 })
    | _ => none
def wantT (ops : Array Oper) (e : Nat → Value) (o : Oper) : Option Bool := match o.guard with
  | none => some true
  | some (j, want) => match (ops[j]?).bind (·.dst) with
    | some d => match e d with
      | .bool b => some (b == want)
      | .tuple _ => some false
      | _ => none
    | none => some false
def andThen (x : Option (Exit × St)) (f : St → Option (Exit × St)) : Option (Exit × St) := x.bind fun r => match r.1 with
  | .normal => f r.2
  | x => some (x, r.2)
def evOps (fn : Fn') (P : Program) (cl : FuncId → Nat) (dq : Bool) (prot : Nat) (ops : Array Oper) : List Oper → St → Option (Exit × St)
  | [], s => some (.normal, s)
  | o :: rest, s => (wantT ops s.t o).bind fun want => if want = true then andThen (evOp fn P cl dq prot o.op o.dst s) (evOps fn P cl dq prot ops rest) else evOps fn P cl dq prot ops rest (s.put o.dst undef)
def nilA (args : Array Operand) : Bool := match args.toList with
  | Operand.const (.slice none 0 0) :: _ => true
  | _ => false
def bClass (b : Builtin) (args : Array Operand) : Nat := match b with
  | .len => 1
  | .min => 1
  | .max => 1
  | .append => if nilA args = true then 1 else 3
  | _ => 3
def opClass (cl : FuncId → Nat) : Op → Nat
  | .move _ | .assign _ | .pick .. | .build .. | .nilCheck _ | .binOp .. | .unOp .. | .makeInterface .. | .makeFunc .. | .slice .. | .fieldAddr .. | .field .. | .indexAddr .. | .index .. | .typeAssert .. | .extract .. => 0
  | .alloc _ | .box .. | .buildSlice .. | .load .. | .makeMap .. | .makeSlice .. | .lookup .. | .range .. => 1
  | .convert src dst _ => if src = dst then 3 else 1
  | .call c => match c.callee with
    | .builtin b => bClass b c.args
    | .value (.func f) => if cl f = 1 then 1 else 3
    | .value (.tmp _) => 1
    | _ => 3
  | _ => 3
def befGo : List Oper → List Nat → List Nat
  | [], acc => acc
  | o :: l, acc => match o.after.toList.foldl (fun s e => if Region.binds .any e = true then s ||| 2 ^ e.on ||| acc.getD e.on 0 else s) 0 with
    | 0 => befGo l (acc ++ [0])
    | k + 1 => befGo l (acc ++ [k + 1])
def bef (ops : Array Oper) : List Nat := befGo ops.toList []
def isLd : Op → Bool
  | .load .. => true
  | _ => false
def pairOk (cl : FuncId → Nat) (fl : Bool) (ops : Array Oper) (oi oj : Oper) : Bool :=
  oi.apart ops oj && ((opClass cl oi.op ≤ 1 && opClass cl oj.op ≤ 1) || opClass cl oi.op = 0 || opClass cl oj.op = 0 || (fl && isLd oi.op && oi.dst.isSome))
def regOk (cl : FuncId → Nat) (fl : Bool) (ops : Array Oper) : Bool :=
  let b := bef ops
  (List.range ops.size).all fun j => match ops[j]? with
    | some oj => oj.after.toList.all (fun e => !Region.binds .any e || decide (e.on < j)) && (List.range j).all fun i => (b.getD j 0).testBit i || (match ops[i]? with
        | some oi => pairOk cl fl ops oi oj
        | none => false)
    | none => false
def junk : Value := .chan (some 0)
def junkT (ops : Array Oper) (t : Nat → Value) : Nat → Value := fun i => if ops.toList.any (fun o => o.dst == some i) = true then junk else t i
def hdT (ops : Array Oper) : Option Nat := match ops.toList with
  | o :: _ => o.dst
  | [] => none
def isF (cl : FuncId → Nat) (id : Nat) (d : Option Nat) : Bool := match d with
  | some d => Nat.beq (cl (2000000 + 1000 * id + d)) 9
  | none => false
def mayW : Op → Bool
  | .move _ | .assign _ | .pick .. | .build .. | .nilCheck _ | .binOp .. | .unOp .. | .makeInterface .. | .makeFunc .. | .slice .. | .fieldAddr .. | .field .. | .indexAddr .. | .index .. | .typeAssert .. | .extract .. => false
  | .alloc _ | .box .. | .buildSlice .. | .load .. | .makeMap .. | .makeSlice .. | .lookup .. | .range .. => false
  | _ => true
abbrev Pend := List (TypeId × Value × Value)
def chkF (P : Program) (pend : Pend) (H : Heap) : Prop := ∀ q ∈ pend, ldA P H q.1 q.2.1 = some q.2.2
noncomputable def fltNext (P : Program) (o : Op) (d : Option Nat) (t : Nat → Value) (ev : Operand → Value) (H : Heap) (pend : Pend) (go : Pend → Option (Exit × St)) : Option (Exit × St) :=
  match o, d with
  | .load T x, some d => if ground (t d) = true then go ((T, ev x, t d) :: pend) else none
  | _, _ => if mayW o = true then (by classical exact if chkF P pend H then go pend else none) else go pend
noncomputable def fltGo (fn : Fn') (P : Program) (cl : FuncId → Nat) (prot : Nat) (ops : Array Oper) : List Oper → Pend → St → Option (Exit × St)
  | [], _, s => some (.normal, s)
  | o :: rest, pend, s => (wantT ops s.t o).bind fun want => if want = true then
      (evOp fn P cl true prot o.op o.dst s).bind fun r => match r.1 with
        | .normal => fltNext P o.op o.dst r.2.t s.eval r.2.H pend fun pend' => fltGo fn P cl prot ops rest pend' r.2
        | _ => none
    else fltGo fn P cl prot ops rest pend (s.put o.dst undef)
def okF (cl : FuncId → Nat) (o : Oper) (r : Exit × St) : Bool := decide (opClass cl o.op ≤ 1) && (!isLd o.op || match o.dst with
  | some d => ground (r.2.t d)
  | none => true)
def evOpF (fl : Bool) (fn : Fn') (P : Program) (cl : FuncId → Nat) (prot : Nat) (o : Oper) (s : St) : Option (Exit × St) :=
  (evOp fn P cl true prot o.op o.dst s).bind fun r => if (fl && !okF cl o r) = true then none else some r
theorem evOpF_false {fn : Fn'} {P : Program} {cl : FuncId → Nat} {prot : Nat} {o : Oper} {s : St} : evOpF false fn P cl prot o s = evOp fn P cl true prot o.op o.dst s := by
  unfold evOpF
  cases evOp fn P cl true prot o.op o.dst s <;> rfl
theorem evOpF_some {fl : Bool} {fn : Fn'} {P : Program} {cl : FuncId → Nat} {prot : Nat} {o : Oper} {s : St} {r : Exit × St} (h : evOpF fl fn P cl prot o s = some r) : evOp fn P cl true prot o.op o.dst s = some r ∧ (fl = true → okF cl o r = true) := by
  unfold evOpF at h
  obtain ⟨r', h1, h⟩ := Option.bind_eq_some_iff.1 h
  split at h
  · cases h
  · rename_i hh
    cases h
    refine ⟨h1, fun hf => ?_⟩
    subst hf
    simpa using hh
def evRest (fl : Bool) (fn : Fn') (P : Program) (cl : FuncId → Nat) (prot : Nat) (ops : Array Oper) (j : Nat) : List Oper → Nat → St → Option St
  | [], _, s => some s
  | o :: rest, i, s => if ((bef ops).getD i 0).testBit j = true then evRest fl fn P cl prot ops j rest (i + 1) s
    else if opClass cl o.op ≤ 1 then (wantT ops s.t o).bind fun want => if want = true then (evOpF fl fn P cl prot o s).bind fun r => match r.1 with
        | .normal => evRest fl fn P cl prot ops j rest (i + 1) r.2
        | _ => none
      else evRest fl fn P cl prot ops j rest (i + 1) (s.put o.dst undef)
    else none
def evDrop (fl : Bool) (fn : Fn') (P : Program) (cl : FuncId → Nat) (prot : Nat) (ops : Array Oper) : List Oper → Nat → St → Option (Exit × St)
  | [], _, _ => none
  | o :: rest, j, s => (wantT ops s.t o).bind fun want => if want = true then (evOpF fl fn P cl prot o s).bind fun r => match r.1 with
      | .normal => evDrop fl fn P cl prot ops rest (j + 1) r.2
      | .panic ch => (evRest fl fn P cl prot ops j rest (j + 1) (r.2.put o.dst junk)).map fun s' => (.panic ch, { s' with t := junkT ops s'.t })
      | _ => none
    else evDrop fl fn P cl prot ops rest (j + 1) (s.put o.dst undef)
noncomputable def drawn (fn : Fn') (P : Program) (cl : FuncId → Nat) (prot : Nat) (id : Nat) (ops : Array Oper) (s : St) (x : Option (Exit × St)) : Option (Exit × St) := x.bind fun r => match r.1 with
  | .normal => if isF cl id (hdT ops) = true then fltGo fn P cl prot ops ops.toList [] s else some r
  | .panic _ => evDrop (isF cl id (hdT ops)) fn P cl prot ops ops.toList 0 s
  | _ => none
def scopeGo (rec : Ru) (prot : Nat) (c : Code) : Nat → Code → St → Option (Exit × St)
  | 0, _, _ => none
  | m + 1, cur, s => (rec cur prot s).bind fun r => match r.1 with
    | .goto l => match findLabel c l with
      | some rest => scopeGo rec prot c m rest r.2
      | none => some (.goto l, r.2)
    | x => some (x, r.2)
noncomputable def evC (fn : Fn') (P : Program) (cl : FuncId → Nat) (m : Nat) (rec : Ru) (prot : Nat) : Code → St → Option (Exit × St)
  | .skip, s => some (.normal, s)
  | .region id ops draw, s => if draw = true then drawn fn P cl prot id ops s (evOps fn P cl true prot ops ops.toList s) else evOps fn P cl false prot ops ops.toList s
  | .seq a b, s => andThen (rec a prot s) (rec b prot)
  | .cond c a b, s => match s.eval c with
    | .bool t => if t = true then rec a prot s else rec b prot s
    | _ => none
  | .block id c, s => (rec c prot s).bind fun r => match r.1 with
    | .exit i => if i = id then some (.normal, r.2) else some (.exit i, r.2)
    | x => some (x, r.2)
  | .loop c, s => andThen (rec c prot s) (rec (.loop c) prot)
  | .exit id, s => some (.exit id, s)
  | .ret, s => some (.ret, s)
  | .label _, s => some (.normal, s)
  | .goto l, s => some (.goto l, s)
  | .scope c, s => scopeGo rec prot c m c s
  | _, _ => none
def res1 (P : Program) (s : St) : ResultVar → Option Value
  | .tmp t => some (s.t t)
  | .cell a t => ldA P s.H t (s.t a)
def resAll (P : Program) (s : St) : List ResultVar → Option (List Value)
  | [] => some []
  | r :: rs => (res1 P s r).bind fun v => (resAll P s rs).map (v :: ·)
def resOf (P : Program) (rs : Array ResultVar) (s : St) : Option Value :=
  (resAll P s rs.toList).map fun
    | [v] => v
    | vs => .tuple vs.toArray
def finish (P : Program) (q : Bool) (rs : Array ResultVar) (H : Heap) (x : Option (Exit × St)) : Option (Ending × Heap) := x.bind fun r =>
  match r.1, r.2.ds with
  | .normal, [] | .ret, [] => (resOf P rs r.2).map fun v => (.returned v, if q && ground v then H else r.2.H)
  | .panic ch, [] => some (.panicked ch, r.2.H)
  | _, _ => none
abbrev Exts := FuncId → Option (Array Value → Nat → Heap → Option (Ending × Heap))
def pu (cl : FuncId → Nat) (f : FuncId) : Bool := cl (f + 1000000) == 1
def purely (H : Heap) (x : Option (Ending × Heap)) : Option (Ending × Heap) := x.bind fun r => match r.1 with
  | .returned v => if ground v = true then some (.returned v, H) else none
  | _ => none
abbrev Md := Option (List PanicEntry)
def recA : Md → Value × Md
  | some (⟨v, false, false⟩ :: older) => (v, some (⟨v, true, false⟩ :: older))
  | u => (.nilIface, u)
def settleA : Md → Md
  | some (e :: older) => if e.recovered = true then (match older.dropWhile (fun x => !x.goexit) with
    | [] => none
    | rest => some rest) else some (e :: older)
  | u => u
def raisedA (u : Md) (ch : List PanicEntry) : Md := match u with
  | some old => some (ch ++ old)
  | none => some ch
def isRec (o : Op) : Bool := match o with
  | .call c => match c.callee with
    | .builtin .recover => c.args.size == 0
    | _ => false
  | _ => false
def evOpsS (P : Program) (cl : FuncId → Nat) (prot : Nat) (ops : Array Oper) : List Oper → Md → St → Option (Exit × Md × St)
  | [], u, s => some (.normal, u, s)
  | o :: rest, u, s => (wantT ops s.t o).bind fun want =>
      if want = true then
        if isRec o.op = true then evOpsS P cl prot ops rest (recA u).2 (s.put o.dst (recA u).1)
        else (evOp (fun _ _ _ _ => none) P cl false prot o.op o.dst s).bind fun r => match r.1 with
          | .normal => evOpsS P cl prot ops rest u r.2
          | e => some (e, u, r.2)
      else evOpsS P cl prot ops rest u (s.put o.dst undef)
def evS (P : Program) (cl : FuncId → Nat) (rec : Ru) (prot : Nat) : Code → Md → St → Option (Exit × Md × St)
  | .seq a b, u, s => (evS P cl rec prot a u s).bind fun r => match r.1 with
    | .normal => evS P cl rec prot b r.2.1 r.2.2
    | _ => some r
  | .cond c a b, u, s => match s.eval c with
    | .bool t => if t = true then evS P cl rec prot a u s else evS P cl rec prot b u s
    | _ => none
  | .region i ops false, u, s => if ops.any (fun o => isRec o.op) = true then evOpsS P cl prot ops ops.toList u s else (rec (.region i ops false) prot s).map fun r => (r.1, u, r.2)
  | c, u, s => (rec c prot s).map fun r => (r.1, u, r.2)
def dfnA (P : Program) (cl : FuncId → Nat) (X : FuncId → Option (Array Value → Nat → Heap → Option (Ending × Heap))) (rec : Ru) (f : FuncId) (args : Array Value) (u : Md) (prot : Nat) (H : Heap) : Option (Ending × Md × Heap) :=
  match X f with
  | some _ => none
  | none => if cl f = 0 then none else (P.funcs[f]?).bind fun fn => fn.body.bind fun c => (evS P cl rec prot c u { t := fun i => args.getD i undef, ds := [], H }).bind fun r => match r.1, r.2.2.ds with
    | .normal, [] | .ret, [] => (resOf P fn.results r.2.2).map fun v => (.returned v, r.2.1, r.2.2.H)
    | .panic ch, [] => some (.panicked ch, r.2.1, r.2.2.H)
    | _, _ => none
def leaveA (dfn : FuncId → Array Value → Md → Nat → Heap → Option (Ending × Md × Heap)) (P : Program) (rs : Array ResultVar) (prot : Nat) (t : Nat → Value) : List Deferred → Md → Heap → Option (Ending × Heap)
  | [], none, H => (resOf P rs ⟨t, [], H⟩).map fun v => (.returned v, H)
  | [], some ch, H => some (.panicked ch, H)
  | d :: ds, u, H => match d.target with
    | .fn (.func f) cap => (dfn f (d.args ++ cap) u prot H).bind fun r => match r.1 with
      | .returned _ => leaveA dfn P rs prot t ds (settleA r.2.1) r.2.2
      | .panicked ch => leaveA dfn P rs prot t ds (raisedA r.2.1 ch) r.2.2
      | .outgrown => none
    | _ => none
def finishD (dfn : FuncId → Array Value → Md → Nat → Heap → Option (Ending × Md × Heap)) (P : Program) (rs : Array ResultVar) (prot : Nat) (x : Option (Exit × St)) : Option (Ending × Heap) := x.bind fun r => match r.1 with
  | .normal | .ret => leaveA dfn P rs prot r.2.t r.2.ds none r.2.H
  | .panic ch => leaveA dfn P rs prot r.2.t r.2.ds (some ch) r.2.H
  | _ => none
def bodyFn (P : Program) (cl : FuncId → Nat) (X : Exts) (rec : Ru) : Fn' := fun f args prot H =>
  match X f with
  | some g => g args (if cl f = 1 then H.length else prot) H
  | none => if cl f = 0 then none else (P.funcs[f]?).bind fun fn => fn.body.bind fun c =>
    if pu cl f = true then
      if args.all ground = true ∧ cl f = 1 then purely H (finish P false fn.results [] (rec c 0 { t := fun i => args.getD i undef, ds := [], H := [] })) else none
    else if cl f = 5 then finishD (dfnA P cl X rec) P fn.results prot (rec c prot { t := fun i => args.getD i undef, ds := [], H })
    else finish P (cl f == 1) fn.results H (rec c (if cl f = 1 then H.length else prot) { t := fun i => args.getD i undef, ds := [], H })
noncomputable def evs (P : Program) (cl : FuncId → Nat) (X : Exts) : Nat → Ru × Fn'
  | 0 => (fun _ _ _ => none, fun _ _ _ _ => none)
  | k + 1 => let p := evs P cl X k; (fun c prot s => evC p.2 P cl k p.1 prot c s, bodyFn P cl X p.1)
def constOk : Operand → Bool
  | .const v => ground v
  | _ => true
def operOk (N : Nat) (o : Oper) : Bool := o.op.operands.all constOk && (match o.dst with
  | some d => decide (d < N)
  | none => true)
def codeOk (cl : FuncId → Nat) (N : Nat) : Code → Bool
  | .region id ops draw => ops.all (operOk N) && (!draw || regOk cl (isF cl id (hdT ops)) ops)
  | .seq a b => codeOk cl N a && codeOk cl N b
  | .cond c a b => constOk c && codeOk cl N a && codeOk cl N b
  | .block _ c => codeOk cl N c
  | .loop c => codeOk cl N c
  | .scope c => codeOk cl N c
  | .skip | .exit _ | .ret | .label _ | .goto _ => true
  | _ => false
end Go.AM

namespace Go.AM
open Go
open Go.RowKit (Below)
abbrev Mp := Nat → Nat → Option (Nat × Nat × Nat)
def Mle (M M' : Mp) : Prop := ∀ A n x, M A n = some x → M' A n = some x
theorem Mle.refl (M : Mp) : Mle M M := fun _ _ _ h => h
theorem Mle.trans {a b c : Mp} (h : Mle a b) (k : Mle b c) : Mle a c := fun A n x e => k A n x (h A n x e)
def PtrR (M : Mp) (A o n : Nat) (c : Value) : Prop := ∃ b base ext, M A n = some (b, base, ext) ∧ c = .pointer (some ⟨b, base + o, none⟩)
def SliR (M : Mp) (A o n l s : Nat) (c : Value) : Prop := ∃ b base ext a' cap, M A n = some (b, base, ext) ∧ c = .slice (some a') l cap ∧ l ≤ cap ∧ ((a' = ⟨b, base + o, none⟩ ∧ o + cap * s ≤ ext) ∨ cap = 0)
def MapR (M : Mp) (r : Nat) (c : Value) : Prop := ∃ b base ext, M r 0 = some (b, base, ext) ∧ c = .map (some b)
mutual
def VR (M : Mp) : Value → Value → Prop
  | .pointer (some ⟨A, o, some n⟩), c => PtrR M A o n c
  | .slice (some ⟨A, o, some n⟩) l s, c => SliR M A o n l s c
  | .map (some r), c => MapR M r c
  | .chan (some _), _ => True
  | .agg ⟨xs⟩, c => ∃ ys, c = .agg ⟨ys⟩ ∧ VRL M xs ys
  | .tuple ⟨xs⟩, c => ∃ ys, c = .tuple ⟨ys⟩ ∧ VRL M xs ys
  | .func f ⟨a⟩ ⟨b⟩, c => ∃ a' b', c = .func f ⟨a'⟩ ⟨b'⟩ ∧ VRL M a a' ∧ VRL M b b'
  | .iface t v, c => ∃ v', c = .iface t v' ∧ VR M v v'
  | a, c => flat a = true ∧ c = a
def VRL (M : Mp) : List Value → List Value → Prop
  | [], l => l = []
  | x :: xs, l => ∃ y ys, l = y :: ys ∧ VR M x y ∧ VRL M xs ys
end
theorem vr_flat {M : Mp} {a c : Value} (h : flat a = true) : VR M a c ↔ c = a := by
  cases a with
  | pointer p => cases p <;> simp_all [flat, VR]
  | slice p l s => cases p <;> simp_all [flat, VR]
  | map p => cases p <;> simp_all [flat, VR]
  | chan p => cases p <;> simp_all [flat, VR]
  | _ => simp_all [flat, VR]
theorem vrl_nil {M : Mp} {l : List Value} : VRL M [] l ↔ l = [] := by simp [VRL]
theorem vrl_cons {M : Mp} {x : Value} {xs l : List Value} : VRL M (x :: xs) l ↔ ∃ y ys, l = y :: ys ∧ VR M x y ∧ VRL M xs ys := by simp [VRL]
theorem vrl_cons2 {M : Mp} {x y : Value} {xs ys : List Value} : VRL M (x :: xs) (y :: ys) ↔ VR M x y ∧ VRL M xs ys := by
  rw [vrl_cons]
  constructor
  · rintro ⟨_, _, h, a, b⟩; cases h; exact ⟨a, b⟩
  · rintro ⟨a, b⟩; exact ⟨_, _, rfl, a, b⟩
theorem vrl_iff {M : Mp} : ∀ {xs ys : List Value}, VRL M xs ys ↔ xs.length = ys.length ∧ ∀ (i : Nat) (x y : Value), xs[i]? = some x → ys[i]? = some y → VR M x y
  | [], ys => by
    rw [vrl_nil]
    constructor
    · rintro rfl; exact ⟨rfl, fun i x y h => by simp at h⟩
    · rintro ⟨h, _⟩; cases ys with
      | nil => rfl
      | cons y ys => simp at h
  | x :: xs, [] => by rw [vrl_cons]; constructor <;> simp
  | x :: xs, y :: ys => by
    rw [vrl_cons2, vrl_iff (xs := xs) (ys := ys)]
    constructor
    · rintro ⟨h, hl, hi⟩
      refine ⟨by simp [hl], fun i a b ha hb => ?_⟩
      cases i with
      | zero => simp at ha hb; subst ha; subst hb; exact h
      | succ i => simp at ha hb; exact hi i a b ha hb
    · rintro ⟨hl, hi⟩
      exact ⟨hi 0 x y rfl rfl, by simpa using hl, fun i a b ha hb => hi (i + 1) a b (by simpa using ha) (by simpa using hb)⟩
theorem vrl_len {M : Mp} {xs ys : List Value} (h : VRL M xs ys) : xs.length = ys.length := (vrl_iff.1 h).1
theorem vrl_append {M : Mp} : ∀ {xs ys xs' ys' : List Value}, VRL M xs ys → VRL M xs' ys' → VRL M (xs ++ xs') (ys ++ ys')
  | [], ys, xs', ys', h, h' => by rw [vrl_nil] at h; subst h; exact h'
  | x :: xs, ys, xs', ys', h, h' => by
    rw [vrl_cons] at h
    obtain ⟨y, ys, rfl, h1, h2⟩ := h
    exact vrl_cons2.2 ⟨h1, vrl_append h2 h'⟩
theorem vrl_take {M : Mp} {xs ys : List Value} (h : VRL M xs ys) (n : Nat) : VRL M (xs.take n) (ys.take n) := by
  rw [vrl_iff] at h ⊢
  refine ⟨by simp [h.1], fun i x y hx hy => ?_⟩
  rw [List.getElem?_take] at hx hy
  split at hx
  · simp_all; exact h.2 i x y hx hy
  · simp at hx
theorem vrl_drop {M : Mp} {xs ys : List Value} (h : VRL M xs ys) (n : Nat) : VRL M (xs.drop n) (ys.drop n) := by
  rw [vrl_iff] at h ⊢
  refine ⟨by simp [h.1], fun i x y hx hy => ?_⟩
  rw [List.getElem?_drop] at hx hy
  exact h.2 _ x y hx hy
theorem vrl_set {M : Mp} {xs ys : List Value} {x y : Value} (h : VRL M xs ys) (hv : VR M x y) (n : Nat) : VRL M (xs.set n x) (ys.set n y) := by
  rw [vrl_iff] at h ⊢
  refine ⟨by simp [h.1], fun i a b ha hb => ?_⟩
  rw [List.getElem?_set] at ha hb
  by_cases hi : n = i
  · subst hi
    simp only [if_true] at ha hb
    split at ha <;> simp at ha
    split at hb <;> simp at hb
    subst ha; subst hb; exact hv
  · simp [hi] at ha hb; exact h.2 i a b ha hb
theorem vrl_replicate {M : Mp} {x y : Value} (hv : VR M x y) (n : Nat) : VRL M (List.replicate n x) (List.replicate n y) := by
  rw [vrl_iff]
  refine ⟨by simp, fun i a b ha hb => ?_⟩
  rw [List.getElem?_replicate] at ha hb
  split at ha <;> simp_all
theorem vrl_flat {M : Mp} : ∀ {xs ys : List Value}, xs.all flat = true → (VRL M xs ys ↔ ys = xs)
  | [], ys, _ => by rw [vrl_nil]
  | x :: xs, ys, h => by
    simp only [List.all_cons, Bool.and_eq_true] at h
    rw [vrl_cons]
    constructor
    · rintro ⟨y, ys, rfl, h1, h2⟩
      rw [(vr_flat h.1).1 h1, (vrl_flat h.2).1 h2]
    · rintro rfl
      exact ⟨x, xs, rfl, (vr_flat h.1).2 rfl, (vrl_flat h.2).2 rfl⟩
theorem vr_flat1 {M : Mp} {a c : Value} (h : flat1 a = true) : VR M a c ↔ c = a := by
  cases a with
  | agg cs =>
    obtain ⟨xs⟩ := cs
    have h' : xs.all flat = true := by simpa [flat1] using h
    rw [VR]
    constructor
    · rintro ⟨ys, rfl, h2⟩; rw [(vrl_flat h').1 h2]
    · rintro rfl; exact ⟨xs, rfl, (vrl_flat h').2 rfl⟩
  | iface t v =>
    have h' : flat v = true := by simpa [flat1] using h
    rw [VR]
    constructor
    · rintro ⟨v', rfl, h2⟩; rw [(vr_flat h').1 h2]
    · rintro rfl; exact ⟨v, rfl, (vr_flat h').2 rfl⟩
  | _ => exact vr_flat h
theorem vrl_flat1 {M : Mp} : ∀ {xs ys : List Value}, xs.all flat1 = true → (VRL M xs ys ↔ ys = xs)
  | [], ys, _ => by rw [vrl_nil]
  | x :: xs, ys, h => by
    simp only [List.all_cons, Bool.and_eq_true] at h
    rw [vrl_cons]
    constructor
    · rintro ⟨y, ys, rfl, h1, h2⟩
      rw [(vr_flat1 h.1).1 h1, (vrl_flat1 h.2).1 h2]
    · rintro rfl
      exact ⟨x, xs, rfl, (vr_flat1 h.1).2 rfl, (vrl_flat1 h.2).2 rfl⟩
theorem vr_ground {M : Mp} {a c : Value} (h : ground a = true) : VR M a c ↔ c = a := by
  cases a with
  | tuple vs =>
    obtain ⟨xs⟩ := vs
    have h' : xs.all flat1 = true := by simpa [ground] using h
    rw [VR]
    constructor
    · rintro ⟨ys, rfl, h2⟩; rw [(vrl_flat1 h').1 h2]
    · rintro rfl; exact ⟨xs, rfl, (vrl_flat1 h').2 rfl⟩
  | iface t v =>
    have h' : flat1 v = true := by simpa [ground] using h
    rw [VR]
    constructor
    · rintro ⟨v', rfl, h2⟩; rw [(vr_flat1 h').1 h2]
    · rintro rfl; exact ⟨v, rfl, (vr_flat1 h').2 rfl⟩
  | _ => exact vr_flat1 h
theorem flat_flat1 {v : Value} (h : flat v = true) : flat1 v = true := by cases v <;> simp_all [flat, flat1]
theorem flat1_ground {v : Value} (h : flat1 v = true) : ground v = true := by
  cases v <;> simp_all [flat1, ground]
  · exact flat_flat1 h
  · simp [flat] at h
theorem vr_undef {M : Mp} {c : Value} : VR M undef c ↔ c = undef := vr_ground (by simp [undef, ground])
mutual
theorem vr_mono {M M' : Mp} (hM : Mle M M') : ∀ {a c : Value}, VR M a c → VR M' a c
  | .pointer (some ⟨A, o, some n⟩), c, h => by
    rw [VR] at h ⊢; obtain ⟨b, base, ext, h1, h2⟩ := h; exact ⟨b, base, ext, hM _ _ _ h1, h2⟩
  | .slice (some ⟨A, o, some n⟩) l s, c, h => by
    rw [VR] at h ⊢; obtain ⟨b, base, ext, o', cap, h1, h2⟩ := h; exact ⟨b, base, ext, o', cap, hM _ _ _ h1, h2⟩
  | .map (some r), c, h => by rw [VR] at h ⊢; obtain ⟨b, base, ext, h1, h2⟩ := h; exact ⟨b, base, ext, hM _ _ _ h1, h2⟩
  | .chan (some _), _, _ => by simp [VR]
  | .agg ⟨xs⟩, c, h => by rw [VR] at h ⊢; obtain ⟨ys, e, h⟩ := h; exact ⟨ys, e, vrl_mono hM h⟩
  | .tuple ⟨xs⟩, c, h => by rw [VR] at h ⊢; obtain ⟨ys, e, h⟩ := h; exact ⟨ys, e, vrl_mono hM h⟩
  | .func f ⟨a⟩ ⟨b⟩, c, h => by rw [VR] at h ⊢; obtain ⟨a', b', e, h, h'⟩ := h; exact ⟨a', b', e, vrl_mono hM h, vrl_mono hM h'⟩
  | .iface t v, c, h => by rw [VR] at h ⊢; obtain ⟨v', e, h⟩ := h; exact ⟨v', e, vr_mono hM h⟩
  | .bool _, c, h | .int _ _, c, h | .float _ _, c, h | .complex _ _ _, c, h | .string _, c, h | .nilFunc, c, h | .nilIface, c, h => by simpa [VR] using h
  | .pointer none, c, h | .slice none _ _, c, h | .map none, c, h | .chan none, c, h => by simpa [VR] using h
  | .pointer (some ⟨_, _, none⟩), c, h | .slice (some ⟨_, _, none⟩) _ _, c, h => by simp [VR, flat] at h
theorem vrl_mono {M M' : Mp} (hM : Mle M M') : ∀ {xs ys : List Value}, VRL M xs ys → VRL M' xs ys
  | [], ys, h => by rw [vrl_nil] at h ⊢; exact h
  | x :: xs, ys, h => by
    rw [vrl_cons] at h ⊢
    obtain ⟨y, ys, e, h1, h2⟩ := h
    exact ⟨y, ys, e, vr_mono hM h1, vrl_mono hM h2⟩
end
theorem vr_oneC {M : Mp} {a c : Value} (h : VR M a c) (ha : oneC a = true) : Value.oneCell' c = true := by
  cases a with
  | agg => simp [oneC] at ha
  | tuple => simp [oneC] at ha
  | pointer p =>
    rcases p with _ | ⟨A, o, _ | n⟩
    · rw [(vr_flat rfl).1 h]; rfl
    · simp [VR, flat] at h
    · rw [VR] at h; obtain ⟨_, _, _, _, rfl⟩ := h; rfl
  | slice p l s =>
    rcases p with _ | ⟨A, o, _ | n⟩
    · rw [(vr_flat rfl).1 h]; rfl
    · simp [VR, flat] at h
    · rw [VR] at h; obtain ⟨_, _, _, _, _, _, rfl, _⟩ := h; rfl
  | map r => cases r with
    | none => rw [(vr_flat rfl).1 h]; rfl
    | some r => rw [VR] at h; obtain ⟨_, _, _, _, rfl⟩ := h; rfl
  | chan r => cases r with
    | none => rw [(vr_flat rfl).1 h]; rfl
    | some r => simp [oneC] at ha
  | func f x y => obtain ⟨x⟩ := x; obtain ⟨y⟩ := y; rw [VR] at h; obtain ⟨_, _, rfl, _⟩ := h; rfl
  | iface t v => rw [VR] at h; obtain ⟨_, rfl, _⟩ := h; rfl
  | _ => rw [(vr_flat rfl).1 h]; rfl
theorem vr_cells {M : Mp} {a c : Value} {cs : Array Value} (h : VR M a c) (ha : cellsV a = some cs) : VRL M cs.toList c.cells.toList ∧ cs.toList.all oneC = true := by
  have hone : ∀ {a : Value}, oneC a = true → VR M a c → cs = #[a] → VRL M cs.toList c.cells.toList ∧ cs.toList.all oneC = true := by
    intro a h1 h e
    have hc := vr_oneC h h1
    have h2 : c.cells = #[c] := by cases c <;> simp_all [Value.oneCell', Value.cells]
    subst e
    rw [h2]
    exact ⟨vrl_cons2.2 ⟨h, vrl_nil.2 rfl⟩, by simpa using h1⟩
  cases a with
  | agg xs =>
    obtain ⟨xs⟩ := xs
    simp only [cellsV] at ha
    split at ha
    · rename_i hx
      cases ha
      rw [VR] at h
      obtain ⟨ys, rfl, h⟩ := h
      exact ⟨h, hx⟩
    · simp at ha
  | tuple => simp [cellsV, oneC] at ha
  | _ =>
    simp only [cellsV] at ha
    split at ha
    · rename_i h1; exact hone h1 h (by simpa using ha.symm)
    · simp at ha
theorem cells_oneCell {M : Mp} : ∀ {xs ys : List Value}, VRL M xs ys → xs.all oneC = true → ∀ y ∈ ys, Value.oneCell' y = true
  | [], ys, h, _, y, hy => by rw [vrl_nil] at h; subst h; simp at hy
  | x :: xs, ys, h, ha, y, hy => by
    rw [vrl_cons] at h
    obtain ⟨y', ys', rfl, h1, h2⟩ := h
    simp only [List.all_cons, Bool.and_eq_true] at ha
    rcases List.mem_cons.1 hy with rfl | hy
    · exact vr_oneC h1 ha.1
    · exact cells_oneCell h2 ha.2 y hy
end Go.AM

namespace Go.AM
open Go
open Go.RowKit (Below)
def ML (M : Mp) (m : List (Value × Value)) (es : List MapEntry) : Prop :=
  m.length = es.length ∧ ∀ (i : Nat) (p : Value × Value) (e : MapEntry), m[i]? = some p → es[i]? = some e → flat1 p.1 = true ∧ e.key = p.1 ∧ VR M p.2 e.val
structure EntC (M : Mp) (B : Blk) (n b base ext : Nat) (w : World) : Prop where
  nle : n ≤ B.c.size
  next : n ≤ ext
  one : B.c.toList.all oneC = true
  blk : ∃ cs el fz, w.heap[b]? = some (.cells cs el fz) ∧ base + ext ≤ cs.size ∧ (B.ro = false → cs.size ≤ fz.1 ∨ fz = (0, 0)) ∧
    (B.fl ≤ n → ∀ i x, i < n → B.c[i]? = some x → ∃ y, cs[base + i]? = some y ∧ VR M x y)
theorem fz_ok {fz : Nat × Nat} {n i : Nat} (h : n ≤ fz.1 ∨ fz = (0, 0)) (hi : i < n) : ¬ (fz.1 ≤ i ∧ i < fz.2) := by
  rcases h with h | rfl <;> simp <;> omega
structure Ent (M : Mp) (N0 : Nat) (B : Blk) (n b base ext : Nat) (w : World) : Prop where
  lt : b < w.heap.size
  own : B.ro = false → N0 ≤ b
  ro : B.ro = true → b < N0
  c : B.k = 0 → EntC M B n b base ext w
  m : B.k = 1 → n = 0 ∧ base = 0 ∧ ext = 1 ∧ ∃ es clock, w.heap[b]? = some (.map es clock) ∧ ML M B.m es.toList
  kk : B.k ≤ 2
  i : B.k = 2 → n = 0 ∧ base = 0 ∧ ext = 1 ∧ ∃ s pos, B.c = #[.string s, .int .i64 ((pos : Nat) : Int)] ∧ w.heap[b]? = some (.stringIter s pos)
structure HR (N0 : Nat) (W0 : World) (M : Mp) (H : Heap) (w : World) : Prop where
  below : Below N0 W0 w
  n0 : N0 ≤ w.heap.size
  ent : ∀ A n b base ext, M A n = some (b, base, ext) → ∃ B, H[A]? = some B ∧ Ent M N0 B n b base ext w
  apart : ∀ A n A' n' b base ext base' ext', M A n = some (b, base, ext) → M A' n' = some (b, base', ext') → N0 ≤ b → (A = A' ∧ base = base' ∧ ext = ext') ∨ base + ext ≤ base' ∨ base' + ext' ≤ base
structure Ext (H : Heap) (M M' : Mp) (w w' : World) : Prop where
  below : Below w.heap.size w w'
  old : ∀ A n, A < H.length → M' A n = M A n
  new : ∀ A n b base ext, H.length ≤ A → M' A n = some (b, base, ext) → w.heap.size ≤ b
theorem Ext.refl (H : Heap) (M : Mp) (w : World) (hM : ∀ A n x, M A n = some x → A < H.length) : Ext H M M w w :=
  ⟨.refl _ _, fun _ _ _ => rfl, fun A n b base ext h e => absurd (hM _ _ _ e) (by omega)⟩
variable {N0 : Nat} {W0 : World} {M : Mp} {H : Heap} {w w' : World}
theorem HR.valid (h : HR N0 W0 M H w) {A n : Nat} {x : Nat × Nat × Nat} (e : M A n = some x) : A < H.length := by
  obtain ⟨b, base, ext⟩ := x
  obtain ⟨B, hB, _⟩ := h.ent _ _ _ _ _ e
  exact (List.getElem?_eq_some_iff.1 hB).1
theorem ML.mono {M' : Mp} (hM : Mle M M') {m : List (Value × Value)} {es : List MapEntry} (h : ML M m es) : ML M' m es :=
  ⟨h.1, fun i p e hp he => ⟨(h.2 i p e hp he).1, (h.2 i p e hp he).2.1, vr_mono hM (h.2 i p e hp he).2.2⟩⟩
theorem Ent.keep {M' : Mp} {B : Blk} {n b base ext : Nat} (h : Ent M N0 B n b base ext w) (hM : Mle M M') (hb : w'.heap[b]? = w.heap[b]?) : Ent M' N0 B n b base ext w' where
  lt := by
    have : ∃ o, w.heap[b]? = some o := ⟨_, Array.getElem?_eq_getElem h.lt⟩
    obtain ⟨o, ho⟩ := this
    rw [ho] at hb
    exact (Array.getElem?_eq_some_iff.1 hb).1
  own := h.own
  ro := h.ro
  kk := h.kk
  c := fun k => by
    obtain ⟨h1, h2, h3, cs, el, fz, h4, h5, h6, h7⟩ := h.c k
    exact ⟨h1, h2, h3, cs, el, fz, hb.trans h4, h5, h6, fun hf i x hi hx => let ⟨y, hy, hv⟩ := h7 hf i x hi hx; ⟨y, hy, vr_mono hM hv⟩⟩
  m := fun k => by
    obtain ⟨h1, h2, h3, es, cl, h4, h5⟩ := h.m k
    exact ⟨h1, h2, h3, es, cl, hb.trans h4, h5.mono hM⟩
  i := fun k => by
    obtain ⟨h1, h2, h3, s, p, h4, h5⟩ := h.i k
    exact ⟨h1, h2, h3, s, p, h4, hb.trans h5⟩
theorem HR.world (h : HR N0 W0 M H w) (hb : Below w.heap.size w w') : HR N0 W0 M H w' where
  below := h.below.trans (hb.mono h.n0)
  n0 := Nat.le_trans h.n0 hb.size
  ent := fun A n b base ext e => by
    obtain ⟨B, hB, he⟩ := h.ent _ _ _ _ _ e
    exact ⟨B, hB, he.keep (.refl _) (hb.block b he.lt)⟩
  apart := h.apart
theorem HR.push (h : HR N0 W0 M H w) (X : Heap) : HR N0 W0 M (H ++ X) w :=
  ⟨h.below, h.n0, fun A n b base ext e => by
      obtain ⟨B, hB, he⟩ := h.ent _ _ _ _ _ e
      exact ⟨B, by rw [List.getElem?_append_left (List.getElem?_eq_some_iff.1 hB).1]; exact hB, he⟩, h.apart⟩
def Mp.set (M : Mp) (A n : Nat) (x : Nat × Nat × Nat) : Mp := fun A' n' => if A' = A ∧ n' = n then some x else M A' n'
theorem Mp.set_same (M : Mp) (A n : Nat) (x : Nat × Nat × Nat) : M.set A n x A n = some x := by simp [Mp.set]
theorem Mp.set_le (M : Mp) (A n : Nat) (x : Nat × Nat × Nat) (h : M A n = none) : Mle M (M.set A n x) := fun A' n' y e => by
  unfold Mp.set
  split
  · rename_i hh; obtain ⟨rfl, rfl⟩ := hh; rw [h] at e; cases e
  · exact e
theorem Mp.set_some {M : Mp} {A n A' n' : Nat} {x y : Nat × Nat × Nat} (h : M.set A n x A' n' = some y) : (A' = A ∧ n' = n ∧ y = x) ∨ M A' n' = some y := by
  unfold Mp.set at h
  split at h
  · rename_i hh; exact .inl ⟨hh.1, hh.2, by simpa using h.symm⟩
  · exact .inr h
structure Kp (prot : Nat) (M M' : Mp) (w w' : World) : Prop where
  old : ∀ A n, A < prot → M' A n = M A n
  blk : ∀ B0, B0 ≤ w.heap.size → (∀ A n b base ext, prot ≤ A → M A n = some (b, base, ext) → B0 ≤ b) → Below B0 w w' ∧ ∀ A n b base ext, prot ≤ A → M' A n = some (b, base, ext) → B0 ≤ b
theorem Kp.refl (prot : Nat) (M : Mp) (w : World) : Kp prot M M w w := ⟨fun _ _ _ => rfl, fun B0 _ h => ⟨.refl _ _, h⟩⟩
theorem Kp.trans {prot : Nat} {M1 M2 M3 : Mp} {w1 w2 w3 : World} (h : Kp prot M1 M2 w1 w2) (k : Kp prot M2 M3 w2 w3) : Kp prot M1 M3 w1 w3 :=
  ⟨fun A n hA => (k.old A n hA).trans (h.old A n hA), fun B0 hB hM => by
    obtain ⟨h1, h2⟩ := h.blk B0 hB hM
    obtain ⟨k1, k2⟩ := k.blk B0 (Nat.le_trans hB h1.size) h2
    exact ⟨h1.trans k1, k2⟩⟩
theorem Ext.kp {prot : Nat} {M' : Mp} (h : Ext H M M' w w') (hp : prot ≤ H.length) : Kp prot M M' w w' :=
  ⟨fun A n hA => h.old A n (by omega), fun B0 hB hM => ⟨h.below.mono hB, fun A n b base ext hA e => by
    by_cases hl : A < H.length
    · rw [h.old A n hl] at e; exact hM _ _ _ _ _ hA e
    · have := h.new A n b base ext (by omega) e; omega⟩⟩
theorem Kp.ext {M' : Mp} (h : Kp H.length M M' w w') (hM : ∀ A n x, M A n = some x → A < H.length) : Ext H M M' w w' :=
  have k := h.blk w.heap.size (Nat.le_refl _) (fun A n b base ext hA e => absurd (hM _ _ _ e) (by omega))
  ⟨k.1, h.old, fun A n b base ext hA e => k.2 A n b base ext hA e⟩
theorem Kp.drew {prot : Nat} {M' : Mp} (h : Kp prot M M' w.drew w') : Kp prot M M' w w' :=
  ⟨h.old, fun B0 hB hM => ⟨((Below.refl _ _).drew).trans (h.blk B0 hB hM).1, (h.blk B0 hB hM).2⟩⟩
theorem HR.new (h : HR N0 W0 M H w) (hb : Below w.heap.size w w') {B : Blk} {n ext : Nat}
    (he : Ent (M.set H.length n (w.heap.size, 0, ext)) N0 B n w.heap.size 0 ext w') :
    HR N0 W0 (M.set H.length n (w.heap.size, 0, ext)) (H ++ [B]) w' ∧ Mle M (M.set H.length n (w.heap.size, 0, ext)) ∧ Ext H M (M.set H.length n (w.heap.size, 0, ext)) w w' := by
  have hnone : M H.length n = none := by
    cases e : M H.length n with
    | none => rfl
    | some x => exact absurd (h.valid e) (by omega)
  have hle := Mp.set_le M H.length n (w.heap.size, 0, ext) hnone
  refine ⟨⟨h.below.trans (hb.mono h.n0), Nat.le_trans h.n0 hb.size, ?_, ?_⟩, hle, ⟨hb, ?_, ?_⟩⟩
  · intro A m b base ext' e
    rcases Mp.set_some e with ⟨rfl, rfl, e2⟩ | e2
    · cases e2
      exact ⟨B, by simp, he⟩
    · obtain ⟨B', hB, he'⟩ := h.ent _ _ _ _ _ e2
      exact ⟨B', by rw [List.getElem?_append_left (List.getElem?_eq_some_iff.1 hB).1]; exact hB, he'.keep hle (hb.block b he'.lt)⟩
  · intro A m A' m' b base e1 base' e2 h1 h2 hn
    rcases Mp.set_some h1 with ⟨rfl, rfl, e⟩ | g1
    · cases e
      rcases Mp.set_some h2 with ⟨rfl, rfl, e⟩ | g2
      · cases e; exact .inl ⟨rfl, rfl, rfl⟩
      · obtain ⟨_, _, he'⟩ := h.ent _ _ _ _ _ g2; exact absurd he'.lt (by omega)
    · rcases Mp.set_some h2 with ⟨rfl, rfl, e⟩ | g2
      · cases e; obtain ⟨_, _, he'⟩ := h.ent _ _ _ _ _ g1; exact absurd he'.lt (by omega)
      · exact h.apart _ _ _ _ _ _ _ _ _ g1 g2 hn
  · intro A m hA
    unfold Mp.set
    rw [if_neg (by omega)]
  · intro A m b base ext' hA e
    rcases Mp.set_some e with ⟨_, _, e2⟩ | e2
    · cases e2; exact Nat.le_refl _
    · exact absurd (h.valid e2) (by omega)
theorem Kp.write {prot A n b base ext : Nat} (hm : M A n = some (b, base, ext)) (hp : prot ≤ A) (hb : Below b w w') : Kp prot M M w w' :=
  ⟨fun _ _ _ => rfl, fun B0 _ hM => ⟨hb.mono (hM _ _ _ _ _ hp hm), hM⟩⟩
theorem Kp.set {prot A n k b base ext base' ext' : Nat} (hm : M A n = some (b, base', ext')) (hp : prot ≤ A) (hb : Below b w w') : Kp prot M (M.set A k (b, base, ext)) w w' :=
  ⟨fun A' n' hA => by unfold Mp.set; rw [if_neg (by omega)], fun B0 hB hM => ⟨hb.mono (hM _ _ _ _ _ hp hm), fun A' n' b' base ext hA e => by
    rcases Mp.set_some e with ⟨_, _, e2⟩ | e2
    · cases e2; exact hM _ _ _ _ _ hp hm
    · exact hM _ _ _ _ _ hA e2⟩⟩
theorem Kp.setNew {prot A k base ext : Nat} (hp : prot ≤ A) (hb : Below w.heap.size w w') : Kp prot M (M.set A k (w.heap.size, base, ext)) w w' :=
  ⟨fun A' n' hA => by unfold Mp.set; rw [if_neg (by omega)], fun B0 hB hM => ⟨hb.mono hB, fun A' n' b' base ext hA e => by
    rcases Mp.set_some e with ⟨_, _, e2⟩ | e2
    · cases e2; exact hB
    · exact hM _ _ _ _ _ hA e2⟩⟩
theorem below_alloc (w : World) (o : Obj) : Below w.heap.size w (w.alloc o) := (Below.refl _ _).alloc (Nat.le_refl _) _
theorem HR.newCells (h : HR N0 W0 M H w) {e : TypeId} {el : TypeId} {cs : Array Value} {ds rest : Array Value} (hv : VRL M cs.toList ds.toList) (ho : cs.toList.all oneC = true) (fz : Nat × Nat)
    (hfz : (ds ++ rest).size ≤ fz.1 ∨ fz = (0, 0)) :
    HR N0 W0 (M.set H.length cs.size (w.heap.size, 0, (ds ++ rest).size)) (H ++ [cel e cs]) (w.alloc (.cells (ds ++ rest) el fz)) ∧ Mle M (M.set H.length cs.size (w.heap.size, 0, (ds ++ rest).size)) ∧
      Ext H M (M.set H.length cs.size (w.heap.size, 0, (ds ++ rest).size)) w (w.alloc (.cells (ds ++ rest) el fz)) := by
  have hnone : M H.length cs.size = none := by
    cases e : M H.length cs.size with
    | none => rfl
    | some x => exact absurd (h.valid e) (by omega)
  have hlen := vrl_len hv
  simp only [Array.length_toList] at hlen
  refine h.new (below_alloc _ _) ⟨by simp, fun _ => h.n0, fun hr => by simp [cel] at hr, fun _ => ⟨by simp [cel], by simp [hlen], ho, ds ++ rest, el, fz, ?_, by simp, ?_, ?_⟩, fun hk => by simp [cel] at hk, by simp [cel], fun hk => by simp [cel] at hk⟩
  · show (w.heap.push _)[w.heap.size]? = _
    simp
  · intro _; exact hfz
  · intro _ i x hi hx
    simp only [cel] at hx hi
    have hi' : i < ds.size := by omega
    refine ⟨ds[i], by simp [Array.getElem?_append, hi'], vr_mono (Mp.set_le _ _ _ _ hnone) ?_⟩
    exact (vrl_iff.1 hv).2 i x _ (by simpa using hx) (by simp [hi'])
theorem HR.read (h : HR N0 W0 M H w) {A off n cnt : Nat} {cs : Array Value} (hr : rd H A off n cnt = some cs) {b base ext : Nat} (hm : M A n = some (b, base, ext)) :
    ∃ ds : List Value, VRL M cs.toList ds ∧ cs.size = cnt ∧ cs.toList.all oneC = true ∧ off + cnt ≤ n ∧ ∀ j v, ds[j]? = some v → w.cell? ⟨b, base + off + j, none⟩ = some v := by
  obtain ⟨B, hB, he⟩ := h.ent _ _ _ _ _ hm
  unfold rd at hr
  rw [hB] at hr
  simp only [Option.bind_some] at hr
  split at hr
  · rename_i hc
    obtain ⟨hk, hfl, hle, hn⟩ := hc
    cases hr
    obtain ⟨h1, h2, h3, ccs, el, fz, h4, h5, h6, h7⟩ := he.c hk
    refine ⟨(ccs.extract (base + off) (base + off + cnt)).toList, ?_, by simp; omega, ?_, hle, ?_⟩
    · rw [vrl_iff]
      refine ⟨by simp; omega, fun i x y hx hy => ?_⟩
      simp only [Array.getElem?_toList, Array.getElem?_extract] at hx hy
      split at hx
      · rename_i hi
        split at hy
        · obtain ⟨y', hy', hv⟩ := h7 hfl (off + i) x (by omega) hx
          rw [show base + (off + i) = base + off + i by omega] at hy'
          rw [hy'] at hy; cases hy; exact hv
        · simp at hy
      · simp at hx
    · rw [List.all_eq_true] at h3 ⊢
      intro x hx
      refine h3 x ?_
      simp only [Array.toList_extract, List.extract_eq_take_drop] at hx
      exact List.mem_of_mem_drop (List.mem_of_mem_take hx)
    · intro j v hv
      simp only [Array.getElem?_toList, Array.getElem?_extract] at hv
      split at hv
      · simp only [World.cell?, h4]
        exact hv
      · simp at hv
  · simp at hr
def setBlk (w : World) (b : Nat) (o : Obj) : World := { w with heap := w.heap.setIfInBounds b o }
theorem setBlk_same (w : World) (b : Nat) (o : Obj) (h : b < w.heap.size) : (setBlk w b o).heap[b]? = some o := by simp [setBlk, h]
theorem setBlk_other (w : World) (b : Nat) (o : Obj) (k : Nat) (h : b ≠ k) : (setBlk w b o).heap[k]? = w.heap[k]? := by simp [setBlk, h]
theorem setBlk_size (w : World) (b : Nat) (o : Obj) : (setBlk w b o).heap.size = w.heap.size := by simp [setBlk]
theorem setBlk_setBlk (w : World) (b : Nat) (o o' : Obj) : setBlk (setBlk w b o) b o' = setBlk w b o' := by simp [setBlk, Array.setIfInBounds_setIfInBounds]
theorem setBlk_self (w : World) (b : Nat) (o : Obj) (h : w.heap[b]? = some o) : setBlk w b o = w := by
  have : w.heap.setIfInBounds b o = w.heap := by
    apply Array.ext_getElem?
    intro i
    rw [Array.getElem?_setIfInBounds]
    split
    · rename_i e; subst e
      have := (Array.getElem?_eq_some_iff.1 h).1
      simp [this]
      have := (Array.getElem?_eq_some_iff.1 h).2
      exact this.symm
    · rfl
  unfold setBlk
  rw [this]
theorem setCell_blk (w : World) (b o : Nat) (v : Value) {cs : Array Value} {el : TypeId} {fz : Nat × Nat} (h : w.heap[b]? = some (.cells cs el fz)) :
    w.setCell ⟨b, o, none⟩ v = setBlk w b (.cells (cs.setIfInBounds o v) el fz) := by
  unfold World.setCell setBlk
  congr 1
  apply Array.ext_getElem?
  intro i
  simp only [Array.getElem?_modify, Array.getElem?_setIfInBounds]
  split
  · rename_i e
    subst e
    have := (Array.getElem?_eq_some_iff.1 h).1
    simp only [h, this, Option.map_some, if_true]
    simp
  · rfl
theorem below_setBlk {B : Nat} (w : World) (b : Nat) (o : Obj) (h : B ≤ b) : Below B w (setBlk w b o) :=
  ⟨rfl, rfl, rfl, by rw [setBlk_size]; exact Nat.le_refl _, fun k hk => setBlk_other w b o k (by omega)⟩
theorem putAll_size : ∀ (vs : List Value) (cs : Array Value) (o : Nat), (putAll cs o vs).size = cs.size
  | [], _, _ => rfl
  | v :: vs, cs, o => by rw [putAll, putAll_size vs]; simp
theorem putAll_get : ∀ (vs : List Value) (cs : Array Value) (o i : Nat), o + vs.length ≤ cs.size → (putAll cs o vs)[i]? = if o ≤ i ∧ i < o + vs.length then vs[i - o]? else cs[i]?
  | [], cs, o, i, _ => by simp only [putAll, List.length_nil]; rw [if_neg (by omega)]
  | v :: vs, cs, o, i, h => by
    simp only [List.length_cons] at h
    rw [putAll, putAll_get vs _ _ _ (by simp; omega)]
    by_cases h1 : o + 1 ≤ i ∧ i < o + 1 + vs.length
    · rw [if_pos h1, if_pos (by simp only [List.length_cons]; omega), show i - o = (i - (o + 1)) + 1 by omega]
      simp
    · rw [if_neg h1, Array.getElem?_setIfInBounds]
      by_cases h2 : o = i
      · subst h2
        rw [if_pos rfl, if_pos (by omega), if_pos (by simp)]
        simp
      · rw [if_neg h2, if_neg (by simp only [List.length_cons]; omega)]
theorem run_storeBlk (P : Program) (b o : Nat) (el : TypeId) (fz : Nat × Nat) : ∀ (vs : List Value) (i : Nat) (cs : Array Value) (w : World), w.heap[b]? = some (.cells cs el fz) → o + i + vs.length ≤ cs.size →
    (∀ j, j < vs.length → ¬ (fz.1 ≤ o + i + j ∧ o + i + j < fz.2)) → (∀ v ∈ vs, v.oneCell' = true) →
    (storeCells ⟨b, o, none⟩ vs i).run P w = .ok () (setBlk w b (.cells (putAll cs (o + i) vs) el fz))
  | [], i, cs, w, h, _, _, _ => by simp only [storeCells, putAll]; rw [setBlk_self w b _ h]; rfl
  | v :: vs, i, cs, w, h, hs, hf, h1 => by
    simp only [List.length_cons] at hs hf
    have hb := (Array.getElem?_eq_some_iff.1 h).1
    have hadd : (⟨b, o, none⟩ : Addr).add i = ⟨b, o + i, none⟩ := by unfold Addr.add; split <;> simp_all
    have hc : w.cell? ⟨b, o + i, none⟩ = some cs[o + i] := by simp [World.cell?, h]
    have hz : w.frozen? ⟨b, o + i, none⟩ = false := by
      have := hf 0 (by omega)
      simp only [World.frozen?, h]
      simp only [Nat.add_zero] at this
      simp; omega
    have hst : (store ((⟨b, o, none⟩ : Addr).add i) v).run P w = .ok () (setBlk w b (.cells (cs.setIfInBounds (o + i) v) el fz)) := by
      rw [hadd, run_store P w _ v _ (h1 v (by simp)), ← setCell_blk w b (o + i) v h]
      simp [hc, hz]
    have ih := run_storeBlk P b o el fz vs (i + 1) (cs.setIfInBounds (o + i) v) (setBlk w b (.cells (cs.setIfInBounds (o + i) v) el fz)) (setBlk_same _ _ _ hb) (by simp; omega)
      (fun j hj => by have := hf (j + 1) (by omega); rwa [show o + i + (j + 1) = o + (i + 1) + j by omega] at this) (fun x hx => h1 x (by simp [hx]))
    simp only [storeCells, Sem.run_bind, hst, Result.andThen_ok, ih, putAll, setBlk_setBlk]
    rw [show o + (i + 1) = o + i + 1 by omega]
theorem all_putAll {p : Value → Bool} : ∀ {vs : List Value} {cs : Array Value} {o : Nat}, vs.all p = true → cs.toList.all p = true → (putAll cs o vs).toList.all p = true
  | [], _, _, _, h => h
  | v :: vs, cs, o, hv, hc => by
    simp only [List.all_cons, Bool.and_eq_true] at hv
    rw [putAll]
    refine all_putAll hv.2 ?_
    rw [Array.toList_setIfInBounds, List.all_eq_true]
    intro x hx
    rcases List.mem_or_eq_of_mem_set hx with h | h
    · exact List.all_eq_true.1 hc x h
    · rw [h]; exact hv.1
theorem HR.write (P : Program) (h : HR N0 W0 M H w) {prot A off n : Nat} {vs : Array Value} {H' : Heap} (hw : wr H prot A off n vs = some H') {b base ext : Nat} (hm : M A n = some (b, base, ext))
    {us : List Value} (hv : VRL M vs.toList us) (h1 : vs.toList.all oneC = true) :
    ∃ w', (storeCells ⟨b, base + off, none⟩ us).run P w = .ok () w' ∧ HR N0 W0 M H' w' ∧ Kp prot M M w w' := by
  obtain ⟨B, hB, he⟩ := h.ent _ _ _ _ _ hm
  unfold wr at hw
  rw [hB] at hw
  simp only [Option.bind_some] at hw
  split at hw
  · rename_i hc
    obtain ⟨hk, hp, hro, hfl, hn, hle⟩ := hc
    cases hw
    obtain ⟨g1, g2, g3, cs, el, fz, g4, g5, g6, g7⟩ := he.c hk
    have hlen := vrl_len hv
    simp only [Array.length_toList] at hlen
    have hone := cells_oneCell hv h1
    have hrun := run_storeBlk P b (base + off) el fz us 0 cs w g4 (by omega) (fun j hj => fz_ok (g6 hro) (by omega)) hone
    refine ⟨_, hrun, ?_, .write hm hp (below_setBlk _ _ _ (Nat.le_refl _))⟩
    have hb0 : N0 ≤ b := he.own hro
    have hAlt := (List.getElem?_eq_some_iff.1 hB).1
    refine ⟨h.below.trans (below_setBlk _ _ _ hb0), by rw [setBlk_size]; exact h.n0, ?_, h.apart⟩
    intro A' n' b' base' ext' e
    obtain ⟨B', hB', he'⟩ := h.ent _ _ _ _ _ e
    have hblk : ∀ k, b ≠ k → (setBlk w b (.cells (putAll cs (base + off + 0) us) el fz)).heap[k]? = w.heap[k]? := fun k hk => setBlk_other _ _ _ _ hk
    by_cases hA : A' = A
    · subst hA
      rw [hB] at hB'; cases hB'
      obtain ⟨f1, f2, f3, cs', el', fz', f4, f5, f6, f7⟩ := he'.c hk
      refine ⟨_, List.getElem?_set_self hAlt, ⟨by rw [setBlk_size]; exact he'.lt, fun _ => he'.own hro, fun hr => by simp [hro] at hr, fun _ => ⟨by simp only [putAll_size]; exact f1, f2, all_putAll h1 f3, ?_⟩, fun k => by simp [hk] at k, by simp [hk], fun k => by simp [hk] at k⟩⟩
      by_cases hn' : n' = n
      · subst hn'
        rw [hm] at e; cases e
        rw [g4] at f4; cases f4
        refine ⟨_, el, fz, setBlk_same _ _ _ he.lt, by rw [putAll_size]; exact f5, by rw [putAll_size]; exact f6, ?_⟩
        intro _ i x hi hx
        simp only at hx
        rw [putAll_get _ _ _ _ (by simp only [Array.length_toList]; omega)] at hx
        rw [putAll_get _ _ _ _ (by omega)]
        by_cases hin : off ≤ i ∧ i < off + vs.toList.length
        · rw [if_pos hin] at hx
          simp only [Array.length_toList] at hin
          rw [if_pos (by omega), show base + i - (base + off + 0) = i - off by omega]
          have hlt : i - off < us.length := by omega
          exact ⟨us[i - off], by simp [hlt], (vrl_iff.1 hv).2 (i - off) x _ hx (by simp [hlt])⟩
        · rw [if_neg hin] at hx
          simp only [Array.length_toList] at hin
          rw [if_neg (by omega)]
          exact f7 hfl i x hi hx
      · by_cases hbb : b = b'
        · subst hbb
          rw [g4] at f4; cases f4
          exact ⟨_, el, fz, setBlk_same _ _ _ he.lt, by rw [putAll_size]; exact f5, by rw [putAll_size]; exact f6, fun hfl' => absurd hfl' (by simp only; omega)⟩
        · exact ⟨cs', el', fz', by rw [hblk _ hbb]; exact f4, f5, f6, fun hfl' => absurd hfl' (by simp only; omega)⟩
    · refine ⟨B', by rw [List.getElem?_set_ne (fun x => hA x.symm)]; exact hB', ?_⟩
      by_cases hbb : b = b'
      · subst hbb
        have hd : base + ext ≤ base' ∨ base' + ext' ≤ base := by
          rcases h.apart _ _ _ _ _ _ _ _ _ hm e hb0 with ⟨hx, _⟩ | hx
          · exact absurd hx.symm hA
          · exact hx
        have hk1 : B'.k ≠ 1 := fun x => by obtain ⟨_, _, _, es, cl, hx, _⟩ := he'.m x; rw [g4] at hx; cases hx
        have hk2 : B'.k ≠ 2 := fun x => by obtain ⟨_, _, _, s, p, _, hx⟩ := he'.i x; rw [g4] at hx; cases hx
        have hk0 : B'.k = 0 := by have := he'.kk; omega
        obtain ⟨f1, f2, f3, cs', el', fz', f4, f5, f6, f7⟩ := he'.c hk0
        rw [g4] at f4; cases f4
        refine ⟨by rw [setBlk_size]; exact he'.lt, he'.own, he'.ro, fun _ => ⟨f1, f2, f3, _, el, fz, setBlk_same _ _ _ he.lt, by rw [putAll_size]; exact f5, by rw [putAll_size]; exact f6, ?_⟩, fun x => absurd x hk1, he'.kk, fun x => absurd x hk2⟩
        intro hfl' i x hi hx
        rw [putAll_get _ _ _ _ (by omega), if_neg (by omega)]
        exact f7 hfl' i x hi hx
      · exact he'.keep (.refl _) (hblk _ hbb)
  · simp at hw
end Go.AM

namespace Go.AM
open Go
variable {P : Program} {M : Mp} {w : World}
theorem pureRun_bind {α β : Type} (x : Sem α) (f : α → Sem β) : pureRun P (x >>= f) = (pureRun P x).bind fun a => pureRun P (f a) := by
  show pureRun P (Sem.bind x f) = _
  induction x with
  | pure a => rfl
  | program k ih => simp [Sem.bind, pureRun, ih]
  | mark m k ih => simp [Sem.bind, pureRun, ih]
  | _ => simp [Sem.bind, pureRun]
@[simp] theorem pureRun_pure {α : Type} (a : α) : pureRun P (Pure.pure a : Sem α) = some a := rfl
@[simp] theorem pureRun_pure' {α : Type} (a : α) : pureRun P (Sem.pure a : Sem α) = some a := rfl
@[simp] theorem pureRun_program : pureRun P program = some P := rfl
@[simp] theorem pureRun_stuck {α : Type} (s : String) : pureRun P (stuck s : Sem α) = none := rfl
@[simp] theorem pureRun_unsupported {α : Type} (s : Unsupported) : pureRun P (unsupported s : Sem α) = none := rfl
@[simp] theorem pureRun_ite {α : Type} (c : Prop) [Decidable c] (x y : Sem α) : pureRun P (if c then x else y) = if c then pureRun P x else pureRun P y := by split <;> rfl
theorem pureRun_map {α β : Type} (x : Sem α) (f : α → β) : pureRun P (f <$> x) = (pureRun P x).map f := by
  show pureRun P (x >>= fun a => pure (f a)) = _
  rw [pureRun_bind]
  cases pureRun P x <;> rfl
theorem pureRun_run {α : Type} (w : World) : ∀ {s : Sem α} {v : α}, pureRun P s = some v → s.run P w = .ok v w := by
  intro s
  induction s with
  | pure a => intro v h; simp [pureRun] at h; subst h; rfl
  | program k ih => intro v h; exact ih _ h
  | mark m k ih => intro v h; exact ih h
  | _ => intro v h; simp [pureRun] at h
@[simp] theorem pureRun_underlying (t : TypeId) : pureRun P (underlying t) = P.underlying t := by
  unfold underlying
  rw [pureRun_bind]
  simp only [pureRun_program, Option.bind_some]
  cases P.underlying t <;> rfl
@[simp] theorem pureRun_typeInfo (t : TypeId) : pureRun P (typeInfo t) = P.info? t := by
  unfold typeInfo
  rw [pureRun_bind]
  simp only [pureRun_program, Option.bind_some]
  cases P.info? t <;> rfl
@[simp] theorem pureRun_sizeOf (t : TypeId) : pureRun P (sizeOf t) = sz P t := by
  unfold sizeOf sz
  rw [pureRun_bind, pureRun_typeInfo]
  cases P.info? t <;> rfl
theorem pureRun_zeroValue (t : TypeId) : pureRun P (zeroValue t) = (P.info? t).bind (·.zero) := by
  unfold zeroValue
  rw [pureRun_bind, pureRun_typeInfo]
  cases h : P.info? t with
  | none => rfl
  | some i => simp only [Option.bind_some]; cases i.zero <;> rfl
theorem pureRun_isAgg (t : TypeId) : pureRun P (isAgg t) = (P.underlying t).map fun _ => isAggD P t := by
  unfold isAgg isAggD
  rw [pureRun_bind, pureRun_underlying]
  cases h : P.underlying t with
  | none => rfl
  | some d => cases d <;> rfl
theorem underlying_of_aggD {t : TypeId} (h : isAggD P t = true) : (P.underlying t).isSome = true := by
  unfold isAggD at h
  cases e : P.underlying t with
  | none => rw [e] at h; cases h
  | some d => rfl
theorem pureRun_part (t : TypeId) (cs : Array Value) (off : Nat) : pureRun P (part t cs off) = partV P t cs off := by
  unfold part partV
  rw [pureRun_bind, pureRun_isAgg]
  cases h : P.underlying t with
  | none => rfl
  | some d =>
    simp only [Option.map_some, Option.bind_some, Option.isSome_some, if_true]
    cases ha : isAggD P t with
    | true =>
      simp only [if_true, pureRun_bind, pureRun_sizeOf]
      cases sz P t <;> rfl
    | false =>
      simp only [Bool.false_eq_true, if_false]
      cases cs[off]? <;> rfl
theorem vr_agg {cs : Array Value} {c : Value} : VR M (.agg cs) c ↔ ∃ ds : Array Value, c = .agg ds ∧ VRL M cs.toList ds.toList := by
  obtain ⟨xs⟩ := cs
  rw [VR]
  constructor
  · rintro ⟨ys, rfl, h⟩; exact ⟨⟨ys⟩, rfl, h⟩
  · rintro ⟨⟨ys⟩, rfl, h⟩; exact ⟨ys, rfl, h⟩
theorem vr_tuple {cs : Array Value} {c : Value} : VR M (.tuple cs) c ↔ ∃ ds : Array Value, c = .tuple ds ∧ VRL M cs.toList ds.toList := by
  obtain ⟨xs⟩ := cs
  rw [VR]
  constructor
  · rintro ⟨ys, rfl, h⟩; exact ⟨⟨ys⟩, rfl, h⟩
  · rintro ⟨⟨ys⟩, rfl, h⟩; exact ⟨ys, rfl, h⟩
theorem vr_func {f : Fn} {a b : Array Value} {c : Value} : VR M (.func f a b) c ↔ ∃ a' b' : Array Value, c = .func f a' b' ∧ VRL M a.toList a'.toList ∧ VRL M b.toList b'.toList := by
  obtain ⟨a⟩ := a; obtain ⟨b⟩ := b
  rw [VR]
  constructor
  · rintro ⟨a', b', rfl, h⟩; exact ⟨⟨a'⟩, ⟨b'⟩, rfl, h⟩
  · rintro ⟨⟨a'⟩, ⟨b'⟩, rfl, h⟩; exact ⟨a', b', rfl, h⟩
theorem vr_iface {t : TypeId} {v c : Value} : VR M (.iface t v) c ↔ ∃ v', c = .iface t v' ∧ VR M v v' := by rw [VR]
theorem vr_ptr {A o n : Nat} {c : Value} : VR M (.pointer (some ⟨A, o, some n⟩)) c ↔ PtrR M A o n c := by rw [VR]
theorem vr_sli {A o n l s : Nat} {c : Value} : VR M (.slice (some ⟨A, o, some n⟩) l s) c ↔ SliR M A o n l s c := by rw [VR]
theorem vr_map {r : Nat} {c : Value} : VR M (.map (some r)) c ↔ MapR M r c := by rw [VR]
theorem vrl_extract {xs ys : Array Value} (h : VRL M xs.toList ys.toList) (a b : Nat) : VRL M (xs.extract a b).toList (ys.extract a b).toList := by
  simp only [Array.toList_extract, List.extract_eq_take_drop]
  exact vrl_take (vrl_drop h _) _
theorem vrl_get {xs ys : Array Value} (h : VRL M xs.toList ys.toList) {i : Nat} {x : Value} (hx : xs[i]? = some x) : ∃ y, ys[i]? = some y ∧ VR M x y := by
  have hl := vrl_len h
  simp only [Array.length_toList] at hl
  have hi := (Array.getElem?_eq_some_iff.1 hx).1
  exact ⟨ys[i], by simp [← hl, hi], (vrl_iff.1 h).2 i x _ (by simpa using hx) (by simp [← hl, hi])⟩
theorem part_sim {t : TypeId} {cs ds : Array Value} {off : Nat} {v : Value} (h : partV P t cs off = some v) (hv : VRL M cs.toList ds.toList) : ∃ v', partV P t ds off = some v' ∧ VR M v v' := by
  unfold partV at h ⊢
  split at h
  · rename_i h1
    rw [if_pos h1]
    split at h
    · rename_i h2
      rw [if_pos h2]
      cases hs : sz P t with
      | none => rw [hs] at h; cases h
      | some s =>
        rw [hs] at h
        cases h
        exact ⟨_, rfl, vr_agg.2 ⟨_, rfl, vrl_extract hv _ _⟩⟩
    · rename_i h2
      rw [if_neg h2]
      exact vrl_get hv h
  · cases h
theorem extract_sim {x y v : Value} {i : Nat} (h : extV x i = some v) (hx : VR M x y) : ∃ v', (Instr.extract y i).run P w = .ok v' w ∧ VR M v v' := by
  unfold extV at h
  split at h
  · rename_i vs
    obtain ⟨ds, rfl, hv⟩ := vr_tuple.1 hx
    obtain ⟨y, hy, hv'⟩ := vrl_get hv h
    refine ⟨y, ?_, hv'⟩
    unfold Instr.extract
    simp only [hy, Sem.run_pure]
  · cases h
theorem field_sim {T : TypeId} {x y v : Value} {f : Nat} (h : fldV P T x f = some v) (hx : VR M x y) : ∃ v', (Instr.field T y f).run P w = .ok v' w ∧ VR M v v' := by
  unfold fldV at h
  split at h
  · rename_i fs cs hu
    obtain ⟨ds, rfl, hv⟩ := vr_agg.1 hx
    cases hf : fs[f]? with
    | none => rw [hf] at h; cases h
    | some fd =>
      rw [hf] at h
      obtain ⟨v', h', hv'⟩ := part_sim h hv
      refine ⟨v', pureRun_run w ?_, hv'⟩
      unfold Instr.field
      rw [pureRun_bind, pureRun_underlying, hu]
      simp only [Option.bind_some, hf, pureRun_bind, asAgg, pureRun_pure, pureRun_part, h']
  · cases h
theorem iface_sim {T : TypeId} {x y v : Value} (h : mkIV P T x = some v) (hx : VR M x y) : ∃ v', (Instr.makeInterface T y).run P w = .ok v' w ∧ VR M v v' := by
  unfold mkIV at h
  refine ⟨.iface T y, pureRun_run w ?_, ?_⟩
  · unfold Instr.makeInterface
    rw [pureRun_bind, pureRun_underlying]
    split at h
    · cases h
    · rename_i d hd hu
      rw [hu]
      cases d <;> first | rfl | exact absurd rfl (hd _)
    · cases h
  · split at h
    · cases h
    · cases h; exact vr_iface.2 ⟨y, rfl, hx⟩
    · cases h
theorem flat_cases {v : Value} (h : flat v = true) : VR M v v := (vr_flat h).2 rfl
theorem index_sim {T : TypeId} {x y i j v : Value} (h : idxV P T x i = some v) (hx : VR M x y) (hi : VR M i j) : ∃ v', (Instr.index T y j).run P w = .ok v' w ∧ VR M v v' := by
  unfold idxV at h
  split at h
  · rename_i len e cs k n hu
    rw [(vr_flat rfl).1 hi]
    obtain ⟨ds, rfl, hv⟩ := vr_agg.1 hx
    split at h
    · rename_i hn
      cases hs : sz P e with
      | none => rw [hs] at h; cases h
      | some s =>
        rw [hs] at h
        obtain ⟨v', h', hv'⟩ := part_sim h hv
        refine ⟨v', pureRun_run w ?_, hv'⟩
        unfold Instr.index
        simp only [asIntOf, pureRun_bind, pureRun_pure, Option.bind_some, pureRun_underlying, hu, pureRun_ite, if_pos hn, pureRun_sizeOf, hs, pureRun_part, h']
    · cases h
  · rename_i s k n hu
    rw [(vr_flat rfl).1 hi, (vr_flat rfl).1 hx]
    split at h
    · rename_i hn
      cases hb : s[n.toNat]? with
      | none => rw [hb] at h; cases h
      | some b =>
        rw [hb] at h
        cases h
        refine ⟨_, pureRun_run w ?_, flat_cases rfl⟩
        unfold Instr.index
        simp only [asIntOf, pureRun_bind, pureRun_pure, Option.bind_some, pureRun_underlying, hu, if_pos hn, hb]
    · cases h
  · cases h
theorem zer_zero {t : TypeId} {z : Value} (h : zer P t = some z) : pureRun P (zeroValue t) = some z ∧ flat1 z = true := by
  rw [pureRun_zeroValue]
  unfold zer at h
  cases e : (P.info? t).bind (·.zero) with
  | none => rw [e] at h; cases h
  | some z' =>
    rw [e] at h
    simp only [Option.bind_some] at h
    split at h
    · rename_i hf; cases h; exact ⟨rfl, hf⟩
    · cases h
theorem assert_sim {x y v : Value} {T0 T : TypeId} {ok : Bool} (h : asrtV P x T ok = some v) (hx : VR M x y) : ∃ v', (Instr.typeAssert y T0 T ok).run P w = .ok v' w ∧ VR M v v' := by
  have fails : ∀ (a b : Option TypeId) (m : String), okV P T ok none = some v → ∃ v', pureRun P (if ok = true then do pure (.tuple #[← zeroValue T, .bool false]) else runtimePanic (.typeAssertion a b T m) : Sem Value) = some v' ∧ VR M v v' := by
    intro a b m hh
    unfold okV at hh
    split at hh
    · rename_i e; cases e
    · split at hh
      · rename_i hok
        cases hz : zer P T with
        | none => rw [hz] at hh; cases hh
        | some z =>
          rw [hz] at hh
          cases hh
          obtain ⟨h1, h2⟩ := zer_zero hz
          refine ⟨.tuple #[z, .bool false], ?_, (vr_ground (by show ((#[z, .bool false] : Array Value).all flat1) = true; simp [h2]; rfl)).2 rfl⟩
          rw [if_pos hok, pureRun_bind, h1]
          rfl
      · cases hh
  have holds : ∀ (u u' : Value), VR M u u' → okV P T ok (some u) = some v → ∃ v', pureRun P (pure (if ok = true then .tuple #[u', .bool true] else u') : Sem Value) = some v' ∧ VR M v v' := by
    intro u u' hu hh
    simp only [okV, Option.some.injEq] at hh
    subst hh
    refine ⟨_, rfl, ?_⟩
    split
    · exact vr_tuple.2 ⟨_, rfl, vrl_cons2.2 ⟨hu, vrl_cons2.2 ⟨flat_cases rfl, vrl_nil.2 rfl⟩⟩⟩
    · exact hu
  unfold asrtV at h
  split at h
  · rename_i want t u hu
    obtain ⟨u', rfl, hu'⟩ := vr_iface.1 hx
    cases hi : P.info? t with
    | none => rw [hi] at h; cases h
    | some i =>
      rw [hi] at h
      simp only [Option.bind_some] at h
      cases hm : Instr.missingMethod want i.methods with
      | none =>
        rw [hm, if_pos rfl] at h
        obtain ⟨v', h1, h2⟩ := holds _ (.iface t u') (vr_iface.2 ⟨u', rfl, hu'⟩) h
        refine ⟨v', pureRun_run w ?_, h2⟩
        unfold Instr.typeAssert
        simp only [pureRun_bind, pureRun_underlying, hu, Option.bind_some, pureRun_typeInfo, hi, hm]
        exact h1
      | some m =>
        rw [hm, if_neg (by simp)] at h
        obtain ⟨v', h1, h2⟩ := fails none (some t) m h
        refine ⟨v', pureRun_run w ?_, h2⟩
        unfold Instr.typeAssert
        simp only [pureRun_bind, pureRun_underlying, hu, Option.bind_some, pureRun_typeInfo, hi, hm]
        exact h1
  · rename_i d t u hd hu
    obtain ⟨u', rfl, hu'⟩ := vr_iface.1 hx
    by_cases ht : t = T
    · rw [if_pos ht] at h
      obtain ⟨v', h1, h2⟩ := holds _ _ hu' h
      refine ⟨v', pureRun_run w ?_, h2⟩
      unfold Instr.typeAssert
      simp only [pureRun_bind, pureRun_underlying, hu, Option.bind_some]
      cases d <;> first | exact absurd rfl (hd _) | (simp only [if_pos ht]; exact h1)
    · rw [if_neg ht] at h
      obtain ⟨v', h1, h2⟩ := fails (some T0) (some t) "" h
      refine ⟨v', pureRun_run w ?_, h2⟩
      unfold Instr.typeAssert
      simp only [pureRun_bind, pureRun_underlying, hu, Option.bind_some]
      cases d <;> first | exact absurd rfl (hd _) | (simp only [if_neg ht]; exact h1)
  · rename_i d hu
    rw [(vr_flat rfl).1 hx]
    unfold Instr.typeAssert
    cases d with
    | interface ms =>
      obtain ⟨v', h1, h2⟩ := fails none none "" h
      refine ⟨v', pureRun_run w ?_, h2⟩
      simp only [pureRun_bind, pureRun_underlying, hu, Option.bind_some]
      exact h1
    | _ =>
      obtain ⟨v', h1, h2⟩ := fails (some T0) none "" h
      refine ⟨v', pureRun_run w ?_, h2⟩
      simp only [pureRun_bind, pureRun_underlying, hu, Option.bind_some]
      exact h1
  · cases h
end Go.AM

namespace Go.AM
open Go
variable {P : Program} {M : Mp} {w : World}
theorem cells_of {M : Mp} {a c : Value} (h : VR M a c) (ha : (cellsV a).isSome = true) : VRL M a.cells.toList c.cells.toList := by
  obtain ⟨cs, hcs⟩ := Option.isSome_iff_exists.1 ha
  have := (vr_cells h hcs).1
  have e : cs = a.cells := by
    unfold cellsV at hcs
    split at hcs
    · split at hcs
      · cases hcs; rfl
      · cases hcs
    · rename_i hne
      split at hcs
      · cases hcs
        cases a <;> first | rfl | exact absurd rfl (hne _)
      · cases hcs
  rw [e] at this
  exact this
def PRel (M : Mp) (ps qs : List (Nat × Value)) : Prop := ps.length = qs.length ∧ ∀ (i : Nat) (p q : Nat × Value), ps[i]? = some p → qs[i]? = some q → q.1 = p.1 ∧ VR M p.2 q.2
theorem foldl_set_sim {M : Mp} : ∀ (xs ys : List Value) (k : Nat) (off : Nat) (cs ds : Array Value), VRL M xs ys → VRL M cs.toList ds.toList →
    VRL M ((xs.zipIdx k).foldl (fun cs (c, j) => cs.setIfInBounds (off + j) c) cs).toList ((ys.zipIdx k).foldl (fun cs (c, j) => cs.setIfInBounds (off + j) c) ds).toList
  | [], ys, k, off, cs, ds, h, hc => by rw [vrl_nil] at h; subst h; exact hc
  | x :: xs, ys, k, off, cs, ds, h, hc => by
    rw [vrl_cons] at h
    obtain ⟨y, ys, rfl, h1, h2⟩ := h
    simp only [List.zipIdx_cons, List.foldl_cons]
    refine foldl_set_sim xs ys (k + 1) off _ _ h2 ?_
    rw [Array.toList_setIfInBounds, Array.toList_setIfInBounds]
    exact vrl_set hc h1 _
theorem fill_sim {M : Mp} {pl : Nat → Option (Nat × Nat)} : ∀ {ps qs : List (Nat × Value)} {cs ds out : Array Value}, PRel M ps qs → ps.all (fun p => (cellsV p.2).isSome) = true → VRL M cs.toList ds.toList → Instr.fill pl cs ps = some out →
    ∃ out', Instr.fill pl ds qs = some out' ∧ VRL M out.toList out'.toList
  | [], [], cs, ds, out, _, _, hc, h => by cases h; exact ⟨ds, rfl, hc⟩
  | [], q :: qs, _, _, _, h, _, _, _ => by simp [PRel] at h
  | p :: ps, [], _, _, _, h, _, _, _ => by simp [PRel] at h
  | (i, v) :: ps, (i', v') :: qs, cs, ds, out, hp, hok, hc, h => by
    obtain ⟨hi, hv⟩ := hp.2 0 (i, v) (i', v') rfl rfl
    simp only at hi hv
    subst hi
    simp only [List.all_cons, Bool.and_eq_true] at hok
    have hcv := cells_of hv hok.1
    have hl := vrl_len hcv
    simp only [Array.length_toList] at hl
    have hl2 := vrl_len hc
    simp only [Array.length_toList] at hl2
    unfold Instr.fill at h ⊢
    cases hpl : pl i' with
    | none => rw [hpl] at h; cases h
    | some os =>
      obtain ⟨off, size⟩ := os
      rw [hpl] at h
      simp only at h ⊢
      rw [← hl, ← hl2]
      split at h
      · cases h
      · rename_i hn
        rw [if_neg hn]
        refine fill_sim (ps := ps) (qs := qs) ⟨by have := hp.1; simpa using this, fun j p q a b => hp.2 (j + 1) p q (by simpa using a) (by simpa using b)⟩ hok.2 ?_ h
        have := foldl_set_sim v.cells.toList v'.cells.toList 0 off cs ds hcv hc
        rw [← Array.foldl_toList, ← Array.foldl_toList, Array.toList_zipIdx, Array.toList_zipIdx]
        exact this
theorem prel_map {M : Mp} {ρ ρ' : Operand → Value} {ps : Array (Nat × Operand)} (h : ∀ p ∈ ps.toList, VR M (ρ p.2) (ρ' p.2)) :
    PRel M (ps.map fun (i, x) => (i, ρ x)).toList (ps.map fun (i, x) => (i, ρ' x)).toList := by
  refine ⟨by simp, fun i p q hp hq => ?_⟩
  simp only [Array.toList_map, List.getElem?_map] at hp hq
  cases hx : ps.toList[i]? with
  | none => rw [hx] at hp; cases hp
  | some x =>
    rw [hx] at hp hq
    cases hp; cases hq
    exact ⟨rfl, h x (List.mem_of_getElem? hx)⟩
theorem cells_self {M : Mp} {z : Value} (h : VR M z z) : VRL M z.cells.toList z.cells.toList := by
  cases z with
  | agg cs => obtain ⟨ds, e, h⟩ := vr_agg.1 h; cases e; exact h
  | _ => exact vrl_cons2.2 ⟨h, vrl_nil.2 rfl⟩
theorem build_sim {T : TypeId} {ps qs : Array (Nat × Value)} {v : Value} (h : bldV P T ps = some v) (hp : PRel M ps.toList qs.toList) : ∃ v', (Instr.build T qs).run P w = .ok v' w ∧ VR M v v' := by
  unfold bldV at h
  split at h
  · rename_i hok
    cases hz : zer P T with
    | none => rw [hz] at h; cases h
    | some z =>
      rw [hz] at h
      simp only [Option.bind_some] at h
      obtain ⟨hz1, hz2⟩ := zer_zero hz
      cases hpl : placesV P T with
      | none => rw [hpl] at h; cases h
      | some pl =>
        rw [hpl] at h
        simp only [Option.bind_some] at h
        cases hf : Instr.fill pl z.cells ps.toList with
        | none => rw [hf] at h; cases h
        | some out =>
          rw [hf] at h
          cases h
          have hzz : VRL M z.cells.toList z.cells.toList := by
            exact cells_self ((vr_flat1 hz2).2 rfl)
          obtain ⟨out', ho, hv⟩ := fill_sim hp hok hzz hf
          refine ⟨.agg out', pureRun_run w ?_, vr_agg.2 ⟨out', rfl, hv⟩⟩
          unfold Instr.build
          unfold placesV at hpl
          rw [pureRun_bind, hz1]
          simp only [Option.bind_some, pureRun_bind, pureRun_underlying]
          split at hpl
          · rename_i fields hu
            rw [hu]
            simp only [Option.bind_some, pureRun_bind]
            cases hm : pureRun P (fields.mapM fun f => do pure (f.offset, ← sizeOf f.type)) with
            | none => rw [hm] at hpl; cases hpl
            | some pls =>
              rw [hm] at hpl
              cases hpl
              simp only [Option.bind_some, ho, pureRun_pure]
          · rename_i elem hu
            rw [hu]
            simp only [Option.bind_some, pureRun_bind, pureRun_sizeOf]
            cases hs : sz P elem with
            | none => rw [hs] at hpl; cases hpl
            | some s =>
              rw [hs] at hpl
              cases hpl
              simp only [Option.bind_some, ho, pureRun_pure]
          · cases hpl
  · cases h
theorem un_sim {op : UnOp} {x y v : Value} (h : unV P op x = some v) (hx : VR M x y) : ∃ v', (Op.unary op y).run P w = .ok v' w ∧ VR M v v' := by
  unfold unV at h
  split at h
  · rename_i hf
    rw [(vr_flat hf).1 hx]
    have : flat v = true := by
      cases op <;> cases x <;> simp [flat] at hf <;> simp [Op.unary, Op.intArith, Op.intBits] at h <;> first | (subst h; rfl) | skip
      all_goals (rename_i a; cases a <;> simp at hf <;> simp at h)
    exact ⟨v, pureRun_run w h, flat_cases this⟩
  · cases h
theorem pick_sim {c x y c' x' y' v : Value} (h : pickV c x y = some v) (hc : VR M c c') (hx : VR M x x') (hy : VR M y y') : ∃ b, c' = .bool b ∧ VR M v (if b then x' else y') := by
  unfold pickV at h
  split at h
  · rename_i b
    cases h
    refine ⟨b, (vr_flat rfl).1 hc, ?_⟩
    cases b
    · exact hy
    · exact hx
  · cases h
end Go.AM

namespace Go.AM
open Go
variable {P : Program} {M : Mp} {w : World}
theorem eqGuard_ops (op : BinOp) (T : TypeId) (xo yo : Operand) (a b : Value) :
    eqGuard op T xo yo a b = eqGuard op T (if (isC xo || isC yo) = true then .const .nilIface else .tmp 0) (.tmp 0) a b := by
  unfold eqGuard
  cases a <;> cases b <;> try rfl
  cases xo <;> cases yo <;> rfl
theorem bin_sim {op : BinOp} {T : TypeId} {xo yo : Operand} {x y x' y' v : Value} (h : binV P (isC xo || isC yo) op T x y = some v) (hx : VR M x x') (hy : VR M y y') :
    ∃ v', (do eqGuard op T xo yo x' y'; binOp op T x' y' : Sem Value).run P w = .ok v' w ∧ VR M v v' := by
  unfold binV at h
  split at h
  · rename_i hg
    rw [Bool.and_eq_true] at hg
    rw [(vr_ground hg.1).1 hx, (vr_ground hg.2).1 hy]
    unfold binG at h
    cases hr : pureRun P (do eqGuard op T (if (isC xo || isC yo) = true then .const .nilIface else .tmp 0) (.tmp 0) x y; binOp op T x y) with
    | none => rw [hr] at h; cases h
    | some u =>
      rw [hr] at h
      simp only [Option.bind_some] at h
      split at h
      · rename_i hf
        cases h
        rw [eqGuard_ops op T xo yo]
        exact ⟨v, pureRun_run w hr, flat_cases hf⟩
      · cases h
  · split at h
    · rename_i hn
      have key : ∀ (b : Bool), (b = false → op = .eql) → (b = true → op = .neq) → v = .bool b → (pureRun P (Op.equal T x' y') = some false) → (∀ k n, x' ≠ .int k n) → (∀ k n, x' ≠ .float k n) → (∀ k n m, x' ≠ .complex k n m) → (∀ s, x' ≠ .string s) → (∀ a b : Array Value, ¬ (x' = .agg a ∧ y' = .agg b)) → ¬ (x' = .nilIface ∧ y' = .nilIface) →
          ∃ v', (do eqGuard op T xo yo x' y'; binOp op T x' y' : Sem Value).run P w = .ok v' w ∧ VR M v v' := by
        intro b h1 h2 hv he i1 i2 i3 i4 i5 i6
        subst hv
        refine ⟨.bool b, pureRun_run w ?_, flat_cases rfl⟩
        have hg : pureRun P (eqGuard op T xo yo x' y') = some () := by
          unfold eqGuard
          cases b
          · rw [h1 rfl]
            simp only [Bool.not_true, Bool.false_eq_true, if_false]
            cases x' <;> cases y' <;> first | rfl | exact absurd ⟨rfl, rfl⟩ i6 | exact absurd ⟨rfl, rfl⟩ (i5 _ _)
          · rw [h2 rfl]
            simp only [Bool.not_true, Bool.false_eq_true, if_false]
            cases x' <;> cases y' <;> first | rfl | exact absurd ⟨rfl, rfl⟩ i6 | exact absurd ⟨rfl, rfl⟩ (i5 _ _)
        rw [pureRun_bind, hg]
        simp only [Option.bind_some]
        cases b
        · rw [h1 rfl]
          unfold binOp
          cases x' <;> first | exact absurd rfl (i1 _ _) | exact absurd rfl (i2 _ _) | exact absurd rfl (i3 _ _ _) | exact absurd rfl (i4 _) | (simp only [pureRun_bind, he]; rfl)
        · rw [h2 rfl]
          unfold binOp
          cases x' <;> first | exact absurd rfl (i1 _ _) | exact absurd rfl (i2 _ _) | exact absurd rfl (i3 _ _ _) | exact absurd rfl (i4 _) | (simp only [pureRun_bind, he]; rfl)
      have hop : (op = .eql ∧ v = .bool false) ∨ (op = .neq ∧ v = .bool true) := by
        cases op <;> simp at h <;> first | (subst h; simp) | skip
      have key2 : (pureRun P (Op.equal T x' y') = some false) → (∀ k n, x' ≠ .int k n) → (∀ k n, x' ≠ .float k n) → (∀ k n m, x' ≠ .complex k n m) → (∀ s, x' ≠ .string s) → (∀ a b : Array Value, ¬ (x' = .agg a ∧ y' = .agg b)) → ¬ (x' = .nilIface ∧ y' = .nilIface) →
          ∃ v', (do eqGuard op T xo yo x' y'; binOp op T x' y' : Sem Value).run P w = .ok v' w ∧ VR M v v' := by
        rcases hop with ⟨h1, h2⟩ | ⟨h1, h2⟩
        · exact key false (fun _ => h1) (fun e => by cases e) h2
        · exact key true (fun e => by cases e) (fun _ => h1) h2
      have ptr : ∀ {a : Addr} {c : Value}, VR M (.pointer (some a)) c → ∃ a', c = .pointer (some a') := by
        rintro ⟨A, o, _ | n⟩ c hc
        · simp [VR, flat] at hc
        · obtain ⟨b, base, ext, _, rfl⟩ := vr_ptr.1 hc; exact ⟨_, rfl⟩
      have sli : ∀ {a : Addr} {l s : Nat} {c : Value}, VR M (.slice (some a) l s) c → ∃ a' l' s', c = .slice (some a') l' s' := by
        rintro ⟨A, o, _ | n⟩ l s c hc
        · simp [VR, flat] at hc
        · obtain ⟨b, base, ext, o', cap, _, rfl, _⟩ := vr_sli.1 hc; exact ⟨_, _, _, rfl⟩
      have hq : ∀ {a b : Value}, Op.equal T a b = Op.equalIn (9999 + 1) T a b := fun {a b} => rfl
      unfold nilOk at hn
      split at hn
      all_goals first
        | (cases hn; done)
        | (rename P.underlying T = some _ => hu
           first
            | (obtain ⟨a', rfl⟩ := ptr hx; cases (vr_flat rfl).1 hy; refine key2 ?_ ?_ ?_ ?_ ?_ ?_ ?_ <;> first | (rw [hq]; unfold Op.equalIn; rw [pureRun_bind, pureRun_underlying, hu]; rfl) | simp)
            | (obtain ⟨a', rfl⟩ := ptr hy; cases (vr_flat rfl).1 hx; refine key2 ?_ ?_ ?_ ?_ ?_ ?_ ?_ <;> first | (rw [hq]; unfold Op.equalIn; rw [pureRun_bind, pureRun_underlying, hu]; rfl) | simp)
            | (obtain ⟨a', l', s', rfl⟩ := sli hx; cases (vr_flat rfl).1 hy; refine key2 ?_ ?_ ?_ ?_ ?_ ?_ ?_ <;> first | (rw [hq]; unfold Op.equalIn; rw [pureRun_bind, pureRun_underlying, hu]; rfl) | simp)
            | (obtain ⟨a', l', s', rfl⟩ := sli hy; cases (vr_flat rfl).1 hx; refine key2 ?_ ?_ ?_ ?_ ?_ ?_ ?_ <;> first | (rw [hq]; unfold Op.equalIn; rw [pureRun_bind, pureRun_underlying, hu]; rfl) | simp)
            | (obtain ⟨a', b', rfl, _⟩ := vr_func.1 hx; cases (vr_flat rfl).1 hy; refine key2 ?_ ?_ ?_ ?_ ?_ ?_ ?_ <;> first | (rw [hq]; unfold Op.equalIn; rw [pureRun_bind, pureRun_underlying, hu]; rfl) | simp)
            | (obtain ⟨a', b', rfl, _⟩ := vr_func.1 hy; cases (vr_flat rfl).1 hx; refine key2 ?_ ?_ ?_ ?_ ?_ ?_ ?_ <;> first | (rw [hq]; unfold Op.equalIn; rw [pureRun_bind, pureRun_underlying, hu]; rfl) | simp)
            | (obtain ⟨v', rfl, _⟩ := vr_iface.1 hx; cases (vr_flat rfl).1 hy; refine key2 ?_ ?_ ?_ ?_ ?_ ?_ ?_ <;> first | (rw [hq]; unfold Op.equalIn; rw [pureRun_bind, pureRun_underlying, hu]; rfl) | simp)
            | (obtain ⟨v', rfl, _⟩ := vr_iface.1 hy; cases (vr_flat rfl).1 hx; refine key2 ?_ ?_ ?_ ?_ ?_ ?_ ?_ <;> first | (rw [hq]; unfold Op.equalIn; rw [pureRun_bind, pureRun_underlying, hu]; rfl) | simp)
            | (obtain ⟨b, base, ext, _, rfl⟩ := vr_map.1 hx; cases (vr_flat rfl).1 hy; refine key2 ?_ ?_ ?_ ?_ ?_ ?_ ?_ <;> first | (rw [hq]; unfold Op.equalIn; rw [pureRun_bind, pureRun_underlying, hu]; rfl) | simp)
            | (obtain ⟨b, base, ext, _, rfl⟩ := vr_map.1 hy; cases (vr_flat rfl).1 hx; refine key2 ?_ ?_ ?_ ?_ ?_ ?_ ?_ <;> first | (rw [hq]; unfold Op.equalIn; rw [pureRun_bind, pureRun_underlying, hu]; rfl) | simp))
    · cases h
end Go.AM
