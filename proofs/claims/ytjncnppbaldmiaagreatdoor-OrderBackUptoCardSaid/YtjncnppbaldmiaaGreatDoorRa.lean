/- The evaluator's operations beside the model's: copy, len, conversions; each operation. No condition. -/
import Derived.RangeFuncLeaves
import Derived.OrdersIn
import Derived.Below
import Derived.Laws.Sem
import Derived.Laws.World
import Derived.Laws.Cells
import Derived.Laws.Entries
import Derived.Laws.CopyRow
import Derived.Laws.AppendOwn
import Derived.IntWalk
import Derived.MapKept
namespace Go.Proofs.YtjncnppbaldmiaaGreatDoor
section
namespace Ex
inductive Tr (α : Type) where
  | leaf
  | node (v : Option α) (l r : Tr α)
def Tr.get {α : Type} : Tr α → Nat → Option α
  | .leaf, _ => none
  | .node v l r, n => cond (Nat.beq n 0) v (cond (Nat.beq (n % 2) 1) (l.get (n / 2)) (r.get (n / 2 - 1)))
def Tr.set {α : Type} (x : Option α) : Nat → Tr α → Nat → Tr α
  | 0, t, _ => t
  | f + 1, .leaf, n => cond (Nat.beq n 0) (.node x .leaf .leaf) (cond (Nat.beq (n % 2) 1) (.node none (Tr.set x f .leaf (n / 2)) .leaf) (.node none .leaf (Tr.set x f .leaf (n / 2 - 1))))
  | f + 1, .node v l r, n => cond (Nat.beq n 0) (.node x l r) (cond (Nat.beq (n % 2) 1) (.node v (Tr.set x f l (n / 2)) r) (.node v l (Tr.set x f r (n / 2 - 1))))
def Tr.put {α : Type} (t : Tr α) (n : Nat) (x : Option α) : Tr α := Tr.set x (n + 1) t n

abbrev TS := Tr Value
inductive AO where
  | cells (c : List Value) (elem : TypeId) (fr : Bool)
  | map (es : List MapEntry) (clock : Nat)
  | bag (ks : List Value)
  | mapIter (m : Option Nat) (since : Nat) (seen : List Nat) (stepped : Nat)
  | strIter (s : ByteArray) (pos : Nat)
  | loop (st : LoopState) (pending : Option Code) (nt : Nat) (ts : TS) (params : List Tmp) (assign body : Code) (defers : Nat)
  | dfr
/-- Blocks; the next number; which ones were written. -/
structure Hp where
  m : Tr AO
  c : Nat
  wl : List Nat
def addW (b : Nat) (l : List Nat) : List Nat := cond (l.elem b) l (b :: l)
def Hp.new (h : Hp) (o : AO) : Hp := { h with m := h.m.put h.c (some o), c := h.c + 1 }
def Hp.upd (ro : Nat) (h : Hp) (b : Nat) (o : Option AO) : Option Hp :=
  cond (Nat.ble ro b) (some { m := h.m.put b o, c := h.c, wl := addW b h.wl }) none

/-- A value without an address in it. -/
def closedV : Nat → Value → Bool
  | _, .bool _ | _, .int .. | _, .string _ | _, .nilFunc | _, .nilIface | _, .pointer none | _, .map none | _, .slice none 0 0 => true
  | n + 1, .agg cs => cs.toList.all (closedV n)
  | n + 1, .tuple cs => cs.toList.all (closedV n)
  | n + 1, .iface _ v => closedV n v
  | _, _ => false
def closed (v : Value) : Bool := closedV 4 v
def scalar : Value → Bool
  | .agg _ | .tuple _ => false
  | _ => true

/-- The value of a computation that touches no memory. -/
def val? {α : Type} (P : Program) : Sem α → Option α
  | .pure a => some a
  | .program k => val? P (k P)
  | .mark _ k => val? P k
  | _ => none

/-- .. and bears no address. -/
def cval? (P : Program) (s : Sem Value) : Option Value :=
  match val? P s with
  | some v => if closed v then some v else none
  | none => none

def evO (P : Program) (ts : TS) : Operand → Option Value
  | .tmp t => ts.get t
  | .const v => cond (closed v) (some v) none
  | .global g => cond (Nat.ble (g + 1) P.globals.size) (some (.pointer (some ⟨g, 0, none⟩))) none
  | .func f => some (.func (.func f) #[] #[])
def evAll (P : Program) (ts : TS) : List Operand → Option (List Value)
  | [] => some []
  | x :: xs => do
    let v ← evO P ts x
    let vs ← evAll P ts xs
    some (v :: vs)

def sz (P : Program) (t : TypeId) : Option Nat := (P.info? t).map (·.size)
def ldAt (h : Hp) (b off n : Nat) : Option (List Value) :=
  match h.m.get b with
  | some (.cells c _ _) => let l := (c.drop off).take n; cond (Nat.beq l.length n) (some l) none
  | _ => none
def stAt (ro : Nat) (h : Hp) (b off : Nat) (vs : List Value) : Option Hp :=
  match h.m.get b with
  | some (.cells c e false) =>
    cond (Nat.ble (off + vs.length) c.length && vs.all scalar) (h.upd ro b (some (.cells (c.take off ++ vs ++ c.drop (off + vs.length)) e false))) none
  | _ => none
def aggT (P : Program) (t : TypeId) : Option Bool :=
  match P.underlying t with
  | some (.struct _) | some (.array _ _) => some true
  | some _ => some false
  | none => none
def aload (P : Program) (t : TypeId) (h : Hp) : Value → Option Value
  | .pointer (some ⟨b, off, none⟩) => do
    if (← aggT P t) then
      let n ← sz P t
      let l ← ldAt h b off n
      some (.agg l.toArray)
    else
      match ← ldAt h b off 1 with
      | [v] => some v
      | _ => none
  | _ => none
def astore (P : Program) (ro : Nat) (t : TypeId) (h : Hp) (a v : Value) : Option Hp :=
  match a with
  | .pointer (some ⟨b, off, none⟩) => do
    let n ← sz P t
    let vs := v.cells.toList
    if vs.length = n then (if n = 0 then some h else stAt ro h b off vs) else none
  | _ => none
/-- A new block with the zero of a type. -/
def zeroCells? (P : Program) (t : TypeId) : Option (List Value) := do
  let i ← P.info? t
  let z ← i.zero
  let l := z.cells.toList
  if l.all closed && l.length = i.size then some l else none
def ptr (b off : Nat) : Value := .pointer (some ⟨b, off, none⟩)
def asI : Value → Option Int
  | .int _ n => some n
  | _ => none
def rep {α : Type} (l : List α) : Nat → List α
  | 0 => []
  | n + 1 => l ++ rep l n

/-- Slices bear 2 * cap where cap is the cap, 2 * cap + 1 where it is at least cap. -/
def sbound (y : Nat) : Option Value → (d : Nat) → Option Nat
  | none, d => some d
  | some (.int _ i), _ => if 0 ≤ i ∧ i ≤ y then some i.toNat else none
  | some _, _ => none
def elemIs (h : Hp) (b : Nat) (e : TypeId) : Bool :=
  match h.m.get b with
  | some (.cells _ t _) => t == e
  | _ => false
def aslice (P : Program) (h : Hp) (t : TypeId) (x : Value) (lo hi mx : Option Value) : Option Value := do
  match ← P.underlying t, x with
  | .array n elem, .pointer (some ⟨b, off, none⟩) =>
    let m ← sbound n mx n
    let h ← sbound m hi n
    let l ← sbound h lo 0
    let size ← sz P elem
    if mx.isSome && hi.isNone then none else
    some (.slice (some (if m = l then ⟨b, off, none⟩ else ⟨b, off + l * size, none⟩)) (h - l) (2 * (m - l)))
  | .slice elem, .slice (some ⟨b, off, none⟩) len c =>
    let cap := c / 2
    let unk := c % 2
    let m ← sbound cap mx cap
    let hh ← sbound m hi len
    let l ← sbound hh lo 0
    let size ← sz P elem
    if mx.isSome && hi.isNone then none else
    if unk = 1 && (cap = 0 || !elemIs h b elem) then none else
    let u := if mx.isSome then 0 else unk
    some (.slice (some (if m = l then ⟨b, off, none⟩ else ⟨b, off + l * size, none⟩)) (hh - l) (2 * (m - l) + u))
  | .slice elem, .slice none 0 0 =>
    let m ← sbound 0 mx 0
    let h ← sbound m hi 0
    let _ ← sbound h lo 0
    let _ ← sz P elem
    if mx.isSome && hi.isNone then none else
    some (.slice none 0 0)
  | _, x => do
    if closed x && (lo.elim true closed) && (hi.elim true closed) && (mx.elim true closed) then cval? P (Instr.sliceAt t x lo hi mx) else none
def aindexAddr (P : Program) (t : TypeId) (x ix : Value) : Option Value := do
  let i ← asI ix
  match ← P.underlying t, x with
  | .array len elem, .pointer (some ⟨b, off, none⟩) | .slice elem, .slice (some ⟨b, off, none⟩) len _ =>
    let s ← sz P elem
    if 0 ≤ i ∧ i < len then some (ptr b (off + i.toNat * s)) else none
  | _, _ => none
def afieldAddr (P : Program) (s : TypeId) (x : Value) (f : Nat) : Option Value := do
  match ← P.underlying s, x with
  | .struct fields, .pointer (some ⟨b, off, none⟩) =>
    let f ← fields[f]?
    let n ← sz P f.type
    if n = 0 then none else some (ptr b (off + f.offset))
  | _, _ => none
def apart (P : Program) (t : TypeId) (cs : List Value) (off : Nat) : Option Value := do
  if (← aggT P t) then
    let n ← sz P t
    some (.agg ((cs.drop off).take n).toArray)
  else cs[off]?
def afield (P : Program) (t : TypeId) (x : Value) (f : Nat) : Option Value := do
  match ← P.underlying t, x with
  | .struct fields, .agg cs =>
    let f ← fields[f]?
    apart P f.type cs.toList f.offset
  | _, _ => none
def aindex (P : Program) (t : TypeId) (x ix : Value) : Option Value := do
  let i ← asI ix
  match ← P.underlying t, x with
  | .array len elem, .agg cs =>
    let s ← sz P elem
    if 0 ≤ i ∧ i < len then apart P elem cs.toList (i.toNat * s) else none
  | .string, .string s => cval? P (Instr.index t (.string s) ix)
  | _, _ => none

/-- Are two values one? Of addresses: of blocks that are there. -/
def aeq (P : Program) (t : TypeId) (h : Hp) (x y : Value) : Option Bool := do
  match ← P.underlying t, x, y with
  | .pointer _, .pointer none, .pointer b => some b.isNone
  | .pointer _, .pointer (some _), .pointer none => some false
  | .pointer e, .pointer (some ⟨b, o, none⟩), .pointer (some ⟨b', o', none⟩) =>
    let s ← sz P e
    if s = 0 then none else
    if b = b' then some (o == o') else
    match h.m.get b, h.m.get b' with
    | some (.cells _ _ false), some (.cells _ _ false) => some false
    | _, _ => none
  | .slice _, .slice none 0 0, .slice (some _) _ _ | .slice _, .slice (some _) _ _, .slice none 0 0 => some false
  | .map _ _, .map none, .map (some _) | .map _ _, .map (some _), .map none => some false
  | .func _ _ _, .nilFunc, .func _ _ _ | .func _ _ _, .func _ _ _, .nilFunc => some false
  | .interface _, .nilIface, .iface _ _ | .interface _, .iface _ _, .nilIface => some false
  | _, _, _ => none
def abin (P : Program) (op : BinOp) (t : TypeId) (x y : Operand) (h : Hp) (a b : Value) : Option Value :=
  if closed a && closed b then cval? P (do eqGuard op t x y a b; binOp op t a b) else
  match op with
  | .eql => (aeq P t h a b).map .bool
  | .neq => (aeq P t h a b).map fun e => .bool !e
  | _ => none

def findE (P : Program) (kt : TypeId) (h : Hp) (k : Value) : List MapEntry → Nat → Option (Option (Nat × Value))
  | [], _ => some none
  | e :: es, i => do
    let eq ← (if closed k && closed e.key then val? P (Op.equal kt k e.key) else aeq P kt h k e.key)
    if eq then some (some (i, e.val)) else findE P kt h k es (i + 1)
def bagE (k : Value) : MapEntry := { key := k, val := .bool true, born := 0 }
def isT : Value → Bool
  | .bool b => b
  | _ => false
def keyOk (P : Program) (t : TypeId) : Bool :=
  match P.underlying t with
  | some .string | some (.int _) | some (.pointer _) | some .bool => true
  | _ => false
def mapEs (h : Hp) : Value → Option (List MapEntry)
  | .map none => some []
  | .map (some r) => match h.m.get r with
    | some (.map es _) => some es
    | _ => none
  | _ => none
def zeroOf (P : Program) (t : TypeId) : Option Value :=
  match P.info? t with
  | some i => match i.zero with
    | some z => if closed z then some z else none
    | none => none
  | none => none
def foundV (P : Program) (et : TypeId) : Option (Nat × Value) → Option (Value × Bool)
  | some (_, v) => some (v, true)
  | none => match zeroOf P et with
    | some z => some (z, false)
    | none => none
def alookup (P : Program) (t : TypeId) (h : Hp) (m k : Value) (ok : Bool) : Option Value :=
  match P.underlying t with
  | some (.map kt et) =>
    if keyOk P kt then
      match mapEs h m with
      | some es => match findE P kt h k es 0 with
        | some r => match foundV P et r with
          | some (v, b) => some (if ok then .tuple #[v, .bool b] else v)
          | none => none
        | none => none
      | none => none
    else none
  | _ => none
def aupdate (P : Program) (ro : Nat) (t : TypeId) (h : Hp) (m k v : Value) : Option Hp :=
  match P.underlying t with
  | some (.map kt _) =>
    if keyOk P kt then
      match m with
      | .map (some r) => match h.m.get r with
        | some (.map es clock) => match findE P kt h k es 0 with
          | some (some (i, _)) => h.upd ro r (some (.map (es.modify i fun e => { e with val := v }) clock))
          | some none => h.upd ro r (some (.map (es ++ [{ key := k, val := v, born := clock }]) (clock + 1)))
          | none => none
        | some (.bag ks) => if isT v then match findE P kt h k (ks.map bagE) 0 with
          | some none => h.upd ro r (some (.bag (ks ++ [k])))
          | _ => none
          else none
        | _ => none
      | _ => none
    else none
  | _ => none
def adelete (P : Program) (ro : Nat) (t : TypeId) (h : Hp) (m k : Value) : Option Hp :=
  match P.underlying t with
  | some (.map kt _) =>
    if keyOk P kt then
      match m with
      | .map none => some h
      | .map (some r) => match h.m.get r with
        | some (.map es clock) => match findE P kt h k es 0 with
          | some (some (i, _)) => h.upd ro r (some (.map (es.eraseIdx i) clock))
          | some none => h.upd ro r (some (.map es clock))
          | none => none
        | _ => none
      | _ => none
    else none
  | _ => none
def arange (P : Program) (t : TypeId) (h : Hp) (x : Value) : Option (Value × Hp) :=
  match P.underlying t, x with
  | some .string, .string s => some (ptr h.c 0, h.new (.strIter s 0))
  | some (.map _ _), .map none => some (ptr h.c 0, h.new (.mapIter none 0 [] 0))
  | some (.map _ _), .map (some r) => match h.m.get r with
    | some (.map _ clock) => some (ptr h.c 0, h.new (.mapIter (some r) clock [] clock))
    | _ => none
  | _, _ => none
/-- The one entry that a range over a map may meet next; none: it is over. -/
def nextE (es : List MapEntry) (since : Nat) (seen : List Nat) (last : Nat) : Option (Option MapEntry) :=
  if !seen.isEmpty && !es.isEmpty && es.all (·.born ≥ last) then none else
  match (es.filter fun e => !seen.contains e.born).filter (·.born < since), (es.filter fun e => !seen.contains e.born).filter (·.born ≥ since) with
  | [], [] => some none
  | [e], [] => some (some e)
  | _, _ => none
def anext (ro : Nat) (h : Hp) (iter : Value) (isString : Bool) : Option (Value × Hp) :=
  match iter with
  | .pointer (some ⟨r, 0, none⟩) =>
    match h.m.get r, isString with
    | some (.strIter s pos), true =>
      if pos < s.size then
        match h.upd ro r (some (.strIter s (pos + (Utf8.decode s pos).2))) with
        | some h' => some (.tuple #[.bool true, goInt pos, .int .i32 (Utf8.decode s pos).1], h')
        | none => none
      else some (.tuple #[.bool false], h)
    | some (.mapIter none _ _ _), false => some (.tuple #[.bool false], h)
    | some (.mapIter (some m) since seen last), false =>
      match h.m.get m with
      | some (.map es clock) =>
        match nextE es since seen last with
        | some none => some (.tuple #[.bool false], h)
        | some (some e) => match h.upd ro r (some (.mapIter (some m) since (seen ++ [e.born]) clock)) with
          | some h' => some (.tuple #[.bool true, e.key, e.val], h')
          | none => none
        | none => none
      | _ => none
    | _, _ => none
  | _ => none
def aentry (h : Hp) (iter : Value) : Option Value :=
  match iter with
  | .pointer (some ⟨r, 0, none⟩) =>
    match h.m.get r with
    | some (.mapIter (some m) _ seen stepped) =>
      match seen.getLast?, h.m.get m with
      | some stamp, some (.map es clock) =>
        if clock = stepped then
          match es.find? (·.born == stamp) with
          | some e => some (.tuple #[e.key, e.val])
          | none => none
        else none
      | _, _ => none
    | _ => none
  | _ => none

def amakeSlice (P : Program) (t : TypeId) (h : Hp) (len cap : Value) : Option (Value × Hp) := do
  let .slice elem ← P.underlying t | none
  let l ← asI len
  let c ← asI cap
  let i ← P.info? elem
  let z ← zeroCells? P elem
  if 0 ≤ l ∧ l ≤ c ∧ c < 2 ^ 48 ∧ i.bytes * c ≤ 2 ^ 47 then
    some (.slice (some ⟨h.c, 0, none⟩) l.toNat (2 * c.toNat), h.new (.cells (rep z c.toNat) elem false))
  else none
def placesOf (P : Program) : List Field → Option (List (Nat × Nat))
  | [] => some []
  | f :: fs => match sz P f.type, placesOf P fs with
    | some n, some l => some ((f.offset, n) :: l)
    | _, _ => none
def abuild (P : Program) (t : TypeId) (parts : List (Nat × Value)) : Option Value :=
  match zeroCells? P t, P.underlying t with
  | some zero, some (.struct fields) =>
    match placesOf P fields.toList with
    | some places => (Instr.fill (places.toArray[·]?) zero.toArray parts).map .agg
    | none => none
  | some zero, some (.array _ elem) =>
    match sz P elem with
    | some size => (Instr.fill (fun i => some (i * size, size)) zero.toArray parts).map .agg
    | none => none
  | _, _ => none
def abuildSlice (P : Program) (t : TypeId) (len : Nat) (parts : List (Nat × Value)) (h : Hp) : Option (Value × Hp) :=
  match P.underlying t with
  | some (.slice elem) =>
    match sz P elem, zeroCells? P elem with
    | some size, some z =>
      if len * size > 2 ^ 24 then none else
      match Instr.fill (fun i => some (i * size, size)) (rep z len).toArray parts with
      | some cs => some (.slice (some ⟨h.c, 0, none⟩) len (2 * len), h.new (.cells cs.toList elem false))
      | none => none
    | _, _ => none
  | _ => none

/-- What a slice or a string holds in its first n places. -/
def firsts (h : Hp) (size n : Nat) : Value → Option (List Value)
  | .slice (some ⟨b, off, none⟩) _ _ => if n * size = 0 then some [] else ldAt h b off (n * size)
  | .slice none 0 0 => if n = 0 then some [] else none
  | .string s => some ((s.data.toList.take n).map fun b => .int .u8 b.toNat)
  | _ => none
def alen : Value → Option Nat
  | .slice _ n _ => some n
  | .string s => some s.size
  | _ => none
/-- .. what comes to stand behind a slice is no append of a make. -/
def plainSrc (P : Program) : Option TypeId → Bool
  | some xt => match P.underlying xt with
    | some (.int _) => false
    | some _ => true
    | none => false
  | none => true
def aappend (P : Program) (ro : Nat) (argTypes : List TypeId) (h : Hp) (s x : Value) : Option (Value × Hp) :=
  match argTypes[0]? with
  | some sT => match P.underlying sT with
    | some (.slice elem) => match P.info? elem, alen x, plainSrc P argTypes[1]? with
      | some info, some n, true =>
        match firsts h info.size n x, zeroCells? P elem with
        | some new, some _ =>
          if new.all scalar && new.length == n * info.size then
            match s with
            | .slice none 0 0 =>
              if n = 0 then some (s, h) else
              if info.bytes = 0 ∨ (2 * n + 768) * info.bytes > 2 ^ 47 then none else
              some (.slice (some ⟨h.c, 0, none⟩) n (2 * n + 1), h.new (.cells new elem false))
            | .slice (some ⟨b, off, none⟩) len c =>
              if n = 0 then some (s, h) else
              if len + n ≤ c / 2 then
                match stAt ro h b (off + len * info.size) new with
                | some h' => some (.slice (some ⟨b, off, none⟩) (len + n) c, h')
                | none => none
              else
              if info.bytes = 0 ∨ (2 * (len + n) + 768) * info.bytes > 2 ^ 47 then none else
              match firsts h info.size len s with
              | some old =>
                if c % 2 = 0 then
                  some (.slice (some ⟨h.c, 0, none⟩) (len + n) (2 * (len + n) + 1), h.new (.cells (old ++ new) elem false))
                else
                  match h.m.get b with
                  | some (.cells _ e false) =>
                    if off = 0 ∧ 0 < c / 2 ∧ e = elem ∧ old.all scalar = true then
                      match h.upd ro b none with
                      | some h' => some (.slice (some ⟨h.c, 0, none⟩) (len + n) (2 * (len + n) + 1), h'.new (.cells (old ++ new) elem false))
                      | none => none
                    else none
                  | _ => none
              | none => none
            | _ => none
          else none
        | _, _ => none
      | _, _, _ => none
    | _ => none
  | none => none
def acopy (P : Program) (ro : Nat) (argTypes : List TypeId) (h : Hp) (dst src : Value) : Option (Value × Hp) :=
  match argTypes[0]? with
  | some dT => match P.underlying dT with
    | some (.slice elem) => match sz P elem, dst, alen src with
      | some size, .slice (some ⟨b, off, none⟩) dLen _, some sl =>
        match firsts h size (Nat.min sl dLen) src with
        | some cells =>
          if cells.length = 0 then some (goInt (Nat.min sl dLen), h) else
          match stAt ro h b off cells with
          | some h' => some (goInt (Nat.min sl dLen), h')
          | none => none
        | none => none
      | some _, .slice none 0 0, some _ => some (goInt 0, h)
      | _, _, _ => none
    | _ => none
  | none => none
def alenB (P : Program) (t : TypeId) (h : Hp) (x : Value) : Option Value := do
  match ← P.underlying t, x with
  | .string, .string s => some (goInt s.size)
  | .array n _, _ => some (goInt n)
  | .pointer arr, _ =>
    let .array n _ ← P.underlying arr | none
    some (goInt n)
  | .slice _, .slice _ n _ => some (goInt n)
  | .map _ _, .map none => some (goInt 0)
  | .map _ _, .map (some r) => match h.m.get r with
    | some (.map es _) => some (goInt es.length)
    | _ => none
  | _, _ => none
def toStr (cs : List Value) : Option ByteArray :=
  cs.foldl (fun s c => match s, c with | some s, .int .u8 n => some (s.push (UInt8.ofNat n.toNat)) | _, _ => none) (some ByteArray.empty)
def aconvert (P : Program) (src dst : TypeId) (h : Hp) (x : Value) : Option (Value × Hp) := do
  match ← P.underlying src, ← P.underlying dst, x with
  | _, .int k, .int _ n => some (.int k (k.wrap n), h)
  | _, .string, .string s => some (.string s, h)
  | _, .slice e, .string s =>
    match ← P.underlying e, sz P e with
    | .int .u8, some 1 =>
      some (.slice (some ⟨h.c, 0, none⟩) s.size (2 * s.size + 1), h.new (.cells (s.data.toList.map fun b => .int .u8 b.toNat) e true))
    | _, _ => none
  | .slice e, .string, .slice none 0 0 =>
    match ← P.underlying e with
    | .int .u8 => some (.string .empty, h)
    | _ => none
  | .slice e, .string, .slice (some ⟨b, off, none⟩) len _ =>
    match ← P.underlying e with
    | .int .u8 => do
      let l ← (if len = 0 then some [] else ldAt h b off len)
      let s ← toStr l
      some (.string s, h)
    | _ => none
  | _, _, _ => none
def aarrayAt (P : Program) (arr : TypeId) (x : Value) : Option Value := do
  let .array n _ ← P.underlying arr | none
  let .slice (some ⟨b, off, none⟩) len _ := x | none
  if n = 0 then none else
  if len < n then none else some (ptr b off)
def anilCheck : Value → Option Value
  | .pointer (some a) => some (.pointer (some a))
  | .iface t v => some (.iface t v)
  | .func (.func f) first captured => some (.func (.func f) first captured)
  | .map r => some (.map r)
  | _ => none

def aassert (P : Program) (x : Value) (asserted : TypeId) (ok : Bool) : Option Value := do
  match ← P.underlying asserted, x with
  | .interface _, _ => none
  | _, .iface t v => if t = asserted then some (if ok then .tuple #[v, .bool true] else v) else none
  | _, _ => none
/-- What is known of functions: of those without a body, and of some with one. -/
abbrev Hook := FuncId → List Value → Hp → Option (Value × Hp)
inductive Out where
  | val (v : Value) (h : Hp)
  | enter (f : FuncId) (args : List Value) (h : Hp)
  | round (l : Nat) (args : List Value) (h : Hp)
def valH : Option Value → Hp → Option Out
  | some v, h => some (.val v h)
  | none, _ => none
def pairH : Option (Value × Hp) → Option Out
  | some (v, h) => some (.val v h)
  | none => none
def skipH : Option Hp → Option Out
  | some h => some (.val undef h)
  | none => none
def acallV (P : Program) (X : Hook) (h : Hp) (f : Value) (args : List Value) : Option Out :=
  match f with
  | .func (.func f) first captured =>
    let all := first.toList ++ args ++ captured.toList
    match P.funcs[f]? with
    | some fn => match fn.body with
      | some _ => some (.enter f all h)
      | none => pairH (X f all h)
    | none => none
  | .func (.yield l) first _ => some (.round l (first.toList ++ args) h)
  | _ => none
def isU8 (P : Program) (e : TypeId) : Bool :=
  match P.underlying e with
  | some (.int .u8) => true
  | _ => false
/-- A string out of bytes: their block is struck. -/
def aunsafeString (P : Program) (ro : Nat) (argTypes : List TypeId) (h : Hp) (p n : Value) : Option (Value × Hp) :=
  match argTypes[0]?, asI n with
  | some pt, some n =>
    match P.underlying pt, p with
    | some (.pointer el), .pointer (some ⟨b, off, none⟩) =>
      if 0 < n ∧ n < 2 ^ 48 then
        match h.m.get b with
        | some (.cells _ e _) =>
          if e = el ∧ sz P e = some 1 ∧ isU8 P e = true ∧ 0 < P.depth then
            match (ldAt h b off n.toNat).bind toStr, h.upd ro b none with
            | some s, some h' => some (.string s, h')
            | _, _ => none
          else none
        | _ => none
      else none
    | _, _ => none
  | _, _ => none
def abuiltin (P : Program) (ro : Nat) (b : Builtin) (argTypes : List TypeId) (t : TypeId) (h : Hp) (args : List Value) : Option Out :=
  match b, args with
  | .append, [s, x] => pairH (aappend P ro argTypes h s x)
  | .copy, [d, s] => pairH (acopy P ro argTypes h d s)
  | .unsafeString, [p, n] => pairH (aunsafeString P ro argTypes h p n)
  | .delete, [m, k] => do
    let mt ← argTypes[0]?
    let h' ← adelete P ro mt h m k
    some (.val (.tuple #[]) h')
  | .len, [x] => do
    let t ← argTypes[0]?
    valH (alenB P t h x) h
  | .min, args => if args.all closed then valH (cval? P (Builtin.min_ argTypes.toArray t args.toArray)) h else none
  | .max, args => if args.all closed then valH (cval? P (Builtin.max_ argTypes.toArray t args.toArray)) h else none
  | _, _ => none
def evParts (P : Program) (ts : TS) : List (Nat × Operand) → Option (List (Nat × Value))
  | [] => some []
  | (i, x) :: xs => do
    let v ← evO P ts x
    let vs ← evParts P ts xs
    some ((i, v) :: vs)
def evOpt (P : Program) (ts : TS) : Option Operand → Option (Option Value)
  | none => some none
  | some x => (evO P ts x).map some
def fnOk : Fn → Bool
  | .func _ => true
  | _ => false
def kindN : IntKind → Nat
  | .i64 => 1
  | .u8 => 2
  | .u32 => 3
  | _ => 0
def topN : IntKind → Nat
  | .i64 => 9223372036854775807
  | .u8 => 255
  | .u32 => 4294967295
  | _ => 0
/-- Numbers from 0 on, of three kinds, quickly. -/
def fastI (op : BinOp) (k : IntKind) (a b : Nat) : Option Value :=
  match op with
  | .add => cond (Nat.ble (a + b) (topN k)) (some (.int k (.ofNat (a + b)))) none
  | .sub => cond (Nat.ble b a && Nat.ble a (topN k)) (some (.int k (.ofNat (a - b)))) none
  | .eql => some (.bool (Nat.beq a b))
  | .neq => some (.bool (!(Nat.beq a b)))
  | .lss => some (.bool (Nat.ble (a + 1) b))
  | .leq => some (.bool (Nat.ble a b))
  | .gtr => some (.bool (Nat.ble (b + 1) a))
  | .geq => some (.bool (Nat.ble b a))
  | _ => none
def fastV (op : BinOp) : Value → Value → Option Value
  | .int k (.ofNat a), .int k' (.ofNat b) => cond (Nat.beq (kindN k) 0) none (cond (Nat.beq (kindN k) (kindN k')) (fastI op k a b) none)
  | _, _ => none
def fastBin (op : BinOp) (x y : Option Value) (h : Hp) : Option Out :=
  match x, y with
  | some a, some b => match fastV op a b with
    | some v => some (.val v h)
    | none => none
  | _, _ => none
/-- The operations that come most often, quickly. -/
def fastOp (P : Program) (ts : TS) (h : Hp) : Op → Option Out
  | .move x => valH (evO P ts x) h
  | .assign x => valH (evO P ts x) h
  | .binOp op _ x y _ => fastBin op (evO P ts x) (evO P ts y) h
  | _ => none
def aopS (P : Program) (ro : Nat) (X : Hook) (ts : TS) (h : Hp) (o : Oper) : Option Out :=
  match o.op with
  | .move x | .assign x => valH (evO P ts x) h
  | .pick c a b => match evO P ts c with
    | some (.bool t) => valH (evO P ts (if t then a else b)) h
    | _ => none
  | .alloc e => match zeroCells? P e with
    | some z => some (.val (ptr h.c 0) (h.new (.cells z e false)))
    | none => none
  | .box e x => match evO P ts x, sz P e with
    | some v, some _ => some (.val (ptr h.c 0) (h.new (.cells v.cells.toList e false)))
    | _, _ => none
  | .build t ps => match evParts P ts ps.toList with
    | some l => valH (abuild P t l) h
    | none => none
  | .buildSlice t n ps => match evParts P ts ps.toList with
    | some l => pairH (abuildSlice P t n l h)
    | none => none
  | .load t a => match evO P ts a with
    | some a => valH (aload P t h a) h
    | none => none
  | .store t a x => match evO P ts a, evO P ts x with
    | some a, some v => skipH (astore P ro t h a v)
    | _, _ => none
  | .nilCheck x => match evO P ts x with
    | some v => valH (anilCheck v) h
    | none => none
  | .binOp op t x y _ => match evO P ts x, evO P ts y with
    | some a, some b => valH (abin P op t x y h a b) h
    | _, _ => none
  | .unOp op _ x => match evO P ts x with
    | some v => if closed v then valH (cval? P (Op.unary op v)) h else none
    | none => none
  | .convert s d x => match evO P ts x with
    | some v => pairH (aconvert P s d h v)
    | none => none
  | .sliceToArrayPointer arr x => match evO P ts x with
    | some v => valH (aarrayAt P arr v) h
    | none => none
  | .makeInterface t x => match evO P ts x, P.underlying t with
    | some _, some (.interface _) => none
    | some v, some _ => some (.val (.iface t v) h)
    | _, _ => none
  | .makeFunc fn first captured => match evAll P ts first.toList, evAll P ts captured.toList with
    | some a, some b => if fnOk fn then some (.val (.func fn a.toArray b.toArray) h) else none
    | _, _ => none
  | .makeMap t r => match P.underlying t, evOpt P ts r with
    | some (.map _ _), some none => some (.val (.map (some h.c)) (h.new (.map [] 0)))
    | some (.map _ _), some (some (.int _ _)) => some (.val (.map (some h.c)) (h.new (.map [] 0)))
    | _, _ => none
  | .makeSlice t l c => match evO P ts l, evO P ts c with
    | some l, some c => pairH (amakeSlice P t h l c)
    | _, _ => none
  | .slice t x lo hi mx => match evO P ts x, evOpt P ts lo, evOpt P ts hi, evOpt P ts mx with
    | some x, some lo, some hi, some mx => valH (aslice P h t x lo hi mx) h
    | _, _, _, _ => none
  | .fieldAddr s x f => match evO P ts x with
    | some v => valH (afieldAddr P s v f) h
    | none => none
  | .field t x f => match evO P ts x with
    | some v => valH (afield P t v f) h
    | none => none
  | .indexAddr t x i => match evO P ts x, evO P ts i with
    | some x, some i => valH (aindexAddr P t x i) h
    | _, _ => none
  | .index t x i => match evO P ts x, evO P ts i with
    | some x, some i => valH (aindex P t x i) h
    | _, _ => none
  | .lookup t m k ok => match evO P ts m, evO P ts k with
    | some m, some k => valH (alookup P t h m k ok) h
    | _, _ => none
  | .mapUpdate t m k v | .insert t m k v => match evO P ts m, evO P ts k, evO P ts v with
    | some m, some k, some v => skipH (aupdate P ro t h m k v)
    | _, _, _ => none
  | .range t x => match evO P ts x with
    | some v => pairH (arange P t h v)
    | none => none
  | .next it s => match evO P ts it with
    | some v => pairH (anext ro h v s)
    | none => none
  | .entry it => match evO P ts it with
    | some v => valH (aentry h v) h
    | none => none
  | .typeAssert x _ a ok => match evO P ts x with
    | some v => valH (aassert P v a ok) h
    | none => none
  | .extract t i => match evO P ts t with
    | some (.tuple vs) => valH (vs[i]?) h
    | _ => none
  | .call c => match c.callee with
    | .builtin b => match evAll P ts c.args.toList with
      | some args => abuiltin P ro b c.argTypes.toList o.type h args
      | none => none
    | .value f => match evO P ts f, evAll P ts c.args.toList with
      | some f, some args => acallV P X h f args
      | _, _ => none
    | _ => none
  | _ => none
def aop (P : Program) (ro : Nat) (X : Hook) (ts : TS) (h : Hp) (o : Oper) : Option Out :=
  match fastOp P ts h o.op with
  | some r => some r
  | none => aopS P ro X ts h o
theorem kindN_inj {k k' : IntKind} (h0 : kindN k ≠ 0) (h : kindN k = kindN k') : k = k' := by
  cases k <;> cases k' <;> simp_all [kindN]
theorem wrap_top {k : IntKind} {n : Nat} (h : n ≤ topN k) (h0 : kindN k ≠ 0) : k.wrap (n : Int) = (n : Int) := by
  cases k <;> simp only [topN, kindN] at h h0 <;> first | exact absurd rfl h0 | exact IntWalk.i64_in _ (by omega) | exact IntWalk.u8_in _ (by omega) | exact IntWalk.u32_in _ (by omega)
theorem fastI_ok {P : Program} {op : BinOp} {k : IntKind} {a b : Nat} {v : Value} (h0 : kindN k ≠ 0) (h : fastI op k a b = some v) (t : TypeId) (x y : Operand) (hp : Hp) : abin P op t x y hp (.int k (.ofNat a)) (.int k (.ofNat b)) = some v := by
  have hc : closed (.int k (.ofNat a)) = true ∧ closed (.int k (.ofNat b)) = true := ⟨rfl, rfl⟩
  unfold abin
  rw [hc.1, hc.2]
  simp only [Bool.and_self, if_true]
  have key : ∀ u : Value, closed u = true → (∃ s : Sem Value, (do eqGuard op t x y (.int k (.ofNat a)) (.int k (.ofNat b)); binOp op t (.int k (.ofNat a)) (.int k (.ofNat b))) = s ∧ val? P s = some u) → cval? P (do eqGuard op t x y (.int k (.ofNat a)) (.int k (.ofNat b)); binOp op t (.int k (.ofNat a)) (.int k (.ofNat b))) = some u := by
    rintro u hu ⟨s, rfl, hs⟩
    unfold cval?
    rw [hs]
    simp only [hu, if_true]
  cases op <;> simp only [fastI] at h <;> first
    | (cases h; done)
    | (cases hq : Nat.ble (a + b) (topN k) with
       | false => rw [hq] at h; cases h
       | true =>
         rw [hq] at h
         simp only [cond_true, Option.some.injEq] at h
         subst h
         refine key _ rfl ⟨_, rfl, ?_⟩
         simp only [eqGuard, binOp, Op.intArith, ne_eq, not_true_eq_false, if_false]
         have e : ((Int.ofNat a) + (Int.ofNat b) : Int) = ((a + b : Nat) : Int) := rfl
         rw [e, wrap_top (Nat.le_of_ble_eq_true hq) h0]
         rfl)
    | (cases hq : (Nat.ble b a && Nat.ble a (topN k)) with
       | false => rw [hq] at h; cases h
       | true =>
         rw [hq] at h
         simp only [cond_true, Option.some.injEq] at h
         subst h
         refine key _ rfl ⟨_, rfl, ?_⟩
         simp only [eqGuard, binOp, Op.intArith, ne_eq, not_true_eq_false, if_false]
         rw [Bool.and_eq_true] at hq
         have h1 := Nat.le_of_ble_eq_true hq.1
         have h2 := Nat.le_of_ble_eq_true hq.2
         have e : ((Int.ofNat a) - (Int.ofNat b) : Int) = ((a - b : Nat) : Int) := by simp only [Int.ofNat_eq_natCast]; omega
         rw [e, wrap_top (by omega) h0]
         rfl)
    | (simp only [Option.some.injEq] at h
       subst h
       refine key _ rfl ⟨_, rfl, ?_⟩
       simp only [eqGuard, binOp, Op.intCmp, ne_eq, not_true_eq_false, if_false]
       show some _ = some _
       congr 2
       rw [Bool.eq_iff_iff]
       simp
       first
         | done
         | omega
         | (constructor
            · intro h
              cases hq : Nat.beq a b with
              | false => rfl
              | true => exact absurd (congrArg _ (Nat.eq_of_beq_eq_true hq)) h
            · intro h e
              have e2 : a = b := by omega
              rw [e2] at h
              simp at h))
theorem aop_eq : @aop = @aopS := by
  funext P ro X ts h o
  unfold aop
  split
  · rename_i r hr
    symm
    unfold fastOp at hr
    split at hr
    · rename_i x hop; unfold aopS; rw [hop]; exact hr
    · rename_i x hop; unfold aopS; rw [hop]; exact hr
    · rename_i op t x y u hop
      unfold fastBin at hr
      split at hr
      · rename_i a b ha hb
        split at hr
        · rename_i v hv
          unfold aopS
          rw [hop]
          simp only [ha, hb]
          unfold fastV at hv
          split at hv
          · rename_i k n k' n'
            cases hk : Nat.beq (kindN k) 0 with
            | true => rw [hk] at hv; cases hv
            | false =>
              rw [hk] at hv
              cases hk2 : Nat.beq (kindN k) (kindN k') with
              | false => rw [hk2] at hv; cases hv
              | true =>
                rw [hk2] at hv
                have h0 : kindN k ≠ 0 := fun e => by rw [e] at hk; cases hk
                obtain rfl := kindN_inj h0 (Nat.eq_of_beq_eq_true hk2)
                rw [fastI_ok h0 hv]
                cases hr; rfl
          · cases hv
        · cases hr
      · cases hr
    · cases hr
  · rfl

/-! ### Code -/
inductive Ex where
  | normal
  | exit (id : Nat)
  | ret
structure St where
  ts : TS
  dl : List Nat
  h : Hp
def putD (nt : Nat) (ts : TS) (d : Option Tmp) (v : Value) : Option TS :=
  match d with
  | some d => cond (Nat.ble (d + 1) nt) (some (ts.put d (some v))) none
  | none => some ts
/-- Is the operation wanted? -/
def guardB (ops : List Oper) (ts : TS) (o : Oper) : Option Bool :=
  match o.guard with
  | none => some true
  | some (j, want) =>
    match (ops[j]?).bind (·.dst) with
    | none => some false
    | some d => match ts.get d with
      | some (.bool b) => some (b == want)
      | some (.tuple vs) => cond (Nat.beq vs.size 0) (some false) none
      | _ => none

def setParams (nt : Nat) : List Tmp → List Value → TS → Option TS
  | [], [], ts => some ts
  | t :: ps, v :: vs, ts => match putD nt ts (some t) v with
    | some ts' => setParams nt ps vs ts'
    | none => none
  | _, _, _ => none
def putArgs : Nat → List Value → TS → TS
  | _, [], ts => ts
  | i, v :: vs, ts => putArgs (i + 1) vs (ts.put i (some v))
def resOf (P : Program) (ts : TS) (h : Hp) : List ResultVar → Option (List Value)
  | [] => some []
  | .tmp t :: rs => do
    let v ← ts.get t
    let vs ← resOf P ts h rs
    some (v :: vs)
  | .cell a t :: rs => do
    let v ← (ts.get a).bind (aload P t h)
    let vs ← resOf P ts h rs
    some (v :: vs)
def one : List Value → Value
  | [v] => v
  | vs => .tuple vs.toArray
def shut (ro : Nat) : List Nat → Hp → Option Hp
  | [], h => some h
  | r :: rs, h => match h.m.get r with
    | some .dfr => match h.upd ro r none with
      | some h' => shut ro rs h'
      | none => none
    | _ => none

def has (m : Tr AO) (b : Nat) : Bool :=
  match m.get b with
  | some _ => true
  | none => false
/-- Of what a call wrote: what was there ahead of it. -/
def cut (m : Tr AO) (old new : List Nat) : List Nat := new.foldr (fun b l => cond (has m b) (addW b l) l) old
section
variable (P : Program) (ro : Nat) (X : Hook)
variable (ev : Option Nat → Nat → Code → St → Option (Ex × St)) (C : Hook)
def acall (f : FuncId) (args : List Value) (h : Hp) : Option (Value × Hp) :=
  match C f args h with
  | some r => some r
  | none => match P.funcs[f]? with
    | some fn => match fn.body with
      | some code =>
        cond (Nat.ble args.length fn.ntmps)
          (match ev none fn.ntmps code { ts := putArgs 0 args .leaf, dl := [], h } with
           | some (.exit _, _) => none
           | some (_, st) => match shut ro st.dl st.h with
             | some h' => match resOf P st.ts h' fn.results.toList with
               | some vs => some (one vs, { h' with wl := cut h.m h.wl h'.wl })
               | none => none
             | none => none
           | none => none)
          none
      | none => none
    | none => none
def jumpOf : Ex → Option Code
  | .normal => none
  | .ret => some .ret
  | .exit id => some (.exit id)
def around (l : Nat) (args : List Value) (h : Hp) : Option (Value × Hp) :=
  match h.m.get l with
  | some (.loop _ _ nt ts params assign body _) =>
    match setParams nt params args ts with
    | some ts1 => match ev (some l) nt assign { ts := ts1, dl := [], h } with
      | some (.normal, st1) =>
        match st1.h.m.get l, st1.dl with
        | some (.loop .ready pe nt1 tsl ps1 as1 bd1 df1), [] =>
          match st1.h.upd ro l (some (.loop .busy pe nt1 tsl ps1 as1 bd1 df1)) with
          | some h2 => match ev (some l) nt body { ts := st1.ts, dl := [], h := h2 } with
            | some (e, st3) =>
              match st3.h.m.get l with
              | some (.loop _ _ nt3 ts3 ps3 as3 bd3 df3) =>
                match st3.h.upd ro l (some (.loop (if (jumpOf e).isNone then .ready else .done) (jumpOf e) nt3 ts3 ps3 as3 bd3 df3)) with
                | some h4 => some (.bool (jumpOf e).isNone, h4)
                | none => none
              | _ => none
            | none => none
          | none => none
        | _, _ => none
      | _ => none
    | none => none
  | _ => none
def aoper (ops : List Oper) (ts : TS) (h : Hp) (o : Oper) : Option (Value × Hp) :=
  match guardB ops ts o with
  | some true => match aop P ro X ts h o with
    | some (.val v h') => some (v, h')
    | some (.enter f args h') => acall P ro ev C f args h'
    | some (.round l args h') => around ro ev l args h'
    | none => none
  | some false => some (undef, h)
  | none => none
def aops (ops : List Oper) (nt : Nat) : List Oper → St → Option St
  | [], st => some st
  | o :: os, st => match aoper P ro X ev C ops st.ts st.h o with
    | some (v, h') => match putD nt st.ts o.dst v with
      | some ts' => aops ops nt os { ts := ts', dl := st.dl, h := h' }
      | none => none
    | none => none
/-! drawn order -/
/-- What stands ahead of an operation, by the edges that bind. -/
def preOf (pres : List Nat) : List Edge → Option Nat
  | [] => some 0
  | e :: es => match preOf pres es with
    | some q => match e.ground with
      | .textOnly _ | .gcOnly _ => some q
      | _ => match pres[e.on]? with
        | some p => some (Nat.lor (Nat.lor p (2 ^ e.on)) q)
        | none => none
    | none => none
/-- What an operation wrote and made. -/
structure Seg where
  i : Nat
  w : List Nat
  lo : Nat
  hi : Nat
def delL (h : Tr AO) : List Nat → Tr AO
  | [] => h
  | b :: bs => delL (h.put b none) bs
def delR (h : Tr AO) (lo : Nat) : Nat → Tr AO
  | 0 => h
  | n + 1 => delR (h.put lo none) (lo + 1) n
def copyR (src : Tr AO) (dst : Tr AO) (lo : Nat) : Nat → Tr AO
  | 0 => dst
  | n + 1 => copyR src (dst.put lo (src.get lo)) (lo + 1) n
def copyL (src : Tr AO) (dst : Tr AO) : List Nat → Tr AO
  | [] => dst
  | b :: bs => copyL src (dst.put b (src.get b)) bs
def addAll : List Nat → List Nat → List Nat
  | [], l => l
  | b :: bs, l => addAll bs (addW b l)
def hide (pre : Nat) (m : Tr AO) : List Seg → Tr AO
  | [] => m
  | s :: ss => cond (Nat.testBit pre s.i) (hide pre m ss) (hide pre (delR (delL m s.w) s.lo (s.hi - s.lo)) ss)
/-- Slots of operations that stand neither ahead nor behind: unknown. -/
def hideT (j pre : Nat) (ts : TS) : List (Nat × Oper × Nat) → TS
  | [] => ts
  | (k, o, prek) :: ss => match o.dst with
    | some d => cond (Nat.testBit pre k || Nat.testBit prek j || Nat.beq k j) (hideT j pre ts ss) (hideT j pre (ts.put d none) ss)
    | none => hideT j pre ts ss
def presOf : List Oper → List Nat → Option (List Nat)
  | [], pres => some pres
  | o :: os, pres => match preOf pres o.after.toList with
    | some p => presOf os (pres ++ [p])
    | none => none
def zip3 : Nat → List Oper → List Nat → List (Nat × Oper × Nat)
  | i, o :: os, p :: ps => (i, o, p) :: zip3 (i + 1) os ps
  | _, _, _ => []
def dsts : List Oper → List Tmp
  | [] => []
  | o :: os => match o.dst with
    | some d => d :: dsts os
    | none => dsts os
def nodupB : List Nat → Bool
  | [] => true
  | x :: xs => !xs.elem x && nodupB xs
/-- An operation that touches no memory: it is run over none. -/
def pureOp : Op → Bool
  | .move _ | .assign _ | .pick .. | .fieldAddr .. | .indexAddr .. | .field .. | .index .. | .extract .. | .nilCheck _ | .unOp .. | .makeInterface .. | .makeFunc .. | .build .. => true
  | .binOp op .. => match op with
    | .eql | .neq => false
    | _ => true
  | _ => false
/-- An operation that reads memory alone: it is taken late. -/
def lateOp : Op → Bool
  | .load .. | .lookup .. | .convert .. | .binOp .. | .slice .. => true
  | _ => false
def pureMask : Nat → List Oper → Nat
  | _, [] => 0
  | i, o :: os => cond (pureOp o.op) (Nat.lor (2 ^ i) (pureMask (i + 1) os)) (pureMask (i + 1) os)
def within (a b : Nat) : Bool := Nat.beq (Nat.land a b) a
def takeOut (f : Nat × Oper × Nat → Bool) : List (Nat × Oper × Nat) → Option ((Nat × Oper × Nat) × List (Nat × Oper × Nat))
  | [] => none
  | x :: xs => cond (f x) (some (x, xs)) (match takeOut f xs with
    | some (y, ys) => some (y, x :: ys)
    | none => none)
/-- An order that the edges let: what reads is taken late. -/
def sched : Nat → Nat → List (Nat × Oper × Nat) → List (Nat × Oper × Nat)
  | 0, _, l => l
  | n + 1, done, l =>
    match takeOut (fun x => within x.2.2 done && pureOp x.2.1.op) l with
    | some (x, l') => x :: sched n (Nat.lor done (2 ^ x.1)) l'
    | none => match takeOut (fun x => within x.2.2 done && !lateOp x.2.1.op) l with
      | some (x, l') => x :: sched n (Nat.lor done (2 ^ x.1)) l'
      | none => match takeOut (fun x => within x.2.2 done) l with
        | some (x, l') => x :: sched n (Nat.lor done (2 ^ x.1)) l'
        | none => l
def isNil {α : Type} : List α → Bool
  | [] => true
  | _ => false
/-- The memory behind an operation: what it wrote and made is laid over. -/
def over (h' : Hp) (m : Tr AO) (lo : Nat) : Tr AO := copyL h'.m (copyR h'.m m lo (h'.c - lo)) h'.wl
def adraw (ops : List Oper) (nt : Nat) (all : List (Nat × Oper × Nat)) (pm : Nat) : List (Nat × Oper × Nat) → Nat → List Seg → St → Option St
  | [], _, _, st => some st
  | (j, o, pre) :: os, done, segs, st =>
    cond (within pre done && !Nat.testBit done j)
    (match aoper P ro X ev C ops (hideT j pre st.ts all) { m := cond (pureOp o.op) .leaf (hide pre st.h.m segs), c := st.h.c, wl := [] } o with
    | some (v, h') => match putD nt st.ts o.dst v with
      | some ts' =>
        cond (cond (pureOp o.op) (isNil h'.wl && Nat.beq h'.c st.h.c) (isNil h'.wl || within done (Nat.lor pre pm)))
          (adraw ops nt all pm os (Nat.lor done (2 ^ j)) (⟨j, h'.wl, st.h.c, h'.c⟩ :: segs) { ts := ts', dl := st.dl, h := { m := over h' st.h.m st.h.c, c := h'.c, wl := addAll h'.wl st.h.wl } })
          none
      | none => none
    | none => none)
    none
def aregion (ops : List Oper) (nt : Nat) (draw : Bool) (st : St) : Option St :=
  if draw then
    match presOf ops [] with
    | some pres =>
      if nodupB (dsts ops) then
        adraw P ro X ev C ops nt (sched ops.length 0 (zip3 0 ops pres)) (pureMask 0 ops) (sched ops.length 0 (zip3 0 ops pres)) 0 [] st
      else none
    | none => none
  else aops P ro X ev C ops nt ops st
end
def hasBody (P : Program) (g : Nat) : Bool :=
  match P.funcs[g]? with
  | some fn => fn.body.isSome
  | none => false
/-- The block for a loop's deferred calls. -/
def loopStart (rnd : Option Nat) (h : Hp) : Option (Nat × List Nat × Hp) :=
  match rnd with
  | none => some (h.c, [h.c], h.new .dfr)
  | some l => match h.m.get l with
    | some (.loop _ _ _ _ _ _ _ dfr) => some (dfr, [], h)
    | _ => none
/-- THE EVALUATOR. -/
def evalN (P : Program) (ro : Nat) (X C : Hook) : Nat → Option Nat → Nat → Code → St → Option (Ex × St)
  | 0, _, _, _, _ => none
  | n + 1, rnd, nt, code, st =>
    match code with
    | .skip => some (.normal, st)
    | .label _ => some (.normal, st)
    | .region _ ops draw => match aregion P ro X (evalN P ro X C n) C ops.toList nt draw st with
      | some st' => some (.normal, st')
      | none => none
    | .seq a b => match evalN P ro X C n rnd nt a st with
      | some (.normal, st1) => evalN P ro X C n rnd nt b st1
      | r => r
    | .cond c a b => match evO P st.ts c with
      | some (.bool t) => evalN P ro X C n rnd nt (if t then a else b) st
      | _ => none
    | .block id b => match evalN P ro X C n rnd nt b st with
      | some (.exit id', st1) => if id' = id then some (.normal, st1) else some (.exit id', st1)
      | r => r
    | .loop b => match evalN P ro X C n rnd nt b st with
      | some (.normal, st1) => evalN P ro X C n rnd nt (.loop b) st1
      | r => r
    | .scope b => evalN P ro X C n rnd nt b st
    | .exit id => some (.exit id, st)
    | .ret => some (.ret, st)
    | .rangeFunc f params assign body =>
      match loopStart rnd st.h, evO P st.ts f with
      | some (dfr, dl, h1), some (.func (.func g) first captured) =>
        if hasBody P g then
        match acall P ro (evalN P ro X C n) C g (first.toList ++ [.func (.yield h1.c) #[] #[]] ++ captured.toList) (h1.new (.loop .ready none nt st.ts params.toList assign body dfr)) with
        | some (_, h3) => match h3.m.get h1.c with
          | some (.loop stt pe nt1 tsl ps1 as1 bd1 df1) =>
            if stt = .busy then none else
            match h3.upd ro h1.c (some (.loop .exhausted pe nt1 tsl ps1 as1 bd1 df1)) with
            | some h4 => match pe with
              | none => some (.normal, { ts := st.ts, dl := dl ++ st.dl, h := h4 })
              | some c => evalN P ro X C n rnd nt c { ts := st.ts, dl := dl ++ st.dl, h := h4 }
            | none => none
          | _ => none
        | none => none
        else none
      | _, _ => none
    | _ => none
end Ex
end
section
namespace Ex
theorem beqF {n m : Nat} (h : n ≠ m) : Nat.beq n m = false := by
  cases e : Nat.beq n m with
  | false => rfl
  | true => exact absurd (Nat.eq_of_beq_eq_true e) h
theorem beqT {n m : Nat} (h : n = m) : Nat.beq n m = true := by subst h; exact Nat.beq_refl n
theorem bleT {n m : Nat} (h : n ≤ m) : Nat.ble n m = true := Nat.ble_eq_true_of_le h
theorem bleF {n m : Nat} (h : ¬ n ≤ m) : Nat.ble n m = false := by
  cases e : Nat.ble n m with
  | false => rfl
  | true => exact absurd (Nat.le_of_ble_eq_true e) h
section tr
variable {α : Type}
theorem Tr.get_set (x : Option α) : ∀ (f : Nat) (t : Tr α) (n m : Nat), n < f → (Tr.set x f t n).get m = if m = n then x else t.get m
  | 0, _, n, _, h => by omega
  | f + 1, t, n, m, h => by
    have key : ∀ (v : Option α) (l r : Tr α), (cond (Nat.beq n 0) (Tr.node x l r) (cond (Nat.beq (n % 2) 1) (.node v (Tr.set x f l (n / 2)) r) (.node v l (Tr.set x f r (n / 2 - 1))))).get m = if m = n then x else (Tr.node v l r).get m := by
      intro v l r
      by_cases h0 : n = 0
      · subst h0
        by_cases hm : m = 0
        · subst hm; simp [Tr.get]
        · simp [Tr.get, hm, beqF hm]
      · have e0 : Nat.beq n 0 = false := beqF h0
        by_cases h1 : n % 2 = 1
        · have e1 : Nat.beq (n % 2) 1 = true := beqT h1
          simp only [e0, e1, cond_false, cond_true, Tr.get]
          by_cases hm0 : m = 0
          · subst hm0; simp; omega
          · have f0 : Nat.beq m 0 = false := beqF hm0
            simp only [f0, cond_false]
            by_cases hm1 : m % 2 = 1
            · have f1 : Nat.beq (m % 2) 1 = true := beqT hm1
              simp only [f1, cond_true]
              rw [Tr.get_set x f l (n / 2) (m / 2) (by omega)]
              by_cases e : m = n
              · subst e; simp
              · rw [if_neg e, if_neg (by omega)]
            · have f1 : Nat.beq (m % 2) 1 = false := beqF hm1
              simp only [f1, cond_false]
              rw [if_neg (by intro e; subst e; exact hm1 h1)]
        · have e1 : Nat.beq (n % 2) 1 = false := beqF h1
          simp only [e0, e1, cond_false, Tr.get]
          by_cases hm0 : m = 0
          · subst hm0; simp; omega
          · have f0 : Nat.beq m 0 = false := beqF hm0
            simp only [f0, cond_false]
            by_cases hm1 : m % 2 = 1
            · have f1 : Nat.beq (m % 2) 1 = true := beqT hm1
              simp only [f1, cond_true]
              rw [if_neg (by intro e; subst e; exact h1 hm1)]
            · have f1 : Nat.beq (m % 2) 1 = false := beqF hm1
              simp only [f1, cond_false]
              rw [Tr.get_set x f r (n / 2 - 1) (m / 2 - 1) (by omega)]
              by_cases e : m = n
              · subst e; simp
              · rw [if_neg e, if_neg (by omega)]
    cases t with
    | leaf =>
      have := key none .leaf .leaf
      rw [show (Tr.node none (.leaf : Tr α) .leaf).get m = (Tr.leaf : Tr α).get m from by simp [Tr.get]] at this
      exact this
    | node v l r => exact key v l r
theorem Tr.get_put (t : Tr α) (n m : Nat) (x : Option α) : (t.put n x).get m = if m = n then x else t.get m :=
  Tr.get_set x (n + 1) t n m (Nat.lt_succ_self n)
end tr

/-- Which block of the world is the one of a number; how many cells it has, and of how many an element is; which numbers are in use. -/
structure K where
  p : Nat → Nat
  n : Nat → Nat
  s : Nat → Nat
  dom : Nat → Prop
def SlOk (κ : K) (b off len c off' cap' : Nat) : Prop :=
  len ≤ c / 2 ∧ ((c % 2 = 0 ∧ cap' = c / 2 ∧ off' = off) ∨ (c % 2 = 1 ∧ c / 2 ≤ cap' ∧ (0 < c / 2 → off' = off) ∧ off' + cap' * κ.s b ≤ κ.n b))
/-- A value of the evaluator's stands for one of the world's. -/
inductive VR (κ : K) : Value → Value → Prop
  | bool (b) : VR κ (.bool b) (.bool b)
  | int (k n) : VR κ (.int k n) (.int k n)
  | string (s) : VR κ (.string s) (.string s)
  | nilFunc : VR κ .nilFunc .nilFunc
  | nilIface : VR κ .nilIface .nilIface
  | ptrNil : VR κ (.pointer none) (.pointer none)
  | mapNil : VR κ (.map none) (.map none)
  | sliceNil : VR κ (.slice none 0 0) (.slice none 0 0)
  | ptr (b off) (h : κ.dom b) : VR κ (.pointer (some ⟨b, off, none⟩)) (.pointer (some ⟨κ.p b, off, none⟩))
  | slice (b off len c off' cap') (h : κ.dom b) (hs : SlOk κ b off len c off' cap') : VR κ (.slice (some ⟨b, off, none⟩) len c) (.slice (some ⟨κ.p b, off', none⟩) len cap')
  | map (r) (h : κ.dom r) : VR κ (.map (some r)) (.map (some (κ.p r)))
  | yield (l) (h : κ.dom l) : VR κ (.func (.yield l) #[] #[]) (.func (.yield (κ.p l)) #[] #[])
  | func (f) (xs ys xs' ys' : Array Value) (hx : xs.size = xs'.size) (h : ∀ (i : Nat) v v', xs[i]? = some v → xs'[i]? = some v' → VR κ v v')
      (hy : ys.size = ys'.size) (h2 : ∀ (i : Nat) v v', ys[i]? = some v → ys'[i]? = some v' → VR κ v v') : VR κ (.func (.func f) xs ys) (.func (.func f) xs' ys')
  | iface (t v v') (h : VR κ v v') : VR κ (.iface t v) (.iface t v')
  | agg (xs xs' : Array Value) (hx : xs.size = xs'.size) (h : ∀ (i : Nat) v v', xs[i]? = some v → xs'[i]? = some v' → VR κ v v') : VR κ (.agg xs) (.agg xs')
  | tuple (xs xs' : Array Value) (hx : xs.size = xs'.size) (h : ∀ (i : Nat) v v', xs[i]? = some v → xs'[i]? = some v' → VR κ v v') : VR κ (.tuple xs) (.tuple xs')
def LR (κ : K) (xs ys : List Value) : Prop := xs.length = ys.length ∧ ∀ (i : Nat) v v', xs[i]? = some v → ys[i]? = some v' → VR κ v v'

structure Ext (κ κ' : K) : Prop where
  dom : ∀ i, κ.dom i → κ'.dom i
  p : ∀ i, κ.dom i → κ'.p i = κ.p i
  n : ∀ i, κ.dom i → κ'.n i = κ.n i
  s : ∀ i, κ.dom i → κ'.s i = κ.s i
theorem Ext.refl (κ : K) : Ext κ κ := ⟨fun _ h => h, fun _ _ => rfl, fun _ _ => rfl, fun _ _ => rfl⟩
theorem Ext.trans {a b c : K} (h : Ext a b) (k : Ext b c) : Ext a c :=
  ⟨fun i hi => k.dom i (h.dom i hi), fun i hi => (k.p i (h.dom i hi)).trans (h.p i hi), fun i hi => (k.n i (h.dom i hi)).trans (h.n i hi), fun i hi => (k.s i (h.dom i hi)).trans (h.s i hi)⟩
theorem SlOk.ext {κ κ' : K} (e : Ext κ κ') {b off len c off' cap' : Nat} (hb : κ.dom b) (h : SlOk κ b off len c off' cap') : SlOk κ' b off len c off' cap' := by
  unfold SlOk at *; rw [e.s b hb, e.n b hb]; exact h
theorem VR.ext {κ κ' : K} (e : Ext κ κ') {v v' : Value} (h : VR κ v v') : VR κ' v v' := by
  induction h with
  | bool b => exact .bool b
  | int k n => exact .int k n
  | string s => exact .string s
  | nilFunc => exact .nilFunc
  | nilIface => exact .nilIface
  | ptrNil => exact .ptrNil
  | mapNil => exact .mapNil
  | sliceNil => exact .sliceNil
  | ptr b off h => rw [← e.p b h]; exact .ptr b off (e.dom b h)
  | slice b off len c off' cap' h hs => rw [← e.p b h]; exact .slice b off len c off' cap' (e.dom b h) (hs.ext e h)
  | map r h => rw [← e.p r h]; exact .map r (e.dom r h)
  | yield l h => rw [← e.p l h]; exact .yield l (e.dom l h)
  | func f xs ys xs' ys' hx _ hy _ ih1 ih2 => exact .func f xs ys xs' ys' hx ih1 hy ih2
  | iface t v v' _ ih => exact .iface t v v' ih
  | agg xs xs' hx _ ih => exact .agg xs xs' hx ih
  | tuple xs xs' hx _ ih => exact .tuple xs xs' hx ih
theorem LR.ext {κ κ' : K} (e : Ext κ κ') {xs ys : List Value} (h : LR κ xs ys) : LR κ' xs ys := ⟨h.1, fun i v v' a b => (h.2 i v v' a b).ext e⟩
theorem LR.nil (κ : K) : LR κ [] [] := ⟨rfl, fun _ _ _ h => by simp at h⟩
theorem LR.cons {κ : K} {x y : Value} {xs ys : List Value} (h : VR κ x y) (hs : LR κ xs ys) : LR κ (x :: xs) (y :: ys) := by
  refine ⟨by simp [hs.1], fun i v v' a b => ?_⟩
  cases i with
  | zero => simp at a b; subst a; subst b; exact h
  | succ i => exact hs.2 i v v' (by simpa using a) (by simpa using b)
theorem LR.cons_inv {κ : K} {x : Value} {xs zs : List Value} (h : LR κ (x :: xs) zs) : ∃ y ys, zs = y :: ys ∧ VR κ x y ∧ LR κ xs ys := by
  cases zs with
  | nil => have := h.1; simp at this
  | cons y ys => exact ⟨y, ys, rfl, h.2 0 x y rfl rfl, by simpa using h.1, fun i v v' a b => h.2 (i + 1) v v' (by simpa using a) (by simpa using b)⟩
theorem LR.nil_inv {κ : K} {zs : List Value} (h : LR κ [] zs) : zs = [] := by
  cases zs with
  | nil => rfl
  | cons y ys => have := h.1; simp at this
theorem LR.append {κ : K} {xs ys xs' ys' : List Value} (h : LR κ xs xs') (k : LR κ ys ys') : LR κ (xs ++ ys) (xs' ++ ys') := by
  refine ⟨by simp [h.1, k.1], fun i v v' a b => ?_⟩
  by_cases hi : i < xs.length
  · rw [List.getElem?_append_left hi] at a
    rw [List.getElem?_append_left (by rw [← h.1]; exact hi)] at b
    exact h.2 i v v' a b
  · rw [List.getElem?_append_right (by omega)] at a
    rw [List.getElem?_append_right (by rw [← h.1]; omega), ← h.1] at b
    exact k.2 _ v v' a b
theorem LR.drop {κ : K} {xs ys : List Value} (h : LR κ xs ys) (k : Nat) : LR κ (xs.drop k) (ys.drop k) :=
  ⟨by simp [h.1], fun i v v' a b => h.2 (k + i) v v' (by simpa [List.getElem?_drop] using a) (by simpa [List.getElem?_drop] using b)⟩
theorem LR.take {κ : K} {xs ys : List Value} (h : LR κ xs ys) (k : Nat) : LR κ (xs.take k) (ys.take k) := by
  refine ⟨by simp [h.1], fun i v v' a b => ?_⟩
  rw [List.getElem?_take] at a b
  split at a
  · rename_i hi; rw [if_pos hi] at b; exact h.2 i v v' a b
  · simp at a
theorem LR.get {κ : K} {xs ys : List Value} (h : LR κ xs ys) {i : Nat} {v : Value} (hv : xs[i]? = some v) : ∃ v', ys[i]? = some v' ∧ VR κ v v' := by
  have hi : i < ys.length := by rw [← h.1]; exact (List.getElem?_eq_some_iff.1 hv).1
  exact ⟨ys[i], List.getElem?_eq_getElem hi, h.2 i v _ hv (List.getElem?_eq_getElem hi)⟩
theorem LR.agg {κ : K} {xs ys : List Value} (h : LR κ xs ys) : VR κ (.agg xs.toArray) (.agg ys.toArray) :=
  .agg _ _ (by simpa using h.1) (fun i v v' a b => h.2 i v v' (by simpa using a) (by simpa using b))
theorem LR.tuple {κ : K} {xs ys : List Value} (h : LR κ xs ys) : VR κ (.tuple xs.toArray) (.tuple ys.toArray) :=
  .tuple _ _ (by simpa using h.1) (fun i v v' a b => h.2 i v v' (by simpa using a) (by simpa using b))
theorem LR.of_arr {κ : K} {xs ys : Array Value} (hx : xs.size = ys.size) (h : ∀ (i : Nat) v v', xs[i]? = some v → ys[i]? = some v' → VR κ v v') : LR κ xs.toList ys.toList :=
  ⟨by simpa using hx, fun i v v' a b => h i v v' (by simpa using a) (by simpa using b)⟩

theorem VR.closed_same {κ : K} : ∀ {n : Nat} {v v' : Value}, VR κ v v' → closedV n v = true → v' = v := by
  intro n v v' h
  induction h generalizing n with
  | bool b => intro _; rfl
  | int k n => intro _; rfl
  | string s => intro _; rfl
  | nilFunc => intro _; rfl
  | nilIface => intro _; rfl
  | ptrNil => intro _; rfl
  | mapNil => intro _; rfl
  | sliceNil => intro _; rfl
  | ptr b off h => intro hc; cases n <;> simp [closedV] at hc
  | slice b off len c off' cap' h hs => intro hc; cases n <;> simp [closedV] at hc
  | map r h => intro hc; cases n <;> simp [closedV] at hc
  | yield l h => intro hc; cases n <;> simp [closedV] at hc
  | func f xs ys xs' ys' hx _ hy _ ih1 ih2 => intro hc; cases n <;> simp [closedV] at hc
  | iface t v v' _ ih =>
    intro hc
    cases n with
    | zero => simp [closedV] at hc
    | succ n => rw [ih (n := n) (by simpa [closedV] using hc)]
  | agg xs xs' hx _ ih | tuple xs xs' hx _ ih =>
    intro hc
    cases n with
    | zero => simp [closedV] at hc
    | succ n =>
      simp only [closedV, List.all_eq_true] at hc
      congr 1
      refine Array.ext (by simpa using hx.symm) fun i h1 h2 => ?_
      exact ih i xs[i] xs'[i] (by simp) (by simp) (n := n) (hc _ (by simp))
theorem VR.of_closed (κ : K) : ∀ (n : Nat) (v : Value), closedV n v = true → VR κ v v
  | n, .bool b, _ => .bool b
  | n, .int k m, _ => .int k m
  | n, .string s, _ => .string s
  | n, .nilFunc, _ => .nilFunc
  | n, .nilIface, _ => .nilIface
  | n, .pointer none, _ => .ptrNil
  | n, .map none, _ => .mapNil
  | n, .slice none 0 0, _ => .sliceNil
  | n + 1, .agg cs, h => .agg _ _ rfl fun i v v' a b => by
      rw [a] at b; cases b
      simp only [closedV, List.all_eq_true] at h
      exact VR.of_closed κ n v (h v (by rw [Array.mem_toList_iff]; exact Array.mem_of_getElem? a))
  | n + 1, .tuple cs, h => .tuple _ _ rfl fun i v v' a b => by
      rw [a] at b; cases b
      simp only [closedV, List.all_eq_true] at h
      exact VR.of_closed κ n v (h v (by rw [Array.mem_toList_iff]; exact Array.mem_of_getElem? a))
  | n + 1, .iface t v, h => .iface t v v (VR.of_closed κ n v (by simpa [closedV] using h))
  | n, .float _ _, h | n, .complex _ _ _, h | n, .pointer (some _), h | n, .map (some _), h | n, .chan _, h | n, .func _ _ _, h | n, .slice (some _) _ _, h
  | n, .slice none (_ + 1) _, h | n, .slice none 0 (_ + 1), h => by cases n <;> simp [closedV] at h
  | 0, .agg _, h | 0, .tuple _, h | 0, .iface _ _, h => by simp [closedV] at h
theorem VR.closed {κ : K} {v v' : Value} (h : VR κ v v') (hc : closed v = true) : v' = v := h.closed_same hc
theorem LR.of_closed (κ : K) (xs : List Value) (h : xs.all Ex.closed = true) : LR κ xs xs :=
  ⟨rfl, fun i v v' a b => by
    rw [a] at b; cases b
    exact VR.of_closed κ 4 v (List.all_eq_true.1 h v (List.mem_of_getElem? a))⟩
theorem LR.closed {κ : K} {xs ys : List Value} (h : LR κ xs ys) (hc : xs.all Ex.closed = true) : ys = xs := by
  induction xs generalizing ys with
  | nil => exact h.nil_inv
  | cons x xs ih =>
    obtain ⟨y, ys, rfl, h1, h2⟩ := h.cons_inv
    simp only [List.all_cons, Bool.and_eq_true] at hc
    rw [h1.closed hc.1, ih h2 hc.2]

/-! ### Blocks -/
theorem born_push {es : Array MapEntry} {clock : Nat} {k v : Value} (hn : (es.toList.map (·.born)).Nodup) (hb : ∀ e ∈ es.toList, e.born < clock) : ((es.push { key := k, val := v, born := clock }).toList.map (·.born)).Nodup := by
  rw [Array.toList_push, List.map_append, List.nodup_append]
  refine ⟨hn, by simp, fun a ha b hb2 => ?_⟩
  obtain ⟨e, he, rfl⟩ := List.mem_map.1 ha
  have := hb e he
  simp at hb2
  omega
def TR (κ : K) (ts : TS) (tmps : Array Value) : Prop := ∀ t v, ts.get t = some v → VR κ v (tmps.getD t undef)
theorem TR.ext {κ κ' : K} (e : Ext κ κ') {ts : TS} {tm : Array Value} (h : TR κ ts tm) : TR κ' ts tm := fun t v hv => (h t v hv).ext e
def ER (κ : K) (e e' : MapEntry) : Prop := VR κ e.key e'.key ∧ VR κ e.val e'.val ∧ e'.born = e.born
def ERs (κ : K) (es : List MapEntry) (es' : List MapEntry) : Prop := es.length = es'.length ∧ ∀ (i : Nat) e e', es[i]? = some e → es'[i]? = some e' → ER κ e e'
/-- A block of the evaluator's stands for one of the world's. -/
inductive OR (P : Program) (κ : K) (b : Nat) : AO → Obj → Prop
  | cells (c : List Value) (e : TypeId) (fr : Bool) (c' : Array Value) (fz : Nat × Nat) (hn : c'.size = κ.n b) (hl : c.length ≤ c'.size)
      (hs : ∀ s, sz P e = some s → s = κ.s b) (hc : ∀ (i : Nat) v, c[i]? = some v → ∃ v', c'[i]? = some v' ∧ VR κ v v')
      (hf : fr = false → fz = (0, 0)) : OR P κ b (.cells c e fr) (.cells c' e fz)
  | map (es : List MapEntry) (clock : Nat) (es' : Array MapEntry) (h : ERs κ es es'.toList) : OR P κ b (.map es clock) (.map es' clock)
  | bag (ks : List Value) (l' : List Value) (clock : Nat) (es' : Array MapEntry) (hl : LR κ ks l') (hp : (es'.toList.map (·.key)).Perm l') (hv : ∀ e ∈ es'.toList, e.val = .bool true ∧ e.born < clock) (hn : (es'.toList.map (·.born)).Nodup) : OR P κ b (.bag ks) (.map es' clock)
  | iterNil (since : Nat) (seen : List Nat) (stepped : Nat) (seen' : Array Nat) (h : seen'.toList = seen) : OR P κ b (.mapIter none since seen stepped) (.mapIter none since seen' stepped)
  | iter (m since : Nat) (seen : List Nat) (stepped : Nat) (seen' : Array Nat) (hm : κ.dom m) (h : seen'.toList = seen) : OR P κ b (.mapIter (some m) since seen stepped) (.mapIter (some (κ.p m)) since seen' stepped)
  | str (s : ByteArray) (pos : Nat) : OR P κ b (.strIter s pos) (.stringIter s pos)
  | loop (l : Loop) (nt : Nat) (ts : TS) (params : List Tmp) (dfr : Nat) (hp : l.params.toList = params) (hn : l.tmps.size = nt) (ht : TR κ ts l.tmps) (hd : κ.dom dfr) (hf : l.defers = κ.p dfr) :
      OR P κ b (.loop l.state l.pending nt ts params l.assign l.body dfr) (.loop l)
  | dfr : OR P κ b .dfr (.deferred (some []))
theorem ER.ext {κ κ' : K} (x : Ext κ κ') {e e' : MapEntry} (h : ER κ e e') : ER κ' e e' := ⟨h.1.ext x, h.2.1.ext x, h.2.2⟩
theorem OR.ext {P : Program} {κ κ' : K} (x : Ext κ κ') {b : Nat} (hb : κ.dom b) {o : AO} {o' : Obj} (h : OR P κ b o o') : OR P κ' b o o' := by
  cases h with
  | cells c e fr c' fz hn hl hs hc hf =>
    exact .cells c e fr c' fz (by rw [x.n b hb]; exact hn) hl (by rw [x.s b hb]; exact hs) (fun i v hv => let ⟨v', a, r⟩ := hc i v hv; ⟨v', a, r.ext x⟩) hf
  | map es clock es' h => exact .map es clock es' ⟨h.1, fun i e e' a b => (h.2 i e e' a b).ext x⟩
  | bag ks l' clock es' hl hp hv hn => exact .bag ks l' clock es' (hl.ext x) hp hv hn
  | iterNil since seen stepped seen' h => exact .iterNil since seen stepped seen' h
  | iter m since seen stepped seen' hm h => rw [← x.p m hm]; exact .iter m since seen stepped seen' (x.dom m hm) h
  | str s pos => exact .str s pos
  | loop l nt ts params dfr hp hn ht hd hf => exact .loop l nt ts params dfr hp hn (ht.ext x) (x.dom dfr hd) (by rw [x.p dfr hd]; exact hf)
  | dfr => exact .dfr
/-- The evaluator's memory stands for the world's. -/
structure HR (P : Program) (κ : K) (m : Tr AO) (w : World) : Prop where
  obj : ∀ i o, m.get i = some o → κ.dom i ∧ ∃ o', w.heap[κ.p i]? = some o' ∧ OR P κ i o o'
  inj : ∀ a b, (m.get a).isSome → (m.get b).isSome → κ.p a = κ.p b → a = b
  glob : ∀ g, g < P.globals.size → κ.dom g ∧ κ.p g = g
theorem HR.sub {P : Program} {κ : K} {m m2 : Tr AO} {w : World} (h : HR P κ m w) (hs : ∀ i o, m2.get i = some o → m.get i = some o) : HR P κ m2 w :=
  ⟨fun i o hi => h.obj i o (hs i o hi), fun a b ha hb => by
    obtain ⟨x, hx⟩ := Option.isSome_iff_exists.1 ha
    obtain ⟨y, hy⟩ := Option.isSome_iff_exists.1 hb
    exact h.inj a b (by rw [hs a x hx]; rfl) (by rw [hs b y hy]; rfl), h.glob⟩
/-- What becomes of both. -/
structure Gone (ro : Nat) (κ κ' : K) (h h' : Hp) (w w' : World) : Prop where
  mono : h.c ≤ h'.c
  ext : Ext κ κ'
  new : ∀ i, κ'.dom i → κ.dom i ∨ (h.c ≤ i ∧ i < h'.c)
  size : w.heap.size ≤ w'.heap.size
  os : w'.os = w.os
  tape : w'.tape = w.tape
  output : w'.output = w.output
  frame : ∀ b, b < w.heap.size → (∀ i, ro ≤ i → (h.m.get i).isSome → κ.p i ≠ b) → w'.heap[b]? = w.heap[b]?
  fresh : ∀ i, (h'.m.get i).isSome → κ.dom i ∨ w.heap.size ≤ κ'.p i ∨ ∃ k, ro ≤ k ∧ κ.dom k ∧ (h.m.get k).isSome ∧ h'.m.get k = none ∧ κ'.p i = κ.p k
  old : ∀ i, κ.dom i → (h'.m.get i).isSome → (h.m.get i).isSome
  same : ∀ i, κ.dom i → i ∉ h'.wl → h'.m.get i = h.m.get i
  wle : ∀ i, i ∈ h.wl → i ∈ h'.wl
/-- The new numbers are free. -/
def Free (κ : K) (lo hi : Nat) : Prop := ∀ i, lo ≤ i → i < hi → ¬κ.dom i
theorem Gone.refl {P : Program} {ro : Nat} {κ : K} {h : Hp} {w : World} (H : HR P κ h.m w) : Gone ro κ κ h h w w :=
  ⟨Nat.le_refl _, Ext.refl κ, fun _ h => .inl h, Nat.le_refl _, rfl, rfl, rfl, fun _ _ _ => rfl, fun i hi => by
    obtain ⟨o, ho⟩ := Option.isSome_iff_exists.1 hi
    exact .inl (H.obj i o ho).1, fun _ _ h => h, fun _ _ _ => rfl, fun _ h => h⟩
theorem Gone.trans {ro : Nat} {κ κ1 κ2 : K} {h h1 h2 : Hp} {w w1 w2 : World} (A : Gone ro κ κ1 h h1 w w1) (B : Gone ro κ1 κ2 h1 h2 w1 w2) : Gone ro κ κ2 h h2 w w2 where
  mono := Nat.le_trans A.mono B.mono
  ext := A.ext.trans B.ext
  new := fun i hi => by
    have := A.mono; have := B.mono
    rcases B.new i hi with a | a
    · rcases A.new i a with b | b
      · exact .inl b
      · exact .inr ⟨b.1, by omega⟩
    · exact .inr ⟨by omega, a.2⟩
  size := Nat.le_trans A.size B.size
  os := B.os.trans A.os
  tape := B.tape.trans A.tape
  output := B.output.trans A.output
  frame := fun b hb hn => by
    rw [← A.frame b hb hn]
    refine B.frame b (Nat.lt_of_lt_of_le hb A.size) fun i hr hi => ?_
    rcases A.fresh i hi with d | d | ⟨k, hk, hd, hs, _, e⟩
    · rw [A.ext.p i d]; exact hn i hr (A.old i d hi)
    · omega
    · rw [e]; exact hn k hk hs
  fresh := fun i hi => by
    have hnone : ∀ k, κ.dom k → h1.m.get k = none → h2.m.get k = none := fun k hd hk => by
      cases e : h2.m.get k with
      | none => rfl
      | some x => have := B.old k (A.ext.dom k hd) (by rw [e]; rfl); rw [hk] at this; simp at this
    rcases B.fresh i hi with d | d | ⟨k, hk, hd, hs, hz, e⟩
    · have h1i := B.old i d hi
      rcases A.fresh i h1i with a | a | ⟨k, hk, hd, hs, hz, e⟩
      · exact .inl a
      · exact .inr (.inl (by rw [B.ext.p i d]; exact a))
      · exact .inr (.inr ⟨k, hk, hd, hs, hnone k hd hz, by rw [B.ext.p i d]; exact e⟩)
    · exact .inr (.inl (Nat.le_trans A.size d))
    · rcases A.fresh k hs with a | a | ⟨k0, hk0, hd0, hs0, hz0, e0⟩
      · exact .inr (.inr ⟨k, hk, a, A.old k a hs, hz, by rw [e, A.ext.p k a]⟩)
      · exact .inr (.inl (by rw [e]; exact a))
      · exact .inr (.inr ⟨k0, hk0, hd0, hs0, hnone k0 hd0 hz0, by rw [e, e0]⟩)
  old := fun i hd hi => A.old i hd (B.old i (A.ext.dom i hd) hi)
  same := fun i hd hn => by rw [B.same i (A.ext.dom i hd) hn]; exact A.same i hd fun hw => hn (B.wle i hw)
  wle := fun i hi => B.wle i (A.wle i hi)
/-- Another list of what was written, as good for what was there. -/
theorem Gone.wl {ro : Nat} {κ κ' : K} {h h' : Hp} {w w' : World} (A : Gone ro κ κ' h h' w w') (l : List Nat) (hl : ∀ i, κ.dom i → i ∈ h'.wl → i ∈ l) (hw : ∀ i, i ∈ h.wl → i ∈ l) :
    Gone ro κ κ' h { h' with wl := l } w w' :=
  { A with same := fun i hd hn => A.same i hd fun h => hn (hl i hd h), wle := hw }

def K.add (κ : K) (b p n s : Nat) : K := { p := fun i => if i = b then p else κ.p i, n := fun i => if i = b then n else κ.n i, s := fun i => if i = b then s else κ.s i, dom := fun i => κ.dom i ∨ i = b }
theorem Ext.add {κ : K} {b : Nat} (p n s : Nat) (h : ¬κ.dom b) : Ext κ (κ.add b p n s) := by
  have ne : ∀ i, κ.dom i → i ≠ b := fun i hi e => h (e ▸ hi)
  exact ⟨fun i hi => .inl hi, fun i hi => by simp [K.add, ne i hi], fun i hi => by simp [K.add, ne i hi], fun i hi => by simp [K.add, ne i hi]⟩
theorem Hp.get_new (h : Hp) (o : AO) (i : Nat) : (h.new o).m.get i = if i = h.c then some o else h.m.get i := Tr.get_put _ _ _ _
theorem Hp.upd_inv {ro : Nat} {h h' : Hp} {b : Nat} {o : Option AO} (e : h.upd ro b o = some h') : ro ≤ b ∧ h' = { m := h.m.put b o, c := h.c, wl := addW b h.wl } := by
  unfold Hp.upd at e
  by_cases hb : ro ≤ b
  · have : Nat.ble ro b = true := bleT hb
    rw [this] at e; simp only [cond_true, Option.some.injEq] at e
    exact ⟨hb, e.symm⟩
  · have : Nat.ble ro b = false := bleF hb
    rw [this] at e; simp at e
theorem mem_addW {b i : Nat} {l : List Nat} : i ∈ addW b l ↔ i = b ∨ i ∈ l := by
  unfold addW
  by_cases h : l.elem b = true
  · rw [h, cond_true]
    have : b ∈ l := by simpa using h
    constructor
    · exact fun x => .inr x
    · rintro (rfl | x)
      · exact this
      · exact x
  · have h' : l.elem b = false := by simpa using h
    rw [h', cond_false]; simp

section
variable {P : Program} {ro : Nat} {κ : K} {h : Hp} {w w' : World}
/-- A new block. -/
theorem go_new (H : HR P κ h.m w) (hf : ¬κ.dom h.c) {o : AO} {o' : Obj} {n s : Nat} (hw : w'.heap = w.heap.push o') (h1 : w'.os = w.os) (h2 : w'.tape = w.tape) (h3 : w'.output = w.output)
    (ho : OR P (κ.add h.c w.heap.size n s) h.c o o') :
    HR P (κ.add h.c w.heap.size n s) (h.new o).m w' ∧ Gone ro κ (κ.add h.c w.heap.size n s) h (h.new o) w w' := by
  have hx := Ext.add w.heap.size n s hf
  have hlt : ∀ i x, h.m.get i = some x → κ.p i < w.heap.size ∧ i ≠ h.c := fun i x hi => by
    obtain ⟨hd, o1, ho1, _⟩ := H.obj i x hi
    exact ⟨by obtain ⟨a, _⟩ := Array.getElem?_eq_some_iff.1 ho1; exact a, fun e => hf (e ▸ hd)⟩
  refine ⟨⟨fun i x hi => ?_, fun a b ha hb e => ?_, fun g hg => ?_⟩, ⟨by simp [Hp.new], hx, fun i hi => ?_, by simp [hw], h1, h2, h3, fun b hb _ => ?_, fun i hi => ?_, fun i hd hi => ?_, fun i hd _ => ?_, fun _ h => h⟩⟩
  · rw [Hp.get_new] at hi
    by_cases e : i = h.c
    · rw [if_pos e] at hi; simp only [Option.some.injEq] at hi; subst hi; subst e
      refine ⟨.inr rfl, o', ?_, ho⟩
      simp [K.add, hw]
    · rw [if_neg e] at hi
      obtain ⟨hd, o1, ho1, hr⟩ := H.obj i x hi
      refine ⟨.inl hd, o1, ?_, hr.ext hx hd⟩
      rw [hx.p i hd, hw, Array.getElem?_push, if_neg (by have := (hlt i x hi).1; omega)]; exact ho1
  · rw [Hp.get_new] at ha hb
    by_cases ea : a = h.c <;> by_cases eb : b = h.c
    · rw [ea, eb]
    · exfalso
      rw [if_neg eb] at hb
      obtain ⟨y, hy⟩ := Option.isSome_iff_exists.1 hb
      have := (hlt b y hy).1
      simp [K.add, ea, eb] at e; omega
    · exfalso
      rw [if_neg ea] at ha
      obtain ⟨y, hy⟩ := Option.isSome_iff_exists.1 ha
      have := (hlt a y hy).1
      simp [K.add, ea, eb] at e; omega
    · rw [if_neg ea] at ha; rw [if_neg eb] at hb
      simp [K.add, ea, eb] at e
      exact H.inj a b ha hb e
  · exact ⟨.inl (H.glob g hg).1, by rw [hx.p g (H.glob g hg).1]; exact (H.glob g hg).2⟩
  · rcases hi with hi | hi
    · exact .inl hi
    · exact .inr ⟨by omega, by simp [Hp.new]; omega⟩
  · rw [hw, Array.getElem?_push, if_neg (by omega)]
  · rw [Hp.get_new] at hi
    by_cases e : i = h.c
    · exact .inr (.inl (by simp [K.add, e]))
    · rw [if_neg e] at hi
      obtain ⟨y, hy⟩ := Option.isSome_iff_exists.1 hi
      exact .inl (H.obj i y hy).1
  · rw [Hp.get_new, if_neg (fun (e : i = h.c) => hf (e ▸ hd))] at hi; exact hi
  · rw [Hp.get_new, if_neg (fun (e : i = h.c) => hf (e ▸ hd))]
/-- A block turned. -/
theorem go_upd (H : HR P κ h.m w) {b : Nat} {o x : AO} {o' : Obj} {h' : Hp} (hb : h.m.get b = some x) (e : h.upd ro b (some o) = some h')
    (hs : w'.heap.size = w.heap.size) (hw : w'.heap[κ.p b]? = some o') (hz : ∀ k, k ≠ κ.p b → w'.heap[k]? = w.heap[k]?) (h1 : w'.os = w.os) (h2 : w'.tape = w.tape) (h3 : w'.output = w.output)
    (ho : OR P κ b o o') : HR P κ h'.m w' ∧ Gone ro κ κ h h' w w' := by
  obtain ⟨hr, rfl⟩ := Hp.upd_inv e
  have hdb := (H.obj b x hb).1
  have hsome : ∀ i, ((h.m.put b (some o)).get i).isSome → (h.m.get i).isSome := fun i hi => by
    rw [Tr.get_put] at hi
    by_cases e : i = b
    · rw [e, hb]; rfl
    · rw [if_neg e] at hi; exact hi
  refine ⟨⟨fun i y hi => ?_, fun a c ha hc e => H.inj a c (hsome a ha) (hsome c hc) e, H.glob⟩, ⟨Nat.le_refl _, Ext.refl κ, fun _ h => .inl h, by omega, h1, h2, h3, fun k _ hn => hz k fun ek => hn b hr (by rw [hb]; rfl) ek.symm, fun i hi => ?_, fun i _ hi => hsome i hi, fun i _ hn => ?_, fun i hi => mem_addW.2 (.inr hi)⟩⟩
  · simp only [Tr.get_put] at hi
    by_cases e : i = b
    · rw [if_pos e] at hi; simp only [Option.some.injEq] at hi; subst hi; subst e
      exact ⟨hdb, o', hw, ho⟩
    · rw [if_neg e] at hi
      obtain ⟨hd, o1, ho1, hr1⟩ := H.obj i y hi
      refine ⟨hd, o1, ?_, hr1⟩
      rw [hz (κ.p i) fun ek => e (H.inj i b (by rw [hi]; rfl) (by rw [hb]; rfl) ek)]; exact ho1
  · obtain ⟨y, hy⟩ := Option.isSome_iff_exists.1 (hsome i hi)
    exact .inl (H.obj i y hy).1
  · show (h.m.put b (some o)).get i = _
    rw [Tr.get_put, if_neg fun e => hn (mem_addW.2 (.inl e))]
/-- A block that is struck. -/
theorem go_kill (H : HR P κ h.m w) {b : Nat} {h' : Hp} (e : h.upd ro b none = some h') : HR P κ h'.m w ∧ Gone ro κ κ h h' w w := by
  obtain ⟨hr, rfl⟩ := Hp.upd_inv e
  have hsub : ∀ i o, (h.m.put b none).get i = some o → h.m.get i = some o := fun i o hi => by
    rw [Tr.get_put] at hi
    by_cases e : i = b
    · rw [if_pos e] at hi; cases hi
    · rw [if_neg e] at hi; exact hi
  refine ⟨H.sub hsub, ⟨Nat.le_refl _, Ext.refl κ, fun _ h => .inl h, Nat.le_refl _, rfl, rfl, rfl, fun _ _ _ => rfl, fun i hi => ?_, fun i _ hi => ?_, fun i _ hn => ?_, fun i hi => mem_addW.2 (.inr hi)⟩⟩
  · obtain ⟨o, ho⟩ := Option.isSome_iff_exists.1 hi
    exact .inl (H.obj i o (hsub i o ho)).1
  · obtain ⟨o, ho⟩ := Option.isSome_iff_exists.1 hi
    rw [hsub i o ho]; rfl
  · show (h.m.put b none).get i = _
    rw [Tr.get_put, if_neg fun e => hn (mem_addW.2 (.inl e))]
/-- A block that is struck; another number stands for it, as it was turned. -/
theorem go_move (H : HR P κ h.m w) (hf : ¬κ.dom h.c) {b : Nat} {o x : AO} {o' : Obj} {h' : Hp} {n s : Nat} (hb : h.m.get b = some x) (e : h.upd ro b none = some h')
    (hs : w'.heap.size = w.heap.size) (hw : w'.heap[κ.p b]? = some o') (hz : ∀ k, k ≠ κ.p b → w'.heap[k]? = w.heap[k]?) (h1 : w'.os = w.os) (h2 : w'.tape = w.tape) (h3 : w'.output = w.output)
    (ho : OR P (κ.add h.c (κ.p b) n s) h.c o o') : HR P (κ.add h.c (κ.p b) n s) (h'.new o).m w' ∧ Gone ro κ (κ.add h.c (κ.p b) n s) h (h'.new o) w w' := by
  obtain ⟨hr, rfl⟩ := Hp.upd_inv e
  have hx := Ext.add (κ.p b) n s hf
  have hdb := (H.obj b x hb).1
  have hg : ∀ i, ((Hp.new { m := h.m.put b none, c := h.c, wl := addW b h.wl } o)).m.get i = if i = h.c then some o else if i = b then none else h.m.get i := fun i => by
    rw [Hp.get_new]; simp only [Tr.get_put]
  have hold : ∀ i y, i ≠ h.c → (if i = h.c then some o else if i = b then none else h.m.get i) = some y → i ≠ b ∧ h.m.get i = some y := fun i y e hi => by
    rw [if_neg e] at hi
    by_cases eb : i = b
    · rw [if_pos eb] at hi; cases hi
    · rw [if_neg eb] at hi; exact ⟨eb, hi⟩
  refine ⟨⟨fun i y hi => ?_, fun a c ha hc e => ?_, fun g hg => ?_⟩, ⟨by simp [Hp.new], hx, fun i hi => ?_, by omega, h1, h2, h3, fun k _ hn => hz k fun ek => hn b hr (by rw [hb]; rfl) ek.symm, fun i hi => ?_, fun i hd hi => ?_, fun i hd hn => ?_, fun i hi => mem_addW.2 (.inr hi)⟩⟩
  · rw [hg] at hi
    by_cases e : i = h.c
    · rw [if_pos e] at hi; simp only [Option.some.injEq] at hi; subst hi; subst e
      exact ⟨.inr rfl, o', by simp [K.add]; exact hw, ho⟩
    · obtain ⟨eb, hi⟩ := hold i y e hi
      obtain ⟨hd, o1, ho1, hr1⟩ := H.obj i y hi
      refine ⟨.inl hd, o1, ?_, hr1.ext hx hd⟩
      rw [hx.p i hd, hz (κ.p i) fun ek => eb (H.inj i b (by rw [hi]; rfl) (by rw [hb]; rfl) ek)]; exact ho1
  · rw [hg] at ha hc
    obtain ⟨y, hy⟩ := Option.isSome_iff_exists.1 ha
    obtain ⟨z, hz'⟩ := Option.isSome_iff_exists.1 hc
    by_cases ea : a = h.c <;> by_cases ec : c = h.c
    · rw [ea, ec]
    · exfalso
      obtain ⟨ne, hc'⟩ := hold c z ec hz'
      simp [K.add, ea, ec] at e
      exact ne (H.inj c b (by rw [hc']; rfl) (by rw [hb]; rfl) e.symm)
    · exfalso
      obtain ⟨ne, ha'⟩ := hold a y ea hy
      simp [K.add, ea, ec] at e
      exact ne (H.inj a b (by rw [ha']; rfl) (by rw [hb]; rfl) e)
    · simp [K.add, ea, ec] at e
      exact H.inj a c (by rw [(hold a y ea hy).2]; rfl) (by rw [(hold c z ec hz').2]; rfl) e
  · exact ⟨.inl (H.glob g hg).1, by rw [hx.p g (H.glob g hg).1]; exact (H.glob g hg).2⟩
  · rcases hi with hi | hi
    · exact .inl hi
    · exact .inr ⟨by omega, by simp [Hp.new]; omega⟩
  · rw [hg] at hi
    obtain ⟨y, hy⟩ := Option.isSome_iff_exists.1 hi
    by_cases e : i = h.c
    · refine .inr (.inr ⟨b, hr, hdb, by rw [hb]; rfl, ?_, by simp [K.add, e]⟩)
      rw [hg, if_neg (fun (e : b = h.c) => hf (e ▸ hdb)), if_pos rfl]
    · exact .inl (H.obj i y (hold i y e hy).2).1
  · rw [hg] at hi
    obtain ⟨y, hy⟩ := Option.isSome_iff_exists.1 hi
    rw [(hold i y (fun e => hf (e ▸ hd)) hy).2]; rfl
  · rw [hg, if_neg (fun (e : i = h.c) => hf (e ▸ hd)), if_neg fun e => hn (mem_addW.2 (.inl e))]
/-- A block that is struck, whatever becomes of it. -/
theorem go_killw {h' : Hp} (H : HR P κ h.m w) {b : Nat} {x : AO} (hb : h.m.get b = some x) (e : h.upd ro b none = some h')
    (hs : w'.heap.size = w.heap.size) (hz : ∀ k, k ≠ κ.p b → w'.heap[k]? = w.heap[k]?) (h1 : w'.os = w.os) (h2 : w'.tape = w.tape) (h3 : w'.output = w.output) :
    HR P κ h'.m w' ∧ Gone ro κ κ h h' w w' := by
  obtain ⟨hr, rfl⟩ := Hp.upd_inv e
  have hold : ∀ i y, (h.m.put b none).get i = some y → i ≠ b ∧ h.m.get i = some y := fun i y hi => by
    rw [Tr.get_put] at hi
    by_cases eb : i = b
    · rw [if_pos eb] at hi; cases hi
    · rw [if_neg eb] at hi; exact ⟨eb, hi⟩
  refine ⟨⟨fun i y hi => ?_, fun a c ha hc e => ?_, H.glob⟩, ⟨Nat.le_refl _, Ext.refl κ, fun _ h => .inl h, by omega, h1, h2, h3, fun k _ hn => hz k fun ek => hn b hr (by rw [hb]; rfl) ek.symm, fun i hi => ?_, fun i _ hi => ?_, fun i _ hn => ?_, fun i hi => mem_addW.2 (.inr hi)⟩⟩
  · obtain ⟨ne, hi⟩ := hold i y hi
    obtain ⟨hd, o1, ho1, hr1⟩ := H.obj i y hi
    refine ⟨hd, o1, ?_, hr1⟩
    rw [hz (κ.p i) fun ek => ne (H.inj i b (by rw [hi]; rfl) (by rw [hb]; rfl) ek)]; exact ho1
  · obtain ⟨y, hy⟩ := Option.isSome_iff_exists.1 ha
    obtain ⟨z, hz'⟩ := Option.isSome_iff_exists.1 hc
    exact H.inj a c (by rw [(hold a y hy).2]; rfl) (by rw [(hold c z hz').2]; rfl) e
  · obtain ⟨y, hy⟩ := Option.isSome_iff_exists.1 hi
    exact .inl (H.obj i y (hold i y hy).2).1
  · obtain ⟨y, hy⟩ := Option.isSome_iff_exists.1 hi
    rw [(hold i y hy).2]; rfl
  · show (h.m.put b none).get i = _
    rw [Tr.get_put, if_neg fun e => hn (mem_addW.2 (.inl e))]
theorem evO_vr (H : ∀ g, g < P.globals.size → κ.dom g ∧ κ.p g = g) {ts : TS} {a : Act} (T : TR κ ts a.tmps) {x : Operand} {v : Value} (e : evO P ts x = some v) : VR κ v (a.eval x) := by
  cases x with
  | tmp t => exact T t v e
  | const c =>
    simp only [evO] at e
    by_cases hc : closed c = true
    · rw [hc] at e; simp only [cond_true, Option.some.injEq] at e; subst e
      exact VR.of_closed κ 4 c hc
    · have : closed c = false := by simpa using hc
      rw [this] at e; simp at e
  | global g =>
    simp only [evO] at e
    by_cases hg : g < P.globals.size
    · have : Nat.ble (g + 1) P.globals.size = true := bleT hg
      rw [this] at e; simp only [cond_true, Option.some.injEq] at e; subst e
      have hk := H g hg
      have := VR.ptr (κ := κ) g 0 hk.1
      rw [hk.2] at this; exact this
    · have : Nat.ble (g + 1) P.globals.size = false := bleF hg
      rw [this] at e; simp at e
  | func f =>
    simp only [evO, Option.some.injEq] at e; subst e
    exact .func f #[] #[] #[] #[] rfl (fun i v v' h => by simp at h) rfl (fun i v v' h => by simp at h)
theorem evAll_lr (H : ∀ g, g < P.globals.size → κ.dom g ∧ κ.p g = g) {ts : TS} {a : Act} (T : TR κ ts a.tmps) : ∀ {xs : List Operand} {vs : List Value}, evAll P ts xs = some vs → LR κ vs (xs.map a.eval)
  | [], vs, e => by simp only [evAll, Option.some.injEq] at e; subst e; exact LR.nil κ
  | x :: xs, vs, e => by
    simp only [evAll, Option.bind_eq_bind] at e
    obtain ⟨v, hv, e⟩ := Option.bind_eq_some_iff.1 e
    obtain ⟨ws, hw, e⟩ := Option.bind_eq_some_iff.1 e
    simp only [Option.some.injEq] at e; subst e
    exact LR.cons (evO_vr H T hv) (evAll_lr H T hw)
theorem val?_run {α : Type} (w : World) : ∀ (s : Sem α) (v : α), val? P s = some v → s.run P w = .ok v w := by
  intro s
  induction s with
  | pure a => intro v h; simp only [val?, Option.some.injEq] at h; subst h; rfl
  | program k ih => intro v h; exact ih P v h
  | mark m k ih => intro v h; exact ih v h
  | _ => intro v h; simp [val?] at h
end
end Ex
end
section
namespace Ex
section
variable {P : Program} {ro : Nat} {κ : K} {h : Hp} {w : World}
theorem sz_info {t : TypeId} {n : Nat} (e : sz P t = some n) : ∃ i, P.info? t = some i ∧ i.size = n := by
  unfold sz at e
  cases hi : P.info? t with
  | none => rw [hi] at e; cases e
  | some i => rw [hi] at e; simp only [Option.map_some, Option.some.injEq] at e; exact ⟨i, rfl, e⟩
theorem r_info {t : TypeId} {i : TypeInfo} (e : P.info? t = some i) (w : World) : (typeInfo t).run P w = .ok i w := by simp [typeInfo, e]
theorem r_size {t : TypeId} {n : Nat} (e : sz P t = some n) (w : World) : (sizeOf t).run P w = .ok n w := by
  obtain ⟨i, hi, rfl⟩ := sz_info e
  simp [sizeOf, r_info hi]
theorem r_agg {t : TypeId} {b : Bool} (e : aggT P t = some b) (w : World) : (isAgg t).run P w = .ok b w := by
  unfold aggT at e
  cases hu : P.underlying t with
  | none => rw [hu] at e; cases e
  | some d =>
    rw [hu] at e
    unfold isAgg
    simp only [Sem.run_bind, run_underlying hu, Result.andThen_ok]
    cases d <;> simp at e <;> subst e <;> rfl
theorem zero_inv {t : TypeId} {z : List Value} (e : zeroCells? P t = some z) : ∃ i zv, P.info? t = some i ∧ i.zero = some zv ∧ zv.cells.toList = z ∧ z.all closed = true ∧ z.length = i.size := by
  unfold zeroCells? at e
  simp only [Option.bind_eq_bind] at e
  obtain ⟨i, hi, e⟩ := Option.bind_eq_some_iff.1 e
  obtain ⟨zv, hz, e⟩ := Option.bind_eq_some_iff.1 e
  split at e
  · rename_i hc
    simp only [Option.some.injEq] at e
    simp only [Bool.and_eq_true, decide_eq_true_eq] at hc
    subst e
    exact ⟨i, zv, hi, hz, rfl, hc.1, hc.2⟩
  · cases e
theorem r_zero {t : TypeId} {i : TypeInfo} {z : Value} (hi : P.info? t = some i) (hz : i.zero = some z) (w : World) : (zeroValue t).run P w = .ok z w := by
  simp [zeroValue, r_info hi, hz]
theorem addr_add (b off n : Nat) : (⟨b, off, none⟩ : Addr).add n = ⟨b, off + n, none⟩ := by unfold Addr.add; split <;> simp_all
theorem VR.scalar {v v' : Value} (r : VR κ v v') : v'.oneCell' = scalar v := by cases r <;> rfl
theorem VR.cells {v v' : Value} (r : VR κ v v') : LR κ v.cells.toList v'.cells.toList := by
  have one : ∀ {v v' : Value}, VR κ v v' → LR κ [v] [v'] := fun r => LR.cons r (LR.nil κ)
  cases r with
  | agg xs xs' hx hh => exact LR.of_arr hx hh
  | bool b => exact one (.bool b)
  | int k n => exact one (.int k n)
  | string s => exact one (.string s)
  | nilFunc => exact one .nilFunc
  | nilIface => exact one .nilIface
  | ptrNil => exact one .ptrNil
  | mapNil => exact one .mapNil
  | sliceNil => exact one .sliceNil
  | ptr b off h => exact one (.ptr b off h)
  | slice b off len c off' cap' h hs => exact one (.slice b off len c off' cap' h hs)
  | map r h => exact one (.map r h)
  | yield l h => exact one (.yield l h)
  | func f xs ys xs' ys' a b c d => exact one (.func f xs ys xs' ys' a b c d)
  | iface t v v' h => exact one (.iface t v v' h)
  | tuple xs xs' hx hh => exact one (.tuple xs xs' hx hh)
theorem LR.scalars {vs vs' : List Value} (r : LR κ vs vs') (hs : vs.all scalar = true) : ∀ v ∈ vs', v.oneCell' = true := by
  induction vs generalizing vs' with
  | nil => rw [r.nil_inv]; simp
  | cons x xs ih =>
    obtain ⟨y, ys, rfl, h1, h2⟩ := r.cons_inv
    simp only [List.all_cons, Bool.and_eq_true] at hs
    intro v hv
    rcases List.mem_cons.1 hv with rfl | hv
    · rw [h1.scalar]; exact hs.1
    · exact ih h2 hs.2 v hv

/-! ### Reading -/
theorem ld_ok (H : HR P κ h.m w) {b off n : Nat} {l : List Value} (e : ldAt h b off n = some l) :
    κ.dom b ∧ l.length = n ∧ ∃ l', LR κ l l' ∧ ∀ (j : Nat) v, l'[j]? = some v → w.cell? ⟨κ.p b, off + j, none⟩ = some v := by
  unfold ldAt at e
  cases hb : h.m.get b with
  | none => rw [hb] at e; cases e
  | some o =>
    rw [hb] at e
    cases o with
    | cells c t fr =>
      simp only at e
      by_cases hn : ((c.drop off).take n).length = n
      · rw [beqT hn] at e
        simp only [cond_true, Option.some.injEq] at e
        obtain ⟨hd, o', ho', hr⟩ := H.obj b _ hb
        cases hr with
        | cells _ _ _ c' fz hn' hl hs hc hf =>
          subst e
          refine ⟨hd, hn, (c'.toList.drop off).take n, ⟨?_, fun i v v' a b => ?_⟩, fun j v hj => ?_⟩
          · rw [hn]
            simp only [List.length_take, List.length_drop, Array.length_toList] at hn ⊢
            omega
          · rw [List.getElem?_take] at a b
            split at a
            · rename_i hi
              rw [if_pos hi] at b
              rw [List.getElem?_drop] at a b
              obtain ⟨v2, hv2, r⟩ := hc _ _ a
              rw [Array.getElem?_toList, hv2] at b
              cases b; exact r
            · cases a
          · rw [List.getElem?_take] at hj
            split at hj
            · rw [List.getElem?_drop, Array.getElem?_toList] at hj
              simp [World.cell?, ho', hj]
            · cases hj
      · rw [beqF hn] at e; cases e
    | _ => cases e
theorem r_ld (H : HR P κ h.m w) {b off n : Nat} {l : List Value} (e : ldAt h b off n = some l) : ∃ l', LR κ l l' ∧ (loadCells ⟨κ.p b, off, none⟩ n).run P w = .ok l'.toArray w := by
  obtain ⟨_, hn, l', hr, hc⟩ := ld_ok H e
  refine ⟨l', hr, ?_⟩
  rw [← hn, hr.1]
  exact run_loadCells_list w _ l' fun j v hj => by rw [addr_add]; exact hc j v hj
theorem aload_ok (H : HR P κ h.m w) {t : TypeId} {a a' v : Value} (r : VR κ a a') (e : aload P t h a = some v) : ∃ v', (Instr.loadAt t a').run P w = .ok v' w ∧ VR κ v v' := by
  unfold aload at e
  cases r with
  | ptr b off hd =>
    simp only [Option.bind_eq_bind] at e
    obtain ⟨g, hg, e⟩ := Option.bind_eq_some_iff.1 e
    cases g with
    | true =>
      simp only [if_true] at e
      obtain ⟨n, hn, e⟩ := Option.bind_eq_some_iff.1 e
      obtain ⟨l, hl, e⟩ := Option.bind_eq_some_iff.1 e
      simp only [Option.some.injEq] at e; subst e
      obtain ⟨l', hr, hrun⟩ := r_ld H hl
      refine ⟨.agg l'.toArray, ?_, hr.agg⟩
      simp [Instr.loadAt, Instr.sureAddr, loadVar, r_agg hg, r_size hn, hrun]
    | false =>
      simp only [Bool.false_eq_true, if_false] at e
      obtain ⟨l, hl, e⟩ := Option.bind_eq_some_iff.1 e
      obtain ⟨_, hn, l', hr, hc⟩ := ld_ok H hl
      match l, hn, e, hr with
      | [x], _, e, hr =>
        simp only [Option.some.injEq] at e; subst e
        obtain ⟨y, ys, rfl, h1, h2⟩ := hr.cons_inv
        refine ⟨y, ?_, h1⟩
        have := hc 0 y rfl
        simp only [Nat.add_zero] at this
        simp [Instr.loadAt, Instr.sureAddr, loadVar, r_agg hg, this]
  | _ => simp at e

/-! ### Writing -/
theorem st_ok (H : HR P κ h.m w) {b off : Nat} {vs vs' : List Value} {h' : Hp} (r : LR κ vs vs') (e : stAt ro h b off vs = some h') :
    h'.c = h.c ∧ ∃ w', (storeCells ⟨κ.p b, off, none⟩ vs').run P w = .ok () w' ∧ HR P κ h'.m w' ∧ Gone ro κ κ h h' w w' := by
  unfold stAt at e
  cases hb : h.m.get b with
  | none => rw [hb] at e; cases e
  | some o =>
    rw [hb] at e
    cases o with
    | cells c t fr =>
      cases fr with
      | true => cases e
      | false =>
        simp only at e
        by_cases hc : (Nat.ble (off + vs.length) c.length && vs.all scalar) = true
        · rw [hc] at e
          simp only [cond_true] at e
          simp only [Bool.and_eq_true] at hc
          have hle : off + vs.length ≤ c.length := Nat.le_of_ble_eq_true hc.1
          obtain ⟨hd, o', ho', hr⟩ := H.obj b _ hb
          have hupd := Hp.upd_inv e
          cases hr with
          | cells _ _ _ c' fz hn' hl hs hcc hf =>
            have hfz := hf rfl
            subst hfz
            have hlen := r.1
            have hrun := run_storeCells_at P (κ.p b) off t vs' 0 c' w ho' (by simp; omega) (r.scalars hc.2)
            simp only [Nat.add_zero] at hrun
            have hlt : κ.p b < w.heap.size := (Array.getElem?_eq_some_iff.1 ho').1
            refine ⟨by rw [hupd.2], _, hrun, ?_⟩
            have hnew : (w.setRow (κ.p b) (c'.toList.take off ++ vs' ++ c'.toList.drop (off + vs'.length)).toArray).heap[κ.p b]? = some (.cells (c'.toList.take off ++ vs' ++ c'.toList.drop (off + vs'.length)).toArray t (0, 0)) :=
              setRow_heap w (κ.p b) c' _ t (0, 0) ho'
            refine go_upd H hb e (by simp [World.setRow]) hnew (fun k hk => ?_) rfl rfl rfl ?_
            · simp only [World.setRow]
              rw [Array.getElem?_modify, if_neg (Ne.symm hk)]
            · refine .cells _ _ _ _ _ ?_ ?_ hs (fun i v hv => ?_) (fun _ => rfl)
              · rw [← hn']; simp; omega
              · simp; omega
              · have hlen' : (c.take off).length = off := by simp; omega
                have hlen2 : (c'.toList.take off).length = off := by simp; omega
                simp only [List.append_assoc] at hv
                by_cases h1 : i < off
                · rw [List.getElem?_append_left (by omega), List.getElem?_take, if_pos h1] at hv
                  obtain ⟨v', a, b⟩ := hcc i v hv
                  refine ⟨v', ?_, b⟩
                  simp only [List.append_assoc, List.getElem?_toArray]
                  rw [List.getElem?_append_left (by omega), List.getElem?_take, if_pos h1, Array.getElem?_toList]; exact a
                · rw [List.getElem?_append_right (by omega), hlen'] at hv
                  by_cases h2 : i - off < vs.length
                  · rw [List.getElem?_append_left h2] at hv
                    obtain ⟨v', a, b⟩ := r.get hv
                    refine ⟨v', ?_, b⟩
                    simp only [List.append_assoc, List.getElem?_toArray]
                    rw [List.getElem?_append_right (by omega), hlen2, List.getElem?_append_left (by omega)]; exact a
                  · rw [List.getElem?_append_right (by omega), List.getElem?_drop] at hv
                    obtain ⟨v', a, b⟩ := hcc _ v hv
                    refine ⟨v', ?_, b⟩
                    simp only [List.append_assoc, List.getElem?_toArray]
                    rw [List.getElem?_append_right (by omega), hlen2, List.getElem?_append_right (by omega), List.getElem?_drop, Array.getElem?_toList, ← hlen]; exact a
        · have : (Nat.ble (off + vs.length) c.length && vs.all scalar) = false := by simpa using hc
          rw [this] at e; cases e
    | _ => cases e
theorem astore_ok (H : HR P κ h.m w) {t : TypeId} {a a' v v' : Value} {h' : Hp} (ra : VR κ a a') (rv : VR κ v v') (e : astore P ro t h a v = some h') :
    h'.c = h.c ∧ ∃ w', (Instr.storeAt t a' v').run P w = .ok () w' ∧ HR P κ h'.m w' ∧ Gone ro κ κ h h' w w' := by
  unfold astore at e
  cases ra with
  | ptr b off hd =>
    simp only [Option.bind_eq_bind] at e
    obtain ⟨n, hn, e⟩ := Option.bind_eq_some_iff.1 e
    have rc := rv.cells
    have hsz : v'.cells.size = v.cells.size := by simpa using rc.1.symm
    split at e
    · rename_i hl
      have hl' : v'.cells.size = n := by rw [hsz]; simpa using hl
      split at e
      · rename_i h0
        simp only [Option.some.injEq] at e; subst e
        have hnil : v'.cells.toList = [] := List.eq_nil_of_length_eq_zero (by simpa [h0] using hl')
        refine ⟨rfl, w, ?_, H, Gone.refl H⟩
        simp only [Instr.storeAt, Instr.sureAddr, storeVar, Sem.run_bind, Sem.run_pure, Result.andThen_ok, r_size hn, hl', ne_eq, not_true_eq_false, if_false, hnil, storeCells]
      · obtain ⟨hc, w', hrun, hH, hG⟩ := st_ok H rc e
        refine ⟨hc, w', ?_, hH, hG⟩
        simp only [Instr.storeAt, Instr.sureAddr, storeVar, Sem.run_bind, Sem.run_pure, Result.andThen_ok, r_size hn, hl', ne_eq, not_true_eq_false, if_false, hrun]
    · cases e
  | _ => simp at e

/-! ### New blocks -/
theorem new_cells (H : HR P κ h.m w) (hf : ¬κ.dom h.c) {l : List Value} {c' : Array Value} {t : TypeId} {s : Nat} {w' : World} (fr : Bool) (fz : Nat × Nat) (hs : sz P t = some s)
    (hl : ∀ (i : Nat) v, l[i]? = some v → ∃ v', c'[i]? = some v' ∧ VR κ v v') (hlen : l.length ≤ c'.size) (hz : fr = false → fz = (0, 0))
    (hw : w'.heap = w.heap.push (.cells c' t fz)) (h1 : w'.os = w.os) (h2 : w'.tape = w.tape) (h3 : w'.output = w.output) :
    HR P (κ.add h.c w.heap.size c'.size s) (h.new (.cells l t fr)).m w' ∧ Gone ro κ (κ.add h.c w.heap.size c'.size s) h (h.new (.cells l t fr)) w w' := by
  have hx := Ext.add w.heap.size c'.size s hf
  refine go_new H hf hw h1 h2 h3 (.cells _ _ _ _ _ ?_ hlen ?_ (fun i v hv => let ⟨v', a, b⟩ := hl i v hv; ⟨v', a, b.ext hx⟩) hz)
  · simp [K.add]
  · intro s2 q; rw [hs] at q; simp [K.add]; simpa using q.symm
theorem vr_new {n s : Nat} : VR (κ.add h.c w.heap.size n s) (ptr h.c 0) (.pointer (some ⟨w.heap.size, 0, none⟩)) := by
  have := VR.ptr (κ := κ.add h.c w.heap.size n s) h.c 0 (.inr rfl)
  simp only [K.add, if_true] at this
  exact this
theorem vr_slice {n s len cap : Nat} (hl : len ≤ cap) : VR (κ.add h.c w.heap.size n s) (.slice (some ⟨h.c, 0, none⟩) len (2 * cap)) (.slice (some ⟨w.heap.size, 0, none⟩) len cap) := by
  have := VR.slice (κ := κ.add h.c w.heap.size n s) h.c 0 len (2 * cap) 0 cap (.inr rfl) ⟨by omega, .inl ⟨by omega, by omega, rfl⟩⟩
  simp only [K.add, if_true] at this
  exact this
theorem vr_sliceU {n s len cap cap' : Nat} (hl : len ≤ cap) (hc : cap ≤ cap') (hb : cap' * s ≤ n) :
    VR (κ.add h.c w.heap.size n s) (.slice (some ⟨h.c, 0, none⟩) len (2 * cap + 1)) (.slice (some ⟨w.heap.size, 0, none⟩) len cap') := by
  have := VR.slice (κ := κ.add h.c w.heap.size n s) h.c 0 len (2 * cap + 1) 0 cap' (.inr rfl) ⟨by omega, .inr ⟨by omega, by omega, fun _ => rfl, by simp [K.add]; omega⟩⟩
  simp only [K.add, if_true] at this
  exact this
theorem arr_same {l : List Value} {c' : Array Value} (r : LR κ l c'.toList) : ∀ (i : Nat) v, l[i]? = some v → ∃ v', c'[i]? = some v' ∧ VR κ v v' := fun i v hv => by
  obtain ⟨v', a, b⟩ := r.get hv
  exact ⟨v', by rw [← Array.getElem?_toList]; exact a, b⟩
theorem alloc_ok (H : HR P κ h.m w) (hf : ¬κ.dom h.c) {t : TypeId} {z : List Value} (e : zeroCells? P t = some z) :
    ∃ v' w' κ', (Instr.alloc t true (.tuple #[])).run P w = .ok v' w' ∧ HR P κ' (h.new (.cells z t false)).m w' ∧ Gone ro κ κ' h (h.new (.cells z t false)) w w' ∧ VR κ' (ptr h.c 0) v' := by
  obtain ⟨i, zv, hi, hz, rfl, hcl, hlen⟩ := zero_inv e
  obtain ⟨a, b⟩ := new_cells (ro := ro) (s := i.size) (w' := { w with heap := w.heap.push (.cells zv.cells t) }) H hf false (0, 0) (by simp [sz, hi])
    (arr_same (LR.of_closed κ _ hcl)) (by simp) (fun _ => rfl) rfl rfl rfl rfl
  exact ⟨.pointer (some ⟨w.heap.size, 0, none⟩), _, _, by simp [Instr.alloc, r_zero hi hz, newVar, newRow], a, b, vr_new⟩
theorem box_ok (H : HR P κ h.m w) (hf : ¬κ.dom h.c) {t : TypeId} {s : Nat} {v v' : Value} (r : VR κ v v') (e : sz P t = some s) :
    ∃ u' w' κ', (Instr.box t v').run P w = .ok u' w' ∧ HR P κ' (h.new (.cells v.cells.toList t false)).m w' ∧ Gone ro κ κ' h (h.new (.cells v.cells.toList t false)) w w' ∧ VR κ' (ptr h.c 0) u' := by
  obtain ⟨a, b⟩ := new_cells (ro := ro) (s := s) (w' := { w with heap := w.heap.push (.cells v'.cells t) }) H hf false (0, 0) e (arr_same r.cells) (by have := r.cells.1; simp at this; simp; omega) (fun _ => rfl) rfl rfl rfl rfl
  exact ⟨.pointer (some ⟨w.heap.size, 0, none⟩), _, _, by simp [Instr.box, newVar, newRow], a, b, vr_new⟩
theorem rep_range (z : Array Value) : ∀ n : Nat, ((Array.range (n * z.size)).map (z[· % z.size]!)).toList = rep z.toList n := by
  intro n
  induction n with
  | zero => simp [rep]
  | succ n ih =>
    simp only [Array.toList_map, Array.toList_range, rep] at ih ⊢
    rw [Nat.succ_mul, Nat.add_comm, List.range_add, List.map_append, List.map_map, ← ih]
    congr 1
    · apply List.ext_getElem (by simp)
      intro i h1 h2
      have hi : i < z.size := by simpa using h1
      simp [Nat.mod_eq_of_lt hi, hi]
    · apply List.map_congr_left
      intro i _
      simp
theorem asI_inv {v v' : Value} {i : Int} (r : VR κ v v') (e : asI v = some i) : ∃ k, v' = .int k i := by
  cases r with
  | int k n => simp only [asI, Option.some.injEq] at e; subst e; exact ⟨k, rfl⟩
  | _ => simp [asI] at e
theorem makeSlice_ok (H : HR P κ h.m w) {t : TypeId} {l l' c c' v : Value} {h' : Hp} (rl : VR κ l l') (rc : VR κ c c') (e : amakeSlice P t h l c = some (v, h')) :
    h'.c = h.c + 1 ∧ (¬κ.dom h.c → ∃ v' w' κ', (Instr.makeSlice t l' c').run P w = .ok v' w' ∧ HR P κ' h'.m w' ∧ Gone ro κ κ' h h' w w' ∧ VR κ' v v') := by
  unfold amakeSlice at e
  simp only [Option.bind_eq_bind] at e
  obtain ⟨d, hd, e⟩ := Option.bind_eq_some_iff.1 e
  cases d with
  | slice elem =>
    simp only at e
    obtain ⟨li, hli, e⟩ := Option.bind_eq_some_iff.1 e
    obtain ⟨ci, hci, e⟩ := Option.bind_eq_some_iff.1 e
    obtain ⟨i, hi, e⟩ := Option.bind_eq_some_iff.1 e
    obtain ⟨z, hz, e⟩ := Option.bind_eq_some_iff.1 e
    split at e
    · rename_i hb
      simp only [Option.some.injEq, Prod.mk.injEq] at e
      obtain ⟨rfl, rfl⟩ := e
      refine ⟨rfl, fun hf => ?_⟩
      obtain ⟨i', zv, hi', hz', hzl, hcl, hlen⟩ := zero_inv hz
      rw [hi] at hi'; cases hi'
      obtain ⟨kl, rfl⟩ := asI_inv rl hli
      obtain ⟨kc, rfl⟩ := asI_inv rc hci
      obtain ⟨h0, hlc, hc48, hby⟩ := hb
      have w1 : IntKind.i64.wrap li = li := IntWalk.i64_in _ (by omega)
      have w2 : IntKind.i64.wrap ci = ci := IntWalk.i64_in _ (by omega)
      have hzs : zv.cells.size = i.size := by rw [← hlen, ← hzl]; simp
      have hn : ¬ (i.bytes : Int) * ci > 2 ^ 48 := by omega
      have hcells : ∃ c' : Array Value, c'.toList = rep z ci.toNat ∧
          (Array.range (ci.toNat * i.size)).map ((if ci.toNat * i.size = 0 then #[] else zv.cells)[· % (if ci.toNat * i.size = 0 then #[] else zv.cells).size]!) = c' := by
        by_cases hz0 : ci.toNat * i.size = 0
        · refine ⟨#[], ?_, by simp [hz0]⟩
          have : rep z ci.toNat = [] := by
            rcases Nat.mul_eq_zero.1 hz0 with q | q
            · rw [q]; rfl
            · have : z = [] := List.eq_nil_of_length_eq_zero (by omega)
              subst this
              have : ∀ k, rep ([] : List Value) k = [] := fun k => by induction k with | zero => rfl | succ k ih => simp [rep, ih]
              exact this _
          rw [this]
        · refine ⟨_, ?_, rfl⟩
          rw [if_neg hz0, ← hzs, rep_range, hzl]
      obtain ⟨cc, hcc, hmap⟩ := hcells
      obtain ⟨a, b⟩ := new_cells (ro := ro) (s := i.size) (c' := cc) (w' := { w with heap := w.heap.push (.cells cc elem) }) H hf false (0, 0) (by simp [sz, hi])
        (arr_same (by
          rw [hcc]
          have hall : ∀ k, (rep z k).all closed = true := fun k => by induction k with | zero => rfl | succ k ih => simp [rep, ih, hcl]
          exact LR.of_closed κ _ (hall _))) (by rw [← Array.length_toList, hcc]; exact Nat.le_refl _) (fun _ => rfl) rfl rfl rfl rfl
      refine ⟨.slice (some ⟨w.heap.size, 0, none⟩) li.toNat ci.toNat, _, _, ?_, a, b, vr_slice (by omega)⟩
      have e1 : (decide (ci < 0) || decide ((i.bytes : Int) * ci > 2 ^ 48)) = false := by
        simp only [Bool.or_eq_false_iff, decide_eq_false_iff_not]; exact ⟨by omega, hn⟩
      have e2 : decide (li < 0) = false := by simp; omega
      have e3 : decide (li > ci) = false := by simp; omega
      have hs : sz P elem = some i.size := by simp [sz, hi]
      simp only [Instr.makeSlice, Sem.run_bind, run_underlying hd, Result.andThen_ok, asInt, asIntOf, Sem.run_pure, r_info hi, w1, w2, e1, e2, e3, Bool.or_false, Bool.false_eq_true, if_false, run_askRoom, r_size hs]
      by_cases hz0 : ci.toNat * i.size = 0
      · simp only [hz0, if_true] at hmap ⊢
        simp only [Sem.run_bind, Sem.run_pure, Result.andThen_ok, newRow, run_newObj, hmap]
      · simp only [hz0, if_false] at hmap ⊢
        simp only [Sem.run_bind, Sem.run_pure, Result.andThen_ok, newRow, run_newObj, r_zero hi hz', hmap]
    · cases e
  | _ => simp at e
end
end Ex
end
section
namespace Ex
section
variable {P : Program} {ro : Nat} {κ : K} {h : Hp} {w : World}
theorem cval_inv {s : Sem Value} {v : Value} (e : cval? P s = some v) : val? P s = some v ∧ closed v = true := by
  unfold cval? at e
  cases hv : val? P s with
  | none => rw [hv] at e; cases e
  | some u =>
    rw [hv] at e
    simp only at e
    split at e
    · rename_i hc; cases e; exact ⟨rfl, hc⟩
    · cases e
theorem cval_run {s : Sem Value} {v : Value} (e : cval? P s = some v) (κ : K) (w : World) : s.run P w = .ok v w ∧ VR κ v v := by
  obtain ⟨a, b⟩ := cval_inv e
  exact ⟨val?_run w s v a, VR.of_closed κ 4 v b⟩
theorem sbound_ok {y d n : Nat} {x x' : Option Value} (r : match x, x' with | none, none => True | some a, some b => VR κ a b | _, _ => False) (e : sbound y x d = some n) (code : BoundsCode) :
    (x = none ∧ x' = none ∧ n = d) ∨ ∃ v v', x = some v ∧ x' = some v' ∧ n ≤ y ∧ ∀ (y' : Nat) (w : World), n ≤ y' → (Instr.sliceBound v' y' code).run P w = .ok n w := by
  cases x with
  | none =>
    cases x' with
    | none => simp only [sbound, Option.some.injEq] at e; exact .inl ⟨rfl, rfl, e.symm⟩
    | some b => exact r.elim
  | some a =>
    cases x' with
    | none => exact r.elim
    | some b =>
      simp only at r
      cases r with
      | int k i =>
        simp only [sbound] at e
        split at e
        · rename_i hb
          simp only [Option.some.injEq] at e
          refine .inr ⟨_, _, rfl, rfl, by omega, fun y' w hy => ?_⟩
          have : 0 ≤ i ∧ i ≤ (y' : Int) := by omega
          simp only [Instr.sliceBound, Sem.run_bind, asIntOf, Sem.run_pure, Result.andThen_ok, this, and_self, if_true, e]
        · cases e
      | _ => simp [sbound] at e
def OptR (κ : K) (x x' : Option Value) : Prop := match x, x' with | none, none => True | some a, some b => VR κ a b | _, _ => False
theorem bounds_ok {isSlice : Bool} {len cap cap' : Nat} {lo hi mx lo' hi' mx' : Option Value} {l hh m : Nat} (hcap : mx = none → m = cap) (hle : cap ≤ cap')
    (rl : OptR κ lo lo') (rh : OptR κ hi hi') (rm : OptR κ mx mx') (em : sbound cap mx cap = some m) (eh : sbound m hi len = some hh) (el : sbound hh lo 0 = some l)
    (hx : (mx.isSome && hi.isNone) = false) (w : World) :
    (Instr.sliceBounds isSlice len cap' lo' hi' mx').run P w = .ok (l, hh, if mx.isSome then m else cap') w := by
  unfold Instr.sliceBounds
  rcases sbound_ok (P := P) rm em (if isSlice then .slice3Acap else .slice3Alen) with ⟨rfl, rfl, em'⟩ | ⟨vm, vm', rfl, rfl, hmc, hm⟩
  · rcases sbound_ok (P := P) rh eh (if isSlice then .sliceAcap else .sliceAlen) with ⟨rfl, rfl, eh'⟩ | ⟨vh, vh', rfl, rfl, hhm, hh'⟩
    · rcases sbound_ok (P := P) rl el .sliceB with ⟨rfl, rfl, el'⟩ | ⟨vl, vl', rfl, rfl, hlh, hl⟩
      · simp [eh', el']
      · simp [← eh', hl hh w hlh]
    · rcases sbound_ok (P := P) rl el .sliceB with ⟨rfl, rfl, el'⟩ | ⟨vl, vl', rfl, rfl, hlh, hl⟩
      · simp [el', hh' cap' w (by omega)]
      · simp [hh' cap' w (by omega), hl hh w hlh]
  · rcases sbound_ok (P := P) rh eh .slice3B with ⟨rfl, rfl, eh'⟩ | ⟨vh, vh', rfl, rfl, hhm, hh'⟩
    · simp at hx
    · rcases sbound_ok (P := P) rl el .slice3C with ⟨rfl, rfl, el'⟩ | ⟨vl, vl', rfl, rfl, hlh, hl⟩
      · simp [el', hm cap' w (by omega), hh' m w (by omega)]
      · simp [hm cap' w (by omega), hh' m w (by omega), hl hh w hlh]
theorem sbound_le {y d n : Nat} {x : Option Value} (e : sbound y x d = some n) : (x = none ∧ n = d) ∨ (x ≠ none ∧ n ≤ y) := by
  cases x with
  | none => simp only [sbound, Option.some.injEq] at e; exact .inl ⟨rfl, e.symm⟩
  | some a =>
    cases a with
    | int k i =>
      simp only [sbound] at e
      split at e
      · simp only [Option.some.injEq] at e; exact .inr ⟨by simp, by omega⟩
      · cases e
    | _ => simp [sbound] at e
theorem sbounds_le {cap len l hh m : Nat} {lo hi mx : Option Value} (em : sbound cap mx cap = some m) (eh : sbound m hi len = some hh) (el : sbound hh lo 0 = some l)
    (hx : ¬(mx.isSome && hi.isNone) = true) (hl : len ≤ cap) : m ≤ cap ∧ hh ≤ m ∧ l ≤ hh ∧ (mx = none → m = cap) := by
  have hm : m ≤ cap ∧ (mx = none → m = cap) := by
    rcases sbound_le em with ⟨a, b⟩ | ⟨a, b⟩
    · exact ⟨by omega, fun _ => b⟩
    · exact ⟨b, fun e => absurd e a⟩
  have h2 : hh ≤ m := by
    rcases sbound_le eh with ⟨a, b⟩ | ⟨a, b⟩
    · have : mx = none := by
        cases mx with
        | none => rfl
        | some x => subst a; simp at hx
      have := hm.2 this
      omega
    · exact b
  have h3 : l ≤ hh := by
    rcases sbound_le el with ⟨_, b⟩ | ⟨_, b⟩ <;> omega
  exact ⟨hm.1, h2, h3, hm.2⟩
theorem vr_sliced {b off off' c l hh m m' size : Nat} (hd : κ.dom b) (hs : (c % 2 = 0 ∧ m' = m ∧ off' = off) ∨ (c % 2 = 1 ∧ m ≤ m' ∧ off' = off ∧ off' + m' * κ.s b ≤ κ.n b ∧ size = κ.s b))
    (h1 : hh ≤ m) (h2 : l ≤ hh) :
    VR κ (.slice (some (if m = l then ⟨b, off, none⟩ else ⟨b, off + l * size, none⟩)) (hh - l) (2 * (m - l) + c % 2))
      (.slice (some (if m' = l then ⟨κ.p b, off', none⟩ else (⟨κ.p b, off', none⟩ : Addr).add (l * size))) (hh - l) (m' - l)) := by
  have e1 : (if m = l then (⟨b, off, none⟩ : Addr) else ⟨b, off + l * size, none⟩) = ⟨b, if m = l then off else off + l * size, none⟩ := by split <;> rfl
  have e2 : (if m' = l then (⟨κ.p b, off', none⟩ : Addr) else (⟨κ.p b, off', none⟩ : Addr).add (l * size)) = ⟨κ.p b, if m' = l then off' else off' + l * size, none⟩ := by
    split
    · rfl
    · rw [addr_add]
  rw [e1, e2]
  refine .slice _ _ _ _ _ _ hd ⟨by omega, ?_⟩
  rcases hs with ⟨hc, rfl, rfl⟩ | ⟨hc, hm, rfl, hb, rfl⟩
  · exact .inl ⟨by omega, by omega, rfl⟩
  · refine .inr ⟨by omega, by omega, fun hp => ?_, ?_⟩
    · rw [if_neg (by omega), if_neg (by omega)]
    · have key : l * κ.s b + (m' - l) * κ.s b = m' * κ.s b := by rw [← Nat.add_mul]; congr 1; omega
      split
      · rename_i e; have : m' - l = 0 := by omega
        rw [this]; omega
      · omega
theorem aslice_ok (H : HR P κ h.m w) {t : TypeId} {x x' v : Value} {lo lo' hi hi' mx mx' : Option Value} (r : VR κ x x') (rl : OptR κ lo lo') (rh : OptR κ hi hi') (rm : OptR κ mx mx')
    (e : aslice P h t x lo hi mx = some v) : ∃ v', (Instr.sliceAt t x' lo' hi' mx').run P w = .ok v' w ∧ VR κ v v' := by
  unfold aslice at e
  simp only [Option.bind_eq_bind] at e
  obtain ⟨d, hd, e⟩ := Option.bind_eq_some_iff.1 e
  split at e
  · rename_i n elem b off _
    obtain ⟨m, em, e⟩ := Option.bind_eq_some_iff.1 e
    obtain ⟨hh, eh, e⟩ := Option.bind_eq_some_iff.1 e
    obtain ⟨l, el, e⟩ := Option.bind_eq_some_iff.1 e
    obtain ⟨size, hs, e⟩ := Option.bind_eq_some_iff.1 e
    split at e
    · cases e
    · rename_i hx
      simp only [Option.some.injEq] at e; subst e
      cases r with
      | ptr _ _ hdb =>
        obtain ⟨h1, h2, h3, h4⟩ := sbounds_le em eh el hx (Nat.le_refl n)
        have hb := bounds_ok (P := P) (isSlice := false) h4 (Nat.le_refl n) rl rh rm em eh el (by simpa only [Bool.not_eq_true] using hx) w
        have hm : (if mx.isSome = true then m else n) = m := by
          cases mx with
          | none => simp; exact (h4 rfl).symm
          | some x => simp
        rw [hm] at hb
        refine ⟨_, by simp only [Instr.sliceAt, Sem.run_bind, run_underlying hd, Result.andThen_ok, Instr.sureAddr, Sem.run_pure, hb, r_size hs]; rfl, ?_⟩
        exact vr_sliced (c := 0) hdb (.inl ⟨rfl, rfl, rfl⟩) h2 h3
  · rename_i elem b off len c _
    obtain ⟨m, em, e⟩ := Option.bind_eq_some_iff.1 e
    obtain ⟨hh, eh, e⟩ := Option.bind_eq_some_iff.1 e
    obtain ⟨l, el, e⟩ := Option.bind_eq_some_iff.1 e
    obtain ⟨size, hs, e⟩ := Option.bind_eq_some_iff.1 e
    split at e
    · cases e
    · rename_i hx
      split at e
      · cases e
      · rename_i hu
        simp only [Option.some.injEq] at e; subst e
        cases r with
        | slice _ _ _ _ off' cap' hdb hsl =>
          obtain ⟨hlen, hsl⟩ := hsl
          obtain ⟨h1, h2, h3, h4⟩ := sbounds_le em eh el hx hlen
          have hcc : c / 2 ≤ cap' := by rcases hsl with ⟨_, a, _⟩ | ⟨_, a, _⟩ <;> omega
          have hb := bounds_ok (P := P) (isSlice := true) h4 hcc rl rh rm em eh el (by simpa only [Bool.not_eq_true] using hx) w
          refine ⟨_, by simp only [Instr.sliceAt, Instr.slice, Sem.run_bind, run_underlying hd, Result.andThen_ok, Sem.run_pure, hb, r_size hs]; rfl, ?_⟩
          have hsm : ∀ m', (if m' = l then some (⟨κ.p b, off', none⟩ : Addr) else Option.map (fun x : Addr => x.add (l * size)) (some (⟨κ.p b, off', none⟩ : Addr))) = some (if m' = l then ⟨κ.p b, off', none⟩ else (⟨κ.p b, off', none⟩ : Addr).add (l * size)) := by
            intro m'; split <;> rfl
          rw [hsm]
          cases mx with
          | some x =>
            simp only [Option.isSome_some, if_true]
            rcases hsl with ⟨hc, hcap, ho⟩ | ⟨hc, hcap, ho, hbnd⟩
            · exact vr_sliced (c := 0) hdb (.inl ⟨rfl, rfl, ho⟩) h2 h3
            · have hpos : c / 2 ≠ 0 := by
                intro q; apply hu; simp [hc, q]
              exact vr_sliced (c := 0) hdb (.inl ⟨rfl, rfl, ho (by omega)⟩) h2 h3
          | none =>
            simp only [Option.isSome_none, Bool.false_eq_true, if_false]
            rcases hsl with ⟨hc, hcap, ho⟩ | ⟨hc, hcap, ho, hbnd⟩
            · exact vr_sliced (c := c) hdb (.inl ⟨hc, by rw [hcap, h4 rfl], ho⟩) h2 h3
            · have hu' : ¬(c / 2 = 0) ∧ elemIs h b elem = true := by
                constructor
                · intro q; apply hu; simp [hc, q]
                · cases hq : elemIs h b elem with
                  | true => rfl
                  | false => exact absurd (by simp [hc, hq]) hu
              have hsz : size = κ.s b := by
                have := hu'.2
                unfold elemIs at this
                split at this
                · rename_i cc tt fr hob
                  have htt : tt = elem := by simpa using this
                  obtain ⟨_, o', _, hor⟩ := H.obj b _ hob
                  cases hor with
                  | cells _ _ _ _ _ _ _ hss _ _ => rw [htt] at hss; exact hss size hs
                · cases this
              exact vr_sliced (c := c) hdb (.inr ⟨hc, by rw [h4 rfl]; exact hcap, ho (by omega), hbnd, hsz⟩) h2 h3
  · rename_i elem _
    obtain ⟨m, em, e⟩ := Option.bind_eq_some_iff.1 e
    obtain ⟨hh, eh, e⟩ := Option.bind_eq_some_iff.1 e
    obtain ⟨l, el, e⟩ := Option.bind_eq_some_iff.1 e
    obtain ⟨size, hs, e⟩ := Option.bind_eq_some_iff.1 e
    split at e
    · cases e
    · rename_i hx
      simp only [Option.some.injEq] at e; subst e
      cases r with
      | sliceNil =>
        obtain ⟨h1, h2, h3, h4⟩ := sbounds_le em eh el hx (Nat.le_refl 0)
        have hb := bounds_ok (P := P) (isSlice := true) h4 (Nat.le_refl 0) rl rh rm em eh el (by simpa only [Bool.not_eq_true] using hx) w
        have em0 : m = 0 := by omega
        have eh0 : hh = 0 := by omega
        have el0 : l = 0 := by omega
        subst em0; subst eh0; subst el0
        refine ⟨.slice none 0 0, ?_, .sliceNil⟩
        simp only [Instr.sliceAt, Instr.slice, Sem.run_bind, run_underlying hd, Result.andThen_ok, Sem.run_pure, hb, r_size hs]
        cases mx <;> rfl
  · rename_i x1 x2 x3
    split at e
    · rename_i hc
      obtain ⟨hrun, hv⟩ := cval_run e κ w
      simp only [Bool.and_eq_true] at hc
      have hx := r.closed hc.1.1.1
      have opt : ∀ {a a' : Option Value}, OptR κ a a' → a.elim true closed = true → a' = a := by
        intro a a' ra hca
        cases a with
        | none => cases a' with
          | none => rfl
          | some _ => exact ra.elim
        | some a => cases a' with
          | none => exact ra.elim
          | some b => rw [VR.closed ra hca]
      rw [hx, opt rl hc.1.1.2, opt rh hc.1.2, opt rm hc.2]
      exact ⟨v, hrun, hv⟩
    · cases e
end
end Ex
end
section
namespace Ex
section
variable {P : Program} {ro : Nat} {κ : K} {h : Hp} {w : World}
theorem indexAddr_ok {t : TypeId} {x x' i i' v : Value} (r : VR κ x x') (ri : VR κ i i') (e : aindexAddr P t x i = some v) : ∃ v', (Instr.indexAt t x' i').run P w = .ok v' w ∧ VR κ v v' := by
  unfold aindexAddr at e
  simp only [Option.bind_eq_bind] at e
  obtain ⟨n, hi, e⟩ := Option.bind_eq_some_iff.1 e
  obtain ⟨d, hd, e⟩ := Option.bind_eq_some_iff.1 e
  obtain ⟨k, rfl⟩ := asI_inv ri hi
  split at e
  · obtain ⟨s, hs, e⟩ := Option.bind_eq_some_iff.1 e
    split at e
    · rename_i hlt
      simp only [Option.some.injEq] at e; subst e
      cases r with
      | ptr b off hdb =>
        refine ⟨_, ?_, .ptr _ _ hdb⟩
        simp only [Instr.indexAt, Sem.run_bind, asIntOf, Sem.run_pure, Result.andThen_ok, run_underlying hd, Instr.sureAddr, hlt, and_self, if_true, r_size hs, addr_add]
    · cases e
  · obtain ⟨s, hs, e⟩ := Option.bind_eq_some_iff.1 e
    split at e
    · rename_i hlt
      simp only [Option.some.injEq] at e; subst e
      cases r with
      | slice b off len c off' cap' hdb hsl =>
        obtain ⟨hl, hsl⟩ := hsl
        have ho : _ = _ := hsl.elim (fun a => a.2.2) (fun a => a.2.2.1 (by omega))
        subst ho
        refine ⟨_, ?_, .ptr _ _ hdb⟩
        simp only [Instr.indexAt, Sem.run_bind, asIntOf, Sem.run_pure, Result.andThen_ok, run_underlying hd, hlt, and_self, if_true, r_size hs, addr_add]
    · cases e
  · cases e
theorem fieldAddr_ok {t : TypeId} {x x' v : Value} {f : Nat} (r : VR κ x x') (e : afieldAddr P t x f = some v) : ∃ v', (Instr.fieldAt t x' f).run P w = .ok v' w ∧ VR κ v v' := by
  unfold afieldAddr at e
  simp only [Option.bind_eq_bind] at e
  obtain ⟨d, hd, e⟩ := Option.bind_eq_some_iff.1 e
  split at e
  · obtain ⟨fl, hf, e⟩ := Option.bind_eq_some_iff.1 e
    obtain ⟨n, hn, e⟩ := Option.bind_eq_some_iff.1 e
    split at e
    · cases e
    · rename_i h0
      simp only [Option.some.injEq] at e; subst e
      cases r with
      | ptr b off hdb =>
        refine ⟨_, ?_, .ptr _ _ hdb⟩
        simp only [Instr.fieldAt, Sem.run_bind, run_underlying hd, Result.andThen_ok, hf, Instr.sureAddr, Sem.run_pure, fieldPlace, r_size hn, h0, if_false, addr_add]
  · cases e
theorem part_ok {t : TypeId} {cs : List Value} {xs : Array Value} {off : Nat} {v : Value} (r : LR κ cs xs.toList) (e : apart P t cs off = some v) : ∃ v', (part t xs off).run P w = .ok v' w ∧ VR κ v v' := by
  unfold apart at e
  simp only [Option.bind_eq_bind] at e
  obtain ⟨g, hg, e⟩ := Option.bind_eq_some_iff.1 e
  cases g with
  | true =>
    simp only [if_true] at e
    obtain ⟨n, hn, e⟩ := Option.bind_eq_some_iff.1 e
    simp only [Option.some.injEq] at e; subst e
    refine ⟨.agg (xs.extract off (off + n)), ?_, ?_⟩
    · simp [part, r_agg hg, r_size hn]
    · have := ((r.drop off).take n).agg
      have hx : xs.extract off (off + n) = ((xs.toList.drop off).take n).toArray := by
        apply Array.ext'
        simp [List.extract_eq_take_drop]
      rw [hx]; exact this
  | false =>
    simp only [Bool.false_eq_true, if_false] at e
    obtain ⟨v', a, b⟩ := r.get e
    rw [Array.getElem?_toList] at a
    exact ⟨v', by simp [part, r_agg hg, a], b⟩
theorem VR.agg_inv {cs : Array Value} {x' : Value} (r : VR κ (.agg cs) x') : ∃ xs, x' = .agg xs ∧ LR κ cs.toList xs.toList := by
  cases r with
  | agg _ xs hx hh => exact ⟨xs, rfl, LR.of_arr hx hh⟩
theorem field_ok {t : TypeId} {x x' v : Value} {f : Nat} (r : VR κ x x') (e : afield P t x f = some v) : ∃ v', (Instr.field t x' f).run P w = .ok v' w ∧ VR κ v v' := by
  unfold afield at e
  simp only [Option.bind_eq_bind] at e
  obtain ⟨d, hd, e⟩ := Option.bind_eq_some_iff.1 e
  split at e
  · obtain ⟨fl, hf, e⟩ := Option.bind_eq_some_iff.1 e
    obtain ⟨xs, rfl, hl⟩ := r.agg_inv
    obtain ⟨v', a, b⟩ := part_ok (w := w) hl e
    exact ⟨v', by simp [Instr.field, run_underlying hd, hf, asAgg, a], b⟩
  · cases e
theorem index_ok {t : TypeId} {x x' i i' v : Value} (r : VR κ x x') (ri : VR κ i i') (e : aindex P t x i = some v) : ∃ v', (Instr.index t x' i').run P w = .ok v' w ∧ VR κ v v' := by
  unfold aindex at e
  simp only [Option.bind_eq_bind] at e
  obtain ⟨n, hi, e⟩ := Option.bind_eq_some_iff.1 e
  obtain ⟨d, hd, e⟩ := Option.bind_eq_some_iff.1 e
  split at e
  · obtain ⟨s, hs, e⟩ := Option.bind_eq_some_iff.1 e
    obtain ⟨k, rfl⟩ := asI_inv ri hi
    obtain ⟨xs, rfl, hl⟩ := r.agg_inv
    split at e
    · rename_i hlt
      obtain ⟨v', a, b⟩ := part_ok (w := w) hl e
      exact ⟨v', by simp [Instr.index, asIntOf, run_underlying hd, hlt, r_size hs, a], b⟩
    · cases e
  · cases r with
    | string s =>
      obtain ⟨a, b⟩ := cval_run e κ w
      have : i' = i := by
        cases ri with
        | int k n => rfl
        | _ => simp [asI] at hi
      rw [this]
      exact ⟨v, a, b⟩
  · cases e
theorem arrayAt_ok {t : TypeId} {x x' v : Value} (r : VR κ x x') (e : aarrayAt P t x = some v) : ∃ v', (Instr.arrayAt t x').run P w = .ok v' w ∧ VR κ v v' := by
  unfold aarrayAt at e
  simp only [Option.bind_eq_bind] at e
  obtain ⟨d, hd, e⟩ := Option.bind_eq_some_iff.1 e
  split at e
  · split at e
    · split at e
      · cases e
      · rename_i h0
        split at e
        · cases e
        · rename_i hlt
          simp only [Option.some.injEq] at e; subst e
          cases r with
          | slice b off len c off' cap' hdb hsl =>
            obtain ⟨hl, hsl⟩ := hsl
            have ho : _ = _ := hsl.elim (fun a => a.2.2) (fun a => a.2.2.1 (by omega))
            subst ho
            exact ⟨_, by simp only [Instr.arrayAt, Sem.run_bind, run_underlying hd, Result.andThen_ok, hlt, if_false, Sem.run_pure], .ptr _ _ hdb⟩
    · cases e
  · cases e
theorem nilCheck_ok {x x' v : Value} (r : VR κ x x') (e : anilCheck x = some v) (o : Oper) (y : Operand) (ρ : Operand → Value) (ho : o.op = .nilCheck y) (hy : ρ y = x') :
    ∃ v', (execOp ρ o).run P w = .ok (.value v') w ∧ VR κ v v' := by
  unfold anilCheck at e
  split at e
  · simp only [Option.some.injEq] at e; subst e
    cases r with
    | ptr b off hdb => exact ⟨_, by simp [execOp, ho, hy], .ptr _ _ hdb⟩
  · simp only [Option.some.injEq] at e; subst e
    cases r with
    | iface t v v' hv => exact ⟨_, by simp [execOp, ho, hy], .iface _ _ _ hv⟩
  · simp only [Option.some.injEq] at e; subst e
    cases r with
    | func f xs ys xs' ys' a b c d => exact ⟨_, by simp [execOp, ho, hy], .func _ _ _ _ _ a b c d⟩
  · simp only [Option.some.injEq] at e; subst e
    cases r with
    | mapNil => exact ⟨_, by simp [execOp, ho, hy], .mapNil⟩
    | map r hr => exact ⟨_, by simp [execOp, ho, hy], .map _ hr⟩
  · cases e
theorem assert_ok {x x' v : Value} {xt a : TypeId} {ok : Bool} (r : VR κ x x') (e : aassert P x a ok = some v) : ∃ v', (Instr.typeAssert x' xt a ok).run P w = .ok v' w ∧ VR κ v v' := by
  unfold aassert at e
  simp only [Option.bind_eq_bind] at e
  obtain ⟨d, hd, e⟩ := Option.bind_eq_some_iff.1 e
  split at e
  · cases e
  · rename_i t u hne _
    split at e
    · rename_i ht
      simp only [Option.some.injEq] at e; subst e; subst ht
      cases r with
      | iface _ _ u' hu =>
        have hd' : ∀ ms, d ≠ .interface ms := fun ms q => hne ms q
        refine ⟨if ok then .tuple #[u', .bool true] else u', ?_, ?_⟩
        · simp only [Instr.typeAssert, Sem.run_bind, run_underlying hd, Result.andThen_ok]
          cases d <;> first | exact absurd rfl (hd' _) | simp
        · cases ok with
          | true => exact (LR.cons hu (LR.cons (.bool true) (LR.nil κ))).tuple
          | false => exact hu
    · cases e
  · cases e
/-! ### Comparisons -/
theorem cell_plain (H : HR P κ h.m w) {b : Nat} {c : List Value} {t : TypeId} (hb : h.m.get b = some (.cells c t false)) : ∃ c', w.heap[κ.p b]? = some (.cells c' t (0, 0)) := by
  obtain ⟨_, o', ho', hr⟩ := H.obj b _ hb
  cases hr with
  | cells _ _ _ c' fz _ _ _ _ hf => rw [hf rfl] at ho'; exact ⟨c', ho'⟩
theorem sameAddr_apart {a b o o' : Nat} {t t' : TypeId} {c c' : Array Value} (hne : a ≠ b) (ha : w.heap[a]? = some (.cells c t (0, 0))) (hb : w.heap[b]? = some (.cells c' t' (0, 0))) :
    (sameAddr ⟨a, o, none⟩ ⟨b, o', none⟩).run P w = .ok false w := by
  have fa : ∀ o, w.frozen? ⟨a, o, none⟩ = false := fun o => by simp [World.frozen?, ha]
  have fb : ∀ o, w.frozen? ⟨b, o, none⟩ = false := fun o => by simp [World.frozen?, hb]
  have sa : w.shape? a = some (t, c.size) := by simp [World.shape?, ha]
  have sb : w.shape? b = some (t', c'.size) := by simp [World.shape?, hb]
  have hb' : (a == b) = false := by simpa using hne
  simp [sameAddr, hb', fa, fb, noView, viewAt, sa, sb, mayBeOne, stringish]
theorem sameAddr_one {a o o' : Nat} : (sameAddr ⟨a, o, none⟩ ⟨a, o', none⟩).run P w = .ok (o == o') w := by
  have : ((⟨a, o, none⟩ : Addr) == ⟨a, o', none⟩) = (o == o') := by rw [Bool.eq_iff_iff]; simp
  simp only [sameAddr, beq_self_eq_true, if_true, Sem.run_pure, this]
theorem aeq_ok (H : HR P κ h.m w) {t : TypeId} {x x' y y' : Value} {b : Bool} (rx : VR κ x x') (ry : VR κ y y') (e : aeq P t h x y = some b) :
    (Op.equal t x' y').run P w = .ok b w ∧ (∀ op ox oy, (eqGuard op t ox oy x' y').run P w = .ok () w) ∧ binOp .eql t x' y' = (do pure (.bool (← Op.equal t x' y'))) ∧ binOp .neq t x' y' = (do pure (.bool (!(← Op.equal t x' y')))) := by
  unfold aeq at e
  simp only [Option.bind_eq_bind] at e
  obtain ⟨d, hd, e2⟩ := Option.bind_eq_some_iff.1 e
  clear e
  have e := e2
  clear e2
  suffices h1 : (∀ dd, (Op.equalIn (dd + 1) t x' y').run P w = .ok b w) ∧ (∀ op ox oy, (eqGuard op t ox oy x' y').run P w = .ok () w) ∧ binOp .eql t x' y' = (do pure (.bool (← Op.equal t x' y'))) ∧ binOp .neq t x' y' = (do pure (.bool (!(← Op.equal t x' y')))) from
    ⟨h1.1 9999, h1.2⟩
  split at e
  · simp only [Option.some.injEq] at e; subst e
    cases rx with
    | ptrNil =>
      cases ry with
      | ptrNil => exact ⟨fun dd => by simp only [Op.equalIn, Sem.run_bind, run_underlying hd, Result.andThen_ok]; rfl, fun op ox oy => by cases op <;> rfl, rfl, rfl⟩
      | ptr b off hb => exact ⟨fun dd => by simp only [Op.equalIn, Sem.run_bind, run_underlying hd, Result.andThen_ok]; rfl, fun op ox oy => by cases op <;> rfl, rfl, rfl⟩
  · simp only [Option.some.injEq] at e; subst e
    cases rx with
    | ptr b off hb =>
      cases ry with
      | ptrNil => exact ⟨fun dd => by simp only [Op.equalIn, Sem.run_bind, run_underlying hd, Result.andThen_ok]; rfl, fun op ox oy => by cases op <;> rfl, rfl, rfl⟩
  · obtain ⟨s, hs, e2⟩ := Option.bind_eq_some_iff.1 e
    clear e
    have e := e2
    clear e2
    cases rx with
    | ptr b1 o1 hb1 =>
      cases ry with
      | ptr b2 o2 hb2 =>
        split at e
        · cases e
        · rename_i h0
          refine ⟨fun dd => ?_, fun op ox oy => by cases op <;> rfl, rfl, rfl⟩
          simp only [Op.equalIn, Sem.run_bind, run_underlying hd, Result.andThen_ok, r_size hs, h0, ne_eq, not_false_eq_true, if_true]
          split at e
          · rename_i hb; subst hb
            simp only [Option.some.injEq] at e; subst e
            exact sameAddr_one
          · rename_i hb
            split at e
            · rename_i c1 t1 c2 t2 g1 g2
              simp only [Option.some.injEq] at e; subst e
              obtain ⟨x1, q1⟩ := cell_plain H g1
              obtain ⟨x2, q2⟩ := cell_plain H g2
              exact sameAddr_apart (fun q => hb (H.inj _ _ (by rw [g1]; rfl) (by rw [g2]; rfl) q)) q1 q2
            · cases e
  all_goals first
    | (cases e; done)
    | (simp only [Option.some.injEq] at e; subst e
       cases rx <;> cases ry <;> exact ⟨fun dd => by simp only [Op.equalIn, Sem.run_bind, run_underlying hd, Result.andThen_ok]; rfl, fun op ox oy => by cases op <;> rfl, rfl, rfl⟩)
theorem bin_ok (H : HR P κ h.m w) {op : BinOp} {t : TypeId} {ox oy : Operand} {x x' y y' v : Value} (rx : VR κ x x') (ry : VR κ y y') (e : abin P op t ox oy h x y = some v) :
    ∃ v', (do eqGuard op t ox oy x' y'; binOp op t x' y' : Sem Value).run P w = .ok v' w ∧ VR κ v v' := by
  unfold abin at e
  split at e
  · rename_i hc
    simp only [Bool.and_eq_true] at hc
    rw [rx.closed hc.1, ry.closed hc.2]
    obtain ⟨a, b⟩ := cval_run e κ w
    exact ⟨v, a, b⟩
  · split at e
    · obtain ⟨b, hb, rfl⟩ := Option.map_eq_some_iff.1 e
      obtain ⟨h1, h2, h3, _⟩ := aeq_ok H rx ry hb
      exact ⟨.bool b, by rw [Sem.run_bind, h2, Result.andThen_ok, h3]; simp [h1], .bool b⟩
    · obtain ⟨b, hb, rfl⟩ := Option.map_eq_some_iff.1 e
      obtain ⟨h1, h2, _, h4⟩ := aeq_ok H rx ry hb
      exact ⟨.bool !b, by rw [Sem.run_bind, h2, Result.andThen_ok, h4]; simp [h1], .bool _⟩
    · cases e
end
end Ex
end
section
namespace Ex
section
variable {P : Program} {ro : Nat} {κ : K} {h : Hp} {w : World}
theorem keyOk_inv {t : TypeId} (e : keyOk P t = true) : P.underlying t = some .string ∨ (∃ k, P.underlying t = some (.int k)) ∨ (∃ a, P.underlying t = some (.pointer a)) ∨ P.underlying t = some .bool := by
  unfold keyOk at e
  cases hu : P.underlying t with
  | none => rw [hu] at e; cases e
  | some d => rw [hu] at e; cases d <;> simp_all
theorem checkKey_ok {t : TypeId} (e : keyOk P t = true) (b : Bool) (v : Value) (w : World) : (Instr.checkKey b 10000 t v).run P w = .ok () w := by
  suffices hs : ∀ n, (Instr.checkKey b (n + 1) t v).run P w = .ok () w from hs 9999
  intro n
  rcases keyOk_inv e with hu | ⟨k, hu⟩ | ⟨k, hu⟩ | hu <;> simp only [Instr.checkKey, Sem.run_bind, run_underlying hu, Result.andThen_ok, Sem.run_pure]
theorem eq_str {t : TypeId} (hu : P.underlying t = some .string) {x y : Value} {b : Bool} (e : (Op.equal t x y).run P w = .ok b w) : ∃ a c, x = .string a ∧ y = .string c ∧ b = (a == c) := by
  have e' : (Op.equalIn (9999 + 1) t x y).run P w = .ok b w := e
  clear e
  generalize 9999 = n at e'
  simp only [Op.equalIn, Sem.run_bind, run_underlying hu, Result.andThen_ok] at e'
  split at e' <;> first
    | (simp at e'; done)
    | (rename_i hh; cases hh; done)
    | skip
  all_goals first
    | (simp only [Sem.run_pure, Result.ok.injEq, and_true] at e'; exact ⟨_, _, rfl, rfl, e'.symm⟩)
    | (rename_i hh _ _; cases hh; done)
    | skip
theorem eq_int {t : TypeId} {kk : IntKind} (hu : P.underlying t = some (.int kk)) {x y : Value} {b : Bool} (hx : closed x = true) (hy : closed y = true) (e : (Op.equal t x y).run P w = .ok b w) :
    ∃ k a c, x = .int k a ∧ y = .int k c ∧ b = (a == c) := by
  have e' : (Op.equalIn (9999 + 1) t x y).run P w = .ok b w := e
  clear e
  generalize 9999 = n at e'
  simp only [Op.equalIn, Sem.run_bind, run_underlying hu, Result.andThen_ok] at e'
  cases x <;> cases y <;> first
    | (simp at e'; done)
    | (rename_i k a k' c
       simp only at e'
       split at e'
       · rename_i hk; subst hk
         simp only [Sem.run_pure, Result.ok.injEq, and_true] at e'; exact ⟨_, _, _, rfl, rfl, e'.symm⟩
       · simp at e')
    | (rename_i a _ _; cases a <;> simp [closed, closedV] at hx <;> simp at e'; done)
    | (rename_i a; cases a <;> simp [closed, closedV] at hx hy <;> simp at e'; done)
    | (rename_i a c; cases a <;> cases c <;> simp [closed, closedV] at hx hy <;> simp at e'; done)
    | (rename_i a c d; cases d <;> simp [closed, closedV] at hx hy <;> simp at e'; done)
    | skip
theorem eq_bool {t : TypeId} (hu : P.underlying t = some .bool) {x y : Value} {b : Bool} (e : (Op.equal t x y).run P w = .ok b w) : ∃ a c, x = .bool a ∧ y = .bool c ∧ b = (a == c) := by
  have e' : (Op.equalIn (9999 + 1) t x y).run P w = .ok b w := e
  clear e
  generalize 9999 = n at e'
  simp only [Op.equalIn, Sem.run_bind, run_underlying hu, Result.andThen_ok] at e'
  cases x <;> cases y <;> first
    | (simp at e'; done)
    | (simp only [Sem.run_pure, Result.ok.injEq, and_true] at e'; exact ⟨_, _, rfl, rfl, e'.symm⟩)
theorem eq_ptr {t el : TypeId} (hu : P.underlying t = some (.pointer el)) {x y : Value} {b : Bool} (hx : closed x = true) (hy : closed y = true) (e : (Op.equal t x y).run P w = .ok b w) :
    x = .pointer none ∧ y = .pointer none ∧ b = true := by
  have e' : (Op.equalIn (9999 + 1) t x y).run P w = .ok b w := e
  clear e
  generalize 9999 = n at e'
  simp only [Op.equalIn, Sem.run_bind, run_underlying hu, Result.andThen_ok] at e'
  cases x <;> cases y <;> first
    | (simp at e'; done)
    | (rename_i a c
       cases a <;> cases c <;> simp [closed, closedV] at hx hy <;> first
        | (simp only [Sem.run_pure, Result.ok.injEq, and_true] at e'; exact ⟨rfl, rfl, e'.symm⟩)
        | (simp at e'; done))
    | (rename_i a; cases a <;> simp [closed, closedV] at hx hy <;> simp at e'; done)
    | (rename_i a _; cases a <;> simp [closed, closedV] at hx hy <;> simp at e'; done)
    | (rename_i a _ _; cases a <;> simp [closed, closedV] at hx hy <;> simp at e'; done)
    | (rename_i a _ _ _; cases a <;> simp [closed, closedV] at hx hy <;> simp at e'; done)
/-- One comparison of keys. -/
theorem key_step (H : HR P κ h.m w) {t : TypeId} (hk : keyOk P t = true) {k k' x x' : Value} (rk : VR κ k k') (rx : VR κ x x') {b : Bool} {d : TypeDesc} (hd : P.underlying t = some d)
    (e : (if closed k && closed x then val? P (Op.equal t k x) else aeq P t h k x) = some b) :
    (Op.equal t k' x').run P w = .ok b w ∧ (b = true → k' = x' ∧ Instr.sameBits 10000 x' k' = true) ∧ ((∀ el, d ≠ .pointer el) → Instr.sameNow d k' x' = some b) := by
  have sb : ∀ v : Value, (match v with | .string _ | .int _ _ | .bool _ | .pointer _ => True | _ => False) → Instr.sameBits (9999 + 1) v v = true := by
    intro v hv
    cases v <;> first | exact hv.elim | (simp [Instr.sameBits]; done) | (simp only [Instr.sameBits]; exact (MapKept.bytes_beq _ _).2 rfl)
  split at e
  · rename_i hc
    simp only [Bool.and_eq_true] at hc
    have e1 := rk.closed hc.1
    have e2 := rx.closed hc.2
    subst e1; subst e2
    have hr := val?_run w _ _ e
    refine ⟨hr, ?_, ?_⟩
    · rcases keyOk_inv hk with hu | ⟨kk, hu⟩ | ⟨el, hu⟩ | hu
      · obtain ⟨a, c, rfl, rfl, rfl⟩ := eq_str hu hr
        intro q
        have : a = c := (MapKept.bytes_beq _ _).1 q
        subst this; exact ⟨rfl, sb (.string a) trivial⟩
      · obtain ⟨kn, a, c, rfl, rfl, rfl⟩ := eq_int hu hc.1 hc.2 hr
        intro q
        have : a = c := by simpa using q
        subst this; exact ⟨rfl, sb (.int kn a) trivial⟩
      · obtain ⟨rfl, rfl, _⟩ := eq_ptr hu hc.1 hc.2 hr
        exact fun _ => ⟨rfl, sb (.pointer none) trivial⟩
      · obtain ⟨a, c, rfl, rfl, rfl⟩ := eq_bool hu hr
        intro q
        have : a = c := by simpa using q
        subst this; exact ⟨rfl, sb (.bool a) trivial⟩
    · intro hne
      rcases keyOk_inv hk with hu | ⟨kk, hu⟩ | ⟨el, hu⟩ | hu
      · obtain ⟨a, c, rfl, rfl, rfl⟩ := eq_str hu hr
        rw [hd] at hu; cases hu; rfl
      · obtain ⟨kn, a, c, rfl, rfl, rfl⟩ := eq_int hu hc.1 hc.2 hr
        rw [hd] at hu; cases hu; simp [Instr.sameNow]
      · rw [hd] at hu; cases hu; exact absurd rfl (hne el)
      · obtain ⟨a, c, rfl, rfl, rfl⟩ := eq_bool hu hr
        rw [hd] at hu; cases hu; rfl
  · obtain ⟨h1, _⟩ := aeq_ok H rk rx e
    refine ⟨h1, ?_, ?_⟩
    · unfold aeq at e
      rw [hd] at e
      simp only [Option.bind_eq_bind, Option.bind_some] at e
      rcases keyOk_inv hk with hu | ⟨kk, hu⟩ | ⟨el, hu⟩ | hu <;> rw [hd] at hu <;> cases hu <;> try simp only at e
      · cases e
      · cases e
      · split at e
        · rename_i hne _ _
          cases rk with
          | ptrNil => cases rx with
            | ptrNil => exact fun _ => ⟨rfl, sb (.pointer none) trivial⟩
            | ptr => simp at e; subst e; intro q; cases q
        · simp at e; subst e; intro q; cases q
        · cases rk with
          | ptr b1 o1 hb1 =>
            cases rx with
            | ptr b2 o2 hb2 =>
              obtain ⟨s, hs, e2⟩ := Option.bind_eq_some_iff.1 e
              split at e2
              · cases e2
              · split at e2
                · rename_i hb; subst hb
                  intro q; subst q
                  simp only [Option.some.injEq, beq_iff_eq] at e2
                  subst e2; exact ⟨rfl, sb _ trivial⟩
                · split at e2
                  · simp at e2; subst e2; intro q; cases q
                  · cases e2
        all_goals first | (cases ‹TypeDesc.pointer el = _›; done) | (cases e; done)
      · cases e
    · intro hne
      unfold aeq at e
      rw [hd] at e
      simp only [Option.bind_eq_bind, Option.bind_some] at e
      rcases keyOk_inv hk with hu | ⟨kk, hu⟩ | ⟨el, hu⟩ | hu <;> rw [hd] at hu <;> cases hu <;> try simp only at e
      · cases e
      · cases e
      · exact absurd rfl (hne el)
      · cases e
def FR (κ : K) (lo hi : Nat) (es' : List MapEntry) (k' : Value) : Option (Nat × Value) → Option (Nat × Value) → Prop
  | none, none => True
  | some (i, v), some (j, v') => i = j ∧ lo ≤ i ∧ i < hi ∧ VR κ v v' ∧ ∃ e', es'[i - lo]? = some e' ∧ k' = e'.key ∧ Instr.sameBits 10000 e'.key k' = true
  | _, _ => False
theorem ERs.cons_inv {e : MapEntry} {es zs : List MapEntry} (h : ERs κ (e :: es) zs) : ∃ e' es', zs = e' :: es' ∧ ER κ e e' ∧ ERs κ es es' := by
  cases zs with
  | nil => have := h.1; simp at this
  | cons y ys => exact ⟨y, ys, rfl, h.2 0 e y rfl rfl, by simpa using h.1, fun i v v' a b => h.2 (i + 1) v v' (by simpa using a) (by simpa using b)⟩
theorem find_ok (H : HR P κ h.m w) {t : TypeId} (hk : keyOk P t = true) {k k' : Value} (rk : VR κ k k') {d : TypeDesc} (hd : P.underlying t = some d) :
    ∀ (es es' : List MapEntry) (i : Nat) (r : Option (Nat × Value)), ERs κ es es' → findE P t h k es i = some r → ∃ r', FR κ i (i + es.length) es' k' r r' ∧
      (Instr.findAsking t k' es' i).run P w = .ok r' w ∧ ((∀ el, d ≠ .pointer el) → Instr.findNow d k' es' i = some r')
  | [], es', i, r, he, e => by
    have : es' = [] := by
      cases es' with
      | nil => rfl
      | cons => have := he.1; simp at this
    subst this
    simp only [findE, Option.some.injEq] at e; subst e
    exact ⟨none, trivial, rfl, fun _ => rfl⟩
  | x :: es, es', i, r, he, e => by
    obtain ⟨x', ys, rfl, hx, hes⟩ := he.cons_inv
    simp only [findE, Option.bind_eq_bind] at e
    obtain ⟨b, hb, e2⟩ := Option.bind_eq_some_iff.1 e
    obtain ⟨h1, h2, h3⟩ := key_step H hk rk hx.1 hd hb
    cases b with
    | true =>
      simp only [if_true, Option.some.injEq] at e2; subst e2
      obtain ⟨q1, q2⟩ := h2 rfl
      refine ⟨some (i, x'.val), ⟨rfl, Nat.le_refl _, by simp, hx.2.1, x', by simp, q1, q2⟩, ?_, fun hne => ?_⟩
      · simp only [Instr.findAsking, Sem.run_bind, h1, Result.andThen_ok, if_true, Sem.run_pure]
      · simp only [Instr.findNow, h3 hne]
    | false =>
      simp only [Bool.false_eq_true, if_false] at e2
      obtain ⟨r', hr, hrun, hnow⟩ := find_ok H hk rk hd es ys (i + 1) r hes e2
      refine ⟨r', ?_, ?_, fun hne => ?_⟩
      · cases r with
        | none => cases r' with
          | none => trivial
          | some _ => exact hr.elim
        | some a => cases r' with
          | none => exact hr.elim
          | some a' =>
            obtain ⟨i1, v1⟩ := a
            obtain ⟨i2, v2⟩ := a'
            obtain ⟨q1, q2, q3, q4, e', q5, q6⟩ := hr
            refine ⟨q1, by omega, by simp at q3 ⊢; omega, q4, e', ?_, q6⟩
            rw [show i1 - i = (i1 - (i + 1)) + 1 from by omega, List.getElem?_cons_succ]; exact q5
      · simp only [Instr.findAsking, Sem.run_bind, h1, Result.andThen_ok, Bool.false_eq_true, if_false, hrun]
      · simp only [Instr.findNow, h3 hne, hnow hne]
theorem findKey_ok (H : HR P κ h.m w) {t : TypeId} (hk : keyOk P t = true) {k k' : Value} (rk : VR κ k k') {es es' : List MapEntry} {r : Option (Nat × Value)} (he : ERs κ es es') (e : findE P t h k es 0 = some r) :
    ∃ r', FR κ 0 es.length es' k' r r' ∧ (Instr.findKey t k' es').run P w = .ok r' w := by
  obtain ⟨d, hd⟩ : ∃ d, P.underlying t = some d := by
    rcases keyOk_inv hk with hu | ⟨_, hu⟩ | ⟨_, hu⟩ | hu <;> exact ⟨_, hu⟩
  obtain ⟨r', h1, h2, h3⟩ := find_ok H hk rk hd es es' 0 r he e
  rw [Nat.zero_add] at h1
  refine ⟨r', h1, ?_⟩
  simp only [Instr.findKey, Sem.run_bind, run_underlying hd, Result.andThen_ok]
  by_cases hp : ∃ el, d = .pointer el
  · obtain ⟨el, rfl⟩ := hp
    cases es' with
    | nil => simp only [Instr.findAsking, Sem.run_pure, Result.ok.injEq, and_true] at h2; subst h2; rfl
    | cons x xs =>
      have : Instr.findNow (.pointer el) k' (x :: xs) 0 = none := by simp [Instr.findNow, Instr.sameNow]
      rw [this]; exact h2
  · rw [h3 fun el q => hp ⟨el, q⟩]; rfl
theorem map_obj (H : HR P κ h.m w) {r : Nat} {es : List MapEntry} {clock : Nat} (hr : h.m.get r = some (.map es clock)) :
    κ.dom r ∧ ∃ es', w.heap[κ.p r]? = some (.map es' clock) ∧ ERs κ es es'.toList := by
  obtain ⟨hd, o', ho', hor⟩ := H.obj r _ hr
  cases hor with
  | map _ _ es' he => exact ⟨hd, es', ho', he⟩
theorem r_getObj {r : Nat} {o : Obj} (e : w.heap[r]? = some o) (hn : ∀ a b c, o ≠ .cells a b c) : (getObj r).run P w = .ok o w := by
  cases o <;> first | (simp only [getObj, Sem.run, e]; done) | exact absurd rfl (hn _ _ _)
theorem r_setObj {r : Nat} {o x : Obj} (e : w.heap[r]? = some x) (hn : ∀ a b c, x ≠ .cells a b c) : (setObj r o).run P w = .ok () { w with heap := w.heap.setIfInBounds r o } := by
  cases x <;> first | (simp only [setObj, Sem.run, e]; done) | exact absurd rfl (hn _ _ _)
/-- A block that is no row of cells, turned. -/
theorem set_ok (H : HR P κ h.m w) {b : Nat} {o x : AO} {o' x' : Obj} {h' : Hp} (hb : h.m.get b = some x) (e : h.upd ro b (some o) = some h') (hx : w.heap[κ.p b]? = some x')
    (ho : OR P κ b o o') : HR P κ h'.m { w with heap := w.heap.setIfInBounds (κ.p b) o' } ∧ Gone ro κ κ h h' w { w with heap := w.heap.setIfInBounds (κ.p b) o' } := by
  have hlt : κ.p b < w.heap.size := (Array.getElem?_eq_some_iff.1 hx).1
  refine go_upd H hb e (by simp) (by simp [hlt]) (fun k hk => ?_) rfl rfl rfl ho
  simp only
  rw [Array.getElem?_setIfInBounds_ne (Ne.symm hk)]
theorem lookup_ok' (H : HR P κ h.m w) {t kt et : TypeId} {m m' k k' v qv : Value} {ok qb : Bool} {es : List MapEntry} {r : Option (Nat × Value)} (rm : VR κ m m') (rk : VR κ k k')
    (hd : P.underlying t = some (.map kt et)) (hk : keyOk P kt = true) (hes : mapEs h m = some es) (hr : findE P kt h k es 0 = some r) (hq : foundV P et r = some (qv, qb))
    (e4 : (if ok = true then Value.tuple #[qv, .bool qb] else qv) = v) : ∃ v', (Instr.lookup t m' k' ok).run P w = .ok v' w ∧ VR κ v v' := by
  have hent : ∃ es' : Array MapEntry, ERs κ es es'.toList ∧ ((m' = .map none ∧ es' = #[]) ∨ ∃ r clock, m' = .map (some r) ∧ w.heap[r]? = some (.map es' clock)) := by
    cases rm with
    | mapNil =>
      simp only [mapEs, Option.some.injEq] at hes; subst hes
      exact ⟨#[], ⟨rfl, fun i e e' a => by simp at a⟩, .inl ⟨rfl, rfl⟩⟩
    | map r hrd =>
      simp only [mapEs] at hes
      split at hes
      · rename_i es0 cl hob
        simp only [Option.some.injEq] at hes; subst hes
        obtain ⟨_, es', ho', he⟩ := map_obj H hob
        exact ⟨es', he, .inr ⟨_, _, rfl, ho'⟩⟩
      · cases hes
    | _ => simp [mapEs] at hes
  obtain ⟨es', he, hm⟩ := hent
  obtain ⟨r', hfr, hfind⟩ := findKey_ok H hk rk he hr
  have fin : ∀ qv', VR κ qv qv' → VR κ v (if ok then .tuple #[qv', .bool qb] else qv') := fun qv' hv => by
    subst e4
    cases ok with
    | true => exact (LR.cons hv (LR.cons (.bool qb) (LR.nil κ))).tuple
    | false => exact hv
  cases r with
  | none =>
    cases r' with
    | some _ => exact hfr.elim
    | none =>
      simp only [foundV, zeroOf] at hq
      cases hi : P.info? et with
      | none => rw [hi] at hq; simp at hq
      | some i =>
        rw [hi] at hq
        cases hz : i.zero with
        | none => simp only [hz] at hq; cases hq
        | some z =>
          simp only [hz] at hq
          by_cases hc : closed z = true
          · simp only [hc, if_true, Option.some.injEq, Prod.mk.injEq] at hq
            obtain ⟨rfl, rfl⟩ := hq
            refine ⟨_, ?_, fin z (VR.of_closed κ 4 z hc)⟩
            rcases hm with ⟨rfl, rfl⟩ | ⟨r, cl, rfl, ho'⟩
            · simp only [Instr.lookup, Sem.run_bind, run_underlying hd, Result.andThen_ok, Sem.run_pure, checkKey_ok hk, hfind, r_zero hi hz]
            · simp only [Instr.lookup, Sem.run_bind, run_underlying hd, Result.andThen_ok, Sem.run_pure, checkKey_ok hk, hfind, r_zero hi hz, r_getObj (P := P) ho' (by simp)]
          · simp [hc] at hq
  | some a =>
    cases r' with
    | none => exact hfr.elim
    | some a' =>
      obtain ⟨i1, v1⟩ := a
      obtain ⟨i2, v2⟩ := a'
      simp only [foundV, Option.some.injEq, Prod.mk.injEq] at hq
      obtain ⟨rfl, rfl⟩ := hq
      refine ⟨_, ?_, fin v2 hfr.2.2.2.1⟩
      rcases hm with ⟨rfl, rfl⟩ | ⟨r, cl, rfl, ho'⟩
      · simp only [Instr.lookup, Sem.run_bind, run_underlying hd, Result.andThen_ok, Sem.run_pure, checkKey_ok hk, hfind]
      · simp only [Instr.lookup, Sem.run_bind, run_underlying hd, Result.andThen_ok, Sem.run_pure, checkKey_ok hk, hfind, r_getObj (P := P) ho' (by simp)]
theorem lookup_ok (H : HR P κ h.m w) {t : TypeId} {m m' k k' v : Value} {ok : Bool} (rm : VR κ m m') (rk : VR κ k k') (e : alookup P t h m k ok = some v) :
    ∃ v', (Instr.lookup t m' k' ok).run P w = .ok v' w ∧ VR κ v v' := by
  unfold alookup at e
  split at e
  · rename_i kt et hd
    split at e
    · rename_i hk
      split at e
      · rename_i es hes
        split at e
        · rename_i r hr
          split at e
          · rename_i qv qb hq
            simp only [Option.some.injEq] at e
            exact lookup_ok' H rm rk hd hk hes hr hq e
          · cases e
        · cases e
      · cases e
    · cases e
  · cases e
end
end Ex
end
section
namespace Ex
section
variable {P : Program} {ro : Nat} {κ : K} {h : Hp} {w : World}
theorem ERs.modify {es es' : List MapEntry} (he : ERs κ es es') (i : Nat) {v v' : Value} (hv : VR κ v v') (f' : MapEntry → MapEntry) (hf : ∀ e', es'[i]? = some e' → f' e' = { e' with val := v' }) :
    ERs κ (es.modify i fun e => { e with val := v }) (es'.modify i f') := by
  refine ⟨by simp [he.1], fun j e e' a b => ?_⟩
  rw [List.getElem?_modify] at a b
  cases hj : es[j]? with
  | none => rw [hj] at a; simp at a
  | some x =>
    cases hj' : es'[j]? with
    | none => rw [hj'] at b; simp at b
    | some x' =>
      have hx := he.2 j x x' hj hj'
      by_cases hij : i = j
      · subst hij
        simp only [hj, if_true, Option.map_some, Option.map_eq_map, Option.some.injEq] at a
        simp only [hj', if_true, Option.map_some, Option.map_eq_map, Option.some.injEq] at b
        rw [hf x' hj'] at b
        subst a; subst b
        exact ⟨hx.1, hv, hx.2.2⟩
      · simp only [hj, hij, if_false, Option.map_some, Option.map_eq_map, Option.some.injEq] at a
        simp only [hj', hij, if_false, Option.map_some, Option.map_eq_map, Option.some.injEq] at b
        subst a; subst b
        exact hx
theorem ERs.snoc {es es' : List MapEntry} (he : ERs κ es es') {e e' : MapEntry} (h : ER κ e e') : ERs κ (es ++ [e]) (es' ++ [e']) := by
  refine ⟨by simp [he.1], fun j x x' a b => ?_⟩
  by_cases hj : j < es.length
  · rw [List.getElem?_append_left hj] at a
    rw [List.getElem?_append_left (by rw [← he.1]; exact hj)] at b
    exact he.2 j x x' a b
  · rw [List.getElem?_append_right (by omega)] at a
    rw [List.getElem?_append_right (by rw [← he.1]; omega), ← he.1] at b
    cases hk : j - es.length with
    | zero => rw [hk] at a b; simp at a b; subst a; subst b; exact h
    | succ k => rw [hk] at a; simp at a
theorem ERs.eraseIdx {es es' : List MapEntry} (he : ERs κ es es') (i : Nat) : ERs κ (es.eraseIdx i) (es'.eraseIdx i) := by
  refine ⟨by simp [List.length_eraseIdx, he.1], fun j x x' a b => ?_⟩
  rw [List.getElem?_eraseIdx] at a b
  split at a
  · rename_i hj; rw [if_pos hj] at b; exact he.2 _ _ _ a b
  · rename_i hj; rw [if_neg hj] at b; exact he.2 _ _ _ a b
theorem find_none (t : TypeId) (k : Value) : ∀ (es : List MapEntry) (i : Nat), findE P t h k es i = some none ↔ ∀ e ∈ es, (if closed k && closed e.key then val? P (Op.equal t k e.key) else aeq P t h k e.key) = some false
  | [], i => by simp [findE]
  | e :: es, i => by
    have ih := find_none t k es (i + 1)
    simp only [findE, Option.bind_eq_bind, List.mem_cons, forall_eq_or_imp]
    rw [← ih]
    cases (if closed k && closed e.key then val? P (Op.equal t k e.key) else aeq P t h k e.key) with
    | none => simp
    | some b => cases b <;> simp
theorem perm_lr {m l' : List Value} (hp : m.Perm l') : ∀ {ks : List Value}, LR κ ks l' → ∃ ks', ks'.Perm ks ∧ LR κ ks' m := by
  induction hp with
  | nil => intro ks h; exact ⟨ks, .refl _, h⟩
  | cons x _ ih =>
    intro ks h
    cases ks with
    | nil => have := h.1; simp at this
    | cons k ks =>
      obtain ⟨ks', p, r⟩ := ih (ks := ks) ⟨by simpa using h.1, fun i v v' a b => h.2 (i + 1) v v' (by simpa using a) (by simpa using b)⟩
      refine ⟨k :: ks', p.cons k, by simpa using r.1, fun i v v' a b => ?_⟩
      cases i with
      | zero => simp at a b; subst a b; exact h.2 0 _ _ rfl rfl
      | succ i => exact r.2 i v v' (by simpa using a) (by simpa using b)
  | swap x y l =>
    intro ks h
    match ks, h with
    | [], h => have := h.1; simp at this
    | [_], h => have := h.1; simp at this
    | k1 :: k2 :: ks, h =>
      refine ⟨k2 :: k1 :: ks, .swap _ _ _, by simpa using h.1, fun i v v' a b => ?_⟩
      match i, a, b with
      | 0, a, b => simp at a b; subst a b; exact h.2 1 _ _ rfl rfl
      | 1, a, b => simp at a b; subst a b; exact h.2 0 _ _ rfl rfl
      | i + 2, a, b => exact h.2 (i + 2) v v' (by simpa using a) (by simpa using b)
  | trans _ _ ih1 ih2 =>
    intro ks h
    obtain ⟨k2, p2, r2⟩ := ih2 h
    obtain ⟨k1, p1, r1⟩ := ih1 r2
    exact ⟨k1, p1.trans p2, r1⟩
/-- The entries of a bag, in the order in which they lie. -/
theorem bag_ers {ks l' : List Value} {clock : Nat} {es' : List MapEntry} (hl : LR κ ks l') (hp : (es'.map (·.key)).Perm l') (hv : ∀ e ∈ es', e.val = .bool true ∧ e.born < clock) :
    ∃ es : List MapEntry, ERs κ es es' ∧ (es.map (·.key)).Perm ks := by
  obtain ⟨ks', p, r⟩ := perm_lr hp hl
  have hlen : ks'.length = es'.length := by have := r.1; simpa using this
  refine ⟨(ks'.zip es').map fun (k, e) => { key := k, val := .bool true, born := e.born }, ⟨by simp [hlen], fun i e e' a b => ?_⟩, ?_⟩
  · rw [List.getElem?_map] at a
    have hi := (List.getElem?_eq_some_iff.1 b).1
    have e1 : e' = es'[i] := by rw [List.getElem?_eq_getElem hi] at b; exact (Option.some.inj b).symm
    rw [List.getElem?_eq_getElem (by simp; omega)] at a
    simp only [List.getElem_zip, Option.map_some, Option.some.injEq] at a
    subst a
    subst e1
    refine ⟨r.2 i _ _ (List.getElem?_eq_getElem (by omega)) (by rw [List.getElem?_map, List.getElem?_eq_getElem hi]; rfl), ?_, rfl⟩
    rw [(hv _ (List.getElem_mem hi)).1]
    exact .bool true
  · have : ((ks'.zip es').map fun (k, e) => ({ key := k, val := .bool true, born := e.born } : MapEntry)).map (·.key) = ks' := by
      rw [List.map_map]
      have e2 : ((fun x : MapEntry => x.key) ∘ fun (x : Value × MapEntry) => ({ key := x.1, val := .bool true, born := x.2.born } : MapEntry)) = Prod.fst := rfl
      show (ks'.zip es').map ((fun x : MapEntry => x.key) ∘ fun (x : Value × MapEntry) => ({ key := x.1, val := .bool true, born := x.2.born } : MapEntry)) = ks'
      rw [e2, List.map_fst_zip (by omega)]
    rw [this]
    exact p
theorem bag_find {t : TypeId} {k : Value} {ks : List Value} {es : List MapEntry} (hp : (es.map (·.key)).Perm ks) (e : findE P t h k (ks.map bagE) 0 = some none) : findE P t h k es 0 = some none := by
  rw [find_none] at e ⊢
  intro x hx
  exact e (bagE x.key) (List.mem_map.2 ⟨x.key, hp.mem_iff.1 (List.mem_map.2 ⟨x, hx, rfl⟩), rfl⟩)
theorem LR.snoc {xs ys : List Value} {x y : Value} (h : LR κ xs ys) (r : VR κ x y) : LR κ (xs ++ [x]) (ys ++ [y]) := by
  refine ⟨by simp [h.1], fun i v v' a b => ?_⟩
  by_cases hi : i < xs.length
  · rw [List.getElem?_append_left hi] at a
    rw [List.getElem?_append_left (by have := h.1; omega)] at b
    exact h.2 i v v' a b
  · have hx : i = xs.length := by
      have := (List.getElem?_eq_some_iff.1 a).1
      simp at this; omega
    subst hx
    rw [List.getElem?_append_right (Nat.le_refl _)] at a
    rw [List.getElem?_append_right (by have := h.1; omega)] at b
    simp at a
    have e2 : xs.length - ys.length = 0 := by have := h.1; omega
    rw [e2] at b
    simp at b
    subst a b
    exact r
theorem update_ok (H : HR P κ h.m w) {t : TypeId} {m m' k k' v v' : Value} {h' : Hp} (rm : VR κ m m') (rk : VR κ k k') (rv : VR κ v v') (e : aupdate P ro t h m k v = some h') :
    h'.c = h.c ∧ ∃ w', (Instr.mapUpdate t m' k' v').run P w = .ok () w' ∧ HR P κ h'.m w' ∧ Gone ro κ κ h h' w w' := by
  unfold aupdate at e
  split at e
  · rename_i kt et hd
    split at e
    · rename_i hk
      split at e
      · rename_i r
        split at e
        · rename_i es clock hob
          cases rm with
          | map _ hr =>
            obtain ⟨_, es', ho', he⟩ := map_obj H hob
            have hg := r_getObj (P := P) ho' (by simp)
            split at e
            · rename_i i v0 hfe
              obtain ⟨r', hfr, hfind⟩ := findKey_ok H hk rk he hfe
              cases r' with
              | none => exact hfr.elim
              | some a =>
                obtain ⟨j, u⟩ := a
                obtain ⟨rfl, _, hlt, _, e', he', rfl, hsb⟩ := hfr
                rw [Nat.sub_zero] at he'
                refine ⟨by rw [(Hp.upd_inv e).2], _, ?_, set_ok H hob e ho' (o' := .map (es'.modify i fun e => { e with key := e'.key, val := v' }) clock) ?_⟩
                · have hks : (((es'[i]?).map (·.key)).getD e'.key) = e'.key := by rw [← Array.getElem?_toList, he']; rfl
                  simp only [Instr.mapUpdate, Sem.run_bind, run_underlying hd, Result.andThen_ok, hg, checkKey_ok hk, hfind, hks, Instr.keyThatStays, hsb, if_true, Sem.run_pure]
                  exact r_setObj ho' (by simp)
                · refine .map _ _ _ ?_
                  rw [Array.toList_modify]
                  exact he.modify i rv _ fun x hx => by rw [he'] at hx; cases hx; rfl
            · rename_i hfe
              obtain ⟨r', hfr, hfind⟩ := findKey_ok H hk rk he hfe
              cases r' with
              | some _ => exact hfr.elim
              | none =>
                refine ⟨by rw [(Hp.upd_inv e).2], _, ?_, set_ok H hob e ho' (o' := .map (es'.push { key := k', val := v', born := clock }) (clock + 1)) ?_⟩
                · simp only [Instr.mapUpdate, Sem.run_bind, run_underlying hd, Result.andThen_ok, hg, checkKey_ok hk, hfind]
                  exact r_setObj ho' (by simp)
                · refine .map _ _ _ ?_
                  rw [Array.toList_push]
                  exact he.snoc ⟨rk, rv, rfl⟩
            · cases e
        · rename_i ks hob
          split at e
          · rename_i hvT
            cases rm with
            | map _ hr =>
              obtain ⟨hdm, o', ho', hor⟩ := H.obj r _ hob
              cases hor with
              | bag _ l' clock es' hl hp hbv hbn =>
                have hg := r_getObj (P := P) ho' (by simp)
                obtain ⟨es, hers, hpk⟩ := bag_ers hl hp hbv
                split at e
                · rename_i hfe
                  obtain ⟨r', hfr, hfind⟩ := findKey_ok H hk rk hers (bag_find hpk hfe)
                  cases r' with
                  | some _ => exact hfr.elim
                  | none =>
                    have hv' : v' = .bool true := by
                      cases v with
                      | bool b => cases rv; simp only [isT] at hvT; rw [hvT]
                      | _ => simp [isT] at hvT
                    refine ⟨by rw [(Hp.upd_inv e).2], _, ?_, set_ok H hob e ho' (o' := .map (es'.push { key := k', val := v', born := clock }) (clock + 1)) ?_⟩
                    · simp only [Instr.mapUpdate, Sem.run_bind, run_underlying hd, Result.andThen_ok, hg, checkKey_ok hk, hfind]
                      exact r_setObj ho' (by simp)
                    · refine .bag _ (l' ++ [k']) _ _ (LR.snoc hl rk) ?_ (fun e he => ?_) (born_push hbn fun e he => (hbv e he).2)
                      · rw [Array.toList_push, List.map_append]
                        exact hp.append_right _
                      · rw [Array.toList_push, List.mem_append] at he
                        rcases he with he | he
                        · exact ⟨(hbv e he).1, by have := (hbv e he).2; omega⟩
                        · rw [List.mem_singleton.1 he]
                          exact ⟨hv', Nat.lt_succ_self _⟩
                · cases e
          · cases e
        · cases e
      · cases e
    · cases e
  · cases e
theorem delete_ok (H : HR P κ h.m w) {t : TypeId} {m m' k k' : Value} {h' : Hp} (rm : VR κ m m') (rk : VR κ k k') (ty : TypeId) (e : adelete P ro t h m k = some h') :
    h'.c = h.c ∧ ∃ w', (Builtin.delete_ #[t] ty #[m', k']).run P w = .ok (.tuple #[]) w' ∧ HR P κ h'.m w' ∧ Gone ro κ κ h h' w w' := by
  unfold adelete at e
  split at e
  · rename_i kt et hd
    split at e
    · rename_i hk
      split at e
      · simp only [Option.some.injEq] at e; subst e
        cases rm with
        | mapNil => exact ⟨rfl, w, by simp [Builtin.delete_, run_underlying hd, checkKey_ok hk], H, Gone.refl H⟩
      · rename_i r
        split at e
        · rename_i es clock hob
          cases rm with
          | map _ hr =>
            obtain ⟨_, es', ho', he⟩ := map_obj H hob
            have hg := r_getObj (P := P) ho' (by simp)
            split at e
            · rename_i i v0 hfe
              obtain ⟨r', hfr, hfind⟩ := findKey_ok H hk rk he hfe
              cases r' with
              | none => exact hfr.elim
              | some a =>
                obtain ⟨j, u⟩ := a
                obtain ⟨rfl, _, hlt, _, e', he', rfl, hsb⟩ := hfr
                have hlt' : i < es'.size := by have := he.1; simp at this; omega
                refine ⟨by rw [(Hp.upd_inv e).2], _, ?_, set_ok H hob e ho' (o' := .map (es'.eraseIdxIfInBounds i) clock) ?_⟩
                · simp only [Builtin.delete_, List.getElem?_toArray, List.getElem?_cons_zero, List.getElem?_cons_succ, Sem.run_bind, run_underlying hd, Result.andThen_ok, hg, checkKey_ok hk, hfind, r_setObj ho' (by simp), Sem.run_pure]
                · refine .map _ _ _ ?_
                  simp only [Array.eraseIdxIfInBounds, hlt', dif_pos, Array.toList_eraseIdx]
                  exact he.eraseIdx i
            · rename_i hfe
              obtain ⟨r', hfr, hfind⟩ := findKey_ok H hk rk he hfe
              cases r' with
              | some _ => exact hfr.elim
              | none =>
                refine ⟨by rw [(Hp.upd_inv e).2], _, ?_, set_ok H hob e ho' (o' := .map es' clock) (.map _ _ _ he)⟩
                simp only [Builtin.delete_, List.getElem?_toArray, List.getElem?_cons_zero, List.getElem?_cons_succ, Sem.run_bind, run_underlying hd, Result.andThen_ok, hg, checkKey_ok hk, hfind, r_setObj ho' (by simp), Sem.run_pure]
            · cases e
        · cases e
      · cases e
    · cases e
  · cases e
theorem ERs.filter {p : Nat → Bool} : ∀ {es es' : List MapEntry}, ERs κ es es' → ERs κ (es.filter fun e => p e.born) (es'.filter fun e => p e.born)
  | [], es', he => by
    cases es' with
    | nil => exact he
    | cons => have := he.1; simp at this
  | e :: es, zs, he => by
    obtain ⟨e', ys, rfl, h1, h2⟩ := he.cons_inv
    have ih := ERs.filter (p := p) h2
    simp only [List.filter_cons, h1.2.2]
    split
    · refine ⟨by simp [ih.1], fun j x x' a b => ?_⟩
      cases j with
      | zero => simp at a b; subst a; subst b; exact h1
      | succ j => exact ih.2 j x x' (by simpa using a) (by simpa using b)
    · exact ih
theorem ERs.all {p : Nat → Bool} : ∀ {es es' : List MapEntry}, ERs κ es es' → (es'.all fun e => p e.born) = es.all fun e => p e.born
  | [], es', he => by
    cases es' with
    | nil => rfl
    | cons => have := he.1; simp at this
  | e :: es, zs, he => by
    obtain ⟨e', ys, rfl, h1, h2⟩ := he.cons_inv
    simp only [List.all_cons, h1.2.2, ERs.all (p := p) h2]
theorem ERs.find {p : Nat → Bool} : ∀ {es es' : List MapEntry} {e : MapEntry}, ERs κ es es' → (es.find? fun e => p e.born) = some e → ∃ e', (es'.find? fun e => p e.born) = some e' ∧ ER κ e e'
  | [], es', e, he, h => by simp at h
  | x :: es, zs, e, he, h => by
    obtain ⟨e', ys, rfl, h1, h2⟩ := he.cons_inv
    simp only [List.find?_cons, h1.2.2] at h ⊢
    cases hp : p x.born with
    | true => simp only [hp, Option.some.injEq] at h ⊢; subst h; exact ⟨e', rfl, h1⟩
    | false => simp only [hp] at h ⊢; exact ERs.find h2 h
theorem ERs.nil_inv {zs : List MapEntry} (h : ERs κ [] zs) : zs = [] := by
  cases zs with
  | nil => rfl
  | cons y ys => have := h.1; simp at this
theorem range_ok (H : HR P κ h.m w) {t : TypeId} {x x' v : Value} {h' : Hp} (r : VR κ x x') (e : arange P t h x = some (v, h')) :
    h'.c = h.c + 1 ∧ (¬κ.dom h.c → ∃ v' w' κ', (Instr.range t x').run P w = .ok v' w' ∧ HR P κ' h'.m w' ∧ Gone ro κ κ' h h' w w' ∧ VR κ' v v') := by
  unfold arange at e
  split at e
  · rename_i s hd
    simp only [Option.some.injEq, Prod.mk.injEq] at e
    obtain ⟨rfl, rfl⟩ := e
    cases r with
    | string _ =>
      refine ⟨rfl, fun hf => ?_⟩
      obtain ⟨a, b⟩ := go_new (ro := ro) (n := 0) (s := 0) (w' := { w with heap := w.heap.push (.stringIter s 0) }) H hf rfl rfl rfl rfl (.str s 0)
      exact ⟨.pointer (some ⟨w.heap.size, 0, none⟩), _, _, by simp [Instr.range, run_underlying hd], a, b, vr_new⟩
  · rename_i hd
    simp only [Option.some.injEq, Prod.mk.injEq] at e
    obtain ⟨rfl, rfl⟩ := e
    cases r with
    | mapNil =>
      refine ⟨rfl, fun hf => ?_⟩
      obtain ⟨a, b⟩ := go_new (ro := ro) (n := 0) (s := 0) (w' := { w with heap := w.heap.push (.mapIter none 0 #[] 0) }) H hf rfl rfl rfl rfl (.iterNil 0 [] 0 #[] rfl)
      exact ⟨.pointer (some ⟨w.heap.size, 0, none⟩), _, _, by simp [Instr.range, run_underlying hd], a, b, vr_new⟩
  · rename_i hd
    split at e
    · rename_i es clock hob
      simp only [Option.some.injEq, Prod.mk.injEq] at e
      obtain ⟨rfl, rfl⟩ := e
      cases r with
      | map _ hr =>
        refine ⟨rfl, fun hf => ?_⟩
        obtain ⟨_, es', ho', he⟩ := map_obj H hob
        have hx := Ext.add w.heap.size 0 0 hf
        have hor := OR.iter (P := P) (κ := κ.add h.c w.heap.size 0 0) (b := h.c) _ clock [] clock #[] (hx.dom _ hr) rfl
        rw [hx.p _ hr] at hor
        obtain ⟨a, b⟩ := go_new (ro := ro) (n := 0) (s := 0) (w' := { w with heap := w.heap.push (.mapIter (some (κ.p _)) clock #[] clock) }) H hf rfl rfl rfl rfl hor
        exact ⟨.pointer (some ⟨w.heap.size, 0, none⟩), _, _, by simp [Instr.range, run_underlying hd, r_getObj (P := P) ho' (by simp)], a, b, vr_new⟩
    · cases e
  · cases e
theorem next_ok (H : HR P κ h.m w) {it it' v : Value} {s : Bool} {h' : Hp} (ty : TypeId) (r : VR κ it it') (e : anext ro h it s = some (v, h')) :
    h'.c = h.c ∧ ∃ v' w', (Instr.next it' s ty).run P w = .ok v' w' ∧ HR P κ h'.m w' ∧ Gone ro κ κ h h' w w' ∧ VR κ v v' := by
  have over : ∀ κ, VR κ (.tuple #[.bool false]) (.tuple #[.bool false]) := fun κ => (LR.cons (.bool false) (LR.nil κ)).tuple
  unfold anext at e
  split at e
  · rename_i b
    cases r with
    | ptr _ _ hb =>
      split at e
      · rename_i str pos hob
        obtain ⟨_, o', ho', hor⟩ := H.obj b _ hob
        cases hor with
        | str =>
          have hg := r_getObj (P := P) ho' (by simp)
          split at e
          · rename_i hlt
            split at e
            · rename_i h2 hu
              simp only [Option.some.injEq, Prod.mk.injEq] at e
              obtain ⟨rfl, rfl⟩ := e
              refine ⟨by rw [(Hp.upd_inv hu).2], .tuple #[.bool true, goInt pos, .int .i32 (Utf8.decode str pos).1], { w with heap := w.heap.setIfInBounds (κ.p b) (.stringIter str (pos + (Utf8.decode str pos).2)) }, ?_, ?_⟩
              rotate_left
              · obtain ⟨a, b⟩ := set_ok H hob hu ho' (o' := .stringIter str (pos + (Utf8.decode str pos).2)) (.str _ _)
                exact ⟨a, b, (LR.cons (.bool true) (LR.cons (.int _ _) (LR.cons (.int _ _) (LR.nil κ)))).tuple⟩
              · simp only [Instr.next, Sem.run_bind, hg, Result.andThen_ok, hlt, if_true, r_setObj (P := P) ho' (by simp), Sem.run_pure]
            · cases e
          · rename_i hlt
            simp only [Option.some.injEq, Prod.mk.injEq] at e
            obtain ⟨rfl, rfl⟩ := e
            exact ⟨rfl, _, w, by simp only [Instr.next, Sem.run_bind, hg, Result.andThen_ok, hlt, if_false, Sem.run_pure], H, Gone.refl H, over κ⟩
      · rename_i since seen last hob
        simp only [Option.some.injEq, Prod.mk.injEq] at e
        obtain ⟨rfl, rfl⟩ := e
        obtain ⟨_, o', ho', hor⟩ := H.obj b _ hob
        cases hor with
        | iterNil =>
          have hg := r_getObj (P := P) ho' (by simp)
          exact ⟨rfl, _, w, by simp only [Instr.next, Sem.run_bind, hg, Result.andThen_ok, Sem.run_pure], H, Gone.refl H, over κ⟩
      · rename_i m since seen last hob
        obtain ⟨_, o', ho', hor⟩ := H.obj b _ hob
        cases hor with
        | iter _ _ _ _ seen' hm hseen =>
          have hg := r_getObj (P := P) ho' (by simp)
          split at e
          · rename_i es clock hom
            obtain ⟨_, es', hm', he⟩ := map_obj H hom
            have hgm := r_getObj (P := P) hm' (by simp)
            subst hseen
            have hemp : seen'.isEmpty = seen'.toList.isEmpty := by simp
            have hnext : ∀ oe, nextE es since seen'.toList last = some oe →
                (!seen'.isEmpty && !es'.isEmpty && es'.all (·.born ≥ last)) = false ∧
                ∃ old new : Array MapEntry, (es'.filter fun e => !seen'.contains e.born).filter (·.born < since) = old ∧ (es'.filter fun e => !seen'.contains e.born).filter (·.born ≥ since) = new ∧
                  (match oe with | none => old = #[] ∧ new = #[] | some x => ∃ x', old = #[x'] ∧ new = #[] ∧ ER κ x x') := by
              intro oe hoe
              unfold nextE at hoe
              split at hoe
              · cases hoe
              · rename_i hc
                have hlen : es'.isEmpty = es.isEmpty := by
                  rw [← Array.isEmpty_toList]
                  cases es with
                  | nil =>
                    have h0 := he.1
                    cases hq : es'.toList with
                    | nil => rfl
                    | cons x xs => rw [hq] at h0; simp at h0
                  | cons x xs => obtain ⟨y, ys, hy, _, _⟩ := he.cons_inv; rw [hy]; rfl
                refine ⟨?_, ?_⟩
                · have h1 := he.all (p := fun n => decide (n ≥ last))
                  rw [Array.all_toList] at h1
                  rw [hlen, hemp, h1]
                  simpa only [Bool.not_eq_true] using hc
                · have f1 := he.filter (p := fun n => !seen'.toList.contains n)
                  have f2 := f1.filter (p := fun n => decide (n < since))
                  have f3 := f1.filter (p := fun n => decide (n ≥ since))
                  have cc : (fun e : MapEntry => !seen'.toList.contains e.born) = (fun e : MapEntry => !seen'.contains e.born) := by funext e; simp
                  refine ⟨_, _, rfl, rfl, ?_⟩
                  have l2 : ((es'.filter fun e => !seen'.contains e.born).filter (·.born < since)).toList = (es'.toList.filter fun e => !seen'.toList.contains e.born).filter fun e => decide (e.born < since) := by
                    rw [Array.toList_filter, Array.toList_filter, cc]
                  have l3 : ((es'.filter fun e => !seen'.contains e.born).filter (·.born ≥ since)).toList = (es'.toList.filter fun e => !seen'.toList.contains e.born).filter fun e => decide (e.born ≥ since) := by
                    rw [Array.toList_filter, Array.toList_filter, cc]
                  have nil : ∀ {a : Array MapEntry} {l : List MapEntry}, a.toList = l → l = [] → a = #[] := fun h1 h2 => by apply Array.ext'; rw [h1, h2]
                  split at hoe
                  · rename_i g1 g2
                    simp only [Option.some.injEq] at hoe; subst hoe
                    rw [g1] at f2; rw [g2] at f3
                    exact ⟨nil l2 f2.nil_inv, nil l3 f3.nil_inv⟩
                  · rename_i x g1 g2
                    simp only [Option.some.injEq] at hoe; subst hoe
                    rw [g1] at f2; rw [g2] at f3
                    obtain ⟨x', ys, hy, hx, hys⟩ := f2.cons_inv
                    have : ys = [] := hys.nil_inv
                    subst this
                    exact ⟨x', by apply Array.ext'; rw [l2, hy], nil l3 f3.nil_inv, hx⟩
                  · cases hoe
            split at e
            · rename_i hne
              simp only [Option.some.injEq, Prod.mk.injEq] at e
              obtain ⟨rfl, rfl⟩ := e
              obtain ⟨h1, old, new, ho, hn, rfl, rfl⟩ := hnext none hne
              refine ⟨rfl, _, w, ?_, H, Gone.refl H, over κ⟩
              simp only [Instr.next, Sem.run_bind, hg, Result.andThen_ok, hgm, h1, Bool.false_eq_true, if_false, ho, hn, run_choose]
              have : (if (#[] : Array MapEntry).isEmpty = true then (#[none] : Array (Option MapEntry)) else #[]) ++ Array.map some (#[] ++ #[]) = #[none] := by simp
              rw [this]
              have hf : (Question.mapNext (#[none] : Array (Option MapEntry)).size).forced = true := rfl
              simp only [hf, if_true, Result.andThen_ok, List.getElem?_toArray, List.getElem?_cons_zero, Sem.run_pure]
            · rename_i x hne
              split at e
              · rename_i h2 hu
                simp only [Option.some.injEq, Prod.mk.injEq] at e
                obtain ⟨rfl, rfl⟩ := e
                obtain ⟨h1, old, new, ho, hn, x', rfl, rfl, hx⟩ := hnext (some x) hne
                refine ⟨by rw [(Hp.upd_inv hu).2], .tuple #[.bool true, x'.key, x'.val], { w with heap := w.heap.setIfInBounds (κ.p b) (.mapIter (some (κ.p m)) since (seen'.push x'.born) clock) }, ?_, ?_⟩
                · simp only [Instr.next, Sem.run_bind, hg, Result.andThen_ok, hgm, h1, Bool.false_eq_true, if_false, ho, hn, run_choose]
                  have : (if (#[x'] : Array MapEntry).isEmpty = true then (#[none] : Array (Option MapEntry)) else #[]) ++ Array.map some (#[x'] ++ #[]) = #[some x'] := by simp
                  rw [this]
                  have hf : (Question.mapNext (#[some x'] : Array (Option MapEntry)).size).forced = true := rfl
                  simp only [hf, if_true, Result.andThen_ok, List.getElem?_toArray, List.getElem?_cons_zero, Sem.run_bind, r_setObj (P := P) ho' (by simp), Sem.run_pure]
                · obtain ⟨a, b⟩ := set_ok H hob hu ho' (o' := .mapIter (some (κ.p m)) since (seen'.push x'.born) clock) (.iter m since _ clock _ hm (by rw [Array.toList_push, hx.2.2]))
                  exact ⟨a, b, (LR.cons (.bool true) (LR.cons hx.1 (LR.cons hx.2.1 (LR.nil κ)))).tuple⟩
              · cases e
            · cases e
          · cases e
      · cases e
  · cases e
theorem entry_ok (H : HR P κ h.m w) {it it' v : Value} (r : VR κ it it') (e : aentry h it = some v) : ∃ v', (Instr.entry it').run P w = .ok v' w ∧ VR κ v v' := by
  unfold aentry at e
  split at e
  · rename_i b
    cases r with
    | ptr _ _ hb =>
      split at e
      · rename_i m since seen stepped hob
        obtain ⟨_, o', ho', hor⟩ := H.obj b _ hob
        cases hor with
        | iter _ _ _ _ seen' hm hseen =>
          have hg := r_getObj (P := P) ho' (by simp)
          split at e
          · rename_i stamp es clock hst hom
            obtain ⟨_, es', hm', he⟩ := map_obj H hom
            have hgm := r_getObj (P := P) hm' (by simp)
            split at e
            · rename_i hcl
              split at e
              · rename_i x hfx
                simp only [Option.some.injEq] at e; subst e
                obtain ⟨x', hfx', hx⟩ := he.find (p := fun n => n == stamp) hfx
                rw [Array.find?_toList] at hfx'
                rw [← hseen, Array.getLast?_toList] at hst
                refine ⟨_, ?_, (LR.cons hx.1 (LR.cons hx.2.1 (LR.nil κ))).tuple⟩
                have hne : (clock != stepped) = false := by simp [hcl]
                simp only [Instr.entry, Sem.run_bind, hg, Result.andThen_ok, hst, hgm, hne, Bool.false_eq_true, if_false, hfx', Sem.run_pure]
              · cases e
            · cases e
          · cases e
      · cases e
  · cases e
end
end Ex
end
section
namespace Ex
section
variable {P : Program} {ro : Nat} {κ : K} {h : Hp} {w : World}
theorem HR.world {m : Tr AO} {w' : World} (H : HR P κ m w) (e : w'.heap = w.heap) : HR P κ m w' := ⟨fun i o hi => by rw [e]; exact H.obj i o hi, H.inj, H.glob⟩
theorem LR.set {xs ys : List Value} (r : LR κ xs ys) (i : Nat) {v v' : Value} (rv : VR κ v v') : LR κ (xs.set i v) (ys.set i v') := by
  refine ⟨by simp [r.1], fun j u u' a b => ?_⟩
  rw [List.getElem?_set] at a b
  by_cases hij : i = j
  · rw [if_pos hij] at a b
    split at a
    · rename_i h1
      rw [if_pos (by rw [← r.1]; exact h1)] at b
      cases a; cases b; exact rv
    · cases a
  · rw [if_neg hij] at a b; exact r.2 j u u' a b
theorem fold_lr (off : Nat) : ∀ (xs xs' : List Value) (k : Nat) (cs cs' : Array Value), LR κ xs xs' → LR κ cs.toList cs'.toList →
    LR κ ((xs.zipIdx k).foldl (fun (cs : Array Value) (p : Value × Nat) => cs.setIfInBounds (off + p.2) p.1) cs).toList ((xs'.zipIdx k).foldl (fun (cs : Array Value) (p : Value × Nat) => cs.setIfInBounds (off + p.2) p.1) cs').toList
  | [], xs', k, cs, cs', r, rc => by rw [r.nil_inv]; exact rc
  | x :: xs, zs, k, cs, cs', r, rc => by
    obtain ⟨y, ys, rfl, h1, h2⟩ := r.cons_inv
    simp only [List.zipIdx_cons, List.foldl_cons]
    refine fold_lr off xs ys (k + 1) _ _ h2 ?_
    rw [Array.toList_setIfInBounds, Array.toList_setIfInBounds]
    exact rc.set _ h1
def PR (κ : K) (ps ps' : List (Nat × Value)) : Prop := ps.length = ps'.length ∧ ∀ (i : Nat) p p', ps[i]? = some p → ps'[i]? = some p' → p'.1 = p.1 ∧ VR κ p.2 p'.2
theorem PR.cons_inv {p : Nat × Value} {ps zs : List (Nat × Value)} (h : PR κ (p :: ps) zs) : ∃ p' ps', zs = p' :: ps' ∧ p'.1 = p.1 ∧ VR κ p.2 p'.2 ∧ PR κ ps ps' := by
  cases zs with
  | nil => have := h.1; simp at this
  | cons y ys => exact ⟨y, ys, rfl, (h.2 0 p y rfl rfl).1, (h.2 0 p y rfl rfl).2, by simpa using h.1, fun i v v' a b => h.2 (i + 1) v v' (by simpa using a) (by simpa using b)⟩
theorem fill_ok (place : Nat → Option (Nat × Nat)) : ∀ (ps ps' : List (Nat × Value)) (cs cs' out : Array Value), PR κ ps ps' → LR κ cs.toList cs'.toList → Instr.fill place cs ps = some out →
    ∃ out', Instr.fill place cs' ps' = some out' ∧ LR κ out.toList out'.toList
  | [], ps', cs, cs', out, r, rc, e => by
    have : ps' = [] := by
      cases ps' with
      | nil => rfl
      | cons => have := r.1; simp at this
    subst this
    simp only [Instr.fill, Option.some.injEq] at e; subst e
    exact ⟨cs', rfl, rc⟩
  | (i, v) :: ps, zs, cs, cs', out, r, rc, e => by
    obtain ⟨⟨i', v'⟩, ps', rfl, h1, h2, h3⟩ := r.cons_inv
    simp only at h1 h2; subst h1
    simp only [Instr.fill] at e ⊢
    cases hp : place i' with
    | none => rw [hp] at e; cases e
    | some q =>
      obtain ⟨off, size⟩ := q
      rw [hp] at e
      simp only at e ⊢
      have hv := h2.cells
      have s1 : v'.cells.size = v.cells.size := by simpa using hv.1.symm
      have s2 : cs'.size = cs.size := by simpa using rc.1.symm
      rw [s1, s2]
      split at e
      · cases e
      · rename_i hc
        rw [if_neg hc]
        refine fill_ok place ps ps' _ _ out h3 ?_ e
        have := fold_lr off v.cells.toList v'.cells.toList 0 cs cs' hv rc
        rw [← Array.foldl_toList, ← Array.foldl_toList, Array.toList_zipIdx, Array.toList_zipIdx]
        exact this
theorem places_run (w : World) : ∀ (fs : List Field) (l : List (Nat × Nat)), placesOf P fs = some l → (fs.mapM (fun f => do pure (f.offset, ← sizeOf f.type) : Field → Sem (Nat × Nat))).run P w = .ok l w
  | [], l, e => by simp only [placesOf, Option.some.injEq] at e; subst e; rfl
  | f :: fs, l, e => by
    simp only [placesOf] at e
    split at e
    · rename_i n l' hn hl
      simp only [Option.some.injEq] at e; subst e
      simp only [List.mapM_cons, Sem.run_bind, r_size hn, Result.andThen_ok, Sem.run_pure, places_run w fs l' hl]
    · cases e
theorem build_ok {t : TypeId} {ps ps' : List (Nat × Value)} {v : Value} (r : PR κ ps ps') (e : abuild P t ps = some v) : ∃ v', (Instr.build t ps'.toArray).run P w = .ok v' w ∧ VR κ v v' := by
  unfold abuild at e
  split at e
  · rename_i zero fields hz hd
    obtain ⟨i, zv, hi, hz', rfl, hcl, hlen⟩ := zero_inv hz
    split at e
    · rename_i places hpl
      obtain ⟨cs, hcs, rfl⟩ := Option.map_eq_some_iff.1 e
      obtain ⟨out', ho, hr⟩ := fill_ok (κ := κ) _ ps ps' _ _ cs r (LR.of_closed κ _ hcl) hcs
      refine ⟨.agg out', ?_, hr.agg⟩
      have hm := places_run w fields.toList places hpl
      simp only [Instr.build, Sem.run_bind, r_zero hi hz', Result.andThen_ok, run_underlying hd, Array.mapM_eq_mapM_toList, Sem.run_map, hm] at ho ⊢
      rw [ho]; rfl
    · cases e
  · rename_i zero n elem hz hd
    obtain ⟨i, zv, hi, hz', rfl, hcl, hlen⟩ := zero_inv hz
    split at e
    · rename_i size hs
      obtain ⟨cs, hcs, rfl⟩ := Option.map_eq_some_iff.1 e
      obtain ⟨out', ho, hr⟩ := fill_ok (κ := κ) _ ps ps' _ _ cs r (LR.of_closed κ _ hcl) hcs
      refine ⟨.agg out', ?_, hr.agg⟩
      simp only [Instr.build, Sem.run_bind, r_zero hi hz', Result.andThen_ok, run_underlying hd, r_size hs] at ho ⊢
      rw [ho]; rfl
    · cases e
  · cases e
theorem rep_closed {z : List Value} (hz : z.all closed = true) : ∀ n, (rep z n).all closed = true
  | 0 => rfl
  | n + 1 => by simp [rep, hz, rep_closed hz n]
theorem rep_nil : ∀ n, rep ([] : List Value) n = []
  | 0 => rfl
  | n + 1 => by simp [rep, rep_nil n]
theorem buildSlice_ok (H : HR P κ h.m w) {t : TypeId} {n : Nat} {ps ps' : List (Nat × Value)} {v : Value} {h' : Hp} (r : PR κ ps ps') (e : abuildSlice P t n ps h = some (v, h')) :
    h'.c = h.c + 1 ∧ (¬κ.dom h.c → ∃ v' w' κ', (Instr.buildSlice t n ps'.toArray).run P w = .ok v' w' ∧ HR P κ' h'.m w' ∧ Gone ro κ κ' h h' w w' ∧ VR κ' v v') := by
  unfold abuildSlice at e
  split at e
  · rename_i elem hd
    split at e
    · rename_i size z hs hz
      split at e
      · cases e
      · rename_i hbig
        split at e
        · rename_i cs hcs
          simp only [Option.some.injEq, Prod.mk.injEq] at e
          obtain ⟨rfl, rfl⟩ := e
          refine ⟨rfl, fun hf => ?_⟩
          obtain ⟨i, zv, hi, hz', rfl, hcl, hlen⟩ := zero_inv hz
          have hsz : i.size = size := by have : sz P elem = some i.size := by simp [sz, hi]
                                         rw [hs] at this; simpa using this.symm
          have hzs : zv.cells.size = size := by rw [← hsz, ← hlen]; simp
          obtain ⟨out', ho, hr⟩ := fill_ok (κ := κ) _ ps ps' _ _ cs r (LR.of_closed κ _ (by rw [List.toList_toArray]; exact rep_closed hcl n)) hcs
          rw [List.toList_toArray] at *
          obtain ⟨a, b⟩ := new_cells (ro := ro) (s := size) (c' := out') (w' := { w with heap := w.heap.push (.cells out' elem) }) H hf false (0, 0) hs
            (arr_same hr) (by have := hr.1; simp at this; simp; omega) (fun _ => rfl) rfl rfl rfl rfl
          refine ⟨.slice (some ⟨w.heap.size, 0, none⟩) n n, _, _, ?_, a, b, vr_slice (Nat.le_refl _)⟩
          have hrr : ∀ zz : Array Value, zz = (if n * size = 0 then #[] else zv.cells) → (Array.range (n * size)).map (zz[· % zz.size]!) = (rep zv.cells.toList n).toArray := by
            intro zz hzz
            by_cases h0 : n * size = 0
            · rw [hzz, if_pos h0, h0]
              have : rep zv.cells.toList n = [] := by
                rcases Nat.mul_eq_zero.1 h0 with q | q
                · rw [q]; rfl
                · have : zv.cells.toList = [] := List.eq_nil_of_length_eq_zero (by rw [Array.length_toList]; omega)
                  rw [this, rep_nil]
              rw [this]; simp
            · rw [hzz, if_neg h0, ← hzs]
              apply Array.ext'
              rw [rep_range]
          simp only [Instr.buildSlice, Sem.run_bind, run_underlying hd, Result.andThen_ok, r_size hs, hbig, if_false]
          by_cases h0 : n * size = 0
          · have := hrr #[] (by rw [if_pos h0])
            simp only [h0, if_true, Sem.run_bind, Sem.run_pure, Result.andThen_ok] at this ⊢
            simp only [this, ho, Sem.run_bind, newRow, run_newObj, Result.andThen_ok, Sem.run_pure]
          · have := hrr zv.cells (by rw [if_neg h0])
            simp only [h0, if_false, Sem.run_bind, Sem.run_pure, Result.andThen_ok, r_zero hi hz'] at this ⊢
            simp only [this, ho, Sem.run_bind, newRow, run_newObj, Result.andThen_ok, Sem.run_pure]
        · cases e
    · cases e
  · cases e
end
end Ex
end
section
namespace Ex
section
variable {P : Program} {ro : Nat} {κ : K} {h : Hp} {w : World}
theorem VR.len {x x' : Value} {n : Nat} (r : VR κ x x') (e : alen x = some n) (w : World) : (Builtin.lenOf x').run P w = .ok n w := by
  cases r <;> simp [alen] at e <;> subst e <;> rfl
theorem bytes_lr (κ : K) (l : List UInt8) : LR κ (l.map fun b => Value.int .u8 b.toNat) (l.map fun b => Value.int .u8 b.toNat) :=
  ⟨rfl, fun i v v' a b => by rw [a] at b; cases b; rw [List.getElem?_map] at a; cases hb : l[i]? with | none => rw [hb] at a; cases a | some q => rw [hb] at a; simp at a; subst a; exact .int _ _⟩
theorem SlOk.off {b off len c off' cap' : Nat} (h : SlOk κ b off len c off' cap') (hp : 0 < c / 2) : off' = off := h.2.elim (fun a => a.2.2) (fun a => a.2.2.1 hp)
theorem SlOk.cap {b off len c off' cap' : Nat} (h : SlOk κ b off len c off' cap') : c / 2 ≤ cap' := h.2.elim (fun a => by omega) (fun a => a.2.1)
/-- The first n places of a slice or a string. -/
theorem firsts_ok (H : HR P κ h.m w) {x x' : Value} {size n len : Nat} {l : List Value} (r : VR κ x x') (hl : alen x = some len) (hn : n ≤ len) (e : firsts h size n x = some l) :
    ∃ l', LR κ l l' ∧ (∀ w2 : World, w2.heap = w.heap → (Builtin.firstCells size n x').run P w2 = .ok l'.toArray w2) := by
  cases r with
  | slice b off ln c off' cap' hd hs =>
    simp only [alen, Option.some.injEq] at hl; subst hl
    simp only [firsts] at e
    split at e
    · rename_i h0
      simp only [Option.some.injEq] at e; subst e
      refine ⟨[], LR.nil κ, fun w2 _ => ?_⟩
      simp only [Builtin.firstCells, h0]; rfl
    · rename_i h0
      have hpos : 0 < n := Nat.pos_of_ne_zero fun q => h0 (by rw [q, Nat.zero_mul])
      have ho := hs.off (by have := hs.1; omega)
      subst ho
      obtain ⟨hdb, hlen, l', hr, hc⟩ := ld_ok H e
      refine ⟨l', hr, fun w2 hw2 => ?_⟩
      simp only [Builtin.firstCells]
      rw [← hlen, hr.1]
      exact run_loadCells_list w2 _ l' fun j v hj => by
        rw [addr_add]
        have := hc j v hj
        simp only [World.cell?, hw2] at this ⊢
        exact this
  | sliceNil =>
    simp only [firsts] at e
    split at e
    · simp only [Option.some.injEq] at e; subst e
      exact ⟨[], LR.nil κ, fun w2 _ => rfl⟩
    · cases e
  | string s =>
    simp only [firsts, Option.some.injEq] at e; subst e
    refine ⟨_, bytes_lr κ _, fun w2 _ => ?_⟩
    have : ((s.extract 0 n).data.map fun b => Value.int .u8 (b.toNat : Int)) = ((s.data.toList.take n).map fun b => Value.int .u8 (b.toNat : Int)).toArray := by
      apply Array.ext'
      simp [ByteArray.data_extract, List.extract_eq_take_drop]
    simp only [Builtin.firstCells, Sem.run_pure, this]
  | _ => simp [alen] at hl
theorem nextcap_le {need old : Nat} (hlt : old < need) : Builtin.nextslicecap need old ≤ 2 * need + 768 := by
  have grow : ∀ (r c : Nat), c ≤ 2 * need + 768 → Builtin.growBy need r c ≤ 2 * need + 768 := by
    intro r
    induction r with
    | zero => intro c hc; exact hc
    | succ r ih =>
      intro c hc
      simp only [Builtin.growBy]
      split
      · exact hc
      · exact ih _ (by omega)
  unfold Builtin.nextslicecap
  split
  · omega
  · split
    · omega
    · exact grow 4 old (by omega)
theorem r_zeros {t : Option TypeId} (e : plainSrc P t = true) (w : World) : (match t with | some xType => do pure ((← underlying xType) matches .int _) | none => pure false : Sem Bool).run P w = .ok false w := by
  cases t with
  | none => rfl
  | some t =>
    simp only [plainSrc] at e
    cases hu : P.underlying t with
    | none => rw [hu] at e; cases e
    | some d =>
      simp only [Sem.run_bind, run_underlying hu, Result.andThen_ok, Sem.run_pure]
      rw [hu] at e
      cases d <;> first | rfl | cases e
/-- Appending where there is no room, in the world's own way. -/
theorem append_grow {sT elem : TypeId} {at2 : List TypeId} {info : TypeInfo} {z : Value} {ty : TypeId} {s' x' : Value} {base : Option Addr} {len cap n : Nat} {old new : List Value}
    (hsT : P.underlying sT = some (.slice elem)) (hi : P.info? elem = some info) (hz : info.zero = some z) (hzs : z.cells.size = info.size) (hpl : plainSrc P at2[0]? = true)
    (hs : s' = .slice base len cap) (hlen : ∀ w2 : World, (Builtin.lenOf x').run P w2 = .ok n w2) (hold : ∀ w2 : World, w2.heap = w.heap → (Builtin.firstCells info.size len s').run P w2 = .ok old.toArray w2)
    (hnew : ∀ w2 : World, w2.heap = w.heap → (Builtin.firstCells info.size n x').run P w2 = .ok new.toArray w2) (hol : old.length = len * info.size) (hnl : new.length = n * info.size)
    (hgt : cap < len + n) (hby : ¬(info.bytes = 0 ∨ (2 * (len + n) + 768) * info.bytes > 2 ^ 47)) :
    ∃ (c' : Array Value) (newCap : Nat) (w' : World), (Builtin.append_ (sT :: at2).toArray ty #[s', x']).run P w = .ok (.slice (some ⟨w.heap.size, 0, none⟩) (len + n) newCap) w' ∧
      w'.heap = w.heap.push (.cells c' elem) ∧ w'.os = w.os ∧ w'.tape = w.tape ∧ w'.output = w.output ∧ c'.size = newCap * info.size ∧ len + n ≤ newCap ∧ ∃ rest, c'.toList = old ++ new ++ rest := by
  subst hs
  have hb0 : info.bytes ≠ 0 := fun q => hby (.inl q)
  have hb1 : (2 * (len + n) + 768) * info.bytes ≤ 2 ^ 47 := by omega
  have hsz : sz P elem = some info.size := by simp [sz, hi]
  have hnc := nextcap_le hgt
  have hnb : ¬ Builtin.nextslicecap (len + n) cap * info.bytes > 2 ^ 48 := by
    have : Builtin.nextslicecap (len + n) cap * info.bytes ≤ (2 * (len + n) + 768) * info.bytes := Nat.mul_le_mul_right _ hnc
    omega
  have hge := grownCap_ge w (len + n) cap elem
  refine ⟨old.toArray ++ new.toArray ++ Builtin.zeroCells z.cells (grownCap w (len + n) cap elem - (len + n)), grownCap w (len + n) cap elem,
    w.drew.alloc (.cells (old.toArray ++ new.toArray ++ Builtin.zeroCells z.cells (grownCap w (len + n) cap elem - (len + n))) elem), ?_, rfl, rfl, rfl, rfl, ?_, hge, ?_⟩
  · have hroom : ¬ len + n ≤ cap := by omega
    have e0 : (sT :: at2).toArray[0]? = some sT := rfl
    have e1 : (sT :: at2).toArray[1]? = at2[0]? := by simp
    have hq : Question.forced (.appendCap (len + n) cap elem) = false := rfl
    have fin : ∀ Z : Array Value, w.drew.alloc (.cells (old.toArray ++ (new.toArray ++ Z)) elem) = w.drew.alloc (.cells ((old ++ new).toArray ++ Z) elem) := fun Z => by
      congr 2; apply Array.ext'; simp
    unfold Builtin.append_
    simp only [e0, e1, List.getElem?_toArray, List.getElem?_cons_zero, List.getElem?_cons_succ, Sem.run_bind, run_underlying hsT, Result.andThen_ok, r_size hsz]
    cases ht : at2[0]? with
    | none =>
      simp [hlen, hroom, hb0, hnb, hq, World.drew_eq, hold w.drew rfl, hnew w.drew rfl, r_zero hi hz, newRow, r_info hi]
      exact ⟨rfl, fin _⟩
    | some t =>
      rw [ht] at hpl
      simp only [plainSrc] at hpl
      cases hu : P.underlying t with
      | none => rw [hu] at hpl; cases hpl
      | some d =>
        rw [hu] at hpl
        simp only [Sem.run_bind, run_underlying hu, Result.andThen_ok, Sem.run_pure]
        cases d <;> first
          | (cases hpl; done)
          | (simp [hlen, hroom, hb0, hnb, hq, World.drew_eq, hold w.drew rfl, hnew w.drew rfl, r_zero hi hz, newRow, r_info hi]
             exact ⟨rfl, fin _⟩)
  · simp only [Array.size_append, List.size_toArray, size_zeroCells, hzs, hol, hnl]
    rw [← Nat.add_mul, ← Nat.add_mul]; congr 1; omega
  · exact ⟨(Builtin.zeroCells z.cells (grownCap w (len + n) cap elem - (len + n))).toList, by simp only [Array.toList_append]⟩
/-- Appending where there is room. -/
theorem append_room {sT elem : TypeId} {at2 : List TypeId} {size : Nat} {ty : TypeId} {x' : Value} {base : Option Addr} {len cap n : Nat} {new : List Value} {w' : World}
    (hsT : P.underlying sT = some (.slice elem)) (hsz : sz P elem = some size) (hpl : plainSrc P at2[0]? = true) (hlen : (Builtin.lenOf x').run P w = .ok n w)
    (hnew : (Builtin.firstCells size n x').run P w = .ok new.toArray w) (hle : len + n ≤ cap) (hst : ∀ a, base = some a → (storeCells (a.add (len * size)) new).run P w = .ok () w') (hb : base = none → w' = w) :
    (Builtin.append_ (sT :: at2).toArray ty #[.slice base len cap, x']).run P w = .ok (.slice base (len + n) cap) w' := by
  have e0 : (sT :: at2).toArray[0]? = some sT := rfl
  have e1 : (sT :: at2).toArray[1]? = at2[0]? := by simp
  unfold Builtin.append_
  simp only [e0, e1, List.getElem?_toArray, List.getElem?_cons_zero, List.getElem?_cons_succ, Sem.run_bind, run_underlying hsT, Result.andThen_ok, r_size hsz]
  cases ht : at2[0]? with
  | none =>
    cases base with
    | none => rw [hb rfl]; simp [hlen, hle, hnew]
    | some a => simp [hlen, hle, hnew, hst a rfl]
  | some t =>
    rw [ht] at hpl
    simp only [plainSrc] at hpl
    cases hu : P.underlying t with
    | none => rw [hu] at hpl; cases hpl
    | some d =>
      rw [hu] at hpl
      simp only [Sem.run_bind, run_underlying hu, Result.andThen_ok, Sem.run_pure]
      cases base with
      | none => rw [hb rfl]; cases d <;> first | (cases hpl; done) | simp [hlen, hle, hnew]
      | some a => have := hst a rfl; cases d <;> first | (cases hpl; done) | simp [hlen, hle, hnew, this]
theorem lr_len {l l' : List Value} (r : LR κ l l') : l'.length = l.length := r.1.symm
theorem append_ok (H : HR P κ h.m w) {ats : List TypeId} {ty : TypeId} {s s' x x' v : Value} {h' : Hp} (rs : VR κ s s') (rx : VR κ x x') (e : aappend P ro ats h s x = some (v, h')) :
    h.c ≤ h'.c ∧ (Free κ h.c h'.c → ∃ v' w' κ', (Builtin.append_ ats.toArray ty #[s', x']).run P w = .ok v' w' ∧ HR P κ' h'.m w' ∧ Gone ro κ κ' h h' w w' ∧ VR κ' v v') := by
  unfold aappend at e
  cases ats with
  | nil => simp at e
  | cons sT at2 =>
    simp only [List.getElem?_cons_zero, List.getElem?_cons_succ] at e
    split at e
    · rename_i elem hsT
      split at e
      · rename_i info n hi hln hpl
        split at e
        · rename_i new z hnew hz
          split at e
          · rename_i hc
            simp only [Bool.and_eq_true, beq_iff_eq] at hc
            obtain ⟨hsc, hnl⟩ := hc
            obtain ⟨i2, zv, hi2, hz', rfl, hcl, hzl⟩ := zero_inv hz
            rw [hi] at hi2; cases hi2
            have hzs : zv.cells.size = info.size := by rw [← hzl]; simp
            have hsz : sz P elem = some info.size := by simp [sz, hi]
            obtain ⟨new', rn, hnr⟩ := firsts_ok H rx hln (Nat.le_refl n) hnew
            have hlen := fun w2 => rx.len (P := P) hln w2
            have hnl' : new'.length = n * info.size := by rw [lr_len rn, hnl]
            have sc' := rn.scalars hsc
            cases rs with
            | sliceNil =>
              simp only at e
              split at e
              · rename_i hn0
                simp only [Option.some.injEq, Prod.mk.injEq] at e
                obtain ⟨rfl, rfl⟩ := e
                subst hn0
                exact ⟨Nat.le_refl _, fun _ => ⟨.slice none 0 0, w, κ, append_room (len := 0) (cap := 0) hsT hsz hpl (hlen w) (hnr w rfl) (Nat.le_refl _) (fun a q => by cases q) (fun _ => rfl), H, Gone.refl H, .sliceNil⟩⟩
              · rename_i hn0
                split at e
                · cases e
                · rename_i hby
                  simp only [Option.some.injEq, Prod.mk.injEq] at e
                  obtain ⟨rfl, rfl⟩ := e
                  refine ⟨by simp [Hp.new], fun hf => ?_⟩
                  obtain ⟨c', nc, w', hrun, hh, h1, h2, h3, hcs, hge, rest, hrest⟩ := append_grow (P := P) (w := w) (ty := ty) (base := none) (len := 0) (cap := 0) (old := []) (at2 := at2) hsT hi hz' hzs hpl rfl hlen (fun w2 _ => rfl) hnr (by simp) hnl' (by omega) (by simpa using hby)
                  have hfree := hf h.c (Nat.le_refl _) (by simp [Hp.new])
                  obtain ⟨a, b⟩ := new_cells (ro := ro) (l := new) H hfree false (0, 0) hsz (fun i v hv => by
                    obtain ⟨v', a, b⟩ := rn.get hv
                    refine ⟨v', ?_, b⟩
                    rw [← Array.getElem?_toList, hrest, List.nil_append, List.getElem?_append_left (List.getElem?_eq_some_iff.1 a).1]; exact a) (by rw [← Array.length_toList, hrest]; simp [lr_len rn]) (fun _ => rfl) hh h1 h2 h3
                  refine ⟨_, w', _, hrun, a, b, ?_⟩
                  rw [Nat.zero_add] at hge ⊢
                  exact vr_sliceU (Nat.le_refl n) hge (by rw [hcs]; exact Nat.le_refl _)
            | slice b off len c off' cap' hd hs =>
              simp only at e
              split at e
              · rename_i hn0
                simp only [Option.some.injEq, Prod.mk.injEq] at e
                obtain ⟨rfl, rfl⟩ := e
                subst hn0
                have : new' = [] := List.eq_nil_of_length_eq_zero (by simpa using hnl')
                subst this
                exact ⟨Nat.le_refl _, fun _ => ⟨_, w, κ, append_room (len := len) (cap := cap') hsT hsz hpl (hlen w) (hnr w rfl) (by have := hs.1; have := hs.cap; omega) (fun a q => rfl) (fun q => by cases q), H, Gone.refl H, .slice _ _ _ _ _ _ hd hs⟩⟩
              · rename_i hn0
                split at e
                · rename_i hle
                  split at e
                  · rename_i h2 hst
                    simp only [Option.some.injEq, Prod.mk.injEq] at e
                    obtain ⟨rfl, rfl⟩ := e
                    have ho := hs.off (by omega)
                    subst ho
                    obtain ⟨hcc, w', hrun, hH, hG⟩ := st_ok H rn hst
                    refine ⟨by omega, fun _ => ⟨_, w', κ, append_room (len := len) (cap := cap') hsT hsz hpl (hlen w) (hnr w rfl) (by have := hs.cap; omega) (fun a q => ?_) (fun q => by cases q), hH, hG, .slice _ _ _ _ _ _ hd ⟨by omega, hs.2⟩⟩⟩
                    cases q
                    rw [addr_add]; exact hrun
                  · cases e
                · rename_i hgt
                  split at e
                  · cases e
                  · rename_i hby
                    split at e
                    · rename_i old hold
                      have rss : VR κ (.slice (some ⟨b, off, none⟩) len c) (.slice (some ⟨κ.p b, off', none⟩) len cap') := .slice _ _ _ _ _ _ hd hs
                      obtain ⟨old', rol, hor⟩ := firsts_ok H rss rfl (Nat.le_refl len) hold
                      have hol : old.length = len * info.size := by
                        simp only [firsts] at hold
                        split at hold
                        · rename_i q; simp only [Option.some.injEq] at hold; subst hold; simp [q]
                        · exact (ld_ok H hold).2.1
                      have hol' : old'.length = len * info.size := by rw [lr_len rol, hol]
                      -- where the world grows
                      have grow : cap' < len + n → ¬κ.dom h.c → ∃ (v' : Value) (w' : World) (κ' : K), (Builtin.append_ (sT :: at2).toArray ty #[.slice (some ⟨κ.p b, off', none⟩) len cap', x']).run P w = .ok v' w' ∧
                          HR P κ' (h.new (.cells (old ++ new) elem false)).m w' ∧ Gone ro κ κ' h (h.new (.cells (old ++ new) elem false)) w w' ∧ (∀ i, κ'.dom i ↔ κ.dom i ∨ i = h.c) ∧ VR κ' (.slice (some ⟨h.c, 0, none⟩) (len + n) (2 * (len + n) + 1)) v' := by
                        intro hlt hfree
                        obtain ⟨c', nc, w', hrun, hh, h1, h2, h3, hcs, hge, rest, hrest⟩ := append_grow (P := P) (w := w) (ty := ty) (at2 := at2) hsT hi hz' hzs hpl rfl hlen hor hnr hol' hnl' hlt hby
                        obtain ⟨a, b⟩ := new_cells (ro := ro) (l := old ++ new) H hfree false (0, 0) hsz (fun i v hv => by
                          obtain ⟨v', a, b⟩ := (rol.append rn).get hv
                          refine ⟨v', ?_, b⟩
                          rw [← Array.getElem?_toList, hrest, List.getElem?_append_left (List.getElem?_eq_some_iff.1 a).1]; exact a) (by rw [← Array.length_toList, hrest]; simp [lr_len rn, lr_len rol]) (fun _ => rfl) hh h1 h2 h3
                        exact ⟨_, w', _, hrun, a, b, fun i => Iff.rfl, vr_sliceU (Nat.le_refl _) hge (by rw [hcs]; exact Nat.le_refl _)⟩
                      split at e
                      · rename_i hex
                        simp only [Option.some.injEq, Prod.mk.injEq] at e
                        obtain ⟨rfl, rfl⟩ := e
                        refine ⟨by simp [Hp.new], fun hf => ?_⟩
                        have hcap : cap' < len + n := by
                          rcases hs.2 with ⟨_, q, _⟩ | ⟨q, _⟩ <;> omega
                        obtain ⟨v', w', κ', a1, a2, a3, _, a4⟩ := grow hcap (hf h.c (Nat.le_refl _) (by simp [Hp.new]))
                        exact ⟨v', w', κ', a1, a2, a3, a4⟩
                      · rename_i hun
                        split at e
                        · rename_i oc oe hob
                          split at e
                          · rename_i hcond
                            obtain ⟨ho0, hc0, hoe, hosc⟩ := hcond
                            subst hoe
                            split at e
                            · rename_i h2 hu
                              simp only [Option.some.injEq, Prod.mk.injEq] at e
                              obtain ⟨rfl, rfl⟩ := e
                              obtain ⟨hr, rfl⟩ := Hp.upd_inv hu
                              refine ⟨by simp [Hp.new], fun hf => ?_⟩
                              have hfree := hf h.c (Nat.le_refl _) (by simp [Hp.new])
                              have hoff := hs.off hc0
                              subst hoff
                              subst ho0
                              by_cases hroom : len + n ≤ cap'
                              · -- in place
                                obtain ⟨hdb, o', ho', hor2⟩ := H.obj b _ hob
                                cases hor2 with
                                | cells _ _ _ c2 fz hcn hcl hcs hcc hcf =>
                                  have := hcf rfl
                                  subst this
                                  have hsb : info.size = κ.s b := by rw [hsz] at hcs; simpa using hcs
                                  have hbnd : cap' * info.size ≤ c2.size := by
                                    rcases hs.2 with ⟨q, _⟩ | ⟨_, _, _, q⟩
                                    · omega
                                    · rw [hcn, hsb]; omega
                                  have hfit : len * info.size + new'.length ≤ c2.size := by
                                    rw [hnl', ← Nat.add_mul]
                                    exact Nat.le_trans (Nat.mul_le_mul_right _ hroom) hbnd
                                  have hrun := run_storeCells_at P (κ.p b) (len * info.size) oe new' 0 c2 w ho' (by simpa using hfit) sc'
                                  simp only [Nat.add_zero] at hrun
                                  have hlt : κ.p b < w.heap.size := (Array.getElem?_eq_some_iff.1 ho').1
                                  have hcells : ∀ (i : Nat) v, old[i]? = some v → ∃ v', c2[i]? = some v' ∧ VR κ v v' := by
                                    intro i v hv
                                    simp only [firsts] at hold
                                    split at hold
                                    · simp only [Option.some.injEq] at hold; subst hold; simp at hv
                                    · unfold ldAt at hold
                                      rw [hob] at hold
                                      simp only [List.drop_zero] at hold
                                      by_cases hq : (oc.take (len * info.size)).length = len * info.size
                                      · rw [beqT hq] at hold
                                        simp only [cond_true, Option.some.injEq] at hold; subst hold
                                        rw [List.getElem?_take] at hv
                                        split at hv
                                        · exact hcc i v hv
                                        · cases hv
                                      · rw [beqF hq] at hold; cases hold
                                  have hx := Ext.add (κ.p b) (κ.n b) info.size hfree
                                  have hm := go_move (ro := ro) (w' := w.setRow (κ.p b) (c2.toList.take (len * info.size) ++ new' ++ c2.toList.drop (len * info.size + new'.length)).toArray) (n := κ.n b) (s := info.size) (o := .cells (old ++ new) oe false) H hfree hob hu (by simp [World.setRow]) (setRow_heap w (κ.p b) c2 _ oe (0, 0) ho')
                                    (fun k hk => by simp only [World.setRow]; rw [Array.getElem?_modify, if_neg (Ne.symm hk)]) rfl rfl rfl (by
                                      have ht : (c2.toList.take (len * info.size)).length = len * info.size := by simp; omega
                                      refine .cells _ _ _ _ _ ?_ ?_ ?_ (fun i v hv => ?_) (fun _ => rfl)
                                      · simp [K.add, ← hcn]; omega
                                      · simp [hol, hnl, hnl']; omega
                                      · intro s2 q; rw [hsz] at q; simp [K.add]; simpa using q.symm
                                      · by_cases hi1 : i < old.length
                                        · rw [List.getElem?_append_left hi1] at hv
                                          obtain ⟨v', a, b⟩ := hcells i v hv
                                          refine ⟨v', ?_, b.ext hx⟩
                                          simp only [List.getElem?_toArray]
                                          rw [List.append_assoc, List.getElem?_append_left (by omega), List.getElem?_take, if_pos (by omega), Array.getElem?_toList]; exact a
                                        · rw [List.getElem?_append_right (by omega)] at hv
                                          obtain ⟨v', a, b⟩ := rn.get hv
                                          refine ⟨v', ?_, b.ext hx⟩
                                          have hlt2 := (List.getElem?_eq_some_iff.1 a).1
                                          simp only [List.getElem?_toArray]
                                          rw [List.append_assoc, List.getElem?_append_right (by omega), List.getElem?_append_left (by rw [ht]; omega), ht, ← hol]; exact a)
                                  refine ⟨_, _, _, append_room (len := len) (cap := cap') hsT hsz hpl (hlen w) (hnr w rfl) hroom (fun a q => by cases q; rw [addr_add, Nat.zero_add]; exact hrun) (fun q => by cases q), hm.1, hm.2, ?_⟩
                                  have := VR.slice (κ := κ.add h.c (κ.p b) (κ.n b) info.size) h.c 0 (len + n) (2 * (len + n) + 1) 0 cap' (.inr rfl) ⟨by omega, .inr ⟨by omega, by omega, fun _ => rfl, by simp [K.add]; rw [← hcn]; exact hbnd⟩⟩
                                  simp only [K.add, if_true] at this
                                  exact this
                              · -- elsewhere: the old block is struck as well
                                obtain ⟨v', w', κ', a1, a2, a3, a5, a4⟩ := grow (by omega) hfree
                                have hg : ∀ i, (Hp.new { m := h.m.put b none, c := h.c, wl := addW b h.wl } (.cells (old ++ new) oe false)).m.get i = if i = h.c then some (.cells (old ++ new) oe false) else if i = b then none else h.m.get i := fun i => by
                                  rw [Hp.get_new]; simp only [Tr.get_put]
                                have hdb := (H.obj b _ hob).1
                                have hbc : b ≠ h.c := fun q => hfree (q ▸ hdb)
                                have hg2 : ∀ i, (h.new (.cells (old ++ new) oe false)).m.get i = if i = h.c then some (.cells (old ++ new) oe false) else h.m.get i := fun i => Hp.get_new _ _ _
                                refine ⟨v', w', κ', a1, a2.sub fun i o hi => ?_, ?_, a4⟩
                                · rw [hg] at hi
                                  rw [hg2]
                                  split at hi
                                  · rename_i q; rw [if_pos q]; exact hi
                                  · rename_i q; rw [if_neg q]
                                    split at hi
                                    · cases hi
                                    · exact hi
                                · refine { a3 with mono := a3.mono, new := a3.new, fresh := fun i hi => ?_, old := fun i hdi hi => ?_, same := fun i hdi hn => ?_, wle := fun i hi => mem_addW.2 (.inr hi) }
                                  · rw [hg] at hi
                                    have : ((h.new (.cells (old ++ new) oe false)).m.get i).isSome := by
                                      rw [hg2]
                                      split at hi
                                      · rename_i q; rw [if_pos q]; rfl
                                      · rename_i q; rw [if_neg q]
                                        split at hi
                                        · cases hi
                                        · exact hi
                                    rcases a3.fresh i this with q | q | ⟨k, hk, hdk, hsk, hzk, ek⟩
                                    · exact .inl q
                                    · exact .inr (.inl q)
                                    · refine .inr (.inr ⟨k, hk, hdk, hsk, ?_, ek⟩)
                                      rw [hg2] at hzk
                                      rw [hg]
                                      split at hzk
                                      · cases hzk
                                      · rename_i q; rw [if_neg q]
                                        split
                                        · rfl
                                        · exact hzk
                                  · rw [hg, if_neg (fun (q : i = h.c) => hfree (q ▸ hdi))] at hi
                                    split at hi
                                    · cases hi
                                    · exact hi
                                  · rw [hg, if_neg (fun (q : i = h.c) => hfree (q ▸ hdi)), if_neg fun q => hn (mem_addW.2 (.inl q))]
                            · cases e
                          · cases e
                        · cases e
                    · cases e
            | _ => simp at e
          · cases e
        · cases e
      · cases e
    · cases e
end
end Ex
end
section
namespace Ex
section
variable {P : Program} {ro : Nat} {κ : K} {h : Hp} {w : World}
theorem copy_ok (H : HR P κ h.m w) {ats : List TypeId} {ty : TypeId} {d d' x x' v : Value} {h' : Hp} (rd : VR κ d d') (rx : VR κ x x') (e : acopy P ro ats h d x = some (v, h')) :
    h'.c = h.c ∧ ∃ v' w', (Builtin.copy_ ats.toArray ty #[d', x']).run P w = .ok v' w' ∧ HR P κ h'.m w' ∧ Gone ro κ κ h h' w w' ∧ VR κ v v' := by
  unfold acopy at e
  split at e
  · rename_i dT hdT
    have e0 : ats.toArray[0]? = some dT := by simpa using hdT
    split at e
    · rename_i elem hu
      split at e
      · rename_i size b off dLen c sl hs hsl
        split at e
        · rename_i cells hcells
          obtain ⟨cells', rc, hrc⟩ := firsts_ok H rx hsl (Nat.min_le_left sl dLen) hcells
          cases rd with
          | slice _ _ _ _ off' cap' hd hsk =>
            have hrun1 : (Builtin.copy_ ats.toArray ty #[.slice (some ⟨κ.p b, off', none⟩) dLen cap', x']).run P w = ((storeCells ⟨κ.p b, off', none⟩ cells').run P w).andThen fun _ w' => .ok (goInt (Nat.min sl dLen)) w' := by
              simp only [Builtin.copy_, e0, List.getElem?_toArray, List.getElem?_cons_zero, List.getElem?_cons_succ, Sem.run_bind, run_underlying hu, Result.andThen_ok, rx.len hsl, r_size hs, hrc w rfl, Sem.run_pure]
            split at e
            · rename_i h0
              simp only [Option.some.injEq, Prod.mk.injEq] at e
              obtain ⟨rfl, rfl⟩ := e
              have : cells' = [] := List.eq_nil_of_length_eq_zero (by rw [lr_len rc, h0])
              subst this
              exact ⟨rfl, goInt (Nat.min sl dLen), w, hrun1, H, Gone.refl H, .int _ _⟩
            · rename_i h0
              split at e
              · rename_i h2 hst
                simp only [Option.some.injEq, Prod.mk.injEq] at e
                obtain ⟨rfl, rfl⟩ := e
                have hpos : 0 < Nat.min sl dLen := by
                  refine Nat.pos_of_ne_zero fun q => h0 ?_
                  rw [q] at hcells
                  cases rx with
                  | slice => simp [firsts] at hcells; subst hcells; rfl
                  | sliceNil => simp [firsts] at hcells; subst hcells; rfl
                  | string => simp [firsts] at hcells; subst hcells; rfl
                  | _ => simp [alen] at hsl
                have ho := hsk.off (by have := hsk.1; have := Nat.min_le_right sl dLen; simp only [Nat.min_def] at *; omega)
                subst ho
                obtain ⟨hcc, w', hr2, hH, hG⟩ := st_ok H rc hst
                exact ⟨hcc, goInt (Nat.min sl dLen), w', by rw [hrun1, hr2, Result.andThen_ok], hH, hG, .int _ _⟩
              · cases e
        · cases e
      · rename_i size sl hs hsl
        simp only [Option.some.injEq, Prod.mk.injEq] at e
        obtain ⟨rfl, rfl⟩ := e
        cases rd with
        | sliceNil =>
          refine ⟨rfl, goInt 0, w, ?_, H, Gone.refl H, .int _ _⟩
          have hm : Nat.min sl 0 = 0 := Nat.min_zero sl
          have hf : (Builtin.firstCells size 0 x').run P w = .ok #[] w := by
            cases rx with
            | slice => simp only [Builtin.firstCells, Nat.zero_mul]; rfl
            | sliceNil => rfl
            | string s => simp [Builtin.firstCells]
            | _ => simp [alen] at hsl
          simp only [Builtin.copy_, e0, List.getElem?_toArray, List.getElem?_cons_zero, List.getElem?_cons_succ, Sem.run_bind, run_underlying hu, Result.andThen_ok, rx.len hsl, r_size hs, hm, hf, Sem.run_pure]
          rfl
      · cases e
    · cases e
  · cases e
theorem lenB_ok (H : HR P κ h.m w) {t ty : TypeId} {x x' v : Value} (r : VR κ x x') (ats : Array TypeId) (ha : ats[0]? = some t) (e : alenB P t h x = some v) :
    ∃ v', (Builtin.len_ ats ty #[x']).run P w = .ok v' w ∧ VR κ v v' := by
  unfold alenB at e
  simp only [Option.bind_eq_bind] at e
  obtain ⟨d, hd, e2⟩ := Option.bind_eq_some_iff.1 e
  clear e
  have e := e2
  clear e2
  split at e
  · simp only [Option.some.injEq] at e; subst e
    cases r with
    | string s => exact ⟨goInt _, by simp [Builtin.len_, ha, run_underlying hd], .int _ _⟩
  · simp only [Option.some.injEq] at e; subst e
    exact ⟨goInt _, by simp [Builtin.len_, ha, run_underlying hd], .int _ _⟩
  · rename_i arr _
    obtain ⟨d2, hd2, e2⟩ := Option.bind_eq_some_iff.1 e
    split at e2
    · simp only [Option.some.injEq] at e2; subst e2
      exact ⟨goInt _, by simp [Builtin.len_, ha, run_underlying hd, run_underlying hd2], .int _ _⟩
    · cases e2
  · simp only [Option.some.injEq] at e; subst e
    cases r with
    | slice => exact ⟨goInt _, by simp [Builtin.len_, ha, run_underlying hd], .int _ _⟩
    | sliceNil => exact ⟨goInt _, by simp [Builtin.len_, ha, run_underlying hd], .int _ _⟩
  · simp only [Option.some.injEq] at e; subst e
    cases r with
    | mapNil => exact ⟨goInt _, by simp [Builtin.len_, ha, run_underlying hd], .int _ _⟩
  · split at e
    · rename_i es cl hob
      simp only [Option.some.injEq] at e; subst e
      cases r with
      | map _ hr =>
        obtain ⟨_, es', ho', he⟩ := map_obj H hob
        refine ⟨goInt es.length, ?_, .int _ _⟩
        have : es'.size = es.length := by have := he.1; simpa using this.symm
        simp [Builtin.len_, ha, run_underlying hd, r_getObj (P := P) ho' (by simp), this]
    · cases e
  · cases e
theorem toStr_run (w : World) : ∀ (l l' : List Value) (acc s : ByteArray), LR κ l l' →
    l.foldl (fun s c => match s, c with | some s, .int .u8 n => some (s.push (UInt8.ofNat n.toNat)) | _, _ => none) (some acc) = some s →
    (ForIn.forIn l' acc (fun c (s : ByteArray) => match c with
      | .int .u8 n => pure (ForInStep.yield (s.push (UInt8.ofNat n.toNat)))
      | _ => do
        stuck "bytesToString: byte expected"
        pure (ForInStep.yield s)) : Sem ByteArray).run P w = .ok s w
  | [], l', acc, s, r, e => by
    rw [r.nil_inv]
    simp only [List.foldl_nil, Option.some.injEq] at e; subst e
    simp
  | x :: xs, zs, acc, s, r, e => by
    obtain ⟨y, ys, rfl, h1, h2⟩ := r.cons_inv
    have none_fold : ∀ l : List Value, l.foldl (fun s c => match s, c with | some s, .int .u8 n => some (s.push (UInt8.ofNat n.toNat)) | _, _ => none) (none : Option ByteArray) = none := by
      intro l
      induction l with
      | nil => rfl
      | cons a l ih => simp only [List.foldl_cons]; exact ih
    cases h1 with
    | int k n =>
      cases k with
      | u8 =>
        simp only [List.foldl_cons] at e
        have ih := toStr_run w xs ys _ s h2 e
        simp only [List.forIn_cons, Sem.run_bind, Sem.run_pure, Result.andThen_ok]
        exact ih
      | _ => simp only [List.foldl_cons] at e; rw [none_fold] at e; cases e
    | _ => simp only [List.foldl_cons] at e; rw [none_fold] at e; cases e
theorem push_modify {α : Type} (a : Array α) (x : α) (f : α → α) : (a.push x).modify a.size f = a.push (f x) := by
  apply Array.ext (by simp)
  intro i h1 h2
  rw [Array.getElem_modify]
  by_cases hi : i = a.size
  · subst hi; simp
  · have : i < a.size := by simp at h2; omega
    simp [Array.getElem_push, this, Ne.symm hi]
theorem convert_ok (H : HR P κ h.m w) {src dst : TypeId} {x x' v : Value} {h' : Hp} (r : VR κ x x') (e : aconvert P src dst h x = some (v, h')) :
    h.c ≤ h'.c ∧ (Free κ h.c h'.c → ∃ v' w' κ', (convert src dst x').run P w = .ok v' w' ∧ HR P κ' h'.m w' ∧ Gone ro κ κ' h h' w w' ∧ VR κ' v v') := by
  unfold aconvert at e
  simp only [Option.bind_eq_bind] at e
  obtain ⟨d1, hd1, e2⟩ := Option.bind_eq_some_iff.1 e
  obtain ⟨d2, hd2, e3⟩ := Option.bind_eq_some_iff.1 e2
  clear e e2
  split at e3
  · simp only [Option.some.injEq, Prod.mk.injEq] at e3
    obtain ⟨rfl, rfl⟩ := e3
    cases r with
    | int k n => exact ⟨Nat.le_refl _, fun _ => ⟨_, w, κ, by simp [convert, run_underlying hd1, run_underlying hd2, Conv.intToInt], H, Gone.refl H, .int _ _⟩⟩
  · simp only [Option.some.injEq, Prod.mk.injEq] at e3
    obtain ⟨rfl, rfl⟩ := e3
    cases r with
    | string _ => exact ⟨Nat.le_refl _, fun _ => ⟨_, w, κ, by simp [convert, run_underlying hd1, run_underlying hd2], H, Gone.refl H, .string _⟩⟩
  · rename_i el s
    obtain ⟨d3, hd3, e4⟩ := Option.bind_eq_some_iff.1 e3
    split at e4
    · rename_i hs1
      simp only [Option.some.injEq, Prod.mk.injEq] at e4
      obtain ⟨rfl, rfl⟩ := e4
      cases r with
      | string _ =>
        refine ⟨by simp [Hp.new], fun hf => ?_⟩
        have hfree := hf h.c (Nat.le_refl _) (by simp [Hp.new])
        have hge := grownCap_ge w s.size 0 el
        have hds : s.data.size = s.size := rfl
        generalize hc' : ((s.data.map fun b => Value.int .u8 (b.toNat : Int)) ++ Array.replicate (grownCap w s.size 0 el - s.size) (.int .u8 0) : Array Value) = c'
        have hcs : c'.size = grownCap w s.size 0 el := by
          rw [← hc']
          simp only [Array.size_append, Array.size_map, Array.size_replicate, hds]; omega
        obtain ⟨a, b⟩ := new_cells (ro := ro) (κ := κ) (h := h) (s := 1) (t := el) (l := s.data.toList.map fun b => Value.int .u8 (b.toNat : Int)) (c' := c') (w' := { w.drew with heap := w.heap.push (.cells c' el (c'.size, c'.size + 1)) }) H hfree true (c'.size, c'.size + 1) hs1
          (fun i v hv => by
            refine ⟨v, ?_, (bytes_lr κ s.data.toList).2 i v v hv hv⟩
            rw [← hc', ← Array.getElem?_toList, Array.toList_append, List.getElem?_append_left (by have := (List.getElem?_eq_some_iff.1 hv).1; simpa using this), Array.toList_map]; exact hv) (by rw [hcs, List.length_map, Array.length_toList, hds]; exact hge) (fun q => by cases q) rfl rfl rfl rfl
        refine ⟨.slice (some ⟨w.heap.size, 0, none⟩) s.size c'.size, _, _, ?_, a, b, vr_sliceU (Nat.le_refl _) (by omega) (by omega)⟩
        have hq : Question.forced (.appendCap s.size 0 el) = false := rfl
        have hcc : (Question.appendCap s.size 0 el).cut (w.tape w.drawn (.appendCap s.size 0 el)) = grownCap w s.size 0 el := rfl
        simp only [convert, Sem.run_bind, run_underlying hd1, run_underlying hd2, run_underlying hd3, Result.andThen_ok, Conv.stringToBytes, run_choose, hq, Bool.false_eq_true, if_false, hcc, newRow, run_newObj, Sem.run_pure, markStringish, run_shape]
        rw [hc']
        have hsh : ({ heap := w.heap.push (.cells c' el), tape := w.tape, drawn := w.drawn + 1, os := w.os, output := w.output } : World).shape? w.heap.size = some (el, c'.size) := by simp [World.shape?]
        simp only [hsh, run_freeze, Result.andThen_ok, World.freeze, Nat.one_ne_zero, if_false, push_modify, hcs]
        rfl
    · cases e4
  · obtain ⟨d3, hd3, e4⟩ := Option.bind_eq_some_iff.1 e3
    split at e4
    · simp only [Option.some.injEq, Prod.mk.injEq] at e4
      obtain ⟨rfl, rfl⟩ := e4
      cases r with
      | sliceNil => exact ⟨Nat.le_refl _, fun _ => ⟨.string .empty, w, κ, by simp [convert, run_underlying hd1, run_underlying hd2, run_underlying hd3, Conv.bytesToString], H, Gone.refl H, .string _⟩⟩
    · cases e4
  · rename_i el b off len c
    obtain ⟨d3, hd3, e4⟩ := Option.bind_eq_some_iff.1 e3
    split at e4
    · obtain ⟨l, hl, e5⟩ := Option.bind_eq_some_iff.1 e4
      obtain ⟨s, hs, e6⟩ := Option.bind_eq_some_iff.1 e5
      simp only [Option.some.injEq, Prod.mk.injEq] at e6
      obtain ⟨rfl, rfl⟩ := e6
      cases r with
      | slice _ _ _ _ off' cap' hd hsk =>
        refine ⟨Nat.le_refl _, fun _ => ⟨.string s, w, κ, ?_, H, Gone.refl H, .string _⟩⟩
        have hld : ∃ l', LR κ l l' ∧ (loadCells ⟨κ.p b, off', none⟩ len).run P w = .ok l'.toArray w := by
          split at hl
          · rename_i h0
            simp only [Option.some.injEq] at hl; subst hl; subst h0
            exact ⟨[], LR.nil κ, rfl⟩
          · rename_i h0
            have ho := hsk.off (by have := hsk.1; omega)
            subst ho
            exact r_ld H hl
        obtain ⟨l', hr, hrun⟩ := hld
        have := toStr_run (P := P) w l l' .empty s hr hs
        simp only [convert, Sem.run_bind, run_underlying hd1, run_underlying hd2, run_underlying hd3, Result.andThen_ok, Conv.bytesToString, hrun]
        rw [List.forIn_toArray]
        exact congrArg (fun q : Result ByteArray => q.andThen fun a w' => Sem.run P (pure (Value.string a)) w') this
    · cases e4
  · cases e3
theorem loadBytes_ok : ∀ (l l' : List Value) (a : Addr) (acc s : ByteArray), LR κ l l' → (∀ (j : Nat) v, l'[j]? = some v → w.cell? ⟨a.block, a.off + j, none⟩ = some v) → a.spot = none →
    l.foldl (fun s c => match s, c with | some s, .int .u8 n => some (s.push (UInt8.ofNat n.toNat)) | _, _ => none) (some acc) = some s → (loadBytes a acc l.length).run P w = .ok s w
  | [], l', a, acc, s, r, hc, hs, e => by simp only [List.foldl_nil, Option.some.injEq] at e; subst e; rfl
  | x :: xs, zs, a, acc, s, r, hc, hs, e => by
    obtain ⟨y, ys, rfl, h1, h2⟩ := r.cons_inv
    have none_fold : ∀ l : List Value, l.foldl (fun s c => match s, c with | some s, .int .u8 n => some (s.push (UInt8.ofNat n.toNat)) | _, _ => none) (none : Option ByteArray) = none := by
      intro l
      induction l with
      | nil => rfl
      | cons a l ih => simp only [List.foldl_cons]; exact ih
    obtain ⟨blk, off, spot⟩ := a
    simp only at hs hc; subst hs
    have hcell : w.cell? ⟨blk, off, none⟩ = some y := by simpa using hc 0 y rfl
    cases h1 with
    | int k n =>
      cases k with
      | u8 =>
        simp only [List.foldl_cons] at e
        have ih := loadBytes_ok xs ys ⟨blk, off + 1, none⟩ _ s h2 (fun j v hj => by
          have := hc (j + 1) v (by simpa using hj)
          simpa [Nat.add_assoc, Nat.add_comm 1 j] using this) rfl e
        simp only [List.length_cons, loadBytes, Sem.run_bind, run_load, hcell, Result.andThen_ok, addr_add]
        exact ih
      | _ => simp only [List.foldl_cons] at e; rw [none_fold] at e; cases e
    | _ => simp only [List.foldl_cons] at e; rw [none_fold] at e; cases e
theorem liesAt_one {e count off n d : Nat} (hs : P.cellsOf e = 1) (hd : 0 < P.depth) (hle : off + n ≤ count) : liesAt P (d + 1) e count off e n = true := by
  obtain ⟨d', hd'⟩ : ∃ d', P.depth = d' + 1 := ⟨P.depth - 1, by omega⟩
  have hsl : ∀ t, sameLayout P (d' + 1) t t = true := fun t => by simp [sameLayout]
  simp only [liesAt, hd', rowAt, hs, Nat.one_ne_zero, if_false, Nat.mod_one, Nat.div_one, hsl]
  simp [hle]
theorem unsafeString_ok (H : HR P κ h.m w) {ats : Array TypeId} {ty : TypeId} {p p' n n' v : Value} {h' : Hp} (rp : VR κ p p') (rn : VR κ n n') (e : aunsafeString P ro ats.toList h p n = some (v, h')) :
    ∃ v' w', (Builtin.unsafeString_ ats ty #[p', n']).run P w = .ok v' w' ∧ HR P κ h'.m w' ∧ Gone ro κ κ h h' w w' ∧ VR κ v v' := by
  unfold aunsafeString at e
  split at e
  · rename_i pt k hpt hk
    obtain ⟨kk, rfl⟩ := asI_inv rn hk
    split at e
    · rename_i el b off hd
      split at e
      · rename_i hrange
        split at e
        · rename_i c el2 fr hob
          split at e
          · rename_i hcond
            obtain ⟨rfl, hs1, hu8, hdep⟩ := hcond
            split at e
            · rename_i s h2 hs hu
              simp only [Option.some.injEq, Prod.mk.injEq] at e
              obtain ⟨rfl, rfl⟩ := e
              obtain ⟨l, hl, hstr⟩ := Option.bind_eq_some_iff.1 hs
              cases rp with
              | ptr _ _ hdb =>
                obtain ⟨_, hlen, l', hr, hc⟩ := ld_ok H hl
                obtain ⟨_, o', ho', hor⟩ := H.obj b _ hob
                cases hor with
                | cells _ _ _ c' fz hn hcl hss hcc hf =>
                  have hcells : P.cellsOf el2 = 1 := by
                    obtain ⟨i, hi, his⟩ := sz_info hs1
                    simp [Program.cellsOf, hi, his]
                  have hfit : off + k.toNat ≤ c'.size := by
                    unfold ldAt at hl
                    rw [hob] at hl
                    simp only at hl
                    by_cases hq : ((c.drop off).take k.toNat).length = k.toNat
                    · simp at hq; omega
                    · rw [beqF hq] at hl; cases hl
                  have hpos : k.toNat ≠ 0 := by omega
                  have hb := loadBytes_ok (P := P) (w := w) l l' ⟨κ.p b, off, none⟩ .empty s hr hc rfl hstr
                  rw [hlen] at hb
                  obtain ⟨hH, hG⟩ := go_killw (w' := w.freeze ⟨κ.p b, off, none⟩ k.toNat) H hob hu (by simp [World.freeze, hpos]) (fun x hx => by simp only [World.freeze, hpos, if_false]; rw [Array.getElem?_modify, if_neg (Ne.symm hx)]) (by simp [World.freeze, hpos]) (by simp [World.freeze, hpos]) (by simp [World.freeze, hpos])
                  refine ⟨.string s, _, ?_, hH, hG, .string s⟩
                  have hsh : w.shape? (κ.p b) = some (el2, c'.size) := by simp [World.shape?, ho']
                  have hpt' : ats[0]? = some pt := by rw [← Array.getElem?_toList]; exact hpt
                  obtain ⟨d', hd'⟩ : ∃ d', P.depth = d' + 1 := ⟨P.depth - 1, by omega⟩
                  have hla := liesAt_one (P := P) (e := el2) (count := c'.size) (off := off) (n := k.toNat) (d := d') hcells hdep hfit
                  have hva : (variablesAt ⟨κ.p b, off, none⟩ el2 k.toNat).run P w = .ok true w := by
                    simp only [variablesAt, Sem.run_bind, run_program, Result.andThen_ok, run_shape, hsh, Sem.run_pure, hcells, Nat.div_one]
                    rw [hd', hla]
                  have n1 : ¬k < 0 := by omega
                  have n2 : ¬k > IntKind.i64.max := by simp only [IntKind.max, IntKind.signed, IntKind.bits]; simp; omega
                  have n3 : ¬k = 0 := by omega
                  have hdef : Builtin.unsafeString_ ats ty #[.pointer (some ⟨κ.p b, off, none⟩), .int kk k] = (do
                      let n ← asInt (.int kk k)
                      let some pt := ats[0]? | stuck "unsafe.String: no argument types"
                      if n < 0 then runtimePanic (.error "unsafe.String: len out of range")
                      if n > IntKind.i64.max then unsupported (.unsafePointer "String: a length above the largest int")
                      if n = 0 then pure (.string .empty)
                      else if ← variablesAt ⟨κ.p b, off, none⟩ (← elemOf pt) n.toNat then do
                        let s ← loadBytes ⟨κ.p b, off, none⟩ .empty n.toNat
                        freeze ⟨κ.p b, off, none⟩ n.toNat
                        pure (.string s)
                      else unsupported (.unsafePointer "String: not so many bytes at ptr")) := rfl
                  rw [hdef]
                  simp only [Sem.run_bind, asInt, asIntOf, Sem.run_pure, Result.andThen_ok, hpt', n1, n2, n3, if_false, elemOf, run_underlying hd, hva, if_true, hb, run_freeze]
            · cases e
          · cases e
        · cases e
      · cases e
    · cases e
  · cases e
end
end Ex
end
end Go.Proofs.YtjncnppbaldmiaaGreatDoor
