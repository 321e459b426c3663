/- An evaluator of the program's code over memory that a call owns: its definitions. No condition. -/
import Derived.RangeFuncLeaves
import Derived.OrdersIn
namespace Go.Proofs.YtgbladpoglhleaaGreatDoor
namespace Ex
inductive Tr (α : Type) where
  | leaf
  | node (v : Option α) (l r : Tr α)
def Tr.get {α : Type} : Tr α → Nat → Option α
  | .leaf, _ => none
  | .node v l r, n => cond (Nat.beq n 0) v (cond (Nat.beq (n % 2) 1) (l.get (n / 2)) (r.get (n / 2 - 1)))
def Tr.set {α : Type} (x : Option α) : Nat → Tr α → Nat → Tr α
  | 0, t, _ => t
  | f + 1, .leaf, n => cond (Nat.beq n 0) (.node x .leaf .leaf) (cond (Nat.beq (n % 2) 1) (.node none (Tr.set x f .leaf (n / 2)) .leaf) (.node none .leaf (Tr.set x f .leaf (n / 2 - 1))))
  | f + 1, .node v l r, n => cond (Nat.beq n 0) (.node x l r) (cond (Nat.beq (n % 2) 1) (.node v (Tr.set x f l (n / 2)) r) (.node v l (Tr.set x f r (n / 2 - 1))))
def Tr.put {α : Type} (t : Tr α) (n : Nat) (x : Option α) : Tr α := Tr.set x (n + 1) t n

abbrev TS := Tr Value
inductive AO where
  | cells (c : List Value) (elem : TypeId) (fr : Bool)
  | map (es : List MapEntry) (clock : Nat)
  | mapIter (m : Option Nat) (since : Nat) (seen : List Nat) (stepped : Nat)
  | strIter (s : ByteArray) (pos : Nat)
  | loop (st : LoopState) (pending : Option Code) (nt : Nat) (ts : TS) (params : List Tmp) (assign body : Code) (defers : Nat)
  | dfr
/-- Blocks; the next number; which ones were written. -/
structure Hp where
  m : Tr AO
  c : Nat
  wl : List Nat
def addW (b : Nat) (l : List Nat) : List Nat := cond (l.elem b) l (b :: l)
def Hp.new (h : Hp) (o : AO) : Hp := { h with m := h.m.put h.c (some o), c := h.c + 1 }
def Hp.upd (ro : Nat) (h : Hp) (b : Nat) (o : Option AO) : Option Hp :=
  cond (Nat.ble ro b) (some { m := h.m.put b o, c := h.c, wl := addW b h.wl }) none

/-- A value without an address in it. -/
def closedV : Nat → Value → Bool
  | _, .bool _ | _, .int .. | _, .string _ | _, .nilFunc | _, .nilIface | _, .pointer none | _, .map none | _, .slice none 0 0 => true
  | n + 1, .agg cs => cs.toList.all (closedV n)
  | n + 1, .tuple cs => cs.toList.all (closedV n)
  | n + 1, .iface _ v => closedV n v
  | _, _ => false
def closed (v : Value) : Bool := closedV 4 v
def scalar : Value → Bool
  | .agg _ | .tuple _ => false
  | _ => true

/-- The value of a computation that touches no memory. -/
def val? {α : Type} (P : Program) : Sem α → Option α
  | .pure a => some a
  | .program k => val? P (k P)
  | .mark _ k => val? P k
  | _ => none

/-- .. and bears no address. -/
def cval? (P : Program) (s : Sem Value) : Option Value :=
  match val? P s with
  | some v => if closed v then some v else none
  | none => none

def evO (P : Program) (ts : TS) : Operand → Option Value
  | .tmp t => ts.get t
  | .const v => cond (closed v) (some v) none
  | .global g => cond (Nat.ble (g + 1) P.globals.size) (some (.pointer (some ⟨g, 0, none⟩))) none
  | .func f => some (.func (.func f) #[] #[])
def evAll (P : Program) (ts : TS) : List Operand → Option (List Value)
  | [] => some []
  | x :: xs => do
    let v ← evO P ts x
    let vs ← evAll P ts xs
    some (v :: vs)

def sz (P : Program) (t : TypeId) : Option Nat := (P.info? t).map (·.size)
def ldAt (h : Hp) (b off n : Nat) : Option (List Value) :=
  match h.m.get b with
  | some (.cells c _ _) => let l := (c.drop off).take n; cond (Nat.beq l.length n) (some l) none
  | _ => none
def stAt (ro : Nat) (h : Hp) (b off : Nat) (vs : List Value) : Option Hp :=
  match h.m.get b with
  | some (.cells c e false) =>
    cond (Nat.ble (off + vs.length) c.length && vs.all scalar) (h.upd ro b (some (.cells (c.take off ++ vs ++ c.drop (off + vs.length)) e false))) none
  | _ => none
def aggT (P : Program) (t : TypeId) : Option Bool :=
  match P.underlying t with
  | some (.struct _) | some (.array _ _) => some true
  | some _ => some false
  | none => none
def aload (P : Program) (t : TypeId) (h : Hp) : Value → Option Value
  | .pointer (some ⟨b, off, none⟩) => do
    if (← aggT P t) then
      let n ← sz P t
      let l ← ldAt h b off n
      some (.agg l.toArray)
    else
      match ← ldAt h b off 1 with
      | [v] => some v
      | _ => none
  | _ => none
def astore (P : Program) (ro : Nat) (t : TypeId) (h : Hp) (a v : Value) : Option Hp :=
  match a with
  | .pointer (some ⟨b, off, none⟩) => do
    let n ← sz P t
    let vs := v.cells.toList
    if vs.length = n then (if n = 0 then some h else stAt ro h b off vs) else none
  | _ => none
/-- A new block with the zero of a type. -/
def zeroCells? (P : Program) (t : TypeId) : Option (List Value) := do
  let i ← P.info? t
  let z ← i.zero
  let l := z.cells.toList
  if l.all closed && l.length = i.size then some l else none
def ptr (b off : Nat) : Value := .pointer (some ⟨b, off, none⟩)
def asI : Value → Option Int
  | .int _ n => some n
  | _ => none
def rep {α : Type} (l : List α) : Nat → List α
  | 0 => []
  | n + 1 => l ++ rep l n

/-- Slices bear 2 * cap where cap is the cap, 2 * cap + 1 where it is at least cap. -/
def sbound (y : Nat) : Option Value → (d : Nat) → Option Nat
  | none, d => some d
  | some (.int _ i), _ => if 0 ≤ i ∧ i ≤ y then some i.toNat else none
  | some _, _ => none
def elemIs (h : Hp) (b : Nat) (e : TypeId) : Bool :=
  match h.m.get b with
  | some (.cells _ t _) => t == e
  | _ => false
def aslice (P : Program) (h : Hp) (t : TypeId) (x : Value) (lo hi mx : Option Value) : Option Value := do
  match ← P.underlying t, x with
  | .array n elem, .pointer (some ⟨b, off, none⟩) =>
    let m ← sbound n mx n
    let h ← sbound m hi n
    let l ← sbound h lo 0
    let size ← sz P elem
    if mx.isSome && hi.isNone then none else
    some (.slice (some (if m = l then ⟨b, off, none⟩ else ⟨b, off + l * size, none⟩)) (h - l) (2 * (m - l)))
  | .slice elem, .slice (some ⟨b, off, none⟩) len c =>
    let cap := c / 2
    let unk := c % 2
    let m ← sbound cap mx cap
    let hh ← sbound m hi len
    let l ← sbound hh lo 0
    let size ← sz P elem
    if mx.isSome && hi.isNone then none else
    if unk = 1 && (cap = 0 || !elemIs h b elem) then none else
    let u := if mx.isSome then 0 else unk
    some (.slice (some (if m = l then ⟨b, off, none⟩ else ⟨b, off + l * size, none⟩)) (hh - l) (2 * (m - l) + u))
  | .slice elem, .slice none 0 0 =>
    let m ← sbound 0 mx 0
    let h ← sbound m hi 0
    let _ ← sbound h lo 0
    let _ ← sz P elem
    if mx.isSome && hi.isNone then none else
    some (.slice none 0 0)
  | _, x => do
    if closed x && (lo.elim true closed) && (hi.elim true closed) && (mx.elim true closed) then cval? P (Instr.sliceAt t x lo hi mx) else none
def aindexAddr (P : Program) (t : TypeId) (x ix : Value) : Option Value := do
  let i ← asI ix
  match ← P.underlying t, x with
  | .array len elem, .pointer (some ⟨b, off, none⟩) | .slice elem, .slice (some ⟨b, off, none⟩) len _ =>
    let s ← sz P elem
    if 0 ≤ i ∧ i < len then some (ptr b (off + i.toNat * s)) else none
  | _, _ => none
def afieldAddr (P : Program) (s : TypeId) (x : Value) (f : Nat) : Option Value := do
  match ← P.underlying s, x with
  | .struct fields, .pointer (some ⟨b, off, none⟩) =>
    let f ← fields[f]?
    let n ← sz P f.type
    if n = 0 then none else some (ptr b (off + f.offset))
  | _, _ => none
def apart (P : Program) (t : TypeId) (cs : List Value) (off : Nat) : Option Value := do
  if (← aggT P t) then
    let n ← sz P t
    some (.agg ((cs.drop off).take n).toArray)
  else cs[off]?
def afield (P : Program) (t : TypeId) (x : Value) (f : Nat) : Option Value := do
  match ← P.underlying t, x with
  | .struct fields, .agg cs =>
    let f ← fields[f]?
    apart P f.type cs.toList f.offset
  | _, _ => none
def aindex (P : Program) (t : TypeId) (x ix : Value) : Option Value := do
  let i ← asI ix
  match ← P.underlying t, x with
  | .array len elem, .agg cs =>
    let s ← sz P elem
    if 0 ≤ i ∧ i < len then apart P elem cs.toList (i.toNat * s) else none
  | .string, .string s => cval? P (Instr.index t (.string s) ix)
  | _, _ => none

/-- Are two values one? Of addresses: of blocks that are there. -/
def aeq (P : Program) (t : TypeId) (h : Hp) (x y : Value) : Option Bool := do
  match ← P.underlying t, x, y with
  | .pointer _, .pointer none, .pointer b => some b.isNone
  | .pointer _, .pointer (some _), .pointer none => some false
  | .pointer e, .pointer (some ⟨b, o, none⟩), .pointer (some ⟨b', o', none⟩) =>
    let s ← sz P e
    if s = 0 then none else
    if b = b' then some (o == o') else
    match h.m.get b, h.m.get b' with
    | some (.cells _ _ false), some (.cells _ _ false) => some false
    | _, _ => none
  | .slice _, .slice none 0 0, .slice (some _) _ _ | .slice _, .slice (some _) _ _, .slice none 0 0 => some false
  | .map _ _, .map none, .map (some _) | .map _ _, .map (some _), .map none => some false
  | .func _ _ _, .nilFunc, .func _ _ _ | .func _ _ _, .func _ _ _, .nilFunc => some false
  | .interface _, .nilIface, .iface _ _ | .interface _, .iface _ _, .nilIface => some false
  | _, _, _ => none
def abin (P : Program) (op : BinOp) (t : TypeId) (x y : Operand) (h : Hp) (a b : Value) : Option Value :=
  if closed a && closed b then cval? P (do eqGuard op t x y a b; binOp op t a b) else
  match op with
  | .eql => (aeq P t h a b).map .bool
  | .neq => (aeq P t h a b).map fun e => .bool !e
  | _ => none

def findE (P : Program) (kt : TypeId) (h : Hp) (k : Value) : List MapEntry → Nat → Option (Option (Nat × Value))
  | [], _ => some none
  | e :: es, i => do
    let eq ← (if closed k && closed e.key then val? P (Op.equal kt k e.key) else aeq P kt h k e.key)
    if eq then some (some (i, e.val)) else findE P kt h k es (i + 1)
def keyOk (P : Program) (t : TypeId) : Bool :=
  match P.underlying t with
  | some .string | some (.int _) | some (.pointer _) | some .bool => true
  | _ => false
def mapEs (h : Hp) : Value → Option (List MapEntry)
  | .map none => some []
  | .map (some r) => match h.m.get r with
    | some (.map es _) => some es
    | _ => none
  | _ => none
def zeroOf (P : Program) (t : TypeId) : Option Value :=
  match P.info? t with
  | some i => match i.zero with
    | some z => if closed z then some z else none
    | none => none
  | none => none
def foundV (P : Program) (et : TypeId) : Option (Nat × Value) → Option (Value × Bool)
  | some (_, v) => some (v, true)
  | none => match zeroOf P et with
    | some z => some (z, false)
    | none => none
def alookup (P : Program) (t : TypeId) (h : Hp) (m k : Value) (ok : Bool) : Option Value :=
  match P.underlying t with
  | some (.map kt et) =>
    if keyOk P kt then
      match mapEs h m with
      | some es => match findE P kt h k es 0 with
        | some r => match foundV P et r with
          | some (v, b) => some (if ok then .tuple #[v, .bool b] else v)
          | none => none
        | none => none
      | none => none
    else none
  | _ => none
def aupdate (P : Program) (ro : Nat) (t : TypeId) (h : Hp) (m k v : Value) : Option Hp :=
  match P.underlying t with
  | some (.map kt _) =>
    if keyOk P kt then
      match m with
      | .map (some r) => match h.m.get r with
        | some (.map es clock) => match findE P kt h k es 0 with
          | some (some (i, _)) => h.upd ro r (some (.map (es.modify i fun e => { e with val := v }) clock))
          | some none => h.upd ro r (some (.map (es ++ [{ key := k, val := v, born := clock }]) (clock + 1)))
          | none => none
        | _ => none
      | _ => none
    else none
  | _ => none
def adelete (P : Program) (ro : Nat) (t : TypeId) (h : Hp) (m k : Value) : Option Hp :=
  match P.underlying t with
  | some (.map kt _) =>
    if keyOk P kt then
      match m with
      | .map none => some h
      | .map (some r) => match h.m.get r with
        | some (.map es clock) => match findE P kt h k es 0 with
          | some (some (i, _)) => h.upd ro r (some (.map (es.eraseIdx i) clock))
          | some none => h.upd ro r (some (.map es clock))
          | none => none
        | _ => none
      | _ => none
    else none
  | _ => none
def arange (P : Program) (t : TypeId) (h : Hp) (x : Value) : Option (Value × Hp) :=
  match P.underlying t, x with
  | some .string, .string s => some (ptr h.c 0, h.new (.strIter s 0))
  | some (.map _ _), .map none => some (ptr h.c 0, h.new (.mapIter none 0 [] 0))
  | some (.map _ _), .map (some r) => match h.m.get r with
    | some (.map _ clock) => some (ptr h.c 0, h.new (.mapIter (some r) clock [] clock))
    | _ => none
  | _, _ => none
/-- The one entry that a range over a map may meet next; none: it is over. -/
def nextE (es : List MapEntry) (since : Nat) (seen : List Nat) (last : Nat) : Option (Option MapEntry) :=
  if !seen.isEmpty && !es.isEmpty && es.all (·.born ≥ last) then none else
  match (es.filter fun e => !seen.contains e.born).filter (·.born < since), (es.filter fun e => !seen.contains e.born).filter (·.born ≥ since) with
  | [], [] => some none
  | [e], [] => some (some e)
  | _, _ => none
def anext (ro : Nat) (h : Hp) (iter : Value) (isString : Bool) : Option (Value × Hp) :=
  match iter with
  | .pointer (some ⟨r, 0, none⟩) =>
    match h.m.get r, isString with
    | some (.strIter s pos), true =>
      if pos < s.size then
        match h.upd ro r (some (.strIter s (pos + (Utf8.decode s pos).2))) with
        | some h' => some (.tuple #[.bool true, goInt pos, .int .i32 (Utf8.decode s pos).1], h')
        | none => none
      else some (.tuple #[.bool false], h)
    | some (.mapIter none _ _ _), false => some (.tuple #[.bool false], h)
    | some (.mapIter (some m) since seen last), false =>
      match h.m.get m with
      | some (.map es clock) =>
        match nextE es since seen last with
        | some none => some (.tuple #[.bool false], h)
        | some (some e) => match h.upd ro r (some (.mapIter (some m) since (seen ++ [e.born]) clock)) with
          | some h' => some (.tuple #[.bool true, e.key, e.val], h')
          | none => none
        | none => none
      | _ => none
    | _, _ => none
  | _ => none
def aentry (h : Hp) (iter : Value) : Option Value :=
  match iter with
  | .pointer (some ⟨r, 0, none⟩) =>
    match h.m.get r with
    | some (.mapIter (some m) _ seen stepped) =>
      match seen.getLast?, h.m.get m with
      | some stamp, some (.map es clock) =>
        if clock = stepped then
          match es.find? (·.born == stamp) with
          | some e => some (.tuple #[e.key, e.val])
          | none => none
        else none
      | _, _ => none
    | _ => none
  | _ => none

def amakeSlice (P : Program) (t : TypeId) (h : Hp) (len cap : Value) : Option (Value × Hp) := do
  let .slice elem ← P.underlying t | none
  let l ← asI len
  let c ← asI cap
  let i ← P.info? elem
  let z ← zeroCells? P elem
  if 0 ≤ l ∧ l ≤ c ∧ c < 2 ^ 48 ∧ i.bytes * c ≤ 2 ^ 47 then
    some (.slice (some ⟨h.c, 0, none⟩) l.toNat (2 * c.toNat), h.new (.cells (rep z c.toNat) elem false))
  else none
def placesOf (P : Program) : List Field → Option (List (Nat × Nat))
  | [] => some []
  | f :: fs => match sz P f.type, placesOf P fs with
    | some n, some l => some ((f.offset, n) :: l)
    | _, _ => none
def abuild (P : Program) (t : TypeId) (parts : List (Nat × Value)) : Option Value :=
  match zeroCells? P t, P.underlying t with
  | some zero, some (.struct fields) =>
    match placesOf P fields.toList with
    | some places => (Instr.fill (places.toArray[·]?) zero.toArray parts).map .agg
    | none => none
  | some zero, some (.array _ elem) =>
    match sz P elem with
    | some size => (Instr.fill (fun i => some (i * size, size)) zero.toArray parts).map .agg
    | none => none
  | _, _ => none
def abuildSlice (P : Program) (t : TypeId) (len : Nat) (parts : List (Nat × Value)) (h : Hp) : Option (Value × Hp) :=
  match P.underlying t with
  | some (.slice elem) =>
    match sz P elem, zeroCells? P elem with
    | some size, some z =>
      if len * size > 2 ^ 24 then none else
      match Instr.fill (fun i => some (i * size, size)) (rep z len).toArray parts with
      | some cs => some (.slice (some ⟨h.c, 0, none⟩) len (2 * len), h.new (.cells cs.toList elem false))
      | none => none
    | _, _ => none
  | _ => none

/-- What a slice or a string holds in its first n places. -/
def firsts (h : Hp) (size n : Nat) : Value → Option (List Value)
  | .slice (some ⟨b, off, none⟩) _ _ => if n * size = 0 then some [] else ldAt h b off (n * size)
  | .slice none 0 0 => if n = 0 then some [] else none
  | .string s => some ((s.data.toList.take n).map fun b => .int .u8 b.toNat)
  | _ => none
def alen : Value → Option Nat
  | .slice _ n _ => some n
  | .string s => some s.size
  | _ => none
/-- .. what comes to stand behind a slice is no append of a make. -/
def plainSrc (P : Program) : Option TypeId → Bool
  | some xt => match P.underlying xt with
    | some (.int _) => false
    | some _ => true
    | none => false
  | none => true
def aappend (P : Program) (ro : Nat) (argTypes : List TypeId) (h : Hp) (s x : Value) : Option (Value × Hp) :=
  match argTypes[0]? with
  | some sT => match P.underlying sT with
    | some (.slice elem) => match P.info? elem, alen x, plainSrc P argTypes[1]? with
      | some info, some n, true =>
        match firsts h info.size n x, zeroCells? P elem with
        | some new, some z =>
          if new.all scalar && new.length == n * info.size then
            match s with
            | .slice none 0 0 =>
              if n = 0 then some (s, h) else
              if info.bytes = 0 ∨ (2 * n + 768) * info.bytes > 2 ^ 47 then none else
              some (.slice (some ⟨h.c, 0, none⟩) n (2 * n + 1), h.new (.cells new elem false))
            | .slice (some ⟨b, off, none⟩) len c =>
              if n = 0 then some (s, h) else
              if len + n ≤ c / 2 then
                match stAt ro h b (off + len * info.size) new with
                | some h' => some (.slice (some ⟨b, off, none⟩) (len + n) c, h')
                | none => none
              else
              if info.bytes = 0 ∨ (2 * (len + n) + 768) * info.bytes > 2 ^ 47 then none else
              match firsts h info.size len s with
              | some old =>
                if c % 2 = 0 then
                  some (.slice (some ⟨h.c, 0, none⟩) (len + n) (2 * (len + n) + 1), h.new (.cells (old ++ new) elem false))
                else
                  match h.m.get b with
                  | some (.cells _ e false) =>
                    if off = 0 ∧ 0 < c / 2 ∧ e = elem ∧ old.all scalar = true then
                      match h.upd ro b none with
                      | some h' => some (.slice (some ⟨h.c, 0, none⟩) (len + n) (2 * (len + n) + 1), h'.new (.cells (old ++ new) elem false))
                      | none => none
                    else none
                  | _ => none
              | none => none
            | _ => none
          else none
        | _, _ => none
      | _, _, _ => none
    | _ => none
  | none => none
def acopy (P : Program) (ro : Nat) (argTypes : List TypeId) (h : Hp) (dst src : Value) : Option (Value × Hp) :=
  match argTypes[0]? with
  | some dT => match P.underlying dT with
    | some (.slice elem) => match sz P elem, dst, alen src with
      | some size, .slice (some ⟨b, off, none⟩) dLen _, some sl =>
        match firsts h size (Nat.min sl dLen) src with
        | some cells =>
          if cells.length = 0 then some (goInt (Nat.min sl dLen), h) else
          match stAt ro h b off cells with
          | some h' => some (goInt (Nat.min sl dLen), h')
          | none => none
        | none => none
      | some _, .slice none 0 0, some _ => some (goInt 0, h)
      | _, _, _ => none
    | _ => none
  | none => none
def alenB (P : Program) (t : TypeId) (h : Hp) (x : Value) : Option Value := do
  match ← P.underlying t, x with
  | .string, .string s => some (goInt s.size)
  | .array n _, _ => some (goInt n)
  | .pointer arr, _ =>
    let .array n _ ← P.underlying arr | none
    some (goInt n)
  | .slice _, .slice _ n _ => some (goInt n)
  | .map _ _, .map none => some (goInt 0)
  | .map _ _, .map (some r) => match h.m.get r with
    | some (.map es _) => some (goInt es.length)
    | _ => none
  | _, _ => none
def toStr (cs : List Value) : Option ByteArray :=
  cs.foldl (fun s c => match s, c with | some s, .int .u8 n => some (s.push (UInt8.ofNat n.toNat)) | _, _ => none) (some ByteArray.empty)
def aconvert (P : Program) (src dst : TypeId) (h : Hp) (x : Value) : Option (Value × Hp) := do
  match ← P.underlying src, ← P.underlying dst, x with
  | _, .int k, .int _ n => some (.int k (k.wrap n), h)
  | _, .string, .string s => some (.string s, h)
  | _, .slice e, .string s =>
    match ← P.underlying e, sz P e with
    | .int .u8, some 1 =>
      some (.slice (some ⟨h.c, 0, none⟩) s.size (2 * s.size + 1), h.new (.cells (s.data.toList.map fun b => .int .u8 b.toNat) e true))
    | _, _ => none
  | .slice e, .string, .slice none 0 0 =>
    match ← P.underlying e with
    | .int .u8 => some (.string .empty, h)
    | _ => none
  | .slice e, .string, .slice (some ⟨b, off, none⟩) len _ =>
    match ← P.underlying e with
    | .int .u8 => do
      let l ← (if len = 0 then some [] else ldAt h b off len)
      let s ← toStr l
      some (.string s, h)
    | _ => none
  | _, _, _ => none
def aarrayAt (P : Program) (arr : TypeId) (x : Value) : Option Value := do
  let .array n _ ← P.underlying arr | none
  let .slice (some ⟨b, off, none⟩) len _ := x | none
  if n = 0 then none else
  if len < n then none else some (ptr b off)
def anilCheck : Value → Option Value
  | .pointer (some a) => some (.pointer (some a))
  | .iface t v => some (.iface t v)
  | .func (.func f) first captured => some (.func (.func f) first captured)
  | .map r => some (.map r)
  | _ => none

def aassert (P : Program) (x : Value) (asserted : TypeId) (ok : Bool) : Option Value := do
  match ← P.underlying asserted, x with
  | .interface _, _ => none
  | _, .iface t v => if t = asserted then some (if ok then .tuple #[v, .bool true] else v) else none
  | _, _ => none
/-- What is known of functions: of those without a body, and of some with one. -/
abbrev Hook := FuncId → List Value → Hp → Option (Value × Hp)
inductive Out where
  | val (v : Value) (h : Hp)
  | enter (f : FuncId) (args : List Value) (h : Hp)
  | round (l : Nat) (args : List Value) (h : Hp)
def valH : Option Value → Hp → Option Out
  | some v, h => some (.val v h)
  | none, _ => none
def pairH : Option (Value × Hp) → Option Out
  | some (v, h) => some (.val v h)
  | none => none
def skipH : Option Hp → Option Out
  | some h => some (.val undef h)
  | none => none
def acallV (P : Program) (X : Hook) (h : Hp) (f : Value) (args : List Value) : Option Out :=
  match f with
  | .func (.func f) first captured =>
    let all := first.toList ++ args ++ captured.toList
    match P.funcs[f]? with
    | some fn => match fn.body with
      | some _ => some (.enter f all h)
      | none => pairH (X f all h)
    | none => none
  | .func (.yield l) first _ => some (.round l (first.toList ++ args) h)
  | _ => none
def isU8 (P : Program) (e : TypeId) : Bool :=
  match P.underlying e with
  | some (.int .u8) => true
  | _ => false
/-- A string out of bytes: their block is struck. -/
def aunsafeString (P : Program) (ro : Nat) (argTypes : List TypeId) (h : Hp) (p n : Value) : Option (Value × Hp) :=
  match argTypes[0]?, asI n with
  | some pt, some n =>
    match P.underlying pt, p with
    | some (.pointer el), .pointer (some ⟨b, off, none⟩) =>
      if 0 < n ∧ n < 2 ^ 48 then
        match h.m.get b with
        | some (.cells _ e _) =>
          if e = el ∧ sz P e = some 1 ∧ isU8 P e = true ∧ 0 < P.depth then
            match (ldAt h b off n.toNat).bind toStr, h.upd ro b none with
            | some s, some h' => some (.string s, h')
            | _, _ => none
          else none
        | _ => none
      else none
    | _, _ => none
  | _, _ => none
def abuiltin (P : Program) (ro : Nat) (b : Builtin) (argTypes : List TypeId) (t : TypeId) (h : Hp) (args : List Value) : Option Out :=
  match b, args with
  | .append, [s, x] => pairH (aappend P ro argTypes h s x)
  | .copy, [d, s] => pairH (acopy P ro argTypes h d s)
  | .unsafeString, [p, n] => pairH (aunsafeString P ro argTypes h p n)
  | .delete, [m, k] => do
    let mt ← argTypes[0]?
    let h' ← adelete P ro mt h m k
    some (.val (.tuple #[]) h')
  | .len, [x] => do
    let t ← argTypes[0]?
    valH (alenB P t h x) h
  | .min, args => if args.all closed then valH (cval? P (Builtin.min_ argTypes.toArray t args.toArray)) h else none
  | .max, args => if args.all closed then valH (cval? P (Builtin.max_ argTypes.toArray t args.toArray)) h else none
  | _, _ => none
def evParts (P : Program) (ts : TS) : List (Nat × Operand) → Option (List (Nat × Value))
  | [] => some []
  | (i, x) :: xs => do
    let v ← evO P ts x
    let vs ← evParts P ts xs
    some ((i, v) :: vs)
def evOpt (P : Program) (ts : TS) : Option Operand → Option (Option Value)
  | none => some none
  | some x => (evO P ts x).map some
def fnOk : Fn → Bool
  | .func _ => true
  | _ => false
def aop (P : Program) (ro : Nat) (X : Hook) (ts : TS) (h : Hp) (o : Oper) : Option Out :=
  match o.op with
  | .move x | .assign x => valH (evO P ts x) h
  | .pick c a b => match evO P ts c with
    | some (.bool t) => valH (evO P ts (if t then a else b)) h
    | _ => none
  | .alloc e => match zeroCells? P e with
    | some z => some (.val (ptr h.c 0) (h.new (.cells z e false)))
    | none => none
  | .box e x => match evO P ts x, sz P e with
    | some v, some _ => some (.val (ptr h.c 0) (h.new (.cells v.cells.toList e false)))
    | _, _ => none
  | .build t ps => match evParts P ts ps.toList with
    | some l => valH (abuild P t l) h
    | none => none
  | .buildSlice t n ps => match evParts P ts ps.toList with
    | some l => pairH (abuildSlice P t n l h)
    | none => none
  | .load t a => match evO P ts a with
    | some a => valH (aload P t h a) h
    | none => none
  | .store t a x => match evO P ts a, evO P ts x with
    | some a, some v => skipH (astore P ro t h a v)
    | _, _ => none
  | .nilCheck x => match evO P ts x with
    | some v => valH (anilCheck v) h
    | none => none
  | .binOp op t x y _ => match evO P ts x, evO P ts y with
    | some a, some b => valH (abin P op t x y h a b) h
    | _, _ => none
  | .unOp op _ x => match evO P ts x with
    | some v => if closed v then valH (cval? P (Op.unary op v)) h else none
    | none => none
  | .convert s d x => match evO P ts x with
    | some v => pairH (aconvert P s d h v)
    | none => none
  | .sliceToArrayPointer arr x => match evO P ts x with
    | some v => valH (aarrayAt P arr v) h
    | none => none
  | .makeInterface t x => match evO P ts x, P.underlying t with
    | some _, some (.interface _) => none
    | some v, some _ => some (.val (.iface t v) h)
    | _, _ => none
  | .makeFunc fn first captured => match evAll P ts first.toList, evAll P ts captured.toList with
    | some a, some b => if fnOk fn then some (.val (.func fn a.toArray b.toArray) h) else none
    | _, _ => none
  | .makeMap t r => match P.underlying t, evOpt P ts r with
    | some (.map _ _), some none => some (.val (.map (some h.c)) (h.new (.map [] 0)))
    | some (.map _ _), some (some (.int _ _)) => some (.val (.map (some h.c)) (h.new (.map [] 0)))
    | _, _ => none
  | .makeSlice t l c => match evO P ts l, evO P ts c with
    | some l, some c => pairH (amakeSlice P t h l c)
    | _, _ => none
  | .slice t x lo hi mx => match evO P ts x, evOpt P ts lo, evOpt P ts hi, evOpt P ts mx with
    | some x, some lo, some hi, some mx => valH (aslice P h t x lo hi mx) h
    | _, _, _, _ => none
  | .fieldAddr s x f => match evO P ts x with
    | some v => valH (afieldAddr P s v f) h
    | none => none
  | .field t x f => match evO P ts x with
    | some v => valH (afield P t v f) h
    | none => none
  | .indexAddr t x i => match evO P ts x, evO P ts i with
    | some x, some i => valH (aindexAddr P t x i) h
    | _, _ => none
  | .index t x i => match evO P ts x, evO P ts i with
    | some x, some i => valH (aindex P t x i) h
    | _, _ => none
  | .lookup t m k ok => match evO P ts m, evO P ts k with
    | some m, some k => valH (alookup P t h m k ok) h
    | _, _ => none
  | .mapUpdate t m k v | .insert t m k v => match evO P ts m, evO P ts k, evO P ts v with
    | some m, some k, some v => skipH (aupdate P ro t h m k v)
    | _, _, _ => none
  | .range t x => match evO P ts x with
    | some v => pairH (arange P t h v)
    | none => none
  | .next it s => match evO P ts it with
    | some v => pairH (anext ro h v s)
    | none => none
  | .entry it => match evO P ts it with
    | some v => valH (aentry h v) h
    | none => none
  | .typeAssert x _ a ok => match evO P ts x with
    | some v => valH (aassert P v a ok) h
    | none => none
  | .extract t i => match evO P ts t with
    | some (.tuple vs) => valH (vs[i]?) h
    | _ => none
  | .call c => match c.callee with
    | .builtin b => match evAll P ts c.args.toList with
      | some args => abuiltin P ro b c.argTypes.toList o.type h args
      | none => none
    | .value f => match evO P ts f, evAll P ts c.args.toList with
      | some f, some args => acallV P X h f args
      | _, _ => none
    | _ => none
  | _ => none

/-! ### Code -/
inductive Ex where
  | normal
  | exit (id : Nat)
  | ret
structure St where
  ts : TS
  dl : List Nat
  h : Hp
def putD (nt : Nat) (ts : TS) (d : Option Tmp) (v : Value) : Option TS :=
  match d with
  | some d => cond (Nat.ble (d + 1) nt) (some (ts.put d (some v))) none
  | none => some ts
/-- Is the operation wanted? -/
def guardB (ops : List Oper) (ts : TS) (o : Oper) : Option Bool :=
  match o.guard with
  | none => some true
  | some (j, want) =>
    match (ops[j]?).bind (·.dst) with
    | none => some false
    | some d => match ts.get d with
      | some (.bool b) => some (b == want)
      | some (.tuple vs) => cond (Nat.beq vs.size 0) (some false) none
      | _ => none

def setParams (nt : Nat) : List Tmp → List Value → TS → Option TS
  | [], [], ts => some ts
  | t :: ps, v :: vs, ts => match putD nt ts (some t) v with
    | some ts' => setParams nt ps vs ts'
    | none => none
  | _, _, _ => none
def putArgs : Nat → List Value → TS → TS
  | _, [], ts => ts
  | i, v :: vs, ts => putArgs (i + 1) vs (ts.put i (some v))
def resOf (P : Program) (ts : TS) (h : Hp) : List ResultVar → Option (List Value)
  | [] => some []
  | .tmp t :: rs => do
    let v ← ts.get t
    let vs ← resOf P ts h rs
    some (v :: vs)
  | .cell a t :: rs => do
    let v ← (ts.get a).bind (aload P t h)
    let vs ← resOf P ts h rs
    some (v :: vs)
def one : List Value → Value
  | [v] => v
  | vs => .tuple vs.toArray
def shut (ro : Nat) : List Nat → Hp → Option Hp
  | [], h => some h
  | r :: rs, h => match h.m.get r with
    | some .dfr => match h.upd ro r none with
      | some h' => shut ro rs h'
      | none => none
    | _ => none

def has (m : Tr AO) (b : Nat) : Bool :=
  match m.get b with
  | some _ => true
  | none => false
/-- Of what a call wrote: what was there ahead of it. -/
def cut (m : Tr AO) (old new : List Nat) : List Nat := new.foldr (fun b l => cond (has m b) (addW b l) l) old
section
variable (P : Program) (ro : Nat) (X : Hook)
variable (ev : Option Nat → Nat → Code → St → Option (Ex × St)) (C : Hook)
def acall (f : FuncId) (args : List Value) (h : Hp) : Option (Value × Hp) :=
  match C f args h with
  | some r => some r
  | none => match P.funcs[f]? with
    | some fn => match fn.body with
      | some code =>
        cond (Nat.ble args.length fn.ntmps)
          (match ev none fn.ntmps code { ts := putArgs 0 args .leaf, dl := [], h } with
           | some (.exit _, _) => none
           | some (_, st) => match shut ro st.dl st.h with
             | some h' => match resOf P st.ts h' fn.results.toList with
               | some vs => some (one vs, { h' with wl := cut h.m h.wl h'.wl })
               | none => none
             | none => none
           | none => none)
          none
      | none => none
    | none => none
def jumpOf : Ex → Option Code
  | .normal => none
  | .ret => some .ret
  | .exit id => some (.exit id)
def around (l : Nat) (args : List Value) (h : Hp) : Option (Value × Hp) :=
  match h.m.get l with
  | some (.loop _ _ nt ts params assign body _) =>
    match setParams nt params args ts with
    | some ts1 => match ev (some l) nt assign { ts := ts1, dl := [], h } with
      | some (.normal, st1) =>
        match st1.h.m.get l, st1.dl with
        | some (.loop .ready pe nt1 tsl ps1 as1 bd1 df1), [] =>
          match st1.h.upd ro l (some (.loop .busy pe nt1 tsl ps1 as1 bd1 df1)) with
          | some h2 => match ev (some l) nt body { ts := st1.ts, dl := [], h := h2 } with
            | some (e, st3) =>
              match st3.h.m.get l with
              | some (.loop _ _ nt3 ts3 ps3 as3 bd3 df3) =>
                match st3.h.upd ro l (some (.loop (if (jumpOf e).isNone then .ready else .done) (jumpOf e) nt3 ts3 ps3 as3 bd3 df3)) with
                | some h4 => some (.bool (jumpOf e).isNone, h4)
                | none => none
              | _ => none
            | none => none
          | none => none
        | _, _ => none
      | _ => none
    | none => none
  | _ => none
def aoper (ops : List Oper) (ts : TS) (h : Hp) (o : Oper) : Option (Value × Hp) :=
  match guardB ops ts o with
  | some true => match aop P ro X ts h o with
    | some (.val v h') => some (v, h')
    | some (.enter f args h') => acall P ro ev C f args h'
    | some (.round l args h') => around ro ev l args h'
    | none => none
  | some false => some (undef, h)
  | none => none
def aops (ops : List Oper) (nt : Nat) : List Oper → St → Option St
  | [], st => some st
  | o :: os, st => match aoper P ro X ev C ops st.ts st.h o with
    | some (v, h') => match putD nt st.ts o.dst v with
      | some ts' => aops ops nt os { ts := ts', dl := st.dl, h := h' }
      | none => none
    | none => none
/-! drawn order -/
/-- What stands ahead of an operation, by the edges that bind. -/
def preOf (pres : List Nat) : List Edge → Option Nat
  | [] => some 0
  | e :: es => match preOf pres es with
    | some q => match e.ground with
      | .textOnly _ | .gcOnly _ => some q
      | _ => match pres[e.on]? with
        | some p => some (Nat.lor (Nat.lor p (2 ^ e.on)) q)
        | none => none
    | none => none
/-- What an operation wrote and made. -/
structure Seg where
  i : Nat
  w : List Nat
  lo : Nat
  hi : Nat
def delL (h : Tr AO) : List Nat → Tr AO
  | [] => h
  | b :: bs => delL (h.put b none) bs
def delR (h : Tr AO) (lo : Nat) : Nat → Tr AO
  | 0 => h
  | n + 1 => delR (h.put lo none) (lo + 1) n
def copyR (src : Tr AO) (dst : Tr AO) (lo : Nat) : Nat → Tr AO
  | 0 => dst
  | n + 1 => copyR src (dst.put lo (src.get lo)) (lo + 1) n
def copyL (src : Tr AO) (dst : Tr AO) : List Nat → Tr AO
  | [] => dst
  | b :: bs => copyL src (dst.put b (src.get b)) bs
def addAll : List Nat → List Nat → List Nat
  | [], l => l
  | b :: bs, l => addAll bs (addW b l)
def hide (pre : Nat) (m : Tr AO) : List Seg → Tr AO
  | [] => m
  | s :: ss => cond (Nat.testBit pre s.i) (hide pre m ss) (hide pre (delR (delL m s.w) s.lo (s.hi - s.lo)) ss)
/-- Slots of operations that stand neither ahead nor behind: unknown. -/
def hideT (j pre : Nat) (ts : TS) : List (Nat × Oper × Nat) → TS
  | [] => ts
  | (k, o, prek) :: ss => match o.dst with
    | some d => cond (Nat.testBit pre k || Nat.testBit prek j || Nat.beq k j) (hideT j pre ts ss) (hideT j pre (ts.put d none) ss)
    | none => hideT j pre ts ss
def presOf : List Oper → List Nat → Option (List Nat)
  | [], pres => some pres
  | o :: os, pres => match preOf pres o.after.toList with
    | some p => presOf os (pres ++ [p])
    | none => none
def zip3 : Nat → List Oper → List Nat → List (Nat × Oper × Nat)
  | i, o :: os, p :: ps => (i, o, p) :: zip3 (i + 1) os ps
  | _, _, _ => []
def dsts : List Oper → List Tmp
  | [] => []
  | o :: os => match o.dst with
    | some d => d :: dsts os
    | none => dsts os
def nodupB : List Nat → Bool
  | [] => true
  | x :: xs => !xs.elem x && nodupB xs
/-- An operation that touches no memory: it is run over none. -/
def pureOp : Op → Bool
  | .move _ | .assign _ | .pick .. | .fieldAddr .. | .indexAddr .. | .field .. | .index .. | .extract .. | .nilCheck _ | .unOp .. | .makeInterface .. | .makeFunc .. | .build .. => true
  | .binOp op .. => match op with
    | .eql | .neq => false
    | _ => true
  | _ => false
/-- An operation that reads memory alone: it is taken late. -/
def lateOp : Op → Bool
  | .load .. | .lookup .. | .convert .. | .binOp .. | .slice .. => true
  | _ => false
def pureMask : Nat → List Oper → Nat
  | _, [] => 0
  | i, o :: os => cond (pureOp o.op) (Nat.lor (2 ^ i) (pureMask (i + 1) os)) (pureMask (i + 1) os)
def within (a b : Nat) : Bool := Nat.beq (Nat.land a b) a
def takeOut (f : Nat × Oper × Nat → Bool) : List (Nat × Oper × Nat) → Option ((Nat × Oper × Nat) × List (Nat × Oper × Nat))
  | [] => none
  | x :: xs => cond (f x) (some (x, xs)) (match takeOut f xs with
    | some (y, ys) => some (y, x :: ys)
    | none => none)
/-- An order that the edges let: what reads is taken late. -/
def sched : Nat → Nat → List (Nat × Oper × Nat) → List (Nat × Oper × Nat)
  | 0, _, l => l
  | n + 1, done, l =>
    match takeOut (fun x => within x.2.2 done && pureOp x.2.1.op) l with
    | some (x, l') => x :: sched n (Nat.lor done (2 ^ x.1)) l'
    | none => match takeOut (fun x => within x.2.2 done && !lateOp x.2.1.op) l with
      | some (x, l') => x :: sched n (Nat.lor done (2 ^ x.1)) l'
      | none => match takeOut (fun x => within x.2.2 done) l with
        | some (x, l') => x :: sched n (Nat.lor done (2 ^ x.1)) l'
        | none => l
def isNil {α : Type} : List α → Bool
  | [] => true
  | _ => false
/-- The memory behind an operation: what it wrote and made is laid over. -/
def over (h' : Hp) (m : Tr AO) (lo : Nat) : Tr AO := copyL h'.m (copyR h'.m m lo (h'.c - lo)) h'.wl
def adraw (ops : List Oper) (nt : Nat) (all : List (Nat × Oper × Nat)) (pm : Nat) : List (Nat × Oper × Nat) → Nat → List Seg → St → Option St
  | [], _, _, st => some st
  | (j, o, pre) :: os, done, segs, st =>
    cond (within pre done && !Nat.testBit done j)
    (match aoper P ro X ev C ops (hideT j pre st.ts all) { m := cond (pureOp o.op) .leaf (hide pre st.h.m segs), c := st.h.c, wl := [] } o with
    | some (v, h') => match putD nt st.ts o.dst v with
      | some ts' =>
        cond (cond (pureOp o.op) (isNil h'.wl && Nat.beq h'.c st.h.c) (isNil h'.wl || within done (Nat.lor pre pm)))
          (adraw ops nt all pm os (Nat.lor done (2 ^ j)) (⟨j, h'.wl, st.h.c, h'.c⟩ :: segs) { ts := ts', dl := st.dl, h := { m := over h' st.h.m st.h.c, c := h'.c, wl := addAll h'.wl st.h.wl } })
          none
      | none => none
    | none => none)
    none
def aregion (ops : List Oper) (nt : Nat) (draw : Bool) (st : St) : Option St :=
  if draw then
    match presOf ops [] with
    | some pres =>
      if nodupB (dsts ops) then
        adraw P ro X ev C ops nt (sched ops.length 0 (zip3 0 ops pres)) (pureMask 0 ops) (sched ops.length 0 (zip3 0 ops pres)) 0 [] st
      else none
    | none => none
  else aops P ro X ev C ops nt ops st
end
def hasBody (P : Program) (g : Nat) : Bool :=
  match P.funcs[g]? with
  | some fn => fn.body.isSome
  | none => false
/-- The block for a loop's deferred calls. -/
def loopStart (rnd : Option Nat) (h : Hp) : Option (Nat × List Nat × Hp) :=
  match rnd with
  | none => some (h.c, [h.c], h.new .dfr)
  | some l => match h.m.get l with
    | some (.loop _ _ _ _ _ _ _ dfr) => some (dfr, [], h)
    | _ => none
/-- THE EVALUATOR. -/
def evalN (P : Program) (ro : Nat) (X C : Hook) : Nat → Option Nat → Nat → Code → St → Option (Ex × St)
  | 0, _, _, _, _ => none
  | n + 1, rnd, nt, code, st =>
    match code with
    | .skip => some (.normal, st)
    | .label _ => some (.normal, st)
    | .region _ ops draw => match aregion P ro X (evalN P ro X C n) C ops.toList nt draw st with
      | some st' => some (.normal, st')
      | none => none
    | .seq a b => match evalN P ro X C n rnd nt a st with
      | some (.normal, st1) => evalN P ro X C n rnd nt b st1
      | r => r
    | .cond c a b => match evO P st.ts c with
      | some (.bool t) => evalN P ro X C n rnd nt (if t then a else b) st
      | _ => none
    | .block id b => match evalN P ro X C n rnd nt b st with
      | some (.exit id', st1) => if id' = id then some (.normal, st1) else some (.exit id', st1)
      | r => r
    | .loop b => match evalN P ro X C n rnd nt b st with
      | some (.normal, st1) => evalN P ro X C n rnd nt (.loop b) st1
      | r => r
    | .exit id => some (.exit id, st)
    | .ret => some (.ret, st)
    | .rangeFunc f params assign body =>
      match loopStart rnd st.h, evO P st.ts f with
      | some (dfr, dl, h1), some (.func (.func g) first captured) =>
        if hasBody P g then
        match acall P ro (evalN P ro X C n) C g (first.toList ++ [.func (.yield h1.c) #[] #[]] ++ captured.toList) (h1.new (.loop .ready none nt st.ts params.toList assign body dfr)) with
        | some (_, h3) => match h3.m.get h1.c with
          | some (.loop stt pe nt1 tsl ps1 as1 bd1 df1) =>
            if stt = .busy then none else
            match h3.upd ro h1.c (some (.loop .exhausted pe nt1 tsl ps1 as1 bd1 df1)) with
            | some h4 => match pe with
              | none => some (.normal, { ts := st.ts, dl := dl ++ st.dl, h := h4 })
              | some c => evalN P ro X C n rnd nt c { ts := st.ts, dl := dl ++ st.dl, h := h4 }
            | none => none
          | _ => none
        | none => none
        else none
      | _, _ => none
    | _ => none
end Ex
end Go.Proofs.YtgbladpoglhleaaGreatDoor
