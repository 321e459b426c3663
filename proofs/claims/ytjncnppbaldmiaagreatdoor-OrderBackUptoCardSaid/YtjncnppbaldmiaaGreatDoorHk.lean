/- What stands in for five functions of the file system's and the shards' when the evaluator runs: the sum of what is held, a directory turned, a directory settled, the names in order, a payload read under a deferred call. Definitions. -/
import Derived.Test.YtjncnppbaldmiaaGreatDoorRb
import Derived.Test.YtjncnppbaldmiaaGreatDoorProg
import Derived.KernelRfl
namespace Go.Proofs.YtjncnppbaldmiaaGreatDoor
namespace Ex
def cellAt (h : Hp) (b off : Nat) : Option Value :=
  match h.m.get b with
  | some (.cells c _ _) => c[off]?
  | _ => none
def setAt (ro : Nat) (h : Hp) (b off : Nat) (v : Value) : Option Hp :=
  match h.m.get b with
  | some (.cells c e false) => cond (Nat.ble (off + 1) c.length) (h.upd ro b (some (.cells (c.set off v) e false))) none
  | _ => none
def eqL : List UInt8 → List UInt8 → Bool
  | [], [] => true
  | x :: xs, y :: ys => cond (Nat.beq x.toNat y.toNat) (eqL xs ys) false
  | _, _ => false
def natLe : List UInt8 → List UInt8 → Bool
  | [], _ => true
  | _ :: _, [] => false
  | x :: xs, y :: ys => cond (Nat.ble (x.toNat + 1) y.toNat) true (cond (Nat.beq x.toNat y.toNat) (natLe xs ys) false)
def strLs : Value → List UInt8
  | .string s => s.data.toList
  | _ => []
def isStr : Value → Bool
  | .string _ => true
  | _ => false
def insS (x : Value) : List Value → List Value
  | [] => [x]
  | y :: ys => cond (natLe (strLs x) (strLs y)) (x :: y :: ys) (y :: insS x ys)
def srtS : List Value → List Value
  | [] => []
  | x :: xs => insS x (srtS xs)
/-- A box of no elements' list. -/
def boxB (h : Hp) (y : Nat) : Bool :=
  match h.m.get y with
  | some (.cells _ _ false) => true
  | _ => false
def keyEq (nm : List UInt8) (e : MapEntry) : Bool :=
  match e.key with
  | .string s => eqL nm s.data.toList
  | _ => false
def ptrEq (y : Nat) (e : MapEntry) : Bool :=
  match e.val with
  | .pointer (some ⟨z, 0, none⟩) => Nat.beq z y
  | _ => false
def bornOk (clock : Nat) : List MapEntry → Bool
  | [] => true
  | e :: es => Nat.ble (e.born + 1) clock && es.all (fun x => !(Nat.beq x.born e.born)) && bornOk clock es
/-- A directory: names, each once, and boxes of files. -/
def dirB (h : Hp) (clock : Nat) : List MapEntry → Bool
  | [] => true
  | e :: es => (match e.key, e.val with
    | .string s, .pointer (some ⟨y, 0, none⟩) => boxB h y && Nat.ble s.data.toList.length 1000 && es.all (fun x => !(keyEq s.data.toList x))
    | _, _ => false) && Nat.ble (e.born + 1) clock && es.all (fun x => !(Nat.beq x.born e.born)) && dirB h clock es
/-- Each file has one name. -/
def oneB : List MapEntry → Bool
  | [] => true
  | e :: es => (match e.val with
    | .pointer (some ⟨y, 0, none⟩) => es.all (fun x => !(ptrEq y x))
    | _ => false) && oneB es
/-- How many bytes the files have whose boxes these are. -/
def sumK (h : Hp) : List Value → Option Nat
  | [] => some 0
  | .pointer (some ⟨x, 0, none⟩) :: ks => match cellAt h x 0 with
    | some (.slice _ n _) => match sumK h ks with
      | some s => some (n + s)
      | none => none
    | _ => none
  | _ => none
def keysAt (h : Hp) (r : Nat) : Option (List Value) :=
  match h.m.get r with
  | some (.bag ks) => some ks
  | some (.map es cl) => cond (bornOk cl es) (some (es.map (·.key))) none
  | _ => none
def heldH (args : List Value) (h : Hp) : Option (Value × Hp) :=
  match args with
  | [.pointer (some ⟨b, 0, none⟩)] => match cellAt h b 4 with
    | some (.map (some r)) => match keysAt h r with
      | some ks => match sumK h ks with
        | some n => cond (Nat.ble n 1099511627776) (some (.int .i64 n, h)) none
        | none => none
      | none => none
    | _ => none
  | _ => none
/-- One name more, or another file for it. -/
def updA (nm : ByteArray) (v : Value) (clock : Nat) : List MapEntry → List MapEntry × Nat
  | [] => ([{ key := .string nm, val := v, born := clock }], clock + 1)
  | e :: es => cond (keyEq nm.data.toList e) ({ e with val := v } :: es, clock) (let q := updA nm v clock es; (e :: q.1, q.2))
/-- A directory turned: x has no name any more, or this one. -/
def dirA (x : Nat) (nm : ByteArray) (clock : Nat) (es : List MapEntry) : List MapEntry × Nat :=
  cond (Nat.beq nm.data.toList.length 0) (es.filter fun e => !(ptrEq x e), clock) (updA nm (.pointer (some ⟨x, 0, none⟩)) clock (es.filter fun e => !(ptrEq x e)))
def pendH (ro : Nat) (args : List Value) (h : Hp) : Option (Value × Hp) :=
  match args with
  | [.map (some r), .pointer (some ⟨bx, 0, none⟩), .pointer (some ⟨bn, 0, none⟩)] =>
    match h.m.get r with
    | some (.map es cl) => match cellAt h bx 0 with
      | some (.pointer (some ⟨x, 0, none⟩)) => match cellAt h bn 0 with
        | some (.string nm) => cond (boxB h x && dirB h cl es)
          (match h.upd ro r (some (.map (dirA x nm cl es).1 (dirA x nm cl es).2)) with
           | some h' => some (.tuple #[], h')
           | none => none)
          none
        | _ => none
      | _ => none
    | _ => none
  | _ => none
def settleH (ro : Nat) (args : List Value) (h : Hp) : Option (Value × Hp) :=
  match args with
  | [.pointer (some ⟨b, 0, none⟩)] => match h.m.get b with
    | some (.cells c t false) => match (c[1]? : Option Value) with
      | some (.map (some r)) => match h.m.get r with
        | some (.map es cl) =>
          cond (dirB h cl es && oneB es && Nat.ble 5 c.length && es.all (fun e => !(ptrEq b e)))
            (match (((h.new (.map es cl)).new (.bag (es.map (·.val)))).upd ro b (some (.cells (((c.set 2 (.map (some h.c))).set 3 (.slice none 0 0)).set 4 (.map (some (h.c + 1)))) t false))) with
             | some h' => some (.tuple #[], h')
             | none => none)
            none
        | _ => none
      | _ => none
    | _ => none
  | _ => none
def namesH (args : List Value) (h : Hp) : Option (Value × Hp) :=
  match args with
  | [.pointer (some ⟨b, 0, none⟩)] => match cellAt h b 5 with
    | some (.bool true) => some (.slice none 0 0, h)
    | some (.bool false) => match cellAt h b 1 with
      | some (.map (some r)) => match h.m.get r with
        | some (.map es cl) => cond (dirB h cl es && Nat.ble es.length 1000)
          (match es with
           | [] => some (.slice none 0 0, h)
           | e :: es => some (.slice (some ⟨h.c, 0, none⟩) (e :: es).length (2 * (e :: es).length + 1), h.new (.cells (srtS ((e :: es).map (·.key))) 9 false)))
          none
        | _ => none
      | _ => none
    | _ => none
  | _ => none
/-- A function whose body lays boxes, defers a closure, and goes on; the closure begins with a region over what it captured (and recovers nothing). -/
def deferH (ev : Option Nat → Nat → Code → St → Option (Ex × St)) (P : Program) (f g t9 : Nat) (cap : List Nat) (args : List Value) (h : Hp) : Option (Value × Hp) :=
  match P.funcs[f]?, P.funcs[g]? with
  | some fn, some gn => match fn.body, gn.body with
    | some (.seq r0 (.seq _ rest)), some (.seq d0 _) => cond (Nat.ble args.length fn.ntmps)
      (match ev none fn.ntmps r0 { ts := putArgs 0 args .leaf, dl := [], h } with
      | some (.normal, st0) => match st0.dl with
        | [] => match evAll P st0.ts (cap.map Operand.tmp) with
          | some cs => match putD fn.ntmps st0.ts (some t9) (.func (.func g) #[] cs.toArray) with
            | some ts1 => match ev none fn.ntmps rest { ts := ts1, dl := [], h := st0.h } with
              | some (.ret, st1) => match st1.dl with
                | [] => match ev none gn.ntmps d0 { ts := putArgs 0 cs .leaf, dl := [], h := st1.h } with
                  | some (.normal, st2) => match st2.dl with
                    | [] => match resOf P st1.ts st2.h fn.results.toList with
                      | some vs => some (one vs, { st2.h with wl := cut h.m h.wl st2.h.wl })
                      | none => none
                    | _ => none
                  | _ => none
                | _ => none
              | _ => none
            | none => none
          | none => none
        | _ => none
      | _ => none)
      none
    | _, _ => none
  | _, _ => none
def crcTb (n : Nat) : Nat :=
  cond (Nat.ble 8 n)
    (cond (Nat.ble 12 n) (cond (Nat.ble 14 n) (cond (Nat.beq n 14) 1015980042 944750013) (cond (Nat.beq n 12) 890018660 835552979))
      (cond (Nat.ble 10 n) (cond (Nat.beq n 10) 797628118 726387553) (cond (Nat.beq n 8) 638119352 583659535)))
    (cond (Nat.ble 4 n) (cond (Nat.ble 6 n) (cond (Nat.beq n 6) 445009330 507990021) (cond (Nat.beq n 4) 319059676 398814059))
      (cond (Nat.ble 2 n) (cond (Nat.beq n 2) 159529838 222504665) (cond (Nat.beq n 0) 0 79764919)))
def crcN (x y : Nat) : Nat := Nat.xor (x * 16 % 4294967296) (crcTb (Nat.xor (x / 268435456) y))
/-- The sum's register behind bytes, two steps of four bits each. -/
def crcL : Nat → List Value → Option Nat
  | x, [] => some x
  | x, .int .u8 (.ofNat y) :: l => cond (Nat.ble y 255) (crcL (crcN (crcN x (y / 16)) (y % 16)) l) none
  | _, _ => none
def crcH (args : List Value) (h : Hp) : Option (Value × Hp) :=
  match args with
  | [.int .u32 (.ofNat c), .slice none 0 _] => cond (Nat.ble c 4294967295) (some (.int .u32 (c : Nat), h)) none
  | [.int .u32 (.ofNat c), .slice (some ⟨b, off, none⟩) n _] => cond (Nat.ble c 4294967295 && Nat.ble n 1099511627776)
    (match ldAt h b off n with
    | some l => match crcL (4294967295 - c) l with
      | some r => some (.int .u32 (4294967295 - r : Nat), h)
      | none => none
    | none => none)
    none
  | _ => none
/-- The table lies. -/
def tabL : Nat → List Value → Bool
  | n, .int .u32 (.ofNat y) :: l => Nat.beq y (crcTb n) && (Nat.ble 15 n || tabL (n + 1) l)
  | _, _ => false
def tabB (h : Hp) : Bool :=
  match h.m.get 3 with
  | some (.cells c _ _) => tabL 0 c
  | _ => false
/-- Is it a name? -/
def nameN (n : Nat) : Bool := cond (Nat.beq n 46) true (cond (Nat.ble 97 n) (Nat.ble n 122) (Nat.ble 48 n && Nat.ble n 57))
def nameH (args : List Value) (h : Hp) : Option (Value × Hp) :=
  match args with
  | [.string s] => let l := s.data.toList; some (.bool (Nat.ble 1 l.length && Nat.ble l.length 64 && l.all fun c => nameN c.toNat), h)
  | _ => none
def fsHook (ro : Nat) : Hook := fun f args h =>
  cond (Nat.beq f 88) (heldH args h)
    (cond (Nat.beq f 130) (pendH ro args h)
      (cond (Nat.beq f 93) (settleH ro args h)
        (cond (Nat.beq f 106) (namesH args h)
          (cond (Nat.beq f 188) (cond (tabB h) (crcH args h) none)
            (cond (Nat.beq f 203) (crcH args h)
              (cond (Nat.beq f 129) (nameH args h)
                (cond (Nat.beq f 131) (nameH args h) none)))))))
def shHook (P : Program) (ro : Nat) (X : Hook) (n : Nat) : Hook := fun f args h =>
  cond (Nat.beq f 213) (deferH (evalN P ro X (fsHook ro) n) P 213 244 9 [2, 4, 5] args h) (fsHook ro f args h)
end Ex
end Go.Proofs.YtjncnppbaldmiaaGreatDoor
