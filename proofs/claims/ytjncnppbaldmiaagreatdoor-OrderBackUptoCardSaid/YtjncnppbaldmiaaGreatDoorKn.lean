/- What the known calls are printed in: short names for memory, the tables, the hooks that all runs share. No condition. -/
import Derived.Test.YtjncnppbaldmiaaGreatDoorHy
import Derived.Test.YtjncnppbaldmiaaGreatDoorFi
namespace Go.Proofs.YtjncnppbaldmiaaGreatDoor
open Ex
def kb (l : List Nat) : List Value := l.map fun n => .int .u8 (.ofNat n)
def ki (l : List Nat) : List Value := l.map fun n => .int .i64 (.ofNat n)
def iv (n : Nat) : Value := .int .i64 (.ofNat n)
def tx (l : List UInt8) : Value := .string ⟨l.toArray⟩
def pt (b o : Nat) : Value := .pointer (some ⟨b, o, none⟩)
def sl (b o n c : Nat) : Value := .slice (some ⟨b, o, none⟩) n c
def nl : Tr AO := .node none .leaf .leaf
def nn (l r : Tr AO) : Tr AO := .node none l r
def ns (o : AO) (l r : Tr AO) : Tr AO := .node (some o) l r
def crcTab : List Value := [.int .u32 0, .int .u32 79764919, .int .u32 159529838, .int .u32 222504665, .int .u32 319059676, .int .u32 398814059, .int .u32 445009330, .int .u32 507990021, .int .u32 638119352, .int .u32 583659535, .int .u32 797628118, .int .u32 726387553, .int .u32 890018660, .int .u32 835552979, .int .u32 1015980042, .int .u32 944750013]
def txt (l : List UInt8) : Value := .string ⟨l.toArray⟩
def shapesTab : List Value := [txt [109, 97, 110, 105, 102, 101, 115, 116], .int .i64 0, txt [99, 111, 114, 101], .int .i64 1, txt [111, 114, 100, 101, 114], .int .i64 1, txt [110, 101, 115, 116], .int .i64 1, txt [99, 107, 112, 116], .int .i64 1, txt [115], .int .i64 2, txt [120], .int .i64 2, txt [120], .int .i64 3]
def knTabs : List (Nat × List Value) := [(0, shapesTab), (3, crcTab)]
def exStart (e0 e2 e5 off : Nat) : Hp :=
  { m := (((Tr.leaf : Tr AO).put 0 (some (.cells shapesTab e0 true))).put 6 (some (.cells [.iface 363 (ptr 20 off)] e2 true))).put 3 (some (.cells crcTab e5 true)), c := 30, wl := [] }
def saysTrue : Option (Value × Hp) → Bool
  | some (.bool b, _) => b
  | _ => false
noncomputable def knSh : Hook := shHook Tryz.prog 30 exX 3000
theorem knSh_ok : COk Tryz.prog 30 knSh := by
  intro f args h v h' hx
  unfold knSh shHook at hx
  cases e : Nat.beq f 213 with
  | true =>
    rw [e, cond_true] at hx
    obtain rfl := Nat.eq_of_beq_eq_true e
    exact pay_ok (evalN_ok fit exX_ok fsHook_ok 3000).1 hx
  | false =>
    rw [e, cond_false] at hx
    exact fsHook_ok f args h v h' hx
end Go.Proofs.YtjncnppbaldmiaaGreatDoor
