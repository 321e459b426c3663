/- The evaluator answers true at chapter 14's first(), by the kernel. No condition. -/
import Derived.Test.YtgbladpoglhleaaGreatDoorFi
namespace Go.Proofs.YtgbladpoglhleaaGreatDoor
open Ex
def crcTab : List Value := [.int .u32 0, .int .u32 79764919, .int .u32 159529838, .int .u32 222504665, .int .u32 319059676, .int .u32 398814059, .int .u32 445009330, .int .u32 507990021, .int .u32 638119352, .int .u32 583659535, .int .u32 797628118, .int .u32 726387553, .int .u32 890018660, .int .u32 835552979, .int .u32 1015980042, .int .u32 944750013]
def txt (l : List UInt8) : Value := .string ⟨l.toArray⟩
def shapesTab : List Value := [txt [109, 97, 110, 105, 102, 101, 115, 116], .int .i64 0, txt [99, 111, 114, 101], .int .i64 1, txt [111, 114, 100, 101, 114], .int .i64 1, txt [110, 101, 115, 116], .int .i64 1, txt [99, 107, 112, 116], .int .i64 1, txt [115], .int .i64 2, txt [120], .int .i64 2, txt [120], .int .i64 3]
/-- The memory that the call begins with: the table of chapter 2's sum, the shapes of names, the library's sentinel. -/
def exStart (e0 e2 e5 off : Nat) : Hp :=
  { m := (((Tr.leaf : Tr AO).put 0 (some (.cells shapesTab e0 true))).put 2 (some (.cells [.iface 233 (ptr 20 off)] e2 true))).put 5 (some (.cells crcTab e5 true)), c := 30, wl := [] }
def saysTrue : Option (Value × Hp) → Bool
  | some (.bool b, _) => b
  | _ => false
theorem first_run (e0 e2 e5 off : Nat) : saysTrue (acall Tryz.prog 30 (evalN Tryz.prog 30 exX noHook 3000) noHook 9 [] (exStart e0 e2 e5 off)) = true := by kernel_rfl
end Go.Proofs.YtgbladpoglhleaaGreatDoor
