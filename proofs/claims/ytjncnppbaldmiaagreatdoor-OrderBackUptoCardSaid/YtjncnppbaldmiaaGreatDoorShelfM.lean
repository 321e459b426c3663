/-
  DERIVED: THE SHELF's CONTRACTS AT THIS DUMP, IN PLAIN WORDS (tools/lay-plain.mjs out of 'TryzShelfM.lean', which tools/lay-shelf.mjs wrote): THE SAME DECLARATIONS UNDER THE SAME NAMES: 'import', 'namespace', 'open', 'def', 'theorem' AND NOTHING ELSE: no command of the shelf's: FOR A HAND-IN. Each laying: the table of numbers ('.._ren') and one theorem, a field a fact of the dump's own or the kernel's comparison; each contract: ONE APPLICATION.
-/
import Derived.Shelf.Strings.Search1
import Derived.Shelf.Strings.Search2
import Derived.Shelf.Strings.Search3
import Derived.Shelf.Strings.Count
import Derived.Shelf.LaysM
import Derived.Shelf.Strings.Shaped
import Derived.Shelf.Unicode.DecodeSlow
import Derived.Ground.SlgmProg
import Derived.Shelf.SortM.Plain
import Derived.Shelf.SortM.SortNone
import Derived.Shelf.Bytes.Small
import Derived.Shelf.SlIter.Nil
import Derived.Ground.GgzProg
import Derived.Test.YtjncnppbaldmiaaGreatDoorProg
namespace Go.Proofs
open Go.Shelf
def Tryz.keysS_ren : Go.Shelf.Ren := ⟨fun | 7 => 144 | 10 => 175 | n => n, fun | 23 => 121 | 26 => 9 | 3 => 140 | 28 => 223 | 0 => 0 | 27 => 222 | 33 => 174 | 4 => 4 | n => n, fun | n => n⟩
theorem Tryz.keysS : Go.Proofs.SlLaysZ.n7 Tryz.prog Tryz.keysS_ren := {
  mixed := by kernel_rfl
  f7 := ⟨Tryz.f144.name, by decide, Tryz.func144.trans (congrArg some (by kernel_rfl))⟩
  f10 := ⟨Tryz.f175.name, by decide, Tryz.func175.trans (congrArg some (by kernel_rfl))⟩
  t0 := Tryz.underlying0
  a0 := Tryz.isAgg0
  z0 := Tryz.sizeOf0
  v0 := Tryz.zeroValue0
  t4 := Tryz.underlying4
  a4 := Tryz.isAgg4
  z4 := Tryz.sizeOf4
  v4 := Tryz.zeroValue4
  t23 := Tryz.underlying121
  a23 := Tryz.isAgg121
  z23 := Tryz.sizeOf121
  v23 := Tryz.zeroValue121
  t26 := Tryz.underlying9
  a26 := Tryz.isAgg9
  z26 := Tryz.sizeOf9
  v26 := Tryz.zeroValue9
  t27 := Tryz.underlying222
  a27 := Tryz.isAgg222
  z27 := Tryz.sizeOf222
  v27 := Tryz.zeroValue222
  t28 := Tryz.underlying223
  a28 := Tryz.isAgg223
  z28 := Tryz.sizeOf223
  v28 := Tryz.zeroValue223
  t33 := Tryz.underlying174
  a33 := Tryz.isAgg174
  z33 := Tryz.sizeOf174
  v33 := Tryz.zeroValue174 }
def Tryz.sortedS_ren : Go.Shelf.Ren := ⟨fun | 6 => 143 | 8 => 173 | 9 => 174 | 11 => 206 | 13 => 208 | 12 => 207 | 23 => 235 | 24 => 190 | 14 => 226 | 15 => 227 | 16 => 228 | 17 => 229 | 18 => 230 | 19 => 231 | 20 => 232 | 21 => 233 | 22 => 234 | 25 => 248 | 26 => 249 | 27 => 250 | 28 => 251 | 29 => 252 | 30 => 253 | 31 => 263 | n => n, fun | 26 => 9 | 28 => 223 | 24 => 168 | 0 => 0 | 3 => 3 | 37 => 112 | 48 => 92 | 50 => 242 | 4 => 4 | 40 => 323 | 39 => 322 | 45 => 327 | 5 => 5 | 9 => 9 | 51 => 343 | 55 => 347 | 57 => 359 | 58 => 155 | 33 => 174 | n => n, fun | n => n⟩
theorem Tryz.sortedS : Go.Proofs.SlLaysZ.n6 Tryz.prog Tryz.sortedS_ren := {
  mixed := by kernel_rfl
  f6 := ⟨Tryz.f143.name, by decide, Tryz.func143.trans (congrArg some (by kernel_rfl))⟩
  f8 := ⟨Tryz.f173.name, by decide, Tryz.func173.trans (congrArg some (by kernel_rfl))⟩
  f11 := ⟨Tryz.f206.name, by decide, Tryz.func206.trans (congrArg some (by kernel_rfl))⟩
  t0 := Tryz.underlying0
  a0 := Tryz.isAgg0
  z0 := Tryz.sizeOf0
  v0 := Tryz.zeroValue0
  t24 := Tryz.underlying168
  a24 := Tryz.isAgg168
  z24 := Tryz.sizeOf168
  v24 := Tryz.zeroValue168
  t26 := Tryz.underlying9
  a26 := Tryz.isAgg9
  z26 := Tryz.sizeOf9
  v26 := Tryz.zeroValue9
  t28 := Tryz.underlying223
  a28 := Tryz.isAgg223
  z28 := Tryz.sizeOf223
  v28 := Tryz.zeroValue223
  i26 := by kernel_rfl }
def Tryz.sortS_ren : Go.Shelf.Ren := ⟨fun | 6 => 174 | 8 => 208 | 9 => 207 | 19 => 235 | 20 => 190 | 21 => 226 | 22 => 227 | 23 => 228 | 24 => 229 | 25 => 230 | 26 => 231 | 27 => 232 | 28 => 233 | 29 => 234 | 36 => 248 | 31 => 249 | 32 => 250 | 37 => 251 | 38 => 252 | 39 => 253 | 41 => 263 | n => n, fun | 27 => 168 | 29 => 9 | 3 => 3 | 32 => 112 | 26 => 168 | 0 => 0 | 44 => 92 | 46 => 242 | 4 => 4 | 36 => 323 | 35 => 322 | 41 => 327 | 5 => 5 | 9 => 9 | 53 => 343 | 57 => 347 | 63 => 359 | 64 => 155 | n => n, fun | n => n⟩
theorem Tryz.sortS : Go.Proofs.SlLaysM.n6 Tryz.prog Tryz.sortS_ren := {
  mixed := by kernel_rfl
  f6 := ⟨Tryz.f174.name, by decide, Tryz.func174.trans (congrArg some (by kernel_rfl))⟩
  f8 := Tryz.func208.trans (congrArg some (by kernel_rfl))
  f9 := ⟨Tryz.f207.name, by decide, Tryz.func207.trans (congrArg some (by kernel_rfl))⟩
  f19 := Tryz.func235.trans (congrArg some (by kernel_rfl))
  f20 := Tryz.func190.trans (congrArg some (by kernel_rfl))
  f21 := ⟨Tryz.f226.name, by decide, Tryz.func226.trans (congrArg some (by kernel_rfl))⟩
  f22 := ⟨Tryz.f227.name, by decide, Tryz.func227.trans (congrArg some (by kernel_rfl))⟩
  f23 := ⟨Tryz.f228.name, by decide, Tryz.func228.trans (congrArg some (by kernel_rfl))⟩
  f24 := ⟨Tryz.f229.name, by decide, Tryz.func229.trans (congrArg some (by kernel_rfl))⟩
  f25 := ⟨Tryz.f230.name, by decide, Tryz.func230.trans (congrArg some (by kernel_rfl))⟩
  f26 := ⟨Tryz.f231.name, by decide, Tryz.func231.trans (congrArg some (by kernel_rfl))⟩
  f27 := ⟨Tryz.f232.name, by decide, Tryz.func232.trans (congrArg some (by kernel_rfl))⟩
  f28 := ⟨Tryz.f233.name, by decide, Tryz.func233.trans (congrArg some (by kernel_rfl))⟩
  f29 := ⟨Tryz.f234.name, by decide, Tryz.func234.trans (congrArg some (by kernel_rfl))⟩
  f31 := Tryz.func249.trans (congrArg some (by kernel_rfl))
  f32 := Tryz.func250.trans (congrArg some (by kernel_rfl))
  f36 := ⟨Tryz.f248.name, by decide, Tryz.func248.trans (congrArg some (by kernel_rfl))⟩
  f37 := ⟨Tryz.f251.name, by decide, Tryz.func251.trans (congrArg some (by kernel_rfl))⟩
  f38 := ⟨Tryz.f252.name, by decide, Tryz.func252.trans (congrArg some (by kernel_rfl))⟩
  f39 := ⟨Tryz.f253.name, by decide, Tryz.func253.trans (congrArg some (by kernel_rfl))⟩
  f41 := ⟨Tryz.f263.name, by decide, Tryz.func263.trans (congrArg some (by kernel_rfl))⟩
  t0 := Tryz.underlying0
  a0 := Tryz.isAgg0
  z0 := Tryz.sizeOf0
  v0 := Tryz.zeroValue0
  t3 := Tryz.underlying3
  a3 := Tryz.isAgg3
  z3 := Tryz.sizeOf3
  v3 := Tryz.zeroValue3
  t4 := Tryz.underlying4
  a4 := Tryz.isAgg4
  z4 := Tryz.sizeOf4
  v4 := Tryz.zeroValue4
  t5 := Tryz.underlying5
  a5 := Tryz.isAgg5
  z5 := Tryz.sizeOf5
  v5 := Tryz.zeroValue5
  t9 := Tryz.underlying9
  a9 := Tryz.isAgg9
  z9 := Tryz.sizeOf9
  v9 := Tryz.zeroValue9
  t26 := Tryz.underlying168
  a26 := Tryz.isAgg168
  z26 := Tryz.sizeOf168
  v26 := Tryz.zeroValue168
  t27 := Tryz.underlying168
  a27 := Tryz.isAgg168
  z27 := Tryz.sizeOf168
  v27 := Tryz.zeroValue168
  t29 := Tryz.underlying9
  a29 := Tryz.isAgg9
  z29 := Tryz.sizeOf9
  v29 := Tryz.zeroValue9
  t32 := Tryz.underlying112
  a32 := Tryz.isAgg112
  z32 := Tryz.sizeOf112
  v32 := Tryz.zeroValue112
  t35 := Tryz.underlying322
  a35 := Tryz.isAgg322
  z35 := Tryz.sizeOf322
  v35 := Tryz.zeroValue322
  t36 := Tryz.underlying323
  a36 := Tryz.isAgg323
  z36 := Tryz.sizeOf323
  v36 := Tryz.zeroValue323
  t41 := Tryz.underlying327
  a41 := Tryz.isAgg327
  z41 := Tryz.sizeOf327
  v41 := Tryz.zeroValue327
  t44 := Tryz.underlying92
  a44 := Tryz.isAgg92
  z44 := Tryz.sizeOf92
  v44 := Tryz.zeroValue92
  t46 := Tryz.underlying242
  a46 := Tryz.isAgg242
  z46 := Tryz.sizeOf242
  v46 := Tryz.zeroValue242
  t53 := Tryz.underlying343
  a53 := Tryz.isAgg343
  z53 := Tryz.sizeOf343
  v53 := Tryz.zeroValue343
  t57 := Tryz.underlying347
  a57 := Tryz.isAgg347
  z57 := Tryz.sizeOf347
  v57 := Tryz.zeroValue347
  t63 := Tryz.underlying359
  a63 := Tryz.isAgg359
  z63 := Tryz.sizeOf359
  v63 := Tryz.zeroValue359
  t64 := Tryz.underlying155
  a64 := Tryz.isAgg155
  z64 := Tryz.sizeOf155
  v64 := Tryz.zeroValue155 }
end Go.Proofs
