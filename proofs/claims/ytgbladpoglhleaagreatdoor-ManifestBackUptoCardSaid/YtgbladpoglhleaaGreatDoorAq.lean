/- Rows of bytes compared as arrays. No condition. -/
import Derived.Test.YtgbladpoglhleaaGreatDoorB
import Derived.ChangeKeysEq
import Derived.Laws.StructEq
namespace Go.Proofs.YtgbladpoglhleaaGreatDoor
open Go.RowKit
section
open Go
variable {P : Program} (w : World)
theorem run_eqItems_bytes {e : TypeId} {d : Nat} (he : P.plainKey e = true) (hu : P.underlying e = some (.int .u8)) (hc : P.cellsOf e = 1) (xs ys : List UInt8) : ∀ (is : List Nat), (∀ i ∈ is, i < xs.length ∧ i < ys.length) →
    (Op.eqItems (d + 1) e (P.cellsOf e) (xs.map fun b => Value.int .u8 b.toNat).toArray (ys.map fun b => Value.int .u8 b.toNat).toArray is).run P w = .ok (is.all fun i => decide (xs[i]? = ys[i]?)) w
  | [], _ => by simp [Op.eqItems]
  | i :: is, h => by
    have hi := h i List.mem_cons_self
    have ih := run_eqItems_bytes (d := d) he hu hc xs ys is fun j hj => h j (List.mem_cons_of_mem _ hj)
    have a1 : (part e (xs.map fun b => Value.int .u8 b.toNat).toArray (i * P.cellsOf e)).run P w = .ok (.int .u8 (xs[i].toNat : Int)) w := run_part_plain w he (by rw [hc, Nat.mul_one]; simp [hi.1])
    have a2 : (part e (ys.map fun b => Value.int .u8 b.toNat).toArray (i * P.cellsOf e)).run P w = .ok (.int .u8 (ys[i].toNat : Int)) w := run_part_plain w he (by rw [hc, Nat.mul_one]; simp [hi.2])
    have a3 : (Op.equalIn (d + 1) e (.int .u8 (xs[i].toNat : Int)) (.int .u8 (ys[i].toNat : Int))).run P w = .ok (decide (xs[i] = ys[i])) w := by
      rw [run_equalIn_int w d e .u8 .u8 _ _ hu]
      congr 1
      rw [Bool.eq_iff_iff]
      simp only [beq_iff_eq, decide_eq_true_eq]
      constructor
      · intro h; exact UInt8.toNat_inj.1 (by omega)
      · intro h; rw [h]
    simp only [Op.eqItems, Sem.run_bind, a1, a2, a3, Result.andThen_ok, List.all_cons, List.getElem?_eq_getElem hi.1, List.getElem?_eq_getElem hi.2, Option.some.injEq]
    by_cases hx : xs[i] = ys[i]
    · simp only [hx, decide_true, Bool.not_true, Bool.false_eq_true, if_false, Bool.true_and]
      exact ih
    · simp [hx]
/-- Two arrays of n bytes. -/
theorem run_equalIn_bytes (d : Nat) {t e : TypeId} {n : Nat} {i : TypeInfo} (ht : P.underlying t = some (.array n e)) (hi : P.info? e = some i) (he : P.plainKey e = true) (hu : P.underlying e = some (.int .u8)) (hc : P.cellsOf e = 1) (xs ys : List UInt8) (hx : xs.length = n) (hy : ys.length = n) :
    (Op.equalIn (d + 2) t (.agg (xs.map fun b => Value.int .u8 b.toNat).toArray) (.agg (ys.map fun b => Value.int .u8 b.toNat).toArray)).run P w = .ok (eqB xs ys) w := by
  rw [run_equalIn_array w (d + 1) _ _ ht hi, run_eqItems_bytes w he hu hc xs ys _ fun j hj => by have := List.mem_range.1 hj; omega]
  congr 1
  unfold eqB
  rw [Bool.eq_iff_iff, List.all_eq_true, decide_eq_true_iff]
  constructor
  · intro h
    refine List.ext_getElem? fun j => ?_
    rcases Nat.lt_or_ge j n with hj | hj
    · simpa using h j (List.mem_range.2 hj)
    · rw [List.getElem?_eq_none (by omega), List.getElem?_eq_none (by omega)]
  · intro h j _
    rw [h]; simp
/-- Are they unlike? -/
theorem run_neq_bytes {t e : TypeId} {n : Nat} {i : TypeInfo} (ht : P.underlying t = some (.array n e)) (hi : P.info? e = some i) (he : P.plainKey e = true) (hu : P.underlying e = some (.int .u8)) (hc : P.cellsOf e = 1) (xs ys : List UInt8) (hx : xs.length = n) (hy : ys.length = n) :
    (binOp .neq t (.agg (xs.map fun b => Value.int .u8 b.toNat).toArray) (.agg (ys.map fun b => Value.int .u8 b.toNat).toArray)).run P w = .ok (.bool (!eqB xs ys)) w := by
  rw [run_neq_struct, run_equalIn_array w 9999 _ _ ht hi, run_eqItems_bytes w he hu hc xs ys _ fun j hj => by have := List.mem_range.1 hj; omega]
  simp only [Result.andThen_ok]
  congr 3
  unfold eqB
  rw [Bool.eq_iff_iff, List.all_eq_true, decide_eq_true_iff]
  constructor
  · intro h
    refine List.ext_getElem? fun j => ?_
    rcases Nat.lt_or_ge j n with hj | hj
    · simpa using h j (List.mem_range.2 hj)
    · rw [List.getElem?_eq_none (by omega), List.getElem?_eq_none (by omega)]
  · intro h j _
    rw [h]; simp
end
end Go.Proofs.YtgbladpoglhleaaGreatDoor
