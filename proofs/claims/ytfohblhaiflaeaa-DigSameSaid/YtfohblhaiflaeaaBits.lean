/- Numbers of 64 bits as values: what the model's operations on them come to, said over BitVec 64. No program in sight. -/
import Derived.Test.YtfohblhaiflaeaaWords
import Derived.IntWalk
namespace Go.Proofs.Ytfohblhaiflaeaa
open Go.RowKit

theorem ret_int {k : IntKind} {a b : Int} (h : a = b) : Ending.returned (.int k a) = .returned (.int k b) := by rw [h]

/-- a number of 64 bits as a value -/
abbrev U (x : BitVec 64) : Value := .int .u64 (x.toNat : Int)

theorem toNat_lt (x : BitVec 64) : (x.toNat : Int) < 18446744073709551616 := by have := x.isLt; omega

theorem wrap_bv (x : BitVec 64) : IntKind.u64.wrap (x.toNat : Int) = x.toNat := by
  rw [IntKind.wrap_u64]; have := x.isLt; omega

theorem xor_bv (x y : BitVec 64) : bits .xor .u64 (x.toNat : Int) (y.toNat : Int) = ((x ^^^ y).toNat : Int) := by
  rw [u64_xor_nat _ _ x.isLt y.isLt, BitVec.toNat_xor]
theorem or_bv (x y : BitVec 64) : bits .or .u64 (x.toNat : Int) (y.toNat : Int) = ((x ||| y).toNat : Int) := by
  rw [u64_or_nat _ _ x.isLt y.isLt, BitVec.toNat_or]
theorem and_bv (x y : BitVec 64) : bits .and .u64 (x.toNat : Int) (y.toNat : Int) = ((x &&& y).toNat : Int) := by
  rw [u64_and_nat _ _ x.isLt y.isLt, BitVec.toNat_and]
theorem andNot_bv (x y : BitVec 64) : bits .andNot .u64 (x.toNat : Int) (y.toNat : Int) = ((x &&& ~~~y).toNat : Int) := by
  rw [u64_andNot_nat _ _ x.isLt y.isLt, BitVec.toNat_and, BitVec.toNat_not]

theorem shl_num (x : BitVec 64) (k : Int) : IntKind.u64.wrap ((x.toNat : Int) * 2 ^ (min k.toNat 64)) = ((x <<< k.toNat).toNat : Int) := by
  rw [IntKind.wrap_u64, BitVec.toNat_shiftLeft, Nat.shiftLeft_eq]
  have e : ((x.toNat : Int) * 2 ^ (min k.toNat 64)) = ((x.toNat * 2 ^ (min k.toNat 64) : Nat) : Int) := by
    rw [Int.natCast_mul, Int.natCast_pow]; rfl
  rw [e]
  rcases Nat.lt_or_ge k.toNat 64 with h | h
  · rw [Nat.min_eq_left (by omega)]
    show ((_ : Nat) : Int) % ((18446744073709551616 : Nat) : Int) = _
    rw [← Int.natCast_emod]
  · rw [Nat.min_eq_right h]
    obtain ⟨j, hj⟩ : ∃ j, k.toNat = 64 + j := ⟨k.toNat - 64, by omega⟩
    rw [hj, Nat.pow_add]
    have e : x.toNat * (2 ^ 64 * 2 ^ j) = 2 ^ 64 * (x.toNat * 2 ^ j) := by
      rw [Nat.mul_left_comm]
    rw [e, Nat.mul_mod_right]
    show ((x.toNat * 18446744073709551616 : Nat) : Int) % ((18446744073709551616 : Nat) : Int) = _
    rw [← Int.natCast_emod, Nat.mul_mod_left]

theorem shr_num (x : BitVec 64) (k : Int) : (x.toNat : Int).fdiv (2 ^ (min k.toNat 64)) = ((x >>> k.toNat).toNat : Int) := by
  rw [BitVec.toNat_ushiftRight, Nat.shiftRight_eq_div_pow]
  have e : (2 : Int) ^ (min k.toNat 64) = ((2 ^ (min k.toNat 64) : Nat) : Int) := by rw [Int.natCast_pow]; rfl
  rw [e, Int.fdiv_eq_ediv_of_nonneg _ (Int.natCast_nonneg _), ← Int.natCast_ediv]
  rcases Nat.lt_or_ge k.toNat 64 with h | h
  · rw [Nat.min_eq_left (by omega)]
  · rw [Nat.min_eq_right h]
    have hx := x.isLt
    rw [Nat.div_eq_of_lt (Nat.lt_of_lt_of_le hx (Nat.pow_le_pow_right (by omega) h)), Nat.div_eq_of_lt hx]

theorem shl_bv (P : Program) (x : BitVec 64) (yk : IntKind) (k : Int) (h0 : 0 ≤ k) (w : World) :
    (Op.shift .shl .u64 (x.toNat : Int) yk k).run P w = .ok (U (x <<< k.toNat)) w := by
  have h := shl_num x k
  unfold Op.shift
  rw [if_neg (by omega)]
  show Result.ok (Value.int IntKind.u64 (IntKind.u64.wrap ((x.toNat : Int) * 2 ^ (min k.toNat 64)))) w = _
  rw [h]

theorem shr_bv (P : Program) (x : BitVec 64) (yk : IntKind) (k : Int) (h0 : 0 ≤ k) (w : World) :
    (Op.shift .shr .u64 (x.toNat : Int) yk k).run P w = .ok (U (x >>> k.toNat)) w := by
  have h := shr_num x k
  unfold Op.shift
  rw [if_neg (by omega)]
  show Result.ok (Value.int IntKind.u64 ((x.toNat : Int).fdiv (2 ^ (min k.toNat 64)))) w = _
  rw [h]

theorem shl_num' (x : BitVec 64) (n : Nat) (h : n < 64) : IntKind.u64.wrap ((x.toNat : Int) * 2 ^ n) = ((x <<< n).toNat : Int) := by
  have e := shl_num x n
  simpa [Nat.min_eq_left (Nat.le_of_lt h)] using e

theorem shr_num' (x : BitVec 64) (n : Nat) : (x.toNat : Int) / 2 ^ n = ((x >>> n).toNat : Int) := by
  rw [BitVec.toNat_ushiftRight, Nat.shiftRight_eq_div_pow]
  have e : (2 : Int) ^ n = ((2 ^ n : Nat) : Int) := by rw [Int.natCast_pow]; rfl
  rw [e, ← Int.natCast_ediv]

theorem i64_xor_nat (a b : Nat) (ha : a < 4611686018427387904) (hb : b < 4611686018427387904) : bits .xor .i64 (a : Int) (b : Int) = ((a ^^^ b : Nat) : Int) := by
  have h1 : a ^^^ b < 2 ^ 62 := Nat.xor_lt_two_pow (by omega) (by omega)
  show IntKind.i64.wrap ((BitVec.ofInt 64 (a : Int) ^^^ BitVec.ofInt 64 (b : Int)).toNat : Int) = _
  rw [BitVec.toNat_xor, ofInt_u64 a (by omega), ofInt_u64 b (by omega), IntWalk.i64_left]
  unfold wrap64
  omega
theorem i64_and_nat (a b : Nat) (ha : a < 4611686018427387904) (hb : b < 4611686018427387904) : bits .and .i64 (a : Int) (b : Int) = ((a &&& b : Nat) : Int) := by
  have h1 : a &&& b < 2 ^ 62 := Nat.and_lt_two_pow _ (by omega)
  show IntKind.i64.wrap ((BitVec.ofInt 64 (a : Int) &&& BitVec.ofInt 64 (b : Int)).toNat : Int) = _
  rw [BitVec.toNat_and, ofInt_u64 a (by omega), ofInt_u64 b (by omega), IntWalk.i64_left]
  unfold wrap64
  omega

theorem and63 (k : Int) (h0 : 0 ≤ k) (h : k < 64) : bits .and .u64 k 63 = k := by
  rw [u64_and k 63 h0 (by omega) (by omega) (by omega)]
  have : (63 : Int).toNat = 63 := rfl
  rw [this, nat_mask6]; omega

/-- a state of 25 lanes (or a row of lanes) as values -/
def vals (s : List (BitVec 64)) : Array Value := (s.map U).toArray

/-- lane i -/
def lane (s : List (BitVec 64)) (i : Nat) : BitVec 64 := s.getD i 0

theorem vals_size (s : List (BitVec 64)) : (vals s).size = s.length := by simp [vals]
theorem vals_get (s : List (BitVec 64)) (i : Nat) (h : i < s.length) : (vals s)[i]? = some (U (lane s i)) := by
  simp [vals, h, lane]
theorem vals_set (s : List (BitVec 64)) (i : Nat) (v : BitVec 64) : (vals s).setIfInBounds i (U v) = vals (s.set i v) := by
  simp [vals, List.map_set]

theorem run_index_vals {P : Program} {t elem : TypeId} {n : Nat} {i : TypeInfo} (hu : P.underlying t = some (.array n elem)) (hi : P.info? elem = some i) (hs1 : i.size = 1)
    (ha : ∀ w, (isAgg elem).run P w = .ok false w) (s : List (BitVec 64)) (k : Nat) (hs : s.length = n) (hk : k < n) (w : World) :
    (Instr.index t (.agg (vals s)) (.int .i64 (k : Int))).run P w = .ok (U (lane s k)) w := by
  have hv := vals_get s k (by omega)
  have h1 : (0 : Int) ≤ k ∧ (k : Int) < (n : Int) := by omega
  have hnk : ¬ n ≤ k := by omega
  simp [Instr.index, asIntOf, run_underlying hu, hk, sizeOf, typeInfo, hi, hs1, part, ha, hv]

/-! blocks of a world with new blocks -/
theorem heap_a1_0 (w : World) (A : Obj) : (w.alloc A).heap[w.heap.size]? = some A := heap_alloc_new w A
theorem heap_a2_0 (w : World) (A B : Obj) : ((w.alloc A).alloc B).heap[w.heap.size]? = some A := heap_alloc2_old w A B
theorem heap_a2_1 (w : World) (A B : Obj) : ((w.alloc A).alloc B).heap[w.heap.size + 1]? = some B := heap_alloc2_new w A B
theorem heap_a3_0 (w : World) (A B C : Obj) : (((w.alloc A).alloc B).alloc C).heap[w.heap.size]? = some A := by
  rw [Below.heap_alloc _ _ _ (by simp; omega)]; exact heap_alloc2_old w A B
theorem heap_a3_1 (w : World) (A B C : Obj) : (((w.alloc A).alloc B).alloc C).heap[w.heap.size + 1]? = some B := by
  rw [Below.heap_alloc _ _ _ (by simp)]; exact heap_alloc2_new w A B
theorem heap_a3_2 (w : World) (A B C : Obj) : (((w.alloc A).alloc B).alloc C).heap[w.heap.size + 2]? = some C := by
  have h := heap_alloc_new ((w.alloc A).alloc B) C
  simpa using h

end Go.Proofs.Ytfohblhaiflaeaa
