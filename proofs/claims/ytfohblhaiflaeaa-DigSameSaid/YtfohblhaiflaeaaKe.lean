/- keccak.mark: what it comes to. -/
import Derived.Test.YtfohblhaiflaeaaKd
namespace Go.Proofs.Ytfohblhaiflaeaa
open Go.RowKit

def lfsr : Nat → Nat
  | 0 => 1
  | t + 1 => if 256 ≤ 2 * lfsr t then (2 * lfsr t) ^^^ 369 else 2 * lfsr t
theorem lfsr_lt : ∀ t, lfsr t < 256
  | 0 => by simp [lfsr]
  | t + 1 => by
    have h := lfsr_lt t
    unfold lfsr
    split
    · rename_i h2
      have : ∀ r : Fin 256, 256 ≤ 2 * r.val → (2 * r.val) ^^^ 369 < 256 := by decide +kernel
      exact this ⟨lfsr t, h⟩ h2
    · omega
def markOut (n : Nat) : Nat → BitVec 64
  | 0 => 0
  | t + 1 => if 7 * n ≤ t then markOut n t ||| (BitVec.ofNat 64 (lfsr t % 2) <<< (2 ^ (t - 7 * n) - 1)) else markOut n t
def markF (n : Nat) : BitVec 64 := markOut n (7 * (n + 1))
theorem lfsr_succ (t : Nat) : lfsr (t + 1) = if 256 ≤ 2 * lfsr t then (2 * lfsr t) ^^^ 369 else 2 * lfsr t := rfl
theorem lfsr_zero : lfsr 0 = 1 := rfl
theorem markOut_zero (n : Nat) : markOut n 0 = 0 := rfl
theorem markOut_succ (n t : Nat) : markOut n (t + 1) = if 7 * n ≤ t then markOut n t ||| (BitVec.ofNat 64 (lfsr t % 2) <<< (2 ^ (t - 7 * n) - 1)) else markOut n t := rfl
theorem markF_eq (n : Nat) : markF n = markOut n (7 * (n + 1)) := rfl
attribute [irreducible] lfsr markOut markF

theorem out_num (m : BitVec 64) (l j : Nat) (hl : l < 256) (hj : j ≤ 6) :
    bits .or .u64 (m.toNat : Int) (IntKind.u64.wrap (IntKind.u64.wrap (bits .and .i64 (l : Int) 1) * 2 ^ min (IntKind.u64.wrap (IntKind.u64.wrap (2 ^ j) - 1)).toNat 64)) =
      ((m ||| (BitVec.ofNat 64 (l % 2) <<< (2 ^ j - 1))).toNat : Int) := by
  have h1 : bits .and .i64 (l : Int) 1 = ((l % 2 : Nat) : Int) := by
    have := i64_and_nat l 1 (by omega) (by omega)
    rw [nat_mask1] at this
    exact this
  have h2 : IntKind.u64.wrap ((l % 2 : Nat) : Int) = ((BitVec.ofNat 64 (l % 2)).toNat : Int) := by
    rw [IntKind.wrap_u64, BitVec.toNat_ofNat]; omega
  have h3 : ((2 ^ j - 1 : Nat) : Int) = IntKind.u64.wrap (IntKind.u64.wrap (2 ^ j) - 1) := by
    have : ∀ j : Fin 7, ((2 ^ j.val - 1 : Nat) : Int) = IntKind.u64.wrap (IntKind.u64.wrap (2 ^ j.val) - 1) := by decide
    exact this ⟨j, by omega⟩
  have h4 : (2 ^ j - 1 : Nat) < 64 := by
    have : ∀ j : Fin 7, (2 ^ j.val - 1 : Nat) < 64 := by decide
    exact this ⟨j, by omega⟩
  rw [h1, h2, ← h3, Int.toNat_natCast, Nat.min_eq_left (by omega), shl_num' _ _ h4, or_bv]

set_option maxHeartbeats 1000000 in
set_option maxRecDepth 100000 in
theorem mark_any (n : Nat) (hn : n < 24) (w : World) :
    Calls Try.prog 40 #[.int .i64 n] w fun e w' => e = .returned (U (markF n)) ∧ w = w' := by
  go_enter Try.func40, Try.ntmps40
  go_wp2
  go_loop [3, 4, 10] (fun r o t => ∃ k : Nat, k ≤ 7 * (n + 1) ∧ t = .int .i64 k ∧ r = .int .i64 (lfsr k) ∧ o = U (markOut n k)) (fun _ _ t => 7 * (n + 1) - (intOf t).toNat)
  case atStart => exact ⟨0, by omega, rfl, by rw [lfsr_zero]; rfl, by rw [markOut_zero]; rfl⟩
  case round =>
    obtain ⟨k, hk, rfl, rfl, rfl⟩ := hrel
    have hl := lfsr_lt k
    have h1 := lfsr_succ k
    have h2 := markOut_succ n k
    have H1 := veil h1
    have H2 := veil h2
    clear h1 h2
    by_cases hlt : k < 7 * (n + 1)
    · by_cases hj : 7 * n ≤ k
      · go_wp2
        all_goals
          go_round
          case rel =>
            refine ⟨k + 1, by omega, by go_num, ?_, ?_⟩
            · rw [H1.out]
              first
                | (rw [if_pos (by omega), show ((lfsr k : Int) * 2) = ((2 * lfsr k : Nat) : Int) from by omega, show (369 : Int) = ((369 : Nat) : Int) from rfl, i64_xor_nat _ _ (by omega) (by omega)])
                | (rw [if_neg (by omega)]; go_num)
            · rw [H2.out, if_pos hj, out_num _ _ _ hl (by omega)]
          case measure => simp [intOf]; omega
      · go_wp2
        all_goals
          go_round
          case rel =>
            refine ⟨k + 1, by omega, by go_num, ?_, ?_⟩
            · rw [H1.out]
              first
                | (rw [if_pos (by omega), show ((lfsr k : Int) * 2) = ((2 * lfsr k : Nat) : Int) from by omega, show (369 : Int) = ((369 : Nat) : Int) from rfl, i64_xor_nat _ _ (by omega) (by omega)])
                | (rw [if_neg (by omega)]; go_num)
            · rw [H2.out, if_neg hj]
          case measure => simp [intOf]; omega
    · go_wp2
      go_ret
      refine ⟨?_, rfl⟩
      show Ending.returned (U (markOut n k)) = _
      rw [markF_eq, show k = 7 * (n + 1) from by omega]

end Go.Proofs.Ytfohblhaiflaeaa
