/- parcloselaw20.DigOne, the plain law: bytes that are less than a block, added up. No program in sight. -/
import Derived.Test.YtfohblhaiflaeaaDa
namespace Go.Proofs.Ytfohblhaiflaeaa
open Go.RowKit

theorem lane_zeros (j : Nat) : lane (zeros 25) j = 0 := by
  unfold lane zeros
  rw [List.getD_eq_getElem?_getD, List.getElem?_replicate]
  split <;> rfl
theorem lane_low (f : Nat → Nat) (hf : ∀ i, f i < 256) (j : Nat) : ∀ k, k ≤ 200 → Low (lane (blkF (zeros 25) f k) j) (k - 8 * j)
  | 0, _ => by rw [blkF_zero, lane_zeros]; exact Low.zero _
  | k + 1, hk => by
    have ih := lane_low f hf j k (by omega)
    rw [blkF_succ, xorB]
    by_cases hj : k / 8 = j
    · subst hj
      rw [lane_setSame _ _ _ (by rw [blkF_len]; simp [zeros]; omega)]
      have h2 : Low (lane (blkF (zeros 25) f k) (k / 8)) (k % 8) := ih.mono (by omega)
      exact (h2.up8 (hf k)).mono (by omega)
    · rw [lane_setOther _ _ _ _ hj]
      exact ih.mono (by omega)
/-- a byte is added: as good as taken in -/
theorem add_step (f : Nat → Nat) (hf : ∀ i, f i < 256) (k : Nat) (hk : k < 200) :
    (blkF (zeros 25) f k).set (k / 8) (lane (blkF (zeros 25) f k) (k / 8) + up8 (f k) (k % 8)) = blkF (zeros 25) f (k + 1) := by
  have h := lane_low f hf (k / 8) k (by omega)
  rw [blkF_succ, xorB, add_up8 (h.mono (by omega)) (hf k)]
theorem xorB_none (s : List (BitVec 64)) (k : Nat) : xorB s k 0 = s := by
  unfold xorB up8
  have e : lane s (k / 8) ^^^ BitVec.ofNat 64 0 <<< (8 * (k % 8)) = lane s (k / 8) := by simp
  rw [e, set_lane]
theorem blk_idle (s : List (BitVec 64)) (f : Nat → Nat) (a : Nat) : ∀ d, (∀ i, a ≤ i → i < a + d → f i = 0) → blkF s f (a + d) = blkF s f a
  | 0, _ => rfl
  | d + 1, h => by
    show blkF s f (a + d + 1) = _
    rw [blkF_succ, h (a + d) (by omega) (by omega), xorB_none]
    exact blk_idle s f a d (fun i h1 h2 => h i h1 (by omega))
theorem one_block (bs : List UInt8) (h : bs.length ≤ 134) :
    digF bs = outTo (permF ((blkF (zeros 25) (byteN bs) (bs.length + 1)).set 16 (lane (blkF (zeros 25) (byteN bs) (bs.length + 1)) 16 ^^^ 9223372036854775808#64))) 32 := by
  have hall : allOf bs.length = 136 := by unfold allOf; omega
  have hb : blkF (zeros 25) (fun k => byteN bs (136 * 0 + k)) 136 = blkF (zeros 25) (byteN bs) 136 := blkF_congr _ _ (fun i _ => by show byteN bs (136 * 0 + i) = _; rw [Nat.mul_zero, Nat.zero_add])
  have h135 : byteN bs 135 = 128 := by unfold byteN; rw [if_neg (by omega), if_neg (by omega), hall, if_pos rfl]
  have hidle : blkF (zeros 25) (byteN bs) 135 = blkF (zeros 25) (byteN bs) (bs.length + 1) := by
    have := blk_idle (zeros 25) (byteN bs) (bs.length + 1) (135 - (bs.length + 1)) (fun i h1 h2 => by unfold byteN; rw [if_neg (by omega), if_neg (by omega), hall, if_neg (by omega)])
    rw [show bs.length + 1 + (135 - (bs.length + 1)) = 135 from by omega] at this
    exact this
  have hup : up8 128 7 = 9223372036854775808#64 := by decide
  rw [digF_eq, show bs.length / 136 + 1 = 0 + 1 from by omega, absC_succ, absC_zero, hb, show (136 : Nat) = 135 + 1 from rfl, blkF_succ, h135, hidle, xorB, show 135 / 8 = 16 from rfl, show 135 % 8 = 7 from rfl, hup]
theorem byteN_small (bs : List UInt8) (h : bs.length ≤ 134) (k : Nat) (hk : k < bs.length) : byteN bs k = (bs.getD k 0).toNat := by
  have hall : allOf bs.length = 136 := by unfold allOf; omega
  unfold byteN
  rw [if_pos hk, hall, if_neg (by omega), Nat.add_zero]
theorem byteN_six (bs : List UInt8) (h : bs.length ≤ 134) : byteN bs bs.length = 6 := by
  have hall : allOf bs.length = 136 := by unfold allOf; omega
  unfold byteN
  rw [if_neg (by omega), if_pos rfl, hall, if_neg (by omega)]

end Go.Proofs.Ytfohblhaiflaeaa
