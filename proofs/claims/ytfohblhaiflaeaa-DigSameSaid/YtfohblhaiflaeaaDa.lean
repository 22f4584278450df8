/- Digests in plain words: bytes, blocks, what is taken in. No program in sight. -/
import Derived.Test.YtfohblhaiflaeaaKf
namespace Go.Proofs.Ytfohblhaiflaeaa
open Go.RowKit

/-- a byte as a lane's word, moved up -/
def up8 (b : Nat) (m : Nat) : BitVec 64 := BitVec.ofNat 64 b <<< (8 * m)
/-- a byte goes into a state, at place k of a block -/
def xorB (s : List (BitVec 64)) (k b : Nat) : List (BitVec 64) := s.set (k / 8) (lane s (k / 8) ^^^ up8 b (k % 8))
def blkF (s : List (BitVec 64)) (f : Nat → Nat) : Nat → List (BitVec 64)
  | 0 => s
  | k + 1 => xorB (blkF s f k) k (f k)
theorem blkF_zero (s : List (BitVec 64)) (f : Nat → Nat) : blkF s f 0 = s := rfl
theorem blkF_succ (s : List (BitVec 64)) (f : Nat → Nat) (k : Nat) : blkF s f (k + 1) = xorB (blkF s f k) k (f k) := rfl
theorem xorB_len (s : List (BitVec 64)) (k b : Nat) : (xorB s k b).length = s.length := by simp [xorB]
theorem blkF_len (s : List (BitVec 64)) (f : Nat → Nat) : ∀ k, (blkF s f k).length = s.length
  | 0 => rfl
  | k + 1 => by rw [blkF_succ, xorB_len, blkF_len s f k]
theorem blkF_congr (s : List (BitVec 64)) {f g : Nat → Nat} : ∀ k, (∀ i, i < k → f i = g i) → blkF s f k = blkF s g k
  | 0, _ => rfl
  | k + 1, h => by rw [blkF_succ, blkF_succ, blkF_congr s k (fun i hi => h i (by omega)), h k (by omega)]

/-- how many padded bytes there are; and each of them -/
def allOf (n : Nat) : Nat := (n / 136 + 1) * 136
def byteN (bs : List UInt8) (n : Nat) : Nat :=
  (if n < bs.length then (bs.getD n 0).toNat else if n = bs.length then 6 else 0) + (if n + 1 = allOf bs.length then 128 else 0)
theorem allOf_lt (n : Nat) : n < allOf n := by unfold allOf; omega
theorem allOf_le (n : Nat) : allOf n ≤ n + 136 := by unfold allOf; omega
theorem byteN_lt (bs : List UInt8) (n : Nat) : byteN bs n < 256 := by
  have h := allOf_lt bs.length
  have h2 := (bs.getD n 0).toNat_lt
  unfold byteN
  split
  · rw [if_neg (by omega)]; omega
  · split <;> split <;> omega
/-- the state behind c blocks -/
def absC (bs : List UInt8) : Nat → List (BitVec 64)
  | 0 => zeros 25
  | c + 1 => permF (blkF (absC bs c) (fun k => byteN bs (136 * c + k)) 136)
theorem absC_zero (bs : List UInt8) : absC bs 0 = zeros 25 := rfl
theorem absC_succ (bs : List UInt8) (c : Nat) : absC bs (c + 1) = permF (blkF (absC bs c) (fun k => byteN bs (136 * c + k)) 136) := rfl
theorem absC_len (bs : List UInt8) : ∀ c, (absC bs c).length = 25
  | 0 => by simp [absC, zeros]
  | c + 1 => permF_len _
/-- byte i of a state -/
def outB (s : List (BitVec 64)) (i : Nat) : UInt8 := UInt8.ofNat ((lane s (i / 8) >>> (8 * (i % 8))).toNat % 256)
def outTo (s : List (BitVec 64)) (k : Nat) : List UInt8 := (List.range k).map (outB s)
theorem outTo_zero (s : List (BitVec 64)) : outTo s 0 = [] := rfl
theorem outTo_succ (s : List (BitVec 64)) (k : Nat) : outTo s (k + 1) = outTo s k ++ [outB s k] := by simp [outTo, List.range_succ]
theorem outTo_len (s : List (BitVec 64)) (k : Nat) : (outTo s k).length = k := by simp [outTo]
def digF (bs : List UInt8) : List UInt8 := outTo (absC bs (bs.length / 136 + 1)) 32
theorem digF_len (bs : List UInt8) : (digF bs).length = 32 := outTo_len _ _
theorem digF_eq (bs : List UInt8) : digF bs = outTo (absC bs (bs.length / 136 + 1)) 32 := rfl

theorem up8_bit (b m i : Nat) (hb : b < 256) (h : i < 8 * m ∨ 8 * m + 8 ≤ i) : (up8 b m).getLsbD i = false := by
  unfold up8
  rw [BitVec.getLsbD_shiftLeft]
  rcases h with h | h
  · simp [h]
  · by_cases hi : i < 64
    · have : (BitVec.ofNat 64 b).getLsbD (i - 8 * m) = false := by
        rw [BitVec.getLsbD_ofNat]
        have h2 : b < 2 ^ (i - 8 * m) := Nat.lt_of_lt_of_le hb (by
          have := Nat.pow_le_pow_right (n := 2) (by omega) (show 8 ≤ i - 8 * m by omega)
          simpa using this)
        rw [Nat.testBit_lt_two_pow h2]; simp
      rw [this]; simp
    · simp [hi]
/-- words whose bits from m bytes on are none -/
def Low (x : BitVec 64) (m : Nat) : Prop := ∀ i, 8 * m ≤ i → x.getLsbD i = false
theorem Low.zero (m : Nat) : Low 0 m := fun i _ => by simp
theorem Low.mono {x : BitVec 64} {m n : Nat} (h : Low x m) (hm : m ≤ n) : Low x n := fun i hi => h i (by omega)
theorem Low.up8 {x : BitVec 64} {m b : Nat} (h : Low x m) (hb : b < 256) : Low (x ^^^ up8 b m) (m + 1) := fun i hi => by
  rw [BitVec.getLsbD_xor, h i (by omega), up8_bit b m i hb (.inr (by omega))]; rfl
theorem or_up8 {x : BitVec 64} {m b : Nat} (h : Low x m) (hb : b < 256) : x ||| up8 b m = x ^^^ up8 b m := by
  apply BitVec.eq_of_getLsbD_eq
  intro i hi
  rw [BitVec.getLsbD_or, BitVec.getLsbD_xor]
  rcases Nat.lt_or_ge i (8 * m) with h1 | h1
  · rw [up8_bit b m i hb (.inl h1)]; simp
  · rw [h i h1]; simp
theorem add_up8 {x : BitVec 64} {m b : Nat} (h : Low x m) (hb : b < 256) : x + up8 b m = x ^^^ up8 b m := by
  rw [← or_up8 h hb]
  apply BitVec.add_eq_or_of_and_eq_zero
  apply BitVec.eq_of_getLsbD_eq
  intro i hi
  rw [BitVec.getLsbD_and]
  rcases Nat.lt_or_ge i (8 * m) with h1 | h1
  · rw [up8_bit b m i hb (.inl h1)]; simp
  · rw [h i h1]; simp
/-- the number of some bytes, the lowest one first -/
def numTo (f : Nat → Nat) : Nat → BitVec 64
  | 0 => 0
  | k + 1 => numTo f k ||| up8 (f k) k
theorem numTo_zero (f : Nat → Nat) : numTo f 0 = 0 := rfl
theorem numTo_succ (f : Nat → Nat) (k : Nat) : numTo f (k + 1) = numTo f k ||| up8 (f k) k := rfl
theorem numTo_low (f : Nat → Nat) (hf : ∀ i, f i < 256) : ∀ k, Low (numTo f k) k
  | 0 => Low.zero 0
  | k + 1 => by
    rw [numTo_succ, or_up8 (numTo_low f hf k) (hf k)]
    exact (numTo_low f hf k).up8 (hf k)
theorem lane_setSame (l : List (BitVec 64)) (i : Nat) (v : BitVec 64) (h : i < l.length) : lane (l.set i v) i = v := by
  simp [lane, List.getD_eq_getElem?_getD, h]
theorem lane_setOther (l : List (BitVec 64)) (i j : Nat) (v : BitVec 64) (h : i ≠ j) : lane (l.set i v) j = lane l j := by
  simp [lane, List.getD_eq_getElem?_getD, List.getElem?_set_ne h]
theorem set_lane (l : List (BitVec 64)) (i : Nat) : l.set i (lane l i) = l := by
  apply List.ext_getElem?
  intro j
  rcases Nat.lt_or_ge i l.length with hi | hi
  · by_cases hij : i = j
    · subst hij; rw [List.getElem?_set_self hi]; simp [lane, List.getD_eq_getElem?_getD, hi]
    · rw [List.getElem?_set_ne hij]
  · rw [List.set_eq_of_length_le hi]
/-- eight bytes at once -/
theorem blk_lane (s : List (BitVec 64)) (f : Nat → Nat) (hf : ∀ i, f i < 256) (j : Nat) (hj : j < s.length) : ∀ m, m ≤ 8 →
    blkF s f (8 * j + m) = (blkF s f (8 * j)).set j (lane (blkF s f (8 * j)) j ^^^ numTo (fun i => f (8 * j + i)) m)
  | 0, _ => by
    have e : lane (blkF s f (8 * j)) j ^^^ (0 : BitVec 64) = lane (blkF s f (8 * j)) j := BitVec.xor_zero
    rw [numTo_zero, e, set_lane]; rfl
  | m + 1, h => by
    have ih := blk_lane s f hf j hj m (by omega)
    show blkF s f (8 * j + m + 1) = _
    rw [blkF_succ, ih, xorB, show (8 * j + m) / 8 = j from by omega, show (8 * j + m) % 8 = m from by omega, lane_setSame _ _ _ (by rw [blkF_len]; exact hj), List.set_set, numTo_succ,
      or_up8 (numTo_low _ (fun i => hf _) m) (hf _), BitVec.xor_assoc]
theorem blk_word (s : List (BitVec 64)) (f : Nat → Nat) (hf : ∀ i, f i < 256) (j : Nat) (hj : j < s.length) :
    blkF s f (8 * (j + 1)) = (blkF s f (8 * j)).set j (lane (blkF s f (8 * j)) j ^^^ numTo (fun i => f (8 * j + i)) 8) := blk_lane s f hf j hj 8 (by omega)

/-- the padded bytes -/
def padL (bs : List UInt8) : List UInt8 := (List.range (allOf bs.length)).map fun n => UInt8.ofNat (byteN bs n)
theorem padL_len (bs : List UInt8) : (padL bs).length = allOf bs.length := by simp [padL]
theorem padL_get (bs : List UInt8) (n : Nat) (h : n < allOf bs.length) : ((padL bs).getD n 0).toNat = byteN bs n := by
  have hb := byteN_lt bs n
  simp [padL, List.getD_eq_getElem?_getD, h, UInt8.toNat_ofNat', Nat.mod_eq_of_lt hb]
/-- as it is made: the bytes, 6, zeros, and 128 on the last one -/
theorem padL_made (bs : List UInt8) : padL bs = (bs ++ [6] ++ List.replicate (allOf bs.length - (bs.length + 1)) 0).set (allOf bs.length - 1) (UInt8.ofNat (((bs ++ [6] ++ List.replicate (allOf bs.length - (bs.length + 1)) 0).getD (allOf bs.length - 1) 0).toNat + 128)) := by
  have hlt := allOf_lt bs.length
  apply List.ext_getElem
  · simp [padL]; omega
  · intro n h1 h2
    have hn : n < allOf bs.length := by rw [padL_len] at h1; exact h1
    have key : ∀ n, n < allOf bs.length → ((bs ++ [6] ++ List.replicate (allOf bs.length - (bs.length + 1)) 0).getD n 0).toNat = (if n < bs.length then (bs.getD n 0).toNat else if n = bs.length then 6 else 0) := by
      intro n hn
      rw [List.getD_eq_getElem?_getD, List.getD_eq_getElem?_getD]
      by_cases hb : n < bs.length
      · rw [if_pos hb, List.getElem?_append_left (by simp; omega), List.getElem?_append_left hb]
      · rw [if_neg hb]
        by_cases he : n = bs.length
        · subst he
          rw [if_pos rfl, List.getElem?_append_left (by simp), List.getElem?_append_right (by omega)]; simp
        · rw [if_neg he, List.getElem?_append_right (by simp; omega), List.getElem?_replicate]
          simp only [List.length_append, List.length_cons, List.length_nil]
          rw [if_pos (by omega)]; rfl
    have hl : (padL bs)[n] = UInt8.ofNat (byteN bs n) := by simp [padL]
    rw [hl]
    by_cases he : n = allOf bs.length - 1
    · subst he
      rw [List.getElem_set_self, key _ (by omega)]
      unfold byteN
      rw [if_pos (show allOf bs.length - 1 + 1 = allOf bs.length by omega)]
    · rw [List.getElem_set_ne (by omega)]
      have hk := key n hn
      rw [List.getD_eq_getElem?_getD, List.getElem?_eq_getElem (by simpa using h2), Option.getD_some] at hk
      unfold byteN
      rw [if_neg (show ¬ n + 1 = allOf bs.length by omega), Nat.add_zero, ← hk]
      simp

end Go.Proofs.Ytfohblhaiflaeaa
