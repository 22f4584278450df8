/- keccak.move, keccak.chi: what they come to. -/
import Derived.Test.YtfohblhaiflaeaaKb
namespace Go.Proofs.Ytfohblhaiflaeaa
open Go.RowKit

/-- where the round stands: x and y, and the lanes so far -/
structure Mv where
  x : Nat
  y : Nat
  out : List (BitVec 64)

def moveS (s : List (BitVec 64)) (t : Nat) (m : Mv) : Mv :=
  { x := m.y, y := (2 * m.x + 3 * m.y) % 5,
    out := m.out.set (m.y % 5 + 5 * ((2 * m.x + 3 * m.y) % 5 % 5)) (rotl (lane s (m.x % 5 + 5 * (m.y % 5))) ((t + 1) * (t + 2) / 2 % 64)) }
def mv0 (s : List (BitVec 64)) : Mv := { x := 1, y := 0, out := (List.replicate 25 0).set 0 (lane s 0) }
def mvOf (s : List (BitVec 64)) (k : Nat) : Mv := loopN (moveS s) k (mv0 s)
def moveF (s : List (BitVec 64)) : List (BitVec 64) := (mvOf s 24).out

theorem mvOf_succ (s : List (BitVec 64)) (k : Nat) : mvOf s (k + 1) = moveS s k (mvOf s k) := rfl
theorem mvOf_ok (s : List (BitVec 64)) : ∀ k, (mvOf s k).x < 5 ∧ (mvOf s k).y < 5 ∧ (mvOf s k).out.length = 25
  | 0 => by simp [mvOf, loopN, mv0]
  | k + 1 => by
    have h := mvOf_ok s k
    rw [mvOf_succ]
    refine ⟨h.2.1, Nat.mod_lt _ (by omega), ?_⟩
    simp only [moveS, List.length_set]; exact h.2.2
theorem moveF_eq (s : List (BitVec 64)) : moveF s = (mvOf s 24).out := rfl
theorem mvOf_zero (s : List (BitVec 64)) : mvOf s 0 = mv0 s := rfl
attribute [irreducible] mvOf moveF

def chiS (s : List (BitVec 64)) (i : Nat) (o : List (BitVec 64)) : List (BitVec 64) :=
  o.set i (lane o i ^^^ (lane s ((i % 5 + 2) % 5 + 5 * (i / 5 % 5)) &&& ~~~ lane s ((i % 5 + 1) % 5 + 5 * (i / 5 % 5))))
def chOf (s : List (BitVec 64)) (k : Nat) : List (BitVec 64) := loopN (chiS s) k s
def chiF (s : List (BitVec 64)) : List (BitVec 64) := chOf s 25
theorem chOf_succ (s : List (BitVec 64)) (k : Nat) : chOf s (k + 1) = chiS s k (chOf s k) := rfl
theorem chOf_len (s : List (BitVec 64)) : ∀ k, (chOf s k).length = s.length
  | 0 => rfl
  | k + 1 => by rw [chOf_succ, chiS, List.length_set]; exact chOf_len s k
theorem chOf_zero (s : List (BitVec 64)) : chOf s 0 = s := rfl
theorem chiF_eq (s : List (BitVec 64)) : chiF s = chOf s 25 := rfl
attribute [irreducible] chOf chiF

set_option maxHeartbeats 1000000 in
set_option maxRecDepth 100000 in
theorem chi_any (s : List (BitVec 64)) (hs : s.length = 25) (w : World) :
    Calls Try.prog 37 #[.agg (vals s)] w fun e w' => e = .returned (.agg (vals (chiF s))) ∧ Below w.heap.size w w' := by
  have HS := veil hs; clear hs
  go_enter Try.func37, Try.ntmps37
  go_wp2_with (first
    | ((with_reducible refine ld25 (o := ⟨some 7, _, _, _, _, _⟩) ?_ (.tmp 1) ?_ w.heap.size ?_ s HS.out ?_ ?_); rfl; rfl; rfl; exact heap_a2_0 _ _ _; simp only [Act.put, List.setIfInBounds_toArray, List.set_cons_zero, List.set_cons_succ])
    | ((with_reducible refine st25 (o := ⟨none, _, _, _, _, _⟩) ?_ (.tmp 3) (.tmp 7) ?_ (w.heap.size + 1 + 1) ?_ s (zeros 25) HS.out (by simp [zeros]) ?_ ?_ ?_); rfl; rfl; rfl; rfl; exact heap_a3_2 _ _ _ _; simp only [Act.put]))
  go_loopw [8] (fun i wr => ∃ k : Nat, k ≤ 25 ∧ i = .int .i64 k ∧ Blk wr w.heap.size 23 (vals s) ∧ Blk wr (w.heap.size + 1) 23 (vals (zeros 25)) ∧ Blk wr (w.heap.size + 1 + 1) 23 (vals (chOf s k)) ∧ Below w.heap.size w wr) (fun i _ => 25 - (intOf i).toNat)
  case atStart =>
    refine ⟨0, by omega, rfl, Blk.setRow_far (heap_a3_0 _ _ _ _) _ (by omega), Blk.setRow_far (heap_a3_1 _ _ _ _) _ (by omega), ?_, ?_⟩
    · rw [chOf_zero]; exact Blk.setRow_same (heap_a3_2 _ _ _ _) _
    · exact Below.setRow_ ((((Below.refl _ _).alloc (Nat.le_refl _) _).alloc (by simp) _).alloc (by simp; omega) _) (by omega) _
  case round =>
    obtain ⟨k, hk, rfl, h0, h1, h2, hb⟩ := hrel
    by_cases hlt : k < 25
    · have hs := HS.out
      have hlen : (chOf s k).length = 25 := by rw [chOf_len, hs]
      obtain ⟨x2, hx2⟩ : ∃ x, x = k % 5 + 2 := ⟨_, rfl⟩
      obtain ⟨x1, hx1⟩ : ∃ x, x = k % 5 + 1 := ⟨_, rfl⟩
      obtain ⟨n2, hn2⟩ : ∃ n, n = (k % 5 + 2) % 5 + 5 * (k / 5 % 5) := ⟨_, rfl⟩
      obtain ⟨n1, hn1⟩ : ∃ n, n = (k % 5 + 1) % 5 + 5 * (k / 5 % 5) := ⟨_, rfl⟩
      have hc := h2.cell k
      have hf := h2.frozen k
      have hc1 := h0.cell n1
      have hc2 := h0.cell n2
      rw [vals_get _ _ (by omega)] at hc hc1 hc2
      have hsucc := chOf_succ s k
      rw [chiS, ← hn1, ← hn2] at hsucc
      have e2 : IntKind.i64.wrap ((k : Int) % 5 + 2) = x2 := by rw [IntWalk.i64_in _ (by omega)]; omega
      have e1 : IntKind.i64.wrap ((k : Int) % 5 + 1) = x1 := by rw [IntWalk.i64_in _ (by omega)]; omega
      have m1 : (n1 : Int) = (x1 : Int) % 5 + 5 * ((k : Int) / 5 % 5) := by omega
      have m2 : (n2 : Int) = (x2 : Int) % 5 + 5 * ((k : Int) / 5 % 5) := by omega
      have b1 : (n1 : Int) < 25 := by omega
      have b2 : (n2 : Int) < 25 := by omega
      have c1 : (x1 : Int) ≤ 100 := by omega
      have c2 : (x2 : Int) ≤ 100 := by omega
      have H := veil hsucc
      have M1 := veil m1
      have M2 := veil m2
      clear hsucc hlen hs hx1 hx2 hn1 hn2 m1 m2
      go_wp2_with fail
      go_still_tail 18, (by kernel_rfl)
      still_call (still_of (at_nat n2 _ _ _ (by omega) (by omega) (by omega) (by omega) M2.out))
      repeat still_step
      still_call (still_of (at_nat n1 _ _ _ (by omega) (by omega) (by omega) (by omega) M1.out))
      repeat still_step
      refine wpStill_nil ?_
      change wpList _ _ _ _ _ wr.drew
      go_wp2_with fail
      go_roundw
      case rel =>
        refine ⟨k + 1, by omega, by go_num, h0.far (by simp; omega) _, h1.far (by simp) _, ?_, hb.drew.setCell (by simp; omega) _⟩
        rw [H.out, andNot_bv, xor_bv, ← vals_set]
        exact h2.set_ _ _
      case measure => simp [intOf]; omega
    · have hk' : k = 25 := by omega
      subst hk'
      have hs := HS.out
      have hsl : (chOf s 25).length = 25 := by rw [chOf_len, hs]
      have HL := veil hsl; clear hsl hs
      go_wp2_with (first
        | ((with_reducible refine ld25 (o := ⟨some 34, _, _, _, _, _⟩) ?_ (.tmp 3) ?_ (w.heap.size + 1 + 1) ?_ (chOf s 25) HL.out h2 ?_); rfl; rfl; rfl; simp only [Act.put, List.setIfInBounds_toArray, List.set_cons_zero, List.set_cons_succ])
        | ((with_reducible refine st25 (o := ⟨none, _, _, _, _, _⟩) ?_ (.tmp 2) (.tmp 34) ?_ (w.heap.size + 1) ?_ (chOf s 25) (zeros 25) HL.out (by simp [zeros]) ?_ h1 ?_); rfl; rfl; rfl; rfl; simp only [Act.put]))
      refine bodyPost_ret (res25 rfl _ _ (w.heap.size + 1) (chOf s 25) HL.out rfl (h1.setRow_same _)) rfl ⟨by rw [chiF_eq], Below.setRow_ hb (by omega) _⟩

end Go.Proofs.Ytfohblhaiflaeaa
