/- keccak.theta: what it comes to. -/
import Derived.Test.YtfohblhaiflaeaaKa
import Derived.LoopTactic
import Derived.IntWalk
import Derived.StillTailTactics
namespace Go.Proofs.Ytfohblhaiflaeaa
open Go.RowKit

/-- rounds 0 to k - 1 of f, from a on -/
def loopN {α : Type} (f : Nat → α → α) : Nat → α → α
  | 0, a => a
  | k + 1, a => f k (loopN f k a)

def thetaC (s : List (BitVec 64)) (i : Nat) (c : List (BitVec 64)) : List (BitVec 64) := c.set (i % 5) (lane c (i % 5) ^^^ lane s i)
def thetaS (c : List (BitVec 64)) (i : Nat) (s : List (BitVec 64)) : List (BitVec 64) :=
  s.set i (lane s i ^^^ (lane c ((i % 5 + 5 - 1) % 5) ^^^ rotl (lane c ((i % 5 + 1) % 5)) 1))

theorem info22 : (Try.prog.info? 22).map (fun i => (i.zero, i.size, i.bytes)) = some (some (.int .u64 0), 1, 8) := by kernel_rfl
theorem idx25 (s : List (BitVec 64)) (hs : s.length = 25) (k : Nat) (hk : k < 25) (w : World) :
    (Instr.index 23 (.agg (vals s)) (.int .i64 (k : Int))).run Try.prog w = .ok (U (lane s k)) w := by
  obtain ⟨i0, hi, _, h1, _⟩ := info_parts info22
  exact run_index_vals (n := 25) (elem := 22) (by kernel_rfl) hi h1 (fun w => by kernel_rfl) s k hs hk w
def cOf (s : List (BitVec 64)) (k : Nat) : List (BitVec 64) := loopN (thetaC s) k (List.replicate 5 0)
def sOf (c s : List (BitVec 64)) (k : Nat) : List (BitVec 64) := loopN (thetaS c) k s
def thetaF (s : List (BitVec 64)) : List (BitVec 64) := sOf (cOf s 25) s 25
def zeros (n : Nat) : List (BitVec 64) := List.replicate n 0
theorem cOf_len (s : List (BitVec 64)) : ∀ k, (cOf s k).length = 5
  | 0 => by simp [cOf, loopN]
  | k + 1 => by simp only [cOf, loopN, thetaC, List.length_set]; exact cOf_len s k
theorem sOf_len (c s : List (BitVec 64)) : ∀ k, (sOf c s k).length = s.length
  | 0 => rfl
  | k + 1 => by simp only [sOf, loopN, thetaS, List.length_set]; exact sOf_len c s k
theorem cOf_succ (s : List (BitVec 64)) (k : Nat) : cOf s (k + 1) = (cOf s k).set (k % 5) (lane (cOf s k) (k % 5) ^^^ lane s k) := rfl
theorem sOf_succ (c s : List (BitVec 64)) (k : Nat) : sOf c s (k + 1) = (sOf c s k).set k (lane (sOf c s k) k ^^^ (lane c ((k % 5 + 5 - 1) % 5) ^^^ rotl (lane c ((k % 5 + 1) % 5)) 1)) := rfl

theorem thetaF_eq (s : List (BitVec 64)) : thetaF s = sOf (cOf s 25) s 25 := rfl
theorem cOf_zero (s : List (BitVec 64)) : cOf s 0 = zeros 5 := rfl
theorem sOf_zero (c s : List (BitVec 64)) : sOf c s 0 = s := rfl
attribute [irreducible] cOf sOf thetaF

set_option maxHeartbeats 1000000 in
set_option maxRecDepth 100000 in
theorem theta_any (s : List (BitVec 64)) (hs : s.length = 25) (w : World) :
    Calls Try.prog 39 #[.agg (vals s)] w fun e w' => e = .returned (.agg (vals (thetaF s))) ∧ Below w.heap.size w w' := by
  have hvs : (Try.prog.info? 23).map (·.size) = some (vals s).size := by rw [vals_size, hs]; kernel_rfl
  go_enter Try.func39, Try.ntmps39
  go_wp2_with ((with_reducible refine wpList_load_row (o := ⟨some 8, _, _, _, _, _⟩) ?_ 23 (.tmp 1) ?_ w.heap.size ?_ 23 (vals s) (0, 0) (.array 25 22) ?_ ?_ ?_ ?_ ?_); rfl; rfl; rfl; exact heap_a3_0 _ _ _ _; kernel_rfl; rfl; exact hvs; simp only [Act.put, List.setIfInBounds_toArray, List.set_cons_zero, List.set_cons_succ])
  go_loopw [9] (fun i wr => ∃ k : Nat, k ≤ 25 ∧ i = .int .i64 k ∧ Blk wr w.heap.size 23 (vals s) ∧ Blk wr (w.heap.size + 1) 23 (vals (zeros 25)) ∧ Blk wr (w.heap.size + 1 + 1) 82 (vals (cOf s k)) ∧ Below w.heap.size w wr) (fun i _ => 25 - (intOf i).toNat)
  case atStart =>
    exact ⟨0, by omega, rfl, heap_a3_0 _ _ _ _, heap_a3_1 _ _ _ _, by rw [cOf_zero]; exact heap_a3_2 _ _ _ _, (((Below.refl _ _).alloc (Nat.le_refl _) _).alloc (by simp) _).alloc (by simp; omega) _⟩
  case round =>
    obtain ⟨k, hk, rfl, h0, h1, h2, hb⟩ := hrel
    by_cases hlt : k < 25
    · have hidx := fun W => idx25 s hs k hlt W
      have hlen := cOf_len s k
      have hcell := h2.cell (k % 5)
      have hfz := h2.frozen (k % 5)
      rw [vals_get _ _ (by omega)] at hcell
      have hsucc := cOf_succ s k
      have H := veil hsucc; clear hsucc hlen
      go_wp2_with fail
      go_roundw
      case rel =>
        refine ⟨k + 1, by omega, by go_num, h0.far (by simp; omega) _, h1.far (by simp) _, ?_, hb.setCell (by simp; omega) _⟩
        rw [H.out, xor_bv, ← vals_set]
        exact h2.set_ _ _
      case measure => simp [intOf]; omega
    · have hk' : k = 25 := by omega
      have hclen := cOf_len s k
      have hthe : thetaF s = sOf (cOf s k) s 25 := by rw [hk']; exact thetaF_eq s
      obtain ⟨c, hc⟩ : ∃ c, c = cOf s k := ⟨_, rfl⟩
      rw [← hc] at h2 hclen hthe
      have hd : decide ((k : Int) < 25) = false := by simp; omega
      have HT := veil hthe; have HC := veil hclen; clear hthe hclen hk' hk hc hlt
      go_wp2_with fail
      have hclen := HC.out
      go_loopw [21] (fun i wr => ∃ k : Nat, k ≤ 25 ∧ i = .int .i64 k ∧ Blk wr w.heap.size 23 (vals (sOf c s k)) ∧ Blk wr (w.heap.size + 1) 23 (vals (zeros 25)) ∧ Blk wr (w.heap.size + 1 + 1) 82 (vals c) ∧ Below w.heap.size w wr) (fun i _ => 25 - (intOf i).toNat)
      case atStart => exact ⟨0, by omega, rfl, by rw [sOf_zero]; exact h0, h1, h2, hb⟩
      case round =>
        clear h0 h1 h2 hb hd
        obtain ⟨k, hk, rfl, h0, h1, h2, hb⟩ := hrel
        by_cases hlt : k < 25
        · have hslen : (sOf c s k).length = 25 := by rw [sOf_len, hs]
          have hc0 := h0.cell k
          have hf0 := h0.frozen k
          obtain ⟨x1, hx1⟩ : ∃ x, x = k % 5 + 5 := ⟨_, rfl⟩
          obtain ⟨x2, hx2⟩ : ∃ x, x = k % 5 + 5 - 1 := ⟨_, rfl⟩
          obtain ⟨x3, hx3⟩ : ∃ x, x = (k % 5 + 5 - 1) % 5 := ⟨_, rfl⟩
          obtain ⟨x4, hx4⟩ : ∃ x, x = k % 5 + 1 := ⟨_, rfl⟩
          obtain ⟨x5, hx5⟩ : ∃ x, x = (k % 5 + 1) % 5 := ⟨_, rfl⟩
          have hc1 := h2.cell x3
          have hc2 := h2.cell x5
          rw [vals_get _ _ (by omega)] at hc0 hc1 hc2
          have hsucc := sOf_succ c s k
          rw [← hx3, ← hx5] at hsucc
          have b3 : (x3 : Int) < 5 := by omega
          have b5 : (x5 : Int) < 5 := by omega
          have e1 : IntKind.i64.wrap ((k : Int) % 5 + 5) = x1 := by rw [IntWalk.i64_in _ (by omega)]; omega
          have e2 : IntKind.i64.wrap ((x1 : Int) - 1) = x2 := by rw [IntWalk.i64_in _ (by omega)]; omega
          have e3 : (x2 : Int).tmod 5 = x3 := by rw [Int.tmod_eq_emod_of_nonneg (by omega)]; omega
          have e4 : IntKind.i64.wrap ((k : Int) % 5 + 1) = x4 := by rw [IntWalk.i64_in _ (by omega)]; omega
          have e5 : (x4 : Int).tmod 5 = x5 := by rw [Int.tmod_eq_emod_of_nonneg (by omega)]; omega
          have H := veil hsucc; clear hsucc hclen hslen hx1 hx2 hx3 hx4 hx5
          go_wp2_with fail
          go_still_tail 18, (by kernel_rfl)
          still_call (still_of (rot_any _ 1 _ (by omega) (by omega)))
          repeat still_step
          refine wpStill_nil ?_
          change wpList _ _ _ _ _ wr.drew
          go_wp2_with fail
          go_roundw
          case rel =>
            refine ⟨k + 1, by omega, by go_num, ?_, h1.far (by simp) _, h2.far (by simp; omega) _, hb.drew.setCell (by simp) _⟩
            rw [H.out, xor_bv, xor_bv, ← vals_set]
            exact h0.set_ _ _
          case measure => simp [intOf]; omega
        · have hk' : k = 25 := by omega
          subst hk'
          have hsl : (sOf c s 25).length = 25 := by rw [sOf_len, hs]
          have HL := veil hsl; clear hsl hclen
          go_wp2_with (first
            | ((with_reducible refine ld25 (o := ⟨some 45, _, _, _, _, _⟩) ?_ (.tmp 1) ?_ w.heap.size ?_ (sOf c s 25) HL.out h0 ?_); rfl; rfl; rfl; simp only [Act.put, List.setIfInBounds_toArray, List.set_cons_zero, List.set_cons_succ])
            | ((with_reducible refine st25 (o := ⟨none, _, _, _, _, _⟩) ?_ (.tmp 2) (.tmp 45) ?_ (w.heap.size + 1) ?_ (sOf c s 25) (zeros 25) HL.out (by simp [zeros]) ?_ h1 ?_); rfl; rfl; rfl; rfl; simp only [Act.put]))
          refine bodyPost_ret (res25 rfl _ _ (w.heap.size + 1) (sOf c s 25) HL.out rfl (h1.setRow_same _)) rfl ⟨by rw [HT.out], Below.setRow_ hb (by omega) _⟩

end Go.Proofs.Ytfohblhaiflaeaa
