/- parcloseref19.Permute: what it comes to. -/
import Derived.Test.YtfohblhaiflaeaaRb
namespace Go.Proofs.Ytfohblhaiflaeaa
open Go.RowKit

/-- rounds 0 to k - 1, by the reference -/
def refRoundsF : Nat → List (BitVec 64) → List (BitVec 64)
  | 0, s => s
  | k + 1, s => refRoundF k (refRoundsF k s)
theorem refRoundsF_zero (s : List (BitVec 64)) : refRoundsF 0 s = s := rfl
theorem refRoundsF_succ (k : Nat) (s : List (BitVec 64)) : refRoundsF (k + 1) s = refRoundF k (refRoundsF k s) := rfl
theorem refRoundsF_len (s : List (BitVec 64)) (hs : s.length = 25) : ∀ k, (refRoundsF k s).length = 25
  | 0 => hs
  | _ + 1 => refRoundF_len _ _
def refPermF (s : List (BitVec 64)) : List (BitVec 64) := refRoundsF 24 s
theorem refPermF_eq (s : List (BitVec 64)) : refPermF s = refRoundsF 24 s := rfl
attribute [irreducible] refRoundsF refPermF

set_option maxHeartbeats 1000000 in
set_option maxRecDepth 100000 in
theorem refPermute_any (s : List (BitVec 64)) (hs : s.length = 25) (w : World) :
    Calls Try.prog 36 #[.agg (vals s)] w fun e w' => e = .returned (.agg (vals (refPermF s))) ∧ Below w.heap.size w w' := by
  have HS := veil hs
  clear hs
  go_enter Try.func36, Try.ntmps36
  go_wp2_with fail
  go_loopw [3] (fun i wr => ∃ k : Nat, k ≤ 24 ∧ i = .int .i64 k ∧ Blk wr w.heap.size 23 (vals (refRoundsF k s)) ∧ Blk wr (w.heap.size + 1) 23 (vals (zeros 25)) ∧ Below w.heap.size w wr) (fun i _ => 24 - (intOf i).toNat)
  case atStart =>
    exact ⟨0, by omega, rfl, by rw [refRoundsF_zero]; exact heap_a2_0 _ _ _, heap_a2_1 _ _ _, ((Below.refl _ _).alloc (Nat.le_refl _) _).alloc (by simp) _⟩
  case round =>
    obtain ⟨k, hk, rfl, h0, h1, hb⟩ := hrel
    have HL := veil (refRoundsF_len s HS.out k)
    by_cases hlt : k < 24
    · have HK := veil (refRoundsF_succ k s)
      go_wp2_with (
        ((with_reducible refine ld25 (o := ⟨some 8, _, _, _, _, _⟩) ?_ (.tmp 1) ?_ w.heap.size ?_ (refRoundsF k s) HL.out h0 ?_); rfl; rfl; rfl; simp only [Act.put, List.setIfInBounds_toArray, List.set_cons_zero, List.set_cons_succ]))
      with_reducible refine (refRound_any k hlt _ HL.out _).mono ?_
      rintro e w1 ⟨rfl, hb1⟩
      have hsz := h1.lt
      have h0' := h0.below hb1 (by omega)
      have h1' := h1.below hb1 (by omega)
      have hb' := hb.trans (hb1.mono (by omega))
      clear h0 h1 hb hb1 hsz
      go_wp2_with (
        ((with_reducible refine st25 (o := ⟨none, _, _, _, _, _⟩) ?_ (.tmp 1) (.tmp 10) ?_ w.heap.size ?_ (refRoundF k (refRoundsF k s)) (refRoundsF k s) (refRoundF_len _ _) HL.out ?_ h0' ?_); rfl; rfl; rfl; rfl; simp only [Act.put]))
      go_roundw
      case rel =>
        exact ⟨k + 1, by omega, by go_num, by rw [HK.out]; exact h0'.setRow_same _, h1'.setRow_far _ (by omega), Below.setRow_ hb' (by omega) _⟩
      case measure => simp [intOf]; omega
    · have hk' : k = 24 := by omega
      subst hk'
      go_wp2_with (first
        | ((with_reducible refine ld25 (o := ⟨some 11, _, _, _, _, _⟩) ?_ (.tmp 1) ?_ w.heap.size ?_ (refRoundsF 24 s) HL.out h0 ?_); rfl; rfl; rfl; simp only [Act.put, List.setIfInBounds_toArray, List.set_cons_zero, List.set_cons_succ])
        | ((with_reducible refine st25 (o := ⟨none, _, _, _, _, _⟩) ?_ (.tmp 2) (.tmp 11) ?_ (w.heap.size + 1) ?_ (refRoundsF 24 s) (zeros 25) HL.out (by simp [zeros]) ?_ h1 ?_); rfl; rfl; rfl; rfl; simp only [Act.put]))
      refine bodyPost_ret (res25 rfl _ _ (w.heap.size + 1) (refRoundsF 24 s) HL.out rfl (h1.setRow_same _)) rfl ⟨by rw [refPermF_eq], Below.setRow_ hb (by omega) _⟩

end Go.Proofs.Ytfohblhaiflaeaa
