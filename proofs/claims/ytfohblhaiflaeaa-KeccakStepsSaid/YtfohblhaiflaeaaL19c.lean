/- parcloselaw19.KeccakSteps: it answers true. Printed by gen_l19c.py. -/
import Derived.Test.YtfohblhaiflaeaaL19
namespace Go.Proofs.Ytfohblhaiflaeaa
open Go.RowKit

set_option maxHeartbeats 2000000 in
set_option maxRecDepth 100000 in
theorem steps_any (s : List (BitVec 64)) (hs : s.length = 25) (w : World) :
    Calls Try.prog 4 #[.agg (vals s)] w fun e w' => e = .returned (.bool true) ∧ Below w.heap.size w w' := by
  have HS := veil hs
  clear hs
  go_enter Try.func4, Try.ntmps4
  go_wp2_with (first
    | ((with_reducible refine ld25 (o := ⟨some 5, _, _, _, _, _⟩) ?_ (.tmp 1) ?_ w.heap.size ?_ s HS.out ?_ ?_); rfl; rfl; rfl; exact heap_a1_0 _ _; simp only [Act.put, List.setIfInBounds_toArray, List.set_cons_zero, List.set_cons_succ])
    | ((with_reducible refine st25 (o := ⟨none, _, _, _, _, _⟩) ?_ (.tmp 3) (.tmp 5) ?_ (w.heap.size + 1) ?_ s (zeros 25) HS.out (zeros_len 25) ?_ ?_ ?_); rfl; rfl; rfl; rfl; exact heap_a2_1 _ _ _; simp only [Act.put]))
  go_loopw [4] (fun i wr => ∃ k : Nat, k ≤ 24 ∧ i = .int .i64 k ∧ Blk wr w.heap.size 23 (vals s) ∧ Blk wr (w.heap.size + 1) 23 (vals (roundsF k s)) ∧ Below w.heap.size w wr) (fun i _ => 24 - (intOf i).toNat)
  case atStart =>
    exact ⟨0, by omega, rfl, Blk.setRow_far (heap_a2_0 _ _ _) _ (by omega), by rw [roundsF_zero]; exact Blk.setRow_same (old := vals (zeros 25)) (heap_a2_1 _ _ _) _, Below.setRow_ (((Below.refl _ _).alloc (Nat.le_refl _) _).alloc (by simp) _) (by omega) _⟩
  case round =>
    obtain ⟨k, hk, rfl, h0, h1, hb⟩ := hrel
    have HL := veil (roundsF_len s HS.out k)
    by_cases hlt : k < 24
    · have HK := veil (roundsF_succ k s)
      have HI := veil (roundI_in k hlt (roundsF k s))
      go_wp2_with (
        ((with_reducible refine ld25 (o := ⟨some 10, _, _, _, _, _⟩) ?_ (.tmp 3) ?_ (w.heap.size + 1) ?_ (roundsF k s) HL.out h1 ?_); rfl; rfl; rfl; simp only [Act.put, List.setIfInBounds_toArray, List.set_cons_zero, List.set_cons_succ]))
      with_reducible refine (roundI_any (k : Int) _ HL.out _).mono ?_
      rintro e w1 ⟨rfl, hb1⟩
      have hsz := h1.lt
      have h0' := h0.below hb1 (by omega)
      have h1' := h1.below hb1 (by omega)
      have hb' := hb.trans (hb1.mono (by omega))
      clear h0 h1 hb hb1 hsz
      go_wp2_with (
        ((with_reducible refine st25 (o := ⟨none, _, _, _, _, _⟩) ?_ (.tmp 3) (.tmp 12) ?_ (w.heap.size + 1) ?_ (roundI k (roundsF k s)) (roundsF k s) (roundI_len _ _ HL.out) HL.out ?_ h1' ?_); rfl; rfl; rfl; rfl; simp only [Act.put]))
      go_roundw
      case rel =>
        exact ⟨k + 1, by omega, by go_num, h0'.setRow_far _ (by omega), by rw [HK.out, ← HI.out]; exact h1'.setRow_same _, Below.setRow_ hb' (by omega) _⟩
      case measure => simp [intOf]; omega
    · have hk' : k = 24 := by omega
      have hp : permF s = roundsF k s := by rw [permF_eq, hk']
      have E1 := eqIn25 (permF s) (roundsF k s) (permF_len s) HL.out true (by rw [hp]; simp)
      have E2 := eqIn25 (roundI 24 s) s (roundI_len _ _ HS.out) HS.out true (by rw [roundI_out 24 (by omega)]; simp)
      have E3 := eqIn25 (roundI (-1) s) s (roundI_len _ _ HS.out) HS.out true (by rw [roundI_out (-1) (by omega)]; simp)
      have hd : decide ((k : Int) < 24) = false := by simp; omega
      clear hk' hp hk hlt
      obtain ⟨W, hW⟩ : ∃ W, W = wr := ⟨_, rfl⟩
      subst hW
      go_wp2_with fail
      refine wp_region_up (by kernel_rfl) (by kernel_rfl) ?_
      refine q_call _ 15 #[] rfl (fun w => ?_) (fun w hC => Up.calls hC (awake19 w)) ?_
      · go_simp
      simp only [Act.put, List.setIfInBounds_toArray, List.set_cons_zero, List.set_cons_succ]
      repeat (apply q_val; rfl; (intro w hC; go_simp; exact rfl); simp only [Act.put, List.setIfInBounds_toArray, List.set_cons_zero, List.set_cons_succ])
      refine q_ld25 s HS.out _ h0 (.tmp 1) rfl rfl rfl ?_
      simp only [Act.put, List.setIfInBounds_toArray, List.set_cons_zero, List.set_cons_succ]
      refine q_call _ 17 #[.agg (vals s)] rfl (fun w => ?_) (fun w hC => Up.calls hC (permute_any s HS.out w)) ?_
      · go_simp
      simp only [Act.put, List.setIfInBounds_toArray, List.set_cons_zero, List.set_cons_succ]
      refine q_ld25 (roundsF k s) HL.out _ h1 (.tmp 3) rfl rfl rfl ?_
      simp only [Act.put, List.setIfInBounds_toArray, List.set_cons_zero, List.set_cons_succ]
      repeat (apply q_val; rfl; (intro w hC; go_simp; exact rfl); simp only [Act.put, List.setIfInBounds_toArray, List.set_cons_zero, List.set_cons_succ])
      refine q_ld25 s HS.out _ h0 (.tmp 1) rfl rfl rfl ?_
      simp only [Act.put, List.setIfInBounds_toArray, List.set_cons_zero, List.set_cons_succ]
      refine q_call _ 16 #[.agg (vals s), .int .i64 24] rfl (fun w => ?_) (fun w hC => Up.calls hC (roundI_any 24 s HS.out w)) ?_
      · go_simp
      simp only [Act.put, List.setIfInBounds_toArray, List.set_cons_zero, List.set_cons_succ]
      refine q_ld25 s HS.out _ h0 (.tmp 1) rfl rfl rfl ?_
      simp only [Act.put, List.setIfInBounds_toArray, List.set_cons_zero, List.set_cons_succ]
      repeat (apply q_val; rfl; (intro w hC; go_simp; exact rfl); simp only [Act.put, List.setIfInBounds_toArray, List.set_cons_zero, List.set_cons_succ])
      refine q_ld25 s HS.out _ h0 (.tmp 1) rfl rfl rfl ?_
      simp only [Act.put, List.setIfInBounds_toArray, List.set_cons_zero, List.set_cons_succ]
      refine q_call _ 16 #[.agg (vals s), .int .i64 (-1)] rfl (fun w => ?_) (fun w hC => Up.calls hC (roundI_any (-1) s HS.out w)) ?_
      · go_simp
      simp only [Act.put, List.setIfInBounds_toArray, List.set_cons_zero, List.set_cons_succ]
      refine q_ld25 s HS.out _ h0 (.tmp 1) rfl rfl rfl ?_
      simp only [Act.put, List.setIfInBounds_toArray, List.set_cons_zero, List.set_cons_succ]
      repeat (apply q_val; rfl; (intro w hC; go_simp; exact rfl); simp only [Act.put, List.setIfInBounds_toArray, List.set_cons_zero, List.set_cons_succ])
      refine wpQuiet_nil ?_
      intro w' hw'
      go_wp2_with fail
      go_ret
      exact ⟨rfl, Below.trans hb (Below.mono hw' hb.size)⟩

end Go.Proofs.Ytfohblhaiflaeaa
