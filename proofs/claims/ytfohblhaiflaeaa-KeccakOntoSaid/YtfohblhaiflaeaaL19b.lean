/- parcloselaw19.KeccakOnto, KeccakSteps: they answer true. Printed by gen_l19.py. -/
import Derived.Test.YtfohblhaiflaeaaL19
namespace Go.Proofs.Ytfohblhaiflaeaa
open Go.RowKit

set_option maxHeartbeats 2000000 in
set_option maxRecDepth 100000 in
theorem onto_eq (a b : List (BitVec 64)) (ha : a.length = 25) (hb : b.length = 25) (n : Int) (w : World) (β : Bool) (hβ : decide (a = b) = β) :
    Calls Try.prog 3 #[.agg (vals a), .agg (vals b), .int .i64 n] w fun e w' => e = .returned (.bool true) ∧ Below w.heap.size w w' := by
  have r1 : decide (roundI n a = roundI n b) = β := by
    rw [← hβ]; exact decide_eq_decide.2 ⟨roundI_inj n a b ha hb, fun h => by rw [h]⟩
  have r2 : decide (permF a = permF b) = β := by
    rw [← hβ]; exact decide_eq_decide.2 ⟨perm_inj a b ha hb, fun h => by rw [h]⟩
  have E1 := eqIn25 _ _ (roundI_len n a ha) (roundI_len n b hb) β r1
  have E2 := eqIn25 _ _ ha hb β hβ
  have E3 := eqIn25 _ _ (permF_len a) (permF_len b) β r2
  have HA := veil ha
  have HB := veil hb
  have HE : (β == β) = true := by simp
  clear r1 r2 hβ ha hb
  go_enter Try.func3, Try.ntmps3
  go_wp2_with fail
  have g0 : Blk ((w.alloc (.cells (vals a) 23)).alloc (.cells (vals b) 23)) w.heap.size 23 (vals a) := heap_a2_0 _ _ _
  have g1 : Blk ((w.alloc (.cells (vals a) 23)).alloc (.cells (vals b) 23)) (w.heap.size + 1) 23 (vals b) := heap_a2_1 _ _ _
  have hb2 : Below w.heap.size w ((w.alloc (.cells (vals a) 23)).alloc (.cells (vals b) 23)) := ((Below.refl _ _).alloc (Nat.le_refl _) _).alloc (by simp) _
  obtain ⟨W, hW⟩ : ∃ W, W = (w.alloc (.cells (vals a) 23)).alloc (.cells (vals b) 23) := ⟨_, rfl⟩
  rw [← hW] at g0 g1 hb2 ⊢
  clear hW
  refine wp_region_up (by kernel_rfl) (by kernel_rfl) ?_
  refine q_call _ 15 #[] rfl (fun w => ?_) (fun w hC => Up.calls hC (awake19 w)) ?_
  · go_simp
  simp only [Act.put, List.setIfInBounds_toArray, List.set_cons_zero, List.set_cons_succ]
  repeat (apply q_val; rfl; (intro w hC; go_simp; exact rfl); simp only [Act.put, List.setIfInBounds_toArray, List.set_cons_zero, List.set_cons_succ])
  refine q_ld25 a HA.out _ g0 (.tmp 3) rfl rfl rfl ?_
  simp only [Act.put, List.setIfInBounds_toArray, List.set_cons_zero, List.set_cons_succ]
  repeat (apply q_val; rfl; (intro w hC; go_simp; exact rfl); simp only [Act.put, List.setIfInBounds_toArray, List.set_cons_zero, List.set_cons_succ])
  refine q_call _ 16 #[.agg (vals a), .int .i64 n] rfl (fun w => ?_) (fun w hC => Up.calls hC (roundI_any n a HA.out w)) ?_
  · go_simp
  simp only [Act.put, List.setIfInBounds_toArray, List.set_cons_zero, List.set_cons_succ]
  refine q_ld25 b HB.out _ g1 (.tmp 4) rfl rfl rfl ?_
  simp only [Act.put, List.setIfInBounds_toArray, List.set_cons_zero, List.set_cons_succ]
  repeat (apply q_val; rfl; (intro w hC; go_simp; exact rfl); simp only [Act.put, List.setIfInBounds_toArray, List.set_cons_zero, List.set_cons_succ])
  refine q_call _ 16 #[.agg (vals b), .int .i64 n] rfl (fun w => ?_) (fun w hC => Up.calls hC (roundI_any n b HB.out w)) ?_
  · go_simp
  simp only [Act.put, List.setIfInBounds_toArray, List.set_cons_zero, List.set_cons_succ]
  repeat (apply q_val; rfl; (intro w hC; go_simp; exact rfl); simp only [Act.put, List.setIfInBounds_toArray, List.set_cons_zero, List.set_cons_succ])
  refine q_ld25 a HA.out _ g0 (.tmp 3) rfl rfl rfl ?_
  simp only [Act.put, List.setIfInBounds_toArray, List.set_cons_zero, List.set_cons_succ]
  refine q_ld25 b HB.out _ g1 (.tmp 4) rfl rfl rfl ?_
  simp only [Act.put, List.setIfInBounds_toArray, List.set_cons_zero, List.set_cons_succ]
  repeat (apply q_val; rfl; (intro w hC; go_simp; exact rfl); simp only [Act.put, List.setIfInBounds_toArray, List.set_cons_zero, List.set_cons_succ])
  refine q_ld25 a HA.out _ g0 (.tmp 3) rfl rfl rfl ?_
  simp only [Act.put, List.setIfInBounds_toArray, List.set_cons_zero, List.set_cons_succ]
  refine q_call _ 17 #[.agg (vals a)] rfl (fun w => ?_) (fun w hC => Up.calls hC (permute_any a HA.out w)) ?_
  · go_simp
  simp only [Act.put, List.setIfInBounds_toArray, List.set_cons_zero, List.set_cons_succ]
  refine q_ld25 b HB.out _ g1 (.tmp 4) rfl rfl rfl ?_
  simp only [Act.put, List.setIfInBounds_toArray, List.set_cons_zero, List.set_cons_succ]
  refine q_call _ 17 #[.agg (vals b)] rfl (fun w => ?_) (fun w hC => Up.calls hC (permute_any b HB.out w)) ?_
  · go_simp
  simp only [Act.put, List.setIfInBounds_toArray, List.set_cons_zero, List.set_cons_succ]
  repeat (apply q_val; rfl; (intro w hC; go_simp; exact rfl); simp only [Act.put, List.setIfInBounds_toArray, List.set_cons_zero, List.set_cons_succ])
  refine q_ld25 a HA.out _ g0 (.tmp 3) rfl rfl rfl ?_
  simp only [Act.put, List.setIfInBounds_toArray, List.set_cons_zero, List.set_cons_succ]
  refine q_ld25 b HB.out _ g1 (.tmp 4) rfl rfl rfl ?_
  simp only [Act.put, List.setIfInBounds_toArray, List.set_cons_zero, List.set_cons_succ]
  repeat (apply q_val; rfl; (intro w hC; go_simp; exact rfl); simp only [Act.put, List.setIfInBounds_toArray, List.set_cons_zero, List.set_cons_succ])
  refine wpQuiet_nil ?_
  intro w' hw'
  go_wp2_with fail
  go_ret
  exact ⟨rfl, Below.trans hb2 (Below.mono hw' hb2.size)⟩

theorem onto_any (a b : List (BitVec 64)) (ha : a.length = 25) (hb : b.length = 25) (n : Int) (w : World) :
    Calls Try.prog 3 #[.agg (vals a), .agg (vals b), .int .i64 n] w fun e w' => e = .returned (.bool true) ∧ Below w.heap.size w w' := by
  cases h : decide (a = b)
  · exact onto_eq a b ha hb n w false h
  · exact onto_eq a b ha hb n w true h


end Go.Proofs.Ytfohblhaiflaeaa
