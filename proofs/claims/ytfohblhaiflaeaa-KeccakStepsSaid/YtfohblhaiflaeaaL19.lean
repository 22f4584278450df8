/- parcloselaw19.awake: it answers true. -/
import Derived.Test.YtfohblhaiflaeaaQ
namespace Go.Proofs.Ytfohblhaiflaeaa
open Go.RowKit

/-- 1 in the first lane -/
def one25 : List (BitVec 64) := (List.replicate 25 0).set 0 1
theorem one25_len : one25.length = 25 := by simp [one25]
theorem built_one : Try.prog.built 23 [(0, U 1)] = some (vals one25) := built23 1
theorem awake_round : roundI 0 (zeros 25) = one25 := by decide +kernel
theorem awake_perm : permF (zeros 25) ≠ zeros 25 := by decide +kernel

set_option maxHeartbeats 1000000 in
set_option maxRecDepth 100000 in
theorem awake19 (w : World) : Calls Try.prog 15 #[] w fun e w' => e = .returned (.bool true) ∧ Below w.heap.size w w' := by
  go_enter Try.func15, Try.ntmps15
  go_wp2_with (first
    | ((with_reducible refine bld23z (o := ⟨some 3, _, _, _, _, _⟩) ?_ ?_ ?_); rfl; rfl; simp only [Act.put, List.setIfInBounds_toArray, List.set_cons_zero, List.set_cons_succ]))
  with_reducible refine (roundI_any 0 _ (zeros_len 25) _).mono ?_
  rintro e w1 ⟨rfl, hb1⟩
  have z1 := hb1.size
  go_wp2_with (first
    | ((with_reducible refine st25 (o := ⟨none, .store _ (.tmp 1) _, _, _, _, _⟩) ?_ (.tmp 1) (.tmp 4) ?_ w1.heap.size ?_ (roundI 0 (zeros 25)) (zeros 25) (roundI_len _ _ (zeros_len 25)) (zeros_len 25) ?_ ?_ ?_); rfl; rfl; rfl; rfl; exact heap_a1_0 _ _; simp only [Act.put])
    | ((with_reducible refine bld23z (o := ⟨some 5, _, _, _, _, _⟩) ?_ ?_ ?_); rfl; rfl; simp only [Act.put, List.setIfInBounds_toArray, List.set_cons_zero, List.set_cons_succ]))
  with_reducible refine (permute_any _ (zeros_len 25) _).mono ?_
  rintro e w2 ⟨rfl, hb2⟩
  have z2 := hb2.size
  simp only [World.size_alloc, size_setRow] at z2
  have g1 : Blk w2 w1.heap.size 23 (vals (roundI 0 (zeros 25))) :=
    Blk.below (Blk.setRow_same (old := vals (zeros 25)) (heap_a1_0 _ _) _) hb2 (by simp)
  have hb : Below w.heap.size w w2 := (Below.setRow_ (hb1.alloc z1 _) z1 _).trans (hb2.mono (by simp; omega))
  clear hb1 hb2
  go_wp2_with (first
    | ((with_reducible refine st25 (o := ⟨none, .store _ (.tmp 2) _, _, _, _, _⟩) ?_ (.tmp 2) (.tmp 6) ?_ w2.heap.size ?_ (permF (zeros 25)) (zeros 25) (permF_len _) (zeros_len 25) ?_ ?_ ?_); rfl; rfl; rfl; rfl; exact heap_a1_0 _ _; simp only [Act.put]))
  have g2 : Blk ((w2.alloc (.cells (vals (zeros 25)) 23)).setRow w2.heap.size (vals (permF (zeros 25)))) w1.heap.size 23 (vals (roundI 0 (zeros 25))) := Blk.setRow_far (g1.alloc _) _ (by omega)
  have g3 : Blk ((w2.alloc (.cells (vals (zeros 25)) 23)).setRow w2.heap.size (vals (permF (zeros 25)))) w2.heap.size 23 (vals (permF (zeros 25))) := Blk.setRow_same (old := vals (zeros 25)) (heap_a1_0 _ _) _
  have hb3 : Below w.heap.size w ((w2.alloc (.cells (vals (zeros 25)) 23)).setRow w2.heap.size (vals (permF (zeros 25)))) := Below.setRow_ (hb.alloc (by omega) _) (by omega) _
  change Code.wp _ _ _ _ ((w2.alloc (.cells (vals (zeros 25)) 23)).setRow w2.heap.size (vals (permF (zeros 25))))
  obtain ⟨W, hW⟩ : ∃ W, W = (w2.alloc (.cells (vals (zeros 25)) 23)).setRow w2.heap.size (vals (permF (zeros 25))) := ⟨_, rfl⟩
  rw [← hW] at g2 g3 hb3 ⊢
  clear hW g1 hb z1 z2
  have E1 := eqIn25 (roundI 0 (zeros 25)) one25 (roundI_len _ _ (zeros_len 25)) one25_len true (by rw [awake_round]; simp)
  have E2 := eqIn25 (permF (zeros 25)) (zeros 25) (permF_len _) (zeros_len 25) false (by simp [awake_perm])
  have E3 := eqIn25 (permF (zeros 25)) (refPermF (zeros 25)) (permF_len _) (by rw [perm_same _ (zeros_len 25)]; exact permF_len _) true (by rw [perm_same _ (zeros_len 25)]; simp)
  refine wp_region_up (by kernel_rfl) (by kernel_rfl) ?_
  refine q_ld25 _ (roundI_len _ _ (zeros_len 25)) _ g2 (.tmp 1) rfl rfl rfl ?_
  refine q_built 23 #[(0, .const (.int .u64 1))] [(0, U 1)] _ rfl rfl (by simp [Act.eval]) built_one ?_
  simp only [Act.put, List.setIfInBounds_toArray, List.set_cons_zero, List.set_cons_succ]
  repeat (apply q_val; rfl; (intro w hC; go_simp; exact rfl); simp only [Act.put, List.setIfInBounds_toArray, List.set_cons_zero, List.set_cons_succ])
  refine q_ld25 _ (permF_len _) _ g3 (.tmp 2) rfl rfl rfl ?_
  refine q_built 23 #[] [] _ rfl rfl (by simp) built23z ?_
  simp only [Act.put, List.setIfInBounds_toArray, List.set_cons_zero, List.set_cons_succ]
  repeat (apply q_val; rfl; (intro w hC; go_simp; exact rfl); simp only [Act.put, List.setIfInBounds_toArray, List.set_cons_zero, List.set_cons_succ])
  refine q_ld25 _ (permF_len _) _ g3 (.tmp 2) rfl rfl rfl ?_
  refine q_built 23 #[] [] _ rfl rfl (by simp) built23z ?_
  simp only [Act.put, List.setIfInBounds_toArray, List.set_cons_zero, List.set_cons_succ]
  refine q_call _ 36 #[.agg (vals (zeros 25))] rfl (fun w => ?_) (fun w hC => Up.calls hC (refPermute_any _ (zeros_len 25) w)) ?_
  · go_simp
  simp only [Act.put, List.setIfInBounds_toArray, List.set_cons_zero, List.set_cons_succ]
  repeat (apply q_val; rfl; (intro w hC; go_simp; exact rfl); simp only [Act.put, List.setIfInBounds_toArray, List.set_cons_zero, List.set_cons_succ])
  refine wpQuiet_nil ?_
  intro w' hw'
  go_wp2_with fail
  go_ret
  exact ⟨rfl, Below.trans hb3 (Below.mono hw' hb3.size)⟩

end Go.Proofs.Ytfohblhaiflaeaa
