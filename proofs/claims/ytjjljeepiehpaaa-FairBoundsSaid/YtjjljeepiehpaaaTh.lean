/- parcloselaw27.awake: it answers true. -/
import Derived.Test.YtjjljeepiehpaaaTg
namespace Go.Proofs.Ytjjljeepiehpaaa
open Go.RowKit Go.Shelf
attribute [local go_sem] Oper.semAt_some

abbrev aw27 : List (Int × Int) := [(0, 2), (1, 1), (0, 1)]
theorem aw_over : overF aw27 1 2 3 = (6, true) := by decide +kernel
theorem aw_share : shareF aw27 0 = 3 := by decide +kernel
theorem aw_gap0 : gapF aw27 0 = 3 := by decide +kernel
theorem aw_gap1 : gapF aw27 1 = 4 := by decide +kernel
theorem aw_gap2 : gapF aw27 2 = 0 := by decide +kernel
theorem aw_bound : boundF aw27 1 2 3 = 32 := by decide +kernel

set_option maxRecDepth 100000 in
set_option maxHeartbeats 2000000 in
theorem awake27 (w : World) : Calls Try.prog 17 #[] w fun e w' => e = .returned (.bool true) ∧ Below w.heap.size w w' := by
  go_enter Try.func17, Try.ntmps17
  have hr : aw27.length * 16 ≤ 140737488351232 := by decide
  go_wp2_with fail
  have hB0 := (Below.refl w.heap.size w).alloc (Nat.le_refl _) (.cells #[.int .i64 0, .int .i64 2, .int .i64 1, .int .i64 1, .int .i64 0, .int .i64 1] 49)
  have hbk : Blk (w.alloc (.cells #[.int .i64 0, .int .i64 2, .int .i64 1, .int .i64 1, .int .i64 0, .int .i64 1] 49)) w.heap.size 49 #[.int .i64 0, .int .i64 2, .int .i64 1, .int .i64 1, .int .i64 0, .int .i64 1] := heap_a1_0 _ _
  have hI0 : Slots (w.alloc (.cells #[.int .i64 0, .int .i64 2, .int .i64 1, .int .i64 1, .int .i64 0, .int .i64 1] 49)).heap.size (w.alloc (.cells #[.int .i64 0, .int .i64 2, .int .i64 1, .int .i64 1, .int .i64 0, .int .i64 1] 49)) (.slice (some ⟨w.heap.size, 0, none⟩) 3 3) aw27 := by
    refine .inr ⟨w.heap.size, 0, 3, rfl, by decide, by simp, fun j hj => ?_⟩
    match j, hj with
    | 0, _ => exact ⟨hbk.cell 0, hbk.cell 1⟩
    | 1, _ => exact ⟨hbk.cell 2, hbk.cell 3⟩
    | 2, _ => exact ⟨hbk.cell 4, hbk.cell 5⟩
  obtain ⟨w0, hw0⟩ : ∃ w0, w0 = w.alloc (.cells #[.int .i64 0, .int .i64 2, .int .i64 1, .int .i64 1, .int .i64 0, .int .i64 1] 49) := ⟨_, rfl⟩
  rw [← hw0] at hB0 hI0 ⊢
  clear hbk hw0
  with_reducible refine (over_any _ _ _ aw27 hr 1 2 3 w0 hI0).mono ?_
  rw [aw_over]
  rintro e w1 ⟨rfl, hb⟩
  have hI1 := (hI0.below hb).mono hb.size
  have hB1 := hB0.trans (hb.mono hB0.size)
  clear hb hI0 hB0
  go_wp2_with fail
  with_reducible refine (share_any _ _ _ aw27 hr 0 _ w1 hI1).mono ?_
  rw [aw_share]
  rintro e w2 ⟨rfl, hb⟩
  have hI2 := (hI1.below hb).mono hb.size
  have hB2 := hB1.trans (hb.mono hB1.size)
  clear hb hI1 hB1
  go_wp2_with fail
  with_reducible refine (gap_any _ _ _ aw27 hr 0 w2 hI2).mono ?_
  rw [aw_gap0]
  rintro e w3 ⟨rfl, hb⟩
  have hI3 := (hI2.below hb).mono hb.size
  have hB3 := hB2.trans (hb.mono hB2.size)
  clear hb hI2 hB2
  go_wp2_with fail
  with_reducible refine (gap_any _ _ _ aw27 hr 1 w3 hI3).mono ?_
  rw [aw_gap1]
  rintro e w4 ⟨rfl, hb⟩
  have hI4 := (hI3.below hb).mono hb.size
  have hB4 := hB3.trans (hb.mono hB3.size)
  clear hb hI3 hB3
  go_wp2_with fail
  with_reducible refine (bound_any _ _ _ aw27 hr 1 2 3 (by omega) (by omega) w4 hI4).mono ?_
  rw [aw_bound]
  rintro e w5 ⟨rfl, hb⟩
  have hI5 := (hI4.below hb).mono hb.size
  have hB5 := hB4.trans (hb.mono hB4.size)
  clear hb hI4 hB4
  go_wp2_with fail
  with_reducible refine (gap_any _ _ _ aw27 hr 2 w5 hI5).mono ?_
  rw [aw_gap2]
  rintro e w6 ⟨rfl, hb⟩
  have hI6 := (hI5.below hb).mono hb.size
  have hB6 := hB5.trans (hb.mono hB5.size)
  clear hb hI5 hB5
  go_wp2
  go_ret
  exact ⟨rfl, hB6⟩

end Go.Proofs.Ytjjljeepiehpaaa
