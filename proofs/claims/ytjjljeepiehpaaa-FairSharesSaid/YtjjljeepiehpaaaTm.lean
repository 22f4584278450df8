/- parcloselaw27.FairShares: it answers true. -/
import Derived.Test.YtjjljeepiehpaaaTn
namespace Go.Proofs.Ytjjljeepiehpaaa
open Go.RowKit Go.Shelf Go.Proofs.YtjjljeepiehpaaaW.PrintWords
attribute [local go_sem] Oper.semAt_some

theorem refshare_any (a : Option Addr) (len cap : Nat) (ss : List (Int × Int)) (hreach : ss.length * 16 ≤ 140737488351232) (dom : Int) (n₀ : Nat) (w : World) (hI : Slots n₀ w (.slice a len cap) ss) :
    Calls Try.prog 19 #[.slice a len cap, .int .i64 dom] w fun e w' => e = .returned (.int .i64 (shareF ss dom)) ∧ Below w.heap.size w w' := by
  obtain ⟨hl, hc, hk⟩ := kd_of_slots hreach hI
  obtain ⟨k, h⟩ := starts_f ss dom hreach
  have hs := PFairBounds.parcloseref27_starts.calls k a cap (s49 ss) dom _ _ w hk (by omega) h
  rw [← hl] at hs
  clear hl hc hk h hI
  go_enter Try.func19, Try.ntmps19
  go_wp2_with fail
  with_reducible refine hs.mono ?_
  rintro e w1 ⟨v, rfl, _, hb⟩
  go_wp2
  go_ret
  exact ⟨rfl, hb⟩

set_option maxRecDepth 100000 in
set_option maxHeartbeats 2000000 in
theorem shares_any (p : Option Addr) (len cap : Nat) (ss : List (Int × Int)) (hreach : ss.length * 16 ≤ 140737488351232) (dom : Int) (w : World) (hI : Slots w.heap.size w (.slice p len cap) ss) :
    Calls Try.prog 4 #[.slice p len cap, .int .i64 dom] w fun e W' => e = .returned (.bool true) ∧ Below w.heap.size w W' := by
  go_enter Try.func4, Try.ntmps4
  go_wp2_with fail
  with_reducible refine (awake27 w).mono ?_
  rintro e w1 ⟨rfl, hb⟩
  have hI1 := (hI.below hb).mono hb.size
  have hB1 := hb
  clear hb hI
  go_wp2_with fail
  with_reducible refine (share_any p len cap ss hreach dom _ w1 hI1).mono ?_
  rintro e w2 ⟨rfl, hb⟩
  have hI2 := (hI1.below hb).mono hb.size
  have hB2 := hB1.trans (hb.mono hB1.size)
  clear hb hI1 hB1
  go_wp2_with fail
  with_reducible refine (refshare_any p len cap ss hreach dom _ w2 hI2).mono ?_
  rintro e w3 ⟨rfl, hb⟩
  have hI3 := (hI2.below hb).mono hb.size
  have hB3 := hB2.trans (hb.mono hB2.size)
  clear hb hI2 hB2
  go_wp2_with fail
  with_reducible refine (gap_any p len cap ss hreach dom w3 hI3).mono ?_
  rintro e w4 ⟨rfl, hb⟩
  have hI4 := (hI3.below hb).mono hb.size
  have hB4 := hB3.trans (hb.mono hB3.size)
  clear hb hI3 hB3
  go_wp2_with fail
  with_reducible refine (refgap_any p len cap ss hreach dom _ w4 hI4).mono ?_
  rintro e w5 ⟨rfl, hb⟩
  have hB5 := hB4.trans (hb.mono hB4.size)
  clear hb hI4 hB4
  go_wp2
  go_ret
  exact ⟨rfl, hB5⟩

end Go.Proofs.Ytjjljeepiehpaaa
