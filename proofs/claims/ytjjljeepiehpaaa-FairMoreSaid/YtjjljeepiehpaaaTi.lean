/- parcloselaw27.FairMore: it answers true. -/
import Derived.Test.YtjjljeepiehpaaaTh
namespace Go.Proofs.Ytjjljeepiehpaaa
open Go.RowKit Go.Shelf
attribute [local go_sem] Oper.semAt_some

theorem timesF_mono {a b c d : Int} (h : a ≤ c) (h2 : b ≤ d) : timesF a b ≤ timesF c d := by
  have := Int.mul_le_mul (show max a 0 ≤ max c 0 by omega) (show max b 0 ≤ max d 0 by omega) (show 0 ≤ max b 0 by omega) (show 0 ≤ max c 0 by omega)
  unfold timesF
  omega
theorem addF_mono {a b c d : Int} (h : a ≤ c) (h2 : b ≤ d) : addF a b ≤ addF c d := by
  unfold addF heldF; omega
theorem boundF_mono (ss : List (Int × Int)) (dom : Int) {a b c d : Int} (h : a ≤ c) (h2 : b ≤ d) : boundF ss dom a b ≤ boundF ss dom c d := by
  unfold boundF
  split
  · omega
  · exact timesF_mono h (addF_mono (Int.le_refl _) (timesF_mono h2 (Int.le_refl _)))
theorem boundF_nonneg (ss : List (Int × Int)) (dom a b : Int) : 0 ≤ boundF ss dom a b := by
  unfold boundF
  split
  · omega
  · exact (timesF_bd _ _).1
theorem next_mono (ss : List (Int × Int)) (dom : Int) {t t' : Int} (h0 : 0 ≤ t) (h : t ≤ t') (h1 : t' ≤ 4611686018427387904) (hok : (nextF ss dom t').2 = true) : (nextF ss dom t).2 = true ∧ (nextF ss dom t).1 ≤ (nextF ss dom t').1 := by
  have e1 : heldF t = t := by unfold heldF; omega
  have e2 : heldF t' = t' := by unfold heldF; omega
  obtain ⟨g1, g2, g3, g4⟩ := next_ok hok
  cases hn : (nextF ss dom t).2 with
  | false => exact absurd g3 ((next_none hn).2 _ (by omega) g2)
  | true =>
    obtain ⟨k1, k2, k3, k4⟩ := next_ok hn
    refine ⟨rfl, ?_⟩
    rcases Int.lt_or_le (nextF ss dom t').1 (nextF ss dom t).1 with h5 | h5
    · exact absurd g3 (k4 _ (by omega) h5)
    · exact h5
theorem overF_mono (ss : List (Int × Int)) (dom : Int) {a b c d : Int} (h : a ≤ c) (h2 : b ≤ d) (hok : (overF ss dom c d).2 = true) : (overF ss dom a b).2 = true ∧ (overF ss dom a b).1 ≤ (overF ss dom c d).1 :=
  next_mono ss dom (addF_bd a b).1 (addF_mono h h2) (addF_bd c d).2 hok

set_option maxRecDepth 100000 in
set_option maxHeartbeats 4000000 in
theorem more_any (p : Option Addr) (len cap : Nat) (ss : List (Int × Int)) (hreach : ss.length * 16 ≤ 140737488351232) (dom a b c d : Int) (ha : a ≤ 9223372036854775807) (hb : b ≤ 9223372036854775807) (hc : c ≤ 9223372036854775807) (hd : d ≤ 9223372036854775807)
    (w : World) (hI0 : Slots w.heap.size w (.slice p len cap) ss) :
    Calls Try.prog 7 #[.slice p len cap, .int .i64 dom, .int .i64 a, .int .i64 b, .int .i64 c, .int .i64 d] w fun e W' => e = .returned (.bool true) ∧ Below w.heap.size w W' := by
  go_enter Try.func7, Try.ntmps7
  have hB0 := Below.refl w.heap.size w
  rcases Int.lt_or_le c a with hac | hac <;> rcases Int.lt_or_le d b with hbd | hbd
  · have hl1 : c ≤ a := by omega
    have hl2 : d ≤ b := by omega
    have M1 := boundF_mono ss dom hl1 hl2
    have M2 := boundF_nonneg ss dom c d
    have M3 := overF_mono ss dom hl1 hl2
    clear hl1 hl2
    go_wp2_with fail
    with_reducible refine (bound_any p len cap ss hreach dom c d hc hd w hI0).mono ?_
    rintro e w1 ⟨rfl, hb⟩
    have hI1 := (hI0.below hb).mono hb.size
    have hB1 := hB0.trans (hb.mono hB0.size)
    clear hb hI0 hB0
    obtain ⟨q1, hq1⟩ : ∃ q, q = boundF ss dom c d := ⟨_, rfl⟩
    rw [← hq1] at M1 M2 ⊢
    clear hq1
    go_wp2_with fail
    with_reducible refine (bound_any p len cap ss hreach dom a b ha hb w1 hI1).mono ?_
    rintro e w2 ⟨rfl, hb⟩
    have hI2 := (hI1.below hb).mono hb.size
    have hB2 := hB1.trans (hb.mono hB1.size)
    clear hb hI1 hB1
    obtain ⟨q2, hq2⟩ : ∃ q, q = boundF ss dom a b := ⟨_, rfl⟩
    rw [← hq2] at M1 ⊢
    clear hq2
    go_wp2_with fail
    with_reducible refine (over_any p len cap ss hreach dom c d w2 hI2).mono ?_
    rintro e w3 ⟨rfl, hb⟩
    have hI3 := (hI2.below hb).mono hb.size
    have hB3 := hB2.trans (hb.mono hB2.size)
    clear hb hI2 hB2
    obtain ⟨⟨n1, o1⟩, hn1⟩ : ∃ q, q = overF ss dom c d := ⟨_, rfl⟩
    rw [← hn1] at M3 ⊢
    clear hn1
    go_wp2_with fail
    with_reducible refine (over_any p len cap ss hreach dom a b w3 hI3).mono ?_
    rintro e w4 ⟨rfl, hb⟩
    have hB4 := hB3.trans (hb.mono hB3.size)
    clear hb hI3 hB3
    obtain ⟨⟨n2, o2⟩, hn2⟩ : ∃ q, q = overF ss dom a b := ⟨_, rfl⟩
    rw [← hn2] at M3 ⊢
    clear hn2
    dsimp only at M3 ⊢
    cases o2 with
    | false =>
      clear M3
      go_wp2_with fail
      with_reducible refine (awake27 w4).mono ?_
      rintro e w5 ⟨rfl, hb⟩
      have hB5 := hB4.trans (hb.mono hB4.size)
      clear hb hB4
      go_wp2
      go_ret
      exact ⟨rfl, hB5⟩
    | true =>
      obtain ⟨rfl, M4⟩ := M3 rfl
      go_wp2_with fail
      with_reducible refine (awake27 w4).mono ?_
      rintro e w5 ⟨rfl, hb⟩
      have hB5 := hB4.trans (hb.mono hB4.size)
      clear hb hB4
      go_wp2
      go_ret
      exact ⟨rfl, hB5⟩
  · have hl1 : c ≤ a := by omega
    have hl2 : b ≤ d := by omega
    have M1 := boundF_mono ss dom hl1 hl2
    have M2 := boundF_nonneg ss dom c b
    have M3 := overF_mono ss dom hl1 hl2
    clear hl1 hl2
    go_wp2_with fail
    with_reducible refine (bound_any p len cap ss hreach dom c b hc hb w hI0).mono ?_
    rintro e w1 ⟨rfl, hb⟩
    have hI1 := (hI0.below hb).mono hb.size
    have hB1 := hB0.trans (hb.mono hB0.size)
    clear hb hI0 hB0
    obtain ⟨q1, hq1⟩ : ∃ q, q = boundF ss dom c b := ⟨_, rfl⟩
    rw [← hq1] at M1 M2 ⊢
    clear hq1
    go_wp2_with fail
    with_reducible refine (bound_any p len cap ss hreach dom a d ha hd w1 hI1).mono ?_
    rintro e w2 ⟨rfl, hb⟩
    have hI2 := (hI1.below hb).mono hb.size
    have hB2 := hB1.trans (hb.mono hB1.size)
    clear hb hI1 hB1
    obtain ⟨q2, hq2⟩ : ∃ q, q = boundF ss dom a d := ⟨_, rfl⟩
    rw [← hq2] at M1 ⊢
    clear hq2
    go_wp2_with fail
    with_reducible refine (over_any p len cap ss hreach dom c b w2 hI2).mono ?_
    rintro e w3 ⟨rfl, hb⟩
    have hI3 := (hI2.below hb).mono hb.size
    have hB3 := hB2.trans (hb.mono hB2.size)
    clear hb hI2 hB2
    obtain ⟨⟨n1, o1⟩, hn1⟩ : ∃ q, q = overF ss dom c b := ⟨_, rfl⟩
    rw [← hn1] at M3 ⊢
    clear hn1
    go_wp2_with fail
    with_reducible refine (over_any p len cap ss hreach dom a d w3 hI3).mono ?_
    rintro e w4 ⟨rfl, hb⟩
    have hB4 := hB3.trans (hb.mono hB3.size)
    clear hb hI3 hB3
    obtain ⟨⟨n2, o2⟩, hn2⟩ : ∃ q, q = overF ss dom a d := ⟨_, rfl⟩
    rw [← hn2] at M3 ⊢
    clear hn2
    dsimp only at M3 ⊢
    cases o2 with
    | false =>
      clear M3
      go_wp2_with fail
      with_reducible refine (awake27 w4).mono ?_
      rintro e w5 ⟨rfl, hb⟩
      have hB5 := hB4.trans (hb.mono hB4.size)
      clear hb hB4
      go_wp2
      go_ret
      exact ⟨rfl, hB5⟩
    | true =>
      obtain ⟨rfl, M4⟩ := M3 rfl
      go_wp2_with fail
      with_reducible refine (awake27 w4).mono ?_
      rintro e w5 ⟨rfl, hb⟩
      have hB5 := hB4.trans (hb.mono hB4.size)
      clear hb hB4
      go_wp2
      go_ret
      exact ⟨rfl, hB5⟩
  · have hl1 : a ≤ c := by omega
    have hl2 : d ≤ b := by omega
    have M1 := boundF_mono ss dom hl1 hl2
    have M2 := boundF_nonneg ss dom a d
    have M3 := overF_mono ss dom hl1 hl2
    clear hl1 hl2
    go_wp2_with fail
    with_reducible refine (bound_any p len cap ss hreach dom a d ha hd w hI0).mono ?_
    rintro e w1 ⟨rfl, hb⟩
    have hI1 := (hI0.below hb).mono hb.size
    have hB1 := hB0.trans (hb.mono hB0.size)
    clear hb hI0 hB0
    obtain ⟨q1, hq1⟩ : ∃ q, q = boundF ss dom a d := ⟨_, rfl⟩
    rw [← hq1] at M1 M2 ⊢
    clear hq1
    go_wp2_with fail
    with_reducible refine (bound_any p len cap ss hreach dom c b hc hb w1 hI1).mono ?_
    rintro e w2 ⟨rfl, hb⟩
    have hI2 := (hI1.below hb).mono hb.size
    have hB2 := hB1.trans (hb.mono hB1.size)
    clear hb hI1 hB1
    obtain ⟨q2, hq2⟩ : ∃ q, q = boundF ss dom c b := ⟨_, rfl⟩
    rw [← hq2] at M1 ⊢
    clear hq2
    go_wp2_with fail
    with_reducible refine (over_any p len cap ss hreach dom a d w2 hI2).mono ?_
    rintro e w3 ⟨rfl, hb⟩
    have hI3 := (hI2.below hb).mono hb.size
    have hB3 := hB2.trans (hb.mono hB2.size)
    clear hb hI2 hB2
    obtain ⟨⟨n1, o1⟩, hn1⟩ : ∃ q, q = overF ss dom a d := ⟨_, rfl⟩
    rw [← hn1] at M3 ⊢
    clear hn1
    go_wp2_with fail
    with_reducible refine (over_any p len cap ss hreach dom c b w3 hI3).mono ?_
    rintro e w4 ⟨rfl, hb⟩
    have hB4 := hB3.trans (hb.mono hB3.size)
    clear hb hI3 hB3
    obtain ⟨⟨n2, o2⟩, hn2⟩ : ∃ q, q = overF ss dom c b := ⟨_, rfl⟩
    rw [← hn2] at M3 ⊢
    clear hn2
    dsimp only at M3 ⊢
    cases o2 with
    | false =>
      clear M3
      go_wp2_with fail
      with_reducible refine (awake27 w4).mono ?_
      rintro e w5 ⟨rfl, hb⟩
      have hB5 := hB4.trans (hb.mono hB4.size)
      clear hb hB4
      go_wp2
      go_ret
      exact ⟨rfl, hB5⟩
    | true =>
      obtain ⟨rfl, M4⟩ := M3 rfl
      go_wp2_with fail
      with_reducible refine (awake27 w4).mono ?_
      rintro e w5 ⟨rfl, hb⟩
      have hB5 := hB4.trans (hb.mono hB4.size)
      clear hb hB4
      go_wp2
      go_ret
      exact ⟨rfl, hB5⟩
  · have hl1 : a ≤ c := by omega
    have hl2 : b ≤ d := by omega
    have M1 := boundF_mono ss dom hl1 hl2
    have M2 := boundF_nonneg ss dom a b
    have M3 := overF_mono ss dom hl1 hl2
    clear hl1 hl2
    go_wp2_with fail
    with_reducible refine (bound_any p len cap ss hreach dom a b ha hb w hI0).mono ?_
    rintro e w1 ⟨rfl, hb⟩
    have hI1 := (hI0.below hb).mono hb.size
    have hB1 := hB0.trans (hb.mono hB0.size)
    clear hb hI0 hB0
    obtain ⟨q1, hq1⟩ : ∃ q, q = boundF ss dom a b := ⟨_, rfl⟩
    rw [← hq1] at M1 M2 ⊢
    clear hq1
    go_wp2_with fail
    with_reducible refine (bound_any p len cap ss hreach dom c d hc hd w1 hI1).mono ?_
    rintro e w2 ⟨rfl, hb⟩
    have hI2 := (hI1.below hb).mono hb.size
    have hB2 := hB1.trans (hb.mono hB1.size)
    clear hb hI1 hB1
    obtain ⟨q2, hq2⟩ : ∃ q, q = boundF ss dom c d := ⟨_, rfl⟩
    rw [← hq2] at M1 ⊢
    clear hq2
    go_wp2_with fail
    with_reducible refine (over_any p len cap ss hreach dom a b w2 hI2).mono ?_
    rintro e w3 ⟨rfl, hb⟩
    have hI3 := (hI2.below hb).mono hb.size
    have hB3 := hB2.trans (hb.mono hB2.size)
    clear hb hI2 hB2
    obtain ⟨⟨n1, o1⟩, hn1⟩ : ∃ q, q = overF ss dom a b := ⟨_, rfl⟩
    rw [← hn1] at M3 ⊢
    clear hn1
    go_wp2_with fail
    with_reducible refine (over_any p len cap ss hreach dom c d w3 hI3).mono ?_
    rintro e w4 ⟨rfl, hb⟩
    have hB4 := hB3.trans (hb.mono hB3.size)
    clear hb hI3 hB3
    obtain ⟨⟨n2, o2⟩, hn2⟩ : ∃ q, q = overF ss dom c d := ⟨_, rfl⟩
    rw [← hn2] at M3 ⊢
    clear hn2
    dsimp only at M3 ⊢
    cases o2 with
    | false =>
      clear M3
      go_wp2_with fail
      with_reducible refine (awake27 w4).mono ?_
      rintro e w5 ⟨rfl, hb⟩
      have hB5 := hB4.trans (hb.mono hB4.size)
      clear hb hB4
      go_wp2
      go_ret
      exact ⟨rfl, hB5⟩
    | true =>
      obtain ⟨rfl, M4⟩ := M3 rfl
      go_wp2_with fail
      with_reducible refine (awake27 w4).mono ?_
      rintro e w5 ⟨rfl, hb⟩
      have hB5 := hB4.trans (hb.mono hB4.size)
      clear hb hB4
      go_wp2
      go_ret
      exact ⟨rfl, hB5⟩

end Go.Proofs.Ytjjljeepiehpaaa
