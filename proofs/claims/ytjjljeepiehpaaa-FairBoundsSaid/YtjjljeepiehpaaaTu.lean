/- parcloseref05.Next, .Cycle; parcloseref27.times, .Bound; parcloselaw27.FairBounds. -/
import Derived.Test.YtjjljeepiehpaaaTp
import Derived.Test.YtjjljeepiehpaaaTh
namespace Go.Proofs.Ytjjljeepiehpaaa
open Go.RowKit Go.Shelf Go.Proofs.YtjjljeepiehpaaaW.PrintWords

theorem next05_f (ss : List (Int × Int)) (dom t : Int) (hreach : ss.length * 16 ≤ 140737488351232) : ∃ k, PFairBounds.parcloseref05_Next.f k (s49 ss) dom t = some (nextF ss dom t) := by
  obtain ⟨k1, h1⟩ := owners_f ss hreach
  have hcb := cycF_bd ss
  obtain ⟨k2, h2⟩ := nextR_go ss dom t hreach (cycF ss).toNat 0 (by omega) (fun x h1 h2 => by omega)
  have e1 : PFairBounds.parcloseref05_owners.f (k1 + k2) (s49 ss) = some (ownW ss (cntN ss), ownB ss (cntN ss)) :=
    at_rounds (g := fun k => PFairBounds.parcloseref05_owners.f k (s49 ss)) (PFairBounds.parcloseref05_owners.mono _) (by omega) h1
  have e2 : PFairBounds.parcloseref05_Next.l0 (k1 + k2) (s49 ss) dom (heldF t) (ownW ss (cntN ss)) (ownB ss (cntN ss)) 0 = some (nextF ss dom t) :=
    at_rounds (g := fun k => PFairBounds.parcloseref05_Next.l0 k (s49 ss) dom (heldF t) (ownW ss (cntN ss)) (ownB ss (cntN ss)) 0) (fun k => (PFairBounds.parcloseref05_Next.mono_l k).1 _ _ _ _ _ _) (by omega) h2
  refine ⟨k1 + k2, ?_⟩
  unfold PFairBounds.parcloseref05_Next.f
  rw [e1, Option.bind_some, held05, Option.bind_some]
  dsimp only
  exact e2
theorem next05_any (a : Option Addr) (len cap : Nat) (ss : List (Int × Int)) (hreach : ss.length * 16 ≤ 140737488351232) (dom t : Int) (n₀ : Nat) (w : World) (hI : Slots n₀ w (.slice a len cap) ss) :
    Calls Try.prog 23 #[.slice a len cap, .int .i64 dom, .int .i64 t] w fun e w' => e = .returned (.tuple #[.int .i64 (nextF ss dom t).1, .bool (nextF ss dom t).2]) ∧ Below w.heap.size w w' := by
  obtain ⟨rfl, hc, hk⟩ := kd_of_slots hreach hI
  obtain ⟨k, h⟩ := next05_f ss dom t hreach
  exact PFairBounds.parcloseref05_Next.calls k a cap (s49 ss) dom t _ _ w hk hc h

theorem cycle05_any (a : Option Addr) (len cap : Nat) (ss : List (Int × Int)) (hreach : ss.length * 16 ≤ 140737488351232) (n₀ : Nat) (w : World) (hI : Slots n₀ w (.slice a len cap) ss) :
    Calls Try.prog 45 #[.slice a len cap] w fun e w' => e = .returned (.int .i64 (cycF ss)) ∧ Below w.heap.size w w' := by
  obtain ⟨hl, hc, hk⟩ := kd_of_slots hreach hI
  obtain ⟨k, h⟩ := owners_f ss hreach
  have hs := PFairBounds.parcloseref05_owners.calls k a cap (s49 ss) _ _ w hk (by omega) h
  rw [← hl] at hs
  have hlen := ownW_len ss (cntN ss)
  have HC := veil (show cycF ss = ((ownW ss (cntN ss)).length : Int) from hlen.symm)
  clear hl hc hk h hI hlen
  go_enter Try.func45, Try.ntmps45
  go_wp2_with fail
  with_reducible refine hs.mono ?_
  rintro e w1 ⟨v0, v1, rfl, h0, _, hb⟩
  obtain ⟨A, c, rfl⟩ := Kd.R_slice h0
  clear h0 hs
  go_wp2
  go_ret
  exact ⟨ret_int HC.out.symm, hb⟩

theorem quo_le {a b : Int} (hb : 0 < b) : (4611686018427387904 / b < a) ↔ 4611686018427387904 < a * b := by
  rw [Int.ediv_lt_iff_lt_mul hb]
set_option maxHeartbeats 1000000 in
theorem times27_any (a b : Int) (hbm : b ≤ 9223372036854775807) (w : World) : Calls Try.prog 44 #[.int .i64 a, .int .i64 b] w fun e w' => e = .returned (.int .i64 (timesF a b)) ∧ w = w' := by
  by_cases ha : a ≤ 0
  · have h : timesF a b = 0 := by unfold timesF; rw [show max a 0 = 0 by omega, Int.zero_mul]; rfl
    rw [h]
    clear h
    go_enter Try.func44, Try.ntmps44
    go_wp2
    go_ret
    exact ⟨rfl, rfl⟩
  · by_cases hb : b ≤ 0
    · have h : timesF a b = 0 := by unfold timesF; rw [show max b 0 = 0 by omega, Int.mul_zero]; rfl
      rw [h]
      clear h
      go_enter Try.func44, Try.ntmps44
      go_wp2
      go_ret
      exact ⟨rfl, rfl⟩
    · have h : timesF a b = min (a * b) 4611686018427387904 := by unfold timesF; rw [show max a 0 = a by omega, show max b 0 = b by omega]
      rw [h]
      clear h
      have hq := quo_le (a := a) (b := b) (by omega)
      have hb1 : 1 ≤ b := by omega
      have hq0 : 0 ≤ 4611686018427387904 / b := Int.ediv_nonneg (by omega) (by omega)
      have hp : 0 < a * b := Int.mul_pos (by omega) (by omega)
      by_cases hbig : 4611686018427387904 / b < a
      · have hm : min (a * b) 4611686018427387904 = 4611686018427387904 := by have := hq.1 hbig; omega
        rw [hm]
        clear hm hq hp
        go_enter Try.func44, Try.ntmps44
        go_wp2
        go_ret
        exact ⟨rfl, rfl⟩
      · have hle : a * b ≤ 4611686018427387904 := by
          rcases Int.lt_or_le 4611686018427387904 (a * b) with h | h
          · exact absurd (hq.2 h) hbig
          · exact h
        have hm : min (a * b) 4611686018427387904 = a * b := by omega
        rw [hm]
        clear hm hq
        have hw : IntKind.i64.wrap (a * b) = a * b := IntWalk.i64_in _ (by omega)
        go_enter Try.func44, Try.ntmps44
        go_wp2
        go_ret
        exact ⟨rfl, rfl⟩

set_option maxRecDepth 100000 in
set_option maxHeartbeats 2000000 in
theorem bound27_any (a : Option Addr) (len cap : Nat) (ss : List (Int × Int)) (hreach : ss.length * 16 ≤ 140737488351232) (dom x y : Int) (w : World) (hI : Slots w.heap.size w (.slice a len cap) ss) :
    Calls Try.prog 26 #[.slice a len cap, .int .i64 dom, .int .i64 x, .int .i64 y] w fun e W' => e = .returned (.int .i64 (boundF ss dom x y)) ∧ Below w.heap.size w W' := by
  go_enter Try.func26, Try.ntmps26
  go_wp2_with fail
  with_reducible refine (refgap_any a len cap ss hreach dom _ w hI).mono ?_
  rintro e w1 ⟨rfl, hb1⟩
  have hI1 := (hI.below hb1).mono hb1.size
  obtain ⟨g, hg⟩ : ∃ g, g = gapF ss dom := ⟨_, rfl⟩
  have HG := veil hg
  rw [← hg]
  clear hg
  by_cases hg0 : g = 0
  · have hbo : boundF ss dom x y = 0 := by unfold boundF; rw [← HG.out, if_pos hg0]
    have HB := veil hbo
    clear hbo
    subst hg0
    go_wp2
    go_ret
    exact ⟨ret_int HB.out.symm, hb1⟩
  · have hbo : boundF ss dom x y = timesF x (addF g (timesF y (cycF ss))) := by unfold boundF; rw [← HG.out, if_neg hg0]
    have HB := veil hbo
    clear hbo
    go_wp2_with fail
    with_reducible refine (cycle05_any a len cap ss hreach _ w1 hI1).mono ?_
    rintro e w2 ⟨rfl, hb2⟩
    have hB2 := hb1.trans (hb2.mono hb1.size)
    have hcb := cycF_bd ss
    clear hb1 hb2 hI1
    go_wp2_with fail
    with_reducible refine (times27_any y _ (by omega) w2).mono ?_
    rintro e w3 ⟨rfl, rfl⟩
    go_wp2_with fail
    with_reducible refine (add05_any g _ w2).mono ?_
    rintro e w4 ⟨rfl, hb4⟩
    have hB4 := hB2.trans (hb4.mono hB2.size)
    clear hB2 hb4
    have hab := addF_bd g (timesF y (cycF ss))
    go_wp2_with fail
    with_reducible refine (times27_any x _ (by omega) w4).mono ?_
    rintro e w5 ⟨rfl, rfl⟩
    go_wp2
    go_ret
    exact ⟨ret_int HB.out.symm, hB4⟩

set_option maxRecDepth 100000 in
set_option maxHeartbeats 2000000 in
theorem bounds_any (p : Option Addr) (len cap : Nat) (ss : List (Int × Int)) (hreach : ss.length * 16 ≤ 140737488351232) (dom x y : Int) (hx : x ≤ 9223372036854775807) (hy : y ≤ 9223372036854775807) (w : World) (hI : Slots w.heap.size w (.slice p len cap) ss) :
    Calls Try.prog 5 #[.slice p len cap, .int .i64 dom, .int .i64 x, .int .i64 y] w fun e W' => e = .returned (.bool true) ∧ Below w.heap.size w W' := by
  go_enter Try.func5, Try.ntmps5
  go_wp2_with fail
  with_reducible refine (over_any p len cap ss hreach dom x y w hI).mono ?_
  rintro e w1 ⟨rfl, hb⟩
  have hI1 := (hI.below hb).mono hb.size
  have hB1 := hb
  clear hb hI
  obtain ⟨⟨n1, o1⟩, hn1⟩ : ∃ q, q = overF ss dom x y := ⟨_, rfl⟩
  rw [← hn1]
  have HN := veil hn1
  clear hn1
  dsimp only
  go_wp2_with fail
  with_reducible refine (add05_any x y w1).mono ?_
  rintro e w2 ⟨rfl, hb⟩
  have hI2 := (hI1.below hb).mono hb.size
  have hB2 := hB1.trans (hb.mono hB1.size)
  clear hb hI1 hB1
  go_wp2_with fail
  with_reducible refine (next05_any p len cap ss hreach dom (addF x y) _ w2 hI2).mono ?_
  have hov : nextF ss dom (addF x y) = (n1, o1) := by rw [HN.out]; rfl
  rw [hov]
  clear hov
  rintro e w3 ⟨rfl, hb⟩
  have hI3 := (hI2.below hb).mono hb.size
  have hB3 := hB2.trans (hb.mono hB2.size)
  clear hb hI2 hB2
  go_wp2_with fail
  with_reducible refine (awake27 w3).mono ?_
  rintro e w4 ⟨rfl, hb⟩
  have hI4 := (hI3.below hb).mono hb.size
  have hB4 := hB3.trans (hb.mono hB3.size)
  clear hb hI3 hB3
  go_wp2_with fail
  with_reducible refine (bound_any p len cap ss hreach dom x y hx hy w4 hI4).mono ?_
  rintro e w5 ⟨rfl, hb⟩
  have hI5 := (hI4.below hb).mono hb.size
  have hB5 := hB4.trans (hb.mono hB4.size)
  clear hb hI4 hB4
  go_wp2_with fail
  with_reducible refine (bound27_any p len cap ss hreach dom x y w5 hI5).mono ?_
  rintro e w6 ⟨rfl, hb⟩
  have hB6 := hB5.trans (hb.mono hB5.size)
  clear hb hI5 hB5
  go_wp2
  go_ret
  exact ⟨rfl, hB6⟩

end Go.Proofs.Ytjjljeepiehpaaa
