/- fair.Over, fair.Gap, fair.Bound: what they come to. -/
import Derived.Test.YtjjljeepiehpaaaTf
namespace Go.Proofs.Ytjjljeepiehpaaa
open Go.RowKit Go.Shelf
attribute [local go_sem] Oper.semAt_some

def overF (ss : List (Int × Int)) (dom t d : Int) : Int × Bool := nextF ss dom (addF t d)

set_option maxRecDepth 100000 in
set_option maxHeartbeats 2000000 in
theorem over_any (a : Option Addr) (len cap : Nat) (ss : List (Int × Int)) (hreach : ss.length * 16 ≤ 140737488351232) (dom t d : Int) (w : World) (hI : Slots w.heap.size w (.slice a len cap) ss) :
    Calls Try.prog 22 #[.slice a len cap, .int .i64 dom, .int .i64 t, .int .i64 d] w fun e W' =>
      e = .returned (.tuple #[.int .i64 (overF ss dom t d).1, .bool (overF ss dom t d).2]) ∧ Below w.heap.size w W' := by
  go_enter Try.func22, Try.ntmps22
  go_wp2_with fail
  with_reducible refine (add_any t d w).mono ?_
  rintro e w1 ⟨rfl, hb1⟩
  have hI1 := (hI.below hb1).mono hb1.size
  go_wp2_with fail
  with_reducible refine (next_any a len cap ss hreach dom _ w1 hI1).mono ?_
  rintro e w2 ⟨rfl, hb2⟩
  have hB := hb1.trans (hb2.mono hb1.size)
  clear hb1 hb2 hI1 hI
  go_wp2
  go_ret2
  exact ⟨rfl, hB⟩

theorem IsStart.cyc {ss : List (Int × Int)} {dom T : Int} (h : IsStart ss dom T) : IsStart ss dom (T + cycF ss) ∧ 0 < cycF ss := by
  obtain ⟨h0, x, hx, hd, hm⟩ := h
  have hb := seq_bd ss hx
  refine ⟨⟨by omega, x, hx, hd, ?_⟩, by omega⟩
  rw [← hm]
  have := Int.add_mul_emod_self_left T (cycF ss) 1
  rwa [Int.mul_one] at this
theorem IsStart.down {ss : List (Int × Int)} {dom T : Int} (h : IsStart ss dom T) : IsStart ss dom (T % cycF ss) ∧ T % cycF ss < cycF ss ∧ 0 ≤ T % cycF ss := by
  obtain ⟨h0, x, hx, hd, hm⟩ := h
  have hb := seq_bd ss hx
  refine ⟨⟨by omega, x, hx, hd, ?_⟩, by omega, by omega⟩
  rw [Int.emod_emod_of_dvd _ (Int.dvd_refl _)]
  exact hm
/-- behind a start comes another one, within a cycle -/
theorem next_of_start {ss : List (Int × Int)} {dom t : Int} (h : IsStart ss dom t) (ht : t ≤ 2305843009213693952) :
    (nextF ss dom (t + 1)).2 = true ∧ t + 1 ≤ (nextF ss dom (t + 1)).1 ∧ (nextF ss dom (t + 1)).1 ≤ t + cycF ss ∧ IsStart ss dom (nextF ss dom (t + 1)).1 := by
  have h0 := h.1
  have hc := cycF_bd ss
  have hcy := h.cyc
  have hh : heldF (t + 1) = t + 1 := by unfold heldF; omega
  cases hn : (nextF ss dom (t + 1)).2 with
  | false =>
    have := (next_none hn).2 (t + cycF ss) (by omega) (by omega)
    exact absurd hcy.1 this
  | true =>
    obtain ⟨h1, h2, h3, h4⟩ := next_ok hn
    refine ⟨rfl, by omega, ?_, h3⟩
    rcases Int.lt_or_le (t + cycF ss) (nextF ss dom (t + 1)).1 with h5 | h5
    · exact absurd hcy.1 (h4 _ (by omega) h5)
    · exact h5
/-- the first one is within the first cycle -/
theorem first_of {ss : List (Int × Int)} {dom : Int} (h : (nextF ss dom 0).2 = true) : IsStart ss dom (nextF ss dom 0).1 ∧ (nextF ss dom 0).1 < cycF ss := by
  obtain ⟨h1, h2, h3, h4⟩ := next_ok h
  refine ⟨h3, ?_⟩
  have hd := h3.down
  rcases Int.lt_or_le (nextF ss dom 0).1 (cycF ss) with h5 | h5
  · exact h5
  · exact absurd hd.1 (h4 _ (by unfold heldF; omega) (by omega))

def gapGo (ss : List (Int × Int)) (dom lim : Int) : Nat → Int → Int → Int
  | 0, _, most => most
  | f + 1, t, most => if t < lim then gapGo ss dom lim f (nextF ss dom (t + 1)).1 (max most ((nextF ss dom (t + 1)).1 - t)) else most
def gapF (ss : List (Int × Int)) (dom : Int) : Int := if (nextF ss dom 0).2 = true then gapGo ss dom ((nextF ss dom 0).1 + cycF ss) 600 (nextF ss dom 0).1 0 else 0
theorem gapGo_end (ss : List (Int × Int)) (dom lim : Int) (f : Nat) (t most : Int) (h : ¬ t < lim) : gapGo ss dom lim f t most = most := by
  cases f with
  | zero => rfl
  | succ f => rw [gapGo, if_neg h]

set_option maxRecDepth 100000 in
set_option maxHeartbeats 2000000 in
theorem gap_any (a : Option Addr) (len cap : Nat) (ss : List (Int × Int)) (hreach : ss.length * 16 ≤ 140737488351232) (dom : Int) (w : World) (hI : Slots w.heap.size w (.slice a len cap) ss) :
    Calls Try.prog 20 #[.slice a len cap, .int .i64 dom] w fun e W' => e = .returned (.int .i64 (gapF ss dom)) ∧ Below w.heap.size w W' := by
  have hcb := cycF_bd ss
  obtain ⟨c, hc⟩ : ∃ c, c = cycF ss := ⟨_, rfl⟩
  rw [← hc] at hcb
  go_enter Try.func20, Try.ntmps20
  go_wp2_with fail
  with_reducible refine (next_any a len cap ss hreach dom _ w hI).mono ?_
  rintro e w1 ⟨rfl, hb1⟩
  obtain ⟨first, hf⟩ : ∃ f, f = (nextF ss dom 0).1 := ⟨_, rfl⟩
  rw [← hf]
  cases hok : (nextF ss dom 0).2 with
  | false =>
    have hg : gapF ss dom = 0 := by unfold gapF; rw [hok]; rfl
    have HG := veil hg
    clear hg hf hc hok
    go_wp2_with fail
    go_loopw [5] (fun v wr => v = .int .i64 0 ∧ Below w.heap.size w wr) (fun _ _ => 0)
    case atStart => exact ⟨rfl, hb1⟩
    case round =>
      obtain ⟨rfl, hb⟩ := hrel
      go_wp2
      go_ret
      exact ⟨ret_int HG.out.symm, hb⟩
  | true =>
    have h1 := first_of hok
    rw [← hf, ← hc] at h1
    obtain ⟨hst, hfl⟩ := h1
    have hg : gapF ss dom = gapGo ss dom (first + c) 600 first 0 := by unfold gapF; rw [hok, if_pos rfl, ← hf, ← hc]
    have HG := veil hg
    have HC := veil hc
    clear hg hf hc hok
    have hf0 := hst.1
    obtain ⟨lim, hlim⟩ : ∃ l, l = first + c := ⟨_, rfl⟩
    have HL := veil hlim
    have hlb : 0 ≤ lim ∧ lim ≤ 512 := by omega
    clear hlim
    go_wp2_with fail
    go_loopw [5, 8] (fun m tv wr => ∃ (f : Nat) (t most : Int), m = .int .i64 most ∧ tv = .int .i64 t ∧ gapGo ss dom lim f t most = gapF ss dom ∧ lim - t ≤ f ∧ (0 ≤ t ∧ t ≤ 1000 ∧ 0 ≤ most ∧ most ≤ 1000) ∧ IsStart ss dom t ∧ Below w.heap.size w wr) (fun _ tv _ => (lim - intOf tv).toNat)
    case atStart => exact ⟨600, first, 0, rfl, rfl, by rw [HL.out, HG.out], by omega, by omega, hst, hb1⟩
    case round =>
      obtain ⟨f, t, most, rfl, rfl, hgo, hlt, ⟨ht0, ht1, hm0, hm1⟩, hs, hb⟩ := hrel
      have hI1 := (hI.below hb).mono hb.size
      go_wp2_with fail
      with_reducible refine (cycle_any a len cap ss hreach _ hI1).mono ?_
      rw [← HC.out]
      rintro e w2 ⟨rfl, hb2⟩
      have hB2 := hb.trans (hb2.mono hb.size)
      have hI2 := (hI.below hB2).mono hB2.size
      clear hb hb2 hI1
      have hle := HL.out
      by_cases htl : t < lim
      · have htl' : t < first + c := by omega
        obtain ⟨hn1, hn2, hn3, hn4⟩ := next_of_start hs (by omega)
        rw [← HC.out] at hn3
        obtain ⟨nx, hnx⟩ : ∃ n, n = nextF ss dom (t + 1) := ⟨_, rfl⟩
        have hgs : ∃ f', f = f' + 1 ∧ gapGo ss dom lim f' nx.1 (max most (nx.1 - t)) = gapF ss dom := by
          cases f with
          | zero => omega
          | succ f' =>
            refine ⟨f', rfl, ?_⟩
            rw [gapGo, if_pos htl] at hgo
            rw [hnx]; exact hgo
        obtain ⟨f', hff, hgs⟩ := hgs
        have HN := veil hnx
        rw [← hnx] at hn1 hn2 hn3 hn4
        have HGS := veil hgs
        have HS4 := veil hn4
        have HN1 := veil hn1
        clear hnx hgs hgo hle htl hn4 hs hn1
        go_wp2_with fail
        with_reducible refine (next_any a len cap ss hreach dom _ w2 hI2).mono ?_
        rw [← HN.out]
        rintro e w3 ⟨rfl, hb3⟩
        have hB3 := hB2.trans (hb3.mono hB2.size)
        clear hb3 hB2 hI2
        obtain ⟨n1, n2⟩ := nx
        dsimp only at hn2 hn3 ⊢
        rcases (by omega : most < n1 - t ∨ n1 - t ≤ most) with hmx | hmx
        · have hmm : max most (n1 - t) = n1 - t := by omega
          have HM := veil hmm
          clear hmm
          go_wp2_with fail
          go_roundw
          case rel => exact ⟨f', n1, _, by go_num, by go_num, by have := HGS.out; dsimp only at this; rw [HM.out] at this; exact this, by omega, by omega, HS4.out, hB3⟩
          case measure => have := HL.out; simp [intOf]; omega
        · have hmm : max most (n1 - t) = most := by omega
          have HM := veil hmm
          clear hmm
          go_wp2_with fail
          go_roundw
          case rel => exact ⟨f', n1, _, by go_num, by go_num, by have := HGS.out; dsimp only at this; rw [HM.out] at this; exact this, by omega, by omega, HS4.out, hB3⟩
          case measure => have := HL.out; simp [intOf]; omega
      · have htl' : ¬ t < first + c := by omega
        rw [gapGo_end _ _ _ _ _ _ htl] at hgo
        have HGO := veil hgo
        clear hgo hle htl
        go_wp2
        go_ret
        exact ⟨ret_int HGO.out, hB2⟩

def boundF (ss : List (Int × Int)) (dom x y : Int) : Int := if gapF ss dom = 0 then 0 else timesF x (addF (gapF ss dom) (timesF y (cycF ss)))

set_option maxRecDepth 100000 in
set_option maxHeartbeats 2000000 in
theorem bound_any (a : Option Addr) (len cap : Nat) (ss : List (Int × Int)) (hreach : ss.length * 16 ≤ 140737488351232) (dom x y : Int) (hx : x ≤ 9223372036854775807) (hy : y ≤ 9223372036854775807) (w : World) (hI : Slots w.heap.size w (.slice a len cap) ss) :
    Calls Try.prog 25 #[.slice a len cap, .int .i64 dom, .int .i64 x, .int .i64 y] w fun e W' => e = .returned (.int .i64 (boundF ss dom x y)) ∧ Below w.heap.size w W' := by
  go_enter Try.func25, Try.ntmps25
  go_wp2_with fail
  with_reducible refine (gap_any a len cap ss hreach dom w hI).mono ?_
  rintro e w1 ⟨rfl, hb1⟩
  have hI1 := (hI.below hb1).mono hb1.size
  obtain ⟨g, hg⟩ : ∃ g, g = gapF ss dom := ⟨_, rfl⟩
  have HG := veil hg
  rw [← hg]
  clear hg
  by_cases hg0 : g = 0
  · have hbo : boundF ss dom x y = 0 := by unfold boundF; rw [← HG.out, if_pos hg0]
    have HB := veil hbo
    clear hbo
    subst hg0
    go_wp2
    go_ret
    exact ⟨ret_int HB.out.symm, hb1⟩
  · have hbo : boundF ss dom x y = timesF x (addF g (timesF y (cycF ss))) := by unfold boundF; rw [← HG.out, if_neg hg0]
    have HB := veil hbo
    clear hbo
    go_wp2_with fail
    with_reducible refine (cycle_any a len cap ss hreach w1 hI1).mono ?_
    rintro e w2 ⟨rfl, hb2⟩
    have hB2 := hb1.trans (hb2.mono hb1.size)
    have hcb := cycF_bd ss
    clear hb1 hb2 hI1
    go_wp2_with fail
    with_reducible refine (times_any y _ hy (by omega) w2).mono ?_
    rintro e w3 ⟨rfl, hb3⟩
    have hB3 := hB2.trans (hb3.mono hB2.size)
    clear hB2 hb3
    go_wp2_with fail
    with_reducible refine (add_any g _ w3).mono ?_
    rintro e w4 ⟨rfl, hb4⟩
    have hB4 := hB3.trans (hb4.mono hB3.size)
    clear hB3 hb4
    have hab := addF_bd g (timesF y (cycF ss))
    go_wp2_with fail
    with_reducible refine (times_any x _ hx (by omega) w4).mono ?_
    rintro e w5 ⟨rfl, hb5⟩
    have hB5 := hB4.trans (hb5.mono hB4.size)
    clear hB4 hb5
    go_wp2
    go_ret
    exact ⟨ret_int HB.out.symm, hB5⟩

end Go.Proofs.Ytjjljeepiehpaaa
