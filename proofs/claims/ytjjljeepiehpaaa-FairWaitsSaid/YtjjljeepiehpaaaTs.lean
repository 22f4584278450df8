/- parcloselaw27.FairWaits: it answers true. -/
import Derived.Test.YtjjljeepiehpaaaTr
import Derived.Test.YtjjljeepiehpaaaTh
import Derived.Deep.QuietTactic
import Derived.BigQuiet
namespace Go.Proofs.Ytjjljeepiehpaaa
open Go.RowKit Go.Shelf
attribute [local go_sem] Oper.semAt_some

theorem below_drewN {B : Nat} {w w' : World} (h : Below B w w') (n : Nat) : Below B w (w'.drewN n) := h.trans ⟨rfl, rfl, rfl, Nat.le_refl _, fun _ _ => rfl⟩

/-- the cells of the slots -/
theorem Slots.at {n₀ : Nat} {W : World} {p : Option Addr} {len cap : Nat} {ss : List (Int × Int)} (h : Slots n₀ W (.slice p len cap) ss) (h0 : 0 < ss.length) :
    ∃ b off, p = some ⟨b, off, none⟩ ∧ len = ss.length ∧ ss.length ≤ cap ∧ b < n₀ ∧ ∀ j, j < ss.length → W.cell? ⟨b, off + j * 2, none⟩ = some (.int .i64 (sdom ss j)) := by
  rcases h with ⟨a, c, e, rfl⟩ | ⟨b, off, c, e, hc, hb, hs⟩
  · simp at h0
  · injection e with e1 e2 e3
    subst e1 e2 e3
    exact ⟨b, off, rfl, rfl, hc, hb, fun j hj => (hs j hj).1⟩

theorem firstB_eq {ss : List (Int × Int)} {i k : Nat} (h : sdom ss k = sdom ss i) : firstB ss i (k + 1) = false := by rw [firstB, h]; simp
theorem firstB_ne {ss : List (Int × Int)} {i k : Nat} (h : sdom ss k ≠ sdom ss i) : firstB ss i (k + 1) = firstB ss i k := by rw [firstB, decide_eq_true h, Bool.and_true]
theorem sumTo_yes {ss : List (Int × Int)} {i : Nat} (h : firstB ss i i = true) : sumTo ss (i + 1) = sumTo ss i + shareF ss (sdom ss i) := by rw [sumTo, if_pos h]
theorem sumTo_no {ss : List (Int × Int)} {i : Nat} (h : firstB ss i i = false) : sumTo ss (i + 1) = sumTo ss i := by rw [sumTo, if_neg (by rw [h]; simp)]
theorem shareF_bd (ss : List (Int × Int)) (dom : Int) : 0 ≤ shareF ss dom ∧ shareF ss dom ≤ 256 := by
  have := shareTo_bd ss dom (cntN ss)
  unfold shareF
  have : cntN ss ≤ 16 := by unfold cntN; omega
  omega

set_option maxRecDepth 100000 in
set_option maxHeartbeats 4000000 in
theorem waits_any (p : Option Addr) (len cap : Nat) (ss : List (Int × Int)) (hreach : ss.length * 16 ≤ 140737488351232) (dom t : Int) (w : World) (hI : Slots w.heap.size w (.slice p len cap) ss) :
    Calls Try.prog 6 #[.slice p len cap, .int .i64 dom, .int .i64 t] w fun e W' => e = .returned (.bool true) ∧ Below w.heap.size w W' := by
  have hlen : len = ss.length := by
    rcases hI with ⟨a, c, e, rfl⟩ | ⟨b, off, c, e, _⟩ <;> injection e with e1 e2 e3
  subst hlen
  go_enter Try.func6, Try.ntmps6
  go_wp2_with fail
  with_reducible refine (cycle_any p ss.length cap ss hreach w hI).mono ?_
  rintro e w1 ⟨rfl, hb⟩
  have hI1 := (hI.below hb).mono hb.size
  have hB1 := hb
  clear hb
  go_wp2_with fail
  with_reducible refine (gap_any p ss.length cap ss hreach dom w1 hI1).mono ?_
  rintro e w2 ⟨rfl, hb⟩
  have hI2 := (hI1.below hb).mono hb.size
  have hB2 := hB1.trans (hb.mono hB1.size)
  clear hb hI1 hB1
  by_cases hneg : t < 0
  · go_wp2_with fail
    with_reducible refine (awake27 w2).mono ?_
    rintro e w3 ⟨rfl, hb⟩
    have hB3 := hB2.trans (hb.mono hB2.size)
    clear hb hI2 hB2
    go_wp2
    go_ret
    exact ⟨rfl, hB3⟩
  · by_cases hbig : 2305843009213693952 < t
    · go_wp2_with fail
      with_reducible refine (awake27 w2).mono ?_
      rintro e w3 ⟨rfl, hb⟩
      have hB3 := hB2.trans (hb.mono hB2.size)
      clear hb hI2 hB2
      go_wp2
      go_ret
      exact ⟨rfl, hB3⟩
    · have ht0 : 0 ≤ t := by omega
      have ht1 : t ≤ 2305843009213693952 := by omega
      have F1 := next_iff ss dom t ht0 ht1
      have F2 := next_within ss dom t ht0 ht1
      have F3 := gap_le ss dom
      have F4 := share_pos ss dom
      have F5 := cycF_bd ss
      have F6 := fun h => (next_ok (ss := ss) (dom := dom) (t := t) h).1
      have F8 := fun h => (next_ok (ss := ss) (dom := dom) (t := t) h).2.1
      have F7 : heldF t = t := by unfold heldF; omega
      obtain ⟨g, hg⟩ : ∃ g, g = gapF ss dom := ⟨_, rfl⟩
      obtain ⟨nx, hnx⟩ : ∃ n, n = nextF ss dom t := ⟨_, rfl⟩
      obtain ⟨sh, hsh⟩ : ∃ n, n = shareF ss dom := ⟨_, rfl⟩
      rw [F7] at F6
      rw [← hg] at F1 F2 F3 F4 ⊢
      rw [← hnx] at F1 F2 F6 F8
      rw [← hsh] at F4
      have HN := veil hnx
      have HS := veil hsh
      obtain ⟨c, hc⟩ : ∃ c, c = cycF ss := ⟨_, rfl⟩
      rw [← hc] at F3 F5 ⊢
      have HC := veil hc
      clear hnx hsh hg hc F7
      go_wp2_with fail
      with_reducible refine (next_any p ss.length cap ss hreach dom t w2 hI2).mono ?_
      rw [← HN.out]
      obtain ⟨n1, n2⟩ := nx
      dsimp only at F1 F2 F6 F8 ⊢
      rintro e w3 ⟨rfl, hb⟩
      have hI3 := (hI2.below hb).mono hb.size
      have hB3 := hB2.trans (hb.mono hB2.size)
      clear hb hI2 hB2 HN
      cases n2 with
      | false =>
        have G1 : g ≤ 0 := by
          have := of_decide_eq_false F1.symm; omega
        have G2 : sh ≤ 0 := by
          rcases Int.lt_or_le 0 sh with h | h
          · have := F4.1 h; omega
          · exact h
        clear F1 F2 F4 F6 F8
        go_wp2_with fail
        with_reducible refine (share_any p ss.length cap ss hreach dom _ w3 hI3).mono ?_
        rw [← HS.out]
        rintro e w4 ⟨rfl, hb⟩
        have hI4 := (hI3.below hb).mono hb.size
        have hB4 := hB3.trans (hb.mono hB3.size)
        clear hb hI3 hB3
        go_wp2_with fail
        go_loopw [11, 12] (fun sv iv wr => ∃ i : Nat, i ≤ ss.length ∧ iv = .int .i64 i ∧ sv = .int .i64 (sumTo ss i) ∧ Below w.heap.size w wr) (fun _ iv _ => ss.length - (intOf iv).toNat)
        case atStart => exact ⟨0, Nat.zero_le _, rfl, rfl, hB4⟩
        case round =>
          obtain ⟨i, hi, rfl, rfl, hb⟩ := hrel
          have hsb := sumTo_bd ss i
          have hIr := (hI.below hb)
          by_cases hlt : i < ss.length
          · obtain ⟨b, off, rfl, -, hcp, hbw, hcs⟩ := hIr.at (by omega)
            have hci := hcs i hlt
            have HCS := veil hcs
            clear hcs
            have hil : decide ((i : Int) < ss.length) = true := by simp; omega
            obtain ⟨wo, hwo⟩ : ∃ wo : World, wo = wr := ⟨_, rfl⟩
            subst hwo
            go_wp2_with fail
            go_loopw [13, 14] (fun fv kv wx => ∃ k : Nat, k ≤ i ∧ kv = .int .i64 k ∧ fv = .bool (firstB ss i k) ∧ Below w.heap.size w wx) (fun _ kv _ => i - (intOf kv).toNat)
            case atStart => exact ⟨0, Nat.zero_le _, rfl, rfl, hb⟩
            case round =>
              obtain ⟨k, hk, rfl, rfl, hbx⟩ := hrel
              have hIx := hI.below hbx
              by_cases hki : k < i
              · obtain ⟨b', off', e, -, -, hbx', hcs⟩ := hIx.at (by omega)
                injection e with e
                injection e with e1 e2
                subst e1 e2
                have hca := hcs i hlt
                have hcb := hcs k (by omega)
                have hkl : decide ((k : Int) < ss.length) = true := by simp; omega
                have hkl' : decide ((k : Int) < i) = true := by simp; omega
                obtain ⟨x, hx⟩ : ∃ x, x = sdom ss i := ⟨_, rfl⟩
                obtain ⟨y, hy⟩ : ∃ y, y = sdom ss k := ⟨_, rfl⟩
                rw [← hx] at hca hci
                rw [← hy] at hcb
                obtain ⟨f, hf⟩ : ∃ f, f = firstB ss i k := ⟨_, rfl⟩
                rw [← hf]
                by_cases hxy : y = x
                · have hfn := firstB_eq (i := i) (k := k) (by rw [← hx, ← hy]; exact hxy)
                  have HF := veil hfn
                  subst hxy
                  clear hfn hx hy hf hcs
                  cases f with
                  | true =>
                    go_wp2_with fail
                    go_quiet (fail)
                    go_wp2_with fail
                    go_roundw
                    case rel => exact ⟨k + 1, by omega, by go_num, by rw [HF.out], below_drewN hbx _⟩
                    case measure => simp [intOf]; omega
                  | false =>
                    go_wp2_with fail
                    go_quiet (fail)
                    go_wp2_with fail
                    go_roundw
                    case rel => exact ⟨k + 1, by omega, by go_num, by rw [HF.out], below_drewN hbx _⟩
                    case measure => simp [intOf]; omega
                · have hfn := firstB_ne (i := i) (k := k) (by rw [← hx, ← hy]; exact hxy)
                  rw [← hf] at hfn
                  have HF := veil hfn
                  have hne : (y == x) = false := by simpa using hxy
                  clear hfn hx hy hf hcs
                  cases f with
                  | true =>
                    go_wp2_with fail
                    go_quiet (fail)
                    go_wp2_with fail
                    go_roundw
                    case rel => exact ⟨k + 1, by omega, by go_num, by rw [HF.out]; simp [bne, hne], below_drewN hbx _⟩
                    case measure => simp [intOf]; omega
                  | false =>
                    go_wp2_with fail
                    go_quiet (fail)
                    go_wp2_with fail
                    go_roundw
                    case rel => exact ⟨k + 1, by omega, by go_num, by rw [HF.out], below_drewN hbx _⟩
                    case measure => simp [intOf]; omega
              · have hki' : k = i := by omega
                subst hki'
                obtain ⟨b', off', e, -, -, hbx', hcs⟩ := hIx.at (by omega)
                injection e with e
                injection e with e1 e2
                subst e1 e2
                have hca := hcs k hlt
                obtain ⟨f, hf⟩ : ∃ f, f = firstB ss k k := ⟨_, rfl⟩
                rw [← hf]
                have hkk : decide ((k : Int) < k) = false := by simp
                have hsn := shareF_bd ss (sdom ss k)
                obtain ⟨x, hx⟩ : ∃ x, x = sdom ss k := ⟨_, rfl⟩
                rw [← hx] at hca hci hsn
                cases f with
                | true =>
                  have HF := veil (sumTo_yes hf.symm)
                  rw [← hx] at HF
                  clear hcs hx hf
                  go_wp2_with fail
                  with_reducible refine (share_any _ ss.length cap ss hreach x _ wr hIx).mono ?_
                  rintro e w5 ⟨rfl, hb5⟩
                  have hB5 := hbx.trans (hb5.mono hbx.size)
                  clear hb5 hbx hIx hca
                  go_wp2_with fail
                  go_roundw
                  case rel => exact ⟨k + 1, by omega, by go_num, by rw [HF.out], hB5⟩
                  case measure => simp [intOf]; omega
                | false =>
                  have HF := veil (sumTo_no hf.symm)
                  clear hcs hx hf
                  go_wp2_with fail
                  go_roundw
                  case rel => exact ⟨k + 1, by omega, by go_num, by rw [HF.out], hbx⟩
                  case measure => simp [intOf]; omega
          · have hik : i = ss.length := by omega
            subst hik
            have hil : decide ((ss.length : Int) < ss.length) = false := by simp
            have hall := sum_all ss
            rw [← HC.out] at hall
            rw [hall]
            clear hall hIr hsb
            go_wp2_with fail
            with_reducible refine (awake27 wr).mono ?_
            rintro e w5 ⟨rfl, hb5⟩
            have hB5 := hb.trans (hb5.mono hb.size)
            clear hb5
            go_wp2
            go_ret
            exact ⟨rfl, hB5⟩
      | true =>
        have G1 : 0 < g := of_decide_eq_true F1.symm
        have G2 : 0 < sh := F4.2 G1
        have G3 := F2 rfl
        have G4 := F6 rfl
        have G5 := F8 rfl
        clear F1 F2 F4 F6 F8
        go_wp2_with fail
        with_reducible refine (share_any p ss.length cap ss hreach dom _ w3 hI3).mono ?_
        rw [← HS.out]
        rintro e w4 ⟨rfl, hb⟩
        have hI4 := (hI3.below hb).mono hb.size
        have hB4 := hB3.trans (hb.mono hB3.size)
        clear hb hI3 hB3
        go_wp2_with fail
        go_loopw [11, 12] (fun sv iv wr => ∃ i : Nat, i ≤ ss.length ∧ iv = .int .i64 i ∧ sv = .int .i64 (sumTo ss i) ∧ Below w.heap.size w wr) (fun _ iv _ => ss.length - (intOf iv).toNat)
        case atStart => exact ⟨0, Nat.zero_le _, rfl, rfl, hB4⟩
        case round =>
          obtain ⟨i, hi, rfl, rfl, hb⟩ := hrel
          have hsb := sumTo_bd ss i
          have hIr := (hI.below hb)
          by_cases hlt : i < ss.length
          · obtain ⟨b, off, rfl, -, hcp, hbw, hcs⟩ := hIr.at (by omega)
            have hci := hcs i hlt
            have HCS := veil hcs
            clear hcs
            have hil : decide ((i : Int) < ss.length) = true := by simp; omega
            obtain ⟨wo, hwo⟩ : ∃ wo : World, wo = wr := ⟨_, rfl⟩
            subst hwo
            go_wp2_with fail
            go_loopw [13, 14] (fun fv kv wx => ∃ k : Nat, k ≤ i ∧ kv = .int .i64 k ∧ fv = .bool (firstB ss i k) ∧ Below w.heap.size w wx) (fun _ kv _ => i - (intOf kv).toNat)
            case atStart => exact ⟨0, Nat.zero_le _, rfl, rfl, hb⟩
            case round =>
              obtain ⟨k, hk, rfl, rfl, hbx⟩ := hrel
              have hIx := hI.below hbx
              by_cases hki : k < i
              · obtain ⟨b', off', e, -, -, hbx', hcs⟩ := hIx.at (by omega)
                injection e with e
                injection e with e1 e2
                subst e1 e2
                have hca := hcs i hlt
                have hcb := hcs k (by omega)
                have hkl : decide ((k : Int) < ss.length) = true := by simp; omega
                have hkl' : decide ((k : Int) < i) = true := by simp; omega
                obtain ⟨x, hx⟩ : ∃ x, x = sdom ss i := ⟨_, rfl⟩
                obtain ⟨y, hy⟩ : ∃ y, y = sdom ss k := ⟨_, rfl⟩
                rw [← hx] at hca hci
                rw [← hy] at hcb
                obtain ⟨f, hf⟩ : ∃ f, f = firstB ss i k := ⟨_, rfl⟩
                rw [← hf]
                by_cases hxy : y = x
                · have hfn := firstB_eq (i := i) (k := k) (by rw [← hx, ← hy]; exact hxy)
                  have HF := veil hfn
                  subst hxy
                  clear hfn hx hy hf hcs
                  cases f with
                  | true =>
                    go_wp2_with fail
                    go_quiet (fail)
                    go_wp2_with fail
                    go_roundw
                    case rel => exact ⟨k + 1, by omega, by go_num, by rw [HF.out], below_drewN hbx _⟩
                    case measure => simp [intOf]; omega
                  | false =>
                    go_wp2_with fail
                    go_quiet (fail)
                    go_wp2_with fail
                    go_roundw
                    case rel => exact ⟨k + 1, by omega, by go_num, by rw [HF.out], below_drewN hbx _⟩
                    case measure => simp [intOf]; omega
                · have hfn := firstB_ne (i := i) (k := k) (by rw [← hx, ← hy]; exact hxy)
                  rw [← hf] at hfn
                  have HF := veil hfn
                  have hne : (y == x) = false := by simpa using hxy
                  clear hfn hx hy hf hcs
                  cases f with
                  | true =>
                    go_wp2_with fail
                    go_quiet (fail)
                    go_wp2_with fail
                    go_roundw
                    case rel => exact ⟨k + 1, by omega, by go_num, by rw [HF.out]; simp [bne, hne], below_drewN hbx _⟩
                    case measure => simp [intOf]; omega
                  | false =>
                    go_wp2_with fail
                    go_quiet (fail)
                    go_wp2_with fail
                    go_roundw
                    case rel => exact ⟨k + 1, by omega, by go_num, by rw [HF.out], below_drewN hbx _⟩
                    case measure => simp [intOf]; omega
              · have hki' : k = i := by omega
                subst hki'
                obtain ⟨b', off', e, -, -, hbx', hcs⟩ := hIx.at (by omega)
                injection e with e
                injection e with e1 e2
                subst e1 e2
                have hca := hcs k hlt
                obtain ⟨f, hf⟩ : ∃ f, f = firstB ss k k := ⟨_, rfl⟩
                rw [← hf]
                have hkk : decide ((k : Int) < k) = false := by simp
                have hsn := shareF_bd ss (sdom ss k)
                obtain ⟨x, hx⟩ : ∃ x, x = sdom ss k := ⟨_, rfl⟩
                rw [← hx] at hca hci hsn
                cases f with
                | true =>
                  have HF := veil (sumTo_yes hf.symm)
                  rw [← hx] at HF
                  clear hcs hx hf
                  go_wp2_with fail
                  with_reducible refine (share_any _ ss.length cap ss hreach x _ wr hIx).mono ?_
                  rintro e w5 ⟨rfl, hb5⟩
                  have hB5 := hbx.trans (hb5.mono hbx.size)
                  clear hb5 hbx hIx hca
                  go_wp2_with fail
                  go_roundw
                  case rel => exact ⟨k + 1, by omega, by go_num, by rw [HF.out], hB5⟩
                  case measure => simp [intOf]; omega
                | false =>
                  have HF := veil (sumTo_no hf.symm)
                  clear hcs hx hf
                  go_wp2_with fail
                  go_roundw
                  case rel => exact ⟨k + 1, by omega, by go_num, by rw [HF.out], hbx⟩
                  case measure => simp [intOf]; omega
          · have hik : i = ss.length := by omega
            subst hik
            have hil : decide ((ss.length : Int) < ss.length) = false := by simp
            have hall := sum_all ss
            rw [← HC.out] at hall
            rw [hall]
            clear hall hIr hsb
            go_wp2_with fail
            with_reducible refine (awake27 wr).mono ?_
            rintro e w5 ⟨rfl, hb5⟩
            have hB5 := hb.trans (hb5.mono hb.size)
            clear hb5
            go_wp2
            go_ret
            exact ⟨rfl, hB5⟩

end Go.Proofs.Ytjjljeepiehpaaa
