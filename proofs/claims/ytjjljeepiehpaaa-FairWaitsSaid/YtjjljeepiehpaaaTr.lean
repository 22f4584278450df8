/- FairWaits, the plain law: Next and Gap, shares and the cycle. No program in sight. -/
import Derived.Test.YtjjljeepiehpaaaTl
namespace Go.Proofs.Ytjjljeepiehpaaa

theorem IsStart.into {ss : List (Int × Int)} {dom T : Int} (h : IsStart ss dom T) (t : Int) (h0 : 0 ≤ t) : ∃ T', IsStart ss dom T' ∧ t ≤ T' ∧ T' < t + cycF ss := by
  have hc := h.cyc.2
  have hd := Int.emod_add_mul_ediv (T - t) (cycF ss)
  have hr := Int.emod_nonneg (T - t) (show cycF ss ≠ 0 by omega)
  have hr2 := Int.emod_lt_of_pos (T - t) hc
  have h2 := h.shift (-((T - t) / cycF ss)) (by rw [Int.mul_neg]; omega)
  rw [Int.mul_neg] at h2
  exact ⟨_, h2, by omega, by omega⟩
/-- the start before a tick, where there is any start -/
theorem start_before {ss : List (Int × Int)} {dom T : Int} (h : IsStart ss dom T) (t : Int) (ht : cycF ss ≤ t) : ∃ p, IsStart ss dom p ∧ p < t ∧ ∀ m, p < m → m < t → ¬ IsStart ss dom m := by
  have hc := h.cyc.2
  -- among the ticks t - 1 - d
  have key : ∀ d : Nat, (∃ p, IsStart ss dom p ∧ t - d ≤ p ∧ p < t ∧ ∀ m, p < m → m < t → ¬ IsStart ss dom m) ∨ ∀ m, t - d ≤ m → m < t → ¬ IsStart ss dom m := by
    intro d
    induction d with
    | zero => exact .inr fun m h1 h2 => by omega
    | succ d ih =>
      rcases ih with ⟨p, h1, h2, h3, h4⟩ | hn
      · exact .inl ⟨p, h1, by omega, h3, h4⟩
      · by_cases hs : IsStart ss dom (t - ((d + 1 : Nat) : Int))
        · exact .inl ⟨_, hs, by omega, by omega, fun m h1 h2 => hn m (by omega) h2⟩
        · refine .inr fun m h1 h2 => ?_
          by_cases he : m = t - ((d + 1 : Nat) : Int)
          · rw [he]; exact hs
          · exact hn m (by omega) h2
  rcases key (cycF ss).toNat with ⟨p, h1, _, h3, h4⟩ | hn
  · exact ⟨p, h1, h3, h4⟩
  · exfalso
    obtain ⟨T', h2, h3, h4⟩ := h.into (t - cycF ss) (by omega)
    exact hn T' (by omega) (by omega) h2

theorem some_start {ss : List (Int × Int)} {dom : Int} (h : 0 < gapF ss dom) : ∃ T, IsStart ss dom T := by
  rcases gapF_spec ss dom with ⟨h0, _⟩ | ⟨⟨a, b, hab, _⟩, _⟩
  · omega
  · exact ⟨a, hab.1⟩
theorem gap_pos {ss : List (Int × Int)} {dom T : Int} (h : IsStart ss dom T) : 0 < gapF ss dom := by
  rcases gapF_spec ss dom with ⟨_, hn⟩ | ⟨⟨a, b, hab, he⟩, _⟩
  · exact absurd h (hn T)
  · have := hab.2.2.1; omega
theorem gap_le (ss : List (Int × Int)) (dom : Int) : gapF ss dom ≤ cycF ss := by
  rcases gapF_spec ss dom with ⟨h0, _⟩ | ⟨⟨a, b, hab, he⟩, _⟩
  · have := cycF_bd ss; omega
  · have h1 := hab.1.cyc
    have := hab.le_of h1.1 (by omega)
    omega
theorem next_iff (ss : List (Int × Int)) (dom t : Int) (h0 : 0 ≤ t) (h1 : t ≤ 2305843009213693952) : (nextF ss dom t).2 = decide (0 < gapF ss dom) := by
  cases hn : (nextF ss dom t).2 with
  | true => exact (decide_eq_true (gap_pos (next_ok hn).2.2.1)).symm
  | false =>
    symm
    refine decide_eq_false fun hg => ?_
    obtain ⟨T, hT⟩ := some_start hg
    have hcb := cycF_bd ss
    have hc := hT.cyc.2
    obtain ⟨T', h3, h4, h5⟩ := hT.into t h0
    exact (next_none hn).2 T' (by unfold heldF; omega) (by omega) h3
theorem next_within (ss : List (Int × Int)) (dom t : Int) (h0 : 0 ≤ t) (h1 : t ≤ 2305843009213693952) (hn : (nextF ss dom t).2 = true) : (nextF ss dom t).1 - t < gapF ss dom := by
  obtain ⟨n1, n2, n3, n4⟩ := next_ok hn
  have hcb := cycF_bd ss
  have hc := n3.cyc.2
  have hh : heldF t = t := by unfold heldF; omega
  rw [hh] at n1 n4
  -- all shifted by a cycle
  obtain ⟨p, p1, p2, p3⟩ := start_before n3 (t + cycF ss) (by omega)
  have hk := n3.shift 1 (by omega)
  rw [Int.mul_one] at hk
  have hcon : Consec ss dom p ((nextF ss dom t).1 + cycF ss) := by
    refine ⟨p1, hk, by omega, fun m m1 m2 hm => ?_⟩
    rcases Int.lt_or_le m (t + cycF ss) with h | h
    · exact p3 m m1 h hm
    · have h2 := hm.shift (-1) (by omega)
      have e : m + cycF ss * -1 = m - cycF ss := by omega
      rw [e] at h2
      exact n4 (m - cycF ss) (by omega) (by omega) h2
  rcases gapF_spec ss dom with ⟨_, hno⟩ | ⟨_, hm⟩
  · exact absurd n3 (hno _)
  · have := hm _ _ hcon; omega

/-! ### shares -/
theorem share_pos_of (ss : List (Int × Int)) (dom : Int) : ∀ k, 0 < shareTo ss dom k ↔ ∃ x ∈ seqTo ss k, sdom ss x.1 = dom
  | 0 => by simp [shareTo, seqTo]
  | k + 1 => by
    have ih := share_pos_of ss dom k
    have hb := shareTo_bd ss dom k
    unfold shareTo seqTo
    by_cases ho : okLen (slen ss k) = true
    · have h3 : 1 ≤ slen ss k ∧ slen ss k ≤ 16 := by simpa [okLen] using ho
      rw [if_pos ho]
      by_cases hd : sdom ss k = dom
      · rw [if_pos ⟨ho, hd⟩]
        exact ⟨fun _ => ⟨(k, fromTo ss k), by simp, hd⟩, fun _ => by omega⟩
      · rw [if_neg (fun h => hd h.2), ih]
        constructor
        · rintro ⟨x, hx, e⟩; exact ⟨x, List.mem_append_left _ hx, e⟩
        · rintro ⟨x, hx, e⟩
          rcases List.mem_append.1 hx with h | h
          · exact ⟨x, h, e⟩
          · simp only [List.mem_singleton] at h
            subst h
            exact absurd e hd
    · rw [if_neg ho, if_neg (fun h => ho h.1)]
      exact ih
theorem share_pos (ss : List (Int × Int)) (dom : Int) : 0 < shareF ss dom ↔ 0 < gapF ss dom := by
  unfold shareF
  rw [share_pos_of]
  constructor
  · rintro ⟨x, hx, e⟩
    have hb := seq_bd ss hx
    exact gap_pos (T := x.2) ⟨hb.1, x, hx, e, Int.emod_eq_of_lt hb.1 hb.2⟩
  · intro h
    obtain ⟨T, _, x, hx, e, _⟩ := some_start h
    exact ⟨x, hx, e⟩

/-- does no slot before i have i's domain? -/
def firstB (ss : List (Int × Int)) (i : Nat) : Nat → Bool
  | 0 => true
  | k + 1 => firstB ss i k && decide (sdom ss k ≠ sdom ss i)
theorem firstB_iff (ss : List (Int × Int)) (i : Nat) : ∀ k, firstB ss i k = true ↔ ∀ j, j < k → sdom ss j ≠ sdom ss i
  | 0 => by simp [firstB]
  | k + 1 => by
    rw [firstB, Bool.and_eq_true, firstB_iff ss i k, decide_eq_true_eq]
    constructor
    · rintro ⟨h1, h2⟩ j hj
      by_cases e : j = k
      · rw [e]; exact h2
      · exact h1 j (by omega)
    · intro h
      exact ⟨fun j hj => h j (by omega), h k (by omega)⟩
def sumTo (ss : List (Int × Int)) : Nat → Int
  | 0 => 0
  | i + 1 => if firstB ss i i = true then sumTo ss i + shareF ss (sdom ss i) else sumTo ss i
/-- the ticks of the first n slots whose domain is one of the first i slots' -/
def seen (ss : List (Int × Int)) (i k : Nat) : Bool := (List.range i).any fun j => decide (sdom ss j = sdom ss k)
theorem seen_iff (ss : List (Int × Int)) (i k : Nat) : seen ss i k = true ↔ ∃ j, j < i ∧ sdom ss j = sdom ss k := by
  simp [seen, List.any_eq_true, List.mem_range]
def partTo (ss : List (Int × Int)) (i : Nat) : Nat → Int
  | 0 => 0
  | k + 1 => if okLen (slen ss k) = true ∧ seen ss i k = true then partTo ss i k + slen ss k else partTo ss i k
theorem partTo_bd (ss : List (Int × Int)) (i : Nat) : ∀ k, 0 ≤ partTo ss i k ∧ partTo ss i k ≤ fromTo ss k
  | 0 => by simp [partTo, fromTo]
  | k + 1 => by
    have h := partTo_bd ss i k
    unfold partTo fromTo
    by_cases ho : okLen (slen ss k) = true
    · have h3 : 1 ≤ slen ss k ∧ slen ss k ≤ 16 := by simpa [okLen] using ho
      rw [if_pos ho]
      split
      · omega
      · omega
    · rw [if_neg (fun e => ho e.1), if_neg ho]; exact h
theorem part_step (ss : List (Int × Int)) (i : Nat) : ∀ k, partTo ss (i + 1) k = if firstB ss i i = true then partTo ss i k + shareTo ss (sdom ss i) k else partTo ss i k
  | 0 => by simp [partTo, shareTo]
  | k + 1 => by
    have ih := part_step ss i k
    by_cases hf : firstB ss i i = true
    · have hno := (firstB_iff ss i i).1 hf
      rw [if_pos hf] at ih ⊢
      rw [partTo, partTo, shareTo, ih]
      by_cases ho : okLen (slen ss k) = true
      · by_cases hd : sdom ss k = sdom ss i
        · have h1 : seen ss (i + 1) k = true := (seen_iff ss _ _).2 ⟨i, by omega, hd.symm⟩
          have h2 : ¬ seen ss i k = true := fun h => by
            obtain ⟨j, hj, e⟩ := (seen_iff ss _ _).1 h
            exact hno j hj (e.trans hd)
          rw [if_pos ⟨ho, h1⟩, if_neg (fun h => h2 h.2), if_pos ⟨ho, hd⟩]
          omega
        · have h1 : seen ss (i + 1) k = true ↔ seen ss i k = true := by
            rw [seen_iff, seen_iff]
            constructor
            · rintro ⟨j, hj, e⟩
              by_cases hji : j = i
              · subst hji; exact absurd e.symm hd
              · exact ⟨j, by omega, e⟩
            · rintro ⟨j, hj, e⟩; exact ⟨j, by omega, e⟩
          rw [if_neg (show ¬ (okLen (slen ss k) = true ∧ sdom ss k = sdom ss i) from fun h => hd h.2)]
          by_cases hs : seen ss i k = true
          · rw [if_pos ⟨ho, h1.2 hs⟩, if_pos ⟨ho, hs⟩]; omega
          · rw [if_neg (fun h => hs (h1.1 h.2)), if_neg (fun h => hs h.2)]
      · rw [if_neg (fun h => ho h.1), if_neg (fun h => ho h.1), if_neg (fun h => ho h.1)]
    · have hex : ∃ j, j < i ∧ sdom ss j = sdom ss i := by
        apply Classical.byContradiction
        intro hne
        exact hf ((firstB_iff ss i i).2 fun j hj e => hne ⟨j, hj, e⟩)
      obtain ⟨j0, hj0, e0⟩ := hex
      rw [if_neg hf] at ih ⊢
      rw [partTo, partTo, ih]
      have h1 : seen ss (i + 1) k = true ↔ seen ss i k = true := by
        rw [seen_iff, seen_iff]
        constructor
        · rintro ⟨j, hj, e⟩
          by_cases hji : j = i
          · subst hji; exact ⟨j0, hj0, e0.trans e⟩
          · exact ⟨j, by omega, e⟩
        · rintro ⟨j, hj, e⟩; exact ⟨j, by omega, e⟩
      by_cases hs : seen ss i k = true
      · by_cases ho : okLen (slen ss k) = true
        · rw [if_pos ⟨ho, h1.2 hs⟩, if_pos ⟨ho, hs⟩]
        · rw [if_neg (fun h => ho h.1), if_neg (fun h => ho h.1)]
      · rw [if_neg (fun h => hs (h1.1 h.2)), if_neg (fun h => hs h.2)]
theorem part_zero (ss : List (Int × Int)) : ∀ k, partTo ss 0 k = 0
  | 0 => rfl
  | k + 1 => by rw [partTo, if_neg (by simp [seen]), part_zero ss k]
theorem sum_part (ss : List (Int × Int)) : ∀ i, sumTo ss i = partTo ss i (cntN ss)
  | 0 => (part_zero ss _).symm
  | i + 1 => by rw [sumTo, part_step, sum_part ss i]; rfl
theorem part_all (ss : List (Int × Int)) (i : Nat) : ∀ k, k ≤ i → partTo ss i k = fromTo ss k
  | 0, _ => rfl
  | k + 1, h => by
    have h1 : seen ss i k = true := (seen_iff ss _ _).2 ⟨k, by omega, rfl⟩
    rw [partTo, fromTo, part_all ss i k (by omega)]
    by_cases ho : okLen (slen ss k) = true
    · rw [if_pos ⟨ho, h1⟩, if_pos ho]
    · rw [if_neg (fun h => ho h.1), if_neg ho]
theorem sum_all (ss : List (Int × Int)) : sumTo ss ss.length = cycF ss := by
  rw [sum_part, part_all ss _ _ (by unfold cntN; omega)]; rfl
theorem sumTo_bd (ss : List (Int × Int)) (i : Nat) : 0 ≤ sumTo ss i ∧ sumTo ss i ≤ 256 := by
  have h := partTo_bd ss i (cntN ss)
  have h2 := cycF_bd ss
  unfold cycF at h2
  rw [sum_part]
  omega

end Go.Proofs.Ytjjljeepiehpaaa
