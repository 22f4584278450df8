/- parcloseref05.owners, .Next, .Add: what they come to. -/
import Derived.Test.YtjjljeepiehpaaaTn
namespace Go.Proofs.Ytjjljeepiehpaaa
open Go.RowKit Go.Shelf Go.Proofs.YtjjljeepiehpaaaW.PrintWords

theorem next_eq_yes {ss : List (Int × Int)} {dom t T : Int} (h : IsStart ss dom T) (h1 : heldF t ≤ T) (h2 : T ≤ 4611686018427387904) (h3 : ∀ m, heldF t ≤ m → m < T → ¬ IsStart ss dom m) : nextF ss dom t = (T, true) := by
  cases hn : (nextF ss dom t).2 with
  | false => exact absurd h ((next_none hn).2 T h1 h2)
  | true =>
    obtain ⟨g1, g2, g3, g4⟩ := next_ok hn
    have : (nextF ss dom t).1 = T := by
      rcases Int.lt_or_le (nextF ss dom t).1 T with h5 | h5
      · exact absurd g3 (h3 _ g1 h5)
      · rcases Int.lt_or_le T (nextF ss dom t).1 with h6 | h6
        · exact absurd h (g4 T h1 h6)
        · omega
    exact Prod.ext this hn
theorem next_eq_no {ss : List (Int × Int)} {dom t : Int} (h : ∀ m, heldF t ≤ m → m ≤ 4611686018427387904 → ¬ IsStart ss dom m) : nextF ss dom t = (0, false) := by
  cases hn : (nextF ss dom t).2 with
  | false => exact Prod.ext (next_none hn).1 hn
  | true =>
    obtain ⟨g1, g2, g3, g4⟩ := next_ok hn
    exact absurd g3 (h _ g1 g2)
/-- no start within a cycle: none at all -/
theorem none_of_cycle {ss : List (Int × Int)} {dom t : Int} (ht : 0 ≤ t) (h : ∀ m, t ≤ m → m < t + cycF ss → ¬ IsStart ss dom m) : ∀ T, ¬ IsStart ss dom T := fun T hT => by
  have hc := hT.cyc.2
  have hd := Int.emod_add_mul_ediv (T - t) (cycF ss)
  have hr := Int.emod_nonneg (T - t) (show cycF ss ≠ 0 by omega)
  have hr2 := Int.emod_lt_of_pos (T - t) hc
  have h2 := hT.shift (-((T - t) / cycF ss)) (by rw [Int.mul_neg]; omega)
  rw [Int.mul_neg] at h2
  exact h _ (by omega) (by omega) h2

/-- the first j ticks of a slot: is it its first one? -/
def run0 (j : Nat) : List Bool := (List.range j).map fun t => decide (t = 0)
theorem run0_len (j : Nat) : (run0 j).length = j := by simp [run0]
theorem run0_succ (j : Nat) : run0 (j + 1) = run0 j ++ [decide (j = 0)] := by simp [run0, List.range_succ]
def ownW (ss : List (Int × Int)) : Nat → List Int
  | 0 => []
  | k + 1 => if okLen (slen ss k) = true then ownW ss k ++ List.replicate (slen ss k).toNat (k : Int) else ownW ss k
def ownB (ss : List (Int × Int)) : Nat → List Bool
  | 0 => []
  | k + 1 => if okLen (slen ss k) = true then ownB ss k ++ run0 (slen ss k).toNat else ownB ss k
theorem ownW_len (ss : List (Int × Int)) : ∀ k, ((ownW ss k).length : Int) = fromTo ss k
  | 0 => rfl
  | k + 1 => by
    have h := ownW_len ss k
    unfold ownW fromTo
    split
    · rename_i ho
      have h3 : 1 ≤ slen ss k ∧ slen ss k ≤ 16 := by simpa [okLen] using ho
      rw [List.length_append, List.length_replicate]
      omega
    · exact h
theorem ownB_len (ss : List (Int × Int)) : ∀ k, ((ownB ss k).length : Int) = fromTo ss k
  | 0 => rfl
  | k + 1 => by
    have h := ownB_len ss k
    unfold ownB fromTo
    split
    · rename_i ho
      have h3 : 1 ≤ slen ss k ∧ slen ss k ≤ 16 := by simpa [okLen] using ho
      rw [List.length_append, run0_len]
      omega
    · exact h

theorem owners_in (ss : List (Int × Int)) (i : Nat) (hi : i < ss.length) (hi2 : i < 16) (h1 : 1 ≤ slen ss i) (h2 : slen ss i ≤ 16) (K : Nat) : ∀ m j : Nat, ((j + m : Nat) : Int) = slen ss i →
    PFairBounds.parcloseref05_owners.l1 (K + m + 1) (s49 ss) (ownW ss i ++ List.replicate j (i : Int)) (ownB ss i ++ run0 j) (i : Int) (j : Int) =
      PFairBounds.parcloseref05_owners.l0 K (s49 ss) (ownW ss (i + 1)) (ownB ss (i + 1)) ((i + 1 : Nat) : Int)
  | 0, j, hj => by
    have hw : wrap64 ((i : Int) + 1) = ((i + 1 : Nat) : Int) := by rw [wrap64_in (by omega) (by omega)]; omega
    have ho : okLen (slen ss i) = true := by simp [okLen, h1, h2]
    have e1 : ownW ss (i + 1) = ownW ss i ++ List.replicate j (i : Int) := by rw [ownW, if_pos ho, show (slen ss i).toNat = j from by omega]
    have e2 : ownB ss (i + 1) = ownB ss i ++ run0 j := by rw [ownB, if_pos ho, show (slen ss i).toNat = j from by omega]
    rw [e1, e2]
    unfold PFairBounds.parcloseref05_owners.l1
    rw [if_pos (by omega), if_pos (by rw [s49_len]; omega), rd49, if_neg (by dsimp only; omega), hw]
  | m + 1, j, hj => by
    have ih := owners_in ss i hi hi2 h1 h2 K m (j + 1) (by omega)
    have hwj : wrap64 ((j : Int) + 1) = ((j + 1 : Nat) : Int) := by rw [wrap64_in (by omega) (by omega)]; omega
    have hlw := ownW_len ss i
    have hlb := ownB_len ss i
    have hfb := fromTo_bd ss i
    have hl1 : (ownW ss i ++ List.replicate j (i : Int)).length < 17592186044416 := by rw [List.length_append, List.length_replicate]; omega
    have hl2 : (ownB ss i ++ run0 j).length < 140737488355328 := by rw [List.length_append, run0_len]; omega
    rw [run0_succ, List.replicate_succ', ← List.append_assoc, ← List.append_assoc] at ih
    rw [← ih]
    rw [show K + (m + 1) + 1 = (K + m + 1) + 1 from by omega]
    conv => lhs; unfold PFairBounds.parcloseref05_owners.l1
    have hbq : ((j : Int) == 0) = decide (j = 0) := by by_cases h : j = 0 <;> simp [h]
    rw [if_pos (by omega), if_pos (by rw [s49_len]; omega), rd49, if_pos (by dsimp only; omega), if_pos hl1, if_pos hl2, hwj, hbq]

theorem owners_go (ss : List (Int × Int)) (hreach : ss.length * 16 ≤ 140737488351232) : ∀ m i : Nat, i + m = cntN ss →
    ∃ k, PFairBounds.parcloseref05_owners.l0 k (s49 ss) (ownW ss i) (ownB ss i) (i : Int) = some (ownW ss (cntN ss), ownB ss (cntN ss))
  | 0, i, h => by
    have hi : i = cntN ss := by omega
    refine ⟨2, ?_⟩
    rw [← hi]
    have hc : (i : Int) < (ss.length : Int) → decide ((i : Int) < 16) = false := fun h2 => by
      unfold cntN at hi; simp; omega
    unfold PFairBounds.parcloseref05_owners.l0
    rw [s49_len]
    split
    · rename_i h2
      rw [hc h2]
      unfold PFairBounds.parcloseref05_owners.j1
      rw [if_neg (by decide)]
    · unfold PFairBounds.parcloseref05_owners.j1
      rw [if_neg (by decide)]
  | m + 1, i, h => by
    obtain ⟨k, ih⟩ := owners_go ss hreach m (i + 1) (by omega)
    have hi : i < ss.length ∧ i < 16 := by unfold cntN at h; omega
    have hw : wrap64 ((i : Int) + 1) = ((i + 1 : Nat) : Int) := by rw [wrap64_in (by omega) (by omega)]; omega
    by_cases ho : 1 ≤ slen ss i ∧ slen ss i ≤ 16
    · refine ⟨(k + (slen ss i).toNat + 1) + 3, ?_⟩
      have hin := owners_in ss i hi.1 hi.2 ho.1 ho.2 k (slen ss i).toNat 0 (by omega)
      rw [ih] at hin
      unfold PFairBounds.parcloseref05_owners.l0
      rw [s49_len, if_pos (by omega), show decide ((i : Int) < 16) = true from by simp; omega]
      unfold PFairBounds.parcloseref05_owners.j1
      rw [if_pos rfl, if_pos (by omega), if_pos (by rw [s49_len]; omega), rd49, if_neg (by dsimp only; omega)]
      have hd16 : decide (slen ss i > 16) = false := by simp; omega
      dsimp only
      rw [hd16]
      unfold PFairBounds.parcloseref05_owners.j2
      rw [if_neg (by decide)]
      have e0 : ownW ss i ++ List.replicate 0 (i : Int) = ownW ss i := by simp
      have e1 : ownB ss i ++ run0 0 = ownB ss i := by simp [run0]
      rw [e0, e1] at hin
      exact hin
    · have hno : okLen (slen ss i) = false := by
        cases hb : okLen (slen ss i) with
        | false => rfl
        | true => exact absurd (by simpa [okLen] using hb) ho
      have e1 : ownW ss (i + 1) = ownW ss i := by rw [ownW, if_neg (by simp [hno])]
      have e2 : ownB ss (i + 1) = ownB ss i := by rw [ownB, if_neg (by simp [hno])]
      rw [e1, e2] at ih
      refine ⟨k + 3, ?_⟩
      unfold PFairBounds.parcloseref05_owners.l0
      rw [s49_len, if_pos (by omega), show decide ((i : Int) < 16) = true from by simp; omega]
      unfold PFairBounds.parcloseref05_owners.j1
      rw [if_pos rfl, if_pos (by omega), if_pos (by rw [s49_len]; omega), rd49]
      dsimp only
      split
      · unfold PFairBounds.parcloseref05_owners.j2
        rw [if_pos rfl, hw]
        exact ih
      · have hd16 : decide (slen ss i > 16) = true := by simp; omega
        rw [hd16]
        unfold PFairBounds.parcloseref05_owners.j2
        rw [if_pos rfl, hw]
        exact ih
theorem owners_f (ss : List (Int × Int)) (hreach : ss.length * 16 ≤ 140737488351232) : ∃ k, PFairBounds.parcloseref05_owners.f k (s49 ss) = some (ownW ss (cntN ss), ownB ss (cntN ss)) :=
  owners_go ss hreach (cntN ss) 0 (by omega)

/-- tick j is the first one of a slot: which one -/
theorem own_get (ss : List (Int × Int)) : ∀ (k j : Nat), (ownB ss k).getD j false = true → ∃ x ∈ seqTo ss k, x.2 = (j : Int) ∧ (ownW ss k).getD j 0 = (x.1 : Int)
  | 0, j, h => by simp [ownB] at h
  | k + 1, j, h => by
    have hl := ownB_len ss k
    have hlw := ownW_len ss k
    unfold ownB at h
    unfold ownW seqTo
    by_cases ho : okLen (slen ss k) = true
    · have h3 : 1 ≤ slen ss k ∧ slen ss k ≤ 16 := by simpa [okLen] using ho
      rw [if_pos ho, List.getD_eq_getElem?_getD] at h
      rw [if_pos ho, if_pos ho, List.getD_eq_getElem?_getD]
      by_cases hj : j < (ownB ss k).length
      · rw [List.getElem?_append_left hj, ← List.getD_eq_getElem?_getD] at h
        obtain ⟨x, hx, he, hw⟩ := own_get ss k j h
        rw [List.getElem?_append_left (by omega), ← List.getD_eq_getElem?_getD]
        exact ⟨x, List.mem_append.2 (.inl hx), he, hw⟩
      · rw [List.getElem?_append_right (by omega)] at h
        have hz : j - (ownB ss k).length = 0 := by
          unfold run0 at h
          rw [List.getElem?_map] at h
          by_cases hi : j - (ownB ss k).length < (slen ss k).toNat
          · rw [List.getElem?_range hi] at h; simpa using h
          · rw [List.getElem?_eq_none (by simpa using hi)] at h; simp at h
        refine ⟨(k, fromTo ss k), by simp, by dsimp only; omega, ?_⟩
        rw [List.getElem?_append_right (by omega), show j - (ownW ss k).length = 0 from by omega, List.getElem?_replicate, if_pos (by omega)]
        rfl
    · rw [if_neg ho] at h
      rw [if_neg ho, if_neg ho]
      exact own_get ss k j h
theorem own_of (ss : List (Int × Int)) : ∀ (k : Nat) (x : Nat × Int), x ∈ seqTo ss k → (ownB ss k).getD x.2.toNat false = true ∧ (ownW ss k).getD x.2.toNat 0 = (x.1 : Int)
  | 0, x, h => by simp [seqTo] at h
  | k + 1, x, h => by
    have hl := ownB_len ss k
    have hlw := ownW_len ss k
    unfold seqTo at h
    unfold ownB ownW
    by_cases ho : okLen (slen ss k) = true
    · have h3 : 1 ≤ slen ss k ∧ slen ss k ≤ 16 := by simpa [okLen] using ho
      rw [if_pos ho] at h
      rw [if_pos ho, if_pos ho, List.getD_eq_getElem?_getD, List.getD_eq_getElem?_getD]
      rcases List.mem_append.1 h with h | h
      · have hb := seq_lt ss k x h
        obtain ⟨g1, g2⟩ := own_of ss k x h
        rw [List.getElem?_append_left (by omega), List.getElem?_append_left (by omega), ← List.getD_eq_getElem?_getD, ← List.getD_eq_getElem?_getD]
        exact ⟨g1, g2⟩
      · simp only [List.mem_singleton] at h
        subst h
        dsimp only
        have hf := fromTo_bd ss k
        rw [List.getElem?_append_right (by omega), List.getElem?_append_right (by omega), show (fromTo ss k).toNat - (ownB ss k).length = 0 from by omega, show (fromTo ss k).toNat - (ownW ss k).length = 0 from by omega]
        refine ⟨?_, ?_⟩
        · unfold run0
          rw [List.getElem?_map, List.getElem?_range (by omega)]
          rfl
        · rw [List.getElem?_replicate, if_pos (by omega)]
          rfl
    · rw [if_neg ho] at h
      rw [if_neg ho, if_neg ho]
      exact own_of ss k x h

end Go.Proofs.Ytjjljeepiehpaaa
