/- parcloseref27.starts and .Share: what they come to. -/
import Derived.Test.YtjjljeepiehpaaaTh
namespace Go.Proofs.Ytjjljeepiehpaaa
open Go.RowKit Go.Shelf Go.Proofs.YtjjljeepiehpaaaW.PrintWords

/-- the first j ticks of slot i: does a slot of the domain begin? -/
def run (ss : List (Int × Int)) (dom : Int) (i j : Nat) : List Bool := (List.range j).map fun t => decide (t = 0) && decide (sdom ss i = dom)
theorem run_len (ss : List (Int × Int)) (dom : Int) (i j : Nat) : (run ss dom i j).length = j := by simp [run]
theorem run_zero (ss : List (Int × Int)) (dom : Int) (i : Nat) : run ss dom i 0 = [] := rfl
theorem run_succ (ss : List (Int × Int)) (dom : Int) (i j : Nat) : run ss dom i (j + 1) = run ss dom i j ++ [decide (j = 0) && decide (sdom ss i = dom)] := by simp [run, List.range_succ]
/-- for each tick of the first k slots: does a slot of the domain begin? -/
def startsL (ss : List (Int × Int)) (dom : Int) : Nat → List Bool
  | 0 => []
  | k + 1 => if okLen (slen ss k) = true then startsL ss dom k ++ run ss dom k (slen ss k).toNat else startsL ss dom k
theorem startsL_len (ss : List (Int × Int)) (dom : Int) : ∀ k, ((startsL ss dom k).length : Int) = fromTo ss k
  | 0 => rfl
  | k + 1 => by
    have h := startsL_len ss dom k
    unfold startsL fromTo
    split
    · rename_i ho
      have h3 : 1 ≤ slen ss k ∧ slen ss k ≤ 16 := by simpa [okLen] using ho
      rw [List.length_append, run_len]
      omega
    · exact h

theorem starts_in (ss : List (Int × Int)) (dom : Int) (i : Nat) (hi : i < ss.length) (hi2 : i < 16) (h1 : 1 ≤ slen ss i) (h2 : slen ss i ≤ 16) (K : Nat) : ∀ m j : Nat, ((j + m : Nat) : Int) = slen ss i →
    PFairBounds.parcloseref27_starts.l1 (K + m + 1) (s49 ss) dom (startsL ss dom i ++ run ss dom i j) (shareTo ss dom i + if sdom ss i = dom then (j : Int) else 0) (i : Int) (j : Int) =
      PFairBounds.parcloseref27_starts.l0 K (s49 ss) dom (startsL ss dom (i + 1)) (shareTo ss dom (i + 1)) ((i + 1 : Nat) : Int)
  | 0, j, hj => by
    have hw : wrap64 ((i : Int) + 1) = ((i + 1 : Nat) : Int) := by rw [wrap64_in (by omega) (by omega)]; omega
    have ho : okLen (slen ss i) = true := by simp [okLen, h1, h2]
    have e1 : startsL ss dom (i + 1) = startsL ss dom i ++ run ss dom i j := by
      rw [startsL, if_pos ho, show (slen ss i).toNat = j from by omega]
    have e2 : shareTo ss dom (i + 1) = shareTo ss dom i + if sdom ss i = dom then (j : Int) else 0 := by
      rw [shareTo]
      by_cases hd : sdom ss i = dom
      · rw [if_pos ⟨ho, hd⟩, if_pos hd]; omega
      · rw [if_neg (fun h => hd h.2), if_neg hd]; omega
    rw [e1, e2]
    unfold PFairBounds.parcloseref27_starts.l1
    rw [if_pos (by omega), if_pos (by rw [s49_len]; omega), rd49, if_neg (by dsimp only; omega), hw]
  | m + 1, j, hj => by
    have ih := starts_in ss dom i hi hi2 h1 h2 K m (j + 1) (by omega)
    have hwj : wrap64 ((j : Int) + 1) = ((j + 1 : Nat) : Int) := by rw [wrap64_in (by omega) (by omega)]; omega
    have hsb := shareTo_bd ss dom i
    have hlb := startsL_len ss dom i
    have hfb := fromTo_bd ss i
    have hll : (startsL ss dom i ++ run ss dom i j).length < 140737488355328 := by rw [List.length_append, run_len]; omega
    rw [run_succ, ← List.append_assoc] at ih
    rw [← ih]
    rw [show K + (m + 1) + 1 = (K + m + 1) + 1 from by omega]
    conv => lhs; unfold PFairBounds.parcloseref27_starts.l1
    rw [if_pos (by omega), if_pos (by rw [s49_len]; omega), rd49, if_pos (by dsimp only; omega), hwj]
    by_cases hj0 : j = 0
    · subst hj0
      rw [if_pos (show ((0 : Nat) : Int) = 0 from rfl), if_pos hll]
      dsimp only
      by_cases hd : sdom ss i = dom
      · have e : wrap64 (shareTo ss dom i + (0 : Nat) + 1) = shareTo ss dom i + ((0 + 1 : Nat) : Int) := by rw [wrap64_in (by omega) (by omega)]; omega
        simp only [hd, if_true, Option.bind_some, e, decide_true, Bool.and_self, beq_self_eq_true]
      · have hbeq : (sdom ss i == dom) = false := by simp [hd]
        simp only [hd, hbeq, if_false, Option.bind_some, decide_false, Bool.and_false]
    · rw [if_neg (by omega), if_pos hll]
      dsimp only
      by_cases hd : sdom ss i = dom
      · have e : wrap64 (shareTo ss dom i + (j : Nat) + 1) = shareTo ss dom i + ((j + 1 : Nat) : Int) := by rw [wrap64_in (by omega) (by omega)]; omega
        simp only [hd, if_true, Option.bind_some, e, hj0, decide_false, Bool.false_and]
      · simp only [hd, if_false, Option.bind_some, hj0, decide_false, Bool.false_and]

theorem starts_go (ss : List (Int × Int)) (dom : Int) (hreach : ss.length * 16 ≤ 140737488351232) : ∀ m i : Nat, i + m = cntN ss →
    ∃ k, PFairBounds.parcloseref27_starts.l0 k (s49 ss) dom (startsL ss dom i) (shareTo ss dom i) (i : Int) = some (startsL ss dom (cntN ss), shareTo ss dom (cntN ss))
  | 0, i, h => by
    have hi : i = cntN ss := by omega
    refine ⟨2, ?_⟩
    rw [← hi]
    have hc : (i : Int) < (ss.length : Int) → decide ((i : Int) < 16) = false := fun h2 => by
      unfold cntN at hi; simp; omega
    unfold PFairBounds.parcloseref27_starts.l0
    rw [s49_len]
    split
    · rename_i h2
      rw [hc h2]
      unfold PFairBounds.parcloseref27_starts.j1
      rw [if_neg (by decide)]
    · unfold PFairBounds.parcloseref27_starts.j1
      rw [if_neg (by decide)]
  | m + 1, i, h => by
    obtain ⟨k, ih⟩ := starts_go ss dom hreach m (i + 1) (by omega)
    have hi : i < ss.length ∧ i < 16 := by unfold cntN at h; omega
    have hw : wrap64 ((i : Int) + 1) = ((i + 1 : Nat) : Int) := by rw [wrap64_in (by omega) (by omega)]; omega
    by_cases ho : 1 ≤ slen ss i ∧ slen ss i ≤ 16
    · refine ⟨(k + (slen ss i).toNat + 1) + 3, ?_⟩
      have hin := starts_in ss dom i hi.1 hi.2 ho.1 ho.2 k (slen ss i).toNat 0 (by omega)
      rw [run_zero, List.append_nil, ih] at hin
      unfold PFairBounds.parcloseref27_starts.l0
      rw [s49_len, if_pos (by omega), show decide ((i : Int) < 16) = true from by simp; omega]
      unfold PFairBounds.parcloseref27_starts.j1
      rw [if_pos rfl, if_pos (by omega), if_pos (by rw [s49_len]; omega), rd49, if_neg (by dsimp only; omega)]
      have hd16 : decide (slen ss i > 16) = false := by simp; omega
      dsimp only
      rw [hd16]
      unfold PFairBounds.parcloseref27_starts.j2
      rw [if_neg (by decide)]
      have hz : (shareTo ss dom i + if sdom ss i = dom then ((0 : Nat) : Int) else 0) = shareTo ss dom i := by split <;> simp
      rw [hz] at hin
      exact hin
    · have hno : okLen (slen ss i) = false := by
        cases hb : okLen (slen ss i) with
        | false => rfl
        | true => exact absurd (by simpa [okLen] using hb) ho
      have e1 : startsL ss dom (i + 1) = startsL ss dom i := by rw [startsL, if_neg (by simp [hno])]
      have e2 : shareTo ss dom (i + 1) = shareTo ss dom i := by rw [shareTo, if_neg (by simp [hno])]
      rw [e1, e2] at ih
      refine ⟨k + 3, ?_⟩
      unfold PFairBounds.parcloseref27_starts.l0
      rw [s49_len, if_pos (by omega), show decide ((i : Int) < 16) = true from by simp; omega]
      unfold PFairBounds.parcloseref27_starts.j1
      rw [if_pos rfl, if_pos (by omega), if_pos (by rw [s49_len]; omega), rd49]
      dsimp only
      split
      · unfold PFairBounds.parcloseref27_starts.j2
        rw [if_pos rfl, hw]
        exact ih
      · have hd16 : decide (slen ss i > 16) = true := by simp; omega
        rw [hd16]
        unfold PFairBounds.parcloseref27_starts.j2
        rw [if_pos rfl, hw]
        exact ih

def startsF (ss : List (Int × Int)) (dom : Int) : List Bool := startsL ss dom (cntN ss)
theorem starts_f (ss : List (Int × Int)) (dom : Int) (hreach : ss.length * 16 ≤ 140737488351232) : ∃ k, PFairBounds.parcloseref27_starts.f k (s49 ss) dom = some (startsF ss dom, shareF ss dom) :=
  starts_go ss dom hreach (cntN ss) 0 (by omega)

end Go.Proofs.Ytjjljeepiehpaaa
