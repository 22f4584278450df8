/- The printed texts' plain forms against the specifications: share, starts. -/
import Derived.Test.YtjjljeepiehpaaaTd
import Derived.Test.YtjjljeepiehpaaaFb2
namespace Go.Proofs.Ytjjljeepiehpaaa
open Go.RowKit Go.Shelf Go.Proofs.YtjjljeepiehpaaaW.PrintWords

theorem wrap64_in {n : Int} (h : -9223372036854775808 ≤ n) (h2 : n ≤ 9223372036854775807) : wrap64 n = n := by unfold wrap64; omega
theorem rd49 (ss : List (Int × Int)) (i : Nat) : PFairBounds.rd_T49 (s49 ss) (i : Int) = ⟨sdom ss i, slen ss i⟩ := by
  unfold PFairBounds.rd_T49 sdom slen s49 PFairBounds.z49
  rw [List.getD_eq_getElem?_getD, List.getElem?_map, Int.toNat_natCast]
  cases ss[i]? <;> rfl
theorem s49_len (ss : List (Int × Int)) : (s49 ss).length = ss.length := by simp

/-- how many ticks are a domain's, of the first k slots -/
def shareTo (ss : List (Int × Int)) (dom : Int) : Nat → Int
  | 0 => 0
  | k + 1 => if okLen (slen ss k) = true ∧ sdom ss k = dom then shareTo ss dom k + slen ss k else shareTo ss dom k
def shareF (ss : List (Int × Int)) (dom : Int) : Int := shareTo ss dom (cntN ss)
theorem shareTo_bd (ss : List (Int × Int)) (dom : Int) : ∀ k, 0 ≤ shareTo ss dom k ∧ shareTo ss dom k ≤ 16 * k
  | 0 => by simp [shareTo]
  | k + 1 => by
    have h := shareTo_bd ss dom k
    unfold shareTo
    split
    · rename_i h2
      have h3 : 1 ≤ slen ss k ∧ slen ss k ≤ 16 := by simpa [okLen] using h2.1
      omega
    · omega
theorem share_go (ss : List (Int × Int)) (dom : Int) (hreach : ss.length * 16 ≤ 140737488351232) : ∀ m i : Nat, i + m = ss.length →
    PFairBounds.fair_Share.l0 (m + 1) dom (shareTo ss dom (min i 16)) (s49 ss) (ss.length : Int) (i : Int) = some (shareF ss dom)
  | 0, i, h => by
    have h' : i = ss.length := by omega
    subst h'
    unfold PFairBounds.fair_Share.l0
    rw [if_neg (by omega)]
    rfl
  | m + 1, i, h => by
    have hb := shareTo_bd ss dom (min i 16)
    have ih := share_go ss dom hreach m (i + 1) (by omega)
    have hw : wrap64 ((i : Int) + 1) = ((i + 1 : Nat) : Int) := by rw [wrap64_in (by omega) (by omega)]; omega
    unfold PFairBounds.fair_Share.l0
    rw [if_pos (by omega), if_pos (by omega), if_pos (by rw [s49_len]; omega), rd49, hw]
    unfold PFairBounds.fair_counts.f
    by_cases h16 : i < 16
    · rw [if_pos (by omega)]
      have hmi : min i 16 = i := by omega
      have hmi2 : min (i + 1) 16 = i + 1 := by omega
      rw [hmi] at hb ⊢
      rw [hmi2] at ih
      by_cases h1 : 1 ≤ slen ss i
      · rw [if_pos h1]
        by_cases h2 : slen ss i ≤ 16
        · rw [if_pos h2]
          by_cases h3 : sdom ss i = dom
          · have hs : shareTo ss dom (i + 1) = shareTo ss dom i + slen ss i := by rw [shareTo, if_pos ⟨by simp [okLen, h1, h2], h3⟩]
            rw [hs] at ih
            dsimp only
            rw [wrap64_in (by omega) (by omega)]
            simpa [h3] using ih
          · have hs : shareTo ss dom (i + 1) = shareTo ss dom i := by rw [shareTo, if_neg (by simp [h3])]
            rw [hs] at ih
            simpa [h3] using ih
        · have hs : shareTo ss dom (i + 1) = shareTo ss dom i := by rw [shareTo, if_neg (by simp [okLen, h2])]
          rw [hs] at ih
          simpa [h2] using ih
      · have hs : shareTo ss dom (i + 1) = shareTo ss dom i := by rw [shareTo, if_neg (by simp [okLen, h1])]
        rw [hs] at ih
        simpa [h1] using ih
    · rw [if_neg (by omega)]
      have hmi : min i 16 = 16 := by omega
      have hmi2 : min (i + 1) 16 = 16 := by omega
      rw [hmi]
      rw [hmi2] at ih
      simpa using ih
theorem share_any (a : Option Addr) (len cap : Nat) (ss : List (Int × Int)) (hreach : ss.length * 16 ≤ 140737488351232) (dom : Int) (n₀ : Nat) (w : World) (hI : Slots n₀ w (.slice a len cap) ss) :
    Calls Try.prog 18 #[.slice a len cap, .int .i64 dom] w fun e w' => e = .returned (.int .i64 (shareF ss dom)) ∧ Below w.heap.size w w' := by
  obtain ⟨rfl, hc, hk⟩ := kd_of_slots hreach hI
  refine PFairBounds.fair_Share.calls (ss.length + 1) a cap (s49 ss) dom _ w hk hc ?_
  unfold PFairBounds.fair_Share.f
  rw [s49_len]
  exact share_go ss dom hreach ss.length 0 (by omega)

end Go.Proofs.Ytjjljeepiehpaaa
