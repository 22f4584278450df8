/- The gap, in plain words: the most ticks from a beginning to the next one. No program in sight. -/
import Derived.Test.YtjjljeepiehpaaaTg
namespace Go.Proofs.Ytjjljeepiehpaaa

theorem IsStart.shift {ss : List (Int × Int)} {dom T : Int} (h : IsStart ss dom T) (k : Int) (h0 : 0 ≤ T + cycF ss * k) : IsStart ss dom (T + cycF ss * k) := by
  obtain ⟨_, x, hx, hd, hm⟩ := h
  refine ⟨h0, x, hx, hd, ?_⟩
  rw [Int.add_mul_emod_self_left]
  exact hm
def Consec (ss : List (Int × Int)) (dom a b : Int) : Prop := IsStart ss dom a ∧ IsStart ss dom b ∧ a < b ∧ ∀ m, a < m → m < b → ¬ IsStart ss dom m
theorem Consec.shift {ss : List (Int × Int)} {dom a b : Int} (h : Consec ss dom a b) (k : Int) (h0 : 0 ≤ a + cycF ss * k) : Consec ss dom (a + cycF ss * k) (b + cycF ss * k) := by
  obtain ⟨ha, hb, hab, hm⟩ := h
  refine ⟨ha.shift k h0, hb.shift k (by omega), by omega, fun m h1 h2 hs => ?_⟩
  have ha0 := ha.1
  have h3 := hs.shift (-k) (by rw [Int.mul_neg]; omega)
  rw [Int.mul_neg] at h3
  exact hm _ (by omega) (by omega) h3
/-- a pair, brought into the cycle that begins at x -/
theorem Consec.into {ss : List (Int × Int)} {dom a b : Int} (h : Consec ss dom a b) (x : Int) (hx : 0 ≤ x) : ∃ a' b', Consec ss dom a' b' ∧ x ≤ a' ∧ a' < x + cycF ss ∧ b' - a' = b - a := by
  have hc := h.1.cyc.2
  have hd := Int.emod_add_mul_ediv (a - x) (cycF ss)
  have hr := Int.emod_nonneg (a - x) (show cycF ss ≠ 0 by omega)
  have hr2 := Int.emod_lt_of_pos (a - x) hc
  have h2 := h.shift (-((a - x) / cycF ss)) (by rw [Int.mul_neg]; omega)
  rw [Int.mul_neg] at h2
  exact ⟨_, _, h2, by omega, by omega, by omega⟩
/-- behind a start t the next one is the one that Next tells -/
theorem next_consec {ss : List (Int × Int)} {dom t : Int} (h : IsStart ss dom t) (ht : t ≤ 2305843009213693952) : Consec ss dom t (nextF ss dom (t + 1)).1 := by
  obtain ⟨h1, h2, h3, h4⟩ := next_of_start h ht
  obtain ⟨_, _, _, h5⟩ := next_ok h1
  have h0 := h.1
  exact ⟨h, h4, by omega, fun m hm1 hm2 => h5 m (by unfold heldF; omega) hm2⟩

def IsGap (ss : List (Int × Int)) (dom G : Int) : Prop := (G = 0 ∧ ∀ T, ¬ IsStart ss dom T) ∨ ((∃ a b, Consec ss dom a b ∧ b - a = G) ∧ ∀ a b, Consec ss dom a b → b - a ≤ G)
theorem IsGap.uniq {ss : List (Int × Int)} {dom G G' : Int} (h : IsGap ss dom G) (h' : IsGap ss dom G') : G = G' := by
  rcases h with ⟨rfl, hn⟩ | ⟨⟨a, b, hab, rfl⟩, hm⟩ <;> rcases h' with ⟨rfl, hn'⟩ | ⟨⟨a', b', hab', rfl⟩, hm'⟩
  · rfl
  · exact absurd hab'.1 (hn _)
  · exact absurd hab.1 (hn' _)
  · have h1 := hm _ _ hab'
    have h2 := hm' _ _ hab
    omega

theorem Consec.le_of {ss : List (Int × Int)} {dom a b t : Int} (h : Consec ss dom a b) (ht : IsStart ss dom t) (hat : a < t) : b ≤ t := by
  rcases Int.lt_or_le t b with h2 | h2
  · exact absurd ht (h.2.2.2 t hat h2)
  · exact h2

theorem gapGo_spec (ss : List (Int × Int)) (dom first lim : Int) (hlim : lim = first + cycF ss) (hl : lim ≤ 512) (hf0 : 0 ≤ first) : ∀ (f : Nat) (t most : Int), IsStart ss dom t → first ≤ t → lim - t ≤ f → t ≤ 1000 →
    (∀ a b, Consec ss dom a b → first ≤ a → b ≤ t → b - a ≤ most) → (most = 0 ∧ t = first ∨ ∃ a b, Consec ss dom a b ∧ b - a = most) →
    IsGap ss dom (gapGo ss dom lim f t most)
  | 0, t, most, ht, hft, hlt, _, hle, hex => by
    have hc := ht.cyc.2
    rw [gapGo]
    refine .inr ⟨?_, fun a b hab => ?_⟩
    · rcases hex with ⟨_, rfl⟩ | h
      · omega
      · exact h
    · obtain ⟨a', b', h', h1, h2, h3⟩ := hab.into first hf0
      have := hle a' b' h' h1 (h'.le_of ht (by omega))
      omega
  | f + 1, t, most, ht, hft, hlt, ht2, hle, hex => by
    have hc := ht.cyc.2
    have hcb := cycF_bd ss
    rw [gapGo]
    split
    · rename_i htl
      obtain ⟨h1, h2, h3, h4⟩ := next_of_start ht (by omega)
      have hcs := next_consec ht (by omega)
      refine gapGo_spec ss dom first lim hlim hl hf0 f _ _ h4 (by omega) (by omega) (by omega) (fun a b hab ha hb => ?_) (.inr ?_)
      · rcases Int.lt_or_le a t with hat | hat
        · have := hle a b hab ha (hab.le_of ht hat)
          omega
        · rcases Int.lt_or_le t a with hta | hta
          · have := hcs.le_of hab.1 hta
            have := hab.2.2.1
            omega
          · have hE : a = t := by omega
            subst hE
            have := hab.2.2.1
            omega
      · rcases hex with ⟨rfl, _⟩ | ⟨a, b, hab, rfl⟩
        · exact ⟨_, _, hcs, by omega⟩
        · rcases Int.lt_or_le (b - a) ((nextF ss dom (t + 1)).1 - t) with h5 | h5
          · exact ⟨_, _, hcs, by omega⟩
          · exact ⟨_, _, hab, by omega⟩
    · refine .inr ⟨?_, fun a b hab => ?_⟩
      · rcases hex with ⟨_, rfl⟩ | h
        · omega
        · exact h
      · obtain ⟨a', b', h', h1, h2, h3⟩ := hab.into first hf0
        have := hle a' b' h' h1 (h'.le_of ht (by omega))
        omega

theorem gapF_spec (ss : List (Int × Int)) (dom : Int) : IsGap ss dom (gapF ss dom) := by
  unfold gapF
  have hcb := cycF_bd ss
  cases hn : (nextF ss dom 0).2 with
  | false =>
    rw [if_neg (by decide)]
    refine .inl ⟨rfl, fun T hT => ?_⟩
    have hd := hT.down
    exact (next_none hn).2 _ (by unfold heldF; omega) (by omega) hd.1
  | true =>
    rw [if_pos rfl]
    obtain ⟨h1, h2⟩ := first_of hn
    have h0 := h1.1
    exact gapGo_spec ss dom _ _ rfl (by omega) h0 600 _ 0 h1 (Int.le_refl _) (by omega) (by omega) (fun a b hab ha hb => by have := hab.2.2.1; omega) (.inl ⟨rfl, rfl⟩)

end Go.Proofs.Ytjjljeepiehpaaa
