/- parcloseref27.Gap: its plain form tells the gap. -/
import Derived.Test.YtjjljeepiehpaaaTk
import Derived.Test.YtjjljeepiehpaaaTl
import Derived.Test.YtjjljeepiehpaaaFb3
namespace Go.Proofs.Ytjjljeepiehpaaa
open Go.RowKit Go.Shelf Go.Proofs.YtjjljeepiehpaaaW.PrintWords

theorem seq_lt (ss : List (Int × Int)) : ∀ (k : Nat) (x : Nat × Int), x ∈ seqTo ss k → 0 ≤ x.2 ∧ x.2 < fromTo ss k
  | 0, x, h => by simp [seqTo] at h
  | k + 1, x, h => by
    have hb := fromTo_bd ss k
    unfold seqTo at h
    unfold fromTo
    split at h
    · rename_i ho
      have h3 : 1 ≤ slen ss k ∧ slen ss k ≤ 16 := by simpa [okLen] using ho
      rw [if_pos ho]
      rcases List.mem_append.1 h with h | h
      · have := seq_lt ss k x h; omega
      · simp only [List.mem_singleton] at h; subst h; dsimp only; omega
    · rename_i ho
      rw [if_neg ho]
      exact seq_lt ss k x h
theorem startsL_get (ss : List (Int × Int)) (dom : Int) : ∀ (k j : Nat), (startsL ss dom k).getD j false = true ↔ ∃ x ∈ seqTo ss k, sdom ss x.1 = dom ∧ x.2 = (j : Int)
  | 0, j => by simp [startsL, seqTo]
  | k + 1, j => by
    have ih := startsL_get ss dom k j
    have hl := startsL_len ss dom k
    unfold startsL seqTo
    by_cases ho : okLen (slen ss k) = true
    · have h3 : 1 ≤ slen ss k ∧ slen ss k ≤ 16 := by simpa [okLen] using ho
      rw [if_pos ho, if_pos ho, List.getD_eq_getElem?_getD]
      by_cases hj : j < (startsL ss dom k).length
      · rw [List.getElem?_append_left hj, ← List.getD_eq_getElem?_getD, ih]
        constructor
        · rintro ⟨x, hx, hd, he⟩
          exact ⟨x, List.mem_append.2 (.inl hx), hd, he⟩
        · rintro ⟨x, hx, hd, he⟩
          rcases List.mem_append.1 hx with hx | hx
          · exact ⟨x, hx, hd, he⟩
          · simp only [List.mem_singleton] at hx; subst hx; dsimp only at he; omega
      · rw [List.getElem?_append_right (by omega)]
        obtain ⟨i, hi⟩ : ∃ i, j = (startsL ss dom k).length + i := ⟨j - (startsL ss dom k).length, by omega⟩
        subst hi
        rw [Nat.add_sub_cancel_left]
        have hrun : ((run ss dom k (slen ss k).toNat)[i]?.getD false = true) ↔ (i = 0 ∧ sdom ss k = dom) := by
          unfold run
          rw [List.getElem?_map]
          by_cases hi : i < (slen ss k).toNat
          · rw [List.getElem?_range hi]; simp
          · rw [List.getElem?_eq_none (by simpa using hi)]
            simp
            omega
        rw [hrun]
        constructor
        · rintro ⟨rfl, hd⟩
          exact ⟨(k, fromTo ss k), by simp, hd, by dsimp only; omega⟩
        · rintro ⟨x, hx, hd, he⟩
          rcases List.mem_append.1 hx with hx | hx
          · have := seq_lt ss k x hx; omega
          · simp only [List.mem_singleton] at hx; subst hx; dsimp only at he hd; exact ⟨by omega, hd⟩
    · rw [if_neg ho, if_neg ho]; exact ih
theorem startsF_len (ss : List (Int × Int)) (dom : Int) : ((startsF ss dom).length : Int) = cycF ss := startsL_len ss dom (cntN ss)
theorem startsF_get (ss : List (Int × Int)) (dom : Int) (T : Int) (h0 : 0 ≤ T) (hc : 0 < cycF ss) : rdOf false (startsF ss dom) (T.tmod (cycF ss)) = true ↔ IsStart ss dom T := by
  have hr := Int.emod_nonneg T (show cycF ss ≠ 0 by omega)
  have hm : T.tmod (cycF ss) = ((T % cycF ss).toNat : Int) := by rw [Int.tmod_eq_emod_of_nonneg h0]; omega
  have hg := startsL_get ss dom (cntN ss) (T % cycF ss).toNat
  rw [hm]
  unfold rdOf startsF
  rw [Int.toNat_natCast, hg]
  clear hg
  constructor
  · rintro ⟨x, hx, hd, he⟩
    exact ⟨h0, x, hx, hd, by omega⟩
  · rintro ⟨_, x, hx, hd, he⟩
    exact ⟨x, hx, hd, by omega⟩

def GInv (ss : List (Int × Int)) (dom t last most : Int) : Prop :=
  (last = -1 ∧ most = 0 ∧ ∀ m, 0 ≤ m → m < t → ¬ IsStart ss dom m) ∨
  (IsStart ss dom last ∧ last < t ∧ (∀ m, last < m → m < t → ¬ IsStart ss dom m) ∧ (∀ a b, Consec ss dom a b → b ≤ last → b - a ≤ most) ∧
    ((most = 0 ∧ ∀ m, m < last → ¬ IsStart ss dom m) ∨ ∃ a b, Consec ss dom a b ∧ b - a = most))
theorem GInv.skip {ss : List (Int × Int)} {dom t last most : Int} (h : GInv ss dom t last most) (hn : ¬ IsStart ss dom t) : GInv ss dom (t + 1) last most := by
  rcases h with ⟨h1, h2, h3⟩ | ⟨h1, h2, h3, h4, h5⟩
  · refine .inl ⟨h1, h2, fun m hm hmt => ?_⟩
    by_cases hE : m = t
    · subst hE; exact hn
    · exact h3 m hm (by omega)
  · refine .inr ⟨h1, by omega, fun m hm hmt => ?_, h4, h5⟩
    by_cases hE : m = t
    · subst hE; exact hn
    · exact h3 m hm (by omega)
theorem GInv.first {ss : List (Int × Int)} {dom t last most : Int} (h : GInv ss dom t last most) (hs : IsStart ss dom t) (hl : last < 0) : GInv ss dom (t + 1) t most := by
  rcases h with ⟨h1, h2, h3⟩ | ⟨h1, _⟩
  · refine .inr ⟨hs, by omega, fun m hm hmt => by omega, fun a b hab hb => ?_, .inl ⟨h2, fun m hm hst => h3 m hst.1 hm hst⟩⟩
    exact absurd hab.1 (h3 a hab.1.1 (by have := hab.2.2.1; omega))
  · have := h1.1; omega
theorem GInv.more {ss : List (Int × Int)} {dom t last most : Int} (h : GInv ss dom t last most) (hs : IsStart ss dom t) (hl : 0 ≤ last) : GInv ss dom (t + 1) t (max most (t - last)) := by
  rcases h with ⟨h1, _⟩ | ⟨h1, h2, h3, h4, h5⟩
  · omega
  · have hc : Consec ss dom last t := ⟨h1, hs, h2, h3⟩
    refine .inr ⟨hs, by omega, fun m hm hmt => by omega, fun a b hab hb => ?_, .inr ?_⟩
    · rcases Int.lt_or_le last b with hlb | hlb
      · have hbt : b = t := by
          rcases Int.lt_or_le b t with h6 | h6
          · exact absurd hab.2.1 (h3 b hlb h6)
          · omega
        subst hbt
        have hla : last ≤ a := by
          rcases Int.lt_or_le a last with h6 | h6
          · exact absurd h1 (hab.2.2.2 last h6 hlb)
          · exact h6
        omega
      · have := h4 a b hab hlb; omega
    · rcases h5 with ⟨h6, _⟩ | ⟨a, b, hab, he⟩
      · exact ⟨last, t, hc, by omega⟩
      · rcases Int.lt_or_le most (t - last) with h6 | h6
        · exact ⟨last, t, hc, by omega⟩
        · exact ⟨a, b, hab, by omega⟩
theorem GInv.done {ss : List (Int × Int)} {dom last most : Int} (h : GInv ss dom (2 * cycF ss) last most) : IsGap ss dom most := by
  rcases h with ⟨h1, h2, h3⟩ | ⟨h1, h2, h3, h4, h5⟩
  · refine .inl ⟨h2, fun T hT => ?_⟩
    have hd := hT.down
    have := hT.cyc.2
    exact h3 _ hd.2.2 (by omega) hd.1
  · have hc := h1.cyc
    have hl0 := h1.1
    have hlc : cycF ss ≤ last := by
      rcases Int.lt_or_le last (cycF ss) with h6 | h6
      · exact absurd hc.1 (h3 _ (by omega) (by omega))
      · exact h6
    refine .inr ⟨?_, fun a b hab => ?_⟩
    · rcases h5 with ⟨_, h6⟩ | h6
      · have h7 := h1.shift (-1) (by rw [Int.mul_neg]; omega)
        rw [Int.mul_neg, Int.mul_one] at h7
        exact absurd h7 (h6 _ (by omega))
      · exact h6
    · obtain ⟨a', b', h', g1, g2, g3⟩ := hab.into 0 (by omega)
      have g4 := h'.le_of h1 (by omega)
      have := h4 a' b' h' g4
      omega

theorem gapR_go (ss : List (Int × Int)) (dom : Int) : ∀ (m : Nat) (t last most : Int), t + m = 2 * cycF ss → 0 ≤ t → -1 ≤ last → last < t → 0 ≤ most → most ≤ 1000 → GInv ss dom t last most →
    ∃ R, PFairBounds.parcloseref27_Gap.l0 (m + 1) (startsF ss dom) last most t = some R ∧ IsGap ss dom R
  | 0, t, last, most, ht, h0, hl, hlt, hm0, hm1, hI => by
    have hcb := cycF_bd ss
    have hlen := startsF_len ss dom
    refine ⟨most, ?_, ?_⟩
    · unfold PFairBounds.parcloseref27_Gap.l0
      rw [hlen, wrap64_in (by omega) (by omega), if_neg (by omega)]
    · have : t = 2 * cycF ss := by omega
      subst this
      exact hI.done
  | m + 1, t, last, most, ht, h0, hl, hlt, hm0, hm1, hI => by
    have hcb := cycF_bd ss
    have hlen := startsF_len ss dom
    have hc : 0 < cycF ss := by omega
    have hr := Int.emod_nonneg t (show cycF ss ≠ 0 by omega)
    have hr2 := Int.emod_lt_of_pos t hc
    have hm : t.tmod (cycF ss) = t % cycF ss := Int.tmod_eq_emod_of_nonneg h0
    have hg := startsF_get ss dom t h0 hc
    unfold PFairBounds.parcloseref27_Gap.l0
    rw [hlen, wrap64_in (n := 2 * cycF ss) (by omega) (by omega), if_pos (by omega), if_neg (by omega), if_pos (by omega), if_pos (by omega), wrap64_in (n := t + 1) (by omega) (by omega), wrap64_in (n := t - last) (by omega) (by omega)]
    by_cases hs : IsStart ss dom t
    · rw [if_pos (hg.2 hs)]
      by_cases hl0 : last ≥ 0
      · rw [if_pos hl0]
        have hI' := hI.more hs hl0
        by_cases hgt : t - last > most
        · rw [if_pos hgt]
          rw [show max most (t - last) = t - last from by omega] at hI'
          exact gapR_go ss dom m (t + 1) t (t - last) (by omega) (by omega) (by omega) (by omega) (by omega) (by omega) hI'
        · rw [if_neg hgt]
          rw [show max most (t - last) = most from by omega] at hI'
          exact gapR_go ss dom m (t + 1) t most (by omega) (by omega) (by omega) (by omega) (by omega) (by omega) hI'
      · rw [if_neg hl0]
        exact gapR_go ss dom m (t + 1) t most (by omega) (by omega) (by omega) (by omega) (by omega) (by omega) (hI.first hs (by omega))
    · rw [if_neg (fun h => hs (hg.1 h))]
      exact gapR_go ss dom m (t + 1) last most (by omega) (by omega) (by omega) (by omega) (by omega) (by omega) (hI.skip hs)

theorem gapR_f (ss : List (Int × Int)) (dom : Int) (hreach : ss.length * 16 ≤ 140737488351232) : ∃ k, PFairBounds.parcloseref27_Gap.f k (s49 ss) dom = some (gapF ss dom) := by
  obtain ⟨k1, h1⟩ := starts_f ss dom hreach
  have hcb := cycF_bd ss
  obtain ⟨R, h2, h3⟩ := gapR_go ss dom (2 * cycF ss).toNat 0 (-1) 0 (by omega) (by omega) (by omega) (by omega) (by omega) (by omega) (.inl ⟨rfl, rfl, fun m h1 h2 => by omega⟩)
  have hR : R = gapF ss dom := h3.uniq (gapF_spec ss dom)
  rw [hR] at h2
  clear h3
  obtain ⟨m, hm⟩ : ∃ m, m = (2 * cycF ss).toNat := ⟨_, rfl⟩
  rw [← hm] at h2
  clear hm
  have e1 : PFairBounds.parcloseref27_starts.f (k1 + (m + 1)) (s49 ss) dom = some (startsF ss dom, shareF ss dom) :=
    at_rounds (g := fun k => PFairBounds.parcloseref27_starts.f k (s49 ss) dom) (PFairBounds.parcloseref27_starts.mono _ _) (by omega) h1
  have e2 : PFairBounds.parcloseref27_Gap.l0 (k1 + (m + 1)) (startsF ss dom) (-1) 0 0 = some (gapF ss dom) :=
    at_rounds (g := fun k => PFairBounds.parcloseref27_Gap.l0 k (startsF ss dom) (-1) 0 0) (fun k => PFairBounds.parcloseref27_Gap.mono_l k _ _ _ _) (by omega) h2
  refine ⟨k1 + (m + 1), ?_⟩
  unfold PFairBounds.parcloseref27_Gap.f
  rw [e1, Option.bind_some]
  dsimp only
  exact e2

theorem refgap_any (a : Option Addr) (len cap : Nat) (ss : List (Int × Int)) (hreach : ss.length * 16 ≤ 140737488351232) (dom : Int) (n₀ : Nat) (w : World) (hI : Slots n₀ w (.slice a len cap) ss) :
    Calls Try.prog 21 #[.slice a len cap, .int .i64 dom] w fun e w' => e = .returned (.int .i64 (gapF ss dom)) ∧ Below w.heap.size w w' := by
  obtain ⟨rfl, hc, hk⟩ := kd_of_slots hreach hI
  obtain ⟨k, h⟩ := gapR_f ss dom hreach
  exact PFairBounds.parcloseref27_Gap.calls k a cap (s49 ss) dom _ w hk hc h

end Go.Proofs.Ytjjljeepiehpaaa
