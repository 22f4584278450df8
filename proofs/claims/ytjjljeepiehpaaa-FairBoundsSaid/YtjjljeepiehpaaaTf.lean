/- tick.Next, in plain words: the first tick at which a slot of the domain begins. No program in sight. -/
import Derived.Test.YtjjljeepiehpaaaTe
namespace Go.Proofs.Ytjjljeepiehpaaa

theorem fromTo_mono (ss : List (Int × Int)) (j : Nat) : ∀ d, fromTo ss j ≤ fromTo ss (j + d)
  | 0 => Int.le_refl _
  | d + 1 => by
    have h := fromTo_mono ss j d
    show _ ≤ fromTo ss (j + d + 1)
    by_cases ho : okLen (slen ss (j + d)) = true
    · have h3 : 1 ≤ slen ss (j + d) ∧ slen ss (j + d) ≤ 16 := by simpa [okLen] using ho
      rw [fromTo, if_pos ho]; omega
    · rw [fromTo, if_neg ho]; exact h
theorem seq_bd (ss : List (Int × Int)) {x : Nat × Int} (h : x ∈ seqTo ss (cntN ss)) : 0 ≤ x.2 ∧ x.2 < cycF ss := by
  obtain ⟨h1, h2, h3, h4⟩ := seqTo_good ss (cntN ss) (Nat.le_refl _) x h
  have h5 := fromTo_bd ss x.1
  have h6 := fromTo_mono ss (x.1 + 1) (cntN ss - (x.1 + 1))
  rw [show x.1 + 1 + (cntN ss - (x.1 + 1)) = cntN ss from by omega, fromTo_yes ss x.1 h3 h4] at h6
  unfold cycF
  omega

/-- a slot of the domain begins at T -/
def IsStart (ss : List (Int × Int)) (dom T : Int) : Prop := 0 ≤ T ∧ ∃ x ∈ seqTo ss (cntN ss), sdom ss x.1 = dom ∧ T % cycF ss = x.2

theorem atF_spec {c t s : Int} (hc : 0 < c) (_ht : 0 ≤ t) (hs : 0 ≤ s) (hs2 : s < c) : t ≤ atF c t s ∧ atF c t s % c = s ∧ ∀ m, t ≤ m → m % c = s → atF c t s ≤ m := by
  have hd := Int.emod_add_mul_ediv t c
  have hr := Int.emod_nonneg t (show c ≠ 0 by omega)
  have hr2 := Int.emod_lt_of_pos t hc
  obtain ⟨q, hq⟩ : ∃ q, q = t / c := ⟨_, rfl⟩
  obtain ⟨r, hr0⟩ : ∃ r, r = t % c := ⟨_, rfl⟩
  rw [← hq, ← hr0] at hd
  rw [← hr0] at hr hr2
  have hcase : (t - r + s < t ∧ atF c t s = s + c * (q + 1)) ∨ (t ≤ t - r + s ∧ atF c t s = s + c * q) := by
    unfold atF
    rw [← hr0, Int.mul_add, Int.mul_one]
    split
    · exact .inl ⟨by omega, by omega⟩
    · exact .inr ⟨by omega, by omega⟩
  have hmod : ∀ p, (s + c * p) % c = s := fun p => by rw [Int.add_mul_emod_self_left]; exact Int.emod_eq_of_lt hs hs2
  have hlow : ∀ m, t ≤ m → m % c = s → ∃ p, m = s + c * p ∧ q ≤ p := fun m hm hms => by
    have hdm := Int.emod_add_mul_ediv m c
    rw [hms] at hdm
    refine ⟨m / c, hdm.symm, ?_⟩
    rcases Int.lt_or_le (m / c) q with h | h
    · have h2 := Int.mul_le_mul_of_nonneg_left (show m / c ≤ q - 1 by omega) (show 0 ≤ c by omega)
      rw [Int.mul_sub, Int.mul_one] at h2
      omega
    · exact h
  rcases hcase with ⟨h, he⟩ | ⟨h, he⟩
  · rw [he]
    refine ⟨by rw [Int.mul_add, Int.mul_one]; omega, hmod _, fun m hm hms => ?_⟩
    obtain ⟨p, rfl, hp⟩ := hlow m hm hms
    have hpq : q + 1 ≤ p := by
      rcases Int.lt_or_le q p with h2 | h2
      · omega
      · have : p = q := by omega
        subst this; omega
    have := Int.mul_le_mul_of_nonneg_left hpq (show 0 ≤ c by omega)
    omega
  · rw [he]
    refine ⟨by omega, hmod _, fun m hm hms => ?_⟩
    obtain ⟨p, rfl, hp⟩ := hlow m hm hms
    have := Int.mul_le_mul_of_nonneg_left hp (show 0 ≤ c by omega)
    omega

def BestOf (ss : List (Int × Int)) (c dom t : Int) (l : List (Nat × Int)) (b : Int) : Prop :=
  (b = -1 ∧ ∀ x ∈ l, sdom ss x.1 = dom → 4611686018427387904 < atF c t x.2) ∨
  (0 ≤ b ∧ b ≤ 4611686018427387904 ∧ (∃ x ∈ l, sdom ss x.1 = dom ∧ atF c t x.2 = b) ∧ ∀ x ∈ l, sdom ss x.1 = dom → b ≤ atF c t x.2)
theorem best_step {ss : List (Int × Int)} {c dom t : Int} {pre : List (Nat × Int)} {b : Int} (h : BestOf ss c dom t pre b) (x : Nat × Int) (hx : 0 ≤ atF c t x.2) : BestOf ss c dom t (pre ++ [x]) (bestS ss c dom t b x) := by
  unfold bestS
  by_cases hd : sdom ss x.1 = dom
  · rw [if_neg (by simp [hd])]
    rcases h with ⟨rfl, h⟩ | ⟨h0, h1, ⟨y, hy, hyd, hya⟩, h3⟩
    · by_cases hA : atF c t x.2 ≤ 4611686018427387904
      · rw [if_pos ⟨hA, .inl (by omega)⟩]
        refine .inr ⟨hx, hA, ⟨x, by simp, hd, rfl⟩, fun y hy hyd => ?_⟩
        rcases List.mem_append.1 hy with hy | hy
        · have := h y hy hyd; omega
        · simp only [List.mem_singleton] at hy; subst hy; exact Int.le_refl _
      · rw [if_neg (by omega)]
        refine .inl ⟨rfl, fun y hy hyd => ?_⟩
        rcases List.mem_append.1 hy with hy | hy
        · exact h y hy hyd
        · simp only [List.mem_singleton] at hy; subst hy; omega
    · by_cases hA : atF c t x.2 < b
      · rw [if_pos ⟨by omega, .inr hA⟩]
        refine .inr ⟨hx, by omega, ⟨x, by simp, hd, rfl⟩, fun y hy hyd => ?_⟩
        rcases List.mem_append.1 hy with hy | hy
        · have := h3 y hy hyd; omega
        · simp only [List.mem_singleton] at hy; subst hy; exact Int.le_refl _
      · rw [if_neg (by omega)]
        refine .inr ⟨h0, h1, ⟨y, List.mem_append.2 (.inl hy), hyd, hya⟩, fun z hz hzd => ?_⟩
        rcases List.mem_append.1 hz with hz | hz
        · exact h3 z hz hzd
        · simp only [List.mem_singleton] at hz; subst hz; omega
  · rw [if_pos hd]
    have hno : ∀ y, y ∈ pre ++ [x] → sdom ss y.1 = dom → y ∈ pre := fun y hy hyd => by
      rcases List.mem_append.1 hy with hy | hy
      · exact hy
      · simp only [List.mem_singleton] at hy; subst hy; exact absurd hyd hd
    rcases h with ⟨rfl, h⟩ | ⟨h0, h1, ⟨y, hy, hyd, hya⟩, h3⟩
    · exact .inl ⟨rfl, fun y hy hyd => h y (hno y hy hyd) hyd⟩
    · exact .inr ⟨h0, h1, ⟨y, List.mem_append.2 (.inl hy), hyd, hya⟩, fun z hz hzd => h3 z (hno z hz hzd) hzd⟩
theorem best_fold {ss : List (Int × Int)} {c dom t : Int} : ∀ (l pre : List (Nat × Int)) (b : Int), BestOf ss c dom t pre b → (∀ x ∈ l, 0 ≤ atF c t x.2) → BestOf ss c dom t (pre ++ l) (l.foldl (bestS ss c dom t) b)
  | [], pre, b, h, _ => by simpa using h
  | x :: l, pre, b, h, hl => by
    have h2 := best_fold l (pre ++ [x]) _ (best_step h x (hl x (List.mem_cons_self))) (fun y hy => hl y (List.mem_cons_of_mem _ hy))
    simpa using h2

theorem next_ok {ss : List (Int × Int)} {dom t : Int} (h : (nextF ss dom t).2 = true) :
    heldF t ≤ (nextF ss dom t).1 ∧ (nextF ss dom t).1 ≤ 4611686018427387904 ∧ IsStart ss dom (nextF ss dom t).1 ∧ ∀ m, heldF t ≤ m → m < (nextF ss dom t).1 → ¬ IsStart ss dom m := by
  have ht := heldF_bd t
  have hcb := cycF_bd ss
  unfold nextF at h ⊢
  by_cases hc : cycF ss = 0
  · rw [if_pos hc] at h; cases h
  · rw [if_neg hc] at h ⊢
    have hc' : 0 < cycF ss := by omega
    have hB := best_fold (ss := ss) (c := cycF ss) (dom := dom) (t := heldF t) (seqTo ss (cntN ss)) [] (-1) (.inl ⟨rfl, by simp⟩) (fun x hx => by
      have := (atF_spec hc' ht.1 (seq_bd ss hx).1 (seq_bd ss hx).2).1; omega)
    rw [List.nil_append] at hB
    have hbe : (seqTo ss (cntN ss)).foldl (bestS ss (cycF ss) dom (heldF t)) (-1) = bestF ss (cycF ss) dom (heldF t) (seqTo ss (cntN ss)) := by unfold bestF; rfl
    rw [hbe] at hB
    have h0 : 0 ≤ bestF ss (cycF ss) dom (heldF t) (seqTo ss (cntN ss)) := by simpa using h
    rcases hB with ⟨hb, _⟩ | ⟨_, h1, ⟨x, hx, hxd, hxa⟩, h3⟩
    · omega
    · have hs := atF_spec hc' ht.1 (seq_bd ss hx).1 (seq_bd ss hx).2
      rw [hxa] at hs
      have hm : max (bestF ss (cycF ss) dom (heldF t) (seqTo ss (cntN ss))) 0 = bestF ss (cycF ss) dom (heldF t) (seqTo ss (cntN ss)) := by omega
      dsimp only
      rw [hm]
      refine ⟨hs.1, h1, ⟨h0, x, hx, hxd, hs.2.1⟩, ?_⟩
      rintro m hm1 hm2 ⟨_, y, hy, hyd, hym⟩
      have hs2 := (atF_spec hc' ht.1 (seq_bd ss hy).1 (seq_bd ss hy).2).2.2 m hm1 hym
      have := h3 y hy hyd
      omega
theorem next_none {ss : List (Int × Int)} {dom t : Int} (h : (nextF ss dom t).2 = false) :
    (nextF ss dom t).1 = 0 ∧ ∀ m, heldF t ≤ m → m ≤ 4611686018427387904 → ¬ IsStart ss dom m := by
  have ht := heldF_bd t
  have hcb := cycF_bd ss
  unfold nextF at h ⊢
  by_cases hc : cycF ss = 0
  · rw [if_pos hc]
    refine ⟨rfl, ?_⟩
    rintro m _ _ ⟨_, y, hy, _⟩
    have := seq_bd ss hy
    omega
  · rw [if_neg hc] at h ⊢
    have hc' : 0 < cycF ss := by omega
    have hB := best_fold (ss := ss) (c := cycF ss) (dom := dom) (t := heldF t) (seqTo ss (cntN ss)) [] (-1) (.inl ⟨rfl, by simp⟩) (fun x hx => by
      have := (atF_spec hc' ht.1 (seq_bd ss hx).1 (seq_bd ss hx).2).1; omega)
    rw [List.nil_append] at hB
    have hbe : (seqTo ss (cntN ss)).foldl (bestS ss (cycF ss) dom (heldF t)) (-1) = bestF ss (cycF ss) dom (heldF t) (seqTo ss (cntN ss)) := by unfold bestF; rfl
    rw [hbe] at hB
    have h0 : ¬ 0 ≤ bestF ss (cycF ss) dom (heldF t) (seqTo ss (cntN ss)) := by simpa using h
    refine ⟨by dsimp only; omega, ?_⟩
    rintro m hm1 hm2 ⟨_, y, hy, hyd, hym⟩
    have hs2 := (atF_spec hc' ht.1 (seq_bd ss hy).1 (seq_bd ss hy).2).2.2 m hm1 hym
    rcases hB with ⟨hb, h3⟩ | ⟨hb, _⟩
    · have := h3 y hy hyd
      omega
    · omega

end Go.Proofs.Ytjjljeepiehpaaa
