/- parcloseref05.Next, .Add, .Cycle; parcloseref27.times, .Bound: what they come to. -/
import Derived.Test.YtjjljeepiehpaaaTo
namespace Go.Proofs.Ytjjljeepiehpaaa
open Go.RowKit Go.Shelf Go.Proofs.YtjjljeepiehpaaaW.PrintWords

theorem held05 (t : Int) : PFairBounds.parcloseref05_Held.f t = some (heldF t) := by
  unfold PFairBounds.parcloseref05_Held.f heldF
  split
  · exact congrArg some (by omega)
  · split
    · exact congrArg some (by omega)
    · exact congrArg some (by omega)
theorem add05_f (t d : Int) : PFairBounds.parcloseref05_Add.f t d = some (addF t d) := by
  have h := heldF_bd t
  unfold PFairBounds.parcloseref05_Add.f addF
  rw [held05, Option.bind_some]
  split
  · exact congrArg some (by omega)
  · rw [wrap64_in (n := 4611686018427387904 - heldF t) (by omega) (by omega)]
    split
    · exact congrArg some (by omega)
    · rw [wrap64_in (by omega) (by omega)]; exact congrArg some (by omega)
theorem add05_any (t d : Int) (w : World) : Calls Try.prog 24 #[.int .i64 t, .int .i64 d] w fun e w' => e = .returned (.int .i64 (addF t d)) ∧ Below w.heap.size w w' :=
  (PFairBounds.parcloseref05_Add.calls t d _ w (add05_f t d)).mono fun _ _ ⟨h, hd⟩ => ⟨h, hd.below⟩

theorem l0_step (k : Nat) (x0 : List PFairBounds.S49) (x1 x2 : Int) (x8 : List Int) (x9 : List Bool) (x10 K : Int) (hK : wrap64 (4611686018427387904 - x2) = K) :
    PFairBounds.parcloseref05_Next.l0 (k + 1) x0 x1 x2 x8 x9 x10 = if x10 < (x8.length : Int) then PFairBounds.parcloseref05_Next.j1 k x0 x1 x2 x8 x9 x10 (decide (x10 ≤ K)) else PFairBounds.parcloseref05_Next.j1 k x0 x1 x2 x8 x9 x10 false := by
  subst hK
  rfl
theorem j1_no (k : Nat) (x0 : List PFairBounds.S49) (x1 x2 : Int) (x8 : List Int) (x9 : List Bool) (x10 : Int) : PFairBounds.parcloseref05_Next.j1 (k + 1) x0 x1 x2 x8 x9 x10 false = some (0, false) := rfl
theorem j1_yes (k : Nat) (x0 : List PFairBounds.S49) (x1 x2 : Int) (x8 : List Int) (x9 : List Bool) (x10 c K : Int) (hc : (x8.length : Int) = c) (h0 : c ≠ 0) (hc9 : (x9.length : Int) = c) (hK : (Int.tmod (wrap64 ((Int.tmod x2 c) + x10)) c) = K) (hK0 : 0 ≤ K) (hKc : K < c) :
    PFairBounds.parcloseref05_Next.j1 (k + 1) x0 x1 x2 x8 x9 x10 true = if rdOf false x9 K = true then (if 0 ≤ rd x8 K then (if rd x8 K < (x0.length : Int) then (if (PFairBounds.rd_T49 x0 (rd x8 K)).f0 = x1 then some (wrap64 (x2 + x10), true) else PFairBounds.parcloseref05_Next.l0 k x0 x1 x2 x8 x9 (wrap64 (x10 + 1))) else none) else none) else PFairBounds.parcloseref05_Next.l0 k x0 x1 x2 x8 x9 (wrap64 (x10 + 1)) := by
  unfold PFairBounds.parcloseref05_Next.j1
  rw [hc, hc9, hK, if_pos rfl, if_neg h0, if_pos hK0, if_pos hKc, if_pos hKc]

theorem pos_tmod (c t : Int) (n : Nat) (ht : 0 ≤ t) (_ht2 : t ≤ 4611686018427387904) (hc : c ≤ 256) (hn : (n : Int) < c) : ∃ kk : Nat, (t + n) % c = (kk : Int) ∧ (kk : Int) < c ∧ Int.tmod (wrap64 (Int.tmod t c + n)) c = (kk : Int) := by
  have hr := Int.emod_nonneg t (show c ≠ 0 by omega)
  have hr2 := Int.emod_lt_of_pos t (show 0 < c by omega)
  have hk := Int.emod_nonneg (t + n) (show c ≠ 0 by omega)
  have hk2 := Int.emod_lt_of_pos (t + n) (show 0 < c by omega)
  refine ⟨((t + n) % c).toNat, by omega, by omega, ?_⟩
  rw [Int.tmod_eq_emod_of_nonneg ht, wrap64_in (n := t % c + n) (by omega) (by omega), Int.tmod_eq_emod_of_nonneg (by omega), Int.emod_add_emod]
  omega

theorem nextR_go (ss : List (Int × Int)) (dom t0 : Int) (hreach : ss.length * 16 ≤ 140737488351232) : ∀ (m n : Nat), ((n + m : Nat) : Int) = cycF ss → (∀ x, heldF t0 ≤ x → x < heldF t0 + n → ¬ IsStart ss dom x) →
    ∃ k, PFairBounds.parcloseref05_Next.l0 k (s49 ss) dom (heldF t0) (ownW ss (cntN ss)) (ownB ss (cntN ss)) (n : Int) = some (nextF ss dom t0)
  | 0, n, hn, hno => by
    have ht := heldF_bd t0
    have hl := ownW_len ss (cntN ss)
    have hnone := none_of_cycle (ss := ss) (dom := dom) ht.1 (fun m h1 h2 => hno m h1 (by omega))
    refine ⟨2, ?_⟩
    rw [next_eq_no (fun m _ _ => hnone m)]
    unfold PFairBounds.parcloseref05_Next.l0
    rw [if_neg (by unfold cycF at hn; omega)]
    unfold PFairBounds.parcloseref05_Next.j1
    rw [if_neg (by decide)]
  | m + 1, n, hn, hno => by
    have ht := heldF_bd t0
    have hcb := cycF_bd ss
    have hl : ((ownW ss (cntN ss)).length : Int) = cycF ss := ownW_len ss (cntN ss)
    have hlb : ((ownB ss (cntN ss)).length : Int) = cycF ss := ownB_len ss (cntN ss)
    have hc : 0 < cycF ss := by omega
    obtain ⟨t, htt⟩ : ∃ t, t = heldF t0 := ⟨_, rfl⟩
    rw [← htt] at ht hno ⊢
    obtain ⟨K, hK⟩ : ∃ K, K = 4611686018427387904 - t := ⟨_, rfl⟩
    have hKw : wrap64 (4611686018427387904 - t) = K := by rw [wrap64_in (n := 4611686018427387904 - t) (by omega) (by omega)]; exact hK.symm
    by_cases hmx : (n : Int) ≤ K
    · have hw2 : wrap64 (t + n) = t + n := wrap64_in (n := t + n) (by omega) (by omega)
      have hnl : (n : Int) < ((ownW ss (cntN ss)).length : Int) := by omega
      obtain ⟨kk, hkk, hkc, hkm⟩ := pos_tmod (cycF ss) t n ht.1 ht.2 hcb.2 (by omega)
      have HKM := veil hkm
      have HKK := veil hkk
      clear hkm hkk
      have hw : wrap64 ((n : Int) + 1) = ((n + 1 : Nat) : Int) := by rw [wrap64_in (by omega) (by omega)]; omega
      have hrec : ¬ IsStart ss dom (t + n) → ∃ k, PFairBounds.parcloseref05_Next.l0 k (s49 ss) dom t (ownW ss (cntN ss)) (ownB ss (cntN ss)) ((n + 1 : Nat) : Int) = some (nextF ss dom t0) := fun hns => by
        rw [htt]
        refine nextR_go ss dom t0 hreach m (n + 1) (by omega) (fun x h1 h2 => ?_)
        rw [← htt] at h1 h2
        by_cases hE : x = t + n
        · rw [hE]; exact hns
        · exact hno x h1 (by omega)
      have hstep : ∀ k, PFairBounds.parcloseref05_Next.l0 (k + 2) (s49 ss) dom t (ownW ss (cntN ss)) (ownB ss (cntN ss)) (n : Int) = PFairBounds.parcloseref05_Next.j1 (k + 1) (s49 ss) dom t (ownW ss (cntN ss)) (ownB ss (cntN ss)) (n : Int) true := fun k => by
        rw [l0_step (k + 1) _ _ _ _ _ _ K hKw, if_pos hnl, decide_eq_true hmx]
      have hj := fun k => j1_yes k (s49 ss) dom t (ownW ss (cntN ss)) (ownB ss (cntN ss)) n (cycF ss) kk hl (by omega) hlb HKM.out (by omega) hkc
      by_cases hs : IsStart ss dom (t + n)
      · obtain ⟨_, x, hx, hd, hm⟩ := id hs
        have ho := own_of ss (cntN ss) x hx
        rw [HKK.out] at hm
        have hxk : x.2.toNat = kk := by omega
        clear hm
        rw [hxk] at ho
        have hgood := seqTo_good ss (cntN ss) (Nat.le_refl _) x hx
        have hx1 : x.1 < ss.length := by have := hgood.1; unfold cntN at this; omega
        refine ⟨0 + 2, ?_⟩
        have hrd : rd (ownW ss (cntN ss)) (kk : Int) = (x.1 : Int) := by unfold rd; rw [Int.toNat_natCast]; exact ho.2
        have hcond : rdOf false (ownB ss (cntN ss)) (kk : Int) = true := by unfold rdOf; rw [Int.toNat_natCast]; exact ho.1
        have hle : t + n ≤ 4611686018427387904 := by omega
        have hge : heldF t0 ≤ t + n := by rw [← htt]; exact Int.le_add_of_nonneg_right (Int.natCast_nonneg n)
        have hx0 : (0 : Int) ≤ (x.1 : Int) := Int.natCast_nonneg _
        have hxl : (x.1 : Int) < ((s49 ss).length : Int) := by rw [s49_len]; exact Int.ofNat_lt.2 hx1
        have hny := next_eq_yes hs hge hle (fun y h1 h2 => hno y (by rw [htt]; exact h1) h2)
        rw [hny, hstep, hj, if_pos hcond, hrd, if_pos hx0, if_pos hxl, rd49, if_pos hd, hw2]
      · obtain ⟨k, ih⟩ := hrec hs
        refine ⟨k + 2, ?_⟩
        rw [hstep, hj]
        by_cases hb : rdOf false (ownB ss (cntN ss)) (kk : Int) = true
        · have hb' : (ownB ss (cntN ss)).getD kk false = true := by unfold rdOf at hb; rwa [Int.toNat_natCast] at hb
          obtain ⟨x, hx, he, hwx⟩ := own_get ss (cntN ss) kk hb'
          have hgood := seqTo_good ss (cntN ss) (Nat.le_refl _) x hx
          have hx1 : x.1 < ss.length := by have := hgood.1; unfold cntN at this; omega
          have hrd : rd (ownW ss (cntN ss)) (kk : Int) = (x.1 : Int) := by unfold rd; rw [Int.toNat_natCast]; exact hwx
          have hnd : ¬ sdom ss x.1 = dom := fun hd => hs ⟨Int.add_nonneg ht.1 (Int.natCast_nonneg n), x, hx, hd, by rw [HKK.out]; exact he.symm⟩
          have hx0 : (0 : Int) ≤ (x.1 : Int) := Int.natCast_nonneg _
          have hxl : (x.1 : Int) < ((s49 ss).length : Int) := by rw [s49_len]; exact Int.ofNat_lt.2 hx1
          rw [if_pos hb, hrd, if_pos hx0, if_pos hxl, rd49, if_neg hnd, hw]
          exact ih
        · rw [if_neg hb, hw]; exact ih
    · refine ⟨2, ?_⟩
      have hnone : ∀ y, heldF t0 ≤ y → y ≤ 4611686018427387904 → ¬ IsStart ss dom y := fun y h1 h2 => hno y (by omega) (by omega)
      rw [next_eq_no hnone, l0_step _ _ _ _ _ _ _ K hKw, if_pos (by omega), decide_eq_false hmx]
      rfl

end Go.Proofs.Ytjjljeepiehpaaa
