/- keccak.move: what it comes to. -/
import Derived.Test.YtfohblhaiflaeaaKc
namespace Go.Proofs.Ytfohblhaiflaeaa
open Go.RowKit

theorem built23 (x : BitVec 64) : Try.prog.built 23 [(0, U x)] = some (vals ((List.replicate 25 0).set 0 x)) := by kernel_rfl
theorem bld23 (x : BitVec 64) {ops : Array Oper} {rest : List Oper} {o : Oper} {a : Act} {w : World} {Q : Exit → Act → World → Prop} (hg : o.guard = none) (y : Operand) (ho : o.op = .build 23 #[(0, y)]) (hy : a.eval y = U x)
    (h : wpList Try.prog ops Q rest (a.put o.dst (.agg (vals ((List.replicate 25 0).set 0 x)))) w) : wpList Try.prog ops Q (o :: rest) a w := by
  have e : (#[(0, y)].map fun ((i, x) : Nat × Operand) => (i, a.eval x)).toList = [(0, U x)] := by simp [hy]
  refine wpList_build hg 23 #[(0, y)] ho ?_ ?_
  · rw [e, built23]; rfl
  · rw [e, built23]; exact h

theorem turn_num (k : Nat) (hk : k < 24) : ∃ p q r : Nat, r = (k + 1) * (k + 2) / 2 % 64 ∧ wrap64 (((k : Int) + 1) * ((k : Int) + 2)) = p ∧ wrap64 ((p : Int) / 2) = q ∧ (q : Int).tmod 64 = r ∧ (r : Int) < 64 := by
  have hp : (k + 1) * (k + 2) ≤ 24 * 25 := Nat.mul_le_mul (by omega) (by omega)
  have hpi : ((k : Int) + 1) * ((k : Int) + 2) = (((k + 1) * (k + 2) : Nat) : Int) := by simp
  generalize (k + 1) * (k + 2) = p at *
  refine ⟨p, p / 2, p / 2 % 64, rfl, ?_, ?_, ?_, by omega⟩
  · rw [hpi]; unfold wrap64; omega
  · unfold wrap64; omega
  · rw [Int.tmod_eq_emod_of_nonneg (by omega)]; omega
theorem ny_num (x y : Nat) : ((2 * (x : Int) + 3 * (y : Int)) % 5) = (((2 * x + 3 * y) % 5 : Nat) : Int) := by omega

set_option maxHeartbeats 1000000 in
set_option maxRecDepth 100000 in
theorem move_any (s : List (BitVec 64)) (hs : s.length = 25) (w : World) :
    Calls Try.prog 38 #[.agg (vals s)] w fun e w' => e = .returned (.agg (vals (moveF s))) ∧ Below w.heap.size w w' := by
  have hv0 : (vals s)[0]? = some (U (lane s 0)) := vals_get s 0 (by omega)
  have HS := veil hs; clear hs
  have hml : (mv0 s).out.length = 25 := by simp [mv0]
  obtain ⟨m0, hm0⟩ : ∃ m, m = (mv0 s).out := ⟨_, rfl⟩
  go_enter Try.func38, Try.ntmps38
  go_wp2_with (first
    | ((with_reducible refine bld23 (lane s 0) (o := ⟨some 11, _, _, _, _, _⟩) ?_ (.tmp 10) ?_ ?_ ?_); rfl; rfl; rfl; change wpList _ _ _ _ (Act.put _ _ (Value.agg (vals (mv0 s).out))) _; rw [← hm0]; simp only [Act.put, List.setIfInBounds_toArray, List.set_cons_zero, List.set_cons_succ])
    | ((with_reducible refine st25 (o := ⟨none, _, _, _, _, _⟩) ?_ (.tmp 3) (.tmp 11) ?_ (w.heap.size + 1 + 1) ?_ m0 (zeros 25) (by rw [hm0]; exact hml) (by simp [zeros]) ?_ ?_ ?_); rfl; rfl; rfl; rfl; exact heap_a3_2 _ _ _ _; simp only [Act.put]))
  go_loopw [4, 5, 12] (fun v4 v5 i wr => ∃ (k x y : Nat) (out : List (BitVec 64)), k ≤ 24 ∧ i = .int .i64 k ∧ Veil (mvOf s k = ⟨x, y, out⟩) ∧ v4 = .int .i64 x ∧ v5 = .int .i64 y ∧ Blk wr w.heap.size 23 (vals s) ∧ Blk wr (w.heap.size + 1) 23 (vals (zeros 25)) ∧ Blk wr (w.heap.size + 1 + 1) 23 (vals out) ∧ Below w.heap.size w wr) (fun _ _ i _ => 24 - (intOf i).toNat)
  case atStart =>
    refine ⟨0, 1, 0, m0, by omega, rfl, ?_, rfl, rfl, Blk.setRow_far (heap_a3_0 _ _ _ _) _ (by omega), Blk.setRow_far (heap_a3_1 _ _ _ _) _ (by omega), Blk.setRow_same (heap_a3_2 _ _ _ _) _, ?_⟩
    · exact veil (by rw [mvOf_zero, hm0]; rfl)
    · exact Below.setRow_ ((((Below.refl _ _).alloc (Nat.le_refl _) _).alloc (by simp) _).alloc (by simp; omega) _) (by omega) _
  case round =>
    obtain ⟨k, x, y, out, hk, rfl, HM, rfl, rfl, h0, h1, h2, hb⟩ := hrel
    clear hm0 hml hv0
    by_cases hlt : k < 24
    · obtain ⟨bx, by_, hol⟩ : x < 5 ∧ y < 5 ∧ out.length = 25 := by
        have hok := mvOf_ok s k
        rw [HM.out] at hok
        exact hok
      have hs := HS.out
      obtain ⟨n1, hn1⟩ : ∃ n, n = y % 5 + 5 * ((2 * x + 3 * y) % 5 % 5) := ⟨_, rfl⟩
      obtain ⟨n2, hn2⟩ : ∃ n, n = x % 5 + 5 * (y % 5) := ⟨_, rfl⟩
      have hf := h2.frozen n1
      have hc1 := h2.cell n1
      have hc2 := h0.cell n2
      rw [vals_get _ _ (by omega)] at hc1 hc2
      have m1 : (n1 : Int) = (y : Int) % 5 + 5 * ((2 * (x : Int) + 3 * (y : Int)) % 5 % 5) := by omega
      have m2 : (n2 : Int) = (x : Int) % 5 + 5 * ((y : Int) % 5) := by omega
      have b1 : (n1 : Int) < 25 := by omega
      have b2 : (n2 : Int) < 25 := by omega
      have hsucc := mvOf_succ s k
      rw [HM.out, moveS] at hsucc
      simp only [] at hsucc
      rw [← hn1, ← hn2] at hsucc
      have M1 := veil m1
      have M2 := veil m2
      obtain ⟨p, q, r, hr, f1, f2, f3, br⟩ := turn_num k hlt
      rw [← hr] at hsucc
      have hy' := ny_num x y
      have HY := veil hy'
      have H := veil hsucc
      clear hsucc hol hs hn1 hn2 m1 m2 hr hy'
      go_wp2_with fail
      with_reducible refine (at_nat n1 _ _ _ (by omega) (by omega) (by omega) (by omega) M1.out).mono ?_
      rintro e w' ⟨rfl, rfl⟩
      go_wp2_with fail
      refine (at_nat n2 _ _ _ (by omega) (by omega) (by omega) (by omega) M2.out).mono ?_
      rintro e w' ⟨rfl, rfl⟩
      go_wp2_with fail
      refine (rot_any _ _ _ (by omega) (by omega)).mono ?_
      rintro e w' ⟨rfl, rfl⟩
      rw [Int.toNat_natCast]
      go_wp2_with fail
      go_roundw
      case rel =>
        refine ⟨k + 1, y, (2 * x + 3 * y) % 5, out.set n1 (rotl (lane s n2) r), by omega, by go_num, H, rfl, by rw [HY.out], h0.far (by simp; omega) _, h1.far (by simp) _, ?_, hb.setCell (by simp; omega) _⟩
        rw [← vals_set]
        exact h2.set_ _ _
      case measure => simp [intOf]; omega
    · have hk' : k = 24 := by omega
      subst hk'
      have hsl : out.length = 25 := by
        have hok := mvOf_ok s 24
        rw [HM.out] at hok
        exact hok.2.2
      have hfin : moveF s = out := by rw [moveF_eq, HM.out]
      have HF := veil hfin
      have HL := veil hsl; clear hsl hfin
      go_wp2_with (first
        | ((with_reducible refine ld25 (o := ⟨some 42, _, _, _, _, _⟩) ?_ (.tmp 3) ?_ (w.heap.size + 1 + 1) ?_ out HL.out h2 ?_); rfl; rfl; rfl; simp only [Act.put, List.setIfInBounds_toArray, List.set_cons_zero, List.set_cons_succ])
        | ((with_reducible refine st25 (o := ⟨none, _, _, _, _, _⟩) ?_ (.tmp 2) (.tmp 42) ?_ (w.heap.size + 1) ?_ out (zeros 25) HL.out (by simp [zeros]) ?_ h1 ?_); rfl; rfl; rfl; rfl; simp only [Act.put]))
      refine bodyPost_ret (res25 rfl _ _ (w.heap.size + 1) out HL.out rfl (h1.setRow_same _)) rfl ⟨by rw [HF.out], Below.setRow_ hb (by omega) _⟩

end Go.Proofs.Ytfohblhaiflaeaa
