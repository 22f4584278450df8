/- keccak.Round, keccak.Permute: what they come to. -/
import Derived.Test.YtfohblhaiflaeaaKe
namespace Go.Proofs.Ytfohblhaiflaeaa
open Go.RowKit

theorem thetaF_len (s : List (BitVec 64)) : (thetaF s).length = s.length := by rw [thetaF_eq, sOf_len]
theorem moveF_len (s : List (BitVec 64)) : (moveF s).length = 25 := by rw [moveF_eq]; exact (mvOf_ok s 24).2.2
theorem chiF_len (s : List (BitVec 64)) : (chiF s).length = s.length := by rw [chiF_eq, chOf_len]

def stirF (s : List (BitVec 64)) : List (BitVec 64) := chiF (moveF (thetaF s))
theorem stirF_len (s : List (BitVec 64)) : (stirF s).length = 25 := by rw [stirF, chiF_len, moveF_len]
/-- round n -/
def roundF (n : Nat) (s : List (BitVec 64)) : List (BitVec 64) := (stirF s).set 0 (lane (stirF s) 0 ^^^ markF n)
theorem roundF_len (n : Nat) (s : List (BitVec 64)) : (roundF n s).length = 25 := by rw [roundF, List.length_set, stirF_len]
theorem roundF_eq (n : Nat) (s : List (BitVec 64)) : roundF n s = (chiF (moveF (thetaF s))).set 0 (lane (chiF (moveF (thetaF s))) 0 ^^^ markF n) := rfl
attribute [irreducible] stirF roundF

set_option maxHeartbeats 1000000 in
set_option maxRecDepth 100000 in
theorem round_any (n : Nat) (hn : n < 24) (s : List (BitVec 64)) (hs : s.length = 25) (w : World) :
    Calls Try.prog 16 #[.agg (vals s), .int .i64 n] w fun e w' => e = .returned (.agg (vals (roundF n s))) ∧ Below w.heap.size w w' := by
  have hl1 : (thetaF s).length = 25 := by rw [thetaF_len, hs]
  have hl2 := moveF_len (thetaF s)
  have hl3 : (chiF (moveF (thetaF s))).length = 25 := by rw [chiF_len, hl2]
  have H1 := veil hl1
  have H2 := veil hl2
  have H3 := veil hl3
  have HR := veil (roundF_eq n s)
  have HS := veil hs
  clear hl1 hl2 hl3 hs
  go_enter Try.func16, Try.ntmps16
  go_wp2_with (
    ((with_reducible refine ld25 (o := ⟨some 12, _, _, _, _, _⟩) ?_ (.tmp 2) ?_ w.heap.size ?_ s HS.out ?_ ?_); rfl; rfl; rfl; exact heap_a2_0 _ _ _; simp only [Act.put, List.setIfInBounds_toArray, List.set_cons_zero, List.set_cons_succ]))
  with_reducible refine (theta_any s HS.out _).mono ?_
  rintro e w1 ⟨rfl, hb1⟩
  go_wp2_with fail
  with_reducible refine (move_any _ H1.out _).mono ?_
  rintro e w2 ⟨rfl, hb2⟩
  go_wp2_with fail
  with_reducible refine (chi_any _ H2.out _).mono ?_
  rintro e w3 ⟨rfl, hb3⟩
  have z1 := hb1.size
  have z2 := hb2.size
  have z3 := hb3.size
  simp only [World.size_alloc] at z1
  have h0 : Blk w3 w.heap.size 23 (vals s) := Blk.below (Blk.below (Blk.below (B := _) (heap_a2_0 _ _ _) hb1 (by simp only [World.size_alloc]; omega)) hb2 (by omega)) hb3 (by omega)
  have h1 : Blk w3 (w.heap.size + 1) 23 (vals (zeros 25)) := Blk.below (Blk.below (Blk.below (B := _) (heap_a2_1 _ _ _) hb1 (by simp only [World.size_alloc]; omega)) hb2 (by omega)) hb3 (by omega)
  have hb : Below w.heap.size w w3 := (((((Below.refl _ _).alloc (Nat.le_refl _) _).alloc (by simp) _).trans (hb1.mono (by simp only [World.size_alloc]; omega))).trans (hb2.mono (by omega))).trans (hb3.mono (by omega))
  clear hb1 hb2 hb3 z1 z2 z3
  go_wp2_with (
    ((with_reducible refine st25 (o := ⟨none, _, _, _, _, _⟩) ?_ (.tmp 2) (.tmp 15) ?_ w.heap.size ?_ (chiF (moveF (thetaF s))) s H3.out HS.out ?_ h0 ?_); rfl; rfl; rfl; rfl; simp only [Act.put]))
  have h0' := Blk.setRow_same h0 (vals (chiF (moveF (thetaF s))))
  have h1' := Blk.setRow_far (g := w.heap.size) h1 (vals (chiF (moveF (thetaF s)))) (by omega)
  have hb' := Below.setRow_ hb (Nat.le_refl _) (vals (chiF (moveF (thetaF s))))
  clear h0 h1 hb
  obtain ⟨w4, hw4⟩ : ∃ w4, w4 = w3.setRow w.heap.size (vals (chiF (moveF (thetaF s)))) := ⟨_, rfl⟩
  rw [← hw4] at h0' h1' hb' ⊢
  clear hw4
  obtain ⟨c, hc⟩ : ∃ c, c = chiF (moveF (thetaF s)) := ⟨_, rfl⟩
  have H4 := H3.out
  have HR' := HR.out
  rw [← hc] at h0' H4 HR'
  rw [← hc]
  have hc0 := h0'.cell 0
  have hf0 := h0'.frozen 0
  rw [vals_get _ _ (by omega)] at hc0
  have H4' := veil H4
  have HR2 := veil HR'
  clear hc H4 HR' H1 H2 H3 HR
  go_still_tail 6, (by kernel_rfl)
  still_call (still_of (mark_any n hn _))
  repeat still_step
  refine wpStill_nil ?_
  change wpList _ _ _ _ _ w4.drew
  have hset : Blk (w4.setCell ⟨w.heap.size, 0, none⟩ (.int .u64 (bits .xor .u64 ((lane c 0).toNat : Int) ((markF n).toNat : Int)))).drew w.heap.size 23 (vals (roundF n s)) := by
    rw [HR2.out, xor_bv, ← vals_set]; exact (h0'.set_ _ _).drew
  have hset1 : Blk (w4.setCell ⟨w.heap.size, 0, none⟩ (.int .u64 (bits .xor .u64 ((lane c 0).toNat : Int) ((markF n).toNat : Int)))).drew (w.heap.size + 1) 23 (vals (zeros 25)) := (h1'.far (by simp) _).drew
  have hbs : Below w.heap.size w (w4.setCell ⟨w.heap.size, 0, none⟩ (.int .u64 (bits .xor .u64 ((lane c 0).toNat : Int) ((markF n).toNat : Int)))).drew := (hb'.setCell (by simp) _).drew
  go_wp2_with (first
    | ((with_reducible refine ld25 (o := ⟨some 22, _, _, _, _, _⟩) ?_ (.tmp 2) ?_ w.heap.size ?_ (roundF n s) (roundF_len n s) hset ?_); rfl; rfl; rfl; simp only [Act.put, List.setIfInBounds_toArray, List.set_cons_zero, List.set_cons_succ])
    | ((with_reducible refine st25 (o := ⟨none, _, _, _, _, _⟩) ?_ (.tmp 4) (.tmp 22) ?_ (w.heap.size + 1) ?_ (roundF n s) (zeros 25) (roundF_len n s) (by simp [zeros]) ?_ hset1 ?_); rfl; rfl; rfl; rfl; simp only [Act.put]))
  refine bodyPost_ret (res25 rfl _ _ (w.heap.size + 1) (roundF n s) (roundF_len n s) rfl (hset1.setRow_same _)) rfl ⟨rfl, Below.setRow_ hbs (by omega) _⟩

set_option maxHeartbeats 1000000 in
set_option maxRecDepth 100000 in
theorem round_out (n : Int) (hn : n < 0 ∨ 24 ≤ n) (s : List (BitVec 64)) (hs : s.length = 25) (w : World) :
    Calls Try.prog 16 #[.agg (vals s), .int .i64 n] w fun e w' => e = .returned (.agg (vals s)) ∧ Below w.heap.size w w' := by
  have HS := veil hs
  clear hs
  rcases hn with hn | hn
  all_goals
    go_enter Try.func16, Try.ntmps16
    go_wp2_with (first
      | ((with_reducible refine ld25 (o := ⟨some 11, _, _, _, _, _⟩) ?_ (.tmp 2) ?_ w.heap.size ?_ s HS.out ?_ ?_); rfl; rfl; rfl; exact heap_a2_0 _ _ _; simp only [Act.put, List.setIfInBounds_toArray, List.set_cons_zero, List.set_cons_succ])
      | ((with_reducible refine st25 (o := ⟨none, _, _, _, _, _⟩) ?_ (.tmp 4) (.tmp 11) ?_ (w.heap.size + 1) ?_ s (zeros 25) HS.out (by simp [zeros]) ?_ ?_ ?_); rfl; rfl; rfl; rfl; exact heap_a2_1 _ _ _; simp only [Act.put]))
    refine bodyPost_ret (res25 rfl _ _ (w.heap.size + 1) s HS.out rfl (Blk.setRow_same (heap_a2_1 _ _ _) _)) rfl ⟨rfl, Below.setRow_ (((Below.refl _ _).alloc (Nat.le_refl _) _).alloc (by simp) _) (by omega) _⟩

/-- rounds 0 to k - 1 -/
def roundsF : Nat → List (BitVec 64) → List (BitVec 64)
  | 0, s => s
  | k + 1, s => roundF k (roundsF k s)
theorem roundsF_zero (s : List (BitVec 64)) : roundsF 0 s = s := rfl
theorem roundsF_succ (k : Nat) (s : List (BitVec 64)) : roundsF (k + 1) s = roundF k (roundsF k s) := rfl
theorem roundsF_len (s : List (BitVec 64)) (hs : s.length = 25) : ∀ k, (roundsF k s).length = 25
  | 0 => hs
  | _ + 1 => roundF_len _ _
def permF (s : List (BitVec 64)) : List (BitVec 64) := roundsF 24 s
theorem permF_eq (s : List (BitVec 64)) : permF s = roundsF 24 s := rfl
theorem permF_len (s : List (BitVec 64)) : (permF s).length = 25 := roundF_len _ _
attribute [irreducible] roundsF permF

set_option maxHeartbeats 1000000 in
set_option maxRecDepth 100000 in
theorem permute_any (s : List (BitVec 64)) (hs : s.length = 25) (w : World) :
    Calls Try.prog 17 #[.agg (vals s)] w fun e w' => e = .returned (.agg (vals (permF s))) ∧ Below w.heap.size w w' := by
  have HS := veil hs
  clear hs
  go_enter Try.func17, Try.ntmps17
  go_wp2_with fail
  go_loopw [4] (fun i wr => ∃ k : Nat, k ≤ 24 ∧ i = .int .i64 k ∧ Blk wr w.heap.size 23 (vals (roundsF k s)) ∧ Blk wr (w.heap.size + 1) 23 (vals (zeros 25)) ∧ Below w.heap.size w wr) (fun i _ => 24 - (intOf i).toNat)
  case atStart =>
    exact ⟨0, by omega, rfl, by rw [roundsF_zero]; exact heap_a2_0 _ _ _, heap_a2_1 _ _ _, ((Below.refl _ _).alloc (Nat.le_refl _) _).alloc (by simp) _⟩
  case round =>
    obtain ⟨k, hk, rfl, h0, h1, hb⟩ := hrel
    have HL := veil (roundsF_len s HS.out k)
    by_cases hlt : k < 24
    · have HK := veil (roundsF_succ k s)
      go_wp2_with (
        ((with_reducible refine ld25 (o := ⟨some 7, _, _, _, _, _⟩) ?_ (.tmp 1) ?_ w.heap.size ?_ (roundsF k s) HL.out h0 ?_); rfl; rfl; rfl; simp only [Act.put, List.setIfInBounds_toArray, List.set_cons_zero, List.set_cons_succ]))
      with_reducible refine (round_any k hlt _ HL.out _).mono ?_
      rintro e w1 ⟨rfl, hb1⟩
      have hsz := h1.lt
      have h0' := h0.below hb1 (by omega)
      have h1' := h1.below hb1 (by omega)
      have hb' := hb.trans (hb1.mono (by omega))
      clear h0 h1 hb hb1 hsz
      go_wp2_with (
        ((with_reducible refine st25 (o := ⟨none, _, _, _, _, _⟩) ?_ (.tmp 1) (.tmp 9) ?_ w.heap.size ?_ (roundF k (roundsF k s)) (roundsF k s) (roundF_len _ _) HL.out ?_ h0' ?_); rfl; rfl; rfl; rfl; simp only [Act.put]))
      go_roundw
      case rel =>
        exact ⟨k + 1, by omega, by go_num, by rw [HK.out]; exact h0'.setRow_same _, h1'.setRow_far _ (by omega), Below.setRow_ hb' (by omega) _⟩
      case measure => simp [intOf]; omega
    · have hk' : k = 24 := by omega
      subst hk'
      go_wp2_with (first
        | ((with_reducible refine ld25 (o := ⟨some 11, _, _, _, _, _⟩) ?_ (.tmp 1) ?_ w.heap.size ?_ (roundsF 24 s) HL.out h0 ?_); rfl; rfl; rfl; simp only [Act.put, List.setIfInBounds_toArray, List.set_cons_zero, List.set_cons_succ])
        | ((with_reducible refine st25 (o := ⟨none, _, _, _, _, _⟩) ?_ (.tmp 2) (.tmp 11) ?_ (w.heap.size + 1) ?_ (roundsF 24 s) (zeros 25) HL.out (by simp [zeros]) ?_ h1 ?_); rfl; rfl; rfl; rfl; simp only [Act.put]))
      refine bodyPost_ret (res25 rfl _ _ (w.heap.size + 1) (roundsF 24 s) HL.out rfl (h1.setRow_same _)) rfl ⟨by rw [permF_eq], Below.setRow_ hb (by omega) _⟩

end Go.Proofs.Ytfohblhaiflaeaa
