/- parcloseref19.Round: what it comes to (the plain words, and the walk's first part). -/
import Derived.Test.YtfohblhaiflaeaaRa
namespace Go.Proofs.Ytfohblhaiflaeaa
open Go.RowKit

def aVal (s : List (BitVec 64)) (x y k : Nat) : BitVec 64 :=
  loopN (fun j v => v ^^^ lane s ((x + 4) % 5 + 5 * j) ^^^ rotl (lane s ((x + 1) % 5 + 5 * j)) 1) k (lane s (x + 5 * y))
theorem aVal_zero (s : List (BitVec 64)) (x y : Nat) : aVal s x y 0 = lane s (x + 5 * y) := rfl
theorem aVal_succ (s : List (BitVec 64)) (x y k : Nat) : aVal s x y (k + 1) = aVal s x y k ^^^ lane s ((x + 4) % 5 + 5 * k) ^^^ rotl (lane s ((x + 1) % 5 + 5 * k)) 1 := rfl
def aOf (s : List (BitVec 64)) : Nat → List (BitVec 64)
  | 0 => zeros 25
  | m + 1 => (aOf s m).set m (aVal s (m / 5) (m % 5) 5)
theorem aOf_len (s : List (BitVec 64)) : ∀ m, (aOf s m).length = 25
  | 0 => zeros_len 25
  | m + 1 => by simp only [aOf, List.length_set]; exact aOf_len s m
theorem aOf_zero (s : List (BitVec 64)) : aOf s 0 = zeros 25 := rfl
theorem aOf_next (s : List (BitVec 64)) (x y : Nat) (hy : y < 5) : aOf s (x * 5 + (y + 1)) = (aOf s (x * 5 + y)).set (x * 5 + y) (aVal s x y 5) := by
  show (aOf s (x * 5 + y)).set (x * 5 + y) (aVal s ((x * 5 + y) / 5) ((x * 5 + y) % 5) 5) = _
  rw [show (x * 5 + y) / 5 = x from by omega, show (x * 5 + y) % 5 = y from by omega]

def bOf (a : List (BitVec 64)) : Nat → List (BitVec 64)
  | 0 => zeros 25
  | m + 1 => (bOf a m).set ((m % 5) * 5 + (2 * (m / 5) + 3 * (m % 5)) % 5) (rotl (lane a m) (nlane tuF m))
theorem bOf_len (a : List (BitVec 64)) : ∀ m, (bOf a m).length = 25
  | 0 => zeros_len 25
  | m + 1 => by simp only [bOf, List.length_set]; exact bOf_len a m
theorem bOf_zero (a : List (BitVec 64)) : bOf a 0 = zeros 25 := rfl
theorem bOf_next (a : List (BitVec 64)) (x y : Nat) (hy : y < 5) :
    bOf a (x * 5 + (y + 1)) = (bOf a (x * 5 + y)).set (y * 5 + (2 * x + 3 * y) % 5) (rotl (lane a (x * 5 + y)) (nlane tuF (x * 5 + y))) := by
  show (bOf a (x * 5 + y)).set (((x * 5 + y) % 5) * 5 + (2 * ((x * 5 + y) / 5) + 3 * ((x * 5 + y) % 5)) % 5) (rotl (lane a (x * 5 + y)) (nlane tuF (x * 5 + y))) = _
  rw [show (x * 5 + y) / 5 = x from by omega, show (x * 5 + y) % 5 = y from by omega]

def oOf (b : List (BitVec 64)) : Nat → List (BitVec 64)
  | 0 => zeros 25
  | m + 1 => (oOf b m).set (m / 5 + 5 * (m % 5)) (lane b m ^^^ (~~~ lane b ((m / 5 + 1) % 5 * 5 + m % 5) &&& lane b ((m / 5 + 2) % 5 * 5 + m % 5)))
theorem oOf_len (b : List (BitVec 64)) : ∀ m, (oOf b m).length = 25
  | 0 => zeros_len 25
  | m + 1 => by simp only [oOf, List.length_set]; exact oOf_len b m
theorem oOf_zero (b : List (BitVec 64)) : oOf b 0 = zeros 25 := rfl
theorem oOf_next (b : List (BitVec 64)) (x y : Nat) (hy : y < 5) :
    oOf b (x * 5 + (y + 1)) = (oOf b (x * 5 + y)).set (x + 5 * y) (lane b (x * 5 + y) ^^^ (~~~ lane b ((x + 1) % 5 * 5 + y) &&& lane b ((x + 2) % 5 * 5 + y))) := by
  show (oOf b (x * 5 + y)).set ((x * 5 + y) / 5 + 5 * ((x * 5 + y) % 5)) (lane b (x * 5 + y) ^^^ (~~~ lane b (((x * 5 + y) / 5 + 1) % 5 * 5 + (x * 5 + y) % 5) &&& lane b (((x * 5 + y) / 5 + 2) % 5 * 5 + (x * 5 + y) % 5))) = _
  rw [show (x * 5 + y) / 5 = x from by omega, show (x * 5 + y) % 5 = y from by omega]

def rOf (n : Nat) (o : List (BitVec 64)) : Nat → List (BitVec 64)
  | 0 => o
  | j + 1 => (rOf n o j).set 0 (lane (rOf n o j) 0 ^^^ (bitF (j + 7 * n) <<< (2 ^ j - 1)))
theorem rOf_len (n : Nat) (o : List (BitVec 64)) : ∀ j, (rOf n o j).length = o.length
  | 0 => rfl
  | j + 1 => by simp only [rOf, List.length_set]; exact rOf_len n o j
theorem rOf_zero (n : Nat) (o : List (BitVec 64)) : rOf n o 0 = o := rfl
theorem rOf_succ (n : Nat) (o : List (BitVec 64)) (j : Nat) : rOf n o (j + 1) = (rOf n o j).set 0 (lane (rOf n o j) 0 ^^^ (bitF (j + 7 * n) <<< (2 ^ j - 1))) := rfl

def refRoundF (n : Nat) (s : List (BitVec 64)) : List (BitVec 64) := rOf n (oOf (bOf (aOf s 25) 25) 25) 7
theorem refRoundF_eq (n : Nat) (s : List (BitVec 64)) : refRoundF n s = rOf n (oOf (bOf (aOf s 25) 25) 25) 7 := rfl
theorem refRoundF_len (n : Nat) (s : List (BitVec 64)) : (refRoundF n s).length = 25 := by rw [refRoundF_eq, rOf_len, oOf_len]
attribute [irreducible] aVal aOf bOf oOf rOf refRoundF

theorem heap_a4_0 (w : World) (A B C D : Obj) : ((((w.alloc A).alloc B).alloc C).alloc D).heap[w.heap.size]? = some A := by
  rw [Below.heap_alloc _ _ _ (by simp; omega)]; exact heap_a3_0 w A B C
theorem heap_a4_1 (w : World) (A B C D : Obj) : ((((w.alloc A).alloc B).alloc C).alloc D).heap[w.heap.size + 1]? = some B := by
  rw [Below.heap_alloc _ _ _ (by simp)]; exact heap_a3_1 w A B C
theorem heap_a4_2 (w : World) (A B C D : Obj) : ((((w.alloc A).alloc B).alloc C).alloc D).heap[w.heap.size + 2]? = some C := by
  rw [Below.heap_alloc _ _ _ (by simp)]; exact heap_a3_2 w A B C
theorem heap_a4_3 (w : World) (A B C D : Obj) : ((((w.alloc A).alloc B).alloc C).alloc D).heap[w.heap.size + 3]? = some D := by
  have h := heap_alloc_new (((w.alloc A).alloc B).alloc C) D
  simpa using h

theorem not_bv (x : BitVec 64) : bits .xor .u64 18446744073709551615 (x.toNat : Int) = ((~~~ x).toNat : Int) := by
  have h := xor_bv (BitVec.allOnes 64) x
  rw [BitVec.allOnes_xor] at h
  rw [← h]
  have : ((BitVec.allOnes 64).toNat : Int) = 18446744073709551615 := by decide
  rw [this]
theorem ref_out (m : BitVec 64) (l : BitVec 64) (j : Nat) (hj : j ≤ 6) :
    bits .xor .u64 (m.toNat : Int) (IntKind.u64.wrap ((l.toNat : Int) * 2 ^ min (IntKind.u64.wrap (IntKind.u64.wrap (2 ^ j) - 1)).toNat 64)) = ((m ^^^ (l <<< (2 ^ j - 1))).toNat : Int) := by
  have h3 : ((2 ^ j - 1 : Nat) : Int) = IntKind.u64.wrap (IntKind.u64.wrap (2 ^ j) - 1) := by
    have : ∀ j : Fin 7, ((2 ^ j.val - 1 : Nat) : Int) = IntKind.u64.wrap (IntKind.u64.wrap (2 ^ j.val) - 1) := by decide
    exact this ⟨j, by omega⟩
  have h4 : (2 ^ j - 1 : Nat) < 64 := by
    have : ∀ j : Fin 7, (2 ^ j.val - 1 : Nat) < 64 := by decide
    exact this ⟨j, by omega⟩
  rw [← h3, Int.toNat_natCast, Nat.min_eq_left (by omega), shl_num' _ _ h4, xor_bv]
theorem turn_lt (i : Nat) (h : i < 25) : nlane tuF i < 64 := by
  rw [tuF_tab]
  have : ∀ i : Fin 25, nlane [0, 36, 3, 41, 18, 1, 44, 10, 45, 2, 62, 6, 43, 15, 61, 28, 55, 25, 21, 56, 27, 20, 39, 8, 14] i.val < 64 := by decide
  exact this ⟨i, h⟩
theorem tuF_len : tuF.length = 25 := by rw [tuF_tab]; rfl

/-- the blocks of Round: the state, the result, a, b -/
def R4 (N : Nat) (w wr : World) (s A B : List (BitVec 64)) : Prop :=
  Blk wr N 23 (vals s) ∧ Blk wr (N + 1) 23 (vals (zeros 25)) ∧ Blk wr (N + 1 + 1) 84 (vals A) ∧ Blk wr (N + 1 + 1 + 1) 84 (vals B) ∧ Below N w wr

/-- and the table of turns -/
def R5 (N g : Nat) (w wr : World) (s A B : List (BitVec 64)) : Prop := R4 N w wr s A B ∧ Blk wr g 86 (ivals tuF)
/-- and what is to be answered -/
def R6 (N g G : Nat) (w wr : World) (s A B O : List (BitVec 64)) : Prop := R4 N w wr s A B ∧ Blk wr g 86 (ivals tuF) ∧ Blk wr G 23 (vals O)

set_option maxHeartbeats 4000000 in
set_option maxRecDepth 100000 in
theorem refRound_any (n : Nat) (hn : n < 24) (s : List (BitVec 64)) (hs : s.length = 25) (w : World) :
    Calls Try.prog 52 #[.agg (vals s), .int .i64 n] w fun e w' => e = .returned (.agg (vals (refRoundF n s))) ∧ Below w.heap.size w w' := by
  have HS := veil hs
  clear hs
  have hn1 : decide ((n : Int) < 0) = false := by simp <;> omega
  have hn2 : decide ((23 : Int) < (n : Int)) = false := by simp <;> omega
  go_enter Try.func52, Try.ntmps52
  go_wp2_with (first
    | ((with_reducible refine bld84 (o := ⟨some 24, _, _, _, _, _⟩) ?_ ?_ ?_); rfl; rfl; simp only [Act.put, List.setIfInBounds_toArray, List.set_cons_zero, List.set_cons_succ])
    | ((with_reducible refine bld84 (o := ⟨some 25, _, _, _, _, _⟩) ?_ ?_ ?_); rfl; rfl; simp only [Act.put, List.setIfInBounds_toArray, List.set_cons_zero, List.set_cons_succ])
    | ((with_reducible refine st84 (o := ⟨none, .store _ (.tmp 5) _, _, _, _, _⟩) ?_ (.tmp 5) (.tmp 24) ?_ (w.heap.size + 1 + 1) ?_ (zeros 25) (zeros 25) (zeros_len 25) (zeros_len 25) ?_ ?_ ?_); rfl; rfl; rfl; rfl; exact heap_a4_2 _ _ _ _ _; simp only [Act.put])
    | ((with_reducible refine st84 (o := ⟨none, .store _ (.tmp 6) _, _, _, _, _⟩) ?_ (.tmp 6) (.tmp 25) ?_ (w.heap.size + 1 + 1 + 1) ?_ (zeros 25) (zeros 25) (zeros_len 25) (zeros_len 25) ?_ ?_ ?_); rfl; rfl; rfl; rfl; exact Blk.setRow_far (heap_a4_3 _ _ _ _ _) _ (by omega); simp only [Act.put]))
  go_loopw [7] (fun v7 wr => ∃ x : Nat, x ≤ 5 ∧ v7 = .int .i64 x ∧ R4 w.heap.size w wr s (aOf s (x * 5)) (zeros 25)) (fun i _ => 5 - (intOf i).toNat)
  case atStart =>
    refine ⟨0, by omega, rfl, ?_, ?_, ?_, ?_, ?_⟩
    · exact Blk.setRow_far (Blk.setRow_far (heap_a4_0 _ _ _ _ _) _ (by omega)) _ (by omega)
    · exact Blk.setRow_far (Blk.setRow_far (heap_a4_1 _ _ _ _ _) _ (by omega)) _ (by omega)
    · rw [show aOf s (0 * 5) = zeros 25 from aOf_zero s]; exact Blk.setRow_far (Blk.setRow_same (heap_a4_2 _ _ _ _ _) _) _ (by omega)
    · exact Blk.setRow_same (Blk.setRow_far (heap_a4_3 _ _ _ _ _) _ (by omega)) _
    · exact Below.setRow_ (Below.setRow_ (((((Below.refl _ _).alloc (Nat.le_refl _) _).alloc (by simp) _).alloc (by simp <;> omega) _).alloc (by simp <;> omega) _) (by omega) _) (by omega) _
  case round =>
    obtain ⟨x, hx, rfl, hR⟩ := hrel
    by_cases hlt : x < 5
    · have hd : decide ((x : Int) < 5) = true := by simp; omega
      have bix : (x : Int) < 5 := by omega
      go_wp2_with fail
      obtain ⟨wo, rfl⟩ : ∃ wo : World, wo = wr := ⟨_, rfl⟩
      go_loopw [8] (fun v8 wr => ∃ y : Nat, y ≤ 5 ∧ v8 = .int .i64 y ∧ R4 w.heap.size w wr s (aOf s (x * 5 + y)) (zeros 25)) (fun i _ => 5 - (intOf i).toNat)
      case atStart => exact ⟨0, by omega, rfl, hR⟩
      case round =>
        clear hR
        obtain ⟨y, hy, rfl, hR⟩ := hrel
        by_cases hlty : y < 5
        · have hdy : decide ((y : Int) < 5) = true := by simp; omega
          have biy : (y : Int) < 5 := by omega
          obtain ⟨h0, h1, h2, h3, hb⟩ := hR
          have hs := HS.out
          have hal := aOf_len s (x * 5 + y)
          obtain ⟨p, hp⟩ : ∃ p, p = 5 * y := ⟨_, rfl⟩
          obtain ⟨q, hq⟩ : ∃ q, q = x + 5 * y := ⟨_, rfl⟩
          have hc0 := h0.cell q
          have hc2 := h2.cell (x * 5 + y)
          have hf2 := h2.frozen (x * 5 + y)
          rw [vals_get _ _ (by omega)] at hc0 hc2
          have e1 : IntKind.i64.wrap (5 * (y : Int)) = p := by rw [IntWalk.i64_in _ (by omega)]; omega
          have e2 : IntKind.i64.wrap ((x : Int) + (p : Int)) = q := by rw [IntWalk.i64_in _ (by omega)]; omega
          have b1 : (q : Int) < 25 := by omega
          have HQ := veil hq
          clear hs hal hp hq
          go_wp2_with fail
          go_still_tail 10, (by kernel_rfl)
          change wpList _ _ _ _ _ wr.drew
          clear e1 e2
          go_wp2_with fail
          have h0' := (h0.far (p := ⟨w.heap.size + 1 + 1, x * 5 + y, none⟩) (by simp <;> omega) (U (lane s q))).drew
          have h1' := (h1.far (p := ⟨w.heap.size + 1 + 1, x * 5 + y, none⟩) (by simp) (U (lane s q))).drew
          have h2' : Blk (wr.setCell ⟨w.heap.size + 1 + 1, x * 5 + y, none⟩ (U (lane s q))).drew (w.heap.size + 1 + 1) 84 (vals ((aOf s (x * 5 + y)).set (x * 5 + y) (aVal s x y 0))) := by
            rw [aVal_zero, ← HQ.out, ← vals_set]; exact (h2.set_ _ _).drew
          have h3' := (h3.far (p := ⟨w.heap.size + 1 + 1, x * 5 + y, none⟩) (by simp <;> omega) (U (lane s q))).drew
          have hb' := (hb.setCell (p := ⟨w.heap.size + 1 + 1, x * 5 + y, none⟩) (by simp <;> omega) (U (lane s q))).drew
          clear h0 h1 h2 h3 hb hc0 hc2 hf2 HQ b1
          obtain ⟨wo2, rfl⟩ : ∃ wo : World, wo = wr := ⟨_, rfl⟩
          go_loopw [9] (fun v9 wr => ∃ k : Nat, k ≤ 5 ∧ v9 = .int .i64 k ∧ R4 w.heap.size w wr s ((aOf s (x * 5 + y)).set (x * 5 + y) (aVal s x y k)) (zeros 25)) (fun i _ => 5 - (intOf i).toNat)
          case atStart => exact ⟨0, by omega, rfl, h0', h1', h2', h3', hb'⟩
          case round =>
            clear h0' h1' h2' h3' hb'
            obtain ⟨k, hk, rfl, hR⟩ := hrel
            by_cases hltk : k < 5
            · have hdk : decide ((k : Int) < 5) = true := by simp; omega
              have bik : (k : Int) < 5 := by omega
              obtain ⟨h0, h1, h2, h3, hb⟩ := hR
              have hs := HS.out
              have hal : ((aOf s (x * 5 + y)).set (x * 5 + y) (aVal s x y k)).length = 25 := by rw [List.length_set, aOf_len]
              have hav : lane ((aOf s (x * 5 + y)).set (x * 5 + y) (aVal s x y k)) (x * 5 + y) = aVal s x y k := by
                have := aOf_len s (x * 5 + y)
                unfold lane
                rw [List.getD_eq_getElem?_getD, List.getElem?_set_self (by omega)]; rfl
              obtain ⟨x4, hx4⟩ : ∃ z, z = x + 4 := ⟨_, rfl⟩
              obtain ⟨x1, hx1⟩ : ∃ z, z = x + 1 := ⟨_, rfl⟩
              obtain ⟨m4, hm4⟩ : ∃ z, z = (x + 4) % 5 := ⟨_, rfl⟩
              obtain ⟨m1, hm1⟩ : ∃ z, z = (x + 1) % 5 := ⟨_, rfl⟩
              obtain ⟨k5, hk5⟩ : ∃ z, z = 5 * k := ⟨_, rfl⟩
              obtain ⟨p4, hp4⟩ : ∃ z, z = (x + 4) % 5 + 5 * k := ⟨_, rfl⟩
              obtain ⟨p1, hp1⟩ : ∃ z, z = (x + 1) % 5 + 5 * k := ⟨_, rfl⟩
              have hc4 := h0.cell p4
              have hc1 := h0.cell p1
              have hc2 := h2.cell (x * 5 + y)
              have hf2 := h2.frozen (x * 5 + y)
              rw [vals_get _ _ (by omega)] at hc4 hc1 hc2
              rw [hav] at hc2
              have hsucc := aVal_succ s x y k
              rw [← hp4, ← hp1] at hsucc
              have e1 : IntKind.i64.wrap ((x : Int) + 4) = x4 := by rw [IntWalk.i64_in _ (by omega)]; omega
              have e2 : (x4 : Int).tmod 5 = m4 := by rw [Int.tmod_eq_emod_of_nonneg (by omega)]; omega
              have e3 : IntKind.i64.wrap (5 * (k : Int)) = k5 := by rw [IntWalk.i64_in _ (by omega)]; omega
              have e4 : IntKind.i64.wrap ((m4 : Int) + (k5 : Int)) = p4 := by rw [IntWalk.i64_in _ (by omega)]; omega
              have e5 : IntKind.i64.wrap ((x : Int) + 1) = x1 := by rw [IntWalk.i64_in _ (by omega)]; omega
              have e6 : (x1 : Int).tmod 5 = m1 := by rw [Int.tmod_eq_emod_of_nonneg (by omega)]; omega
              have e7 : IntKind.i64.wrap ((m1 : Int) + (k5 : Int)) = p1 := by rw [IntWalk.i64_in _ (by omega)]; omega
              have b4 : (p4 : Int) < 25 := by omega
              have b1 : (p1 : Int) < 25 := by omega
              have H := veil hsucc
              have HA := veil hal
              clear hsucc hs hal hav hx4 hx1 hm4 hm1 hk5 hp4 hp1
              go_wp2_with fail
              go_still_tail 28, (by kernel_rfl)
              still_call (still_of (turned_any _ 1 _ (by omega) (by omega)))
              repeat still_step
              refine wpStill_nil ?_
              change wpList _ _ _ _ _ wr.drew
              clear e1 e2 e3 e4 e5 e6 e7
              go_wp2_with fail
              go_roundw
              case rel =>
                refine ⟨k + 1, by omega, by go_num, (h0.far (by simp <;> omega) _).drew, (h1.far (by simp <;> omega) _).drew, ?_, (h3.far (by simp <;> omega) _).drew, (hb.setCell (by simp <;> omega) _).drew⟩
                rw [H.out, xor_bv, xor_bv]
                have h := (h2.set_ (x * 5 + y) (U (aVal s x y k ^^^ lane s p4 ^^^ rotl (lane s p1) 1))).drew
                rw [vals_set, List.set_set] at h
                exact h
              case measure => simp [intOf]; omega
            · have hk' : k = 5 := by omega
              subst hk'
              have H := veil (aOf_next s x y hlty)
              go_wp2_with fail
              go_roundw
              case rel => exact ⟨y + 1, by omega, by go_num, by rw [H.out]; exact hR⟩
              case measure => simp [intOf]; omega
        · have hy' : y = 5 := by omega
          subst hy'
          go_wp2_with fail
          go_roundw
          case rel => exact ⟨x + 1, by omega, by go_num, by rw [show (x + 1) * 5 = x * 5 + 5 from by omega]; exact hR⟩
          case measure => simp [intOf]; omega
    · have hx' : x = 5 := by omega
      have HX := veil hx'
      have hd : decide ((x : Int) < 5) = false := by simp; omega
      clear hx' hx hlt
      obtain ⟨h0, h1, h2, h3, hb⟩ := hR
      rw [show x * 5 = 25 from by rw [HX.out]] at h2
      have z0 := h3.lt
      go_wp2_with fail
      with_reducible refine (turns_any _).mono ?_
      rintro e w1 ⟨rfl, hb1⟩
      have z1 := hb1.size
      have h0' := h0.below hb1 (by omega)
      have h1' := h1.below hb1 (by omega)
      have h2' := h2.below hb1 (by omega)
      have h3' := h3.below hb1 (by omega)
      have hb' := hb.trans (hb1.mono (by omega))
      clear h0 h1 h2 h3 hb hb1
      have hz : w.heap.size + 4 ≤ w1.heap.size := by omega
      clear z0 z1
      go_wp2_with (
        ((with_reducible refine st86 (o := ⟨none, _, _, _, _, _⟩) ?_ (.tmp 10) (.tmp 76) ?_ w1.heap.size ?_ tuF (nzeros 25) tuF_len (nzeros_len 25) ?_ ?_ ?_); rfl; rfl; rfl; rfl; exact heap_a1_0 _ _; simp only [Act.put]))
      go_loopw [11] (fun v wr => ∃ x : Nat, x ≤ 5 ∧ v = .int .i64 x ∧ R5 w.heap.size w1.heap.size w wr s (aOf s 25) (bOf (aOf s 25) (x * 5))) (fun i _ => 5 - (intOf i).toNat)
      case atStart =>
        refine ⟨0, by omega, rfl, ⟨?_, ?_, ?_, ?_, ?_⟩, ?_⟩
        · exact Blk.setRow_far (h0'.alloc _) _ (by omega)
        · exact Blk.setRow_far (h1'.alloc _) _ (by omega)
        · exact Blk.setRow_far (h2'.alloc _) _ (by omega)
        · rw [show bOf (aOf s 25) (0 * 5) = zeros 25 from bOf_zero _]; exact Blk.setRow_far (h3'.alloc _) _ (by omega)
        · exact Below.setRow_ (hb'.alloc (by omega) _) (by omega) _
        · exact Blk.setRow_same (old := ivals (nzeros 25)) (heap_a1_0 _ _) _
      case round =>
        clear h0' h1' h2' h3' hb'
        obtain ⟨x, hx, rfl, hR⟩ := hrel
        by_cases hlt : x < 5
        · have hd : decide ((x : Int) < 5) = true := by simp; omega
          have bix : (x : Int) < 5 := by omega
          go_wp2_with fail
          obtain ⟨wo, rfl⟩ : ∃ wo : World, wo = wr := ⟨_, rfl⟩
          go_loopw [12] (fun v wr => ∃ y : Nat, y ≤ 5 ∧ v = .int .i64 y ∧ R5 w.heap.size w1.heap.size w wr s (aOf s 25) (bOf (aOf s 25) (x * 5 + y))) (fun i _ => 5 - (intOf i).toNat)
          case atStart => exact ⟨0, by omega, rfl, hR⟩
          case round =>
            clear hR
            obtain ⟨y, hy, rfl, hR⟩ := hrel
            by_cases hlty : y < 5
            · have hdy : decide ((y : Int) < 5) = true := by simp; omega
              have biy : (y : Int) < 5 := by omega
              obtain ⟨⟨h0, h1, h2, h3, hb⟩, h4⟩ := hR
              obtain ⟨a1, ha1⟩ : ∃ a, a = 2 * x := ⟨_, rfl⟩
              obtain ⟨a2, ha2⟩ : ∃ a, a = 3 * y := ⟨_, rfl⟩
              obtain ⟨a3, ha3⟩ : ∃ a, a = 2 * x + 3 * y := ⟨_, rfl⟩
              obtain ⟨a4, ha4⟩ : ∃ a, a = (2 * x + 3 * y) % 5 := ⟨_, rfl⟩
              have e1 : IntKind.i64.wrap (2 * (x : Int)) = a1 := by rw [IntWalk.i64_in _ (by omega)]; omega
              have e2 : IntKind.i64.wrap (3 * (y : Int)) = a2 := by rw [IntWalk.i64_in _ (by omega)]; omega
              have e3 : IntKind.i64.wrap ((a1 : Int) + (a2 : Int)) = a3 := by rw [IntWalk.i64_in _ (by omega)]; omega
              have e4 : (a3 : Int).tmod 5 = a4 := by rw [Int.tmod_eq_emod_of_nonneg (by omega)]; omega
              have b4 : (a4 : Int) < 5 := by omega
              have hal := aOf_len s 25
              have hbl := bOf_len (aOf s 25) (x * 5 + y)
              have htl := tuF_len
              have hc2 := h2.cell (x * 5 + y)
              have hc4 := h4.cell (x * 5 + y)
              have hc3 := h3.cell (y * 5 + a4)
              have hf3 := h3.frozen (y * 5 + a4)
              rw [vals_get _ _ (by omega)] at hc2 hc3
              rw [ivals_get _ _ (by omega)] at hc4
              have ht := turn_lt (x * 5 + y) (by omega)
              have hti : (nlane tuF (x * 5 + y) : Int) < 64 := by omega
              have hsucc := bOf_next (aOf s 25) x y hlty
              rw [← ha4] at hsucc
              have H := veil hsucc
              clear hsucc hal hbl htl ha1 ha2 ha3 ha4 ht
              go_wp2_with fail
              go_still_tail 20, (by kernel_rfl)
              still_call (still_of (turned_any _ _ _ (by omega) (by omega)))
              repeat still_step
              refine wpStill_nil ?_
              change wpList _ _ _ _ _ wr.drew
              clear e1 e2 e3 e4
              go_wp2_with fail
              go_roundw
              case rel =>
                refine ⟨y + 1, by omega, by go_num, ⟨(h0.far (by simp <;> omega) _).drew, (h1.far (by simp <;> omega) _).drew, (h2.far (by simp <;> omega) _).drew, ?_, (hb.setCell (by simp <;> omega) _).drew⟩, (h4.far (by simp <;> omega) _).drew⟩
                rw [H.out, ← vals_set]
                exact (h3.set_ _ _).drew
              case measure => simp [intOf]; omega
            · have hy' : y = 5 := by omega
              subst hy'
              go_wp2_with fail
              go_roundw
              case rel => exact ⟨x + 1, by omega, by go_num, by rw [show (x + 1) * 5 = x * 5 + 5 from by omega]; exact hR⟩
              case measure => simp [intOf]; omega
        · have hx' : x = 5 := by omega
          have HX := veil hx'
          have hd : decide ((x : Int) < 5) = false := by simp; omega
          clear hx' hx hlt
          obtain ⟨⟨h0, h1, h2, h3, hb⟩, h4⟩ := hR
          rw [show x * 5 = 25 from by rw [HX.out]] at h3
          have z4 := h4.lt
          obtain ⟨wp, rfl⟩ : ∃ wp : World, wp = wr := ⟨_, rfl⟩
          go_wp2_with (first
            | ((with_reducible refine bld23z (o := ⟨some 105, _, _, _, _, _⟩) ?_ ?_ ?_); rfl; rfl; simp only [Act.put, List.setIfInBounds_toArray, List.set_cons_zero, List.set_cons_succ])
            | ((with_reducible refine st25 (o := ⟨none, _, _, _, _, _⟩) ?_ (.tmp 13) (.tmp 105) ?_ wp.heap.size ?_ (zeros 25) (zeros 25) (zeros_len 25) (zeros_len 25) ?_ ?_ ?_); rfl; rfl; rfl; rfl; exact heap_a1_0 _ _; simp only [Act.put]))
          go_loopw [14] (fun v wr => ∃ x : Nat, x ≤ 5 ∧ v = .int .i64 x ∧ R6 w.heap.size w1.heap.size wp.heap.size w wr s (aOf s 25) (bOf (aOf s 25) 25) (oOf (bOf (aOf s 25) 25) (x * 5))) (fun i _ => 5 - (intOf i).toNat)
          case atStart =>
            refine ⟨0, by omega, rfl, ⟨?_, ?_, ?_, ?_, ?_⟩, ?_, ?_⟩
            · exact Blk.setRow_far (h0.alloc _) _ (by omega)
            · exact Blk.setRow_far (h1.alloc _) _ (by omega)
            · exact Blk.setRow_far (h2.alloc _) _ (by omega)
            · exact Blk.setRow_far (h3.alloc _) _ (by omega)
            · exact Below.setRow_ (hb.alloc (by omega) _) (by omega) _
            · exact Blk.setRow_far (h4.alloc _) _ (by omega)
            · rw [show oOf (bOf (aOf s 25) 25) (0 * 5) = zeros 25 from oOf_zero _]; exact Blk.setRow_same (old := vals (zeros 25)) (heap_a1_0 _ _) _
          case round =>
            clear h0 h1 h2 h3 hb h4
            obtain ⟨x, hx, rfl, hR⟩ := hrel
            by_cases hlt : x < 5
            · have hd : decide ((x : Int) < 5) = true := by simp; omega
              have bix : (x : Int) < 5 := by omega
              go_wp2_with fail
              obtain ⟨wo, rfl⟩ : ∃ wo : World, wo = wr := ⟨_, rfl⟩
              go_loopw [15] (fun v wr => ∃ y : Nat, y ≤ 5 ∧ v = .int .i64 y ∧ R6 w.heap.size w1.heap.size wp.heap.size w wr s (aOf s 25) (bOf (aOf s 25) 25) (oOf (bOf (aOf s 25) 25) (x * 5 + y))) (fun i _ => 5 - (intOf i).toNat)
              case atStart => exact ⟨0, by omega, rfl, hR⟩
              case round =>
                clear hR
                obtain ⟨y, hy, rfl, hR⟩ := hrel
                by_cases hlty : y < 5
                · have hdy : decide ((y : Int) < 5) = true := by simp; omega
                  have biy : (y : Int) < 5 := by omega
                  obtain ⟨⟨h0, h1, h2, h3, hb⟩, h4, h5⟩ := hR
                  obtain ⟨p, hp⟩ : ∃ p, p = 5 * y := ⟨_, rfl⟩
                  obtain ⟨q, hq⟩ : ∃ q, q = x + 5 * y := ⟨_, rfl⟩
                  obtain ⟨x2, hx2⟩ : ∃ z, z = x + 2 := ⟨_, rfl⟩
                  obtain ⟨x1, hx1⟩ : ∃ z, z = x + 1 := ⟨_, rfl⟩
                  obtain ⟨m2, hm2⟩ : ∃ z, z = (x + 2) % 5 := ⟨_, rfl⟩
                  obtain ⟨m1, hm1⟩ : ∃ z, z = (x + 1) % 5 := ⟨_, rfl⟩
                  have e1 : IntKind.i64.wrap (5 * (y : Int)) = p := by rw [IntWalk.i64_in _ (by omega)]; omega
                  have e2 : IntKind.i64.wrap ((x : Int) + (p : Int)) = q := by rw [IntWalk.i64_in _ (by omega)]; omega
                  have e3 : IntKind.i64.wrap ((x : Int) + 1) = x1 := by rw [IntWalk.i64_in _ (by omega)]; omega
                  have e4 : (x1 : Int).tmod 5 = m1 := by rw [Int.tmod_eq_emod_of_nonneg (by omega)]; omega
                  have e5 : IntKind.i64.wrap ((x : Int) + 2) = x2 := by rw [IntWalk.i64_in _ (by omega)]; omega
                  have e6 : (x2 : Int).tmod 5 = m2 := by rw [Int.tmod_eq_emod_of_nonneg (by omega)]; omega
                  have b1 : (m1 : Int) < 5 := by omega
                  have b2 : (m2 : Int) < 5 := by omega
                  have bq : (q : Int) < 25 := by omega
                  have hbl := bOf_len (aOf s 25) 25
                  have hol := oOf_len (bOf (aOf s 25) 25) (x * 5 + y)
                  have hc0 := h3.cell (x * 5 + y)
                  have hc1 := h3.cell (m1 * 5 + y)
                  have hc2 := h3.cell (m2 * 5 + y)
                  have hc5 := h5.cell q
                  have hf5 := h5.frozen q
                  rw [vals_get _ _ (by omega)] at hc0 hc1 hc2 hc5
                  have hsucc := oOf_next (bOf (aOf s 25) 25) x y hlty
                  rw [← hq, ← hm1, ← hm2] at hsucc
                  have H := veil hsucc
                  clear hsucc hbl hol hp hq hx2 hx1 hm2 hm1
                  go_wp2_with fail
                  go_still_tail 27, (by kernel_rfl)
                  change wpList _ _ _ _ _ wr.drew
                  clear e1 e2 e3 e4 e5 e6
                  go_wp2_with fail
                  go_roundw
                  case rel =>
                    refine ⟨y + 1, by omega, by go_num, ⟨(h0.far (by simp <;> omega) _).drew, (h1.far (by simp <;> omega) _).drew, (h2.far (by simp <;> omega) _).drew, (h3.far (by simp <;> omega) _).drew, (hb.setCell (by simp <;> omega) _).drew⟩, (h4.far (by simp <;> omega) _).drew, ?_⟩
                    rw [H.out, show (if IntKind.u64.signed = true then -1 else IntKind.u64.max) = (18446744073709551615 : Int) from rfl, not_bv, and_bv, xor_bv, ← vals_set]
                    exact (h5.set_ _ _).drew
                  case measure => simp [intOf]; omega
                · have hy' : y = 5 := by omega
                  subst hy'
                  go_wp2_with fail
                  go_roundw
                  case rel => exact ⟨x + 1, by omega, by go_num, by rw [show (x + 1) * 5 = x * 5 + 5 from by omega]; exact hR⟩
                  case measure => simp [intOf]; omega
            · have hx' : x = 5 := by omega
              have HX := veil hx'
              have hd : decide ((x : Int) < 5) = false := by simp; omega
              clear hx' hx hlt
              obtain ⟨⟨h0, h1, h2, h3, hb⟩, h4, h5⟩ := hR
              rw [show x * 5 = 25 from by rw [HX.out]] at h5
              have hR : R6 w.heap.size w1.heap.size wp.heap.size w wr s (aOf s 25) (bOf (aOf s 25) 25) (rOf n (oOf (bOf (aOf s 25) 25) 25) 0) := ⟨⟨h0, h1, h2, h3, hb⟩, h4, by rw [rOf_zero]; exact h5⟩
              clear h0 h1 h2 h3 hb h4 h5
              go_wp2_with fail
              obtain ⟨wo, rfl⟩ : ∃ wo : World, wo = wr := ⟨_, rfl⟩
              go_loopw [16] (fun v wr => ∃ j : Nat, j ≤ 7 ∧ v = .int .i64 j ∧ R6 w.heap.size w1.heap.size wp.heap.size w wr s (aOf s 25) (bOf (aOf s 25) 25) (rOf n (oOf (bOf (aOf s 25) 25) 25) j)) (fun i _ => 7 - (intOf i).toNat)
              case atStart => exact ⟨0, by omega, rfl, hR⟩
              case round =>
                clear hR
                obtain ⟨j, hj, rfl, hR⟩ := hrel
                obtain ⟨⟨h0, h1, h2, h3, hb⟩, h4, h5⟩ := hR
                have hlo : (rOf n (oOf (bOf (aOf s 25) 25) 25) j).length = 25 := by rw [rOf_len, oOf_len]
                by_cases hlj : j < 7
                · have hdj : decide ((j : Int) < 7) = true := by simp; omega
                  have bij : (j : Int) < 7 := by omega
                  obtain ⟨p, hp⟩ : ∃ p, p = 7 * n := ⟨_, rfl⟩
                  obtain ⟨q, hq⟩ : ∃ q, q = j + 7 * n := ⟨_, rfl⟩
                  have e1 : IntKind.i64.wrap (7 * (n : Int)) = p := by rw [IntWalk.i64_in _ (by omega)]; omega
                  have e2 : IntKind.i64.wrap ((j : Int) + (p : Int)) = q := by rw [IntWalk.i64_in _ (by omega)]; omega
                  have bq : q ≤ 1000 := by omega
                  have hc5 := h5.cell 0
                  have hf5 := h5.frozen 0
                  rw [vals_get _ _ (by omega)] at hc5
                  have hsucc := rOf_succ n (oOf (bOf (aOf s 25) 25) 25) j
                  rw [← hq] at hsucc
                  have H := veil hsucc
                  clear hsucc hlo hp hq
                  go_wp2_with fail
                  go_still_tail 14, (by kernel_rfl)
                  still_call (still_of (bit_any q bq _))
                  repeat still_step
                  refine wpStill_nil ?_
                  change wpList _ _ _ _ _ wr.drew
                  clear e1 e2
                  go_wp2_with fail
                  go_roundw
                  case rel =>
                    refine ⟨j + 1, by omega, by go_num, ⟨(h0.far (by simp <;> omega) _).drew, (h1.far (by simp <;> omega) _).drew, (h2.far (by simp <;> omega) _).drew, (h3.far (by simp <;> omega) _).drew, (hb.setCell (by simp <;> omega) _).drew⟩, (h4.far (by simp <;> omega) _).drew, ?_⟩
                    rw [H.out, Nat.min_eq_left (a := j) (b := 64) (by omega), ref_out _ _ _ (by omega), ← vals_set]
                    exact (h5.set_ _ _).drew
                  case measure => simp [intOf]; omega
                · have hj' : j = 7 := by omega
                  have hfin : refRoundF n s = rOf n (oOf (bOf (aOf s 25) 25) 25) j := by rw [refRoundF_eq, hj']
                  have HF := veil hfin
                  have HL := veil hlo
                  have hdj : decide ((j : Int) < 7) = false := by simp; omega
                  clear hfin hlo hj' hlj hj
                  go_wp2_with (first
                    | ((with_reducible refine ld25 (o := ⟨some 159, _, _, _, _, _⟩) ?_ (.tmp 13) ?_ wp.heap.size ?_ (rOf n (oOf (bOf (aOf s 25) 25) 25) j) HL.out h5 ?_); rfl; rfl; rfl; simp only [Act.put, List.setIfInBounds_toArray, List.set_cons_zero, List.set_cons_succ])
                    | ((with_reducible refine st25 (o := ⟨none, _, _, _, _, _⟩) ?_ (.tmp 4) (.tmp 159) ?_ (w.heap.size + 1) ?_ (rOf n (oOf (bOf (aOf s 25) 25) 25) j) (zeros 25) HL.out (zeros_len 25) ?_ h1 ?_); rfl; rfl; rfl; rfl; simp only [Act.put]))
                  refine bodyPost_ret (res25 rfl _ _ (w.heap.size + 1) (rOf n (oOf (bOf (aOf s 25) 25) 25) j) HL.out rfl (h1.setRow_same _)) rfl ⟨by rw [HF.out], Below.setRow_ hb (by omega) _⟩

end Go.Proofs.Ytfohblhaiflaeaa
