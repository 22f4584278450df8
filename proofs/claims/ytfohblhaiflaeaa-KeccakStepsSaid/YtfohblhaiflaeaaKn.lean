/- unlike states are unlike behind any round, and behind all: lists of 25 numbers of 64 bits alone. Printed by gen_kn.py. -/
import Derived.Test.YtfohblhaiflaeaaKm
namespace Go.Proofs.Ytfohblhaiflaeaa

theorem xor_move (s r p q : BitVec 64) (h : s ^^^ p = r ^^^ q) : s ^^^ r = p ^^^ q := by
  apply BitVec.eq_of_getLsbD_eq
  intro i hi
  have hb := congrArg (fun z => BitVec.getLsbD z i) h
  simp only [BitVec.getLsbD_xor] at hb ⊢
  revert hb
  cases s.getLsbD i <;> cases r.getLsbD i <;> cases p.getLsbD i <;> cases q.getLsbD i <;> simp
theorem xor_zero_eq (s r : BitVec 64) (h : s ^^^ r = 0#64) : s = r := by
  have h2 := congrArg (· ^^^ r) h
  simpa [BitVec.xor_assoc] using h2
theorem th_diff (s r a b c d : BitVec 64) (h : s ^^^ (a ^^^ rotl b 1) = r ^^^ (c ^^^ rotl d 1)) : s ^^^ r = (a ^^^ c) ^^^ rotl (b ^^^ d) 1 := by
  rw [xor_move _ _ _ _ h, rotl_xor _ _ 1 (by omega)]
  ac_rfl
theorem th_col (u0 u1 u2 u3 u4 v0 v1 v2 v3 v4 e : BitVec 64) (h0 : u0 ^^^ v0 = e) (h1 : u1 ^^^ v1 = e) (h2 : u2 ^^^ v2 = e) (h3 : u3 ^^^ v3 = e) (h4 : u4 ^^^ v4 = e) :
    (((((0#64 ^^^ u0) ^^^ u1) ^^^ u2) ^^^ u3) ^^^ u4) ^^^ (((((0#64 ^^^ v0) ^^^ v1) ^^^ v2) ^^^ v3) ^^^ v4) = e := by
  have : (((((0#64 ^^^ u0) ^^^ u1) ^^^ u2) ^^^ u3) ^^^ u4) ^^^ (((((0#64 ^^^ v0) ^^^ v1) ^^^ v2) ^^^ v3) ^^^ v4) = ((((u0 ^^^ v0) ^^^ (u1 ^^^ v1)) ^^^ (u2 ^^^ v2)) ^^^ (u3 ^^^ v3)) ^^^ (u4 ^^^ v4) := by
    simp only [BitVec.zero_xor]
    ac_rfl
  rw [this, h0, h1, h2, h3, h4]
  simp
theorem sq_step (f : Nat → BitVec 64) (a b n : Nat) (hn : 2 * n ≤ 64) (h : ∀ x, f x = f (x + a) ^^^ rotl (f (x + b)) n) : ∀ x, f x = f (x + 2 * a) ^^^ rotl (f (x + 2 * b)) (2 * n) := by
  intro x
  have h1 := h x
  rw [h (x + a), h (x + b), rotl_xor _ _ n (by omega), rotl_rotl _ n hn] at h1
  rw [h1, show x + a + a = x + 2 * a from by omega, show x + b + b = x + 2 * b from by omega, show x + b + a = x + a + b from by omega]
  have : ∀ p q r : BitVec 64, p ^^^ q ^^^ (q ^^^ r) = p ^^^ r := by
    intro p q r
    rw [BitVec.xor_assoc, ← BitVec.xor_assoc q q r, BitVec.xor_self, BitVec.zero_xor]
  exact this _ _ _
theorem zero5 (E0 E1 E2 E3 E4 : BitVec 64) (h0 : E0 = E4 ^^^ rotl E1 1) (h1 : E1 = E0 ^^^ rotl E2 1) (h2 : E2 = E1 ^^^ rotl E3 1) (h3 : E3 = E2 ^^^ rotl E4 1) (h4 : E4 = E3 ^^^ rotl E0 1) :
    E0 = 0#64 ∧ E1 = 0#64 ∧ E2 = 0#64 ∧ E3 = 0#64 ∧ E4 = 0#64 := by
  obtain ⟨f, hf0, hf1, hf2, hf3, hf4, hp⟩ : ∃ f : Nat → BitVec 64, f 0 = E0 ∧ f 1 = E1 ∧ f 2 = E2 ∧ f 3 = E3 ∧ f 4 = E4 ∧ ∀ x, f (x + 5) = f x :=
    ⟨fun x => [E0, E1, E2, E3, E4].getD (x % 5) 0#64, rfl, rfl, rfl, rfl, rfl, fun x => by simp⟩
  have hpm : ∀ k x, f (x + 5 * k) = f x := by
    intro k
    induction k with
    | zero => intro x; rfl
    | succ k ih => intro x; rw [show x + 5 * (k + 1) = x + 5 * k + 5 from by omega, hp, ih]
  have hm : ∀ x, f x = f (x % 5) := fun x => by
    have := hpm (x / 5) (x % 5)
    rw [show x % 5 + 5 * (x / 5) = x from by omega] at this
    exact this
  have s0 : ∀ x, f x = f (x + 4) ^^^ rotl (f (x + 1)) 1 := by
    intro x
    rw [hm x, hm (x + 4), hm (x + 1)]
    have hx : x % 5 = 0 ∨ x % 5 = 1 ∨ x % 5 = 2 ∨ x % 5 = 3 ∨ x % 5 = 4 := by omega
    rcases hx with h | h | h | h | h
    · rw [h, show (x + 4) % 5 = 4 from by omega, show (x + 1) % 5 = 1 from by omega, hf0, hf4, hf1]; exact h0
    · rw [h, show (x + 4) % 5 = 0 from by omega, show (x + 1) % 5 = 2 from by omega, hf1, hf0, hf2]; exact h1
    · rw [h, show (x + 4) % 5 = 1 from by omega, show (x + 1) % 5 = 3 from by omega, hf2, hf1, hf3]; exact h2
    · rw [h, show (x + 4) % 5 = 2 from by omega, show (x + 1) % 5 = 4 from by omega, hf3, hf2, hf4]; exact h3
    · rw [h, show (x + 4) % 5 = 3 from by omega, show (x + 1) % 5 = 0 from by omega, hf4, hf3, hf0]; exact h4
  have s6 := sq_step f _ _ _ (by omega) (sq_step f _ _ _ (by omega) (sq_step f _ _ _ (by omega) (sq_step f _ _ _ (by omega) (sq_step f _ _ _ (by omega) (sq_step f 4 1 1 (by omega) s0)))))
  have H : ∀ x, f x = f (x + 1) ^^^ f (x + 4) := by
    intro x
    have h := s6 x
    rw [show x + 2 * (2 * (2 * (2 * (2 * (2 * 4))))) = x + 1 + 5 * 51 from by omega, show x + 2 * (2 * (2 * (2 * (2 * (2 * 1))))) = x + 4 + 5 * 12 from by omega, hpm, hpm,
      show 2 * (2 * (2 * (2 * (2 * (2 * 1))))) = 64 from rfl, rotl_all] at h
    exact h
  have g : ∀ x, f (x + 2) = f (x + 4) := by
    intro x
    have h := H x
    rw [H (x + 1), show x + 1 + 4 = x + 5 from by omega, hp, show x + 1 + 1 = x + 2 from by omega] at h
    have h5 := congrArg (f x ^^^ ·) h
    simp only [BitVec.xor_self] at h5
    have h6 : f x ^^^ (f (x + 2) ^^^ f x ^^^ f (x + 4)) = f (x + 2) ^^^ f (x + 4) := by
      rw [BitVec.xor_comm (f (x + 2)) (f x), BitVec.xor_assoc, ← BitVec.xor_assoc (f x) (f x), BitVec.xor_self, BitVec.zero_xor]
    rw [h6] at h5
    exact xor_zero_eq _ _ h5.symm
  have a1 : f 0 = f 2 := by have := g 3; rwa [show 3 + 2 = 0 + 5 from rfl, show 3 + 4 = 2 + 5 from rfl, hp, hp] at this
  have a2 : f 2 = f 4 := g 0
  have a3 : f 1 = f 3 := by have := g 4; rwa [show 4 + 2 = 1 + 5 from rfl, show 4 + 4 = 3 + 5 from rfl, hp, hp] at this
  have a4 : f 3 = f 0 := by have := g 1; rwa [show 1 + 4 = 0 + 5 from rfl, hp] at this
  have z : f 0 = 0#64 := by
    have := H 0
    rw [show 0 + 1 = 1 from rfl, show 0 + 4 = 4 from rfl, a3, a4, ← a2, ← a1, BitVec.xor_self] at this
    exact this
  rw [← hf0, ← hf1, ← hf2, ← hf3, ← hf4]
  exact ⟨z, by rw [a3, a4, z], by rw [← a1, z], by rw [a4, z], by rw [← a2, ← a1, z]⟩
theorem rotl_back (x : BitVec 64) (a b : Nat) (h : a + b = 64) : rotl (rotl x a) b = x := by
  apply BitVec.eq_of_getLsbD_eq
  intro i hi
  rw [rotl_bit _ _ _ (by omega) hi]
  by_cases h1 : i < b
  · rw [if_pos h1, rotl_bit _ _ _ (by omega) (by omega)]
    by_cases h2 : 64 - b + i < a
    · omega
    · rw [if_neg h2]; congr 1; omega
  · rw [if_neg h1, rotl_bit _ _ _ (by omega) (by omega), if_pos (by omega)]; congr 1; omega
theorem rotl_inj (n : Nat) (hn : n ≤ 64) (x y : BitVec 64) (h : rotl x n = rotl y n) : x = y := by
  have h2 : rotl (rotl x n) (64 - n) = rotl (rotl y n) (64 - n) := by rw [h]
  rwa [rotl_back x n (64 - n) (by omega), rotl_back y n (64 - n) (by omega)] at h2
theorem chi_bool : ∀ a0 a1 a2 a3 a4 b0 b1 b2 b3 b4 : Bool, (a0 ^^ (a2 && !a1)) = (b0 ^^ (b2 && !b1)) → (a1 ^^ (a3 && !a2)) = (b1 ^^ (b3 && !b2)) → (a2 ^^ (a4 && !a3)) = (b2 ^^ (b4 && !b3)) →
    (a3 ^^ (a0 && !a4)) = (b3 ^^ (b0 && !b4)) → (a4 ^^ (a1 && !a0)) = (b4 ^^ (b1 && !b0)) → a0 = b0 ∧ a1 = b1 ∧ a2 = b2 ∧ a3 = b3 ∧ a4 = b4 := by decide +kernel
theorem chi5 (a0 a1 a2 a3 a4 b0 b1 b2 b3 b4 : BitVec 64) (h0 : a0 ^^^ (a2 &&& ~~~a1) = b0 ^^^ (b2 &&& ~~~b1)) (h1 : a1 ^^^ (a3 &&& ~~~a2) = b1 ^^^ (b3 &&& ~~~b2)) (h2 : a2 ^^^ (a4 &&& ~~~a3) = b2 ^^^ (b4 &&& ~~~b3))
    (h3 : a3 ^^^ (a0 &&& ~~~a4) = b3 ^^^ (b0 &&& ~~~b4)) (h4 : a4 ^^^ (a1 &&& ~~~a0) = b4 ^^^ (b1 &&& ~~~b0)) : a0 = b0 ∧ a1 = b1 ∧ a2 = b2 ∧ a3 = b3 ∧ a4 = b4 := by
  have key : ∀ i, i < 64 → a0.getLsbD i = b0.getLsbD i ∧ a1.getLsbD i = b1.getLsbD i ∧ a2.getLsbD i = b2.getLsbD i ∧ a3.getLsbD i = b3.getLsbD i ∧ a4.getLsbD i = b4.getLsbD i := by
    intro i hi
    have g0 := congrArg (fun z => BitVec.getLsbD z i) h0
    have g1 := congrArg (fun z => BitVec.getLsbD z i) h1
    have g2 := congrArg (fun z => BitVec.getLsbD z i) h2
    have g3 := congrArg (fun z => BitVec.getLsbD z i) h3
    have g4 := congrArg (fun z => BitVec.getLsbD z i) h4
    simp only [BitVec.getLsbD_xor, BitVec.getLsbD_and, BitVec.getLsbD_not, hi, decide_true, Bool.true_and] at g0 g1 g2 g3 g4
    exact chi_bool _ _ _ _ _ _ _ _ _ _ g0 g1 g2 g3 g4
  exact ⟨BitVec.eq_of_getLsbD_eq fun i hi => (key i hi).1, BitVec.eq_of_getLsbD_eq fun i hi => (key i hi).2.1, BitVec.eq_of_getLsbD_eq fun i hi => (key i hi).2.2.1, BitVec.eq_of_getLsbD_eq fun i hi => (key i hi).2.2.2.1,
    BitVec.eq_of_getLsbD_eq fun i hi => (key i hi).2.2.2.2⟩

theorem theta_inj (s0 s1 s2 s3 s4 s5 s6 s7 s8 s9 s10 s11 s12 s13 s14 s15 s16 s17 s18 s19 s20 s21 s22 s23 s24 r0 r1 r2 r3 r4 r5 r6 r7 r8 r9 r10 r11 r12 r13 r14 r15 r16 r17 r18 r19 r20 r21 r22 r23 r24 : BitVec 64) (h : thetaF [s0, s1, s2, s3, s4, s5, s6, s7, s8, s9, s10, s11, s12, s13, s14, s15, s16, s17, s18, s19, s20, s21, s22, s23, s24] = thetaF [r0, r1, r2, r3, r4, r5, r6, r7, r8, r9, r10, r11, r12, r13, r14, r15, r16, r17, r18, r19, r20, r21, r22, r23, r24]) : [s0, s1, s2, s3, s4, s5, s6, s7, s8, s9, s10, s11, s12, s13, s14, s15, s16, s17, s18, s19, s20, s21, s22, s23, s24] = [r0, r1, r2, r3, r4, r5, r6, r7, r8, r9, r10, r11, r12, r13, r14, r15, r16, r17, r18, r19, r20, r21, r22, r23, r24] := by
  rw [theta_ex, theta_ex] at h
  simp only [List.cons.injEq] at h
  obtain ⟨h0, h1, h2, h3, h4, h5, h6, h7, h8, h9, h10, h11, h12, h13, h14, h15, h16, h17, h18, h19, h20, h21, h22, h23, h24, _⟩ := h
  obtain ⟨A0, hA0⟩ : ∃ z, z = (((((0#64 ^^^ s0) ^^^ s5) ^^^ s10) ^^^ s15) ^^^ s20) := ⟨_, rfl⟩
  obtain ⟨B0, hB0⟩ : ∃ z, z = (((((0#64 ^^^ r0) ^^^ r5) ^^^ r10) ^^^ r15) ^^^ r20) := ⟨_, rfl⟩
  obtain ⟨A1, hA1⟩ : ∃ z, z = (((((0#64 ^^^ s1) ^^^ s6) ^^^ s11) ^^^ s16) ^^^ s21) := ⟨_, rfl⟩
  obtain ⟨B1, hB1⟩ : ∃ z, z = (((((0#64 ^^^ r1) ^^^ r6) ^^^ r11) ^^^ r16) ^^^ r21) := ⟨_, rfl⟩
  obtain ⟨A2, hA2⟩ : ∃ z, z = (((((0#64 ^^^ s2) ^^^ s7) ^^^ s12) ^^^ s17) ^^^ s22) := ⟨_, rfl⟩
  obtain ⟨B2, hB2⟩ : ∃ z, z = (((((0#64 ^^^ r2) ^^^ r7) ^^^ r12) ^^^ r17) ^^^ r22) := ⟨_, rfl⟩
  obtain ⟨A3, hA3⟩ : ∃ z, z = (((((0#64 ^^^ s3) ^^^ s8) ^^^ s13) ^^^ s18) ^^^ s23) := ⟨_, rfl⟩
  obtain ⟨B3, hB3⟩ : ∃ z, z = (((((0#64 ^^^ r3) ^^^ r8) ^^^ r13) ^^^ r18) ^^^ r23) := ⟨_, rfl⟩
  obtain ⟨A4, hA4⟩ : ∃ z, z = (((((0#64 ^^^ s4) ^^^ s9) ^^^ s14) ^^^ s19) ^^^ s24) := ⟨_, rfl⟩
  obtain ⟨B4, hB4⟩ : ∃ z, z = (((((0#64 ^^^ r4) ^^^ r9) ^^^ r14) ^^^ r19) ^^^ r24) := ⟨_, rfl⟩
  rw [← hA4, ← hA1, ← hB4, ← hB1] at h0
  have d0 := th_diff _ _ _ _ _ _ h0
  rw [← hA0, ← hA2, ← hB0, ← hB2] at h1
  have d1 := th_diff _ _ _ _ _ _ h1
  rw [← hA1, ← hA3, ← hB1, ← hB3] at h2
  have d2 := th_diff _ _ _ _ _ _ h2
  rw [← hA2, ← hA4, ← hB2, ← hB4] at h3
  have d3 := th_diff _ _ _ _ _ _ h3
  rw [← hA3, ← hA0, ← hB3, ← hB0] at h4
  have d4 := th_diff _ _ _ _ _ _ h4
  rw [← hA4, ← hA1, ← hB4, ← hB1] at h5
  have d5 := th_diff _ _ _ _ _ _ h5
  rw [← hA0, ← hA2, ← hB0, ← hB2] at h6
  have d6 := th_diff _ _ _ _ _ _ h6
  rw [← hA1, ← hA3, ← hB1, ← hB3] at h7
  have d7 := th_diff _ _ _ _ _ _ h7
  rw [← hA2, ← hA4, ← hB2, ← hB4] at h8
  have d8 := th_diff _ _ _ _ _ _ h8
  rw [← hA3, ← hA0, ← hB3, ← hB0] at h9
  have d9 := th_diff _ _ _ _ _ _ h9
  rw [← hA4, ← hA1, ← hB4, ← hB1] at h10
  have d10 := th_diff _ _ _ _ _ _ h10
  rw [← hA0, ← hA2, ← hB0, ← hB2] at h11
  have d11 := th_diff _ _ _ _ _ _ h11
  rw [← hA1, ← hA3, ← hB1, ← hB3] at h12
  have d12 := th_diff _ _ _ _ _ _ h12
  rw [← hA2, ← hA4, ← hB2, ← hB4] at h13
  have d13 := th_diff _ _ _ _ _ _ h13
  rw [← hA3, ← hA0, ← hB3, ← hB0] at h14
  have d14 := th_diff _ _ _ _ _ _ h14
  rw [← hA4, ← hA1, ← hB4, ← hB1] at h15
  have d15 := th_diff _ _ _ _ _ _ h15
  rw [← hA0, ← hA2, ← hB0, ← hB2] at h16
  have d16 := th_diff _ _ _ _ _ _ h16
  rw [← hA1, ← hA3, ← hB1, ← hB3] at h17
  have d17 := th_diff _ _ _ _ _ _ h17
  rw [← hA2, ← hA4, ← hB2, ← hB4] at h18
  have d18 := th_diff _ _ _ _ _ _ h18
  rw [← hA3, ← hA0, ← hB3, ← hB0] at h19
  have d19 := th_diff _ _ _ _ _ _ h19
  rw [← hA4, ← hA1, ← hB4, ← hB1] at h20
  have d20 := th_diff _ _ _ _ _ _ h20
  rw [← hA0, ← hA2, ← hB0, ← hB2] at h21
  have d21 := th_diff _ _ _ _ _ _ h21
  rw [← hA1, ← hA3, ← hB1, ← hB3] at h22
  have d22 := th_diff _ _ _ _ _ _ h22
  rw [← hA2, ← hA4, ← hB2, ← hB4] at h23
  have d23 := th_diff _ _ _ _ _ _ h23
  rw [← hA3, ← hA0, ← hB3, ← hB0] at h24
  have d24 := th_diff _ _ _ _ _ _ h24
  have c0 := th_col s0 s5 s10 s15 s20 r0 r5 r10 r15 r20 _ d0 d5 d10 d15 d20
  rw [← hA0, ← hB0] at c0
  have c1 := th_col s1 s6 s11 s16 s21 r1 r6 r11 r16 r21 _ d1 d6 d11 d16 d21
  rw [← hA1, ← hB1] at c1
  have c2 := th_col s2 s7 s12 s17 s22 r2 r7 r12 r17 r22 _ d2 d7 d12 d17 d22
  rw [← hA2, ← hB2] at c2
  have c3 := th_col s3 s8 s13 s18 s23 r3 r8 r13 r18 r23 _ d3 d8 d13 d18 d23
  rw [← hA3, ← hB3] at c3
  have c4 := th_col s4 s9 s14 s19 s24 r4 r9 r14 r19 r24 _ d4 d9 d14 d19 d24
  rw [← hA4, ← hB4] at c4
  obtain ⟨z0, z1, z2, z3, z4⟩ := zero5 _ _ _ _ _ c0 c1 c2 c3 c4
  rw [c0] at z0
  rw [c1] at z1
  rw [c2] at z2
  rw [c3] at z3
  rw [c4] at z4
  rw [z0] at d0
  rw [z1] at d1
  rw [z2] at d2
  rw [z3] at d3
  rw [z4] at d4
  rw [z0] at d5
  rw [z1] at d6
  rw [z2] at d7
  rw [z3] at d8
  rw [z4] at d9
  rw [z0] at d10
  rw [z1] at d11
  rw [z2] at d12
  rw [z3] at d13
  rw [z4] at d14
  rw [z0] at d15
  rw [z1] at d16
  rw [z2] at d17
  rw [z3] at d18
  rw [z4] at d19
  rw [z0] at d20
  rw [z1] at d21
  rw [z2] at d22
  rw [z3] at d23
  rw [z4] at d24
  rw [xor_zero_eq _ _ d0, xor_zero_eq _ _ d1, xor_zero_eq _ _ d2, xor_zero_eq _ _ d3, xor_zero_eq _ _ d4, xor_zero_eq _ _ d5, xor_zero_eq _ _ d6, xor_zero_eq _ _ d7, xor_zero_eq _ _ d8, xor_zero_eq _ _ d9, xor_zero_eq _ _ d10, xor_zero_eq _ _ d11, xor_zero_eq _ _ d12, xor_zero_eq _ _ d13, xor_zero_eq _ _ d14, xor_zero_eq _ _ d15, xor_zero_eq _ _ d16, xor_zero_eq _ _ d17, xor_zero_eq _ _ d18, xor_zero_eq _ _ d19, xor_zero_eq _ _ d20, xor_zero_eq _ _ d21, xor_zero_eq _ _ d22, xor_zero_eq _ _ d23, xor_zero_eq _ _ d24]
theorem move_inj (m0 m1 m2 m3 m4 m5 m6 m7 m8 m9 m10 m11 m12 m13 m14 m15 m16 m17 m18 m19 m20 m21 m22 m23 m24 n0 n1 n2 n3 n4 n5 n6 n7 n8 n9 n10 n11 n12 n13 n14 n15 n16 n17 n18 n19 n20 n21 n22 n23 n24 : BitVec 64) (h : moveF [m0, m1, m2, m3, m4, m5, m6, m7, m8, m9, m10, m11, m12, m13, m14, m15, m16, m17, m18, m19, m20, m21, m22, m23, m24] = moveF [n0, n1, n2, n3, n4, n5, n6, n7, n8, n9, n10, n11, n12, n13, n14, n15, n16, n17, n18, n19, n20, n21, n22, n23, n24]) : [m0, m1, m2, m3, m4, m5, m6, m7, m8, m9, m10, m11, m12, m13, m14, m15, m16, m17, m18, m19, m20, m21, m22, m23, m24] = [n0, n1, n2, n3, n4, n5, n6, n7, n8, n9, n10, n11, n12, n13, n14, n15, n16, n17, n18, n19, n20, n21, n22, n23, n24] := by
  rw [move_ex, move_ex] at h
  simp only [List.cons.injEq] at h
  obtain ⟨h0, h1, h2, h3, h4, h5, h6, h7, h8, h9, h10, h11, h12, h13, h14, h15, h16, h17, h18, h19, h20, h21, h22, h23, h24, _⟩ := h
  rw [h0, rotl_inj 44 (by omega) _ _ h1, rotl_inj 43 (by omega) _ _ h2, rotl_inj 21 (by omega) _ _ h3, rotl_inj 14 (by omega) _ _ h4, rotl_inj 28 (by omega) _ _ h5, rotl_inj 20 (by omega) _ _ h6, rotl_inj 3 (by omega) _ _ h7, rotl_inj 45 (by omega) _ _ h8, rotl_inj 61 (by omega) _ _ h9, rotl_inj 1 (by omega) _ _ h10, rotl_inj 6 (by omega) _ _ h11, rotl_inj 25 (by omega) _ _ h12, rotl_inj 8 (by omega) _ _ h13, rotl_inj 18 (by omega) _ _ h14, rotl_inj 27 (by omega) _ _ h15, rotl_inj 36 (by omega) _ _ h16, rotl_inj 10 (by omega) _ _ h17, rotl_inj 15 (by omega) _ _ h18, rotl_inj 56 (by omega) _ _ h19, rotl_inj 62 (by omega) _ _ h20, rotl_inj 55 (by omega) _ _ h21, rotl_inj 39 (by omega) _ _ h22, rotl_inj 41 (by omega) _ _ h23, rotl_inj 2 (by omega) _ _ h24]
theorem chi_inj (m0 m1 m2 m3 m4 m5 m6 m7 m8 m9 m10 m11 m12 m13 m14 m15 m16 m17 m18 m19 m20 m21 m22 m23 m24 n0 n1 n2 n3 n4 n5 n6 n7 n8 n9 n10 n11 n12 n13 n14 n15 n16 n17 n18 n19 n20 n21 n22 n23 n24 : BitVec 64) (h : chiF [m0, m1, m2, m3, m4, m5, m6, m7, m8, m9, m10, m11, m12, m13, m14, m15, m16, m17, m18, m19, m20, m21, m22, m23, m24] = chiF [n0, n1, n2, n3, n4, n5, n6, n7, n8, n9, n10, n11, n12, n13, n14, n15, n16, n17, n18, n19, n20, n21, n22, n23, n24]) : [m0, m1, m2, m3, m4, m5, m6, m7, m8, m9, m10, m11, m12, m13, m14, m15, m16, m17, m18, m19, m20, m21, m22, m23, m24] = [n0, n1, n2, n3, n4, n5, n6, n7, n8, n9, n10, n11, n12, n13, n14, n15, n16, n17, n18, n19, n20, n21, n22, n23, n24] := by
  rw [chi_ex, chi_ex] at h
  simp only [List.cons.injEq] at h
  obtain ⟨h0, h1, h2, h3, h4, h5, h6, h7, h8, h9, h10, h11, h12, h13, h14, h15, h16, h17, h18, h19, h20, h21, h22, h23, h24, _⟩ := h
  obtain ⟨e0, e1, e2, e3, e4⟩ := chi5 _ _ _ _ _ _ _ _ _ _ h0 h1 h2 h3 h4
  obtain ⟨e5, e6, e7, e8, e9⟩ := chi5 _ _ _ _ _ _ _ _ _ _ h5 h6 h7 h8 h9
  obtain ⟨e10, e11, e12, e13, e14⟩ := chi5 _ _ _ _ _ _ _ _ _ _ h10 h11 h12 h13 h14
  obtain ⟨e15, e16, e17, e18, e19⟩ := chi5 _ _ _ _ _ _ _ _ _ _ h15 h16 h17 h18 h19
  obtain ⟨e20, e21, e22, e23, e24⟩ := chi5 _ _ _ _ _ _ _ _ _ _ h20 h21 h22 h23 h24
  rw [e0, e1, e2, e3, e4, e5, e6, e7, e8, e9, e10, e11, e12, e13, e14, e15, e16, e17, e18, e19, e20, e21, e22, e23, e24]

theorem stir_inj (s r : List (BitVec 64)) (hs : s.length = 25) (hr : r.length = 25) (h : chiF (moveF (thetaF s)) = chiF (moveF (thetaF r))) : s = r := by
  have e1 : moveF (thetaF s) = moveF (thetaF r) := by
    obtain ⟨m0, m1, m2, m3, m4, m5, m6, m7, m8, m9, m10, m11, m12, m13, m14, m15, m16, m17, m18, m19, m20, m21, m22, m23, m24, hm⟩ := lanes25 _ (moveF_len (thetaF s))
    obtain ⟨n0, n1, n2, n3, n4, n5, n6, n7, n8, n9, n10, n11, n12, n13, n14, n15, n16, n17, n18, n19, n20, n21, n22, n23, n24, hn⟩ := lanes25 _ (moveF_len (thetaF r))
    rw [hm, hn] at h ⊢
    exact chi_inj _ _ _ _ _ _ _ _ _ _ _ _ _ _ _ _ _ _ _ _ _ _ _ _ _ _ _ _ _ _ _ _ _ _ _ _ _ _ _ _ _ _ _ _ _ _ _ _ _ _ h
  have e2 : thetaF s = thetaF r := by
    obtain ⟨m0, m1, m2, m3, m4, m5, m6, m7, m8, m9, m10, m11, m12, m13, m14, m15, m16, m17, m18, m19, m20, m21, m22, m23, m24, hm⟩ := lanes25 _ (by rw [thetaF_len]; exact hs : (thetaF s).length = 25)
    obtain ⟨n0, n1, n2, n3, n4, n5, n6, n7, n8, n9, n10, n11, n12, n13, n14, n15, n16, n17, n18, n19, n20, n21, n22, n23, n24, hn⟩ := lanes25 _ (by rw [thetaF_len]; exact hr : (thetaF r).length = 25)
    rw [hm, hn] at e1 ⊢
    exact move_inj _ _ _ _ _ _ _ _ _ _ _ _ _ _ _ _ _ _ _ _ _ _ _ _ _ _ _ _ _ _ _ _ _ _ _ _ _ _ _ _ _ _ _ _ _ _ _ _ _ _ e1
  obtain ⟨s0, s1, s2, s3, s4, s5, s6, s7, s8, s9, s10, s11, s12, s13, s14, s15, s16, s17, s18, s19, s20, s21, s22, s23, s24, rfl⟩ := lanes25 s hs
  obtain ⟨r0, r1, r2, r3, r4, r5, r6, r7, r8, r9, r10, r11, r12, r13, r14, r15, r16, r17, r18, r19, r20, r21, r22, r23, r24, rfl⟩ := lanes25 r hr
  exact theta_inj _ _ _ _ _ _ _ _ _ _ _ _ _ _ _ _ _ _ _ _ _ _ _ _ _ _ _ _ _ _ _ _ _ _ _ _ _ _ _ _ _ _ _ _ _ _ _ _ _ _ e2

theorem lane_set_same (l : List (BitVec 64)) (i : Nat) (v : BitVec 64) (h : i < l.length) : lane (l.set i v) i = v := by
  unfold lane; rw [List.getD_eq_getElem?_getD, List.getElem?_set_self h]; rfl
theorem set_inj (l m : List (BitVec 64)) (k : BitVec 64) (hl : l.length = 25) (hm : m.length = 25) (h : l.set 0 (lane l 0 ^^^ k) = m.set 0 (lane m 0 ^^^ k)) : l = m := by
  match l, m, hl, hm with
  | a :: l, b :: m, _, _ =>
    have e1 : lane (a :: l) 0 = a := rfl
    have e2 : lane (b :: m) 0 = b := rfl
    rw [e1, e2] at h
    simp only [List.set_cons_zero, List.cons.injEq] at h
    obtain ⟨h1, h2⟩ := h
    have h3 := xor_move _ _ _ _ h1
    rw [BitVec.xor_self] at h3
    rw [h2, xor_zero_eq _ _ h3]
theorem round_inj (n : Nat) (s r : List (BitVec 64)) (hs : s.length = 25) (hr : r.length = 25) (h : roundF n s = roundF n r) : s = r := by
  rw [roundF_eq, roundF_eq] at h
  exact stir_inj s r hs hr (set_inj _ _ _ (by rw [chiF_len, moveF_len]) (by rw [chiF_len, moveF_len]) h)
theorem rounds_inj (s r : List (BitVec 64)) (hs : s.length = 25) (hr : r.length = 25) : ∀ k, roundsF k s = roundsF k r → s = r
  | 0, h => by rwa [roundsF_zero, roundsF_zero] at h
  | k + 1, h => by
    rw [roundsF_succ, roundsF_succ] at h
    exact rounds_inj s r hs hr k (round_inj k _ _ (roundsF_len s hs k) (roundsF_len r hr k) h)
theorem perm_inj (s r : List (BitVec 64)) (hs : s.length = 25) (hr : r.length = 25) (h : permF s = permF r) : s = r := by
  rw [permF_eq, permF_eq] at h
  exact rounds_inj s r hs hr 24 h

end Go.Proofs.Ytfohblhaiflaeaa
