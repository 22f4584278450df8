/- tick.Next: what it comes to. -/
import Derived.Test.YtjjljeepiehpaaaTq
namespace Go.Proofs.Ytjjljeepiehpaaa
open Go.RowKit Go.Shelf
attribute [local go_sem] Oper.semAt_some

/-- the tick at or behind t at which a slot begins that begins at 'from' in a cycle -/
def atF (cyc t from_ : Int) : Int := if t - t % cyc + from_ < t then t - t % cyc + from_ + cyc else t - t % cyc + from_
/-- the best so far -/
def bestS (ss : List (Int × Int)) (cyc dom t : Int) (best : Int) (x : Nat × Int) : Int :=
  if sdom ss x.1 ≠ dom then best else if atF cyc t x.2 ≤ 4611686018427387904 ∧ (best < 0 ∨ atF cyc t x.2 < best) then atF cyc t x.2 else best
def bestF (ss : List (Int × Int)) (cyc dom t : Int) (l : List (Nat × Int)) : Int := l.foldl (bestS ss cyc dom t) (-1)
theorem bestF_snoc (ss : List (Int × Int)) (cyc dom t : Int) (l : List (Nat × Int)) (x : Nat × Int) : bestF ss cyc dom t (l ++ [x]) = bestS ss cyc dom t (bestF ss cyc dom t l) x := by simp [bestF]
theorem bestF_nil (ss : List (Int × Int)) (cyc dom t : Int) : bestF ss cyc dom t [] = -1 := rfl
attribute [irreducible] bestF

theorem wrap_in {n : Int} (h : -9223372036854775808 ≤ n) (h2 : n ≤ 9223372036854775807) : IntKind.i64.wrap n = n := by rw [IntKind.wrap_i64]; omega
theorem Below.drewN {B : Nat} {a w : World} (h : Below B a w) (k : Nat) : Below B a (w.drewN k) := ⟨h.os, h.tape, h.output, h.size, h.block⟩
theorem Kp.drewN {n₀ n₁ : Nat} {A W : World} (h : Kp n₀ n₁ A W) (k : Nat) : Kp n₀ n₁ A (W.drewN k) := ⟨Below.drewN h.1 k, h.2⟩

theorem results_two {fn : Func} {t u : Tmp} (h : fn.results = #[.tmp t, .tmp u]) (tmps : Array Value) (P : Program) (w : World) : (results fn tmps).run P w = .ok (.tuple #[tmps.getD t undef, tmps.getD u undef]) w := by
  simp only [results, h]
  simp [Sem.run_bind, Result.andThen]

theorem ret_two {k : IntKind} {a b : Int} {p q : Bool} (h : a = b) (h2 : p = q) : Ending.returned (.tuple #[.int k a, .bool p]) = .returned (.tuple #[.int k b, .bool q]) := by rw [h, h2]

/-- the best so far lies in its box -/
def BestAt (W : World) (M : Nat) (e : Int) : Prop := (-1 ≤ e ∧ e ≤ 4611686018427387904) ∧ Blk W (M + 1) 3 #[.int .i64 e]

set_option maxRecDepth 100000 in
set_option maxHeartbeats 2000000 in
theorem next_in (n : Nat) (hn : 3 ≤ n) (a : Option Addr) (len cap : Nat) (ss : List (Int × Int)) (hreach : ss.length * 16 ≤ 140737488351232) (dom t : Int) (w : World)
    (hI : Slots w.heap.size w (.slice a len cap) ss) (hc : 0 < cycF ss ∧ cycF ss ≤ 256) :
    CallsIn Fence.wide n Try.prog 28 #[.slice a len cap, .int .i64 dom, .int .i64 t] w fun e W' =>
      e = .returned (.tuple #[.int .i64 (max (bestF ss (cycF ss) dom (heldF t) (seqTo ss (cntN ss))) 0), .bool (decide (0 ≤ bestF ss (cycF ss) dom (heldF t) (seqTo ss (cntN ss))))]) ∧ Below w.heap.size w W' := by
  have h1 : 1 ≤ n := by omega
  obtain ⟨c, hce⟩ : ∃ c, c = cycF ss := ⟨_, rfl⟩
  rw [← hce] at hc ⊢
  obtain ⟨hc1, hc2⟩ := hc
  have hc0 : (c == 0) = false := by simp; omega
  refine callsIn_of_wp_marks Try.func28 rfl trivial ?_ rfl
  simp only [Try.ntmps28, List.size_toArray, List.length_cons, List.length_nil, Nat.reduceAdd, Nat.reduceSub, Array.replicate_succ, Array.replicate_zero, List.push_toArray, List.append_toArray, List.nil_append, List.cons_append]
  have hB3 : Below w.heap.size w (((w.alloc (.cells #[.slice a len cap] 38)).alloc (.cells #[.int .i64 dom] 3)).alloc (.cells #[.int .i64 t] 3)) := (((Below.refl _ w).alloc (Nat.le_refl _) _).alloc (by simp) _).alloc (by simp; omega) _
  have hI3 := (hI.below hB3).mono (n₁ := (((w.alloc (.cells #[.slice a len cap] 38)).alloc (.cells #[.int .i64 dom] 3)).alloc (.cells #[.int .i64 t] 3)).heap.size) hB3.size
  have HC := veil hce
  clear hce
  have hN3 : (((w.alloc (.cells #[.slice a len cap] 38)).alloc (.cells #[.int .i64 dom] 3)).alloc (.cells #[.int .i64 t] 3)).heap.size = w.heap.size + 3 := by simp
  have b0 : Blk (((w.alloc (.cells #[.slice a len cap] 38)).alloc (.cells #[.int .i64 dom] 3)).alloc (.cells #[.int .i64 t] 3)) w.heap.size 38 #[.slice a len cap] := heap_a3_0 _ _ _ _
  have b1 : Blk (((w.alloc (.cells #[.slice a len cap] 38)).alloc (.cells #[.int .i64 dom] 3)).alloc (.cells #[.int .i64 t] 3)) (w.heap.size + 1) 3 #[.int .i64 dom] := heap_a3_1 _ _ _ _
  have b2 : Blk (((w.alloc (.cells #[.slice a len cap] 38)).alloc (.cells #[.int .i64 dom] 3)).alloc (.cells #[.int .i64 t] 3)) (w.heap.size + 1 + 1) 3 #[.int .i64 t] := heap_a3_2 _ _ _ _
  gi_wp2_with fail
  refine ⟨trivial, ?_⟩; refine (callsIn_wide.2 (cycle_any _ _ _ ss hreach _ hI3)).mono ?_; rw [← HC.out]; rintro e w1 ⟨rfl, hb1⟩
  have hI4 := hI3.below hb1
  have hB4 := hB3.trans (hb1.mono (by omega))
  have c0 := b0.below hb1 (by omega)
  have c1 := b1.below hb1 (by omega)
  have c2 := b2.below hb1 (by omega)
  have hM := hb1.size
  rw [hN3] at hM hI4
  clear hb1 hI3 hB3 b0 b1 b2 hN3
  have e0 := (c0.alloc (.cells #[.int .i64 c] 3)).alloc (.cells #[.int .i64 (-1)] 3)
  have e1 := (c1.alloc (.cells #[.int .i64 c] 3)).alloc (.cells #[.int .i64 (-1)] 3)
  have e2 := (c2.alloc (.cells #[.int .i64 c] 3)).alloc (.cells #[.int .i64 (-1)] 3)
  have e3 : Blk ((w1.alloc (.cells #[.int .i64 c] 3)).alloc (.cells #[.int .i64 (-1)] 3)) w1.heap.size 3 #[.int .i64 c] := heap_a2_0 _ _ _
  have e4 : Blk ((w1.alloc (.cells #[.int .i64 c] 3)).alloc (.cells #[.int .i64 (-1)] 3)) (w1.heap.size + 1) 3 #[.int .i64 (-1)] := heap_a2_1 _ _ _
  have hI5 := hI4.below (((Below.refl _ w1).alloc hM (.cells #[.int .i64 c] 3)).alloc (by simp; omega) (.cells #[.int .i64 (-1)] 3))
  have hB5 := (hB4.alloc (by omega) (.cells #[.int .i64 c] 3)).alloc (by simp; omega) (.cells #[.int .i64 (-1)] 3)
  have hS5 : ((w1.alloc (.cells #[.int .i64 c] 3)).alloc (.cells #[.int .i64 (-1)] 3)).heap.size = w1.heap.size + 2 := by simp
  have g2 : ((w1.alloc (.cells #[.int .i64 c] 3)).alloc (.cells #[.int .i64 (-1)] 3)).cell? ⟨w.heap.size + 1 + 1, 0, none⟩ = some (.int .i64 t) := e2.cell 0
  clear hI4 hB4 c0 c1 c2
  gi_wp2_with fail
  obtain ⟨w2, hw2⟩ : ∃ w2, w2 = (w1.alloc (.cells #[.int .i64 c] 3)).alloc (.cells #[.int .i64 (-1)] 3) := ⟨_, rfl⟩
  rw [← hw2] at e0 e1 e2 e3 e4 hI5 hB5 hS5 ⊢
  clear g2 hw2
  refine ⟨trivial, ?_⟩; refine (callsIn_wide.2 (held_any _ _)).mono ?_; rintro e w3 ⟨rfl, rfl⟩
  obtain ⟨M, hMe⟩ : ∃ M, M = w1.heap.size := ⟨_, rfl⟩
  rw [← hMe] at hM e3 e4 hS5 ⊢
  clear hMe
  have ht := heldF_bd t
  obtain ⟨h, hh⟩ : ∃ h, h = heldF t := ⟨_, rfl⟩
  rw [← hh] at ht ⊢
  have HH := veil hh
  clear hh
  have g2 := e2.frozen 0
  have g3 : w2.cell? ⟨w.heap.size + 1 + 1, 0, none⟩ = some (.int .i64 t) := e2.cell 0
  have f0 : Blk (w2.setCell ⟨w.heap.size + 1 + 1, 0, none⟩ (.int .i64 h)) _ _ _ := e0.far (by dsimp; omega) _
  have f1 : Blk (w2.setCell ⟨w.heap.size + 1 + 1, 0, none⟩ (.int .i64 h)) _ _ _ := e1.far (by dsimp; omega) _
  have f2 : Blk (w2.setCell ⟨w.heap.size + 1 + 1, 0, none⟩ (.int .i64 h)) (w.heap.size + 1 + 1) 3 #[.int .i64 h] := e2.set_ 0 _
  have f3 : Blk (w2.setCell ⟨w.heap.size + 1 + 1, 0, none⟩ (.int .i64 h)) _ _ _ := e3.far (by dsimp; omega) _
  have f4 : Blk (w2.setCell ⟨w.heap.size + 1 + 1, 0, none⟩ (.int .i64 h)) _ _ _ := e4.far (by dsimp; omega) _
  have hI6 := hI.below (hB5.setCell (p := ⟨w.heap.size + 1 + 1, 0, none⟩) (by simp; omega) (.int .i64 h))
  have hB6 := hB5.setCell (p := ⟨w.heap.size + 1 + 1, 0, none⟩) (by simp; omega) (.int .i64 h)
  have hS6 : (w2.setCell ⟨w.heap.size + 1 + 1, 0, none⟩ (.int .i64 h)).heap.size = M + 2 := by simpa using hS5
  have g0 := f0.cell 0
  have g0' : (w2.setCell ⟨w.heap.size + 1 + 1, 0, none⟩ (.int .i64 h)).cell? ⟨w.heap.size, 0, none⟩ = some (.slice a len cap) := g0
  clear e0 e1 e2 e3 e4 hI5 hB5 hS5 g0
  gi_wp2_with fail
  obtain ⟨w3, hw3⟩ : ∃ w3, w3 = w2.setCell ⟨w.heap.size + 1 + 1, 0, none⟩ (.int .i64 h) := ⟨_, rfl⟩
  rw [← hw3] at f0 f1 f2 f3 f4 hI6 hB6 hS6 ⊢
  clear g0' g2 g3 hw3
  refine ⟨trivial, ?_⟩; refine (counts_in Fence.wide (n - 1) trivial rfl _ _ _ _).mono ?_; rintro e w4 ⟨rfl, rfl⟩
  have e0 := f0.alloc (.cells #[.slice a len cap] 38)
  have e1 := f1.alloc (.cells #[.slice a len cap] 38)
  have e2 := f2.alloc (.cells #[.slice a len cap] 38)
  have e3 := f3.alloc (.cells #[.slice a len cap] 38)
  have e4 := f4.alloc (.cells #[.slice a len cap] 38)
  have e5 : Blk (w3.alloc (.cells #[.slice a len cap] 38)) w3.heap.size 38 #[.slice a len cap] := heap_a1_0 _ _
  have hB7 := hB6.alloc (by omega) (.cells #[.slice a len cap] 38)
  have hS7 : (w3.alloc (.cells #[.slice a len cap] 38)).heap.size = M + 3 := by simp; omega
  obtain ⟨w4, hw4⟩ : ∃ w4, w4 = w3.alloc (.cells #[.slice a len cap] 38) := ⟨_, rfl⟩
  rw [← hw4] at e0 e1 e2 e3 e4 e5 hB7 hS7 ⊢
  rw [hS6] at e5 ⊢
  clear hw4 f0 f1 f2 f3 f4 hI6 hB6 hS6
  gi_wp2_with fail
  refine wpIn_rangeFunc_ownF rfl h1 (gf := 56) (lb := #[.pointer (some ⟨M + 2, 0, none⟩)]) rfl trivial (enters_of Try.func56 (by kernel_rfl) rfl)
    (counts_stops Fence.wide (n - 1) trivial rfl (by omega) (M + 2) M (M + 3) (.slice a len cap) ss hreach _ (by omega) (by omega) (by omega) (e5.cell 0) ((hI.below hB7).mono (by omega))) Kp.trans
    (fun W l o o' hl ho hc _ => Kp.book (by omega) W l o o' (by omega) ho hc) (Below.refl _ _) (fun _ => rfl)
    (fun pre W => (Blk W w.heap.size 38 #[.slice a len cap] ∧ Blk W (w.heap.size + 1) 3 #[.int .i64 dom] ∧ Blk W (w.heap.size + 1 + 1) 3 #[.int .i64 h] ∧ Blk W M 3 #[.int .i64 c] ∧
      BestAt W M (bestF ss c dom h (pre.map (·.1)))) ∧ Below w.heap.size w W)
    (fun _ _ _ => False)
    (OwnFrom.and (Own.from (fun s A B row hs hg hr => ⟨Blk.own hs.1 hg hr, Blk.own hs.2.1 hg hr, Blk.own hs.2.2.1 hg hr, Blk.own hs.2.2.2.1 hg hr, hs.2.2.2.2.1, Blk.own hs.2.2.2.2.2 hg hr⟩) _) (ownFrom_below (by omega) (by omega)))
    (fun _ _ _ _ _ hs _ _ => hs)
    ⟨⟨e0, e1, e2, e3, by simp [bestF_nil], by simpa [bestF_nil] using e4⟩, hB7⟩
    (fun x => { tmps := #[.slice a len cap, .int .i64 dom, .int .i64 t, .pointer (some ⟨w.heap.size, 0, none⟩), .pointer (some ⟨w.heap.size + 1, 0, none⟩), .pointer (some ⟨w.heap.size + 1 + 1, 0, none⟩), .int .i64 0, .bool false, .pointer (some ⟨M, 0, none⟩), .pointer (some ⟨M + 1, 0, none⟩), .int .i64 (x.1.1 : Int), .int .i64 x.1.2, undef, .slice a len cap, .int .i64 c, .int .i64 c, .bool false, .int .i64 t, .int .i64 h, .slice a len cap, .func (.func 56) #[] #[.pointer (some ⟨M + 2, 0, none⟩)], .int .i64 (x.1.1 : Int), .int .i64 x.1.2, undef, undef, undef, undef, undef, undef, undef, undef, undef, undef, undef, undef, undef, undef, undef, undef, undef, undef, undef, undef, undef, undef, undef, undef, undef, undef, undef, undef, undef, undef, undef, undef, undef, undef, undef, undef], defers := [] }) ?assign ?body ?done ?stop
  case assign =>
    intro l x W K hK
    gi_wp2
    exact hK
  case body =>
    rintro l pre x W ⟨⟨k0, k1, k2, k3, hbb, k4⟩, hB⟩ _
    obtain ⟨b, hb⟩ : ∃ b, b = bestF ss c dom h (pre.map (·.1)) := ⟨_, rfl⟩
    rw [← hb] at hbb k4
    have hk16 : x.1.1 < 16 ∧ x.1.1 < ss.length := by have := x.2.1; unfold cntN at this; omega
    have hfb : 0 ≤ x.1.2 ∧ x.1.2 ≤ 256 := by have h1 := x.2.2.1; have h2 := fromTo_bd ss x.1.1; omega
    rcases hI.below hB with ⟨_, _, _, rfl⟩ | ⟨B, off, cap', hsl, hcap, hBN, hcs⟩
    · exact absurd hk16.2 (by simp)
    · injection hsl with q1 q2 q3
      subst q1 q2 q3
      have hcd : W.cell? ⟨B, off + x.1.1 * 2, none⟩ = some (.int .i64 (sdom ss x.1.1)) := (hcs x.1.1 hk16.2).1
      have m0 := k0.cell 0
      have m1 := k1.cell 0
      have m2 := k2.cell 0
      have m3 := k3.cell 0
      have m4 := k4.cell 0
      have hki : (x.1.1 : Int) < (ss.length : Int) := by omega
      have HS := veil (bestF_snoc ss c dom h (pre.map (·.1)) x.1)
      have HBB := veil hb
      clear hcs e0 e1 e2 e3 e4 e5 hB7 hS7 hb
      gi_wp2_with fail
      refine wpIn_region_q (by kernel_rfl) (by kernel_rfl) (by kernel_rfl) ?_
      repeat (apply qi_val; (intro _; rfl); rfl; (intro wq hC; obtain ⟨kq, rfl⟩ := hC; go_simp; exact rfl); simp only [Act.put, List.setIfInBounds_toArray, List.set_cons_zero, List.set_cons_succ])
      intro kq
      have d0 := k0.drewN kq
      have d1 := k1.drewN kq
      have d2 := k2.drewN kq
      have d3 := k3.drewN kq
      have d4 := k4.drewN kq
      have dB := Below.drewN hB kq
      have dK : Kp M (M + 3) W (W.drewN kq) := Kp.drewN (Kp.refl _ _ W) kq
      have dO : KeepsOthers W (W.drewN kq) := ⟨Nat.le_refl _, fun _ _ h _ => h⟩
      obtain ⟨W1, hW1⟩ : ∃ W1, W1 = W.drewN kq := ⟨_, rfl⟩
      rw [← hW1] at d0 d1 d2 d3 d4 dB dK dO ⊢
      clear hW1 k0 k1 k2 k3 k4 m0 m1 m2 m3 m4 hcd
      have m2 := d2.cell 0
      have m3 := d3.cell 0
      have m4 := d4.cell 0
      by_cases hdm : sdom ss x.1.1 = dom
      · have hdt : (sdom ss x.1.1 != dom) = false := by simp [hdm]
        have hrb := Int.tmod_lt_of_pos h hc1
        have hrb2 := Int.tmod_nonneg c ht.1
        have hre : h.tmod c = h % c := Int.tmod_eq_emod_of_nonneg ht.1
        have hrb3 : h.tmod c ≤ h := by rw [hre]; have := Int.emod_add_mul_ediv h c; have h3 : 0 ≤ h / c := Int.ediv_nonneg ht.1 (by omega); have h4 : 0 ≤ c * (h / c) := Int.mul_nonneg (by omega) h3; omega
        obtain ⟨r, hr⟩ : ∃ r, r = h.tmod c := ⟨_, rfl⟩
        rw [← hr] at hrb hrb2 hrb3 hre
        obtain ⟨u, hu⟩ : ∃ u, u = h - r := ⟨_, rfl⟩
        obtain ⟨v, hv⟩ : ∃ v, v = u + x.1.2 := ⟨_, rfl⟩
        have hvb : 0 ≤ v ∧ v ≤ 4611686018427388160 := by omega
        have E1 : h.tmod c = r := hr.symm
        have hcz : ¬ c = 0 := by omega
        have E2 : IntKind.i64.wrap (h - r) = u := by rw [← hu]; exact wrap_in (by omega) (by omega)
        have E3 : IntKind.i64.wrap (u + x.1.2) = v := by rw [← hv]; exact wrap_in (by omega) (by omega)
        obtain ⟨A, hA⟩ : ∃ A, A = atF c h x.1.2 := ⟨_, rfl⟩
        have hA2 : (v < h ∧ A = v + c) ∨ (h ≤ v ∧ A = v) := by rw [hA]; unfold atF; rw [← hre, ← hu, ← hv]; by_cases hh : v < h; simp [hh]; simp [hh]; omega
        have hbest : bestS ss c dom h b x.1 = if A ≤ 4611686018427387904 ∧ (b < 0 ∨ A < b) then A else b := by unfold bestS; rw [if_neg (by simp [hdm]), ← hA]
        clear hr hu hv hA hre hrb hrb2 hrb3
        gi_wp2_with fail
        refine wpIn_region_q (by kernel_rfl) (by kernel_rfl) (by kernel_rfl) ?_
        repeat (apply qi_val; (intro _; rfl); rfl; (intro wq hC; obtain ⟨kq, rfl⟩ := hC; go_simp; exact rfl); simp only [Act.put, List.setIfInBounds_toArray, List.set_cons_zero, List.set_cons_succ])
        intro kq
        have d0 := d0.drewN kq
        have d1 := d1.drewN kq
        have d2 := d2.drewN kq
        have d3 := d3.drewN kq
        have d4 := d4.drewN kq
        have dB := Below.drewN dB kq
        have dK := Kp.drewN dK kq
        have dO : KeepsOthers W (W1.drewN kq) := dO.trans ⟨Nat.le_refl _, fun _ _ h _ => h⟩
        obtain ⟨W2, hW2⟩ : ∃ W2, W2 = W1.drewN kq := ⟨_, rfl⟩
        rw [← hW2] at d0 d1 d2 d3 d4 dB dK dO ⊢
        clear hW2 m2 m3 m4 E1 E2 E3 hcz
        have m2 := d2.cell 0
        have m3 := d3.cell 0
        have m4 := d4.cell 0
        have m4' := d4.frozen 0
        have hb0 : b < 0 ∨ (0 ≤ b ∧ A < b) ∨ (0 ≤ b ∧ b ≤ A) := by omega
        have hA3 : A ≤ 4611686018427387904 ∨ 4611686018427387904 < A := by omega
        have HY := veil hbest
        have hAb : 0 ≤ A := by omega
        clear hbest
        rcases hA2 with ⟨hvh, rfl⟩ | ⟨hvh, rfl⟩ <;> rcases hA3 with hA3 | hA3 <;> rcases hb0 with hb0 | ⟨hb0, hb1⟩ | ⟨hb0, hb1⟩
        all_goals gi_wp2
        all_goals
          first
            | (refine ⟨dO, dK, ⟨d0, d1, d2, d3, ?_⟩, dB⟩
               rw [List.map_append, List.map_cons, List.map_nil, HS.out, ← HBB.out, HY.out, if_neg (by omega)]
               exact ⟨hbb, d4⟩)
            | (refine ⟨dO.trans (KeepsOthers.setCell _ _ _), dK.setCell (by dsimp; omega) (by dsimp; omega) _, ⟨d0.far (by dsimp; omega) _, d1.far (by dsimp; omega) _, d2.far (by dsimp; omega) _, d3.far (by dsimp; omega) _, ?_⟩, dB.setCell (by dsimp; omega) _⟩
               rw [List.map_append, List.map_cons, List.map_nil, HS.out, ← HBB.out, HY.out, if_pos (by omega)]
               exact ⟨by omega, d4.set_ 0 _⟩)
      · have hdt : (sdom ss x.1.1 != dom) = true := by simp [hdm]
        have hbest : bestS ss c dom h b x.1 = b := by unfold bestS; rw [if_pos hdm]
        have HZ := veil hbest
        clear hbest
        gi_wp2
        refine ⟨dO, dK, ⟨d0, d1, d2, d3, ?_⟩, dB⟩
        rw [List.map_append, List.map_cons, List.map_nil, HS.out, ← HBB.out, HZ.out]
        exact ⟨hbb, d4⟩
  case done =>
    rintro D ys W hD hys ⟨⟨_, _, _, _, hbb, k4⟩, hB⟩ hK
    obtain ⟨b, hb⟩ : ∃ b, b = bestF ss c dom h (ys.map (·.1)) := ⟨_, rfl⟩
    rw [← hb] at hbb k4
    have m4 := k4.cell 0
    have HY := veil hys
    have HBB := veil hb
    clear hys hb
    gi_wp2_with fail
    refine wpIn_region_q (by kernel_rfl) (by kernel_rfl) (by kernel_rfl) ?_
    rcases (by omega : b < 0 ∨ 0 ≤ b) with hb0 | hb0
    all_goals
      repeat (apply qi_val; (intro _; rfl); rfl; (intro wq hC; obtain ⟨kq, rfl⟩ := hC; go_simp; exact rfl); simp only [Act.put, List.setIfInBounds_toArray, List.set_cons_zero, List.set_cons_succ])
      intro kq
      have hKq : (W.drewN kq).heap[D]? = some (.deferred (some [])) := hK
      have hBq := Below.drewN hB kq
      gi_wp2
      refine ⟨by simp, .inl ⟨_, _, rfl, run_takeDeferred hKq, ?_⟩⟩
      refine ⟨_, results_two rfl _ _ _, ?_, hBq.trans (belowK_b (w := w) (Nat.le_refl _) (W.drewN kq) D _ _ (by omega) hKq rfl rfl)⟩
      rw [← HH.out, ← HY.out, ← HBB.out]
      refine ret_two ?_ ?_
      · omega
      · simp <;> omega
  case stop =>
    rintro D c pre W _ _ h _
    exact h.elim

set_option maxRecDepth 100000 in
set_option maxHeartbeats 2000000 in
theorem next_zero (n : Nat) (hn : 3 ≤ n) (a : Option Addr) (len cap : Nat) (ss : List (Int × Int)) (hreach : ss.length * 16 ≤ 140737488351232) (dom t : Int) (w : World)
    (hI : Slots w.heap.size w (.slice a len cap) ss) (hc : cycF ss = 0) :
    CallsIn Fence.wide n Try.prog 28 #[.slice a len cap, .int .i64 dom, .int .i64 t] w fun e W' =>
      e = .returned (.tuple #[.int .i64 0, .bool false]) ∧ Below w.heap.size w W' := by
  have h1 : 1 ≤ n := by omega
  refine callsIn_of_wp_marks Try.func28 rfl trivial ?_ rfl
  simp only [Try.ntmps28, List.size_toArray, List.length_cons, List.length_nil, Nat.reduceAdd, Nat.reduceSub, Array.replicate_succ, Array.replicate_zero, List.push_toArray, List.append_toArray, List.nil_append, List.cons_append]
  have hB3 : Below w.heap.size w (((w.alloc (.cells #[.slice a len cap] 38)).alloc (.cells #[.int .i64 dom] 3)).alloc (.cells #[.int .i64 t] 3)) := (((Below.refl _ w).alloc (Nat.le_refl _) _).alloc (by simp) _).alloc (by simp; omega) _
  have hI3 := (hI.below hB3).mono (n₁ := (((w.alloc (.cells #[.slice a len cap] 38)).alloc (.cells #[.int .i64 dom] 3)).alloc (.cells #[.int .i64 t] 3)).heap.size) hB3.size
  have HC := veil hc
  clear hc
  gi_wp2_with fail
  refine ⟨trivial, ?_⟩; refine (callsIn_wide.2 (cycle_any _ _ _ ss hreach _ hI3)).mono ?_; rw [HC.out]; rintro e w1 ⟨rfl, hb1⟩
  have hB4 := hB3.trans (hb1.mono (by simp; omega))
  have hB5 := (hB4.alloc hB4.size (.cells #[.int .i64 0] 3)).alloc (by have := hB4.size; simp; omega) (.cells #[.int .i64 (-1)] 3)
  clear hb1 hB3 hI3 hB4
  gi_wp2
  exact ⟨_, results_two rfl _ _ _, rfl, hB5⟩

/-- the first tick at or behind t at which a slot of the domain begins -/
def nextF (ss : List (Int × Int)) (dom t : Int) : Int × Bool :=
  if cycF ss = 0 then (0, false) else (max (bestF ss (cycF ss) dom (heldF t) (seqTo ss (cntN ss))) 0, decide (0 ≤ bestF ss (cycF ss) dom (heldF t) (seqTo ss (cntN ss))))

theorem cycF_bd (ss : List (Int × Int)) : 0 ≤ cycF ss ∧ cycF ss ≤ 256 := by
  have h := fromTo_bd ss (cntN ss)
  have h2 : cntN ss ≤ 16 := by unfold cntN; omega
  unfold cycF
  omega

/-- tick.Next -/
theorem next_any (a : Option Addr) (len cap : Nat) (ss : List (Int × Int)) (hreach : ss.length * 16 ≤ 140737488351232) (dom t : Int) (w : World) (hI : Slots w.heap.size w (.slice a len cap) ss) :
    Calls Try.prog 28 #[.slice a len cap, .int .i64 dom, .int .i64 t] w fun e W' =>
      e = .returned (.tuple #[.int .i64 (nextF ss dom t).1, .bool (nextF ss dom t).2]) ∧ Below w.heap.size w W' := by
  have hc := cycF_bd ss
  by_cases h0 : cycF ss = 0
  · have h := (callsIn_wide (n := 3)).1 (next_zero 3 (by omega) a len cap ss hreach dom t w hI h0)
    unfold nextF
    rw [if_pos h0]
    exact h
  · have h := (callsIn_wide (n := 3)).1 (next_in 3 (by omega) a len cap ss hreach dom t w hI ⟨by omega, hc.2⟩)
    unfold nextF
    rw [if_neg h0]
    exact h
attribute [irreducible] nextF

end Go.Proofs.Ytjjljeepiehpaaa
