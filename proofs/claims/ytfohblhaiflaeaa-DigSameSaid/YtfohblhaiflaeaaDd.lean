/- slices.Chunk at bytes: what it comes to: the blocks of 136 bytes, one behind the other. -/
import Derived.Test.YtfohblhaiflaeaaDc
import Derived.Test.YtfohblhaiflaeaaDq
import Derived.RangeFuncNested
import Derived.RangeFuncBound
import Derived.RangeFuncCalls
import Derived.RangeFuncLeaves
import Derived.RangeFuncFrom
import Derived.Shelf.Abstract
import Derived.Shelf.RegionOpen
import Derived.WalkKit
import Derived.OwnWalkIn
import Derived.TacticsInMore
import Derived.LoopNIn
import Derived.LoopIn
import Derived.IntWalk
namespace Go.Proofs.Ytfohblhaiflaeaa
open Go.RowKit Go.Shelf
attribute [local go_sem] Oper.semAt_some

/-- what a round of a loop's body keeps: all below n₀, and every row that was laid from n₁ on -/
def Kp (n₀ n₁ : Nat) (W W' : World) : Prop := Below n₀ W W' ∧ ∀ k c t f, n₁ ≤ k → W.heap[k]? = some (.cells c t f) → W'.heap[k]? = some (.cells c t f)
theorem Kp.trans {n₀ n₁ : Nat} {A B C : World} (h : Kp n₀ n₁ A B) (k : Kp n₀ n₁ B C) : Kp n₀ n₁ A C := ⟨h.1.trans k.1, fun i c t f hi hc => k.2 i c t f hi (h.2 i c t f hi hc)⟩
theorem Kp.refl (n₀ n₁ : Nat) (W : World) : Kp n₀ n₁ W W := ⟨Below.refl _ _, fun _ _ _ _ _ h => h⟩
theorem Kp.alloc {n₀ n₁ : Nat} {A W : World} (h : Kp n₀ n₁ A W) (hn : n₀ ≤ W.heap.size) (o : Obj) : Kp n₀ n₁ A (W.alloc o) :=
  ⟨h.1.alloc hn o, fun i c t f hi hc => by
    have h2 := h.2 i c t f hi hc
    have hlt : i < W.heap.size := by
      rcases Nat.lt_or_ge i W.heap.size with h' | h'
      · exact h'
      · rw [Array.getElem?_eq_none h'] at h2; cases h2
    rw [Below.heap_alloc _ _ _ hlt]; exact h2⟩
theorem Kp.setCell {n₀ n₁ : Nat} {A W : World} (h : Kp n₀ n₁ A W) {p : Addr} (h0 : n₀ ≤ p.block) (h1 : p.block < n₁) (u : Value) : Kp n₀ n₁ A (W.setCell p u) :=
  ⟨h.1.setCell h0 u, fun i c t f hi hc => by rw [Below.heap_setCell _ _ _ _ (by omega)]; exact h.2 i c t f hi hc⟩
theorem Kp.drew {n₀ n₁ : Nat} {A W : World} (h : Kp n₀ n₁ A W) : Kp n₀ n₁ A W.drew := ⟨h.1.drew, h.2⟩
theorem Kp.book {n₀ n₁ : Nat} (h : n₀ ≤ n₁) (W : World) (l : Nat) (o o' : Obj) (hl : n₁ ≤ l) (ho : W.heap[l]? = some o) (hc : o.isCells = false) : Kp n₀ n₁ W (W.putObj l o') := by
  have hlt : l < W.heap.size := (Array.getElem?_eq_some_iff.1 ho).1
  refine ⟨(Below.refl n₀ W).grown (grownBy_putObj' W l o') (by omega) (fun k e => by cases e; omega), fun i c t f hi hcells => ?_⟩
  have hne : i ≠ l := by
    rintro rfl
    rw [ho] at hcells
    injection hcells with hcells
    subst hcells
    simp [Obj.isCells] at hc
  rw [World.putObj_heap_other hne]; exact hcells


theorem drewN_grown (w : World) (k : Nat) : w.grownBy (w.drewN k) none := ⟨rfl, rfl, rfl, Nat.le_refl _, fun _ _ _ => rfl⟩
theorem Kp.drewN {n₀ n₁ : Nat} {A W : World} (h : Kp n₀ n₁ A W) (k : Nat) : Kp n₀ n₁ A (W.drewN k) := ⟨h.1.trans ⟨rfl, rfl, rfl, Nat.le_refl _, fun _ _ => rfl⟩, h.2⟩
theorem Kp.blk {n₀ n₁ : Nat} {A B : World} (h : Kp n₀ n₁ A B) {g : Nat} {t : TypeId} {cs : Array Value} (hg : n₁ ≤ g) (hb : Blk A g t cs) : Blk B g t cs := h.2 g cs t (0, 0) hg hb

set_option maxHeartbeats 1000000 in
theorem chunk_in (F : Fence) (n : Nat) (h41 : F.fn 41) (hro : F.round = none) (a : Option Addr) (l c : Nat) (w : World) :
    CallsIn F n Try.prog 41 #[.slice a l c, .int .i64 136] w fun e w' => e = .returned (.func (.func 55) #[] #[.pointer (some ⟨w.heap.size, 0, none⟩), .pointer (some ⟨w.heap.size + 1, 0, none⟩)]) ∧
      w' = (w.alloc (.cells #[.slice a l c] 30)).alloc (.cells #[.int .i64 136] 3) := by
  refine callsIn_of_wp Try.func41 rfl h41 ?_ hro
  simp only [Try.ntmps41, List.size_toArray, List.length_cons, List.length_nil, Nat.reduceAdd, Nat.reduceSub, Array.replicate_succ, Array.replicate_zero, List.push_toArray, List.append_toArray, List.nil_append, List.cons_append]
  gi_wp2
  go_ret
  exact ⟨rfl, rfl⟩

theorem wrap_in {n : Int} (h : -9223372036854775808 ≤ n) (h2 : n ≤ 9223372036854775807) : IntKind.i64.wrap n = n := IntWalk.i64_in _ ⟨h, h2⟩

set_option maxRecDepth 100000 in
set_option maxHeartbeats 2000000 in
theorem chunk1_in (F : Fence) (n : Nat) (h55 : F.fn 55) (hro : F.round = none) (hn : 1 ≤ n) (l Bs Bn n₀ n₁ g cap q : Nat) (hcap : 136 * q ≤ cap) (hq : q ≤ 40) (hBs1 : n₁ ≤ Bs) (hBn1 : n₁ ≤ Bn)
    (J Jx : List Nat → World → Prop) (W : World) (hJ : AbidesFrom W.heap.size J)
    (hY : ∀ pre x W, x < q → J pre W → pre.length < q → YieldAt F (n - 1) Try.prog l #[.slice (some ⟨g, 136 * x, none⟩) 136 136] W fun e W' =>
      (e = .returned (.bool true) ∧ J (pre ++ [x]) W' ∧ Kp n₀ n₁ W W') ∨ (e = .returned (.bool false) ∧ Jx (pre ++ [x]) W'))
    (hBs : Blk W Bs 30 #[.slice (some ⟨g, 0, none⟩) (136 * q) cap]) (hBn : Blk W Bn 3 #[.int .i64 136]) (h0 : J [] W) :
    CallsIn F n Try.prog 55 #[.func (.yield l) #[] #[], .pointer (some ⟨Bs, 0, none⟩), .pointer (some ⟨Bn, 0, none⟩)] W fun e W' => (∃ v, e = .returned v) ∧
      ((∃ ys, ys = List.range q ∧ J ys W') ∨ (∃ pre, (∃ k, k ≤ q ∧ pre = List.range k) ∧ Jx pre W')) := by
  refine callsIn_of_wp Try.func55 rfl h55 ?_ hro
  simp only [Try.ntmps55, List.size_toArray, List.length_cons, List.length_nil, Nat.reduceAdd, Nat.reduceSub, Array.replicate_succ, Array.replicate_zero, List.push_toArray, List.append_toArray, List.nil_append, List.cons_append]
  gi_wp2
  gi_loopw [4] (fun i wr => ∃ k : Nat, k ≤ q ∧ i = .int .i64 ((136 * k : Nat) : Int) ∧ J (List.range k) wr ∧ Blk wr Bs 30 #[.slice (some ⟨g, 0, none⟩) (136 * q) cap] ∧ Blk wr Bn 3 #[.int .i64 136] ∧ W.heap.size ≤ wr.heap.size) (fun i _ => 136 * q - (intOf i).toNat)
  case atStart => exact ⟨0, Nat.zero_le _, rfl, h0, hBs, hBn, Nat.le_refl _⟩
  case round =>
    obtain ⟨k, hk, rfl, hJs, bs, bn, hsz⟩ := hrel
    have cs := bs.cell 0
    have cn := bn.cell 0
    by_cases hlt : k < q
    · obtain ⟨i, hi⟩ : ∃ i, i = 136 * k := ⟨_, rfl⟩
      obtain ⟨L, hL⟩ : ∃ L, L = 136 * q := ⟨_, rfl⟩
      rw [← hi]
      rw [← hL] at cs hcap bs
      have hiL : i + 136 ≤ L := by omega
      have hil : decide ((i : Int) < (L : Int)) = true := by simp; omega
      have hi1 : (i : Int) ≤ (L : Int) := by omega
      have hLb : L ≤ 6000 := by omega
      have HI := veil hi
      have HL := veil hL
      clear hi hL
      gi_wp2_with fail
      refine wpIn_region_q (by kernel_rfl) (by kernel_rfl) (by kernel_rfl) ?_
      repeat (apply qi_val; (intro _; rfl); rfl; (intro wq hC; obtain ⟨kq, rfl⟩ := hC; go_simp; exact rfl); simp only [Act.put, List.setIfInBounds_toArray, List.set_cons_zero, List.set_cons_succ])
      have hmin : (if ((L - i : Nat) : Int) < 136 then ((L - i : Nat) : Int) else 136) = 136 := by rw [if_neg (by omega)]
      rw [hmin]
      intro kq
      have bs' := bs.drewN kq
      have bn' := bn.drewN kq
      have hJ1 : J (List.range k) (wr.drewN kq) := hJ _ _ _ none hJs (drewN_grown wr kq) (by simp)
      obtain ⟨W1, hW1e⟩ : ∃ W1, W1 = wr.drewN kq := ⟨_, rfl⟩
      have hsz1 : W.heap.size ≤ W1.heap.size := by rw [hW1e]; exact hsz
      rw [← hW1e] at bs' bn' hJ1 ⊢
      clear hW1e bs bn hJs cs cn hmin
      have cs := bs'.cell 0
      have cn := bn'.cell 0
      obtain ⟨fn, tmps, assign, body, hy, hR⟩ := hY _ k _ hlt hJ1 (by simpa using hlt)
      rw [← HI.out] at hy
      have hii : (i : Int) + 136 ≤ (L : Int) := by omega
      have hic : (i : Int) + 136 ≤ (cap : Int) := by omega
      have hiB : (i : Int) + 136 ≤ 6000 := by omega
      have HR1 := veil (List.range_succ (n := k))
      gi_wp2_with fail
      refine hR.mono ?_
      rintro e W3 (⟨rfl, hJ3, hk3⟩ | ⟨rfl, hJx3⟩)
      · have bs3 := hk3.blk hBs1 bs'
        have bn3 := hk3.blk hBn1 bn'
        have cs := bs3.cell 0
        have cn := bn3.cell 0
        have hsz3 := hk3.1.size
        clear hk3 hR hy cs bs' bn'
        gi_wp2
        go_roundw
        case rel => exact ⟨k + 1, by omega, by rw [HI.out]; go_num, by rw [HR1.out]; exact hJ3, by rw [← HL.out]; exact bs3, bn3, by omega⟩
        case measure => simp [intOf]; have := HI.out; have := HL.out; omega
      · gi_wp2
        refine bodyPost_ret (results_none rfl _ _ _) rfl ?_
        exact ⟨⟨_, rfl⟩, .inr ⟨_, ⟨k + 1, by omega, by rw [HR1.out]⟩, hJx3⟩⟩
    · have : k = q := by omega
      subst this
      have hd : decide (((136 * k : Nat) : Int) < ((136 * k : Nat) : Int)) = false := by simp
      gi_wp2
      go_end0
      exact ⟨⟨_, rfl⟩, .inl ⟨_, rfl, hJs⟩⟩

abbrev Part (q : Nat) := { x : Nat // x < q }
abbrev encP (g : Nat) (x : Nat) : Array Value := #[.slice (some ⟨g, 136 * x, none⟩) 136 136]
/-- **Chunk(b, 136), ranged over: the blocks, in order.** -/
theorem chunk_stops (F : Fence) (n : Nat) (h55 : F.fn 55) (hro : F.round = none) (hn : 1 ≤ n) (Bs Bn n₀ n₁ g cap q : Nat) (hcap : 136 * q ≤ cap) (hq : q ≤ 40) (hBs1 : n₁ ≤ Bs) (hBn1 : n₁ ≤ Bn) (w : World)
    (hBs : Blk w Bs 30 #[.slice (some ⟨g, 0, none⟩) (136 * q) cap]) (hBn : Blk w Bn 3 #[.int .i64 136]) :
    SeqStopsK F n Try.prog 55 #[.pointer (some ⟨Bs, 0, none⟩), .pointer (some ⟨Bn, 0, none⟩)] (fun x : Part q => encP g x.1) (Kp n₀ n₁) (fun ys => ys.map (·.1) = List.range q) (fun _ => True) q w := fun l J Jx W hW hJ hJx hY h0 => by
  have bs := hBs.below hW hBs.lt
  have bn := hBn.below hW hBn.lt
  refine (chunk1_in F n h55 hro hn l Bs Bn n₀ n₁ g cap q hcap hq hBs1 hBn1 (fun pre W => ∃ p' : List (Part q), p'.map (·.1) = pre ∧ J p' W) (fun pre W => ∃ p' : List (Part q), p'.map (·.1) = pre ∧ Jx p' W) W ?_ ?_ bs bn ⟨[], rfl, h0⟩).mono ?_
  · rintro pre A B row ⟨p', hp, hj⟩ hg hr
    exact ⟨p', hp, hJ p' A B row hj hg hr⟩
  · rintro pre x W1 hx ⟨p', rfl, hj⟩ hlen
    refine (hY p' ⟨x, hx⟩ W1 hj (by simpa using hlen)).mono ?_
    rintro e W' (⟨he, hj', hk⟩ | ⟨he, hj'⟩)
    · exact .inl ⟨he, ⟨_, by simp, hj'⟩, hk⟩
    · exact .inr ⟨he, ⟨_, by simp, hj'⟩⟩
  · rintro e W' ⟨he, ⟨ys, rfl, p', hp, hj⟩ | ⟨pre, _, p', hp, hj⟩⟩
    · exact ⟨he, .inl ⟨p', hp, hj⟩⟩
    · exact ⟨he, .inr ⟨p', trivial, hj⟩⟩

end Go.Proofs.Ytfohblhaiflaeaa
