/- tick.held, tick.Add, tick.counts: what they come to. -/
import Derived.Test.YtjjljeepiehpaaaProg
import Derived.Test.YtjjljeepiehpaaaWords
import Derived.RangeFuncNested
import Derived.RangeFuncBound
import Derived.RangeFuncCalls
import Derived.RangeFuncLeaves
import Derived.RangeFuncFrom
import Derived.Shelf.Abstract
import Derived.Shelf.RegionOpen
import Derived.WalkKit
import Derived.OwnWalkIn
import Derived.TacticsInMore
import Derived.LoopNIn
import Derived.LoopIn
import Derived.IntWalk
namespace Go.Proofs.Ytjjljeepiehpaaa
open Go.RowKit Go.Shelf
attribute [local go_sem] Oper.semAt_some

/-- the slots that a slice holds: whose, how long -/
def Slots (n₀ : Nat) (W : World) (sv : Value) (ss : List (Int × Int)) : Prop :=
  (∃ a cap, sv = .slice a 0 cap ∧ ss = []) ∨ ∃ b off cap, sv = .slice (some ⟨b, off, none⟩) ss.length cap ∧ ss.length ≤ cap ∧ b < n₀ ∧
    ∀ j, j < ss.length → W.cell? ⟨b, off + j * 2, none⟩ = some (.int .i64 (ss[j]?.getD (0, 0)).1) ∧ W.cell? ⟨b, off + j * 2 + 1, none⟩ = some (.int .i64 (ss[j]?.getD (0, 0)).2)
theorem Slots.below {n₀ : Nat} {A B : World} (h : Below n₀ A B) {sv : Value} {ss : List (Int × Int)} : Slots n₀ A sv ss → Slots n₀ B sv ss
  | .inl e => .inl e
  | .inr ⟨b, off, cap, e, hc, hb, hs⟩ => .inr ⟨b, off, cap, e, hc, hb, fun j hj => ⟨(h.cell (p := ⟨b, off + j * 2, none⟩) hb).trans (hs j hj).1, (h.cell (p := ⟨b, off + j * 2 + 1, none⟩) hb).trans (hs j hj).2⟩⟩
theorem Slots.mono {n₀ n₁ : Nat} {A : World} (h : n₀ ≤ n₁) {sv : Value} {ss : List (Int × Int)} : Slots n₀ A sv ss → Slots n₁ A sv ss
  | .inl e => .inl e
  | .inr ⟨b, off, cap, e, hc, hb, hs⟩ => .inr ⟨b, off, cap, e, hc, by omega, hs⟩

/-- what a round of a loop's body keeps: all below n₀, and every row that was laid from n₁ on -/
def Kp (n₀ n₁ : Nat) (W W' : World) : Prop := Below n₀ W W' ∧ ∀ k c t f, n₁ ≤ k → W.heap[k]? = some (.cells c t f) → W'.heap[k]? = some (.cells c t f)
theorem Kp.trans {n₀ n₁ : Nat} {A B C : World} (h : Kp n₀ n₁ A B) (k : Kp n₀ n₁ B C) : Kp n₀ n₁ A C := ⟨h.1.trans k.1, fun i c t f hi hc => k.2 i c t f hi (h.2 i c t f hi hc)⟩
theorem Kp.refl (n₀ n₁ : Nat) (W : World) : Kp n₀ n₁ W W := ⟨Below.refl _ _, fun _ _ _ _ _ h => h⟩
theorem Kp.alloc {n₀ n₁ : Nat} {A W : World} (h : Kp n₀ n₁ A W) (hn : n₀ ≤ W.heap.size) (o : Obj) : Kp n₀ n₁ A (W.alloc o) :=
  ⟨h.1.alloc hn o, fun i c t f hi hc => by
    have h2 := h.2 i c t f hi hc
    have hlt : i < W.heap.size := by
      rcases Nat.lt_or_ge i W.heap.size with h' | h'
      · exact h'
      · rw [Array.getElem?_eq_none h'] at h2; cases h2
    rw [Below.heap_alloc _ _ _ hlt]; exact h2⟩
theorem Kp.setCell {n₀ n₁ : Nat} {A W : World} (h : Kp n₀ n₁ A W) {p : Addr} (h0 : n₀ ≤ p.block) (h1 : p.block < n₁) (u : Value) : Kp n₀ n₁ A (W.setCell p u) :=
  ⟨h.1.setCell h0 u, fun i c t f hi hc => by rw [Below.heap_setCell _ _ _ _ (by omega)]; exact h.2 i c t f hi hc⟩
theorem Kp.drew {n₀ n₁ : Nat} {A W : World} (h : Kp n₀ n₁ A W) : Kp n₀ n₁ A W.drew := ⟨h.1.drew, h.2⟩
theorem Kp.book {n₀ n₁ : Nat} (h : n₀ ≤ n₁) (W : World) (l : Nat) (o o' : Obj) (hl : n₁ ≤ l) (ho : W.heap[l]? = some o) (hc : o.isCells = false) : Kp n₀ n₁ W (W.putObj l o') := by
  have hlt : l < W.heap.size := (Array.getElem?_eq_some_iff.1 ho).1
  refine ⟨(Below.refl n₀ W).grown (grownBy_putObj' W l o') (by omega) (fun k e => by cases e; omega), fun i c t f hi hcells => ?_⟩
  have hne : i ≠ l := by
    rintro rfl
    rw [ho] at hcells
    injection hcells with hcells
    subst hcells
    simp [Obj.isCells] at hc
  rw [World.putObj_heap_other hne]; exact hcells

/-- how long slot k is -/
def slen (ss : List (Int × Int)) (k : Nat) : Int := (ss[k]?.getD (0, 0)).2
def sdom (ss : List (Int × Int)) (k : Nat) : Int := (ss[k]?.getD (0, 0)).1
/-- does slot k count, by its length? -/
def okLen (n : Int) : Bool := decide (1 ≤ n ∧ n ≤ 16)
/-- the slots that count among the first k, each with its place and the tick at which it begins -/
def fromTo (ss : List (Int × Int)) : Nat → Int
  | 0 => 0
  | k + 1 => if okLen (slen ss k) then fromTo ss k + slen ss k else fromTo ss k
def seqTo (ss : List (Int × Int)) : Nat → List (Nat × Int)
  | 0 => []
  | k + 1 => if okLen (slen ss k) then seqTo ss k ++ [(k, fromTo ss k)] else seqTo ss k
theorem fromTo_bd (ss : List (Int × Int)) : ∀ k, 0 ≤ fromTo ss k ∧ fromTo ss k ≤ 16 * k
  | 0 => by simp [fromTo]
  | k + 1 => by
    have h := fromTo_bd ss k
    unfold fromTo
    split
    · rename_i h2
      have h3 : 1 ≤ slen ss k ∧ slen ss k ≤ 16 := by simpa [okLen] using h2
      omega
    · omega
theorem fromTo_yes (ss : List (Int × Int)) (k : Nat) (h : 1 ≤ slen ss k) (h2 : slen ss k ≤ 16) : fromTo ss (k + 1) = fromTo ss k + slen ss k := by
  rw [fromTo, if_pos (by simp [okLen, h, h2])]
theorem fromTo_no (ss : List (Int × Int)) (k : Nat) (h : slen ss k < 1 ∨ 16 < slen ss k) : fromTo ss (k + 1) = fromTo ss k := by
  rw [fromTo, if_neg (by simp only [okLen, decide_eq_true_eq]; omega)]
theorem seqTo_yes (ss : List (Int × Int)) (k : Nat) (h : 1 ≤ slen ss k) (h2 : slen ss k ≤ 16) : seqTo ss (k + 1) = seqTo ss k ++ [(k, fromTo ss k)] := by
  rw [seqTo, if_pos (by simp [okLen, h, h2])]
theorem seqTo_no (ss : List (Int × Int)) (k : Nat) (h : slen ss k < 1 ∨ 16 < slen ss k) : seqTo ss (k + 1) = seqTo ss k := by
  rw [seqTo, if_neg (by simp only [okLen, decide_eq_true_eq]; omega)]
theorem seqTo_len (ss : List (Int × Int)) : ∀ k, (seqTo ss k).length ≤ k
  | 0 => by simp [seqTo]
  | k + 1 => by
    have := seqTo_len ss k
    unfold seqTo
    split
    · simp; omega
    · omega
/-- how many slots are looked at -/
def cntN (ss : List (Int × Int)) : Nat := min ss.length 16
/-- what the body of a loop may know of what it is handed -/
def Good (ss : List (Int × Int)) (x : Nat × Int) : Prop := x.1 < cntN ss ∧ x.2 = fromTo ss x.1 ∧ 1 ≤ slen ss x.1 ∧ slen ss x.1 ≤ 16
abbrev Item (ss : List (Int × Int)) := { x : Nat × Int // Good ss x }
theorem seqTo_good (ss : List (Int × Int)) : ∀ k, k ≤ cntN ss → ∀ x ∈ seqTo ss k, Good ss x
  | 0, _, x, h => by simp [seqTo] at h
  | k + 1, hk, x, h => by
    unfold seqTo at h
    split at h
    · rename_i ho
      have ho' : 1 ≤ slen ss k ∧ slen ss k ≤ 16 := by simpa [okLen] using ho
      rcases List.mem_append.1 h with h | h
      · exact seqTo_good ss k (by omega) x h
      · simp only [List.mem_singleton] at h
        subst h
        exact ⟨by show k < _; omega, rfl, ho'.1, ho'.2⟩
    · exact seqTo_good ss k (by omega) x h

theorem ret_int {k : IntKind} {a b : Int} (h : a = b) : Ending.returned (.int k a) = .returned (.int k b) := by rw [h]

def heldF (t : Int) : Int := max 0 (min t 4611686018427387904)
theorem heldF_bd (t : Int) : 0 ≤ heldF t ∧ heldF t ≤ 4611686018427387904 := by unfold heldF; omega

theorem held_any (t : Int) (w : World) : Calls Try.prog 47 #[.int .i64 t] w fun e w' => e = .returned (.int .i64 (heldF t)) ∧ w = w' := by
  have hcase : t < 0 ∨ (0 ≤ t ∧ t ≤ 4611686018427387904) ∨ 4611686018427387904 < t := by omega
  have hf : heldF t = if t < 0 then 0 else if 4611686018427387904 < t then 4611686018427387904 else t := by unfold heldF; omega
  have HF := veil hf
  clear hf
  rcases hcase with h | ⟨h, h2⟩ | h
  all_goals
    go_enter Try.func47, Try.ntmps47
    go_wp2
    all_goals
      go_ret
      refine ⟨ret_int ?_, rfl⟩
      rw [HF.out]
      omega

theorem counts_in (F : Fence) (n : Nat) (h46 : F.fn 46) (hro : F.round = none) (a : Option Addr) (len cap : Nat) (w : World) :
    CallsIn F n Try.prog 46 #[.slice a len cap] w fun e w' => e = .returned (.func (.func 56) #[] #[.pointer (some ⟨w.heap.size, 0, none⟩)]) ∧ w' = w.alloc (.cells #[.slice a len cap] 38) := by
  refine callsIn_of_wp Try.func46 rfl h46 ?_ hro
  simp only [Try.ntmps46, List.size_toArray, List.length_cons, List.length_nil, Nat.reduceAdd, Nat.reduceSub, Array.replicate_succ, Array.replicate_zero, List.push_toArray, List.append_toArray, List.nil_append, List.cons_append]
  gi_wp2
  go_ret
  exact ⟨rfl, rfl⟩

set_option maxRecDepth 100000 in
set_option maxHeartbeats 2000000 in
theorem counts1_in (F : Fence) (n : Nat) (h56 : F.fn 56) (hro : F.round = none) (hn : 1 ≤ n) (l Bs n₀ n₁ b off cap : Nat) (ss : List (Int × Int)) (hcap : ss.length ≤ cap) (hreach : ss.length * 16 ≤ 140737488351232) (hb : b < n₀)
    (J Jx : List (Nat × Int) → World → Prop) (W : World) (hJ : AbidesFrom W.heap.size J) (hW0 : n₀ ≤ W.heap.size) (hW1 : n₁ ≤ W.heap.size)
    (hY : ∀ pre x W, Good ss x → J pre W → pre.length < 16 → YieldAt F (n - 1) Try.prog l #[.int .i64 (x.1 : Int), .int .i64 x.2] W fun e W' =>
      (e = .returned (.bool true) ∧ J (pre ++ [x]) W' ∧ Kp n₀ n₁ W W') ∨ (e = .returned (.bool false) ∧ Jx (pre ++ [x]) W'))
    (hBs : W.cell? ⟨Bs, 0, none⟩ = some (.slice (some ⟨b, off, none⟩) ss.length cap))
    (hc : ∀ j, j < ss.length → W.cell? ⟨b, off + j * 2, none⟩ = some (.int .i64 (sdom ss j)) ∧ W.cell? ⟨b, off + j * 2 + 1, none⟩ = some (.int .i64 (slen ss j))) (h0 : J [] W) :
    CallsIn F n Try.prog 56 #[.func (.yield l) #[] #[], .pointer (some ⟨Bs, 0, none⟩)] W fun e W' => (∃ v, e = .returned v) ∧
      ((∃ ys, ys = seqTo ss (cntN ss) ∧ J ys W') ∨ (∃ pre, (∃ k, k ≤ cntN ss ∧ pre = seqTo ss k) ∧ Jx pre W')) := by
  refine callsIn_of_wp Try.func56 rfl h56 ?_ hro
  simp only [Try.ntmps56, List.size_toArray, List.length_cons, List.length_nil, Nat.reduceAdd, Nat.reduceSub, Array.replicate_succ, Array.replicate_zero, List.push_toArray, List.append_toArray, List.nil_append, List.cons_append]
  by_cases h16 : 16 < ss.length
  · have hm : cntN ss = 16 := by unfold cntN; omega
    have hi16 : (16 : Int) < (ss.length : Int) := by omega
    gi_wp2
    gi_loopw [3, 12] (fun f i wr => ∃ k : Nat, k ≤ cntN ss ∧ i = .int .i64 k ∧ f = .int .i64 (fromTo ss k) ∧ J (seqTo ss k) wr ∧ Below n₀ W wr) (fun _ i _ => cntN ss - (intOf i).toNat)
    case atStart => exact ⟨0, Nat.zero_le _, rfl, rfl, h0, Below.refl _ _⟩
    case round =>
      obtain ⟨k, hk, rfl, rfl, hJs, hnx⟩ := hrel
      by_cases hlt : k < cntN ss
      · have hk1 : (k : Int) < (ss.length : Int) := by unfold cntN at hlt; omega
        have hk2 : (k : Int) < 16 := by unfold cntN at hlt; omega
        have hb1 := fromTo_bd ss k
        obtain ⟨hcd, hcl⟩ := hc k (by omega)
        have hcd' : wr.cell? ⟨b, off + k * 2, none⟩ = some (.int .i64 (sdom ss k)) := (hnx.cell (p := ⟨b, off + k * 2, none⟩) hb).trans hcd
        have hcl' : wr.cell? ⟨b, off + k * 2 + 1, none⟩ = some (.int .i64 (slen ss k)) := (hnx.cell (p := ⟨b, off + k * 2 + 1, none⟩) hb).trans hcl
        have hsz := hnx.size
        have HM := veil hm
        clear hm hcd hcl
        by_cases hok : 1 ≤ slen ss k ∧ slen ss k ≤ 16
        · obtain ⟨ho1, ho2⟩ := hok
          have hJ1 : J (seqTo ss k) (wr.alloc (.cells #[.int .i64 (sdom ss k), .int .i64 (slen ss k)] 49)) := hJ _ _ _ none hJs (World.grownBy_alloc _ _ none) (by simp)
          obtain ⟨fn, tmps, assign, body, hy, hR⟩ := hY _ (k, fromTo ss k) _ ⟨hlt, rfl, ho1, ho2⟩ hJ1 (by have := seqTo_len ss k; omega)
          dsimp only at hy
          have H1 := veil (fromTo_yes ss k ho1 ho2)
          have H2 := veil (seqTo_yes ss k ho1 ho2)
          gi_wp2
          refine hR.mono ?_
          rintro e W3 (⟨rfl, hJ3, hk3⟩ | ⟨rfl, hJx3⟩)
          · have hbx : Blk W3 wr.heap.size 49 #[.int .i64 (sdom ss k), .int .i64 (slen ss k)] := hk3.2 _ _ _ _ (by omega) (Blk.new _ _ _)
            have hcx : W3.cell? ⟨wr.heap.size, 1, none⟩ = some (.int .i64 (slen ss k)) := hbx.cell 1
            have hnx' : Below n₀ W W3 := (hnx.alloc (by omega) _).trans hk3.1
            clear hk3 hR hy hbx
            gi_wp2
            go_roundw
            case rel => exact ⟨k + 1, by omega, by go_num, by rw [H1.out], by rw [H2.out]; exact hJ3, hnx'⟩
            case measure => simp [intOf]; omega
          · gi_wp2
            refine bodyPost_ret (results_none rfl _ _ _) rfl ?_
            exact ⟨⟨_, rfl⟩, .inr ⟨_, ⟨k + 1, by omega, by rw [H2.out]⟩, hJx3⟩⟩
        · have hJ1 : J (seqTo ss k) (wr.alloc (.cells #[.int .i64 (sdom ss k), .int .i64 (slen ss k)] 49)) := hJ _ _ _ none hJs (World.grownBy_alloc _ _ none) (by simp)
          have hno : slen ss k < 1 ∨ 16 < slen ss k := by omega
          have H1 := veil (fromTo_no ss k hno)
          have H2 := veil (seqTo_no ss k hno)
          have hnx' : Below n₀ W (wr.alloc (.cells #[.int .i64 (sdom ss k), .int .i64 (slen ss k)] 49)) := hnx.alloc (by omega) _
          clear hok
          rcases hno with hno | hno
          all_goals
            gi_wp2
            go_roundw
            case rel => exact ⟨k + 1, by omega, by go_num, by rw [H1.out], by rw [H2.out]; exact hJ1, hnx'⟩
            case measure => simp [intOf]; omega
      · have hk' : k = cntN ss := by omega
        have hkm : k = 16 := by omega
        have hd : decide ((k : Int) < (16 : Int)) = false := by simp; omega
        have HK := veil hk'
        clear hk' hkm hlt hk hm
        gi_wp2
        go_end0
        exact ⟨⟨_, rfl⟩, .inl ⟨_, by rw [← HK.out], hJs⟩⟩
  · have hm : cntN ss = ss.length := by unfold cntN; omega
    have hi16 : (ss.length : Int) ≤ 16 := by omega
    gi_wp2
    gi_loopw [3, 12] (fun f i wr => ∃ k : Nat, k ≤ cntN ss ∧ i = .int .i64 k ∧ f = .int .i64 (fromTo ss k) ∧ J (seqTo ss k) wr ∧ Below n₀ W wr) (fun _ i _ => cntN ss - (intOf i).toNat)
    case atStart => exact ⟨0, Nat.zero_le _, rfl, rfl, h0, Below.refl _ _⟩
    case round =>
      obtain ⟨k, hk, rfl, rfl, hJs, hnx⟩ := hrel
      by_cases hlt : k < cntN ss
      · have hk1 : (k : Int) < (ss.length : Int) := by unfold cntN at hlt; omega
        have hk2 : (k : Int) < 16 := by unfold cntN at hlt; omega
        have hb1 := fromTo_bd ss k
        obtain ⟨hcd, hcl⟩ := hc k (by omega)
        have hcd' : wr.cell? ⟨b, off + k * 2, none⟩ = some (.int .i64 (sdom ss k)) := (hnx.cell (p := ⟨b, off + k * 2, none⟩) hb).trans hcd
        have hcl' : wr.cell? ⟨b, off + k * 2 + 1, none⟩ = some (.int .i64 (slen ss k)) := (hnx.cell (p := ⟨b, off + k * 2 + 1, none⟩) hb).trans hcl
        have hsz := hnx.size
        have HM := veil hm
        clear hm hcd hcl
        by_cases hok : 1 ≤ slen ss k ∧ slen ss k ≤ 16
        · obtain ⟨ho1, ho2⟩ := hok
          have hJ1 : J (seqTo ss k) (wr.alloc (.cells #[.int .i64 (sdom ss k), .int .i64 (slen ss k)] 49)) := hJ _ _ _ none hJs (World.grownBy_alloc _ _ none) (by simp)
          obtain ⟨fn, tmps, assign, body, hy, hR⟩ := hY _ (k, fromTo ss k) _ ⟨hlt, rfl, ho1, ho2⟩ hJ1 (by have := seqTo_len ss k; omega)
          dsimp only at hy
          have H1 := veil (fromTo_yes ss k ho1 ho2)
          have H2 := veil (seqTo_yes ss k ho1 ho2)
          gi_wp2
          refine hR.mono ?_
          rintro e W3 (⟨rfl, hJ3, hk3⟩ | ⟨rfl, hJx3⟩)
          · have hbx : Blk W3 wr.heap.size 49 #[.int .i64 (sdom ss k), .int .i64 (slen ss k)] := hk3.2 _ _ _ _ (by omega) (Blk.new _ _ _)
            have hcx : W3.cell? ⟨wr.heap.size, 1, none⟩ = some (.int .i64 (slen ss k)) := hbx.cell 1
            have hnx' : Below n₀ W W3 := (hnx.alloc (by omega) _).trans hk3.1
            clear hk3 hR hy hbx
            gi_wp2
            go_roundw
            case rel => exact ⟨k + 1, by omega, by go_num, by rw [H1.out], by rw [H2.out]; exact hJ3, hnx'⟩
            case measure => simp [intOf]; omega
          · gi_wp2
            refine bodyPost_ret (results_none rfl _ _ _) rfl ?_
            exact ⟨⟨_, rfl⟩, .inr ⟨_, ⟨k + 1, by omega, by rw [H2.out]⟩, hJx3⟩⟩
        · have hJ1 : J (seqTo ss k) (wr.alloc (.cells #[.int .i64 (sdom ss k), .int .i64 (slen ss k)] 49)) := hJ _ _ _ none hJs (World.grownBy_alloc _ _ none) (by simp)
          have hno : slen ss k < 1 ∨ 16 < slen ss k := by omega
          have H1 := veil (fromTo_no ss k hno)
          have H2 := veil (seqTo_no ss k hno)
          have hnx' : Below n₀ W (wr.alloc (.cells #[.int .i64 (sdom ss k), .int .i64 (slen ss k)] 49)) := hnx.alloc (by omega) _
          clear hok
          rcases hno with hno | hno
          all_goals
            gi_wp2
            go_roundw
            case rel => exact ⟨k + 1, by omega, by go_num, by rw [H1.out], by rw [H2.out]; exact hJ1, hnx'⟩
            case measure => simp [intOf]; omega
      · have hk' : k = cntN ss := by omega
        have hkm : k = ss.length := by omega
        have hd : decide (k < ss.length) = false := by simp; omega
        have HK := veil hk'
        clear hk' hkm hlt hk hm
        gi_wp2
        go_end0
        exact ⟨⟨_, rfl⟩, .inl ⟨_, by rw [← HK.out], hJs⟩⟩

set_option maxRecDepth 100000 in
set_option maxHeartbeats 1000000 in
theorem counts1_nil_in (F : Fence) (n : Nat) (h56 : F.fn 56) (hro : F.round = none) (l Bs : Nat) (J : List (Nat × Int) → World → Prop) (W : World) (a : Option Addr) (cap : Nat) (hBs : W.cell? ⟨Bs, 0, none⟩ = some (.slice a 0 cap)) (h0 : J [] W) :
    CallsIn F n Try.prog 56 #[.func (.yield l) #[] #[], .pointer (some ⟨Bs, 0, none⟩)] W fun e W' => (∃ v, e = .returned v) ∧ J [] W' := by
  refine callsIn_of_wp Try.func56 rfl h56 ?_ hro
  simp only [Try.ntmps56, List.size_toArray, List.length_cons, List.length_nil, Nat.reduceAdd, Nat.reduceSub, Array.replicate_succ, Array.replicate_zero, List.push_toArray, List.append_toArray, List.nil_append, List.cons_append]
  cases a
  all_goals
    gi_wp2
    gi_loopw [3, 12] (fun f i wr => i = .int .i64 0 ∧ f = .int .i64 0 ∧ J [] wr) (fun _ _ _ => 0)
    case atStart => exact ⟨rfl, rfl, h0⟩
    case round =>
      obtain ⟨rfl, rfl, hJs⟩ := hrel
      gi_wp2
      go_end0
      exact ⟨⟨_, rfl⟩, hJs⟩

abbrev encI (x : Nat × Int) : Array Value := #[.int .i64 (x.1 : Int), .int .i64 x.2]

/-- the list of the items, each with what is known of it -/
theorem items_of (ss : List (Int × Int)) : ∀ l : List (Nat × Int), (∀ x ∈ l, Good ss x) → ∃ l' : List (Item ss), l'.map (·.1) = l
  | [], _ => ⟨[], rfl⟩
  | x :: l, h => by
    obtain ⟨l', hl⟩ := items_of ss l (fun y hy => h y (List.mem_cons_of_mem _ hy))
    exact ⟨⟨x, h x (List.mem_cons_self)⟩ :: l', by simp [hl]⟩
/-- **counts(list), ranged over: the slots that count, in order, each with its place and its beginning.** -/
theorem counts_stops (F : Fence) (n : Nat) (h56 : F.fn 56) (hro : F.round = none) (hn : 1 ≤ n) (Bs n₀ n₁ : Nat) (sv : Value) (ss : List (Int × Int)) (hreach : ss.length * 16 ≤ 140737488351232) (w : World) (hBs : Bs < w.heap.size) (hn₀ : n₀ ≤ w.heap.size) (hn₁ : n₁ ≤ w.heap.size)
    (hc : w.cell? ⟨Bs, 0, none⟩ = some sv) (hI : Slots n₀ w sv ss) :
    SeqStopsK F n Try.prog 56 #[.pointer (some ⟨Bs, 0, none⟩)] (fun x : Item ss => encI x.1) (Kp n₀ n₁) (fun ys => ys.map (·.1) = seqTo ss (cntN ss)) (fun _ => True) 16 w := fun l J Jx W hW hJ hJx hY h0 => by
  have hc' := (hW.cell (p := ⟨Bs, 0, none⟩) hBs).trans hc
  have hsz := hW.size
  rcases hI.below (hW.mono hn₀) with ⟨a0, cap0, rfl, rfl⟩ | ⟨b, off, cap, rfl, hcap, hb, hcs⟩
  · exact (counts1_nil_in F n h56 hro l Bs (fun pre W => ∃ p' : List (Item []), p'.map (·.1) = pre ∧ J p' W) W a0 cap0 hc' ⟨[], rfl, h0⟩).mono fun e W' ⟨he, p', hp, hj⟩ => ⟨he, .inl ⟨p', by show p'.map (·.1) = _; rw [hp]; rfl, hj⟩⟩
  · refine (counts1_in F n h56 hro hn l Bs n₀ n₁ b off cap ss hcap hreach hb (fun pre W => ∃ p' : List (Item ss), p'.map (·.1) = pre ∧ J p' W) (fun pre W => ∃ p' : List (Item ss), p'.map (·.1) = pre ∧ Jx p' W) W ?_ (by omega) (by omega) ?_ hc' hcs ⟨[], rfl, h0⟩).mono ?_
    · rintro pre A B row ⟨p', hp, hj⟩ hg hr
      exact ⟨p', hp, hJ p' A B row hj hg hr⟩
    · rintro pre x W1 hx ⟨p', rfl, hj⟩ hlen
      refine (hY p' ⟨x, hx⟩ W1 hj (by simpa using hlen)).mono ?_
      rintro e W' (⟨he, hj', hk⟩ | ⟨he, hj'⟩)
      · exact .inl ⟨he, ⟨_, by simp, hj'⟩, hk⟩
      · exact .inr ⟨he, ⟨_, by simp, hj'⟩⟩
    · rintro e W' ⟨he, ⟨ys, rfl, p', hp, hj⟩ | ⟨pre, _, p', hp, hj⟩⟩
      · exact ⟨he, .inl ⟨p', hp, hj⟩⟩
      · exact ⟨he, .inr ⟨p', trivial, hj⟩⟩

end Go.Proofs.Ytjjljeepiehpaaa
