/- tick.Cycle: what it comes to. -/
import Derived.Test.YtjjljeepiehpaaaTa
namespace Go.Proofs.Ytjjljeepiehpaaa
open Go.RowKit Go.Shelf
attribute [local go_sem] Oper.semAt_some

theorem Blk.own {W W' : World} {row : Option Nat} {g : Nat} {t : TypeId} {cs : Array Value} (h : Blk W g t cs) (hg : W.grownBy W' row) (hr : ∀ r, row = some r → ∃ o : Obj, W.heap[r]? = some o ∧ o.isCells = false) : Blk W' g t cs :=
  h.grown hg (fun e => by
    obtain ⟨o, ho, hc⟩ := hr g e.symm
    unfold Blk at h
    rw [h] at ho
    injection ho with ho
    subst ho
    simp [Obj.isCells] at hc)

/-- where the last one ends -/
def endOf (ss : List (Int × Int)) (pre : List (Nat × Int)) : Int := match pre.getLast? with | none => 0 | some x => x.2 + slen ss x.1
theorem endOf_snoc (ss : List (Int × Int)) (pre : List (Nat × Int)) (x : Nat × Int) : endOf ss (pre ++ [x]) = x.2 + slen ss x.1 := by simp [endOf]
theorem endOf_seq (ss : List (Int × Int)) : ∀ k, endOf ss (seqTo ss k) = fromTo ss k
  | 0 => rfl
  | k + 1 => by
    by_cases h : okLen (slen ss k) = true
    · rw [seqTo, if_pos h, fromTo, if_pos h, endOf_snoc]
    · rw [seqTo, if_neg h, fromTo, if_neg h]; exact endOf_seq ss k
/-- how long a cycle is -/
def cycF (ss : List (Int × Int)) : Int := fromTo ss (cntN ss)

theorem heap_a1_0 (w : World) (A : Obj) : (w.alloc A).heap[w.heap.size]? = some A := heap_alloc_new w A
theorem heap_a2_0 (w : World) (A B : Obj) : ((w.alloc A).alloc B).heap[w.heap.size]? = some A := heap_alloc2_old w A B
theorem heap_a2_1 (w : World) (A B : Obj) : ((w.alloc A).alloc B).heap[w.heap.size + 1]? = some B := heap_alloc2_new w A B
theorem heap_a3_0 (w : World) (A B C : Obj) : (((w.alloc A).alloc B).alloc C).heap[w.heap.size]? = some A := by
  rw [Below.heap_alloc _ _ _ (by simp; omega)]; exact heap_alloc2_old w A B
theorem heap_a3_1 (w : World) (A B C : Obj) : (((w.alloc A).alloc B).alloc C).heap[w.heap.size + 1]? = some B := by
  rw [Below.heap_alloc _ _ _ (by simp)]; exact heap_alloc2_new w A B
theorem heap_a3_2 (w : World) (A B C : Obj) : (((w.alloc A).alloc B).alloc C).heap[w.heap.size + 2]? = some C := by
  have h := heap_alloc_new ((w.alloc A).alloc B) C
  simpa using h

set_option maxRecDepth 100000 in
set_option maxHeartbeats 2000000 in
theorem cycle_in (F : Fence) (n : Nat) (h27 : F.fn 27) (h46 : F.fn 46) (h56 : F.fn 56) (hro : F.round = none) (hn : 3 ≤ n) (a : Option Addr) (len cap : Nat) (ss : List (Int × Int)) (hreach : ss.length * 16 ≤ 140737488351232) (w : World)
    (hI : Slots w.heap.size w (.slice a len cap) ss) :
    CallsIn F n Try.prog 27 #[.slice a len cap] w fun e W' => e = .returned (.int .i64 (cycF ss)) ∧ Below w.heap.size w W' := by
  have h1 : 1 ≤ n := by omega
  refine callsIn_of_wp_marks Try.func27 rfl h27 ?_ hro
  simp only [Try.ntmps27, List.size_toArray, List.length_cons, List.length_nil, Nat.reduceAdd, Nat.reduceSub, Array.replicate_succ, Array.replicate_zero, List.push_toArray, List.append_toArray, List.nil_append, List.cons_append]
  gi_wp2_with (gi_at_call 46; refine (counts_in F (n - 1) h46 hro _ _ _ _).mono ?_; rintro e w' ⟨rfl, rfl⟩)
  have b0 : Blk (((w.alloc (.cells #[.slice a len cap] 38)).alloc (.cells #[.int .i64 0] 3)).alloc (.cells #[.slice a len cap] 38)) w.heap.size 38 #[.slice a len cap] := heap_a3_0 _ _ _ _
  have b1 : Blk (((w.alloc (.cells #[.slice a len cap] 38)).alloc (.cells #[.int .i64 0] 3)).alloc (.cells #[.slice a len cap] 38)) (w.heap.size + 1) 3 #[.int .i64 0] := heap_a3_1 _ _ _ _
  have b2 : Blk (((w.alloc (.cells #[.slice a len cap] 38)).alloc (.cells #[.int .i64 0] 3)).alloc (.cells #[.slice a len cap] 38)) (w.heap.size + 1 + 1) 38 #[.slice a len cap] := heap_a3_2 _ _ _ _
  have hB0 : Below w.heap.size w (((w.alloc (.cells #[.slice a len cap] 38)).alloc (.cells #[.int .i64 0] 3)).alloc (.cells #[.slice a len cap] 38)) := (((Below.refl _ w).alloc (Nat.le_refl _) _).alloc (by simp) _).alloc (by simp; omega) _
  have hs2 : (((w.alloc (.cells #[.slice a len cap] 38)).alloc (.cells #[.int .i64 0] 3)).alloc (.cells #[.slice a len cap] 38)).heap.size = w.heap.size + 3 := by simp
  refine wpIn_rangeFunc_ownF hro h1 (gf := 56) (lb := #[.pointer (some ⟨w.heap.size + 1 + 1, 0, none⟩)]) rfl h56 (enters_of Try.func56 (by kernel_rfl) rfl)
    (counts_stops F (n - 1) h56 hro (by omega) (w.heap.size + 1 + 1) w.heap.size (w.heap.size + 3) (.slice a len cap) ss hreach _ (by omega) (by omega) (by omega) (b2.cell 0) (hI.below hB0)) Kp.trans
    (fun W l o o' hl ho hc _ => Kp.book (by omega) W l o o' (by omega) ho hc) (Below.refl _ _) (fun _ => rfl)
    (fun pre W => (Blk W w.heap.size 38 #[.slice a len cap] ∧ Blk W (w.heap.size + 1) 3 #[.int .i64 (endOf ss (pre.map (·.1)))]) ∧ Below w.heap.size w W)
    (fun _ _ _ => False)
    (OwnFrom.and (Own.from (fun s A B row hs hg hr => ⟨Blk.own hs.1 hg hr, Blk.own hs.2 hg hr⟩) _) (ownFrom_below (Nat.le_refl _) (by omega)))
    (fun _ _ _ _ _ hs _ _ => hs)
    ⟨⟨b0, b1⟩, hB0⟩
    (fun x => { tmps := #[.slice a len cap, .pointer (some ⟨w.heap.size, 0, none⟩), .int .i64 0, .pointer (some ⟨w.heap.size + 1, 0, none⟩), .int .i64 (x.1.1 : Int), .int .i64 x.1.2, .slice a len cap, .func (.func 56) #[] #[.pointer (some ⟨w.heap.size + 1 + 1, 0, none⟩)], .int .i64 (x.1.1 : Int), .int .i64 x.1.2, undef, undef, undef, undef, undef, undef, undef, undef], defers := [] }) ?assign ?body ?done ?stop
  case assign =>
    intro l x W K hK
    gi_wp2
    exact hK
  case body =>
    rintro l pre x W ⟨⟨hc0, hc1⟩, hB⟩ _
    have hk16 : x.1.1 < 16 ∧ x.1.1 < ss.length := by have := x.2.1; unfold cntN at this; omega
    have hfb : 0 ≤ x.1.2 ∧ x.1.2 ≤ 256 := by have h1 := x.2.2.1; have h2 := fromTo_bd ss x.1.1; omega
    have hgl : 1 ≤ slen ss x.1.1 ∧ slen ss x.1.1 ≤ 16 := x.2.2.2
    rcases hI.below hB with ⟨_, _, _, rfl⟩ | ⟨b, off, cap', hsl, hcap, hb, hcs⟩
    · exact absurd hk16.2 (by simp)
    · injection hsl with e1 e2 e3
      subst e1 e2 e3
      have hcl : W.cell? ⟨b, off + x.1.1 * 2 + 1, none⟩ = some (.int .i64 (slen ss x.1.1)) := (hcs x.1.1 hk16.2).2
      have hcc0 := hc0.cell 0
      have hcc1 := hc1.cell 0
      have hfz := hc1.frozen 0
      have hki : (x.1.1 : Int) < (ss.length : Int) := by omega
      have HE := veil (endOf_snoc ss (pre.map (·.1)) x.1)
      clear hcs b0 b1 b2 hB0 hs2
      gi_wp2
      refine ⟨KeepsOthers.setCell _ _ _, (Kp.refl _ _ W).setCell (by simp) (by simp) _, ⟨hc0.far (by simp) _, ?_⟩, hB.setCell (by simp) _⟩
      rw [List.map_append, List.map_cons, List.map_nil, HE.out]
      exact hc1.set_ _ _
  case done =>
    rintro D ys W hD hys ⟨⟨_, hc1⟩, hB⟩ hK
    have hcc := hc1.cell 0
    have HY := veil hys
    clear hys
    gi_wp2
    refine ⟨by simp, .inl ⟨_, _, rfl, run_takeDeferred hK, ?_⟩⟩
    refine ⟨_, results_tmp rfl _ _ _, ?_, hB.trans (belowK_b (w := w) (Nat.le_refl _) W D _ _ (by omega) hK rfl rfl)⟩
    show Ending.returned (Value.int .i64 (endOf ss (ys.map (·.1)))) = _
    rw [HY.out, endOf_seq]; rfl
  case stop =>
    rintro D c pre W _ _ h _
    exact h.elim

/-- tick.Cycle -/
theorem cycle_any (a : Option Addr) (len cap : Nat) (ss : List (Int × Int)) (hreach : ss.length * 16 ≤ 140737488351232) (w : World) (hI : Slots w.heap.size w (.slice a len cap) ss) :
    Calls Try.prog 27 #[.slice a len cap] w fun e W' => e = .returned (.int .i64 (cycF ss)) ∧ Below w.heap.size w W' :=
  (callsIn_wide (n := 3)).1 (cycle_in Fence.wide 3 trivial trivial trivial rfl (by omega) a len cap ss hreach w hI)

end Go.Proofs.Ytjjljeepiehpaaa
