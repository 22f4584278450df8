/- parcloseref19: turned, bit, turns: what they come to. -/
import Derived.Test.YtfohblhaiflaeaaKf
namespace Go.Proofs.Ytfohblhaiflaeaa
open Go.RowKit

theorem rotl_zero (x : BitVec 64) : rotl x 0 = x := by
  unfold rotl
  have : x >>> (64 - 0) = 0#64 := by
    apply BitVec.eq_of_toNat_eq
    rw [BitVec.toNat_ushiftRight, Nat.shiftRight_eq_div_pow]
    have := x.isLt
    simp [Nat.div_eq_of_lt this]
  rw [this]; simp

set_option maxHeartbeats 400000 in
theorem turned_any (x : BitVec 64) (k : Int) (w : World) (hk0 : 0 ≤ k) (hk : k < 64) :
    Calls Try.prog 58 #[U x, .int .i64 k] w fun e w' => e = .returned (U (rotl x k.toNat)) ∧ w = w' := by
  by_cases h0 : k = 0
  · subst h0
    go_enter Try.func58, Try.ntmps58
    go_wp2
    go_ret
    refine ⟨?_, rfl⟩
    show Ending.returned (U x) = _
    rw [show (0 : Int).toNat = 0 from rfl, rotl_zero]
  · have hb : (k == 0) = false := by simpa using h0
    go_enter Try.func58, Try.ntmps58
    go_wp2
    go_ret
    refine ⟨ret_int ?_, rfl⟩
    rw [shl_num' x _ (by omega), shr_num', or_bv]
    unfold rotl
    rw [show (64 - k).toNat = 64 - k.toNat from by omega]

/-- rc of t -/
def bitF (t : Nat) : BitVec 64 := BitVec.ofNat 64 (lfsr t % 2)
theorem bitF_eq (t : Nat) : bitF t = BitVec.ofNat 64 (lfsr t % 2) := rfl
attribute [irreducible] bitF

set_option maxHeartbeats 400000 in
set_option maxRecDepth 100000 in
theorem bit_any (t : Nat) (ht : t ≤ 1000) (w : World) :
    Calls Try.prog 60 #[.int .i64 t] w fun e w' => e = .returned (U (bitF t)) ∧ w = w' := by
  go_enter Try.func60, Try.ntmps60
  go_wp2
  go_loop [3, 4] (fun r i => ∃ k : Nat, k ≤ t ∧ i = .int .i64 k ∧ r = .int .i64 (lfsr k)) (fun _ i => t - (intOf i).toNat)
  case atStart => exact ⟨0, by omega, rfl, by rw [lfsr_zero]; rfl⟩
  case round =>
    obtain ⟨k, hk, rfl, rfl⟩ := hrel
    have hl := lfsr_lt k
    have H1 := veil (lfsr_succ k)
    by_cases hlt : k < t
    · go_wp2
      all_goals
        go_round
        case rel =>
          refine ⟨k + 1, by omega, by go_num, ?_⟩
          rw [H1.out]
          first
            | (rw [if_pos (by omega), show (2 * (lfsr k : Int)) = ((2 * lfsr k : Nat) : Int) from by omega, show (369 : Int) = ((369 : Nat) : Int) from rfl, i64_xor_nat _ _ (by omega) (by omega)])
            | (rw [if_neg (by omega)]; go_num)
        case measure => simp [intOf]; omega
    · go_wp2
      go_ret
      refine ⟨?_, rfl⟩
      show Ending.returned (Value.int .u64 _) = _
      refine ret_int ?_
      rw [bitF_eq, show k = t from by omega]
      rw [BitVec.toNat_ofNat]
      omega

/-! the table of turns -/
def ivals (l : List Nat) : Array Value := (l.map fun (n : Nat) => Value.int .i64 (n : Int)).toArray
def nlane (l : List Nat) (i : Nat) : Nat := l.getD i 0
theorem ivals_size (s : List Nat) : (ivals s).size = s.length := by simp [ivals]
theorem ivals_get (s : List Nat) (i : Nat) (h : i < s.length) : (ivals s)[i]? = some (.int .i64 (nlane s i : Int)) := by
  simp [ivals, h, nlane]
theorem ivals_set (s : List Nat) (i : Nat) (v : Nat) : (ivals s).setIfInBounds i (.int .i64 (v : Int)) = ivals (s.set i v) := by
  simp [ivals, List.map_set]
theorem ivals_one (s : List Nat) : (ivals s).all (·.oneCell') = true := by
  simp [ivals, Value.oneCell']
theorem size86 (s : List Nat) (hs : s.length = 25) : (Try.prog.info? 86).map (·.size) = some (ivals s).size := by rw [ivals_size, hs]; kernel_rfl
theorem und86 : Try.prog.underlying 86 = some (.array 5 85) := by kernel_rfl
theorem size84 (s : List (BitVec 64)) (hs : s.length = 25) : (Try.prog.info? 84).map (·.size) = some (vals s).size := by rw [vals_size, hs]; kernel_rfl

theorem ld86 {ops : Array Oper} {rest : List Oper} {o : Oper} {a : Act} {w : World} {Q : Exit → Act → World → Prop} (hgd : o.guard = none) (x : Operand) (ho : o.op = .load 86 x)
    (g : Nat) (hx : a.eval x = .pointer (some ⟨g, 0, none⟩)) (s : List Nat) (hs : s.length = 25) (hg : Blk w g 86 (ivals s))
    (h : wpList Try.prog ops Q rest (a.put o.dst (.agg (ivals s))) w) : wpList Try.prog ops Q (o :: rest) a w :=
  wpList_load_row hgd 86 x ho g hx 86 (ivals s) (0, 0) (.array 5 85) hg und86 rfl (size86 s hs) h
theorem st86 {ops : Array Oper} {rest : List Oper} {o : Oper} {a : Act} {w : World} {Q : Exit → Act → World → Prop} (hgd : o.guard = none) (x y : Operand) (ho : o.op = .store 86 x y)
    (g : Nat) (hx : a.eval x = .pointer (some ⟨g, 0, none⟩)) (s old : List Nat) (hs : s.length = 25) (hold : old.length = 25) (hy : a.eval y = .agg (ivals s)) (hg : Blk w g 86 (ivals old))
    (h : wpList Try.prog ops Q rest (a.put o.dst undef) (w.setRow g (ivals s))) : wpList Try.prog ops Q (o :: rest) a w :=
  wpList_store_row hgd 86 x y ho g (ivals s) hx hy 86 (ivals old) hg (size86 s hs) (by rw [ivals_size, ivals_size, hs, hold]) (ivals_one s) h
theorem st84 {ops : Array Oper} {rest : List Oper} {o : Oper} {a : Act} {w : World} {Q : Exit → Act → World → Prop} (hgd : o.guard = none) (x y : Operand) (ho : o.op = .store 84 x y)
    (g : Nat) (hx : a.eval x = .pointer (some ⟨g, 0, none⟩)) (s old : List (BitVec 64)) (hs : s.length = 25) (hold : old.length = 25) (hy : a.eval y = .agg (vals s)) (hg : Blk w g 84 (vals old))
    (h : wpList Try.prog ops Q rest (a.put o.dst undef) (w.setRow g (vals s))) : wpList Try.prog ops Q (o :: rest) a w :=
  wpList_store_row hgd 84 x y ho g (vals s) hx hy 84 (vals old) hg (size84 s hs) (by rw [vals_size, vals_size, hs, hold]) (vals_one s) h
theorem res86 {fn : Func} {p : Tmp} (h : fn.results = #[.cell p 86]) (tmps : Array Value) (w : World) (g : Nat) (s : List Nat) (hs : s.length = 25)
    (hp : tmps.getD p undef = .pointer (some ⟨g, 0, none⟩)) (hg : Blk w g 86 (ivals s)) : (results fn tmps).run Try.prog w = .ok (.agg (ivals s)) w :=
  results_cell_row h tmps w g 86 (ivals s) (0, 0) (.array 5 85) hp hg und86 rfl (size86 s hs)
theorem built86 : Try.prog.built 86 [] = some (ivals (List.replicate 25 0)) := by kernel_rfl
theorem bld86 {ops : Array Oper} {rest : List Oper} {o : Oper} {a : Act} {w : World} {Q : Exit → Act → World → Prop} (hg : o.guard = none) (ho : o.op = .build 86 #[])
    (h : wpList Try.prog ops Q rest (a.put o.dst (.agg (ivals (List.replicate 25 0)))) w) : wpList Try.prog ops Q (o :: rest) a w := by
  have e : (#[].map fun ((i, x) : Nat × Operand) => (i, a.eval x)).toList = [] := by simp
  refine wpList_build hg 86 #[] ho ?_ ?_
  · rw [e, built86]; rfl
  · rw [e, built86]; exact h
theorem built84 : Try.prog.built 84 [] = some (vals (zeros 25)) := by kernel_rfl
theorem bld84 {ops : Array Oper} {rest : List Oper} {o : Oper} {a : Act} {w : World} {Q : Exit → Act → World → Prop} (hg : o.guard = none) (ho : o.op = .build 84 #[])
    (h : wpList Try.prog ops Q rest (a.put o.dst (.agg (vals (zeros 25)))) w) : wpList Try.prog ops Q (o :: rest) a w := by
  have e : (#[].map fun ((i, x) : Nat × Operand) => (i, a.eval x)).toList = [] := by simp
  refine wpList_build hg 84 #[] ho ?_ ?_
  · rw [e, built84]; rfl
  · rw [e, built84]; exact h
theorem built23z : Try.prog.built 23 [] = some (vals (zeros 25)) := by kernel_rfl
theorem bld23z {ops : Array Oper} {rest : List Oper} {o : Oper} {a : Act} {w : World} {Q : Exit → Act → World → Prop} (hg : o.guard = none) (ho : o.op = .build 23 #[])
    (h : wpList Try.prog ops Q rest (a.put o.dst (.agg (vals (zeros 25)))) w) : wpList Try.prog ops Q (o :: rest) a w := by
  have e : (#[].map fun ((i, x) : Nat × Operand) => (i, a.eval x)).toList = [] := by simp
  refine wpList_build hg 23 #[] ho ?_ ?_
  · rw [e, built23z]; rfl
  · rw [e, built23z]; exact h
theorem zeros_len (n : Nat) : (zeros n).length = n := by simp [zeros]
def nzeros (n : Nat) : List Nat := List.replicate n 0
theorem nzeros_len (n : Nat) : (nzeros n).length = n := by simp [nzeros]

structure Tu where
  x : Nat
  y : Nat
  out : List Nat
def tuS (t : Nat) (m : Tu) : Tu := { x := m.y, y := (2 * m.x + 3 * m.y) % 5, out := m.out.set (m.x * 5 + m.y) ((t + 1) * (t + 2) / 2 % 64) }
def tuOf (k : Nat) : Tu := loopN tuS k { x := 1, y := 0, out := nzeros 25 }
theorem tuOf_zero : tuOf 0 = { x := 1, y := 0, out := nzeros 25 } := rfl
theorem tuOf_succ (k : Nat) : tuOf (k + 1) = tuS k (tuOf k) := rfl
theorem tuOf_ok : ∀ k, (tuOf k).x < 5 ∧ (tuOf k).y < 5 ∧ (tuOf k).out.length = 25
  | 0 => by simp [tuOf_zero, nzeros]
  | k + 1 => by
    have h := tuOf_ok k
    rw [tuOf_succ]
    exact ⟨h.2.1, Nat.mod_lt _ (by omega), by simp only [tuS, List.length_set]; exact h.2.2⟩
def tuF : List Nat := (tuOf 24).out
theorem tuF_eq : tuF = (tuOf 24).out := rfl
theorem tuF_tab : tuF = [0, 36, 3, 41, 18, 1, 44, 10, 45, 2, 62, 6, 43, 15, 61, 28, 55, 25, 21, 56, 27, 20, 39, 8, 14] := by decide +kernel
attribute [irreducible] tuOf tuF

set_option maxHeartbeats 1000000 in
set_option maxRecDepth 100000 in
theorem turns_any (w : World) :
    Calls Try.prog 59 #[] w fun e w' => e = .returned (.agg (ivals tuF)) ∧ Below w.heap.size w w' := by
  go_enter Try.func59, Try.ntmps59
  go_wp2_with (first
    | ((with_reducible refine bld86 (o := ⟨some 6, _, _, _, _, _⟩) ?_ ?_ ?_); rfl; rfl; change wpList _ _ _ _ (Act.put _ _ (Value.agg (ivals (nzeros 25)))) _; simp only [Act.put, List.setIfInBounds_toArray, List.set_cons_zero, List.set_cons_succ])
    | ((with_reducible refine st86 (o := ⟨none, _, _, _, _, _⟩) ?_ (.tmp 1) (.tmp 6) ?_ (w.heap.size + 1) ?_ (nzeros 25) (nzeros 25) (nzeros_len 25) (nzeros_len 25) ?_ ?_ ?_); rfl; rfl; rfl; rfl; exact heap_a2_1 _ _ _; simp only [Act.put]))
  go_loopw [2, 3, 4] (fun v2 v3 i wr => ∃ (k x y : Nat) (out : List Nat), k ≤ 24 ∧ i = .int .i64 k ∧ Veil (tuOf k = ⟨x, y, out⟩) ∧ v2 = .int .i64 x ∧ v3 = .int .i64 y ∧ Blk wr w.heap.size 86 (ivals (nzeros 25)) ∧ Blk wr (w.heap.size + 1) 86 (ivals out) ∧ Below w.heap.size w wr) (fun _ _ i _ => 24 - (intOf i).toNat)
  case atStart =>
    refine ⟨0, 1, 0, nzeros 25, by omega, rfl, veil tuOf_zero, rfl, rfl, Blk.setRow_far (heap_a2_0 _ _ _) _ (by omega), Blk.setRow_same (heap_a2_1 _ _ _) _, ?_⟩
    exact Below.setRow_ (((Below.refl _ _).alloc (Nat.le_refl _) _).alloc (by simp) _) (by omega) _
  case round =>
    obtain ⟨k, x, y, out, hk, rfl, HM, rfl, rfl, h0, h1, hb⟩ := hrel
    by_cases hlt : k < 24
    · obtain ⟨bx, by_, hol⟩ : x < 5 ∧ y < 5 ∧ out.length = 25 := by
        have hok := tuOf_ok k
        rw [HM.out] at hok
        exact hok
      have hf := h1.frozen (x * 5 + y)
      have hc1 := h1.cell (x * 5 + y)
      rw [ivals_get _ _ (by omega)] at hc1
      obtain ⟨p, q, r, hr, f1, f2, f3, br⟩ := turn_num k hlt
      have hsucc := tuOf_succ k
      rw [HM.out, tuS] at hsucc
      simp only [] at hsucc
      rw [← hr] at hsucc
      have H := veil hsucc
      have HY := veil (ny_num x y)
      have hol' := veil hol
      clear hsucc hr hol
      go_wp2_with fail
      go_roundw
      case rel =>
        refine ⟨k + 1, y, (2 * x + 3 * y) % 5, out.set (x * 5 + y) r, by omega, by go_num, H, rfl, by rw [HY.out], h0.far (by simp) _, ?_, hb.setCell (by simp) _⟩
        rw [← ivals_set]
        exact h1.set_ _ _
      case measure => simp [intOf]; omega
    · have hk' : k = 24 := by omega
      subst hk'
      have hsl : out.length = 25 := by
        have hok := tuOf_ok 24
        rw [HM.out] at hok
        exact hok.2.2
      have hfin : tuF = out := by rw [tuF_eq, HM.out]
      have HF := veil hfin
      have HL := veil hsl; clear hsl hfin
      go_wp2_with (first
        | ((with_reducible refine ld86 (o := ⟨some 30, _, _, _, _, _⟩) ?_ (.tmp 1) ?_ (w.heap.size + 1) ?_ out HL.out h1 ?_); rfl; rfl; rfl; simp only [Act.put, List.setIfInBounds_toArray, List.set_cons_zero, List.set_cons_succ])
        | ((with_reducible refine st86 (o := ⟨none, _, _, _, _, _⟩) ?_ (.tmp 0) (.tmp 30) ?_ w.heap.size ?_ out (nzeros 25) HL.out (nzeros_len 25) ?_ h0 ?_); rfl; rfl; rfl; rfl; simp only [Act.put]))
      refine bodyPost_ret (res86 rfl _ _ w.heap.size out HL.out rfl (h0.setRow_same _)) rfl ⟨by rw [HF.out], Below.setRow_ hb (by omega) _⟩

end Go.Proofs.Ytfohblhaiflaeaa
