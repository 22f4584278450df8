/- Two states compared; a statement that draws its order and whose operations make memory but leave what was there: steps in the order of the text. -/
import Derived.Test.YtfohblhaiflaeaaKn
import Derived.Laws.StructEq
import Derived.Deep.QuietTactic
import Derived.BigQuiet
namespace Go.Proofs.Ytfohblhaiflaeaa
open Go.RowKit

def eqFrom (x y : List (BitVec 64)) : List Nat → Bool
  | [] => true
  | i :: l => (lane x i == lane y i) && eqFrom x y l

theorem und22 : Try.prog.underlying 22 = some (.int .u64) := by kernel_rfl
theorem run_part22 (w : World) (s : List (BitVec 64)) (i : Nat) (h : i < s.length) : (part 22 (vals s) (i * 1)).run Try.prog w = .ok (U (lane s i)) w := by
  have hv := vals_get s i h
  have ha : ∀ w, (isAgg 22).run Try.prog w = .ok false w := fun w => by kernel_rfl
  simp [part, ha, hv]

theorem run_eqArr (d : Nat) (x y : List (BitVec 64)) (hx : x.length = 25) (hy : y.length = 25) (w : World) :
    (Op.equalIn (d + 2) 23 (.agg (vals x)) (.agg (vals y))).run Try.prog w = .ok (eqFrom x y (List.range 25)) w := by
  obtain ⟨i0, hi, _, h1, _⟩ := info_parts info22
  have hsz : (sizeOf 22).run Try.prog w = .ok 1 w := by simp [sizeOf, typeInfo, hi, h1]
  rw [Op.equalIn]
  simp only [Sem.run_bind, run_underlying und23, Result.andThen_ok, hsz]
  rw [Std.Legacy.Range.forIn_eq_forIn_range']
  have hr : List.range' ([:25] : Std.Legacy.Range).start ([:25] : Std.Legacy.Range).size ([:25] : Std.Legacy.Range).step = List.range 25 := by rfl
  rw [hr]
  have hin : ∀ i ∈ List.range 25, i < 25 := fun i hi => List.mem_range.1 hi
  generalize List.range 25 = l at hin
  induction l with
  | nil => simp [eqFrom]
  | cons i l ih =>
    have hi' := hin i (List.mem_cons_self)
    simp only [List.forIn_cons, Sem.run_bind, run_part22 w x i (by omega), run_part22 w y i (by omega), Result.andThen_ok, run_equalIn_int w d 22 .u64 .u64 _ _ und22, eqFrom]
    have e : (((lane x i).toNat : Int) == ((lane y i).toNat : Int)) = (lane x i == lane y i) := by
      rw [Bool.eq_iff_iff, beq_iff_eq, beq_iff_eq, Int.ofNat_inj, BitVec.toNat_inj]
    rw [e]
    cases lane x i == lane y i
    · simp
    · simp only [Bool.not_true, Bool.false_eq_true, if_false, Sem.run_pure, Result.andThen_ok, Bool.true_and]
      exact ih (fun j hj => hin j (List.mem_cons_of_mem _ hj))

theorem eqFrom_spec (x y : List (BitVec 64)) (hx : x.length = 25) (hy : y.length = 25) : eqFrom x y (List.range 25) = decide (x = y) := by
  have key : ∀ l : List Nat, eqFrom x y l = true ↔ ∀ i ∈ l, lane x i = lane y i := by
    intro l
    induction l with
    | nil => simp [eqFrom]
    | cons i l ih => simp [eqFrom, ih]
  rw [Bool.eq_iff_iff, key, decide_eq_true_iff]
  constructor
  · intro h
    apply List.ext_getElem (by omega)
    intro i h1 h2
    have := h i (List.mem_range.2 (by omega))
    simpa [lane, List.getD_eq_getElem?_getD, h1, h2] using this
  · rintro rfl i _; rfl

theorem eqIn25 (x y : List (BitVec 64)) (hx : x.length = 25) (hy : y.length = 25) (b : Bool) (hb : decide (x = y) = b) (w : World) :
    (Op.equalIn 10000 23 (.agg (vals x)) (.agg (vals y))).run Try.prog w = .ok b w := by
  rw [run_eqArr 9998 x y hx hy w, eqFrom_spec x y hx hy, hb]
theorem run_eql25 (x y : List (BitVec 64)) (hx : x.length = 25) (hy : y.length = 25) (w : World) :
    (binOp .eql 23 (.agg (vals x)) (.agg (vals y))).run Try.prog w = .ok (.bool (decide (x = y))) w := by
  rw [run_eql_struct, run_eqArr 9998 x y hx hy w, eqFrom_spec x y hx hy]; rfl
theorem run_neq25 (x y : List (BitVec 64)) (hx : x.length = 25) (hy : y.length = 25) (w : World) :
    (binOp .neq 23 (.agg (vals x)) (.agg (vals y))).run Try.prog w = .ok (.bool (!decide (x = y))) w := by
  rw [run_neq_struct, run_eqArr 9998 x y hx hy w, eqFrom_spec x y hx hy]; rfl

section
variable {P : Program} {ops : Array Oper} {C : World → Prop} {Q : Act → Prop} {a : Act} {o : Oper} {rest : List Oper}
theorem q_val (v : Value) (hw : Region.wanted o (yielded ops a.tmps) = true) (hv : ∀ w, C w → (execOp a.eval o).run P w = .ok (.value v) w)
    (h : wpQuiet P ops C Q rest (a.put o.dst v)) : wpQuiet P ops C Q (o :: rest) a := by
  unfold wpQuiet
  rw [if_pos hw]
  exact ⟨v, fun w hC => by unfold Oper.quietAt; rw [hv w hC]; exact ⟨rfl, rfl⟩, h⟩
theorem q_call (v : Value) (f : FuncId) (args : Array Value) (hw : Region.wanted o (yielded ops a.tmps) = true) (hv : ∀ w, (execOp a.eval o).run P w = .ok (.enter f args) w)
    (hc : ∀ w, C w → Calls P f args w fun e w' => e = .returned v ∧ C w') (h : wpQuiet P ops C Q rest (a.put o.dst v)) : wpQuiet P ops C Q (o :: rest) a := by
  unfold wpQuiet
  rw [if_pos hw]
  exact ⟨v, fun w hC => by unfold Oper.quietAt; rw [hv w]; exact ⟨rfl, hc w hC⟩, h⟩
theorem q_pass (hw : Region.wanted o (yielded ops a.tmps) = false) (h : wpQuiet P ops C Q rest (a.put o.dst undef)) : wpQuiet P ops C Q (o :: rest) a := by
  unfold wpQuiet
  rw [if_neg (by rw [hw]; simp)]
  exact h
end

/-- the worlds that have what was there -/
def Up (W w : World) : Prop := Below W.heap.size W w
theorem Up.refl (W : World) : Up W W := Below.refl _ _
theorem Up.drew (W : World) : Up W W.drew := (Below.refl _ _).drew
theorem Up.calls {P : Program} {W w : World} {f : FuncId} {args : Array Value} {v : Value} (hC : Up W w) (h : Calls P f args w fun e w' => e = .returned v ∧ Below w.heap.size w w') :
    Calls P f args w fun e w' => e = .returned v ∧ Up W w' :=
  h.mono fun _ _ ⟨he, hb⟩ => ⟨he, Below.trans hC (hb.mono hC.size)⟩
theorem Up.calls_same {P : Program} {W w : World} {f : FuncId} {args : Array Value} {v : Value} (hC : Up W w) (h : Calls P f args w fun e w' => e = .returned v ∧ w = w') :
    Calls P f args w fun e w' => e = .returned v ∧ Up W w' :=
  h.mono fun _ _ ⟨he, hb⟩ => ⟨he, hb ▸ hC⟩

/-- round n, whatever n -/
def roundI (n : Int) (s : List (BitVec 64)) : List (BitVec 64) := if 0 ≤ n ∧ n < 24 then roundF n.toNat s else s
theorem roundI_len (n : Int) (s : List (BitVec 64)) (hs : s.length = 25) : (roundI n s).length = 25 := by
  unfold roundI; split
  · exact roundF_len _ _
  · exact hs
theorem roundI_in (n : Nat) (h : n < 24) (s : List (BitVec 64)) : roundI (n : Int) s = roundF n s := by
  unfold roundI; rw [if_pos (by omega), Int.toNat_natCast]
theorem roundI_out (n : Int) (h : n < 0 ∨ 24 ≤ n) (s : List (BitVec 64)) : roundI n s = s := by
  unfold roundI; rw [if_neg (by omega)]
theorem roundI_inj (n : Int) (s r : List (BitVec 64)) (hs : s.length = 25) (hr : r.length = 25) (h : roundI n s = roundI n r) : s = r := by
  unfold roundI at h
  split at h
  · exact round_inj _ _ _ hs hr h
  · exact h
theorem roundI_any (n : Int) (s : List (BitVec 64)) (hs : s.length = 25) (w : World) :
    Calls Try.prog 16 #[.agg (vals s), .int .i64 n] w fun e w' => e = .returned (.agg (vals (roundI n s))) ∧ Below w.heap.size w w' := by
  by_cases h : 0 ≤ n ∧ n < 24
  · obtain ⟨k, rfl⟩ := Int.eq_ofNat_of_zero_le h.1
    rw [roundI_in k (by omega)]
    exact round_any k (by omega) s hs w
  · rw [roundI_out n (by omega)]
    exact round_out n (by omega) s hs w
attribute [irreducible] roundI

theorem wp_region_up {P : Program} {id : Nat} {Q : Exit → Act → World → Prop} {a : Act} {W : World} {l : List Oper} (hm : P.follows .mixedOrders = true) (hB : Region.lexB .any l.toArray = true)
    (h : wpQuiet P l.toArray (Up W) (fun a' => ∀ w', Up W w' → Q .normal a' w') l a) : (Code.region id l.toArray true).wp P Q a W :=
  wp_region_quiet (C := Up W) hm hB (Up.drew W) (by simpa using h)

theorem q_built {ops : Array Oper} {C : World → Prop} {Q : Act → Prop} {a : Act} {o : Oper} {rest : List Oper} (t : TypeId) (parts : Array (Nat × Operand)) (vs : List (Nat × Value)) (cs : Array Value)
    (hw : Region.wanted o (yielded ops a.tmps) = true) (ho : o.op = .build t parts) (hp : (parts.map fun ((i, x) : Nat × Operand) => (i, a.eval x)).toList = vs) (hb : Try.prog.built t vs = some cs)
    (h : wpQuiet Try.prog ops C Q rest (a.put o.dst (.agg cs))) : wpQuiet Try.prog ops C Q (o :: rest) a := by
  refine q_val _ hw (fun w _ => ?_) h
  unfold execOp
  have hb' : Try.prog.built t (parts.map fun ((i, x) : Nat × Operand) => (i, a.eval x)).toList = some cs := by rw [hp]; exact hb
  simp only [ho, Sem.run_bind, run_build w t _ cs hb', Result.andThen_ok, Sem.run_pure]

theorem q_ld25 {ops : Array Oper} {W : World} {Q : Act → Prop} {a : Act} {o : Oper} {rest : List Oper} (s : List (BitVec 64)) (hs : s.length = 25) (g : Nat) (hg : Blk W g 23 (vals s)) (x : Operand)
    (hw : Region.wanted o (yielded ops a.tmps) = true) (ho : o.op = .load 23 x) (hx : a.eval x = .pointer (some ⟨g, 0, none⟩))
    (h : wpQuiet Try.prog ops (Up W) Q rest (a.put o.dst (.agg (vals s)))) : wpQuiet Try.prog ops (Up W) Q (o :: rest) a := by
  refine q_val _ hw (fun w hC => ?_) h
  have hg' : Blk w g 23 (vals s) := hg.below hC hg.lt
  unfold execOp
  simp only [ho, hx, Instr.loadAt, Instr.sureAddr, Sem.run_bind, Sem.run_pure, Result.andThen_ok, run_loadVar_row w g 23 23 (vals s) (0, 0) (.array 25 22) hg' und23 rfl (size23 s hs)]

end Go.Proofs.Ytfohblhaiflaeaa
