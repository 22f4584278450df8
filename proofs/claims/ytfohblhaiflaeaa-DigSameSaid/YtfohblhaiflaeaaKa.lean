/- keccak.at and RotateLeft64: what they come to. -/
import Derived.Test.YtfohblhaiflaeaaProg
import Derived.Test.YtfohblhaiflaeaaBits
namespace Go.Proofs.Ytfohblhaiflaeaa
open Go.RowKit

/-- turned to the left -/
def rotl (x : BitVec 64) (n : Nat) : BitVec 64 := x <<< n ||| x >>> (64 - n)

set_option maxHeartbeats 400000 in
theorem at_any (x y : Int) (w : World) (hx0 : 0 ≤ x) (hx : x ≤ 100) (hy0 : 0 ≤ y) (hy : y ≤ 100) :
    Calls Try.prog 53 #[.int .i64 x, .int .i64 y] w fun e w' => e = .returned (.int .i64 (x % 5 + 5 * (y % 5))) ∧ w = w' := by
  go_enter Try.func53, Try.ntmps53
  go_wp2
  go_ret
  exact ⟨rfl, rfl⟩

set_option maxHeartbeats 400000 in
theorem rot_any (x : BitVec 64) (k : Int) (w : World) (hk0 : 0 ≤ k) (hk : k < 64) :
    Calls Try.prog 54 #[U x, .int .i64 k] w fun e w' => e = .returned (U (rotl x k.toNat)) ∧ w = w' := by
  have h63 := and63 k hk0 hk
  go_enter Try.func54, Try.ntmps54
  go_wp2
  go_ret
  refine ⟨ret_int ?_, rfl⟩
  rw [shl_num' x _ (by omega), shr_num', or_bv]
  unfold rotl
  rw [show (64 - k).toNat = 64 - k.toNat from by omega]

theorem at_nat (n : Nat) (x y : Int) (w : World) (hx0 : 0 ≤ x) (hx : x ≤ 100) (hy0 : 0 ≤ y) (hy : y ≤ 100) (hn : (n : Int) = x % 5 + 5 * (y % 5)) :
    Calls Try.prog 53 #[.int .i64 x, .int .i64 y] w fun e w' => e = .returned (.int .i64 (n : Int)) ∧ w = w' := by
  rw [hn]; exact at_any x y w hx0 hx hy0 hy

theorem vals_one (s : List (BitVec 64)) : (vals s).all (·.oneCell') = true := by
  simp [vals, Value.oneCell']
theorem size23 (s : List (BitVec 64)) (hs : s.length = 25) : (Try.prog.info? 23).map (·.size) = some (vals s).size := by rw [vals_size, hs]; kernel_rfl
theorem und23 : Try.prog.underlying 23 = some (.array 25 22) := by kernel_rfl

/-- a whole state is read -/
theorem ld25 {ops : Array Oper} {rest : List Oper} {o : Oper} {a : Act} {w : World} {Q : Exit → Act → World → Prop} (hgd : o.guard = none) (x : Operand) (ho : o.op = .load 23 x)
    (g : Nat) (hx : a.eval x = .pointer (some ⟨g, 0, none⟩)) (s : List (BitVec 64)) (hs : s.length = 25) (hg : Blk w g 23 (vals s))
    (h : wpList Try.prog ops Q rest (a.put o.dst (.agg (vals s))) w) : wpList Try.prog ops Q (o :: rest) a w :=
  wpList_load_row hgd 23 x ho g hx 23 (vals s) (0, 0) (.array 25 22) hg und23 rfl (size23 s hs) h

/-- a whole state is written -/
theorem st25 {ops : Array Oper} {rest : List Oper} {o : Oper} {a : Act} {w : World} {Q : Exit → Act → World → Prop} (hgd : o.guard = none) (x y : Operand) (ho : o.op = .store 23 x y)
    (g : Nat) (hx : a.eval x = .pointer (some ⟨g, 0, none⟩)) (s old : List (BitVec 64)) (hs : s.length = 25) (hold : old.length = 25) (hy : a.eval y = .agg (vals s)) (hg : Blk w g 23 (vals old))
    (h : wpList Try.prog ops Q rest (a.put o.dst undef) (w.setRow g (vals s))) : wpList Try.prog ops Q (o :: rest) a w :=
  wpList_store_row hgd 23 x y ho g (vals s) hx hy 23 (vals old) hg (size23 s hs) (by rw [vals_size, vals_size, hs, hold]) (vals_one s) h

/-- a state as a result -/
theorem res25 {fn : Func} {p : Tmp} (h : fn.results = #[.cell p 23]) (tmps : Array Value) (w : World) (g : Nat) (s : List (BitVec 64)) (hs : s.length = 25)
    (hp : tmps.getD p undef = .pointer (some ⟨g, 0, none⟩)) (hg : Blk w g 23 (vals s)) : (results fn tmps).run Try.prog w = .ok (.agg (vals s)) w :=
  results_cell_row h tmps w g 23 (vals s) (0, 0) (.array 25 22) hp hg und23 rfl (size23 s hs)

end Go.Proofs.Ytfohblhaiflaeaa
