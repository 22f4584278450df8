/- tick.Add, fair.times, fair.Share by the printed texts; fair.Over, fair.Gap, fair.Bound: what they come to. -/
import Derived.Test.YtjjljeepiehpaaaTc
import Derived.Test.YtjjljeepiehpaaaFb1
import Derived.Shelf.Bits.Mul64
namespace Go.Proofs.Ytjjljeepiehpaaa
open Go.RowKit Go.Shelf Go.Proofs.YtjjljeepiehpaaaW.PrintWords
attribute [local go_sem] Oper.semAt_some

theorem add_flat (b off n : Nat) : (⟨b, off, none⟩ : Addr).add n = ⟨b, off + n, none⟩ := by
  unfold Addr.add
  split
  · rename_i h; subst h; rfl
  · rfl

abbrev s49 (ss : List (Int × Int)) : List PFairBounds.S49 := ss.map fun p => ⟨p.1, p.2⟩
theorem kd_of_slots {n₀ : Nat} {W : World} {a : Option Addr} {len cap : Nat} {ss : List (Int × Int)} (hreach : ss.length * 16 ≤ 140737488351232) (h : Slots n₀ W (.slice a len cap) ss) :
    len = (s49 ss).length ∧ len ≤ cap ∧ Kd.C PFairBounds.k49 W a (s49 ss).length (s49 ss) := by
  rcases h with ⟨a', cap', e, rfl⟩ | ⟨b, off, cap', e, hc, _, hs⟩
  · injection e with e1 e2 e3
    subst e1 e2 e3
    exact ⟨rfl, Nat.zero_le _, rfl, by simp, fun h => absurd h (by simp)⟩
  · injection e with e1 e2 e3
    subst e1 e2 e3
    refine ⟨by simp, hc, rfl, by simp; omega, fun _ => ⟨_, rfl, fun j p hj => ?_⟩⟩
    have hj' : j < ss.length := by
      have := (List.getElem?_eq_some_iff.1 hj).1
      simpa using this
    obtain ⟨h1, h2⟩ := hs j hj'
    have hp : p = ⟨(ss[j]?.getD (0, 0)).1, (ss[j]?.getD (0, 0)).2⟩ := by
      rw [List.getElem?_map, List.getElem?_eq_getElem hj'] at hj
      rw [List.getElem?_eq_getElem hj']
      simpa using hj.symm
    subst hp
    refine ⟨_, rfl, PFairBounds.k49_mk _ _, fun i u hu => ?_⟩
    match i with
    | 0 => 
      have : u = .int .i64 (ss[j]?.getD (0, 0)).1 := by simpa using hu.symm
      subst this
      rw [← h1, add_flat]; rfl
    | 1 => 
      have : u = .int .i64 (ss[j]?.getD (0, 0)).2 := by simpa using hu.symm
      subst this
      rw [← h2, add_flat]; rfl
    | k + 2 => simp at hu

def addF (t d : Int) : Int := heldF t + max 0 (min d (4611686018427387904 - heldF t))
theorem addF_bd (t d : Int) : 0 ≤ addF t d ∧ addF t d ≤ 4611686018427387904 := by have := heldF_bd t; unfold addF; omega
theorem add_f (t d : Int) : PFairBounds.tick_Add.f t d = some (addF t d) := by
  unfold PFairBounds.tick_Add.f PFairBounds.tick_held.f
  have h := heldF_bd t
  have h1 : mx 0 (mn t 4611686018427387904) = heldF t := by unfold mx mn heldF; split <;> split <;> omega
  rw [h1]
  simp only [Option.bind_some, Option.some.injEq]
  unfold mx mn addF wrap64
  omega
theorem add_any (t d : Int) (w : World) : Calls Try.prog 40 #[.int .i64 t, .int .i64 d] w fun e w' => e = .returned (.int .i64 (addF t d)) ∧ Below w.heap.size w w' :=
  PFairBounds.tick_Add.calls t d _ w (add_f t d)

def timesF (a b : Int) : Int := min (max a 0 * max b 0) 4611686018427387904
theorem timesF_bd (a b : Int) : 0 ≤ timesF a b ∧ timesF a b ≤ 4611686018427387904 := by
  have : 0 ≤ max a 0 * max b 0 := Int.mul_nonneg (by omega) (by omega)
  unfold timesF; omega
theorem mul64_f (x y : Nat) (hx : x < 18446744073709551616) (hy : y < 18446744073709551616) :
    PFairBounds.bits_Mul64.f x y = some (((x * y / 18446744073709551616 : Nat) : Int), ((x * y % 18446744073709551616 : Nat) : Int)) := by
  obtain ⟨bd, bt, bw, hhi⟩ := Lib.mul64_hi x y hx hy
  have ba := Lib.half_mul_le (a := x / 4294967296) (b := y / 4294967296) (by omega) (by omega)
  have bb := Lib.half_mul_le (a := x / 4294967296) (b := y % 4294967296) (by omega) (by omega)
  have bc := Lib.half_mul_le (a := x % 4294967296) (b := y / 4294967296) (by omega) (by omega)
  have ba' : x / 4294967296 * (y / 4294967296) < 18446744073709551616 := by omega
  have bb' : x / 4294967296 * (y % 4294967296) < 18446744073709551616 := by omega
  have bc' : x % 4294967296 * (y / 4294967296) < 18446744073709551616 := by omega
  have bh1 : x / 4294967296 * (y / 4294967296) + (x / 4294967296 * (y % 4294967296) + x % 4294967296 * (y % 4294967296) / 4294967296) / 4294967296 < 18446744073709551616 := by omega
  have bh : x / 4294967296 * (y / 4294967296) + (x / 4294967296 * (y % 4294967296) + x % 4294967296 * (y % 4294967296) / 4294967296) / 4294967296 + ((x / 4294967296 * (y % 4294967296) + x % 4294967296 * (y % 4294967296) / 4294967296) % 4294967296 + x % 4294967296 * (y / 4294967296)) / 4294967296 < 18446744073709551616 := by omega
  unfold PFairBounds.bits_Mul64.f
  simp only [Mul64.maskN x hx, Mul64.maskN y hy, Mul64.divN, Mul64.mulN, Mul64.addN, Mul64.wrapN _ bd, Mul64.wrapN _ bb', Mul64.wrapN _ bt, Mul64.maskN _ bt, Mul64.wrapN _ bc', Mul64.wrapN _ bw, Mul64.wrapN _ ba', Mul64.wrapN _ bh1, Mul64.wrapN _ bh, Mul64.wrapM]
  rw [hhi]
theorem times_f (a b : Int) (ha : a ≤ 9223372036854775807) (hb : b ≤ 9223372036854775807) : PFairBounds.fair_times.f a b = some (timesF a b) := by
  unfold PFairBounds.fair_times.f
  have h1 : ∀ a : Int, a ≤ 9223372036854775807 → IntKind.u64.wrap (mx a 0) = ((max a 0).toNat : Int) := fun a h => by
    rw [IntKind.wrap_u64]; unfold mx; split <;> omega
  rw [h1 a ha, h1 b hb, mul64_f _ _ (by omega) (by omega)]
  obtain ⟨x, hx⟩ : ∃ x : Nat, x = (max a 0).toNat := ⟨_, rfl⟩
  obtain ⟨y, hy⟩ : ∃ y : Nat, y = (max b 0).toNat := ⟨_, rfl⟩
  have hz : max a 0 * max b 0 = ((x * y : Nat) : Int) := by rw [Int.natCast_mul]; congr 1 <;> omega
  unfold timesF
  rw [hz, ← hx, ← hy]
  obtain ⟨z, hz2⟩ : ∃ z : Nat, z = x * y := ⟨_, rfl⟩
  rw [← hz2]
  simp only [Option.bind_some]
  unfold wrap64
  split
  · simp only [Option.some.injEq]; omega
  · split
    · simp only [Option.some.injEq]; omega
    · simp only [Option.some.injEq]; omega
theorem times_any (a b : Int) (ha : a ≤ 9223372036854775807) (hb : b ≤ 9223372036854775807) (w : World) : Calls Try.prog 43 #[.int .i64 a, .int .i64 b] w fun e w' => e = .returned (.int .i64 (timesF a b)) ∧ Below w.heap.size w w' :=
  PFairBounds.fair_times.calls a b _ w (times_f a b ha hb)

end Go.Proofs.Ytjjljeepiehpaaa
