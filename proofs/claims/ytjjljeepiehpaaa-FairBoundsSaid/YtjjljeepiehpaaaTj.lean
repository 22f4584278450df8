/- A slice of slots as an argument: what it is as a value. -/
import Derived.Test.YtjjljeepiehpaaaTd
import Derived.Deep.SlicePairs
import Derived.ProofKit
import Derived.OpenShut
import Derived.SizedLaws
namespace Go.Proofs.Ytjjljeepiehpaaa
open Go.RowKit Go.ChangeShapes Go.WideShapes Go.ChangeAt Go.Deep

section
variable {H : Type} {enc : TypeId × Value → H} {w : World} {base : Nat} {spare : Nat → Bool} {held : Bool}
theorem cells49 : Try.prog.cellsOf 49 = 2 := by kernel_rfl
theorem cells3 : Try.prog.cellsOf 3 = 1 := by kernel_rfl
theorem bytes49 : Try.prog.bytesOf 49 = 16 := by kernel_rfl

theorem open_slots {r : Reach} {b0 : Nat} {v : Value} {d : DataW H} {p : List MemPlace} {ts : List TypeId} {ds : List (DataW H)} {j : Nat} (hv : Value.okWide Try.prog w r b0 38 v)
    (hsz : (DataW.weightsEach Try.prog ts ds).all (· ≤ reachBytes) = true) (htj : ts[j]? = some 38) (hdj : ds[j]? = some d) (h : DataW.Trod enc Try.prog w base spare held 38 v d p) :
    ∃ a len cap ss, v = .slice a len cap ∧ ss.length * 16 ≤ 140737488351232 ∧ Slots w.heap.size w (.slice a len cap) ss := by
  obtain ⟨a0, len0, cap0, rfl⟩ := okWide_slice Try.underlying38 hv
  obtain ⟨fuel, hf⟩ := h
  rcases open_slice_pairs Try.underlying38 Try.underlying49 cells49 rfl rfl cells3 cells3 hf with ⟨hcs, _⟩ | ⟨a, len, cap, m, n, V0, V1, D0, D1, P0, P1, hcs, _, hl, _, hm, hx, hi⟩
  · simp [Value.cells] at hcs
    obtain ⟨rfl, rfl, rfl⟩ := hcs
    exact ⟨_, _, _, [], rfl, by simp, .inl ⟨_, _, rfl, rfl⟩⟩
  · simp [Value.cells] at hcs
    obtain ⟨rfl, rfl, rfl⟩ := hcs
    obtain ⟨rfl, _⟩ := Prod.mk.inj hx
    have z := sized_slice hsz htj hdj Try.underlying38
    rw [bytes49] at z
    simp only [List.length_map, List.length_range] at z
    have hlm : len0 ≤ m := by rw [hm]; split <;> omega
    have z2 : len0 * 16 ≤ 140737488351232 := by
      have : reachBytes = 140737488351232 := by kernel_rfl
      omega
    rcases Nat.eq_zero_or_pos len0 with rfl | hpos
    · exact ⟨_, _, _, [], rfl, by simp, .inl ⟨_, _, rfl, rfl⟩⟩
    · have hlist : ((List.range len0).map fun j => (intOf (V0 j), intOf (V1 j))).length = len0 := by simp
      obtain ⟨g0, _⟩ := hi 0 (by omega)
      have ha : a = ⟨a.block, a.off, none⟩ := by
        obtain ⟨b, off, spot⟩ := a
        cases spot with
        | none => rfl
        | some k =>
          simp [Addr.add, World.cell?] at g0
          split at g0 <;> simp at g0
      have hblk : a.block < w.heap.size := by
        have := World.block_lt_of_cell? w _ g0
        simpa [Addr.add] using this
      refine ⟨some a, len0, cap0, (List.range len0).map fun j => (intOf (V0 j), intOf (V1 j)), rfl, by rw [hlist]; exact z2, .inr ⟨a.block, a.off, cap0, by rw [hlist, ← ha], by rw [hlist]; exact hl, hblk, fun j hj => ?_⟩⟩
      rw [hlist] at hj
      obtain ⟨c0, c1, t0, t1⟩ := hi j (by omega)
      obtain ⟨x0, h0, _, _⟩ := DataW.trod_int Try.underlying3 t0
      obtain ⟨x1, h1, _, _⟩ := DataW.trod_int Try.underlying3 t1
      simp only [List.cons.injEq, and_true] at h0 h1
      rw [ha, add_flat] at c0 c1
      rw [List.getElem?_map, List.getElem?_range hj]
      simp only [Option.map_some, Option.getD_some]
      rw [← Nat.add_assoc] at c1
      refine ⟨?_, ?_⟩
      · rw [c0, h0]; rfl
      · rw [c1, h1]; rfl
end

end Go.Proofs.Ytjjljeepiehpaaa
